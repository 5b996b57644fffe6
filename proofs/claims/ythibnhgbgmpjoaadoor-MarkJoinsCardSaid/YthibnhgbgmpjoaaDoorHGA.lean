/- The walks of package cursor's and its reference's functions on numbers. -/
import Derived.Test.YthibnhgbgmpjoaaDoorHBase
import Derived.Laws.BytesArg
namespace Go.Proofs.YthibnhgbgmpjoaaDoor
open Go.RowKit
set_option linter.unusedSimpArgs false
set_option linter.unusedVariables false
/-- The number of bytes, the highest first. -/
def numL (l : List UInt8) : Int := l.foldl (fun (a : Int) (b : UInt8) => a * 256 + b.toNat) 0
theorem numL_snoc (l : List UInt8) (c : UInt8) : numL (l ++ [c]) = numL l * 256 + c.toNat := by simp [numL, List.foldl_append]
theorem numL_bd (l : List UInt8) : 0 ≤ numL l ∧ numL l < 256 ^ l.length := by
  have H : ∀ m (l : List UInt8), l.length = m → 0 ≤ numL l ∧ numL l < 256 ^ m := by
    intro m
    induction m with
    | zero =>
      intro l hl
      obtain rfl := List.eq_nil_of_length_eq_zero hl
      simp [numL]
    | succ m ih =>
      intro l hl
      have hne : l ≠ [] := by intro e; subst e; simp at hl
      have e := List.dropLast_concat_getLast hne
      have h1 := ih l.dropLast (by rw [List.length_dropLast]; omega)
      rw [← e, numL_snoc]
      have hc : ((l.getLast hne).toNat : Int) < 256 := by have := (l.getLast hne).toNat_lt; omega
      rw [Int.pow_succ]
      omega
  exact H _ l rfl
theorem pow_cast (k : Nat) : (256 : Int) ^ k = ((256 ^ k : Nat) : Int) := by
  induction k with
  | zero => rfl
  | succ k ih => rw [Int.pow_succ, Nat.pow_succ, ih]; omega
theorem numL_lt (l : List UInt8) (m : Nat) (h : l.length ≤ m) : numL l < 256 ^ m := by
  have h1 := (numL_bd l).2
  have h2 := Nat.pow_le_pow_right (n := 256) (by omega) h
  rw [pow_cast] at h1 ⊢
  exact Int.lt_of_lt_of_le h1 (Int.ofNat_le.2 h2)
theorem ofInt_i64 (a : Nat) (ha : a < 9223372036854775808) : (BitVec.ofInt 64 (a : Int)).toNat = a := by
  rw [BitVec.ofInt_natCast, BitVec.toNat_ofNat]; exact Nat.mod_eq_of_lt (by omega)
theorem i64_or_nat (a b : Nat) (ha : a < 9223372036854775808) (hb : b < 9223372036854775808) : bits .or .i64 (a : Int) (b : Int) = ((a ||| b : Nat) : Int) := by
  have hx : a ||| b < 2 ^ 63 := Nat.or_lt_two_pow (by omega) (by omega)
  show IntKind.i64.wrap ((BitVec.ofInt 64 (a : Int) ||| BitVec.ofInt 64 (b : Int)).toNat : Int) = _
  rw [BitVec.toNat_or, ofInt_i64 a ha, ofInt_i64 b hb, IntKind.wrap_i64]
  omega
theorem or_byte (x b : Int) (h0 : 0 ≤ x) (h1 : x < 4294967296) (b0 : 0 ≤ b) (b1 : b < 256) : bits .or .i64 (wrap64 (x * 256)) (wrap64 b) = x * 256 + b := by
  obtain ⟨a, rfl⟩ := Int.eq_ofNat_of_zero_le h0
  obtain ⟨c, rfl⟩ := Int.eq_ofNat_of_zero_le b0
  have e1 : wrap64 ((a : Int) * 256) = ((a * 256 : Nat) : Int) := by unfold wrap64; omega
  have e2 : wrap64 (c : Int) = (c : Int) := by unfold wrap64; omega
  rw [e1, e2, i64_or_nat _ _ (by omega) (by omega)]
  have e3 : a * 256 ||| c = a * 256 + c := by
    have h := (Nat.shiftLeft_add_eq_or_of_lt (show c < 2 ^ 8 by omega) a).symm
    rw [Nat.shiftLeft_eq] at h
    exact h
  rw [e3]
  omega
theorem take_snoc (s : ByteArray) (k : Nat) (h : k < s.size) : s.data.toList.take (k + 1) = s.data.toList.take k ++ [s[k]] := by
  rw [List.take_succ_eq_append_getElem (by simpa using h)]; rfl
theorem sized_walk (n : Int) (w : World) :
    Calls Tryd.prog 50 #[.int .i64 n] w fun e w' => e = .returned (.bool (decide (1 ≤ n ∧ n ≤ 4))) ∧ w = w' := by
  by_cases h1 : 1 ≤ n
  · by_cases h2 : n ≤ 4
    · go_enter Tryd.func50, Tryd.ntmps50
      go_wp2
      go_ret
      exact ⟨by simp [h1, h2], rfl⟩
    · go_enter Tryd.func50, Tryd.ntmps50
      go_wp2
      go_ret
      exact ⟨by simp [h1, h2], rfl⟩
  · go_enter Tryd.func50, Tryd.ntmps50
    go_wp2
    go_ret
    exact ⟨by simp; omega, rfl⟩
set_option maxHeartbeats 400000 in
theorem number_walk (s : ByteArray) (hs : s.size ≤ 4) (w : World) :
    Calls Tryd.prog 64 #[.string s] w fun e w' => e = .returned (.int .i64 (numL s.data.toList)) ∧ w = w' := by
  go_enter Tryd.func64, Tryd.ntmps64
  go_wp2
  go_loop [3, 7] (fun n i => ∃ k : Nat, k ≤ s.size ∧ i = .int .i64 k ∧ n = .int .i64 (numL (s.data.toList.take k))) (fun _ i => s.size - (intOf i).toNat)
  case atStart => exact ⟨0, Nat.zero_le _, rfl, rfl⟩
  case round =>
    obtain ⟨k, hk, rfl, rfl⟩ := hrel
    have hb := numL_bd (s.data.toList.take k)
    by_cases hlt : k < s.size
    · have hsn := Lib.hid (numL_snoc (s.data.toList.take k) s[k])
      have hts := Lib.hid (take_snoc s k hlt)
      have h3 : numL (s.data.toList.take k) < 256 ^ 3 := numL_lt _ _ (by simp; omega)
      obtain ⟨x, hx⟩ : ∃ x, x = numL (s.data.toList.take k) := ⟨_, rfl⟩
      rw [← hx] at hb h3 ⊢
      have hor := Lib.hid (or_byte x s[k].toNat hb.1 (by omega) (by omega) (by have := s[k].toNat_lt; omega))
      clear hb
      have Hx := Lib.hid hx
      clear hx
      go_wp2
      refine ⟨⟨k + 1, by omega, by go_num, ?_⟩, by simp [intOf]; omega⟩
      rw [hts.out, hsn.out, hor.out, Hx.out]
    · obtain rfl : k = s.size := by omega
      have hf := Lib.hid (show s.data.toList.take s.size = s.data.toList from List.take_of_length_le (by rw [Array.length_toList]; exact Nat.le_refl _))
      clear hb
      go_wp2
      go_ret
      exact ⟨by rw [hf.out]; rfl, rfl⟩
/-! ### A number's bytes -/
def byL (n : Int) : Nat → List UInt8
  | 0 => []
  | k + 1 => byL (n / 256) k ++ [UInt8.ofNat (n % 256).toNat]
/-- The same, told from the front. -/
def byI (n : Int) : Nat → List Int
  | 0 => []
  | k + 1 => (n / 256 ^ k) % 256 :: byI n k
theorem byI_length (n : Int) (k : Nat) : (byI n k).length = k := by induction k with
  | zero => rfl
  | succ k ih => simp [byI, ih]
theorem byL_length (n : Int) (k : Nat) : (byL n k).length = k := by
  induction k generalizing n with
  | zero => rfl
  | succ k ih => simp [byL, ih]
theorem byI_back (n : Int) (k : Nat) : byI n (k + 1) = byI (n / 256) k ++ [n % 256] := by
  induction k with
  | zero => simp [byI]
  | succ k ih =>
    rw [byI, ih]
    have e : n / 256 ^ (k + 1) = n / 256 / 256 ^ k := by rw [Int.pow_succ, Int.mul_comm, Int.ediv_ediv_of_nonneg (by omega)]
    simp [byI, e]
theorem byI_byL (n : Int) (k : Nat) : (byI n k).map (fun z => UInt8.ofNat z.toNat) = byL n k := by
  induction k generalizing n with
  | zero => rfl
  | succ k ih => rw [byI_back, List.map_append, ih]; rfl
end Go.Proofs.YthibnhgbgmpjoaaDoor
namespace Go.Proofs.YthibnhgbgmpjoaaDoor
open Go.RowKit
set_option linter.unusedSimpArgs false
set_option linter.unusedVariables false
/-- A list of integers as a block's cells. -/
def cellsU (l : List Int) : Array Value := (l.map (Value.int .u8)).toArray
theorem cellsU_get (l : List Int) (i : Nat) (h : i < l.length) : (cellsU l)[i]? = some (.int .u8 (l.getD i 0)) := by
  simp [cellsU, h]
theorem cellsU_set (l : List Int) (i : Nat) (x : Int) : (cellsU l).setIfInBounds i (.int .u8 x) = cellsU (l.set i x) := by
  simp [cellsU]
theorem conv_U {w : World} {g : Nat} {l : List Int} {c n : Nat} (h : Blk w g 5 (cellsU l)) (hn : l.length = n) :
    (convert 71 9 (.slice (some ⟨g, 0, none⟩) n c)).run Tryd.prog w = .ok (.string ⟨(l.map (fun z => UInt8.ofNat z.toNat)).toArray⟩) w :=
  run_convert_bytes_arg w 71 5 Tryd.underlying71 Tryd.underlying5 g 0 n c l hn (fun i hi => by rw [Nat.zero_add, h.cell, cellsU_get l i (by omega)]) 9 Tryd.underlying9
theorem make_U (m : Nat) (hm : m ≤ 1000000) (W : World) : (Instr.makeSlice 71 (.int .i64 (m : Int)) (.int .i64 (m : Int))).run Tryd.prog W = .ok (.slice (some ⟨W.heap.size, 0, none⟩) m m) (W.alloc (.cells (cellsU (List.replicate m 0)) 5)) := by
  obtain ⟨i, hi⟩ := Option.isSome_iff_exists.1 (show (Tryd.prog.info? 5).isSome = true by kernel_rfl)
  have h3 : (Tryd.prog.info? 5).map (fun i => (i.zero, i.size, i.bytes)) = some (some (.int .u8 0), 1, 1) := by kernel_rfl
  rw [hi] at h3
  simp only [Option.map_some, Option.some.injEq, Prod.mk.injEq] at h3
  obtain ⟨hz, hs, hb⟩ := h3
  rw [run_make W 71 5 i (.int .u8 0) Tryd.underlying71 hi hz .i64 .i64 m m (by omega) (by omega) (by rw [hb]; omega) (by omega)]
  have e : madeCells (Value.int .u8 0).cells ((m : Int).toNat * i.size) = cellsU (List.replicate m 0) := by
    rw [hs]
    apply Array.ext_getElem?
    intro j
    by_cases hj : j < m
    · rw [cellsU_get _ _ (by simpa using hj)]
      simp [madeCells, hj, Value.cells, Nat.mod_one]
    · rw [Array.getElem?_eq_none (by simp [madeCells]; omega), Array.getElem?_eq_none (by simp [cellsU]; omega)]
  rw [e]
  simp
theorem two_pow (k : Nat) : (2 : Int) ^ (8 * k) = 256 ^ k := by
  rw [Int.pow_mul]; rfl
theorem set_front (n : Int) (m k : Nat) (hk : k < m) : (List.replicate (m - k) 0 ++ byI n k).set (m - 1 - k) ((n / 256 ^ k) % 256) = List.replicate (m - (k + 1)) 0 ++ byI n (k + 1) := by
  obtain ⟨d, hd⟩ : ∃ d, m - k = d + 1 := ⟨m - k - 1, by omega⟩
  have e1 : m - 1 - k = d := by omega
  have e2 : m - (k + 1) = d := by omega
  rw [hd, e1, e2, List.replicate_succ']
  simp [byI]
set_option maxHeartbeats 800000 in
theorem put_ok (n : Int) (m : Nat) (h1 : 1 ≤ m) (h4 : m ≤ 4) (h0 : 0 ≤ n) (hn : n < 256 ^ m) (w : World) :
    Calls Tryd.prog 24 #[.int .i64 n, .int .i64 m] w fun e w' => e = .returned (.tuple #[.string ⟨(byL n m).toArray⟩, .int .i64 0]) ∧ Below w.heap.size w w' := by
  have hd : decide (1 ≤ (m : Int) ∧ (m : Int) ≤ 4) = true := by simp; omega
  have hmk := make_U m (by omega)
  have hq : n / 2 ^ (8 * m) ≤ 0 := by rw [two_pow, Int.ediv_eq_zero_of_lt h0 hn]; exact Int.le_refl _
  clear hn
  go_enter Tryd.func24, Tryd.ntmps24
  go_wp2_with (first | (go_at_call 50; refine (sized_walk _ _).mono ?_; rintro e w' ⟨rfl, rfl⟩))
  have Hmk := Lib.hid hmk
  clear hmk
  go_loopw [25] (fun i wr => ∃ k : Nat, k ≤ m ∧ i = .int .i64 k ∧ Hid (Blk wr w.heap.size 5 (cellsU (List.replicate (m - k) 0 ++ byI n k))) ∧ Hid (Below w.heap.size w wr)) (fun i _ => m - (intOf i).toNat)
  case atStart => exact ⟨0, by omega, rfl, Lib.hid (by simp only [byI, List.append_nil, Nat.sub_zero]; exact Blk.new _ _ _), Lib.hid ((Below.refl _ _).alloc (Nat.le_refl _) _)⟩
  case round =>
    obtain ⟨k, hk, rfl, hB, hb⟩ := hrel
    have hf : ∀ i, wr.frozen? ⟨w.heap.size, i, none⟩ = false := hB.out.frozen
    by_cases hlt : k < m
    · have hc := (hB.out.cell (m - 1 - k)).trans (cellsU_get _ _ (by simp [byI_length]; omega))
      have e1 := Lib.hid (two_pow k)
      have e2 := Lib.hid (set_front n m k hlt)
      go_wp2
      refine ⟨⟨k + 1, by omega, by go_num, Lib.hid ?_, Lib.hid (hb.out.setCell (by simp) _)⟩, by simp [intOf]; omega⟩
      have h := hB.out.set_ (m - 1 - k) (.int .u8 (n / 2 ^ (8 * k) % 256))
      rw [cellsU_set, e1.out, e2.out] at h
      rw [e1.out]
      exact h
    · obtain rfl : k = m := by omega
      have hcv := conv_U (n := k) (c := k) hB.out (by simp [byI_length])
      have e3 := Lib.hid (byI_byL n k)
      go_wp2
      go_ret2
      refine ⟨?_, hb.out⟩
      have e4 : (List.replicate (k - k) 0 ++ byI n k) = byI n k := by simp
      rw [← e3.out, ← e4]
      rfl
set_option maxHeartbeats 800000 in
theorem put_large (n : Int) (m : Nat) (h1 : 1 ≤ m) (h4 : m ≤ 4) (h : n < 0 ∨ 256 ^ m ≤ n) (w : World) :
    Calls Tryd.prog 24 #[.int .i64 n, .int .i64 m] w fun e w' => e = .returned (.tuple #[.string ⟨#[]⟩, .int .i64 11]) ∧ w = w' := by
  have hd : decide (1 ≤ (m : Int) ∧ (m : Int) ≤ 4) = true := by simp; omega
  rcases h with h | h
  · go_enter Tryd.func24, Tryd.ntmps24
    go_wp2_with (first | (go_at_call 50; refine (sized_walk _ _).mono ?_; rintro e w' ⟨rfl, rfl⟩))
    go_ret2
    exact ⟨rfl, rfl⟩
  · have h3 : (0 : Int) < 256 ^ m := by rw [pow_cast]; exact Int.ofNat_lt.2 (Nat.pow_pos (by omega))
    have h0 : 0 ≤ n := Int.le_trans (Int.le_of_lt h3) h
    have hq : 0 < n / 2 ^ (8 * m) := by
      rw [two_pow]
      exact Int.lt_of_lt_of_le (by omega) (Int.le_ediv_of_mul_le h3 (by rw [Int.one_mul]; exact h) : 1 ≤ n / 256 ^ m)
    clear h3
    clear h
    go_enter Tryd.func24, Tryd.ntmps24
    go_wp2_with (first | (go_at_call 50; refine (sized_walk _ _).mono ?_; rintro e w' ⟨rfl, rfl⟩))
    go_ret2
    exact ⟨rfl, rfl⟩
theorem put_arg (n s : Int) (h : s < 1 ∨ 4 < s) (w : World) :
    Calls Tryd.prog 24 #[.int .i64 n, .int .i64 s] w fun e w' => e = .returned (.tuple #[.string ⟨#[]⟩, .int .i64 1]) ∧ w = w' := by
  have hd : decide (1 ≤ s ∧ s ≤ 4) = false := by simp; omega
  clear h
  go_enter Tryd.func24, Tryd.ntmps24
  go_wp2_with (first | (go_at_call 50; refine (sized_walk _ _).mono ?_; rintro e w' ⟨rfl, rfl⟩))
  go_ret2
  exact ⟨rfl, rfl⟩
/-! ### The reference -/
theorem byL_front (n : Int) (k : Nat) : byL n (k + 1) = UInt8.ofNat (n / 256 ^ k % 256).toNat :: byL n k := by
  rw [← byI_byL n (k + 1), ← byI_byL n k]; rfl
end Go.Proofs.YthibnhgbgmpjoaaDoor
namespace Go.Proofs.YthibnhgbgmpjoaaDoor
open Go.RowKit
set_option linter.unusedSimpArgs false
set_option linter.unusedVariables false
/-- A cursor at block g: the text s, of which a bytes were read. -/
def Cur (w : World) (g : Nat) (s : ByteArray) (a : Nat) : Prop := Blk w g 130 #[.string s, .int .i64 a]
theorem Cur.s_ {w : World} {g a : Nat} {s : ByteArray} (h : Cur w g s a) : w.cell? ⟨g, 0, none⟩ = some (.string s) := Blk.cell h 0
theorem Cur.a_ {w : World} {g a : Nat} {s : ByteArray} (h : Cur w g s a) : w.cell? ⟨g, 1, none⟩ = some (.int .i64 a) := Blk.cell h 1
/-- Only block g, and what is new, has turned. -/
def Only (g : Nat) (w w' : World) : Prop := w.grownBy w' (some g)
theorem Only.below {g B : Nat} {w w' : World} (h : Only g w w') (hB : B ≤ g) (hB2 : B ≤ w.heap.size) : Below B w w' := (Below.refl B w).grown h hB2 (fun k hk => by injection hk with hk; omega)
theorem Only.refl (g : Nat) (w : World) : Only g w w := World.grownBy.refl w _
theorem Only.of_below {g : Nat} {w w' : World} (h : Below w.heap.size w w') : Only g w w' := ⟨h.os, h.tape, h.output, h.size, fun i hi _ => h.block i hi⟩
theorem Only.blk {g g' : Nat} {t : TypeId} {cs : Array Value} {w w' : World} (h : Only g w w') (hb : Blk w g' t cs) (hne : g' ≠ g) : Blk w' g' t cs := (h.block g' hb.lt (fun e => hne (by injection e))).trans hb
theorem new_walk (s : ByteArray) (w : World) :
    Calls Tryd.prog 27 #[.string s] w fun e w' => e = .returned (.pointer (some ⟨w.heap.size, 0, none⟩)) ∧ Cur w' w.heap.size s 0 ∧ Below w.heap.size w w' ∧ w.heap.size < w'.heap.size := by
  go_enter Tryd.func27, Tryd.ntmps27
  go_wp2
  go_ret
  exact ⟨rfl, Blk.new _ _ _, (Below.refl _ _).alloc (Nat.le_refl _) _, by simp⟩
theorem left_walk (w : World) (g a : Nat) (s : ByteArray) (hs : s.size ≤ 140737488351232) (ha : a ≤ s.size) (h : Cur w g s a) :
    Calls Tryd.prog 35 #[.pointer (some ⟨g, 0, none⟩)] w fun e w' => e = .returned (.int .i64 ((s.size : Int) - a)) ∧ w.drew = w' := by
  have h0 := h.s_
  have h1 := h.a_
  have H := Lib.hid h; clear h
  go_enter Tryd.func35, Tryd.ntmps35
  go_wp2
  go_region
  go_wp2
  go_ret
  exact ⟨rfl, rfl⟩
theorem left_nil (w : World) : Calls Tryd.prog 35 #[.pointer none] w fun e w' => e = .returned (.int .i64 0) ∧ w = w' := by
  go_enter Tryd.func35, Tryd.ntmps35
  go_wp2
  go_ret
  exact ⟨rfl, rfl⟩
theorem take_nil (n : Int) (w : World) : Calls Tryd.prog 57 #[.pointer none, .int .i64 n] w fun e w' => e = .returned (.tuple #[.string ⟨#[]⟩, .int .i64 1]) ∧ w = w' := by
  go_enter Tryd.func57, Tryd.ntmps57
  go_wp2
  go_ret2
  exact ⟨rfl, rfl⟩
theorem take_arg (n : Int) (hn : n < 0) (w : World) (g : Nat) : Calls Tryd.prog 57 #[.pointer (some ⟨g, 0, none⟩), .int .i64 n] w fun e w' => e = .returned (.tuple #[.string ⟨#[]⟩, .int .i64 1]) ∧ w = w' := by
  go_enter Tryd.func57, Tryd.ntmps57
  go_wp2
  go_ret2
  exact ⟨rfl, rfl⟩
theorem take_short (n : Int) (w : World) (g a : Nat) (s : ByteArray) (hs : s.size ≤ 140737488351232) (ha : a ≤ s.size) (h : Cur w g s a) (hn : (s.size : Int) - a < n) :
    Calls Tryd.prog 57 #[.pointer (some ⟨g, 0, none⟩), .int .i64 n] w fun e w' => e = .returned (.tuple #[.string ⟨#[]⟩, .int .i64 2]) ∧ w.drew = w' := by
  have H := Lib.hid h; clear h
  have h0 : ¬ n < 0 := by omega
  go_enter Tryd.func57, Tryd.ntmps57
  go_wp2_with (first | (go_at_call 35; refine (left_walk _ g a s hs ha H.out).mono ?_; rintro e w' ⟨rfl, rfl⟩))
  go_ret2
  exact ⟨rfl, rfl⟩
set_option maxHeartbeats 800000 in
theorem take_ok (n : Nat) (w : World) (g a : Nat) (s : ByteArray) (hs : s.size ≤ 140737488351232) (h : Cur w g s a) (hn : a + n ≤ s.size) :
    Calls Tryd.prog 57 #[.pointer (some ⟨g, 0, none⟩), .int .i64 n] w fun e w' => e = .returned (.tuple #[.string (s.extract a (a + n)), .int .i64 0]) ∧ Cur w' g s (a + n) ∧ Only g w w' := by
  have H := Lib.hid h
  have h0 := h.s_
  have h1 := h.a_
  have hf := Blk.frozen h 1
  have hlt := Blk.lt h
  clear h
  have hn2 : ¬ (s.size : Int) - a < n := by omega
  go_enter Tryd.func57, Tryd.ntmps57
  go_wp2_with (first | (go_at_call 35; refine (left_walk _ g a s hs (by omega) H.out).mono ?_; rintro e w' ⟨rfl, rfl⟩))
  go_region
  go_wp2
  go_ret2
  refine ⟨rfl, Blk.drew (Blk.set_ H.out 1 (.int .i64 ((a : Int) + n))), ?_⟩
  exact (World.grownBy.refl w (some g)).trans ⟨rfl, rfl, rfl, by simp [World.setCell], fun i hi hne => Below.heap_setCell w ⟨g, 1, none⟩ _ i (fun e => hne (by rw [e]))⟩
/-! ### Num, Sub, Rest -/
theorem ext_size (s : ByteArray) (a n : Nat) (h : a + n ≤ s.size) : (s.extract a (a + n)).size = n := by
  rw [ByteArray.size_extract]; omega
theorem num_size (p : Value) (n : Int) (h : n < 1 ∨ 4 < n) (w : World) :
    Calls Tryd.prog 56 #[p, .int .i64 n] w fun e w' => e = .returned (.tuple #[.int .i64 0, .int .i64 1]) ∧ w = w' := by
  have hd : decide (1 ≤ n ∧ n ≤ 4) = false := by simp; omega
  clear h
  go_enter Tryd.func56, Tryd.ntmps56
  go_wp2_with (first | (go_at_call 50; refine (sized_walk _ _).mono ?_; rintro e w' ⟨rfl, rfl⟩))
  go_ret2
  exact ⟨rfl, rfl⟩
theorem num_nil (n : Nat) (h1 : 1 ≤ n) (h4 : n ≤ 4) (w : World) :
    Calls Tryd.prog 56 #[.pointer none, .int .i64 n] w fun e w' => e = .returned (.tuple #[.int .i64 0, .int .i64 1]) ∧ w = w' := by
  have hd : decide (1 ≤ (n : Int) ∧ (n : Int) ≤ 4) = true := by simp; omega
  have hn := fun w => number_walk ⟨#[]⟩ (by decide) w
  go_enter Tryd.func56, Tryd.ntmps56
  have Hn := Lib.hid hn; clear hn
  go_wp2_with (first | (go_at_call 50; refine (sized_walk _ _).mono ?_; rintro e w' ⟨rfl, rfl⟩) | (go_at_call 57; refine (take_nil _ _).mono ?_; rintro e w' ⟨rfl, rfl⟩) | (go_at_call 64; refine (Hn.out _).mono ?_; rintro e w' ⟨rfl, rfl⟩))
  go_ret2
  exact ⟨rfl, rfl⟩
set_option maxHeartbeats 800000 in
theorem num_ok (n : Nat) (h1 : 1 ≤ n) (h4 : n ≤ 4) (w : World) (g a : Nat) (s : ByteArray) (hs : s.size ≤ 140737488351232) (h : Cur w g s a) (hn : a + n ≤ s.size) :
    Calls Tryd.prog 56 #[.pointer (some ⟨g, 0, none⟩), .int .i64 n] w fun e w' => e = .returned (.tuple #[.int .i64 (numL (s.extract a (a + n)).data.toList), .int .i64 0]) ∧ Cur w' g s (a + n) ∧ Only g w w' := by
  have hd : decide (1 ≤ (n : Int) ∧ (n : Int) ≤ 4) = true := by simp; omega
  have H := Lib.hid h; clear h
  have hx := ext_size s a n hn
  obtain ⟨t, ht⟩ : ∃ t, t = s.extract a (a + n) := ⟨_, rfl⟩
  have hT := fun w h => take_ok n w g a s hs h hn
  rw [← ht] at hx ⊢
  simp only [← ht] at hT
  have Ht := Lib.hid ht; clear ht
  have Hx := Lib.hid hx; clear hx
  have HT := Lib.hid hT; clear hT hn
  go_enter Tryd.func56, Tryd.ntmps56
  go_wp2_with (first | (go_at_call 50; refine (sized_walk _ _).mono ?_; rintro e w' ⟨rfl, rfl⟩) | (go_at_call 57; refine (HT.out _ H.out).mono ?_; rintro e w1 ⟨rfl, hc, ho⟩; have Hc := Lib.hid hc; have Ho := Lib.hid ho; clear hc ho) | (go_at_call 64; refine (number_walk t (by rw [Hx.out]; exact h4) _).mono ?_; rintro e w' ⟨rfl, rfl⟩))
  go_ret2
  exact ⟨rfl, Hc.out, Ho.out⟩
theorem num_short (n : Nat) (h1 : 1 ≤ n) (h4 : n ≤ 4) (w : World) (g a : Nat) (s : ByteArray) (hs : s.size ≤ 140737488351232) (ha : a ≤ s.size) (h : Cur w g s a) (hn : s.size < a + n) :
    Calls Tryd.prog 56 #[.pointer (some ⟨g, 0, none⟩), .int .i64 n] w fun e w' => e = .returned (.tuple #[.int .i64 0, .int .i64 2]) ∧ w.drew = w' := by
  have hd : decide (1 ≤ (n : Int) ∧ (n : Int) ≤ 4) = true := by simp; omega
  have H := Lib.hid h; clear h
  have hN := fun w => number_walk ⟨#[]⟩ (by decide) w
  have HN := Lib.hid hN; clear hN
  go_enter Tryd.func56, Tryd.ntmps56
  go_wp2_with (first | (go_at_call 50; refine (sized_walk _ _).mono ?_; rintro e w' ⟨rfl, rfl⟩) | (go_at_call 57; refine (take_short n _ g a s hs ha H.out (by omega)).mono ?_; rintro e w' ⟨rfl, rfl⟩) | (go_at_call 64; refine (HN.out _).mono ?_; rintro e w' ⟨rfl, rfl⟩))
  go_ret2
  exact ⟨rfl, rfl⟩
set_option maxHeartbeats 800000 in
theorem rest_walk (w : World) (g a : Nat) (s : ByteArray) (hs : s.size ≤ 140737488351232) (ha : a ≤ s.size) (h : Cur w g s a) :
    Calls Tryd.prog 33 #[.pointer (some ⟨g, 0, none⟩)] w fun e w' => e = .returned (.string (s.extract a s.size)) ∧ Cur w' g s s.size ∧ Only g w w' := by
  have H := Lib.hid h; clear h
  obtain ⟨n, hn⟩ : ∃ n, a + n = s.size := ⟨s.size - a, by omega⟩
  have hT := fun w h => take_ok n w g a s hs h (by omega)
  rw [hn] at hT
  have e : (s.size : Int) - a = n := by omega
  obtain ⟨t, ht⟩ : ∃ t, t = s.extract a s.size := ⟨_, rfl⟩
  rw [← ht] at hT ⊢
  have HT := Lib.hid hT; clear hT ht
  have hL := fun w h => left_walk w g a s hs ha h
  rw [e] at hL
  have HL := Lib.hid hL; clear hL
  have Hn := Lib.hid hn; clear hn e
  go_enter Tryd.func33, Tryd.ntmps33
  go_wp2_with (first | (go_at_call 35; refine (HL.out _ H.out).mono ?_; rintro e w' ⟨rfl, rfl⟩) | (go_at_call 57; refine (HT.out _ (Blk.drew H.out)).mono ?_; rintro e w1 ⟨rfl, hc, ho⟩; have Hc := Lib.hid hc; have Ho := Lib.hid ho; clear hc ho))
  go_ret
  exact ⟨rfl, Hc.out, (show Only g w w.drew from ⟨rfl, rfl, rfl, Nat.le_refl _, fun _ _ _ => rfl⟩).trans Ho.out⟩
theorem rest_nil (w : World) : Calls Tryd.prog 33 #[.pointer none] w fun e w' => e = .returned (.string ⟨#[]⟩) ∧ w = w' := by
  go_enter Tryd.func33, Tryd.ntmps33
  go_wp2_with (first | (go_at_call 35; refine (left_nil _).mono ?_; rintro e w' ⟨rfl, rfl⟩) | (go_at_call 57; refine (take_nil _ _).mono ?_; rintro e w' ⟨rfl, rfl⟩))
  go_ret
  exact ⟨rfl, rfl⟩
end Go.Proofs.YthibnhgbgmpjoaaDoor
namespace Go.Proofs.YthibnhgbgmpjoaaDoor
open Go.RowKit
section
variable {P : Program} {ops : Array Oper} {Q : Exit → Act → World → Prop} {S : World → Prop} {md : Region.Mode}
theorem r_start {id n : Nat} {a : Act} {w : World} (l : Array Bool) (hm : P.follows .mixedOrders = true) (hn : ops.size = n) (hl : Array.replicate n false = l) (hS : S w.drew)
    (h : S w.drew → wpAnyH P .any ops Q S n l a w.drew) : (Code.region id ops true).wp P Q a w := by
  subst hn
  subst hl
  exact wp_region_held_drew hm hS h
def okTake (md : Region.Mode) (ops : Array Oper) (l l' : Array Bool) (i : Nat) : Bool := Region.noSelect ops && Region.free md ops l i && (Region.ready md ops l).contains i && (l.setIfInBounds i true == l')
/-- Operation i first: it yields v in every world that meets S. -/
theorem r_take {i : Nat} {N : Option Tmp} {oi : Oper} {v : Value} {fuel : Nat} {l : Array Bool} {a : Act} {w : World} (l' : Array Bool) (hi : ops[i]? = some oi) (hN : oi.dst = N) (hc : okTake md ops l l' i = true)
    (hQ : ∀ c a w, Q (.panic c) (a.put oi.dst v) w → Q (.panic c) a w) (hS : S w) (hy : YieldsIf P ops S oi v a) {a' : Act} (ha : a.put N v = a')
    (h : wpAnyH P md ops Q S fuel l' a' w) : wpAnyH P md ops Q S (fuel + 1) l a w := by
  subst ha
  subst hN
  simp only [okTake, Bool.and_eq_true, beq_iff_eq] at hc
  obtain ⟨⟨⟨h1, h2⟩, h3⟩, h6⟩ := hc
  subst h6
  exact wpAnyH_take hi h1 h2 h3 hQ hy hS h
theorem r_done {n : Nat} {l : Array Bool} {a : Act} {w : World} (hr : (Region.ready md ops l == []) = true) (h : Q .normal a w) : wpAnyH P md ops Q S n l a w := wpAnyH_done (by simpa using hr) h n
/-- What one operation must be shown to do. -/
def Step (P : Program) (md : Region.Mode) (ops : Array Oper) (Q : Exit → Act → World → Prop) (S : World → Prop) (fuel : Nat) (l' : Array Bool) (a : Act) (w : World) (oi : Oper) (N : Option Tmp) : Prop :=
  ∀ K : Act → World → Prop, Shut (∀ a' w', S w' → (S w' → wpAnyH P md ops Q S fuel l' a' w') → K a' w') → if Region.wanted oi (yielded ops a.tmps) = true then Oper.wp P oi a w K Q else K (a.put N undef) w
theorem r_one {i : Nat} {N : Option Tmp} {oi : Oper} {fuel : Nat} {l : Array Bool} {a : Act} {w : World} (l' : Array Bool) (hi : ops[i]? = some oi) (hN : oi.dst = N) (hc : (Region.ready md ops l == [i] && l.setIfInBounds i true == l') = true)
    (h : Step P md ops Q S fuel l' a w oi N) : wpAnyH P md ops Q S (fuel + 1) l a w := by
  subst hN
  simp only [Bool.and_eq_true, beq_iff_eq] at hc
  obtain ⟨h1, h2⟩ := hc
  subst h2
  exact wpAnyH_ready h1 (by simp) (AllReadyH.cons hi (fun K hK => h K hK) AllReadyH.nil)
theorem r_two {i j : Nat} {Ni Nj : Option Tmp} {oi oj : Oper} {fuel : Nat} {l : Array Bool} {a : Act} {w : World} (li lj : Array Bool) (hi : ops[i]? = some oi) (hNi : oi.dst = Ni) (hj : ops[j]? = some oj) (hNj : oj.dst = Nj)
    (hc : (Region.ready md ops l == [i, j] && l.setIfInBounds i true == li && l.setIfInBounds j true == lj) = true)
    (h1 : Step P md ops Q S fuel li a w oi Ni) (h2 : Step P md ops Q S fuel lj a w oj Nj) : wpAnyH P md ops Q S (fuel + 1) l a w := by
  subst hNi hNj
  simp only [Bool.and_eq_true, beq_iff_eq] at hc
  obtain ⟨⟨h3, h4⟩, h5⟩ := hc
  subst h4 h5
  exact wpAnyH_ready h3 (by simp) (AllReadyH.cons hi (fun K hK => h1 K hK) (AllReadyH.cons hj (fun K hK => h2 K hK) AllReadyH.nil))
theorem r_three {i j k : Nat} {Ni Nj Nk : Option Tmp} {oi oj ok : Oper} {fuel : Nat} {l : Array Bool} {a : Act} {w : World} (li lj lk : Array Bool) (hi : ops[i]? = some oi) (hNi : oi.dst = Ni) (hj : ops[j]? = some oj) (hNj : oj.dst = Nj) (hk : ops[k]? = some ok) (hNk : ok.dst = Nk)
    (hc : (Region.ready md ops l == [i, j, k] && l.setIfInBounds i true == li && l.setIfInBounds j true == lj && l.setIfInBounds k true == lk) = true)
    (h1 : Step P md ops Q S fuel li a w oi Ni) (h2 : Step P md ops Q S fuel lj a w oj Nj) (h3 : Step P md ops Q S fuel lk a w ok Nk) : wpAnyH P md ops Q S (fuel + 1) l a w := by
  subst hNi hNj hNk
  simp only [Bool.and_eq_true, beq_iff_eq] at hc
  obtain ⟨⟨⟨h4, h5⟩, h6⟩, h7⟩ := hc
  subst h5 h6 h7
  exact wpAnyH_ready h4 (by simp) (AllReadyH.cons hi (fun K hK => h1 K hK) (AllReadyH.cons hj (fun K hK => h2 K hK) (AllReadyH.cons hk (fun K hK => h3 K hK) AllReadyH.nil)))
theorem r_four {i j k m : Nat} {Ni Nj Nk Nm : Option Tmp} {oi oj ok om : Oper} {fuel : Nat} {l : Array Bool} {a : Act} {w : World} (li lj lk lm : Array Bool) (hi : ops[i]? = some oi) (hNi : oi.dst = Ni) (hj : ops[j]? = some oj) (hNj : oj.dst = Nj) (hk : ops[k]? = some ok) (hNk : ok.dst = Nk) (hm : ops[m]? = some om) (hNm : om.dst = Nm)
    (hc : (Region.ready md ops l == [i, j, k, m] && l.setIfInBounds i true == li && l.setIfInBounds j true == lj && l.setIfInBounds k true == lk && l.setIfInBounds m true == lm) = true)
    (h1 : Step P md ops Q S fuel li a w oi Ni) (h2 : Step P md ops Q S fuel lj a w oj Nj) (h3 : Step P md ops Q S fuel lk a w ok Nk) (h4 : Step P md ops Q S fuel lm a w om Nm) : wpAnyH P md ops Q S (fuel + 1) l a w := by
  subst hNi hNj hNk hNm
  simp only [Bool.and_eq_true, beq_iff_eq] at hc
  obtain ⟨⟨⟨⟨h5, h6⟩, h7⟩, h8⟩, h9⟩ := hc
  subst h6 h7 h8 h9
  exact wpAnyH_ready h5 (by simp) (AllReadyH.cons hi (fun K hK => h1 K hK) (AllReadyH.cons hj (fun K hK => h2 K hK) (AllReadyH.cons hk (fun K hK => h3 K hK) (AllReadyH.cons hm (fun K hK => h4 K hK) AllReadyH.nil))))
/-- A call of a Go function, by its contract. -/
theorem enters_run {f : FuncId} {fn : Func} (hf : P.funcs[f]? = some fn) (hname : (fn.name == "runtime.NumGoroutine") = false) (hb : fn.body.isSome = true) (args : Array Value) (w : World) : (callFunc f args).run P w = .ok (.enter f args) w := by
  have h1 : fn.name ≠ "runtime.NumGoroutine" := by simpa using hname
  obtain ⟨c, hc⟩ := Option.isSome_iff_exists.1 hb
  simp [callFunc, hf, h1, hc]
theorem r_call {oi : Oper} {N : Option Tmp} {a : Act} {w : World} {fuel : Nat} {l' : Array Bool} {f : FuncId} {fn : Func} {xs : Array Operand} {ts : Array TypeId} (hf : P.funcs[f]? = some fn) (hname : (fn.name == "runtime.NumGoroutine") = false) (hb : fn.body.isSome = true) (args : Array Value)
    (hw : Region.wanted oi (yielded ops a.tmps) = true) (hN : oi.dst = N) (hop : oi.op = .call { callee := .value (.func f), args := xs, argTypes := ts }) (hargs : xs.map a.eval = args)
    (h : Calls P f args w fun e w' => ∃ v, e = .returned v ∧ S w' ∧ (S w' → wpAnyH P md ops Q S fuel l' (a.put N v) w')) : Step P md ops Q S fuel l' a w oi N := fun K hK => by
  rw [if_pos hw]
  subst hN
  unfold Oper.wp
  have he := enters_run hf hname hb args w
  have hrun : (execOp a.eval oi).run P w = .ok (.enter f args) w := by
    unfold execOp
    simp [hop, resolve, Deferred.ofValue, invoke, Act.eval, hargs, he]
  rw [hrun, Oper.upon_enter]
  refine h.mono fun e w'' hh => ?_
  obtain ⟨v, rfl, h1, h2⟩ := hh
  exact hK.out _ _ h1 h2
/-- An operation that yields a value, and may make memory. -/
theorem r_value {oi : Oper} {N : Option Tmp} {a : Act} {w w1 : World} {v : Value} {fuel : Nat} {l' : Array Bool} (hw : Region.wanted oi (yielded ops a.tmps) = true) (hN : oi.dst = N) (hrun : (execOp a.eval oi).run P w = .ok (.value v) w1)
    (h1 : S w1) (h : S w1 → wpAnyH P md ops Q S fuel l' (a.put N v) w1) : Step P md ops Q S fuel l' a w oi N := fun K hK => by
  rw [if_pos hw]
  subst hN
  unfold Oper.wp
  rw [hrun]
  exact hK.out _ _ h1 h
/-- A store. -/
theorem r_store {oi : Oper} {a : Act} {w w1 : World} {fuel : Nat} {l' : Array Bool} (hw : Region.wanted oi (yielded ops a.tmps) = true) (hN : oi.dst = none) (hrun : (execOp a.eval oi).run P w = .ok .skip w1)
    (h1 : S w1) (h : S w1 → wpAnyH P md ops Q S fuel l' a w1) : Step P md ops Q S fuel l' a w oi none := fun K hK => by
  rw [if_pos hw]
  unfold Oper.wp
  rw [hrun]
  show K (a.put oi.dst undef) w1
  rw [hN]
  exact hK.out _ _ h1 h
/-- An operation whose guard says no, where it stands alone. -/
theorem r_off {oi : Oper} {N : Option Tmp} {a : Act} {w : World} {fuel : Nat} {l' : Array Bool} (hw : Region.wanted oi (yielded ops a.tmps) = false) (h1 : S w) (h : S w → wpAnyH P md ops Q S fuel l' (a.put N undef) w) : Step P md ops Q S fuel l' a w oi N := fun K hK => by
  rw [hw, if_neg (by simp)]
  exact hK.out _ _ h1 h
theorem rangeOf {w : World} {g : Nat} {t : TypeId} {cs : Array Value} (h : Blk w g t cs) : w.rangeAt g 0 cs.toList := fun j u hu => by
  rw [Nat.zero_add]
  exact (h.cell j).trans (by simpa using hu)
/-- A new variable: the world behind it under one letter. -/
theorem r_alloc {oi : Oper} {N : Option Tmp} {a : Act} {w : World} {fuel : Nat} {l' : Array Bool} (t : TypeId) (z : Array Value) (hw : Region.wanted oi (yielded ops a.tmps) = true) (hN : oi.dst = N) (hrun : (execOp a.eval oi).run P w = .ok (.value (.pointer (some ⟨w.heap.size, 0, none⟩))) (w.alloc (.cells z t)))
    (h : ∀ w1, Blk w1 w.heap.size t z → Below w.heap.size w w1 → w.heap.size < w1.heap.size → S w1 ∧ (S w1 → wpAnyH P md ops Q S fuel l' (a.put N (.pointer (some ⟨w.heap.size, 0, none⟩))) w1)) : Step P md ops Q S fuel l' a w oi N := by
  obtain ⟨h1, h2⟩ := h _ (Blk.new w t z) ((Below.refl _ _).alloc (Nat.le_refl _) _) (by simp)
  exact r_value hw hN hrun h1 h2
theorem run_alloc_rowOp {oi : Oper} {a : Act} {w : World} {n : Nat} (t : TypeId) (z : Array Value) (ho : oi.op = .alloc t) (hz : (P.info? t).map (fun i => (i.zero, i.size)) = some (some (.agg z), n)) : (execOp a.eval oi).run P w = .ok (.value (.pointer (some ⟨w.heap.size, 0, none⟩))) (w.alloc (.cells z t)) := by
  cases hq : P.info? t with
  | none => simp [hq] at hz
  | some i =>
    simp only [hq, Option.map_some, Option.some.injEq, Prod.mk.injEq] at hz
    unfold execOp
    simp [ho, Instr.alloc, zeroValue, typeInfo, hq, hz.1, newVar, newRow, Value.cells, Sem.run_bind]
theorem run_store_rowOp {oi : Oper} {a : Act} {w : World} (ty : TypeId) (x y : Operand) (ho : oi.op = .store ty x y) (g : Nat) (cells : Array Value) (hx : a.eval x = .pointer (some ⟨g, 0, none⟩)) (hy : a.eval y = .agg cells) (t : TypeId) (old : Array Value) (hg : Blk w g t old)
    (hi : (P.info? ty).map (·.size) = some cells.size) (hold : old.size = cells.size) (h1 : cells.all (·.oneCell') = true) : (execOp a.eval oi).run P w = .ok .skip (w.setRow g cells) := by
  unfold execOp
  simp only [ho, hx, hy, Instr.storeAt, Instr.sureAddr, Sem.run_bind, Sem.run_pure, Result.andThen_ok, run_storeVar_row w g t ty old cells hg hi hold h1]
/-- A whole array into a variable: the world behind it under one letter; the other blocks stand. -/
theorem r_row {oi : Oper} {a : Act} {w : World} {fuel : Nat} {l' : Array Bool} (ty : TypeId) (x y : Operand) (g : Nat) (cells : Array Value) (t : TypeId) (old : Array Value) (hw : Region.wanted oi (yielded ops a.tmps) = true) (hN : oi.dst = none) (ho : oi.op = .store ty x y) (hx : a.eval x = .pointer (some ⟨g, 0, none⟩)) (hy : a.eval y = .agg cells) (hg : Blk w g t old)
    (hi : (P.info? ty).map (·.size) = some cells.size) (hold : old.size = cells.size) (h1 : cells.all (·.oneCell') = true)
    (h : ∀ w1, Blk w1 g t cells → (∀ g', g' ≠ g → w1.heap[g']? = w.heap[g']?) → Below g w w1 → w1.heap.size = w.heap.size → S w1 ∧ (S w1 → wpAnyH P md ops Q S fuel l' a w1)) : Step P md ops Q S fuel l' a w oi none := by
  obtain ⟨h2, h3⟩ := h (w.setRow g cells) (hg.row cells) (fun g' hne => setRow_other _ _ _ _ hne) (below_row (Below.refl _ _) (Nat.le_refl _) _) (by simp)
  exact r_store hw hN (run_store_rowOp ty x y ho g cells hx hy t old hg hi hold h1) h2 h3
end
end Go.Proofs.YthibnhgbgmpjoaaDoor
namespace Go.Proofs.YthibnhgbgmpjoaaDoor
open Go.RowKit
set_option linter.unusedSimpArgs false
set_option linter.unusedVariables false
def curV (s : ByteArray) (a : Nat) : Value := .agg #[.string s, .int .i64 a]
/-! ### awake -/
def t123 : ByteArray := ⟨#[1, 2, 3]⟩
theorem awk_num1 (w : World) (g : Nat) (h : Cur w g t123 0) :
    Calls Tryd.prog 56 #[.pointer (some ⟨g, 0, none⟩), .int .i64 2] w fun e w' => e = .returned (.tuple #[.int .i64 258, .int .i64 0]) ∧ Cur w' g t123 2 ∧ Only g w w' :=
  num_ok 2 (by decide) (by decide) w g 0 t123 (by decide) h (by decide)
theorem awk_num2 (w : World) (g : Nat) (h : Cur w g t123 2) :
    Calls Tryd.prog 56 #[.pointer (some ⟨g, 0, none⟩), .int .i64 2] w fun e w' => e = .returned (.tuple #[.int .i64 0, .int .i64 2]) ∧ w.drew = w' :=
  num_short 2 (by decide) (by decide) w g 2 t123 (by decide) (by decide) h (by decide)
theorem awk_put1 (w : World) : Calls Tryd.prog 24 #[.int .i64 258, .int .i64 2] w fun e w' => e = .returned (.tuple #[.string ⟨#[1, 2]⟩, .int .i64 0]) ∧ Below w.heap.size w w' :=
  put_ok 258 2 (by decide) (by decide) (by decide) (by decide) w
theorem awk_put2 (w : World) : Calls Tryd.prog 24 #[.int .i64 256, .int .i64 1] w fun e w' => e = .returned (.tuple #[.string ⟨#[]⟩, .int .i64 11]) ∧ w = w' :=
  put_large 256 1 (by decide) (by decide) (Or.inr (by decide)) w
theorem awk_rest (w : World) (g : Nat) (h : Cur w g t123 2) :
    Calls Tryd.prog 33 #[.pointer (some ⟨g, 0, none⟩)] w fun e w' => e = .returned (.string ⟨#[3]⟩) ∧ Only g w w' :=
  (rest_walk w g 2 t123 (by decide) (by decide) h).mono fun e w' ⟨he, _, ho⟩ => ⟨he, ho⟩
end Go.Proofs.YthibnhgbgmpjoaaDoor
namespace Go.Proofs.YthibnhgbgmpjoaaDoor
open Go.RowKit
set_option linter.unusedSimpArgs false
set_option linter.unusedVariables false
theorem wpList_store_farC {P : Program} {ops : Array Oper} {rest : List Oper} {o : Oper} {a : Act} {w1 : World} {Q : Exit → Act → World → Prop} (hgd : o.guard = none) (ty : TypeId) (x y : Operand) (ho : o.op = .store ty x y) (g : Nat) (cells old : Array Value) (t : TypeId)
    (hx : a.eval x = .pointer (some ⟨g, 0, none⟩)) (hy : a.eval y = .agg cells) (hB : Blk w1 g t old) (hi : (P.info? ty).map (·.size) = some cells.size) (hold : old.size = cells.size) (h1 : cells.all (·.oneCell') = true)
    (h : ∀ w2, Blk w2 g t cells → (∀ g' t' cs, g' ≠ g → Blk w1 g' t' cs → Blk w2 g' t' cs) → (∀ B w0, B ≤ g → Below B w0 w1 → Below B w0 w2) → wpList P ops Q rest (a.put o.dst undef) w2) : wpList P ops Q (o :: rest) a w1 :=
  wpList_store_row hgd ty x y ho g cells hx hy t old hB hi hold h1
    (h _ (hB.row cells) (fun _ _ _ hne hb => hb.rowFar hne _) (fun _ _ hB hb => below_row hb hB _))
theorem Cur.drew {w : World} {g a : Nat} {s : ByteArray} (h : Cur w g s a) : Cur w.drew g s a := h
theorem Cur.drewN {w : World} {g a : Nat} {s : ByteArray} (h : Cur w g s a) (n : Nat) : Cur (w.drewN n) g s a := h
theorem Cur.alloc {w : World} {g a : Nat} {s : ByteArray} (h : Cur w g s a) (o : Obj) : Cur (w.alloc o) g s a := Blk.alloc h o
theorem Cur.far {w : World} {g a : Nat} {s : ByteArray} (h : Cur w g s a) {p : Addr} (hp : g ≠ p.block) (u : Value) : Cur (w.setCell p u) g s a := Blk.far h hp u
theorem one2 (s : ByteArray) (a : Int) : (#[Value.string s, .int .i64 a] : Array Value).all (·.oneCell') = true := by simp [Value.oneCell']
def TakeC (s : ByteArray) (a b : Nat) (x : Int) (T : ByteArray) (e : Int) : Prop :=
  (∀ w g, Cur w g s a → Calls Tryd.prog 57 #[.pointer (some ⟨g, 0, none⟩), .int .i64 x] w fun E w' => E = .returned (.tuple #[.string T, .int .i64 e]) ∧ Cur w' g s b ∧ Only g w w')
theorem Only.drew (g : Nat) (w : World) : Only g w w.drew := Only.of_below (Below.refl _ _).drew
end Go.Proofs.YthibnhgbgmpjoaaDoor
