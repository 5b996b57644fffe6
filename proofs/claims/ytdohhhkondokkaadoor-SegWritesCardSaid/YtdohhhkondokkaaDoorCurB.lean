/- The walks of Put, of the reference's Put and of its Bytes. -/
import Derived.Test.YtdohhhkondokkaaDoorCurA
namespace Go.Proofs.YtdohhhkondokkaaDoor
open Go.RowKit
set_option linter.unusedSimpArgs false
set_option linter.unusedVariables false
/-- A list of integers as a block's cells. -/
def cellsU (l : List Int) : Array Value := (l.map (Value.int .u8)).toArray
theorem cellsU_get (l : List Int) (i : Nat) (h : i < l.length) : (cellsU l)[i]? = some (.int .u8 (l.getD i 0)) := by
  simp [cellsU, h]
theorem cellsU_set (l : List Int) (i : Nat) (x : Int) : (cellsU l).setIfInBounds i (.int .u8 x) = cellsU (l.set i x) := by
  simp [cellsU]
theorem conv_U {w : World} {g : Nat} {l : List Int} {c n : Nat} (h : Blk w g 5 (cellsU l)) (hn : l.length = n) :
    (convert 31 9 (.slice (some ⟨g, 0, none⟩) n c)).run Tryd.prog w = .ok (.string ⟨(l.map (fun z => UInt8.ofNat z.toNat)).toArray⟩) w :=
  run_convert_bytes_arg w 31 5 Tryd.underlying31 Tryd.underlying5 g 0 n c l hn (fun i hi => by rw [Nat.zero_add, h.cell, cellsU_get l i (by omega)]) 9 Tryd.underlying9
theorem make_U (m : Nat) (hm : m ≤ 1000000) (W : World) : (Instr.makeSlice 31 (.int .i64 (m : Int)) (.int .i64 (m : Int))).run Tryd.prog W = .ok (.slice (some ⟨W.heap.size, 0, none⟩) m m) (W.alloc (.cells (cellsU (List.replicate m 0)) 5)) := by
  obtain ⟨i, hi⟩ := Option.isSome_iff_exists.1 (show (Tryd.prog.info? 5).isSome = true by kernel_rfl)
  have h3 : (Tryd.prog.info? 5).map (fun i => (i.zero, i.size, i.bytes)) = some (some (.int .u8 0), 1, 1) := by kernel_rfl
  rw [hi] at h3
  simp only [Option.map_some, Option.some.injEq, Prod.mk.injEq] at h3
  obtain ⟨hz, hs, hb⟩ := h3
  rw [run_make W 31 5 i (.int .u8 0) Tryd.underlying31 hi hz .i64 .i64 m m (by omega) (by omega) (by rw [hb]; omega) (by omega)]
  have e : madeCells (Value.int .u8 0).cells ((m : Int).toNat * i.size) = cellsU (List.replicate m 0) := by
    rw [hs]
    apply Array.ext_getElem?
    intro j
    by_cases hj : j < m
    · rw [cellsU_get _ _ (by simpa using hj)]
      simp [madeCells, hj, Value.cells, Nat.mod_one]
    · rw [Array.getElem?_eq_none (by simp [madeCells]; omega), Array.getElem?_eq_none (by simp [cellsU]; omega)]
  rw [e]
  simp
theorem two_pow (k : Nat) : (2 : Int) ^ (8 * k) = 256 ^ k := by
  rw [Int.pow_mul]; rfl
theorem set_front (n : Int) (m k : Nat) (hk : k < m) : (List.replicate (m - k) 0 ++ byI n k).set (m - 1 - k) ((n / 256 ^ k) % 256) = List.replicate (m - (k + 1)) 0 ++ byI n (k + 1) := by
  obtain ⟨d, hd⟩ : ∃ d, m - k = d + 1 := ⟨m - k - 1, by omega⟩
  have e1 : m - 1 - k = d := by omega
  have e2 : m - (k + 1) = d := by omega
  rw [hd, e1, e2, List.replicate_succ']
  simp [byI]
set_option maxHeartbeats 800000 in
theorem put_ok (n : Int) (m : Nat) (h1 : 1 ≤ m) (h4 : m ≤ 4) (h0 : 0 ≤ n) (hn : n < 256 ^ m) (w : World) :
    Calls Tryd.prog 32 #[.int .i64 n, .int .i64 m] w fun e w' => e = .returned (.tuple #[.string ⟨(byL n m).toArray⟩, .int .i64 0]) ∧ Below w.heap.size w w' := by
  have hd : decide (1 ≤ (m : Int) ∧ (m : Int) ≤ 4) = true := by simp; omega
  have hmk := make_U m (by omega)
  have hq : n / 2 ^ (8 * m) ≤ 0 := by rw [two_pow, Int.ediv_eq_zero_of_lt h0 hn]; exact Int.le_refl _
  clear hn
  go_enter Tryd.func32, Tryd.ntmps32
  go_wp2_with (first | (go_at_call 50; refine (sized_walk _ _).mono ?_; rintro e w' ⟨rfl, rfl⟩))
  have Hmk := Lib.hid hmk
  clear hmk
  go_loopw [25] (fun i wr => ∃ k : Nat, k ≤ m ∧ i = .int .i64 k ∧ Hid (Blk wr w.heap.size 5 (cellsU (List.replicate (m - k) 0 ++ byI n k))) ∧ Hid (Below w.heap.size w wr)) (fun i _ => m - (intOf i).toNat)
  case atStart => exact ⟨0, by omega, rfl, Lib.hid (by simp only [byI, List.append_nil, Nat.sub_zero]; exact Blk.new _ _ _), Lib.hid ((Below.refl _ _).alloc (Nat.le_refl _) _)⟩
  case round =>
    obtain ⟨k, hk, rfl, hB, hb⟩ := hrel
    have hf : ∀ i, wr.frozen? ⟨w.heap.size, i, none⟩ = false := hB.out.frozen
    by_cases hlt : k < m
    · have hc := (hB.out.cell (m - 1 - k)).trans (cellsU_get _ _ (by simp [byI_length]; omega))
      have e1 := Lib.hid (two_pow k)
      have e2 := Lib.hid (set_front n m k hlt)
      go_wp2
      refine ⟨⟨k + 1, by omega, by go_num, Lib.hid ?_, Lib.hid (hb.out.setCell (by simp) _)⟩, by simp [intOf]; omega⟩
      have h := hB.out.set_ (m - 1 - k) (.int .u8 (n / 2 ^ (8 * k) % 256))
      rw [cellsU_set, e1.out, e2.out] at h
      rw [e1.out]
      exact h
    · obtain rfl : k = m := by omega
      have hcv := conv_U (n := k) (c := k) hB.out (by simp [byI_length])
      have e3 := Lib.hid (byI_byL n k)
      go_wp2
      go_ret2
      refine ⟨?_, hb.out⟩
      have e4 : (List.replicate (k - k) 0 ++ byI n k) = byI n k := by simp
      rw [← e3.out, ← e4]
      rfl
set_option maxHeartbeats 800000 in
theorem put_large (n : Int) (m : Nat) (h1 : 1 ≤ m) (h4 : m ≤ 4) (h : n < 0 ∨ 256 ^ m ≤ n) (w : World) :
    Calls Tryd.prog 32 #[.int .i64 n, .int .i64 m] w fun e w' => e = .returned (.tuple #[.string ⟨#[]⟩, .int .i64 11]) ∧ w = w' := by
  have hd : decide (1 ≤ (m : Int) ∧ (m : Int) ≤ 4) = true := by simp; omega
  rcases h with h | h
  · go_enter Tryd.func32, Tryd.ntmps32
    go_wp2_with (first | (go_at_call 50; refine (sized_walk _ _).mono ?_; rintro e w' ⟨rfl, rfl⟩))
    go_ret2
    exact ⟨rfl, rfl⟩
  · have h3 : (0 : Int) < 256 ^ m := by rw [pow_cast]; exact Int.ofNat_lt.2 (Nat.pow_pos (by omega))
    have h0 : 0 ≤ n := Int.le_trans (Int.le_of_lt h3) h
    have hq : 0 < n / 2 ^ (8 * m) := by
      rw [two_pow]
      exact Int.lt_of_lt_of_le (by omega) (Int.le_ediv_of_mul_le h3 (by rw [Int.one_mul]; exact h) : 1 ≤ n / 256 ^ m)
    clear h3
    clear h
    go_enter Tryd.func32, Tryd.ntmps32
    go_wp2_with (first | (go_at_call 50; refine (sized_walk _ _).mono ?_; rintro e w' ⟨rfl, rfl⟩))
    go_ret2
    exact ⟨rfl, rfl⟩
theorem put_arg (n s : Int) (h : s < 1 ∨ 4 < s) (w : World) :
    Calls Tryd.prog 32 #[.int .i64 n, .int .i64 s] w fun e w' => e = .returned (.tuple #[.string ⟨#[]⟩, .int .i64 1]) ∧ w = w' := by
  have hd : decide (1 ≤ s ∧ s ≤ 4) = false := by simp; omega
  clear h
  go_enter Tryd.func32, Tryd.ntmps32
  go_wp2_with (first | (go_at_call 50; refine (sized_walk _ _).mono ?_; rintro e w' ⟨rfl, rfl⟩))
  go_ret2
  exact ⟨rfl, rfl⟩
/-! ### The reference -/
theorem byL_front (n : Int) (k : Nat) : byL n (k + 1) = UInt8.ofNat (n / 256 ^ k % 256).toNat :: byL n k := by
  rw [← byI_byL n (k + 1), ← byI_byL n k]; rfl
end Go.Proofs.YtdohhhkondokkaaDoor
