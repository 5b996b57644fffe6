/- The walk of a writer's last. No condition. -/
import Derived.Test.YtaofponadaifiaaWri
namespace Go.Proofs.Ytaofponadaifiaa
open Go.RowKit
set_option linter.unusedSimpArgs false
set_option linter.unusedVariables false
def cellsU (l : List Int) : Array Value := (l.map (Value.int .u8)).toArray
theorem make_U (m : Nat) (hm : m ≤ 1000000) (W : World) : (Instr.makeSlice 74 (.int .i64 (m : Int)) (.int .i64 (m : Int))).run Try.prog W = .ok (.slice (some ⟨W.heap.size, 0, none⟩) m m) (W.alloc (.cells (cellsU (List.replicate m 0)) 5)) := by
  obtain ⟨i, hi⟩ := Option.isSome_iff_exists.1 (show (Try.prog.info? 5).isSome = true by kernel_rfl)
  have h3 : (Try.prog.info? 5).map (fun i => (i.zero, i.size, i.bytes)) = some (some (.int .u8 0), 1, 1) := by kernel_rfl
  rw [hi] at h3
  simp only [Option.map_some, Option.some.injEq, Prod.mk.injEq] at h3
  obtain ⟨hz, hs, hb⟩ := h3
  rw [run_make W 74 5 i (.int .u8 0) Try.underlying74 hi hz .i64 .i64 m m (by omega) (by omega) (by rw [hb]; omega) (by omega)]
  have e : madeCells (Value.int .u8 0).cells ((m : Int).toNat * i.size) = cellsU (List.replicate m 0) := by
    rw [hs]
    apply Array.ext_getElem?
    intro j
    by_cases hj : j < m
    · simp [cellsU, madeCells, hj, Value.cells, Nat.mod_one]
    · rw [Array.getElem?_eq_none (by simp [madeCells]; omega), Array.getElem?_eq_none (by simp [cellsU]; omega)]
  rw [e]
  simp
theorem ownU_made {w : World} {base g : Nat} {l : List Int} {n : Nat} (hB : Blk w g 5 (cellsU l)) (hg : base ≤ g) (hn : l.length = n) (hm : n ≤ 1000000) : OwnU w base (.slice (some ⟨g, 0, none⟩) n n) l := by
  subst hn
  refine ⟨by simp, Or.inr ⟨g, l.length, cellsU l, rfl, hg, hB, Nat.le_refl _, by simp only [maxLen]; omega, by simp [cellsU], ?_⟩⟩
  have e : (l.map fun x => Value.int .u8 x).length = l.length * 1 := by simp
  show (l.map (Value.int .u8)).toArray.toList.take (l.length * 1) = _
  rw [List.toList_toArray]
  exact List.take_of_length_le (by simp)
theorem splice_all (l : List Int) (m : Nat) (hm : l.length = m) : (splice ((List.replicate m 0).map (Value.int .u8)) 0 (l.map (Value.int .u8))).toArray = cellsU l := by
  subst hm
  unfold cellsU
  simp [splice]
theorem srcU {w : World} {base : Nat} {A : Option Addr} {c : Nat} {l : List Int} {n : Nat} (hO : OwnU w base (.slice A n c) l) (hn : l.length = n) (h0 : 0 < (l.map (Value.int .u8)).length) : ∃ ad, A = some ad ∧ ∀ j v, (l.map (Value.int .u8))[j]? = some v → w.cell? (ad.add j) = some v := by
  subst hn
  obtain ⟨g, c', e, _, _⟩ := hO.at_ (j := 0) (by simpa using h0)
  injection e with e1
  subst e1
  exact ⟨_, rfl, fun j v hj => World.ownsRow.cells hO rfl j v hj⟩
theorem last_or (h c : Int) (c0 : 0 ≤ c) (c1 : c < 8) (h0 : 0 ≤ h) (h1 : h < 2 ^ c.toNat) : bits BinOp.or IntKind.i64 (IntKind.i64.wrap (h * 2 ^ (8 - c).toNat)) (IntKind.i64.wrap (IntKind.i64.wrap (2 ^ (8 - c).toNat) - 1)) = h * bitP c + (bitP c - 1) := by
  have a1 := two_pos (8 - c).toNat
  have a2 := two_le (8 - c).toNat 30 (by omega)
  have a3 := two_le c.toNat 30 (by omega)
  have e30 : (2 : Int) ^ 30 = 1073741824 := by decide
  rw [e30] at a2 a3
  rw [wrap_small (2 ^ (8 - c).toNat) (by omega) (by omega)]
  exact or_shift h (2 ^ (8 - c).toNat - 1) _ (by omega) h0 (by omega) (by omega) (by omega)
theorem bitP_mul (c : Int) (c0 : 0 ≤ c) (c1 : c ≤ 8) : 2 ^ c.toNat * bitP c = 256 := by
  obtain ⟨k, rfl⟩ := Int.eq_ofNat_of_zero_le c0
  rcases (by omega : k = 0 ∨ k = 1 ∨ k = 2 ∨ k = 3 ∨ k = 4 ∨ k = 5 ∨ k = 6 ∨ k = 7 ∨ k = 8) with rfl | rfl | rfl | rfl | rfl | rfl | rfl | rfl | rfl <;> decide
theorem lastB_range (h c : Int) (c0 : 0 ≤ c) (c1 : c < 8) (h0 : 0 ≤ h) (h1 : h < 2 ^ c.toNat) : 0 ≤ h * bitP c + (bitP c - 1) ∧ h * bitP c + (bitP c - 1) < 256 := by
  obtain ⟨k, rfl⟩ := Int.eq_ofNat_of_zero_le c0
  rcases (by omega : k = 0 ∨ k = 1 ∨ k = 2 ∨ k = 3 ∨ k = 4 ∨ k = 5 ∨ k = 6 ∨ k = 7) with rfl | rfl | rfl | rfl | rfl | rfl | rfl | rfl <;> simp [bitP] at h1 ⊢ <;> omega
set_option maxHeartbeats 1600000 in
theorem last_walk (w : World) (base g : Nat) (v : Value) (l : List Int) (h c t : Int) (H : WrV w base g v l h c t) (hl : l.length ≤ 100000) (c0 : 0 ≤ c) (c1 : c < 8) (h0 : 0 ≤ h) (h1 : h < 2 ^ c.toNat) :
    Calls Try.prog 30 #[.pointer (some ⟨g, 0, none⟩)] w fun e w' => Hid (∃ v', e = .returned v' ∧ OwnU w' w.heap.size v' (lastL l h c) ∧ Below w.heap.size w w') := by
  obtain ⟨A, cp, rfl, hcp⟩ := H.2.form
  obtain ⟨n, hn⟩ : ∃ n, n = l.length := ⟨_, rfl⟩
  have HH := Lib.hid H; clear H
  rw [← hn] at HH hl hcp
  have Hn := Lib.hid hn; clear hn
  have k0 : w.cell? ⟨g, 0, none⟩ = some (.slice A n cp) := Blk.cell HH.out.1 0
  have k2 : w.cell? ⟨g, 2, none⟩ = some (.int .i64 c) := Blk.cell HH.out.1 2
  have hgl := HH.out.1.lt
  have Hmk := make_U n (by omega)
  obtain ⟨X, hX⟩ : ∃ X, X = l.map (Value.int .u8) := ⟨_, rfl⟩
  obtain ⟨Z, hZ⟩ : ∃ Z, Z = (List.replicate n (0 : Int)).map (Value.int .u8) := ⟨_, rfl⟩
  have HX := Lib.hid hX; clear hX
  have HZ := Lib.hid hZ; clear hZ
  by_cases hc : 0 < c
  · have Hbb := Lib.hid (lastB_range h c c0 c1 h0 h1)
    have hor := last_or h c c0 c1 h0 h1
    go_enter Try.func30, Try.ntmps30
    go_wp2_with (first | (refine wpList_copy_splice rfl (.tmp 11) (.tmp 15) _ _ rfl 5 Try.underlying74 (by kernel_rfl) _ _ _ _ _ _ rfl rfl w.heap.size 0 Z 5 (by rw [HZ.out]; exact Blk.new _ _ _) X (by rw [HX.out]; simp [← Hn.out]) (fun h0 => ⟨rfl, by rw [HX.out] at h0 ⊢; exact srcU (HH.out.2.bel ((Below.refl _ _).alloc (Nat.le_refl _) _)) Hn.out.symm h0⟩) (by rw [HX.out, HZ.out]; simp [← Hn.out]) (by rw [HX.out]; intro v hv; obtain ⟨x, _, rfl⟩ := List.mem_map.1 hv; rfl) w.heap.size w ((Below.refl _ _).alloc (Nat.le_refl _) _) (Nat.le_refl _) ?_; intro w2 HG2 hb2; have j1 : w2.cell? ⟨g, 1, none⟩ = some (.int .i64 h) := (hb2.cell (p := ⟨g, 1, none⟩) hgl).trans (Blk.cell HH.out.1 1); have j2 : w2.cell? ⟨g, 2, none⟩ = some (.int .i64 c) := (hb2.cell (p := ⟨g, 2, none⟩) hgl).trans k2; have HB2 := Lib.hid hb2; have HO2 : Hid (OwnU w2 w.heap.size (.slice (some ⟨w.heap.size, 0, none⟩) n n) l) := Lib.hid (ownU_made (by have e := HG2.out; rw [HX.out, HZ.out, splice_all l n Hn.out.symm] at e; exact e) (Nat.le_refl _) Hn.out.symm (by omega)); clear hb2))
    refine r_start (n := 13) (S := (fun w' => w'.cell? ⟨g, 1, none⟩ = some (.int .i64 h))) #[false, false, false, false, false, false, false, false, false, false, false, false, false] (by kernel_rfl) rfl rfl j1 (fun hHeld => ?_)
    refine r_take (i := 0) (N := some 27) (v := ?_) (a' := ?_) #[true, false, false, false, false, false, false, false, false, false, false, false, false] rfl rfl (by kernel_rfl) (fun _ _ _ h => h) hHeld (Or.inl ⟨by rfl, ?_⟩) ?_ ?_
    rotate_left
    · intro w' hSw
      (try dsimp only at hSw)
      go_simp
      try with_reducible rfl
    rotate_left
    · simp only [Act.put, List.setIfInBounds_toArray, List.set_cons_zero, List.set_cons_succ]
      rfl
    refine r_take (i := 1) (N := some 28) (v := ?_) (a' := ?_) #[true, true, false, false, false, false, false, false, false, false, false, false, false] rfl rfl (by kernel_rfl) (fun _ _ _ h => h) hHeld (Or.inl ⟨by rfl, ?_⟩) ?_ ?_
    rotate_left
    · intro w' hSw
      (try dsimp only at hSw)
      go_simp
      try with_reducible rfl
    rotate_left
    · simp only [Act.put, List.setIfInBounds_toArray, List.set_cons_zero, List.set_cons_succ]
      rfl
    refine r_take (i := 2) (N := some 29) (v := ?_) (a' := ?_) #[true, true, true, false, false, false, false, false, false, false, false, false, false] rfl rfl (by kernel_rfl) (fun _ _ _ h => h) hHeld (Or.inl ⟨by rfl, ?_⟩) ?_ ?_
    rotate_left
    · intro w' hSw
      (try dsimp only at hSw)
      go_simp
      try with_reducible rfl
    rotate_left
    · simp only [Act.put, List.setIfInBounds_toArray, List.set_cons_zero, List.set_cons_succ]
      rfl
    refine r_take (i := 3) (N := some 30) (v := ?_) (a' := ?_) #[true, true, true, true, false, false, false, false, false, false, false, false, false] rfl rfl (by kernel_rfl) (fun _ _ _ h => h) hHeld (Or.inl ⟨by rfl, ?_⟩) ?_ ?_
    rotate_left
    · intro w' hSw
      (try dsimp only at hSw)
      go_simp
      try with_reducible rfl
    rotate_left
    · simp only [Act.put, List.setIfInBounds_toArray, List.set_cons_zero, List.set_cons_succ]
      rfl
    refine r_take (i := 4) (N := some 31) (v := ?_) (a' := ?_) #[true, true, true, true, true, false, false, false, false, false, false, false, false] rfl rfl (by kernel_rfl) (fun _ _ _ h => h) hHeld (Or.inl ⟨by rfl, ?_⟩) ?_ ?_
    rotate_left
    · intro w' hSw
      (try dsimp only at hSw)
      go_simp
      try with_reducible rfl
    rotate_left
    · simp only [Act.put, List.setIfInBounds_toArray, List.set_cons_zero, List.set_cons_succ]
      rfl
    refine r_take (i := 5) (N := some 32) (v := ?_) (a' := ?_) #[true, true, true, true, true, true, false, false, false, false, false, false, false] rfl rfl (by kernel_rfl) (fun _ _ _ h => h) hHeld (Or.inl ⟨by rfl, ?_⟩) ?_ ?_
    rotate_left
    · intro w' hSw
      (try dsimp only at hSw)
      go_simp
      try with_reducible rfl
    rotate_left
    · simp only [Act.put, List.setIfInBounds_toArray, List.set_cons_zero, List.set_cons_succ]
      rfl
    refine r_take (i := 6) (N := some 33) (v := ?_) (a' := ?_) #[true, true, true, true, true, true, true, false, false, false, false, false, false] rfl rfl (by kernel_rfl) (fun _ _ _ h => h) hHeld (Or.inl ⟨by rfl, ?_⟩) ?_ ?_
    rotate_left
    · intro w' hSw
      (try dsimp only at hSw)
      go_simp
      try with_reducible rfl
    rotate_left
    · simp only [Act.put, List.setIfInBounds_toArray, List.set_cons_zero, List.set_cons_succ]
      rfl
    refine r_take (i := 7) (N := some 34) (v := ?_) (a' := ?_) #[true, true, true, true, true, true, true, true, false, false, false, false, false] rfl rfl (by kernel_rfl) (fun _ _ _ h => h) hHeld (Or.inl ⟨by rfl, ?_⟩) ?_ ?_
    rotate_left
    · intro w' hSw
      (try dsimp only at hSw)
      go_simp
      try with_reducible rfl
    rotate_left
    · simp only [Act.put, List.setIfInBounds_toArray, List.set_cons_zero, List.set_cons_succ]
      rfl
    refine r_take (i := 8) (N := some 35) (v := ?_) (a' := ?_) #[true, true, true, true, true, true, true, true, true, false, false, false, false] rfl rfl (by kernel_rfl) (fun _ _ _ h => h) hHeld (Or.inl ⟨by rfl, ?_⟩) ?_ ?_
    rotate_left
    · intro w' hSw
      (try dsimp only at hSw)
      go_simp
      try with_reducible rfl
    rotate_left
    · simp only [Act.put, List.setIfInBounds_toArray, List.set_cons_zero, List.set_cons_succ]
      rfl
    refine r_take (i := 9) (N := some 36) (v := ?_) (a' := ?_) #[true, true, true, true, true, true, true, true, true, true, false, false, false] rfl rfl (by kernel_rfl) (fun _ _ _ h => h) hHeld (Or.inl ⟨by rfl, ?_⟩) ?_ ?_
    rotate_left
    · intro w' hSw
      (try dsimp only at hSw)
      go_simp
      try with_reducible rfl
    rotate_left
    · simp only [Act.put, List.setIfInBounds_toArray, List.set_cons_zero, List.set_cons_succ]
      rfl
    refine r_take (i := 10) (N := some 37) (v := ?_) (a' := ?_) #[true, true, true, true, true, true, true, true, true, true, true, false, false] rfl rfl (by kernel_rfl) (fun _ _ _ h => h) hHeld (Or.inl ⟨by rfl, ?_⟩) ?_ ?_
    rotate_left
    · intro w' hSw
      (try dsimp only at hSw)
      go_simp
      try with_reducible rfl
    rotate_left
    · simp only [Act.put, List.setIfInBounds_toArray, List.set_cons_zero, List.set_cons_succ]
      rfl
    refine r_one (i := 11) (N := some 38) #[true, true, true, true, true, true, true, true, true, true, true, true, false] rfl rfl (by kernel_rfl) ?_
    refine r_call Try.func32 (by kernel_rfl) rfl #[.slice (some ⟨w.heap.size, 0, none⟩) n n, .int .i64 (h * bitP c + (bitP c - 1))] (by rfl) rfl rfl (by simp only [List.map_toArray, List.map_cons, List.map_nil]; first | done | rfl) ?_
    with_reducible refine (put_walk (h * bitP c + (bitP c - 1)) Hbb.out.1 Hbb.out.2 _ w.heap.size _ l HO2.out.drew HB2.out.drew.size (by rw [← Hn.out]; omega)).mono ?_
    intro e w3 hp3
    obtain ⟨v3, rfl, hO3, hB3, hK3⟩ := hp3.out
    have HO3 := Lib.hid hO3
    have HB3 := Lib.hid (HB2.out.drew.trans hB3)
    clear hO3 hB3 hK3 hp3
    refine ⟨_, rfl, (HB3.out.cell (p := ⟨g, 1, none⟩) hgl).trans (Blk.cell HH.out.1 1), fun hHeld => ?_⟩
    try simp only [Act.put, List.setIfInBounds_toArray, List.set_cons_zero, List.set_cons_succ]
    refine r_take (i := 12) (N := some 3) (v := ?_) (a' := ?_) #[true, true, true, true, true, true, true, true, true, true, true, true, true] rfl rfl (by kernel_rfl) (fun _ _ _ h => h) hHeld (Or.inl ⟨by rfl, ?_⟩) ?_ ?_
    rotate_left
    · intro w' hSw
      (try dsimp only at hSw)
      go_simp
      try with_reducible rfl
    rotate_left
    · simp only [Act.put, List.setIfInBounds_toArray, List.set_cons_zero, List.set_cons_succ]
      rfl
    refine r_done (by kernel_rfl) ?_
    go_wp2
    go_ret
    refine Lib.hid ⟨v3, rfl, ?_, HB3.out⟩
    unfold lastL
    rw [if_pos (by omega)]
    exact HO3.out
  · go_enter Try.func30, Try.ntmps30
    go_wp2_with (first | (refine wpList_copy_splice rfl (.tmp 11) (.tmp 15) _ _ rfl 5 Try.underlying74 (by kernel_rfl) _ _ _ _ _ _ rfl rfl w.heap.size 0 Z 5 (by rw [HZ.out]; exact Blk.new _ _ _) X (by rw [HX.out]; simp [← Hn.out]) (fun h0 => ⟨rfl, by rw [HX.out] at h0 ⊢; exact srcU (HH.out.2.bel ((Below.refl _ _).alloc (Nat.le_refl _) _)) Hn.out.symm h0⟩) (by rw [HX.out, HZ.out]; simp [← Hn.out]) (by rw [HX.out]; intro v hv; obtain ⟨x, _, rfl⟩ := List.mem_map.1 hv; rfl) w.heap.size w ((Below.refl _ _).alloc (Nat.le_refl _) _) (Nat.le_refl _) ?_; intro w2 HG2 hb2; have j1 : w2.cell? ⟨g, 1, none⟩ = some (.int .i64 h) := (hb2.cell (p := ⟨g, 1, none⟩) hgl).trans (Blk.cell HH.out.1 1); have j2 : w2.cell? ⟨g, 2, none⟩ = some (.int .i64 c) := (hb2.cell (p := ⟨g, 2, none⟩) hgl).trans k2; have HB2 := Lib.hid hb2; have HO2 : Hid (OwnU w2 w.heap.size (.slice (some ⟨w.heap.size, 0, none⟩) n n) l) := Lib.hid (ownU_made (by have e := HG2.out; rw [HX.out, HZ.out, splice_all l n Hn.out.symm] at e; exact e) (Nat.le_refl _) Hn.out.symm (by omega)); clear hb2))
    go_ret
    refine Lib.hid ⟨_, rfl, ?_, HB2.out⟩
    unfold lastL
    rw [if_neg (by omega)]
    exact HO2.out
end Go.Proofs.Ytaofponadaifiaa
