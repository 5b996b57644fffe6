/- The walks of the reference's Put. No condition. -/
import Derived.Test.YtidockifeofgfaaRfB
namespace Go.Proofs.Ytidockifeofgfaa
open Go.RowKit
set_option linter.unusedSimpArgs false
set_option linter.unusedVariables false
def wV (D : ByteArray) (y : Value) : Value := .agg #[.string D, y]
theorem refPut_arg (D : ByteArray) (A : Option Addr) (n c : Nat) (v x : Int) (hx : x < 0 ∨ 16 < x) (w : World) :
    Calls Try.prog 13 #[wV D (.slice A n c), .int .i64 v, .int .i64 x] w fun e w' => e = .returned (.tuple #[wV D (.slice A n c), .int .i64 1]) ∧ Below w.heap.size w w' := by
  unfold wV
  rcases hx with hx | hx
  · have d1 : decide (x < 0) = true := by simp; omega
    go_enter Try.func13, Try.ntmps13
    go_wp2
    exact bodyPost_ret (v := .tuple #[.agg #[.string D, .slice A n c], .int .i64 1]) (by simp [results, Try.results13, go_sem]) rfl ⟨rfl, ((Below.refl _ _).alloc (Nat.le_refl _) _).alloc (by simp) _⟩
  · have d1 : decide (x < 0) = false := by simp; omega
    have d2 : decide (16 < x) = true := by simp; omega
    go_enter Try.func13, Try.ntmps13
    go_wp2
    exact bodyPost_ret (v := .tuple #[.agg #[.string D, .slice A n c], .int .i64 1]) (by simp [results, Try.results13, go_sem]) rfl ⟨rfl, ((Below.refl _ _).alloc (Nat.le_refl _) _).alloc (by simp) _⟩
set_option maxHeartbeats 1600000 in
theorem refPut_large (D : ByteArray) (y : Value) (L : List Int) (base : Nat) (v : Int) (n : Nat) (hn : n ≤ 16) (hv : v < 0 ∨ 2 ^ n ≤ v) (w : World) (hO : OwnI w base y L) (hL : L.length ≤ 100000) :
    Calls Try.prog 13 #[wV D y, .int .i64 v, .int .i64 n] w fun e w' => e = .returned (.tuple #[wV D y, .int .i64 11]) ∧ Below w.heap.size w w' := by
  obtain ⟨A, c, rfl, hc⟩ := hO.form
  have HO := Lib.hid hO; clear hO
  have HV := Lib.hid hv; clear hv
  unfold wV
  go_enter Try.func13, Try.ntmps13
  go_wp2_with fail
  go_loopw [8, 9] (fun x i wr => ∃ (k : Nat) (z : Int), k ≤ n ∧ 1 ≤ z ∧ z ≤ 65536 ∧ x = .int .i64 z ∧ i = .int .i64 k ∧ Hid (z = 2 ^ k) ∧ wr = (w.alloc (.cells #[.string D, .slice A L.length c] 35)).alloc (.cells #[.string { data := #[] }, .slice none 0 0] 35)) (fun _ i _ => n - (intOf i).toNat)
  case atStart => exact ⟨0, 1, by omega, by decide, by decide, rfl, rfl, Lib.hid rfl, by first | rfl | trivial⟩
  case round =>
    obtain ⟨k, z, hk, hz0, hz1, rfl, rfl, hz, rfl⟩ := hrel
    by_cases hlt : k < n
    · have h2 := two_le (k + 1) 16 (by omega)
      have e16 : (2 : Int) ^ 16 = 65536 := by decide
      have e3 : (2 : Int) ^ (k + 1) = 2 ^ k * 2 := Int.pow_succ 2 k
      rw [e3, ← hz.out, e16] at h2
      have HZ : Hid (z * 2 = 2 ^ (k + 1)) := Lib.hid (by rw [e3, ← hz.out])
      clear e16 e3
      go_wp2
      exact ⟨⟨k + 1, z * 2, by omega, by omega, by omega, by go_num, by go_num, HZ, by first | rfl | trivial⟩, by simp [intOf]; omega⟩
    · obtain rfl : k = n := by omega
      have HB := Lib.hid (((Below.refl w.heap.size w).alloc (Nat.le_refl _) (.cells #[.string D, .slice A L.length c] 35)).alloc (by simp) (.cells #[.string { data := #[] }, .slice none 0 0] 35))
      rcases HV.out with hv | hv
      · have d1 : decide (v < 0) = true := by simp; omega
        go_wp2
        exact bodyPost_ret (v := .tuple #[.agg #[.string D, .slice A L.length c], .int .i64 11]) (by simp [results, Try.results13, go_sem]) rfl ⟨rfl, ((Below.refl _ _).alloc (Nat.le_refl _) _).alloc (by simp) _⟩
      · have hzv : z ≤ v := by rw [hz.out]; exact hv
        have d1 : decide (v < 0) = false := by simp; omega
        have d2 : decide (z ≤ v) = true := by simp; omega
        clear hv
        go_wp2
        exact bodyPost_ret (v := .tuple #[.agg #[.string D, .slice A L.length c], .int .i64 11]) (by simp [results, Try.results13, go_sem]) rfl ⟨rfl, ((Below.refl _ _).alloc (Nat.le_refl _) _).alloc (by simp) _⟩
set_option maxHeartbeats 1600000 in
theorem refPut_ok (D : ByteArray) (y : Value) (L : List Int) (base : Nat) (v : Int) (n : Nat) (hn : n ≤ 16) (v0 : 0 ≤ v) (v1 : v < 2 ^ n) (w : World) (hO : OwnI w base y L) (hL : L.length ≤ 100000) :
    Calls Try.prog 13 #[wV D y, .int .i64 v, .int .i64 n] w fun e w' => Hid (∃ y', e = .returned (.tuple #[wV D y', .int .i64 0]) ∧ OwnI w' w.heap.size y' (L ++ bitsN n v) ∧ Below w.heap.size w w') := by
  obtain ⟨A, c, rfl, hc⟩ := hO.form
  have HO := Lib.hid hO; clear hO
  have HV := Lib.hid v1; clear v1
  unfold wV
  go_enter Try.func13, Try.ntmps13
  go_wp2_with fail
  go_loopw [8, 9] (fun x i wr => ∃ (k : Nat) (z : Int), k ≤ n ∧ 1 ≤ z ∧ z ≤ 65536 ∧ x = .int .i64 z ∧ i = .int .i64 k ∧ Hid (z = 2 ^ k) ∧ wr = (w.alloc (.cells #[.string D, .slice A L.length c] 35)).alloc (.cells #[.string { data := #[] }, .slice none 0 0] 35)) (fun _ i _ => n - (intOf i).toNat)
  case atStart => exact ⟨0, 1, by omega, by decide, by decide, rfl, rfl, Lib.hid rfl, by first | rfl | trivial⟩
  case round =>
    obtain ⟨k, z, hk, hz0, hz1, rfl, rfl, hz, rfl⟩ := hrel
    by_cases hlt : k < n
    · have h2 := two_le (k + 1) 16 (by omega)
      have e16 : (2 : Int) ^ 16 = 65536 := by decide
      have e3 : (2 : Int) ^ (k + 1) = 2 ^ k * 2 := Int.pow_succ 2 k
      rw [e3, ← hz.out, e16] at h2
      have HZ : Hid (z * 2 = 2 ^ (k + 1)) := Lib.hid (by rw [e3, ← hz.out])
      clear e16 e3
      go_wp2
      exact ⟨⟨k + 1, z * 2, by omega, by omega, by omega, by go_num, by go_num, HZ, by first | rfl | trivial⟩, by simp [intOf]; omega⟩
    · obtain rfl : k = n := by omega
      have hzv : v < z := by rw [hz.out]; exact HV.out
      have HW : Hid (OwnI ((w.alloc (.cells #[.string D, .slice A L.length c] 35)).alloc (.cells #[.string { data := #[] }, .slice none 0 0] 35)) base (.slice A L.length c) L) := Lib.hid (HO.out.bel (((Below.refl _ _).alloc (Nat.le_refl _) _).alloc (by simp) _))
      have g1 : Hid (Blk ((w.alloc (.cells #[.string D, .slice A L.length c] 35)).alloc (.cells #[.string { data := #[] }, .slice none 0 0] 35)) w.heap.size 35 #[.string D, .slice A L.length c]) := Lib.hid ((Blk.new _ _ _).alloc _)
      have g2 : Hid (Blk ((w.alloc (.cells #[.string D, .slice A L.length c] 35)).alloc (.cells #[.string { data := #[] }, .slice none 0 0] 35)) (w.heap.size + 1) 35 #[.string { data := #[] }, .slice none 0 0]) := Lib.hid (Blk.nw (by simp))
      have HB : Hid (Below w.heap.size w ((w.alloc (.cells #[.string D, .slice A L.length c] 35)).alloc (.cells #[.string { data := #[] }, .slice none 0 0] 35))) := Lib.hid (((Below.refl _ _).alloc (Nat.le_refl _) _).alloc (by simp) _)
      go_wp2_with (first | (at_builtin; refine appIL rfl (.tmp 33) (.tmp 35) rfl rfl rfl (OwnI.nil _ w.heap.size) HW.out (by simp; omega) HB.out.size ?_; intro v1 w1 hO1 hk1 _ hb1; have HO1 : Hid (OwnI w1 w.heap.size v1 L) := Lib.hid (by simpa using hO1); have G1 : Hid (Blk w1 w.heap.size 35 #[.string D, .slice A L.length c]) := Lib.hid (hk1 _ _ _ (by decide) g1.out); have G2 : Hid (Blk w1 (w.heap.size + 1) 35 #[.string { data := #[] }, .slice none 0 0]) := Lib.hid (hk1 _ _ _ (by decide) g2.out); have HB1 := Lib.hid (HB.out.trans hb1); clear hO1 hk1 hb1 g1 g2 HB HW))
      refine region_plan (.run [0] (.held 1 (.run [2, 3, 4] (.ev 5 (.ev 6 (.run [7] (.ev 8 (.run [9] .fin)))))))) (fun w' => w'.cell? ⟨w.heap.size, 0, none⟩ = some (.string D)) (by kernel_rfl) (G1.out.cell 0) ?_
      intro wd hwd
      have HO1 : Hid (OwnI wd w.heap.size v1 L) := Lib.hid (hwd ▸ HO1.out.drew)
      have G1 := Lib.hid (G1.out.drewE hwd)
      have G2 := Lib.hid (G2.out.drewE hwd)
      have HB1 : Hid (Below w.heap.size w wd) := Lib.hid (hwd ▸ HB1.out.drew)
      have c0 : wd.cell? ⟨w.heap.size, 0, none⟩ = some (.string D) := G1.out.cell 0
      clear hwd
      refine plan_run fun m hm => ?_
      simp only [pickO, List.filterMap_cons, List.filterMap_nil, List.getElem?_toArray, List.getElem?_cons_zero, List.getElem?_cons_succ] at hm
      subst hm
      go_wp2_with fail
      refine ⟨rfl, by rfl, ?_⟩
      refine plan_held (v := .string D) rfl (by rfl) (fun w' hS => by go_simp) ?_
      simp only [Act.put, List.setIfInBounds_toArray, List.set_cons_zero, List.set_cons_succ]
      refine plan_run fun m hm => ?_
      simp only [pickO, List.filterMap_cons, List.filterMap_nil, List.getElem?_toArray, List.getElem?_cons_zero, List.getElem?_cons_succ] at hm
      subst hm
      go_wp2_with fail
      refine ⟨rfl, by rfl, ?_⟩
      refine plan_ev fun m hm => ?_
      simp only [pickO, List.filterMap_cons, List.filterMap_nil, List.getElem?_toArray, List.getElem?_cons_zero, List.getElem?_cons_succ] at hm
      subst hm
      have hv16 : v < 65536 := by omega
      go_wp2_with (first | (go_at_call 28; refine (split_walk v k hn v0 hv16 _).mono ?_; intro e w2 hp; obtain ⟨v2, rfl, hO2, hb2⟩ := hp.out; have HO2 := Lib.hid (hO2.mono HB1.out.size); have HX1 := Lib.hid (HO1.out.bel hb2); have GX1 := Lib.hid (G1.out.bel hb2); have GX2 := Lib.hid (G2.out.bel hb2); have HB2 := Lib.hid (HB1.out.trans (hb2.mono HB1.out.size)); clear hO2 hb2 hp))
      refine ⟨rfl, GX1.out.cell 0, ?_⟩
      refine plan_ev fun m hm => ?_
      simp only [pickO, List.filterMap_cons, List.filterMap_nil, List.getElem?_toArray, List.getElem?_cons_zero, List.getElem?_cons_succ] at hm
      subst hm
      refine appIL rfl (.tmp 39) (.tmp 42) rfl rfl rfl HX1.out HO2.out (by simp [bitsN_len]; omega) HB2.out.size ?_
      intro v3 w3 hO3 hk3 _ hb3
      obtain ⟨A3, n3, c3, rfl⟩ := hO3.form2
      have HO3 := Lib.hid hO3
      have GY1 := Lib.hid (hk3 _ _ _ (by decide) GX1.out)
      have GY2 := Lib.hid (hk3 _ _ _ (by decide) GX2.out)
      have HB3 := Lib.hid (HB2.out.trans hb3)
      clear hO3 hk3 hb3
      refine ⟨rfl, GY1.out.cell 0, ?_⟩
      simp only [Act.put, List.setIfInBounds_toArray, List.set_cons_zero, List.set_cons_succ]
      refine plan_run fun m hm => ?_
      simp only [pickO, List.filterMap_cons, List.filterMap_nil, List.getElem?_toArray, List.getElem?_cons_zero, List.getElem?_cons_succ] at hm
      subst hm
      go_wp2_with fail
      refine ⟨rfl, by rfl, ?_⟩
      refine plan_ev fun m hm => ?_
      simp only [pickO, List.filterMap_cons, List.filterMap_nil, List.getElem?_toArray, List.getElem?_cons_zero, List.getElem?_cons_succ] at hm
      subst hm
      refine wpList_store_far rfl 35 (.tmp 6) (.tmp 44) rfl (w.heap.size + 1) #[.string D, .slice A3 n3 c3] _ 35 rfl rfl GY2.out (by kernel_rfl) rfl (by simp [Value.oneCell']) ?_
      intro w4 hB4 hf4 hb4 _ _
      have c1 : w4.cell? ⟨w.heap.size + 1, 0, none⟩ = some (.string D) := hB4.cell 0
      have c2 : w4.cell? ⟨w.heap.size + 1, 1, none⟩ = some (.slice A3 n3 c3) := hB4.cell 1
      have HB4 := Lib.hid (hb4 w.heap.size w (by omega) HB3.out)
      have HO4 : Hid (OwnI w4 w.heap.size (.slice A3 n3 c3) (L ++ bitsN k v)) := Lib.hid (HO3.out.keep fun g cs hb => hf4 _ _ _ (hb.ne GY2.out (by decide)) hb)
      have c0' := (hf4 _ _ _ (by omega) GY1.out).cell 0
      refine ⟨rfl, c0', ?_⟩
      simp only [Act.put, List.setIfInBounds_toArray, List.set_cons_zero, List.set_cons_succ]
      refine plan_run fun m hm => ?_
      simp only [pickO, List.filterMap_cons, List.filterMap_nil, List.getElem?_toArray, List.getElem?_cons_zero, List.getElem?_cons_succ] at hm
      subst hm
      go_wp2_with fail
      refine ⟨rfl, by rfl, ?_⟩
      refine plan_fin ?_
      go_wp2
      exact bodyPost_ret (v := .tuple #[.agg #[.string D, .slice A3 n3 c3], .int .i64 0]) (by simp [results, Try.results13, go_sem, c1, c2]) rfl (Lib.hid ⟨_, rfl, HO4.out, HB4.out⟩)
end Go.Proofs.Ytidockifeofgfaa
