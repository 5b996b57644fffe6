/- The walks of the reference's Mark. No condition. -/
import Derived.Test.YtidockifeofgfaaRfD
import Derived.Test.YtidockifeofgfaaWriC
namespace Go.Proofs.Ytidockifeofgfaa
open Go.RowKit
set_option linter.unusedSimpArgs false
set_option linter.unusedVariables false
theorem refMark_arg (D : ByteArray) (A : Option Addr) (n c : Nat) (x : Int) (hx : x < 1 ∨ 254 < x) (w : World) :
    Calls Try.prog 14 #[wV D (.slice A n c), .int .i64 x] w fun e w' => e = .returned (.tuple #[wV D (.slice A n c), .int .i64 1]) ∧ Below w.heap.size w w' := by
  unfold wV
  rcases hx with hx | hx
  · have d1 : decide (x < 1) = true := by simp; omega
    go_enter Try.func14, Try.ntmps14
    go_wp2
    exact bodyPost_ret (v := .tuple #[.agg #[.string D, .slice A n c], .int .i64 1]) (by simp [results, Try.results14, go_sem]) rfl ⟨rfl, ((Below.refl _ _).alloc (Nat.le_refl _) _).alloc (by simp) _⟩
  · have d1 : decide (x < 1) = false := by simp; omega
    have d2 : decide (254 < x) = true := by simp; omega
    go_enter Try.func14, Try.ntmps14
    go_wp2
    exact bodyPost_ret (v := .tuple #[.agg #[.string D, .slice A n c], .int .i64 1]) (by simp [results, Try.results14, go_sem]) rfl ⟨rfl, ((Below.refl _ _).alloc (Nat.le_refl _) _).alloc (by simp) _⟩
theorem bytesOf_size (l : List Int) : (bytesOf l).size = l.length := by simp [bytesOf, ByteArray.size]
set_option maxHeartbeats 1600000 in
theorem refMark_ok (D : ByteArray) (A : Option Addr) (n c : Nat) (f : Nat → Int) (hn : n ≤ 4000) (hnc : n ≤ c) (hf : ∀ j, j < n → 0 ≤ f j ∧ f j ≤ 1) (hD : D.size ≤ 1000000) (x : Int) (x0 : 1 ≤ x) (x1 : x ≤ 254) (w : World) (hR : RowI w 0 A n f) :
    Calls Try.prog 14 #[wV D (.slice A n c), .int .i64 x] w fun e w' => e = .returned (.tuple #[wV (D ++ bytesOf (stB n f ((n + 7) / 8)) ++ ⟨#[255]⟩ ++ bytesOf [x]) (.slice none 0 0), .int .i64 0]) ∧ Below w.heap.size w w' := by
  have HR := Lib.hid hR; clear hR
  have HF := Lib.hid hf; clear hf
  unfold wV
  have d1 : decide (x < 1) = false := by simp; omega
  have d2 : decide (254 < x) = false := by simp; omega
  have hxm : x % 256 = x := by omega
  go_enter Try.func14, Try.ntmps14
  go_wp2_with fail
  have HB0 : Hid (Below w.heap.size w ((w.alloc (.cells #[.string D, .slice A n c] 35)).alloc (.cells #[.string { data := #[] }, .slice none 0 0] 35)).drew) := Lib.hid (((Below.refl _ _).alloc (Nat.le_refl _) _).alloc (by simp) _).drew
  have HR0 := Lib.hid (HR.out.bel HB0.out)
  have G10 : Hid (Blk ((w.alloc (.cells #[.string D, .slice A n c] 35)).alloc (.cells #[.string { data := #[] }, .slice none 0 0] 35)).drew w.heap.size 35 #[.string D, .slice A n c]) := Lib.hid ((Blk.new _ _ _).alloc _).drew
  have G20 : Hid (Blk ((w.alloc (.cells #[.string D, .slice A n c] 35)).alloc (.cells #[.string { data := #[] }, .slice none 0 0] 35)).drew (w.heap.size + 1) 35 #[.string { data := #[] }, .slice none 0 0]) := Lib.hid (Blk.nw (by simp)).drew
  clear d1 d2
  have hbs := bytesOf_size (stB n f ((n + 7) / 8))
  have hbl := stB_len n f ((n + 7) / 8)
  have hb1 : (bytesOf [x]).size = 1 := bytesOf_size [x]
  refine region_plan (.run [0] (.held 1 (.run [2] (.held 3 (.run [7, 8] (.two 4 9 (.run [5, 6] (.ev 9 (.ev 10 (.run [11, 12] (.ev 13 (.run [14] .fin)))))) (.two 4 10 (.run [5, 6] (.ev 10 (.run [11, 12] (.ev 13 (.run [14] .fin))))) (.ev 4 (.run [5, 6, 11, 12] (.ev 13 (.run [14] .fin))))))))))) (fun w' => w'.cell? ⟨w.heap.size, 0, none⟩ = some (.string D) ∧ w'.cell? ⟨w.heap.size, 1, none⟩ = some (.slice A n c)) (by kernel_rfl) ⟨G10.out.cell 0, G10.out.cell 1⟩ ?_
  intro wd hwd
  have HB0 : Hid (Below w.heap.size w wd) := Lib.hid (hwd ▸ HB0.out)
  have HR0 : Hid (RowI wd 0 A n f) := Lib.hid (hwd ▸ HR0.out)
  have G10 : Hid (Blk wd w.heap.size 35 #[.string D, .slice A n c]) := Lib.hid (hwd ▸ G10.out)
  have G20 : Hid (Blk wd (w.heap.size + 1) 35 #[.string { data := #[] }, .slice none 0 0]) := Lib.hid (hwd ▸ G20.out)
  clear hwd
  refine plan_run fun m hm => ?_
  simp only [pickO, List.filterMap_cons, List.filterMap_nil, List.getElem?_toArray, List.getElem?_cons_zero, List.getElem?_cons_succ] at hm
  subst hm
  go_wp2_with fail
  refine ⟨rfl, by rfl, ?_⟩
  refine plan_held (v := .string D) rfl (by rfl) (fun w' hS => ?_) ?_
  · obtain ⟨hS1, hS2⟩ := hS; go_simp
  try simp only [Act.put, List.setIfInBounds_toArray, List.set_cons_zero, List.set_cons_succ]
  refine plan_run fun m hm => ?_
  simp only [pickO, List.filterMap_cons, List.filterMap_nil, List.getElem?_toArray, List.getElem?_cons_zero, List.getElem?_cons_succ] at hm
  subst hm
  go_wp2_with fail
  refine ⟨rfl, by rfl, ?_⟩
  refine plan_held (v := .slice A n c) rfl (by rfl) (fun w' hS => ?_) ?_
  · obtain ⟨hS1, hS2⟩ := hS; go_simp
  try simp only [Act.put, List.setIfInBounds_toArray, List.set_cons_zero, List.set_cons_succ]
  refine plan_run fun m hm => ?_
  simp only [pickO, List.filterMap_cons, List.filterMap_nil, List.getElem?_toArray, List.getElem?_cons_zero, List.getElem?_cons_succ] at hm
  subst hm
  go_wp2_with fail
  refine ⟨rfl, by rfl, ?_⟩
  refine plan_two (fun m hm => ?_) (fun m hm => ?_)
  · simp only [pickO, List.filterMap_cons, List.filterMap_nil, List.getElem?_toArray, List.getElem?_cons_zero, List.getElem?_cons_succ] at hm
    subst hm
    go_wp2_with (first | (go_at_call 16; refine (refBytes_walk A n c f hn hnc _ HR0.out HF.out).mono ?_; rintro e wC ⟨rfl, hb5⟩; have HB0_C := Lib.hid (HB0.out.trans (hb5.mono HB0.out.size)); have G10_C := Lib.hid (G10.out.bel hb5); have G20_C := Lib.hid (G20.out.bel hb5); clear hb5))
    refine ⟨rfl, ⟨G10_C.out.cell 0, G10_C.out.cell 1⟩, ?_⟩
    try simp only [Act.put, List.setIfInBounds_toArray, List.set_cons_zero, List.set_cons_succ]
    refine plan_run fun m hm => ?_
    simp only [pickO, List.filterMap_cons, List.filterMap_nil, List.getElem?_toArray, List.getElem?_cons_zero, List.getElem?_cons_succ] at hm
    subst hm
    go_wp2_with fail
    refine ⟨rfl, by rfl, ?_⟩
    refine plan_ev fun m hm => ?_
    simp only [pickO, List.filterMap_cons, List.filterMap_nil, List.getElem?_toArray, List.getElem?_cons_zero, List.getElem?_cons_succ] at hm
    subst hm
    go_wp2_with fail
    have HB0_C_B := Lib.hid (HB0_C.out.alloc HB0_C.out.size (.cells #[.int .u8 x] 5))
    have G10_C_B := Lib.hid (G10_C.out.alloc (.cells #[.int .u8 x] 5))
    have G20_C_B := Lib.hid (G20_C.out.alloc (.cells #[.int .u8 x] 5))
    have GU0_C_B : Hid (Blk (wC.alloc (.cells #[.int .u8 x] 5)) wC.heap.size 5 #[.int .u8 x]) := Lib.hid (Blk.new _ _ _)
    have HR0_C_B := Lib.hid (HR.out.bel HB0_C_B.out)
    obtain ⟨wB, hwB⟩ : ∃ wB, wB = wC.alloc (.cells #[.int .u8 x] 5) := ⟨_, rfl⟩
    rw [← hwB] at HB0_C_B G10_C_B G20_C_B GU0_C_B HR0_C_B ⊢
    clear hwB
    refine ⟨rfl, ⟨G10_C_B.out.cell 0, G10_C_B.out.cell 1⟩, ?_⟩
    try simp only [Act.put, List.setIfInBounds_toArray, List.set_cons_zero, List.set_cons_succ]
    refine plan_ev fun m hm => ?_
    simp only [pickO, List.filterMap_cons, List.filterMap_nil, List.getElem?_toArray, List.getElem?_cons_zero, List.getElem?_cons_succ] at hm
    subst hm
    have hcv : (convert 56 9 (.slice (some ⟨wC.heap.size, 0, none⟩) 1 1)).run Try.prog wB = .ok (.string (bytesOf [x])) wB := conv_own (ownU_made (l := [x]) GU0_C_B.out (Nat.zero_le _) rfl (by simp))
    go_wp2_with fail
    clear hcv
    refine ⟨rfl, ⟨G10_C_B.out.cell 0, G10_C_B.out.cell 1⟩, ?_⟩
    try simp only [Act.put, List.setIfInBounds_toArray, List.set_cons_zero, List.set_cons_succ]
    refine plan_run fun m hm => ?_
    simp only [pickO, List.filterMap_cons, List.filterMap_nil, List.getElem?_toArray, List.getElem?_cons_zero, List.getElem?_cons_succ] at hm
    subst hm
    go_wp2_with fail
    refine ⟨rfl, by rfl, ?_⟩
    refine plan_ev fun m hm => ?_
    simp only [pickO, List.filterMap_cons, List.filterMap_nil, List.getElem?_toArray, List.getElem?_cons_zero, List.getElem?_cons_succ] at hm
    subst hm
    refine wpList_store_far rfl 35 (.tmp 4) (.tmp 25) rfl (w.heap.size + 1) #[.string (D ++ bytesOf (stB n f ((n + 7) / 8)) ++ ⟨#[255]⟩ ++ bytesOf [x]), .slice none 0 0] _ 35 rfl rfl G20_C_B.out (by kernel_rfl) rfl (by simp [Value.oneCell']) ?_
    intro wS hB4 hf4 hb4 _ _
    have c1 : wS.cell? ⟨w.heap.size + 1, 0, none⟩ = some (.string (D ++ bytesOf (stB n f ((n + 7) / 8)) ++ ⟨#[255]⟩ ++ bytesOf [x])) := hB4.cell 0
    have c2 : wS.cell? ⟨w.heap.size + 1, 1, none⟩ = some (.slice none 0 0) := hB4.cell 1
    have HBS := Lib.hid (hb4 w.heap.size w (by omega) HB0_C_B.out)
    have G1S := Lib.hid (hf4 _ _ _ (by omega) G10_C_B.out)
    clear hf4 hb4 hB4
    refine ⟨rfl, ⟨G1S.out.cell 0, G1S.out.cell 1⟩, ?_⟩
    try simp only [Act.put, List.setIfInBounds_toArray, List.set_cons_zero, List.set_cons_succ]
    refine plan_run fun m hm => ?_
    simp only [pickO, List.filterMap_cons, List.filterMap_nil, List.getElem?_toArray, List.getElem?_cons_zero, List.getElem?_cons_succ] at hm
    subst hm
    go_wp2_with fail
    refine ⟨rfl, by rfl, ?_⟩
    refine plan_fin ?_
    go_wp2
    exact bodyPost_ret (v := .tuple #[.agg #[.string (D ++ bytesOf (stB n f ((n + 7) / 8)) ++ ⟨#[255]⟩ ++ bytesOf [x]), .slice none 0 0], .int .i64 0]) (by simp [results, Try.results14, go_sem, c1, c2]) rfl ⟨rfl, HBS.out⟩
  · simp only [pickO, List.filterMap_cons, List.filterMap_nil, List.getElem?_toArray, List.getElem?_cons_zero, List.getElem?_cons_succ] at hm
    subst hm
    go_wp2_with fail
    have HB0_B := Lib.hid (HB0.out.alloc HB0.out.size (.cells #[.int .u8 x] 5))
    have G10_B := Lib.hid (G10.out.alloc (.cells #[.int .u8 x] 5))
    have G20_B := Lib.hid (G20.out.alloc (.cells #[.int .u8 x] 5))
    have GU0_B : Hid (Blk (wd.alloc (.cells #[.int .u8 x] 5)) wd.heap.size 5 #[.int .u8 x]) := Lib.hid (Blk.new _ _ _)
    have HR0_B := Lib.hid (HR.out.bel HB0_B.out)
    obtain ⟨wB, hwB⟩ : ∃ wB, wB = wd.alloc (.cells #[.int .u8 x] 5) := ⟨_, rfl⟩
    rw [← hwB] at HB0_B G10_B G20_B GU0_B HR0_B ⊢
    clear hwB
    refine ⟨rfl, ⟨G10_B.out.cell 0, G10_B.out.cell 1⟩, ?_⟩
    try simp only [Act.put, List.setIfInBounds_toArray, List.set_cons_zero, List.set_cons_succ]
    refine plan_two (fun m hm => ?_) (fun m hm => ?_)
    · simp only [pickO, List.filterMap_cons, List.filterMap_nil, List.getElem?_toArray, List.getElem?_cons_zero, List.getElem?_cons_succ] at hm
      subst hm
      go_wp2_with (first | (go_at_call 16; refine (refBytes_walk A n c f hn hnc _ HR0_B.out HF.out).mono ?_; rintro e wC ⟨rfl, hb5⟩; have HB0_B_C := Lib.hid (HB0_B.out.trans (hb5.mono HB0_B.out.size)); have G10_B_C := Lib.hid (G10_B.out.bel hb5); have G20_B_C := Lib.hid (G20_B.out.bel hb5); have GU0_B_C := Lib.hid (GU0_B.out.bel hb5); clear hb5))
      refine ⟨rfl, ⟨G10_B_C.out.cell 0, G10_B_C.out.cell 1⟩, ?_⟩
      try simp only [Act.put, List.setIfInBounds_toArray, List.set_cons_zero, List.set_cons_succ]
      refine plan_run fun m hm => ?_
      simp only [pickO, List.filterMap_cons, List.filterMap_nil, List.getElem?_toArray, List.getElem?_cons_zero, List.getElem?_cons_succ] at hm
      subst hm
      go_wp2_with fail
      refine ⟨rfl, by rfl, ?_⟩
      refine plan_ev fun m hm => ?_
      simp only [pickO, List.filterMap_cons, List.filterMap_nil, List.getElem?_toArray, List.getElem?_cons_zero, List.getElem?_cons_succ] at hm
      subst hm
      have hcv : (convert 56 9 (.slice (some ⟨wd.heap.size, 0, none⟩) 1 1)).run Try.prog wC = .ok (.string (bytesOf [x])) wC := conv_own (ownU_made (l := [x]) GU0_B_C.out (Nat.zero_le _) rfl (by simp))
      go_wp2_with fail
      clear hcv
      refine ⟨rfl, ⟨G10_B_C.out.cell 0, G10_B_C.out.cell 1⟩, ?_⟩
      try simp only [Act.put, List.setIfInBounds_toArray, List.set_cons_zero, List.set_cons_succ]
      refine plan_run fun m hm => ?_
      simp only [pickO, List.filterMap_cons, List.filterMap_nil, List.getElem?_toArray, List.getElem?_cons_zero, List.getElem?_cons_succ] at hm
      subst hm
      go_wp2_with fail
      refine ⟨rfl, by rfl, ?_⟩
      refine plan_ev fun m hm => ?_
      simp only [pickO, List.filterMap_cons, List.filterMap_nil, List.getElem?_toArray, List.getElem?_cons_zero, List.getElem?_cons_succ] at hm
      subst hm
      refine wpList_store_far rfl 35 (.tmp 4) (.tmp 25) rfl (w.heap.size + 1) #[.string (D ++ bytesOf (stB n f ((n + 7) / 8)) ++ ⟨#[255]⟩ ++ bytesOf [x]), .slice none 0 0] _ 35 rfl rfl G20_B_C.out (by kernel_rfl) rfl (by simp [Value.oneCell']) ?_
      intro wS hB4 hf4 hb4 _ _
      have c1 : wS.cell? ⟨w.heap.size + 1, 0, none⟩ = some (.string (D ++ bytesOf (stB n f ((n + 7) / 8)) ++ ⟨#[255]⟩ ++ bytesOf [x])) := hB4.cell 0
      have c2 : wS.cell? ⟨w.heap.size + 1, 1, none⟩ = some (.slice none 0 0) := hB4.cell 1
      have HBS := Lib.hid (hb4 w.heap.size w (by omega) HB0_B_C.out)
      have G1S := Lib.hid (hf4 _ _ _ (by omega) G10_B_C.out)
      clear hf4 hb4 hB4
      refine ⟨rfl, ⟨G1S.out.cell 0, G1S.out.cell 1⟩, ?_⟩
      try simp only [Act.put, List.setIfInBounds_toArray, List.set_cons_zero, List.set_cons_succ]
      refine plan_run fun m hm => ?_
      simp only [pickO, List.filterMap_cons, List.filterMap_nil, List.getElem?_toArray, List.getElem?_cons_zero, List.getElem?_cons_succ] at hm
      subst hm
      go_wp2_with fail
      refine ⟨rfl, by rfl, ?_⟩
      refine plan_fin ?_
      go_wp2
      exact bodyPost_ret (v := .tuple #[.agg #[.string (D ++ bytesOf (stB n f ((n + 7) / 8)) ++ ⟨#[255]⟩ ++ bytesOf [x]), .slice none 0 0], .int .i64 0]) (by simp [results, Try.results14, go_sem, c1, c2]) rfl ⟨rfl, HBS.out⟩
    · simp only [pickO, List.filterMap_cons, List.filterMap_nil, List.getElem?_toArray, List.getElem?_cons_zero, List.getElem?_cons_succ] at hm
      subst hm
      have hcv : (convert 56 9 (.slice (some ⟨wd.heap.size, 0, none⟩) 1 1)).run Try.prog wB = .ok (.string (bytesOf [x])) wB := conv_own (ownU_made (l := [x]) GU0_B.out (Nat.zero_le _) rfl (by simp))
      go_wp2_with fail
      clear hcv
      refine ⟨rfl, ⟨G10_B.out.cell 0, G10_B.out.cell 1⟩, ?_⟩
      try simp only [Act.put, List.setIfInBounds_toArray, List.set_cons_zero, List.set_cons_succ]
      refine plan_ev fun m hm => ?_
      simp only [pickO, List.filterMap_cons, List.filterMap_nil, List.getElem?_toArray, List.getElem?_cons_zero, List.getElem?_cons_succ] at hm
      subst hm
      go_wp2_with (first | (go_at_call 16; refine (refBytes_walk A n c f hn hnc _ HR0_B.out HF.out).mono ?_; rintro e wC ⟨rfl, hb5⟩; have HB0_B_C := Lib.hid (HB0_B.out.trans (hb5.mono HB0_B.out.size)); have G10_B_C := Lib.hid (G10_B.out.bel hb5); have G20_B_C := Lib.hid (G20_B.out.bel hb5); have GU0_B_C := Lib.hid (GU0_B.out.bel hb5); clear hb5))
      refine ⟨rfl, ⟨G10_B_C.out.cell 0, G10_B_C.out.cell 1⟩, ?_⟩
      try simp only [Act.put, List.setIfInBounds_toArray, List.set_cons_zero, List.set_cons_succ]
      refine plan_run fun m hm => ?_
      simp only [pickO, List.filterMap_cons, List.filterMap_nil, List.getElem?_toArray, List.getElem?_cons_zero, List.getElem?_cons_succ] at hm
      subst hm
      go_wp2_with fail
      refine ⟨rfl, by rfl, ?_⟩
      refine plan_ev fun m hm => ?_
      simp only [pickO, List.filterMap_cons, List.filterMap_nil, List.getElem?_toArray, List.getElem?_cons_zero, List.getElem?_cons_succ] at hm
      subst hm
      refine wpList_store_far rfl 35 (.tmp 4) (.tmp 25) rfl (w.heap.size + 1) #[.string (D ++ bytesOf (stB n f ((n + 7) / 8)) ++ ⟨#[255]⟩ ++ bytesOf [x]), .slice none 0 0] _ 35 rfl rfl G20_B_C.out (by kernel_rfl) rfl (by simp [Value.oneCell']) ?_
      intro wS hB4 hf4 hb4 _ _
      have c1 : wS.cell? ⟨w.heap.size + 1, 0, none⟩ = some (.string (D ++ bytesOf (stB n f ((n + 7) / 8)) ++ ⟨#[255]⟩ ++ bytesOf [x])) := hB4.cell 0
      have c2 : wS.cell? ⟨w.heap.size + 1, 1, none⟩ = some (.slice none 0 0) := hB4.cell 1
      have HBS := Lib.hid (hb4 w.heap.size w (by omega) HB0_B_C.out)
      have G1S := Lib.hid (hf4 _ _ _ (by omega) G10_B_C.out)
      clear hf4 hb4 hB4
      refine ⟨rfl, ⟨G1S.out.cell 0, G1S.out.cell 1⟩, ?_⟩
      try simp only [Act.put, List.setIfInBounds_toArray, List.set_cons_zero, List.set_cons_succ]
      refine plan_run fun m hm => ?_
      simp only [pickO, List.filterMap_cons, List.filterMap_nil, List.getElem?_toArray, List.getElem?_cons_zero, List.getElem?_cons_succ] at hm
      subst hm
      go_wp2_with fail
      refine ⟨rfl, by rfl, ?_⟩
      refine plan_fin ?_
      go_wp2
      exact bodyPost_ret (v := .tuple #[.agg #[.string (D ++ bytesOf (stB n f ((n + 7) / 8)) ++ ⟨#[255]⟩ ++ bytesOf [x]), .slice none 0 0], .int .i64 0]) (by simp [results, Try.results14, go_sem, c1, c2]) rfl ⟨rfl, HBS.out⟩
end Go.Proofs.Ytidockifeofgfaa
