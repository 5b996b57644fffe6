/- The walk of a writer's Put. No condition. -/
import Derived.Test.YtaofponadaifiaaWriC
namespace Go.Proofs.Ytaofponadaifiaa
open Go.RowKit
set_option linter.unusedSimpArgs false
set_option linter.unusedVariables false
/-- Whole bytes go out. -/
def drn : Nat → List Int → Int → Int → List Int × Int × Int
  | 0, l, H, C => (l, H, C)
  | k + 1, l, H, C => if 8 ≤ C then drn k (pt l (H / 2 ^ (C - 8).toNat % 256)) (H % 2 ^ (C - 8).toNat) (C - 8) else (l, H, C)
/-- Every block stands but block g and those of bytes. -/
def KeepG (g : Nat) (w w' : World) : Prop := ∀ g' t cs, t ≠ 5 → g' ≠ g → Blk w g' t cs → Blk w' g' t cs
theorem KeepG.refl (g : Nat) (w : World) : KeepG g w w := fun _ _ _ _ _ h => h
theorem KeepG.trans {g : Nat} {a b c : World} (h : KeepG g a b) (h2 : KeepG g b c) : KeepG g a c := fun g' t cs ht hn hb => h2 g' t cs ht hn (h g' t cs ht hn hb)
theorem KeepG.of_keep {g : Nat} {a b : World} (h : KeepT 5 a b) : KeepG g a b := fun g' t cs ht _ hb => h g' t cs ht hb
theorem KeepG.set_ {g i : Nat} {a b : World} (h : KeepG g a b) (u : Value) : KeepG g a (b.setCell ⟨g, i, none⟩ u) := fun g' t cs ht hn hb => (h g' t cs ht hn hb).far hn u
theorem OwnU.far {w : World} {base : Nat} {v : Value} {l : List Int} {g i : Nat} {t : TypeId} {cs : Array Value} (hO : OwnU w base v l) (hB : Blk w g t cs) (ht : t ≠ 5) (u : Value) : OwnU (w.setCell ⟨g, i, none⟩ u) base v l := by
  refine World.ownsRow.kept (row := some g) hO ⟨rfl, rfl, rfl, by simp [World.setCell], fun k _ hk => Below.heap_setCell w _ u k (fun e => hk (by rw [e]))⟩ ?_
  rcases hO.2 with ⟨rfl, _⟩ | ⟨g', cap, cur, rfl, _, hc, _⟩
  · exact Or.inl rfl
  · refine Or.inr fun e => ht ?_
    simp [Value.ownBlock] at e
    subst e
    unfold Blk at hB
    rw [hB] at hc
    simp at hc
    exact hc.2
theorem mask_eq (H : Int) (m : Nat) (hm : m ≤ 30) (h0 : 0 ≤ H) (h1 : H < 9223372036854775808) : bits BinOp.and IntKind.i64 H (wrap64 (wrap64 (2 ^ m) - 1)) = H % 2 ^ m := by
  have a := two_pos m
  have b := two_le m 30 hm
  have e30 : (2 : Int) ^ 30 = 1073741824 := by decide
  rw [e30] at b
  have e1 : wrap64 (2 ^ m) = 2 ^ m := by unfold wrap64; omega
  have e2 : wrap64 ((2 : Int) ^ m - 1) = 2 ^ m - 1 := by unfold wrap64; omega
  rw [e1, e2]
  exact and_mask H m hm h0 h1
theorem mod_range (H : Int) (m : Nat) (h0 : 0 ≤ H) : 0 ≤ H % 2 ^ m ∧ H % 2 ^ m < 2 ^ m ∧ H % 2 ^ m ≤ H := by
  have a := two_pos m
  refine ⟨Int.emod_nonneg _ (by omega), Int.emod_lt_of_pos _ (by omega), ?_⟩
  obtain ⟨k, rfl⟩ := Int.eq_ofNat_of_zero_le h0
  rw [two_nat, ← Int.natCast_emod]
  exact Int.ofNat_le.2 (Nat.mod_le _ _)
theorem drn_step (f : Nat) (l : List Int) (H : Int) (m : Nat) : drn (f + 1) l H ((m + 8 : Nat) : Int) = drn f (pt l (H / 2 ^ m % 256)) (H % 2 ^ m) m := by
  have e1 : ((m + 8 : Nat) : Int) - 8 = m := by omega
  rw [drn, if_pos (by omega), e1, Int.toNat_natCast]
theorem put_or (h v : Int) (n : Nat) (hn : n ≤ 30) (h0 : 0 ≤ h) (h1 : h < 1073741824) (v0 : 0 ≤ v) (v1 : v < 2 ^ n) : bits .or .i64 (wrap64 (h * 2 ^ n)) v = h * 2 ^ n + v := by
  have e := or_shift h v n hn h0 h1 v0 v1
  have a := two_le n 30 hn
  have e30 : (2 : Int) ^ 30 = 1073741824 := by decide
  rw [wrap_small v v0 (by omega)] at e
  have ew : wrap64 (h * 2 ^ n) = IntKind.i64.wrap (h * 2 ^ n) := by first | rfl | (rw [IntKind.wrap_i64]; done) | (rw [IntKind.wrap_i64]; unfold wrap64; omega)
  rw [ew]
  exact e
theorem put_range (h v c : Int) (n : Nat) (hn : n ≤ 16) (c0 : 0 ≤ c) (c1 : c < 8) (h0 : 0 ≤ h) (h1 : h < 2 ^ c.toNat) (v0 : 0 ≤ v) (v1 : v < 2 ^ n) : 0 ≤ h * 2 ^ n + v ∧ h * 2 ^ n + v < 2 ^ (c.toNat + n) ∧ h * 2 ^ n + v < 8388608 := by
  have a := two_pos n
  have h2 : 0 ≤ h * 2 ^ n := Int.mul_nonneg h0 (by omega)
  have h3 : (h + 1) * 2 ^ n ≤ 2 ^ c.toNat * 2 ^ n := Int.mul_le_mul_of_nonneg_right (by omega) (by omega)
  rw [Int.add_mul, Int.one_mul, ← Int.pow_add] at h3
  have h4 := two_le (c.toNat + n) 23 (by omega)
  have e23 : (2 : Int) ^ 23 = 8388608 := by decide
  exact ⟨by omega, by omega, by omega⟩
theorem div_range (H : Int) (m : Nat) (h0 : 0 ≤ H) : 0 ≤ H / 2 ^ m ∧ H / 2 ^ m ≤ H := by
  have a := two_pos m
  exact ⟨Int.ediv_nonneg h0 (by omega), Int.ediv_le_self _ h0⟩
theorem put_start {w : World} {base g : Nat} {vv : Value} {l : List Int} {h c t : Int} (H : WrV w base g vv l h c t) (hbg : base ≤ g) (x y z : Int) :
    WrV (((w.setCell ⟨g, 1, none⟩ (.int .i64 x)).setCell ⟨g, 2, none⟩ (.int .i64 y)).setCell ⟨g, 3, none⟩ (.int .i64 z)).drew base g vv l x y z ∧
    Below base w (((w.setCell ⟨g, 1, none⟩ (.int .i64 x)).setCell ⟨g, 2, none⟩ (.int .i64 y)).setCell ⟨g, 3, none⟩ (.int .i64 z)).drew ∧
    KeepG g w (((w.setCell ⟨g, 1, none⟩ (.int .i64 x)).setCell ⟨g, 2, none⟩ (.int .i64 y)).setCell ⟨g, 3, none⟩ (.int .i64 z)).drew := by
  have b1 := H.1.set_ 1 (.int .i64 x)
  have b2 := b1.set_ 2 (.int .i64 y)
  have b3 := b2.set_ 3 (.int .i64 z)
  refine ⟨⟨b3, OwnU.far (OwnU.far (OwnU.far H.2 H.1 (by decide) _) b1 (by decide) _) b2 (by decide) _⟩, ?_, ?_⟩
  · exact ((((Below.refl base w).setCell (p := ⟨g, 1, none⟩) hbg _).setCell (p := ⟨g, 2, none⟩) hbg _).setCell (p := ⟨g, 3, none⟩) hbg _).drew
  · exact (((KeepG.refl g w).set_ (i := 1) _).set_ (i := 2) _).set_ (i := 3) _
set_option maxHeartbeats 3200000 in
theorem wput_ok (w : World) (base g : Nat) (vv : Value) (l : List Int) (h c t : Int) (H : WrV w base g vv l h c t) (hbg : base ≤ g) (hl : l.length ≤ 90000) (c0 : 0 ≤ c) (c1 : c < 8) (h0 : 0 ≤ h) (h1 : h < 2 ^ c.toNat) (t0 : 0 ≤ t) (t1 : t ≤ 100000)
    (v : Int) (n : Nat) (hn : n ≤ 16) (v0 : 0 ≤ v) (v1 : v < 2 ^ n) :
    Calls Try.prog 29 #[.pointer (some ⟨g, 0, none⟩), .int .i64 v, .int .i64 n] w fun e w' => Hid (∃ vv', e = .returned (.int .i64 0) ∧ WrV w' base g vv' (drn 3 l (h * 2 ^ n + v) (c + n)).1 (drn 3 l (h * 2 ^ n + v) (c + n)).2.1 (drn 3 l (h * 2 ^ n + v) (c + n)).2.2 (t + n) ∧ Below base w w' ∧ KeepG g w w') := by
  have k1 : w.cell? ⟨g, 1, none⟩ = some (.int .i64 h) := Blk.cell H.1 1
  have k2 : w.cell? ⟨g, 2, none⟩ = some (.int .i64 c) := Blk.cell H.1 2
  have k3 : w.cell? ⟨g, 3, none⟩ = some (.int .i64 t) := Blk.cell H.1 3
  have f1 := H.1.frozen 1
  have f2 := H.1.frozen 2
  have f3 := H.1.frozen 3
  have hgl := H.1.lt
  have HH := Lib.hid H; clear H
  have hvq : ¬ (0 < v / 2 ^ n) := by rw [Int.ediv_eq_zero_of_lt v0 v1]; decide
  have hh : h < 128 := by have a := two_le c.toNat 7 (by omega); have e : (2 : Int) ^ 7 = 128 := by decide
                          omega
  have ho := put_or h v n (by omega) h0 (by omega) v0 v1
  have HV := Lib.hid (put_range h v c n hn c0 c1 h0 h1 v0 v1)
  clear v1 h1
  obtain ⟨X, hX⟩ : ∃ X, X = h * 2 ^ n + v := ⟨_, rfl⟩
  rw [← hX] at ho HV ⊢
  obtain ⟨K, rfl⟩ := Int.eq_ofNat_of_zero_le c0
  clear hX
  go_enter Try.func29, Try.ntmps29
  go_wp2_with fail
  go_region
  have HX5 := put_start HH.out hbg X (K + n) (t + n)
  obtain ⟨w5, hw5⟩ : ∃ w5, w5 = (((w.setCell ⟨g, 1, none⟩ (.int .i64 X)).setCell ⟨g, 2, none⟩ (.int .i64 ((K : Int) + n))).setCell ⟨g, 3, none⟩ (.int .i64 (t + n))).drew := ⟨_, rfl⟩
  rw [← hw5] at HX5 ⊢
  clear hw5
  go_wp2_with fail
  go_loopw [] (fun wr => ∃ (f : Nat) (vv1 : Value) (l1 : List Int) (H1 : Int) (C1 : Nat), f ≤ 3 ∧ C1 < 8 * f + 8 ∧ 0 ≤ H1 ∧ H1 < 8388608 ∧ Hid (H1 < 2 ^ C1) ∧ l1.length + 2 * f ≤ 90006 ∧ Hid (drn 3 l X (K + n) = drn f l1 H1 C1) ∧ Hid (WrV wr base g vv1 l1 H1 C1 (t + n)) ∧ Hid (Below base w wr) ∧ Hid (KeepG g w wr)) (fun wr => (intOf ((wr.cell? ⟨g, 2, none⟩).getD (.int .i64 0))).toNat)
  case atStart => exact ⟨3, vv, l, X, K + n, by omega, by omega, HV.out.1, HV.out.2.2, Lib.hid HV.out.2.1, by omega, Lib.hid (by rw [Int.natCast_add]), Lib.hid (by rw [Int.natCast_add]; exact HX5.1), Lib.hid HX5.2.1, Lib.hid HX5.2.2⟩
  case round =>
    obtain ⟨f, vv1, l1, H1, C1, hf, hC1, hH0, hH8, hH2, hl1, hdr, HW, HB, HK⟩ := hrel
    have r2 : wr.cell? ⟨g, 2, none⟩ = some (.int .i64 C1) := Blk.cell HW.out.1 2
    have rf := HW.out.1.frozen 2
    by_cases hC : 8 ≤ C1
    · obtain ⟨m, rfl⟩ : ∃ m, C1 = m + 8 := ⟨C1 - 8, by omega⟩
      obtain ⟨f', rfl⟩ : ∃ f', f = f' + 1 := ⟨f - 1, by omega⟩
      have hB0 : 0 ≤ (H1 / 2 ^ m % 256) := by omega
      have hB1 : (H1 / 2 ^ m % 256) < 256 := by omega
      have hdv : 0 ≤ H1 / 2 ^ m ∧ H1 / 2 ^ m ≤ H1 := div_range H1 m hH0
      have hand : bits .and .i64 (H1 / 2 ^ m) 255 = (H1 / 2 ^ m % 256) := and_mask _ 8 (by omega) hdv.1 (by omega)
      have hms : ((m + 8 : Nat) : Int) = (m : Int) + 8 := by omega
      have HWX : Hid (WrV (wr.setCell ⟨g, 2, none⟩ (.int .i64 (m : Int))) base g vv1 l1 H1 m (t + n)) := Lib.hid ⟨by have e := HW.out.1.set_ 2 (.int .i64 (m : Int)); exact e, OwnU.far HW.out.2 HW.out.1 (by decide) _⟩
      have HWX1 : Hid (Blk (wr.setCell ⟨g, 2, none⟩ (.int .i64 (m : Int))) g 76 (wrC vv1 H1 m (t + n))) := Lib.hid HWX.out.1
      have HWX2 : Hid (OwnU (wr.setCell ⟨g, 2, none⟩ (.int .i64 (m : Int))) base vv1 l1) := Lib.hid HWX.out.2
      have hmask := mask_eq H1 m (by omega) hH0 (by omega)
      have HBX := Lib.hid (HB.out.setCell (p := ⟨g, 2, none⟩) hbg (.int .i64 (m : Int)))
      have HKX : Hid (KeepG g w (wr.setCell ⟨g, 2, none⟩ (.int .i64 (m : Int)))) := Lib.hid (HK.out.set_ (.int .i64 (m : Int)))
      have x0 : (wr.setCell ⟨g, 2, none⟩ (.int .i64 (m : Int))).cell? ⟨g, 0, none⟩ = some vv1 := Blk.cell HWX.out.1 0
      have x1 : (wr.setCell ⟨g, 2, none⟩ (.int .i64 (m : Int))).cell? ⟨g, 1, none⟩ = some (.int .i64 H1) := Blk.cell HWX.out.1 1
      have x2 : (wr.setCell ⟨g, 2, none⟩ (.int .i64 (m : Int))).cell? ⟨g, 2, none⟩ = some (.int .i64 m) := Blk.cell HWX.out.1 2
      go_wp2_with fail

      refine r_start (n := 19) (S := (fun w' => w'.cell? ⟨g, 1, none⟩ = some (.int .i64 H1) ∧ w'.cell? ⟨g, 2, none⟩ = some (.int .i64 m))) #[false, false, false, false, false, false, false, false, false, false, false, false, false, false, false, false, false, false, false] (by kernel_rfl) rfl rfl ⟨x1, x2⟩ (fun hHeld => ?_)
      refine r_take (i := 0) (N := some 68) (v := ?_) (a' := ?_) #[true, false, false, false, false, false, false, false, false, false, false, false, false, false, false, false, false, false, false] rfl rfl (by kernel_rfl) (fun _ _ _ h => h) hHeld (Or.inl ⟨by rfl, ?_⟩) ?_ ?_
      rotate_left
      · intro w' hSw
        (try dsimp only at hSw)
        go_simp
        try with_reducible rfl
      rotate_left
      · simp only [Act.put, List.setIfInBounds_toArray, List.set_cons_zero, List.set_cons_succ]
        rfl
      refine r_take (i := 1) (N := some 69) (v := ?_) (a' := ?_) #[true, true, false, false, false, false, false, false, false, false, false, false, false, false, false, false, false, false, false] rfl rfl (by kernel_rfl) (fun _ _ _ h => h) hHeld (Or.inl ⟨by rfl, ?_⟩) ?_ ?_
      rotate_left
      · intro w' hSw
        (try dsimp only at hSw)
        go_simp
        try with_reducible rfl
      rotate_left
      · simp only [Act.put, List.setIfInBounds_toArray, List.set_cons_zero, List.set_cons_succ]
        rfl
      refine r_take (i := 2) (N := some 70) (v := ?_) (a' := ?_) #[true, true, true, false, false, false, false, false, false, false, false, false, false, false, false, false, false, false, false] rfl rfl (by kernel_rfl) (fun _ _ _ h => h) hHeld (Or.inl ⟨by rfl, ?_⟩) ?_ ?_
      rotate_left
      · intro w' hSw
        (try dsimp only at hSw)
        go_simp
        try with_reducible rfl
      rotate_left
      · simp only [Act.put, List.setIfInBounds_toArray, List.set_cons_zero, List.set_cons_succ]
        rfl
      refine r_take (i := 3) (N := some 71) (v := ?_) (a' := ?_) #[true, true, true, true, false, false, false, false, false, false, false, false, false, false, false, false, false, false, false] rfl rfl (by kernel_rfl) (fun _ _ _ h => h) hHeld (Or.inl ⟨by rfl, ?_⟩) ?_ ?_
      rotate_left
      · intro w' hSw
        (try dsimp only at hSw)
        go_simp
        try with_reducible rfl
      rotate_left
      · simp only [Act.put, List.setIfInBounds_toArray, List.set_cons_zero, List.set_cons_succ]
        rfl
      refine r_take (i := 5) (N := some 73) (v := ?_) (a' := ?_) #[true, true, true, true, false, true, false, false, false, false, false, false, false, false, false, false, false, false, false] rfl rfl (by kernel_rfl) (fun _ _ _ h => h) hHeld (Or.inl ⟨by rfl, ?_⟩) ?_ ?_
      rotate_left
      · intro w' hSw
        (try dsimp only at hSw)
        go_simp
        try with_reducible rfl
      rotate_left
      · simp only [Act.put, List.setIfInBounds_toArray, List.set_cons_zero, List.set_cons_succ]
        rfl
      refine r_take (i := 6) (N := some 74) (v := ?_) (a' := ?_) #[true, true, true, true, false, true, true, false, false, false, false, false, false, false, false, false, false, false, false] rfl rfl (by kernel_rfl) (fun _ _ _ h => h) hHeld (Or.inl ⟨by rfl, ?_⟩) ?_ ?_
      rotate_left
      · intro w' hSw
        (try dsimp only at hSw)
        go_simp
        try with_reducible rfl
      rotate_left
      · simp only [Act.put, List.setIfInBounds_toArray, List.set_cons_zero, List.set_cons_succ]
        rfl
      refine r_take (i := 7) (N := some 75) (v := ?_) (a' := ?_) #[true, true, true, true, false, true, true, true, false, false, false, false, false, false, false, false, false, false, false] rfl rfl (by kernel_rfl) (fun _ _ _ h => h) hHeld (Or.inl ⟨by rfl, ?_⟩) ?_ ?_
      rotate_left
      · intro w' hSw
        (try dsimp only at hSw)
        go_simp
        try with_reducible rfl
      rotate_left
      · simp only [Act.put, List.setIfInBounds_toArray, List.set_cons_zero, List.set_cons_succ]
        rfl
      refine r_take (i := 8) (N := some 76) (v := ?_) (a' := ?_) #[true, true, true, true, false, true, true, true, true, false, false, false, false, false, false, false, false, false, false] rfl rfl (by kernel_rfl) (fun _ _ _ h => h) hHeld (Or.inl ⟨by rfl, ?_⟩) ?_ ?_
      rotate_left
      · intro w' hSw
        (try dsimp only at hSw)
        obtain ⟨hS1, hS2⟩ := hSw
        go_simp
        try with_reducible rfl
      rotate_left
      · simp only [Act.put, List.setIfInBounds_toArray, List.set_cons_zero, List.set_cons_succ]
        rfl
      refine r_take (i := 9) (N := some 77) (v := ?_) (a' := ?_) #[true, true, true, true, false, true, true, true, true, true, false, false, false, false, false, false, false, false, false] rfl rfl (by kernel_rfl) (fun _ _ _ h => h) hHeld (Or.inl ⟨by rfl, ?_⟩) ?_ ?_
      rotate_left
      · intro w' hSw
        (try dsimp only at hSw)
        go_simp
        try with_reducible rfl
      rotate_left
      · simp only [Act.put, List.setIfInBounds_toArray, List.set_cons_zero, List.set_cons_succ]
        rfl
      refine r_take (i := 10) (N := some 78) (v := ?_) (a' := ?_) #[true, true, true, true, false, true, true, true, true, true, true, false, false, false, false, false, false, false, false] rfl rfl (by kernel_rfl) (fun _ _ _ h => h) hHeld (Or.inl ⟨by rfl, ?_⟩) ?_ ?_
      rotate_left
      · intro w' hSw
        (try dsimp only at hSw)
        go_simp
        try with_reducible rfl
      rotate_left
      · simp only [Act.put, List.setIfInBounds_toArray, List.set_cons_zero, List.set_cons_succ]
        rfl
      refine r_take (i := 11) (N := some 79) (v := ?_) (a' := ?_) #[true, true, true, true, false, true, true, true, true, true, true, true, false, false, false, false, false, false, false] rfl rfl (by kernel_rfl) (fun _ _ _ h => h) hHeld (Or.inl ⟨by rfl, ?_⟩) ?_ ?_
      rotate_left
      · intro w' hSw
        (try dsimp only at hSw)
        go_simp
        try with_reducible rfl
      rotate_left
      · simp only [Act.put, List.setIfInBounds_toArray, List.set_cons_zero, List.set_cons_succ]
        rfl
      refine r_take (i := 12) (N := some 80) (v := ?_) (a' := ?_) #[true, true, true, true, false, true, true, true, true, true, true, true, true, false, false, false, false, false, false] rfl rfl (by kernel_rfl) (fun _ _ _ h => h) hHeld (Or.inl ⟨by rfl, ?_⟩) ?_ ?_
      rotate_left
      · intro w' hSw
        (try dsimp only at hSw)
        obtain ⟨hS1, hS2⟩ := hSw
        go_simp
        try with_reducible rfl
      rotate_left
      · simp only [Act.put, List.setIfInBounds_toArray, List.set_cons_zero, List.set_cons_succ]
        rfl
      refine r_take (i := 13) (N := some 81) (v := ?_) (a' := ?_) #[true, true, true, true, false, true, true, true, true, true, true, true, true, true, false, false, false, false, false] rfl rfl (by kernel_rfl) (fun _ _ _ h => h) hHeld (Or.inl ⟨by rfl, ?_⟩) ?_ ?_
      rotate_left
      · intro w' hSw
        (try dsimp only at hSw)
        go_simp
        try with_reducible rfl
      rotate_left
      · simp only [Act.put, List.setIfInBounds_toArray, List.set_cons_zero, List.set_cons_succ]
        rfl
      refine r_take (i := 14) (N := some 82) (v := ?_) (a' := ?_) #[true, true, true, true, false, true, true, true, true, true, true, true, true, true, true, false, false, false, false] rfl rfl (by kernel_rfl) (fun _ _ _ h => h) hHeld (Or.inl ⟨by rfl, ?_⟩) ?_ ?_
      rotate_left
      · intro w' hSw
        (try dsimp only at hSw)
        go_simp
        try with_reducible rfl
      rotate_left
      · simp only [Act.put, List.setIfInBounds_toArray, List.set_cons_zero, List.set_cons_succ]
        rfl
      refine r_one (i := 4) (N := some 72) #[true, true, true, true, true, true, true, true, true, true, true, true, true, true, true, false, false, false, false] rfl rfl (by kernel_rfl) ?_
      refine r_value (w1 := (wr.setCell ⟨g, 2, none⟩ (.int .i64 (m : Int))).drew) (v := vv1) (by rfl) rfl ?_ ?_ ?_
      · go_simp
      · exact ⟨x1, x2⟩
      intro hHeld
      try simp only [Act.put, List.setIfInBounds_toArray, List.set_cons_zero, List.set_cons_succ]
      refine r_one (i := 15) (N := some 83) #[true, true, true, true, true, true, true, true, true, true, true, true, true, true, true, true, false, false, false] rfl rfl (by kernel_rfl) ?_
      refine r_call Try.func32 (by kernel_rfl) rfl #[vv1, .int .i64 (H1 / 2 ^ m % 256)] (by rfl) rfl rfl (by simp only [List.map_toArray, List.map_cons, List.map_nil]; first | done | rfl) ?_
      with_reducible refine (put_walk (H1 / 2 ^ m % 256) hB0 hB1 _ base vv1 l1 HWX2.out.drew (Nat.le_trans hbg (Nat.le_of_lt (Blk.lt (Blk.drew HWX1.out)))) (by omega)).mono ?_
      intro e w3 hp3
      obtain ⟨v3, rfl, hO3, hB3, hK3⟩ := hp3.out
      obtain ⟨A3, c3, ev3, _⟩ := hO3.form
      obtain ⟨N3, hN3⟩ : ∃ N3, N3 = (pt l1 (H1 / 2 ^ m % 256)).length := ⟨_, rfl⟩
      rw [← hN3] at ev3
      clear hN3
      subst ev3
      have HO3 := Lib.hid hO3
      have HG3 : Hid (Blk w3 g 76 (wrC vv1 H1 m (t + n))) := Lib.hid (hK3 g _ _ (by decide) HWX1.out.drew)
      have HB3 := Lib.hid (HBX.out.drew.trans hB3)
      have HK3 : Hid (KeepG g w w3) := Lib.hid (KeepG.trans HKX.out (KeepG.of_keep hK3))
      have y0 : w3.cell? ⟨g, 0, none⟩ = some vv1 := Blk.cell HG3.out 0
      have y1 : w3.cell? ⟨g, 1, none⟩ = some (.int .i64 H1) := Blk.cell HG3.out 1
      have y2 : w3.cell? ⟨g, 2, none⟩ = some (.int .i64 m) := Blk.cell HG3.out 2
      have yf := HG3.out.frozen 0
      clear hO3 hB3 hK3 hp3
      refine ⟨_, rfl, ⟨y1, y2⟩, fun hHeld => ?_⟩
      try simp only [Act.put, List.setIfInBounds_toArray, List.set_cons_zero, List.set_cons_succ]
      refine r_take (i := 16) (N := some 84) (v := ?_) (a' := ?_) #[true, true, true, true, true, true, true, true, true, true, true, true, true, true, true, true, true, false, false] rfl rfl (by kernel_rfl) (fun _ _ _ h => h) hHeld (Or.inl ⟨by rfl, ?_⟩) ?_ ?_
      rotate_left
      · intro w' hSw
        (try dsimp only at hSw)
        go_simp
        try with_reducible rfl
      rotate_left
      · simp only [Act.put, List.setIfInBounds_toArray, List.set_cons_zero, List.set_cons_succ]
        rfl
      refine r_take (i := 17) (N := some 85) (v := ?_) (a' := ?_) #[true, true, true, true, true, true, true, true, true, true, true, true, true, true, true, true, true, true, false] rfl rfl (by kernel_rfl) (fun _ _ _ h => h) hHeld (Or.inl ⟨by rfl, ?_⟩) ?_ ?_
      rotate_left
      · intro w' hSw
        (try dsimp only at hSw)
        go_simp
        try with_reducible rfl
      rotate_left
      · simp only [Act.put, List.setIfInBounds_toArray, List.set_cons_zero, List.set_cons_succ]
        rfl
      refine r_one (i := 18) (N := none) #[true, true, true, true, true, true, true, true, true, true, true, true, true, true, true, true, true, true, true] rfl rfl (by kernel_rfl) ?_
      refine r_store (w1 := (w3.setCell ⟨g, 0, none⟩ (.slice A3 N3 c3))) (by rfl) rfl ?_ ?_ ?_
      · go_simp
      · exact ⟨(World.cell?_setCell_other w3 _ _ _ (by simp)).trans y1, (World.cell?_setCell_other w3 _ _ _ (by simp)).trans y2⟩
      intro hHeld
      try simp only [Act.put, List.setIfInBounds_toArray, List.set_cons_zero, List.set_cons_succ]
      refine r_done (by kernel_rfl) ?_
      have HW4 : Hid (WrV (w3.setCell ⟨g, 0, none⟩ (.slice A3 N3 c3)) base g (.slice A3 N3 c3) (pt l1 (H1 / 2 ^ m % 256)) H1 m (t + n)) := Lib.hid ⟨by have e := HG3.out.set_ 0 (.slice A3 N3 c3); exact e, OwnU.far HO3.out HG3.out (by decide) (.slice A3 N3 c3)⟩
      have HB4 := Lib.hid (HB3.out.setCell (p := ⟨g, 0, none⟩) hbg (.slice A3 N3 c3))
      have HK4 : Hid (KeepG g w (w3.setCell ⟨g, 0, none⟩ (.slice A3 N3 c3))) := Lib.hid (HK3.out.set_ (.slice A3 N3 c3))
      obtain ⟨w4, hw4⟩ : ∃ w4, w4 = w3.setCell ⟨g, 0, none⟩ (.slice A3 N3 c3) := ⟨_, rfl⟩
      rw [← hw4] at HW4 HB4 HK4 ⊢
      have z1 : w4.cell? ⟨g, 1, none⟩ = some (.int .i64 H1) := Blk.cell HW4.out.1 1
      have z2 : w4.cell? ⟨g, 2, none⟩ = some (.int .i64 m) := Blk.cell HW4.out.1 2
      have zf := HW4.out.1.frozen 1
      clear hw4
      go_wp2_with fail
      go_region
      go_wp2
      have HW5 : Hid (WrV ((w4.setCell ⟨g, 1, none⟩ (.int .i64 (H1 % 2 ^ m))).drew) base g (.slice A3 N3 c3) (pt l1 (H1 / 2 ^ m % 256)) (H1 % 2 ^ m) m (t + n)) := Lib.hid ⟨by have e := HW4.out.1.set_ 1 (.int .i64 (H1 % 2 ^ m)); exact e, OwnU.far HW4.out.2 HW4.out.1 (by decide) _⟩
      have z5 : ((w4.setCell ⟨g, 1, none⟩ (.int .i64 (H1 % 2 ^ m))).drew).cell? ⟨g, 2, none⟩ = some (.int .i64 m) := Blk.cell HW5.out.1 2
      have hmr := mod_range H1 m hH0
      refine ⟨⟨f', .slice A3 N3 c3, pt l1 (H1 / 2 ^ m % 256), H1 % 2 ^ m, m, by omega, by omega, hmr.1, by omega, Lib.hid hmr.2.1, by have := pt_len l1 (H1 / 2 ^ m % 256); omega, Lib.hid (hdr.out.trans (drn_step f' l1 H1 m)), HW5, Lib.hid (HB4.out.setCell (p := ⟨g, 1, none⟩) hbg _).drew, Lib.hid (HK4.out.set_ _)⟩, ?_⟩
      rw [z5, r2]
      simp [intOf]
      omega
    · have hdr2 : drn f l1 H1 C1 = (l1, H1, (C1 : Int)) := by
        cases f with
        | zero => rfl
        | succ f => rw [drn, if_neg (by omega)]
      have HD := Lib.hid (hdr.out.trans hdr2)
      clear hdr2
      go_wp2
      go_ret
      refine Lib.hid ⟨vv1, rfl, ?_, HB.out, HK.out⟩
      rw [HD.out]
      exact HW.out
end Go.Proofs.Ytaofponadaifiaa
