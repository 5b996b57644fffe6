/- The reference's frame (gen_rsd.py). No condition. -/
import Derived.Test.YthibnhgbgmpjoaaDoorHRsA
import Derived.Deep.DeepCutAuto
import Derived.Deep.CutBlock
namespace Go.Proofs.YthibnhgbgmpjoaaDoor
open Go.RowKit
set_option linter.unusedSimpArgs false
set_option linter.unusedVariables false
set_option maxRecDepth 100000
theorem results_row_tmp {P : Program} {fn : Func} {p u : Tmp} {ty : TypeId} (h : fn.results = #[.cell p ty, .tmp u]) (tmps : Array Value) (w : World) (g : Nat) (t : TypeId) (cs : Array Value) (fr : Nat × Nat) (d : TypeDesc)
    (hp : tmps.getD p undef = .pointer (some ⟨g, 0, none⟩)) (hg : w.heap[g]? = some (.cells cs t fr))
    (hu : P.underlying ty = some d) (hd : (match d with | .struct _ | .array _ _ => true | _ => false) = true) (hi : (P.info? ty).map (·.size) = some cs.size) :
    (results fn tmps).run P w = .ok (.tuple #[.agg cs, tmps.getD u undef]) w := by
  have hp' : tmps[p]?.getD undef = .pointer (some ⟨g, 0, none⟩) := by simpa using hp
  simp [results, h, hp', asAddr, run_loadVar_row w g t ty cs fr d hg hu hd hi]
/-- The cells of the document's segment. -/
def SC (c : Int) (bd : ByteArray) (qv hv : Value) (h ww : Int) (pv kv : Value) (a b hi lo n : Int) : Array Value := #[.int .i64 c, .string bd, qv, hv, .int .i64 h, .int .i64 ww, pv, kv, .int .i64 a, .int .i64 b, .int .i64 hi, .int .i64 lo, .int .i64 n]
theorem sc_size (c : Int) (bd : ByteArray) (qv hv : Value) (h ww : Int) (pv kv : Value) (a b hi lo n : Int) : (SC c bd qv hv h ww pv kv a b hi lo n).size = 13 := rfl
theorem sc_one (c : Int) (bd : ByteArray) (qv hv : Value) (h ww : Int) (pv kv : Value) (a b hi lo n : Int) (h1 : qv.oneCell' = true) (h2 : hv.oneCell' = true) (h3 : pv.oneCell' = true) (h4 : kv.oneCell' = true) : (SC c bd qv hv h ww pv kv a b hi lo n).all (·.oneCell') = true := by
  rw [Array.all_eq_true_iff_forall_mem]
  intro x hx
  simp only [SC, List.mem_toArray, List.mem_cons, List.not_mem_nil, or_false] at hx
  rcases hx with rfl | rfl | rfl | rfl | rfl | rfl | rfl | rfl | rfl | rfl | rfl | rfl | rfl <;> first | rfl | assumption
abbrev nilS : Value := .slice none 0 0
/-- What the reference's frame stands on. -/
structure RfS (w : World) (c h ww : Int) (v : Value) (l : List Pt) (wr : World) : Prop where
  x2 : Blk wr w.heap.size 37 (SC c ⟨#[]⟩ nilS nilS h ww v nilS 0 0 0 0 0)
  x4 : Blk wr (w.heap.size + 1) 37 (SC 0 ⟨#[]⟩ nilS nilS 0 0 nilS nilS 0 0 0 0 0)
  ow : OwnC Pt.cells 4 wr w.heap.size 160 v l
  be : Below w.heap.size w wr
section
variable {w wr w' : World} {c h ww : Int} {v : Value} {l : List Pt}
theorem RfS.bel (H : RfS w c h ww v l wr) (hb : Below wr.heap.size wr w') : RfS w c h ww v l w' := ⟨H.x2.bel hb, H.x4.bel hb, H.ow.bel hb, H.be.trans (hb.mono H.be.size)⟩
theorem RfS.setH (H : RfS w c h ww v l wr) (x : Int) : RfS w c x ww v l (wr.setCell ⟨w.heap.size, 4, none⟩ (.int .i64 x)) := ⟨H.x2.set_ 4 _, H.x4.far (by simp) _, H.ow.set (H.ow.neT H.x2 (by decide)) _, H.be.setCell (Nat.le_refl _) _⟩
theorem RfS.setW (H : RfS w c h ww v l wr) (x : Int) : RfS w c h x v l (wr.setCell ⟨w.heap.size, 5, none⟩ (.int .i64 x)) := ⟨H.x2.set_ 5 _, H.x4.far (by simp) _, H.ow.set (H.ow.neT H.x2 (by decide)) _, H.be.setCell (Nat.le_refl _) _⟩
end
def RFPost (w : World) (c : Int) (E : Int) (F : FrR) (e : Ending) (w' : World) : Prop :=
  ∃ cs, e = .returned (.tuple #[.agg cs, .int .i64 E]) ∧ cs.size = 13 ∧ cs.all (·.oneCell') = true ∧ (E = 0 → ∃ v, cs = SC c ⟨#[]⟩ nilS nilS F.h F.w v nilS 0 0 0 0 0 ∧ OwnC Pt.cells 4 w' w.heap.size 160 v F.l) ∧ Below w.heap.size w w'
set_option maxHeartbeats 4000000 in
theorem refFrame_walk (s : ByteArray) (c : Int) (hs : s.size ≤ 65533) (w : World) :
    Calls Tryd.prog 44 #[.agg (SC c ⟨#[]⟩ nilS nilS 0 0 nilS nilS 0 0 0 0 0), .string s] w (RFPost w c (tS (frR s st0).t (decide ((frR s st0).t.a = s.size)) 4).e (frR s st0)) := by
  obtain ⟨x, hx⟩ : ∃ n, n = nV s 1 st0 := ⟨_, rfl⟩
  obtain ⟨t0, ht0⟩ : ∃ t, t = nS s 1 st0 := ⟨_, rfl⟩
  obtain ⟨t1, ht1⟩ : ∃ t, t = tS t0 (x == 8) 6 := ⟨_, rfl⟩
  obtain ⟨hh, hhh⟩ : ∃ n, n = nV s 2 t1 := ⟨_, rfl⟩
  obtain ⟨t2, ht2⟩ : ∃ t, t = nS s 2 t1 := ⟨_, rfl⟩
  obtain ⟨ww, hww⟩ : ∃ n, n = nV s 2 t2 := ⟨_, rfl⟩
  obtain ⟨t3, ht3⟩ : ∃ t, t = nS s 2 t2 := ⟨_, rfl⟩
  obtain ⟨t4, ht4⟩ : ∃ t, t = tS t3 (decide (0 < hh ∧ 0 < ww)) 7 := ⟨_, rfl⟩
  obtain ⟨t5, ht5⟩ : ∃ t, t = tS t4 (decide (hh ≤ 16384 ∧ ww ≤ 16384)) 11 := ⟨_, rfl⟩
  obtain ⟨n, hn⟩ : ∃ n, n = nV s 1 t5 := ⟨_, rfl⟩
  obtain ⟨t6, ht6⟩ : ∃ t, t = nS s 1 t5 := ⟨_, rfl⟩
  obtain ⟨t7, ht7⟩ : ∃ t, t = tS t6 (decide (0 < n)) 7 := ⟨_, rfl⟩
  obtain ⟨t8, ht8⟩ : ∃ t, t = tS t7 (decide (n ≤ 4)) 12 := ⟨_, rfl⟩
  obtain ⟨t9, l9, hp⟩ : ∃ t l, (t, l) = ptL s n.toNat (t8, []) := ⟨_, _, rfl⟩
  have hR : frR s st0 = ⟨t9, hh, ww, l9⟩ := by
    rw [frR]
    simp only [← hx, ← ht0, ← ht1, ← hhh, ← ht2, ← hww, ← ht3, ← ht4, ← ht5, ← hn, ← ht6, ← ht7, ← ht8, ← hp]
  rw [hR]
  obtain ⟨E, hE⟩ : ∃ E, E = (tS t9 (decide (t9.a = s.size)) 4).e := ⟨_, rfl⟩
  show Calls _ _ _ _ (RFPost w c (tS t9 (decide (t9.a = s.size)) 4).e _)
  rw [← hE]
  have u9 : ∀ e, e ≠ 0 → t9.e = e → E = e := fun e he h => by rw [hE, tS_stay (by rw [h]; exact he), h]
  have u8 : ∀ e, e ≠ 0 → t8.e = e → E = e := fun e he h => u9 e he (by
    have : (ptL s n.toNat (t8, [])).1.e = e := by rw [ptL_bad _ _ _ (by rw [h]; exact he)]; exact h
    rwa [← hp] at this)
  have u7 : ∀ e, e ≠ 0 → t7.e = e → E = e := fun e he h => u8 e he (by rw [ht8, tS_stay (by rw [h]; exact he), h])
  have u6 : ∀ e, e ≠ 0 → t6.e = e → E = e := fun e he h => u7 e he (by rw [ht7, tS_stay (by rw [h]; exact he), h])
  have u5 : ∀ e, e ≠ 0 → t5.e = e → E = e := fun e he h => u6 e he (by rw [ht6, nS_stay (by rw [h]; exact he), h])
  have u4 : ∀ e, e ≠ 0 → t4.e = e → E = e := fun e he h => u5 e he (by rw [ht5, tS_stay (by rw [h]; exact he), h])
  have u3 : ∀ e, e ≠ 0 → t3.e = e → E = e := fun e he h => u4 e he (by rw [ht4, tS_stay (by rw [h]; exact he), h])
  have u2 : ∀ e, e ≠ 0 → t2.e = e → E = e := fun e he h => u3 e he (by rw [ht3, nS_stay (by rw [h]; exact he), h])
  have u1 : ∀ e, e ≠ 0 → t1.e = e → E = e := fun e he h => u2 e he (by rw [ht2, nS_stay (by rw [h]; exact he), h])
  have u0 : ∀ e, e ≠ 0 → t0.e = e → E = e := fun e he h => u1 e he (by rw [ht1, tS_stay (by rw [h]; exact he), h])
  have U0 := Lib.hid u0; have U1 := Lib.hid u1; have U2 := Lib.hid u2; have U3 := Lib.hid u3; have U4 := Lib.hid u4; have U5 := Lib.hid u5; have U6 := Lib.hid u6; have U7 := Lib.hid u7; have U8 := Lib.hid u8; have U9 := Lib.hid u9
  have HX := Lib.hid hx; have HT0 := Lib.hid ht0; have HT1 := Lib.hid ht1; have HHH := Lib.hid hhh; have HT2 := Lib.hid ht2; have HWW := Lib.hid hww; have HT3 := Lib.hid ht3; have HT4 := Lib.hid ht4; have HT5 := Lib.hid ht5; have HN := Lib.hid hn; have HT6 := Lib.hid ht6; have HT7 := Lib.hid ht7; have HT8 := Lib.hid ht8; have HP := Lib.hid hp; have HEE := Lib.hid hE
  clear u0 u1 u2 u3 u4 u5 u6 u7 u8 u9 hx ht0 ht1 hhh ht2 hww ht3 ht4 ht5 hn ht6 ht7 ht8 hp hE hR
  have hI0 : RfS w c 0 0 nilS [] ((w.alloc (.cells (SC c ⟨#[]⟩ nilS nilS 0 0 nilS nilS 0 0 0 0 0) 37)).alloc (.cells (SC 0 ⟨#[]⟩ nilS nilS 0 0 nilS nilS 0 0 0 0 0) 37)) :=
    ⟨(Blk.new w _ _).alloc _, Blk.nw (by rw [World.size_alloc]), OwnC.nil _ _ _, ((Below.refl _ _).alloc (Nat.le_refl _) _).alloc ((Below.refl w.heap.size w).alloc (Nat.le_refl _) _).size _⟩
  have HI0 := Lib.hid hI0; clear hI0
  obtain ⟨b0, hb0⟩ : ∃ b, b = bAt s 0 := ⟨_, rfl⟩
  have HB0 := Lib.hid hb0; clear hb0
  go_enter Tryd.func44, Tryd.ntmps44
  go_upto_region 1 with fail
  go_cut [6] (fun b wx => b = .int .i64 b0 ∧ Hid (RfS w c 0 0 nilS [] wx))
  case first =>
    go_wp2_with (go_at_call 58; refine (byteAt_walk s 0 (by omega) (by omega) _).mono ?_; rintro ex w1 ⟨rfl, rfl⟩; rw [← HB0.out])
    go_meet
    case rel => exact ⟨rfl, HI0⟩
  case rest =>
  obtain ⟨rfl, HI1⟩ := hcut
  obtain ⟨w1, rfl⟩ : ∃ w1, w1 = wc := ⟨_, rfl⟩
  clear HI0
  by_cases h0 : b0 < 0
  case pos =>
    have hE : E = 4 := U0.out 4 (by decide) (by rw [HT0.out]; exact bAt_no (HB0.out ▸ h0))
    have HE := Lib.hid hE; clear hE
    go_wp2_with (first | (refine wpList_load_row rfl 37 (.tmp 2) rfl w.heap.size rfl 37 _ (0, 0) _ HI1.out.x2 Tryd.underlying37 rfl (by rw [sc_size]; kernel_rfl) ?_) | (refine wpList_store_far rfl 37 (.tmp 4) _ rfl (w.heap.size + 1) _ _ 37 rfl rfl HI1.out.x4 (by rw [sc_size]; kernel_rfl) (by rw [sc_size, sc_size]) (sc_one _ _ _ _ _ _ _ _ _ _ _ _ _ rfl rfl rfl rfl) ?_; intro wz hz1 hz2 hz3 hz4 hz5; have HZ1 := Lib.hid hz1; have HZB := Lib.hid (hz3 _ _ (by omega) HI1.out.be); clear hz1 hz2 hz3 hz4 hz5))
    exact bodyPost_ret (results_row_tmp rfl _ _ (w.heap.size + 1) 37 _ (0, 0) _ rfl HZ1.out Tryd.underlying37 rfl (by rw [sc_size]; kernel_rfl)) rfl ⟨_, by rw [HE.out]; rfl, sc_size _ _ _ _ _ _ _ _ _ _ _ _ _, sc_one _ _ _ _ _ _ _ _ _ _ _ _ _ rfl rfl rfl rfl, fun h => absurd (HE.out ▸ h) (by decide), HZB.out⟩
  case neg =>
  obtain ⟨a1, a2, a3⟩ := bAt_ok (s := s) (i := 0) (by rw [← HB0.out]; omega)
  have ht0 : t0 = ⟨1, 0⟩ := by rw [HT0.out]; exact a1
  have hx : x = b0 := by rw [HX.out, HB0.out]; exact a2
  have hd0 : decide (b0 < 0) = false := by simp; omega
  by_cases h8 : b0 = 8
  case neg =>
    have hE : E = 6 := U1.out 6 (by decide) (by rw [HT1.out, ht0, hx, show (b0 == 8) = false by simpa using h8]; exact tS_false _ _)
    have h8' : (b0 == 8) = false := by simpa using h8
    have HE := Lib.hid hE; clear hE ht0 hx h8 a1 a2
    go_wp2_with (first | (refine wpList_load_row rfl 37 (.tmp 2) rfl w.heap.size rfl 37 _ (0, 0) _ HI1.out.x2 Tryd.underlying37 rfl (by rw [sc_size]; kernel_rfl) ?_) | (refine wpList_store_far rfl 37 (.tmp 4) _ rfl (w.heap.size + 1) _ _ 37 rfl rfl HI1.out.x4 (by rw [sc_size]; kernel_rfl) (by rw [sc_size, sc_size]) (sc_one _ _ _ _ _ _ _ _ _ _ _ _ _ rfl rfl rfl rfl) ?_; intro wz hz1 hz2 hz3 hz4 hz5; have HZ1 := Lib.hid hz1; have HZB := Lib.hid (hz3 _ _ (by omega) HI1.out.be); clear hz1 hz2 hz3 hz4 hz5))
    exact bodyPost_ret (results_row_tmp rfl _ _ (w.heap.size + 1) 37 _ (0, 0) _ rfl HZ1.out Tryd.underlying37 rfl (by rw [sc_size]; kernel_rfl)) rfl ⟨_, by rw [HE.out]; rfl, sc_size _ _ _ _ _ _ _ _ _ _ _ _ _, sc_one _ _ _ _ _ _ _ _ _ _ _ _ _ rfl rfl rfl rfl, fun h => absurd (HE.out ▸ h) (by decide), HZB.out⟩
  case pos =>
  have ht1 : t1 = ⟨1, 0⟩ := by rw [HT1.out, ht0, hx, h8]; exact tS_true _ _
  subst h8
  clear ht0 hx a1 a2 hd0 h0
  obtain ⟨H, hH⟩ : ∃ b, b = pAt s 1 := ⟨_, rfl⟩
  obtain ⟨W, hW⟩ : ∃ b, b = pAt s 3 := ⟨_, rfl⟩
  have hHb := pAt_bd s 1
  have hWb := pAt_bd s 3
  rw [← hH] at hHb
  rw [← hW] at hWb
  have HH := Lib.hid hH; have HW := Lib.hid hW; have HT1' := Lib.hid ht1; clear hH hW ht1
  go_wp2_with fail
  refine (pair_walk s 1 (by omega) (by omega) _).mono ?_
  rintro ex w2 ⟨rfl, hb2⟩
  rw [← HH.out]
  have HI2 := Lib.hid (HI1.out.bel hb2); clear hb2
  have e4 : w2.cell? ⟨w.heap.size, 4, none⟩ = some (.int .i64 0) := HI2.out.x2.cell 4
  have f4 := HI2.out.x2.frozen 4
  go_wp2_with fail
  have HI3 := Lib.hid (HI2.out.setH H)
  clear e4 f4
  refine (pair_walk s 3 (by omega) (by omega) _).mono ?_
  rintro ex w3 ⟨rfl, hb3⟩
  rw [← HW.out]
  have HI4 := Lib.hid (HI3.out.bel hb3); clear hb3
  have e4 : w3.cell? ⟨w.heap.size, 5, none⟩ = some (.int .i64 0) := HI4.out.x2.cell 5
  have f4 := HI4.out.x2.frozen 5
  go_upto_region 8 with fail
  have HI5 := Lib.hid (HI4.out.setW W)
  clear e4 f4
  have g4 : (w3.setCell ⟨w.heap.size, 5, none⟩ (.int .i64 W)).cell? ⟨w.heap.size, 4, none⟩ = some (.int .i64 H) := HI5.out.x2.cell 4
  have g5 : (w3.setCell ⟨w.heap.size, 5, none⟩ (.int .i64 W)).cell? ⟨w.heap.size, 5, none⟩ = some (.int .i64 W) := HI5.out.x2.cell 5
  go_cut [35] (fun b wx => b = .bool (decide (H < 0 ∨ W < 0)) ∧ Hid (RfS w c H W nilS [] wx))
  case first =>
    go_wp2_with fail
    all_goals
      go_meet
      case rel => exact ⟨congrArg Value.bool (by first | rfl | (rw [Bool.eq_iff_iff]; simp only [Bool.or_eq_true, Bool.false_eq_true, decide_eq_true_eq, beq_iff_eq, false_iff, true_iff]; done) | (rw [Bool.eq_iff_iff]; simp only [Bool.or_eq_true, Bool.false_eq_true, decide_eq_true_eq, beq_iff_eq, false_iff, true_iff]; omega)), HI5⟩
  case rest =>
  obtain ⟨rfl, HI6⟩ := hcut
  obtain ⟨w4, rfl⟩ : ∃ w4, w4 = wc := ⟨_, rfl⟩
  clear g4 g5 HI5 HI4 HI3 HI2 HI1
  by_cases hn0 : H < 0 ∨ W < 0
  case pos =>
    have hE : E = 4 := by
      by_cases hH0 : H < 0
      · exact U2.out 4 (by decide) (by rw [HT2.out, HT1'.out]; exact pAt_no (HH.out ▸ hH0))
      · obtain ⟨a1, a2, a3⟩ := pAt_ok (s := s) (i := 1) (by rw [← HH.out]; omega)
        exact U3.out 4 (by decide) (by rw [HT3.out, HT2.out, HT1'.out, a1]; exact pAt_no (HW.out ▸ (by omega)))
    have HE := Lib.hid hE; clear hE
    have hdd : decide (H < 0 ∨ W < 0) = true := decide_eq_true hn0
    rw [hdd]
    clear hdd hn0
    go_wp2_with (first | (refine wpList_load_row rfl 37 (.tmp 2) rfl w.heap.size rfl 37 _ (0, 0) _ HI6.out.x2 Tryd.underlying37 rfl (by rw [sc_size]; kernel_rfl) ?_) | (refine wpList_store_far rfl 37 (.tmp 4) _ rfl (w.heap.size + 1) _ _ 37 rfl rfl HI6.out.x4 (by rw [sc_size]; kernel_rfl) (by rw [sc_size, sc_size]) (sc_one _ _ _ _ _ _ _ _ _ _ _ _ _ rfl rfl rfl rfl) ?_; intro wz hz1 hz2 hz3 hz4 hz5; have HZ1 := Lib.hid hz1; have HZB := Lib.hid (hz3 _ _ (by omega) HI6.out.be); clear hz1 hz2 hz3 hz4 hz5))
    exact bodyPost_ret (results_row_tmp rfl _ _ (w.heap.size + 1) 37 _ (0, 0) _ rfl HZ1.out Tryd.underlying37 rfl (by rw [sc_size]; kernel_rfl)) rfl ⟨_, by rw [HE.out]; rfl, sc_size _ _ _ _ _ _ _ _ _ _ _ _ _, sc_one _ _ _ _ _ _ _ _ _ _ _ _ _ rfl rfl rfl rfl, fun h => absurd (HE.out ▸ h) (by decide), HZB.out⟩
  case neg =>
  obtain ⟨a1, a2, a3⟩ := pAt_ok (s := s) (i := 1) (by rw [← HH.out]; omega)
  obtain ⟨a4, a5, a6⟩ := pAt_ok (s := s) (i := 3) (by rw [← HW.out]; omega)
  have hh' : hh = H := by rw [HHH.out, HT1'.out, a2, HH.out]
  have ht2 : t2 = ⟨3, 0⟩ := by rw [HT2.out, HT1'.out, a1]
  have hw' : ww = W := by rw [HWW.out, ht2, a5, HW.out]
  have ht3 : t3 = ⟨5, 0⟩ := by rw [HT3.out, ht2, a4]
  subst hh' hw'
  have HT3' := Lib.hid ht3
  have hdd : decide (hh < 0 ∨ ww < 0) = false := decide_eq_false hn0
  rw [hdd]
  clear hdd ht2 ht3 a1 a2 a4 a5
  have hh0 : 0 ≤ hh := by omega
  have ww0 : 0 ≤ ww := by omega
  clear hn0
  have g4 : w4.cell? ⟨w.heap.size, 4, none⟩ = some (.int .i64 hh) := HI6.out.x2.cell 4
  have g5 : w4.cell? ⟨w.heap.size, 5, none⟩ = some (.int .i64 ww) := HI6.out.x2.cell 5
  go_upto_region 10 with fail
  go_cut [44] (fun b wx => b = .bool (decide (hh = 0 ∨ ww = 0)) ∧ wx = w4)
  case first =>
    go_wp2_with fail
    all_goals
      go_meet
      case rel => exact ⟨congrArg Value.bool (by first | rfl | (rw [Bool.eq_iff_iff]; simp only [Bool.or_eq_true, Bool.false_eq_true, decide_eq_true_eq, beq_iff_eq, false_iff, true_iff]; done) | (rw [Bool.eq_iff_iff]; simp only [Bool.or_eq_true, Bool.false_eq_true, decide_eq_true_eq, beq_iff_eq, false_iff, true_iff]; omega)), rfl⟩
  case rest =>
  obtain ⟨rfl, rfl⟩ := hcut
  by_cases hz : hh = 0 ∨ ww = 0
  case pos =>
    have hE : E = 7 := U4.out 7 (by decide) (by rw [HT4.out, HT3'.out, decide_eq_false (by omega)]; exact tS_false _ _)
    have HE := Lib.hid hE; clear hE
    have hdd : decide (hh = 0 ∨ ww = 0) = true := decide_eq_true hz
    rw [hdd]
    clear hdd hz g4 g5
    go_wp2_with (first | (refine wpList_load_row rfl 37 (.tmp 2) rfl w.heap.size rfl 37 _ (0, 0) _ HI6.out.x2 Tryd.underlying37 rfl (by rw [sc_size]; kernel_rfl) ?_) | (refine wpList_store_far rfl 37 (.tmp 4) _ rfl (w.heap.size + 1) _ _ 37 rfl rfl HI6.out.x4 (by rw [sc_size]; kernel_rfl) (by rw [sc_size, sc_size]) (sc_one _ _ _ _ _ _ _ _ _ _ _ _ _ rfl rfl rfl rfl) ?_; intro wz hz1 hz2 hz3 hz4 hz5; have HZ1 := Lib.hid hz1; have HZB := Lib.hid (hz3 _ _ (by omega) HI6.out.be); clear hz1 hz2 hz3 hz4 hz5))
    exact bodyPost_ret (results_row_tmp rfl _ _ (w.heap.size + 1) 37 _ (0, 0) _ rfl HZ1.out Tryd.underlying37 rfl (by rw [sc_size]; kernel_rfl)) rfl ⟨_, by rw [HE.out]; rfl, sc_size _ _ _ _ _ _ _ _ _ _ _ _ _, sc_one _ _ _ _ _ _ _ _ _ _ _ _ _ rfl rfl rfl rfl, fun h => absurd (HE.out ▸ h) (by decide), HZB.out⟩
  case neg =>
  have ht4 : t4 = ⟨5, 0⟩ := by rw [HT4.out, HT3'.out, decide_eq_true (by omega)]; exact tS_true _ _
  have hdd : decide (hh = 0 ∨ ww = 0) = false := decide_eq_false hz
  rw [hdd]
  clear hdd
  have HT4' := Lib.hid ht4; clear ht4
  have hh1 : 1 ≤ hh := by omega
  have ww1 : 1 ≤ ww := by omega
  clear hz hh0 ww0
  go_upto_region 12 with fail
  go_cut [53] (fun b wx => b = .bool (decide (16384 < hh ∨ 16384 < ww)) ∧ wx = wc)
  case first =>
    go_wp2_with fail
    all_goals
      go_meet
      case rel => exact ⟨congrArg Value.bool (by first | rfl | (rw [Bool.eq_iff_iff]; simp only [Bool.or_eq_true, Bool.false_eq_true, decide_eq_true_eq, beq_iff_eq, false_iff, true_iff]; done) | (rw [Bool.eq_iff_iff]; simp only [Bool.or_eq_true, Bool.false_eq_true, decide_eq_true_eq, beq_iff_eq, false_iff, true_iff]; omega)), rfl⟩
  case rest =>
  obtain ⟨rfl, rfl⟩ := hcut
  by_cases hz : 16384 < hh ∨ 16384 < ww
  case pos =>
    have hE : E = 11 := U5.out 11 (by decide) (by rw [HT5.out, HT4'.out, decide_eq_false (by omega)]; exact tS_false _ _)
    have HE := Lib.hid hE; clear hE
    have hdd : decide (16384 < hh ∨ 16384 < ww) = true := decide_eq_true hz
    rw [hdd]
    clear hdd hz g4 g5
    go_wp2_with (first | (refine wpList_load_row rfl 37 (.tmp 2) rfl w.heap.size rfl 37 _ (0, 0) _ HI6.out.x2 Tryd.underlying37 rfl (by rw [sc_size]; kernel_rfl) ?_) | (refine wpList_store_far rfl 37 (.tmp 4) _ rfl (w.heap.size + 1) _ _ 37 rfl rfl HI6.out.x4 (by rw [sc_size]; kernel_rfl) (by rw [sc_size, sc_size]) (sc_one _ _ _ _ _ _ _ _ _ _ _ _ _ rfl rfl rfl rfl) ?_; intro wz hz1 hz2 hz3 hz4 hz5; have HZ1 := Lib.hid hz1; have HZB := Lib.hid (hz3 _ _ (by omega) HI6.out.be); clear hz1 hz2 hz3 hz4 hz5))
    exact bodyPost_ret (results_row_tmp rfl _ _ (w.heap.size + 1) 37 _ (0, 0) _ rfl HZ1.out Tryd.underlying37 rfl (by rw [sc_size]; kernel_rfl)) rfl ⟨_, by rw [HE.out]; rfl, sc_size _ _ _ _ _ _ _ _ _ _ _ _ _, sc_one _ _ _ _ _ _ _ _ _ _ _ _ _ rfl rfl rfl rfl, fun h => absurd (HE.out ▸ h) (by decide), HZB.out⟩
  case neg =>
  have ht5 : t5 = ⟨5, 0⟩ := by rw [HT5.out, HT4'.out, decide_eq_true (by omega)]; exact tS_true _ _
  have hdd : decide (16384 < hh ∨ 16384 < ww) = false := decide_eq_false hz
  rw [hdd]
  clear hdd g4 g5
  obtain ⟨b5, hb5⟩ : ∃ b, b = bAt s 5 := ⟨_, rfl⟩
  have hb5b := bAt_bd s 5
  rw [← hb5] at hb5b
  have HT5' := Lib.hid ht5; have HB5 := Lib.hid hb5; clear ht5 hb5
  go_upto_region 15 with (go_at_call 58; refine (byteAt_walk s 5 (by omega) (by omega) _).mono ?_; rintro ex w1 ⟨rfl, rfl⟩; rw [← HB5.out])
  by_cases hbn : b5 < 0
  case pos =>
    have hE : E = 4 := U6.out 4 (by decide) (by rw [HT6.out, HT5'.out]; exact bAt_no (HB5.out ▸ hbn))
    have HE := Lib.hid hE; clear hE hz
    go_wp2_with (first | (refine wpList_load_row rfl 37 (.tmp 2) rfl w.heap.size rfl 37 _ (0, 0) _ HI6.out.x2 Tryd.underlying37 rfl (by rw [sc_size]; kernel_rfl) ?_) | (refine wpList_store_far rfl 37 (.tmp 4) _ rfl (w.heap.size + 1) _ _ 37 rfl rfl HI6.out.x4 (by rw [sc_size]; kernel_rfl) (by rw [sc_size, sc_size]) (sc_one _ _ _ _ _ _ _ _ _ _ _ _ _ rfl rfl rfl rfl) ?_; intro wz hz1 hz2 hz3 hz4 hz5; have HZ1 := Lib.hid hz1; have HZB := Lib.hid (hz3 _ _ (by omega) HI6.out.be); clear hz1 hz2 hz3 hz4 hz5))
    exact bodyPost_ret (results_row_tmp rfl _ _ (w.heap.size + 1) 37 _ (0, 0) _ rfl HZ1.out Tryd.underlying37 rfl (by rw [sc_size]; kernel_rfl)) rfl ⟨_, by rw [HE.out]; rfl, sc_size _ _ _ _ _ _ _ _ _ _ _ _ _, sc_one _ _ _ _ _ _ _ _ _ _ _ _ _ rfl rfl rfl rfl, fun h => absurd (HE.out ▸ h) (by decide), HZB.out⟩
  case neg =>
  obtain ⟨a1, a2, a3⟩ := bAt_ok (s := s) (i := 5) (by rw [← HB5.out]; omega)
  have hnb : n = b5 := by rw [HN.out, HT5'.out, a2, HB5.out]
  have ht6 : t6 = ⟨6, 0⟩ := by rw [HT6.out, HT5'.out, a1]
  subst hnb
  obtain ⟨N, rfl⟩ := Int.eq_ofNat_of_zero_le (show 0 ≤ n by omega)
  have HT6' := Lib.hid ht6
  clear ht6 a1 a2 hz hbn
  by_cases hN0 : N = 0
  case pos =>
    have hE : E = 7 := U7.out 7 (by decide) (by rw [HT7.out, HT6'.out, decide_eq_false (by omega)]; exact tS_false _ _)
    have HE := Lib.hid hE; clear hE
    subst hN0
    go_wp2_with (first | (refine wpList_load_row rfl 37 (.tmp 2) rfl w.heap.size rfl 37 _ (0, 0) _ HI6.out.x2 Tryd.underlying37 rfl (by rw [sc_size]; kernel_rfl) ?_) | (refine wpList_store_far rfl 37 (.tmp 4) _ rfl (w.heap.size + 1) _ _ 37 rfl rfl HI6.out.x4 (by rw [sc_size]; kernel_rfl) (by rw [sc_size, sc_size]) (sc_one _ _ _ _ _ _ _ _ _ _ _ _ _ rfl rfl rfl rfl) ?_; intro wz hz1 hz2 hz3 hz4 hz5; have HZ1 := Lib.hid hz1; have HZB := Lib.hid (hz3 _ _ (by omega) HI6.out.be); clear hz1 hz2 hz3 hz4 hz5))
    exact bodyPost_ret (results_row_tmp rfl _ _ (w.heap.size + 1) 37 _ (0, 0) _ rfl HZ1.out Tryd.underlying37 rfl (by rw [sc_size]; kernel_rfl)) rfl ⟨_, by rw [HE.out]; rfl, sc_size _ _ _ _ _ _ _ _ _ _ _ _ _, sc_one _ _ _ _ _ _ _ _ _ _ _ _ _ rfl rfl rfl rfl, fun h => absurd (HE.out ▸ h) (by decide), HZB.out⟩
  case neg =>
  have ht7 : t7 = ⟨6, 0⟩ := by rw [HT7.out, HT6'.out, decide_eq_true (by omega)]; exact tS_true _ _
  have HT7' := Lib.hid ht7; clear ht7
  have hn00 : ((N : Int) == 0) = false := by simpa using hN0
  by_cases hN4 : 4 < N
  case pos =>
    have hE : E = 12 := U8.out 12 (by decide) (by rw [HT8.out, HT7'.out, decide_eq_false (by omega)]; exact tS_false _ _)
    have HE := Lib.hid hE; clear hE
    have hd4 : decide (4 < (N : Int)) = true := by simp; omega
    go_wp2_with (first | (refine wpList_load_row rfl 37 (.tmp 2) rfl w.heap.size rfl 37 _ (0, 0) _ HI6.out.x2 Tryd.underlying37 rfl (by rw [sc_size]; kernel_rfl) ?_) | (refine wpList_store_far rfl 37 (.tmp 4) _ rfl (w.heap.size + 1) _ _ 37 rfl rfl HI6.out.x4 (by rw [sc_size]; kernel_rfl) (by rw [sc_size, sc_size]) (sc_one _ _ _ _ _ _ _ _ _ _ _ _ _ rfl rfl rfl rfl) ?_; intro wz hz1 hz2 hz3 hz4 hz5; have HZ1 := Lib.hid hz1; have HZB := Lib.hid (hz3 _ _ (by omega) HI6.out.be); clear hz1 hz2 hz3 hz4 hz5))
    exact bodyPost_ret (results_row_tmp rfl _ _ (w.heap.size + 1) 37 _ (0, 0) _ rfl HZ1.out Tryd.underlying37 rfl (by rw [sc_size]; kernel_rfl)) rfl ⟨_, by rw [HE.out]; rfl, sc_size _ _ _ _ _ _ _ _ _ _ _ _ _, sc_one _ _ _ _ _ _ _ _ _ _ _ _ _ rfl rfl rfl rfl, fun h => absurd (HE.out ▸ h) (by decide), HZB.out⟩
  case neg =>
  have ht8 : t8 = ⟨6, 0⟩ := by rw [HT8.out, HT7'.out, decide_eq_true (by omega)]; exact tS_true _ _
  have hP8 : (t9, l9) = ptL s N (⟨6, 0⟩, []) := by rw [HP.out, ht8]; simp
  have hd4 : decide (4 < (N : Int)) = false := by simp; omega
  have HP8 := Lib.hid hP8; clear ht8 hP8
  go_wp2_with fail
  go_loopw [8] (fun kv wr => ∃ (k : Nat) (v : Value) (l : List Pt), k ≤ N ∧ kv = .int .i64 k ∧ Hid (RfS w c hh ww v l wr) ∧ Hid (ptL s (N - k) (⟨6 + 3 * k, 0⟩, l) = (t9, l9)) ∧ Hid (l.length = k)) (fun kv _ => N - (intOf kv).toNat)
  case atStart => exact ⟨0, nilS, [], by omega, rfl, HI6, Lib.hid HP8.out.symm, Lib.hid rfl⟩
  case round =>
    obtain ⟨k, v, l, hk, rfl, HI, HPk, HL⟩ := hrel
    obtain ⟨A, n1, cp, rfl⟩ := HI.out.ow.form2
    by_cases hkN : k < N
    case neg =>
      obtain rfl : k = N := by omega
      have hfin : (t9, l9) = (⟨6 + 3 * k, 0⟩, l) := by rw [← HPk.out, Nat.sub_self]; rfl
      injection hfin with hf1 hf2
      by_cases hsz : s.size = 6 + 3 * k
      case neg =>
        have hE : E = 4 := by rw [HEE.out, hf1, decide_eq_false (by show ¬ (6 + 3 * k = s.size); omega)]; exact tS_false _ _
        have HE := Lib.hid hE
        have hq1 : ((s.size : Int) != 6 + 3 * (k : Int)) = true := by simp; omega
        have hq2 : ((s.size : Int) == 6 + 3 * (k : Int)) = false := by simp; omega
        clear hE hf1 hf2 hsz
        go_wp2_with (first | (refine wpList_load_row rfl 37 (.tmp 2) rfl w.heap.size rfl 37 _ (0, 0) _ HI.out.x2 Tryd.underlying37 rfl (by rw [sc_size]; kernel_rfl) ?_) | (refine wpList_store_far rfl 37 (.tmp 4) _ rfl (w.heap.size + 1) _ _ 37 rfl rfl HI.out.x4 (by rw [sc_size]; kernel_rfl) (by rw [sc_size, sc_size]) (sc_one _ _ _ _ _ _ _ _ _ _ _ _ _ rfl rfl rfl rfl) ?_; intro wz hz1 hz2 hz3 hz4 hz5; have HZ1 := Lib.hid hz1; have HZB := Lib.hid (hz3 _ _ (by omega) HI.out.be); clear hz1 hz2 hz3 hz4 hz5))
        exact bodyPost_ret (results_row_tmp rfl _ _ (w.heap.size + 1) 37 _ (0, 0) _ rfl HZ1.out Tryd.underlying37 rfl (by rw [sc_size]; kernel_rfl)) rfl ⟨_, by rw [HE.out]; rfl, sc_size _ _ _ _ _ _ _ _ _ _ _ _ _, sc_one _ _ _ _ _ _ _ _ _ _ _ _ _ rfl rfl rfl rfl, fun h => absurd (HE.out ▸ h) (by decide), HZB.out⟩
      case pos =>
        have hE : E = 0 := by rw [HEE.out, hf1, decide_eq_true (by show 6 + 3 * k = s.size; omega), tS_true]
        have HE := Lib.hid hE; have HF2 := Lib.hid hf2
        have hq1 : ((s.size : Int) != 6 + 3 * (k : Int)) = false := by simp; omega
        have hq2 : ((s.size : Int) == 6 + 3 * (k : Int)) = true := by simp; omega
        clear hE hf1 hf2 hsz
        go_wp2_with (first | (refine wpList_load_row rfl 37 (.tmp 2) rfl w.heap.size rfl 37 _ (0, 0) _ HI.out.x2 Tryd.underlying37 rfl (by rw [sc_size]; kernel_rfl) ?_) | (refine wpList_store_far rfl 37 (.tmp 4) _ rfl (w.heap.size + 1) _ _ 37 rfl rfl HI.out.x4 (by rw [sc_size]; kernel_rfl) (by rw [sc_size, sc_size]) (sc_one _ _ _ _ _ _ _ _ _ _ _ _ _ rfl rfl rfl rfl) ?_; intro wz hz1 hz2 hz3 hz4 hz5; have HZ1 := Lib.hid hz1; have HZB := Lib.hid (hz3 _ _ (by omega) HI.out.be); have HZO := Lib.hid (HI.out.ow.keep fun g' cs hB => hz2 g' _ cs (hB.ne HI.out.x4 (by decide)) hB); clear hz1 hz2 hz3 hz4 hz5))
        exact bodyPost_ret (results_row_tmp rfl _ _ (w.heap.size + 1) 37 _ (0, 0) _ rfl HZ1.out Tryd.underlying37 rfl (by rw [sc_size]; kernel_rfl)) rfl ⟨_, by rw [HE.out]; rfl, sc_size _ _ _ _ _ _ _ _ _ _ _ _ _, sc_one _ _ _ _ _ _ _ _ _ _ _ _ _ rfl rfl rfl rfl, fun _ => ⟨_, rfl, by rw [HF2.out]; exact HZO.out⟩, HZB.out⟩
    case pos =>
    obtain ⟨a, ha⟩ : ∃ a, a = 6 + 3 * k := ⟨_, rfl⟩
    rw [← ha] at HPk
    obtain ⟨id, hid⟩ : ∃ b, b = bAt s a := ⟨_, rfl⟩
    obtain ⟨hv, hhv⟩ : ∃ b, b = bAt s (a + 1) := ⟨_, rfl⟩
    obtain ⟨q, hq⟩ : ∃ b, b = bAt s (a + 2) := ⟨_, rfl⟩
    have hidb := bAt_bd s a; have hhvb := bAt_bd s (a + 1); have hqb := bAt_bd s (a + 2)
    rw [← hid] at hidb; rw [← hhv] at hhvb; rw [← hq] at hqb
    obtain ⟨id0, id1⟩ := hidb; obtain ⟨hv0, hv1⟩ := hhvb; obtain ⟨q0, q1⟩ := hqb
    obtain ⟨p1, hp1⟩ : ∃ t, t = nS s 1 ⟨a, 0⟩ := ⟨_, rfl⟩
    obtain ⟨id', hid'⟩ : ∃ n, n = nV s 1 ⟨a, 0⟩ := ⟨_, rfl⟩
    obtain ⟨v', hv'⟩ : ∃ n, n = nV s 1 p1 := ⟨_, rfl⟩
    obtain ⟨p2, hp2⟩ : ∃ t, t = nS s 1 p1 := ⟨_, rfl⟩
    obtain ⟨p3, hp3⟩ : ∃ t, t = tS p2 (decide (1 ≤ v' / 16 ∧ v' / 16 ≤ 4 ∧ 1 ≤ v' % 16 ∧ v' % 16 ≤ 4)) 7 := ⟨_, rfl⟩
    obtain ⟨q', hq'⟩ : ∃ n, n = nV s 1 p3 := ⟨_, rfl⟩
    obtain ⟨p4, hp4⟩ : ∃ t, t = nS s 1 p3 := ⟨_, rfl⟩
    obtain ⟨p5, hp5⟩ : ∃ t, t = tS p4 (decide (q' ≤ 3)) 7 := ⟨_, rfl⟩
    obtain ⟨p6, hp6⟩ : ∃ t, t = idT 7 id' (l.map Pt.id) p5 := ⟨_, rfl⟩
    have hnext : ptL s (N - (k + 1)) (p6, l ++ [⟨id', v' / 16, v' % 16, q'⟩]) = (t9, l9) := by
      have e : pt1 s (⟨a, 0⟩, l) = (p6, l ++ [⟨id', v' / 16, v' % 16, q'⟩]) := by
        rw [pt1]; simp only [← hp1, ← hid', ← hv', ← hp2, ← hp3, ← hq', ← hp4, ← hp5, ← hp6]
      rw [← HPk.out, show N - k = (N - (k + 1)) + 1 by omega, ptL, if_pos rfl, e]
    have v6 : ∀ e, e ≠ 0 → p6.e = e → E = e := fun e he h => U9.out e he (by
      have h2 := ptL_bad s (N - (k + 1)) (p6, l ++ [⟨id', v' / 16, v' % 16, q'⟩]) (by show p6.e ≠ 0; rw [h]; exact he)
      rw [hnext] at h2; injection h2 with h2 _; rw [h2]; exact h)
    have v5 : ∀ e, e ≠ 0 → p5.e = e → E = e := fun e he h => v6 e he (by rw [hp6, idT_stay (by rw [h]; exact he), h])
    have v4 : ∀ e, e ≠ 0 → p4.e = e → E = e := fun e he h => v5 e he (by rw [hp5, tS_stay (by rw [h]; exact he), h])
    have v3 : ∀ e, e ≠ 0 → p3.e = e → E = e := fun e he h => v4 e he (by rw [hp4, nS_stay (by rw [h]; exact he), h])
    have v2 : ∀ e, e ≠ 0 → p2.e = e → E = e := fun e he h => v3 e he (by rw [hp3, tS_stay (by rw [h]; exact he), h])
    have v1 : ∀ e, e ≠ 0 → p1.e = e → E = e := fun e he h => v2 e he (by rw [hp2, nS_stay (by rw [h]; exact he), h])
    have HNX := Lib.hid hnext; have V6 := Lib.hid v6; have V4 := Lib.hid v4; have V5 := Lib.hid v5; have V3 := Lib.hid v3; have V2 := Lib.hid v2; have V1 := Lib.hid v1; have HA := Lib.hid ha; have HID := Lib.hid hid; have HHV := Lib.hid hhv; have HQ := Lib.hid hq; have HP1 := Lib.hid hp1; have HID' := Lib.hid hid'; have HV' := Lib.hid hv'; have HP2 := Lib.hid hp2; have HP3 := Lib.hid hp3; have HQ' := Lib.hid hq'; have HP4 := Lib.hid hp4; have HP5 := Lib.hid hp5; have HP6 := Lib.hid hp6
    have hak : a ≤ 1000 := by omega
    clear hnext v1 v2 v3 v4 v5 v6 hid hhv hq hp1 hid' hv' hp2 hp3 hq' hp4 hp5 hp6 ha
    go_wp2_with fail
    refine (byteAt_z s _ a (by rw [HA.out]; omega) (by omega) (by omega) _).mono ?_
    rintro ex w1 ⟨rfl, rfl⟩
    rw [← HID.out]
    go_wp2_with fail
    refine (byteAt_z s _ (a + 1) (by rw [HA.out]; omega) (by omega) (by omega) _).mono ?_
    rintro ex w1 ⟨rfl, rfl⟩
    rw [← HHV.out]
    go_wp2_with fail
    refine (byteAt_z s _ (a + 2) (by rw [HA.out]; omega) (by omega) (by omega) _).mono ?_
    rintro ex w1 ⟨rfl, rfl⟩
    rw [← HQ.out]
    go_upto_region 25 with fail
    go_cut [91] (fun b wx => b = .bool (decide (id < 0 ∨ hv < 0)) ∧ wx = wr)
    case first =>
      go_wp2_with fail
      all_goals
        go_meet
        case rel => exact ⟨congrArg Value.bool (by first | rfl | (rw [Bool.eq_iff_iff]; simp only [Bool.or_eq_true, Bool.false_eq_true, decide_eq_true_eq, beq_iff_eq, false_iff, true_iff]; done) | (rw [Bool.eq_iff_iff]; simp only [Bool.or_eq_true, Bool.false_eq_true, decide_eq_true_eq, beq_iff_eq, false_iff, true_iff]; omega)), rfl⟩
    case rest =>
    obtain ⟨rfl, rfl⟩ := hcut
    obtain ⟨wr, rfl⟩ : ∃ wr, wr = wc := ⟨_, rfl⟩
    by_cases hn0 : id < 0 ∨ hv < 0
    case pos =>
      have hE : E = 4 := by
        by_cases h1 : id < 0
        · exact V1.out 4 (by decide) (by rw [HP1.out]; exact bAt_no (HID.out ▸ h1))
        · obtain ⟨a1, a2, a3⟩ := bAt_ok (s := s) (i := a) (by rw [← HID.out]; omega)
          exact V2.out 4 (by decide) (by rw [HP2.out, HP1.out, a1]; exact bAt_no (HHV.out ▸ (by omega)))
      have HE := Lib.hid hE; clear hE
      have hdd : decide (id < 0 ∨ hv < 0) = true := decide_eq_true hn0
      rw [hdd]
      clear hdd hn0
      go_wp2_with (first | (refine wpList_load_row rfl 37 (.tmp 2) rfl w.heap.size rfl 37 _ (0, 0) _ HI.out.x2 Tryd.underlying37 rfl (by rw [sc_size]; kernel_rfl) ?_) | (refine wpList_store_far rfl 37 (.tmp 4) _ rfl (w.heap.size + 1) _ _ 37 rfl rfl HI.out.x4 (by rw [sc_size]; kernel_rfl) (by rw [sc_size, sc_size]) (sc_one _ _ _ _ _ _ _ _ _ _ _ _ _ rfl rfl rfl rfl) ?_; intro wz hz1 hz2 hz3 hz4 hz5; have HZ1 := Lib.hid hz1; have HZB := Lib.hid (hz3 _ _ (by omega) HI.out.be); clear hz1 hz2 hz3 hz4 hz5))
      exact bodyPost_ret (results_row_tmp rfl _ _ (w.heap.size + 1) 37 _ (0, 0) _ rfl HZ1.out Tryd.underlying37 rfl (by rw [sc_size]; kernel_rfl)) rfl ⟨_, by rw [HE.out]; rfl, sc_size _ _ _ _ _ _ _ _ _ _ _ _ _, sc_one _ _ _ _ _ _ _ _ _ _ _ _ _ rfl rfl rfl rfl, fun h => absurd (HE.out ▸ h) (by decide), HZB.out⟩
    case neg =>
    obtain ⟨a1, a2, a3⟩ := bAt_ok (s := s) (i := a) (by rw [← HID.out]; omega)
    obtain ⟨a4, a5, a6⟩ := bAt_ok (s := s) (i := a + 1) (by rw [← HHV.out]; omega)
    have e1 : id' = id := by rw [HID'.out, a2, HID.out]
    have e2 : p1 = ⟨a + 1, 0⟩ := by rw [HP1.out, a1]
    have e3 : v' = hv := by rw [HV'.out, e2, a5, HHV.out]
    have e4 : p2 = ⟨a + 2, 0⟩ := by rw [HP2.out, e2, a4]
    subst e1 e3
    have HP2' := Lib.hid e4
    have hdd : decide (id' < 0 ∨ v' < 0) = false := decide_eq_false hn0
    rw [hdd]
    have id00 : 0 ≤ id' := by omega
    have hv00 : 0 ≤ v' := by omega
    clear hdd hn0 a1 a2 a4 a5 e2 e4
    obtain ⟨x, hx⟩ : ∃ x, x = v' / 16 := ⟨_, rfl⟩
    obtain ⟨y, hy⟩ : ∃ y, y = v' % 16 := ⟨_, rfl⟩
    rw [← hx, ← hy] at HP3 HNX
    have HX := Lib.hid hx; have HY := Lib.hid hy
    clear hx hy
    go_upto_region 28 with fail
    rw [← HX.out, ← HY.out]
    have hal : Below wr.heap.size wr (wr.alloc (.cells #[.int .i64 id', .int .i64 x, .int .i64 y, .int .i64 q] 160)) := (Below.refl _ _).alloc (Nat.le_refl _) _
    have HI2 := Lib.hid (HI.out.bel hal)
    have hne : (Value.slice A n1 cp).ownBlock ≠ some wr.heap.size := HI.out.ow.ne (Nat.le_refl _)
    have HPT : Hid (Blk (wr.alloc (.cells #[.int .i64 id', .int .i64 x, .int .i64 y, .int .i64 q] 160)) wr.heap.size 160 #[.int .i64 id', .int .i64 x, .int .i64 y, .int .i64 q]) := Lib.hid (Blk.new _ _ _)
    clear hal hne
    go_cut [117] (fun b wx => b = .bool (decide (x < 1 ∨ 4 < x ∨ y < 1 ∨ 4 < y)) ∧ Hid (RfS w c hh ww (.slice A n1 cp) l wx) ∧ Hid (Blk wx wr.heap.size 160 #[.int .i64 id', .int .i64 x, .int .i64 y, .int .i64 q]))
    case first =>
      go_wp2_with fail
      all_goals
        go_meet
        case rel => exact ⟨congrArg Value.bool (by first | rfl | (rw [Bool.eq_iff_iff]; simp only [Bool.or_eq_true, Bool.false_eq_true, decide_eq_true_eq, beq_iff_eq, false_iff, true_iff]; done) | (rw [Bool.eq_iff_iff]; simp only [Bool.or_eq_true, Bool.false_eq_true, decide_eq_true_eq, beq_iff_eq, false_iff, true_iff]; omega)), HI2, HPT⟩
    case rest =>
    obtain ⟨rfl, HI3, HPT3⟩ := hcut
    clear HI HI2 HPT
    obtain ⟨w5, rfl⟩ : ∃ w5, w5 = wc := ⟨_, rfl⟩
    by_cases hrg : x < 1 ∨ 4 < x ∨ y < 1 ∨ 4 < y
    case pos =>
      have hE : E = 7 := V3.out 7 (by decide) (by rw [HP3.out, HP2'.out, decide_eq_false (by omega)]; exact tS_false _ _)
      have HE := Lib.hid hE; clear hE
      have hdd : decide (x < 1 ∨ 4 < x ∨ y < 1 ∨ 4 < y) = true := decide_eq_true hrg
      rw [hdd]
      clear hdd hrg
      go_wp2_with (first | (refine wpList_load_row rfl 37 (.tmp 2) rfl w.heap.size rfl 37 _ (0, 0) _ HI3.out.x2 Tryd.underlying37 rfl (by rw [sc_size]; kernel_rfl) ?_) | (refine wpList_store_far rfl 37 (.tmp 4) _ rfl (w.heap.size + 1) _ _ 37 rfl rfl HI3.out.x4 (by rw [sc_size]; kernel_rfl) (by rw [sc_size, sc_size]) (sc_one _ _ _ _ _ _ _ _ _ _ _ _ _ rfl rfl rfl rfl) ?_; intro wz hz1 hz2 hz3 hz4 hz5; have HZ1 := Lib.hid hz1; have HZB := Lib.hid (hz3 _ _ (by omega) HI3.out.be); clear hz1 hz2 hz3 hz4 hz5))
      exact bodyPost_ret (results_row_tmp rfl _ _ (w.heap.size + 1) 37 _ (0, 0) _ rfl HZ1.out Tryd.underlying37 rfl (by rw [sc_size]; kernel_rfl)) rfl ⟨_, by rw [HE.out]; rfl, sc_size _ _ _ _ _ _ _ _ _ _ _ _ _, sc_one _ _ _ _ _ _ _ _ _ _ _ _ _ rfl rfl rfl rfl, fun h => absurd (HE.out ▸ h) (by decide), HZB.out⟩
    case neg =>
    have e3 : p3 = ⟨a + 2, 0⟩ := by rw [HP3.out, HP2'.out, decide_eq_true (by omega)]; exact tS_true _ _
    have HP3' := Lib.hid e3
    have hdd : decide (x < 1 ∨ 4 < x ∨ y < 1 ∨ 4 < y) = false := decide_eq_false hrg
    rw [hdd]
    clear hdd hrg e3
    by_cases hqn : q < 0
    case pos =>
      have hE : E = 4 := V4.out 4 (by decide) (by rw [HP4.out, HP3'.out]; exact bAt_no (HQ.out ▸ hqn))
      have HE := Lib.hid hE; clear hE
      go_wp2_with (first | (refine wpList_load_row rfl 37 (.tmp 2) rfl w.heap.size rfl 37 _ (0, 0) _ HI3.out.x2 Tryd.underlying37 rfl (by rw [sc_size]; kernel_rfl) ?_) | (refine wpList_store_far rfl 37 (.tmp 4) _ rfl (w.heap.size + 1) _ _ 37 rfl rfl HI3.out.x4 (by rw [sc_size]; kernel_rfl) (by rw [sc_size, sc_size]) (sc_one _ _ _ _ _ _ _ _ _ _ _ _ _ rfl rfl rfl rfl) ?_; intro wz hz1 hz2 hz3 hz4 hz5; have HZ1 := Lib.hid hz1; have HZB := Lib.hid (hz3 _ _ (by omega) HI3.out.be); clear hz1 hz2 hz3 hz4 hz5))
      exact bodyPost_ret (results_row_tmp rfl _ _ (w.heap.size + 1) 37 _ (0, 0) _ rfl HZ1.out Tryd.underlying37 rfl (by rw [sc_size]; kernel_rfl)) rfl ⟨_, by rw [HE.out]; rfl, sc_size _ _ _ _ _ _ _ _ _ _ _ _ _, sc_one _ _ _ _ _ _ _ _ _ _ _ _ _ rfl rfl rfl rfl, fun h => absurd (HE.out ▸ h) (by decide), HZB.out⟩
    case neg =>
    obtain ⟨a1, a2, a3⟩ := bAt_ok (s := s) (i := a + 2) (by rw [← HQ.out]; omega)
    have e1 : q' = q := by rw [HQ'.out, HP3'.out, a2, HQ.out]
    have e4 : p4 = ⟨a + 3, 0⟩ := by rw [HP4.out, HP3'.out, a1]
    subst e1
    have HP4' := Lib.hid e4
    have hd0 : decide (q' < 0) = false := by simp; omega
    clear a1 a2 e4
    by_cases hq3 : 3 < q'
    case pos =>
      have hE : E = 7 := V5.out 7 (by decide) (by rw [HP5.out, HP4'.out, decide_eq_false (by omega)]; exact tS_false _ _)
      have HE := Lib.hid hE; clear hE
      have hd3 : decide (3 < q') = true := by simpa using hq3
      go_wp2_with (first | (refine wpList_load_row rfl 37 (.tmp 2) rfl w.heap.size rfl 37 _ (0, 0) _ HI3.out.x2 Tryd.underlying37 rfl (by rw [sc_size]; kernel_rfl) ?_) | (refine wpList_store_far rfl 37 (.tmp 4) _ rfl (w.heap.size + 1) _ _ 37 rfl rfl HI3.out.x4 (by rw [sc_size]; kernel_rfl) (by rw [sc_size, sc_size]) (sc_one _ _ _ _ _ _ _ _ _ _ _ _ _ rfl rfl rfl rfl) ?_; intro wz hz1 hz2 hz3 hz4 hz5; have HZ1 := Lib.hid hz1; have HZB := Lib.hid (hz3 _ _ (by omega) HI3.out.be); clear hz1 hz2 hz3 hz4 hz5))
      exact bodyPost_ret (results_row_tmp rfl _ _ (w.heap.size + 1) 37 _ (0, 0) _ rfl HZ1.out Tryd.underlying37 rfl (by rw [sc_size]; kernel_rfl)) rfl ⟨_, by rw [HE.out]; rfl, sc_size _ _ _ _ _ _ _ _ _ _ _ _ _, sc_one _ _ _ _ _ _ _ _ _ _ _ _ _ rfl rfl rfl rfl, fun h => absurd (HE.out ▸ h) (by decide), HZB.out⟩
    case neg =>
    have e5 : p5 = ⟨a + 3, 0⟩ := by rw [HP5.out, HP4'.out, decide_eq_true (by omega)]; exact tS_true _ _
    have HP5' := Lib.hid e5; clear e5
    have hd3 : decide (3 < q') = false := by simp; omega
    have hlen : l.length = k := HL.out
    have hnl : n1 = l.length := by
      obtain ⟨A', cp', h, _⟩ := HI3.out.ow.form
      injection h with _ h _
    subst hnl
    have hll : l.length ≤ 4 := by omega
    have HLEN := Lib.hid hlen; clear hlen
    go_wp2_with fail
    go_loop [13] (fun jv => ∃ j : Nat, j ≤ k ∧ jv = .int .i64 j ∧ Hid (∀ i (h : i < l.length), i < j → l[i].id ≠ id')) (fun jv => k - (intOf jv).toNat)
    case atStart => exact ⟨0, by omega, rfl, Lib.hid (fun i h h0 => by omega)⟩
    case round =>
      obtain ⟨j, hj, rfl, HJ⟩ := hrel
      by_cases hjk : j < k
      case pos =>
        have hjl : j < l.length := by rw [HLEN.out]; exact hjk
        obtain ⟨g5, rfl, hg5, hg5', hcl⟩ := HI3.out.ow.at_ Pt.is hjl
        have c6 : w5.cell? ⟨w.heap.size, 6, none⟩ = some (.slice (some ⟨g5, 0, none⟩) l.length cp) := HI3.out.x2.cell 6
        obtain ⟨y0, hy0⟩ : ∃ y, y = l[j].id := ⟨_, rfl⟩
        have q00 : w5.cell? ⟨g5, j * 4, none⟩ = some (.int .i64 y0) := by rw [hy0]; exact hcl 0 (by decide)
        have HY0 := Lib.hid hy0
        clear hcl hy0
        by_cases hy : y0 = id'
        case pos =>
          have hE : E = 7 := V6.out 7 (by decide) (by
            rw [HP6.out]
            exact idT_hit (by rw [HP5'.out]) (List.mem_map.2 ⟨l[j], List.getElem_mem hjl, by rw [← HY0.out]; exact hy⟩) (by decide))
          have HE := Lib.hid hE; clear hE
          have hd : (y0 == id') = true := by simpa using hy
          clear hy
          go_wp2_with (first | (refine wpList_load_row rfl 37 (.tmp 2) rfl w.heap.size rfl 37 _ (0, 0) _ HI3.out.x2 Tryd.underlying37 rfl (by rw [sc_size]; kernel_rfl) ?_) | (refine wpList_store_far rfl 37 (.tmp 4) _ rfl (w.heap.size + 1) _ _ 37 rfl rfl HI3.out.x4 (by rw [sc_size]; kernel_rfl) (by rw [sc_size, sc_size]) (sc_one _ _ _ _ _ _ _ _ _ _ _ _ _ rfl rfl rfl rfl) ?_; intro wz hz1 hz2 hz3 hz4 hz5; have HZ1 := Lib.hid hz1; have HZB := Lib.hid (hz3 _ _ (by omega) HI3.out.be); clear hz1 hz2 hz3 hz4 hz5))
          exact bodyPost_ret (results_row_tmp rfl _ _ (w.heap.size + 1) 37 _ (0, 0) _ rfl HZ1.out Tryd.underlying37 rfl (by rw [sc_size]; kernel_rfl)) rfl ⟨_, by rw [HE.out]; rfl, sc_size _ _ _ _ _ _ _ _ _ _ _ _ _, sc_one _ _ _ _ _ _ _ _ _ _ _ _ _ rfl rfl rfl rfl, fun h => absurd (HE.out ▸ h) (by decide), HZB.out⟩
        case neg =>
          have hd : (y0 == id') = false := by simpa using hy
          have HYN := Lib.hid hy; clear hy
          go_wp2_with fail
          go_round
          case rel => exact ⟨j + 1, by omega, by go_num, Lib.hid (fun i h hi => by
            by_cases hij : i < j
            · exact HJ.out i h hij
            · obtain rfl : i = j := by omega
              rw [← HY0.out]; exact HYN.out)⟩
          case measure => simp [intOf]; omega
      case neg =>
        obtain rfl : j = k := by omega
        have hmiss : p6 = ⟨a + 3, 0⟩ := by
          rw [HP6.out, idT_miss (fun y hy => by
            obtain ⟨p, hp, rfl⟩ := List.mem_map.1 hy
            obtain ⟨i, hi, rfl⟩ := List.getElem_of_mem hp
            exact HJ.out i hi (by rw [← HLEN.out]; exact hi)), HP5'.out]
        have hnx : ptL s (N - (j + 1)) (⟨6 + 3 * (j + 1), 0⟩, l ++ [⟨id', x, y, q'⟩]) = (t9, l9) := by
          rw [← HNX.out, hmiss, HA.out, show 6 + 3 * j + 3 = 6 + 3 * (j + 1) by omega]
        have HNX2 := Lib.hid hnx; clear hnx hmiss
        have c6 : w5.cell? ⟨w.heap.size, 6, none⟩ = some (.slice A l.length cp) := HI3.out.x2.cell 6
        have d0 : w5.cell? ⟨wr.heap.size, 0, none⟩ = some (.int .i64 id') := HPT3.out.cell 0
        have d1 : w5.cell? ⟨wr.heap.size, 1, none⟩ = some (.int .i64 x) := HPT3.out.cell 1
        have d2 : w5.cell? ⟨wr.heap.size, 2, none⟩ = some (.int .i64 y) := HPT3.out.cell 2
        have d3 : w5.cell? ⟨wr.heap.size, 3, none⟩ = some (.int .i64 q') := HPT3.out.cell 3
        go_wp2_with (at_builtin; refine appC (q := 4) (by_ := 32) (cs := #[.int .i64 id', .int .i64 x, .int .i64 y, .int .i64 q']) ⟨id', x, y, q'⟩ Pt.is Tryd.underlying34 (by kernel_rfl) (by decide) (by decide) rfl (.tmp 140) (.tmp 142) rfl rfl rfl rfl HI3.out.ow (by omega) HI3.out.be.size ?_; intro v8 w8 hO8 hk8 hb8; obtain ⟨A8, n8, cp8, rfl⟩ := hO8.form2; have HS8 := Lib.hid (hk8 _ _ _ (by decide) HI3.out.x2); have HZ8 := Lib.hid (hk8 _ _ _ (by decide) HI3.out.x4); have e8 : w8.cell? ⟨w.heap.size, 6, none⟩ = some (.slice A l.length cp) := HS8.out.cell 6; have f8 := HS8.out.frozen 6; have HO8 := Lib.hid hO8; have HB8 := Lib.hid hb8; clear hO8 hk8 hb8)
        have hI9 : RfS w c hh ww (.slice A8 n8 cp8) (l ++ [⟨id', x, y, q'⟩]) (w8.setCell ⟨w.heap.size, 6, none⟩ (.slice A8 n8 cp8)) :=
          ⟨HS8.out.set_ 6 (.slice A8 n8 cp8), HZ8.out.far (by simp) _, HO8.out.set (HO8.out.neT HS8.out (by decide)) _, (HI3.out.be.trans HB8.out).setCell (Nat.le_refl _) _⟩
        have HI9 := Lib.hid hI9; clear hI9
        go_wp2_with fail
        go_roundw
        case rel => exact ⟨j + 1, (.slice A8 n8 cp8), _, by omega, by go_num, HI9, HNX2, Lib.hid (by rw [List.length_append, HLEN.out]; rfl)⟩
        case measure => simp [intOf]; omega
end Go.Proofs.YthibnhgbgmpjoaaDoor
