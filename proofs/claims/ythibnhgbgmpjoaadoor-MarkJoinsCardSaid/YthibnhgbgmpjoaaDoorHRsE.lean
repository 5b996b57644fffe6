/- The reference's scan (gen_rse.py). No condition. -/
import Derived.Test.YthibnhgbgmpjoaaDoorHRsD
namespace Go.Proofs.YthibnhgbgmpjoaaDoor
open Go.RowKit
set_option linter.unusedSimpArgs false
set_option linter.unusedVariables false
set_option maxRecDepth 100000
/-- What the reference's scan stands on. -/
structure RsS (w : World) (c a b hi lo : Int) (v : Value) (l : List Pk) (wr : World) : Prop where
  x2 : Blk wr w.heap.size 37 (SC c ⟨#[]⟩ nilS nilS 0 0 nilS v a b hi lo 0)
  x4 : Blk wr (w.heap.size + 1) 37 (SC 0 ⟨#[]⟩ nilS nilS 0 0 nilS nilS 0 0 0 0 0)
  ow : OwnC Pk.cells 3 wr w.heap.size 159 v l
  be : Below w.heap.size w wr
section
variable {w wr w' : World} {c a b hi lo : Int} {v : Value} {l : List Pk}
theorem RsS.bel (H : RsS w c a b hi lo v l wr) (hb : Below wr.heap.size wr w') : RsS w c a b hi lo v l w' := ⟨H.x2.bel hb, H.x4.bel hb, H.ow.bel hb, H.be.trans (hb.mono H.be.size)⟩
theorem RsS.set8 (H : RsS w c a b hi lo v l wr) (x : Int) : RsS w c x b hi lo v l (wr.setCell ⟨w.heap.size, 8, none⟩ (.int .i64 x)) := ⟨H.x2.set_ 8 _, H.x4.far (by simp) _, H.ow.set (H.ow.neT H.x2 (by decide)) _, H.be.setCell (Nat.le_refl _) _⟩
theorem RsS.set9 (H : RsS w c a b hi lo v l wr) (x : Int) : RsS w c a x hi lo v l (wr.setCell ⟨w.heap.size, 9, none⟩ (.int .i64 x)) := ⟨H.x2.set_ 9 _, H.x4.far (by simp) _, H.ow.set (H.ow.neT H.x2 (by decide)) _, H.be.setCell (Nat.le_refl _) _⟩
theorem RsS.set10 (H : RsS w c a b hi lo v l wr) (x : Int) : RsS w c a b x lo v l (wr.setCell ⟨w.heap.size, 10, none⟩ (.int .i64 x)) := ⟨H.x2.set_ 10 _, H.x4.far (by simp) _, H.ow.set (H.ow.neT H.x2 (by decide)) _, H.be.setCell (Nat.le_refl _) _⟩
theorem RsS.set11 (H : RsS w c a b hi lo v l wr) (x : Int) : RsS w c a b hi x v l (wr.setCell ⟨w.heap.size, 11, none⟩ (.int .i64 x)) := ⟨H.x2.set_ 11 _, H.x4.far (by simp) _, H.ow.set (H.ow.neT H.x2 (by decide)) _, H.be.setCell (Nat.le_refl _) _⟩
end
def RSPost (w : World) (c : Int) (E : Int) (F : ScR) (e : Ending) (w' : World) : Prop :=
  ∃ cs, e = .returned (.tuple #[.agg cs, .int .i64 E]) ∧ cs.size = 13 ∧ cs.all (·.oneCell') = true ∧ (E = 0 → ∃ v, cs = SC c ⟨#[]⟩ nilS nilS 0 0 nilS v F.a F.b F.hi F.lo 0 ∧ OwnC Pk.cells 3 w' w.heap.size 159 v F.l) ∧ Below w.heap.size w w'
set_option maxHeartbeats 4000000 in
theorem refScan_walk (s : ByteArray) (c : Int) (hs : s.size ≤ 65533) (w : World) :
    Calls Tryd.prog 42 #[.agg (SC c ⟨#[]⟩ nilS nilS 0 0 nilS nilS 0 0 0 0 0), .string s] w (RSPost w c (tS (scR s st0).t (decide ((scR s st0).t.a = s.size)) 4).e (scR s st0)) := by
  obtain ⟨n, hn⟩ : ∃ n, n = nV s 1 st0 := ⟨_, rfl⟩
  obtain ⟨t1, ht1⟩ : ∃ t, t = nS s 1 st0 := ⟨_, rfl⟩
  obtain ⟨t2, ht2⟩ : ∃ t, t = tS t1 (decide (1 ≤ n ∧ n ≤ 4)) 8 := ⟨_, rfl⟩
  obtain ⟨t3, l3, hp⟩ : ∃ t l, (t, l) = pkL s n.toNat (t2, []) := ⟨_, _, rfl⟩
  obtain ⟨av, ha⟩ : ∃ n, n = nV s 1 t3 := ⟨_, rfl⟩
  obtain ⟨t4, ht4⟩ : ∃ t, t = nS s 1 t3 := ⟨_, rfl⟩
  obtain ⟨bv, hb⟩ : ∃ n, n = nV s 1 t4 := ⟨_, rfl⟩
  obtain ⟨t5, ht5⟩ : ∃ t, t = nS s 1 t4 := ⟨_, rfl⟩
  obtain ⟨vv, hv⟩ : ∃ n, n = nV s 1 t5 := ⟨_, rfl⟩
  obtain ⟨t6, ht6⟩ : ∃ t, t = nS s 1 t5 := ⟨_, rfl⟩
  obtain ⟨t7, ht7⟩ : ∃ t, t = tS t6 (decide (av ≤ bv ∧ bv ≤ 63 ∧ vv / 16 ≤ 13 ∧ vv % 16 ≤ 13)) 8 := ⟨_, rfl⟩
  have hR : scR s st0 = ⟨t7, l3, av, bv, vv / 16, vv % 16⟩ := by
    rw [scR]
    simp only [← hn, ← ht1, ← ht2, ← hp, ← ha, ← ht4, ← hb, ← ht5, ← hv, ← ht6, ← ht7]
  rw [hR]
  obtain ⟨E, hE⟩ : ∃ E, E = (tS t7 (decide (t7.a = s.size)) 4).e := ⟨_, rfl⟩
  show Calls _ _ _ _ (RSPost w c (tS t7 (decide (t7.a = s.size)) 4).e _)
  rw [← hE]
  have u7 : ∀ e, e ≠ 0 → t7.e = e → E = e := fun e he h => by rw [hE, tS_stay (by rw [h]; exact he), h]
  have u6 : ∀ e, e ≠ 0 → t6.e = e → E = e := fun e he h => u7 e he (by rw [ht7, tS_stay (by rw [h]; exact he), h])
  have u5 : ∀ e, e ≠ 0 → t5.e = e → E = e := fun e he h => u6 e he (by rw [ht6, nS_stay (by rw [h]; exact he), h])
  have u4 : ∀ e, e ≠ 0 → t4.e = e → E = e := fun e he h => u5 e he (by rw [ht5, nS_stay (by rw [h]; exact he), h])
  have u3 : ∀ e, e ≠ 0 → t3.e = e → E = e := fun e he h => u4 e he (by rw [ht4, nS_stay (by rw [h]; exact he), h])
  have u2 : ∀ e, e ≠ 0 → t2.e = e → E = e := fun e he h => u3 e he (by
    have : (pkL s n.toNat (t2, [])).1.e = e := by rw [pkL_bad _ _ _ (by rw [h]; exact he)]; exact h
    rwa [← hp] at this)
  have u1 : ∀ e, e ≠ 0 → t1.e = e → E = e := fun e he h => u2 e he (by rw [ht2, tS_stay (by rw [h]; exact he), h])
  have U1 := Lib.hid u1; have U2 := Lib.hid u2; have U3 := Lib.hid u3; have U4 := Lib.hid u4; have U5 := Lib.hid u5; have U6 := Lib.hid u6; have U7 := Lib.hid u7
  have HN := Lib.hid hn; have HT1 := Lib.hid ht1; have HT2 := Lib.hid ht2; have HP := Lib.hid hp; have HAv := Lib.hid ha; have HT4 := Lib.hid ht4; have HBv := Lib.hid hb; have HT5 := Lib.hid ht5; have HVv := Lib.hid hv; have HT6 := Lib.hid ht6; have HT7 := Lib.hid ht7; have HEE := Lib.hid hE
  clear u1 u2 u3 u4 u5 u6 u7 hn ht1 ht2 hp ha ht4 hb ht5 hv ht6 ht7 hE hR
  have hI0 : RsS w c 0 0 0 0 nilS [] ((w.alloc (.cells (SC c ⟨#[]⟩ nilS nilS 0 0 nilS nilS 0 0 0 0 0) 37)).alloc (.cells (SC 0 ⟨#[]⟩ nilS nilS 0 0 nilS nilS 0 0 0 0 0) 37)) :=
    ⟨(Blk.new w _ _).alloc _, Blk.nw (by rw [World.size_alloc]), OwnC.nil _ _ _, ((Below.refl _ _).alloc (Nat.le_refl _) _).alloc ((Below.refl w.heap.size w).alloc (Nat.le_refl _) _).size _⟩
  have HI0 := Lib.hid hI0; clear hI0
  obtain ⟨b0, hb0⟩ : ∃ b, b = bAt s 0 := ⟨_, rfl⟩
  have hb0b := bAt_bd s 0
  rw [← hb0] at hb0b
  have HB0 := Lib.hid hb0; clear hb0
  go_enter Tryd.func42, Tryd.ntmps42
  go_upto_region 1 with fail
  go_cut [6] (fun b wx => b = .int .i64 b0 ∧ Hid (RsS w c 0 0 0 0 nilS [] wx))
  case first =>
    go_wp2_with (go_at_call 58; refine (byteAt_walk s 0 (by omega) (by omega) _).mono ?_; rintro ex w1 ⟨rfl, rfl⟩; rw [← HB0.out])
    go_meet
    case rel => exact ⟨rfl, HI0⟩
  case rest =>
  obtain ⟨rfl, HI1⟩ := hcut
  obtain ⟨w1, rfl⟩ : ∃ w1, w1 = wc := ⟨_, rfl⟩
  clear HI0
  by_cases h0 : b0 < 0
  case pos =>
    have hE : E = 4 := U1.out 4 (by decide) (by rw [HT1.out]; exact bAt_no (HB0.out ▸ h0))
    have HE := Lib.hid hE; clear hE
    go_wp2_with (first | (refine wpList_load_row rfl 37 (.tmp 2) rfl w.heap.size rfl 37 _ (0, 0) _ HI1.out.x2 Tryd.underlying37 rfl (by rw [sc_size]; kernel_rfl) ?_) | (refine wpList_store_far rfl 37 (.tmp 4) _ rfl (w.heap.size + 1) _ _ 37 rfl rfl HI1.out.x4 (by rw [sc_size]; kernel_rfl) (by rw [sc_size, sc_size]) (sc_one _ _ _ _ _ _ _ _ _ _ _ _ _ rfl rfl rfl rfl) ?_; intro wz hz1 hz2 hz3 hz4 hz5; have HZ1 := Lib.hid hz1; have HZB := Lib.hid (hz3 _ _ (by omega) HI1.out.be); clear hz1 hz2 hz3 hz4 hz5))
    exact bodyPost_ret (results_row_tmp rfl _ _ (w.heap.size + 1) 37 _ (0, 0) _ rfl HZ1.out Tryd.underlying37 rfl (by rw [sc_size]; kernel_rfl)) rfl ⟨_, by rw [HE.out]; rfl, sc_size _ _ _ _ _ _ _ _ _ _ _ _ _, sc_one _ _ _ _ _ _ _ _ _ _ _ _ _ rfl rfl rfl rfl, fun h => absurd (HE.out ▸ h) (by decide), HZB.out⟩
  case neg =>
  obtain ⟨a1, a2, a3⟩ := bAt_ok (s := s) (i := 0) (by rw [← HB0.out]; omega)
  have ht1 : t1 = ⟨1, 0⟩ := by rw [HT1.out]; exact a1
  have hx : n = b0 := by rw [HN.out, HB0.out]; exact a2
  subst hx
  obtain ⟨N, rfl⟩ := Int.eq_ofNat_of_zero_le (show 0 ≤ n by omega)
  have HT1' := Lib.hid ht1
  clear a1 a2 ht1
  go_upto_region 4 with fail
  go_cut [22] (fun b wx => b = .bool (decide ((N : Int) < 1 ∨ 4 < (N : Int))) ∧ wx = w1)
  case first =>
    go_wp2_with fail
    all_goals
      go_meet
      case rel => exact ⟨congrArg Value.bool (by first | rfl | (rw [Bool.eq_iff_iff]; simp only [Bool.or_eq_true, Bool.false_eq_true, decide_eq_true_eq, beq_iff_eq, false_iff, true_iff]; done) | (rw [Bool.eq_iff_iff]; simp only [Bool.or_eq_true, Bool.false_eq_true, decide_eq_true_eq, beq_iff_eq, false_iff, true_iff]; omega)), rfl⟩
  case rest =>
  obtain ⟨rfl, rfl⟩ := hcut
  obtain ⟨w1, rfl⟩ : ∃ w1, w1 = wc := ⟨_, rfl⟩
  by_cases hN4 : (N : Int) < 1 ∨ 4 < (N : Int)
  case pos =>
    have hE : E = 8 := U2.out 8 (by decide) (by rw [HT2.out, HT1'.out, decide_eq_false (by omega)]; exact tS_false _ _)
    have HE := Lib.hid hE; clear hE
    have hdd : decide ((N : Int) < 1 ∨ 4 < (N : Int)) = true := decide_eq_true hN4
    rw [hdd]
    clear hdd
    go_wp2_with (first | (refine wpList_load_row rfl 37 (.tmp 2) rfl w.heap.size rfl 37 _ (0, 0) _ HI1.out.x2 Tryd.underlying37 rfl (by rw [sc_size]; kernel_rfl) ?_) | (refine wpList_store_far rfl 37 (.tmp 4) _ rfl (w.heap.size + 1) _ _ 37 rfl rfl HI1.out.x4 (by rw [sc_size]; kernel_rfl) (by rw [sc_size, sc_size]) (sc_one _ _ _ _ _ _ _ _ _ _ _ _ _ rfl rfl rfl rfl) ?_; intro wz hz1 hz2 hz3 hz4 hz5; have HZ1 := Lib.hid hz1; have HZB := Lib.hid (hz3 _ _ (by omega) HI1.out.be); clear hz1 hz2 hz3 hz4 hz5))
    exact bodyPost_ret (results_row_tmp rfl _ _ (w.heap.size + 1) 37 _ (0, 0) _ rfl HZ1.out Tryd.underlying37 rfl (by rw [sc_size]; kernel_rfl)) rfl ⟨_, by rw [HE.out]; rfl, sc_size _ _ _ _ _ _ _ _ _ _ _ _ _, sc_one _ _ _ _ _ _ _ _ _ _ _ _ _ rfl rfl rfl rfl, fun h => absurd (HE.out ▸ h) (by decide), HZB.out⟩
  case neg =>
  have ht2 : t2 = ⟨1, 0⟩ := by rw [HT2.out, HT1'.out, decide_eq_true (by omega)]; exact tS_true _ _
  have hP2 : (t3, l3) = pkL s N (⟨1, 0⟩, []) := by rw [HP.out, ht2]; simp
  have hdd : decide ((N : Int) < 1 ∨ 4 < (N : Int)) = false := decide_eq_false hN4
  rw [hdd]
  have HP2 := Lib.hid hP2; clear ht2 hP2 hdd
  have hN : N ≤ 4 := by omega
  clear hN4 h0 hb0b
  go_wp2_with fail
  go_loopw [7] (fun kv wr => ∃ (k : Nat) (v : Value) (l : List Pk), k ≤ N ∧ kv = .int .i64 k ∧ Hid (RsS w c 0 0 0 0 v l wr) ∧ Hid (pkL s (N - k) (⟨1 + 2 * k, 0⟩, l) = (t3, l3)) ∧ Hid (l.length = k)) (fun kv _ => N - (intOf kv).toNat)
  case atStart => exact ⟨0, nilS, [], by omega, rfl, HI1, Lib.hid HP2.out.symm, Lib.hid rfl⟩
  case round =>
    obtain ⟨k, v, l, hk, rfl, HI, HPk, HL⟩ := hrel
    obtain ⟨A, n1, cp, rfl⟩ := HI.out.ow.form2
    by_cases hkN : k < N
    case neg =>
      obtain rfl : k = N := by omega
      have hfin : (t3, l3) = (⟨1 + 2 * k, 0⟩, l) := by rw [← HPk.out, Nat.sub_self]; rfl
      injection hfin with hf1 hf2
      obtain ⟨at_, hat⟩ : ∃ a, a = 1 + 2 * k := ⟨_, rfl⟩
      rw [← hat] at hf1
      have hat9 : at_ ≤ 9 := by omega
      have HF1 := Lib.hid hf1; have HF2 := Lib.hid hf2; have HAT := Lib.hid hat
      clear hf1 hf2 hat
      by_cases hsh : s.size < at_ + 3
      case pos =>
        have hE : E = 4 := by
          by_cases g1 : s.size < at_ + 1
          · exact U4.out 4 (by decide) (by rw [HT4.out, HF1.out]; exact bAt_no (by rw [bAt, dif_neg (by omega)]; decide))
          · obtain ⟨a1, a2, a3⟩ := bAt_ok (s := s) (i := at_) (by rw [bAt, dif_pos (by omega)]; omega)
            by_cases g2 : s.size < at_ + 2
            · exact U5.out 4 (by decide) (by rw [HT5.out, HT4.out, HF1.out, a1]; exact bAt_no (by rw [bAt, dif_neg (by omega)]; decide))
            · obtain ⟨a4, a5, a6⟩ := bAt_ok (s := s) (i := at_ + 1) (by rw [bAt, dif_pos (by omega)]; omega)
              exact U6.out 4 (by decide) (by rw [HT6.out, HT5.out, HT4.out, HF1.out, a1, a4]; exact bAt_no (by rw [bAt, dif_neg (by omega)]; decide))
        have HE := Lib.hid hE; clear hE
        have hd : decide ((s.size : Int) < 1 + 2 * (k : Int) + 3) = true := by have := HAT.out; simp; omega
        go_wp2_with (first | (refine wpList_load_row rfl 37 (.tmp 2) rfl w.heap.size rfl 37 _ (0, 0) _ HI.out.x2 Tryd.underlying37 rfl (by rw [sc_size]; kernel_rfl) ?_) | (refine wpList_store_far rfl 37 (.tmp 4) _ rfl (w.heap.size + 1) _ _ 37 rfl rfl HI.out.x4 (by rw [sc_size]; kernel_rfl) (by rw [sc_size, sc_size]) (sc_one _ _ _ _ _ _ _ _ _ _ _ _ _ rfl rfl rfl rfl) ?_; intro wz hz1 hz2 hz3 hz4 hz5; have HZ1 := Lib.hid hz1; have HZB := Lib.hid (hz3 _ _ (by omega) HI.out.be); clear hz1 hz2 hz3 hz4 hz5))
        exact bodyPost_ret (results_row_tmp rfl _ _ (w.heap.size + 1) 37 _ (0, 0) _ rfl HZ1.out Tryd.underlying37 rfl (by rw [sc_size]; kernel_rfl)) rfl ⟨_, by rw [HE.out]; rfl, sc_size _ _ _ _ _ _ _ _ _ _ _ _ _, sc_one _ _ _ _ _ _ _ _ _ _ _ _ _ rfl rfl rfl rfl, fun h => absurd (HE.out ▸ h) (by decide), HZB.out⟩
      case neg =>
      have hd : decide ((s.size : Int) < 1 + 2 * (k : Int) + 3) = false := by have := HAT.out; simp; omega
      obtain ⟨a1, a2, a3⟩ := bAt_ok (s := s) (i := at_) (by rw [bAt, dif_pos (by omega)]; omega)
      obtain ⟨a4, a5, a6⟩ := bAt_ok (s := s) (i := at_ + 1) (by rw [bAt, dif_pos (by omega)]; omega)
      obtain ⟨a7, a8, a9⟩ := bAt_ok (s := s) (i := at_ + 2) (by rw [bAt, dif_pos (by omega)]; omega)
      have e1 : av = bAt s at_ := by rw [HAv.out, HF1.out, a2]
      have e2 : t4 = ⟨at_ + 1, 0⟩ := by rw [HT4.out, HF1.out, a1]
      have e3 : bv = bAt s (at_ + 1) := by rw [HBv.out, e2, a5]
      have e4 : t5 = ⟨at_ + 2, 0⟩ := by rw [HT5.out, e2, a4]
      have e5 : vv = bAt s (at_ + 2) := by rw [HVv.out, e4, a8]
      have e6 : t6 = ⟨at_ + 3, 0⟩ := by rw [HT6.out, e4, a7]
      have avb := bAt_bd s at_; have bvb := bAt_bd s (at_ + 1); have vvb := bAt_bd s (at_ + 2)
      rw [← e1] at avb; rw [← e3] at bvb; rw [← e5] at vvb
      have vv0 : 0 ≤ vv := by rw [e5, bAt, dif_pos (by omega)]; omega
      have HAVB := Lib.hid e1; have HBVB := Lib.hid e3; have HVVB := Lib.hid e5; have HT6' := Lib.hid e6
      clear a1 a2 a4 a5 a7 a8 e1 e2 e3 e4 e5 e6
      obtain ⟨avb0, avb1⟩ := avb; obtain ⟨bvb0, bvb1⟩ := bvb; obtain ⟨vvb0, vvb1⟩ := vvb
      have e8 : wr.cell? ⟨w.heap.size, 8, none⟩ = some (.int .i64 0) := HI.out.x2.cell 8
      have f8 := HI.out.x2.frozen 8
      go_upto_region 26 with (go_at_call 58; refine (byteAt_z s _ at_ (by rw [HAT.out]; omega) (by omega) (by omega) _).mono ?_; rintro ex w1 ⟨rfl, rfl⟩; rw [← HAVB.out])
      clear e8 f8
      have HI2 := Lib.hid (HI.out.set8 av)
      have e8 : (wr.setCell ⟨w.heap.size, 8, none⟩ (.int .i64 av)).cell? ⟨w.heap.size, 9, none⟩ = some (.int .i64 0) := HI2.out.x2.cell 9
      have f8 := HI2.out.x2.frozen 9
      go_upto_region 27 with (go_at_call 58; refine (byteAt_z s _ (at_ + 1) (by rw [HAT.out]; omega) (by omega) (by omega) _).mono ?_; rintro ex w1 ⟨rfl, rfl⟩; rw [← HBVB.out])
      clear e8 f8
      have HI3 := Lib.hid (HI2.out.set9 bv)
      have e8 : ((wr.setCell ⟨w.heap.size, 8, none⟩ (.int .i64 av)).setCell ⟨w.heap.size, 9, none⟩ (.int .i64 bv)).cell? ⟨w.heap.size, 10, none⟩ = some (.int .i64 0) := HI3.out.x2.cell 10
      have f8 := HI3.out.x2.frozen 10
      go_upto_region 28 with (go_at_call 58; refine (byteAt_z s _ (at_ + 2) (by rw [HAT.out]; omega) (by omega) (by omega) _).mono ?_; rintro ex w1 ⟨rfl, rfl⟩; rw [← HVVB.out])
      clear e8 f8
      have HI4 := Lib.hid (HI3.out.set10 (vv / 16))
      have e8 : (((wr.setCell ⟨w.heap.size, 8, none⟩ (.int .i64 av)).setCell ⟨w.heap.size, 9, none⟩ (.int .i64 bv)).setCell ⟨w.heap.size, 10, none⟩ (.int .i64 (vv / 16))).cell? ⟨w.heap.size, 11, none⟩ = some (.int .i64 0) := HI4.out.x2.cell 11
      have f8 := HI4.out.x2.frozen 11
      go_upto_region 29 with (go_at_call 58; refine (byteAt_z s _ (at_ + 2) (by rw [HAT.out]; omega) (by omega) (by omega) _).mono ?_; rintro ex w1 ⟨rfl, rfl⟩; rw [← HVVB.out])
      clear e8 f8
      have HI5 := Lib.hid (HI4.out.set11 (vv % 16))
      obtain ⟨x, hx⟩ : ∃ x, x = vv / 16 := ⟨_, rfl⟩
      obtain ⟨y, hy⟩ : ∃ y, y = vv % 16 := ⟨_, rfl⟩
      rw [← hx, ← hy] at HI5 HT7
      rw [← hx, ← hy]
      have hxb : 0 ≤ x ∧ x < 16 := by omega
      have hyb : 0 ≤ y ∧ y < 16 := by omega
      have HXV := Lib.hid hx; have HYV := Lib.hid hy
      clear hx hy HI2 HI3 HI4
      obtain ⟨w5, hw5⟩ : ∃ w5, w5 = ((((wr.setCell ⟨w.heap.size, 8, none⟩ (.int .i64 av)).setCell ⟨w.heap.size, 9, none⟩ (.int .i64 bv)).setCell ⟨w.heap.size, 10, none⟩ (.int .i64 x)).setCell ⟨w.heap.size, 11, none⟩ (.int .i64 y)) := ⟨_, rfl⟩
      rw [← hw5] at HI5 ⊢
      clear hw5
      have g8 : w5.cell? ⟨w.heap.size, 8, none⟩ = some (.int .i64 av) := HI5.out.x2.cell 8
      have g9 : w5.cell? ⟨w.heap.size, 9, none⟩ = some (.int .i64 bv) := HI5.out.x2.cell 9
      have g10 : w5.cell? ⟨w.heap.size, 10, none⟩ = some (.int .i64 x) := HI5.out.x2.cell 10
      have g11 : w5.cell? ⟨w.heap.size, 11, none⟩ = some (.int .i64 y) := HI5.out.x2.cell 11
      go_cut [128] (fun b wx => b = .bool (decide (bv < av ∨ 63 < bv ∨ 13 < x ∨ 13 < y)) ∧ wx = w5)
      case first =>
        go_wp2_with fail
        all_goals
          go_meet
          case rel => exact ⟨congrArg Value.bool (by first | rfl | (rw [Bool.eq_iff_iff]; simp only [Bool.or_eq_true, Bool.false_eq_true, decide_eq_true_eq, beq_iff_eq, false_iff, true_iff]; done) | (rw [Bool.eq_iff_iff]; simp only [Bool.or_eq_true, Bool.false_eq_true, decide_eq_true_eq, beq_iff_eq, false_iff, true_iff]; omega)), rfl⟩
      case rest =>
      obtain ⟨rfl, rfl⟩ := hcut
      obtain ⟨w5, rfl⟩ : ∃ w5, w5 = wc := ⟨_, rfl⟩
      clear g8 g9 g10 g11
      by_cases hbd : bv < av ∨ 63 < bv ∨ 13 < x ∨ 13 < y
      case pos =>
        have hE : E = 8 := U7.out 8 (by decide) (by rw [HT7.out, HT6'.out, decide_eq_false (by omega)]; exact tS_false _ _)
        have HE := Lib.hid hE; clear hE
        have hdd : decide (bv < av ∨ 63 < bv ∨ 13 < x ∨ 13 < y) = true := decide_eq_true hbd
        rw [hdd]
        clear hdd
        go_wp2_with (first | (refine wpList_load_row rfl 37 (.tmp 2) rfl w.heap.size rfl 37 _ (0, 0) _ HI5.out.x2 Tryd.underlying37 rfl (by rw [sc_size]; kernel_rfl) ?_) | (refine wpList_store_far rfl 37 (.tmp 4) _ rfl (w.heap.size + 1) _ _ 37 rfl rfl HI5.out.x4 (by rw [sc_size]; kernel_rfl) (by rw [sc_size, sc_size]) (sc_one _ _ _ _ _ _ _ _ _ _ _ _ _ rfl rfl rfl rfl) ?_; intro wz hz1 hz2 hz3 hz4 hz5; have HZ1 := Lib.hid hz1; have HZB := Lib.hid (hz3 _ _ (by omega) HI5.out.be); clear hz1 hz2 hz3 hz4 hz5))
        exact bodyPost_ret (results_row_tmp rfl _ _ (w.heap.size + 1) 37 _ (0, 0) _ rfl HZ1.out Tryd.underlying37 rfl (by rw [sc_size]; kernel_rfl)) rfl ⟨_, by rw [HE.out]; rfl, sc_size _ _ _ _ _ _ _ _ _ _ _ _ _, sc_one _ _ _ _ _ _ _ _ _ _ _ _ _ rfl rfl rfl rfl, fun h => absurd (HE.out ▸ h) (by decide), HZB.out⟩
      case neg =>
      have ht7 : t7 = ⟨at_ + 3, 0⟩ := by rw [HT7.out, HT6'.out, decide_eq_true (by omega)]; exact tS_true _ _
      have hdd : decide (bv < av ∨ 63 < bv ∨ 13 < x ∨ 13 < y) = false := decide_eq_false hbd
      rw [hdd]
      clear hdd hbd
      by_cases hsz : s.size = at_ + 3
      case neg =>
        have hE : E = 4 := by rw [HEE.out, ht7, decide_eq_false (by show ¬ (at_ + 3 = s.size); omega)]; exact tS_false _ _
        have HE := Lib.hid hE
        have hq1 : ((s.size : Int) != 1 + 2 * (k : Int) + 3) = true := by have := HAT.out; simp; omega
        have hq2 : ((s.size : Int) == 1 + 2 * (k : Int) + 3) = false := by have := HAT.out; simp; omega
        clear hE hsz ht7
        go_wp2_with (first | (refine wpList_load_row rfl 37 (.tmp 2) rfl w.heap.size rfl 37 _ (0, 0) _ HI5.out.x2 Tryd.underlying37 rfl (by rw [sc_size]; kernel_rfl) ?_) | (refine wpList_store_far rfl 37 (.tmp 4) _ rfl (w.heap.size + 1) _ _ 37 rfl rfl HI5.out.x4 (by rw [sc_size]; kernel_rfl) (by rw [sc_size, sc_size]) (sc_one _ _ _ _ _ _ _ _ _ _ _ _ _ rfl rfl rfl rfl) ?_; intro wz hz1 hz2 hz3 hz4 hz5; have HZ1 := Lib.hid hz1; have HZB := Lib.hid (hz3 _ _ (by omega) HI5.out.be); clear hz1 hz2 hz3 hz4 hz5))
        exact bodyPost_ret (results_row_tmp rfl _ _ (w.heap.size + 1) 37 _ (0, 0) _ rfl HZ1.out Tryd.underlying37 rfl (by rw [sc_size]; kernel_rfl)) rfl ⟨_, by rw [HE.out]; rfl, sc_size _ _ _ _ _ _ _ _ _ _ _ _ _, sc_one _ _ _ _ _ _ _ _ _ _ _ _ _ rfl rfl rfl rfl, fun h => absurd (HE.out ▸ h) (by decide), HZB.out⟩
      case pos =>
        have hE : E = 0 := by rw [HEE.out, ht7, decide_eq_true (by show at_ + 3 = s.size; omega), tS_true]
        have HE := Lib.hid hE
        have hq1 : ((s.size : Int) != 1 + 2 * (k : Int) + 3) = false := by have := HAT.out; simp; omega
        have hq2 : ((s.size : Int) == 1 + 2 * (k : Int) + 3) = true := by have := HAT.out; simp; omega
        clear hE hsz ht7
        go_wp2_with (first | (refine wpList_load_row rfl 37 (.tmp 2) rfl w.heap.size rfl 37 _ (0, 0) _ HI5.out.x2 Tryd.underlying37 rfl (by rw [sc_size]; kernel_rfl) ?_) | (refine wpList_store_far rfl 37 (.tmp 4) _ rfl (w.heap.size + 1) _ _ 37 rfl rfl HI5.out.x4 (by rw [sc_size]; kernel_rfl) (by rw [sc_size, sc_size]) (sc_one _ _ _ _ _ _ _ _ _ _ _ _ _ rfl rfl rfl rfl) ?_; intro wz hz1 hz2 hz3 hz4 hz5; have HZ1 := Lib.hid hz1; have HZB := Lib.hid (hz3 _ _ (by omega) HI5.out.be); have HZO := Lib.hid (HI5.out.ow.keep fun g' cs hB => hz2 g' _ cs (hB.ne HI5.out.x4 (by decide)) hB); clear hz1 hz2 hz3 hz4 hz5))
        exact bodyPost_ret (results_row_tmp rfl _ _ (w.heap.size + 1) 37 _ (0, 0) _ rfl HZ1.out Tryd.underlying37 rfl (by rw [sc_size]; kernel_rfl)) rfl ⟨_, by rw [HE.out]; rfl, sc_size _ _ _ _ _ _ _ _ _ _ _ _ _, sc_one _ _ _ _ _ _ _ _ _ _ _ _ _ rfl rfl rfl rfl, fun _ => ⟨(.slice A n1 cp), by show _ = SC c ⟨#[]⟩ nilS nilS 0 0 nilS (.slice A n1 cp) av bv (vv / 16) (vv % 16) 0; rw [← HXV.out, ← HYV.out], by rw [HF2.out]; exact HZO.out⟩, HZB.out⟩
    case pos =>
    obtain ⟨a, ha⟩ : ∃ a, a = 1 + 2 * k := ⟨_, rfl⟩
    rw [← ha] at HPk
    obtain ⟨id, hid⟩ : ∃ b, b = bAt s a := ⟨_, rfl⟩
    obtain ⟨q, hq⟩ : ∃ b, b = bAt s (a + 1) := ⟨_, rfl⟩
    have hidb := bAt_bd s a; have hqb := bAt_bd s (a + 1)
    rw [← hid] at hidb; rw [← hq] at hqb
    obtain ⟨id0, id1⟩ := hidb; obtain ⟨q0, q1⟩ := hqb
    obtain ⟨p1, hp1⟩ : ∃ t, t = nS s 1 ⟨a, 0⟩ := ⟨_, rfl⟩
    obtain ⟨id', hid'⟩ : ∃ n, n = nV s 1 ⟨a, 0⟩ := ⟨_, rfl⟩
    obtain ⟨p2, hp2⟩ : ∃ t, t = idT 8 id' (l.map Pk.id) p1 := ⟨_, rfl⟩
    obtain ⟨q', hq'⟩ : ∃ n, n = nV s 1 p2 := ⟨_, rfl⟩
    obtain ⟨p3, hp3⟩ : ∃ t, t = nS s 1 p2 := ⟨_, rfl⟩
    obtain ⟨p4, hp4⟩ : ∃ t, t = tS p3 (decide (q' / 16 ≤ 3 ∧ q' % 16 ≤ 3)) 8 := ⟨_, rfl⟩
    have hnext : pkL s (N - (k + 1)) (p4, l ++ [⟨id', q' / 16, q' % 16⟩]) = (t3, l3) := by
      have e : pk1 s (⟨a, 0⟩, l) = (p4, l ++ [⟨id', q' / 16, q' % 16⟩]) := by
        rw [pk1]; simp only [← hp1, ← hid', ← hp2, ← hq', ← hp3, ← hp4]
      rw [← HPk.out, show N - k = (N - (k + 1)) + 1 by omega, pkL, if_pos rfl, e]
    have v4 : ∀ e, e ≠ 0 → p4.e = e → E = e := fun e he h => U3.out e he (by
      have h2 := pkL_bad s (N - (k + 1)) (p4, l ++ [⟨id', q' / 16, q' % 16⟩]) (by show p4.e ≠ 0; rw [h]; exact he)
      rw [hnext] at h2; injection h2 with h2 _; rw [h2]; exact h)
    have v3 : ∀ e, e ≠ 0 → p3.e = e → E = e := fun e he h => v4 e he (by rw [hp4, tS_stay (by rw [h]; exact he), h])
    have v2 : ∀ e, e ≠ 0 → p2.e = e → E = e := fun e he h => v3 e he (by rw [hp3, nS_stay (by rw [h]; exact he), h])
    have v1 : ∀ e, e ≠ 0 → p1.e = e → E = e := fun e he h => v2 e he (by rw [hp2, idT_stay (by rw [h]; exact he), h])
    have HNX := Lib.hid hnext; have V4 := Lib.hid v4; have V3 := Lib.hid v3; have V2 := Lib.hid v2; have V1 := Lib.hid v1; have HA := Lib.hid ha; have HID := Lib.hid hid; have HQ := Lib.hid hq; have HP1 := Lib.hid hp1; have HID' := Lib.hid hid'; have HP2_ := Lib.hid hp2; have HP3 := Lib.hid hp3; have HQ' := Lib.hid hq'; have HP4 := Lib.hid hp4
    have hak : a ≤ 1000 := by omega
    clear hnext v1 v2 v3 v4 hid hq hp1 hid' hp2 hp3 hq' hp4 ha
    go_wp2_with fail
    refine (byteAt_z s _ a (by rw [HA.out]; omega) (by omega) (by omega) _).mono ?_
    rintro ex w1 ⟨rfl, rfl⟩
    rw [← HID.out]
    go_wp2_with fail
    refine (byteAt_z s _ (a + 1) (by rw [HA.out]; omega) (by omega) (by omega) _).mono ?_
    rintro ex w1 ⟨rfl, rfl⟩
    rw [← HQ.out]
    by_cases hn0 : id < 0
    case pos =>
      have hE : E = 4 := V1.out 4 (by decide) (by rw [HP1.out]; exact bAt_no (HID.out ▸ hn0))
      have HE := Lib.hid hE; clear hE
      go_wp2_with (first | (refine wpList_load_row rfl 37 (.tmp 2) rfl w.heap.size rfl 37 _ (0, 0) _ HI.out.x2 Tryd.underlying37 rfl (by rw [sc_size]; kernel_rfl) ?_) | (refine wpList_store_far rfl 37 (.tmp 4) _ rfl (w.heap.size + 1) _ _ 37 rfl rfl HI.out.x4 (by rw [sc_size]; kernel_rfl) (by rw [sc_size, sc_size]) (sc_one _ _ _ _ _ _ _ _ _ _ _ _ _ rfl rfl rfl rfl) ?_; intro wz hz1 hz2 hz3 hz4 hz5; have HZ1 := Lib.hid hz1; have HZB := Lib.hid (hz3 _ _ (by omega) HI.out.be); clear hz1 hz2 hz3 hz4 hz5))
      exact bodyPost_ret (results_row_tmp rfl _ _ (w.heap.size + 1) 37 _ (0, 0) _ rfl HZ1.out Tryd.underlying37 rfl (by rw [sc_size]; kernel_rfl)) rfl ⟨_, by rw [HE.out]; rfl, sc_size _ _ _ _ _ _ _ _ _ _ _ _ _, sc_one _ _ _ _ _ _ _ _ _ _ _ _ _ rfl rfl rfl rfl, fun h => absurd (HE.out ▸ h) (by decide), HZB.out⟩
    case neg =>
    obtain ⟨a1, a2, a3⟩ := bAt_ok (s := s) (i := a) (by rw [← HID.out]; omega)
    have e1 : id' = id := by rw [HID'.out, a2, HID.out]
    have e2 : p1 = ⟨a + 1, 0⟩ := by rw [HP1.out, a1]
    subst e1
    have HP1' := Lib.hid e2
    have hd0 : decide (id' < 0) = false := by simp; omega
    clear a1 a2 e2
    have hlen : l.length = k := HL.out
    have hnl : n1 = l.length := by
      obtain ⟨A', cp', h, _⟩ := HI.out.ow.form
      injection h with _ h _
    subst hnl
    have hll : l.length ≤ 4 := by omega
    have HLEN := Lib.hid hlen; clear hlen
    go_wp2_with fail
    go_loop [10] (fun jv => ∃ j : Nat, j ≤ k ∧ jv = .int .i64 j ∧ Hid (∀ i (h : i < l.length), i < j → l[i].id ≠ id')) (fun jv => k - (intOf jv).toNat)
    case atStart => exact ⟨0, by omega, rfl, Lib.hid (fun i h h0 => by omega)⟩
    case round =>
      obtain ⟨j, hj, rfl, HJ⟩ := hrel
      by_cases hjk : j < k
      case pos =>
        have hjl : j < l.length := by rw [HLEN.out]; exact hjk
        obtain ⟨g5, rfl, hg5, hg5', hcl⟩ := HI.out.ow.at_ Pk.is hjl
        have c6 : wr.cell? ⟨w.heap.size, 7, none⟩ = some (.slice (some ⟨g5, 0, none⟩) l.length cp) := HI.out.x2.cell 7
        obtain ⟨y0, hy0⟩ : ∃ y, y = l[j].id := ⟨_, rfl⟩
        have q00 : wr.cell? ⟨g5, j * 3, none⟩ = some (.int .i64 y0) := by rw [hy0]; exact hcl 0 (by decide)
        have HY0 := Lib.hid hy0
        clear hcl hy0
        by_cases hy : y0 = id'
        case pos =>
          have hE : E = 8 := V2.out 8 (by decide) (by
            rw [HP2_.out]
            exact idT_hit (by rw [HP1'.out]) (List.mem_map.2 ⟨l[j], List.getElem_mem hjl, by rw [← HY0.out]; exact hy⟩) (by decide))
          have HE := Lib.hid hE; clear hE
          have hd : (y0 == id') = true := by simpa using hy
          clear hy
          go_wp2_with (first | (refine wpList_load_row rfl 37 (.tmp 2) rfl w.heap.size rfl 37 _ (0, 0) _ HI.out.x2 Tryd.underlying37 rfl (by rw [sc_size]; kernel_rfl) ?_) | (refine wpList_store_far rfl 37 (.tmp 4) _ rfl (w.heap.size + 1) _ _ 37 rfl rfl HI.out.x4 (by rw [sc_size]; kernel_rfl) (by rw [sc_size, sc_size]) (sc_one _ _ _ _ _ _ _ _ _ _ _ _ _ rfl rfl rfl rfl) ?_; intro wz hz1 hz2 hz3 hz4 hz5; have HZ1 := Lib.hid hz1; have HZB := Lib.hid (hz3 _ _ (by omega) HI.out.be); clear hz1 hz2 hz3 hz4 hz5))
          exact bodyPost_ret (results_row_tmp rfl _ _ (w.heap.size + 1) 37 _ (0, 0) _ rfl HZ1.out Tryd.underlying37 rfl (by rw [sc_size]; kernel_rfl)) rfl ⟨_, by rw [HE.out]; rfl, sc_size _ _ _ _ _ _ _ _ _ _ _ _ _, sc_one _ _ _ _ _ _ _ _ _ _ _ _ _ rfl rfl rfl rfl, fun h => absurd (HE.out ▸ h) (by decide), HZB.out⟩
        case neg =>
          have hd : (y0 == id') = false := by simpa using hy
          have HYN := Lib.hid hy; clear hy
          go_wp2_with fail
          go_round
          case rel => exact ⟨j + 1, by omega, by go_num, Lib.hid (fun i h hi => by
            by_cases hij : i < j
            · exact HJ.out i h hij
            · obtain rfl : i = j := by omega
              rw [← HY0.out]; exact HYN.out)⟩
          case measure => simp [intOf]; omega
      case neg =>
        obtain rfl : j = k := by omega
        have e3 : p2 = ⟨a + 1, 0⟩ := by
          rw [HP2_.out, idT_miss (fun y hy => by
            obtain ⟨p, hp, rfl⟩ := List.mem_map.1 hy
            obtain ⟨i, hi, rfl⟩ := List.getElem_of_mem hp
            exact HJ.out i hi (by rw [← HLEN.out]; exact hi)), HP1'.out]
        by_cases hqn : q < 0
        case pos =>
          have hE : E = 4 := V3.out 4 (by decide) (by rw [HP3.out, e3]; exact bAt_no (HQ.out ▸ hqn))
          have HE := Lib.hid hE; clear hE e3
          go_wp2_with (first | (refine wpList_load_row rfl 37 (.tmp 2) rfl w.heap.size rfl 37 _ (0, 0) _ HI.out.x2 Tryd.underlying37 rfl (by rw [sc_size]; kernel_rfl) ?_) | (refine wpList_store_far rfl 37 (.tmp 4) _ rfl (w.heap.size + 1) _ _ 37 rfl rfl HI.out.x4 (by rw [sc_size]; kernel_rfl) (by rw [sc_size, sc_size]) (sc_one _ _ _ _ _ _ _ _ _ _ _ _ _ rfl rfl rfl rfl) ?_; intro wz hz1 hz2 hz3 hz4 hz5; have HZ1 := Lib.hid hz1; have HZB := Lib.hid (hz3 _ _ (by omega) HI.out.be); clear hz1 hz2 hz3 hz4 hz5))
          exact bodyPost_ret (results_row_tmp rfl _ _ (w.heap.size + 1) 37 _ (0, 0) _ rfl HZ1.out Tryd.underlying37 rfl (by rw [sc_size]; kernel_rfl)) rfl ⟨_, by rw [HE.out]; rfl, sc_size _ _ _ _ _ _ _ _ _ _ _ _ _, sc_one _ _ _ _ _ _ _ _ _ _ _ _ _ rfl rfl rfl rfl, fun h => absurd (HE.out ▸ h) (by decide), HZB.out⟩
        case neg =>
        obtain ⟨a1, a2, a3⟩ := bAt_ok (s := s) (i := a + 1) (by rw [← HQ.out]; omega)
        have e1 : q' = q := by rw [HQ'.out, e3, a2, HQ.out]
        have e4 : p3 = ⟨a + 2, 0⟩ := by rw [HP3.out, e3, a1]
        subst e1
        have HP3' := Lib.hid e4
        have hd1 : decide (q' < 0) = false := by simp; omega
        have q00 : 0 ≤ q' := by omega
        clear a1 a2 e4 e3
        obtain ⟨x, hx⟩ : ∃ x, x = q' / 16 := ⟨_, rfl⟩
        obtain ⟨y, hy⟩ : ∃ y, y = q' % 16 := ⟨_, rfl⟩
        rw [← hx, ← hy] at HP4 HNX
        have HX := Lib.hid hx; have HY := Lib.hid hy
        have hxb : 0 ≤ x ∧ x < 16 := by omega
        have hyb : 0 ≤ y ∧ y < 16 := by omega
        go_upto_region 19 with fail
        go_cut [66] (fun b wx => b = .bool (decide (3 < x ∨ 3 < y)) ∧ wx = wr)
        case first =>
          go_wp2_with fail
          all_goals
            go_meet
            case rel => exact ⟨congrArg Value.bool (by first | rfl | (rw [Bool.eq_iff_iff]; simp only [Bool.or_eq_true, Bool.false_eq_true, decide_eq_true_eq, beq_iff_eq, false_iff, true_iff]; done) | (rw [Bool.eq_iff_iff]; simp only [Bool.or_eq_true, Bool.false_eq_true, decide_eq_true_eq, beq_iff_eq, false_iff, true_iff]; omega)), rfl⟩
        case rest =>
        obtain ⟨rfl, rfl⟩ := hcut
        obtain ⟨wr, rfl⟩ : ∃ wr, wr = wc := ⟨_, rfl⟩
        clear hx hy
        by_cases hrg : 3 < x ∨ 3 < y
        case pos =>
          have hE : E = 8 := V4.out 8 (by decide) (by rw [HP4.out, HP3'.out, decide_eq_false (by omega)]; exact tS_false _ _)
          have HE := Lib.hid hE; clear hE
          have hdd : decide (3 < x ∨ 3 < y) = true := decide_eq_true hrg
          rw [hdd]
          clear hdd
          go_wp2_with (first | (refine wpList_load_row rfl 37 (.tmp 2) rfl w.heap.size rfl 37 _ (0, 0) _ HI.out.x2 Tryd.underlying37 rfl (by rw [sc_size]; kernel_rfl) ?_) | (refine wpList_store_far rfl 37 (.tmp 4) _ rfl (w.heap.size + 1) _ _ 37 rfl rfl HI.out.x4 (by rw [sc_size]; kernel_rfl) (by rw [sc_size, sc_size]) (sc_one _ _ _ _ _ _ _ _ _ _ _ _ _ rfl rfl rfl rfl) ?_; intro wz hz1 hz2 hz3 hz4 hz5; have HZ1 := Lib.hid hz1; have HZB := Lib.hid (hz3 _ _ (by omega) HI.out.be); clear hz1 hz2 hz3 hz4 hz5))
          exact bodyPost_ret (results_row_tmp rfl _ _ (w.heap.size + 1) 37 _ (0, 0) _ rfl HZ1.out Tryd.underlying37 rfl (by rw [sc_size]; kernel_rfl)) rfl ⟨_, by rw [HE.out]; rfl, sc_size _ _ _ _ _ _ _ _ _ _ _ _ _, sc_one _ _ _ _ _ _ _ _ _ _ _ _ _ rfl rfl rfl rfl, fun h => absurd (HE.out ▸ h) (by decide), HZB.out⟩
        case neg =>
        have e5 : p4 = ⟨a + 2, 0⟩ := by rw [HP4.out, HP3'.out, decide_eq_true (by omega)]; exact tS_true _ _
        have hdd : decide (3 < x ∨ 3 < y) = false := decide_eq_false hrg
        rw [hdd]
        clear hdd
        have hnx : pkL s (N - (j + 1)) (⟨1 + 2 * (j + 1), 0⟩, l ++ [⟨id', x, y⟩]) = (t3, l3) := by
          rw [← HNX.out, e5, HA.out, show 1 + 2 * j + 2 = 1 + 2 * (j + 1) by omega]
        have HNX2 := Lib.hid hnx; clear hnx e5
        have c6 : wr.cell? ⟨w.heap.size, 7, none⟩ = some (.slice A l.length cp) := HI.out.x2.cell 7
        go_wp2_with (at_builtin; refine appC (q := 3) (by_ := 24) (cs := #[.int .i64 id', .int .i64 (q' / 16), .int .i64 (q' % 16)]) ⟨id', q' / 16, q' % 16⟩ Pk.is Tryd.underlying35 (by kernel_rfl) (by decide) (by decide) rfl (.tmp 69) (.tmp 76) rfl rfl rfl rfl HI.out.ow (by omega) HI.out.be.size ?_; intro v8 w8 hO8 hk8 hb8; obtain ⟨A8, n8, cp8, rfl⟩ := hO8.form2; have HS8 := Lib.hid (hk8 _ _ _ (by decide) HI.out.x2); have HZ8 := Lib.hid (hk8 _ _ _ (by decide) HI.out.x4); have e8 : w8.cell? ⟨w.heap.size, 7, none⟩ = some (.slice A l.length cp) := HS8.out.cell 7; have f8 := HS8.out.frozen 7; have HO8 := Lib.hid hO8; have HB8 := Lib.hid hb8; clear hO8 hk8 hb8)
        rw [← HX.out, ← HY.out] at HO8
        have hI9 : RsS w c 0 0 0 0 (.slice A8 n8 cp8) (l ++ [⟨id', x, y⟩]) (w8.setCell ⟨w.heap.size, 7, none⟩ (.slice A8 n8 cp8)) :=
          ⟨HS8.out.set_ 7 (.slice A8 n8 cp8), HZ8.out.far (by simp) _, HO8.out.set (HO8.out.neT HS8.out (by decide)) _, (HI.out.be.trans HB8.out).setCell (Nat.le_refl _) _⟩
        have HI9 := Lib.hid hI9; clear hI9
        go_wp2_with fail
        go_roundw
        case rel => exact ⟨j + 1, (.slice A8 n8 cp8), _, by omega, by go_num, HI9, HNX2, Lib.hid (by rw [List.length_append, HLEN.out]; rfl)⟩
        case measure => simp [intOf]; omega
end Go.Proofs.YthibnhgbgmpjoaaDoor
