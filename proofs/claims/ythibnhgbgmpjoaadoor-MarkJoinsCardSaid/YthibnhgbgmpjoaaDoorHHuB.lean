/- huff.New. No condition. -/
import Derived.Test.YthibnhgbgmpjoaaDoorHGD
namespace Go.Proofs.YthibnhgbgmpjoaaDoor
open Go.RowKit
set_option linter.unusedSimpArgs false
set_option linter.unusedVariables false
def NewH (w : World) (cnt : Nat → Int) (s : ByteArray) (e : Ending) (w' : World) : Prop :=
  match hufNew cnt s with
  | none => e = .returned (.tuple #[.pointer none, .int .i64 5]) ∧ Below w.heap.size w w'
  | some st => ∃ g at_ fs, e = .returned (.tuple #[.pointer (some ⟨g, 0, none⟩), .int .i64 0]) ∧ Tab w' g cnt s st.cb st.cn fs at_ ∧ (∀ j, 1 ≤ j → j ≤ 16 → fs j = fsF cnt s j ∧ at_ j = atF cnt s j) ∧ w.heap.size ≤ g ∧ Below w.heap.size w w'
theorem NewH.no {w w' : World} {cnt : Nat → Int} {s : ByteArray} {e : Ending} (h : hufNew cnt s = none) (he : e = .returned (.tuple #[.pointer none, .int .i64 5])) (hb : Below w.heap.size w w') : NewH w cnt s e w' := by
  unfold NewH; rw [h]; exact ⟨he, hb⟩
theorem NewH.yes {w w' : World} {cnt : Nat → Int} {s : ByteArray} {e : Ending} {st : HS} {g : Nat} {fs at_ : Nat → Int} (h : hufNew cnt s = some st) (he : e = .returned (.tuple #[.pointer (some ⟨g, 0, none⟩), .int .i64 0])) (hT : Tab w' g cnt s st.cb st.cn fs at_) (hf : ∀ j, 1 ≤ j → j ≤ 16 → fs j = fsF cnt s j ∧ at_ j = atF cnt s j) (hg : w.heap.size ≤ g) (hb : Below w.heap.size w w') : NewH w cnt s e w' := by
  unfold NewH; rw [h]; exact ⟨g, at_, fs, he, hT, hf, hg, hb⟩
theorem hufNew_out {cnt : Nat → Int} {s : ByteArray} {k : Nat} (h : hOut cnt s k = none) (hk : k ≤ 16) : hufNew cnt s = none := by
  unfold hufNew; rw [hOut_none h 16 hk]
theorem hufNew_in {cnt : Nat → Int} {s : ByteArray} {m k : Nat} {st : HS} (h : hOut cnt s m = some st) (h2 : hIn s (m + 1) k { st with next := 2 * st.next } = none) (hm : m < 16) (hk : k ≤ (cnt m).toNat) : hufNew cnt s = none := by
  refine hufNew_out (k := m + 1) ?_ (by omega)
  rw [hOut, h]
  exact hIn_none h2 _ hk
set_option maxHeartbeats 0 in
set_option maxRecDepth 20000 in
theorem new_h (cnt : Nat → Int) (s : ByteArray) (w : World) (hc : ∀ j, j < 16 → 0 ≤ cnt j ∧ cnt j ≤ 255) (hs : s.size ≤ 1000000000) :
    Calls Tryd.prog 55 #[.agg (arrN .u8 16 cnt), .string s] w (NewH w cnt s) := by
  have hcb := Lib.hid hc; clear hc
  obtain ⟨ar, har⟩ : ∃ ar, ar = arrN .u8 16 cnt := ⟨_, rfl⟩
  obtain ⟨tb, htb⟩ : ∃ tb, tb = tabA cnt s zf zf zf zf := ⟨_, rfl⟩
  have hsz : ar.size = 16 := by rw [har, arrN_size]
  have hbt := tab_built cnt s
  rw [← har, ← htb] at hbt
  rw [← har]
  have HAR := Lib.hid har; have HTB := Lib.hid htb; have HSZ := Lib.hid hsz; have HBT := Lib.hid hbt
  clear har htb hsz hbt
  go_enter Tryd.func55, Tryd.ntmps55
  go_wp2_with (first | (refine wpList_build2 rfl 169 (.tmp 10) (.tmp 11) (.agg ar) (.string s) rfl rfl rfl HBT.out ?_) | (refine wpList_load_row rfl 138 (.tmp 2) rfl w.heap.size rfl 138 ar (0, 0) _ (Blk.new w _ _) Tryd.underlying138 rfl (by rw [HSZ.out]; kernel_rfl) ?_))
  have hal : Below w.heap.size w ((w.alloc (.cells (ar) 138)).alloc (.cells (tb) 169)) := ((Below.refl _ _).alloc (Nat.le_refl _) _).alloc (by simp) _
  have HAL := Lib.hid hal; clear hal
  go_loopw [7, 8, 9] (fun nx at1 n wr => ∃ (m : Nat) (a b : Nat) (st : HS) (fs at_ : Nat → Int), m ≤ 16 ∧ a ≤ 65535 ∧ b ≤ s.size ∧ nx = .int .i64 a ∧ at1 = .int .i64 b ∧ n = .int .i64 (m + 1 : Nat) ∧ Hid (st.next = a ∧ st.at_ = b) ∧ Hid (hOut cnt s m = some st) ∧ Hid (∀ j, 1 ≤ j → j ≤ m → fs j = fsF cnt s j ∧ at_ j = atF cnt s j) ∧ Hid (Tab wr (w.heap.size + 1) cnt s st.cb st.cn fs at_) ∧ Hid (Blk wr w.heap.size 138 (ar)) ∧ Hid (Below w.heap.size w wr)) (fun _ _ n _ => 17 - (intOf n).toNat)
  case atStart =>
    refine ⟨0, 0, 0, ⟨0, 0, zf, zf⟩, zf, zf, by omega, by omega, by omega, rfl, rfl, rfl, Lib.hid ⟨rfl, rfl⟩, Lib.hid rfl, Lib.hid (fun j h1 h2 => by omega), Lib.hid ?_, Lib.hid ?_, HAL⟩
    · have h1 := Blk.new (w.alloc (.cells (ar) 138)) 169 (tb)
      have e : (w.alloc (.cells (ar) 138)).heap.size = w.heap.size + 1 := by simp
      rw [e] at h1
      unfold Tab; rw [← HTB.out]; exact h1
    · exact (Blk.new w _ _).alloc _
  case round =>
    obtain ⟨m, a, b, st, fs, at_, hm, ha, hb, rfl, rfl, rfl, hst, hout, hfs, HT, HC, HB⟩ := hrel
    by_cases hlt : m < 16
    · go_wp2_with fail
      refine region_plan (.run [0, 1, 2, 3, 4, 5, 6, 7, 8, 10, 11] (.ev 9 (.run [12] (.ev 13 .fin)))) (fun w' => True) (by kernel_rfl) trivial ?_
      intro wd hwd
      have HT1 := Lib.hid (HT.out.drewE hwd)
      have HC1 := Lib.hid (HC.out.drewE hwd)
      have HB1 := Lib.hid (belowD HB.out hwd)
      have c9 := HT1.out.gFs (i := m + 1) (by omega)
      have z9 := HT1.out.frozen (529 + (m + 1))
      have c13 := HT1.out.gAt (i := m + 1) (by omega)
      have z13 := HT1.out.frozen (546 + (m + 1))
      clear hwd
      refine plan_run fun m hm => ?_
      simp only [pickO, List.filterMap_cons, List.filterMap_nil, List.getElem?_toArray, List.getElem?_cons_zero, List.getElem?_cons_succ] at hm
      subst hm
      go_wp2_with fail
      refine ⟨rfl, by rfl, ?_⟩
      refine plan_ev fun m hm => ?_
      simp only [pickO, List.filterMap_cons, List.filterMap_nil, List.getElem?_toArray, List.getElem?_cons_zero, List.getElem?_cons_succ] at hm
      subst hm
      go_wp2_with fail
      refine ⟨rfl, trivial, ?_⟩
      try simp only [Act.put, List.setIfInBounds_toArray, List.set_cons_zero, List.set_cons_succ]
      refine plan_run fun m hm => ?_
      simp only [pickO, List.filterMap_cons, List.filterMap_nil, List.getElem?_toArray, List.getElem?_cons_zero, List.getElem?_cons_succ] at hm
      subst hm
      go_wp2_with fail
      refine ⟨rfl, by rfl, ?_⟩
      refine plan_ev fun m hm => ?_
      simp only [pickO, List.filterMap_cons, List.filterMap_nil, List.getElem?_toArray, List.getElem?_cons_zero, List.getElem?_cons_succ] at hm
      subst hm
      go_wp2_with fail
      refine ⟨rfl, trivial, ?_⟩
      try simp only [Act.put, List.setIfInBounds_toArray, List.set_cons_zero, List.set_cons_succ]
      refine plan_fin ?_
      have HT2 := Lib.hid ((HT1.out.setFs (i := m + 1) (by omega) (a * 2)).setAt (i := m + 1) (by omega) b)
      have HC2 := Lib.hid ((HC1.out.far (p := ⟨w.heap.size + 1, 529 + (m + 1), none⟩) (by simp) (.int .i64 (a * 2))).far (p := ⟨w.heap.size + 1, 546 + (m + 1), none⟩) (by simp) (.int .i64 b))
      have HB2 := Lib.hid ((HB1.out.setCell (p := ⟨w.heap.size + 1, 529 + (m + 1), none⟩) (by simp) (.int .i64 (a * 2))).setCell (p := ⟨w.heap.size + 1, 546 + (m + 1), none⟩) (by simp) (.int .i64 b))
      obtain ⟨c, hc⟩ : ∃ c : Nat, (c : Int) = cnt m := ⟨(cnt m).toNat, by have := hcb.out m hlt; omega⟩
      have hc2 : c ≤ 255 := by have := hcb.out m hlt; omega
      have cm : wd.cell? ⟨w.heap.size, m, none⟩ = some (.int .u8 c) := by rw [HC1.out.cell m, HAR.out, arrN_get _ _ hlt, hc]
      have HCC := Lib.hid hc
      obtain ⟨Q, hQ⟩ : ∃ Q : Nat, Q = 2 ^ (m + 1) := ⟨_, rfl⟩
      have hQ2 : Q ≤ 65536 := by rw [hQ]; exact Nat.pow_le_pow_right (n := 2) (by omega) (show m + 1 ≤ 16 by omega)
      have hQ3 : 2 ≤ Q := by rw [hQ, Nat.pow_succ]; have := Nat.one_le_two_pow (n := m); omega
      have hq : (2 : Int) ^ (m + 1) = (Q : Int) := by rw [hQ]; norm_cast
      have HQ := Lib.hid hQ; have HQI := Lib.hid hq
      clear c9 c13 z9 z13 hc hQ hq
      go_wp2_with fail
      clear cm
      go_loopw [7, 8, 36] (fun nx at1 j wr => ∃ (k a2 b2 : Nat) (st2 : HS), k ≤ c ∧ a2 ≤ 65535 ∧ b2 ≤ s.size ∧ nx = .int .i64 a2 ∧ at1 = .int .i64 b2 ∧ j = .int .u8 k ∧ Hid (st2.next = a2 ∧ st2.at_ = b2) ∧ Hid (hIn s (m + 1) k { st with next := 2 * st.next } = some st2) ∧ Hid (Tab wr (w.heap.size + 1) cnt s st2.cb st2.cn (upd fs (m + 1) (a * 2)) (upd at_ (m + 1) b)) ∧ Hid (Blk wr w.heap.size 138 (ar)) ∧ Hid (Below w.heap.size w wr)) (fun _ _ j _ => c - (intOf j).toNat)
      case atStart =>
        have hnx : 2 * a ≤ 65535 := by have h1 := (hOut_bd hout.out).1; rw [hst.out.1] at h1; have h2 := HQ.out; rw [Nat.pow_succ] at h2; omega
        refine ⟨0, 2 * a, b, { st with next := 2 * st.next }, by omega, hnx, hb, by go_num, rfl, rfl, Lib.hid ⟨by simp only; rw [hst.out.1], hst.out.2⟩, Lib.hid rfl, HT2, HC2, HB2⟩
      case round =>
        obtain ⟨k, a2, b2, st2, hk, ha2, hb2, rfl, rfl, rfl, hst2, hin, HT, HC, HB⟩ := hrel
        have hq := HQI.out
        by_cases hlt2 : k < c
        · have hbl : ∃ x, x = b2 := ⟨_, rfl⟩
          by_cases hbs : b2 < s.size
          · have hg1 : decide (s.size ≤ b2) = false := by simp; omega
            obtain ⟨x, hx⟩ : ∃ x, s[b2].toNat = x := ⟨_, rfl⟩
            have hx2 : x < 256 := by rw [← hx]; exact UInt8.toNat_lt _
            have hxs : symN s b2 = x := by rw [← hx]; exact (symN_eq hbs).symm
            have HXS := Lib.hid hxs; clear hxs
            by_cases hbq : a2 + 1 < Q
            · have hg2 : decide ((Q : Int) - 1 ≤ (a2 : Int)) = false := by simp; omega
              obtain ⟨z, hz⟩ : ∃ z, z = st2.cn x := ⟨_, rfl⟩
              have cz : wr.cell? ⟨w.heap.size + 1, 17 + x * 2 + 1, none⟩ = some (.int .i64 z) := by rw [HT.out.gCn hx2, hz]
              have HZ := Lib.hid hz; clear hz
              by_cases hz0 : 0 < z
              · have hg3 : decide (0 < z) = true := by simpa using hz0
                go_wp2_with fail
                refine region_plan (.run [0, 1, 2, 3, 4, 5, 6, 7, 8, 9, 10, 11, 12, 13, 14, 15, 16, 17, 18, 19, 20, 21, 22] .fin) (fun w' => True) (by kernel_rfl) trivial ?_
                intro wd2 hwd
                have HT3 := Lib.hid (HT.out.drewE hwd)
                have HC3 := Lib.hid (HC.out.drewE hwd)
                have HB3 := Lib.hid (belowD HB.out hwd)
                have cz1 : wd2.cell? ⟨w.heap.size + 1, 17 + x * 2 + 1, none⟩ = some (.int .i64 z) := by rw [hwd]; exact cz
                clear hwd
                refine plan_run fun m hm => ?_
                simp only [pickO, List.filterMap_cons, List.filterMap_nil, List.getElem?_toArray, List.getElem?_cons_zero, List.getElem?_cons_succ] at hm
                subst hm
                go_wp2_with fail
                refine ⟨rfl, by rfl, ?_⟩
                refine plan_fin ?_
                go_wp2
                go_ret2
                exact NewH.no (hufNew_in hout.out (k := k + 1) (by rw [hIn, hin.out]; simp only; rw [if_pos]; rw [hst2.out.1, hst2.out.2]; exact Or.inr (Or.inr (by rw [HXS.out, ← HZ.out]; exact hz0))) hlt (by rw [← HCC.out]; omega)) rfl HB3.out
              · have hg3 : decide (0 < z) = false := by simpa using hz0
                go_wp2_with fail
                refine region_plan (.run [0, 1, 2, 3, 4, 5, 6, 7, 8, 9, 10, 11, 12, 13, 14, 15, 16, 17, 18, 19, 20, 21, 22] .fin) (fun w' => True) (by kernel_rfl) trivial ?_
                intro wd2 hwd
                have HT3 := Lib.hid (HT.out.drewE hwd)
                have HC3 := Lib.hid (HC.out.drewE hwd)
                have HB3 := Lib.hid (belowD HB.out hwd)
                have cz1 : wd2.cell? ⟨w.heap.size + 1, 17 + x * 2 + 1, none⟩ = some (.int .i64 z) := by rw [hwd]; exact cz
                clear hwd
                refine plan_run fun m hm => ?_
                simp only [pickO, List.filterMap_cons, List.filterMap_nil, List.getElem?_toArray, List.getElem?_cons_zero, List.getElem?_cons_succ] at hm
                subst hm
                go_wp2_with fail
                refine ⟨rfl, by rfl, ?_⟩
                refine plan_fin ?_
                go_wp2_with fail
                refine region_plan (.run [0, 1, 2, 3, 4, 5, 6, 7, 8, 9] (.ev 10 .fin)) (fun w' => True) (by kernel_rfl) trivial ?_
                intro wd3 hwd
                have HT4 := Lib.hid (HT3.out.drewE hwd)
                have HC4 := Lib.hid (HC3.out.drewE hwd)
                have HB4 := Lib.hid (belowD HB3.out hwd)
                clear hwd
                refine plan_run fun m hm => ?_
                simp only [pickO, List.filterMap_cons, List.filterMap_nil, List.getElem?_toArray, List.getElem?_cons_zero, List.getElem?_cons_succ] at hm
                subst hm
                go_wp2_with fail
                refine ⟨rfl, by rfl, ?_⟩
                refine plan_ev fun m hm => ?_
                simp only [pickO, List.filterMap_cons, List.filterMap_nil, List.getElem?_toArray, List.getElem?_cons_zero, List.getElem?_cons_succ] at hm
                subst hm
                refine wpList_store_code rfl (.tmp 70) (.tmp 67) rfl (w.heap.size + 1) x a2 (m + 1 : Nat) hx2 (by first | rfl | (simp; done)) (by first | rfl | (simp; done)) HT4.out ?_
                intro w5 hT5 hf5 hb5
                have HT5 := Lib.hid hT5; have HC5 := Lib.hid (hf5 _ _ _ (by simp) HC4.out); have HB5 := Lib.hid (hb5 w.heap.size w (by simp) HB4.out)
                clear hT5 hf5 hb5
                refine ⟨rfl, trivial, ?_⟩
                try simp only [Act.put, List.setIfInBounds_toArray, List.set_cons_zero, List.set_cons_succ]
                refine plan_fin ?_
                go_wp2
                refine ⟨⟨k + 1, a2 + 1, b2 + 1, ⟨st2.next + 1, st2.at_ + 1, upd st2.cb x st2.next, upd st2.cn x (m + 1 : Nat)⟩, by omega, by omega, by omega, by go_num, by go_num, by go_num, Lib.hid ⟨by simp only; rw [hst2.out.1], by simp only; rw [hst2.out.2]⟩, Lib.hid ?_, Lib.hid ?_, HC5, HB5⟩, by simp [intOf]; omega⟩
                · rw [hIn, hin.out]; simp only; rw [if_neg]
                  · rw [hst2.out.2, HXS.out]
                  · rw [hst2.out.1, hst2.out.2, HXS.out, ← HQ.out]; have := HZ.out; omega
                · simp only; rw [hst2.out.1]; exact HT5.out
            · have hg2 : decide ((Q : Int) - 1 ≤ (a2 : Int)) = true := by simp; omega
              go_wp2_with fail
              refine region_plan (.run [0, 1, 2, 3, 4, 5, 6, 7, 8, 9, 10, 11] (.held 12 (.held 13 (.held 14 (.held 15 (.held 16 (.held 17 (.held 18 (.held 19 (.held 20 (.held 21 (.run [22] .fin)))))))))))) (fun w' => True) (by kernel_rfl) trivial ?_
              intro wd2 hwd
              have HT3 := Lib.hid (HT.out.drewE hwd)
              have HC3 := Lib.hid (HC.out.drewE hwd)
              have HB3 := Lib.hid (belowD HB.out hwd)
              clear hwd
              refine plan_run fun m hm => ?_
              simp only [pickO, List.filterMap_cons, List.filterMap_nil, List.getElem?_toArray, List.getElem?_cons_zero, List.getElem?_cons_succ] at hm
              subst hm
              go_wp2_with fail
              refine ⟨rfl, by rfl, ?_⟩
              refine plan_off (o := ⟨some 50, _, _, _, _, _⟩) rfl (by rfl) ?_
              try simp only [Act.put, List.setIfInBounds_toArray, List.set_cons_zero, List.set_cons_succ]
              refine plan_off (o := ⟨some 51, _, _, _, _, _⟩) rfl (by rfl) ?_
              try simp only [Act.put, List.setIfInBounds_toArray, List.set_cons_zero, List.set_cons_succ]
              refine plan_off (o := ⟨some 52, _, _, _, _, _⟩) rfl (by rfl) ?_
              try simp only [Act.put, List.setIfInBounds_toArray, List.set_cons_zero, List.set_cons_succ]
              refine plan_off (o := ⟨some 53, _, _, _, _, _⟩) rfl (by rfl) ?_
              try simp only [Act.put, List.setIfInBounds_toArray, List.set_cons_zero, List.set_cons_succ]
              refine plan_off (o := ⟨some 54, _, _, _, _, _⟩) rfl (by rfl) ?_
              try simp only [Act.put, List.setIfInBounds_toArray, List.set_cons_zero, List.set_cons_succ]
              refine plan_off (o := ⟨some 55, _, _, _, _, _⟩) rfl (by rfl) ?_
              try simp only [Act.put, List.setIfInBounds_toArray, List.set_cons_zero, List.set_cons_succ]
              refine plan_off (o := ⟨some 56, _, _, _, _, _⟩) rfl (by rfl) ?_
              try simp only [Act.put, List.setIfInBounds_toArray, List.set_cons_zero, List.set_cons_succ]
              refine plan_off (o := ⟨some 57, _, _, _, _, _⟩) rfl (by rfl) ?_
              try simp only [Act.put, List.setIfInBounds_toArray, List.set_cons_zero, List.set_cons_succ]
              refine plan_off (o := ⟨some 58, _, _, _, _, _⟩) rfl (by rfl) ?_
              try simp only [Act.put, List.setIfInBounds_toArray, List.set_cons_zero, List.set_cons_succ]
              refine plan_off (o := ⟨some 59, _, _, _, _, _⟩) rfl (by rfl) ?_
              try simp only [Act.put, List.setIfInBounds_toArray, List.set_cons_zero, List.set_cons_succ]
              refine plan_run fun m hm => ?_
              simp only [pickO, List.filterMap_cons, List.filterMap_nil, List.getElem?_toArray, List.getElem?_cons_zero, List.getElem?_cons_succ] at hm
              subst hm
              go_wp2_with fail
              refine ⟨rfl, by rfl, ?_⟩
              refine plan_fin ?_
              go_wp2
              go_ret2
              exact NewH.no (hufNew_in hout.out (k := k + 1) (by rw [hIn, hin.out]; simp only; rw [if_pos]; rw [hst2.out.1, hst2.out.2]; exact Or.inr (Or.inl (by rw [← HQ.out]; omega))) hlt (by rw [← HCC.out]; omega)) rfl HB3.out
          · have hg1 : decide (s.size ≤ b2) = true := by simp; omega
            go_wp2_with fail
            refine region_plan (.run [0, 1, 2, 3, 4] (.held 5 (.held 6 (.held 7 (.held 8 (.held 9 (.run [10, 11] (.held 12 (.held 13 (.held 14 (.held 15 (.held 16 (.held 17 (.held 18 (.held 19 (.held 20 (.held 21 (.run [22] .fin)))))))))))))))))) (fun w' => True) (by kernel_rfl) trivial ?_
            intro wd2 hwd
            have HT3 := Lib.hid (HT.out.drewE hwd)
            have HC3 := Lib.hid (HC.out.drewE hwd)
            have HB3 := Lib.hid (belowD HB.out hwd)
            clear hwd
            refine plan_run fun m hm => ?_
            simp only [pickO, List.filterMap_cons, List.filterMap_nil, List.getElem?_toArray, List.getElem?_cons_zero, List.getElem?_cons_succ] at hm
            subst hm
            go_wp2_with fail
            refine ⟨rfl, by rfl, ?_⟩
            refine plan_off (o := ⟨some 43, _, _, _, _, _⟩) rfl (by rfl) ?_
            try simp only [Act.put, List.setIfInBounds_toArray, List.set_cons_zero, List.set_cons_succ]
            refine plan_off (o := ⟨some 44, _, _, _, _, _⟩) rfl (by rfl) ?_
            try simp only [Act.put, List.setIfInBounds_toArray, List.set_cons_zero, List.set_cons_succ]
            refine plan_off (o := ⟨some 45, _, _, _, _, _⟩) rfl (by rfl) ?_
            try simp only [Act.put, List.setIfInBounds_toArray, List.set_cons_zero, List.set_cons_succ]
            refine plan_off (o := ⟨some 46, _, _, _, _, _⟩) rfl (by rfl) ?_
            try simp only [Act.put, List.setIfInBounds_toArray, List.set_cons_zero, List.set_cons_succ]
            refine plan_off (o := ⟨some 47, _, _, _, _, _⟩) rfl (by rfl) ?_
            try simp only [Act.put, List.setIfInBounds_toArray, List.set_cons_zero, List.set_cons_succ]
            refine plan_run fun m hm => ?_
            simp only [pickO, List.filterMap_cons, List.filterMap_nil, List.getElem?_toArray, List.getElem?_cons_zero, List.getElem?_cons_succ] at hm
            subst hm
            go_wp2_with fail
            refine ⟨rfl, by rfl, ?_⟩
            refine plan_off (o := ⟨some 50, _, _, _, _, _⟩) rfl (by rfl) ?_
            try simp only [Act.put, List.setIfInBounds_toArray, List.set_cons_zero, List.set_cons_succ]
            refine plan_off (o := ⟨some 51, _, _, _, _, _⟩) rfl (by rfl) ?_
            try simp only [Act.put, List.setIfInBounds_toArray, List.set_cons_zero, List.set_cons_succ]
            refine plan_off (o := ⟨some 52, _, _, _, _, _⟩) rfl (by rfl) ?_
            try simp only [Act.put, List.setIfInBounds_toArray, List.set_cons_zero, List.set_cons_succ]
            refine plan_off (o := ⟨some 53, _, _, _, _, _⟩) rfl (by rfl) ?_
            try simp only [Act.put, List.setIfInBounds_toArray, List.set_cons_zero, List.set_cons_succ]
            refine plan_off (o := ⟨some 54, _, _, _, _, _⟩) rfl (by rfl) ?_
            try simp only [Act.put, List.setIfInBounds_toArray, List.set_cons_zero, List.set_cons_succ]
            refine plan_off (o := ⟨some 55, _, _, _, _, _⟩) rfl (by rfl) ?_
            try simp only [Act.put, List.setIfInBounds_toArray, List.set_cons_zero, List.set_cons_succ]
            refine plan_off (o := ⟨some 56, _, _, _, _, _⟩) rfl (by rfl) ?_
            try simp only [Act.put, List.setIfInBounds_toArray, List.set_cons_zero, List.set_cons_succ]
            refine plan_off (o := ⟨some 57, _, _, _, _, _⟩) rfl (by rfl) ?_
            try simp only [Act.put, List.setIfInBounds_toArray, List.set_cons_zero, List.set_cons_succ]
            refine plan_off (o := ⟨some 58, _, _, _, _, _⟩) rfl (by rfl) ?_
            try simp only [Act.put, List.setIfInBounds_toArray, List.set_cons_zero, List.set_cons_succ]
            refine plan_off (o := ⟨some 59, _, _, _, _, _⟩) rfl (by rfl) ?_
            try simp only [Act.put, List.setIfInBounds_toArray, List.set_cons_zero, List.set_cons_succ]
            refine plan_run fun m hm => ?_
            simp only [pickO, List.filterMap_cons, List.filterMap_nil, List.getElem?_toArray, List.getElem?_cons_zero, List.getElem?_cons_succ] at hm
            subst hm
            go_wp2_with fail
            refine ⟨rfl, by rfl, ?_⟩
            refine plan_fin ?_
            go_wp2
            go_ret2
            exact NewH.no (hufNew_in hout.out (k := k + 1) (by rw [hIn, hin.out]; simp only; rw [if_pos]; rw [hst2.out.1, hst2.out.2]; exact Or.inl (by omega)) hlt (by rw [← HCC.out]; omega)) rfl HB3.out
        · obtain rfl : k = c := by omega
          go_wp2
          refine ⟨⟨m + 1, a2, b2, st2, _, _, by omega, by omega, hb2, rfl, rfl, by go_num, hst2, Lib.hid ?_, Lib.hid ?_, HT, HC, HB⟩, by simp [intOf]; omega⟩
          · rw [hOut, hout.out, ← HCC.out]; exact hin.out
          · intro j h1 h2
            by_cases e : j = m + 1
            · subst e
              simp only [upd, fsF, atF, hout.out, if_pos, hst.out.1, hst.out.2]
              exact ⟨by omega, trivial⟩
            · have := hfs.out j h1 (by omega)
              simp only [upd, if_neg e]
              exact this
    · obtain rfl : m = 16 := by omega
      by_cases h0 : b = 0 ∨ b ≠ s.size
      · have hno : hufNew cnt s = none := by unfold hufNew; rw [hout.out]; simp only; rw [if_pos (by rw [hst.out.2]; exact h0)]
        have HN := Lib.hid hno; clear hno
        by_cases hb0 : b = 0
        · have g0 : ((b : Int) == 0) = true := by simpa using hb0
          go_wp2
          go_ret2
          exact NewH.no HN.out rfl HB.out
        · have g0 : ((b : Int) == 0) = false := by simpa using hb0
          have g1 : ((b : Int) != (s.size : Int)) = true := by simp; omega
          go_wp2
          go_ret2
          exact NewH.no HN.out rfl HB.out
      · have g0 : ((b : Int) == 0) = false := by simp; omega
        have g1 : ((b : Int) != (s.size : Int)) = false := by simp; omega
        have hyes : hufNew cnt s = some st := by unfold hufNew; rw [hout.out]; simp only; rw [if_neg (by rw [hst.out.2]; exact h0)]
        have HY := Lib.hid hyes; clear hyes
        go_wp2
        go_ret2
        exact NewH.yes HY.out rfl HT.out hfs.out (by simp) HB.out

end Go.Proofs.YthibnhgbgmpjoaaDoor
