/- What was put by a right table is read again, symbol by symbol. No condition. -/
import Derived.Test.YtaofponadaifiaaHuO
import Derived.ShutString
import Derived.ChangeOld
import Derived.SizedLaws
namespace Go.Proofs.Ytaofponadaifiaa
open Go.RowKit
set_option linter.unusedSimpArgs false
set_option linter.unusedVariables false
/-- The symbols and their codes. -/
def MatchC (st : HS) : List Int → List (Nat × Nat) → Prop
  | [], [] => True
  | d :: D, c :: C => (∃ x : Nat, d = x ∧ CodeIs st x c.2 c.1 ∧ c.2 ≤ 16) ∧ MatchC st D C
  | _, _ => False
theorem MatchC.app {st : HS} {d : Int} {c : Nat × Nat} : ∀ {D : List Int} {C : List (Nat × Nat)}, MatchC st D C → (∃ x : Nat, d = x ∧ CodeIs st x c.2 c.1 ∧ c.2 ≤ 16) → MatchC st (D ++ [d]) (C ++ [c])
  | [], [], _, h => ⟨h, trivial⟩
  | _ :: _, _ :: _, h1, h2 => ⟨h1.1, MatchC.app h1.2 h2⟩
theorem counts_lit {w : World} {g : Nat} {cnt : Nat → Int} {s : ByteArray} {cb cn fs at_ : Nat → Int} (hT : Tab w g cnt s cb cn fs at_) : Calls Try.prog 25 #[.pointer (some ⟨g, 0, none⟩)] w fun e w' => e = .returned (.agg #[.int .u8 (cnt 0), .int .u8 (cnt 1), .int .u8 (cnt 2), .int .u8 (cnt 3), .int .u8 (cnt 4), .int .u8 (cnt 5), .int .u8 (cnt 6), .int .u8 (cnt 7), .int .u8 (cnt 8), .int .u8 (cnt 9), .int .u8 (cnt 10), .int .u8 (cnt 11), .int .u8 (cnt 12), .int .u8 (cnt 13), .int .u8 (cnt 14), .int .u8 (cnt 15)]) ∧ Below w.heap.size w w' := counts_ok hT
theorem eql_arr16 (cnt : Nat → Int) (w : World) : (binOp .eql 22 (.agg (arrN .u8 16 cnt)) (.agg (arrN .u8 16 cnt))).run Try.prog w = .ok (.bool true) w := by
  obtain ⟨i, hi⟩ := Option.isSome_iff_exists.1 (show (Try.prog.info? 5).isSome = true by kernel_rfl)
  rw [run_eql_arr w Try.underlying22 Try.underlying5 (by kernel_rfl) hi (by kernel_rfl)]
  simp
theorem back_long (cnt : Nat → Int) (s tx : ByteArray) (hs : 200 < tx.size ∨ 256 < s.size) (w : World) : Calls Try.prog 8 #[.agg (arrN .u8 16 cnt), .string s, .string tx] w fun e w' => e = .returned (.bool true) ∧ Below w.heap.size w w' := by
  obtain ⟨ar, har⟩ : ∃ ar, ar = arrN .u8 16 cnt := ⟨_, rfl⟩
  have hsz : ar.size = 16 := by rw [har, arrN_size]
  rw [← har]
  have HAR := Lib.hid har; have HSZ := Lib.hid hsz
  clear har hsz
  obtain ⟨t1, ht1⟩ : ∃ t, decide ((200 : Int) < (tx.size : Int)) = t := ⟨_, rfl⟩
  have ht2 : t1 = false → decide ((256 : Int) < (s.size : Int)) = true := fun h => by subst h; simp at ht1; simp; omega
  cases t1
  all_goals
  try have ht2 := ht2 rfl
  go_enter Try.func8, Try.ntmps8
  go_wp2_with fail
  refine (awake_walk _).mono ?_
  rintro e w1 ⟨rfl, hb1⟩
  have HB1 := Lib.hid (((Below.refl w.heap.size w).alloc (Nat.le_refl _) (.cells ar 22)).trans (hb1.mono (by simp))); clear hb1
  go_wp2_with fail
  refine (awake_walk _).mono ?_
  rintro e w2 ⟨rfl, hb2⟩
  have HB2 := Lib.hid (HB1.out.trans (hb2.mono HB1.out.size)); clear hb2
  go_wp2_with fail
  go_ret
  exact ⟨rfl, HB2.out⟩
set_option maxHeartbeats 0 in
set_option maxRecDepth 20000 in
theorem back_no (cnt : Nat → Int) (s tx : ByteArray) (hs : s.size ≤ 256) (hd : tx.size ≤ 200) (hc : ∀ j, j < 16 → 0 ≤ cnt j ∧ cnt j ≤ 255) (h0 : hufNew cnt s = none) (w : World) : Calls Try.prog 8 #[.agg (arrN .u8 16 cnt), .string s, .string tx] w fun e w' => e = .returned (.bool true) ∧ Below w.heap.size w w' := by
  have hg2 : decide ((256 : Int) < (s.size : Int)) = false := by simp; omega
  have hg3 : decide ((200 : Int) < (tx.size : Int)) = false := by simp; omega
  obtain ⟨ar, har⟩ : ∃ ar, ar = arrN .u8 16 cnt := ⟨_, rfl⟩
  have hsz : ar.size = 16 := by rw [har, arrN_size]
  rw [← har]
  have HAR := Lib.hid har; have HSZ := Lib.hid hsz
  clear har hsz
  have HCR := Lib.hid hc; have HST := Lib.hid h0
  clear hc h0
  go_enter Try.func8, Try.ntmps8
  go_wp2_with (first | (go_at_call 9; refine (awake_walk _).mono ?_; rintro e w1 ⟨rfl, hb1⟩; have HA1 := Lib.hid ((Blk.new w 22 ar).bel hb1); have HB1 := Lib.hid (((Below.refl w.heap.size w).alloc (Nat.le_refl _) (.cells ar 22)).trans (hb1.mono (by simp))); clear hb1) | (refine wpList_load_row rfl 22 (.tmp 3) rfl w.heap.size rfl 22 ar (0, 0) _ HA1.out Try.underlying22 rfl (by rw [HSZ.out]; kernel_rfl) ?_) | (go_at_call 10; rw [HAR.out]; refine (new_h cnt s w1 HCR.out (by omega)).mono ?_; intro e w2 hp; obtain ⟨rfl, hb2⟩ := NewH.none hp HST.out; have HB2 := Lib.hid (HB1.out.trans (hb2.mono HB1.out.size)); rw [← HAR.out]; clear hb2 hp))
  go_ret
  exact ⟨rfl, HB2.out⟩
set_option maxHeartbeats 0 in
set_option maxRecDepth 20000 in
theorem back_yes (cnt : Nat → Int) (s tx : ByteArray) (hs : s.size ≤ 256) (hd : tx.size ≤ 200) (hc : ∀ j, j < 16 → 0 ≤ cnt j ∧ cnt j ≤ 255) (st : HS) (h0 : hufNew cnt s = some st) (w : World) : Calls Try.prog 8 #[.agg (arrN .u8 16 cnt), .string s, .string tx] w fun e w' => e = .returned (.bool true) ∧ Below w.heap.size w w' := by
  have hg2 : decide ((256 : Int) < (s.size : Int)) = false := by simp; omega
  have hg3 : decide ((200 : Int) < (tx.size : Int)) = false := by simp; omega
  obtain ⟨ar, har⟩ : ∃ ar, ar = arrN .u8 16 cnt := ⟨_, rfl⟩
  have hsz : ar.size = 16 := by rw [har, arrN_size]
  rw [← har]
  have HAR := Lib.hid har; have HSZ := Lib.hid hsz
  clear har hsz
  have HCR := Lib.hid hc; have HST := Lib.hid h0
  clear hc h0
  go_enter Try.func8, Try.ntmps8
  go_wp2_with (first | (go_at_call 9; refine (awake_walk _).mono ?_; rintro e w1 ⟨rfl, hb1⟩; have HA1 := Lib.hid ((Blk.new w 22 ar).bel hb1); have HB1 := Lib.hid (((Below.refl w.heap.size w).alloc (Nat.le_refl _) (.cells ar 22)).trans (hb1.mono (by simp))); clear hb1) | (refine wpList_load_row rfl 22 (.tmp 3) rfl w.heap.size rfl 22 ar (0, 0) _ HA1.out Try.underlying22 rfl (by rw [HSZ.out]; kernel_rfl) ?_) | (go_at_call 10; rw [HAR.out]; refine ((new_h cnt s w1 HCR.out (by omega)).mono fun e w' h => NewH.get h HST.out).mono ?_; intro e w2 hp; obtain ⟨g, at_, fs, rfl, hT, hfs, _, hb2⟩ := hp.out; have HT := Lib.hid hT; have HFS := Lib.hid hfs; have HA2 := Lib.hid (HA1.out.bel hb2); have HB2 := Lib.hid (HB1.out.trans (hb2.mono HB1.out.size)); rw [← HAR.out]; clear hT hfs hb2 hp) | (go_at_call 23; refine (newWriter_walk _).mono ?_; rintro e w3 ⟨rfl, hw3, hb3⟩; have HW3 := Lib.hid hw3; have HT3 := Lib.hid (HT.out.bel hb3); have HA3 := Lib.hid (HA2.out.bel hb3); have HB3 := Lib.hid (HB2.out.trans (hb3.mono HB2.out.size)); clear hw3 hb3))
  have hP0 : PW w3 w2.heap.size w2.heap.size [] [] 0 [] 0 := ⟨⟨_, HW3.out⟩, by simp, (fun b hb => by cases hb), by simp, by omega, by omega, (fun p hp => by cases hp), by simp, fun es => by simp [enc]⟩
  have HP0 := Lib.hid hP0
  clear hP0
  go_loopw [10, 11] (fun al i wr => ∃ (k N c : Nat) (A : Option Addr) (D W l : List Int) (t : Int) (C : List (Nat × Nat)), k ≤ tx.size ∧ N ≤ k ∧ al = .slice A N c ∧ i = .int .i64 k ∧ Hid (N = D.length) ∧ Hid (OwnI wr w2.heap.size (.slice A N c) D) ∧ Hid (PW wr w2.heap.size w2.heap.size l W t (acs C) k) ∧ Hid (MatchC st D C) ∧ Hid (Tab wr g cnt s st.cb st.cn fs at_) ∧ Hid (Blk wr w.heap.size 22 ar) ∧ Hid (Below w.heap.size w wr) ∧ Hid (w2.heap.size ≤ wr.heap.size)) (fun _ i _ => tx.size - (intOf i).toNat)
  case atStart => exact ⟨0, 0, 0, none, [], [], [], 0, [], by omega, by omega, rfl, rfl, Lib.hid rfl, Lib.hid (OwnI.nil _ _), HP0, Lib.hid trivial, HT3, HA3, HB3, Lib.hid (by have h1 := HP0.out; obtain ⟨vv, h2⟩ := h1.wr; have h3 := Blk.lt h2.1; omega)⟩
  case round =>
    obtain ⟨k, N, c, A, D, W, l, t, C, hk, hNk, rfl, rfl, hND, HO, HP, HMC, HT, HA, HB, HSZ2⟩ := hrel
    by_cases hlt : k < tx.size
    · obtain ⟨x, hx⟩ : ∃ x, tx[k].toNat = x := ⟨_, rfl⟩
      have hx2 : x < 256 := by rw [← hx]; exact UInt8.toNat_lt _
      rcases codes_of HST.out x with hC | ⟨n, v, hC, hn⟩
      · have HC := Lib.hid hC; clear hC
        go_wp2_with fail
        refine (code_z HT.out hx2 HC.out).mono ?_
        rintro e w5 ⟨rfl, hb5⟩
        have HT5 := Lib.hid (HT.out.bel hb5); have HO5 := Lib.hid (HO.out.bel hb5); have HP5 := Lib.hid (HP.out.bel hb5); have HA5 := Lib.hid (HA.out.bel hb5); have HB5 := Lib.hid (HB.out.trans (hb5.mono HB.out.size)); have HZ5 := Lib.hid (Nat.le_trans HSZ2.out hb5.size)
        clear hb5
        go_wp2_with fail
        refine (put_none HT5.out hx2 HC.out).mono ?_
        rintro e w6 ⟨rfl, hb6⟩
        have HT6 := Lib.hid (HT5.out.bel hb6); have HO6 := Lib.hid (HO5.out.bel hb6); have HP6 := Lib.hid (HP5.out.bel hb6).up; have HA6 := Lib.hid (HA5.out.bel hb6); have HB6 := Lib.hid (HB5.out.trans (hb6.mono HB5.out.size)); have HZ6 := Lib.hid (Nat.le_trans HZ5.out hb6.size)
        clear hb6
        go_wp2
        exact ⟨⟨k + 1, N, c, A, D, W, l, t, C, by omega, by omega, rfl, by go_num, hND, HO6, HP6, HMC, HT6, HA6, HB6, HZ6⟩, by simp [intOf]; omega⟩
      · have HC := Lib.hid hC; clear hC
        go_wp2_with fail
        refine (code_y HT.out hx2 HC.out).mono ?_
        rintro e w5 ⟨rfl, hb5⟩
        have HT5 := Lib.hid (HT.out.bel hb5); have HO5 := Lib.hid (HO.out.bel hb5); have HP5 := Lib.hid (HP.out.bel hb5); have HA5 := Lib.hid (HA.out.bel hb5); have HB5 := Lib.hid (HB.out.trans (hb5.mono HB.out.size)); have HZ5 := Lib.hid (Nat.le_trans HSZ2.out hb5.size)
        clear hb5
        go_wp2_with fail
        refine (put_some HT5.out HP5.out (Nat.le_refl _) (by omega) HZ5.out hx2 HC.out hn).mono ?_
        intro e w6 hp
        obtain ⟨l', W', t', rfl, hP6, hb6, hk6⟩ := hp.out
        have hG5 := HP5.out.blk
        obtain ⟨wcs, hG5⟩ := hG5
        have HT6 : Hid (Tab w6 g cnt s st.cb st.cn fs at_) := Lib.hid (hk6 _ _ _ (by decide) (Blk.ne HT5.out hG5 (by decide)) HT5.out)
        have HA6 := Lib.hid (hk6 _ _ _ (by decide) (HA5.out.ne hG5 (by decide)) HA5.out)
        have HO6 := Lib.hid (HO5.out.keep fun g' cs hB => hk6 _ _ _ (by decide) (hB.ne hG5 (by decide)) hB)
        have HB6 := Lib.hid (HB5.out.trans (hb6.mono HB2.out.size))
        have HZ6 := Lib.hid (Nat.le_trans HZ5.out hb6.size)
        have hP6' : PW w6 w2.heap.size w2.heap.size l' W' t' (acs (C ++ [(v, n)])) (k + 1) := by
          have e : acs (C ++ [(v, n)]) = acs C ++ [⟨0, v, n⟩] := by simp [acs]
          rw [e]; exact hP6
        have HP6 := Lib.hid hP6'
        have HM6 : Hid (MatchC st (D ++ [(x : Int)]) (C ++ [(v, n)])) := Lib.hid (HMC.out.app ⟨x, rfl, HC.out, hn⟩)
        clear hp hP6 hb6 hk6 hG5 hP6'
        go_wp2_with (first | (at_builtin; refine appI2 rfl (.tmp 84) (.tmp 89) w6.heap.size rfl rfl (x : Int) rfl rfl HO6.out (by rw [← hND.out]; omega) HZ6.out ?_; intro v7 w7 hO7 hg7 hb7; obtain ⟨A8, c8, rfl, _⟩ := hO7.form; have hkt := KeepT.of_own HO6.out hg7; have HO7 := Lib.hid hO7; have HT7 : Hid (Tab w7 g cnt s st.cb st.cn fs at_) := Lib.hid (hkt _ _ _ (by decide) HT6.out); have HA7 := Lib.hid (hkt _ _ _ (by decide) HA6.out); have HP7 := Lib.hid (HP6.out.keepT hkt); have HB7 := Lib.hid (HB6.out.trans (hb7.mono HB2.out.size)); have HZ7 := Lib.hid (Nat.le_trans HZ6.out hb7.size); clear hO7 hg7 hb7 hkt))
        refine ⟨⟨k + 1, N + 1, c8, A8, D ++ [(x : Int)], W', l', t', C ++ [(v, n)], by omega, by omega, ?_, by go_num, Lib.hid (by rw [List.length_append, ← hND.out]; rfl), ?_, HP7, HM6, HT7, HA7, HB7, HZ7⟩, by simp [intOf]; omega⟩
        · rw [hND.out]
        · have h9 := HO7.out
          rw [List.length_append, ← hND.out] at h9
          exact Lib.hid h9
    · have hby := HP.out.bytes (by omega)
      have hel := enc_len HP.out
      rw [acs_ev] at hby hel
      obtain ⟨ds, hds⟩ : ∃ ds, ds = bytesOf (enc [] (putE C)) := ⟨_, rfl⟩
      have hdl : ds.size ≤ 8 * k + 2 := by rw [hds, bytesOf_len]; exact hel
      rw [← hds] at hby
      have hrem0 : remB ds 0 [] = segB [] (putE C) := by rw [hds]; exact remB_enc C
      have hI0 : InvR ds 0 [] := ⟨(fun b hb => by cases hb), by simp, Nat.zero_le _⟩
      have HBY := Lib.hid hby; have HRM0 := Lib.hid hrem0; have HI0 := Lib.hid hI0
      obtain ⟨gg, hgg, _, hSim⟩ := codes_yes HST.out
      have HGG := Lib.hid hgg; have HSIM := Lib.hid hSim
      have HDS := Lib.hid hds
      clear hby hel hds hrem0 hI0 hgg hSim
      go_wp2_with (first | (go_at_call 26; refine HBY.out.mono ?_; rintro e w5 ⟨rfl, hb5⟩; have HT5 := Lib.hid (HT.out.bel hb5); have HO5 := Lib.hid (HO.out.bel hb5); have HA5 := Lib.hid (HA.out.bel hb5); have HB5 := Lib.hid (HB.out.trans (hb5.mono HB.out.size)); have HB5S := Lib.hid HB5.out.size; clear hb5) | (go_at_call 18; refine (newReader_walk ds 0 (by omega) _).mono ?_; rintro e w6 ⟨rfl, hW6, hb6⟩; have HW6 : Hid (RdV w6 w5.heap.size ds (0 : Nat) (valB []) ([] : List Int).length) := Lib.hid hW6; have HT6 := Lib.hid (HT5.out.bel hb6); have HO6 := Lib.hid (HO5.out.bel hb6); have HA6 := Lib.hid (HA5.out.bel hb6); have HB6 := Lib.hid (HB5.out.trans (hb6.mono HB5.out.size)); clear hW6 hb6))
      go_loopw [17] (fun i wr => ∃ (j a : Nat) (H D2 W2 : List Int) (C2 : List (Nat × Nat)), j ≤ N ∧ i = .int .i64 j ∧ Hid (D.drop j = D2) ∧ Hid (MatchC st D2 C2) ∧ Hid (InvR ds a H) ∧ Hid (remB ds a H = segB W2 (putE C2)) ∧ Hid (RdV wr w5.heap.size ds a (valB H) H.length) ∧ Hid (Tab wr g cnt s st.cb st.cn fs at_) ∧ Hid (OwnI wr w2.heap.size (.slice A N c) D) ∧ Hid (Blk wr w.heap.size 22 ar) ∧ Hid (Below w.heap.size w wr)) (fun i _ => N - (intOf i).toNat)
      case atStart => exact ⟨0, 0, [], D, [], C, by omega, rfl, Lib.hid (by rw [List.drop_zero]), HMC, HI0, HRM0, HW6, HT6, HO6, HA6, HB6⟩
      case round =>
        clear HO HP HT HA HB HT5 HO5 HA5 HB5 HW6 HT6 HO6 HA6
        obtain ⟨j, a, H, D2, W2, C2, hj, rfl, hD2, hM2, HI, HRM, HR, HT, HO, HA, HB⟩ := hrel
        by_cases hlt2 : j < N
        · have hjD : j < D.length := by rw [← hND.out]; exact hlt2
          have hcons : D.drop j = D[j] :: D.drop (j + 1) := List.drop_eq_getElem_cons hjD
          have hm := hM2.out
          rw [← hD2.out, hcons] at hm
          cases C2 with
          | nil => exact absurd hm id
          | cons cc C2 =>
            obtain ⟨⟨y, hy, hC, hn⟩, hm2⟩ := hm
            have hrm := HRM.out
            have hseg : segB W2 (putE (cc :: C2)) = bitsN cc.2 cc.1 ++ segB (restL (W2 ++ bitsN cc.2 cc.1)) (putE C2) := rfl
            rw [hseg] at hrm
            have hdec := dec_code HCR.out HST.out HGG.out HSIM.out y cc.2 cc.1 hC hn (segB (restL (W2 ++ bitsN cc.2 cc.1)) (putE C2))
            rw [← hrm] at hdec
            have hnx := (next_walk cnt s ds st g w5.heap.size a H fs at_ wr HT.out HFS.out HCR.out HST.out HR.out HI.out (Blk.ne HT.out HR.out (by decide)) (by omega) (by omega)).mono fun e w' h => NextP.get h hdec
            obtain ⟨gA, cA, eA, _, hcell⟩ := HO.out.at_ hjD
            injection eA with eA1 eA2 eA3
            have hcell : wr.cell? ⟨gA, j, none⟩ = some (.int .i64 y) := by rw [hcell, hy]
            have hgA := (HO.out.lt gA (by rw [eA1]; rfl)).2
            obtain ⟨D3, hD3⟩ : ∃ D3, D.drop (j + 1) = D3 := ⟨_, rfl⟩
            rw [hD3] at hm2 hcons
            have HD3 := Lib.hid hD3
            have HNX := Lib.hid hnx; have HRMX := Lib.hid hrm; have HMX := Lib.hid hm2
            clear hD3
            subst eA1
            have HCL := Lib.hid hcell
            clear hnx hdec hrm hm2 hseg hcons hy hcell eA2 eA3 hM2 hD2 HRM
            go_wp2_with fail
            refine HNX.out.mono ?_
            intro e w7 hp
            obtain ⟨a7, H7, rfl, hR7, hI7, hrem7, hO7⟩ := hp.out
            have hrem7 := hrem7 trivial
            rw [HRMX.out, List.drop_left' (bitsN_len _ _)] at hrem7
            have HR7 := Lib.hid hR7; have HI7 := Lib.hid hI7; have HRM7 := Lib.hid hrem7
            have HT7 : Hid (Tab w7 g cnt s st.cb st.cn fs at_) := Lib.hid (hO7.blk HT.out (Blk.ne HT.out HR.out (by decide)))
            have HO7 := Lib.hid (HO.out.keep fun g' cs hB => hO7.blk hB (hB.ne HR.out (by decide)))
            have HA7 := Lib.hid (hO7.blk HA.out (HA.out.ne HR.out (by decide)))
            have HB7 := Lib.hid (HB.out.trans (hO7.below HB5S.out HB.out.size))
            have cA7 : w7.cell? ⟨gA, j, none⟩ = some (.int .i64 y) := by
              obtain ⟨g9, c9, e9, _, h9⟩ := HO7.out.at_ hjD
              injection e9 with e9; injection e9 with e9; injection e9 with e9
              subst e9
              obtain ⟨g8, c8, e8, _, h8⟩ := HO.out.at_ hjD
              injection e8 with e8; injection e8 with e8; injection e8 with e8
              subst e8
              rw [h9, ← h8, HCL.out]
            clear hp hR7 hI7 hrem7 hO7
            go_wp2
            exact ⟨⟨j + 1, a7, H7, D3, _, C2, by omega, by go_num, HD3, HMX, HI7, HRM7, HR7, HT7, HO7, HA7, HB7⟩, by simp [intOf]; omega⟩
        · obtain rfl : N = j := by omega
          have heq : ∀ w : World, (binOp .eql 22 (.agg #[.int .u8 (cnt 0), .int .u8 (cnt 1), .int .u8 (cnt 2), .int .u8 (cnt 3), .int .u8 (cnt 4), .int .u8 (cnt 5), .int .u8 (cnt 6), .int .u8 (cnt 7), .int .u8 (cnt 8), .int .u8 (cnt 9), .int .u8 (cnt 10), .int .u8 (cnt 11), .int .u8 (cnt 12), .int .u8 (cnt 13), .int .u8 (cnt 14), .int .u8 (cnt 15)]) (.agg #[.int .u8 (cnt 0), .int .u8 (cnt 1), .int .u8 (cnt 2), .int .u8 (cnt 3), .int .u8 (cnt 4), .int .u8 (cnt 5), .int .u8 (cnt 6), .int .u8 (cnt 7), .int .u8 (cnt 8), .int .u8 (cnt 9), .int .u8 (cnt 10), .int .u8 (cnt 11), .int .u8 (cnt 12), .int .u8 (cnt 13), .int .u8 (cnt 14), .int .u8 (cnt 15)])).run Try.prog w = .ok (.bool true) w := fun w => eql_arr16 cnt w
          have HSS := Lib.hid HAR.out
          go_wp2_with fail
          refine region_plan (.run [0, 2] (.ev 1 (.run [3, 4, 5] (.alt 7 6 (.ev 6 (.held 8 (.run [9, 10] .fin))) (.run [7] (.held 8 (.run [9, 10] .fin))))))) (fun w' => True) (by kernel_rfl) trivial ?_
          intro wd hwd
          have HT24 := Lib.hid (HT.out.drewE hwd)
          have HA24 := Lib.hid (HA.out.drewE hwd)
          have HB24 := Lib.hid (belowD HB.out hwd)
          have ewd0 : wd.cell? ⟨w.heap.size, 0, none⟩ = some (.int .u8 (cnt 0)) := by rw [HA24.out.cell 0, HAR.out]; rfl
          have ewd1 : wd.cell? ⟨w.heap.size, 1, none⟩ = some (.int .u8 (cnt 1)) := by rw [HA24.out.cell 1, HAR.out]; rfl
          have ewd2 : wd.cell? ⟨w.heap.size, 2, none⟩ = some (.int .u8 (cnt 2)) := by rw [HA24.out.cell 2, HAR.out]; rfl
          have ewd3 : wd.cell? ⟨w.heap.size, 3, none⟩ = some (.int .u8 (cnt 3)) := by rw [HA24.out.cell 3, HAR.out]; rfl
          have ewd4 : wd.cell? ⟨w.heap.size, 4, none⟩ = some (.int .u8 (cnt 4)) := by rw [HA24.out.cell 4, HAR.out]; rfl
          have ewd5 : wd.cell? ⟨w.heap.size, 5, none⟩ = some (.int .u8 (cnt 5)) := by rw [HA24.out.cell 5, HAR.out]; rfl
          have ewd6 : wd.cell? ⟨w.heap.size, 6, none⟩ = some (.int .u8 (cnt 6)) := by rw [HA24.out.cell 6, HAR.out]; rfl
          have ewd7 : wd.cell? ⟨w.heap.size, 7, none⟩ = some (.int .u8 (cnt 7)) := by rw [HA24.out.cell 7, HAR.out]; rfl
          have ewd8 : wd.cell? ⟨w.heap.size, 8, none⟩ = some (.int .u8 (cnt 8)) := by rw [HA24.out.cell 8, HAR.out]; rfl
          have ewd9 : wd.cell? ⟨w.heap.size, 9, none⟩ = some (.int .u8 (cnt 9)) := by rw [HA24.out.cell 9, HAR.out]; rfl
          have ewd10 : wd.cell? ⟨w.heap.size, 10, none⟩ = some (.int .u8 (cnt 10)) := by rw [HA24.out.cell 10, HAR.out]; rfl
          have ewd11 : wd.cell? ⟨w.heap.size, 11, none⟩ = some (.int .u8 (cnt 11)) := by rw [HA24.out.cell 11, HAR.out]; rfl
          have ewd12 : wd.cell? ⟨w.heap.size, 12, none⟩ = some (.int .u8 (cnt 12)) := by rw [HA24.out.cell 12, HAR.out]; rfl
          have ewd13 : wd.cell? ⟨w.heap.size, 13, none⟩ = some (.int .u8 (cnt 13)) := by rw [HA24.out.cell 13, HAR.out]; rfl
          have ewd14 : wd.cell? ⟨w.heap.size, 14, none⟩ = some (.int .u8 (cnt 14)) := by rw [HA24.out.cell 14, HAR.out]; rfl
          have ewd15 : wd.cell? ⟨w.heap.size, 15, none⟩ = some (.int .u8 (cnt 15)) := by rw [HA24.out.cell 15, HAR.out]; rfl
          clear hwd
          refine plan_run fun m hm => ?_
          simp only [pickO, List.filterMap_cons, List.filterMap_nil, List.getElem?_toArray, List.getElem?_cons_zero, List.getElem?_cons_succ] at hm
          subst hm
          go_wp2_with fail
          refine ⟨rfl, by rfl, ?_⟩
          refine plan_ev fun m hm => ?_
          simp only [pickO, List.filterMap_cons, List.filterMap_nil, List.getElem?_toArray, List.getElem?_cons_zero, List.getElem?_cons_succ] at hm
          subst hm
          go_wp2_with (first | (go_at_call 24; refine (syms_ok HT24.out).mono ?_; rintro e w' ⟨rfl, hww⟩; subst hww))
          refine ⟨rfl, trivial, ?_⟩
          try simp only [Act.put, List.setIfInBounds_toArray, List.set_cons_zero, List.set_cons_succ]
          refine plan_run fun m hm => ?_
          simp only [pickO, List.filterMap_cons, List.filterMap_nil, List.getElem?_toArray, List.getElem?_cons_zero, List.getElem?_cons_succ] at hm
          subst hm
          go_wp2_with fail
          refine ⟨rfl, by rfl, ?_⟩
          refine plan_alt (fun m hm => ?_) (fun m hm => ?_)
          · simp only [pickO, List.filterMap_cons, List.filterMap_nil, List.getElem?_toArray, List.getElem?_cons_zero, List.getElem?_cons_succ] at hm
            subst hm
            go_wp2_with fail
            refine ⟨rfl, rfl, ?_⟩
            refine plan_ev fun m hm => ?_
            simp only [pickO, List.filterMap_cons, List.filterMap_nil, List.getElem?_toArray, List.getElem?_cons_zero, List.getElem?_cons_succ] at hm
            subst hm
            go_wp2_with fail
            refine (counts_lit HT24.out).mono ?_
            rintro e w9 ⟨rfl, hb9⟩
            have HA9 := Lib.hid (HA24.out.bel hb9)
            have HB9 := Lib.hid (HB24.out.trans (hb9.mono HB24.out.size))
            have ew90 : w9.cell? ⟨w.heap.size, 0, none⟩ = some (.int .u8 (cnt 0)) := by rw [HA9.out.cell 0, HAR.out]; rfl
            have ew91 : w9.cell? ⟨w.heap.size, 1, none⟩ = some (.int .u8 (cnt 1)) := by rw [HA9.out.cell 1, HAR.out]; rfl
            have ew92 : w9.cell? ⟨w.heap.size, 2, none⟩ = some (.int .u8 (cnt 2)) := by rw [HA9.out.cell 2, HAR.out]; rfl
            have ew93 : w9.cell? ⟨w.heap.size, 3, none⟩ = some (.int .u8 (cnt 3)) := by rw [HA9.out.cell 3, HAR.out]; rfl
            have ew94 : w9.cell? ⟨w.heap.size, 4, none⟩ = some (.int .u8 (cnt 4)) := by rw [HA9.out.cell 4, HAR.out]; rfl
            have ew95 : w9.cell? ⟨w.heap.size, 5, none⟩ = some (.int .u8 (cnt 5)) := by rw [HA9.out.cell 5, HAR.out]; rfl
            have ew96 : w9.cell? ⟨w.heap.size, 6, none⟩ = some (.int .u8 (cnt 6)) := by rw [HA9.out.cell 6, HAR.out]; rfl
            have ew97 : w9.cell? ⟨w.heap.size, 7, none⟩ = some (.int .u8 (cnt 7)) := by rw [HA9.out.cell 7, HAR.out]; rfl
            have ew98 : w9.cell? ⟨w.heap.size, 8, none⟩ = some (.int .u8 (cnt 8)) := by rw [HA9.out.cell 8, HAR.out]; rfl
            have ew99 : w9.cell? ⟨w.heap.size, 9, none⟩ = some (.int .u8 (cnt 9)) := by rw [HA9.out.cell 9, HAR.out]; rfl
            have ew910 : w9.cell? ⟨w.heap.size, 10, none⟩ = some (.int .u8 (cnt 10)) := by rw [HA9.out.cell 10, HAR.out]; rfl
            have ew911 : w9.cell? ⟨w.heap.size, 11, none⟩ = some (.int .u8 (cnt 11)) := by rw [HA9.out.cell 11, HAR.out]; rfl
            have ew912 : w9.cell? ⟨w.heap.size, 12, none⟩ = some (.int .u8 (cnt 12)) := by rw [HA9.out.cell 12, HAR.out]; rfl
            have ew913 : w9.cell? ⟨w.heap.size, 13, none⟩ = some (.int .u8 (cnt 13)) := by rw [HA9.out.cell 13, HAR.out]; rfl
            have ew914 : w9.cell? ⟨w.heap.size, 14, none⟩ = some (.int .u8 (cnt 14)) := by rw [HA9.out.cell 14, HAR.out]; rfl
            have ew915 : w9.cell? ⟨w.heap.size, 15, none⟩ = some (.int .u8 (cnt 15)) := by rw [HA9.out.cell 15, HAR.out]; rfl
            clear hb9
            go_wp2_with fail
            refine ⟨rfl, trivial, ?_⟩
            try simp only [Act.put, List.setIfInBounds_toArray, List.set_cons_zero, List.set_cons_succ]
            refine plan_held (o := ⟨some 124, _, _, _, _, _⟩) (v := .bool true) rfl (by rfl) (fun w' hS => ?_) ?_
            · go_simp
            try simp only [Act.put, List.setIfInBounds_toArray, List.set_cons_zero, List.set_cons_succ]
            refine plan_run fun m hm => ?_
            simp only [pickO, List.filterMap_cons, List.filterMap_nil, List.getElem?_toArray, List.getElem?_cons_zero, List.getElem?_cons_succ] at hm
            subst hm
            go_wp2_with fail
            refine ⟨rfl, by rfl, ?_⟩
            refine plan_fin ?_
            go_wp2
            go_ret
            exact ⟨rfl, HB9.out⟩
          · simp only [pickO, List.filterMap_cons, List.filterMap_nil, List.getElem?_toArray, List.getElem?_cons_zero, List.getElem?_cons_succ] at hm
            subst hm
            go_wp2_with fail
            refine (counts_lit HT24.out).mono ?_
            rintro e w9 ⟨rfl, hb9⟩
            have HA9 := Lib.hid (HA24.out.bel hb9)
            have HB9 := Lib.hid (HB24.out.trans (hb9.mono HB24.out.size))
            have ew90 : w9.cell? ⟨w.heap.size, 0, none⟩ = some (.int .u8 (cnt 0)) := by rw [HA9.out.cell 0, HAR.out]; rfl
            have ew91 : w9.cell? ⟨w.heap.size, 1, none⟩ = some (.int .u8 (cnt 1)) := by rw [HA9.out.cell 1, HAR.out]; rfl
            have ew92 : w9.cell? ⟨w.heap.size, 2, none⟩ = some (.int .u8 (cnt 2)) := by rw [HA9.out.cell 2, HAR.out]; rfl
            have ew93 : w9.cell? ⟨w.heap.size, 3, none⟩ = some (.int .u8 (cnt 3)) := by rw [HA9.out.cell 3, HAR.out]; rfl
            have ew94 : w9.cell? ⟨w.heap.size, 4, none⟩ = some (.int .u8 (cnt 4)) := by rw [HA9.out.cell 4, HAR.out]; rfl
            have ew95 : w9.cell? ⟨w.heap.size, 5, none⟩ = some (.int .u8 (cnt 5)) := by rw [HA9.out.cell 5, HAR.out]; rfl
            have ew96 : w9.cell? ⟨w.heap.size, 6, none⟩ = some (.int .u8 (cnt 6)) := by rw [HA9.out.cell 6, HAR.out]; rfl
            have ew97 : w9.cell? ⟨w.heap.size, 7, none⟩ = some (.int .u8 (cnt 7)) := by rw [HA9.out.cell 7, HAR.out]; rfl
            have ew98 : w9.cell? ⟨w.heap.size, 8, none⟩ = some (.int .u8 (cnt 8)) := by rw [HA9.out.cell 8, HAR.out]; rfl
            have ew99 : w9.cell? ⟨w.heap.size, 9, none⟩ = some (.int .u8 (cnt 9)) := by rw [HA9.out.cell 9, HAR.out]; rfl
            have ew910 : w9.cell? ⟨w.heap.size, 10, none⟩ = some (.int .u8 (cnt 10)) := by rw [HA9.out.cell 10, HAR.out]; rfl
            have ew911 : w9.cell? ⟨w.heap.size, 11, none⟩ = some (.int .u8 (cnt 11)) := by rw [HA9.out.cell 11, HAR.out]; rfl
            have ew912 : w9.cell? ⟨w.heap.size, 12, none⟩ = some (.int .u8 (cnt 12)) := by rw [HA9.out.cell 12, HAR.out]; rfl
            have ew913 : w9.cell? ⟨w.heap.size, 13, none⟩ = some (.int .u8 (cnt 13)) := by rw [HA9.out.cell 13, HAR.out]; rfl
            have ew914 : w9.cell? ⟨w.heap.size, 14, none⟩ = some (.int .u8 (cnt 14)) := by rw [HA9.out.cell 14, HAR.out]; rfl
            have ew915 : w9.cell? ⟨w.heap.size, 15, none⟩ = some (.int .u8 (cnt 15)) := by rw [HA9.out.cell 15, HAR.out]; rfl
            clear hb9
            go_wp2_with fail
            refine ⟨rfl, trivial, ?_⟩
            try simp only [Act.put, List.setIfInBounds_toArray, List.set_cons_zero, List.set_cons_succ]
            refine plan_run fun m hm => ?_
            simp only [pickO, List.filterMap_cons, List.filterMap_nil, List.getElem?_toArray, List.getElem?_cons_zero, List.getElem?_cons_succ] at hm
            subst hm
            go_wp2_with fail
            refine ⟨rfl, by rfl, ?_⟩
            refine plan_held (o := ⟨some 124, _, _, _, _, _⟩) (v := .bool true) rfl (by rfl) (fun w' hS => ?_) ?_
            · go_simp
            try simp only [Act.put, List.setIfInBounds_toArray, List.set_cons_zero, List.set_cons_succ]
            refine plan_run fun m hm => ?_
            simp only [pickO, List.filterMap_cons, List.filterMap_nil, List.getElem?_toArray, List.getElem?_cons_zero, List.getElem?_cons_succ] at hm
            subst hm
            go_wp2_with fail
            refine ⟨rfl, by rfl, ?_⟩
            refine plan_fin ?_
            go_wp2
            go_ret
            exact ⟨rfl, HB9.out⟩
theorem huffBack_walk (cnt : Nat → Int) (s tx : ByteArray) (hc : ∀ j, j < 16 → 0 ≤ cnt j ∧ cnt j ≤ 255) (w : World) : Calls Try.prog 8 #[.agg (arrN .u8 16 cnt), .string s, .string tx] w fun e w' => e = .returned (.bool true) ∧ Below w.heap.size w w' := by
  by_cases hs : 200 < tx.size ∨ 256 < s.size
  · exact back_long cnt s tx hs w
  · cases h0 : hufNew cnt s with
    | none => exact back_no cnt s tx (by omega) (by omega) hc h0 w
    | some st => exact back_yes cnt s tx (by omega) (by omega) hc st h0 w
namespace lawHuffBack
open Go.ChangeShapes Go.WideShapes Go.ChangeAt Go.RowKit
open Go.ChangeMaps (open_string shut_string)
theorem own : ownKnob Try.prog.godebug = none := by kernel_rfl
theorem laidOut : laidOutB Try.prog = true := by kernel_rfl

set_option maxRecDepth 100000 in
theorem lifted (os : Os) (started : os.Started) (H : Type) (enc : TypeId × Value → H) :
    ReturnsInHanded {} Try.checked os 8 .any (Rows.huffBackSpec.pre6 enc Try.prog Try.f8 Rows.huffBackRow.domain false) (Rows.huffBackSpec.post enc Try.prog Try.f8 false true false false) := by
  refine returnsInHanded_of_change_sized (C := Try.checked) own started (by kernel_rfl) Try.func8
    (ChangeSpec.witness6 (enc := enc) (C := Try.checked) false ⟨#[], #[.agg #[.int .u8 0, .int .u8 0, .int .u8 0, .int .u8 0, .int .u8 0, .int .u8 0, .int .u8 0, .int .u8 0, .int .u8 0, .int .u8 0, .int .u8 0, .int .u8 0, .int .u8 0, .int .u8 0, .int .u8 0, .int .u8 0], .string ⟨#[]⟩, .string ⟨#[]⟩], []⟩ 8 (by kernel_rfl) (by kernel_rfl) (by kernel_rfl) (by kernel_rfl)) ?_
  intro W base args ds gs before hval0 hW hcnd hsz0 _
  have hsz : (DataW.weightsEach Try.prog (Try.f8.params.toList ++ Rows.huffBackSpec.plain.varTypes Try.prog) (ds ++ gs)).all (· ≤ reachBytes) = true := hsz0
  have hval : ∀ (j : Nat) t v, Try.f8.params[j]? = some t → args[j]? = some v → Value.okWide Try.prog W .any base t v := hval0
  have hW' := hW
  obtain ⟨p, q, hA0, hV, hbefore, hfz, hnd⟩ := hW
  obtain ⟨rfl, rfl⟩ := trodVars_none hV
  have hA : DataW.TrodAll enc Try.prog W 0 (fun _ => true) true Try.f8.params.toList args.toList ds p := hA0
  rw [Try.params8] at hA hval hsz
  obtain ⟨v0, vs1, d0, ds1, p0, q0, hargs, rfl, hps, h0, r0⟩ := trodAll_cons hA
  obtain ⟨v1, vs2, d1, ds2, p1, q1, rfl, rfl, rfl, h1, r1⟩ := trodAll_cons r0
  obtain ⟨v2, vs3, d2, ds3, p2, q2, rfl, rfl, rfl, h2, r2⟩ := trodAll_cons r1
  obtain ⟨rfl, rfl, rfl⟩ := trodAll_nil r2
  obtain rfl : args = #[v0, v1, v2] := by cases args; simp_all
  have o0 := hval 0 22 v0 rfl rfl
  have o1 := hval 1 9 v1 rfl rfl
  have o2 := hval 2 9 v2 rfl rfl
  clear hA0 hval0
  obtain ⟨cnt, rfl, wc⟩ := open_arrN Try.underlying22 Try.underlying5 (by kernel_rfl) (by kernel_rfl) o0 h0
  obtain ⟨s, rfl, rfl, rfl, ws⟩ := open_string Try.underlying9 o1 h1
  obtain ⟨tx, rfl, rfl, rfl, wt⟩ := open_string Try.underlying9 o2 h2
  refine (huffBack_walk cnt s tx (fun j hj => u8_rng (wc j hj)) W).mono fun e W' ⟨he, hb⟩ => ?_
  subst he
  exact ⟨_, rfl, law_post laidOut (by rw [Try.params8]; intro t ht; simp only [List.mem_cons, List.not_mem_nil, or_false] at ht; rcases ht with rfl | rfl | rfl <;> exact ⟨by kernel_rfl, of_decide_eq_true (by kernel_rfl)⟩) (by kernel_rfl) Try.underlying4 hW' rfl rfl hb⟩
theorem said : Rows.HuffBackSaid :=
  OpenClaim.holds_of_wide 8 Try.f8 rfl rfl rfl rfl rfl rfl rfl ⟨rfl, rfl, rfl, rfl, rfl⟩ rfl rfl rfl rfl rfl (by kernel_rfl) Try.func8 (by kernel_rfl)
    (of_decide_eq_true (by kernel_rfl)) (by unfold Func.isWrapper; first | (rw [if_pos (by decide +kernel)]; kernel_rfl) | (rw [if_neg (by decide +kernel)]; exact ⟨rfl, rfl⟩))
    (fun os started H enc _ => lifted os started H enc)
#print axioms said
end lawHuffBack
end Go.Proofs.Ytaofponadaifiaa
