/- The symbols of any bits, by any right table, are the document's, up to the first error. No condition. -/
import Derived.Test.YtaofponadaifiaaHuL
import Derived.ShutString
import Derived.ChangeOld
import Derived.SizedLaws
namespace Go.Proofs.Ytaofponadaifiaa
open Go.RowKit
set_option linter.unusedSimpArgs false
set_option linter.unusedVariables false
theorem reads_long (cnt : Nat → Int) (s ds : ByteArray) (hs : 256 < s.size ∨ 200 < ds.size) (w : World) : Calls Try.prog 6 #[.agg (arrN .u8 16 cnt), .string s, .string ds] w fun e w' => e = .returned (.bool true) ∧ Below w.heap.size w w' := by
  obtain ⟨ar, har⟩ : ∃ ar, ar = arrN .u8 16 cnt := ⟨_, rfl⟩
  have hsz : ar.size = 16 := by rw [har, arrN_size]
  rw [← har]
  have HAR := Lib.hid har; have HSZ := Lib.hid hsz
  clear har hsz
  obtain ⟨t1, ht1⟩ : ∃ t, decide ((256 : Int) < (s.size : Int)) = t := ⟨_, rfl⟩
  have ht2 : t1 = false → decide ((200 : Int) < (ds.size : Int)) = true := fun h => by subst h; simp at ht1; simp; omega
  cases t1
  all_goals
  try have ht2 := ht2 rfl
  go_enter Try.func6, Try.ntmps6
  go_wp2_with fail
  refine (awake_walk _).mono ?_
  rintro e w1 ⟨rfl, hb1⟩
  have HB1 := Lib.hid (((Below.refl w.heap.size w).alloc (Nat.le_refl _) (.cells ar 22)).trans (hb1.mono (by simp))); clear hb1
  go_wp2_with fail
  refine (awake_walk _).mono ?_
  rintro e w2 ⟨rfl, hb2⟩
  have HB2 := Lib.hid (HB1.out.trans (hb2.mono HB1.out.size)); clear hb2
  go_wp2_with fail
  go_ret
  exact ⟨rfl, HB2.out⟩
set_option maxHeartbeats 0 in
set_option maxRecDepth 20000 in
theorem reads_no (cnt : Nat → Int) (s ds : ByteArray) (hs : s.size ≤ 256) (hd : ds.size ≤ 200) (hc : ∀ j, j < 16 → 0 ≤ cnt j ∧ cnt j ≤ 255) (h0 : hufNew cnt s = none) (w : World) : Calls Try.prog 6 #[.agg (arrN .u8 16 cnt), .string s, .string ds] w fun e w' => e = .returned (.bool true) ∧ Below w.heap.size w w' := by
  have hg2 : decide ((256 : Int) < (s.size : Int)) = false := by simp; omega
  have hg3 : decide ((200 : Int) < (ds.size : Int)) = false := by simp; omega
  obtain ⟨ar, har⟩ : ∃ ar, ar = arrN .u8 16 cnt := ⟨_, rfl⟩
  have hsz : ar.size = 16 := by rw [har, arrN_size]
  rw [← har]
  have HAR := Lib.hid har; have HSZ := Lib.hid hsz
  clear har hsz
  have HCR := Lib.hid hc; have HST := Lib.hid h0
  clear hc h0
  go_enter Try.func6, Try.ntmps6
  go_wp2_with (first | (go_at_call 9; refine (awake_walk _).mono ?_; rintro e w1 ⟨rfl, hb1⟩; have HA1 := Lib.hid ((Blk.new w 22 ar).bel hb1); have HB1 := Lib.hid (((Below.refl w.heap.size w).alloc (Nat.le_refl _) (.cells ar 22)).trans (hb1.mono (by simp))); clear hb1) | (refine wpList_load_row rfl 22 (.tmp 3) rfl w.heap.size rfl 22 ar (0, 0) _ HA1.out Try.underlying22 rfl (by rw [HSZ.out]; kernel_rfl) ?_) | (go_at_call 10; rw [HAR.out]; refine (new_h cnt s w1 HCR.out (by omega)).mono ?_; intro e w2 hp; obtain ⟨rfl, hb2⟩ := NewH.none hp HST.out; have HB2 := Lib.hid (HB1.out.trans (hb2.mono HB1.out.size)); rw [← HAR.out]; clear hb2 hp))
  go_ret
  exact ⟨rfl, HB2.out⟩
set_option maxHeartbeats 0 in
set_option maxRecDepth 20000 in
theorem reads_yes (cnt : Nat → Int) (s ds : ByteArray) (hs : s.size ≤ 256) (hd : ds.size ≤ 200) (hc : ∀ j, j < 16 → 0 ≤ cnt j ∧ cnt j ≤ 255) (st : HS) (h0 : hufNew cnt s = some st) (w : World) : Calls Try.prog 6 #[.agg (arrN .u8 16 cnt), .string s, .string ds] w fun e w' => e = .returned (.bool true) ∧ Below w.heap.size w w' := by
  have hg2 : decide ((256 : Int) < (s.size : Int)) = false := by simp; omega
  have hg3 : decide ((200 : Int) < (ds.size : Int)) = false := by simp; omega
  obtain ⟨ar, har⟩ : ∃ ar, ar = arrN .u8 16 cnt := ⟨_, rfl⟩
  have hsz : ar.size = 16 := by rw [har, arrN_size]
  rw [← har]
  have HAR := Lib.hid har; have HSZ := Lib.hid hsz
  clear har hsz
  have HCR := Lib.hid hc; have HST := Lib.hid h0
  clear hc h0
  obtain ⟨L, hL⟩ : ∃ L, remB ds 0 [] = L := ⟨_, rfl⟩
  have hI0 : InvR ds 0 [] := ⟨(fun b hb => by cases hb), by simp, Nat.zero_le _⟩
  have hLl : L.length ≤ 8 * ds.size := by
    have := remB_len _ 0 [] hI0 (Nat.le_refl _)
    rw [hL] at this
    unfold mB at this
    simpa using this
  have HI0 := Lib.hid hI0; have HL0 := Lib.hid hL
  clear hI0 hL
  go_enter Try.func6, Try.ntmps6
  go_wp2_with (first | (go_at_call 9; refine (awake_walk _).mono ?_; rintro e w1 ⟨rfl, hb1⟩; have HA1 := Lib.hid ((Blk.new w 22 ar).bel hb1); have HB1 := Lib.hid (((Below.refl w.heap.size w).alloc (Nat.le_refl _) (.cells ar 22)).trans (hb1.mono (by simp))); clear hb1) | (refine wpList_load_row rfl 22 (.tmp 3) rfl w.heap.size rfl 22 ar (0, 0) _ HA1.out Try.underlying22 rfl (by rw [HSZ.out]; kernel_rfl) ?_) | (go_at_call 10; rw [HAR.out]; refine ((new_h cnt s w1 HCR.out (by omega)).mono fun e w' h => NewH.get h HST.out).mono ?_; intro e w2 hp; obtain ⟨g, at_, fs, rfl, hT, hfs, _, hb2⟩ := hp.out; have HT := Lib.hid hT; have HFS := Lib.hid hfs; have HA2 := Lib.hid (HA1.out.bel hb2); have HB2 := Lib.hid (HB1.out.trans (hb2.mono HB1.out.size)); rw [← HAR.out]; clear hT hfs hb2 hp) | (refine wpList_load_row rfl 22 (.tmp 3) rfl w.heap.size rfl 22 ar (0, 0) _ HA2.out Try.underlying22 rfl (by rw [HSZ.out]; kernel_rfl) ?_) | (go_at_call 12; rw [HAR.out]; refine (codes_walk cnt s w2 HCR.out (by omega)).mono ?_; intro e w3 hp; obtain ⟨gg, v3, hcg, hG, hS, rfl, hO3, hb3⟩ := (CodesP.get2 hp HST.out).out; obtain ⟨A3, c3, rfl, _, _⟩ := hO3.form; have CG := Lib.hid hcg; have HG := Lib.hid hG; have HS_ := Lib.hid hS; have HO3 := Lib.hid hO3; have HT3 := Lib.hid (HT.out.bel hb3); have HB3 := Lib.hid (HB2.out.trans (hb3.mono HB2.out.size)); rw [← HAR.out]; clear hb3 hp hG hS hO3 hcg) | (go_at_call 18; refine (newReader_walk ds 0 (by omega) _).mono ?_; rintro e w4 ⟨rfl, hW4, hb4⟩; have HW4 := Lib.hid hW4; have HT4 := Lib.hid (HT3.out.bel hb4); have HO4 := Lib.hid (HO3.out.bel hb4); have HB4 := Lib.hid (HB3.out.trans (hb4.mono HB3.out.size)); clear hW4 hb4))
  have hcx : Ctx w4 g w3.heap.size cnt s st fs at_ w2.heap.size A3 c3 gg ds 0 [] := ⟨HT4.out, HO4.out, HW4.out⟩
  have hal : Below w4.heap.size w4 (w4.alloc (.cells #[.string ds, .int .i64 0, .slice none 0 0] 48)) := (Below.refl _ _).alloc (Nat.le_refl _) _
  have hgo : gOut cnt s 16 = some gg := CG.out
  have hrl : w3.heap.size < w4.heap.size := Blk.lt HW4.out
  have hbd := bdG_out HCR.out 16 gg (by omega) hgo
  have HGO := Lib.hid hgo; have HRL := Lib.hid hrl; have HBD := Lib.hid hbd
  have HCX0 := Lib.hid (hcx.bel hal); have HM0 := Lib.hid (Blk.new w4 48 #[.string ds, .int .i64 0, .slice none 0 0]); have HB0 := Lib.hid (HB4.out.trans (hal.mono HB4.out.size))
  clear hcx hal hgo hrl hbd HW4 HT4 HO4 HT3 HO3 HA1 HA2 HT
  go_loopw [12, 14] (fun al i wr => ∃ (k a c cy : Nat) (Hh D : List Int) (A Ay : Option Addr), k ≤ 8 * ds.size ∧ al = .slice A k c ∧ i = .int .i64 k ∧ Hid (k = D.length) ∧ Hid (OwnI wr w4.heap.size (.slice A k c) D) ∧ Hid (Blk wr w4.heap.size 48 #[.string ds, .int .i64 a, .slice Ay Hh.length cy]) ∧ Hid (HeldV wr (.slice Ay Hh.length cy) Hh) ∧ Hid (InvR ds a Hh) ∧ Hid (D ++ remB ds a Hh = L) ∧ Hid (Ctx wr g w3.heap.size cnt s st fs at_ w2.heap.size A3 c3 gg ds 0 []) ∧ Hid (Below w.heap.size w wr)) (fun _ i _ => 8 * ds.size - (intOf i).toNat)
  case atStart => exact ⟨0, 0, 0, 0, [], [], none, none, by omega, rfl, rfl, Lib.hid rfl, Lib.hid (OwnI.nil _ _), HM0, Lib.hid (Or.inl ⟨rfl, rfl⟩), HI0, Lib.hid (by rw [HL0.out]; rfl), HCX0, HB0⟩
  case round =>
    clear HCX0 HM0 HB0
    obtain ⟨k, a, c, cy, Hh, D, A, Ay, hk, rfl, rfl, hkD, HO, HM, HY, HI, HDL, HCX, HB⟩ := hrel
    by_cases hlt : k < 8 * ds.size
    · have dlt : decide ((k : Int) < 8 * (ds.size : Int)) = true := by simp; omega
      have m0 : wr.cell? ⟨w4.heap.size, 0, none⟩ = some (.string ds) := HM.out.cell 0
      have m1 : wr.cell? ⟨w4.heap.size, 1, none⟩ = some (.int .i64 a) := HM.out.cell 1
      have m2 : wr.cell? ⟨w4.heap.size, 2, none⟩ = some (.slice Ay Hh.length cy) := HM.out.cell 2
      cases hb : bit1 ds a Hh with
      | none =>
        have hcall := rbit_none ds a Hh (by omega) HI.out wr _ HY.out hb
        have hDL : D = L := by have := HDL.out; rw [remB_none hb, List.append_nil] at this; exact this
        have HC := Lib.hid hcall; have HDLE := Lib.hid hDL
        clear hcall hb hDL
        go_wp2_with (first | (go_at_call 19; refine HC.out.mono ?_; rintro e w5 ⟨rfl, hb5⟩; have hcx5 := HCX.out.bel hb5; have ho5 := HO.out.bel hb5; have hal5 : Below w5.heap.size w5 (w5.alloc (.cells #[.string ds, .int .i64 a, .slice Ay Hh.length cy] 48)) := (Below.refl _ _).alloc (Nat.le_refl _) _; have HCX5 := Lib.hid (hcx5.bel hal5); have HV5 := Lib.hid ((ho5.bel hal5).held hkD.out); have HB5 := Lib.hid ((HB.out.trans (hb5.mono HB.out.size)).trans (hal5.mono (by have h1 := HB.out.size; have h2 := hb5.size; omega))); clear hb5 hcx5 ho5 hal5))
        clear m0 m1 m2
        have hkl : k = L.length := by rw [← HDLE.out]; exact hkD.out
        have HV5L : Hid (HeldV _ (.slice A k c) L ∧ k = L.length) := Lib.hid ⟨by rw [← HDLE.out]; exact HV5.out.1, hkl⟩
        have HI5 := Lib.hid HV5.out.2
        clear hkl
        go_loopw [12] (fun al wr => ∃ (L2 Hh : List Int) (N a c : Nat) (A : Option Addr), al = .slice A N c ∧ N ≤ 100000 ∧ Hid (N = L2.length) ∧ Hid (HeldV wr (.slice A N c) L2) ∧ Hid (HiV w4.heap.size (.slice A N c)) ∧ Hid (InvR ds a Hh) ∧ Hid (remB ds a Hh = L2) ∧ Hid (Ctx wr g w3.heap.size cnt s st fs at_ w2.heap.size A3 c3 gg ds a Hh) ∧ Hid (Below w.heap.size w wr)) (fun al _ => sliceN al)
        case atStart => exact ⟨L, [], k, 0, c, A, rfl, by omega, Lib.hid HV5L.out.2, Lib.hid HV5L.out.1, HI5, HI0, HL0, HCX5, HB5⟩
        case round =>
          obtain ⟨L2, Hh, N, a, c2, A2, rfl, hN, hNL, HV, HV2, HI, HRM, HCX, HB⟩ := hrel
          obtain ⟨p, hp⟩ : ∃ p, decP cnt s L2 = p := ⟨_, rfl⟩
          obtain ⟨V, u, er⟩ := p
          have hnx := (next_walk cnt s ds st g w3.heap.size a Hh fs at_ wr HCX.out.tb HFS.out HCR.out HST.out HCX.out.rd HI.out (Blk.ne HCX.out.tb HCX.out.rd (by decide)) (by omega) (by omega)).mono fun e w' h => NextP.get (u := u) (V := V) (er := er) h (by rw [HRM.out]; exact hp)
          have hbits : ∀ b ∈ L2, b = 0 ∨ b = 1 := by rw [← HRM.out]; exact remB_bit _ a Hh HI.out (Nat.le_refl _)
          have hdg : decG s gg L2 = (V, u, er) := by rw [← dec_both HCR.out HST.out HGO.out L2]; exact hp
          have hus : er = 0 → 1 ≤ u ∧ u < 1 + L2.length := fun h => by
            have := goD_used (hit := hitP cnt s) 16 1 0 L2 (by have e : goD (hitP cnt s) 16 1 0 L2 = (V, u, er) := hp
                                                               rw [e]; exact h)
            have e : goD (hitP cnt s) 16 1 0 L2 = (V, u, er) := hp
            rw [e] at this; exact this
          have HNX := Lib.hid hnx; have HBT := Lib.hid hbits; have HDG := Lib.hid hdg; have HUS := Lib.hid hus
          clear hnx hbits hdg hus hp
          by_cases her : er = 0
          · have e1 : (er != 0) = false := by simpa using her
            have hu := HUS.out her
            rw [← hNL.out] at hu
            have HER := Lib.hid her; clear her
            go_wp2_with (first | (go_at_call 20; refine HNX.out.mono ?_; intro e w6 hp; obtain ⟨a6, H6, rfl, hR6, hI6, hrem6, hO6⟩ := hp.out; have HCX6 := Lib.hid (HCX.out.only hO6 hR6); have HI6 := Lib.hid hI6; have HRM6 := Lib.hid ((hrem6 HER.out).trans (by rw [HRM.out] : List.drop u (remB ds a Hh) = List.drop u L2)); have HV6 := Lib.hid (HV.out.only HV2.out HRL.out hO6); have HB6 := Lib.hid (HB.out.trans (hO6.below (by have := HB3.out.size; omega) HB.out.size)); clear hp hR6 hI6 hrem6 hO6))
            have hrn := rnext_walk s gg A3 A2 c3 c2 L2 w6 (by have := HG.out.1; omega) HBD.out (by obtain ⟨A9, c9, e9, _, hR9⟩ := HCX6.out.cd.form; cases e9; exact hR9) (by rw [← hNL.out]; exact HV6.out) (by rw [← hNL.out]; exact hN) HBT.out
            rw [HDG.out, ← hNL.out] at hrn
            have HRN := Lib.hid hrn; clear hrn
            go_wp2_with (first | (go_at_call 21; refine HRN.out.mono ?_; rintro e w' ⟨rfl, rfl⟩) | (refine wpList_dropH rfl 46 3 (.tmp 99) (.tmp 100) rfl Try.underlying46 (by kernel_rfl) A2 N c2 u w4.heap.size rfl rfl HV6.out HV2.out (by rw [← hNL.out]; omega) ?_; intro A7 c7 hV7 hI7; have HV7 := Lib.hid hV7; have HI7 := Lib.hid hI7; clear hV7 hI7))
            exact ⟨⟨L2.drop u, H6, N - u, a6, c7, A7, rfl, by omega, Lib.hid (by rw [List.length_drop, hNL.out]), HV7, HI7, HI6, HRM6, HCX6, HB6⟩, by simp [sliceN]; omega⟩
          · have e1 : (er != 0) = true := by simpa using her
            clear her
            go_wp2_with (first | (go_at_call 20; refine HNX.out.mono ?_; intro e w6 hp; obtain ⟨a6, H6, rfl, hR6, hI6, hrem6, hO6⟩ := hp.out; have HCX6 := Lib.hid (HCX.out.only hO6 hR6); have HV6 := Lib.hid (HV.out.only HV2.out HRL.out hO6); have HB6 := Lib.hid (HB.out.trans (hO6.below (by have := HB3.out.size; omega) HB.out.size)); clear hp hR6 hI6 hrem6 hO6))
            have hrn := rnext_walk s gg A3 A2 c3 c2 L2 w6 (by have := HG.out.1; omega) HBD.out (by obtain ⟨A9, c9, e9, _, hR9⟩ := HCX6.out.cd.form; cases e9; exact hR9) (by rw [← hNL.out]; exact HV6.out) (by rw [← hNL.out]; exact hN) HBT.out
            rw [HDG.out, ← hNL.out] at hrn
            have HRN := Lib.hid hrn; clear hrn
            go_wp2_with (first | (go_at_call 21; refine HRN.out.mono ?_; rintro e w' ⟨rfl, rfl⟩))
            go_ret
            exact ⟨rfl, HB6.out⟩
      | some p =>
        obtain ⟨b, a5, H5⟩ := p
        obtain ⟨I5, _, _⟩ := bit1_ok HI.out hb
        have hcons := remB_some HI.out hb
        have hcall := rbit_some ds a Hh (by omega) HI.out wr _ HY.out hb
        have hDL : (D ++ [b]) ++ remB ds a5 H5 = L := by rw [List.append_assoc, List.singleton_append, ← hcons]; exact HDL.out
        have hML := Blk.lt HM.out
        have HC := Lib.hid hcall; have HDLE := Lib.hid hDL; have HI5 := Lib.hid I5; have HML := Lib.hid hML
        clear hcall hb hDL hcons I5 hML
        go_wp2_with (first | (go_at_call 19; refine HC.out.mono ?_; intro e w5 hp; obtain ⟨A5, c5, rfl, hy5, hh5, hb5⟩ := hp.out; have hal5 : Below w5.heap.size w5 (w5.alloc (.cells #[.string ds, .int .i64 a5, .slice A5 H5.length c5] 48)) := (Below.refl _ _).alloc (Nat.le_refl _) _; have HCX5 := Lib.hid ((HCX.out.bel hb5).bel hal5); have HO5 := Lib.hid ((HO.out.bel hb5).bel hal5); have HM5 := Lib.hid ((HM.out.bel hb5).bel hal5); have HT5 := Lib.hid (Blk.new w5 48 #[.string ds, .int .i64 a5, .slice A5 H5.length c5]); have HY5 := Lib.hid (hy5.bel hal5); have HH5 := Lib.hid hh5; have HB5 := Lib.hid ((HB.out.trans (hb5.mono HB.out.size)).trans (hal5.mono (by have h1 := HB.out.size; have h2 := hb5.size; omega))); have HS5 := Lib.hid hb5.size; clear hp hy5 hh5 hb5 hal5) | (at_builtin; refine appI2 rfl (.tmp 71) (.tmp 73) (w5.heap.size + 1) (by simp) rfl b rfl rfl HO5.out (by rw [← hkD.out]; omega) (by have h1 := HML.out; have h2 := HS5.out; simp; omega) ?_; intro v7 w7 hO7 hg7 hb7; obtain ⟨A8, c8, rfl, _⟩ := hO7.form; have hkt := KeepT.of_own HO5.out hg7; have HO7 := Lib.hid hO7; have HM7 := Lib.hid (hkt _ _ _ (by decide) HM5.out); have HT7 := Lib.hid (hkt _ _ _ (by decide) HT5.out); have HCX7 := Lib.hid (HCX5.out.keepT hkt); have HY7 := Lib.hid (HY5.out.grown HH5.out (fun q hq => (HO.out.lt q hq).2) hg7); have HB7 := Lib.hid (HB5.out.trans (hb7.mono (by have h1 := HB3.out.size; have h2 := HRL.out; omega))); have n0 : w7.cell? ⟨w5.heap.size, 0, none⟩ = some (.string ds) := HT7.out.cell 0; have n1 : w7.cell? ⟨w5.heap.size, 1, none⟩ = some (.int .i64 a5) := HT7.out.cell 1; have n2 : w7.cell? ⟨w5.heap.size, 2, none⟩ = some (.slice A5 H5.length c5) := HT7.out.cell 2; clear hO7 hg7 hb7 hkt) | (refine wpList_store_far rfl 48 (.tmp 13) (.tmp 75) rfl w4.heap.size #[.string ds, .int .i64 a5, .slice A5 H5.length c5] _ 48 rfl rfl HM7.out (by kernel_rfl) rfl (by simp [Value.oneCell']) ?_; intro w8 hM8 hf8 hb8 hs8 hp8; have HM8 := Lib.hid hM8; have HCX8 := Lib.hid (HCX7.out.far HM7.out hf8); have HO8 := Lib.hid (HO7.out.keep fun g' cs hB => hf8 _ _ _ (hB.ne HM7.out (by decide)) hB); have HY8 := Lib.hid (HY7.out.far (HH5.out.ne HML.out) hs8 hp8); have HB8 := Lib.hid (hb8 w.heap.size w (by have h1 := HB3.out.size; have h2 := HRL.out; omega) HB7.out); clear hM8 hf8 hb8 hs8 hp8))
        refine ⟨⟨k + 1, a5, c8, c5, H5, D ++ [b], A8, A5, by omega, ?_, by go_num, Lib.hid (by rw [List.length_append, ← hkD.out]; rfl), ?_, HM8, HY8, HI5, HDLE, HCX8, HB8⟩, by simp [intOf]; omega⟩
        · rw [hkD.out]
        · have h9 := HO8.out
          rw [List.length_append, ← hkD.out] at h9
          exact Lib.hid h9
    · have dlt : decide ((k : Int) < 8 * (ds.size : Int)) = false := by simp; omega
      have hDL : D = L := by
        have h1 := HDL.out
        have h2 := congrArg List.length h1
        rw [List.length_append, ← hkD.out] at h2
        have h3 : remB ds a Hh = [] := List.eq_nil_of_length_eq_zero (by omega)
        rw [h3, List.append_nil] at h1
        exact h1
      have HDLE := Lib.hid hDL
      have hkl : k = L.length := by rw [← hDL]; exact hkD.out
      clear hDL
      go_wp2_with fail
      have HV5L : Hid (HeldV wr (.slice A k c) L ∧ k = L.length) := Lib.hid ⟨by rw [← HDLE.out]; exact (HO.out.held hkD.out).1, hkl⟩
      have HI5 := Lib.hid (HO.out.held hkD.out).2
      have HCX5 := HCX; have HB5 := HB
      clear hkl
      go_loopw [12] (fun al wr => ∃ (L2 Hh : List Int) (N a c : Nat) (A : Option Addr), al = .slice A N c ∧ N ≤ 100000 ∧ Hid (N = L2.length) ∧ Hid (HeldV wr (.slice A N c) L2) ∧ Hid (HiV w4.heap.size (.slice A N c)) ∧ Hid (InvR ds a Hh) ∧ Hid (remB ds a Hh = L2) ∧ Hid (Ctx wr g w3.heap.size cnt s st fs at_ w2.heap.size A3 c3 gg ds a Hh) ∧ Hid (Below w.heap.size w wr)) (fun al _ => sliceN al)
      case atStart => exact ⟨L, [], k, 0, c, A, rfl, by omega, Lib.hid HV5L.out.2, Lib.hid HV5L.out.1, HI5, HI0, HL0, HCX5, HB5⟩
      case round =>
        obtain ⟨L2, Hh, N, a, c2, A2, rfl, hN, hNL, HV, HV2, HI, HRM, HCX, HB⟩ := hrel
        obtain ⟨p, hp⟩ : ∃ p, decP cnt s L2 = p := ⟨_, rfl⟩
        obtain ⟨V, u, er⟩ := p
        have hnx := (next_walk cnt s ds st g w3.heap.size a Hh fs at_ wr HCX.out.tb HFS.out HCR.out HST.out HCX.out.rd HI.out (Blk.ne HCX.out.tb HCX.out.rd (by decide)) (by omega) (by omega)).mono fun e w' h => NextP.get (u := u) (V := V) (er := er) h (by rw [HRM.out]; exact hp)
        have hbits : ∀ b ∈ L2, b = 0 ∨ b = 1 := by rw [← HRM.out]; exact remB_bit _ a Hh HI.out (Nat.le_refl _)
        have hdg : decG s gg L2 = (V, u, er) := by rw [← dec_both HCR.out HST.out HGO.out L2]; exact hp
        have hus : er = 0 → 1 ≤ u ∧ u < 1 + L2.length := fun h => by
          have := goD_used (hit := hitP cnt s) 16 1 0 L2 (by have e : goD (hitP cnt s) 16 1 0 L2 = (V, u, er) := hp
                                                             rw [e]; exact h)
          have e : goD (hitP cnt s) 16 1 0 L2 = (V, u, er) := hp
          rw [e] at this; exact this
        have HNX := Lib.hid hnx; have HBT := Lib.hid hbits; have HDG := Lib.hid hdg; have HUS := Lib.hid hus
        clear hnx hbits hdg hus hp
        by_cases her : er = 0
        · have e1 : (er != 0) = false := by simpa using her
          have hu := HUS.out her
          rw [← hNL.out] at hu
          have HER := Lib.hid her; clear her
          go_wp2_with (first | (go_at_call 20; refine HNX.out.mono ?_; intro e w6 hp; obtain ⟨a6, H6, rfl, hR6, hI6, hrem6, hO6⟩ := hp.out; have HCX6 := Lib.hid (HCX.out.only hO6 hR6); have HI6 := Lib.hid hI6; have HRM6 := Lib.hid ((hrem6 HER.out).trans (by rw [HRM.out] : List.drop u (remB ds a Hh) = List.drop u L2)); have HV6 := Lib.hid (HV.out.only HV2.out HRL.out hO6); have HB6 := Lib.hid (HB.out.trans (hO6.below (by have := HB3.out.size; omega) HB.out.size)); clear hp hR6 hI6 hrem6 hO6))
          have hrn := rnext_walk s gg A3 A2 c3 c2 L2 w6 (by have := HG.out.1; omega) HBD.out (by obtain ⟨A9, c9, e9, _, hR9⟩ := HCX6.out.cd.form; cases e9; exact hR9) (by rw [← hNL.out]; exact HV6.out) (by rw [← hNL.out]; exact hN) HBT.out
          rw [HDG.out, ← hNL.out] at hrn
          have HRN := Lib.hid hrn; clear hrn
          go_wp2_with (first | (go_at_call 21; refine HRN.out.mono ?_; rintro e w' ⟨rfl, rfl⟩) | (refine wpList_dropH rfl 46 3 (.tmp 99) (.tmp 100) rfl Try.underlying46 (by kernel_rfl) A2 N c2 u w4.heap.size rfl rfl HV6.out HV2.out (by rw [← hNL.out]; omega) ?_; intro A7 c7 hV7 hI7; have HV7 := Lib.hid hV7; have HI7 := Lib.hid hI7; clear hV7 hI7))
          exact ⟨⟨L2.drop u, H6, N - u, a6, c7, A7, rfl, by omega, Lib.hid (by rw [List.length_drop, hNL.out]), HV7, HI7, HI6, HRM6, HCX6, HB6⟩, by simp [sliceN]; omega⟩
        · have e1 : (er != 0) = true := by simpa using her
          clear her
          go_wp2_with (first | (go_at_call 20; refine HNX.out.mono ?_; intro e w6 hp; obtain ⟨a6, H6, rfl, hR6, hI6, hrem6, hO6⟩ := hp.out; have HCX6 := Lib.hid (HCX.out.only hO6 hR6); have HV6 := Lib.hid (HV.out.only HV2.out HRL.out hO6); have HB6 := Lib.hid (HB.out.trans (hO6.below (by have := HB3.out.size; omega) HB.out.size)); clear hp hR6 hI6 hrem6 hO6))
          have hrn := rnext_walk s gg A3 A2 c3 c2 L2 w6 (by have := HG.out.1; omega) HBD.out (by obtain ⟨A9, c9, e9, _, hR9⟩ := HCX6.out.cd.form; cases e9; exact hR9) (by rw [← hNL.out]; exact HV6.out) (by rw [← hNL.out]; exact hN) HBT.out
          rw [HDG.out, ← hNL.out] at hrn
          have HRN := Lib.hid hrn; clear hrn
          go_wp2_with (first | (go_at_call 21; refine HRN.out.mono ?_; rintro e w' ⟨rfl, rfl⟩))
          go_ret
          exact ⟨rfl, HB6.out⟩

theorem huffReads_walk (cnt : Nat → Int) (s ds : ByteArray) (hc : ∀ j, j < 16 → 0 ≤ cnt j ∧ cnt j ≤ 255) (w : World) : Calls Try.prog 6 #[.agg (arrN .u8 16 cnt), .string s, .string ds] w fun e w' => e = .returned (.bool true) ∧ Below w.heap.size w w' := by
  by_cases hs : 256 < s.size ∨ 200 < ds.size
  · exact reads_long cnt s ds hs w
  · cases h0 : hufNew cnt s with
    | none => exact reads_no cnt s ds (by omega) (by omega) hc h0 w
    | some st => exact reads_yes cnt s ds (by omega) (by omega) hc st h0 w
namespace lawHuffReads
open Go.ChangeShapes Go.WideShapes Go.ChangeAt Go.RowKit
open Go.ChangeMaps (open_string shut_string)
theorem own : ownKnob Try.prog.godebug = none := by kernel_rfl
theorem laidOut : laidOutB Try.prog = true := by kernel_rfl

set_option maxRecDepth 100000 in
theorem lifted (os : Os) (started : os.Started) (H : Type) (enc : TypeId × Value → H) :
    ReturnsInHanded {} Try.checked os 6 .any (Rows.huffReadsSpec.pre6 enc Try.prog Try.f6 Rows.huffReadsRow.domain false) (Rows.huffReadsSpec.post enc Try.prog Try.f6 false true false false) := by
  refine returnsInHanded_of_change_sized (C := Try.checked) own started (by kernel_rfl) Try.func6
    (ChangeSpec.witness6 (enc := enc) (C := Try.checked) false ⟨#[], #[.agg #[.int .u8 0, .int .u8 0, .int .u8 0, .int .u8 0, .int .u8 0, .int .u8 0, .int .u8 0, .int .u8 0, .int .u8 0, .int .u8 0, .int .u8 0, .int .u8 0, .int .u8 0, .int .u8 0, .int .u8 0, .int .u8 0], .string ⟨#[]⟩, .string ⟨#[]⟩], []⟩ 8 (by kernel_rfl) (by kernel_rfl) (by kernel_rfl) (by kernel_rfl)) ?_
  intro W base args ds gs before hval0 hW hcnd hsz0 _
  have hsz : (DataW.weightsEach Try.prog (Try.f6.params.toList ++ Rows.huffReadsSpec.plain.varTypes Try.prog) (ds ++ gs)).all (· ≤ reachBytes) = true := hsz0
  have hval : ∀ (j : Nat) t v, Try.f6.params[j]? = some t → args[j]? = some v → Value.okWide Try.prog W .any base t v := hval0
  have hW' := hW
  obtain ⟨p, q, hA0, hV, hbefore, hfz, hnd⟩ := hW
  obtain ⟨rfl, rfl⟩ := trodVars_none hV
  have hA : DataW.TrodAll enc Try.prog W 0 (fun _ => true) true Try.f6.params.toList args.toList ds p := hA0
  rw [Try.params6] at hA hval hsz
  obtain ⟨v0, vs1, d0, ds1, p0, q0, hargs, rfl, hps, h0, r0⟩ := trodAll_cons hA
  obtain ⟨v1, vs2, d1, ds2, p1, q1, rfl, rfl, rfl, h1, r1⟩ := trodAll_cons r0
  obtain ⟨v2, vs3, d2, ds3, p2, q2, rfl, rfl, rfl, h2, r2⟩ := trodAll_cons r1
  obtain ⟨rfl, rfl, rfl⟩ := trodAll_nil r2
  obtain rfl : args = #[v0, v1, v2] := by cases args; simp_all
  have o0 := hval 0 22 v0 rfl rfl
  have o1 := hval 1 9 v1 rfl rfl
  have o2 := hval 2 9 v2 rfl rfl
  clear hA0 hval0
  obtain ⟨cnt, rfl, wc⟩ := open_arrN Try.underlying22 Try.underlying5 (by kernel_rfl) (by kernel_rfl) o0 h0
  obtain ⟨s, rfl, rfl, rfl, ws⟩ := open_string Try.underlying9 o1 h1
  obtain ⟨ds, rfl, rfl, rfl, wd⟩ := open_string Try.underlying9 o2 h2
  refine (huffReads_walk cnt s ds (fun j hj => u8_rng (wc j hj)) W).mono fun e W' ⟨he, hb⟩ => ?_
  subst he
  exact ⟨_, rfl, law_post laidOut (by rw [Try.params6]; intro t ht; simp only [List.mem_cons, List.not_mem_nil, or_false] at ht; rcases ht with rfl | rfl | rfl <;> exact ⟨by kernel_rfl, of_decide_eq_true (by kernel_rfl)⟩) (by kernel_rfl) Try.underlying4 hW' rfl rfl hb⟩
theorem said : Rows.HuffReadsSaid :=
  OpenClaim.holds_of_wide 6 Try.f6 rfl rfl rfl rfl rfl rfl rfl ⟨rfl, rfl, rfl, rfl, rfl⟩ rfl rfl rfl rfl rfl (by kernel_rfl) Try.func6 (by kernel_rfl)
    (of_decide_eq_true (by kernel_rfl)) (by unfold Func.isWrapper; first | (rw [if_pos (by decide +kernel)]; kernel_rfl) | (rw [if_neg (by decide +kernel)]; exact ⟨rfl, rfl⟩))
    (fun os started H enc _ => lifted os started H enc)
#print axioms said
end lawHuffReads
end Go.Proofs.Ytaofponadaifiaa
