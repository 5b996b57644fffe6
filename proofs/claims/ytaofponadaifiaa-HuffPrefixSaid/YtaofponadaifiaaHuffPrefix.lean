/- No code of a right table is a beginning of another one, and none is 1s alone. No condition. -/
import Derived.Test.YtaofponadaifiaaHuE
import Derived.ShutString
import Derived.ChangeOld
import Derived.SizedLaws
namespace Go.Proofs.Ytaofponadaifiaa
open Go.RowKit
set_option linter.unusedSimpArgs false
set_option linter.unusedVariables false
theorem code_yes {w : World} {g : Nat} {cnt : Nat → Int} {s : ByteArray} {st : HS} {fs at_ : Nat → Int} (hT : Tab w g cnt s st.cb st.cn fs at_) {i l v : Nat} (hi : i < 256) (hC : CodeIs st i l v) : Calls Try.prog 11 #[.pointer (some ⟨g, 0, none⟩), .int .i64 i] w fun e w' => e = .returned (.tuple #[.int .i64 v, .int .i64 l, .bool true]) ∧ Below w.heap.size w w' := by
  have h := code_ok hT i hi
  rw [hC.1, hC.2.1, show decide (0 < (l : Int)) = true by have := hC.2.2.1; simp; omega] at h
  exact h
theorem code_zero {w : World} {g : Nat} {cnt : Nat → Int} {s : ByteArray} {st : HS} {fs at_ : Nat → Int} (hT : Tab w g cnt s st.cb st.cn fs at_) {i : Nat} (hi : i < 256) (hC : st.cn i = 0 ∧ st.cb i = 0) : Calls Try.prog 11 #[.pointer (some ⟨g, 0, none⟩), .int .i64 i] w fun e w' => e = .returned (.tuple #[.int .i64 0, .int .i64 0, .bool false]) ∧ Below w.heap.size w w' := by
  have h := code_ok hT i hi
  rw [hC.1, hC.2] at h
  exact h
theorem prefix_long (cnt : Nat → Int) (s : ByteArray) (a b : Int) (hs : 256 < s.size) (w : World) : Calls Try.prog 3 #[.agg (arrN .u8 16 cnt), .string s, .int .u8 a, .int .u8 b] w fun e w' => e = .returned (.bool true) ∧ Below w.heap.size w w' := by
  have hg2 : decide ((256 : Int) < (s.size : Int)) = true := by simp; omega
  obtain ⟨ar, har⟩ : ∃ ar, ar = arrN .u8 16 cnt := ⟨_, rfl⟩
  have hsz : ar.size = 16 := by rw [har, arrN_size]
  rw [← har]
  have HAR := Lib.hid har; have HSZ := Lib.hid hsz
  clear har hsz
  go_enter Try.func3, Try.ntmps3
  go_wp2_with fail
  refine (awake_walk _).mono ?_
  rintro e w1 ⟨rfl, hb1⟩
  have HB1 := Lib.hid (((Below.refl w.heap.size w).alloc (Nat.le_refl _) (.cells ar 22)).trans (hb1.mono (by simp))); clear hb1
  go_wp2_with fail
  refine (awake_walk _).mono ?_
  rintro e w2 ⟨rfl, hb2⟩
  have HB2 := Lib.hid (HB1.out.trans (hb2.mono HB1.out.size)); clear hb2
  go_wp2_with fail
  go_ret
  exact ⟨rfl, HB2.out⟩
set_option maxHeartbeats 0 in
set_option maxRecDepth 20000 in
theorem prefix_no (cnt : Nat → Int) (s : ByteArray) (a b : Int) (hs : s.size ≤ 256) (hc : ∀ j, j < 16 → 0 ≤ cnt j ∧ cnt j ≤ 255) (h0 : hufNew cnt s = none) (w : World) : Calls Try.prog 3 #[.agg (arrN .u8 16 cnt), .string s, .int .u8 a, .int .u8 b] w fun e w' => e = .returned (.bool true) ∧ Below w.heap.size w w' := by
  have hg2 : decide ((256 : Int) < (s.size : Int)) = false := by simp; omega
  obtain ⟨ar, har⟩ : ∃ ar, ar = arrN .u8 16 cnt := ⟨_, rfl⟩
  have hsz : ar.size = 16 := by rw [har, arrN_size]
  rw [← har]
  have HAR := Lib.hid har; have HSZ := Lib.hid hsz
  clear har hsz
  have HCR := Lib.hid hc; have HST := Lib.hid h0
  clear hc h0
  go_enter Try.func3, Try.ntmps3
  go_wp2_with (first | (go_at_call 9; refine (awake_walk _).mono ?_; rintro e w1 ⟨rfl, hb1⟩; have HA1 := Lib.hid ((Blk.new w 22 ar).bel hb1); have HB1 := Lib.hid (((Below.refl w.heap.size w).alloc (Nat.le_refl _) (.cells ar 22)).trans (hb1.mono (by simp))); clear hb1) | (refine wpList_load_row rfl 22 (.tmp 4) rfl w.heap.size rfl 22 ar (0, 0) _ HA1.out Try.underlying22 rfl (by rw [HSZ.out]; kernel_rfl) ?_) | (go_at_call 10; rw [HAR.out]; refine (new_h cnt s w1 HCR.out (by omega)).mono ?_; intro e w2 hp; obtain ⟨rfl, hb2⟩ := NewH.none hp HST.out; have HB2 := Lib.hid (HB1.out.trans (hb2.mono HB1.out.size)); clear hb2 hp))
  go_ret
  exact ⟨rfl, HB2.out⟩
set_option maxHeartbeats 0 in
set_option maxRecDepth 20000 in
theorem prefix_z (cnt : Nat → Int) (s : ByteArray) (i j : Nat) (hs : s.size ≤ 256) (hc : ∀ j, j < 16 → 0 ≤ cnt j ∧ cnt j ≤ 255) (st : HS) (h0 : hufNew cnt s = some st) (hi : i < 256) (hj : j < 256) (hA : st.cn i = 0 ∧ st.cb i = 0) (w : World) : Calls Try.prog 3 #[.agg (arrN .u8 16 cnt), .string s, .int .u8 i, .int .u8 j] w fun e w' => e = .returned (.bool true) ∧ Below w.heap.size w w' := by
  have hg2 : decide ((256 : Int) < (s.size : Int)) = false := by simp; omega
  obtain ⟨ar, har⟩ : ∃ ar, ar = arrN .u8 16 cnt := ⟨_, rfl⟩
  have hsz : ar.size = 16 := by rw [har, arrN_size]
  rw [← har]
  have HAR := Lib.hid har; have HSZ := Lib.hid hsz
  clear har hsz
  have HA := Lib.hid hA; clear hA
  have HCR := Lib.hid hc; have HST := Lib.hid h0
  clear hc h0
  go_enter Try.func3, Try.ntmps3
  go_wp2_with (first | (go_at_call 9; refine (awake_walk _).mono ?_; rintro e w1 ⟨rfl, hb1⟩; have HA1 := Lib.hid ((Blk.new w 22 ar).bel hb1); have HB1 := Lib.hid (((Below.refl w.heap.size w).alloc (Nat.le_refl _) (.cells ar 22)).trans (hb1.mono (by simp))); clear hb1) | (refine wpList_load_row rfl 22 (.tmp 4) rfl w.heap.size rfl 22 ar (0, 0) _ HA1.out Try.underlying22 rfl (by rw [HSZ.out]; kernel_rfl) ?_) | (go_at_call 10; rw [HAR.out]; refine ((new_h cnt s w1 HCR.out (by omega)).mono fun e w' h => NewH.get h HST.out).mono ?_; intro e w2 hp; obtain ⟨g, at_, fs, rfl, hT, _, _, hb2⟩ := hp.out; have HT := Lib.hid hT; have HB2 := Lib.hid (HB1.out.trans (hb2.mono HB1.out.size)); clear hT hb2 hp))
  refine (code_zero HT.out hi HA.out).mono ?_
  rintro e w3 ⟨rfl, hb3⟩
  have HT3 := Lib.hid (HT.out.bel hb3); have HB3 := Lib.hid (HB2.out.trans (hb3.mono HB2.out.size)); clear hb3
  go_wp2_with fail
  refine ((code_ok HT3.out j hj)).mono ?_
  rintro e w4 ⟨rfl, hb4⟩
  have HB4 := Lib.hid (HB3.out.trans (hb4.mono HB3.out.size)); clear hb4
  go_wp2_with fail
  go_ret
  exact ⟨rfl, HB4.out⟩
set_option maxHeartbeats 0 in
set_option maxRecDepth 20000 in
theorem prefix_yz (cnt : Nat → Int) (s : ByteArray) (i j : Nat) (hs : s.size ≤ 256) (hc : ∀ j, j < 16 → 0 ≤ cnt j ∧ cnt j ≤ 255) (st : HS) (h0 : hufNew cnt s = some st) (hi : i < 256) (hj : j < 256) (l v : Nat) (hA : CodeIs st i l v) (hl : l ≤ 16) (hB : st.cn j = 0 ∧ st.cb j = 0) (w : World) : Calls Try.prog 3 #[.agg (arrN .u8 16 cnt), .string s, .int .u8 i, .int .u8 j] w fun e w' => e = .returned (.bool true) ∧ Below w.heap.size w w' := by
  have hg2 : decide ((256 : Int) < (s.size : Int)) = false := by simp; omega
  obtain ⟨ar, har⟩ : ∃ ar, ar = arrN .u8 16 cnt := ⟨_, rfl⟩
  have hsz : ar.size = 16 := by rw [har, arrN_size]
  rw [← har]
  have HAR := Lib.hid har; have HSZ := Lib.hid hsz
  clear har hsz
  obtain ⟨Q, hq, hQ, hQ1⟩ := pow_cast l
  have hQ2 : Q ≤ 65536 := by rw [hQ]; exact Nat.pow_le_pow_right (n := 2) (by omega) hl
  have hvQ : v + 2 ≤ Q := by rw [hQ]; exact hA.2.2.2
  have gx : decide ((v : Int) < (Q : Int) - 1) = true := by simp; omega
  have HQ := Lib.hid hQ; clear hQ
  have HA := Lib.hid hA; have HB := Lib.hid hB; clear hA hB
  have HCR := Lib.hid hc; have HST := Lib.hid h0
  clear hc h0
  go_enter Try.func3, Try.ntmps3
  go_wp2_with (first | (go_at_call 9; refine (awake_walk _).mono ?_; rintro e w1 ⟨rfl, hb1⟩; have HA1 := Lib.hid ((Blk.new w 22 ar).bel hb1); have HB1 := Lib.hid (((Below.refl w.heap.size w).alloc (Nat.le_refl _) (.cells ar 22)).trans (hb1.mono (by simp))); clear hb1) | (refine wpList_load_row rfl 22 (.tmp 4) rfl w.heap.size rfl 22 ar (0, 0) _ HA1.out Try.underlying22 rfl (by rw [HSZ.out]; kernel_rfl) ?_) | (go_at_call 10; rw [HAR.out]; refine ((new_h cnt s w1 HCR.out (by omega)).mono fun e w' h => NewH.get h HST.out).mono ?_; intro e w2 hp; obtain ⟨g, at_, fs, rfl, hT, _, _, hb2⟩ := hp.out; have HT := Lib.hid hT; have HB2 := Lib.hid (HB1.out.trans (hb2.mono HB1.out.size)); clear hT hb2 hp))
  refine (code_yes HT.out hi HA.out).mono ?_
  rintro e w3 ⟨rfl, hb3⟩
  have HT3 := Lib.hid (HT.out.bel hb3); have HB3 := Lib.hid (HB2.out.trans (hb3.mono HB2.out.size)); clear hb3
  go_wp2_with fail
  refine (code_zero HT3.out hj HB.out).mono ?_
  rintro e w4 ⟨rfl, hb4⟩
  have HB4 := Lib.hid (HB3.out.trans (hb4.mono HB3.out.size)); clear hb4
  go_wp2_with fail
  go_ret
  exact ⟨rfl, HB4.out⟩
set_option maxHeartbeats 0 in
set_option maxRecDepth 20000 in
theorem prefix_same (cnt : Nat → Int) (s : ByteArray) (i j : Nat) (hs : s.size ≤ 256) (hc : ∀ j, j < 16 → 0 ≤ cnt j ∧ cnt j ≤ 255) (st : HS) (h0 : hufNew cnt s = some st) (hi : i < 256) (hj : j < 256) (l v : Nat) (hA : CodeIs st i l v) (hl : l ≤ 16) (hij : i = j) (w : World) : Calls Try.prog 3 #[.agg (arrN .u8 16 cnt), .string s, .int .u8 i, .int .u8 j] w fun e w' => e = .returned (.bool true) ∧ Below w.heap.size w w' := by
  have hg2 : decide ((256 : Int) < (s.size : Int)) = false := by simp; omega
  obtain ⟨ar, har⟩ : ∃ ar, ar = arrN .u8 16 cnt := ⟨_, rfl⟩
  have hsz : ar.size = 16 := by rw [har, arrN_size]
  rw [← har]
  have HAR := Lib.hid har; have HSZ := Lib.hid hsz
  clear har hsz
  obtain ⟨Q, hq, hQ, hQ1⟩ := pow_cast l
  have hQ2 : Q ≤ 65536 := by rw [hQ]; exact Nat.pow_le_pow_right (n := 2) (by omega) hl
  have hvQ : v + 2 ≤ Q := by rw [hQ]; exact hA.2.2.2
  have gx : decide ((v : Int) < (Q : Int) - 1) = true := by simp; omega
  have HQ := Lib.hid hQ; clear hQ
  have HA := Lib.hid hA; clear hA
  have gij : ((i : Int) == (j : Int)) = true := by simp; omega
  have HIJ := Lib.hid hij; clear hij
  have HCR := Lib.hid hc; have HST := Lib.hid h0
  clear hc h0
  go_enter Try.func3, Try.ntmps3
  go_wp2_with (first | (go_at_call 9; refine (awake_walk _).mono ?_; rintro e w1 ⟨rfl, hb1⟩; have HA1 := Lib.hid ((Blk.new w 22 ar).bel hb1); have HB1 := Lib.hid (((Below.refl w.heap.size w).alloc (Nat.le_refl _) (.cells ar 22)).trans (hb1.mono (by simp))); clear hb1) | (refine wpList_load_row rfl 22 (.tmp 4) rfl w.heap.size rfl 22 ar (0, 0) _ HA1.out Try.underlying22 rfl (by rw [HSZ.out]; kernel_rfl) ?_) | (go_at_call 10; rw [HAR.out]; refine ((new_h cnt s w1 HCR.out (by omega)).mono fun e w' h => NewH.get h HST.out).mono ?_; intro e w2 hp; obtain ⟨g, at_, fs, rfl, hT, _, _, hb2⟩ := hp.out; have HT := Lib.hid hT; have HB2 := Lib.hid (HB1.out.trans (hb2.mono HB1.out.size)); clear hT hb2 hp))
  refine (code_yes HT.out hi HA.out).mono ?_
  rintro e w3 ⟨rfl, hb3⟩
  have HT3 := Lib.hid (HT.out.bel hb3); have HB3 := Lib.hid (HB2.out.trans (hb3.mono HB2.out.size)); clear hb3
  go_wp2_with fail
  refine (code_yes HT3.out hj (by rw [← HIJ.out]; exact HA.out)).mono ?_
  rintro e w4 ⟨rfl, hb4⟩
  have HB4 := Lib.hid (HB3.out.trans (hb4.mono HB3.out.size)); clear hb4
  go_wp2_with fail
  go_ret
  exact ⟨rfl, HB4.out⟩
set_option maxHeartbeats 0 in
set_option maxRecDepth 20000 in
theorem prefix_gt (cnt : Nat → Int) (s : ByteArray) (i j : Nat) (hs : s.size ≤ 256) (hc : ∀ j, j < 16 → 0 ≤ cnt j ∧ cnt j ≤ 255) (st : HS) (h0 : hufNew cnt s = some st) (hi : i < 256) (hj : j < 256) (l v m u : Nat) (hA : CodeIs st i l v) (hl : l ≤ 16) (hB : CodeIs st j m u) (hm : m ≤ 16) (hij : i ≠ j) (hlm : m < l) (w : World) : Calls Try.prog 3 #[.agg (arrN .u8 16 cnt), .string s, .int .u8 i, .int .u8 j] w fun e w' => e = .returned (.bool true) ∧ Below w.heap.size w w' := by
  have hg2 : decide ((256 : Int) < (s.size : Int)) = false := by simp; omega
  obtain ⟨ar, har⟩ : ∃ ar, ar = arrN .u8 16 cnt := ⟨_, rfl⟩
  have hsz : ar.size = 16 := by rw [har, arrN_size]
  rw [← har]
  have HAR := Lib.hid har; have HSZ := Lib.hid hsz
  clear har hsz
  have gij : ((i : Int) == (j : Int)) = false := by simp; omega
  have hne := prefix_free h0 i j l v m u hij hA hB (by omega)
  obtain ⟨d, hd⟩ : ∃ d, d = l - m := ⟨_, rfl⟩
  rw [← hd] at hne
  have hdd : (l : Int) - (m : Int) = (d : Int) := by omega
  have hd2 : d ≤ 16 := by omega
  obtain ⟨Q, hq, hQ, hQ1⟩ := pow_cast d
  have hne2 : (v / Q : Nat) ≠ u := by rw [hQ]; exact hne
  have gne : (((v : Int) / (Q : Int)) != (u : Int)) = true := by
    have e : (v : Int) / (Q : Int) = ((v / Q : Nat) : Int) := by norm_cast
    rw [e]; simp; omega
  have ggt : decide (m < l) = true := by simp; omega
  have ggti : decide ((m : Int) < (l : Int)) = true := by simp; omega
  have HA := Lib.hid hA; have HB := Lib.hid hB
  clear hne hd hQ hne2 hA hB hij
  have HCR := Lib.hid hc; have HST := Lib.hid h0
  clear hc h0
  go_enter Try.func3, Try.ntmps3
  go_wp2_with (first | (go_at_call 9; refine (awake_walk _).mono ?_; rintro e w1 ⟨rfl, hb1⟩; have HA1 := Lib.hid ((Blk.new w 22 ar).bel hb1); have HB1 := Lib.hid (((Below.refl w.heap.size w).alloc (Nat.le_refl _) (.cells ar 22)).trans (hb1.mono (by simp))); clear hb1) | (refine wpList_load_row rfl 22 (.tmp 4) rfl w.heap.size rfl 22 ar (0, 0) _ HA1.out Try.underlying22 rfl (by rw [HSZ.out]; kernel_rfl) ?_) | (go_at_call 10; rw [HAR.out]; refine ((new_h cnt s w1 HCR.out (by omega)).mono fun e w' h => NewH.get h HST.out).mono ?_; intro e w2 hp; obtain ⟨g, at_, fs, rfl, hT, _, _, hb2⟩ := hp.out; have HT := Lib.hid hT; have HB2 := Lib.hid (HB1.out.trans (hb2.mono HB1.out.size)); clear hT hb2 hp))
  refine (code_yes HT.out hi HA.out).mono ?_
  rintro e w3 ⟨rfl, hb3⟩
  have HT3 := Lib.hid (HT.out.bel hb3); have HB3 := Lib.hid (HB2.out.trans (hb3.mono HB2.out.size)); clear hb3
  go_wp2_with fail
  refine (code_yes HT3.out hj HB.out).mono ?_
  rintro e w4 ⟨rfl, hb4⟩
  have HB4 := Lib.hid (HB3.out.trans (hb4.mono HB3.out.size)); clear hb4
  go_wp2_with fail
  go_ret
  exact ⟨rfl, HB4.out⟩
set_option maxHeartbeats 0 in
set_option maxRecDepth 20000 in
theorem prefix_le (cnt : Nat → Int) (s : ByteArray) (i j : Nat) (hs : s.size ≤ 256) (hc : ∀ j, j < 16 → 0 ≤ cnt j ∧ cnt j ≤ 255) (st : HS) (h0 : hufNew cnt s = some st) (hi : i < 256) (hj : j < 256) (l v m u : Nat) (hA : CodeIs st i l v) (hl : l ≤ 16) (hB : CodeIs st j m u) (hm : m ≤ 16) (hij : i ≠ j) (hlm : l ≤ m) (w : World) : Calls Try.prog 3 #[.agg (arrN .u8 16 cnt), .string s, .int .u8 i, .int .u8 j] w fun e w' => e = .returned (.bool true) ∧ Below w.heap.size w w' := by
  have hg2 : decide ((256 : Int) < (s.size : Int)) = false := by simp; omega
  obtain ⟨ar, har⟩ : ∃ ar, ar = arrN .u8 16 cnt := ⟨_, rfl⟩
  have hsz : ar.size = 16 := by rw [har, arrN_size]
  rw [← har]
  have HAR := Lib.hid har; have HSZ := Lib.hid hsz
  clear har hsz
  have gij : ((i : Int) == (j : Int)) = false := by simp; omega
  have hne := prefix_free h0 j i m u l v (fun e => hij e.symm) hB hA (by omega)
  obtain ⟨d, hd⟩ : ∃ d, d = m - l := ⟨_, rfl⟩
  rw [← hd] at hne
  have hdd : (m : Int) - (l : Int) = (d : Int) := by omega
  have hd2 : d ≤ 16 := by omega
  obtain ⟨Q, hq, hQ, hQ1⟩ := pow_cast d
  have hne2 : (u / Q : Nat) ≠ v := by rw [hQ]; exact hne
  have gne : (((u : Int) / (Q : Int)) != (v : Int)) = true := by
    have e : (u : Int) / (Q : Int) = ((u / Q : Nat) : Int) := by norm_cast
    rw [e]; simp; omega
  have ggt : decide (m < l) = false := by simp; omega
  have ggti : decide ((m : Int) < (l : Int)) = false := by simp; omega
  have HA := Lib.hid hA; have HB := Lib.hid hB
  clear hne hd hQ hne2 hA hB hij
  have HCR := Lib.hid hc; have HST := Lib.hid h0
  clear hc h0
  go_enter Try.func3, Try.ntmps3
  go_wp2_with (first | (go_at_call 9; refine (awake_walk _).mono ?_; rintro e w1 ⟨rfl, hb1⟩; have HA1 := Lib.hid ((Blk.new w 22 ar).bel hb1); have HB1 := Lib.hid (((Below.refl w.heap.size w).alloc (Nat.le_refl _) (.cells ar 22)).trans (hb1.mono (by simp))); clear hb1) | (refine wpList_load_row rfl 22 (.tmp 4) rfl w.heap.size rfl 22 ar (0, 0) _ HA1.out Try.underlying22 rfl (by rw [HSZ.out]; kernel_rfl) ?_) | (go_at_call 10; rw [HAR.out]; refine ((new_h cnt s w1 HCR.out (by omega)).mono fun e w' h => NewH.get h HST.out).mono ?_; intro e w2 hp; obtain ⟨g, at_, fs, rfl, hT, _, _, hb2⟩ := hp.out; have HT := Lib.hid hT; have HB2 := Lib.hid (HB1.out.trans (hb2.mono HB1.out.size)); clear hT hb2 hp))
  refine (code_yes HT.out hi HA.out).mono ?_
  rintro e w3 ⟨rfl, hb3⟩
  have HT3 := Lib.hid (HT.out.bel hb3); have HB3 := Lib.hid (HB2.out.trans (hb3.mono HB2.out.size)); clear hb3
  go_wp2_with fail
  refine (code_yes HT3.out hj HB.out).mono ?_
  rintro e w4 ⟨rfl, hb4⟩
  have HB4 := Lib.hid (HB3.out.trans (hb4.mono HB3.out.size)); clear hb4
  go_wp2_with fail
  go_ret
  exact ⟨rfl, HB4.out⟩
theorem huffPrefix_walk (cnt : Nat → Int) (s : ByteArray) (a b : Int) (hc : ∀ j, j < 16 → 0 ≤ cnt j ∧ cnt j ≤ 255) (ha : 0 ≤ a ∧ a ≤ 255) (hb : 0 ≤ b ∧ b ≤ 255) (w : World) : Calls Try.prog 3 #[.agg (arrN .u8 16 cnt), .string s, .int .u8 a, .int .u8 b] w fun e w' => e = .returned (.bool true) ∧ Below w.heap.size w w' := by
  by_cases hs : s.size ≤ 256
  · cases h0 : hufNew cnt s with
    | none => exact prefix_no cnt s a b hs hc h0 w
    | some st =>
      obtain ⟨i, rfl⟩ : ∃ i : Nat, a = i := ⟨a.toNat, by omega⟩
      obtain ⟨j, rfl⟩ : ∃ j : Nat, b = j := ⟨b.toNat, by omega⟩
      rcases codes_of h0 i with hA | ⟨l, v, hA, hl⟩
      · exact prefix_z cnt s i j hs hc st h0 (by omega) (by omega) hA w
      · rcases codes_of h0 j with hB | ⟨m, u, hB, hm⟩
        · exact prefix_yz cnt s i j hs hc st h0 (by omega) (by omega) l v hA hl hB w
        · by_cases hij : i = j
          · exact prefix_same cnt s i j hs hc st h0 (by omega) (by omega) l v hA hl hij w
          · by_cases hlm : m < l
            · exact prefix_gt cnt s i j hs hc st h0 (by omega) (by omega) l v m u hA hl hB hm hij hlm w
            · exact prefix_le cnt s i j hs hc st h0 (by omega) (by omega) l v m u hA hl hB hm hij (by omega) w
  · exact prefix_long cnt s a b (by omega) w

namespace lawHuffPrefix
open Go.ChangeShapes Go.WideShapes Go.ChangeAt Go.RowKit
open Go.ChangeMaps (open_string shut_string)
theorem own : ownKnob Try.prog.godebug = none := by kernel_rfl
theorem laidOut : laidOutB Try.prog = true := by kernel_rfl

set_option maxRecDepth 100000 in
theorem lifted (os : Os) (started : os.Started) (H : Type) (enc : TypeId × Value → H) :
    ReturnsInHanded {} Try.checked os 3 .any (Rows.huffPrefixSpec.pre6 enc Try.prog Try.f3 Rows.huffPrefixRow.domain false) (Rows.huffPrefixSpec.post enc Try.prog Try.f3 false true false false) := by
  refine returnsInHanded_of_change_sized (C := Try.checked) own started (by kernel_rfl) Try.func3
    (ChangeSpec.witness6 (enc := enc) (C := Try.checked) false ⟨#[], #[.agg #[.int .u8 0, .int .u8 0, .int .u8 0, .int .u8 0, .int .u8 0, .int .u8 0, .int .u8 0, .int .u8 0, .int .u8 0, .int .u8 0, .int .u8 0, .int .u8 0, .int .u8 0, .int .u8 0, .int .u8 0, .int .u8 0], .string ⟨#[]⟩, .int .u8 0, .int .u8 0], []⟩ 8 (by kernel_rfl) (by kernel_rfl) (by kernel_rfl) (by kernel_rfl)) ?_
  intro W base args ds gs before hval0 hW hcnd hsz0 _
  have hsz : (DataW.weightsEach Try.prog (Try.f3.params.toList ++ Rows.huffPrefixSpec.plain.varTypes Try.prog) (ds ++ gs)).all (· ≤ reachBytes) = true := hsz0
  have hval : ∀ (j : Nat) t v, Try.f3.params[j]? = some t → args[j]? = some v → Value.okWide Try.prog W .any base t v := hval0
  have hW' := hW
  obtain ⟨p, q, hA0, hV, hbefore, hfz, hnd⟩ := hW
  obtain ⟨rfl, rfl⟩ := trodVars_none hV
  have hA : DataW.TrodAll enc Try.prog W 0 (fun _ => true) true Try.f3.params.toList args.toList ds p := hA0
  rw [Try.params3] at hA hval hsz
  obtain ⟨v0, vs1, d0, ds1, p0, q0, hargs, rfl, hps, h0, r0⟩ := trodAll_cons hA
  obtain ⟨v1, vs2, d1, ds2, p1, q1, rfl, rfl, rfl, h1, r1⟩ := trodAll_cons r0
  obtain ⟨v2, vs3, d2, ds3, p2, q2, rfl, rfl, rfl, h2, r2⟩ := trodAll_cons r1
  obtain ⟨v3, vs4, d3, ds4, p3, q3, rfl, rfl, rfl, h3, r3⟩ := trodAll_cons r2
  obtain ⟨rfl, rfl, rfl⟩ := trodAll_nil r3
  obtain rfl : args = #[v0, v1, v2, v3] := by cases args; simp_all
  have o0 := hval 0 22 v0 rfl rfl
  have o1 := hval 1 9 v1 rfl rfl
  have o2 := hval 2 5 v2 rfl rfl
  have o3 := hval 3 5 v3 rfl rfl
  clear hA0 hval0
  obtain ⟨cnt, rfl, wc⟩ := open_arrN Try.underlying22 Try.underlying5 (by kernel_rfl) (by kernel_rfl) o0 h0
  obtain ⟨s, rfl, rfl, rfl, ws⟩ := open_string Try.underlying9 o1 h1
  obtain ⟨a, rfl, rfl, rfl, wa⟩ := open_int Try.underlying5 o2 h2
  obtain ⟨b, rfl, rfl, rfl, wb⟩ := open_int Try.underlying5 o3 h3
  refine (huffPrefix_walk cnt s a b (fun j hj => u8_rng (wc j hj)) (u8_rng wa) (u8_rng wb) W).mono fun e W' ⟨he, hb⟩ => ?_
  subst he
  exact ⟨_, rfl, law_post laidOut (by rw [Try.params3]; intro t ht; simp only [List.mem_cons, List.not_mem_nil, or_false] at ht; rcases ht with rfl | rfl | rfl | rfl <;> exact ⟨by kernel_rfl, of_decide_eq_true (by kernel_rfl)⟩) (by kernel_rfl) Try.underlying4 hW' rfl rfl hb⟩
theorem said : Rows.HuffPrefixSaid :=
  OpenClaim.holds_of_wide 3 Try.f3 rfl rfl rfl rfl rfl rfl rfl ⟨rfl, rfl, rfl, rfl, rfl⟩ rfl rfl rfl rfl rfl (by kernel_rfl) Try.func3 (by kernel_rfl)
    (of_decide_eq_true (by kernel_rfl)) (by unfold Func.isWrapper; first | (rw [if_pos (by decide +kernel)]; kernel_rfl) | (rw [if_neg (by decide +kernel)]; exact ⟨rfl, rfl⟩))
    (fun os started H enc _ => lifted os started H enc)
#print axioms said
end lawHuffPrefix
end Go.Proofs.Ytaofponadaifiaa
