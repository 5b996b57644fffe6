/- Whether any counts and symbols are a table, and all its codes, are the document's. No condition. -/
import Derived.Test.YtaofponadaifiaaHuH
import Derived.ShutString
import Derived.ChangeOld
import Derived.SizedLaws
namespace Go.Proofs.Ytaofponadaifiaa
open Go.RowKit
set_option linter.unusedSimpArgs false
set_option linter.unusedVariables false
theorem code_yes {w : World} {g : Nat} {cnt : Nat → Int} {s : ByteArray} {st : HS} {fs at_ : Nat → Int} (hT : Tab w g cnt s st.cb st.cn fs at_) {i l v : Nat} (hi : i < 256) (h1 : st.cn i = l) (h2 : st.cb i = v) (h3 : 1 ≤ l) : Calls Try.prog 11 #[.pointer (some ⟨g, 0, none⟩), .int .i64 i] w fun e w' => e = .returned (.tuple #[.int .i64 v, .int .i64 l, .bool true]) ∧ Below w.heap.size w w' := by
  have h := code_ok hT i hi
  rw [h1, h2, show decide (0 < (l : Int)) = true by simp; omega] at h
  exact h
theorem code_noB (g : Option Addr) (x : Int) (h : x < 0 ∨ 256 ≤ x) (w : World) : Calls Try.prog 11 #[.pointer g, .int .i64 x] w fun e w' => e = .returned (.tuple #[.int .i64 0, .int .i64 0, .bool false]) ∧ Below w.heap.size w w' :=
  (code_no g x h w).mono fun e w' ⟨h1, h2⟩ => ⟨h1, by rw [h2]; exact Below.refl _ _⟩
theorem tables_long (cnt : Nat → Int) (s : ByteArray) (x : Int) (hs : 300 < s.size) (w : World) : Calls Try.prog 4 #[.agg (arrN .u8 16 cnt), .string s, .int .i64 x] w fun e w' => e = .returned (.bool true) ∧ Below w.heap.size w w' := by
  have hg2 : decide ((300 : Int) < (s.size : Int)) = true := by simp; omega
  obtain ⟨ar, har⟩ : ∃ ar, ar = arrN .u8 16 cnt := ⟨_, rfl⟩
  have hsz : ar.size = 16 := by rw [har, arrN_size]
  rw [← har]
  have HAR := Lib.hid har; have HSZ := Lib.hid hsz
  clear har hsz
  go_enter Try.func4, Try.ntmps4
  go_wp2_with fail
  refine (awake_walk _).mono ?_
  rintro e w1 ⟨rfl, hb1⟩
  have HB1 := Lib.hid (((Below.refl w.heap.size w).alloc (Nat.le_refl _) (.cells ar 22)).trans (hb1.mono (by simp))); clear hb1
  go_wp2_with fail
  refine (awake_walk _).mono ?_
  rintro e w2 ⟨rfl, hb2⟩
  have HB2 := Lib.hid (HB1.out.trans (hb2.mono HB1.out.size)); clear hb2
  go_wp2_with fail
  go_ret
  exact ⟨rfl, HB2.out⟩
set_option maxHeartbeats 0 in
set_option maxRecDepth 20000 in
theorem tables_no (cnt : Nat → Int) (s : ByteArray) (x : Int) (hs : s.size ≤ 300) (hc : ∀ j, j < 16 → 0 ≤ cnt j ∧ cnt j ≤ 255) (h0 : hufNew cnt s = none) (w : World) : Calls Try.prog 4 #[.agg (arrN .u8 16 cnt), .string s, .int .i64 x] w fun e w' => e = .returned (.bool true) ∧ Below w.heap.size w w' := by
  have hg2 : decide ((300 : Int) < (s.size : Int)) = false := by simp; omega
  obtain ⟨ar, har⟩ : ∃ ar, ar = arrN .u8 16 cnt := ⟨_, rfl⟩
  have hsz : ar.size = 16 := by rw [har, arrN_size]
  rw [← har]
  have HAR := Lib.hid har; have HSZ := Lib.hid hsz
  clear har hsz
  have HCR := Lib.hid hc; have HST := Lib.hid h0
  clear hc h0
  go_enter Try.func4, Try.ntmps4
  go_wp2_with (first | (go_at_call 9; refine (awake_walk _).mono ?_; rintro e w1 ⟨rfl, hb1⟩; have HA1 := Lib.hid ((Blk.new w 22 ar).bel hb1); have HB1 := Lib.hid (((Below.refl w.heap.size w).alloc (Nat.le_refl _) (.cells ar 22)).trans (hb1.mono (by simp))); clear hb1) | (refine wpList_load_row rfl 22 (.tmp 3) rfl w.heap.size rfl 22 ar (0, 0) _ HA1.out Try.underlying22 rfl (by rw [HSZ.out]; kernel_rfl) ?_) | (go_at_call 10; rw [HAR.out]; refine (new_h cnt s w1 HCR.out (by omega)).mono ?_; intro e w2 hp; obtain ⟨rfl, hb2⟩ := NewH.none hp HST.out; have HA2 := Lib.hid (HA1.out.bel hb2); have HB2 := Lib.hid (HB1.out.trans (hb2.mono HB1.out.size)); rw [← HAR.out]; clear hb2 hp) | (refine wpList_load_row rfl 22 (.tmp 3) rfl w.heap.size rfl 22 ar (0, 0) _ HA2.out Try.underlying22 rfl (by rw [HSZ.out]; kernel_rfl) ?_) | (go_at_call 12; rw [HAR.out]; refine (codes_walk cnt s w2 HCR.out (by omega)).mono ?_; intro e w3 hp; obtain ⟨rfl, hb3⟩ := CodesP.none hp HST.out; have HB3 := Lib.hid (HB2.out.trans (hb3.mono HB2.out.size)); rw [← HAR.out]; clear hb3 hp))
  go_loop [11] (fun j => j = .int .i64 0) (fun _ => 1)
  case atStart => exact rfl
  case round =>
    obtain rfl := hrel
    go_wp2_with (first | (go_at_call 11; refine (code_nil _ _).mono ?_; rintro e w' ⟨rfl, rfl⟩) | (go_at_call 13; refine (find_no none 0 0 (fun _ _ => 0) x _ (by omega) (fun i hi => by omega) (fun k hk => by omega)).mono ?_; rintro e w4 ⟨rfl, hb4⟩; have HB4 := Lib.hid (HB3.out.trans (hb4.mono HB3.out.size)); clear hb4))
    go_ret
    exact ⟨rfl, HB4.out.alloc HB4.out.size _⟩
set_option maxHeartbeats 0 in
set_option maxRecDepth 20000 in
theorem tables_out (cnt : Nat → Int) (s : ByteArray) (x : Int) (hs : s.size ≤ 300) (hc : ∀ j, j < 16 → 0 ≤ cnt j ∧ cnt j ≤ 255) (st : HS) (h0 : hufNew cnt s = some st) (hx : x < 0 ∨ 256 ≤ x) (w : World) : Calls Try.prog 4 #[.agg (arrN .u8 16 cnt), .string s, .int .i64 x] w fun e w' => e = .returned (.bool true) ∧ Below w.heap.size w w' := by
  have hg2 : decide ((300 : Int) < (s.size : Int)) = false := by simp; omega
  obtain ⟨ar, har⟩ : ∃ ar, ar = arrN .u8 16 cnt := ⟨_, rfl⟩
  have hsz : ar.size = 16 := by rw [har, arrN_size]
  rw [← har]
  have HAR := Lib.hid har; have HSZ := Lib.hid hsz
  clear har hsz
  have HCR := Lib.hid hc; have HST := Lib.hid h0
  have HX := Lib.hid hx; clear hx
  clear hc h0
  go_enter Try.func4, Try.ntmps4
  go_wp2_with (first | (go_at_call 9; refine (awake_walk _).mono ?_; rintro e w1 ⟨rfl, hb1⟩; have HA1 := Lib.hid ((Blk.new w 22 ar).bel hb1); have HB1 := Lib.hid (((Below.refl w.heap.size w).alloc (Nat.le_refl _) (.cells ar 22)).trans (hb1.mono (by simp))); clear hb1) | (refine wpList_load_row rfl 22 (.tmp 3) rfl w.heap.size rfl 22 ar (0, 0) _ HA1.out Try.underlying22 rfl (by rw [HSZ.out]; kernel_rfl) ?_) | (go_at_call 10; rw [HAR.out]; refine ((new_h cnt s w1 HCR.out (by omega)).mono fun e w' h => NewH.get h HST.out).mono ?_; intro e w2 hp; obtain ⟨g, at_, fs, rfl, hT, _, _, hb2⟩ := hp.out; have HT := Lib.hid hT; have HA2 := Lib.hid (HA1.out.bel hb2); have HB2 := Lib.hid (HB1.out.trans (hb2.mono HB1.out.size)); rw [← HAR.out]; clear hT hb2 hp) | (refine wpList_load_row rfl 22 (.tmp 3) rfl w.heap.size rfl 22 ar (0, 0) _ HA2.out Try.underlying22 rfl (by rw [HSZ.out]; kernel_rfl) ?_) | (go_at_call 12; rw [HAR.out]; refine (codes_walk cnt s w2 HCR.out (by omega)).mono ?_; intro e w3 hp; obtain ⟨gg, v3, hG, hS, rfl, hO3, hb3⟩ := (CodesP.get hp HST.out).out; obtain ⟨A3, c3, rfl, _, _⟩ := hO3.form; have HG := Lib.hid hG; have HS_ := Lib.hid hS; have HO3 := Lib.hid hO3; have HT3 := Lib.hid (HT.out.bel hb3); have HB3 := Lib.hid (HB2.out.trans (hb3.mono HB2.out.size)); rw [← HAR.out]; clear hb3 hp hG hS hO3))
  obtain ⟨a, hat⟩ : ∃ a, a = gg.at_ := ⟨_, rfl⟩
  have hal : a ≤ 300 := by have := HG.out.1; omega
  have HAT := Lib.hid hat
  have HO3' : Hid (OwnS w3 w2.heap.size 36 3 (.slice A3 a c3) a (fC s gg)) := Lib.hid (by rw [hat]; exact HO3.out)
  rw [← hat]
  clear HO3 hat
  go_loopw [11] (fun j wr => ∃ (k : Nat), k ≤ a ∧ j = .int .i64 k ∧ Hid (Tab wr g cnt s st.cb st.cn fs at_) ∧ Hid (OwnS wr w2.heap.size 36 3 (.slice A3 a c3) a (fC s gg)) ∧ Hid (Below w.heap.size w wr)) (fun j _ => a - (intOf j).toNat)
  case atStart => exact ⟨0, by omega, rfl, HT3, HO3', HB3⟩
  case round =>
    clear HO3' HT3 HB3
    obtain ⟨k, hk, rfl, HT3, HO3, HB3⟩ := hrel
    obtain ⟨A4, c4, e4, _, hR4⟩ := HO3.out.form
    cases e4
    by_cases hlt : k < a
    · obtain ⟨b1, off, rfl, hgs, r0, r1, r2⟩ := hR4.at3 hlt
      have hcell := HS_.out.cell k (by rw [← HAT.out]; exact hlt)
      obtain ⟨y, hy⟩ : ∃ y : Nat, y = symN s k := ⟨_, rfl⟩
      obtain ⟨bt, hbt⟩ : ∃ bt : Nat, bt = gg.bi k := ⟨_, rfl⟩
      obtain ⟨nn, hnn⟩ : ∃ nn : Nat, nn = gg.ni k := ⟨_, rfl⟩
      have p0 : wr.cell? ⟨b1, off + k * 3, none⟩ = some (.int .i64 y) := by rw [r0, hy]; rfl
      have p1 : wr.cell? ⟨b1, off + k * 3 + 1, none⟩ = some (.int .i64 bt) := by rw [r1, hbt]; rfl
      have p2 : wr.cell? ⟨b1, off + k * 3 + 2, none⟩ = some (.int .i64 nn) := by rw [r2, hnn]; rfl
      rw [← hy, ← hbt, ← hnn] at hcell
      have hcall := code_yes HT3.out (i := y) (by rw [hy]; exact symN_lt s k) hcell.2.1 hcell.1 hcell.2.2
      have HC := Lib.hid hcall; have P1 := Lib.hid p1; have P2 := Lib.hid p2; have HGS := Lib.hid hgs
      clear r0 r1 r2 hcall hcell hy hbt hnn hR4 hgs
      go_wp2_with (first | (go_at_call 11; refine HC.out.mono ?_; rintro e w5 ⟨rfl, hb5⟩; have HT5 := Lib.hid (HT3.out.bel hb5); have HO5 := Lib.hid (HO3.out.bel hb5); have HB5 := Lib.hid (HB3.out.trans (hb5.mono HB3.out.size)); have z1 : w5.cell? ⟨b1, off + k * 3 + 1, none⟩ = some (.int .i64 bt) := (hb5.cell (p := ⟨b1, off + k * 3 + 1, none⟩) HGS.out).trans P1.out; have z2 : w5.cell? ⟨b1, off + k * 3 + 2, none⟩ = some (.int .i64 nn) := (hb5.cell (p := ⟨b1, off + k * 3 + 2, none⟩) HGS.out).trans P2.out; clear hb5))
      exact ⟨⟨k + 1, by omega, by go_num, HT5, HO5, HB5⟩, by simp [intOf]; omega⟩
    · obtain rfl : a = k := by omega
      have HR4 := Lib.hid hR4; clear hR4
      have hne : ∀ k, k < a → fC s gg k 0 ≠ x := fun k hk e => by
        have h1 := symN_lt s k
        have h2 : (symN s k : Int) = x := e
        have := HX.out
        omega
      have HNE := Lib.hid hne; clear hne
      go_wp2_with (first | (go_at_call 11; refine (code_noB (some ⟨g, 0, none⟩) x HX.out wr).mono ?_; rintro e w5 ⟨rfl, hb5⟩; have HR5 := Lib.hid (HR4.out.bel hb5); have HB5 := Lib.hid (HB3.out.trans (hb5.mono HB3.out.size)); clear hb5) | (go_at_call 13; refine (find_no _ _ _ _ x _ (by omega) HR5.out HNE.out).mono ?_; rintro e w6 ⟨rfl, hb6⟩; have HB6 := Lib.hid (HB5.out.trans (hb6.mono HB5.out.size)); clear hb6))
      go_ret
      exact ⟨rfl, HB6.out.alloc HB6.out.size _⟩
set_option maxHeartbeats 0 in
set_option maxRecDepth 20000 in
theorem tables_zero (cnt : Nat → Int) (s : ByteArray) (x : Int) (hs : s.size ≤ 300) (hc : ∀ j, j < 16 → 0 ≤ cnt j ∧ cnt j ≤ 255) (st : HS) (h0 : hufNew cnt s = some st) (i : Nat) (hi : i < 256) (hxi : x = i) (hx : st.cn i = 0 ∧ st.cb i = 0) (w : World) : Calls Try.prog 4 #[.agg (arrN .u8 16 cnt), .string s, .int .i64 x] w fun e w' => e = .returned (.bool true) ∧ Below w.heap.size w w' := by
  have hg2 : decide ((300 : Int) < (s.size : Int)) = false := by simp; omega
  obtain ⟨ar, har⟩ : ∃ ar, ar = arrN .u8 16 cnt := ⟨_, rfl⟩
  have hsz : ar.size = 16 := by rw [har, arrN_size]
  rw [← har]
  have HAR := Lib.hid har; have HSZ := Lib.hid hsz
  clear har hsz
  have HCR := Lib.hid hc; have HST := Lib.hid h0
  subst hxi
  have HX := Lib.hid hx; clear hx
  clear hc h0
  go_enter Try.func4, Try.ntmps4
  go_wp2_with (first | (go_at_call 9; refine (awake_walk _).mono ?_; rintro e w1 ⟨rfl, hb1⟩; have HA1 := Lib.hid ((Blk.new w 22 ar).bel hb1); have HB1 := Lib.hid (((Below.refl w.heap.size w).alloc (Nat.le_refl _) (.cells ar 22)).trans (hb1.mono (by simp))); clear hb1) | (refine wpList_load_row rfl 22 (.tmp 3) rfl w.heap.size rfl 22 ar (0, 0) _ HA1.out Try.underlying22 rfl (by rw [HSZ.out]; kernel_rfl) ?_) | (go_at_call 10; rw [HAR.out]; refine ((new_h cnt s w1 HCR.out (by omega)).mono fun e w' h => NewH.get h HST.out).mono ?_; intro e w2 hp; obtain ⟨g, at_, fs, rfl, hT, _, _, hb2⟩ := hp.out; have HT := Lib.hid hT; have HA2 := Lib.hid (HA1.out.bel hb2); have HB2 := Lib.hid (HB1.out.trans (hb2.mono HB1.out.size)); rw [← HAR.out]; clear hT hb2 hp) | (refine wpList_load_row rfl 22 (.tmp 3) rfl w.heap.size rfl 22 ar (0, 0) _ HA2.out Try.underlying22 rfl (by rw [HSZ.out]; kernel_rfl) ?_) | (go_at_call 12; rw [HAR.out]; refine (codes_walk cnt s w2 HCR.out (by omega)).mono ?_; intro e w3 hp; obtain ⟨gg, v3, hG, hS, rfl, hO3, hb3⟩ := (CodesP.get hp HST.out).out; obtain ⟨A3, c3, rfl, _, _⟩ := hO3.form; have HG := Lib.hid hG; have HS_ := Lib.hid hS; have HO3 := Lib.hid hO3; have HT3 := Lib.hid (HT.out.bel hb3); have HB3 := Lib.hid (HB2.out.trans (hb3.mono HB2.out.size)); rw [← HAR.out]; clear hb3 hp hG hS hO3))
  obtain ⟨a, hat⟩ : ∃ a, a = gg.at_ := ⟨_, rfl⟩
  have hal : a ≤ 300 := by have := HG.out.1; omega
  have HAT := Lib.hid hat
  have HO3' : Hid (OwnS w3 w2.heap.size 36 3 (.slice A3 a c3) a (fC s gg)) := Lib.hid (by rw [hat]; exact HO3.out)
  rw [← hat]
  clear HO3 hat
  go_loopw [11] (fun j wr => ∃ (k : Nat), k ≤ a ∧ j = .int .i64 k ∧ Hid (Tab wr g cnt s st.cb st.cn fs at_) ∧ Hid (OwnS wr w2.heap.size 36 3 (.slice A3 a c3) a (fC s gg)) ∧ Hid (Below w.heap.size w wr)) (fun j _ => a - (intOf j).toNat)
  case atStart => exact ⟨0, by omega, rfl, HT3, HO3', HB3⟩
  case round =>
    clear HO3' HT3 HB3
    obtain ⟨k, hk, rfl, HT3, HO3, HB3⟩ := hrel
    obtain ⟨A4, c4, e4, _, hR4⟩ := HO3.out.form
    cases e4
    by_cases hlt : k < a
    · obtain ⟨b1, off, rfl, hgs, r0, r1, r2⟩ := hR4.at3 hlt
      have hcell := HS_.out.cell k (by rw [← HAT.out]; exact hlt)
      obtain ⟨y, hy⟩ : ∃ y : Nat, y = symN s k := ⟨_, rfl⟩
      obtain ⟨bt, hbt⟩ : ∃ bt : Nat, bt = gg.bi k := ⟨_, rfl⟩
      obtain ⟨nn, hnn⟩ : ∃ nn : Nat, nn = gg.ni k := ⟨_, rfl⟩
      have p0 : wr.cell? ⟨b1, off + k * 3, none⟩ = some (.int .i64 y) := by rw [r0, hy]; rfl
      have p1 : wr.cell? ⟨b1, off + k * 3 + 1, none⟩ = some (.int .i64 bt) := by rw [r1, hbt]; rfl
      have p2 : wr.cell? ⟨b1, off + k * 3 + 2, none⟩ = some (.int .i64 nn) := by rw [r2, hnn]; rfl
      rw [← hy, ← hbt, ← hnn] at hcell
      have hcall := code_yes HT3.out (i := y) (by rw [hy]; exact symN_lt s k) hcell.2.1 hcell.1 hcell.2.2
      have HC := Lib.hid hcall; have P1 := Lib.hid p1; have P2 := Lib.hid p2; have HGS := Lib.hid hgs
      clear r0 r1 r2 hcall hcell hy hbt hnn hR4 hgs
      go_wp2_with (first | (go_at_call 11; refine HC.out.mono ?_; rintro e w5 ⟨rfl, hb5⟩; have HT5 := Lib.hid (HT3.out.bel hb5); have HO5 := Lib.hid (HO3.out.bel hb5); have HB5 := Lib.hid (HB3.out.trans (hb5.mono HB3.out.size)); have z1 : w5.cell? ⟨b1, off + k * 3 + 1, none⟩ = some (.int .i64 bt) := (hb5.cell (p := ⟨b1, off + k * 3 + 1, none⟩) HGS.out).trans P1.out; have z2 : w5.cell? ⟨b1, off + k * 3 + 2, none⟩ = some (.int .i64 nn) := (hb5.cell (p := ⟨b1, off + k * 3 + 2, none⟩) HGS.out).trans P2.out; clear hb5))
      exact ⟨⟨k + 1, by omega, by go_num, HT5, HO5, HB5⟩, by simp [intOf]; omega⟩
    · obtain rfl : a = k := by omega
      have HR4 := Lib.hid hR4; clear hR4
      have hne : ∀ k, k < a → fC s gg k 0 ≠ (i : Int) := fun k hk e => by
        have h2 : (symN s k : Int) = (i : Int) := e
        have h3 : symN s k = i := by omega
        have h4 := HS_.out.cell k (by rw [← HAT.out]; exact hk)
        rw [h3, HX.out.1] at h4
        omega
      have HNE := Lib.hid hne; clear hne
      go_wp2_with (first | (go_at_call 11; refine ((by have h := code_ok HT3.out i hi; rw [HX.out.1, HX.out.2] at h; exact h : Calls Try.prog 11 #[.pointer (some ⟨g, 0, none⟩), .int .i64 i] wr fun e w' => e = .returned (.tuple #[.int .i64 0, .int .i64 0, .bool false]) ∧ Below wr.heap.size wr w')).mono ?_; rintro e w5 ⟨rfl, hb5⟩; have HR5 := Lib.hid (HR4.out.bel hb5); have HB5 := Lib.hid (HB3.out.trans (hb5.mono HB3.out.size)); clear hb5) | (go_at_call 13; refine (find_no _ _ _ _ (i : Int) _ (by omega) HR5.out HNE.out).mono ?_; rintro e w6 ⟨rfl, hb6⟩; have HB6 := Lib.hid (HB5.out.trans (hb6.mono HB5.out.size)); clear hb6))
      go_ret
      exact ⟨rfl, HB6.out.alloc HB6.out.size _⟩
set_option maxHeartbeats 0 in
set_option maxRecDepth 20000 in
theorem tables_code (cnt : Nat → Int) (s : ByteArray) (x : Int) (hs : s.size ≤ 300) (hc : ∀ j, j < 16 → 0 ≤ cnt j ∧ cnt j ≤ 255) (st : HS) (h0 : hufNew cnt s = some st) (i l v : Nat) (hi : i < 256) (hxi : x = i) (hl : st.cn i = l) (hv : st.cb i = v) (hl1 : 1 ≤ l) (w : World) : Calls Try.prog 4 #[.agg (arrN .u8 16 cnt), .string s, .int .i64 x] w fun e w' => e = .returned (.bool true) ∧ Below w.heap.size w w' := by
  have hg2 : decide ((300 : Int) < (s.size : Int)) = false := by simp; omega
  obtain ⟨ar, har⟩ : ∃ ar, ar = arrN .u8 16 cnt := ⟨_, rfl⟩
  have hsz : ar.size = 16 := by rw [har, arrN_size]
  rw [← har]
  have HAR := Lib.hid har; have HSZ := Lib.hid hsz
  clear har hsz
  have HCR := Lib.hid hc; have HST := Lib.hid h0
  subst hxi
  have HL := Lib.hid hl; have HV := Lib.hid hv; clear hl hv
  clear hc h0
  go_enter Try.func4, Try.ntmps4
  go_wp2_with (first | (go_at_call 9; refine (awake_walk _).mono ?_; rintro e w1 ⟨rfl, hb1⟩; have HA1 := Lib.hid ((Blk.new w 22 ar).bel hb1); have HB1 := Lib.hid (((Below.refl w.heap.size w).alloc (Nat.le_refl _) (.cells ar 22)).trans (hb1.mono (by simp))); clear hb1) | (refine wpList_load_row rfl 22 (.tmp 3) rfl w.heap.size rfl 22 ar (0, 0) _ HA1.out Try.underlying22 rfl (by rw [HSZ.out]; kernel_rfl) ?_) | (go_at_call 10; rw [HAR.out]; refine ((new_h cnt s w1 HCR.out (by omega)).mono fun e w' h => NewH.get h HST.out).mono ?_; intro e w2 hp; obtain ⟨g, at_, fs, rfl, hT, _, _, hb2⟩ := hp.out; have HT := Lib.hid hT; have HA2 := Lib.hid (HA1.out.bel hb2); have HB2 := Lib.hid (HB1.out.trans (hb2.mono HB1.out.size)); rw [← HAR.out]; clear hT hb2 hp) | (refine wpList_load_row rfl 22 (.tmp 3) rfl w.heap.size rfl 22 ar (0, 0) _ HA2.out Try.underlying22 rfl (by rw [HSZ.out]; kernel_rfl) ?_) | (go_at_call 12; rw [HAR.out]; refine (codes_walk cnt s w2 HCR.out (by omega)).mono ?_; intro e w3 hp; obtain ⟨gg, v3, hG, hS, rfl, hO3, hb3⟩ := (CodesP.get hp HST.out).out; obtain ⟨A3, c3, rfl, _, _⟩ := hO3.form; have HG := Lib.hid hG; have HS_ := Lib.hid hS; have HO3 := Lib.hid hO3; have HT3 := Lib.hid (HT.out.bel hb3); have HB3 := Lib.hid (HB2.out.trans (hb3.mono HB2.out.size)); rw [← HAR.out]; clear hb3 hp hG hS hO3))
  obtain ⟨a, hat⟩ : ∃ a, a = gg.at_ := ⟨_, rfl⟩
  have hal : a ≤ 300 := by have := HG.out.1; omega
  have HAT := Lib.hid hat
  have HO3' : Hid (OwnS w3 w2.heap.size 36 3 (.slice A3 a c3) a (fC s gg)) := Lib.hid (by rw [hat]; exact HO3.out)
  rw [← hat]
  clear HO3 hat
  go_loopw [11] (fun j wr => ∃ (k : Nat), k ≤ a ∧ j = .int .i64 k ∧ Hid (Tab wr g cnt s st.cb st.cn fs at_) ∧ Hid (OwnS wr w2.heap.size 36 3 (.slice A3 a c3) a (fC s gg)) ∧ Hid (Below w.heap.size w wr)) (fun j _ => a - (intOf j).toNat)
  case atStart => exact ⟨0, by omega, rfl, HT3, HO3', HB3⟩
  case round =>
    clear HO3' HT3 HB3
    obtain ⟨k, hk, rfl, HT3, HO3, HB3⟩ := hrel
    obtain ⟨A4, c4, e4, _, hR4⟩ := HO3.out.form
    cases e4
    by_cases hlt : k < a
    · obtain ⟨b1, off, rfl, hgs, r0, r1, r2⟩ := hR4.at3 hlt
      have hcell := HS_.out.cell k (by rw [← HAT.out]; exact hlt)
      obtain ⟨y, hy⟩ : ∃ y : Nat, y = symN s k := ⟨_, rfl⟩
      obtain ⟨bt, hbt⟩ : ∃ bt : Nat, bt = gg.bi k := ⟨_, rfl⟩
      obtain ⟨nn, hnn⟩ : ∃ nn : Nat, nn = gg.ni k := ⟨_, rfl⟩
      have p0 : wr.cell? ⟨b1, off + k * 3, none⟩ = some (.int .i64 y) := by rw [r0, hy]; rfl
      have p1 : wr.cell? ⟨b1, off + k * 3 + 1, none⟩ = some (.int .i64 bt) := by rw [r1, hbt]; rfl
      have p2 : wr.cell? ⟨b1, off + k * 3 + 2, none⟩ = some (.int .i64 nn) := by rw [r2, hnn]; rfl
      rw [← hy, ← hbt, ← hnn] at hcell
      have hcall := code_yes HT3.out (i := y) (by rw [hy]; exact symN_lt s k) hcell.2.1 hcell.1 hcell.2.2
      have HC := Lib.hid hcall; have P1 := Lib.hid p1; have P2 := Lib.hid p2; have HGS := Lib.hid hgs
      clear r0 r1 r2 hcall hcell hy hbt hnn hR4 hgs
      go_wp2_with (first | (go_at_call 11; refine HC.out.mono ?_; rintro e w5 ⟨rfl, hb5⟩; have HT5 := Lib.hid (HT3.out.bel hb5); have HO5 := Lib.hid (HO3.out.bel hb5); have HB5 := Lib.hid (HB3.out.trans (hb5.mono HB3.out.size)); have z1 : w5.cell? ⟨b1, off + k * 3 + 1, none⟩ = some (.int .i64 bt) := (hb5.cell (p := ⟨b1, off + k * 3 + 1, none⟩) HGS.out).trans P1.out; have z2 : w5.cell? ⟨b1, off + k * 3 + 2, none⟩ = some (.int .i64 nn) := (hb5.cell (p := ⟨b1, off + k * 3 + 2, none⟩) HGS.out).trans P2.out; clear hb5))
      exact ⟨⟨k + 1, by omega, by go_num, HT5, HO5, HB5⟩, by simp [intOf]; omega⟩
    · obtain rfl : a = k := by omega
      have HR4 := Lib.hid hR4; clear hR4
      obtain ⟨q, hq, hqs⟩ := HS_.out.sup i (by rw [HL.out]; omega)
      have hqa : q < a := by rw [HAT.out]; exact hq
      have hqc := HS_.out.cell q hq
      rw [hqs, HL.out, HV.out] at hqc
      have hql : gg.ni q = l := by omega
      have hqv : gg.bi q = v := by omega
      have hfi : fC s gg q 0 = (i : Int) := by show (symN s q : Int) = i; rw [hqs]
      have hf1 : fC s gg q 1 = (v : Int) := by show (gg.bi q : Int) = v; rw [hqv]
      have hf2 : fC s gg q 2 = (l : Int) := by show (gg.ni q : Int) = l; rw [hql]
      have hne : ∀ k, k < q → fC s gg k 0 ≠ (i : Int) := fun k hk e => by
        have h2 : (symN s k : Int) = (i : Int) := e
        exact (HS_.out.ok q hq).2 k hk (by rw [hqs]; omega)
      have HNE := Lib.hid hne; have HFI := Lib.hid hfi; have HF1 := Lib.hid hf1; have HF2 := Lib.hid hf2
      clear hne hfi hf1 hf2 hqc hqs hq hql hqv
      go_wp2_with (first | (go_at_call 11; refine (code_yes HT3.out hi HL.out HV.out hl1).mono ?_; rintro e w5 ⟨rfl, hb5⟩; have HR5 := Lib.hid (HR4.out.bel hb5); have HB5 := Lib.hid (HB3.out.trans (hb5.mono HB3.out.size)); clear hb5) | (go_at_call 13; (have hfd := find_yes A3 a c3 (fC s gg) (i : Int) q w5 (by omega) HR5.out hqa HFI.out HNE.out); rw [HF1.out, HF2.out] at hfd; refine hfd.mono ?_; clear hfd; rintro e w6 ⟨rfl, hb6⟩; have HB6 := Lib.hid (HB5.out.trans (hb6.mono HB5.out.size)); clear hb6))
      go_ret
      exact ⟨rfl, HB6.out.alloc HB6.out.size _⟩
theorem huffTables_walk (cnt : Nat → Int) (s : ByteArray) (x : Int) (hc : ∀ j, j < 16 → 0 ≤ cnt j ∧ cnt j ≤ 255) (w : World) : Calls Try.prog 4 #[.agg (arrN .u8 16 cnt), .string s, .int .i64 x] w fun e w' => e = .returned (.bool true) ∧ Below w.heap.size w w' := by
  by_cases hs : s.size ≤ 300
  · cases h0 : hufNew cnt s with
    | none => exact tables_no cnt s x hs hc h0 w
    | some st =>
      by_cases hx : x < 0 ∨ 256 ≤ x
      · exact tables_out cnt s x hs hc st h0 hx w
      · obtain ⟨i, rfl⟩ : ∃ i : Nat, x = i := ⟨x.toNat, by omega⟩
        rcases codes_of h0 i with hA | ⟨l, v, hA, hl⟩
        · exact tables_zero cnt s i hs hc st h0 i (by omega) rfl hA w
        · exact tables_code cnt s i hs hc st h0 i l v (by omega) rfl hA.1 hA.2.1 hA.2.2.1 w
  · exact tables_long cnt s x (by omega) w

namespace lawHuffTables
open Go.ChangeShapes Go.WideShapes Go.ChangeAt Go.RowKit
open Go.ChangeMaps (open_string shut_string)
theorem own : ownKnob Try.prog.godebug = none := by kernel_rfl
theorem laidOut : laidOutB Try.prog = true := by kernel_rfl

set_option maxRecDepth 100000 in
theorem lifted (os : Os) (started : os.Started) (H : Type) (enc : TypeId × Value → H) :
    ReturnsInHanded {} Try.checked os 4 .any (Rows.huffTablesSpec.pre6 enc Try.prog Try.f4 Rows.huffTablesRow.domain false) (Rows.huffTablesSpec.post enc Try.prog Try.f4 false true false false) := by
  refine returnsInHanded_of_change_sized (C := Try.checked) own started (by kernel_rfl) Try.func4
    (ChangeSpec.witness6 (enc := enc) (C := Try.checked) false ⟨#[], #[.agg #[.int .u8 0, .int .u8 0, .int .u8 0, .int .u8 0, .int .u8 0, .int .u8 0, .int .u8 0, .int .u8 0, .int .u8 0, .int .u8 0, .int .u8 0, .int .u8 0, .int .u8 0, .int .u8 0, .int .u8 0, .int .u8 0], .string ⟨#[]⟩, .int .i64 0], []⟩ 8 (by kernel_rfl) (by kernel_rfl) (by kernel_rfl) (by kernel_rfl)) ?_
  intro W base args ds gs before hval0 hW hcnd hsz0 _
  have hsz : (DataW.weightsEach Try.prog (Try.f4.params.toList ++ Rows.huffTablesSpec.plain.varTypes Try.prog) (ds ++ gs)).all (· ≤ reachBytes) = true := hsz0
  have hval : ∀ (j : Nat) t v, Try.f4.params[j]? = some t → args[j]? = some v → Value.okWide Try.prog W .any base t v := hval0
  have hW' := hW
  obtain ⟨p, q, hA0, hV, hbefore, hfz, hnd⟩ := hW
  obtain ⟨rfl, rfl⟩ := trodVars_none hV
  have hA : DataW.TrodAll enc Try.prog W 0 (fun _ => true) true Try.f4.params.toList args.toList ds p := hA0
  rw [Try.params4] at hA hval hsz
  obtain ⟨v0, vs1, d0, ds1, p0, q0, hargs, rfl, hps, h0, r0⟩ := trodAll_cons hA
  obtain ⟨v1, vs2, d1, ds2, p1, q1, rfl, rfl, rfl, h1, r1⟩ := trodAll_cons r0
  obtain ⟨v2, vs3, d2, ds3, p2, q2, rfl, rfl, rfl, h2, r2⟩ := trodAll_cons r1
  obtain ⟨rfl, rfl, rfl⟩ := trodAll_nil r2
  obtain rfl : args = #[v0, v1, v2] := by cases args; simp_all
  have o0 := hval 0 22 v0 rfl rfl
  have o1 := hval 1 9 v1 rfl rfl
  have o2 := hval 2 3 v2 rfl rfl
  clear hA0 hval0
  obtain ⟨cnt, rfl, wc⟩ := open_arrN Try.underlying22 Try.underlying5 (by kernel_rfl) (by kernel_rfl) o0 h0
  obtain ⟨s, rfl, rfl, rfl, ws⟩ := open_string Try.underlying9 o1 h1
  obtain ⟨x, rfl, rfl, rfl, wx⟩ := open_int Try.underlying3 o2 h2
  refine (huffTables_walk cnt s x (fun j hj => u8_rng (wc j hj)) W).mono fun e W' ⟨he, hb⟩ => ?_
  subst he
  exact ⟨_, rfl, law_post laidOut (by rw [Try.params4]; intro t ht; simp only [List.mem_cons, List.not_mem_nil, or_false] at ht; rcases ht with rfl | rfl | rfl <;> exact ⟨by kernel_rfl, of_decide_eq_true (by kernel_rfl)⟩) (by kernel_rfl) Try.underlying4 hW' rfl rfl hb⟩
theorem said : Rows.HuffTablesSaid :=
  OpenClaim.holds_of_wide 4 Try.f4 rfl rfl rfl rfl rfl rfl rfl ⟨rfl, rfl, rfl, rfl, rfl⟩ rfl rfl rfl rfl rfl (by kernel_rfl) Try.func4 (by kernel_rfl)
    (of_decide_eq_true (by kernel_rfl)) (by unfold Func.isWrapper; first | (rw [if_pos (by decide +kernel)]; kernel_rfl) | (rw [if_neg (by decide +kernel)]; exact ⟨rfl, rfl⟩))
    (fun os started H enc _ => lifted os started H enc)
#print axioms said
end lawHuffTables
end Go.Proofs.Ytaofponadaifiaa
