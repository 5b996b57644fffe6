/- Any code and any body are the document's segment, or refused as it says. No condition but the card's own: the table holds what the program's text lays. -/
import Derived.Test.YtdohhhkondokkaaDoorSegE
import Derived.Test.YtdohhhkondokkaaDoorSegD
import Derived.Test.YtdohhhkondokkaaDoorSegH
import Derived.Test.YtdohhhkondokkaaDoorSegY
import Derived.Test.YtdohhhkondokkaaDoorSegV
import Derived.Test.YtdohhhkondokkaaDoorRsF
import Derived.Test.YtdohhhkondokkaaDoorCards
import Derived.Test.YtdohhhkondokkaaDoorTie
import Derived.Deep.DeepHandedRow
import Derived.Lib.LaidTab
namespace Go.Proofs.YtdohhhkondokkaaDoor
open Go.RowKit
set_option linter.unusedSimpArgs false
set_option linter.unusedVariables false
set_option maxHeartbeats 1000000 in
theorem parse_rst (s : ByteArray) (hs : s.size = 2) (w : World) :
    Calls Tryd.prog 9 #[.int .i64 221, .string s] w fun e w' => e = .returned (.tuple #[.iface 61 (.agg #[.int .i64 (numL s.data.toList)]), .int .i64 0]) ∧ Below w.heap.size w w' := by
  have hm := may_walk 221
  rw [show mayC 221 = 0 by decide] at hm
  have HM := Lib.hid hm; clear hm
  obtain ⟨y, hy⟩ : ∃ y, y = numL s.data.toList := ⟨_, rfl⟩
  have hV : nxV s 2 0 0 = y := by rw [nxV, nxE, if_pos (by omega), hy, show 0 + 2 = s.size by omega, ByteArray.extract_zero_size]
  have hE : nxE s 2 0 0 = 0 := by simp [nxE, hs]
  have hA : nxA s 2 0 = 2 := by simp [nxA, hs]
  have hN := fun w r g (hne : r ≠ g) hr hc => num_walkR 2 (by decide) (by decide) w r g 0 s 0 (by omega) (by omega) hne hr hc
  rw [hV, hE, hA] at hN
  rw [← hy]
  have HN := Lib.hid hN; clear hN hV hE hA hy
  have hlen : decide (65533 < (s.size : Int)) = false := by rw [hs]; decide
  go_enter Tryd.func9, Tryd.ntmps9
  go_wp2_with (first | (go_at_call 20; refine (HM.out _).mono ?_; rintro ex w1 ⟨rfl, rfl⟩) | (go_at_call 21; refine (new_walk s _).mono ?_; rintro ex w2 ⟨rfl, hc, hb, hlt⟩; have HC := Lib.hid hc; have HB := Lib.hid hb; have HLT := Lib.hid hlt; clear hc hb hlt) | (go_at_call 25; refine (HN.out _ _ _ (by have := HLT.out; omega) (Blk.new _ _ _) (Blk.alloc HC.out _)).mono ?_; rintro ex w3 ⟨rfl, hr3, hc3, ht3⟩; have HR3 := Lib.hid hr3; have HC3 := Lib.hid hc3; have HT3 := Lib.hid ht3; have c30 := hr3.g_; clear hr3 hc3 ht3) | (go_at_call 29; refine (left_walk _ _ 2 s (by omega) (by omega) HC3.out).mono ?_; rintro ex w4 ⟨rfl, rfl⟩) | (go_at_call 28; refine (test_walk _ _ _ 0 4 true (Blk.drew HR3.out)).mono ?_; rintro ex w5 ⟨rfl, hr5, ho5⟩; have c51 : w5.cell? ⟨w2.heap.size, 1, none⟩ = some (.int .i64 0) := Rdr.e_ hr5; have HO5 := Lib.hid ho5; clear hr5 ho5))
  go_ret2
  have h0 := HB.out.size
  have ha : Below w.heap.size w (w2.alloc (.cells #[.pointer (some ⟨w.heap.size, 0, none⟩), .int .i64 0] 87)) := HB.out.alloc h0 _
  have h3 := ha.trans (HT3.out.below (Nat.le_refl _) h0 ha.size)
  exact ⟨rfl, h3.drew.trans (HO5.out.below h0 h3.drew.size)⟩
end Go.Proofs.YtdohhhkondokkaaDoor
namespace Go.Proofs.YtdohhhkondokkaaDoor
open Go.RowKit
set_option linter.unusedSimpArgs false
set_option linter.unusedVariables false
set_option maxRecDepth 100000
theorem bodyNil_walk (b : Nat) (w : World) :
    Calls Tryd.prog 30 #[.pointer (some ⟨b, 0, none⟩), .nilIface] w fun e w' => e = .returned (.bool false) ∧ Below w.heap.size w w' := by
  go_enter Tryd.func30, Tryd.ntmps30
  go_wp2
  go_ret
  exact ⟨rfl, Below.refl _ _⟩
set_option maxHeartbeats 1000000 in
theorem bodyRst_walk (B b : Nat) (n : Int) (w : World) (h : Wtr B b [] false w) :
    Calls Tryd.prog 30 #[.pointer (some ⟨b, 0, none⟩), .iface 61 (.agg #[.int .i64 n])] w fun e w' => e = .returned (.bool true) ∧ Wtr B b (putL n 2) (putB n 2) w' ∧ Below B w w' := by
  have hBw : B ≤ w.heap.size := by rcases h with h | h <;> exact h.2.1
  have ha := h.bel ((Below.refl w.heap.size w).alloc (Nat.le_refl _) (.cells #[.int .i64 n] 61))
  have HW := Lib.hid ha
  clear h ha
  go_enter Tryd.func30, Tryd.ntmps30
  go_wp2_with (first | (go_at_call 49; refine (wnum_walk B b [] n 2 (by decide) (by decide) false _ (by simp) HW.out).mono ?_; rintro ex w2 ⟨rfl, h2, hb2, _⟩; have HW2 := Lib.hid h2; have HB2 := Lib.hid hb2; clear h2 hb2))
  go_ret
  exact ⟨rfl, by simpa using HW2.out, ((Below.refl B w).alloc hBw _).trans HB2.out⟩
theorem bytesNil_walk (w : World) :
    Calls Tryd.prog 11 #[.nilIface] w fun e w' => e = .returned (.tuple #[.string ⟨#[]⟩, .int .i64 1]) ∧ Below w.heap.size w w' := by
  go_enter Tryd.func11, Tryd.ntmps11
  go_wp2_with (first | (go_at_call 30; refine (bodyNil_walk _ _).mono ?_; rintro ex w2 ⟨rfl, hb2⟩; have HB2 := Lib.hid hb2; clear hb2))
  go_ret2
  have h1 := (Below.refl w.heap.size w).alloc (Nat.le_refl _) (.cells #[.int .i64 0] 43)
  have h2 := h1.alloc h1.size (.cells #[.pointer none, .slice none 0 0, .bool false] 101)
  exact ⟨rfl, h2.trans (HB2.out.mono h2.size)⟩
theorem bytesBare_walk (c : Int) (h : 208 ≤ c ∧ c ≤ 217) (w : World) :
    Calls Tryd.prog 11 #[.iface 43 (.agg #[.int .i64 c])] w fun e w' => e = .returned (.tuple #[.string (⟨#[255, UInt8.ofNat c.toNat]⟩), .int .i64 0]) ∧ Below w.heap.size w w' := by
  have d1 : decide (c < 208) = false := by simp; omega
  have d2 : decide (217 < c) = false := by simp; omega
  have hbl : Blk ((w.alloc (.cells #[.int .i64 c] 43)).alloc (.cells #[.int .u8 c] 5)) (w.heap.size + 1) 5 (cellsU [c]) := by
    have := Blk.new (w.alloc (.cells #[.int .i64 c] 43)) 5 #[.int .u8 c]
    rw [show (w.alloc (.cells #[.int .i64 c] 43)).heap.size = w.heap.size + 1 from World.size_alloc _ _] at this
    exact this
  have hcv := conv_U (n := 1) (c := 1) hbl rfl
  clear hbl
  go_enter Tryd.func11, Tryd.ntmps11
  go_wp2
  go_ret2
  have h1 := (Below.refl w.heap.size w).alloc (Nat.le_refl _) (.cells #[.int .i64 c] 43)
  exact ⟨rfl, h1.alloc h1.size _⟩
theorem codeRst_walk (n : Int) (w : World) : Calls Tryd.prog 77 #[.agg #[.int .i64 n]] w fun e w' => e = .returned (.int .i64 221) ∧ Below w.heap.size w w' := by
  go_enter Tryd.func77, Tryd.ntmps77
  go_wp2
  go_ret
  exact ⟨rfl, (Below.refl _ w).alloc (Nat.le_refl _) _⟩
theorem bytesRst8 (w : World) :
    Calls Tryd.prog 11 #[.iface 61 (.agg #[.int .i64 8])] w fun e w' => e = .returned (.tuple #[.string ⟨#[255, 221, 0, 4, 0, 8]⟩, .int .i64 0]) ∧ Below w.heap.size w w' := by
  have hb : BodyK w (.iface 61 (.agg #[.int .i64 8])) [0, 8] false := fun w1 hb0 h => (bodyRst_walk w.heap.size (w.heap.size + 1) 8 w1 h).mono fun _ _ ⟨a1, a2, a3⟩ => ⟨a1, a2, hb0.trans a3⟩
  have hp : ParseK w 221 [0, 8] 0 := fun w1 _ => (parse_rst ⟨#[0, 8]⟩ rfl w1).mono fun e w' ⟨h, hb⟩ => ⟨⟨_, h⟩, hb⟩
  have h := bytesOk_Restart (.agg #[.int .i64 8]) 221 [0, 8] (by decide) w hb (codeRst_walk 8) hp
  have e : (⟨(putL (bits .or .i64 65280 221) 2).toArray⟩ ++ ⟨(putL (([0, 8] : List UInt8).length + 2 : Nat) 2).toArray⟩ ++ ⟨([0, 8] : List UInt8).toArray⟩ : ByteArray) = ⟨#[255, 221, 0, 4, 0, 8]⟩ := by decide +kernel
  rw [e] at h
  exact h
theorem bytesBare_no (c : Int) (h : c < 208 ∨ 217 < c) (w : World) :
    Calls Tryd.prog 11 #[.iface 43 (.agg #[.int .i64 c])] w fun e w' => e = .returned (.tuple #[.string ⟨#[]⟩, .int .i64 1]) ∧ Below w.heap.size w w' := by
  by_cases h1 : c < 208
  · have d1 : decide (c < 208) = true := by simpa using h1
    go_enter Tryd.func11, Tryd.ntmps11
    go_wp2
    go_ret2
    exact ⟨rfl, (Below.refl _ w).alloc (Nat.le_refl _) _⟩
  · have d1 : decide (c < 208) = false := by simpa using h1
    have d2 : decide (217 < c) = true := by simp; omega
    go_enter Tryd.func11, Tryd.ntmps11
    go_wp2
    go_ret2
    exact ⟨rfl, (Below.refl _ w).alloc (Nat.le_refl _) _⟩
theorem segAwake (w : World) : Calls Tryd.prog 10 #[] w fun e w' => e = .returned (.bool true) ∧ Below w.heap.size w w' := by
  go_enter Tryd.func10, Tryd.ntmps10
  go_wp2_with (first | (go_at_call 9; refine (parse_rst ⟨#[0, 8]⟩ rfl _).mono ?_; rintro e w1 ⟨rfl, hb1⟩; have HB1 := Lib.hid hb1; clear hb1; rw [show numL (⟨#[0, 8]⟩ : ByteArray).data.toList = 8 by decide]) | (go_at_call 11; refine (bytesRst8 _).mono ?_; rintro e w2 ⟨rfl, hb2⟩; have HB2 := Lib.hid hb2; clear hb2))
  go_ret
  exact ⟨rfl, HB1.out.trans (HB2.out.mono HB1.out.size)⟩
end Go.Proofs.YtdohhhkondokkaaDoor
namespace Go.Proofs.YtdohhhkondokkaaDoor
open Go.RowKit
set_option linter.unusedSimpArgs false
set_option linter.unusedVariables false
set_option maxRecDepth 100000
theorem RgV.r {w : World} {base : Nat} {cs : Array Value} {x : Sg} (h : RgV w base cs x) : RgR w cs x := by
  cases x with
  | plain c b => exact h
  | quants l => obtain ⟨u, rfl, h2⟩ := h; obtain ⟨A, cp, rfl, _⟩ := h2.form; exact ⟨A, cp, rfl, h2.rd Qt.is⟩
  | huffs l => obtain ⟨u, rfl, h2⟩ := h; obtain ⟨A, cp, rfl, _⟩ := h2.form; exact ⟨A, cp, rfl, h2.rd Hf.is⟩
  | frame c hh ww l => obtain ⟨u, rfl, h2⟩ := h; obtain ⟨A, cp, rfl, _⟩ := h2.form; exact ⟨A, cp, rfl, h2.rd Pt.is⟩
  | scan l a b hi lo => obtain ⟨u, rfl, h2⟩ := h; obtain ⟨A, cp, rfl, _⟩ := h2.form; exact ⟨A, cp, rfl, h2.rd Pk.is⟩
  | rst n => exact h
theorem blk_range {w : World} {g : Nat} {t : TypeId} {cs : Array Value} (h : Blk w g t cs) : w.rangeAt g 0 cs.toList := fun j v hv => by rw [Nat.zero_add, h.cell]; simpa using hv
theorem RgR.one {w : World} {cs : Array Value} {x : Sg} (h : RgR w cs x) : cs.all (·.oneCell') = true := by
  cases x with
  | plain c b => subst h; exact sc_one _ _ _ _ _ _ _ _ _ _ _ _ _ rfl rfl rfl rfl
  | quants l => obtain ⟨A, cp, rfl, _⟩ := h; exact sc_one _ _ _ _ _ _ _ _ _ _ _ _ _ rfl rfl rfl rfl
  | huffs l => obtain ⟨A, cp, rfl, _⟩ := h; exact sc_one _ _ _ _ _ _ _ _ _ _ _ _ _ rfl rfl rfl rfl
  | frame c hh ww l => obtain ⟨A, cp, rfl, _⟩ := h; exact sc_one _ _ _ _ _ _ _ _ _ _ _ _ _ rfl rfl rfl rfl
  | scan l a b hi lo => obtain ⟨A, cp, rfl, _⟩ := h; exact sc_one _ _ _ _ _ _ _ _ _ _ _ _ _ rfl rfl rfl rfl
  | rst n => subst h; exact sc_one _ _ _ _ _ _ _ _ _ _ _ _ _ rfl rfl rfl rfl
set_option maxHeartbeats 1000000 in
theorem parses_ok (c : Int) (s : ByteArray) (w : World) (G : Sg) (hx : G.ok) (hg : sgB G = false)
    (hp : Calls Tryd.prog 9 #[.int .i64 c, .string s] w fun e w' => ∃ v, e = .returned (.tuple #[v, .int .i64 0]) ∧ SgR w' v G ∧ Below w.heap.size w w')
    (hr : ∀ w1, Calls Tryd.prog 12 #[.int .i64 c, .string s] w1 fun e w' => ∃ cs, e = .returned (.tuple #[.agg cs, .int .i64 0]) ∧ cs.size = 13 ∧ RgR w' cs G ∧ Below w1.heap.size w1 w') :
    Calls Tryd.prog 4 #[.int .i64 c, .string s] w fun e w' => e = .returned (.bool true) ∧ Below w.heap.size w w' := by
  have HP := Lib.hid hp; have HR := Lib.hid hr; have HX := Lib.hid hx; have HG := Lib.hid hg; clear hp hr hx hg
  go_enter Tryd.func4, Tryd.ntmps4
  go_upto_region 2 with (go_at_call 9; refine (HP.out).mono ?_; rintro ex w1 ⟨v, rfl, hv, hb1⟩; have HV := Lib.hid hv; have HB1 := Lib.hid hb1; clear hv hb1)
  go_cut [7, 8] (fun a b wx => ∃ g cs, a = .pointer (some ⟨g, 0, none⟩) ∧ b = .int .i64 0 ∧ cs.size = 13 ∧ Hid (RgR wx cs G ∧ SgR wx v G ∧ Blk wx g 38 cs ∧ Below w.heap.size w wx))
  case first =>
    go_wp2_with (first | (go_at_call 12; refine (HR.out _).mono ?_; rintro ex w2 ⟨cs, rfl, hz, hr, hb2⟩; have HZ := Lib.hid hz; have H1 := Lib.hid hr.one; have HRG := Lib.hid hr; have HB2 := Lib.hid hb2; clear hz hr hb2) | (refine wpList_store_new rfl 38 (.tmp 7) _ rfl cs _ 38 rfl rfl (by rw [HZ.out]; kernel_rfl) (by rw [HZ.out]; rfl) H1.out ?_; intro w5 hs5 hB5 hb5; have HK5 := Lib.hid hB5; have HB5 := Lib.hid hb5; clear hs5 hB5 hb5))
    go_meet
    case rel => exact ⟨w2.heap.size, cs, rfl, rfl, HZ.out, Lib.hid ⟨HRG.out.bel HB5.out, (HV.out.bel HB2.out).bel HB5.out, HK5.out, (HB1.out.trans (HB2.out.mono HB1.out.size)).trans (HB5.out.mono (Nat.le_trans HB1.out.size HB2.out.size))⟩⟩
  case rest =>
  obtain ⟨g, cs, rfl, rfl, hz, HI⟩ := hcut
  obtain ⟨w5, rfl⟩ : ∃ w5, w5 = wc := ⟨_, rfl⟩
  have HZ := Lib.hid hz; clear hz HV HB1
  go_wp2_with (first | (go_at_call 10; refine (segAwake _).mono ?_; rintro ex w6 ⟨rfl, hb6⟩; have HB6 := Lib.hid hb6; have HK6 := Lib.hid (HI.out.2.2.1.bel hb6); clear hb6) | (refine wpList_load_midG (by rfl) 38 (.tmp 7) rfl g 0 rfl cs.toList _ (blk_range HK6.out) Tryd.underlying38 rfl (by rw [Array.length_toList, HZ.out]; kernel_rfl) ?_; rw [Array.toArray_toList]) | (go_at_call 13; refine (same_any (HI.out.2.1.bel HB6.out) (HI.out.1.bel HB6.out) HX.out HG.out).mono ?_; rintro ex w7 ⟨rfl, hb7⟩; have HB7 := Lib.hid hb7; clear hb7))
  go_ret
  exact ⟨rfl, (HI.out.2.2.2.trans (HB6.out.mono HI.out.2.2.2.size)).trans (HB7.out.mono (Nat.le_trans HI.out.2.2.2.size HB6.out.size))⟩
set_option maxHeartbeats 1000000 in
theorem segParses_walk (c : Int) (s : ByteArray) (w : World) (hL : Laid w) : Calls Tryd.prog 4 #[.int .i64 c, .string s] w fun e w' => e = .returned (.bool true) ∧ Below w.heap.size w w' := by
  by_cases he : prE c s = 0
  · obtain ⟨_, _, b3, b4, _⟩ := parse_back he
    exact parses_ok c s w (prG c s) b4 b3 ((parse_walk c s w hL).mono (by rintro e w' ⟨v, rfl, hv, _, hb⟩; exact ⟨v, by rw [he], (hv he).r, hb⟩))
      (fun w1 => (refParse_walk c s w1).mono (by rintro e w' ⟨cs, rfl, hz, _, hv, hb⟩; exact ⟨cs, by rw [he], hz, (hv he).r, hb⟩))
  · have hp2 := Lib.hid ((parse_walk c s w hL).mono (R' := fun e w' => e = .returned (.tuple #[.nilIface, .int .i64 (prE c s)]) ∧ Below w.heap.size w w') (by
      rintro e w' ⟨v, rfl, _, hv, hb⟩
      exact ⟨by rw [hv he], hb⟩))
    have hr2 := Lib.hid (fun w1 => (refParse_walk c s w1).mono (R' := fun e w' => ∃ cs, e = .returned (.tuple #[.agg cs, .int .i64 (prE c s)]) ∧ cs.size = 13 ∧ cs.all (·.oneCell') = true ∧ Below w1.heap.size w1 w') (by
      rintro e w' ⟨cs, rfl, hz, ho, _, hb⟩
      exact ⟨cs, rfl, hz, ho, hb⟩))
    obtain ⟨er, her⟩ : ∃ er, er = prE c s := ⟨_, rfl⟩
    rw [← her] at hp2 hr2 he
    have d1 : (er == 0) = false := by simpa using he
    have d2 : (er != 0) = true := by simpa using he
    clear her he
    go_enter Tryd.func4, Tryd.ntmps4
    go_wp2_with (first | (go_at_call 9; refine (hp2.out).mono ?_; rintro ex w1 ⟨rfl, hb1⟩; have HB1 := Lib.hid hb1; clear hb1) | (go_at_call 12; refine (hr2.out _).mono ?_; rintro ex w2 ⟨cs, rfl, hz, ho, hb2⟩; have HZ := Lib.hid hz; have H1 := Lib.hid ho; have HB2 := Lib.hid (HB1.out.trans (hb2.mono HB1.out.size)); clear hz ho hb2) | (refine wpList_store_new rfl 38 (.tmp 7) _ rfl cs _ 38 rfl rfl (by rw [HZ.out]; kernel_rfl) (by rw [HZ.out]; rfl) H1.out ?_; intro w5 hs5 hB5 hb5; have HB5 := Lib.hid (HB2.out.trans (hb5.mono HB2.out.size)); clear hs5 hB5 hb5) | (go_at_call 10; refine (segAwake _).mono ?_; rintro ex w6 ⟨rfl, hb6⟩; have HB6 := Lib.hid (HB5.out.trans (hb6.mono HB5.out.size)); clear hb6))
    go_ret
    exact ⟨rfl, HB6.out⟩
namespace lawSegParses
open Go.ChangeShapes Go.WideShapes Go.ChangeAt Go.RowKit
theorem own : ownKnob Tryd.prog.godebug = none := by kernel_rfl
theorem laidOut : laidOutB Tryd.prog = true := by kernel_rfl
theorem gTab0 : Tryd.prog.globalNamed "aquatint/zig.order" = some 0 := by kernel_rfl
theorem gTabType0 : (Tryd.prog.globals[0]?).map (·.type) = some 136 := by kernel_rfl
theorem cellsT : Tryd.prog.cellsOf 136 = 64 := by kernel_rfl
theorem cellsE : Tryd.prog.cellsOf 3 = 1 := by kernel_rfl
theorem table {W : World} (h : laidMetH Tryd.prog Rows.segParsesRow.laid W) : Lib.TabIs Tryd.prog W "aquatint/zig.order" .i64 (ordL.map fun (n : Nat) => (n : Int)) :=
  Lib.tabIs_of_head (rest := []) gTab0 gTabType0 Tryd.underlying136 Tryd.underlying3 cellsE cellsT h
theorem laid_of {W : World} (h : laidMetH Tryd.prog Rows.segParsesRow.laid W) : Laid W := by
  have H : ∀ k, k < 64 → W.cell? ⟨0, k, none⟩ = some (.int .i64 (ord k)) := fun k hk => by
    have h1 := (table h).cell gTab0 k (by simpa [ordL] using hk)
    rw [h1]
    have h2 : ord k = ordL[k]'(by simpa [ordL] using hk) := by
      unfold ord
      rw [List.getD_eq_getElem?_getD, List.getElem?_eq_getElem (by simpa [ordL] using hk)]
      rfl
    rw [h2, List.getD_eq_getElem?_getD, List.getElem?_map, List.getElem?_eq_getElem (by simpa [ordL] using hk)]
    rfl
  exact ⟨block_lt_of_cell (H 0 (by omega)), H⟩
open Go.ChangeMaps (open_string shut_string)
theorem contract (H : Type) (enc : TypeId × Value → H) (W : World) (base : Nat) (args : Array Value) (ds gs : List (DataW H)) (before : List MemPlace)
    (hval : ∀ (j : Nat) t v, Tryd.f4.params[j]? = some t → args[j]? = some v → Value.okWide Tryd.prog W .any base t v)
    (hW : DataW.Whole enc Tryd.prog Tryd.f4.params.toList Rows.segParsesSpec.vars false W args.toList ds gs before) (hL : laidMetH Tryd.prog Rows.segParsesRow.laid W) (_hsz : (DataW.weightsEach Tryd.prog (Tryd.f4.params.toList ++ (OpenSpec.ofChange Rows.segParsesSpec).bare.plain.varTypes Tryd.prog) (ds ++ gs)).all (· ≤ reachBytes) = true) :
    Calls Tryd.prog 4 args W fun e W' => ∃ v, e = .returned v ∧ Rows.segParsesSpec.post enc Tryd.prog Tryd.f4 false true false false W args v W' := by
  have hW' := hW
  obtain ⟨p, q, hA0, hV, hbefore, hfz, hnd⟩ := hW
  obtain ⟨rfl, rfl⟩ := trodVars_none hV
  have hA : DataW.TrodAll enc Tryd.prog W 0 (fun _ => true) true Tryd.f4.params.toList args.toList ds p := hA0
  rw [Tryd.params4] at hA hval
  obtain ⟨v0, vs1, d0, ds1, p0, q0, hargs, rfl, hps, h0, r0⟩ := trodAll_cons hA
  obtain ⟨v1, vs2, d1, ds2, p1, q1, rfl, rfl, rfl, h1, r1⟩ := trodAll_cons r0
  obtain ⟨rfl, rfl, rfl⟩ := trodAll_nil r1
  obtain rfl : args = #[v0, v1] := by cases args; simp_all
  have o0 := hval 0 3 v0 rfl rfl
  have o1 := hval 1 9 v1 rfl rfl
  clear hA0
  obtain ⟨x, rfl, rfl, rfl, wx⟩ := open_int Tryd.underlying3 o0 h0
  obtain ⟨y, rfl, rfl, rfl, wy⟩ := open_string Tryd.underlying9 o1 h1
  refine (segParses_walk x y W (laid_of hL)).mono fun e W' ⟨he, hb⟩ => ?_
  subst he
  exact ⟨_, rfl, law_post laidOut (by rw [Tryd.params4]; intro t ht; simp only [List.mem_cons, List.not_mem_nil, or_false] at ht; rcases ht with rfl | rfl <;> exact ⟨by kernel_rfl, of_decide_eq_true (by kernel_rfl)⟩) (by kernel_rfl) Tryd.underlying4 hW' rfl rfl hb⟩
theorem gTab : Tryd.prog.globalNamed "aquatint/zig.order" = some 0 := by kernel_rfl
theorem gTabType : (Tryd.prog.globals[0]?).map (·.type) = some 136 := by kernel_rfl
/-- A world for the witness: the settled one, the table holding what its initialiser lays. -/
noncomputable def laidWorld (os : Os) : World :=
  { World.holding Tryd.prog os ⟨#[], #[], []⟩ with heap := (World.holding Tryd.prog os ⟨#[], #[], []⟩).heap.modify 0 fun
      | .cells _ t frozen => .cells #[.int .i64 0, .int .i64 1, .int .i64 8, .int .i64 16, .int .i64 9, .int .i64 2, .int .i64 3, .int .i64 10, .int .i64 17, .int .i64 24, .int .i64 32, .int .i64 25, .int .i64 18, .int .i64 11, .int .i64 4, .int .i64 5, .int .i64 12, .int .i64 19, .int .i64 26, .int .i64 33, .int .i64 40, .int .i64 48, .int .i64 41, .int .i64 34, .int .i64 27, .int .i64 20, .int .i64 13, .int .i64 6, .int .i64 7, .int .i64 14, .int .i64 21, .int .i64 28, .int .i64 35, .int .i64 42, .int .i64 49, .int .i64 56, .int .i64 57, .int .i64 50, .int .i64 43, .int .i64 36, .int .i64 29, .int .i64 22, .int .i64 15, .int .i64 23, .int .i64 30, .int .i64 37, .int .i64 44, .int .i64 51, .int .i64 58, .int .i64 59, .int .i64 52, .int .i64 45, .int .i64 38, .int .i64 31, .int .i64 39, .int .i64 46, .int .i64 53, .int .i64 60, .int .i64 61, .int .i64 54, .int .i64 47, .int .i64 55, .int .i64 62, .int .i64 63] t frozen
      | o => o }
theorem laid_met (os : Os) : laidMet Tryd.prog Rows.segParsesRow.laid ((laidWorld os).forCall (fun _ _ => 0) ⟨#[], #[Value.int .i64 0, Value.string ⟨#[]⟩], []⟩).memory :=
  laidMet_of_run' 8 (by kernel_rfl) (by kernel_rfl)
theorem reads (os : Os) {H : Type} (enc : TypeId × Value → H) : ∃ places, DataW.whole enc Tryd.prog ((laidWorld os).forCall (fun _ _ => 0) ⟨#[], #[Value.int .i64 0, Value.string ⟨#[]⟩], []⟩).memory Tryd.f4.params.toList Rows.segParsesSpec.vars false #[Value.int .i64 0, Value.string ⟨#[]⟩].toList 8 = some ([.lit (.int .i64 0), .lit (.string [])], [], places) :=
  ⟨[], by kernel_rfl⟩
set_option maxRecDepth 100000 in
theorem lifted (os : Os) (started : os.Started) (H : Type) (enc : TypeId × Value → H) (F : Stop.Interp) :
    ReturnsInHanded {} Tryd.checked os 4 .any ((OpenSpec.ofChange Rows.segParsesSpec).preRow enc Tryd.prog Tryd.f4 Rows.segParsesRow.domain false Rows.segParsesRow.laid) (((OpenSpec.ofChange Rows.segParsesSpec).at F).post enc Tryd.prog Tryd.f4 false true false false) := by
  obtain ⟨places, hx⟩ := reads os enc
  refine returnsInHanded_of_row (C := Tryd.checked) (s := (OpenSpec.ofChange Rows.segParsesSpec)) own started (by kernel_rfl) Tryd.func4
    (witness_row_at (enc := enc) (C := Tryd.checked) false (laidWorld os) #[Value.int .i64 0, Value.string ⟨#[]⟩] rfl (by kernel_rfl) (by kernel_rfl) (by kernel_rfl)
      (OpenSpec.preRow_of_cond 8 hx (by kernel_rfl) (fun k hk => by cases hk) (by kernel_rfl) (laid_met os))) ?_
  intro W base args ds gs before hval hW _ _ hsz hL _ _
  exact contract H enc W base args ds gs before hval hW hL hsz
theorem said : Rows.SegParsesSaid :=
  OpenClaim.holds_of_cond 4 Tryd.f4 rfl rfl rfl rfl rfl rfl rfl ⟨rfl, rfl, rfl, rfl, rfl⟩ rfl rfl rfl rfl rfl (by kernel_rfl) Tryd.func4 (by kernel_rfl)
    (of_decide_eq_true (by kernel_rfl)) (by unfold Func.isWrapper; first | (rw [if_pos (by decide +kernel)]; kernel_rfl) | (rw [if_neg (by decide +kernel)]; exact ⟨rfl, rfl⟩))
    (fun os started H enc _ F => by rw [OpenClaim.pre_eq_preRow]; exact lifted os started H enc F)
theorem plain (f : FuncId) (fn : Func) (hf : Tryd.pinned.checked.prog.funcNamed "aquatint/aquatintlaw07.SegParses" = some f) (hfn : Tryd.pinned.checked.prog.funcs[f]? = some fn) :
    true = Tryd.pinned.checked.prog.looks [] ∧ ∀ (j : Nat) t, fn.params[j]? = some t → Tryd.pinned.checked.prog.wantsStandIn t = false := by
  obtain rfl : f = 4 := Option.some.inj ((show Tryd.prog.funcNamed "aquatint/aquatintlaw07.SegParses" = some 4 by kernel_rfl).symm.trans hf) |>.symm
  obtain rfl : fn = Tryd.f4 := (Option.some.inj (Tryd.func4.symm.trans hfn)).symm
  refine ⟨by kernel_rfl, fun j t ht => ?_⟩
  rw [Tryd.params4] at ht
  have hm := Array.mem_of_getElem? ht
  simp only [List.mem_toArray, List.mem_cons, List.not_mem_nil, or_false] at hm
  rcases hm with rfl | rfl
  · exact (show Tryd.prog.wantsStandIn 3 = false by kernel_rfl)
  · exact (show Tryd.prog.wantsStandIn 9 = false by kernel_rfl)
/-- The card. -/
theorem card : Rows.SegParsesCardSaid :=
  Claim7.holds_tied_plain_at .later [] _ _ _ _ said (fun _ h => by cases h) (by kernel_rfl) (fun _ h => by cases h) segParses_row_tie rfl ⟨rfl, rfl⟩ (by kernel_rfl) rfl plain (by kernel_rfl)
#print axioms card
end lawSegParses
end Go.Proofs.YtdohhhkondokkaaDoor
