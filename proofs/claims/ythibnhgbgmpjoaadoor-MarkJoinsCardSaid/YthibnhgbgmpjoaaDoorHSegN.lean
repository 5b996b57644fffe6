/- Parse. No condition but the laid table. -/
import Derived.Test.YthibnhgbgmpjoaaDoorHSegK
import Derived.Test.YthibnhgbgmpjoaaDoorHSegM
namespace Go.Proofs.YthibnhgbgmpjoaaDoor
open Go.RowKit
set_option linter.unusedSimpArgs false
set_option linter.unusedVariables false
set_option maxRecDepth 100000
/-- A segment. -/
inductive Sg
  | plain (c : Int) (b : ByteArray)
  | quants (l : List Qt)
  | huffs (l : List Hf)
  | frame (c h w : Int) (l : List Pt)
  | scan (l : List Pk) (a b hi lo : Int)
  | rst (n : Int)
/-- A segment as the program has it. -/
def SgV (w : World) (base : Nat) (v : Value) : Sg → Prop
  | .plain c b => v = .iface 97 (.agg #[.int .i64 c, .string b])
  | .quants l => ∃ u, v = .iface 115 (.agg #[u]) ∧ OwnC Qt.cells 66 w base 136 u l
  | .huffs l => ∃ u, v = .iface 119 (.agg #[u]) ∧ OwnC Hf.cells 19 w base 140 u l
  | .frame c h ww l => ∃ u, v = .iface 123 (.agg #[.int .i64 c, .int .i64 h, .int .i64 ww, u]) ∧ OwnC Pt.cells 4 w base 150 u l
  | .scan l a b hi lo => ∃ u, v = .iface 105 (.agg #[u, .int .i64 a, .int .i64 b, .int .i64 hi, .int .i64 lo]) ∧ OwnC Pk.cells 3 w base 146 u l
  | .rst n => v = .iface 94 (.agg #[.int .i64 n])
theorem SgV.keep {w w' : World} {base : Nat} {v : Value} {x : Sg} (h : SgV w base v x) (hk : ∀ e, e = 136 ∨ e = 140 ∨ e = 150 ∨ e = 146 → ∀ g cs, Blk w g e cs → Blk w' g e cs) : SgV w' base v x := by
  cases x with
  | plain c b => exact h
  | quants l => obtain ⟨u, h1, h2⟩ := h; exact ⟨u, h1, h2.keep (hk _ (by simp))⟩
  | huffs l => obtain ⟨u, h1, h2⟩ := h; exact ⟨u, h1, h2.keep (hk _ (by simp))⟩
  | frame c hh ww l => obtain ⟨u, h1, h2⟩ := h; exact ⟨u, h1, h2.keep (hk _ (by simp))⟩
  | scan l a b hi lo => obtain ⟨u, h1, h2⟩ := h; exact ⟨u, h1, h2.keep (hk _ (by simp))⟩
  | rst n => exact h
theorem SgV.bel {w w' : World} {base : Nat} {v : Value} {x : Sg} (h : SgV w base v x) (hb : Below w.heap.size w w') : SgV w' base v x := h.keep fun _ _ _ _ hB => hB.bel hb
theorem SgV.mono {w : World} {b b' : Nat} {v : Value} {x : Sg} (h : SgV w b v x) (hb : b' ≤ b) : SgV w b' v x := by
  cases x with
  | plain c b => exact h
  | quants l => obtain ⟨u, h1, h2⟩ := h; exact ⟨u, h1, h2.mono hb⟩
  | huffs l => obtain ⟨u, h1, h2⟩ := h; exact ⟨u, h1, h2.mono hb⟩
  | frame c hh ww l => obtain ⟨u, h1, h2⟩ := h; exact ⟨u, h1, h2.mono hb⟩
  | scan l a b hi lo => obtain ⟨u, h1, h2⟩ := h; exact ⟨u, h1, h2.mono hb⟩
  | rst n => exact h
def st0 : St := ⟨0, 0⟩
/-- What a body of a code that may be is read as, and where the reader then is. -/
def prS (c : Int) (s : ByteArray) : St × Sg :=
  if c = 219 then ((quR s st0).1, .quants (quR s st0).2)
  else if c = 196 then ((huR s st0).1, .huffs (huR s st0).2)
  else if c = 218 then ((scR s st0).t, .scan (scR s st0).l (scR s st0).a (scR s st0).b (scR s st0).hi (scR s st0).lo)
  else if c = 221 then (nS s 2 st0, .rst (nV s 2 st0))
  else if c ≤ 194 then ((frR s st0).t, .frame c (frR s st0).h (frR s st0).w (frR s st0).l)
  else (⟨s.size, 0⟩, .plain c s)
def prE (c : Int) (s : ByteArray) : Int :=
  if mayC c ≠ 0 then mayC c else if 65533 < s.size then 4 else (tS (prS c s).1 (decide ((prS c s).1.a = s.size)) 4).e
def prG (c : Int) (s : ByteArray) : Sg := (prS c s).2
theorem prE_may {c : Int} {s : ByteArray} (h : prE c s = 0) : mayC c = 0 ∧ s.size ≤ 65533 := by
  unfold prE at h
  by_cases hm : mayC c = 0
  · refine ⟨hm, ?_⟩
    rw [if_neg (by simpa using hm)] at h
    by_cases hs : 65533 < s.size
    · rw [if_pos hs] at h; omega
    · omega
  · rw [if_pos hm] at h; exact absurd h hm
theorem mayC_zero {c : Int} (h : mayC c = 0) : (192 ≤ c ∧ c ≤ 194) ∨ c = 196 ∨ c = 218 ∨ c = 219 ∨ c = 221 ∨ (224 ≤ c ∧ c ≤ 239) ∨ c = 254 := by
  unfold mayC at h
  (repeat' split at h) <;> omega
theorem prG_cases {c : Int} {s : ByteArray} (h : prE c s = 0) :
    (c = 219 ∧ ∃ l, prG c s = .quants l) ∨ (c = 196 ∧ ∃ l, prG c s = .huffs l) ∨ (c = 218 ∧ ∃ l a b hi lo, prG c s = .scan l a b hi lo) ∨ (c = 221 ∧ ∃ n, prG c s = .rst n) ∨ (192 ≤ c ∧ c ≤ 194 ∧ ∃ h w l, prG c s = .frame c h w l) ∨ (224 ≤ c ∧ c ≤ 254 ∧ prG c s = .plain c s) := by
  have hm := mayC_zero (prE_may h).1
  unfold prG prS
  rcases hm with hm | rfl | rfl | rfl | rfl | hm | rfl
  · exact .inr (.inr (.inr (.inr (.inl ⟨hm.1, hm.2, by rw [if_neg (by omega), if_neg (by omega), if_neg (by omega), if_neg (by omega), if_pos hm.2]; exact ⟨_, _, _, rfl⟩⟩))))
  · exact .inr (.inl ⟨rfl, _, rfl⟩)
  · exact .inr (.inr (.inl ⟨rfl, _, _, _, _, _, rfl⟩))
  · exact .inl ⟨rfl, _, rfl⟩
  · exact .inr (.inr (.inr (.inl ⟨rfl, _, rfl⟩)))
  · exact .inr (.inr (.inr (.inr (.inr ⟨hm.1, by omega, by rw [if_neg (by omega), if_neg (by omega), if_neg (by omega), if_neg (by omega), if_neg (by omega)]⟩))))
  · exact .inr (.inr (.inr (.inr (.inr ⟨by omega, by omega, rfl⟩))))
def ParsePost (w : World) (c : Int) (s : ByteArray) (e : Ending) (w' : World) : Prop :=
  ∃ v, e = .returned (.tuple #[v, .int .i64 (prE c s)]) ∧ (prE c s = 0 → SgV w' w.heap.size v (prG c s)) ∧ (prE c s ≠ 0 → v = .nilIface) ∧ Below w.heap.size w w'
theorem Two.bel0 {g r : Nat} {w0 w w' : World} (h : Two g r w w') (hg : w0.heap.size ≤ g) (hr : w0.heap.size ≤ r) (hb : Below w0.heap.size w0 w) : Below w0.heap.size w0 w' := hb.trans (h.below hg hr hb.size)
set_option maxHeartbeats 4000000 in
theorem parse_walk (c : Int) (s : ByteArray) (w : World) (hL : Laid w) :
    Calls Tryd.prog 14 #[.int .i64 c, .string s] w (ParsePost w c s) := by
  have HL := Lib.hid hL; clear hL
  have HM := Lib.hid (fun w' => may_walk c w')
  by_cases hm : mayC c = 0
  case neg =>
    have hE : prE c s = mayC c := by unfold prE; rw [if_pos hm]
    obtain ⟨m, hmm⟩ : ∃ m, m = mayC c := ⟨_, rfl⟩
    rw [← hmm] at hE HM hm
    have hd : (m == 0) = false := by simpa using hm
    have HE := Lib.hid hE; have HD := Lib.hid hm; clear hE hm hmm
    go_enter Tryd.func14, Tryd.ntmps14
    go_wp2_with (go_at_call 26; refine (HM.out _).mono ?_; rintro ex w1 ⟨rfl, rfl⟩)
    go_ret2
    exact ⟨.nilIface, by rw [HE.out]; rfl, fun h => absurd (HE.out ▸ h) HD.out, fun _ => rfl, Below.refl _ _⟩
  case pos =>
  by_cases hs : 65533 < s.size
  case pos =>
    have hE : prE c s = 4 := by unfold prE; rw [if_neg (by simpa using hm), if_pos hs]
    rw [hm] at HM
    have hd : decide (65533 < (s.size : Int)) = true := by simp; omega
    have HE := Lib.hid hE; clear hE hm hs
    go_enter Tryd.func14, Tryd.ntmps14
    go_wp2_with (go_at_call 26; refine (HM.out _).mono ?_; rintro ex w1 ⟨rfl, rfl⟩)
    go_ret2
    exact ⟨.nilIface, by rw [HE.out]; rfl, fun h => absurd (HE.out ▸ h) (by decide), fun _ => rfl, Below.refl _ _⟩
  case neg =>
  obtain ⟨E, hEE⟩ : ∃ E, E = prE c s := ⟨_, rfl⟩
  obtain ⟨G, hGG⟩ : ∃ G, G = prG c s := ⟨_, rfl⟩
  obtain ⟨T, hTT⟩ : ∃ T, T = (prS c s).1 := ⟨_, rfl⟩
  have hE : E = (tS T (decide (T.a = s.size)) 4).e := by rw [hEE, hTT]; unfold prE; rw [if_neg (by simpa using hm), if_neg hs]
  have hS : prS c s = (T, G) := by rw [hTT, hGG]; rfl
  rw [hm] at HM
  have hsz : s.size ≤ 65533 := by omega
  have hd : decide (65533 < (s.size : Int)) = false := by simp; omega
  have HE := Lib.hid hE; have HS := Lib.hid hS; have HEE := Lib.hid hEE; have HGG := Lib.hid hGG
  clear hE hS hm hs hEE hGG hTT
  go_enter Tryd.func14, Tryd.ntmps14
  go_upto_block 0 with (first | (go_at_call 26; refine (HM.out _).mono ?_; rintro ex w1 ⟨rfl, rfl⟩) | (go_at_call 27; refine (new_walk s _).mono ?_; rintro ex w2 ⟨rfl, hc, hb, hlt⟩; have HC := Lib.hid hc; have HB := Lib.hid hb; have HLT := Lib.hid hlt; clear hc hb hlt))
  have hR3 : Rd7 (w2.alloc (.cells #[.pointer (some ⟨w.heap.size, 0, none⟩), .int .i64 0] 90)) w2.heap.size w.heap.size s st0 := ⟨Blk.new _ _ _, Blk.alloc HC.out _, Nat.zero_le _, by have := HLT.out; omega, hsz⟩
  have hb3 : Below w.heap.size w (w2.alloc (.cells #[.pointer (some ⟨w.heap.size, 0, none⟩), .int .i64 0] 90)) := HB.out.alloc HB.out.size _
  have hL3 : Laid (w2.alloc (.cells #[.pointer (some ⟨w.heap.size, 0, none⟩), .int .i64 0] 90)) := HL.out.below hb3
  have hr0 : w2.heap.size ≠ 0 := by have := HL.out.1; have := HB.out.size; omega
  have hg0 : w.heap.size ≠ 0 := by have := HL.out.1; omega
  have HR3 := Lib.hid hR3; have HB3 := Lib.hid hb3; have HL3 := Lib.hid hL3; have HR0 := Lib.hid hr0; have HG0 := Lib.hid hg0
  have HWW := Lib.hid HB.out.size
  clear hR3 hb3 hL3 hr0 hg0
  go_cut [8] (fun v wx => Hid (SgV wx w.heap.size v G ∧ Rd7 wx w2.heap.size w.heap.size s T ∧ Below w.heap.size w wx))
  case first =>
    by_cases h1 : c = 219
    · obtain rfl := h1
      have hq : T = (quR s st0).1 ∧ G = .quants (quR s st0).2 := by have := HS.out; simp only [prS, if_pos] at this; injection this with h1 h2; exact ⟨h1.symm, h2.symm⟩
      have HQ := Lib.hid hq; clear hq
      go_wp2_with (go_at_call 28; refine (quants_walk _ _ _ s st0 HL3.out HR0.out HG0.out HR3.out).mono ?_; rintro ex w4 ⟨v4, rfl, hO, hR, hT⟩; have HO := Lib.hid hO; have HR := Lib.hid hR; have HT := Lib.hid hT; clear hO hR hT)
      go_meet
      case rel => exact Lib.hid ⟨by rw [HQ.out.2]; exact ⟨v4, rfl, HO.out.mono HB3.out.size⟩, by rw [HQ.out.1]; exact HR.out, HT.out.bel0 (Nat.le_refl _) HWW.out HB3.out⟩
    have e1 : (c == 219) = false := by simpa using h1
    by_cases h2 : c = 196
    · obtain rfl := h2
      have hq : T = (huR s st0).1 ∧ G = .huffs (huR s st0).2 := by have := HS.out; simp only [prS, if_pos, if_neg h1] at this; injection this with h1 h2; exact ⟨h1.symm, h2.symm⟩
      have HQ := Lib.hid hq; clear hq h1
      go_wp2_with (go_at_call 29; refine (huffs_walk _ _ _ s st0 HR3.out).mono ?_; rintro ex w4 ⟨v4, rfl, hO, hR, hT⟩; have HO := Lib.hid hO; have HR := Lib.hid hR; have HT := Lib.hid hT; clear hO hR hT)
      go_meet
      case rel => exact Lib.hid ⟨by rw [HQ.out.2]; exact ⟨v4, rfl, HO.out.mono HB3.out.size⟩, by rw [HQ.out.1]; exact HR.out, HT.out.bel0 (Nat.le_refl _) HWW.out HB3.out⟩
    have e2 : (c == 196) = false := by simpa using h2
    by_cases h3 : c = 218
    · obtain rfl := h3
      have hq : T = (scR s st0).t ∧ G = .scan (scR s st0).l (scR s st0).a (scR s st0).b (scR s st0).hi (scR s st0).lo := by have := HS.out; simp only [prS, if_pos, if_neg h1, if_neg h2] at this; injection this with h1 h2; exact ⟨h1.symm, h2.symm⟩
      have HQ := Lib.hid hq; clear hq h1 h2
      go_wp2_with (go_at_call 30; refine (scan_walk _ _ _ s st0 HR3.out).mono ?_; rintro ex w4 ⟨v4, rfl, hO, hR, hT⟩; have HO := Lib.hid hO; have HR := Lib.hid hR; have HT := Lib.hid hT; clear hO hR hT)
      go_meet
      case rel => exact Lib.hid ⟨by rw [HQ.out.2]; exact ⟨v4, rfl, HO.out.mono HB3.out.size⟩, by rw [HQ.out.1]; exact HR.out, HT.out.bel0 (Nat.le_refl _) HWW.out HB3.out⟩
    have e3 : (c == 218) = false := by simpa using h3
    by_cases h4 : c = 221
    · obtain rfl := h4
      have hq : T = nS s 2 st0 ∧ G = .rst (nV s 2 st0) := by have := HS.out; simp only [prS, if_pos, if_neg h1, if_neg h2, if_neg h3] at this; injection this with h1 h2; exact ⟨h1.symm, h2.symm⟩
      have HQ := Lib.hid hq; clear hq h1 h2 h3
      go_wp2_with (go_at_call 31; refine (num7 2 (by decide) (by decide) _ _ _ s st0 HR3.out).mono ?_; rintro ex w4 ⟨rfl, hR, hT⟩; have HR := Lib.hid hR; have HT := Lib.hid hT; clear hR hT)
      go_meet
      case rel => exact Lib.hid ⟨by rw [HQ.out.2]; exact rfl, by rw [HQ.out.1]; exact HR.out, HT.out.bel0 (Nat.le_refl _) HWW.out HB3.out⟩
    have e4 : (c == 221) = false := by simpa using h4
    by_cases h5 : c ≤ 194
    · have e5 : decide (c ≤ 194) = true := by simpa using h5
      have hq : T = (frR s st0).t ∧ G = .frame c (frR s st0).h (frR s st0).w (frR s st0).l := by have := HS.out; simp only [prS, if_pos h5, if_neg h1, if_neg h2, if_neg h3, if_neg h4] at this; injection this with h1 h2; exact ⟨h1.symm, h2.symm⟩
      have HQ := Lib.hid hq; clear hq h1 h2 h3 h4 h5
      go_wp2_with (go_at_call 32; refine (frame_walk _ _ _ s st0 c HR3.out).mono ?_; rintro ex w4 ⟨v4, rfl, hO, hR, hT⟩; have HO := Lib.hid hO; have HR := Lib.hid hR; have HT := Lib.hid hT; clear hO hR hT)
      go_meet
      case rel => exact Lib.hid ⟨by rw [HQ.out.2]; exact ⟨v4, rfl, HO.out.mono HB3.out.size⟩, by rw [HQ.out.1]; exact HR.out, HT.out.bel0 (Nat.le_refl _) HWW.out HB3.out⟩
    · have e5 : decide (c ≤ 194) = false := by simpa using h5
      have hq : T = ⟨s.size, 0⟩ ∧ G = .plain c s := by have := HS.out; simp only [prS, if_neg h5, if_neg h1, if_neg h2, if_neg h3, if_neg h4] at this; injection this with h1 h2; exact ⟨h1.symm, h2.symm⟩
      have hgp := HR3.out.gp
      have HQ := Lib.hid hq; clear hq h1 h2 h3 h4 h5
      go_wp2_with (go_at_call 33; refine (rest_walk _ _ 0 s (by omega) (Nat.zero_le _) HR3.out.2.1).mono ?_; rintro ex w4 ⟨rfl, hC, hO⟩; have HC4 := Lib.hid hC; have HO := Lib.hid hO; clear hC hO)
      go_meet
      case rel =>
        refine Lib.hid ⟨by rw [HQ.out.2]; exact rfl, ?_, (Two.one (r := w2.heap.size) HO.out).bel0 (Nat.le_refl _) HWW.out HB3.out⟩
        rw [HQ.out.1]
        exact ⟨HO.out.blk HR3.out.1 HR3.out.2.2.2.1, HC4.out, Nat.le_refl _, HR3.out.2.2.2.1, hsz⟩
  case rest =>
    obtain ⟨u, hu⟩ : ∃ u, u = tS T (decide (T.a = s.size)) 4 := ⟨_, rfl⟩
    have hEu : E = u.e := by rw [HE.out, hu]
    have HU := Lib.hid hu; have HEU := Lib.hid hEu
    clear hu hEu
    have hgp := hcut.out.2.1.gp
    have hta : T.a ≤ s.size := hcut.out.2.1.2.2.1
    go_wp2_with (go_at_call 35; refine (left7 _ _ _ s T hcut.out.2.1).mono ?_; rintro ex w4 ⟨rfl, rfl⟩)
    refine (test7e _ _ _ s T 4 (decide (T.a = s.size)) _ ?_ hcut.out.2.1.drew).mono ?_
    · rw [Bool.eq_iff_iff]; simp; omega
    rintro ex w5 ⟨rfl, h5, k5⟩
    rw [← HU.out] at h5
    have hv5 : SgV w5 w.heap.size u8 G := (hcut.out.1.bel (Below.refl _ _).drew).keep fun e he g' cs hB => k5.keepT hcut.out.2.1.drew (by rcases he with rfl | rfl | rfl | rfl <;> decide) (by rcases he with rfl | rfl | rfl | rfl <;> decide) g' cs hB
    have hb5 : Below w.heap.size w w5 := k5.bel0 (Nat.le_refl _) HWW.out hcut.out.2.2.drew
    have HV5 := Lib.hid hv5; have HB5 := Lib.hid hb5; have H5 := Lib.hid h5
    clear hv5 hb5 h5 k5 hta hgp
    by_cases he : u.e = 0
    · have hee : w5.cell? ⟨w2.heap.size, 1, none⟩ = some (.int .i64 0) := by have := H5.out.ec; rw [he] at this; exact this
      have HZ : Hid (prE c s = 0) := Lib.hid (by rw [← HEE.out, HEU.out, he])
      clear he
      go_wp2
      go_ret2
      exact ⟨u8, by rw [HZ.out]; rfl, fun _ => by rw [← HGG.out]; exact HV5.out, fun h => absurd HZ.out h, HB5.out⟩
    · have hee : w5.cell? ⟨w2.heap.size, 1, none⟩ = some (.int .i64 u.e) := H5.out.ec
      obtain ⟨ue, hue⟩ : ∃ ue, ue = u.e := ⟨_, rfl⟩
      rw [← hue] at hee he
      have HZ : Hid (prE c s = ue) := Lib.hid (by rw [← HEE.out, HEU.out, hue])
      have hf : (ue == 0) = false := by simpa using he
      have HNZ := Lib.hid he
      clear he hue
      go_wp2
      go_region
      go_wp2
      go_ret2
      exact ⟨.nilIface, by rw [HZ.out]; rfl, fun h => absurd (HZ.out ▸ h) HNZ.out, fun _ => rfl, HB5.out.drew⟩
end Go.Proofs.YthibnhgbgmpjoaaDoor
