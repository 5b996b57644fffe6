/- The document's examples, Extend and Shorten together. No condition. -/
import Derived.Test.YtaofponadaifiaaHuB
import Derived.Test.YtaofponadaifiaaHuC
import Derived.Test.YtaofponadaifiaaHuS
namespace Go.Proofs.Ytaofponadaifiaa
open Go.RowKit
set_option linter.unusedSimpArgs false
set_option linter.unusedVariables false
theorem i64_rng {v : Int} (h : (Lit.int .i64 v).wf = true) : -9223372036854775808 ≤ v ∧ v ≤ 9223372036854775807 := by
  have h1 : IntKind.i64.min = -9223372036854775808 := by decide
  have h2 : IntKind.i64.max = 9223372036854775807 := by decide
  have h3 : IntKind.i64.min ≤ v ∧ v ≤ IntKind.i64.max := by simpa [Lit.wf] using h
  rw [h1, h2] at h3; exact h3
theorem u8_rng {v : Int} (h : (Lit.int .u8 v).wf = true) : 0 ≤ v ∧ v ≤ 255 := by
  have h1 : IntKind.u8.min = 0 := by decide
  have h2 : IntKind.u8.max = 255 := by decide
  have h3 : IntKind.u8.min ≤ v ∧ v ≤ IntKind.u8.max := by simpa [Lit.wf] using h
  rw [h1, h2] at h3; exact h3
def exC : Nat → Int := fun j => if j = 1 then 1 else if j = 2 then 5 else if j = 3 then 1 else 0
def exS : ByteArray := ⟨#[0, 1, 2, 3, 4, 5, 6]⟩
theorem ex_new : ∃ st, hufNew exC exS = some st ∧ st.cb 5 = 6 ∧ st.cn 5 = 3 := ⟨_, rfl, rfl, rfl⟩
def TabOf (w : World) (cnt : Nat → Int) (s : ByteArray) (st : HS) (e : Ending) (w' : World) : Prop := ∃ g at_ fs, e = .returned (.tuple #[.pointer (some ⟨g, 0, none⟩), .int .i64 0]) ∧ Tab w' g cnt s st.cb st.cn fs at_ ∧ (∀ j, 1 ≤ j → j ≤ 16 → fs j = fsF cnt s j ∧ at_ j = atF cnt s j) ∧ w.heap.size ≤ g ∧ Below w.heap.size w w'
theorem NewH.get {w w' : World} {cnt : Nat → Int} {s : ByteArray} {e : Ending} {st : HS} (h : NewH w cnt s e w') (h0 : hufNew cnt s = some st) : Hid (TabOf w cnt s st e w') := by
  unfold NewH at h; rw [h0] at h; exact Lib.hid h
theorem NewH.none {w w' : World} {cnt : Nat → Int} {s : ByteArray} {e : Ending} (h : NewH w cnt s e w') (h0 : hufNew cnt s = none) : e = .returned (.tuple #[.pointer none, .int .i64 5]) ∧ Below w.heap.size w w' := by
  unfold NewH at h; rw [h0] at h; exact h
theorem ext_both (v n : Int) : ∃ r, (∀ w : World, Calls Try.prog 16 #[.int .i64 v, .int .i64 n] w fun e w' => e = .returned (.int .i64 r) ∧ w' = w) ∧ (∀ w : World, Calls Try.prog 17 #[.int .i64 v, .int .i64 n] w fun e w' => e = .returned (.int .i64 r) ∧ w' = w) := by
  by_cases h : exNo v n
  · exact ⟨0, ext_no v n h, rext_no v n h⟩
  · unfold exNo at h
    obtain ⟨m, rfl⟩ : ∃ m : Nat, n = (m + 1 : Nat) := ⟨(n - 1).toNat, by omega⟩
    have hv : v < 2 ^ (m + 1) := by
      rcases Int.lt_or_le v (2 ^ (m + 1)) with h1 | h1
      · exact h1
      · exact absurd (Or.inr (Or.inr (Or.inr h1))) h
    by_cases h2 : (2 : Int) ^ m ≤ v
    · exact ⟨v, ext_hi v m (by omega) h2 hv, rext_ok v v m (by omega) (by omega) hv (by rw [if_pos h2])⟩
    · exact ⟨_, ext_lo v m (by omega) (by omega) (by omega), rext_ok v _ m (by omega) (by omega) hv (by rw [if_neg h2])⟩
theorem shor_both (v : Int) (hv : -9223372036854775808 ≤ v ∧ v ≤ 9223372036854775807) : ∃ (k : Nat) (b : Int), (∀ w : World, Calls Try.prog 14 #[.int .i64 v] w fun e w' => e = .returned (.tuple #[.int .i64 k, .int .i64 b]) ∧ Below w.heap.size w w') ∧
    (∀ w : World, Calls Try.prog 15 #[.int .i64 v] w fun e w' => e = .returned (.tuple #[.int .i64 k, .int .i64 b]) ∧ w' = w) ∧ (k ≠ 0 → ∀ w : World, Calls Try.prog 16 #[.int .i64 b, .int .i64 k] w fun e w' => e = .returned (.int .i64 v) ∧ w' = w) := by
  by_cases hb : 32767 < v ∨ v < -32767
  · exact ⟨0, 0, fun w => (shor_big v hb hv w).mono fun e w' ⟨h1, h2⟩ => ⟨h1, by rw [h2]; exact Below.refl _ _⟩, rshor_big v hb, fun h => absurd rfl h⟩
  · obtain ⟨a, ha⟩ : ∃ a : Nat, v = if v < 0 then -(a : Int) else (a : Int) := ⟨v.natAbs, by split <;> omega⟩
    have ha2 : a < 2 ^ 15 := by split at ha <;> omega
    obtain ⟨L, hL, h1, h2⟩ := bits_of a 15 ha2
    have hr := rshor_ok v a L ha hL h1 h2
    by_cases h0 : v < 0
    · rw [if_pos h0] at ha
      simp only [if_pos h0] at hr
      refine ⟨L, _, fun w => ?_, hr, fun hL0 w => ?_⟩
      · have h3 := shor_neg a L (by omega) hL h1 h2 w
        rw [← ha] at h3
        exact h3
      · obtain ⟨m, rfl⟩ : ∃ m, L = m + 1 := ⟨L - 1, by omega⟩
        obtain ⟨Q, hq, hQ, hQ1⟩ := pow_cast m
        obtain ⟨S, hs, hS, hS1⟩ := pow_cast (m + 1)
        have hS2 : S = 2 * Q := by rw [hS, hQ, Nat.pow_succ]; omega
        have h4 := h2 m (by omega)
        have h3 := ext_lo (v + 2 ^ (m + 1) - 1) m (by omega) (by rw [hs]; omega) (by rw [hs, hq]; omega) w
        have e : v + 2 ^ (m + 1) - 1 - 2 ^ (m + 1) + 1 = v := by omega
        rw [e] at h3
        exact h3
    · rw [if_neg h0] at ha
      simp only [if_neg h0] at hr
      subst ha
      refine ⟨L, a, fun w => (shor_pos a L hL h1 h2 w).mono fun e w' ⟨h1, h2⟩ => ⟨h1, by rw [h2]; exact Below.refl _ _⟩, hr, fun hL0 w => ?_⟩
      obtain ⟨m, rfl⟩ : ∃ m, L = m + 1 := ⟨L - 1, by omega⟩
      obtain ⟨Q, hq, hQ, hQ1⟩ := pow_cast m
      obtain ⟨S, hs, hS, hS1⟩ := pow_cast (m + 1)
      have h4 := h2 m (by omega)
      exact ext_hi a m (by omega) (by rw [hq]; omega) (by rw [hs]; omega) w
theorem exC_rng (j : Nat) (_h : j < 16) : 0 ≤ exC j ∧ exC j ≤ 255 := by unfold exC; repeat' split
                                                                        all_goals omega
set_option maxHeartbeats 0 in
set_option maxRecDepth 20000 in
theorem awake_walk (w : World) : Calls Try.prog 9 #[] w fun e w' => e = .returned (.bool true) ∧ Below w.heap.size w w' := by
  obtain ⟨st, hst, h6, h3⟩ := ex_new
  have hN := (new_h exC exS w exC_rng (by decide)).mono fun e w' h => NewH.get h hst
  have ear : arrN .u8 16 exC = #[.int .u8 0, .int .u8 1, .int .u8 5, .int .u8 1, .int .u8 0, .int .u8 0, .int .u8 0, .int .u8 0, .int .u8 0, .int .u8 0, .int .u8 0, .int .u8 0, .int .u8 0, .int .u8 0, .int .u8 0, .int .u8 0] := rfl
  have es : exS = ⟨#[0, 1, 2, 3, 4, 5, 6]⟩ := rfl
  rw [ear] at hN
  have hS : ∀ w : World, Calls Try.prog 14 #[.int .i64 (-3)] w fun e w' => e = .returned (.tuple #[.int .i64 2, .int .i64 0]) ∧ Below w.heap.size w w' := fun w => shor_neg 3 2 (by omega) (by omega) (by decide) (fun k hk => by rcases (by omega : k = 0 ∨ k = 1) with rfl | rfl <;> decide) w
  have hE : ∀ w : World, Calls Try.prog 16 #[.int .i64 0, .int .i64 2] w fun e w' => e = .returned (.int .i64 (-3)) ∧ w' = w := fun w => ext_lo 0 1 (by omega) (by omega) (by decide) w
  have HN := Lib.hid hN; have HS_ := Lib.hid hS; have HE := Lib.hid hE; have H6 := Lib.hid h6; have H3 := Lib.hid h3
  clear hN ear es hS hE h6 h3 hst
  go_enter Try.func9, Try.ntmps9
  go_wp2_with (first | (go_at_call 10; refine HN.out.mono ?_; intro e w1 hp; obtain ⟨g, at_, fs, rfl, hT, _, _, hb1⟩ := hp.out; have HT := Lib.hid hT; have HB1 := Lib.hid hb1; clear hT hb1 hp) | (go_at_call 11; (have hc := code_ok HT.out 5 (by omega)); rw [H6.out, H3.out] at hc; refine hc.mono ?_; clear hc; rintro e w2 ⟨rfl, hb2⟩; have HB2 := Lib.hid (HB1.out.trans (hb2.mono HB1.out.size)); clear hb2) | (go_at_call 14; refine (HS_.out _).mono ?_; rintro e w3 ⟨rfl, hb3⟩; have HB3 := Lib.hid (HB2.out.trans (hb3.mono HB2.out.size)); clear hb3) | (go_at_call 16; refine (HE.out _).mono ?_; rintro e w4 ⟨rfl, rfl⟩))
  go_ret
  exact ⟨rfl, HB3.out⟩
end Go.Proofs.Ytaofponadaifiaa
