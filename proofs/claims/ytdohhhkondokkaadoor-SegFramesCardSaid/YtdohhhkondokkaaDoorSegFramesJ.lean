/- A frame's beginning with any numbers is written only if the document reads it back. No condition but the card's own: the table holds what the program's text lays. -/
import Derived.Test.YtdohhhkondokkaaDoorSegE
import Derived.Test.YtdohhhkondokkaaDoorSegD
import Derived.Test.YtdohhhkondokkaaDoorSegH
import Derived.Test.YtdohhhkondokkaaDoorSegV
import Derived.Test.YtdohhhkondokkaaDoorSegY
import Derived.Test.YtdohhhkondokkaaDoorRsF
import Derived.Test.YtdohhhkondokkaaDoorBase
import Derived.SizedLaws
import Derived.Deep.Slices
import Derived.Deep.Fields
import Derived.ChangeArms
import Derived.OpenShut
import Derived.Test.YtdohhhkondokkaaDoorCards
import Derived.Test.YtdohhhkondokkaaDoorTie
import Derived.Deep.DeepHandedRow
import Derived.Lib.LaidTab
namespace Go.Proofs.YtdohhhkondokkaaDoor
open Go.RowKit
set_option linter.unusedSimpArgs false
set_option linter.unusedVariables false
set_option maxHeartbeats 1000000 in
theorem parse_rst (s : ByteArray) (hs : s.size = 2) (w : World) :
    Calls Tryd.prog 9 #[.int .i64 221, .string s] w fun e w' => e = .returned (.tuple #[.iface 61 (.agg #[.int .i64 (numL s.data.toList)]), .int .i64 0]) ∧ Below w.heap.size w w' := by
  have hm := may_walk 221
  rw [show mayC 221 = 0 by decide] at hm
  have HM := Lib.hid hm; clear hm
  obtain ⟨y, hy⟩ : ∃ y, y = numL s.data.toList := ⟨_, rfl⟩
  have hV : nxV s 2 0 0 = y := by rw [nxV, nxE, if_pos (by omega), hy, show 0 + 2 = s.size by omega, ByteArray.extract_zero_size]
  have hE : nxE s 2 0 0 = 0 := by simp [nxE, hs]
  have hA : nxA s 2 0 = 2 := by simp [nxA, hs]
  have hN := fun w r g (hne : r ≠ g) hr hc => num_walkR 2 (by decide) (by decide) w r g 0 s 0 (by omega) (by omega) hne hr hc
  rw [hV, hE, hA] at hN
  rw [← hy]
  have HN := Lib.hid hN; clear hN hV hE hA hy
  have hlen : decide (65533 < (s.size : Int)) = false := by rw [hs]; decide
  go_enter Tryd.func9, Tryd.ntmps9
  go_wp2_with (first | (go_at_call 20; refine (HM.out _).mono ?_; rintro ex w1 ⟨rfl, rfl⟩) | (go_at_call 21; refine (new_walk s _).mono ?_; rintro ex w2 ⟨rfl, hc, hb, hlt⟩; have HC := Lib.hid hc; have HB := Lib.hid hb; have HLT := Lib.hid hlt; clear hc hb hlt) | (go_at_call 25; refine (HN.out _ _ _ (by have := HLT.out; omega) (Blk.new _ _ _) (Blk.alloc HC.out _)).mono ?_; rintro ex w3 ⟨rfl, hr3, hc3, ht3⟩; have HR3 := Lib.hid hr3; have HC3 := Lib.hid hc3; have HT3 := Lib.hid ht3; have c30 := hr3.g_; clear hr3 hc3 ht3) | (go_at_call 29; refine (left_walk _ _ 2 s (by omega) (by omega) HC3.out).mono ?_; rintro ex w4 ⟨rfl, rfl⟩) | (go_at_call 28; refine (test_walk _ _ _ 0 4 true (Blk.drew HR3.out)).mono ?_; rintro ex w5 ⟨rfl, hr5, ho5⟩; have c51 : w5.cell? ⟨w2.heap.size, 1, none⟩ = some (.int .i64 0) := Rdr.e_ hr5; have HO5 := Lib.hid ho5; clear hr5 ho5))
  go_ret2
  have h0 := HB.out.size
  have ha : Below w.heap.size w (w2.alloc (.cells #[.pointer (some ⟨w.heap.size, 0, none⟩), .int .i64 0] 87)) := HB.out.alloc h0 _
  have h3 := ha.trans (HT3.out.below (Nat.le_refl _) h0 ha.size)
  exact ⟨rfl, h3.drew.trans (HO5.out.below h0 h3.drew.size)⟩
end Go.Proofs.YtdohhhkondokkaaDoor
namespace Go.Proofs.YtdohhhkondokkaaDoor
open Go.RowKit
set_option linter.unusedSimpArgs false
set_option linter.unusedVariables false
set_option maxRecDepth 100000
theorem bodyNil_walk (b : Nat) (w : World) :
    Calls Tryd.prog 30 #[.pointer (some ⟨b, 0, none⟩), .nilIface] w fun e w' => e = .returned (.bool false) ∧ Below w.heap.size w w' := by
  go_enter Tryd.func30, Tryd.ntmps30
  go_wp2
  go_ret
  exact ⟨rfl, Below.refl _ _⟩
set_option maxHeartbeats 1000000 in
theorem bodyRst_walk (B b : Nat) (n : Int) (w : World) (h : Wtr B b [] false w) :
    Calls Tryd.prog 30 #[.pointer (some ⟨b, 0, none⟩), .iface 61 (.agg #[.int .i64 n])] w fun e w' => e = .returned (.bool true) ∧ Wtr B b (putL n 2) (putB n 2) w' ∧ Below B w w' := by
  have hBw : B ≤ w.heap.size := by rcases h with h | h <;> exact h.2.1
  have ha := h.bel ((Below.refl w.heap.size w).alloc (Nat.le_refl _) (.cells #[.int .i64 n] 61))
  have HW := Lib.hid ha
  clear h ha
  go_enter Tryd.func30, Tryd.ntmps30
  go_wp2_with (first | (go_at_call 49; refine (wnum_walk B b [] n 2 (by decide) (by decide) false _ (by simp) HW.out).mono ?_; rintro ex w2 ⟨rfl, h2, hb2, _⟩; have HW2 := Lib.hid h2; have HB2 := Lib.hid hb2; clear h2 hb2))
  go_ret
  exact ⟨rfl, by simpa using HW2.out, ((Below.refl B w).alloc hBw _).trans HB2.out⟩
theorem bytesNil_walk (w : World) :
    Calls Tryd.prog 11 #[.nilIface] w fun e w' => e = .returned (.tuple #[.string ⟨#[]⟩, .int .i64 1]) ∧ Below w.heap.size w w' := by
  go_enter Tryd.func11, Tryd.ntmps11
  go_wp2_with (first | (go_at_call 30; refine (bodyNil_walk _ _).mono ?_; rintro ex w2 ⟨rfl, hb2⟩; have HB2 := Lib.hid hb2; clear hb2))
  go_ret2
  have h1 := (Below.refl w.heap.size w).alloc (Nat.le_refl _) (.cells #[.int .i64 0] 43)
  have h2 := h1.alloc h1.size (.cells #[.pointer none, .slice none 0 0, .bool false] 101)
  exact ⟨rfl, h2.trans (HB2.out.mono h2.size)⟩
theorem bytesBare_walk (c : Int) (h : 208 ≤ c ∧ c ≤ 217) (w : World) :
    Calls Tryd.prog 11 #[.iface 43 (.agg #[.int .i64 c])] w fun e w' => e = .returned (.tuple #[.string (⟨#[255, UInt8.ofNat c.toNat]⟩), .int .i64 0]) ∧ Below w.heap.size w w' := by
  have d1 : decide (c < 208) = false := by simp; omega
  have d2 : decide (217 < c) = false := by simp; omega
  have hbl : Blk ((w.alloc (.cells #[.int .i64 c] 43)).alloc (.cells #[.int .u8 c] 5)) (w.heap.size + 1) 5 (cellsU [c]) := by
    have := Blk.new (w.alloc (.cells #[.int .i64 c] 43)) 5 #[.int .u8 c]
    rw [show (w.alloc (.cells #[.int .i64 c] 43)).heap.size = w.heap.size + 1 from World.size_alloc _ _] at this
    exact this
  have hcv := conv_U (n := 1) (c := 1) hbl rfl
  clear hbl
  go_enter Tryd.func11, Tryd.ntmps11
  go_wp2
  go_ret2
  have h1 := (Below.refl w.heap.size w).alloc (Nat.le_refl _) (.cells #[.int .i64 c] 43)
  exact ⟨rfl, h1.alloc h1.size _⟩
theorem codeRst_walk (n : Int) (w : World) : Calls Tryd.prog 77 #[.agg #[.int .i64 n]] w fun e w' => e = .returned (.int .i64 221) ∧ Below w.heap.size w w' := by
  go_enter Tryd.func77, Tryd.ntmps77
  go_wp2
  go_ret
  exact ⟨rfl, (Below.refl _ w).alloc (Nat.le_refl _) _⟩
theorem bytesRst8 (w : World) :
    Calls Tryd.prog 11 #[.iface 61 (.agg #[.int .i64 8])] w fun e w' => e = .returned (.tuple #[.string ⟨#[255, 221, 0, 4, 0, 8]⟩, .int .i64 0]) ∧ Below w.heap.size w w' := by
  have hb : BodyK w (.iface 61 (.agg #[.int .i64 8])) [0, 8] false := fun w1 hb0 h => (bodyRst_walk w.heap.size (w.heap.size + 1) 8 w1 h).mono fun _ _ ⟨a1, a2, a3⟩ => ⟨a1, a2, hb0.trans a3⟩
  have hp : ParseK w 221 [0, 8] 0 := fun w1 _ => (parse_rst ⟨#[0, 8]⟩ rfl w1).mono fun e w' ⟨h, hb⟩ => ⟨⟨_, h⟩, hb⟩
  have h := bytesOk_Restart (.agg #[.int .i64 8]) 221 [0, 8] (by decide) w hb (codeRst_walk 8) hp
  have e : (⟨(putL (bits .or .i64 65280 221) 2).toArray⟩ ++ ⟨(putL (([0, 8] : List UInt8).length + 2 : Nat) 2).toArray⟩ ++ ⟨([0, 8] : List UInt8).toArray⟩ : ByteArray) = ⟨#[255, 221, 0, 4, 0, 8]⟩ := by decide +kernel
  rw [e] at h
  exact h
theorem bytesBare_no (c : Int) (h : c < 208 ∨ 217 < c) (w : World) :
    Calls Tryd.prog 11 #[.iface 43 (.agg #[.int .i64 c])] w fun e w' => e = .returned (.tuple #[.string ⟨#[]⟩, .int .i64 1]) ∧ Below w.heap.size w w' := by
  by_cases h1 : c < 208
  · have d1 : decide (c < 208) = true := by simpa using h1
    go_enter Tryd.func11, Tryd.ntmps11
    go_wp2
    go_ret2
    exact ⟨rfl, (Below.refl _ w).alloc (Nat.le_refl _) _⟩
  · have d1 : decide (c < 208) = false := by simpa using h1
    have d2 : decide (217 < c) = true := by simp; omega
    go_enter Tryd.func11, Tryd.ntmps11
    go_wp2
    go_ret2
    exact ⟨rfl, (Below.refl _ w).alloc (Nat.le_refl _) _⟩
theorem segAwake (w : World) : Calls Tryd.prog 10 #[] w fun e w' => e = .returned (.bool true) ∧ Below w.heap.size w w' := by
  go_enter Tryd.func10, Tryd.ntmps10
  go_wp2_with (first | (go_at_call 9; refine (parse_rst ⟨#[0, 8]⟩ rfl _).mono ?_; rintro e w1 ⟨rfl, hb1⟩; have HB1 := Lib.hid hb1; clear hb1; rw [show numL (⟨#[0, 8]⟩ : ByteArray).data.toList = 8 by decide]) | (go_at_call 11; refine (bytesRst8 _).mono ?_; rintro e w2 ⟨rfl, hb2⟩; have HB2 := Lib.hid hb2; clear hb2))
  go_ret
  exact ⟨rfl, HB1.out.trans (HB2.out.mono HB1.out.size)⟩
end Go.Proofs.YtdohhhkondokkaaDoor
namespace Go.Proofs.YtdohhhkondokkaaDoor
open Go.RowKit
set_option linter.unusedSimpArgs false
set_option linter.unusedVariables false
theorem numL_byZ (m : Nat) : ∀ n : Int, 0 ≤ n → n < 256 ^ m → numL (byL n m) = n := by
  induction m with
  | zero => intro n h0 h1; simp at h1; have : n = 0 := by omega
            subst this; rfl
  | succ m ih =>
    intro n h0 h1
    rw [byL, numL_snoc, ih (n / 256) (by omega) (by rw [Int.pow_succ] at h1; omega)]
    have : ((UInt8.ofNat (n % 256).toNat).toNat : Int) = n % 256 := by
      have h2 : (UInt8.ofNat (n % 256).toNat).toNat = (n % 256).toNat := by simp; omega
      rw [h2]; omega
    rw [this]; omega
theorem putB_no {n : Int} {m : Nat} (h : putB n m = false) : 0 ≤ n ∧ n < 256 ^ m := by
  have := of_decide_eq_false h
  exact Decidable.not_not.1 this
theorem putL_ok {n : Int} {m : Nat} (h : putB n m = false) : putL n m = byL n m := if_pos (putB_no h)
theorem putL_app {n n' : Int} {m : Nat} {r r' : List UInt8} (h1 : putB n m = false) (h2 : putB n' m = false) (h : putL n m ++ r = putL n' m ++ r') : n = n' ∧ r = r' := by
  rw [putL_ok h1, putL_ok h2] at h
  obtain ⟨h3, h4⟩ := List.append_inj h (by rw [byL_length, byL_length])
  refine ⟨?_, h4⟩
  rw [← numL_byZ m n (putB_no h1).1 (putB_no h1).2, ← numL_byZ m n' (putB_no h2).1 (putB_no h2).2, h3]
theorem hvB_no {a b : Int} (h : hvB a b = false) : 0 ≤ a ∧ a ≤ 15 ∧ 0 ≤ b ∧ b ≤ 15 := by
  have := of_decide_eq_false h
  omega
theorem hvL_app {a b a' b' : Int} {r r' : List UInt8} (h1 : hvB a b = false) (h2 : hvB a' b' = false) (h : hvL a b ++ r = hvL a' b' ++ r') : a = a' ∧ b = b' ∧ r = r' := by
  obtain ⟨h3, h4⟩ := putL_app (hv_putB a b) (hv_putB a' b') h
  have := hvB_no h1; have := hvB_no h2
  exact ⟨by omega, by omega, h4⟩
theorem zW_app {f g : Nat → Int} {m : Nat} : ∀ (k : Nat) {r r' : List UInt8}, zB f m k = false → zB g m k = false → zW f m k ++ r = zW g m k ++ r' → (∀ j, j < k → f j = g j) ∧ r = r'
  | 0, r, r', _, _, h => ⟨fun j hj => by omega, by simpa [zW] using h⟩
  | k + 1, r, r', h1, h2, h => by
    simp only [zB, Bool.or_eq_false_iff] at h1 h2
    simp only [zW, List.append_assoc] at h
    obtain ⟨h3, h4⟩ := zW_app k h1.1 h2.1 h
    obtain ⟨h5, h6⟩ := putL_app h1.2 h2.2 h4
    exact ⟨fun j hj => by rcases Nat.lt_or_ge j k with hj | hj; exact h3 j hj; rw [show j = k by omega]; exact h5, h6⟩
/-- What is written of one tells it, whatever stands behind. -/
structure Uniq {α : Type} (f : α → List UInt8) (b : α → Bool) (c : α → List Value) : Prop where
  ne : ∀ p, b p = false → f p ≠ []
  app : ∀ p p' r r', b p = false → b p' = false → f p ++ r = f p' ++ r' → c p = c p' ∧ r = r'
theorem catW_uniq {α : Type} {f : α → List UInt8} {b : α → Bool} {c : α → List Value} (h : Uniq f b c) : ∀ (l l' : List α), l.any b = false → l'.any b = false → catW f l = catW f l' → l.map c = l'.map c
  | [], [], _, _, _ => rfl
  | [], x :: l', _, h2, h3 => by
    simp only [List.any_cons, Bool.or_eq_false_iff] at h2
    have : f x ++ catW f l' = [] := by simpa [catW] using h3.symm
    exact absurd (List.append_eq_nil_iff.1 this).1 (h.ne x h2.1)
  | x :: l, [], h1, _, h3 => by
    simp only [List.any_cons, Bool.or_eq_false_iff] at h1
    have : f x ++ catW f l = [] := by simpa [catW] using h3
    exact absurd (List.append_eq_nil_iff.1 this).1 (h.ne x h1.1)
  | x :: l, y :: l', h1, h2, h3 => by
    simp only [List.any_cons, Bool.or_eq_false_iff] at h1 h2
    have e : f x ++ catW f l = f y ++ catW f l' := by simpa [catW] using h3
    obtain ⟨h4, h5⟩ := h.app x y _ _ h1.1 h2.1 e
    rw [List.map_cons, List.map_cons, h4, catW_uniq h l l' h1.2 h2.2 h5]
theorem hvL_ne (a b : Int) : hvL a b ≠ [] := by
  intro h
  have h2 : hvL a b = byL (a % 16 * 16 + b % 16) 1 := putL_ok (hv_putB a b)
  rw [h2] at h
  have := congrArg List.length h
  rw [byL_length] at this
  cases this
theorem arrN_congr' (K : IntKind) {n : Nat} {u v : Nat → Int} (h : ∀ j, j < n → u j = v j) : (arrN K n u).toList = (arrN K n v).toList := by rw [arrN_congr K h]
theorem qt_uniq : Uniq qtW qtB Qt.cells where
  ne := fun p _ h => by rw [qtW] at h; exact hvL_ne _ _ (List.append_eq_nil_iff.1 h).1
  app := fun p p' r r' h1 h2 h => by
    simp only [qtB, Bool.or_eq_false_iff] at h1 h2
    rw [qtW, qtW, List.append_assoc, List.append_assoc] at h
    obtain ⟨e1, e2, e3⟩ := hvL_app h1.1 h2.1 h
    have hw : p.wide = p'.wide := by
      unfold szW at e1
      cases hp : p.wide <;> cases hp' : p'.wide <;> simp [hp, hp'] at e1 ⊢
    have hs : szW p = szW p' := by unfold szW; rw [hw]
    rw [hs] at e3 h1
    obtain ⟨e4, e5⟩ := zW_app 64 h1.2 h2.2 e3
    refine ⟨?_, e5⟩
    have e6 : ∀ j, j < 64 → p.q j = p'.q j := fun j hj => by
      have hi : inv j < 64 := (by decide +kernel : ∀ k < 64, inv k < 64) j hj
      have := e4 (inv j) hi
      rwa [ord_inv j hj] at this
    rw [Qt.cells, Qt.cells, e2, hw, arrN_congr' .u16 e6]
theorem cS_congr {f g : Nat → Int} : ∀ (k : Nat), (∀ j, j < k → f j = g j) → cS f k = cS g k
  | 0, _ => rfl
  | k + 1, h => by rw [cS, cS, cS_congr k (fun j hj => h j (by omega)), h k (by omega)]
theorem hf_uniq : Uniq hfW hfB Hf.cells where
  ne := fun p _ h => by rw [hfW, List.append_assoc] at h; exact hvL_ne _ _ (List.append_eq_nil_iff.1 h).1
  app := fun p p' r r' h1 h2 h => by
    simp only [hfB, Bool.or_eq_false_iff, bne_eq_false_iff_eq] at h1 h2
    rw [hfW, hfW, List.append_assoc, List.append_assoc, List.append_assoc, List.append_assoc] at h
    obtain ⟨e1, e2, e3⟩ := hvL_app h1.1.1 h2.1.1 h
    obtain ⟨e4, e5⟩ := zW_app 16 h1.1.2 h2.1.2 e3
    have hs : p.sym.size = p'.sym.size := by have a := h1.2; have b := h2.2; rw [cS_congr 16 e4] at a; omega
    obtain ⟨e6, e7⟩ := List.append_inj e5 (by rw [Array.length_toList, Array.length_toList]; exact hs)
    have e8 : p.sym = p'.sym := ByteArray.ext (Array.toList_inj.1 e6)
    exact ⟨by rw [Hf.cells, Hf.cells, e1, e2, e8, arrN_congr' .u8 e4], e7⟩
theorem pt_uniq : Uniq ptW ptB Pt.cells where
  ne := fun p _ h => by rw [ptW, List.append_assoc] at h; exact hvL_ne _ _ (List.append_eq_nil_iff.1 (List.append_eq_nil_iff.1 h).2).1
  app := fun p p' r r' h1 h2 h => by
    simp only [ptB, Bool.or_eq_false_iff] at h1 h2
    rw [ptW, ptW, List.append_assoc, List.append_assoc, List.append_assoc, List.append_assoc] at h
    obtain ⟨e1, e2⟩ := putL_app h1.1.1 h2.1.1 h
    obtain ⟨e3, e4, e5⟩ := hvL_app h1.1.2 h2.1.2 e2
    obtain ⟨e6, e7⟩ := putL_app h1.2 h2.2 e5
    exact ⟨by rw [Pt.cells, Pt.cells, e1, e3, e4, e6], e7⟩
theorem pt_inj {l l' : List Pt} (h : l.map Pt.cells = l'.map Pt.cells) : l = l' := by
  have hi : ∀ p q : Pt, p.cells = q.cells → p = q := fun p q e => by
    cases p; cases q
    simp only [Pt.cells, List.cons.injEq, Value.int.injEq, true_and, and_true] at e
    obtain ⟨e1, e2, e3, e4⟩ := e
    subst e1 e2 e3 e4
    rfl
  induction l generalizing l' with
  | nil => cases l' with
    | nil => rfl
    | cons _ _ => simp at h
  | cons x l ih => cases l' with
    | nil => simp at h
    | cons y l' =>
      simp only [List.map_cons, List.cons.injEq] at h
      rw [hi x y h.1, ih h.2]
theorem frame_uniq {h w h' w' : Int} {l l' : List Pt} (h1 : frB h w l = false) (h2 : frB h' w' l' = false) (he : frW h w l = frW h' w' l') : h = h' ∧ w = w' ∧ l = l' := by
  simp only [frB, Bool.or_eq_false_iff] at h1 h2
  simp only [frW, List.append_assoc] at he
  obtain ⟨_, e2⟩ := putL_app (by decide) (by decide) he
  obtain ⟨e3, e4⟩ := putL_app h1.1.1.1 h2.1.1.1 e2
  obtain ⟨e5, e6⟩ := putL_app h1.1.1.2 h2.1.1.2 e4
  obtain ⟨_, e8⟩ := putL_app h1.1.2 h2.1.2 e6
  exact ⟨e3, e5, pt_inj (catW_uniq pt_uniq l l' h1.2 h2.2 e8)⟩
/-! ### A frame that may be is read -/
theorem tS_tt (t : St) (x : Int) : tS t true x = t := by cases t; simp [tS, stp]
theorem nS_at {s : ByteArray} {pre post : List UInt8} {n : Int} {m a : Nat} (hs : s.data.toList = pre ++ (putL n m ++ post)) (ha : a = pre.length) (hb : putB n m = false) : nS s m ⟨a, 0⟩ = ⟨a + m, 0⟩ ∧ nV s m ⟨a, 0⟩ = n := by
  subst ha
  rw [putL_ok hb] at hs
  have hz : s.size = pre.length + (m + post.length) := by
    have := congrArg List.length hs
    rw [List.length_append, List.length_append, byL_length, Array.length_toList] at this
    exact this
  have hle : pre.length + m ≤ s.size := by omega
  have hE : nxE s m pre.length 0 = 0 := if_pos hle
  refine ⟨?_, ?_⟩
  · show St.mk (nxA s m pre.length) (nxE s m pre.length 0) = _
    rw [hE]; unfold nxA; rw [if_pos hle]
  · show nxV s m pre.length 0 = n
    unfold nxV
    rw [if_pos hE, bs_ext]
    have : bs s pre.length (pre.length + m) = byL n m := by
      unfold bs
      rw [hs, List.take_append, List.take_of_length_le (by omega), List.drop_left, Nat.add_sub_cancel_left, List.take_append, byL_length, Nat.sub_self, List.take_zero, List.append_nil, List.take_of_length_le (by rw [byL_length]; exact Nat.le_refl _)]
    rw [this, numL_byZ m n (putB_no hb).1 (putB_no hb).2]
theorem idT_all {x id : Int} {l : List Int} (t : St) (h : ∀ y ∈ l, y ≠ id) : idT x id l t = t := by
  induction l generalizing t with
  | nil => rfl
  | cons y l ih =>
    have e : idT x id (y :: l) t = idT x id l (tS t (y != id) x) := rfl
    rw [e, show (y != id) = true by simpa using h y (by simp), tS_tt]
    exact ih t (fun z hz => h z (by simp [hz]))
theorem pt1_fwd {s : ByteArray} {pre post : List UInt8} {a : Nat} {p : Pt} {l : List Pt} (hs : s.data.toList = pre ++ (ptW p ++ post)) (ha : a = pre.length) (hp : p.rng) (hn : ∀ x ∈ l, x.id ≠ p.id) : pt1 s (⟨a, 0⟩, l) = (⟨a + 3, 0⟩, l ++ [p]) := by
  obtain ⟨i0, i1, a0, a1, b0, b1, q0, q1⟩ := hp
  have B1 : putB p.id 1 = false := decide_eq_false (by simp; omega)
  have B2 : putB (p.h * 16 + p.v) 1 = false := decide_eq_false (by simp; omega)
  have B3 : putB p.q 1 = false := decide_eq_false (by simp; omega)
  have eh : hvL p.h p.v = putL (p.h * 16 + p.v) 1 := by unfold hvL; congr 1; omega
  rw [ptW, eh] at hs
  have l1 : (putL p.id 1).length = 1 := by rw [putL_ok B1, byL_length]
  have l2 : (putL (p.h * 16 + p.v) 1).length = 1 := by rw [putL_ok B2, byL_length]
  obtain ⟨g1, g2⟩ := nS_at (s := s) (pre := pre) (post := putL (p.h * 16 + p.v) 1 ++ (putL p.q 1 ++ post)) (n := p.id) (m := 1) (by rw [hs]; simp only [List.append_assoc]) ha B1
  obtain ⟨g3, g4⟩ := nS_at (s := s) (pre := pre ++ putL p.id 1) (post := putL p.q 1 ++ post) (n := p.h * 16 + p.v) (m := 1) (a := a + 1) (by rw [hs]; simp only [List.append_assoc]) (by rw [List.length_append, l1, ha]) B2
  obtain ⟨g5, g6⟩ := nS_at (s := s) (pre := pre ++ putL p.id 1 ++ putL (p.h * 16 + p.v) 1) (post := post) (n := p.q) (m := 1) (a := a + 1 + 1) (by rw [hs]; simp only [List.append_assoc]) (by rw [List.length_append, List.length_append, l1, l2, ha]) B3
  have d1 : (p.h * 16 + p.v) / 16 = p.h := by omega
  have d2 : (p.h * 16 + p.v) % 16 = p.v := by omega
  have c1 : decide (1 ≤ p.h ∧ p.h ≤ 4 ∧ 1 ≤ p.v ∧ p.v ≤ 4) = true := decide_eq_true (by omega)
  have c2 : decide (p.q ≤ 3) = true := decide_eq_true q1
  rw [pt1]
  simp only [g1, g2, g3, g4, d1, d2, c1, tS_tt, g5, g6, c2]
  rw [idT_all _ (fun y hy => by obtain ⟨x, hx, rfl⟩ := List.mem_map.1 hy; exact hn x hx)]
theorem ptL_fwd {s : ByteArray} : ∀ (l2 l1 : List Pt) {pre post : List UInt8} {a : Nat}, s.data.toList = pre ++ (catW ptW l2 ++ post) → a = pre.length → ptsOk (l1 ++ l2) → ptL s l2.length (⟨a, 0⟩, l1) = (⟨a + 3 * l2.length, 0⟩, l1 ++ l2)
  | [], l1, pre, post, a, _, _, _ => by simp [ptL]
  | p :: l2, l1, pre, post, a, hs, ha, hok => by
    have hp : p.rng := hok.1 p (by simp)
    have hn : ∀ x ∈ l1, x.id ≠ p.id := fun x hx => (List.pairwise_append.1 hok.2).2.2 x hx p (by simp)
    have e : catW ptW (p :: l2) = ptW p ++ catW ptW l2 := by simp [catW]
    rw [e, List.append_assoc] at hs
    have h1 := pt1_fwd (l := l1) hs ha hp hn
    have hl : (ptW p).length = 3 := by
      obtain ⟨i0, i1, a0, a1, b0, b1, q0, q1⟩ := hp
      have B1 : putB p.id 1 = false := decide_eq_false (by simp; omega)
      have B3 : putB p.q 1 = false := decide_eq_false (by simp; omega)
      rw [ptW, List.length_append, List.length_append, putL_ok B1, putL_ok B3, hvL, putL_ok (hv_putB p.h p.v), byL_length, byL_length, byL_length]
    have h2 := ptL_fwd (s := s) l2 (l1 ++ [p]) (pre := pre ++ ptW p) (post := post) (a := a + 3) (by rw [hs]; simp only [List.append_assoc]) (by rw [List.length_append, hl, ha]) (by simpa using hok)
    rw [List.length_cons, ptL, if_pos rfl, h1, h2]
    simp only [List.append_assoc, List.singleton_append, Prod.mk.injEq, St.mk.injEq, and_true]
    omega
def frOk (c h w : Int) (l : List Pt) : Prop := 192 ≤ c ∧ c ≤ 194 ∧ 1 ≤ h ∧ h ≤ 16384 ∧ 1 ≤ w ∧ w ≤ 16384 ∧ 1 ≤ l.length ∧ l.length ≤ 4 ∧ ptsOk l
theorem frOk_B {c h w : Int} {l : List Pt} (hok : frOk c h w l) : frB h w l = false := by
  obtain ⟨c0, c1, h0, h1, w0, w1, l0, l1, hp⟩ := hok
  simp only [frB, Bool.or_eq_false_iff]
  refine ⟨⟨⟨decide_eq_false (by simp; omega), decide_eq_false (by simp; omega)⟩, decide_eq_false (by simp; omega)⟩, ?_⟩
  rw [List.any_eq_false]
  intro p hpm
  obtain ⟨i0, i1, a0, a1, b0, b1, q0, q1⟩ := hp.1 p hpm
  simp only [ptB, Bool.or_eq_true, not_or, Bool.not_eq_true]
  exact ⟨⟨decide_eq_false (by simp; omega), decide_eq_false (by omega)⟩, decide_eq_false (by simp; omega)⟩
theorem frame_fwd {c h w : Int} {l : List Pt} (hok : frOk c h w l) : frR ⟨(frW h w l).toArray⟩ st0 = ⟨⟨(frW h w l).length, 0⟩, h, w, l⟩ := by
  have hB := frOk_B hok
  obtain ⟨c0, c1, h0, h1, w0, w1, l0, l1, hp⟩ := hok
  simp only [frB, Bool.or_eq_false_iff] at hB
  obtain ⟨⟨⟨B1, B2⟩, B3⟩, B4⟩ := hB
  obtain ⟨s, hs0⟩ : ∃ s : ByteArray, s = ⟨(frW h w l).toArray⟩ := ⟨_, rfl⟩
  rw [← hs0]
  have hs : s.data.toList = putL 8 1 ++ (putL h 2 ++ (putL w 2 ++ (putL (l.length : Int) 1 ++ (catW ptW l ++ [])))) := by rw [hs0, frW]; simp only [List.append_assoc, List.append_nil]
  have l8 : (putL 8 1).length = 1 := by rw [putL_ok (by decide), byL_length]
  have lh : (putL h 2).length = 2 := by rw [putL_ok B1, byL_length]
  have lw : (putL w 2).length = 2 := by rw [putL_ok B2, byL_length]
  have ll : (putL (l.length : Int) 1).length = 1 := by rw [putL_ok B3, byL_length]
  obtain ⟨a1, a2⟩ := nS_at (s := s) (pre := []) (n := 8) (m := 1) (a := 0) (by rw [List.nil_append]; exact hs) rfl (by decide)
  obtain ⟨a3, a4⟩ := nS_at (s := s) (pre := putL 8 1) (n := h) (m := 2) (a := 1) hs (by rw [l8]) B1
  obtain ⟨a5, a6⟩ := nS_at (s := s) (pre := putL 8 1 ++ putL h 2) (n := w) (m := 2) (a := 1 + 2) (by rw [hs, List.append_assoc]) (by rw [List.length_append, l8, lh]) B2
  obtain ⟨a7, a8⟩ := nS_at (s := s) (pre := putL 8 1 ++ putL h 2 ++ putL w 2) (post := catW ptW l ++ []) (n := l.length) (m := 1) (a := 1 + 2 + 2) (by rw [hs]; simp only [List.append_assoc]) (by rw [List.length_append, List.length_append, l8, lh, lw]) B3
  have a9 := ptL_fwd (s := s) l [] (pre := putL 8 1 ++ putL h 2 ++ putL w 2 ++ putL (l.length : Int) 1) (post := []) (a := 1 + 2 + 2 + 1) (by rw [hs]; simp only [List.append_assoc]) (by rw [List.length_append, List.length_append, List.length_append, l8, lh, lw, ll]) (by simpa using hp)
  have hlen : (frW h w l).length = 1 + 2 + 2 + 1 + 3 * l.length := by
    rw [frW, List.length_append, List.length_append, List.length_append, List.length_append, l8, lh, lw, ll]
    have : ∀ l : List Pt, (∀ p ∈ l, p.rng) → (catW ptW l).length = 3 * l.length := by
      intro l hl
      induction l with
      | nil => rfl
      | cons p l ih =>
        have e : catW ptW (p :: l) = ptW p ++ catW ptW l := by simp [catW]
        obtain ⟨i0, i1, _, _, _, _, q0, q1⟩ := hl p (by simp)
        have C1 : putB p.id 1 = false := decide_eq_false (by simp; omega)
        have C3 : putB p.q 1 = false := decide_eq_false (by simp; omega)
        rw [e, List.length_append, ih (fun q hq => hl q (by simp [hq])), ptW, List.length_append, List.length_append, putL_ok C1, putL_ok C3, hvL, putL_ok (hv_putB p.h p.v), byL_length, byL_length, byL_length, List.length_cons]
        omega
    rw [this l hp.1]
  have d1 : decide (0 < h ∧ 0 < w) = true := decide_eq_true (by omega)
  have d2 : decide (h ≤ 16384 ∧ w ≤ 16384) = true := decide_eq_true (by omega)
  have d3 : decide (0 < (l.length : Int)) = true := decide_eq_true (by omega)
  have d4 : decide ((l.length : Int) ≤ 4) = true := decide_eq_true (by omega)
  have e0 : st0 = ⟨0, 0⟩ := rfl
  rw [frR, e0]
  simp only [a1, a2, Nat.zero_add, show ((8 : Int) == 8) = true from rfl, tS_tt, a3, a4, a5, a6, d1, d2, a7, a8, d3, d4, Int.toNat_natCast, a9, hlen, List.nil_append]
theorem frame_prS {c : Int} (s : ByteArray) (h0 : 192 ≤ c) (h1 : c ≤ 194) : prS c s = ((frR s st0).t, .frame c (frR s st0).h (frR s st0).w (frR s st0).l) := by
  unfold prS; rw [if_neg (by omega), if_neg (by omega), if_neg (by omega), if_neg (by omega), if_pos h1]
theorem byE_zero {x : Sg} (h : byE x = 0) : sgB x = false ∧ prE (sgC x) ⟨(sgW x).toArray⟩ = 0 := by
  unfold byE at h
  split at h
  · cases h
  · rename_i hB
    split at h
    · rename_i hP; exact ⟨by simpa using hB, hP⟩
    · cases h
theorem byE_mk {x : Sg} (h1 : sgB x = false) (h2 : prE (sgC x) ⟨(sgW x).toArray⟩ = 0) : byE x = 0 := by
  unfold byE; rw [if_neg (by rw [h1]; decide), if_pos h2]
theorem frame_of {c h w : Int} {l : List Pt} (s : ByteArray) (hs : s.data.toList = frW h w l) (hB : frB h w l = false) (hc : c ≤ 194) (hP : prE c s = 0) : frOk c h w l := by
  have hm := mayC_zero (prE_may hP).1
  have hc : 192 ≤ c ∧ c ≤ 194 := by omega
  obtain ⟨b1, b2, b3, b4, b5⟩ := parse_back hP
  have hS := frame_prS s hc.1 hc.2
  have hP2 := hP
  unfold prE at hP2
  rw [if_neg (by simpa using (prE_may hP).1), if_neg (by have := (prE_may hP).2; omega), hS] at hP2
  have h0 := (tS_ok hP2 (by decide)).1
  obtain ⟨f1, f2, f3, f4, f5, f6, f7, f8, f9, f10⟩ := frame_back h0
  have hG : prG c s = .frame c (frR s st0).h (frR s st0).w (frR s st0).l := by unfold prG; rw [hS]
  rw [hG, hs] at b2
  obtain ⟨u1, u2, u3⟩ := frame_uniq f2 hB b2
  rw [← u1, ← u2, ← u3]
  exact ⟨hc.1, hc.2, f6, f7, f8, f9, f4, f5, f10⟩
theorem frame_to {c h w : Int} {l : List Pt} (s : ByteArray) (hs : s = ⟨(frW h w l).toArray⟩) (hok : frOk c h w l) : prE c s = 0 ∧ prG c s = .frame c h w l := by
  have hf := frame_fwd hok
  rw [← hs] at hf
  have hz : s.size = (frW h w l).length := by rw [hs]; rfl
  obtain ⟨c0, c1, h0, h1, w0, w1, l0, l1, hp⟩ := hok
  have hS := frame_prS s c0 c1
  have hlen : (frW h w l).length ≤ 1000 := by
    have := catW_len ptW 3 ptW_len l
    have a1 := putL_len 8 1; have a2 := putL_len h 2; have a3 := putL_len w 2; have a4 := putL_len (l.length : Int) 1
    simp only [frW, List.length_append]
    omega
  have hm : mayC c = 0 := by unfold mayC; (repeat' split) <;> omega
  refine ⟨?_, by unfold prG; rw [hS, hf]⟩
  unfold prE
  rw [if_neg (by simpa using hm), if_neg (by omega), hS, hf]
  show (tS ⟨(frW h w l).length, 0⟩ (decide ((frW h w l).length = s.size)) 4).e = 0
  rw [hz, decide_eq_true rfl, tS_tt]
theorem frame_right {c h w : Int} {l : List Pt} : byE (.frame c h w l) = 0 ↔ frOk c h w l := by
  constructor
  · intro hE
    obtain ⟨hB, hP⟩ := byE_zero hE
    have hB : (decide (194 < c) || frB h w l) = false := hB
    simp only [Bool.or_eq_false_iff, decide_eq_false_iff_not] at hB
    exact frame_of _ rfl hB.2 (by omega) hP
  · intro hok
    refine byE_mk ?_ (frame_to _ rfl hok).1
    show (decide (194 < c) || frB h w l) = false
    rw [frOk_B hok, decide_eq_false (by have := hok.2.1; omega)]; rfl
/-- What is written and may be is read as it was: of tables and restarts. -/
theorem quants_read {l : List Qt} (h : byE (.quants l) = 0) : ∃ l', prG 219 ⟨(catW qtW l).toArray⟩ = .quants l' ∧ l'.map Qt.cells = l.map Qt.cells := by
  obtain ⟨h1, h2⟩ := byE_zero h
  have h2 : prE 219 ⟨(catW qtW l).toArray⟩ = 0 := h2
  obtain ⟨b1, b2, b3, b4, b5⟩ := parse_back h2
  refine ⟨(quR ⟨(catW qtW l).toArray⟩ st0).2, rfl, ?_⟩
  have hG : prG 219 ⟨(catW qtW l).toArray⟩ = .quants (quR ⟨(catW qtW l).toArray⟩ st0).2 := rfl
  rw [hG] at b2 b3
  exact catW_uniq qt_uniq _ l b3 h1 b2
theorem huffs_read {l : List Hf} (h : byE (.huffs l) = 0) : ∃ l', prG 196 ⟨(catW hfW l).toArray⟩ = .huffs l' ∧ l'.map Hf.cells = l.map Hf.cells := by
  obtain ⟨h1, h2⟩ := byE_zero h
  have h2 : prE 196 ⟨(catW hfW l).toArray⟩ = 0 := h2
  obtain ⟨b1, b2, b3, b4, b5⟩ := parse_back h2
  refine ⟨(huR ⟨(catW hfW l).toArray⟩ st0).2, rfl, ?_⟩
  have hG : prG 196 ⟨(catW hfW l).toArray⟩ = .huffs (huR ⟨(catW hfW l).toArray⟩ st0).2 := rfl
  rw [hG] at b2 b3
  exact catW_uniq hf_uniq _ l b3 h1 b2
theorem rst_read {n : Int} (h : byE (.rst n) = 0) : prG 221 ⟨(putL n 2).toArray⟩ = .rst n := by
  obtain ⟨h1, h2⟩ := byE_zero h
  have h2 : prE 221 ⟨(putL n 2).toArray⟩ = 0 := h2
  obtain ⟨b1, b2, b3, b4, b5⟩ := parse_back h2
  have hG : prG 221 ⟨(putL n 2).toArray⟩ = .rst (nV ⟨(putL n 2).toArray⟩ 2 st0) := rfl
  rw [hG] at b2 b3 ⊢
  have h3 : putL (nV ⟨(putL n 2).toArray⟩ 2 st0) 2 ++ [] = putL n 2 ++ [] := by simpa [sgW] using b2
  rw [(putL_app b3 h1 h3).1]
theorem RdC_congr {α : Type} {c : α → List Value} {q : Nat} {w : World} {A : Option Addr} {l l' : List α} (h : RdC c q w A l) (he : l.map c = l'.map c) : RdC c q w A l' := fun i hi => by
  have hlen : l.length = l'.length := by have := congrArg List.length he; simpa using this
  obtain ⟨g, off, h1, h2, h3⟩ := h i (by omega)
  have e : c l[i] = c l'[i] := by
    have := congrArg (fun z => z[i]?) he
    simp only [List.getElem?_map] at this
    rw [List.getElem?_eq_getElem (by omega), List.getElem?_eq_getElem hi] at this
    simpa using this
  exact ⟨g, off, h1, h2, fun j hj => by rw [h3 j hj, e]⟩
end Go.Proofs.YtdohhhkondokkaaDoor
namespace Go.Proofs.YtdohhhkondokkaaDoor
open Go.RowKit
set_option linter.unusedSimpArgs false
set_option linter.unusedVariables false
set_option maxRecDepth 100000
theorem pw_ne {l : List Pt} (h : l.Pairwise (fun a b => a.id ≠ b.id)) {m k : Nat} (hm : m < k) (hk : k < l.length) : l[m].id ≠ l[k].id := List.pairwise_iff_getElem.1 h m k (by omega) hk hm
set_option maxHeartbeats 2000000 in
theorem right_walk (c h ww : Int) (A : Option Addr) (cp : Nat) (l : List Pt) (w : World) (hA : RdC Pt.cells 4 w A l) (hl : l.length ≤ 20) :
    Calls Tryd.prog 15 #[.int .i64 c, .int .i64 h, .int .i64 ww, .slice A l.length cp] w fun e w' => (∃ r, e = .returned (.bool r) ∧ (r = true ↔ frOk c h ww l)) ∧ Below w.heap.size w w' := by
  have HA := Lib.hid hA; clear hA
  go_enter Tryd.func15, Tryd.ntmps15
  go_upto_region 1 with fail
  go_cut [43] (fun b wx => b = .bool (decide (c < 192 ∨ 194 < c ∨ h < 1 ∨ 16384 < h ∨ ww < 1 ∨ 16384 < ww ∨ l.length < 1 ∨ 4 < l.length)) ∧ wx = w)
  case first =>
    go_wp2_with fail
    all_goals
      go_meet
      case rel => exact ⟨congrArg Value.bool (by first | rfl | (rw [Bool.eq_iff_iff]; simp only [Bool.or_eq_true, Bool.and_eq_true, Bool.not_eq_true', decide_eq_false_iff_not, bne_iff_ne, Bool.false_eq_true, decide_eq_true_eq, beq_iff_eq, false_iff, true_iff]; done) | (rw [Bool.eq_iff_iff]; simp only [Bool.or_eq_true, Bool.and_eq_true, Bool.not_eq_true', decide_eq_false_iff_not, bne_iff_ne, Bool.false_eq_true, decide_eq_true_eq, beq_iff_eq, false_iff, true_iff]; omega)), rfl⟩
  case rest =>
  obtain ⟨rfl, rfl⟩ := hcut
  obtain ⟨w, rfl⟩ : ∃ w, w = wc := ⟨_, rfl⟩
  by_cases hc1 : c < 192 ∨ 194 < c ∨ h < 1 ∨ 16384 < h ∨ ww < 1 ∨ 16384 < ww ∨ l.length < 1 ∨ 4 < l.length
  case pos =>
    have hdd : decide (c < 192 ∨ 194 < c ∨ h < 1 ∨ 16384 < h ∨ ww < 1 ∨ 16384 < ww ∨ l.length < 1 ∨ 4 < l.length) = true := decide_eq_true hc1
    rw [hdd]
    have HC1 := Lib.hid hc1
    clear hdd hc1
    go_wp2_with fail
    go_ret
    exact ⟨⟨false, rfl, ⟨fun h => (by cases h), fun hok => by have h1 := HC1.out; obtain ⟨a1, a2, a3, a4, a5, a6, a7, a8, _⟩ := hok; omega⟩⟩, Below.refl _ _⟩
  case neg =>
  have hdd : decide (c < 192 ∨ 194 < c ∨ h < 1 ∨ 16384 < h ∨ ww < 1 ∨ 16384 < ww ∨ l.length < 1 ∨ 4 < l.length) = false := decide_eq_false hc1
  rw [hdd]
  have HC1 := Lib.hid hc1
  clear hdd hc1
  go_wp2_with fail
  go_loopw [9] (fun i wr => ∃ k : Nat, k ≤ l.length ∧ i = .int .i64 k ∧ Hid (Below w.heap.size w wr) ∧ Hid (ptsOk (l.take k))) (fun i _ => l.length - (intOf i).toNat)
  case atStart => exact ⟨0, by omega, rfl, Lib.hid (Below.refl _ _), Lib.hid ⟨by simp, by simp⟩⟩
  case round =>
    obtain ⟨k, hk, rfl, HB, HP⟩ := hrel
    by_cases hkl : k < l.length
    case neg =>
      obtain rfl : k = l.length := by omega
      go_wp2_with fail
      go_ret
      exact ⟨⟨true, rfl, ⟨fun _ => by have h1 := HC1.out; have h2 := HP.out; rw [List.take_length] at h2; exact ⟨by omega, by omega, by omega, by omega, by omega, by omega, by omega, by omega, h2⟩, fun _ => rfl⟩⟩, HB.out⟩
    case pos =>
    obtain ⟨ga, oa, rfl, hga, hca⟩ := (HA.out.bel HB.out).at1 hkl
    obtain ⟨i0, hi0⟩ : ∃ x, x = l[k].id := ⟨_, rfl⟩
    obtain ⟨x0, hx0⟩ : ∃ x, x = l[k].h := ⟨_, rfl⟩
    obtain ⟨y0, hy0⟩ : ∃ x, x = l[k].v := ⟨_, rfl⟩
    obtain ⟨q0, hq0⟩ : ∃ x, x = l[k].q := ⟨_, rfl⟩
    have e0 : wr.cell? ⟨ga, oa + k * 4, none⟩ = some (.int .i64 i0) := by rw [hi0]; exact hca 0 (by decide)
    have e1 : wr.cell? ⟨ga, oa + k * 4 + 1, none⟩ = some (.int .i64 x0) := by rw [hx0]; exact hca 1 (by decide)
    have e2 : wr.cell? ⟨ga, oa + k * 4 + 2, none⟩ = some (.int .i64 y0) := by rw [hy0]; exact hca 2 (by decide)
    have e3 : wr.cell? ⟨ga, oa + k * 4 + 3, none⟩ = some (.int .i64 q0) := by rw [hq0]; exact hca 3 (by decide)
    have HI0 := Lib.hid hi0
    have hrng : l[k].rng ↔ ¬ (i0 < 0 ∨ 255 < i0 ∨ x0 < 1 ∨ 4 < x0 ∨ y0 < 1 ∨ 4 < y0 ∨ q0 < 0 ∨ 3 < q0) := by unfold Pt.rng; rw [← hi0, ← hx0, ← hy0, ← hq0]; omega
    have HRN := Lib.hid hrng
    clear hca hi0 hx0 hy0 hq0 hrng
    go_upto_region 7 with fail
    go_cut [91] (fun b wx => b = .bool (decide (i0 < 0 ∨ 255 < i0 ∨ x0 < 1 ∨ 4 < x0 ∨ y0 < 1 ∨ 4 < y0 ∨ q0 < 0 ∨ 3 < q0)) ∧ wx = (wr.alloc (.cells #[.int .i64 i0, .int .i64 x0, .int .i64 y0, .int .i64 q0] 67)))
    case first =>
      clear e0 e1 e2 e3
      go_wp2_with fail
      all_goals
        go_meet
        case rel => exact ⟨congrArg Value.bool (by first | rfl | (rw [Bool.eq_iff_iff]; simp only [Bool.or_eq_true, Bool.and_eq_true, Bool.not_eq_true', decide_eq_false_iff_not, bne_iff_ne, Bool.false_eq_true, decide_eq_true_eq, beq_iff_eq, false_iff, true_iff]; done) | (rw [Bool.eq_iff_iff]; simp only [Bool.or_eq_true, Bool.and_eq_true, Bool.not_eq_true', decide_eq_false_iff_not, bne_iff_ne, Bool.false_eq_true, decide_eq_true_eq, beq_iff_eq, false_iff, true_iff]; omega)), rfl⟩
    case rest =>
    clear e0 e1 e2 e3
    obtain ⟨rfl, rfl⟩ := hcut
    by_cases hc2 : i0 < 0 ∨ 255 < i0 ∨ x0 < 1 ∨ 4 < x0 ∨ y0 < 1 ∨ 4 < y0 ∨ q0 < 0 ∨ 3 < q0
    case pos =>
      have hdd : decide (i0 < 0 ∨ 255 < i0 ∨ x0 < 1 ∨ 4 < x0 ∨ y0 < 1 ∨ 4 < y0 ∨ q0 < 0 ∨ 3 < q0) = true := decide_eq_true hc2
      rw [hdd]
      have HC2 := Lib.hid hc2
      clear hdd hc2
      go_wp2_with fail
      go_ret
      exact ⟨⟨false, rfl, ⟨fun h => (by cases h), fun hok => absurd HC2.out (HRN.out.1 (hok.2.2.2.2.2.2.2.2.1 _ (List.getElem_mem hkl)))⟩⟩, HB.out.alloc HB.out.size _⟩
    case neg =>
    have hdd : decide (i0 < 0 ∨ 255 < i0 ∨ x0 < 1 ∨ 4 < x0 ∨ y0 < 1 ∨ 4 < y0 ∨ q0 < 0 ∨ 3 < q0) = false := decide_eq_false hc2
    rw [hdd]
    have HC2 := Lib.hid hc2
    clear hdd hc2
    obtain ⟨wo, rfl⟩ : ∃ wo : World, wo = wr := ⟨_, rfl⟩
    go_wp2_with fail
    go_loopw [11] (fun j wi => ∃ m : Nat, m ≤ k ∧ j = .int .i64 m ∧ Hid (Below w.heap.size w wi) ∧ Hid (Blk wi wo.heap.size 67 #[.int .i64 i0, .int .i64 x0, .int .i64 y0, .int .i64 q0]) ∧ Hid (∀ x ∈ l.take m, x.id ≠ l[k].id)) (fun j _ => k - (intOf j).toNat)
    case atStart => exact ⟨0, by omega, rfl, Lib.hid (HB.out.alloc HB.out.size _), Lib.hid (Blk.new _ _ _), Lib.hid (by simp)⟩
    case round =>
      obtain ⟨wi, rfl⟩ : ∃ wi : World, wi = wr := ⟨_, rfl⟩
      obtain ⟨m, hm, rfl, HIi, HBi, HNi⟩ := hrel
      by_cases hmk : m < k
      case neg =>
        obtain rfl : m = k := by omega
        go_wp2_with fail
        go_roundw
        case rel => exact ⟨m + 1, by omega, by go_num, HIi, Lib.hid (by rw [List.take_succ_eq_append_getElem hkl]; exact ptsOk_snoc HP.out (HRN.out.2 HC2.out) HNi.out)⟩
        case measure => simp [intOf]; omega
      case pos =>
        obtain ⟨g2, o2, hgg, hg2, hc2⟩ := (HA.out.bel HIi.out).at1 (show m < l.length by omega)
        injection hgg with hgg; injection hgg with hgg1 hgg2; subst hgg1; subst hgg2
        have hga := hg2
        obtain ⟨a0, ha0⟩ : ∃ x, x = l[m].id := ⟨_, rfl⟩
        have e0 : wi.cell? ⟨ga, oa + m * 4, none⟩ = some (.int .i64 a0) := by rw [ha0]; exact hc2 0 (by decide)
        have Hf0 := Lib.hid e0
        have Hf1 := Lib.hid (HBi.out.cell 0)
        have HA0 := Lib.hid ha0
        clear e0 ha0 hc2 hg2
        go_upto_region 12 with fail
        refine region_plan (.run [0, 1, 2, 3, 4, 5, 6, 7] .fin) (fun w' => True) (by kernel_rfl) trivial ?_
        intro wd hwd
        have hbd : Below wi.heap.size wi wd := hwd ▸ (Below.refl _ wi).drew
        have HIj := Lib.hid (HIi.out.trans (hbd.mono HIi.out.size))
        have HBj := Lib.hid (HBi.out.bel hbd)
        have f0 : wd.cell? ⟨ga, oa + m * 4, none⟩ = some (.int .i64 a0) := (hbd.cell (p := ⟨ga, oa + m * 4, none⟩) hga).trans Hf0.out
        have f1 : wd.cell? ⟨wo.heap.size, 0, none⟩ = some (.int .i64 i0) := (hbd.cell (p := ⟨wo.heap.size, 0, none⟩) HBi.out.lt).trans Hf1.out
        clear hbd
        clear hwd
        refine plan_run fun m hm => ?_
        simp only [pickO, List.filterMap_cons, List.filterMap_nil, List.getElem?_toArray, List.getElem?_cons_zero, List.getElem?_cons_succ] at hm
        subst hm
        go_wp2_with fail
        refine ⟨rfl, by rfl, ?_⟩
        refine plan_fin ?_
        by_cases hai : a0 = i0
        · have e5 : (a0 == i0) = true := by simpa using hai
          have HAI := Lib.hid hai
          clear hai
          go_wp2_with fail
          go_ret
          exact ⟨⟨false, rfl, ⟨fun h => (by cases h), fun hok => absurd (HA0.out.symm.trans (HAI.out.trans HI0.out)) (pw_ne hok.2.2.2.2.2.2.2.2.2 hmk hkl)⟩⟩, HIj.out⟩
        · have e5 : (a0 == i0) = false := by simpa using hai
          have HAI := Lib.hid hai
          clear hai
          go_wp2_with fail
          go_roundw
          case rel => exact ⟨m + 1, by omega, by go_num, HIj, HBj, Lib.hid (fun x hx => by rw [List.take_succ_eq_append_getElem (by omega)] at hx; rcases List.mem_append.1 hx with hx | hx; exact HNi.out x hx; rw [List.mem_singleton] at hx; subst hx; rw [← HA0.out, ← HI0.out]; exact HAI.out)⟩
          case measure => simp [intOf]; omega
end Go.Proofs.YtdohhhkondokkaaDoor
namespace Go.Proofs.YtdohhhkondokkaaDoor
open Go.RowKit
set_option linter.unusedSimpArgs false
set_option linter.unusedVariables false
set_option maxRecDepth 100000
theorem blk_range {w : World} {g : Nat} {t : TypeId} {cs : Array Value} (h : Blk w g t cs) : w.rangeAt g 0 cs.toList := fun j v hv => by rw [Nat.zero_add, h.cell]; simpa using hv
theorem RgV.r {w : World} {base : Nat} {cs : Array Value} {x : Sg} (h : RgV w base cs x) : RgR w cs x := by
  cases x with
  | plain c b => exact h
  | quants l => obtain ⟨u, rfl, h2⟩ := h; obtain ⟨A, cp, rfl, _⟩ := h2.form; exact ⟨A, cp, rfl, h2.rd Qt.is⟩
  | huffs l => obtain ⟨u, rfl, h2⟩ := h; obtain ⟨A, cp, rfl, _⟩ := h2.form; exact ⟨A, cp, rfl, h2.rd Hf.is⟩
  | frame c hh ww l => obtain ⟨u, rfl, h2⟩ := h; obtain ⟨A, cp, rfl, _⟩ := h2.form; exact ⟨A, cp, rfl, h2.rd Pt.is⟩
  | scan l a b hi lo => obtain ⟨u, rfl, h2⟩ := h; obtain ⟨A, cp, rfl, _⟩ := h2.form; exact ⟨A, cp, rfl, h2.rd Pk.is⟩
  | rst n => exact h
theorem RgR.one {w : World} {cs : Array Value} {x : Sg} (h : RgR w cs x) : cs.all (·.oneCell') = true := by
  cases x with
  | plain c b => subst h; exact sc_one _ _ _ _ _ _ _ _ _ _ _ _ _ rfl rfl rfl rfl
  | quants l => obtain ⟨A, cp, rfl, _⟩ := h; exact sc_one _ _ _ _ _ _ _ _ _ _ _ _ _ rfl rfl rfl rfl
  | huffs l => obtain ⟨A, cp, rfl, _⟩ := h; exact sc_one _ _ _ _ _ _ _ _ _ _ _ _ _ rfl rfl rfl rfl
  | frame c hh ww l => obtain ⟨A, cp, rfl, _⟩ := h; exact sc_one _ _ _ _ _ _ _ _ _ _ _ _ _ rfl rfl rfl rfl
  | scan l a b hi lo => obtain ⟨A, cp, rfl, _⟩ := h; exact sc_one _ _ _ _ _ _ _ _ _ _ _ _ _ rfl rfl rfl rfl
  | rst n => subst h; exact sc_one _ _ _ _ _ _ _ _ _ _ _ _ _ rfl rfl rfl rfl
theorem code_len (c : Int) (h0 : 192 ≤ c) (h1 : c ≤ 254) : (putL (bits .or .i64 65280 c) 2).length = 2 := by
  obtain ⟨k, rfl⟩ := Int.eq_ofNat_of_zero_le (show 0 ≤ c by omega)
  have h : ∀ k : Fin 255, (putL (bits .or .i64 65280 ((k.val : Nat) : Int)) 2).length = 2 := by decide +kernel
  exact h ⟨k, by omega⟩
theorem byS_tail {x : Sg} (h : byE x = 0) : (byS x).size = 4 + (sgW x).length ∧ (byS x).extract 4 (byS x).size = ⟨(sgW x).toArray⟩ := by
  obtain ⟨h1, h2⟩ := byE_zero h
  have hm := prE_may h2
  have hr : 192 ≤ sgC x ∧ sgC x ≤ 254 := by have := mayC_zero hm.1; omega
  have hz : (sgW x).length ≤ 65533 := hm.2
  have l1 := code_len (sgC x) hr.1 hr.2
  have l2 : (putL (((sgW x).length + 2 : Nat) : Int) 2).length = 2 := by rw [putL_ok (decide_eq_false (by simp; omega)), byL_length]
  have e : byS x = ⟨(putL (bits .or .i64 65280 (sgC x)) 2 ++ putL (((sgW x).length + 2 : Nat) : Int) 2 ++ sgW x).toArray⟩ := by
    unfold byS; rw [if_pos h]
    apply ByteArray.ext
    simp [ByteArray.data_append]
  have hsz : (byS x).size = 4 + (sgW x).length := by
    rw [e]
    show (putL (bits .or .i64 65280 (sgC x)) 2 ++ putL (((sgW x).length + 2 : Nat) : Int) 2 ++ sgW x).toArray.size = _
    rw [List.size_toArray, List.length_append, List.length_append, l1, l2]
  refine ⟨hsz, ?_⟩
  apply ByteArray.ext
  apply Array.toList_inj.1
  have hb := bs_ext (byS x) 4 (byS x).size
  rw [hb, hsz]
  unfold bs
  rw [e]
  show List.drop 4 (List.take (4 + (sgW x).length) (putL (bits .or .i64 65280 (sgC x)) 2 ++ putL (((sgW x).length + 2 : Nat) : Int) 2 ++ sgW x)) = sgW x
  rw [List.take_of_length_le (by rw [List.length_append, List.length_append, l1, l2]; omega)]
  rw [show (4 : Nat) = (putL (bits .or .i64 65280 (sgC x)) 2 ++ putL (((sgW x).length + 2 : Nat) : Int) 2).length by rw [List.length_append, l1, l2], List.drop_left]
end Go.Proofs.YtdohhhkondokkaaDoor
namespace Go.Proofs.YtdohhhkondokkaaDoor
open Go.RowKit Go.WideShapes Go.ChangeShapes Go.ChangeAt
set_option maxRecDepth 100000
/-- Cells of a slice of structs that came in: element i's field j holds f i j, of kind K j. -/
def InS (w : World) (A : Option Addr) (n q : Nat) (K : Nat → IntKind) (f : Nat → Nat → Int) : Prop := ∀ i, i < n → ∃ b off, A = some ⟨b, off, none⟩ ∧ b < w.heap.size ∧ ∀ j, j < q → w.cell? ⟨b, off + (i * q + j), none⟩ = some (.int (K j) (f i j)) ∧ (Lit.int (K j) (f i j)).wf = true
theorem InS.bel {w w' : World} {A : Option Addr} {n q : Nat} {K : Nat → IntKind} {f : Nat → Nat → Int} (h : InS w A n q K f) (hb : Below w.heap.size w w') : InS w' A n q K f := fun i hi => by
  obtain ⟨b, off, h1, h2, h3⟩ := h i hi
  exact ⟨b, off, h1, Nat.lt_of_lt_of_le h2 hb.size, fun j hj => ⟨(hb.cell (p := ⟨b, off + (i * q + j), none⟩) h2).trans (h3 j hj).1, (h3 j hj).2⟩⟩
theorem pick2 {q : Nat} {R : Nat → Int → Prop} (h : ∀ j, j < q → ∃ x, R j x) : ∃ g : Nat → Int, ∀ j, j < q → R j (g j) := by
  induction q with
  | zero => exact ⟨fun _ => 0, fun j hj => by omega⟩
  | succ q ih =>
    obtain ⟨g, hg⟩ := ih (fun j hj => h j (by omega))
    obtain ⟨x, hx⟩ := h q (by omega)
    refine ⟨fun j => if j = q then x else g j, fun j hj => ?_⟩
    by_cases e : j = q
    · subst e; simpa using hx
    · simpa [e] using hg j (by omega)
theorem pick3 {n : Nat} {R : Nat → (Nat → Int) → Prop} (h : ∀ i, i < n → ∃ g, R i g) : ∃ f : Nat → Nat → Int, ∀ i, i < n → R i (f i) := by
  induction n with
  | zero => exact ⟨fun _ _ => 0, fun j hj => by omega⟩
  | succ n ih =>
    obtain ⟨f, hf⟩ := ih (fun i hi => h i (by omega))
    obtain ⟨g, hg⟩ := h n (by omega)
    refine ⟨fun i => if i = n then g else f i, fun i hi => ?_⟩
    by_cases e : i = n
    · subst e; simpa using hg
    · simpa [e] using hf i (by omega)
theorem openInS {H : Type} {enc : TypeId × Value → H} {W : World} {base : Nat} {t e : TypeId} {fs : Array Field} {v : Value} {d : DataW H} {ps : List MemPlace} (ht : Tryd.prog.underlying t = some (.slice e)) (he : Tryd.prog.underlying e = some (.struct fs))
    (ho : Go.Deep.oneCellFields Tryd.prog fs = true) (hc : Tryd.prog.cellsOf e = fs.size) (hq : 0 < fs.size) (K : Nat → IntKind) (hK : ∀ (j : Nat) (f : Field), fs[j]? = some f → Tryd.prog.underlying f.type = some (.int (K j)))
    (hv : Value.okWide Tryd.prog W .any base t v) (h : DataW.Trod enc Tryd.prog W 0 (fun _ => true) true t v d ps) :
    ∃ (A : Option Addr) (n c : Nat) (f : Nat → Nat → Int), v = .slice A n c ∧ n ≤ c ∧ InS W A n fs.size K f := by
  obtain ⟨a, len, cap, rfl⟩ := okWide_slice ht hv
  obtain ⟨fuel, hf⟩ := h
  rcases Go.Deep.open_slice ht hf with ⟨hcs, _⟩ | ⟨x, l, c, m, k, D, Pl, hcs, _, hl, _, hm, _, hx⟩
  · simp [Value.cells] at hcs
    obtain ⟨rfl, rfl, rfl⟩ := hcs
    exact ⟨none, 0, 0, fun _ _ => 0, rfl, Nat.le_refl _, fun j hj => by omega⟩
  · simp [Value.cells] at hcs
    obtain ⟨rfl, rfl, rfl⟩ := hcs
    have each : ∀ i, i < len → ∃ g : Nat → Int, ∀ j, j < fs.size → W.cell? (x.add (i * fs.size + j)) = some (.int (K j) (g j)) ∧ (Lit.int (K j) (g j)).wf = true := by
      intro i hi
      obtain ⟨cs', h1, h2⟩ := hx i (by rw [hm]; simp; omega)
      rw [hc] at h1
      obtain ⟨_, hlen, hat⟩ := World.cells?_some h1
      obtain ⟨ys, n', _, _, _, hyl, hfl⟩ := DataW.trod_struct he h2
      refine pick2 (R := fun j y => W.cell? (x.add (i * fs.size + j)) = some (.int (K j) y) ∧ (Lit.int (K j) y).wf = true) fun j hj => ?_
      obtain ⟨f, hfj⟩ : ∃ f, fs[j]? = some f := ⟨fs[j], Array.getElem?_eq_getElem hj⟩
      have h3 := hfl j f hfj
      obtain ⟨o1, o2⟩ := Go.Deep.hone_of ho j f hfj
      have hcj : cs'[j]? = some (cs'[j]'(by omega)) := List.getElem?_eq_getElem (by omega)
      have hyj : ys[j]? = some (ys[j]'(by omega)) := List.getElem?_eq_getElem (by omega)
      have hone : (cs'.drop j).take 1 = [cs'[j]'(by omega)] := by
        rw [List.drop_eq_getElem_cons (by omega)]
        rfl
      rw [o1, o2, hone, hyj] at h3
      obtain ⟨y, hy1, _, hy3⟩ := DataW.trod_int (hK j f hfj) h3
      refine ⟨y, ?_, hy3⟩
      rw [← Go.Deep.add_add, hat j hj, hcj]
      simpa using hy1
    obtain ⟨f, hf2⟩ := pick3 (R := fun i g => ∀ j, j < fs.size → W.cell? (x.add (i * fs.size + j)) = some (.int (K j) (g j)) ∧ (Lit.int (K j) (g j)).wf = true) each
    refine ⟨_, _, _, f, rfl, hl, fun i hi => ?_⟩
    have h0 := (hf2 i hi 0 hq).1
    have hlt := block_lt_of_cell h0
    obtain ⟨b, off, spot⟩ := x
    have hspot : spot = none := by
      have h00 := (hf2 0 (by omega) 0 hq).1
      simpa [Addr.add] using World.cell?_spot h00
    subst hspot
    refine ⟨b, off, rfl, by simpa [Addr.add] using (by rw [Go.WideShapes.add_plain] at hlt; exact hlt), fun j hj => ?_⟩
    have h4 := hf2 i hi j hj
    rw [Go.WideShapes.add_plain] at h4
    exact h4
end Go.Proofs.YtdohhhkondokkaaDoor
namespace Go.Proofs.YtdohhhkondokkaaDoor
open Go.RowKit
set_option linter.unusedSimpArgs false
set_option linter.unusedVariables false
set_option maxRecDepth 100000
/-- What the loop stands on: w the world behind awake. -/
structure SfI (w : World) (c h ww : Int) (v : Value) (l : List Pt) (wr : World) : Prop where
  f : Blk wr w.heap.size 65 #[.int .i64 c, .int .i64 h, .int .i64 ww, v]
  ow : OwnC Pt.cells 4 wr w.heap.size 68 v l
  be : Below w.heap.size w wr
theorem SfI.bel {w wr w' : World} {c h ww : Int} {v : Value} {l : List Pt} (H : SfI w c h ww v l wr) (hb : Below wr.heap.size wr w') : SfI w c h ww v l w' := ⟨H.f.bel hb, H.ow.bel hb, H.be.trans (hb.mono H.be.size)⟩
set_option maxHeartbeats 2000000 in
theorem frames_big (c h ww : Int) (A : Option Addr) (n cp : Nat) (hn : 20 < n) (w : World) : Calls Tryd.prog 7 #[.int .i64 c, .int .i64 h, .int .i64 ww, .slice A n cp] w fun e w' => e = .returned (.bool true) ∧ Below w.heap.size w w' := by
  go_enter Tryd.func7, Tryd.ntmps7
  go_wp2_with (first | (go_at_call 10; have HB0 := Lib.hid HB.out; refine (segAwake _).mono ?_; rintro ex w2 ⟨rfl, hb2⟩; have HB2 := Lib.hid (HB.out.trans (hb2.mono HB.out.size)); clear hb2) | (go_at_call 10; refine (segAwake _).mono ?_; rintro ex w1 ⟨rfl, hb1⟩; have HB := Lib.hid hb1; clear hb1))
  go_ret
  exact ⟨rfl, HB2.out⟩

set_option maxHeartbeats 4000000 in
theorem frames_in (c h ww : Int) (A : Option Addr) (cp : Nat) (l : List Pt) (hl : l.length ≤ 20) (w0 : World) (hL : Laid w0) (hA : RdC Pt.cells 4 w0 A l) : Calls Tryd.prog 7 #[.int .i64 c, .int .i64 h, .int .i64 ww, .slice A l.length cp] w0 fun e w' => e = .returned (.bool true) ∧ Below w0.heap.size w0 w' := by
  have HL := Lib.hid hL; have HA := Lib.hid hA; clear hL hA
  go_enter Tryd.func7, Tryd.ntmps7
  go_upto_region 3 with (go_at_call 10; refine (segAwake _).mono ?_; rintro ex w ⟨rfl, hb1⟩; have HB0 := Lib.hid hb1; clear hb1)
  go_upto_region 4 with fail
  have HI0 : Hid (SfI w c h ww (.slice none 0 0) [] (w.alloc (.cells #[.int .i64 c, .int .i64 h, .int .i64 ww, .slice none 0 0] 65))) := Lib.hid ⟨Blk.new _ _ _, OwnC.nil _ _ _, (Below.refl _ _).alloc (Nat.le_refl _) _⟩
  go_wp2_with fail
  go_loopw [10] (fun i wr => ∃ k : Nat, k ≤ l.length ∧ i = .int .i64 k ∧ Hid (∃ v, SfI w c h ww v (l.take k) wr)) (fun i _ => l.length - (intOf i).toNat)
  case atStart => exact ⟨0, by omega, rfl, Lib.hid ⟨_, HI0.out⟩⟩
  case round =>
    clear HI0
    obtain ⟨k, hk, rfl, HV⟩ := hrel
    obtain ⟨vv, hv⟩ := HV.out
    obtain ⟨V, cpv, rfl, _⟩ := hv.ow.form
    have HIk := Lib.hid hv
    clear hv HV
    by_cases hkl : k < l.length
    case pos =>
      have hkt : (l.take k).length = k := by rw [List.length_take]; omega
      rw [hkt] at HIk
      obtain ⟨ga, oa, rfl, hga, hca⟩ := (HA.out.bel (HB0.out.trans (HIk.out.be.mono HB0.out.size))).at1 hkl
      obtain ⟨i0, hi0⟩ : ∃ x, x = l[k].id := ⟨_, rfl⟩
      obtain ⟨x0, hx0⟩ : ∃ x, x = l[k].h := ⟨_, rfl⟩
      obtain ⟨y0, hy0⟩ : ∃ x, x = l[k].v := ⟨_, rfl⟩
      obtain ⟨z0, hz0⟩ : ∃ x, x = l[k].q := ⟨_, rfl⟩
      have Hq0 : Hid (wr.cell? ⟨ga, oa + k * 4, none⟩ = some (.int .i64 i0)) := Lib.hid (by rw [hi0]; exact hca 0 (by decide))
      have Hq1 : Hid (wr.cell? ⟨ga, oa + k * 4 + 1, none⟩ = some (.int .i64 x0)) := Lib.hid (by rw [hx0]; exact hca 1 (by decide))
      have Hq2 : Hid (wr.cell? ⟨ga, oa + k * 4 + 2, none⟩ = some (.int .i64 y0)) := Lib.hid (by rw [hy0]; exact hca 2 (by decide))
      have Hq3 : Hid (wr.cell? ⟨ga, oa + k * 4 + 3, none⟩ = some (.int .i64 z0)) := Lib.hid (by rw [hz0]; exact hca 3 (by decide))
      have HPP : Hid (l.take (k + 1) = l.take k ++ [⟨i0, x0, y0, z0⟩]) := Lib.hid (by rw [List.take_succ_eq_append_getElem hkl, hi0, hx0, hy0, hz0])
      clear hca hi0 hx0 hy0 hz0
      go_upto_region 7 with fail
      refine region_plan (.run [0, 2, 3, 4, 5, 6, 7, 8, 9, 10, 11, 12, 13, 14, 15, 16, 17, 18, 19, 20, 21, 22] (.alt 1 23 (.ev 23 (.ev 24 (.run [25] (.ev 26 .fin)))) (.run [1] (.ev 24 (.run [25] (.ev 26 .fin)))))) (fun w' => True) (by kernel_rfl) trivial ?_
      intro wd hwd
      have hbd : Below wr.heap.size wr wd := hwd ▸ (Below.refl _ wr).drew
      have HId := Lib.hid (HIk.out.bel hbd)
      have q0 : wd.cell? ⟨ga, oa + k * 4, none⟩ = some (.int .i64 i0) := (hbd.cell (p := ⟨ga, oa + k * 4, none⟩) hga).trans Hq0.out
      have q1 : wd.cell? ⟨ga, oa + k * 4 + 1, none⟩ = some (.int .i64 x0) := (hbd.cell (p := ⟨ga, oa + k * 4 + 1, none⟩) hga).trans Hq1.out
      have q2 : wd.cell? ⟨ga, oa + k * 4 + 2, none⟩ = some (.int .i64 y0) := (hbd.cell (p := ⟨ga, oa + k * 4 + 2, none⟩) hga).trans Hq2.out
      have q3 : wd.cell? ⟨ga, oa + k * 4 + 3, none⟩ = some (.int .i64 z0) := (hbd.cell (p := ⟨ga, oa + k * 4 + 3, none⟩) hga).trans Hq3.out
      clear hbd
      clear hwd
      refine plan_run fun m hm => ?_
      simp only [pickO, List.filterMap_cons, List.filterMap_nil, List.getElem?_toArray, List.getElem?_cons_zero, List.getElem?_cons_succ] at hm
      subst hm
      go_wp2_with fail
      refine ⟨rfl, by rfl, ?_⟩
      refine plan_alt (fun m hm => ?_) (fun m hm => ?_)
      · simp only [pickO, List.filterMap_cons, List.filterMap_nil, List.getElem?_toArray, List.getElem?_cons_zero, List.getElem?_cons_succ] at hm
        subst hm
        have q9 := (HId.out.f.alloc (.cells #[.int .i64 i0, .int .i64 x0, .int .i64 y0, .int .i64 z0] 68)).cell 3
        have q8 := HId.out.f.cell 3
        go_wp2_with fail
        clear q8 q9
        refine ⟨rfl, rfl, ?_⟩
        refine plan_ev fun m hm => ?_
        simp only [pickO, List.filterMap_cons, List.filterMap_nil, List.getElem?_toArray, List.getElem?_cons_zero, List.getElem?_cons_succ] at hm
        subst hm
        clear q0 q1 q2 q3
        go_wp2_with fail
        refine ⟨rfl, trivial, ?_⟩
        try simp only [Act.put, List.setIfInBounds_toArray, List.set_cons_zero, List.set_cons_succ]
        refine plan_ev fun m hm => ?_
        simp only [pickO, List.filterMap_cons, List.filterMap_nil, List.getElem?_toArray, List.getElem?_cons_zero, List.getElem?_cons_succ] at hm
        subst hm
        refine appC (q := 4) (by_ := 32) (cs := #[.int .i64 i0, .int .i64 x0, .int .i64 y0, .int .i64 z0]) ⟨i0, x0, y0, z0⟩ Pt.is Tryd.underlying63 (by kernel_rfl) (by decide) (by decide) rfl (.tmp 34) (.tmp 56) rfl rfl rfl rfl HId.out.ow (by rw [List.length_take]; omega) HId.out.be.size ?_
        intro v7 w7 hO7 hK7 hb7
        obtain ⟨A7, n7, c7, rfl⟩ := hO7.form2
        have HF7 := Lib.hid (hK7 _ _ _ (by decide) HId.out.f)
        have HO7 := Lib.hid hO7
        have HB7 := Lib.hid (HId.out.be.trans hb7)
        clear hO7 hK7 hb7
        refine ⟨rfl, trivial, ?_⟩
        try simp only [Act.put, List.setIfInBounds_toArray, List.set_cons_zero, List.set_cons_succ]
        refine plan_run fun m hm => ?_
        simp only [pickO, List.filterMap_cons, List.filterMap_nil, List.getElem?_toArray, List.getElem?_cons_zero, List.getElem?_cons_succ] at hm
        subst hm
        go_wp2_with fail
        refine ⟨rfl, by rfl, ?_⟩
        refine plan_ev fun m hm => ?_
        simp only [pickO, List.filterMap_cons, List.filterMap_nil, List.getElem?_toArray, List.getElem?_cons_zero, List.getElem?_cons_succ] at hm
        subst hm
        have q3 : w7.cell? ⟨w.heap.size, 3, none⟩ = some (.slice V k cpv) := HF7.out.cell 3
        have q4 := HF7.out.frozen 3
        go_wp2_with fail
        refine ⟨rfl, trivial, ?_⟩
        try simp only [Act.put, List.setIfInBounds_toArray, List.set_cons_zero, List.set_cons_succ]
        refine plan_fin ?_
        go_wp2_with fail
        go_roundw
        case rel => exact ⟨k + 1, by omega, by go_num, Lib.hid (by rw [HPP.out]; exact ⟨_, HF7.out.set_ 3 _, HO7.out.set (HO7.out.neT HF7.out (by decide)) _, HB7.out.setCell (Nat.le_refl _) _⟩)⟩
        case measure => simp [intOf]; omega
      · simp only [pickO, List.filterMap_cons, List.filterMap_nil, List.getElem?_toArray, List.getElem?_cons_zero, List.getElem?_cons_succ] at hm
        subst hm
        clear q0 q1 q2 q3
        go_wp2_with fail
        refine ⟨rfl, trivial, ?_⟩
        try simp only [Act.put, List.setIfInBounds_toArray, List.set_cons_zero, List.set_cons_succ]
        refine plan_run fun m hm => ?_
        simp only [pickO, List.filterMap_cons, List.filterMap_nil, List.getElem?_toArray, List.getElem?_cons_zero, List.getElem?_cons_succ] at hm
        subst hm
        have q9 := (HId.out.f.alloc (.cells #[.int .i64 i0, .int .i64 x0, .int .i64 y0, .int .i64 z0] 68)).cell 3
        have q8 := HId.out.f.cell 3
        go_wp2_with fail
        clear q8 q9
        refine ⟨rfl, by rfl, ?_⟩
        refine plan_ev fun m hm => ?_
        simp only [pickO, List.filterMap_cons, List.filterMap_nil, List.getElem?_toArray, List.getElem?_cons_zero, List.getElem?_cons_succ] at hm
        subst hm
        refine appC (q := 4) (by_ := 32) (cs := #[.int .i64 i0, .int .i64 x0, .int .i64 y0, .int .i64 z0]) ⟨i0, x0, y0, z0⟩ Pt.is Tryd.underlying63 (by kernel_rfl) (by decide) (by decide) rfl (.tmp 34) (.tmp 56) rfl rfl rfl rfl HId.out.ow (by rw [List.length_take]; omega) HId.out.be.size ?_
        intro v7 w7 hO7 hK7 hb7
        obtain ⟨A7, n7, c7, rfl⟩ := hO7.form2
        have HF7 := Lib.hid (hK7 _ _ _ (by decide) HId.out.f)
        have HO7 := Lib.hid hO7
        have HB7 := Lib.hid (HId.out.be.trans hb7)
        clear hO7 hK7 hb7
        refine ⟨rfl, trivial, ?_⟩
        try simp only [Act.put, List.setIfInBounds_toArray, List.set_cons_zero, List.set_cons_succ]
        refine plan_run fun m hm => ?_
        simp only [pickO, List.filterMap_cons, List.filterMap_nil, List.getElem?_toArray, List.getElem?_cons_zero, List.getElem?_cons_succ] at hm
        subst hm
        go_wp2_with fail
        refine ⟨rfl, by rfl, ?_⟩
        refine plan_ev fun m hm => ?_
        simp only [pickO, List.filterMap_cons, List.filterMap_nil, List.getElem?_toArray, List.getElem?_cons_zero, List.getElem?_cons_succ] at hm
        subst hm
        have q3 : w7.cell? ⟨w.heap.size, 3, none⟩ = some (.slice V k cpv) := HF7.out.cell 3
        have q4 := HF7.out.frozen 3
        go_wp2_with fail
        refine ⟨rfl, trivial, ?_⟩
        try simp only [Act.put, List.setIfInBounds_toArray, List.set_cons_zero, List.set_cons_succ]
        refine plan_fin ?_
        go_wp2_with fail
        go_roundw
        case rel => exact ⟨k + 1, by omega, by go_num, Lib.hid (by rw [HPP.out]; exact ⟨_, HF7.out.set_ 3 _, HO7.out.set (HO7.out.neT HF7.out (by decide)) _, HB7.out.setCell (Nat.le_refl _) _⟩)⟩
        case measure => simp [intOf]; omega
    case neg =>
    obtain rfl : k = l.length := by omega
    rw [List.take_length] at HIk
    clear hk hkl
    have g0 : wr.cell? ⟨w.heap.size, 0, none⟩ = some (.int .i64 c) := HIk.out.f.cell 0
    have g1 : wr.cell? ⟨w.heap.size, 1, none⟩ = some (.int .i64 h) := HIk.out.f.cell 1
    have g2 : wr.cell? ⟨w.heap.size, 2, none⟩ = some (.int .i64 ww) := HIk.out.f.cell 2
    have g3 : wr.cell? ⟨w.heap.size, 3, none⟩ = some (.slice V l.length cpv) := HIk.out.f.cell 3
    obtain ⟨G, hG⟩ : ∃ G, G = Sg.frame c h ww l := ⟨_, rfl⟩
    have hV : SgV wr w.heap.size (.iface 65 (.agg #[.int .i64 c, .int .i64 h, .int .i64 ww, .slice V l.length cpv])) G := by rw [hG]; exact ⟨_, rfl, HIk.out.ow⟩
    have hok : G.ok := by rw [hG]; show l.length ≤ 1000000; omega
    have hby := bytes_any (HL.out.below (HB0.out.trans (HIk.out.be.mono HB0.out.size))) hV hok
    have hfr := frame_right (c := c) (h := h) (w := ww) (l := l)
    rw [← hG] at hfr
    have HBB := Lib.hid (HB0.out.trans (HIk.out.be.mono HB0.out.size))
    have HV := Lib.hid hV.r
    have HAR := Lib.hid (HA.out.bel HBB.out)
    by_cases he : byE G = 0
    case neg =>
      have h1 : byE G = 1 := by unfold byE at he ⊢; (repeat' split at he) <;> first | (exfalso; exact he rfl) | simp_all
      have hS : byS G = ⟨#[]⟩ := by unfold byS; rw [if_neg he]
      rw [h1, hS] at hby
      have HBY := Lib.hid hby
      have HNO := Lib.hid (fun hx => he (hfr.2 hx))
      clear hby hfr he h1 hS hok hV hG
      go_wp2_with (first | (go_at_call 11; refine (HBY.out).mono ?_; rintro ex w2 ⟨rfl, hb2⟩; have HB2 := Lib.hid hb2; clear hb2) | (go_at_call 15; refine (right_walk c h ww A cp l _ (HAR.out.bel HB2.out) (by omega)).mono ?_; rintro ex w3 ⟨⟨r, rfl, hr⟩, hb3⟩; obtain rfl : r = false := by { cases r; rfl; exact absurd (hr.1 rfl) HNO.out }; have HB3 := Lib.hid hb3; clear hb3 hr))
      go_ret
      exact ⟨rfl, HBB.out.trans ((HB2.out.trans (HB3.out.mono HB2.out.size)).mono HBB.out.size)⟩
    case pos =>
    have hokf := hfr.1 he
    obtain ⟨tx, htx⟩ : ∃ tx, tx = byS G := ⟨_, rfl⟩
    obtain ⟨t1, t2⟩ := byS_tail he
    have hpg : prG c (tx.extract 4 tx.size) = G ∧ prE c (tx.extract 4 tx.size) = 0 := by
      have := frame_to (tx.extract 4 tx.size) (by rw [htx, t2, hG]; rfl) hokf
      rw [hG]; exact ⟨this.2, this.1⟩
    have hsz : 4 ≤ tx.size := by rw [htx, t1]; omega
    have hsb : sgB G = false := (byE_zero he).1
    rw [he, ← htx] at hby
    have HBY := Lib.hid hby; have HSB := Lib.hid hsb; have HOK := Lib.hid hok; have HOF := Lib.hid hokf
    have HRP := Lib.hid (fun w1 => (refParse_walk c (tx.extract 4 tx.size) w1).mono (R' := fun e w' => ∃ cs, e = .returned (.tuple #[.agg cs, .int .i64 0]) ∧ cs.size = 13 ∧ cs.all (·.oneCell') = true ∧ RgR w' cs G ∧ Below w1.heap.size w1 w') (by
      rintro e w' ⟨cs, rfl, hz, ho, hv, hb⟩
      rw [hpg.1] at hv
      exact ⟨cs, by rw [hpg.2], hz, ho, (hv hpg.2).r, hb⟩))
    have hmin : min (4 : Int) (tx.size : Int) = 4 := by omega
    clear hby hfr he hok hokf hV hG hsb hpg t1 t2 htx
    go_upto_region 11 with (first | (go_at_call 11; refine (HBY.out).mono ?_; rintro ex w2 ⟨rfl, hb2⟩; have HB2 := Lib.hid hb2; clear hb2))
    clear g0 g1 g2 g3
    go_cut [13, 14] (fun a b wx => ∃ g cs, a = .pointer (some ⟨g, 0, none⟩) ∧ b = .int .i64 0 ∧ cs.size = 13 ∧ Hid (RgR wx cs G ∧ Blk wx g 38 cs ∧ Below w2.heap.size w2 wx))
    case first =>
      go_wp2_with (first | (go_at_call 12; refine (HRP.out _).mono ?_; rintro ex w3 ⟨cs, rfl, hz, ho, hr, hb3⟩; have HZ := Lib.hid hz; have H1 := Lib.hid ho; have HRG := Lib.hid hr; have HB3 := Lib.hid hb3; clear hz hr ho hb3) | (refine wpList_store_new rfl 38 (.tmp 13) _ rfl cs _ 38 rfl rfl (by rw [HZ.out]; kernel_rfl) (by rw [HZ.out]; rfl) H1.out ?_; intro w5 hs5 hB5 hb5; have HK5 := Lib.hid hB5; have HB5 := Lib.hid hb5; clear hs5 hB5 hb5) | (at_builtin; refine wpList_min rfl ?_))
      go_meet
      case rel => exact ⟨w3.heap.size, cs, rfl, rfl, HZ.out, Lib.hid ⟨HRG.out.bel HB5.out, HK5.out, HB3.out.trans (HB5.out.mono HB3.out.size)⟩⟩
    case rest =>
    obtain ⟨g, cs, rfl, rfl, hz, HJ⟩ := hcut
    obtain ⟨w5, rfl⟩ : ∃ w5, w5 = wc := ⟨_, rfl⟩
    have HZ := Lib.hid hz; clear hz
    have HB5 := Lib.hid (HB2.out.trans (HJ.out.2.2.mono HB2.out.size))
    have HF5 := Lib.hid (HIk.out.f.bel HB5.out)
    have g0 : w5.cell? ⟨w.heap.size, 0, none⟩ = some (.int .i64 c) := HF5.out.cell 0
    have g1 : w5.cell? ⟨w.heap.size, 1, none⟩ = some (.int .i64 h) := HF5.out.cell 1
    have g2 : w5.cell? ⟨w.heap.size, 2, none⟩ = some (.int .i64 ww) := HF5.out.cell 2
    have g3 : w5.cell? ⟨w.heap.size, 3, none⟩ = some (.slice V l.length cpv) := HF5.out.cell 3
    go_wp2_with (first | (refine wpList_load_midG (by rfl) 38 (.tmp 13) rfl g 0 rfl cs.toList _ (blk_range HJ.out.2.1) Tryd.underlying38 rfl (by rw [Array.length_toList, HZ.out]; kernel_rfl) ?_; rw [Array.toArray_toList]) | (go_at_call 13; refine (same_any (HV.out.bel HB5.out) HJ.out.1 HOK.out HSB.out).mono ?_; rintro ex w7 ⟨rfl, hb7⟩; have HB7 := Lib.hid hb7; clear hb7) | (go_at_call 15; refine (right_walk c h ww A cp l _ ((HAR.out.bel HB5.out).bel HB7.out) (by omega)).mono ?_; rintro ex w8 ⟨⟨r, rfl, hr⟩, hb8⟩; obtain rfl : r = true := hr.2 HOF.out; have HB8 := Lib.hid hb8; clear hb8 hr))
    go_ret
    exact ⟨rfl, HBB.out.trans (((HB5.out.trans (HB7.out.mono HB5.out.size)).trans (HB8.out.mono (Nat.le_trans HB5.out.size HB7.out.size))).mono HBB.out.size)⟩
theorem InS.pts {w : World} {A : Option Addr} {n : Nat} {f : Nat → Nat → Int} (h : InS w A n 4 (fun _ => IntKind.i64) f) : RdC Pt.cells 4 w A ((List.range n).map fun i => ⟨f i 0, f i 1, f i 2, f i 3⟩) := fun i hi => by
  have hi' : i < n := by simpa using hi
  obtain ⟨b, off, h1, h2, h3⟩ := h i hi'
  refine ⟨b, off, h1, h2, fun j hj => ?_⟩
  rw [(h3 j hj).1]
  simp only [List.getElem_map, List.getElem_range, Pt.cells]
  rcases (by omega : j = 0 ∨ j = 1 ∨ j = 2 ∨ j = 3) with rfl | rfl | rfl | rfl <;> rfl
theorem segFrames_walk (c h ww : Int) (A : Option Addr) (n cp : Nat) (f : Nat → Nat → Int) (w : World) (hL : Laid w) (hA : InS w A n 4 (fun _ => IntKind.i64) f) : Calls Tryd.prog 7 #[.int .i64 c, .int .i64 h, .int .i64 ww, .slice A n cp] w fun e w' => e = .returned (.bool true) ∧ Below w.heap.size w w' := by
  by_cases hn : 20 < n
  · exact frames_big c h ww A n cp hn w
  · have hlen : ((List.range n).map fun i => (⟨f i 0, f i 1, f i 2, f i 3⟩ : Pt)).length = n := by simp
    have := frames_in c h ww A cp ((List.range n).map fun i => ⟨f i 0, f i 1, f i 2, f i 3⟩) (by rw [hlen]; omega) w hL hA.pts
    rwa [hlen] at this
namespace lawSegFrames
open Go.ChangeShapes Go.WideShapes Go.ChangeAt Go.RowKit
theorem own : ownKnob Tryd.prog.godebug = none := by kernel_rfl
theorem laidOut : laidOutB Tryd.prog = true := by kernel_rfl
theorem gTab0 : Tryd.prog.globalNamed "aquatint/zig.order" = some 0 := by kernel_rfl
theorem gTabType0 : (Tryd.prog.globals[0]?).map (·.type) = some 136 := by kernel_rfl
theorem cellsT : Tryd.prog.cellsOf 136 = 64 := by kernel_rfl
theorem cellsE : Tryd.prog.cellsOf 3 = 1 := by kernel_rfl
theorem table {W : World} (h : laidMetH Tryd.prog Rows.segFramesRow.laid W) : Lib.TabIs Tryd.prog W "aquatint/zig.order" .i64 (ordL.map fun (n : Nat) => (n : Int)) :=
  Lib.tabIs_of_head (rest := []) gTab0 gTabType0 Tryd.underlying136 Tryd.underlying3 cellsE cellsT h
theorem laid_of {W : World} (h : laidMetH Tryd.prog Rows.segFramesRow.laid W) : Laid W := by
  have H : ∀ k, k < 64 → W.cell? ⟨0, k, none⟩ = some (.int .i64 (ord k)) := fun k hk => by
    have h1 := (table h).cell gTab0 k (by simpa [ordL] using hk)
    rw [h1]
    have h2 : ord k = ordL[k]'(by simpa [ordL] using hk) := by
      unfold ord
      rw [List.getD_eq_getElem?_getD, List.getElem?_eq_getElem (by simpa [ordL] using hk)]
      rfl
    rw [h2, List.getD_eq_getElem?_getD, List.getElem?_map, List.getElem?_eq_getElem (by simpa [ordL] using hk)]
    rfl
  exact ⟨block_lt_of_cell (H 0 (by omega)), H⟩
open Go.ChangeMaps (open_string shut_string)
theorem contract (H : Type) (enc : TypeId × Value → H) (W : World) (base : Nat) (args : Array Value) (ds gs : List (DataW H)) (before : List MemPlace)
    (hval : ∀ (j : Nat) t v, Tryd.f7.params[j]? = some t → args[j]? = some v → Value.okWide Tryd.prog W .any base t v)
    (hW : DataW.Whole enc Tryd.prog Tryd.f7.params.toList Rows.segFramesSpec.vars false W args.toList ds gs before) (hL : laidMetH Tryd.prog Rows.segFramesRow.laid W) (_hsz : (DataW.weightsEach Tryd.prog (Tryd.f7.params.toList ++ (OpenSpec.ofChange Rows.segFramesSpec).bare.plain.varTypes Tryd.prog) (ds ++ gs)).all (· ≤ reachBytes) = true) :
    Calls Tryd.prog 7 args W fun e W' => ∃ v, e = .returned v ∧ Rows.segFramesSpec.post enc Tryd.prog Tryd.f7 false true false false W args v W' := by
  have hW' := hW
  obtain ⟨p, q, hA0, hV, hbefore, hfz, hnd⟩ := hW
  obtain ⟨rfl, rfl⟩ := trodVars_none hV
  have hA : DataW.TrodAll enc Tryd.prog W 0 (fun _ => true) true Tryd.f7.params.toList args.toList ds p := hA0
  rw [Tryd.params7] at hA hval
  obtain ⟨v0, vs1, d0, ds1, p0, q0, hargs, rfl, hps, h0, r0⟩ := trodAll_cons hA
  obtain ⟨v1, vs2, d1, ds2, p1, q1, rfl, rfl, rfl, h1, r1⟩ := trodAll_cons r0
  obtain ⟨v2, vs3, d2, ds3, p2, q2, rfl, rfl, rfl, h2, r2⟩ := trodAll_cons r1
  obtain ⟨v3, vs4, d3, ds4, p3, q3, rfl, rfl, rfl, h3, r3⟩ := trodAll_cons r2
  obtain ⟨rfl, rfl, rfl⟩ := trodAll_nil r3
  obtain rfl : args = #[v0, v1, v2, v3] := by cases args; simp_all
  have o0 := hval 0 3 v0 rfl rfl
  have o1 := hval 1 3 v1 rfl rfl
  have o2 := hval 2 3 v2 rfl rfl
  have o3 := hval 3 35 v3 rfl rfl
  clear hA0
  obtain ⟨x, rfl, rfl, rfl, wx⟩ := open_int Tryd.underlying3 o0 h0
  obtain ⟨y, rfl, rfl, rfl, wy⟩ := open_int Tryd.underlying3 o1 h1
  obtain ⟨z, rfl, rfl, rfl, wz⟩ := open_int Tryd.underlying3 o2 h2
  obtain ⟨A, n, c, f, rfl, hnc, hA⟩ := openInS Tryd.underlying35 Tryd.underlying67 (by kernel_rfl) (by kernel_rfl) (by decide) (fun _ => IntKind.i64) (by intro j f h; match j, h with | 0, h => (cases h; exact Tryd.underlying3) | 1, h => (cases h; exact Tryd.underlying3) | 2, h => (cases h; exact Tryd.underlying3) | 3, h => (cases h; exact Tryd.underlying3) | j + 4, h => simp at h) o3 h3
  refine (segFrames_walk x y z A n c f W (laid_of hL) hA).mono fun e W' ⟨he, hb⟩ => ?_
  subst he
  exact ⟨_, rfl, law_post laidOut (by rw [Tryd.params7]; intro t ht; simp only [List.mem_cons, List.not_mem_nil, or_false] at ht; rcases ht with rfl | rfl | rfl | rfl <;> exact ⟨by kernel_rfl, of_decide_eq_true (by kernel_rfl)⟩) (by kernel_rfl) Tryd.underlying4 hW' rfl rfl hb⟩
theorem gTab : Tryd.prog.globalNamed "aquatint/zig.order" = some 0 := by kernel_rfl
theorem gTabType : (Tryd.prog.globals[0]?).map (·.type) = some 136 := by kernel_rfl
/-- A world for the witness: the settled one, the table holding what its initialiser lays. -/
noncomputable def laidWorld (os : Os) : World :=
  { World.holding Tryd.prog os ⟨#[], #[], []⟩ with heap := (World.holding Tryd.prog os ⟨#[], #[], []⟩).heap.modify 0 fun
      | .cells _ t frozen => .cells #[.int .i64 0, .int .i64 1, .int .i64 8, .int .i64 16, .int .i64 9, .int .i64 2, .int .i64 3, .int .i64 10, .int .i64 17, .int .i64 24, .int .i64 32, .int .i64 25, .int .i64 18, .int .i64 11, .int .i64 4, .int .i64 5, .int .i64 12, .int .i64 19, .int .i64 26, .int .i64 33, .int .i64 40, .int .i64 48, .int .i64 41, .int .i64 34, .int .i64 27, .int .i64 20, .int .i64 13, .int .i64 6, .int .i64 7, .int .i64 14, .int .i64 21, .int .i64 28, .int .i64 35, .int .i64 42, .int .i64 49, .int .i64 56, .int .i64 57, .int .i64 50, .int .i64 43, .int .i64 36, .int .i64 29, .int .i64 22, .int .i64 15, .int .i64 23, .int .i64 30, .int .i64 37, .int .i64 44, .int .i64 51, .int .i64 58, .int .i64 59, .int .i64 52, .int .i64 45, .int .i64 38, .int .i64 31, .int .i64 39, .int .i64 46, .int .i64 53, .int .i64 60, .int .i64 61, .int .i64 54, .int .i64 47, .int .i64 55, .int .i64 62, .int .i64 63] t frozen
      | o => o }
theorem laid_met (os : Os) : laidMet Tryd.prog Rows.segFramesRow.laid ((laidWorld os).forCall (fun _ _ => 0) ⟨#[], #[Value.int .i64 0, Value.int .i64 0, Value.int .i64 0, Value.slice none 0 0], []⟩).memory :=
  laidMet_of_run' 8 (by kernel_rfl) (by kernel_rfl)
theorem reads (os : Os) {H : Type} (enc : TypeId × Value → H) : ∃ places, DataW.whole enc Tryd.prog ((laidWorld os).forCall (fun _ _ => 0) ⟨#[], #[Value.int .i64 0, Value.int .i64 0, Value.int .i64 0, Value.slice none 0 0], []⟩).memory Tryd.f7.params.toList Rows.segFramesSpec.vars false #[Value.int .i64 0, Value.int .i64 0, Value.int .i64 0, Value.slice none 0 0].toList 8 = some ([.lit (.int .i64 0), .lit (.int .i64 0), .lit (.int .i64 0), .nil], [], places) :=
  ⟨[], by kernel_rfl⟩
set_option maxRecDepth 100000 in
theorem lifted (os : Os) (started : os.Started) (H : Type) (enc : TypeId × Value → H) (F : Stop.Interp) :
    ReturnsInHanded {} Tryd.checked os 7 .any ((OpenSpec.ofChange Rows.segFramesSpec).preRow enc Tryd.prog Tryd.f7 Rows.segFramesRow.domain false Rows.segFramesRow.laid) (((OpenSpec.ofChange Rows.segFramesSpec).at F).post enc Tryd.prog Tryd.f7 false true false false) := by
  obtain ⟨places, hx⟩ := reads os enc
  refine returnsInHanded_of_row (C := Tryd.checked) (s := (OpenSpec.ofChange Rows.segFramesSpec)) own started (by kernel_rfl) Tryd.func7
    (witness_row_at (enc := enc) (C := Tryd.checked) false (laidWorld os) #[Value.int .i64 0, Value.int .i64 0, Value.int .i64 0, Value.slice none 0 0] rfl (by kernel_rfl) (by kernel_rfl) (by kernel_rfl)
      (OpenSpec.preRow_of_cond 8 hx (by kernel_rfl) (fun k hk => by cases hk) (by kernel_rfl) (laid_met os))) ?_
  intro W base args ds gs before hval hW _ _ hsz hL _ _
  exact contract H enc W base args ds gs before hval hW hL hsz
theorem said : Rows.SegFramesSaid :=
  OpenClaim.holds_of_cond 7 Tryd.f7 rfl rfl rfl rfl rfl rfl rfl ⟨rfl, rfl, rfl, rfl, rfl⟩ rfl rfl rfl rfl rfl (by kernel_rfl) Tryd.func7 (by kernel_rfl)
    (of_decide_eq_true (by kernel_rfl)) (by unfold Func.isWrapper; first | (rw [if_pos (by decide +kernel)]; kernel_rfl) | (rw [if_neg (by decide +kernel)]; exact ⟨rfl, rfl⟩))
    (fun os started H enc _ F => by rw [OpenClaim.pre_eq_preRow]; exact lifted os started H enc F)
theorem plain (f : FuncId) (fn : Func) (hf : Tryd.pinned.checked.prog.funcNamed "aquatint/aquatintlaw07.SegFrames" = some f) (hfn : Tryd.pinned.checked.prog.funcs[f]? = some fn) :
    true = Tryd.pinned.checked.prog.looks [] ∧ ∀ (j : Nat) t, fn.params[j]? = some t → Tryd.pinned.checked.prog.wantsStandIn t = false := by
  obtain rfl : f = 7 := Option.some.inj ((show Tryd.prog.funcNamed "aquatint/aquatintlaw07.SegFrames" = some 7 by kernel_rfl).symm.trans hf) |>.symm
  obtain rfl : fn = Tryd.f7 := (Option.some.inj (Tryd.func7.symm.trans hfn)).symm
  refine ⟨by kernel_rfl, fun j t ht => ?_⟩
  rw [Tryd.params7] at ht
  have hm := Array.mem_of_getElem? ht
  simp only [List.mem_toArray, List.mem_cons, List.not_mem_nil, or_false] at hm
  rcases hm with rfl | rfl | rfl | rfl
  · exact (show Tryd.prog.wantsStandIn 3 = false by kernel_rfl)
  · exact (show Tryd.prog.wantsStandIn 3 = false by kernel_rfl)
  · exact (show Tryd.prog.wantsStandIn 3 = false by kernel_rfl)
  · exact (show Tryd.prog.wantsStandIn 35 = false by kernel_rfl)
/-- The card. -/
theorem card : Rows.SegFramesCardSaid :=
  Claim7.holds_tied_plain_at .later [] _ _ _ _ said (fun _ h => by cases h) (by kernel_rfl) (fun _ h => by cases h) segFrames_row_tie rfl ⟨rfl, rfl⟩ (by kernel_rfl) rfl plain (by kernel_rfl)
#print axioms card
end lawSegFrames
end Go.Proofs.YtdohhhkondokkaaDoor
