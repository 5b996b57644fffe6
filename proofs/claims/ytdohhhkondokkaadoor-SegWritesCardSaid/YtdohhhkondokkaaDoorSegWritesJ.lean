/- Whatever tables one makes up, they are written only if they are read back as they are. No condition but the card's own: the table holds what the program's text lays. -/
import Derived.Test.YtdohhhkondokkaaDoorSegE
import Derived.Test.YtdohhhkondokkaaDoorSegD
import Derived.Test.YtdohhhkondokkaaDoorSegH
import Derived.Test.YtdohhhkondokkaaDoorSegV
import Derived.Test.YtdohhhkondokkaaDoorSegY
import Derived.Test.YtdohhhkondokkaaDoorRsF
import Derived.Test.YtdohhhkondokkaaDoorOwnC
import Derived.SizedLaws
import Derived.Deep.Slices
import Derived.Deep.Fields
import Derived.ChangeArms
import Derived.OpenShut
import Derived.Test.YtdohhhkondokkaaDoorCards
import Derived.Test.YtdohhhkondokkaaDoorTie
import Derived.Deep.DeepHandedRow
import Derived.Lib.LaidTab
namespace Go.Proofs.YtdohhhkondokkaaDoor
open Go.RowKit
set_option linter.unusedSimpArgs false
set_option linter.unusedVariables false
set_option maxHeartbeats 1000000 in
theorem parse_rst (s : ByteArray) (hs : s.size = 2) (w : World) :
    Calls Tryd.prog 9 #[.int .i64 221, .string s] w fun e w' => e = .returned (.tuple #[.iface 61 (.agg #[.int .i64 (numL s.data.toList)]), .int .i64 0]) ∧ Below w.heap.size w w' := by
  have hm := may_walk 221
  rw [show mayC 221 = 0 by decide] at hm
  have HM := Lib.hid hm; clear hm
  obtain ⟨y, hy⟩ : ∃ y, y = numL s.data.toList := ⟨_, rfl⟩
  have hV : nxV s 2 0 0 = y := by rw [nxV, nxE, if_pos (by omega), hy, show 0 + 2 = s.size by omega, ByteArray.extract_zero_size]
  have hE : nxE s 2 0 0 = 0 := by simp [nxE, hs]
  have hA : nxA s 2 0 = 2 := by simp [nxA, hs]
  have hN := fun w r g (hne : r ≠ g) hr hc => num_walkR 2 (by decide) (by decide) w r g 0 s 0 (by omega) (by omega) hne hr hc
  rw [hV, hE, hA] at hN
  rw [← hy]
  have HN := Lib.hid hN; clear hN hV hE hA hy
  have hlen : decide (65533 < (s.size : Int)) = false := by rw [hs]; decide
  go_enter Tryd.func9, Tryd.ntmps9
  go_wp2_with (first | (go_at_call 20; refine (HM.out _).mono ?_; rintro ex w1 ⟨rfl, rfl⟩) | (go_at_call 21; refine (new_walk s _).mono ?_; rintro ex w2 ⟨rfl, hc, hb, hlt⟩; have HC := Lib.hid hc; have HB := Lib.hid hb; have HLT := Lib.hid hlt; clear hc hb hlt) | (go_at_call 25; refine (HN.out _ _ _ (by have := HLT.out; omega) (Blk.new _ _ _) (Blk.alloc HC.out _)).mono ?_; rintro ex w3 ⟨rfl, hr3, hc3, ht3⟩; have HR3 := Lib.hid hr3; have HC3 := Lib.hid hc3; have HT3 := Lib.hid ht3; have c30 := hr3.g_; clear hr3 hc3 ht3) | (go_at_call 29; refine (left_walk _ _ 2 s (by omega) (by omega) HC3.out).mono ?_; rintro ex w4 ⟨rfl, rfl⟩) | (go_at_call 28; refine (test_walk _ _ _ 0 4 true (Blk.drew HR3.out)).mono ?_; rintro ex w5 ⟨rfl, hr5, ho5⟩; have c51 : w5.cell? ⟨w2.heap.size, 1, none⟩ = some (.int .i64 0) := Rdr.e_ hr5; have HO5 := Lib.hid ho5; clear hr5 ho5))
  go_ret2
  have h0 := HB.out.size
  have ha : Below w.heap.size w (w2.alloc (.cells #[.pointer (some ⟨w.heap.size, 0, none⟩), .int .i64 0] 87)) := HB.out.alloc h0 _
  have h3 := ha.trans (HT3.out.below (Nat.le_refl _) h0 ha.size)
  exact ⟨rfl, h3.drew.trans (HO5.out.below h0 h3.drew.size)⟩
end Go.Proofs.YtdohhhkondokkaaDoor
namespace Go.Proofs.YtdohhhkondokkaaDoor
open Go.RowKit
set_option linter.unusedSimpArgs false
set_option linter.unusedVariables false
set_option maxRecDepth 100000
theorem bodyNil_walk (b : Nat) (w : World) :
    Calls Tryd.prog 30 #[.pointer (some ⟨b, 0, none⟩), .nilIface] w fun e w' => e = .returned (.bool false) ∧ Below w.heap.size w w' := by
  go_enter Tryd.func30, Tryd.ntmps30
  go_wp2
  go_ret
  exact ⟨rfl, Below.refl _ _⟩
set_option maxHeartbeats 1000000 in
theorem bodyRst_walk (B b : Nat) (n : Int) (w : World) (h : Wtr B b [] false w) :
    Calls Tryd.prog 30 #[.pointer (some ⟨b, 0, none⟩), .iface 61 (.agg #[.int .i64 n])] w fun e w' => e = .returned (.bool true) ∧ Wtr B b (putL n 2) (putB n 2) w' ∧ Below B w w' := by
  have hBw : B ≤ w.heap.size := by rcases h with h | h <;> exact h.2.1
  have ha := h.bel ((Below.refl w.heap.size w).alloc (Nat.le_refl _) (.cells #[.int .i64 n] 61))
  have HW := Lib.hid ha
  clear h ha
  go_enter Tryd.func30, Tryd.ntmps30
  go_wp2_with (first | (go_at_call 49; refine (wnum_walk B b [] n 2 (by decide) (by decide) false _ (by simp) HW.out).mono ?_; rintro ex w2 ⟨rfl, h2, hb2, _⟩; have HW2 := Lib.hid h2; have HB2 := Lib.hid hb2; clear h2 hb2))
  go_ret
  exact ⟨rfl, by simpa using HW2.out, ((Below.refl B w).alloc hBw _).trans HB2.out⟩
theorem bytesNil_walk (w : World) :
    Calls Tryd.prog 11 #[.nilIface] w fun e w' => e = .returned (.tuple #[.string ⟨#[]⟩, .int .i64 1]) ∧ Below w.heap.size w w' := by
  go_enter Tryd.func11, Tryd.ntmps11
  go_wp2_with (first | (go_at_call 30; refine (bodyNil_walk _ _).mono ?_; rintro ex w2 ⟨rfl, hb2⟩; have HB2 := Lib.hid hb2; clear hb2))
  go_ret2
  have h1 := (Below.refl w.heap.size w).alloc (Nat.le_refl _) (.cells #[.int .i64 0] 43)
  have h2 := h1.alloc h1.size (.cells #[.pointer none, .slice none 0 0, .bool false] 101)
  exact ⟨rfl, h2.trans (HB2.out.mono h2.size)⟩
theorem bytesBare_walk (c : Int) (h : 208 ≤ c ∧ c ≤ 217) (w : World) :
    Calls Tryd.prog 11 #[.iface 43 (.agg #[.int .i64 c])] w fun e w' => e = .returned (.tuple #[.string (⟨#[255, UInt8.ofNat c.toNat]⟩), .int .i64 0]) ∧ Below w.heap.size w w' := by
  have d1 : decide (c < 208) = false := by simp; omega
  have d2 : decide (217 < c) = false := by simp; omega
  have hbl : Blk ((w.alloc (.cells #[.int .i64 c] 43)).alloc (.cells #[.int .u8 c] 5)) (w.heap.size + 1) 5 (cellsU [c]) := by
    have := Blk.new (w.alloc (.cells #[.int .i64 c] 43)) 5 #[.int .u8 c]
    rw [show (w.alloc (.cells #[.int .i64 c] 43)).heap.size = w.heap.size + 1 from World.size_alloc _ _] at this
    exact this
  have hcv := conv_U (n := 1) (c := 1) hbl rfl
  clear hbl
  go_enter Tryd.func11, Tryd.ntmps11
  go_wp2
  go_ret2
  have h1 := (Below.refl w.heap.size w).alloc (Nat.le_refl _) (.cells #[.int .i64 c] 43)
  exact ⟨rfl, h1.alloc h1.size _⟩
theorem codeRst_walk (n : Int) (w : World) : Calls Tryd.prog 77 #[.agg #[.int .i64 n]] w fun e w' => e = .returned (.int .i64 221) ∧ Below w.heap.size w w' := by
  go_enter Tryd.func77, Tryd.ntmps77
  go_wp2
  go_ret
  exact ⟨rfl, (Below.refl _ w).alloc (Nat.le_refl _) _⟩
theorem bytesRst8 (w : World) :
    Calls Tryd.prog 11 #[.iface 61 (.agg #[.int .i64 8])] w fun e w' => e = .returned (.tuple #[.string ⟨#[255, 221, 0, 4, 0, 8]⟩, .int .i64 0]) ∧ Below w.heap.size w w' := by
  have hb : BodyK w (.iface 61 (.agg #[.int .i64 8])) [0, 8] false := fun w1 hb0 h => (bodyRst_walk w.heap.size (w.heap.size + 1) 8 w1 h).mono fun _ _ ⟨a1, a2, a3⟩ => ⟨a1, a2, hb0.trans a3⟩
  have hp : ParseK w 221 [0, 8] 0 := fun w1 _ => (parse_rst ⟨#[0, 8]⟩ rfl w1).mono fun e w' ⟨h, hb⟩ => ⟨⟨_, h⟩, hb⟩
  have h := bytesOk_Restart (.agg #[.int .i64 8]) 221 [0, 8] (by decide) w hb (codeRst_walk 8) hp
  have e : (⟨(putL (bits .or .i64 65280 221) 2).toArray⟩ ++ ⟨(putL (([0, 8] : List UInt8).length + 2 : Nat) 2).toArray⟩ ++ ⟨([0, 8] : List UInt8).toArray⟩ : ByteArray) = ⟨#[255, 221, 0, 4, 0, 8]⟩ := by decide +kernel
  rw [e] at h
  exact h
theorem bytesBare_no (c : Int) (h : c < 208 ∨ 217 < c) (w : World) :
    Calls Tryd.prog 11 #[.iface 43 (.agg #[.int .i64 c])] w fun e w' => e = .returned (.tuple #[.string ⟨#[]⟩, .int .i64 1]) ∧ Below w.heap.size w w' := by
  by_cases h1 : c < 208
  · have d1 : decide (c < 208) = true := by simpa using h1
    go_enter Tryd.func11, Tryd.ntmps11
    go_wp2
    go_ret2
    exact ⟨rfl, (Below.refl _ w).alloc (Nat.le_refl _) _⟩
  · have d1 : decide (c < 208) = false := by simpa using h1
    have d2 : decide (217 < c) = true := by simp; omega
    go_enter Tryd.func11, Tryd.ntmps11
    go_wp2
    go_ret2
    exact ⟨rfl, (Below.refl _ w).alloc (Nat.le_refl _) _⟩
theorem segAwake (w : World) : Calls Tryd.prog 10 #[] w fun e w' => e = .returned (.bool true) ∧ Below w.heap.size w w' := by
  go_enter Tryd.func10, Tryd.ntmps10
  go_wp2_with (first | (go_at_call 9; refine (parse_rst ⟨#[0, 8]⟩ rfl _).mono ?_; rintro e w1 ⟨rfl, hb1⟩; have HB1 := Lib.hid hb1; clear hb1; rw [show numL (⟨#[0, 8]⟩ : ByteArray).data.toList = 8 by decide]) | (go_at_call 11; refine (bytesRst8 _).mono ?_; rintro e w2 ⟨rfl, hb2⟩; have HB2 := Lib.hid hb2; clear hb2))
  go_ret
  exact ⟨rfl, HB1.out.trans (HB2.out.mono HB1.out.size)⟩
end Go.Proofs.YtdohhhkondokkaaDoor
namespace Go.Proofs.YtdohhhkondokkaaDoor
open Go.RowKit
set_option linter.unusedSimpArgs false
set_option linter.unusedVariables false
theorem numL_byZ (m : Nat) : ∀ n : Int, 0 ≤ n → n < 256 ^ m → numL (byL n m) = n := by
  induction m with
  | zero => intro n h0 h1; simp at h1; have : n = 0 := by omega
            subst this; rfl
  | succ m ih =>
    intro n h0 h1
    rw [byL, numL_snoc, ih (n / 256) (by omega) (by rw [Int.pow_succ] at h1; omega)]
    have : ((UInt8.ofNat (n % 256).toNat).toNat : Int) = n % 256 := by
      have h2 : (UInt8.ofNat (n % 256).toNat).toNat = (n % 256).toNat := by simp; omega
      rw [h2]; omega
    rw [this]; omega
theorem putB_no {n : Int} {m : Nat} (h : putB n m = false) : 0 ≤ n ∧ n < 256 ^ m := by
  have := of_decide_eq_false h
  exact Decidable.not_not.1 this
theorem putL_ok {n : Int} {m : Nat} (h : putB n m = false) : putL n m = byL n m := if_pos (putB_no h)
theorem putL_app {n n' : Int} {m : Nat} {r r' : List UInt8} (h1 : putB n m = false) (h2 : putB n' m = false) (h : putL n m ++ r = putL n' m ++ r') : n = n' ∧ r = r' := by
  rw [putL_ok h1, putL_ok h2] at h
  obtain ⟨h3, h4⟩ := List.append_inj h (by rw [byL_length, byL_length])
  refine ⟨?_, h4⟩
  rw [← numL_byZ m n (putB_no h1).1 (putB_no h1).2, ← numL_byZ m n' (putB_no h2).1 (putB_no h2).2, h3]
theorem hvB_no {a b : Int} (h : hvB a b = false) : 0 ≤ a ∧ a ≤ 15 ∧ 0 ≤ b ∧ b ≤ 15 := by
  have := of_decide_eq_false h
  omega
theorem hvL_app {a b a' b' : Int} {r r' : List UInt8} (h1 : hvB a b = false) (h2 : hvB a' b' = false) (h : hvL a b ++ r = hvL a' b' ++ r') : a = a' ∧ b = b' ∧ r = r' := by
  obtain ⟨h3, h4⟩ := putL_app (hv_putB a b) (hv_putB a' b') h
  have := hvB_no h1; have := hvB_no h2
  exact ⟨by omega, by omega, h4⟩
theorem zW_app {f g : Nat → Int} {m : Nat} : ∀ (k : Nat) {r r' : List UInt8}, zB f m k = false → zB g m k = false → zW f m k ++ r = zW g m k ++ r' → (∀ j, j < k → f j = g j) ∧ r = r'
  | 0, r, r', _, _, h => ⟨fun j hj => by omega, by simpa [zW] using h⟩
  | k + 1, r, r', h1, h2, h => by
    simp only [zB, Bool.or_eq_false_iff] at h1 h2
    simp only [zW, List.append_assoc] at h
    obtain ⟨h3, h4⟩ := zW_app k h1.1 h2.1 h
    obtain ⟨h5, h6⟩ := putL_app h1.2 h2.2 h4
    exact ⟨fun j hj => by rcases Nat.lt_or_ge j k with hj | hj; exact h3 j hj; rw [show j = k by omega]; exact h5, h6⟩
/-- What is written of one tells it, whatever stands behind. -/
structure Uniq {α : Type} (f : α → List UInt8) (b : α → Bool) (c : α → List Value) : Prop where
  ne : ∀ p, b p = false → f p ≠ []
  app : ∀ p p' r r', b p = false → b p' = false → f p ++ r = f p' ++ r' → c p = c p' ∧ r = r'
theorem catW_uniq {α : Type} {f : α → List UInt8} {b : α → Bool} {c : α → List Value} (h : Uniq f b c) : ∀ (l l' : List α), l.any b = false → l'.any b = false → catW f l = catW f l' → l.map c = l'.map c
  | [], [], _, _, _ => rfl
  | [], x :: l', _, h2, h3 => by
    simp only [List.any_cons, Bool.or_eq_false_iff] at h2
    have : f x ++ catW f l' = [] := by simpa [catW] using h3.symm
    exact absurd (List.append_eq_nil_iff.1 this).1 (h.ne x h2.1)
  | x :: l, [], h1, _, h3 => by
    simp only [List.any_cons, Bool.or_eq_false_iff] at h1
    have : f x ++ catW f l = [] := by simpa [catW] using h3
    exact absurd (List.append_eq_nil_iff.1 this).1 (h.ne x h1.1)
  | x :: l, y :: l', h1, h2, h3 => by
    simp only [List.any_cons, Bool.or_eq_false_iff] at h1 h2
    have e : f x ++ catW f l = f y ++ catW f l' := by simpa [catW] using h3
    obtain ⟨h4, h5⟩ := h.app x y _ _ h1.1 h2.1 e
    rw [List.map_cons, List.map_cons, h4, catW_uniq h l l' h1.2 h2.2 h5]
theorem hvL_ne (a b : Int) : hvL a b ≠ [] := by
  intro h
  have h2 : hvL a b = byL (a % 16 * 16 + b % 16) 1 := putL_ok (hv_putB a b)
  rw [h2] at h
  have := congrArg List.length h
  rw [byL_length] at this
  cases this
theorem arrN_congr' (K : IntKind) {n : Nat} {u v : Nat → Int} (h : ∀ j, j < n → u j = v j) : (arrN K n u).toList = (arrN K n v).toList := by rw [arrN_congr K h]
theorem qt_uniq : Uniq qtW qtB Qt.cells where
  ne := fun p _ h => by rw [qtW] at h; exact hvL_ne _ _ (List.append_eq_nil_iff.1 h).1
  app := fun p p' r r' h1 h2 h => by
    simp only [qtB, Bool.or_eq_false_iff] at h1 h2
    rw [qtW, qtW, List.append_assoc, List.append_assoc] at h
    obtain ⟨e1, e2, e3⟩ := hvL_app h1.1 h2.1 h
    have hw : p.wide = p'.wide := by
      unfold szW at e1
      cases hp : p.wide <;> cases hp' : p'.wide <;> simp [hp, hp'] at e1 ⊢
    have hs : szW p = szW p' := by unfold szW; rw [hw]
    rw [hs] at e3 h1
    obtain ⟨e4, e5⟩ := zW_app 64 h1.2 h2.2 e3
    refine ⟨?_, e5⟩
    have e6 : ∀ j, j < 64 → p.q j = p'.q j := fun j hj => by
      have hi : inv j < 64 := (by decide +kernel : ∀ k < 64, inv k < 64) j hj
      have := e4 (inv j) hi
      rwa [ord_inv j hj] at this
    rw [Qt.cells, Qt.cells, e2, hw, arrN_congr' .u16 e6]
theorem cS_congr {f g : Nat → Int} : ∀ (k : Nat), (∀ j, j < k → f j = g j) → cS f k = cS g k
  | 0, _ => rfl
  | k + 1, h => by rw [cS, cS, cS_congr k (fun j hj => h j (by omega)), h k (by omega)]
theorem hf_uniq : Uniq hfW hfB Hf.cells where
  ne := fun p _ h => by rw [hfW, List.append_assoc] at h; exact hvL_ne _ _ (List.append_eq_nil_iff.1 h).1
  app := fun p p' r r' h1 h2 h => by
    simp only [hfB, Bool.or_eq_false_iff, bne_eq_false_iff_eq] at h1 h2
    rw [hfW, hfW, List.append_assoc, List.append_assoc, List.append_assoc, List.append_assoc] at h
    obtain ⟨e1, e2, e3⟩ := hvL_app h1.1.1 h2.1.1 h
    obtain ⟨e4, e5⟩ := zW_app 16 h1.1.2 h2.1.2 e3
    have hs : p.sym.size = p'.sym.size := by have a := h1.2; have b := h2.2; rw [cS_congr 16 e4] at a; omega
    obtain ⟨e6, e7⟩ := List.append_inj e5 (by rw [Array.length_toList, Array.length_toList]; exact hs)
    have e8 : p.sym = p'.sym := ByteArray.ext (Array.toList_inj.1 e6)
    exact ⟨by rw [Hf.cells, Hf.cells, e1, e2, e8, arrN_congr' .u8 e4], e7⟩
theorem pt_uniq : Uniq ptW ptB Pt.cells where
  ne := fun p _ h => by rw [ptW, List.append_assoc] at h; exact hvL_ne _ _ (List.append_eq_nil_iff.1 (List.append_eq_nil_iff.1 h).2).1
  app := fun p p' r r' h1 h2 h => by
    simp only [ptB, Bool.or_eq_false_iff] at h1 h2
    rw [ptW, ptW, List.append_assoc, List.append_assoc, List.append_assoc, List.append_assoc] at h
    obtain ⟨e1, e2⟩ := putL_app h1.1.1 h2.1.1 h
    obtain ⟨e3, e4, e5⟩ := hvL_app h1.1.2 h2.1.2 e2
    obtain ⟨e6, e7⟩ := putL_app h1.2 h2.2 e5
    exact ⟨by rw [Pt.cells, Pt.cells, e1, e3, e4, e6], e7⟩
theorem pt_inj {l l' : List Pt} (h : l.map Pt.cells = l'.map Pt.cells) : l = l' := by
  have hi : ∀ p q : Pt, p.cells = q.cells → p = q := fun p q e => by
    cases p; cases q
    simp only [Pt.cells, List.cons.injEq, Value.int.injEq, true_and, and_true] at e
    obtain ⟨e1, e2, e3, e4⟩ := e
    subst e1 e2 e3 e4
    rfl
  induction l generalizing l' with
  | nil => cases l' with
    | nil => rfl
    | cons _ _ => simp at h
  | cons x l ih => cases l' with
    | nil => simp at h
    | cons y l' =>
      simp only [List.map_cons, List.cons.injEq] at h
      rw [hi x y h.1, ih h.2]
theorem frame_uniq {h w h' w' : Int} {l l' : List Pt} (h1 : frB h w l = false) (h2 : frB h' w' l' = false) (he : frW h w l = frW h' w' l') : h = h' ∧ w = w' ∧ l = l' := by
  simp only [frB, Bool.or_eq_false_iff] at h1 h2
  simp only [frW, List.append_assoc] at he
  obtain ⟨_, e2⟩ := putL_app (by decide) (by decide) he
  obtain ⟨e3, e4⟩ := putL_app h1.1.1.1 h2.1.1.1 e2
  obtain ⟨e5, e6⟩ := putL_app h1.1.1.2 h2.1.1.2 e4
  obtain ⟨_, e8⟩ := putL_app h1.1.2 h2.1.2 e6
  exact ⟨e3, e5, pt_inj (catW_uniq pt_uniq l l' h1.2 h2.2 e8)⟩
/-! ### A frame that may be is read -/
theorem tS_tt (t : St) (x : Int) : tS t true x = t := by cases t; simp [tS, stp]
theorem nS_at {s : ByteArray} {pre post : List UInt8} {n : Int} {m a : Nat} (hs : s.data.toList = pre ++ (putL n m ++ post)) (ha : a = pre.length) (hb : putB n m = false) : nS s m ⟨a, 0⟩ = ⟨a + m, 0⟩ ∧ nV s m ⟨a, 0⟩ = n := by
  subst ha
  rw [putL_ok hb] at hs
  have hz : s.size = pre.length + (m + post.length) := by
    have := congrArg List.length hs
    rw [List.length_append, List.length_append, byL_length, Array.length_toList] at this
    exact this
  have hle : pre.length + m ≤ s.size := by omega
  have hE : nxE s m pre.length 0 = 0 := if_pos hle
  refine ⟨?_, ?_⟩
  · show St.mk (nxA s m pre.length) (nxE s m pre.length 0) = _
    rw [hE]; unfold nxA; rw [if_pos hle]
  · show nxV s m pre.length 0 = n
    unfold nxV
    rw [if_pos hE, bs_ext]
    have : bs s pre.length (pre.length + m) = byL n m := by
      unfold bs
      rw [hs, List.take_append, List.take_of_length_le (by omega), List.drop_left, Nat.add_sub_cancel_left, List.take_append, byL_length, Nat.sub_self, List.take_zero, List.append_nil, List.take_of_length_le (by rw [byL_length]; exact Nat.le_refl _)]
    rw [this, numL_byZ m n (putB_no hb).1 (putB_no hb).2]
theorem idT_all {x id : Int} {l : List Int} (t : St) (h : ∀ y ∈ l, y ≠ id) : idT x id l t = t := by
  induction l generalizing t with
  | nil => rfl
  | cons y l ih =>
    have e : idT x id (y :: l) t = idT x id l (tS t (y != id) x) := rfl
    rw [e, show (y != id) = true by simpa using h y (by simp), tS_tt]
    exact ih t (fun z hz => h z (by simp [hz]))
theorem pt1_fwd {s : ByteArray} {pre post : List UInt8} {a : Nat} {p : Pt} {l : List Pt} (hs : s.data.toList = pre ++ (ptW p ++ post)) (ha : a = pre.length) (hp : p.rng) (hn : ∀ x ∈ l, x.id ≠ p.id) : pt1 s (⟨a, 0⟩, l) = (⟨a + 3, 0⟩, l ++ [p]) := by
  obtain ⟨i0, i1, a0, a1, b0, b1, q0, q1⟩ := hp
  have B1 : putB p.id 1 = false := decide_eq_false (by simp; omega)
  have B2 : putB (p.h * 16 + p.v) 1 = false := decide_eq_false (by simp; omega)
  have B3 : putB p.q 1 = false := decide_eq_false (by simp; omega)
  have eh : hvL p.h p.v = putL (p.h * 16 + p.v) 1 := by unfold hvL; congr 1; omega
  rw [ptW, eh] at hs
  have l1 : (putL p.id 1).length = 1 := by rw [putL_ok B1, byL_length]
  have l2 : (putL (p.h * 16 + p.v) 1).length = 1 := by rw [putL_ok B2, byL_length]
  obtain ⟨g1, g2⟩ := nS_at (s := s) (pre := pre) (post := putL (p.h * 16 + p.v) 1 ++ (putL p.q 1 ++ post)) (n := p.id) (m := 1) (by rw [hs]; simp only [List.append_assoc]) ha B1
  obtain ⟨g3, g4⟩ := nS_at (s := s) (pre := pre ++ putL p.id 1) (post := putL p.q 1 ++ post) (n := p.h * 16 + p.v) (m := 1) (a := a + 1) (by rw [hs]; simp only [List.append_assoc]) (by rw [List.length_append, l1, ha]) B2
  obtain ⟨g5, g6⟩ := nS_at (s := s) (pre := pre ++ putL p.id 1 ++ putL (p.h * 16 + p.v) 1) (post := post) (n := p.q) (m := 1) (a := a + 1 + 1) (by rw [hs]; simp only [List.append_assoc]) (by rw [List.length_append, List.length_append, l1, l2, ha]) B3
  have d1 : (p.h * 16 + p.v) / 16 = p.h := by omega
  have d2 : (p.h * 16 + p.v) % 16 = p.v := by omega
  have c1 : decide (1 ≤ p.h ∧ p.h ≤ 4 ∧ 1 ≤ p.v ∧ p.v ≤ 4) = true := decide_eq_true (by omega)
  have c2 : decide (p.q ≤ 3) = true := decide_eq_true q1
  rw [pt1]
  simp only [g1, g2, g3, g4, d1, d2, c1, tS_tt, g5, g6, c2]
  rw [idT_all _ (fun y hy => by obtain ⟨x, hx, rfl⟩ := List.mem_map.1 hy; exact hn x hx)]
theorem ptL_fwd {s : ByteArray} : ∀ (l2 l1 : List Pt) {pre post : List UInt8} {a : Nat}, s.data.toList = pre ++ (catW ptW l2 ++ post) → a = pre.length → ptsOk (l1 ++ l2) → ptL s l2.length (⟨a, 0⟩, l1) = (⟨a + 3 * l2.length, 0⟩, l1 ++ l2)
  | [], l1, pre, post, a, _, _, _ => by simp [ptL]
  | p :: l2, l1, pre, post, a, hs, ha, hok => by
    have hp : p.rng := hok.1 p (by simp)
    have hn : ∀ x ∈ l1, x.id ≠ p.id := fun x hx => (List.pairwise_append.1 hok.2).2.2 x hx p (by simp)
    have e : catW ptW (p :: l2) = ptW p ++ catW ptW l2 := by simp [catW]
    rw [e, List.append_assoc] at hs
    have h1 := pt1_fwd (l := l1) hs ha hp hn
    have hl : (ptW p).length = 3 := by
      obtain ⟨i0, i1, a0, a1, b0, b1, q0, q1⟩ := hp
      have B1 : putB p.id 1 = false := decide_eq_false (by simp; omega)
      have B3 : putB p.q 1 = false := decide_eq_false (by simp; omega)
      rw [ptW, List.length_append, List.length_append, putL_ok B1, putL_ok B3, hvL, putL_ok (hv_putB p.h p.v), byL_length, byL_length, byL_length]
    have h2 := ptL_fwd (s := s) l2 (l1 ++ [p]) (pre := pre ++ ptW p) (post := post) (a := a + 3) (by rw [hs]; simp only [List.append_assoc]) (by rw [List.length_append, hl, ha]) (by simpa using hok)
    rw [List.length_cons, ptL, if_pos rfl, h1, h2]
    simp only [List.append_assoc, List.singleton_append, Prod.mk.injEq, St.mk.injEq, and_true]
    omega
def frOk (c h w : Int) (l : List Pt) : Prop := 192 ≤ c ∧ c ≤ 194 ∧ 1 ≤ h ∧ h ≤ 16384 ∧ 1 ≤ w ∧ w ≤ 16384 ∧ 1 ≤ l.length ∧ l.length ≤ 4 ∧ ptsOk l
theorem frOk_B {c h w : Int} {l : List Pt} (hok : frOk c h w l) : frB h w l = false := by
  obtain ⟨c0, c1, h0, h1, w0, w1, l0, l1, hp⟩ := hok
  simp only [frB, Bool.or_eq_false_iff]
  refine ⟨⟨⟨decide_eq_false (by simp; omega), decide_eq_false (by simp; omega)⟩, decide_eq_false (by simp; omega)⟩, ?_⟩
  rw [List.any_eq_false]
  intro p hpm
  obtain ⟨i0, i1, a0, a1, b0, b1, q0, q1⟩ := hp.1 p hpm
  simp only [ptB, Bool.or_eq_true, not_or, Bool.not_eq_true]
  exact ⟨⟨decide_eq_false (by simp; omega), decide_eq_false (by omega)⟩, decide_eq_false (by simp; omega)⟩
theorem frame_fwd {c h w : Int} {l : List Pt} (hok : frOk c h w l) : frR ⟨(frW h w l).toArray⟩ st0 = ⟨⟨(frW h w l).length, 0⟩, h, w, l⟩ := by
  have hB := frOk_B hok
  obtain ⟨c0, c1, h0, h1, w0, w1, l0, l1, hp⟩ := hok
  simp only [frB, Bool.or_eq_false_iff] at hB
  obtain ⟨⟨⟨B1, B2⟩, B3⟩, B4⟩ := hB
  obtain ⟨s, hs0⟩ : ∃ s : ByteArray, s = ⟨(frW h w l).toArray⟩ := ⟨_, rfl⟩
  rw [← hs0]
  have hs : s.data.toList = putL 8 1 ++ (putL h 2 ++ (putL w 2 ++ (putL (l.length : Int) 1 ++ (catW ptW l ++ [])))) := by rw [hs0, frW]; simp only [List.append_assoc, List.append_nil]
  have l8 : (putL 8 1).length = 1 := by rw [putL_ok (by decide), byL_length]
  have lh : (putL h 2).length = 2 := by rw [putL_ok B1, byL_length]
  have lw : (putL w 2).length = 2 := by rw [putL_ok B2, byL_length]
  have ll : (putL (l.length : Int) 1).length = 1 := by rw [putL_ok B3, byL_length]
  obtain ⟨a1, a2⟩ := nS_at (s := s) (pre := []) (n := 8) (m := 1) (a := 0) (by rw [List.nil_append]; exact hs) rfl (by decide)
  obtain ⟨a3, a4⟩ := nS_at (s := s) (pre := putL 8 1) (n := h) (m := 2) (a := 1) hs (by rw [l8]) B1
  obtain ⟨a5, a6⟩ := nS_at (s := s) (pre := putL 8 1 ++ putL h 2) (n := w) (m := 2) (a := 1 + 2) (by rw [hs, List.append_assoc]) (by rw [List.length_append, l8, lh]) B2
  obtain ⟨a7, a8⟩ := nS_at (s := s) (pre := putL 8 1 ++ putL h 2 ++ putL w 2) (post := catW ptW l ++ []) (n := l.length) (m := 1) (a := 1 + 2 + 2) (by rw [hs]; simp only [List.append_assoc]) (by rw [List.length_append, List.length_append, l8, lh, lw]) B3
  have a9 := ptL_fwd (s := s) l [] (pre := putL 8 1 ++ putL h 2 ++ putL w 2 ++ putL (l.length : Int) 1) (post := []) (a := 1 + 2 + 2 + 1) (by rw [hs]; simp only [List.append_assoc]) (by rw [List.length_append, List.length_append, List.length_append, l8, lh, lw, ll]) (by simpa using hp)
  have hlen : (frW h w l).length = 1 + 2 + 2 + 1 + 3 * l.length := by
    rw [frW, List.length_append, List.length_append, List.length_append, List.length_append, l8, lh, lw, ll]
    have : ∀ l : List Pt, (∀ p ∈ l, p.rng) → (catW ptW l).length = 3 * l.length := by
      intro l hl
      induction l with
      | nil => rfl
      | cons p l ih =>
        have e : catW ptW (p :: l) = ptW p ++ catW ptW l := by simp [catW]
        obtain ⟨i0, i1, _, _, _, _, q0, q1⟩ := hl p (by simp)
        have C1 : putB p.id 1 = false := decide_eq_false (by simp; omega)
        have C3 : putB p.q 1 = false := decide_eq_false (by simp; omega)
        rw [e, List.length_append, ih (fun q hq => hl q (by simp [hq])), ptW, List.length_append, List.length_append, putL_ok C1, putL_ok C3, hvL, putL_ok (hv_putB p.h p.v), byL_length, byL_length, byL_length, List.length_cons]
        omega
    rw [this l hp.1]
  have d1 : decide (0 < h ∧ 0 < w) = true := decide_eq_true (by omega)
  have d2 : decide (h ≤ 16384 ∧ w ≤ 16384) = true := decide_eq_true (by omega)
  have d3 : decide (0 < (l.length : Int)) = true := decide_eq_true (by omega)
  have d4 : decide ((l.length : Int) ≤ 4) = true := decide_eq_true (by omega)
  have e0 : st0 = ⟨0, 0⟩ := rfl
  rw [frR, e0]
  simp only [a1, a2, Nat.zero_add, show ((8 : Int) == 8) = true from rfl, tS_tt, a3, a4, a5, a6, d1, d2, a7, a8, d3, d4, Int.toNat_natCast, a9, hlen, List.nil_append]
theorem frame_prS {c : Int} (s : ByteArray) (h0 : 192 ≤ c) (h1 : c ≤ 194) : prS c s = ((frR s st0).t, .frame c (frR s st0).h (frR s st0).w (frR s st0).l) := by
  unfold prS; rw [if_neg (by omega), if_neg (by omega), if_neg (by omega), if_neg (by omega), if_pos h1]
theorem byE_zero {x : Sg} (h : byE x = 0) : sgB x = false ∧ prE (sgC x) ⟨(sgW x).toArray⟩ = 0 := by
  unfold byE at h
  split at h
  · cases h
  · rename_i hB
    split at h
    · rename_i hP; exact ⟨by simpa using hB, hP⟩
    · cases h
theorem byE_mk {x : Sg} (h1 : sgB x = false) (h2 : prE (sgC x) ⟨(sgW x).toArray⟩ = 0) : byE x = 0 := by
  unfold byE; rw [if_neg (by rw [h1]; decide), if_pos h2]
theorem frame_of {c h w : Int} {l : List Pt} (s : ByteArray) (hs : s.data.toList = frW h w l) (hB : frB h w l = false) (hc : c ≤ 194) (hP : prE c s = 0) : frOk c h w l := by
  have hm := mayC_zero (prE_may hP).1
  have hc : 192 ≤ c ∧ c ≤ 194 := by omega
  obtain ⟨b1, b2, b3, b4, b5⟩ := parse_back hP
  have hS := frame_prS s hc.1 hc.2
  have hP2 := hP
  unfold prE at hP2
  rw [if_neg (by simpa using (prE_may hP).1), if_neg (by have := (prE_may hP).2; omega), hS] at hP2
  have h0 := (tS_ok hP2 (by decide)).1
  obtain ⟨f1, f2, f3, f4, f5, f6, f7, f8, f9, f10⟩ := frame_back h0
  have hG : prG c s = .frame c (frR s st0).h (frR s st0).w (frR s st0).l := by unfold prG; rw [hS]
  rw [hG, hs] at b2
  obtain ⟨u1, u2, u3⟩ := frame_uniq f2 hB b2
  rw [← u1, ← u2, ← u3]
  exact ⟨hc.1, hc.2, f6, f7, f8, f9, f4, f5, f10⟩
theorem frame_to {c h w : Int} {l : List Pt} (s : ByteArray) (hs : s = ⟨(frW h w l).toArray⟩) (hok : frOk c h w l) : prE c s = 0 ∧ prG c s = .frame c h w l := by
  have hf := frame_fwd hok
  rw [← hs] at hf
  have hz : s.size = (frW h w l).length := by rw [hs]; rfl
  obtain ⟨c0, c1, h0, h1, w0, w1, l0, l1, hp⟩ := hok
  have hS := frame_prS s c0 c1
  have hlen : (frW h w l).length ≤ 1000 := by
    have := catW_len ptW 3 ptW_len l
    have a1 := putL_len 8 1; have a2 := putL_len h 2; have a3 := putL_len w 2; have a4 := putL_len (l.length : Int) 1
    simp only [frW, List.length_append]
    omega
  have hm : mayC c = 0 := by unfold mayC; (repeat' split) <;> omega
  refine ⟨?_, by unfold prG; rw [hS, hf]⟩
  unfold prE
  rw [if_neg (by simpa using hm), if_neg (by omega), hS, hf]
  show (tS ⟨(frW h w l).length, 0⟩ (decide ((frW h w l).length = s.size)) 4).e = 0
  rw [hz, decide_eq_true rfl, tS_tt]
theorem frame_right {c h w : Int} {l : List Pt} : byE (.frame c h w l) = 0 ↔ frOk c h w l := by
  constructor
  · intro hE
    obtain ⟨hB, hP⟩ := byE_zero hE
    have hB : (decide (194 < c) || frB h w l) = false := hB
    simp only [Bool.or_eq_false_iff, decide_eq_false_iff_not] at hB
    exact frame_of _ rfl hB.2 (by omega) hP
  · intro hok
    refine byE_mk ?_ (frame_to _ rfl hok).1
    show (decide (194 < c) || frB h w l) = false
    rw [frOk_B hok, decide_eq_false (by have := hok.2.1; omega)]; rfl
/-- What is written and may be is read as it was: of tables and restarts. -/
theorem quants_read {l : List Qt} (h : byE (.quants l) = 0) : ∃ l', prG 219 ⟨(catW qtW l).toArray⟩ = .quants l' ∧ l'.map Qt.cells = l.map Qt.cells := by
  obtain ⟨h1, h2⟩ := byE_zero h
  have h2 : prE 219 ⟨(catW qtW l).toArray⟩ = 0 := h2
  obtain ⟨b1, b2, b3, b4, b5⟩ := parse_back h2
  refine ⟨(quR ⟨(catW qtW l).toArray⟩ st0).2, rfl, ?_⟩
  have hG : prG 219 ⟨(catW qtW l).toArray⟩ = .quants (quR ⟨(catW qtW l).toArray⟩ st0).2 := rfl
  rw [hG] at b2 b3
  exact catW_uniq qt_uniq _ l b3 h1 b2
theorem huffs_read {l : List Hf} (h : byE (.huffs l) = 0) : ∃ l', prG 196 ⟨(catW hfW l).toArray⟩ = .huffs l' ∧ l'.map Hf.cells = l.map Hf.cells := by
  obtain ⟨h1, h2⟩ := byE_zero h
  have h2 : prE 196 ⟨(catW hfW l).toArray⟩ = 0 := h2
  obtain ⟨b1, b2, b3, b4, b5⟩ := parse_back h2
  refine ⟨(huR ⟨(catW hfW l).toArray⟩ st0).2, rfl, ?_⟩
  have hG : prG 196 ⟨(catW hfW l).toArray⟩ = .huffs (huR ⟨(catW hfW l).toArray⟩ st0).2 := rfl
  rw [hG] at b2 b3
  exact catW_uniq hf_uniq _ l b3 h1 b2
theorem rst_read {n : Int} (h : byE (.rst n) = 0) : prG 221 ⟨(putL n 2).toArray⟩ = .rst n := by
  obtain ⟨h1, h2⟩ := byE_zero h
  have h2 : prE 221 ⟨(putL n 2).toArray⟩ = 0 := h2
  obtain ⟨b1, b2, b3, b4, b5⟩ := parse_back h2
  have hG : prG 221 ⟨(putL n 2).toArray⟩ = .rst (nV ⟨(putL n 2).toArray⟩ 2 st0) := rfl
  rw [hG] at b2 b3 ⊢
  have h3 : putL (nV ⟨(putL n 2).toArray⟩ 2 st0) 2 ++ [] = putL n 2 ++ [] := by simpa [sgW] using b2
  rw [(putL_app b3 h1 h3).1]
theorem RdC_congr {α : Type} {c : α → List Value} {q : Nat} {w : World} {A : Option Addr} {l l' : List α} (h : RdC c q w A l) (he : l.map c = l'.map c) : RdC c q w A l' := fun i hi => by
  have hlen : l.length = l'.length := by have := congrArg List.length he; simpa using this
  obtain ⟨g, off, h1, h2, h3⟩ := h i (by omega)
  have e : c l[i] = c l'[i] := by
    have := congrArg (fun z => z[i]?) he
    simp only [List.getElem?_map] at this
    rw [List.getElem?_eq_getElem (by omega), List.getElem?_eq_getElem hi] at this
    simpa using this
  exact ⟨g, off, h1, h2, fun j hj => by rw [h3 j hj, e]⟩
end Go.Proofs.YtdohhhkondokkaaDoor
namespace Go.Proofs.YtdohhhkondokkaaDoor
open Go.RowKit
set_option linter.unusedSimpArgs false
set_option linter.unusedVariables false
set_option maxRecDepth 100000
theorem pw_ne {l : List Pt} (h : l.Pairwise (fun a b => a.id ≠ b.id)) {m k : Nat} (hm : m < k) (hk : k < l.length) : l[m].id ≠ l[k].id := List.pairwise_iff_getElem.1 h m k (by omega) hk hm
set_option maxHeartbeats 2000000 in
theorem right_walk (c h ww : Int) (A : Option Addr) (cp : Nat) (l : List Pt) (w : World) (hA : RdC Pt.cells 4 w A l) (hl : l.length ≤ 20) :
    Calls Tryd.prog 15 #[.int .i64 c, .int .i64 h, .int .i64 ww, .slice A l.length cp] w fun e w' => (∃ r, e = .returned (.bool r) ∧ (r = true ↔ frOk c h ww l)) ∧ Below w.heap.size w w' := by
  have HA := Lib.hid hA; clear hA
  go_enter Tryd.func15, Tryd.ntmps15
  go_upto_region 1 with fail
  go_cut [43] (fun b wx => b = .bool (decide (c < 192 ∨ 194 < c ∨ h < 1 ∨ 16384 < h ∨ ww < 1 ∨ 16384 < ww ∨ l.length < 1 ∨ 4 < l.length)) ∧ wx = w)
  case first =>
    go_wp2_with fail
    all_goals
      go_meet
      case rel => exact ⟨congrArg Value.bool (by first | rfl | (rw [Bool.eq_iff_iff]; simp only [Bool.or_eq_true, Bool.and_eq_true, Bool.not_eq_true', decide_eq_false_iff_not, bne_iff_ne, Bool.false_eq_true, decide_eq_true_eq, beq_iff_eq, false_iff, true_iff]; done) | (rw [Bool.eq_iff_iff]; simp only [Bool.or_eq_true, Bool.and_eq_true, Bool.not_eq_true', decide_eq_false_iff_not, bne_iff_ne, Bool.false_eq_true, decide_eq_true_eq, beq_iff_eq, false_iff, true_iff]; omega)), rfl⟩
  case rest =>
  obtain ⟨rfl, rfl⟩ := hcut
  obtain ⟨w, rfl⟩ : ∃ w, w = wc := ⟨_, rfl⟩
  by_cases hc1 : c < 192 ∨ 194 < c ∨ h < 1 ∨ 16384 < h ∨ ww < 1 ∨ 16384 < ww ∨ l.length < 1 ∨ 4 < l.length
  case pos =>
    have hdd : decide (c < 192 ∨ 194 < c ∨ h < 1 ∨ 16384 < h ∨ ww < 1 ∨ 16384 < ww ∨ l.length < 1 ∨ 4 < l.length) = true := decide_eq_true hc1
    rw [hdd]
    have HC1 := Lib.hid hc1
    clear hdd hc1
    go_wp2_with fail
    go_ret
    exact ⟨⟨false, rfl, ⟨fun h => (by cases h), fun hok => by have h1 := HC1.out; obtain ⟨a1, a2, a3, a4, a5, a6, a7, a8, _⟩ := hok; omega⟩⟩, Below.refl _ _⟩
  case neg =>
  have hdd : decide (c < 192 ∨ 194 < c ∨ h < 1 ∨ 16384 < h ∨ ww < 1 ∨ 16384 < ww ∨ l.length < 1 ∨ 4 < l.length) = false := decide_eq_false hc1
  rw [hdd]
  have HC1 := Lib.hid hc1
  clear hdd hc1
  go_wp2_with fail
  go_loopw [9] (fun i wr => ∃ k : Nat, k ≤ l.length ∧ i = .int .i64 k ∧ Hid (Below w.heap.size w wr) ∧ Hid (ptsOk (l.take k))) (fun i _ => l.length - (intOf i).toNat)
  case atStart => exact ⟨0, by omega, rfl, Lib.hid (Below.refl _ _), Lib.hid ⟨by simp, by simp⟩⟩
  case round =>
    obtain ⟨k, hk, rfl, HB, HP⟩ := hrel
    by_cases hkl : k < l.length
    case neg =>
      obtain rfl : k = l.length := by omega
      go_wp2_with fail
      go_ret
      exact ⟨⟨true, rfl, ⟨fun _ => by have h1 := HC1.out; have h2 := HP.out; rw [List.take_length] at h2; exact ⟨by omega, by omega, by omega, by omega, by omega, by omega, by omega, by omega, h2⟩, fun _ => rfl⟩⟩, HB.out⟩
    case pos =>
    obtain ⟨ga, oa, rfl, hga, hca⟩ := (HA.out.bel HB.out).at1 hkl
    obtain ⟨i0, hi0⟩ : ∃ x, x = l[k].id := ⟨_, rfl⟩
    obtain ⟨x0, hx0⟩ : ∃ x, x = l[k].h := ⟨_, rfl⟩
    obtain ⟨y0, hy0⟩ : ∃ x, x = l[k].v := ⟨_, rfl⟩
    obtain ⟨q0, hq0⟩ : ∃ x, x = l[k].q := ⟨_, rfl⟩
    have e0 : wr.cell? ⟨ga, oa + k * 4, none⟩ = some (.int .i64 i0) := by rw [hi0]; exact hca 0 (by decide)
    have e1 : wr.cell? ⟨ga, oa + k * 4 + 1, none⟩ = some (.int .i64 x0) := by rw [hx0]; exact hca 1 (by decide)
    have e2 : wr.cell? ⟨ga, oa + k * 4 + 2, none⟩ = some (.int .i64 y0) := by rw [hy0]; exact hca 2 (by decide)
    have e3 : wr.cell? ⟨ga, oa + k * 4 + 3, none⟩ = some (.int .i64 q0) := by rw [hq0]; exact hca 3 (by decide)
    have HI0 := Lib.hid hi0
    have hrng : l[k].rng ↔ ¬ (i0 < 0 ∨ 255 < i0 ∨ x0 < 1 ∨ 4 < x0 ∨ y0 < 1 ∨ 4 < y0 ∨ q0 < 0 ∨ 3 < q0) := by unfold Pt.rng; rw [← hi0, ← hx0, ← hy0, ← hq0]; omega
    have HRN := Lib.hid hrng
    clear hca hi0 hx0 hy0 hq0 hrng
    go_upto_region 7 with fail
    go_cut [91] (fun b wx => b = .bool (decide (i0 < 0 ∨ 255 < i0 ∨ x0 < 1 ∨ 4 < x0 ∨ y0 < 1 ∨ 4 < y0 ∨ q0 < 0 ∨ 3 < q0)) ∧ wx = (wr.alloc (.cells #[.int .i64 i0, .int .i64 x0, .int .i64 y0, .int .i64 q0] 67)))
    case first =>
      clear e0 e1 e2 e3
      go_wp2_with fail
      all_goals
        go_meet
        case rel => exact ⟨congrArg Value.bool (by first | rfl | (rw [Bool.eq_iff_iff]; simp only [Bool.or_eq_true, Bool.and_eq_true, Bool.not_eq_true', decide_eq_false_iff_not, bne_iff_ne, Bool.false_eq_true, decide_eq_true_eq, beq_iff_eq, false_iff, true_iff]; done) | (rw [Bool.eq_iff_iff]; simp only [Bool.or_eq_true, Bool.and_eq_true, Bool.not_eq_true', decide_eq_false_iff_not, bne_iff_ne, Bool.false_eq_true, decide_eq_true_eq, beq_iff_eq, false_iff, true_iff]; omega)), rfl⟩
    case rest =>
    clear e0 e1 e2 e3
    obtain ⟨rfl, rfl⟩ := hcut
    by_cases hc2 : i0 < 0 ∨ 255 < i0 ∨ x0 < 1 ∨ 4 < x0 ∨ y0 < 1 ∨ 4 < y0 ∨ q0 < 0 ∨ 3 < q0
    case pos =>
      have hdd : decide (i0 < 0 ∨ 255 < i0 ∨ x0 < 1 ∨ 4 < x0 ∨ y0 < 1 ∨ 4 < y0 ∨ q0 < 0 ∨ 3 < q0) = true := decide_eq_true hc2
      rw [hdd]
      have HC2 := Lib.hid hc2
      clear hdd hc2
      go_wp2_with fail
      go_ret
      exact ⟨⟨false, rfl, ⟨fun h => (by cases h), fun hok => absurd HC2.out (HRN.out.1 (hok.2.2.2.2.2.2.2.2.1 _ (List.getElem_mem hkl)))⟩⟩, HB.out.alloc HB.out.size _⟩
    case neg =>
    have hdd : decide (i0 < 0 ∨ 255 < i0 ∨ x0 < 1 ∨ 4 < x0 ∨ y0 < 1 ∨ 4 < y0 ∨ q0 < 0 ∨ 3 < q0) = false := decide_eq_false hc2
    rw [hdd]
    have HC2 := Lib.hid hc2
    clear hdd hc2
    obtain ⟨wo, rfl⟩ : ∃ wo : World, wo = wr := ⟨_, rfl⟩
    go_wp2_with fail
    go_loopw [11] (fun j wi => ∃ m : Nat, m ≤ k ∧ j = .int .i64 m ∧ Hid (Below w.heap.size w wi) ∧ Hid (Blk wi wo.heap.size 67 #[.int .i64 i0, .int .i64 x0, .int .i64 y0, .int .i64 q0]) ∧ Hid (∀ x ∈ l.take m, x.id ≠ l[k].id)) (fun j _ => k - (intOf j).toNat)
    case atStart => exact ⟨0, by omega, rfl, Lib.hid (HB.out.alloc HB.out.size _), Lib.hid (Blk.new _ _ _), Lib.hid (by simp)⟩
    case round =>
      obtain ⟨wi, rfl⟩ : ∃ wi : World, wi = wr := ⟨_, rfl⟩
      obtain ⟨m, hm, rfl, HIi, HBi, HNi⟩ := hrel
      by_cases hmk : m < k
      case neg =>
        obtain rfl : m = k := by omega
        go_wp2_with fail
        go_roundw
        case rel => exact ⟨m + 1, by omega, by go_num, HIi, Lib.hid (by rw [List.take_succ_eq_append_getElem hkl]; exact ptsOk_snoc HP.out (HRN.out.2 HC2.out) HNi.out)⟩
        case measure => simp [intOf]; omega
      case pos =>
        obtain ⟨g2, o2, hgg, hg2, hc2⟩ := (HA.out.bel HIi.out).at1 (show m < l.length by omega)
        injection hgg with hgg; injection hgg with hgg1 hgg2; subst hgg1; subst hgg2
        have hga := hg2
        obtain ⟨a0, ha0⟩ : ∃ x, x = l[m].id := ⟨_, rfl⟩
        have e0 : wi.cell? ⟨ga, oa + m * 4, none⟩ = some (.int .i64 a0) := by rw [ha0]; exact hc2 0 (by decide)
        have Hf0 := Lib.hid e0
        have Hf1 := Lib.hid (HBi.out.cell 0)
        have HA0 := Lib.hid ha0
        clear e0 ha0 hc2 hg2
        go_upto_region 12 with fail
        refine region_plan (.run [0, 1, 2, 3, 4, 5, 6, 7] .fin) (fun w' => True) (by kernel_rfl) trivial ?_
        intro wd hwd
        have hbd : Below wi.heap.size wi wd := hwd ▸ (Below.refl _ wi).drew
        have HIj := Lib.hid (HIi.out.trans (hbd.mono HIi.out.size))
        have HBj := Lib.hid (HBi.out.bel hbd)
        have f0 : wd.cell? ⟨ga, oa + m * 4, none⟩ = some (.int .i64 a0) := (hbd.cell (p := ⟨ga, oa + m * 4, none⟩) hga).trans Hf0.out
        have f1 : wd.cell? ⟨wo.heap.size, 0, none⟩ = some (.int .i64 i0) := (hbd.cell (p := ⟨wo.heap.size, 0, none⟩) HBi.out.lt).trans Hf1.out
        clear hbd
        clear hwd
        refine plan_run fun m hm => ?_
        simp only [pickO, List.filterMap_cons, List.filterMap_nil, List.getElem?_toArray, List.getElem?_cons_zero, List.getElem?_cons_succ] at hm
        subst hm
        go_wp2_with fail
        refine ⟨rfl, by rfl, ?_⟩
        refine plan_fin ?_
        by_cases hai : a0 = i0
        · have e5 : (a0 == i0) = true := by simpa using hai
          have HAI := Lib.hid hai
          clear hai
          go_wp2_with fail
          go_ret
          exact ⟨⟨false, rfl, ⟨fun h => (by cases h), fun hok => absurd (HA0.out.symm.trans (HAI.out.trans HI0.out)) (pw_ne hok.2.2.2.2.2.2.2.2.2 hmk hkl)⟩⟩, HIj.out⟩
        · have e5 : (a0 == i0) = false := by simpa using hai
          have HAI := Lib.hid hai
          clear hai
          go_wp2_with fail
          go_roundw
          case rel => exact ⟨m + 1, by omega, by go_num, HIj, HBj, Lib.hid (fun x hx => by rw [List.take_succ_eq_append_getElem (by omega)] at hx; rcases List.mem_append.1 hx with hx | hx; exact HNi.out x hx; rw [List.mem_singleton] at hx; subst hx; rw [← HA0.out, ← HI0.out]; exact HAI.out)⟩
          case measure => simp [intOf]; omega
end Go.Proofs.YtdohhhkondokkaaDoor
namespace Go.Proofs.YtdohhhkondokkaaDoor
open Go.RowKit
set_option linter.unusedSimpArgs false
set_option linter.unusedVariables false
set_option maxRecDepth 100000
theorem blk_range {w : World} {g : Nat} {t : TypeId} {cs : Array Value} (h : Blk w g t cs) : w.rangeAt g 0 cs.toList := fun j v hv => by rw [Nat.zero_add, h.cell]; simpa using hv
theorem RgV.r {w : World} {base : Nat} {cs : Array Value} {x : Sg} (h : RgV w base cs x) : RgR w cs x := by
  cases x with
  | plain c b => exact h
  | quants l => obtain ⟨u, rfl, h2⟩ := h; obtain ⟨A, cp, rfl, _⟩ := h2.form; exact ⟨A, cp, rfl, h2.rd Qt.is⟩
  | huffs l => obtain ⟨u, rfl, h2⟩ := h; obtain ⟨A, cp, rfl, _⟩ := h2.form; exact ⟨A, cp, rfl, h2.rd Hf.is⟩
  | frame c hh ww l => obtain ⟨u, rfl, h2⟩ := h; obtain ⟨A, cp, rfl, _⟩ := h2.form; exact ⟨A, cp, rfl, h2.rd Pt.is⟩
  | scan l a b hi lo => obtain ⟨u, rfl, h2⟩ := h; obtain ⟨A, cp, rfl, _⟩ := h2.form; exact ⟨A, cp, rfl, h2.rd Pk.is⟩
  | rst n => exact h
theorem RgR.one {w : World} {cs : Array Value} {x : Sg} (h : RgR w cs x) : cs.all (·.oneCell') = true := by
  cases x with
  | plain c b => subst h; exact sc_one _ _ _ _ _ _ _ _ _ _ _ _ _ rfl rfl rfl rfl
  | quants l => obtain ⟨A, cp, rfl, _⟩ := h; exact sc_one _ _ _ _ _ _ _ _ _ _ _ _ _ rfl rfl rfl rfl
  | huffs l => obtain ⟨A, cp, rfl, _⟩ := h; exact sc_one _ _ _ _ _ _ _ _ _ _ _ _ _ rfl rfl rfl rfl
  | frame c hh ww l => obtain ⟨A, cp, rfl, _⟩ := h; exact sc_one _ _ _ _ _ _ _ _ _ _ _ _ _ rfl rfl rfl rfl
  | scan l a b hi lo => obtain ⟨A, cp, rfl, _⟩ := h; exact sc_one _ _ _ _ _ _ _ _ _ _ _ _ _ rfl rfl rfl rfl
  | rst n => subst h; exact sc_one _ _ _ _ _ _ _ _ _ _ _ _ _ rfl rfl rfl rfl
theorem code_len (c : Int) (h0 : 192 ≤ c) (h1 : c ≤ 254) : (putL (bits .or .i64 65280 c) 2).length = 2 := by
  obtain ⟨k, rfl⟩ := Int.eq_ofNat_of_zero_le (show 0 ≤ c by omega)
  have h : ∀ k : Fin 255, (putL (bits .or .i64 65280 ((k.val : Nat) : Int)) 2).length = 2 := by decide +kernel
  exact h ⟨k, by omega⟩
theorem byS_tail {x : Sg} (h : byE x = 0) : (byS x).size = 4 + (sgW x).length ∧ (byS x).extract 4 (byS x).size = ⟨(sgW x).toArray⟩ := by
  obtain ⟨h1, h2⟩ := byE_zero h
  have hm := prE_may h2
  have hr : 192 ≤ sgC x ∧ sgC x ≤ 254 := by have := mayC_zero hm.1; omega
  have hz : (sgW x).length ≤ 65533 := hm.2
  have l1 := code_len (sgC x) hr.1 hr.2
  have l2 : (putL (((sgW x).length + 2 : Nat) : Int) 2).length = 2 := by rw [putL_ok (decide_eq_false (by simp; omega)), byL_length]
  have e : byS x = ⟨(putL (bits .or .i64 65280 (sgC x)) 2 ++ putL (((sgW x).length + 2 : Nat) : Int) 2 ++ sgW x).toArray⟩ := by
    unfold byS; rw [if_pos h]
    apply ByteArray.ext
    simp [ByteArray.data_append]
  have hsz : (byS x).size = 4 + (sgW x).length := by
    rw [e]
    show (putL (bits .or .i64 65280 (sgC x)) 2 ++ putL (((sgW x).length + 2 : Nat) : Int) 2 ++ sgW x).toArray.size = _
    rw [List.size_toArray, List.length_append, List.length_append, l1, l2]
  refine ⟨hsz, ?_⟩
  apply ByteArray.ext
  apply Array.toList_inj.1
  have hb := bs_ext (byS x) 4 (byS x).size
  rw [hb, hsz]
  unfold bs
  rw [e]
  show List.drop 4 (List.take (4 + (sgW x).length) (putL (bits .or .i64 65280 (sgC x)) 2 ++ putL (((sgW x).length + 2 : Nat) : Int) 2 ++ sgW x)) = sgW x
  rw [List.take_of_length_le (by rw [List.length_append, List.length_append, l1, l2]; omega)]
  rw [show (4 : Nat) = (putL (bits .or .i64 65280 (sgC x)) 2 ++ putL (((sgW x).length + 2 : Nat) : Int) 2).length by rw [List.length_append, l1, l2], List.drop_left]
end Go.Proofs.YtdohhhkondokkaaDoor
namespace Go.Proofs.YtdohhhkondokkaaDoor
open Go.RowKit Go.WideShapes Go.ChangeShapes Go.ChangeAt
set_option linter.unusedSimpArgs false
set_option linter.unusedVariables false
set_option maxRecDepth 100000
theorem pickL {α : Type} {n : Nat} {R : Nat → α → Prop} (h : ∀ i, i < n → ∃ x, R i x) : ∃ l : List α, l.length = n ∧ ∀ i (hi : i < l.length), R i l[i] := by
  induction n with
  | zero => exact ⟨[], rfl, fun i hi => absurd hi (Nat.not_lt_zero i)⟩
  | succ n ih =>
    obtain ⟨l, hl, h1⟩ := ih (fun i hi => h i (by omega))
    obtain ⟨x, hx⟩ := h n (by omega)
    refine ⟨l ++ [x], by simp [hl], fun i hi => ?_⟩
    by_cases e : i < l.length
    · rw [List.getElem_append_left e]; exact h1 i e
    · have : i = l.length := by simp at hi; omega
      subst this
      rw [List.getElem_concat_length rfl, hl]; exact hx
section
variable {H : Type} {enc : TypeId × Value → H} {W : World}
theorem openInC {α : Type} {c : α → List Value} {q : Nat} (hC : CellsOf c q) (good : α → Prop) {base : Nat} {t e : TypeId} {v : Value} {d : DataW H} {ps : List MemPlace} (ht : Tryd.prog.underlying t = some (.slice e)) (hq : Tryd.prog.cellsOf e = q) (hq0 : 0 < q)
    (hel : ∀ (m : Nat) (cs : List Value) (x : DataW H × List MemPlace), DataW.trod enc Tryd.prog W 0 (fun _ => true) true m e cs = some x → ∃ p, cs = c p ∧ good p)
    (hv : Value.okWide Tryd.prog W .any base t v) (h : DataW.Trod enc Tryd.prog W 0 (fun _ => true) true t v d ps) :
    ∃ (A : Option Addr) (cp : Nat) (l : List α), v = .slice A l.length cp ∧ l.length ≤ cp ∧ RdC c q W A l ∧ ∀ p ∈ l, good p := by
  obtain ⟨a, len, cap, rfl⟩ := okWide_slice ht hv
  obtain ⟨fuel, hf⟩ := h
  rcases Go.Deep.open_slice ht hf with ⟨hcs, _⟩ | ⟨x, l, cc, m, k, D, Pl, hcs, _, hl, _, hm, _, hx⟩
  · simp [Value.cells] at hcs
    obtain ⟨rfl, rfl, rfl⟩ := hcs
    exact ⟨none, 0, [], rfl, Nat.le_refl _, fun i hi => absurd hi (Nat.not_lt_zero i), by simp⟩
  · simp [Value.cells] at hcs
    obtain ⟨rfl, rfl, rfl⟩ := hcs
    obtain ⟨L, hL, hR⟩ := pickL (α := α) (n := len) (R := fun i p => good p ∧ ∀ j, j < q → W.cell? (x.add (i * q + j)) = (c p)[j]?) (fun i hi => by
      obtain ⟨cs', h1, h2⟩ := hx i (by rw [hm]; simp; omega)
      rw [hq] at h1
      obtain ⟨_, hlen, hat⟩ := World.cells?_some h1
      obtain ⟨p, rfl, hg⟩ := hel _ _ _ h2
      exact ⟨p, hg, fun j hj => by rw [← Go.Deep.add_add, hat j hj]⟩)
    refine ⟨some x, cap, L, by rw [hL], by omega, fun i hi => ?_, fun p hp => ?_⟩
    · have hone : ∀ i (hi : i < L.length), ∃ u, W.cell? (x.add (i * q + 0)) = some u := fun i hi => by
        rw [(hR i hi).2 0 hq0]
        exact ⟨_, List.getElem?_eq_getElem (by rw [hC.len]; exact hq0)⟩
      obtain ⟨u, hu⟩ := hone i hi
      have hlt := block_lt_of_cell hu
      obtain ⟨b, off, spot⟩ := x
      have hspot : spot = none := by
        obtain ⟨u0, h00⟩ := hone 0 (by omega)
        simpa [Addr.add] using World.cell?_spot h00
      subst hspot
      refine ⟨b, off, rfl, by rw [Go.WideShapes.add_plain] at hlt; exact hlt, fun j hj => ?_⟩
      have h4 := (hR i hi).2 j hj
      rw [Go.WideShapes.add_plain] at h4
      exact h4
    · obtain ⟨i, hi, rfl⟩ := List.getElem_of_mem hp
      exact (hR i hi).1
/-- An array's cells. -/
theorem trod_arrN {t e : TypeId} {n : Nat} {K : IntKind} {fuel base : Nat} {sp : Nat → Bool} {held : Bool} {cs : List Value} {x : DataW H × List MemPlace} (ht : Tryd.prog.underlying t = some (.array n e)) (he : Tryd.prog.underlying e = some (.int K)) (hce : Tryd.prog.cellsOf e = 1) (hct : Tryd.prog.cellsOf t = n)
    (h : DataW.trod enc Tryd.prog W base sp held fuel t cs = some x) : ∃ f : Nat → Int, cs = (arrN K n f).toList ∧ ∀ j, j < n → (Lit.int K (f j)).wf = true := by
  obtain ⟨xs, m, _, _, hl, hxl, hall⟩ := DataW.trod_array ht h
  have hcl : cs.length = n := by rw [hl, hct]
  have H1 : ∀ i, i < n → ∃ z, cs[i]? = some (.int K z) ∧ (Lit.int K z).wf = true := by
    intro i hi
    have h1 := hall i hi
    rw [hce, Nat.mul_one] at h1
    have hx : i < xs.length := by omega
    rw [List.getElem?_eq_getElem hx] at h1
    obtain ⟨z, hz, _, hw⟩ := DataW.trod_int he h1
    refine ⟨z, ?_, hw⟩
    have h0 := congrArg (·[0]?) hz
    simpa using h0
  refine ⟨fun i => match cs[i]? with | some (.int _ z) => z | _ => 0, ?_, ?_⟩
  · apply List.ext_getElem?
    intro j
    by_cases hj : j < n
    · obtain ⟨z, hz, _⟩ := H1 j hj
      have e := arrN_get K (fun i => match cs[i]? with | some (.int _ z) => z | _ => 0) hj
      rw [← Array.getElem?_toList] at e
      rw [e, hz]
    · rw [List.getElem?_eq_none (by omega), List.getElem?_eq_none (by rw [Array.length_toList, arrN_size]; omega)]
  · intro j hj
    obtain ⟨z, hz, hw⟩ := H1 j hj
    dsimp only
    rw [hz]
    exact hw
end
end Go.Proofs.YtdohhhkondokkaaDoor
namespace Go.Proofs.YtdohhhkondokkaaDoor
open Go.RowKit
set_option linter.unusedSimpArgs false
set_option linter.unusedVariables false
set_option maxRecDepth 100000
theorem u16_rng {v : Int} (h : (Lit.int .u16 v).wf = true) : 0 ≤ v ∧ v ≤ 65535 := by
  have h1 : IntKind.u16.min = 0 := by decide
  have h2 : IntKind.u16.max = 65535 := by decide
  have h3 : IntKind.u16.min ≤ v ∧ v ≤ IntKind.u16.max := by simpa [Lit.wf] using h
  rw [h1, h2] at h3; exact h3
theorem u8_rngW {v : Int} (h : (Lit.int .u8 v).wf = true) : 0 ≤ v ∧ v ≤ 255 := by
  have h1 : IntKind.u8.min = 0 := by decide
  have h2 : IntKind.u8.max = 255 := by decide
  have h3 : IntKind.u8.min ≤ v ∧ v ≤ IntKind.u8.max := by simpa [Lit.wf] using h
  rw [h1, h2] at h3; exact h3
section
open Go.ChangeShapes Go.WideShapes Go.ChangeAt
theorem qt_el {H : Type} {enc : TypeId × Value → H} {W : World} (m : Nat) (cs : List Value) (x : DataW H × List MemPlace) (h : DataW.trod enc Tryd.prog W 0 (fun _ => true) true m 51 cs = some x) : ∃ p, cs = Qt.cells p ∧ p.ok := by
  obtain ⟨xs, n, _, _, hl, hxl, hf⟩ := DataW.trod_struct Tryd.underlying51 h
  have hl : cs.length = 66 := by rw [hl]; kernel_rfl
  have h0 : DataW.trod enc Tryd.prog W 0 (fun _ => true) true n 3 ((cs.drop 0).take (Tryd.prog.cellsOf 3)) = xs[0]? := hf 0 _ rfl
  rw [List.getElem?_eq_getElem (by rw [hxl]; decide)] at h0
  try dsimp only at h0
  rw [show Tryd.prog.cellsOf 3 = 1 by kernel_rfl] at h0
  obtain ⟨z0, e0, _, w0⟩ := DataW.trod_int Tryd.underlying3 h0
  have h1 : DataW.trod enc Tryd.prog W 0 (fun _ => true) true n 4 ((cs.drop 1).take (Tryd.prog.cellsOf 4)) = xs[1]? := hf 1 _ rfl
  rw [List.getElem?_eq_getElem (by rw [hxl]; decide)] at h1
  try dsimp only at h1
  rw [show Tryd.prog.cellsOf 4 = 1 by kernel_rfl] at h1
  obtain ⟨z1, e1, _⟩ := DataW.trod_bool Tryd.underlying4 h1
  have h2 : DataW.trod enc Tryd.prog W 0 (fun _ => true) true n 49 ((cs.drop 2).take (Tryd.prog.cellsOf 49)) = xs[2]? := hf 2 _ rfl
  rw [List.getElem?_eq_getElem (by rw [hxl]; decide)] at h2
  try dsimp only at h2
  rw [show Tryd.prog.cellsOf 49 = 64 by kernel_rfl] at h2
  obtain ⟨z2, e2, w2⟩ := trod_arrN Tryd.underlying49 Tryd.underlying48 (by kernel_rfl) (by kernel_rfl) h2
  have hc : cs = (cs.drop 0).take 1 ++ ((cs.drop 1).take 1 ++ ((cs.drop 2).take 64)) := by
    have t : ∀ a b : Nat, (cs.drop a).take b ++ cs.drop (a + b) = cs.drop a := fun a b => by rw [← List.drop_drop, List.take_append_drop]
    have tl : (cs.drop 2).take 64 = cs.drop 2 := List.take_of_length_le (by rw [List.length_drop]; omega)
    rw [tl]
    rw [t 1 1]
    rw [t 0 1]
    rfl
  refine ⟨⟨z0, z1, z2⟩, ?_, ?_⟩
  · rw [hc, e0, e1, e2]; rfl
  · exact fun j hj => (by have := u16_rng (w2 j hj); show 0 ≤ z2 j ∧ z2 j < 65536; omega)
theorem hf_el {H : Type} {enc : TypeId × Value → H} {W : World} (m : Nat) (cs : List Value) (x : DataW H × List MemPlace) (h : DataW.trod enc Tryd.prog W 0 (fun _ => true) true m 58 cs = some x) : ∃ p, cs = Hf.cells p ∧ (p.ok ∧ p.sym.size ≤ maxLen) := by
  obtain ⟨xs, n, _, _, hl, hxl, hf⟩ := DataW.trod_struct Tryd.underlying58 h
  have hl : cs.length = 19 := by rw [hl]; kernel_rfl
  have h0 : DataW.trod enc Tryd.prog W 0 (fun _ => true) true n 3 ((cs.drop 0).take (Tryd.prog.cellsOf 3)) = xs[0]? := hf 0 _ rfl
  rw [List.getElem?_eq_getElem (by rw [hxl]; decide)] at h0
  try dsimp only at h0
  rw [show Tryd.prog.cellsOf 3 = 1 by kernel_rfl] at h0
  obtain ⟨z0, e0, _, w0⟩ := DataW.trod_int Tryd.underlying3 h0
  have h1 : DataW.trod enc Tryd.prog W 0 (fun _ => true) true n 3 ((cs.drop 1).take (Tryd.prog.cellsOf 3)) = xs[1]? := hf 1 _ rfl
  rw [List.getElem?_eq_getElem (by rw [hxl]; decide)] at h1
  try dsimp only at h1
  rw [show Tryd.prog.cellsOf 3 = 1 by kernel_rfl] at h1
  obtain ⟨z1, e1, _, w1⟩ := DataW.trod_int Tryd.underlying3 h1
  have h2 : DataW.trod enc Tryd.prog W 0 (fun _ => true) true n 56 ((cs.drop 2).take (Tryd.prog.cellsOf 56)) = xs[2]? := hf 2 _ rfl
  rw [List.getElem?_eq_getElem (by rw [hxl]; decide)] at h2
  try dsimp only at h2
  rw [show Tryd.prog.cellsOf 56 = 16 by kernel_rfl] at h2
  obtain ⟨z2, e2, w2⟩ := trod_arrN Tryd.underlying56 Tryd.underlying5 (by kernel_rfl) (by kernel_rfl) h2
  have h3 : DataW.trod enc Tryd.prog W 0 (fun _ => true) true n 9 ((cs.drop 18).take (Tryd.prog.cellsOf 9)) = xs[3]? := hf 3 _ rfl
  rw [List.getElem?_eq_getElem (by rw [hxl]; decide)] at h3
  try dsimp only at h3
  rw [show Tryd.prog.cellsOf 9 = 1 by kernel_rfl] at h3
  obtain ⟨z3, e3, _, w3⟩ := DataW.trod_string Tryd.underlying9 h3
  have hc : cs = (cs.drop 0).take 1 ++ ((cs.drop 1).take 1 ++ ((cs.drop 2).take 16 ++ ((cs.drop 18).take 1))) := by
    have t : ∀ a b : Nat, (cs.drop a).take b ++ cs.drop (a + b) = cs.drop a := fun a b => by rw [← List.drop_drop, List.take_append_drop]
    have tl : (cs.drop 18).take 1 = cs.drop 18 := List.take_of_length_le (by rw [List.length_drop]; omega)
    rw [tl]
    rw [t 2 16]
    rw [t 1 1]
    rw [t 0 1]
    rfl
  refine ⟨⟨z0, z1, z2, z3⟩, ?_, ?_⟩
  · rw [hc, e0, e1, e2, e3]; rfl
  · exact ⟨fun j hj => (by have := u8_rngW (w2 j hj); show 0 ≤ z2 j ∧ z2 j < 256; omega), w3⟩
end
theorem wpList_build3 {P : Program} {ops : Array Oper} {rest : List Oper} {o : Oper} {a : Act} {w : World} {Q : Exit → Act → World → Prop} {cells : Array Value} (hg : o.guard = none) (t : TypeId) (x y z : Operand) (u v r : Value) (ho : o.op = .build t #[(0, x), (1, y), (2, z)])
    (hx : a.eval x = u) (hy : a.eval y = v) (hz : a.eval z = r) (hf : P.built t [(0, u), (1, v), (2, r)] = some cells)
    (h : wpList P ops Q rest (a.put o.dst (.agg cells)) w) : wpList P ops Q (o :: rest) a w := by
  subst hx hy hz
  exact wpList_buildT hg t #[(0, x), (1, y), (2, z)] ho (by simpa using hf) h
theorem wpList_build4 {P : Program} {ops : Array Oper} {rest : List Oper} {o : Oper} {a : Act} {w : World} {Q : Exit → Act → World → Prop} {cells : Array Value} (hg : o.guard = none) (t : TypeId) (x y z s : Operand) (u v r q : Value) (ho : o.op = .build t #[(0, x), (1, y), (2, z), (3, s)])
    (hx : a.eval x = u) (hy : a.eval y = v) (hz : a.eval z = r) (hs : a.eval s = q) (hf : P.built t [(0, u), (1, v), (2, r), (3, q)] = some cells)
    (h : wpList P ops Q rest (a.put o.dst (.agg cells)) w) : wpList P ops Q (o :: rest) a w := by
  subst hx hy hz hs
  exact wpList_buildT hg t #[(0, x), (1, y), (2, z), (3, s)] ho (by simpa using hf) h
theorem qt_built (x : Int) (b : Bool) (q : Nat → Int) : Tryd.prog.built 52 [(0, .int .i64 x), (1, .bool b), (2, .agg (arrN .u16 64 q))] = some (Qt.cells ⟨x, b, q⟩).toArray := by kernel_rfl
theorem hf_built (x y : Int) (c : Nat → Int) (s : ByteArray) : Tryd.prog.built 59 [(0, .int .i64 x), (1, .int .i64 y), (2, .agg (arrN .u8 16 c)), (3, .string s)] = some (Hf.cells ⟨x, y, c, s⟩).toArray := by kernel_rfl
set_option maxHeartbeats 2000000 in
theorem written_walk {w : World} {base : Nat} {v : Value} {x : Sg} {cs : Array Value} (hL : Laid w) (hV : SgV w base v x) (hx : x.ok) (hR : RgR w cs x) (hz : cs.size = 13) (h1 : cs.all (·.oneCell') = true) (h0 : cs[0]? = some (.int .i64 (sgC x)))
    (hread : byE x = 0 → ∀ w' v', SgR w' v' (prG (sgC x) ⟨(sgW x).toArray⟩) → SgR w' v' x) :
    Calls Tryd.prog 14 #[v, .agg cs] w fun e w' => e = .returned (.bool true) ∧ Below w.heap.size w w' := by
  obtain ⟨c, hc⟩ : ∃ c, c = sgC x := ⟨_, rfl⟩
  have HBx : Hid (Blk (w.alloc (.cells cs 38)) w.heap.size 38 cs ∧ Below w.heap.size w (w.alloc (.cells cs 38))) := Lib.hid ⟨Blk.new _ _ _, (Below.refl _ _).alloc (Nat.le_refl _) _⟩
  have hby := bytes_any (hL.below HBx.out.2) (hV.bel HBx.out.2) hx
  have HBB := Lib.hid (fun w' (hb : Below (w.alloc (.cells cs 38)).heap.size (w.alloc (.cells cs 38)) w') => hL.below (HBx.out.2.trans (hb.mono (Nat.le_of_lt HBx.out.1.lt))))
  have HR := Lib.hid hR; have HZ := Lib.hid hz
  by_cases he : byE x = 0
  case neg =>
    have hb1 : byE x = 1 := by unfold byE at he ⊢; (repeat' split at he) <;> first | (exfalso; exact he rfl) | simp_all
    have hS : byS x = ⟨#[]⟩ := by unfold byS; rw [if_neg he]
    rw [hb1, hS] at hby
    have HBY := Lib.hid hby
    clear hby hb1 hS he hL hV hR hread hc
    go_enter Tryd.func14, Tryd.ntmps14
    go_wp2_with (first | (go_at_call 11; refine (HBY.out).mono ?_; rintro ex w2 ⟨rfl, hb2⟩; have HB2 := Lib.hid hb2; clear hb2))
    go_ret
    exact ⟨rfl, HBx.out.2.trans (HB2.out.mono (Nat.le_of_lt HBx.out.1.lt))⟩
  case pos =>
  obtain ⟨t1, t2⟩ := byS_tail he
  obtain ⟨tx, htx⟩ : ∃ tx, tx = byS x := ⟨_, rfl⟩
  obtain ⟨hB, hP⟩ := byE_zero he
  rw [← t2, ← htx] at hP hread
  rw [← htx] at t1
  have hsz : 4 ≤ tx.size := by omega
  rw [he, ← htx] at hby
  rw [← hc] at hP hread h0
  have HBY := Lib.hid hby; have HOK := Lib.hid hx; have HSB := Lib.hid hB
  have HPR := Lib.hid (fun w' (hL' : Laid w') => (parse_walk c (tx.extract 4 tx.size) w' hL').mono (R' := fun e w'' => ∃ v', e = .returned (.tuple #[v', .int .i64 0]) ∧ SgR w'' v' x ∧ Below w'.heap.size w' w'') (by
    rintro e w'' ⟨v', rfl, hv, _, hb⟩
    exact ⟨v', by rw [hP], hread he _ _ (hv hP).r, hb⟩))
  have hd4 : decide ((tx.size : Int) < 4) = false := by simp; omega
  have H0 := Lib.hid h0
  clear hby he hL hV hR hread hc hP hB hx t1 t2 htx h0
  go_enter Tryd.func14, Tryd.ntmps14
  go_upto_region 6 with (go_at_call 11; refine (HBY.out).mono ?_; rintro ex w2 ⟨rfl, hb2⟩; have HB2 := Lib.hid hb2; clear hb2)
  refine region_plan (.run [0, 1, 2, 3] (.ev 4 (.run [5, 6, 7, 8, 9] .fin))) (fun w' => True) (by kernel_rfl) trivial ?_
  intro wd hwd
  have hbd : Below w2.heap.size w2 wd := hwd ▸ (Below.refl _ w2).drew
  have HBd := Lib.hid (HB2.out.trans (hbd.mono HB2.out.size))
  have HXd := Lib.hid (HBx.out.1.bel HBd.out)
  have q0 : wd.cell? ⟨w.heap.size, 0, none⟩ = some (.int .i64 c) := (HXd.out.cell 0).trans H0.out
  clear hbd
  clear hwd
  refine plan_run fun m hm => ?_
  simp only [pickO, List.filterMap_cons, List.filterMap_nil, List.getElem?_toArray, List.getElem?_cons_zero, List.getElem?_cons_succ] at hm
  subst hm
  go_wp2_with fail
  refine ⟨rfl, by rfl, ?_⟩
  refine plan_ev fun m hm => ?_
  simp only [pickO, List.filterMap_cons, List.filterMap_nil, List.getElem?_toArray, List.getElem?_cons_zero, List.getElem?_cons_succ] at hm
  subst hm
  go_wp2_with (go_at_call 9; refine (HPR.out _ (HBB.out _ HBd.out)).mono ?_; rintro ex w3 ⟨v3, rfl, hv3, hb3⟩; have HV3 := Lib.hid hv3; have HB3 := Lib.hid hb3; clear hv3 hb3)
  refine ⟨rfl, trivial, ?_⟩
  try simp only [Act.put, List.setIfInBounds_toArray, List.set_cons_zero, List.set_cons_succ]
  refine plan_run fun m hm => ?_
  simp only [pickO, List.filterMap_cons, List.filterMap_nil, List.getElem?_toArray, List.getElem?_cons_zero, List.getElem?_cons_succ] at hm
  subst hm
  go_wp2_with fail
  refine ⟨rfl, by rfl, ?_⟩
  refine plan_fin ?_
  clear q0
  have HX3 := Lib.hid (HXd.out.bel HB3.out)
  have HR3 := Lib.hid ((HR.out.bel HBx.out.2).bel (HBd.out.trans (HB3.out.mono HBd.out.size)))
  go_wp2_with (first | (refine wpList_load_midG (by rfl) 38 (.tmp 3) rfl w.heap.size 0 rfl cs.toList _ (blk_range HX3.out) Tryd.underlying38 rfl (by rw [Array.length_toList, HZ.out]; kernel_rfl) ?_; rw [Array.toArray_toList]) | (go_at_call 13; refine (same_any HV3.out HR3.out HOK.out HSB.out).mono ?_; rintro ex w7 ⟨rfl, hb7⟩; have HB7 := Lib.hid hb7; clear hb7))
  go_ret
  exact ⟨rfl, HBx.out.2.trans ((HBd.out.trans ((HB3.out.trans (HB7.out.mono HB3.out.size)).mono HBd.out.size)).mono (Nat.le_of_lt HBx.out.1.lt))⟩
end Go.Proofs.YtdohhhkondokkaaDoor
namespace Go.Proofs.YtdohhhkondokkaaDoor
open Go.RowKit
set_option linter.unusedSimpArgs false
set_option linter.unusedVariables false
set_option maxRecDepth 100000
theorem exec_load_arr {P : Program} {ρ : Operand → Value} {o : Oper} {w : World} (ty : TypeId) (x : Operand) (ho : o.op = .load ty x) (b i : Nat) (hx : ρ x = .pointer (some ⟨b, i, none⟩)) (cs : Array Value) (d : TypeDesc) (hc : w.rangeAt b i cs.toList)
    (hu : P.underlying ty = some d) (hd : d.isRow = true) (hi : (P.info? ty).map (·.size) = some cs.size) : (execOp ρ o).run P w = .ok (.value (.agg cs)) w := by
  have := exec_load_mid ty x ho b i hx cs.toList d hc hu hd (by rw [Array.length_toList]; exact hi)
  rwa [Array.toArray_toList] at this
theorem exec_build {P : Program} {ρ : Operand → Value} {o : Oper} {w : World} {cells : Array Value} (t : TypeId) (parts : Array (Nat × Operand)) (ho : o.op = .build t parts) (hf : P.built t (parts.map fun (i, x) => (i, ρ x)).toList = some cells) : (execOp ρ o).run P w = .ok (.value (.agg cells)) w := by
  unfold execOp
  simp only [ho, Sem.run_bind, run_build w t _ cells hf, Result.andThen_ok]
  rfl
theorem exec_build3 {P : Program} {ρ : Operand → Value} {o : Oper} {w : World} {cells : Array Value} (t : TypeId) (x y z : Operand) (u v r : Value) (ho : o.op = .build t #[(0, x), (1, y), (2, z)]) (hx : ρ x = u) (hy : ρ y = v) (hz : ρ z = r) (hf : P.built t [(0, u), (1, v), (2, r)] = some cells) : (execOp ρ o).run P w = .ok (.value (.agg cells)) w := by
  subst hx hy hz
  exact exec_build t _ ho (by simpa using hf)
theorem exec_build4 {P : Program} {ρ : Operand → Value} {o : Oper} {w : World} {cells : Array Value} (t : TypeId) (x y z s : Operand) (u v r q : Value) (ho : o.op = .build t #[(0, x), (1, y), (2, z), (3, s)]) (hx : ρ x = u) (hy : ρ y = v) (hz : ρ z = r) (hs : ρ s = q) (hf : P.built t [(0, u), (1, v), (2, r), (3, q)] = some cells) : (execOp ρ o).run P w = .ok (.value (.agg cells)) w := by
  subst hx hy hz hs
  exact exec_build t _ ho (by simpa using hf)
structure Wr1 (w : World) (x v : Value) (l : List Qt) (wr : World) : Prop where
  a : Blk wr w.heap.size 47 #[v]
  ow : OwnC Qt.cells 66 wr w.heap.size 52 v l
  x : Blk wr (w.heap.size + 1) 38 (SC 219 ⟨#[]⟩ x nilS 0 0 nilS nilS 0 0 0 0 0)
  be : Below w.heap.size w wr
theorem Wr1.bel {w wr w' : World} {x v : Value} {l : List Qt} (H : Wr1 w x v l wr) (hb : Below wr.heap.size wr w') : Wr1 w x v l w' := ⟨H.a.bel hb, H.ow.bel hb, H.x.bel hb, H.be.trans (hb.mono H.be.size)⟩
theorem Wr1.mk0 (w : World) (x : Value) : Wr1 w x (.slice none 0 0) [] ((w.alloc (.cells #[.slice none 0 0] 47)).alloc (.cells (SC 219 ⟨#[]⟩ x nilS 0 0 nilS nilS 0 0 0 0 0) 38)) :=
  ⟨(Blk.new w _ _).alloc _, OwnC.nil _ _ _, Blk.nw (by rw [World.size_alloc]), ((Below.refl _ _).alloc (Nat.le_refl _) _).alloc ((Below.refl w.heap.size w).alloc (Nat.le_refl _) _).size _⟩
structure Wr2 (w : World) (x v : Value) (l : List Hf) (wr : World) : Prop where
  a : Blk wr w.heap.size 55 #[v]
  ow : OwnC Hf.cells 19 wr w.heap.size 59 v l
  x : Blk wr (w.heap.size + 1) 38 (SC 196 ⟨#[]⟩ nilS x 0 0 nilS nilS 0 0 0 0 0)
  be : Below w.heap.size w wr
theorem Wr2.bel {w wr w' : World} {x v : Value} {l : List Hf} (H : Wr2 w x v l wr) (hb : Below wr.heap.size wr w') : Wr2 w x v l w' := ⟨H.a.bel hb, H.ow.bel hb, H.x.bel hb, H.be.trans (hb.mono H.be.size)⟩
theorem Wr2.mk0 (w : World) (x : Value) : Wr2 w x (.slice none 0 0) [] ((w.alloc (.cells #[.slice none 0 0] 55)).alloc (.cells (SC 196 ⟨#[]⟩ nilS x 0 0 nilS nilS 0 0 0 0 0) 38)) :=
  ⟨(Blk.new w _ _).alloc _, OwnC.nil _ _ _, Blk.nw (by rw [World.size_alloc]), ((Below.refl _ _).alloc (Nat.le_refl _) _).alloc ((Below.refl w.heap.size w).alloc (Nat.le_refl _) _).size _⟩
theorem writes_big1 (A : Option Addr) (n cp : Nat) (B : Option Addr) (m cp2 : Nat) (z : Int) (hn : 20 < n ∨ 20 < m) (w : World) : Calls Tryd.prog 6 #[.slice A n cp, .slice B m cp2, .int .i64 z] w fun e w' => e = .returned (.bool true) ∧ Below w.heap.size w w' := by
  have HN := Lib.hid hn; clear hn
  by_cases h1 : 20 < n
  · clear HN
    go_enter Tryd.func6, Tryd.ntmps6
    go_wp2_with (first | (go_at_call 10; have HB0 := Lib.hid HB.out; refine (segAwake _).mono ?_; rintro ex w2 ⟨rfl, hb2⟩; have HB2 := Lib.hid (HB.out.trans (hb2.mono HB.out.size)); clear hb2) | (go_at_call 10; refine (segAwake _).mono ?_; rintro ex w1 ⟨rfl, hb1⟩; have HB := Lib.hid hb1; clear hb1))
    go_ret
    exact ⟨rfl, HB2.out⟩
  · have h2 : 20 < m := by rcases HN.out with h | h; exact absurd h h1; exact h
    clear HN
    go_enter Tryd.func6, Tryd.ntmps6
    go_wp2_with (first | (go_at_call 10; have HB0 := Lib.hid HB.out; refine (segAwake _).mono ?_; rintro ex w2 ⟨rfl, hb2⟩; have HB2 := Lib.hid (HB.out.trans (hb2.mono HB.out.size)); clear hb2) | (go_at_call 10; refine (segAwake _).mono ?_; rintro ex w1 ⟨rfl, hb1⟩; have HB := Lib.hid hb1; clear hb1))
    go_ret
    exact ⟨rfl, HB2.out⟩
set_option maxHeartbeats 4000000 in
theorem writes_in (A : Option Addr) (cp : Nat) (l : List Qt) (B : Option Addr) (cp2 : Nat) (m : List Hf) (z : Int) (hl : l.length ≤ 20) (hm : m.length ≤ 20) (w0 : World) (hL : Laid w0) (hA : RdC Qt.cells 66 w0 A l) (hB : RdC Hf.cells 19 w0 B m) (ho1 : ∀ p ∈ l, p.ok) (ho2 : ∀ p ∈ m, p.ok) :
    Calls Tryd.prog 6 #[.slice A l.length cp, .slice B m.length cp2, .int .i64 z] w0 fun e w' => e = .returned (.bool true) ∧ Below w0.heap.size w0 w' := by
  have HL := Lib.hid hL; have HA := Lib.hid hA; have HB := Lib.hid hB; have HO1 := Lib.hid ho1; have HO2 := Lib.hid ho2; clear hL hA hB ho1 ho2
  go_enter Tryd.func6, Tryd.ntmps6
  go_upto_region 3 with (go_at_call 10; refine (segAwake _).mono ?_; rintro ex w ⟨rfl, hb1⟩; have HB0 := Lib.hid hb1; clear hb1)
  have HI0 := Lib.hid (Wr1.mk0 w (.slice A l.length cp))
  go_wp2_with fail
  go_loopw [9] (fun i wr => ∃ k : Nat, k ≤ l.length ∧ i = .int .i64 k ∧ Hid (∃ v, Wr1 w (.slice A l.length cp) v (l.take k) wr)) (fun i _ => l.length - (intOf i).toNat)
  case atStart => exact ⟨0, by omega, rfl, Lib.hid ⟨_, HI0.out⟩⟩
  case round =>
    clear HI0
    obtain ⟨k, hk, rfl, HV⟩ := hrel
    obtain ⟨vv, hv⟩ := HV.out
    obtain ⟨V, cpv, rfl, _⟩ := hv.ow.form
    have HIk := Lib.hid hv
    clear hv HV
    by_cases hkl : k < l.length
    case pos =>
      have hkt : (l.take k).length = k := by rw [List.length_take]; omega
      rw [hkt] at HIk
      obtain ⟨ga, oa, rfl, hga, hca⟩ := (HA.out.bel HB0.out).at1 hkl
      obtain ⟨p, hp⟩ : ∃ p, p = l[k] := ⟨_, rfl⟩
      rw [← hp] at hca
      have HPP : Hid (l.take (k + 1) = l.take k ++ [p]) := Lib.hid (by rw [List.take_succ_eq_append_getElem hkl, hp])
      have hrz := rdc_range Qt.is hca
      have HRA : Hid (w.rangeAt ga (oa + k * 66 + 2) (arrN .u16 64 p.q).toList) := Lib.hid fun j v hv => by
        have := hrz (2 + j) v (by show ([Value.int .i64 p.at_, Value.bool p.wide] ++ (arrN .u16 64 p.q).toList)[2 + j]? = _; rw [List.getElem?_append_right (by simp)]; simpa using hv)
        rwa [← Nat.add_assoc] at this
      obtain ⟨i0, hi0⟩ : ∃ x, x = p.at_ := ⟨_, rfl⟩
      obtain ⟨b0, hb0⟩ : ∃ x, x = p.wide := ⟨_, rfl⟩
      obtain ⟨ar, har⟩ : ∃ x, x = arrN .u16 64 p.q := ⟨_, rfl⟩
      obtain ⟨cq, hcq⟩ : ∃ x, x = p.cells.toArray := ⟨_, rfl⟩
      have Hq0 : Hid (w.cell? ⟨ga, oa + k * 66, none⟩ = some (.int .i64 i0)) := Lib.hid (by rw [hi0]; exact hca 0 (by decide))
      have Hq1 : Hid (w.cell? ⟨ga, oa + k * 66 + 1, none⟩ = some (.bool b0)) := Lib.hid (by rw [hb0]; exact hca 1 (by decide))
      have HBT : Hid (Tryd.prog.built 52 [(0, .int .i64 i0), (1, .bool b0), (2, .agg ar)] = some cq) := Lib.hid (by rw [hi0, hb0, har, hcq]; exact qt_built _ _ _)
      have HARZ : Hid (ar.size = 64) := Lib.hid (by rw [har, arrN_size])
      have HCQZ : Hid (cq.size = 66) := Lib.hid (by rw [hcq, List.size_toArray, Qt.is.len])
      have HCQL : Hid (cq.toList = p.cells) := Lib.hid (by rw [hcq])
      rw [← har] at HRA
      clear hca hi0 hb0 har hcq hp hrz
      go_upto_region 8 with fail
      refine region_plan (.run [0, 2, 3, 4, 5, 6, 7, 8, 9, 10, 11, 12, 13, 14, 15] (.held 16 (.held 17 (.alt 1 18 (.ev 18 (.ev 19 (.run [20] (.ev 21 .fin)))) (.run [1] (.ev 19 (.run [20] (.ev 21 .fin)))))))) (fun w' => Hid (Below w.heap.size w w')) (by kernel_rfl) (Lib.hid HIk.out.be.drew) ?_
      intro wd hwd
      have hbd : Below wr.heap.size wr wd := hwd ▸ (Below.refl _ wr).drew
      have HId := Lib.hid (HIk.out.bel hbd)
      have q0 : wd.cell? ⟨ga, oa + k * 66, none⟩ = some (.int .i64 i0) := (HId.out.be.cell (p := ⟨ga, oa + k * 66, none⟩) hga).trans Hq0.out
      have q1 : wd.cell? ⟨ga, oa + k * 66 + 1, none⟩ = some (.bool b0) := (HId.out.be.cell (p := ⟨ga, oa + k * 66 + 1, none⟩) hga).trans Hq1.out
      clear hbd
      clear hwd
      refine plan_run fun m hm => ?_
      simp only [pickO, List.filterMap_cons, List.filterMap_nil, List.getElem?_toArray, List.getElem?_cons_zero, List.getElem?_cons_succ] at hm
      subst hm
      go_wp2_with fail
      refine ⟨rfl, by rfl, ?_⟩
      refine plan_held (o := ⟨some 50, _, _, _, _, _⟩) (v := .agg ar) rfl (by rfl) (fun w' hS => ?_) ?_
      · exact exec_load_arr 49 (.tmp 49) rfl ga (oa + k * 66 + 2) rfl ar _ (range_bel HRA.out hS.out hga) Tryd.underlying49 rfl (by rw [HARZ.out]; kernel_rfl)
      try simp only [Act.put, List.setIfInBounds_toArray, List.set_cons_zero, List.set_cons_succ]
      refine plan_held (o := ⟨some 51, _, _, _, _, _⟩) (v := .agg cq) rfl (by rfl) (fun w' hS => ?_) ?_
      · exact exec_build3 52 (.tmp 40) (.tmp 45) (.tmp 50) (.int .i64 i0) (.bool b0) (.agg ar) rfl rfl rfl rfl HBT.out
      try simp only [Act.put, List.setIfInBounds_toArray, List.set_cons_zero, List.set_cons_succ]
      refine plan_alt (fun m hm => ?_) (fun m hm => ?_)
      · simp only [pickO, List.filterMap_cons, List.filterMap_nil, List.getElem?_toArray, List.getElem?_cons_zero, List.getElem?_cons_succ] at hm
        subst hm
        have q9 := (HId.out.a.alloc (.cells cq 52)).cell 0
        have q8 := HId.out.a.cell 0
        go_wp2_with fail
        clear q8 q9
        refine ⟨rfl, rfl, ?_⟩
        refine plan_ev fun m hm => ?_
        simp only [pickO, List.filterMap_cons, List.filterMap_nil, List.getElem?_toArray, List.getElem?_cons_zero, List.getElem?_cons_succ] at hm
        subst hm
        clear q0 q1
        refine wpList_buildSlice1 rfl 45 52 (.tmp 51) rfl 66 cq rfl Tryd.underlying45 (by kernel_rfl) (by decide) (by decide) HCQZ.out ?_
        refine ⟨rfl, (Lib.hid (HId.out.be.alloc HId.out.be.size _)), ?_⟩
        try simp only [Act.put, List.setIfInBounds_toArray, List.set_cons_zero, List.set_cons_succ]
        refine plan_ev fun m hm => ?_
        simp only [pickO, List.filterMap_cons, List.filterMap_nil, List.getElem?_toArray, List.getElem?_cons_zero, List.getElem?_cons_succ] at hm
        subst hm
        refine appC (q := 66) (by_ := 144) (cs := cq) p Qt.is Tryd.underlying45 (by kernel_rfl) (by decide) (by decide) rfl (.tmp 35) (.tmp 52) rfl rfl rfl HCQL.out HId.out.ow (by rw [List.length_take]; omega) HId.out.be.size ?_
        intro v7 w7 hO7 hK7 hb7
        obtain ⟨A7, n7, c7, rfl⟩ := hO7.form2
        have HA7 := Lib.hid (hK7 _ _ _ (by decide) HId.out.a)
        have HX7 := Lib.hid (hK7 _ _ _ (by decide) HId.out.x)
        have HO7 := Lib.hid hO7
        have HB7 := Lib.hid (HId.out.be.trans hb7)
        clear hO7 hK7 hb7
        refine ⟨rfl, HB7, ?_⟩
        try simp only [Act.put, List.setIfInBounds_toArray, List.set_cons_zero, List.set_cons_succ]
        refine plan_run fun m hm => ?_
        simp only [pickO, List.filterMap_cons, List.filterMap_nil, List.getElem?_toArray, List.getElem?_cons_zero, List.getElem?_cons_succ] at hm
        subst hm
        go_wp2_with fail
        refine ⟨rfl, by rfl, ?_⟩
        refine plan_ev fun m hm => ?_
        simp only [pickO, List.filterMap_cons, List.filterMap_nil, List.getElem?_toArray, List.getElem?_cons_zero, List.getElem?_cons_succ] at hm
        subst hm
        have q3 : w7.cell? ⟨w.heap.size, 0, none⟩ = some (.slice V k cpv) := HA7.out.cell 0
        have q4 := HA7.out.frozen 0
        go_wp2_with fail
        refine ⟨rfl, (Lib.hid (HB7.out.setCell (Nat.le_refl _) _)), ?_⟩
        try simp only [Act.put, List.setIfInBounds_toArray, List.set_cons_zero, List.set_cons_succ]
        refine plan_fin ?_
        go_wp2_with fail
        go_roundw
        case rel => exact ⟨k + 1, by omega, by go_num, Lib.hid (by rw [HPP.out]; exact ⟨_, ⟨HA7.out.set_ 0 _, HO7.out.set (HO7.out.neT HA7.out (by decide)) _, HX7.out.far (by simp) _, HB7.out.setCell (Nat.le_refl _) _⟩⟩)⟩
        case measure => simp [intOf]; omega
      · simp only [pickO, List.filterMap_cons, List.filterMap_nil, List.getElem?_toArray, List.getElem?_cons_zero, List.getElem?_cons_succ] at hm
        subst hm
        clear q0 q1
        refine wpList_buildSlice1 rfl 45 52 (.tmp 51) rfl 66 cq rfl Tryd.underlying45 (by kernel_rfl) (by decide) (by decide) HCQZ.out ?_
        refine ⟨rfl, (Lib.hid (HId.out.be.alloc HId.out.be.size _)), ?_⟩
        try simp only [Act.put, List.setIfInBounds_toArray, List.set_cons_zero, List.set_cons_succ]
        refine plan_run fun m hm => ?_
        simp only [pickO, List.filterMap_cons, List.filterMap_nil, List.getElem?_toArray, List.getElem?_cons_zero, List.getElem?_cons_succ] at hm
        subst hm
        have q9 := (HId.out.a.alloc (.cells cq 52)).cell 0
        have q8 := HId.out.a.cell 0
        go_wp2_with fail
        clear q8 q9
        refine ⟨rfl, by rfl, ?_⟩
        refine plan_ev fun m hm => ?_
        simp only [pickO, List.filterMap_cons, List.filterMap_nil, List.getElem?_toArray, List.getElem?_cons_zero, List.getElem?_cons_succ] at hm
        subst hm
        refine appC (q := 66) (by_ := 144) (cs := cq) p Qt.is Tryd.underlying45 (by kernel_rfl) (by decide) (by decide) rfl (.tmp 35) (.tmp 52) rfl rfl rfl HCQL.out HId.out.ow (by rw [List.length_take]; omega) HId.out.be.size ?_
        intro v7 w7 hO7 hK7 hb7
        obtain ⟨A7, n7, c7, rfl⟩ := hO7.form2
        have HA7 := Lib.hid (hK7 _ _ _ (by decide) HId.out.a)
        have HX7 := Lib.hid (hK7 _ _ _ (by decide) HId.out.x)
        have HO7 := Lib.hid hO7
        have HB7 := Lib.hid (HId.out.be.trans hb7)
        clear hO7 hK7 hb7
        refine ⟨rfl, HB7, ?_⟩
        try simp only [Act.put, List.setIfInBounds_toArray, List.set_cons_zero, List.set_cons_succ]
        refine plan_run fun m hm => ?_
        simp only [pickO, List.filterMap_cons, List.filterMap_nil, List.getElem?_toArray, List.getElem?_cons_zero, List.getElem?_cons_succ] at hm
        subst hm
        go_wp2_with fail
        refine ⟨rfl, by rfl, ?_⟩
        refine plan_ev fun m hm => ?_
        simp only [pickO, List.filterMap_cons, List.filterMap_nil, List.getElem?_toArray, List.getElem?_cons_zero, List.getElem?_cons_succ] at hm
        subst hm
        have q3 : w7.cell? ⟨w.heap.size, 0, none⟩ = some (.slice V k cpv) := HA7.out.cell 0
        have q4 := HA7.out.frozen 0
        go_wp2_with fail
        refine ⟨rfl, (Lib.hid (HB7.out.setCell (Nat.le_refl _) _)), ?_⟩
        try simp only [Act.put, List.setIfInBounds_toArray, List.set_cons_zero, List.set_cons_succ]
        refine plan_fin ?_
        go_wp2_with fail
        go_roundw
        case rel => exact ⟨k + 1, by omega, by go_num, Lib.hid (by rw [HPP.out]; exact ⟨_, ⟨HA7.out.set_ 0 _, HO7.out.set (HO7.out.neT HA7.out (by decide)) _, HX7.out.far (by simp) _, HB7.out.setCell (Nat.le_refl _) _⟩⟩)⟩
        case measure => simp [intOf]; omega
    case neg =>
    obtain rfl : k = l.length := by omega
    rw [List.take_length] at HIk
    clear hk hkl
    obtain ⟨w2, rfl⟩ : ∃ w2 : World, w2 = wr := ⟨_, rfl⟩
    have HW2 := Lib.hid (HB0.out.trans (HIk.out.be.mono HB0.out.size))
    have HI0 := Lib.hid (Wr2.mk0 w2 (.slice B m.length cp2))
    have HI1 := HIk
    clear HIk
    go_wp2_with fail
    go_loopw [12] (fun i wr => ∃ k : Nat, k ≤ m.length ∧ i = .int .i64 k ∧ Hid (∃ v, Wr2 w2 (.slice B m.length cp2) v (m.take k) wr ∧ ∀ p ∈ m.take k, p.sym.size ≤ 300)) (fun i _ => m.length - (intOf i).toNat)
    case atStart => exact ⟨0, by omega, rfl, Lib.hid ⟨_, HI0.out, by simp⟩⟩
    case round =>
    clear HI0
    obtain ⟨k, hk, rfl, HV⟩ := hrel
    obtain ⟨vv, hv, hs3⟩ := HV.out
    obtain ⟨V2, cpv2, rfl, _⟩ := hv.ow.form
    have HIk := Lib.hid hv; have HS3 := Lib.hid hs3
    clear hv HV hs3
    by_cases hkl : k < m.length
    case pos =>
      obtain ⟨V, cpv, hVV⟩ : ∃ V' cpv', V' = V2 ∧ cpv' = cpv2 := ⟨_, _, rfl, rfl⟩
      obtain ⟨rfl, rfl⟩ := hVV
      have hkt : (m.take k).length = k := by rw [List.length_take]; omega
      rw [hkt] at HIk
      obtain ⟨gb, ob, rfl, hgb, hca⟩ := (HB.out.bel HW2.out).at1 hkl
      obtain ⟨p, hp⟩ : ∃ p, p = m[k] := ⟨_, rfl⟩
      rw [← hp] at hca
      have HPP : Hid (m.take (k + 1) = m.take k ++ [p]) := Lib.hid (by rw [List.take_succ_eq_append_getElem hkl, hp])
      have hrz := rdc_range Hf.is hca
      have HRA : Hid (w2.rangeAt gb (ob + k * 19 + 2) (arrN .u8 16 p.cnt).toList) := Lib.hid fun j v hv => by
        have hj : j < 16 := by have := (List.getElem?_eq_some_iff.1 hv).1; rw [Array.length_toList, arrN_size] at this; exact this
        have := hrz (2 + j) v (by show (([Value.int .i64 p.cls, Value.int .i64 p.at_] ++ (arrN .u8 16 p.cnt).toList) ++ [Value.string p.sym])[2 + j]? = _; rw [List.getElem?_append_left (by simp [arrN_size]; omega), List.getElem?_append_right (by simp)]; simpa using hv)
        rwa [← Nat.add_assoc] at this
      have hc18 : w2.cell? ⟨gb, ob + k * 19 + 18, none⟩ = some (.string p.sym) := by
        rw [hca 18 (by decide), show p.cells = (([Value.int .i64 p.cls, Value.int .i64 p.at_] ++ (arrN .u8 16 p.cnt).toList) ++ [Value.string p.sym]) from rfl, List.getElem?_append_right (by simp [arrN_size])]
        simp [arrN_size]
      obtain ⟨i0, hi0⟩ : ∃ x, x = p.cls := ⟨_, rfl⟩
      obtain ⟨j0, hj0⟩ : ∃ x, x = p.at_ := ⟨_, rfl⟩
      obtain ⟨sy, hsy⟩ : ∃ x, x = p.sym := ⟨_, rfl⟩
      obtain ⟨ar, har⟩ : ∃ x, x = arrN .u8 16 p.cnt := ⟨_, rfl⟩
      obtain ⟨cq, hcq⟩ : ∃ x, x = p.cells.toArray := ⟨_, rfl⟩
      have Hq0 : Hid (w2.cell? ⟨gb, ob + k * 19, none⟩ = some (.int .i64 i0)) := Lib.hid (by rw [hi0]; exact hca 0 (by decide))
      have Hq1 : Hid (w2.cell? ⟨gb, ob + k * 19 + 1, none⟩ = some (.int .i64 j0)) := Lib.hid (by rw [hj0]; exact hca 1 (by decide))
      rw [← hsy] at hc18
      have Hq2 := Lib.hid hc18
      have HBT : Hid (Tryd.prog.built 59 [(0, .int .i64 i0), (1, .int .i64 j0), (2, .agg ar), (3, .string sy)] = some cq) := Lib.hid (by rw [hi0, hj0, har, hcq, hsy]; exact hf_built _ _ _ _)
      have HARZ : Hid (ar.size = 16) := Lib.hid (by rw [har, arrN_size])
      have HCQZ : Hid (cq.size = 19) := Lib.hid (by rw [hcq, List.size_toArray, Hf.is.len])
      have HCQL : Hid (cq.toList = p.cells) := Lib.hid (by rw [hcq])
      have HSY := Lib.hid hsy
      rw [← har] at HRA
      clear hca hi0 hj0 har hcq hp hrz hsy hc18
      have hc18 : wr.cell? ⟨gb, ob + k * 19 + 18, none⟩ = some (.string sy) := (HIk.out.be.cell (p := ⟨gb, ob + k * 19 + 18, none⟩) hgb).trans Hq2.out
      by_cases hs : 300 < sy.size
      case pos =>
        go_wp2_with fail
        go_ret
        exact ⟨rfl, HW2.out.trans (HIk.out.be.mono HW2.out.size)⟩
      case neg =>
      have HSS : Hid (∀ x ∈ m.take k ++ [p], x.sym.size ≤ 300) := Lib.hid fun x hx => by
        rcases List.mem_append.1 hx with hx | hx
        · exact HS3.out x hx
        · rw [List.mem_singleton] at hx; subst hx; rw [← HSY.out]; omega
      go_upto_region 16 with fail
      clear hc18
      refine region_plan (.run [0, 2, 3, 4, 5, 6, 7, 8, 9, 10, 11, 12, 13, 14, 15] (.held 16 (.run [17, 18, 19, 20, 21] (.held 22 (.alt 1 23 (.ev 23 (.ev 24 (.run [25] (.ev 26 .fin)))) (.run [1] (.ev 24 (.run [25] (.ev 26 .fin))))))))) (fun w' => Hid (Below w2.heap.size w2 w')) (by kernel_rfl) (Lib.hid HIk.out.be.drew) ?_
      intro wd hwd
      have hbd : Below wr.heap.size wr wd := hwd ▸ (Below.refl _ wr).drew
      have HId := Lib.hid (HIk.out.bel hbd)
      have q0 : wd.cell? ⟨gb, ob + k * 19, none⟩ = some (.int .i64 i0) := (HId.out.be.cell (p := ⟨gb, ob + k * 19, none⟩) hgb).trans Hq0.out
      have q1 : wd.cell? ⟨gb, ob + k * 19 + 1, none⟩ = some (.int .i64 j0) := (HId.out.be.cell (p := ⟨gb, ob + k * 19 + 1, none⟩) hgb).trans Hq1.out
      have q2 : wd.cell? ⟨gb, ob + k * 19 + 18, none⟩ = some (.string sy) := (HId.out.be.cell (p := ⟨gb, ob + k * 19 + 18, none⟩) hgb).trans Hq2.out
      clear hbd
      clear hwd
      refine plan_run fun m hm => ?_
      simp only [pickO, List.filterMap_cons, List.filterMap_nil, List.getElem?_toArray, List.getElem?_cons_zero, List.getElem?_cons_succ] at hm
      subst hm
      go_wp2_with fail
      refine ⟨rfl, by rfl, ?_⟩
      refine plan_held (o := ⟨some 86, _, _, _, _, _⟩) (v := .agg ar) rfl (by rfl) (fun w' hS => ?_) ?_
      · exact exec_load_arr 56 (.tmp 85) rfl gb (ob + k * 19 + 2) rfl ar _ (range_bel HRA.out hS.out hgb) Tryd.underlying56 rfl (by rw [HARZ.out]; kernel_rfl)
      try simp only [Act.put, List.setIfInBounds_toArray, List.set_cons_zero, List.set_cons_succ]
      refine plan_run fun m hm => ?_
      simp only [pickO, List.filterMap_cons, List.filterMap_nil, List.getElem?_toArray, List.getElem?_cons_zero, List.getElem?_cons_succ] at hm
      subst hm
      go_wp2_with fail
      refine ⟨rfl, by rfl, ?_⟩
      refine plan_held (o := ⟨some 92, _, _, _, _, _⟩) (v := .agg cq) rfl (by rfl) (fun w' hS => ?_) ?_
      · exact exec_build4 59 (.tmp 76) (.tmp 81) (.tmp 86) (.tmp 91) (.int .i64 i0) (.int .i64 j0) (.agg ar) (.string sy) rfl rfl rfl rfl rfl HBT.out
      try simp only [Act.put, List.setIfInBounds_toArray, List.set_cons_zero, List.set_cons_succ]
      refine plan_alt (fun m hm => ?_) (fun m hm => ?_)
      · simp only [pickO, List.filterMap_cons, List.filterMap_nil, List.getElem?_toArray, List.getElem?_cons_zero, List.getElem?_cons_succ] at hm
        subst hm
        have q9 := (HId.out.a.alloc (.cells cq 59)).cell 0
        have q8 := HId.out.a.cell 0
        go_wp2_with fail
        clear q8 q9
        refine ⟨rfl, rfl, ?_⟩
        refine plan_ev fun m hm => ?_
        simp only [pickO, List.filterMap_cons, List.filterMap_nil, List.getElem?_toArray, List.getElem?_cons_zero, List.getElem?_cons_succ] at hm
        subst hm
        clear q0 q1 q2
        refine wpList_buildSlice1 rfl 53 59 (.tmp 92) rfl 19 cq rfl Tryd.underlying53 (by kernel_rfl) (by decide) (by decide) HCQZ.out ?_
        refine ⟨rfl, (Lib.hid (HId.out.be.alloc HId.out.be.size _)), ?_⟩
        try simp only [Act.put, List.setIfInBounds_toArray, List.set_cons_zero, List.set_cons_succ]
        refine plan_ev fun m hm => ?_
        simp only [pickO, List.filterMap_cons, List.filterMap_nil, List.getElem?_toArray, List.getElem?_cons_zero, List.getElem?_cons_succ] at hm
        subst hm
        refine appC (q := 19) (by_ := 48) (cs := cq) p Hf.is Tryd.underlying53 (by kernel_rfl) (by decide) (by decide) rfl (.tmp 71) (.tmp 93) rfl rfl rfl HCQL.out HId.out.ow (by rw [List.length_take]; omega) HId.out.be.size ?_
        intro v7 w7 hO7 hK7 hb7
        obtain ⟨A7, n7, c7, rfl⟩ := hO7.form2
        have HA7 := Lib.hid (hK7 _ _ _ (by decide) HId.out.a)
        have HX7 := Lib.hid (hK7 _ _ _ (by decide) HId.out.x)
        have HO7 := Lib.hid hO7
        have HB7 := Lib.hid (HId.out.be.trans hb7)
        clear hO7 hK7 hb7
        refine ⟨rfl, HB7, ?_⟩
        try simp only [Act.put, List.setIfInBounds_toArray, List.set_cons_zero, List.set_cons_succ]
        refine plan_run fun m hm => ?_
        simp only [pickO, List.filterMap_cons, List.filterMap_nil, List.getElem?_toArray, List.getElem?_cons_zero, List.getElem?_cons_succ] at hm
        subst hm
        go_wp2_with fail
        refine ⟨rfl, by rfl, ?_⟩
        refine plan_ev fun m hm => ?_
        simp only [pickO, List.filterMap_cons, List.filterMap_nil, List.getElem?_toArray, List.getElem?_cons_zero, List.getElem?_cons_succ] at hm
        subst hm
        have q3 : w7.cell? ⟨w2.heap.size, 0, none⟩ = some (.slice V k cpv) := HA7.out.cell 0
        have q4 := HA7.out.frozen 0
        go_wp2_with fail
        refine ⟨rfl, (Lib.hid (HB7.out.setCell (Nat.le_refl _) _)), ?_⟩
        try simp only [Act.put, List.setIfInBounds_toArray, List.set_cons_zero, List.set_cons_succ]
        refine plan_fin ?_
        go_wp2_with fail
        go_roundw
        case rel => exact ⟨k + 1, by omega, by go_num, Lib.hid (by rw [HPP.out]; exact ⟨_, ⟨HA7.out.set_ 0 _, HO7.out.set (HO7.out.neT HA7.out (by decide)) _, HX7.out.far (by simp) _, HB7.out.setCell (Nat.le_refl _) _⟩, HSS.out⟩)⟩
        case measure => simp [intOf]; omega
      · simp only [pickO, List.filterMap_cons, List.filterMap_nil, List.getElem?_toArray, List.getElem?_cons_zero, List.getElem?_cons_succ] at hm
        subst hm
        clear q0 q1 q2
        refine wpList_buildSlice1 rfl 53 59 (.tmp 92) rfl 19 cq rfl Tryd.underlying53 (by kernel_rfl) (by decide) (by decide) HCQZ.out ?_
        refine ⟨rfl, (Lib.hid (HId.out.be.alloc HId.out.be.size _)), ?_⟩
        try simp only [Act.put, List.setIfInBounds_toArray, List.set_cons_zero, List.set_cons_succ]
        refine plan_run fun m hm => ?_
        simp only [pickO, List.filterMap_cons, List.filterMap_nil, List.getElem?_toArray, List.getElem?_cons_zero, List.getElem?_cons_succ] at hm
        subst hm
        have q9 := (HId.out.a.alloc (.cells cq 59)).cell 0
        have q8 := HId.out.a.cell 0
        go_wp2_with fail
        clear q8 q9
        refine ⟨rfl, by rfl, ?_⟩
        refine plan_ev fun m hm => ?_
        simp only [pickO, List.filterMap_cons, List.filterMap_nil, List.getElem?_toArray, List.getElem?_cons_zero, List.getElem?_cons_succ] at hm
        subst hm
        refine appC (q := 19) (by_ := 48) (cs := cq) p Hf.is Tryd.underlying53 (by kernel_rfl) (by decide) (by decide) rfl (.tmp 71) (.tmp 93) rfl rfl rfl HCQL.out HId.out.ow (by rw [List.length_take]; omega) HId.out.be.size ?_
        intro v7 w7 hO7 hK7 hb7
        obtain ⟨A7, n7, c7, rfl⟩ := hO7.form2
        have HA7 := Lib.hid (hK7 _ _ _ (by decide) HId.out.a)
        have HX7 := Lib.hid (hK7 _ _ _ (by decide) HId.out.x)
        have HO7 := Lib.hid hO7
        have HB7 := Lib.hid (HId.out.be.trans hb7)
        clear hO7 hK7 hb7
        refine ⟨rfl, HB7, ?_⟩
        try simp only [Act.put, List.setIfInBounds_toArray, List.set_cons_zero, List.set_cons_succ]
        refine plan_run fun m hm => ?_
        simp only [pickO, List.filterMap_cons, List.filterMap_nil, List.getElem?_toArray, List.getElem?_cons_zero, List.getElem?_cons_succ] at hm
        subst hm
        go_wp2_with fail
        refine ⟨rfl, by rfl, ?_⟩
        refine plan_ev fun m hm => ?_
        simp only [pickO, List.filterMap_cons, List.filterMap_nil, List.getElem?_toArray, List.getElem?_cons_zero, List.getElem?_cons_succ] at hm
        subst hm
        have q3 : w7.cell? ⟨w2.heap.size, 0, none⟩ = some (.slice V k cpv) := HA7.out.cell 0
        have q4 := HA7.out.frozen 0
        go_wp2_with fail
        refine ⟨rfl, (Lib.hid (HB7.out.setCell (Nat.le_refl _) _)), ?_⟩
        try simp only [Act.put, List.setIfInBounds_toArray, List.set_cons_zero, List.set_cons_succ]
        refine plan_fin ?_
        go_wp2_with fail
        go_roundw
        case rel => exact ⟨k + 1, by omega, by go_num, Lib.hid (by rw [HPP.out]; exact ⟨_, ⟨HA7.out.set_ 0 _, HO7.out.set (HO7.out.neT HA7.out (by decide)) _, HX7.out.far (by simp) _, HB7.out.setCell (Nat.le_refl _) _⟩, HSS.out⟩)⟩
        case measure => simp [intOf]; omega
    case neg =>
    obtain rfl : k = m.length := by omega
    rw [List.take_length] at HIk HS3
    clear hk hkl
    have HX1 := Lib.hid (HI1.out.bel HIk.out.be)
    clear HI1
    have HW3 := Lib.hid (HW2.out.trans (HIk.out.be.mono HW2.out.size))
    obtain ⟨w3, rfl⟩ : ∃ w3 : World, w3 = wr := ⟨_, rfl⟩
    have k1 : w3.cell? ⟨w.heap.size, 0, none⟩ = some (.slice V l.length cpv) := HX1.out.a.cell 0
    have HWA : Hid (∀ w', Below w3.heap.size w3 w' → Calls Tryd.prog 14 #[.iface 47 (.agg #[.slice V l.length cpv]), .agg (SC 219 ⟨#[]⟩ (.slice A l.length cp) nilS 0 0 nilS nilS 0 0 0 0 0)] w' fun e w'' => e = .returned (.bool true) ∧ Below w'.heap.size w' w'') := Lib.hid fun w' hb =>
      written_walk (x := .quants l) (base := w.heap.size) (HL.out.below (HW3.out.trans (hb.mono HW3.out.size))) ⟨_, rfl, HX1.out.ow.bel hb⟩ ⟨HO1.out, by omega⟩ ⟨A, cp, rfl, HA.out.bel (HW3.out.trans (hb.mono HW3.out.size))⟩ (sc_size _ _ _ _ _ _ _ _ _ _ _ _ _) (sc_one _ _ _ _ _ _ _ _ _ _ _ _ _ rfl rfl rfl rfl) rfl
        (fun he w'' v'' hv => by
          obtain ⟨l', hl1, hl2⟩ := quants_read he
          have hv2 : SgR w'' v'' (.quants l') := hl1 ▸ hv
          obtain ⟨A', cp', e1, e2⟩ := hv2
          have hll : l'.length = l.length := by have := congrArg List.length hl2; simpa using this
          exact ⟨A', cp', by rw [e1, hll], RdC_congr e2 hl2⟩)
    have HWB : Hid (∀ w', Below w3.heap.size w3 w' → Calls Tryd.prog 14 #[.iface 55 (.agg #[.slice V2 m.length cpv2]), .agg (SC 196 ⟨#[]⟩ nilS (.slice B m.length cp2) 0 0 nilS nilS 0 0 0 0 0)] w' fun e w'' => e = .returned (.bool true) ∧ Below w'.heap.size w' w'') := Lib.hid fun w' hb =>
      written_walk (x := .huffs m) (base := w2.heap.size) (HL.out.below (HW3.out.trans (hb.mono HW3.out.size))) ⟨_, rfl, HIk.out.ow.bel hb⟩ ⟨fun p hp => ⟨HO2.out p hp, by have := HS3.out p hp; omega⟩, by omega⟩ ⟨B, cp2, rfl, HB.out.bel (HW3.out.trans (hb.mono HW3.out.size))⟩ (sc_size _ _ _ _ _ _ _ _ _ _ _ _ _) (sc_one _ _ _ _ _ _ _ _ _ _ _ _ _ rfl rfl rfl rfl) rfl
        (fun he w'' v'' hv => by
          obtain ⟨l', hl1, hl2⟩ := huffs_read he
          have hv2 : SgR w'' v'' (.huffs l') := hl1 ▸ hv
          obtain ⟨A', cp', e1, e2⟩ := hv2
          have hll : l'.length = m.length := by have := congrArg List.length hl2; simpa using this
          exact ⟨A', cp', by rw [e1, hll], RdC_congr e2 hl2⟩)
    have HWC : Hid (∀ w', Below w3.heap.size w3 w' → Calls Tryd.prog 14 #[.iface 61 (.agg #[.int .i64 z]), .agg (SC 221 ⟨#[]⟩ nilS nilS 0 0 nilS nilS 0 0 0 0 z)] w' fun e w'' => e = .returned (.bool true) ∧ Below w'.heap.size w' w'') := Lib.hid fun w' hb =>
      written_walk (x := .rst z) (base := 0) (HL.out.below (HW3.out.trans (hb.mono HW3.out.size))) rfl trivial rfl (sc_size _ _ _ _ _ _ _ _ _ _ _ _ _) (sc_one _ _ _ _ _ _ _ _ _ _ _ _ _ rfl rfl rfl rfl) rfl
        (fun he w'' v'' hv => by have := rst_read he; exact this ▸ hv)
    unfold SC at HWA HWB HWC
    have x0 : Hid (Blk w3 (w.heap.size + 1) 38 (SC 219 ⟨#[]⟩ (.slice A l.length cp) nilS 0 0 nilS nilS 0 0 0 0 0)) := Lib.hid HX1.out.x
    have x1 : Hid (Blk w3 (w2.heap.size + 1) 38 (SC 196 ⟨#[]⟩ nilS (.slice B m.length cp2) 0 0 nilS nilS 0 0 0 0 0)) := Lib.hid HIk.out.x
    have x2 : Hid (Blk w3 w2.heap.size 55 #[.slice V2 m.length cpv2]) := Lib.hid HIk.out.a
    go_wp2_with (first | (refine wpList_load_midG (by rfl) 38 (.tmp 8) rfl (w.heap.size + 1) 0 rfl ((SC 219 ⟨#[]⟩ (.slice A l.length cp) nilS 0 0 nilS nilS 0 0 0 0 0)).toList _ (blk_range x0.out) Tryd.underlying38 rfl (by kernel_rfl) ?_) | (go_at_call 14; refine (HWA.out _ (Below.refl _ _)).mono ?_; rintro ex w4 ⟨rfl, hb4⟩; have HB4 := Lib.hid hb4; have k2 : w4.cell? ⟨w2.heap.size, 0, none⟩ = some (.slice V2 m.length cpv2) := (x2.out.bel hb4).cell 0; clear hb4 HWA k1) | (refine wpList_load_midG (by rfl) 38 (.tmp 11) rfl (w2.heap.size + 1) 0 rfl ((SC 196 ⟨#[]⟩ nilS (.slice B m.length cp2) 0 0 nilS nilS 0 0 0 0 0)).toList _ (blk_range (x1.out.bel HB4.out)) Tryd.underlying38 rfl (by kernel_rfl) ?_) | (go_at_call 14; refine (HWB.out _ HB4.out).mono ?_; rintro ex w5 ⟨rfl, hb5⟩; have HB5 := Lib.hid (HB4.out.trans (hb5.mono HB4.out.size)); clear hb5 HWB) | (go_at_call 14; refine (HWC.out _ HB5.out).mono ?_; rintro ex w6 ⟨rfl, hb6⟩; have HB6 := Lib.hid (HB5.out.trans (hb6.mono HB5.out.size)); clear hb6 HWC))
    go_ret
    exact ⟨rfl, HW3.out.trans (HB6.out.mono HW3.out.size)⟩
theorem segWrites_walk (A : Option Addr) (cp : Nat) (l : List Qt) (B : Option Addr) (cp2 : Nat) (m : List Hf) (z : Int) (w : World) (hL : Laid w) (hA : RdC Qt.cells 66 w A l) (hB : RdC Hf.cells 19 w B m) (ho1 : ∀ p ∈ l, p.ok) (ho2 : ∀ p ∈ m, p.ok ∧ p.sym.size ≤ maxLen) :
    Calls Tryd.prog 6 #[.slice A l.length cp, .slice B m.length cp2, .int .i64 z] w fun e w' => e = .returned (.bool true) ∧ Below w.heap.size w w' := by
  by_cases h : 20 < l.length ∨ 20 < m.length
  · exact writes_big1 A _ cp B _ cp2 z h w
  · exact writes_in A cp l B cp2 m z (by omega) (by omega) w hL hA hB ho1 (fun p hp => (ho2 p hp).1)
namespace lawSegWrites
open Go.ChangeShapes Go.WideShapes Go.ChangeAt Go.RowKit
theorem own : ownKnob Tryd.prog.godebug = none := by kernel_rfl
theorem laidOut : laidOutB Tryd.prog = true := by kernel_rfl
theorem gTab0 : Tryd.prog.globalNamed "aquatint/zig.order" = some 0 := by kernel_rfl
theorem gTabType0 : (Tryd.prog.globals[0]?).map (·.type) = some 136 := by kernel_rfl
theorem cellsT : Tryd.prog.cellsOf 136 = 64 := by kernel_rfl
theorem cellsE : Tryd.prog.cellsOf 3 = 1 := by kernel_rfl
theorem table {W : World} (h : laidMetH Tryd.prog Rows.segWritesRow.laid W) : Lib.TabIs Tryd.prog W "aquatint/zig.order" .i64 (ordL.map fun (n : Nat) => (n : Int)) :=
  Lib.tabIs_of_head (rest := []) gTab0 gTabType0 Tryd.underlying136 Tryd.underlying3 cellsE cellsT h
theorem laid_of {W : World} (h : laidMetH Tryd.prog Rows.segWritesRow.laid W) : Laid W := by
  have H : ∀ k, k < 64 → W.cell? ⟨0, k, none⟩ = some (.int .i64 (ord k)) := fun k hk => by
    have h1 := (table h).cell gTab0 k (by simpa [ordL] using hk)
    rw [h1]
    have h2 : ord k = ordL[k]'(by simpa [ordL] using hk) := by
      unfold ord
      rw [List.getD_eq_getElem?_getD, List.getElem?_eq_getElem (by simpa [ordL] using hk)]
      rfl
    rw [h2, List.getD_eq_getElem?_getD, List.getElem?_map, List.getElem?_eq_getElem (by simpa [ordL] using hk)]
    rfl
  exact ⟨block_lt_of_cell (H 0 (by omega)), H⟩
open Go.ChangeMaps (open_string shut_string)
theorem contract (H : Type) (enc : TypeId × Value → H) (W : World) (base : Nat) (args : Array Value) (ds gs : List (DataW H)) (before : List MemPlace)
    (hval : ∀ (j : Nat) t v, Tryd.f6.params[j]? = some t → args[j]? = some v → Value.okWide Tryd.prog W .any base t v)
    (hW : DataW.Whole enc Tryd.prog Tryd.f6.params.toList Rows.segWritesSpec.vars false W args.toList ds gs before) (hL : laidMetH Tryd.prog Rows.segWritesRow.laid W) (_hsz : (DataW.weightsEach Tryd.prog (Tryd.f6.params.toList ++ (OpenSpec.ofChange Rows.segWritesSpec).bare.plain.varTypes Tryd.prog) (ds ++ gs)).all (· ≤ reachBytes) = true) :
    Calls Tryd.prog 6 args W fun e W' => ∃ v, e = .returned v ∧ Rows.segWritesSpec.post enc Tryd.prog Tryd.f6 false true false false W args v W' := by
  have hW' := hW
  obtain ⟨p, q, hA0, hV, hbefore, hfz, hnd⟩ := hW
  obtain ⟨rfl, rfl⟩ := trodVars_none hV
  have hA : DataW.TrodAll enc Tryd.prog W 0 (fun _ => true) true Tryd.f6.params.toList args.toList ds p := hA0
  rw [Tryd.params6] at hA hval
  obtain ⟨v0, vs1, d0, ds1, p0, q0, hargs, rfl, hps, h0, r0⟩ := trodAll_cons hA
  obtain ⟨v1, vs2, d1, ds2, p1, q1, rfl, rfl, rfl, h1, r1⟩ := trodAll_cons r0
  obtain ⟨v2, vs3, d2, ds3, p2, q2, rfl, rfl, rfl, h2, r2⟩ := trodAll_cons r1
  obtain ⟨rfl, rfl, rfl⟩ := trodAll_nil r2
  obtain rfl : args = #[v0, v1, v2] := by cases args; simp_all
  have o0 := hval 0 33 v0 rfl rfl
  have o1 := hval 1 34 v1 rfl rfl
  have o2 := hval 2 3 v2 rfl rfl
  clear hA0
  obtain ⟨A, cp, l, rfl, hlc, hAq, hg1⟩ := openInC Qt.is (fun p => p.ok) Tryd.underlying33 (by kernel_rfl) (by decide) (fun m cs x h => qt_el m cs x h) o0 h0
  obtain ⟨B, cp2, m, rfl, hmc, hBq, hg2⟩ := openInC Hf.is (fun p => p.ok ∧ p.sym.size ≤ maxLen) Tryd.underlying34 (by kernel_rfl) (by decide) (fun m cs x h => hf_el m cs x h) o1 h1
  obtain ⟨z, rfl, rfl, rfl, wz⟩ := open_int Tryd.underlying3 o2 h2
  refine (segWrites_walk A cp l B cp2 m z W (laid_of hL) hAq hBq hg1 hg2).mono fun e W' ⟨he, hb⟩ => ?_
  subst he
  exact ⟨_, rfl, law_post laidOut (by rw [Tryd.params6]; intro t ht; simp only [List.mem_cons, List.not_mem_nil, or_false] at ht; rcases ht with rfl | rfl | rfl <;> exact ⟨by kernel_rfl, of_decide_eq_true (by kernel_rfl)⟩) (by kernel_rfl) Tryd.underlying4 hW' rfl rfl hb⟩
theorem gTab : Tryd.prog.globalNamed "aquatint/zig.order" = some 0 := by kernel_rfl
theorem gTabType : (Tryd.prog.globals[0]?).map (·.type) = some 136 := by kernel_rfl
/-- A world for the witness: the settled one, the table holding what its initialiser lays. -/
noncomputable def laidWorld (os : Os) : World :=
  { World.holding Tryd.prog os ⟨#[], #[], []⟩ with heap := (World.holding Tryd.prog os ⟨#[], #[], []⟩).heap.modify 0 fun
      | .cells _ t frozen => .cells #[.int .i64 0, .int .i64 1, .int .i64 8, .int .i64 16, .int .i64 9, .int .i64 2, .int .i64 3, .int .i64 10, .int .i64 17, .int .i64 24, .int .i64 32, .int .i64 25, .int .i64 18, .int .i64 11, .int .i64 4, .int .i64 5, .int .i64 12, .int .i64 19, .int .i64 26, .int .i64 33, .int .i64 40, .int .i64 48, .int .i64 41, .int .i64 34, .int .i64 27, .int .i64 20, .int .i64 13, .int .i64 6, .int .i64 7, .int .i64 14, .int .i64 21, .int .i64 28, .int .i64 35, .int .i64 42, .int .i64 49, .int .i64 56, .int .i64 57, .int .i64 50, .int .i64 43, .int .i64 36, .int .i64 29, .int .i64 22, .int .i64 15, .int .i64 23, .int .i64 30, .int .i64 37, .int .i64 44, .int .i64 51, .int .i64 58, .int .i64 59, .int .i64 52, .int .i64 45, .int .i64 38, .int .i64 31, .int .i64 39, .int .i64 46, .int .i64 53, .int .i64 60, .int .i64 61, .int .i64 54, .int .i64 47, .int .i64 55, .int .i64 62, .int .i64 63] t frozen
      | o => o }
theorem laid_met (os : Os) : laidMet Tryd.prog Rows.segWritesRow.laid ((laidWorld os).forCall (fun _ _ => 0) ⟨#[], #[Value.slice none 0 0, Value.slice none 0 0, Value.int .i64 0], []⟩).memory :=
  laidMet_of_run' 8 (by kernel_rfl) (by kernel_rfl)
theorem reads (os : Os) {H : Type} (enc : TypeId × Value → H) : ∃ places, DataW.whole enc Tryd.prog ((laidWorld os).forCall (fun _ _ => 0) ⟨#[], #[Value.slice none 0 0, Value.slice none 0 0, Value.int .i64 0], []⟩).memory Tryd.f6.params.toList Rows.segWritesSpec.vars false #[Value.slice none 0 0, Value.slice none 0 0, Value.int .i64 0].toList 8 = some ([.nil, .nil, .lit (.int .i64 0)], [], places) :=
  ⟨[], by kernel_rfl⟩
set_option maxRecDepth 100000 in
theorem lifted (os : Os) (started : os.Started) (H : Type) (enc : TypeId × Value → H) (F : Stop.Interp) :
    ReturnsInHanded {} Tryd.checked os 6 .any ((OpenSpec.ofChange Rows.segWritesSpec).preRow enc Tryd.prog Tryd.f6 Rows.segWritesRow.domain false Rows.segWritesRow.laid) (((OpenSpec.ofChange Rows.segWritesSpec).at F).post enc Tryd.prog Tryd.f6 false true false false) := by
  obtain ⟨places, hx⟩ := reads os enc
  refine returnsInHanded_of_row (C := Tryd.checked) (s := (OpenSpec.ofChange Rows.segWritesSpec)) own started (by kernel_rfl) Tryd.func6
    (witness_row_at (enc := enc) (C := Tryd.checked) false (laidWorld os) #[Value.slice none 0 0, Value.slice none 0 0, Value.int .i64 0] rfl (by kernel_rfl) (by kernel_rfl) (by kernel_rfl)
      (OpenSpec.preRow_of_cond 8 hx (by kernel_rfl) (fun k hk => by cases hk) (by kernel_rfl) (laid_met os))) ?_
  intro W base args ds gs before hval hW _ _ hsz hL _ _
  exact contract H enc W base args ds gs before hval hW hL hsz
theorem said : Rows.SegWritesSaid :=
  OpenClaim.holds_of_cond 6 Tryd.f6 rfl rfl rfl rfl rfl rfl rfl ⟨rfl, rfl, rfl, rfl, rfl⟩ rfl rfl rfl rfl rfl (by kernel_rfl) Tryd.func6 (by kernel_rfl)
    (of_decide_eq_true (by kernel_rfl)) (by unfold Func.isWrapper; first | (rw [if_pos (by decide +kernel)]; kernel_rfl) | (rw [if_neg (by decide +kernel)]; exact ⟨rfl, rfl⟩))
    (fun os started H enc _ F => by rw [OpenClaim.pre_eq_preRow]; exact lifted os started H enc F)
theorem plain (f : FuncId) (fn : Func) (hf : Tryd.pinned.checked.prog.funcNamed "aquatint/aquatintlaw07.SegWrites" = some f) (hfn : Tryd.pinned.checked.prog.funcs[f]? = some fn) :
    true = Tryd.pinned.checked.prog.looks [] ∧ ∀ (j : Nat) t, fn.params[j]? = some t → Tryd.pinned.checked.prog.wantsStandIn t = false := by
  obtain rfl : f = 6 := Option.some.inj ((show Tryd.prog.funcNamed "aquatint/aquatintlaw07.SegWrites" = some 6 by kernel_rfl).symm.trans hf) |>.symm
  obtain rfl : fn = Tryd.f6 := (Option.some.inj (Tryd.func6.symm.trans hfn)).symm
  refine ⟨by kernel_rfl, fun j t ht => ?_⟩
  rw [Tryd.params6] at ht
  have hm := Array.mem_of_getElem? ht
  simp only [List.mem_toArray, List.mem_cons, List.not_mem_nil, or_false] at hm
  rcases hm with rfl | rfl | rfl
  · exact (show Tryd.prog.wantsStandIn 33 = false by kernel_rfl)
  · exact (show Tryd.prog.wantsStandIn 34 = false by kernel_rfl)
  · exact (show Tryd.prog.wantsStandIn 3 = false by kernel_rfl)
/-- The card. -/
theorem card : Rows.SegWritesCardSaid :=
  Claim7.holds_tied_plain_at .later [] _ _ _ _ said (fun _ h => by cases h) (by kernel_rfl) (fun _ h => by cases h) segWrites_row_tie rfl ⟨rfl, rfl⟩ (by kernel_rfl) rfl plain (by kernel_rfl)
#print axioms card
end lawSegWrites
end Go.Proofs.YtdohhhkondokkaaDoor
