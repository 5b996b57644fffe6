/- The factors' check, and what a frame's sizes answer. No condition. -/
import Derived.Test.YtjfnlgmllhjonaaFrB
import Derived.Laws.EntriesVeiled
namespace Go.Proofs.Ytjfnlgmllhjonaa
open Go.RowKit
set_option linter.unusedSimpArgs false
set_option linter.unusedVariables false
def goodF (x : Int) : Bool := decide (1 ≤ x) && decide (x ≤ 4)
def badF (x y : Int) : Bool := !goodF x || !goodF y
def anyB (p : Nat → Bool) : Nat → Bool
  | 0 => false
  | n + 1 => anyB p n || p n
theorem anyB_hit {p : Nat → Bool} {k n : Nat} (hk : k < n) (hp : p k = true) : anyB p n = true := by
  induction n with
  | zero => omega
  | succ n ih =>
    unfold anyB
    by_cases e : k = n
    · subst e; simp [hp]
    · rw [ih (by omega)]; rfl
theorem anyB_iff (p : Nat → Bool) (n : Nat) : anyB p n = true ↔ ∃ i, i < n ∧ p i = true := by
  induction n with
  | zero => simp [anyB]
  | succ n ih =>
    unfold anyB
    rw [Bool.or_eq_true, ih]
    constructor
    · rintro (⟨i, h1, h2⟩ | h)
      · exact ⟨i, by omega, h2⟩
      · exact ⟨n, by omega, h⟩
    · rintro ⟨i, h1, h2⟩
      by_cases e : i = n
      · subst e; exact Or.inr h2
      · exact Or.inl ⟨i, by omega, h2⟩
theorem factor_walk (x : Int) (w : World) : Calls Try.prog 28 #[.int .i64 x] w fun e w' => e = .returned (.bool (goodF x)) ∧ w' = w := by
  unfold goodF
  by_cases h1 : 1 ≤ x
  all_goals by_cases h2 : x ≤ 4
  all_goals
    go_enter Try.func28, Try.ntmps28
    go_wp2
    go_ret
    exact ⟨by simp [h1, h2], rfl⟩
set_option maxHeartbeats 0 in
theorem bad_walk (T : Nat) (x y : Int) (w : World) (hT : T < w.heap.size) (hc : w.cell? ⟨T, 0, none⟩ = some (.func (.func 28) #[] #[])) :
    Calls Try.prog 29 #[.agg #[.int .i64 x, .int .i64 y], .pointer (some ⟨T, 0, none⟩)] w fun e w' => e = .returned (.bool (badF x y)) ∧ Below w.heap.size w w' := by
  have hne : T ≠ w.heap.size := by omega
  unfold badF
  obtain ⟨b1, hb1⟩ : ∃ b1, b1 = goodF x := ⟨_, rfl⟩
  obtain ⟨b2, hb2⟩ : ∃ b2, b2 = goodF y := ⟨_, rfl⟩
  have h1 := fun w => factor_walk x w
  have h2 := fun w => factor_walk y w
  rw [← hb1, ← hb2]
  rw [← hb1] at h1
  rw [← hb2] at h2
  have H1 := Lib.hid h1; have H2 := Lib.hid h2
  clear h1 h2 hb1 hb2
  cases b1 <;> cases b2
  all_goals
    go_enter Try.func29, Try.ntmps29
    go_wp2_with (first | (go_at_call 28; refine (H1.out _).mono ?_; rintro e w1 ⟨rfl, rfl⟩) | (go_at_call 28; refine (H2.out _).mono ?_; rintro e w2 ⟨rfl, rfl⟩))
    go_ret
    exact ⟨rfl, (Below.refl _ _).alloc (Nat.le_refl _) _⟩
set_option maxHeartbeats 0 in
theorem index_walk (g off n c T : Nat) (f : Nat → Nat → Int) (w : World) (hn : n ≤ 1000) (hR : RdS w (some ⟨g, off, none⟩) n 2 f) (hT : T < w.heap.size) (hc : w.cell? ⟨T, 0, none⟩ = some (.func (.func 28) #[] #[])) :
    Calls Try.prog 33 #[.slice (some ⟨g, off, none⟩) n c, .func (.func 29) #[] #[.pointer (some ⟨T, 0, none⟩)]] w fun e w' => Hid (∃ r : Int, e = .returned (.int .i64 r) ∧ decide (0 ≤ r) = anyB (fun i => badF (f i 0) (f i 1)) n ∧ Below w.heap.size w w') := by
  have HR := Lib.hid hR; have HC := Lib.hid hc; clear hR hc
  go_enter Try.func33, Try.ntmps33
  go_wp2
  go_loopw [5, 8] (fun x5 i wr => ∃ k : Nat, k ≤ n ∧ i = .int .i64 k ∧ Hid (anyB (fun i => badF (f i 0) (f i 1)) k = false) ∧ Hid (Below w.heap.size w wr)) (fun _ i _ => n - (intOf i).toNat)
  case atStart => exact ⟨0, by omega, rfl, Lib.hid rfl, Lib.hid (Below.refl _ _)⟩
  case round =>
    obtain ⟨k, hk, rfl, hA, hb⟩ := hrel
    by_cases hlt : k < n
    · obtain ⟨g', off', e0, hg, q0, q1⟩ := (HR.out.bel hb.out).at2 hlt
      injection e0 with e0; injection e0 with e0 e1; subst e0 e1
      have hcall := bad_walk T (f k 0) (f k 1) wr (Nat.lt_of_lt_of_le hT hb.out.size) ((hb.out.cell (p := ⟨T, 0, none⟩) hT).trans HC.out)
      have hA2 : anyB (fun i => badF (f i 0) (f i 1)) (k + 1) = badF (f k 0) (f k 1) := by rw [anyB, hA.out]; rfl
      have hit : badF (f k 0) (f k 1) = true → anyB (fun i => badF (f i 0) (f i 1)) n = true := fun h => anyB_hit (p := fun i => badF (f i 0) (f i 1)) hlt h
      obtain ⟨x, hx⟩ : ∃ x, x = f k 0 := ⟨_, rfl⟩
      obtain ⟨y, hy⟩ : ∃ y, y = f k 1 := ⟨_, rfl⟩
      rw [← hx] at q0 hcall hA2 hit
      rw [← hy] at q1 hcall hA2 hit
      obtain ⟨bb, hbb⟩ : ∃ bb, bb = badF x y := ⟨_, rfl⟩
      rw [← hbb] at hcall hA2 hit
      have HA2 := Lib.hid hA2; have HC1 := Lib.hid hcall; have HIT := Lib.hid hit
      clear hA2 hcall hit hx hy hbb
      cases bb
      · go_wp2_with (first | (go_at_call 29; refine HC1.out.mono ?_; rintro e w1 ⟨rfl, hb1⟩; have HB1 := Lib.hid (hb.out.trans (hb1.mono hb.out.size)); clear hb1))
        exact ⟨⟨k + 1, by omega, by go_num, HA2, HB1⟩, by simp [intOf]; omega⟩
      · go_wp2_with (first | (go_at_call 29; refine HC1.out.mono ?_; rintro e w1 ⟨rfl, hb1⟩; have HB1 := Lib.hid (hb.out.trans (hb1.mono hb.out.size)); clear hb1))
        go_ret
        exact Lib.hid ⟨k, rfl, by rw [HIT.out trivial]; simp, HB1.out⟩
    · obtain rfl : k = n := by omega
      go_wp2
      go_ret
      exact Lib.hid ⟨-1, rfl, by rw [hA.out]; rfl, hb.out⟩
theorem contains_walk (g off n c T : Nat) (f : Nat → Nat → Int) (w : World) (hn : n ≤ 1000) (hR : RdS w (some ⟨g, off, none⟩) n 2 f) (hT : T < w.heap.size) (hc : w.cell? ⟨T, 0, none⟩ = some (.func (.func 28) #[] #[])) :
    Calls Try.prog 30 #[.slice (some ⟨g, off, none⟩) n c, .func (.func 29) #[] #[.pointer (some ⟨T, 0, none⟩)]] w fun e w' => e = .returned (.bool (anyB (fun i => badF (f i 0) (f i 1)) n)) ∧ Below w.heap.size w w' := by
  have H := Lib.hid (index_walk g off n c T f w hn hR hT hc)
  clear hR hc
  go_enter Try.func30, Try.ntmps30
  go_wp2_with (first | (go_at_call 33; refine H.out.mono ?_; intro e w1 hp; obtain ⟨r, rfl, hr, hb1⟩ := hp.out; have HB1 := Lib.hid hb1; have HRr := Lib.hid hr; clear hb1 hr hp))
  go_ret
  refine ⟨?_, HB1.out⟩
  rw [← HRr.out]
  rfl
/-- What right answers. -/
def rightV (a b : Int) (n : Nat) (f : Nat → Nat → Int) : Int :=
  if a < 1 ∨ b < 1 ∨ n = 0 ∨ anyB (fun i => badF (f i 0) (f i 1)) n = true then 7 else if 16384 < a ∨ 16384 < b then 11 else if 4 < n then 12 else 0
set_option maxHeartbeats 0 in
theorem right_walk (a b : Int) (A : Option Addr) (n c : Nat) (f : Nat → Nat → Int) (w : World) (hn : n ≤ 1000) (hR : RdS w A n 2 f) :
    Calls Try.prog 20 #[.int .i64 a, .int .i64 b, .slice A n c] w fun e w' => e = .returned (.int .i64 (rightV a b n f)) ∧ Below w.heap.size w w' := by
  by_cases h1 : a < 1
  · have g1 : decide (a < 1) = true := by simpa using h1
    have e1 : rightV a b n f = 7 := by unfold rightV; rw [if_pos (Or.inl h1)]
    rw [e1]
    clear hR e1
    go_enter Try.func20, Try.ntmps20
    go_wp2
    go_ret
    exact ⟨rfl, (Below.refl _ _).alloc (Nat.le_refl _) _⟩
  · have g1 : decide (a < 1) = false := by simpa using h1
    by_cases h2 : b < 1
    · have g2 : decide (b < 1) = true := by simpa using h2
      have e1 : rightV a b n f = 7 := by unfold rightV; rw [if_pos (Or.inr (Or.inl h2))]
      rw [e1]
      clear hR e1
      go_enter Try.func20, Try.ntmps20
      go_wp2
      go_ret
      exact ⟨rfl, (Below.refl _ _).alloc (Nat.le_refl _) _⟩
    · have g2 : decide (b < 1) = false := by simpa using h2
      by_cases h3 : n = 0
      · have e1 : rightV a b n f = 7 := by unfold rightV; rw [if_pos (Or.inr (Or.inr (Or.inl h3)))]
        rw [e1]
        subst h3
        clear hR e1
        go_enter Try.func20, Try.ntmps20
        go_wp2
        go_ret
        exact ⟨rfl, (Below.refl _ _).alloc (Nat.le_refl _) _⟩
      · have g3 : (((n : Nat) : Int) == 0) = false := by simpa using h3
        obtain ⟨g, off, rfl, hg, _⟩ := hR.at2 (i := 0) (by omega)
        have hcon := contains_walk g off n c w.heap.size f (w.alloc (.cells #[.func (.func 28) #[] #[]] 76)) hn (hR.bel ((Below.refl _ _).alloc (Nat.le_refl _) _)) (by simp) (by simp)
        obtain ⟨r, hr⟩ : ∃ r, r = rightV a b n f := ⟨_, rfl⟩
        rw [← hr]
        unfold rightV at hr
        obtain ⟨bb, hbb⟩ : ∃ bb, bb = anyB (fun i => badF (f i 0) (f i 1)) n := ⟨_, rfl⟩
        rw [← hbb] at hcon hr
        have HCON := Lib.hid hcon; have HRR := Lib.hid hr
        clear hR hcon hr hbb
        cases bb
        · have d1 : decide (16384 < a) = true ∨ (decide (16384 < a) = false ∧ decide (16384 < b) = true) ∨ (decide (16384 < a) = false ∧ decide (16384 < b) = false ∧ decide ((4 : Int) < n) = true) ∨ (decide (16384 < a) = false ∧ decide (16384 < b) = false ∧ decide ((4 : Int) < n) = false) := by
            simp only [decide_eq_true_eq, decide_eq_false_iff_not]; omega
          rcases d1 with d1 | ⟨d1, d2⟩ | ⟨d1, d2, d3⟩ | ⟨d1, d2, d3⟩
          all_goals
            go_enter Try.func20, Try.ntmps20
            go_wp2_with (first | (go_at_call 30; refine HCON.out.mono ?_; rintro e w1 ⟨rfl, hb1⟩; have HB1 := Lib.hid (((Below.refl w.heap.size w).alloc (Nat.le_refl _) _).trans (hb1.mono (by simp))); clear hb1))
            go_ret
            refine ⟨?_, HB1.out⟩
            rw [HRR.out]
            simp only [decide_eq_true_eq, decide_eq_false_iff_not] at d1
            try simp only [decide_eq_true_eq, decide_eq_false_iff_not] at d2
            try simp only [decide_eq_true_eq, decide_eq_false_iff_not] at d3
            have e0 : ¬ (a < 1 ∨ b < 1 ∨ n = 0 ∨ false = true) := by rintro (h | h | h | h) <;> first | omega | cases h
            rw [if_neg e0]
            first | (rw [if_pos (Or.inl d1)]; rfl) | (rw [if_pos (Or.inr d2)]; rfl) | (rw [if_neg (by omega), if_pos (by omega)]; rfl) | (rw [if_neg (by omega), if_neg (by omega)]; rfl)
        · go_enter Try.func20, Try.ntmps20
          go_wp2_with (first | (go_at_call 30; refine HCON.out.mono ?_; rintro e w1 ⟨rfl, hb1⟩; have HB1 := Lib.hid (((Below.refl w.heap.size w).alloc (Nat.le_refl _) _).trans (hb1.mono (by simp))); clear hb1))
          go_ret
          refine ⟨?_, HB1.out⟩
          rw [HRR.out, if_pos (Or.inr (Or.inr (Or.inr trivial)))]
          rfl
end Go.Proofs.Ytjfnlgmllhjonaa
