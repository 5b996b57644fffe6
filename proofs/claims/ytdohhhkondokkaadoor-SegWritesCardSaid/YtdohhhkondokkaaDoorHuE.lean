/- Plain law of codes: no code is a beginning of another. No condition. -/
import Derived.Test.YtdohhhkondokkaaDoorHuD
namespace Go.Proofs.YtdohhhkondokkaaDoor
open Go.RowKit
set_option linter.unusedSimpArgs false
set_option linter.unusedVariables false
/-- Symbol i has no code, or the code v of l bits. -/
def CodeIs (st : HS) (i l v : Nat) : Prop := st.cn i = l ∧ st.cb i = v ∧ 1 ≤ l ∧ v + 2 ≤ 2 ^ l
def InvC (n : Nat) (st : HS) : Prop := ∀ i, (st.cn i = 0 ∧ st.cb i = 0) ∨ ∃ l v : Nat, CodeIs st i l v ∧ l ≤ n ∧ (v + 1) * 2 ^ (n - l) ≤ st.next
def PreF (st : HS) : Prop := ∀ i j l v l' v', i ≠ j → CodeIs st i l v → CodeIs st j l' v' → l' ≤ l → v / 2 ^ (l - l') ≠ v'
theorem invC_in {s : ByteArray} {n : Nat} (hn : 1 ≤ n) : ∀ (k : Nat) (st st' : HS), hIn s n k st = some st' → InvC n st → PreF st → InvC n st' ∧ PreF st'
  | 0, st, st', h, h1, h2 => by simp [hIn] at h; subst h; exact ⟨h1, h2⟩
  | k + 1, st, st', h, h1, h2 => by
    rw [hIn] at h
    cases hk : hIn s n k st with
    | none => rw [hk] at h; cases h
    | some st2 =>
      rw [hk] at h
      obtain ⟨i1, i2⟩ := invC_in hn k st st2 hk h1 h2
      simp only at h
      split at h
      · cases h
      · rename_i hc
        injection h with h
        obtain ⟨x, hx⟩ : ∃ x, x = symN s st2.at_ := ⟨_, rfl⟩
        rw [← hx] at h hc
        have hcx : ¬ 0 < st2.cn x := fun e => hc (Or.inr (Or.inr e))
        have hnx : st2.next + 2 ≤ 2 ^ n := by
          have : 2 ≤ 2 ^ n := by
            have := Nat.pow_le_pow_right (n := 2) (by omega) hn
            omega
          have : ¬ 2 ^ n - 1 ≤ st2.next := fun e => hc (Or.inr (Or.inl e))
          omega
        have old : ∀ i, i ≠ x → st'.cn i = st2.cn i ∧ st'.cb i = st2.cb i := fun i hi => by
          subst h; simp [upd, hi]
        have new : st'.cn x = n ∧ st'.cb x = st2.next := by subst h; simp [upd]
        have nxt : st'.next = st2.next + 1 := by subst h; rfl
        have oldC : ∀ i l v, i ≠ x → CodeIs st' i l v → CodeIs st2 i l v := fun i l v hi hC => by
          obtain ⟨e1, e2⟩ := old i hi
          unfold CodeIs at *; rw [e1, e2] at hC; exact hC
        have newC : ∀ l v, CodeIs st' x l v → l = n ∧ v = st2.next := fun l v hC => by
          obtain ⟨e1, e2, _⟩ := hC
          rw [new.1] at e1; rw [new.2] at e2; omega
        have bound : ∀ i l v, i ≠ x → CodeIs st' i l v → l ≤ n ∧ (v + 1) * 2 ^ (n - l) ≤ st2.next := fun i l v hi hC => by
          have hC2 := oldC i l v hi hC
          rcases i1 i with ⟨z, _⟩ | ⟨l2, v2, hD, h3, h4⟩
          · have := hC2.1; have := hC2.2.2.1; omega
          · have e1 := hC2.1; have e2 := hC2.2.1; rw [hD.1] at e1; rw [hD.2.1] at e2
            obtain rfl : l2 = l := by omega
            obtain rfl : v2 = v := by omega
            exact ⟨h3, h4⟩
        refine ⟨fun i => ?_, fun i j l v l' v' hij hi hj hl => ?_⟩
        · by_cases hi : i = x
          · subst hi
            refine Or.inr ⟨n, st2.next, ⟨new.1, new.2, hn, hnx⟩, Nat.le_refl _, ?_⟩
            rw [Nat.sub_self, nxt]; simp
          · obtain ⟨e1, e2⟩ := old i hi
            rcases i1 i with h0 | ⟨l, v, hC, h3, h4⟩
            · exact Or.inl ⟨e1 ▸ h0.1, e2 ▸ h0.2⟩
            · exact Or.inr ⟨l, v, by unfold CodeIs at *; rw [e1, e2]; exact hC, h3, by rw [nxt]; omega⟩
        · by_cases hix : i = x
          · subst hix
            obtain ⟨rfl, rfl⟩ := newC l v hi
            obtain ⟨b1, b2⟩ := bound j l' v' (fun e => hij e.symm) hj
            have h5 : v' + 1 ≤ st2.next / 2 ^ (l - l') := (Nat.le_div_iff_mul_le (Nat.two_pow_pos _)).2 b2
            omega
          · by_cases hjx : j = x
            · subst hjx
              obtain ⟨rfl, rfl⟩ := newC l' v' hj
              obtain ⟨b1, b2⟩ := bound i l v hix hi
              obtain rfl : l' = l := by omega
              rw [Nat.sub_self] at *
              simp at b2 ⊢
              omega
            · exact i2 i j l v l' v' hij (oldC i l v hix hi) (oldC j l' v' hjx hj) hl
theorem invC_out {cnt : Nat → Int} {s : ByteArray} : ∀ (n : Nat) (st : HS), hOut cnt s n = some st → InvC n st ∧ PreF st
  | 0, st, h => by
    simp [hOut] at h; subst h
    exact ⟨fun i => Or.inl ⟨rfl, rfl⟩, fun i j l v l' v' _ hi => by have := hi.1; have := hi.2.2.1; simp [zf] at *; omega⟩
  | n + 1, st, h => by
    rw [hOut] at h
    cases hk : hOut cnt s n with
    | none => rw [hk] at h; cases h
    | some st2 =>
      rw [hk] at h
      obtain ⟨i1, i2⟩ := invC_out n st2 hk
      refine invC_in (by omega) _ _ _ h (fun i => ?_) i2
      rcases i1 i with h0 | ⟨l, v, hC, h3, h4⟩
      · exact Or.inl h0
      · refine Or.inr ⟨l, v, hC, by omega, ?_⟩
        show (v + 1) * 2 ^ (n + 1 - l) ≤ 2 * st2.next
        rw [show n + 1 - l = (n - l) + 1 by omega, Nat.pow_succ, ← Nat.mul_assoc]
        omega
theorem hufNew_hOut {cnt : Nat → Int} {s : ByteArray} {st : HS} (h : hufNew cnt s = some st) : hOut cnt s 16 = some st ∧ st.at_ = s.size ∧ 0 < s.size := by
  unfold hufNew at h
  cases hk : hOut cnt s 16 with
  | none => rw [hk] at h; cases h
  | some st2 =>
    rw [hk] at h
    simp only at h
    split at h
    · cases h
    · rename_i hc
      injection h with h
      subst h
      exact ⟨rfl, by omega, by omega⟩
theorem codes_of {cnt : Nat → Int} {s : ByteArray} {st : HS} (h : hufNew cnt s = some st) (i : Nat) : (st.cn i = 0 ∧ st.cb i = 0) ∨ ∃ l v : Nat, CodeIs st i l v ∧ l ≤ 16 := by
  rcases (invC_out 16 st (hufNew_hOut h).1).1 i with h0 | ⟨l, v, hC, h3, _⟩
  · exact Or.inl h0
  · exact Or.inr ⟨l, v, hC, h3⟩
theorem prefix_free {cnt : Nat → Int} {s : ByteArray} {st : HS} (h : hufNew cnt s = some st) : PreF st := (invC_out 16 st (hufNew_hOut h).1).2
end Go.Proofs.YtdohhhkondokkaaDoor
