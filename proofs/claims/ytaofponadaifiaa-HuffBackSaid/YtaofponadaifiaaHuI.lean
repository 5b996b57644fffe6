/- Plain law: the bits of a reader as a list, and the symbols among them. No condition. -/
import Derived.Test.YtaofponadaifiaaHuF
import Derived.Test.YtaofponadaifiaaRdW
namespace Go.Proofs.Ytaofponadaifiaa
open Go.RowKit
set_option linter.unusedSimpArgs false
set_option linter.unusedVariables false
/-- One bit read. -/
def bit1 (s : ByteArray) (a : Nat) (H : List Int) : Option (Int × Nat × List Int) := match rdB s 1 3 H a with
  | none => none
  | some (H', a') => some (valB (H'.take 1), a', H'.drop 1)
def mB (s : ByteArray) (a : Nat) (H : List Int) : Nat := H.length + 8 * (s.size - a)
theorem rdB_one (s : ByteArray) (a : Nat) (H : List Int) : rdB s 1 3 H a = if H.length < 1 then (if (wholeV s a).2 = 0 then none else some (bitsN 8 (wholeV s a).1, a + (wholeV s a).2)) else some (H, a) := by
  rw [rdB]
  by_cases h : H.length < 1
  · rw [if_pos h, if_pos h]
    have e : H = [] := List.eq_nil_of_length_eq_zero (by omega)
    subst e
    by_cases h0 : (wholeV s a).2 = 0
    · rw [if_pos h0, if_pos h0]
    · rw [if_neg h0, if_neg h0, rdB, List.nil_append, if_neg (by rw [bitsN_len]; omega)]
  · rw [if_neg h, if_neg h]
theorem bit1_ok {s : ByteArray} {a : Nat} {H : List Int} (I : InvR s a H) {b : Int} {a' : Nat} {H' : List Int} (h : bit1 s a H = some (b, a', H')) : InvR s a' H' ∧ mB s a' H' < mB s a H ∧ (b = 0 ∨ b = 1) := by
  unfold bit1 at h
  cases hr : rdB s 1 3 H a with
  | none => rw [hr] at h; cases h
  | some p =>
    obtain ⟨H2, a2⟩ := p
    rw [hr] at h
    simp only [Option.some.injEq, Prod.mk.injEq] at h
    obtain ⟨h1, h2, h3⟩ := h
    obtain ⟨b1, b2, b3, b4⟩ := rdB_ok s 1 3 H a H2 a2 I.bits I.le (by omega) (by have := I.few; omega) hr
    subst h1 h2 h3
    refine ⟨⟨b1.drop 1, by simp; omega, b2⟩, ?_, ?_⟩
    · unfold mB
      rw [rdB_one] at hr
      by_cases h : H.length < 1
      · rw [if_pos h] at hr
        by_cases h0 : (wholeV s a).2 = 0
        · rw [if_pos h0] at hr; cases hr
        · rw [if_neg h0] at hr
          injection hr with hr
          injection hr with e1 e2
          subst e1 e2
          have := whole_at s a h0
          rw [List.length_drop, bitsN_len]
          omega
      · rw [if_neg h] at hr
        injection hr with hr
        injection hr with e1 e2
        subst e1 e2
        rw [List.length_drop]
        omega
    · have r := bit_range (H2.take 1) (b1.take 1) 1 (by simp; omega)
      have e : (2 : Int) ^ 1 = 2 := by decide
      omega
/-- All bits that are still to be read. -/
def allB (s : ByteArray) : Nat → Nat → List Int → List Int
  | 0, _, _ => []
  | f + 1, a, H => match bit1 s a H with
    | none => []
    | some (b, a', H') => b :: allB s f a' H'
theorem bit1_zero {s : ByteArray} {a : Nat} {H : List Int} (I : InvR s a H) (h : mB s a H = 0) : bit1 s a H = none := by
  cases hb : bit1 s a H with
  | none => rfl
  | some p => obtain ⟨b, a', H'⟩ := p; have := (bit1_ok I hb).2.1; omega
theorem allB_fuel (s : ByteArray) : ∀ (f1 f2 : Nat) (a : Nat) (H : List Int), InvR s a H → mB s a H ≤ f1 → mB s a H ≤ f2 → allB s f1 a H = allB s f2 a H
  | 0, 0, a, H, _, _, _ => rfl
  | 0, f2 + 1, a, H, I, h1, _ => by rw [allB, allB, bit1_zero I (by omega)]
  | f1 + 1, 0, a, H, I, _, h2 => by rw [allB, allB, bit1_zero I (by omega)]
  | f1 + 1, f2 + 1, a, H, I, h1, h2 => by
    rw [allB, allB]
    cases hb : bit1 s a H with
    | none => rfl
    | some p =>
      obtain ⟨b, a', H'⟩ := p
      obtain ⟨I', hlt, _⟩ := bit1_ok I hb
      simp only
      rw [allB_fuel s f1 f2 a' H' I' (by omega) (by omega)]
def remB (s : ByteArray) (a : Nat) (H : List Int) : List Int := allB s (mB s a H) a H
theorem remB_none {s : ByteArray} {a : Nat} {H : List Int} (h : bit1 s a H = none) : remB s a H = [] := by
  unfold remB
  cases mB s a H with
  | zero => rfl
  | succ m => rw [allB, h]
theorem remB_some {s : ByteArray} {a : Nat} {H : List Int} (I : InvR s a H) {b : Int} {a' : Nat} {H' : List Int} (h : bit1 s a H = some (b, a', H')) : remB s a H = b :: remB s a' H' := by
  obtain ⟨I', hlt, _⟩ := bit1_ok I h
  unfold remB
  obtain ⟨m, hm⟩ : ∃ m, mB s a H = m + 1 := ⟨mB s a H - 1, by omega⟩
  rw [hm, allB, h]
  simp only
  rw [allB_fuel s m (mB s a' H') a' H' I' (by omega) (Nat.le_refl _)]
theorem remB_bit {s : ByteArray} : ∀ (f a : Nat) (H : List Int), InvR s a H → mB s a H ≤ f → ∀ b ∈ remB s a H, b = 0 ∨ b = 1
  | 0, a, H, I, h, b, hb => by rw [remB_none (bit1_zero I (by omega))] at hb; cases hb
  | f + 1, a, H, I, h, b, hb => by
    cases h1 : bit1 s a H with
    | none => rw [remB_none h1] at hb; cases hb
    | some p =>
      obtain ⟨c, a', H'⟩ := p
      obtain ⟨I', hlt, hc⟩ := bit1_ok I h1
      rw [remB_some I h1] at hb
      rcases List.mem_cons.1 hb with rfl | hb
      · exact hc
      · exact remB_bit f a' H' I' (by omega) b hb
theorem remB_len {s : ByteArray} : ∀ (f a : Nat) (H : List Int), InvR s a H → mB s a H ≤ f → (remB s a H).length ≤ mB s a H
  | 0, a, H, I, h => by rw [remB_none (bit1_zero I (by omega))]; exact Nat.zero_le _
  | f + 1, a, H, I, h => by
    cases h1 : bit1 s a H with
    | none => rw [remB_none h1]; exact Nat.zero_le _
    | some p =>
      obtain ⟨c, a', H'⟩ := p
      obtain ⟨I', hlt, hc⟩ := bit1_ok I h1
      rw [remB_some I h1, List.length_cons]
      have := remB_len f a' H' I' (by omega)
      omega
/-! The symbol that comes first among bits. -/
/-- A code of n bits, by the program's tables. -/
def hitP (cnt : Nat → Int) (s : ByteArray) (n : Nat) (v : Int) : Option Nat :=
  if 0 ≤ v - fsF cnt s n ∧ v - fsF cnt s n < cnt (n - 1) then some (symN s (atF cnt s n + (v - fsF cnt s n)).toNat) else none
/-- The first of the entries from i on that is it. -/
def hitG (s : ByteArray) (g : GS) (n : Nat) (v : Int) : Nat → Nat → Option Nat
  | 0, _ => none
  | k + 1, i => if g.ni i = n ∧ (g.bi i : Int) = v then some (symN s i) else hitG s g n v k (i + 1)
/-- The decoder: the symbol, how many bits it took, the error. -/
def goD (hit : Nat → Int → Option Nat) : Nat → Nat → Int → List Int → Int × Nat × Int
  | 0, _, _, _ => (0, 0, 9)
  | _ + 1, _, _, [] => (0, 0, 2)
  | f + 1, n, v, b :: L => match hit n (v * 2 + b) with
    | some x => (x, n, 0)
    | none => goD hit f (n + 1) (v * 2 + b) L
def decP (cnt : Nat → Int) (s : ByteArray) (L : List Int) : Int × Nat × Int := goD (hitP cnt s) 16 1 0 L
theorem gIn_get {s : ByteArray} {n : Nat} : ∀ (k : Nat) (g g' : GS), gIn s n k g = some g' → (g'.at_ = g.at_ + k ∧ g'.next = g.next + k) ∧ (∀ j, j < k → g'.ni (g.at_ + j) = n ∧ g'.bi (g.at_ + j) = g.next + j) ∧ ∀ i, i < g.at_ → g'.ni i = g.ni i ∧ g'.bi i = g.bi i
  | 0, g, g', h => by simp [gIn] at h; subst h; exact ⟨⟨rfl, rfl⟩, fun j hj => absurd hj (Nat.not_lt_zero _), fun _ _ => ⟨rfl, rfl⟩⟩
  | k + 1, g, g', h => by
    rw [gIn] at h
    cases hk : gIn s n k g with
    | none => rw [hk] at h; cases h
    | some g2 =>
      rw [hk] at h
      obtain ⟨⟨e1, e2⟩, h2, h3⟩ := gIn_get k g g2 hk
      simp only at h
      split at h
      · cases h
      · injection h with h
        subst h
        refine ⟨⟨by simp only; omega, by simp only; omega⟩, fun j hj => ?_, fun i hi => ?_⟩
        · by_cases e : j = k
          · subst e; simp only [updN, if_pos e1.symm]; exact ⟨trivial, e2⟩
          · simp only [updN, if_neg (show ¬ g.at_ + j = g2.at_ by omega)]; exact h2 j (by omega)
        · simp only [updN, if_neg (show ¬ i = g2.at_ by omega)]; exact h3 i hi
/-- Where the codes of each length stand. -/
theorem gOut_get {cnt : Nat → Int} {s : ByteArray} : ∀ (n : Nat) (g : GS), gOut cnt s n = some g →
    (∀ m, m < n → ∃ gm, gOut cnt s m = some gm ∧ gm.at_ + (cnt m).toNat ≤ g.at_ ∧ ∀ j, j < (cnt m).toNat → g.ni (gm.at_ + j) = m + 1 ∧ g.bi (gm.at_ + j) = gm.next * 2 + j) ∧
    (∀ i, i < g.at_ → ∃ m, m < n ∧ ∃ gm, gOut cnt s m = some gm ∧ ∃ j, j < (cnt m).toNat ∧ i = gm.at_ + j)
  | 0, g, h => by
    simp [gOut] at h; subst h
    exact ⟨fun m hm => absurd hm (Nat.not_lt_zero _), fun i hi => absurd hi (Nat.not_lt_zero _)⟩
  | n + 1, g, h => by
    rw [gOut] at h
    cases hk : gOut cnt s n with
    | none => rw [hk] at h; cases h
    | some g2 =>
      rw [hk] at h
      obtain ⟨i1, i2⟩ := gOut_get n g2 hk
      obtain ⟨⟨e1, e2⟩, h2, h3⟩ := gIn_get _ _ _ h
      simp only at e1 e2 h2 h3
      refine ⟨fun m hm => ?_, fun i hi => ?_⟩
      · by_cases e : m = n
        · subst e; exact ⟨g2, hk, by omega, h2⟩
        · obtain ⟨gm, a1, a2, a3⟩ := i1 m (by omega)
          refine ⟨gm, a1, by omega, fun j hj => ?_⟩
          obtain ⟨b1, b2⟩ := h3 (gm.at_ + j) (by omega)
          rw [b1, b2]; exact a3 j hj
      · by_cases e : i < g2.at_
        · obtain ⟨m, a1, a2⟩ := i2 i e
          exact ⟨m, by omega, a2⟩
        · exact ⟨n, by omega, g2, hk, i - g2.at_, by omega, by omega⟩
theorem hitG_some {s : ByteArray} {g : GS} {n : Nat} {v : Int} : ∀ (k i : Nat) (x : Nat), (∀ q, i ≤ q → q < i + k → g.ni q = n → (g.bi q : Int) = v → symN s q = x) → (∃ q, i ≤ q ∧ q < i + k ∧ g.ni q = n ∧ (g.bi q : Int) = v) → hitG s g n v k i = some x
  | 0, i, x, _, h => by obtain ⟨q, h1, h2, _⟩ := h; omega
  | k + 1, i, x, hu, h => by
    rw [hitG]
    by_cases e : g.ni i = n ∧ (g.bi i : Int) = v
    · rw [if_pos e, hu i (Nat.le_refl _) (by omega) e.1 e.2]
    · rw [if_neg e]
      refine hitG_some k (i + 1) x (fun q h1 h2 => hu q (by omega) (by omega)) ?_
      obtain ⟨q, h1, h2, h3, h4⟩ := h
      by_cases eq : q = i
      · subst eq; exact absurd ⟨h3, h4⟩ e
      · exact ⟨q, by omega, by omega, h3, h4⟩
theorem hitG_none {s : ByteArray} {g : GS} {n : Nat} {v : Int} : ∀ (k i : Nat), (∀ q, i ≤ q → q < i + k → ¬ (g.ni q = n ∧ (g.bi q : Int) = v)) → hitG s g n v k i = none
  | 0, i, _ => rfl
  | k + 1, i, h => by
    rw [hitG, if_neg (h i (Nat.le_refl _) (by omega))]
    exact hitG_none k (i + 1) fun q h1 h2 => h q (by omega) (by omega)
/-- The program's test finds what the document's list has. -/
theorem hit_both {cnt : Nat → Int} {s : ByteArray} {st : HS} {g : GS} (hc : ∀ j, j < 16 → 0 ≤ cnt j ∧ cnt j ≤ 255) (h0 : hufNew cnt s = some st) (hg : gOut cnt s 16 = some g) (n : Nat) (hn1 : 1 ≤ n) (hn : n ≤ 16) (v : Int) : hitP cnt s n v = hitG s g n v g.at_ 0 := by
  obtain ⟨i1, i2⟩ := gOut_get 16 g hg
  obtain ⟨m, rfl⟩ : ∃ m, n = m + 1 := ⟨n - 1, by omega⟩
  obtain ⟨gm, a1, a2, a3⟩ := i1 m (by omega)
  have hcm := hc m (by omega)
  -- New's own state at m
  obtain ⟨h16, _, _⟩ := hufNew_hOut h0
  have hm : ∃ sm, hOut cnt s m = some sm := by
    cases hk : hOut cnt s m with
    | none => rw [hOut_none hk 16 (by omega)] at h16; cases h16
    | some sm => exact ⟨sm, rfl⟩
  obtain ⟨sm, hsm⟩ := hm
  obtain ⟨gm', b1, S⟩ := sim_out m sm hsm
  rw [a1] at b1
  injection b1 with b1
  subst b1
  have ef : fsF cnt s (m + 1) = (gm.next * 2 : Nat) := by simp only [fsF, hsm]; rw [S.nx]; omega
  have ea : atF cnt s (m + 1) = (gm.at_ : Nat) := by simp only [atF, hsm]; rw [S.at_]
  -- an entry of length m + 1 is one of these
  have only : ∀ q, q < g.at_ → g.ni q = m + 1 → ∃ j, j < (cnt m).toNat ∧ q = gm.at_ + j ∧ g.bi q = gm.next * 2 + j := fun q hq hqn => by
    obtain ⟨m', c1, gm', c2, j, c3, c4⟩ := i2 q hq
    obtain ⟨gm2, d1, d2, d3⟩ := i1 m' c1
    rw [c2] at d1; injection d1 with d1; subst d1
    have := d3 j c3
    rw [← c4] at this
    have e : m' = m := by omega
    subst e
    rw [a1] at c2; injection c2 with c2; subst c2
    exact ⟨j, c3, c4, this.2⟩
  unfold hitP
  rw [ef, ea, Nat.add_sub_cancel]
  by_cases hv : 0 ≤ v - (gm.next * 2 : Nat) ∧ v - (gm.next * 2 : Nat) < cnt m
  · rw [if_pos hv]
    obtain ⟨j, hj⟩ : ∃ j : Nat, v - (gm.next * 2 : Nat) = j := ⟨(v - (gm.next * 2 : Nat)).toNat, by omega⟩
    have hjc : j < (cnt m).toNat := by omega
    have e1 : ((gm.at_ : Int) + (v - (gm.next * 2 : Nat))).toNat = gm.at_ + j := by omega
    rw [e1]
    symm
    refine hitG_some _ _ _ (fun q _ hq hqn hqv => ?_) ⟨gm.at_ + j, Nat.zero_le _, by omega, (a3 j hjc).1, by rw [(a3 j hjc).2]; omega⟩
    obtain ⟨j', c1, c2, c3⟩ := only q (by omega) hqn
    rw [c3] at hqv
    rw [c2]
    congr 1
    omega
  · rw [if_neg hv]
    symm
    refine hitG_none _ _ fun q _ hq ⟨hqn, hqv⟩ => hv ?_
    obtain ⟨j', c1, c2, c3⟩ := only q (by omega) hqn
    rw [c3] at hqv
    omega
theorem goD_congr {h1 h2 : Nat → Int → Option Nat} : ∀ (f n : Nat) (v : Int) (L : List Int), (∀ m, n ≤ m → m < n + f → ∀ v, h1 m v = h2 m v) → goD h1 f n v L = goD h2 f n v L
  | 0, _, _, _, _ => rfl
  | _ + 1, _, _, [], _ => rfl
  | f + 1, n, v, b :: L, h => by
    rw [goD, goD, h n (Nat.le_refl _) (by omega)]
    cases h2 n (v * 2 + b) with
    | some x => rfl
    | none => exact goD_congr f (n + 1) (v * 2 + b) L fun m h3 h4 => h m (by omega) (by omega)
def decG (s : ByteArray) (g : GS) (L : List Int) : Int × Nat × Int := goD (fun n v => hitG s g n v g.at_ 0) 16 1 0 L
theorem dec_both {cnt : Nat → Int} {s : ByteArray} {st : HS} {g : GS} (hc : ∀ j, j < 16 → 0 ≤ cnt j ∧ cnt j ≤ 255) (h0 : hufNew cnt s = some st) (hg : gOut cnt s 16 = some g) (L : List Int) : decP cnt s L = decG s g L :=
  goD_congr 16 1 0 L fun m h1 h2 v => hit_both hc h0 hg m h1 (by omega) v
theorem goD_used {hit : Nat → Int → Option Nat} : ∀ (f n : Nat) (v : Int) (L : List Int), (goD hit f n v L).2.2 = 0 → n ≤ (goD hit f n v L).2.1 ∧ (goD hit f n v L).2.1 < n + L.length
  | 0, n, v, L, h => by simp [goD] at h
  | f + 1, n, v, [], h => by simp [goD] at h
  | f + 1, n, v, b :: L, h => by
    rw [goD] at h ⊢
    cases hh : hit n (v * 2 + b) with
    | some x => simp only [List.length_cons]; omega
    | none =>
      rw [hh] at h
      have := goD_used f (n + 1) (v * 2 + b) L h
      simp only [List.length_cons]
      omega
end Go.Proofs.Ytaofponadaifiaa
