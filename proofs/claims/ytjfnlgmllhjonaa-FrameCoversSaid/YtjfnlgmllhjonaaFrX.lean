/- Plain: what rises, and how long a scan's list is. No program in sight. -/
import Derived.Test.YtjfnlgmllhjonaaFrW
namespace Go.Proofs.Ytjfnlgmllhjonaa
open Go.RowKit
set_option linter.unusedSimpArgs false
set_option linter.unusedVariables false
theorem sumU_one {g : Nat → Nat → Int} {n i : Nat} (hi : i < n) (h : ∀ i, i < n → 0 ≤ g i 0 * g i 1) : g i 0 * g i 1 ≤ sumU g n := by
  have h0 : ∀ k, k ≤ n → 0 ≤ sumU g k := fun k hk => by
    induction k with
    | zero => simp [sumU]
    | succ k ih => have := ih (by omega); have := h k (by omega); simp only [sumU]; omega
  induction n with
  | zero => omega
  | succ n ih =>
    simp only [sumU]
    have h1 := h n (by omega)
    have h2 := h0 n (by omega)
    by_cases e : i = n
    · subst e; omega
    · have := ih (by omega) (fun i hi => h i (by omega)) (fun k hk => h0 k (by omega))
      omega
/-- What a scan's components are, where they rise. -/
structure ScP (n m : Nat) (fc : Nat → Int) (p gr : Nat → Nat → Int) (ac dn : Int) (cN : Nat → Nat) (nN oc ow acN dnN : Nat) : Prop where
  fce : ∀ j, j < m → fc j = cN j ∧ cN j < n
  ri : RiseN n m cN
  m4 : m ≤ 4
  n4 : n ≤ 4
  aca : ac = acN
  dna : dn = dnN
  acr : 1 ≤ acN ∧ acN ≤ 600
  dnr : 1 ≤ dnN ∧ dnN ≤ 600
  hp : ∀ j, j < m → 1 ≤ p (cN j) 0 ∧ p (cN j) 0 ≤ 4 ∧ 1 ≤ p (cN j) 1 ∧ p (cN j) 1 ≤ 4
  oca : gr (cN 0) 2 = oc
  owa : gr (cN 0) 3 = ow
  ocr : 1 ≤ oc ∧ oc ≤ 600
  owr : 1 ≤ ow ∧ ow ≤ 600
  nn : nN = if m = 1 then ow * oc else dnN * acN
  nnr : 1 ≤ nN ∧ nN ≤ 360000
theorem grid_le {a b ac dn uw uh : Int} {n : Nat} {gr : Nat → Nat → Int} (hO : OwnsF a b ac dn uw uh n gr) (h6 : sumU gr n ≤ 600) (i : Nat) (hi : i < n) : 1 ≤ gr i 0 ∧ gr i 0 ≤ 600 ∧ 1 ≤ gr i 1 ∧ gr i 1 ≤ 600 := by
  have hp : ∀ i, i < n → 0 ≤ gr i 0 * gr i 1 := fun i hi => by
    have := hO.2.2 i hi
    exact Int.mul_nonneg (by omega) (by omega)
  have h1 := sumU_one hi hp
  have h2 := hO.2.2 i hi
  have h3 : gr i 0 * 1 ≤ gr i 0 * gr i 1 := Int.mul_le_mul_of_nonneg_left (by omega) (by omega)
  have h4 : 1 * gr i 1 ≤ gr i 0 * gr i 1 := Int.mul_le_mul_of_nonneg_right (by omega) (by omega)
  omega
theorem scp_of {a b ac dn uw uh : Int} {n m : Nat} {f p gr : Nat → Nat → Int} {fc : Nat → Int} (h0 : faultV a b n f = 0) (hp : p = pF n f) (hg : gr = gridU a b p n) (hac : ac = acU a p n 0) (hdn : dn = acU b p n 1) (hO : OwnsF a b ac dn uw uh n gr) (h6 : sumU gr n ≤ 600) (hr : risesB n m fc = true) :
    ∃ cN nN oc ow acN dnN, ScP n m fc p gr ac dn cN nN oc ow acN dnN := by
  have hr := of_decide_eq_true hr
  obtain ⟨hm0, hgz⟩ := hr
  have hrt := fault_right h0
  obtain ⟨a0, a1, b0, b1, n0, n4, _⟩ := right_zero hrt
  have hpr := pF_rng hrt
  rw [← hp] at hpr
  have fce : ∀ j, j < m → fc j = ((fc j).toNat : Int) ∧ (fc j).toNat < n := fun j hj => by have := hgz j hj; unfold goodZ at this; omega
  have up : ∀ j, j + 1 < m → (fc j).toNat < (fc (j + 1)).toNat := fun j hj => by
    have h1 := (hgz (j + 1) hj).2.2 (by omega)
    rw [Nat.add_sub_cancel] at h1
    have := fce j (by omega); have := fce (j + 1) hj
    omega
  have ge : ∀ j, j < m → j ≤ (fc j).toNat := fun j hj => by
    induction j with
    | zero => omega
    | succ j ih => have := ih (by omega); have := up j hj; omega
  have hm4 : m ≤ 4 := by
    have := ge (m - 1) (by omega); have := fce (m - 1) (by omega); omega
  have g00 : gr 0 0 = ac * p 0 0 := by rw [hg, hac]; rfl
  have g01 : gr 0 1 = dn * p 0 1 := by rw [hg, hdn]; rfl
  have hl0 := grid_le hO h6 0 (by omega)
  have hp0 := hpr 0 (by omega)
  have hac1 := hO.1
  have ha6 : ac * 1 ≤ ac * p 0 0 := Int.mul_le_mul_of_nonneg_left (by omega) (by omega)
  have hd6 : dn * 1 ≤ dn * p 0 1 := Int.mul_le_mul_of_nonneg_left (by omega) (by omega)
  have hc0 := (fce 0 hm0).2
  have hlc := grid_le hO h6 _ hc0
  have hoc := (hO.2.2 _ hc0).1
  have n1 : 1 ≤ (gr (fc 0).toNat 3).toNat * (gr (fc 0).toNat 2).toNat ∧ (gr (fc 0).toNat 3).toNat * (gr (fc 0).toNat 2).toNat ≤ 360000 := by
    have h1 := Nat.mul_le_mul (show (gr (fc 0).toNat 3).toNat ≤ 600 by omega) (show (gr (fc 0).toNat 2).toNat ≤ 600 by omega)
    have h2 := Nat.mul_le_mul (show 1 ≤ (gr (fc 0).toNat 3).toNat by omega) (show 1 ≤ (gr (fc 0).toNat 2).toNat by omega)
    omega
  have n2 : 1 ≤ dn.toNat * ac.toNat ∧ dn.toNat * ac.toNat ≤ 360000 := by
    have h1 := Nat.mul_le_mul (show dn.toNat ≤ 600 by omega) (show ac.toNat ≤ 600 by omega)
    have h2 := Nat.mul_le_mul (show 1 ≤ dn.toNat by omega) (show 1 ≤ ac.toNat by omega)
    omega
  refine ⟨fun j => (fc j).toNat, _, (gr (fc 0).toNat 2).toNat, (gr (fc 0).toNat 3).toNat, ac.toNat, dn.toNat, fce, ⟨hm0, fun j hj => (fce j hj).2, up⟩, hm4, n4, by omega, by omega, by omega, by omega, fun j hj => hpr _ (fce j hj).2, ?_, ?_, by omega, by omega, rfl, ?_⟩
  · show gr (fc 0).toNat 2 = _; omega
  · show gr (fc 0).toNat 3 = _; omega
  · by_cases e : m = 1
    · rw [if_pos e]; exact n1
    · rw [if_neg e]; exact n2
section
variable {n m : Nat} {fc : Nat → Int} {p gr : Nat → Nat → Int} {ac dn : Int} {cN : Nat → Nat} {nN oc ow acN dnN : Nat}
theorem spotsU_len (h : ScP n m fc p gr ac dn cN nN oc ow acN dnN) (i : Nat) : 1 ≤ (spotsU p gr ac m cN i).length ∧ (spotsU p gr ac m cN i).length ≤ 64 := by
  unfold spotsU
  by_cases e : m = 1
  · rw [if_pos e]; simp
  · rw [if_neg e]
    have hpl : ∀ j, j < m → ∀ row col, 1 ≤ (partU p (cN j) row col).length ∧ (partU p (cN j) row col).length ≤ 16 := fun j hj row col => by
      have := h.hp j hj
      have h1 := Int.mul_le_mul (show p (cN j) 0 ≤ 4 by omega) (show p (cN j) 1 ≤ 4 by omega) (by omega) (by omega)
      have h2 : p (cN j) 0 * 1 ≤ p (cN j) 0 * p (cN j) 1 := Int.mul_le_mul_of_nonneg_left (by omega) (by omega)
      simp only [partU, List.length_map, List.length_range]
      omega
    have hk : ∀ k, k ≤ m → ∀ row col, k ≤ (preU p cN row col k).length ∧ (preU p cN row col k).length ≤ k * 16 := fun k hk row col => by
      induction k with
      | zero => simp [preU]
      | succ k ih =>
        rw [preU_succ, List.length_append]
        have := ih (by omega); have := hpl k (by omega) row col
        omega
    have := hk m (Nat.le_refl _) ((i : Int) / ac) ((i : Int) % ac)
    have := h.m4; have := h.ri.m0
    unfold unL
    omega
theorem preS_len (h : ScP n m fc p gr ac dn cN nN oc ow acN dnN) (i : Nat) : (preS p gr ac m cN i).length ≤ i * 64 := by
  induction i with
  | zero => simp [preS]
  | succ i ih =>
    rw [preS_succ, List.length_append, List.length_map]
    have := spotsU_len h i
    omega
theorem preS_last (h : ScP n m fc p gr ac dn cN nN oc ow acN dnN) : ∃ l s, preS p gr ac m cN nN = l ++ [((nN : Int) - 1, s)] := by
  obtain ⟨k, hk⟩ : ∃ k, nN = k + 1 := ⟨nN - 1, by have := h.nnr; omega⟩
  rw [hk, preS_succ]
  have h1 := (spotsU_len h k).1
  obtain ⟨l, s, e⟩ : ∃ l s, spotsU p gr ac m cN k = l ++ [s] := by
    rcases List.eq_nil_or_concat (spotsU p gr ac m cN k) with e | ⟨l, s, e⟩
    · rw [e] at h1; simp at h1
    · exact ⟨l, s, by rw [e]; simp⟩
  refine ⟨preS p gr ac m cN k ++ l.map (fun s => ((k : Int), s)), s, ?_⟩
  rw [e, List.map_append, List.append_assoc]
  simp
end
end Go.Proofs.Ytjfnlgmllhjonaa
