/- Plain: a scan of all components meets each block once. No program in sight. -/
import Derived.Test.YtjfnlgmllhjonaaFrY
namespace Go.Proofs.Ytjfnlgmllhjonaa
open Go.RowKit
set_option linter.unusedSimpArgs false
set_option linter.unusedVariables false
/-- Which place of its component's grid a block is. -/
def keyS (gr : Nat → Nat → Int) (s : Spt) : Int × Int := (s.c, s.r * gr s.c.toNat 0 + s.k)
structure CvP (gr : Nat → Nat → Int) (n nN : Nat) (lst : List (Int × Spt)) : Prop where
  rng : ∀ x ∈ lst, ∃ c : Nat, x.2.c = c ∧ c < n ∧ 0 ≤ x.2.r ∧ x.2.r < gr c 1 ∧ 0 ≤ x.2.k ∧ x.2.k < gr c 0
  pw : lst.Pairwise fun x y => keyS gr x.2 ≠ keyS gr y.2 ∧ x.1 ≤ y.1
  pos : ∀ x ∈ lst, 0 ≤ x.1 ∧ x.1 < nN
  len : (lst.length : Int) = sumU gr n
  last : ∃ l s, lst = l ++ [((nN : Int) - 1, s)]
theorem divU {q r v : Int} (h0 : 0 ≤ q) (h1 : q < v) : (r * v + q) / v = r ∧ (r * v + q) % v = q := by
  have hv : v ≠ 0 := by omega
  rw [Int.add_comm, Int.add_mul_ediv_right _ _ hv, Int.ediv_eq_zero_of_lt h0 h1, Int.add_mul_emod_self_right, Int.emod_eq_of_lt h0 h1]
  simp
theorem mul_lt9 {x y A B : Int} (x0 : 0 ≤ x) (x1 : x < A) (y0 : 0 ≤ y) (y1 : y < B) : 0 ≤ x * B + y ∧ x * B + y < A * B := by
  have h1 : x * B ≤ (A - 1) * B := Int.mul_le_mul_of_nonneg_right (by omega) (by omega)
  have h2 : 0 ≤ x * B := Int.mul_nonneg x0 (by omega)
  rw [Int.sub_mul] at h1
  omega
/-- What a part's blocks are. -/
theorem part_mem {p : Nat → Nat → Int} {c : Nat} {row col : Int} {s : Spt} (h0 : 1 ≤ p c 0) (h1 : 1 ≤ p c 1) (hs : s ∈ partU p c row col) :
    s.c = c ∧ s.r / p c 1 = row ∧ s.k / p c 0 = col ∧ row * p c 1 ≤ s.r ∧ s.r < row * p c 1 + p c 1 ∧ col * p c 0 ≤ s.k ∧ s.k < col * p c 0 + p c 0 := by
  obtain ⟨t, ht, rfl⟩ := List.mem_map.1 hs
  have ht := List.mem_range.1 ht
  have hp := Int.mul_nonneg (show 0 ≤ p c 0 by omega) (show 0 ≤ p c 1 by omega)
  have htI : (t : Int) < p c 0 * p c 1 := by omega
  have q0 : 0 ≤ (t : Int) / p c 0 := Int.ediv_nonneg (by omega) (by omega)
  have q1 : (t : Int) / p c 0 < p c 1 := Int.ediv_lt_of_lt_mul (by omega) (by rw [Int.mul_comm]; exact htI)
  have r0 := Int.emod_nonneg (t : Int) (show p c 0 ≠ 0 by omega)
  have r1 := Int.emod_lt_of_pos (t : Int) (show 0 < p c 0 by omega)
  refine ⟨rfl, (divU q0 q1).1, (divU r0 r1).1, ?_, ?_, ?_, ?_⟩ <;> dsimp only <;> omega
theorem part_nodup {p : Nat → Nat → Int} {c : Nat} {row col : Int} (h0 : 1 ≤ p c 0) : (partU p c row col).Pairwise fun x y => x ≠ y := by
  unfold partU
  rw [List.pairwise_map]
  refine List.pairwise_lt_range.imp ?_
  intro a b hab e
  injection e with _ e1 e2
  have e1 : (a : Int) / p c 0 = (b : Int) / p c 0 := by omega
  have e2 : (a : Int) % p c 0 = (b : Int) % p c 0 := by omega
  have ha := Int.emod_add_mul_ediv (a : Int) (p c 0)
  have hb := Int.emod_add_mul_ediv (b : Int) (p c 0)
  rw [e1, e2] at ha
  omega
theorem unL_mem {p : Nat → Nat → Int} {n : Nat} {row col : Int} {s : Spt} (hp : ∀ j, j < n → 1 ≤ p j 0 ∧ 1 ≤ p j 1) (hs : s ∈ unL p (fun j => j) n row col) :
    ∃ c : Nat, c < n ∧ s.c = c ∧ s.r / p c 1 = row ∧ s.k / p c 0 = col ∧ row * p c 1 ≤ s.r ∧ s.r < row * p c 1 + p c 1 ∧ col * p c 0 ≤ s.k ∧ s.k < col * p c 0 + p c 0 := by
  obtain ⟨c, hc, hs⟩ := List.mem_flatMap.1 hs
  have hc := List.mem_range.1 hc
  exact ⟨c, hc, part_mem (hp c hc).1 (hp c hc).2 hs⟩
theorem unL_nodup {p : Nat → Nat → Int} {n : Nat} {row col : Int} (hp : ∀ j, j < n → 1 ≤ p j 0 ∧ 1 ≤ p j 1) : (unL p (fun j => j) n row col).Pairwise fun x y => x ≠ y := by
  unfold unL preU
  rw [List.pairwise_flatMap]
  refine ⟨fun j hj => part_nodup (hp j (List.mem_range.1 hj)).1, ?_⟩
  refine List.Pairwise.imp_of_mem ?_ List.pairwise_lt_range
  intro a b ha hb hab x hx y hy e
  have ha := List.mem_range.1 ha
  have hb := List.mem_range.1 hb
  have h1 := (part_mem (hp a ha).1 (hp a ha).2 hx).1
  have h2 := (part_mem (hp b hb).1 (hp b hb).2 hy).1
  rw [e] at h1
  omega
theorem unL_len {p : Nat → Nat → Int} {row col : Int} (k : Nat) (hp : ∀ j, j < k → 1 ≤ p j 0 ∧ 1 ≤ p j 1) : ((preU p (fun j => j) row col k).length : Int) = sumU p k := by
  induction k with
  | zero => simp [preU, sumU]
  | succ k ih =>
    have h := hp k (by omega)
    have hn := Int.mul_nonneg (show 0 ≤ p k 0 by omega) (show 0 ≤ p k 1 by omega)
    rw [preU_succ, List.length_append, Int.natCast_add, ih fun j hj => hp j (by omega), sumU]
    simp only [partU, List.length_map, List.length_range]
    omega
theorem sum_grid {p gr : Nat → Nat → Int} {ac dn : Int} (n : Nat) (h0 : ∀ j, gr j 0 = ac * p j 0) (h1 : ∀ j, gr j 1 = dn * p j 1) : sumU gr n = dn * ac * sumU p n := by
  induction n with
  | zero => simp [sumU]
  | succ n ih =>
    simp only [sumU]
    rw [ih, h0, h1, Int.mul_add]
    congr 1
    ac_rfl
/-- All units, whatever their number. -/
theorem spots_un {p gr : Nat → Nat → Int} {ac : Int} {n : Nat} (h1 : n = 1 → gr 0 2 = ac ∧ p 0 0 = 1 ∧ p 0 1 = 1) (i : Nat) : spotsU p gr ac n (fun j => j) i = unL p (fun j => j) n ((i : Int) / ac) ((i : Int) % ac) := by
  unfold spotsU
  by_cases e : n = 1
  · obtain ⟨e1, e2, e3⟩ := h1 e
    subst e
    rw [if_pos rfl]
    dsimp only
    rw [e1]
    have hz : (1 : Int).toNat = 1 := rfl
    simp [unL, preU, partU, e2, e3, hz, List.range_succ, Int.emod_one]
  · rw [if_neg e]
theorem cvp_of {gr p : Nat → Nat → Int} {n acN dnN nN : Nat} {ac dn : Int} (hac : ac = acN) (hdn : dn = dnN) (a1 : 1 ≤ acN) (d1 : 1 ≤ dnN) (hn : 1 ≤ n) (hnN : nN = dnN * acN) (hp : ∀ j, j < n → 1 ≤ p j 0 ∧ 1 ≤ p j 1) (h0 : ∀ j, gr j 0 = ac * p j 0) (h1 : ∀ j, gr j 1 = dn * p j 1)
    (hs : n = 1 → gr 0 2 = ac ∧ p 0 0 = 1 ∧ p 0 1 = 1) (hlast : ∃ l s, preS p gr ac n (fun j => j) nN = l ++ [((nN : Int) - 1, s)]) : CvP gr n nN (preS p gr ac n (fun j => j) nN) := by
  have hmem : ∀ x ∈ preS p gr ac n (fun j => j) nN, ∃ i : Nat, i < nN ∧ x.1 = i ∧ x.2 ∈ unL p (fun j => j) n ((i : Int) / ac) ((i : Int) % ac) := fun x hx => by
    obtain ⟨i, hi, hx⟩ := List.mem_flatMap.1 hx
    obtain ⟨s, hs', rfl⟩ := List.mem_map.1 hx
    exact ⟨i, List.mem_range.1 hi, rfl, by rw [← spots_un hs]; exact hs'⟩
  have hrow : ∀ i : Nat, i < nN → 0 ≤ (i : Int) / ac ∧ (i : Int) / ac < dn ∧ 0 ≤ (i : Int) % ac ∧ (i : Int) % ac < ac := fun i hi => by
    have hz : (i : Int) < dn * ac := by rw [hac, hdn, ← Int.natCast_mul, ← hnN]; omega
    exact ⟨Int.ediv_nonneg (by omega) (by omega), Int.ediv_lt_of_lt_mul (by omega) hz, Int.emod_nonneg _ (by omega), Int.emod_lt_of_pos _ (by omega)⟩
  have rng : ∀ x ∈ preS p gr ac n (fun j => j) nN, ∃ c : Nat, x.2.c = c ∧ c < n ∧ 0 ≤ x.2.r ∧ x.2.r < gr c 1 ∧ 0 ≤ x.2.k ∧ x.2.k < gr c 0 := fun x hx => by
    obtain ⟨i, hi, e1, hu⟩ := hmem x hx
    obtain ⟨c, hc, e2, _, _, b1, b2, b3, b4⟩ := unL_mem hp hu
    obtain ⟨r0, r1, r2, r3⟩ := hrow i hi
    have hpc := hp c hc
    refine ⟨c, e2, hc, ?_⟩
    have m1 : ((i : Int) / ac) * p c 1 ≤ (dn - 1) * p c 1 := Int.mul_le_mul_of_nonneg_right (by omega) (by omega)
    have m2 : ((i : Int) % ac) * p c 0 ≤ (ac - 1) * p c 0 := Int.mul_le_mul_of_nonneg_right (by omega) (by omega)
    have m3 := Int.mul_nonneg r0 (show 0 ≤ p c 1 by omega)
    have m4 := Int.mul_nonneg r2 (show 0 ≤ p c 0 by omega)
    rw [Int.sub_mul] at m1 m2
    rw [h0, h1]
    omega
  have pw1 : (preS p gr ac n (fun j => j) nN).Pairwise fun x y => x.2 ≠ y.2 ∧ x.1 ≤ y.1 := by
    unfold preS
    rw [List.pairwise_flatMap]
    constructor
    · intro i hi
      rw [List.pairwise_map, spots_un hs]
      exact (unL_nodup hp).imp fun h => ⟨h, Int.le_refl _⟩
    · refine List.Pairwise.imp_of_mem ?_ List.pairwise_lt_range
      intro a b ha hb hab x hx y hy
      obtain ⟨s, hs1, rfl⟩ := List.mem_map.1 hx
      obtain ⟨t, ht1, rfl⟩ := List.mem_map.1 hy
      rw [spots_un hs] at hs1 ht1
      obtain ⟨c, hc, e2, e3, e4, _⟩ := unL_mem hp hs1
      obtain ⟨c', hc', f2, f3, f4, _⟩ := unL_mem hp ht1
      refine ⟨fun e => ?_, by dsimp only; omega⟩
      dsimp only at e
      subst e
      obtain rfl : c = c' := by omega
      rw [e3] at f3
      rw [e4] at f4
      have ha := Int.emod_add_mul_ediv (a : Int) ac
      have hb := Int.emod_add_mul_ediv (b : Int) ac
      rw [f3, f4] at ha
      omega
  refine ⟨rng, ?_, fun x hx => ?_, ?_, hlast⟩
  · refine List.Pairwise.imp_of_mem ?_ pw1
    intro x y hx hy ⟨hne, hle⟩
    refine ⟨fun e => hne ?_, hle⟩
    obtain ⟨c, e1, hc, x1, x2, x3, x4⟩ := rng x hx
    obtain ⟨c', f1, hc', y1, y2, y3, y4⟩ := rng y hy
    obtain ⟨xi, ⟨xc, xr, xk⟩⟩ := x
    obtain ⟨yi, ⟨yc, yr, yk⟩⟩ := y
    dsimp only at *
    subst e1 f1
    unfold keyS at e
    dsimp only at e
    injection e with e2 e3
    obtain rfl : c = c' := by omega
    simp only [Int.toNat_natCast] at e3
    have hg0 : gr c 0 ≠ 0 := by omega
    have d1 := divU (r := xr) x3 x4
    have d2 := divU (r := yr) y3 y4
    rw [e3, d2.1] at d1
    have : xr = yr := by omega
    subst this
    have : xk = yk := by omega
    subst this
    rfl
  · obtain ⟨i, hi, e1, _⟩ := hmem x hx
    omega
  · have hl : ∀ i, ((preS p gr ac n (fun j => j) i).length : Int) = i * sumU p n := fun i => by
      induction i with
      | zero => simp [preS]
      | succ i ih =>
        rw [preS_succ, List.length_append, List.length_map, spots_un hs, Int.natCast_add, ih]
        have := unL_len (row := (i : Int) / ac) (col := (i : Int) % ac) n hp
        unfold unL
        rw [this, Int.natCast_succ, Int.add_mul, Int.one_mul]
    rw [hl, sum_grid n h0 h1, hnN, hac, hdn, Int.natCast_mul]
end Go.Proofs.Ytjfnlgmllhjonaa
