/- Plain facts of a frame's numbers. No condition. -/
import Derived.Test.YtjfnlgmllhjonaaFrG
namespace Go.Proofs.Ytjfnlgmllhjonaa
open Go.RowKit
set_option linter.unusedSimpArgs false
set_option linter.unusedVariables false
theorem upQ_spec (a b : Int) (hb : 1 ≤ b) : (upQ a b - 1) * b < a ∧ a ≤ upQ a b * b := by
  unfold upQ
  have h1 := Int.emod_add_mul_ediv (a + b - 1) b
  have h2 := Int.emod_lt_of_pos (a + b - 1) (show 0 < b by omega)
  have h3 := Int.emod_nonneg (a + b - 1) (show b ≠ 0 by omega)
  obtain ⟨q, hq⟩ : ∃ q, q = (a + b - 1) / b := ⟨_, rfl⟩
  rw [← hq] at h1 ⊢
  have e : (q - 1) * b = b * q - b := by rw [Int.sub_mul, Int.one_mul, Int.mul_comm]
  rw [e, Int.mul_comm q b]
  omega
theorem upQ_pos (a b : Int) (ha : 1 ≤ a) (hb : 1 ≤ b) : 1 ≤ upQ a b := by
  obtain ⟨_, h⟩ := upQ_spec a b hb
  rcases Int.lt_or_le (upQ a b) 1 with h1 | h1
  · have : upQ a b * b ≤ 0 * b := Int.mul_le_mul_of_nonneg_right (by omega) (by omega)
    omega
  · exact h1
/-- A component's own part. -/
theorem own_rng {a x hh : Int} (ha : 1 ≤ a) (hx : 1 ≤ x) (hxh : x ≤ hh) : let ac := upQ a (8 * hh); let g := upQ (upQ (a * x) hh) 8; 1 ≤ g ∧ g ≤ ac * x ∧ (ac - 1) * x < g := by
  intro ac g
  have hh1 : 1 ≤ hh := by omega
  obtain ⟨u1, u2⟩ := upQ_spec (a * x) hh hh1
  obtain ⟨g1, g2⟩ := upQ_spec (upQ (a * x) hh) 8 (by omega)
  obtain ⟨c1, c2⟩ := upQ_spec a (8 * hh) (by omega)
  have c1 : (ac - 1) * (8 * hh) < a := c1
  have c2 : a ≤ ac * (8 * hh) := c2
  have hax : 1 ≤ a * x := by have := Int.mul_le_mul ha hx (by omega) (by omega); omega
  have hu := upQ_pos (a * x) hh hax hh1
  refine ⟨upQ_pos _ 8 hu (by omega), ?_, ?_⟩
  · rcases Int.lt_or_le (ac * x) g with h | h
    · exfalso
      have h1 : 8 * (ac * x) ≤ upQ (a * x) hh - 1 := by omega
      have h2 : 8 * (ac * x) * hh ≤ (upQ (a * x) hh - 1) * hh := Int.mul_le_mul_of_nonneg_right h1 (by omega)
      have h3 : a * x ≤ ac * (8 * hh) * x := Int.mul_le_mul_of_nonneg_right c2 (by omega)
      have e : ac * (8 * hh) * x = 8 * (ac * x) * hh := by ac_rfl
      omega
    · exact h
  · rcases Int.lt_or_le ((ac - 1) * x) g with h | h
    · exact h
    · exfalso
      have h1 : upQ (a * x) hh ≤ 8 * ((ac - 1) * x) := by omega
      have h2 : upQ (a * x) hh * hh ≤ 8 * ((ac - 1) * x) * hh := Int.mul_le_mul_of_nonneg_right h1 (by omega)
      have h3 : ((ac - 1) * (8 * hh) + 1) * x ≤ a * x := Int.mul_le_mul_of_nonneg_right (by omega) (by omega)
      have e : ((ac - 1) * (8 * hh) + 1) * x = 8 * ((ac - 1) * x) * hh + x := by rw [Int.add_mul, Int.one_mul]; congr 1; ac_rfl
      omega
theorem maxU_ge (p : Nat → Nat → Int) (j k i : Nat) (h : i < k) : p i j ≤ maxU p j k := by
  induction k with
  | zero => omega
  | succ k ih =>
    simp only [maxU]
    by_cases e : i = k
    · subst e; omega
    · have := ih (by omega); omega
theorem fault_right {a b : Int} {n : Nat} {f : Nat → Nat → Int} (h : faultV a b n f = 0) : rightV a b n f = 0 := by
  by_cases h0 : rightV a b n f = 0
  · exact h0
  · unfold faultV at h; rw [if_pos h0] at h; exact absurd h h0
theorem pF_rng {a b : Int} {n : Nat} {f : Nat → Nat → Int} (h : rightV a b n f = 0) (i : Nat) (hi : i < n) : 1 ≤ pF n f i 0 ∧ pF n f i 0 ≤ 4 ∧ 1 ≤ pF n f i 1 ∧ pF n f i 1 ≤ 4 := by
  obtain ⟨_, _, _, _, _, _, hf⟩ := right_zero h
  have := hf i hi
  unfold pF
  by_cases e : n = 1 <;> simp [e] <;> omega
/-- What New has made, by letters. -/
def NewLet (w : World) (a b : Int) (n : Nat) (f : Nat → Nat → Int) (e : Ending) (w' : World) : Prop := ∃ (G : Nat) (pv gs : Value) (p gr : Nat → Nat → Int) (ac dn uw uh tot iu : Int), e = .returned (.tuple #[.pointer (some ⟨G, 0, none⟩), .int .i64 0]) ∧
  NwI w.heap.size w' G pv gs n n p gr ac dn uw uh tot iu ∧ Below w.heap.size w w' ∧ p = pF n f ∧ gr = gridU a b p n ∧ ac = acU a p n 0 ∧ dn = acU b p n 1 ∧ uw = 8 * maxU p 0 n ∧ uh = 8 * maxU p 1 n ∧ tot = sumU gr n ∧ G < w'.heap.size
theorem NewPost.letters {w w' : World} {a b : Int} {n : Nat} {f : Nat → Nat → Int} {e : Ending} (h : NewPost w a b n f e w') (h0 : faultV a b n f = 0) : Hid (NewLet w a b n f e w') := by
  obtain ⟨G, pv, gs, he, hI, hb⟩ := (NewPost.get h h0).out
  exact Lib.hid ⟨G, pv, gs, _, _, _, _, _, _, _, _, he, hI, hb, rfl, rfl, rfl, rfl, rfl, rfl, rfl, hI.fr.lt⟩
/-- What FrameOwns asks of the numbers. -/
def OwnsF (a b ac dn uw uh : Int) (n : Nat) (gr : Nat → Nat → Int) : Prop :=
  (1 ≤ ac ∧ ac ≤ 16384 ∧ 1 ≤ dn ∧ dn ≤ 16384 ∧ 8 ≤ uw ∧ uw ≤ 32 ∧ 8 ≤ uh ∧ uh ≤ 32) ∧ (a ≤ ac * uw ∧ (ac - 1) * uw < a ∧ b ≤ dn * uh ∧ (dn - 1) * uh < b) ∧
  ∀ i, i < n → (1 ≤ gr i 2 ∧ gr i 2 ≤ gr i 0 ∧ 1 ≤ gr i 3 ∧ gr i 3 ≤ gr i 1) ∧ (gr i 0 ≤ 65536 ∧ gr i 1 ≤ 65536) ∧ (gr i 0 % ac = 0 ∧ gr i 1 % dn = 0) ∧ gr i 0 - gr i 0 / ac < gr i 2 ∧ gr i 1 - gr i 1 / dn < gr i 3
theorem owns_fact {a b ac dn uw uh : Int} {n : Nat} {f p gr : Nat → Nat → Int} (h0 : faultV a b n f = 0) (hp : p = pF n f) (hg : gr = gridU a b p n) (hac : ac = acU a p n 0) (hdn : dn = acU b p n 1) (huw : uw = 8 * maxU p 0 n) (huh : uh = 8 * maxU p 1 n) : OwnsF a b ac dn uw uh n gr := by
  have hr := fault_right h0
  obtain ⟨a0, a1, b0, b1, n0, n4, _⟩ := right_zero hr
  have hpr := pF_rng hr
  rw [← hp] at hpr
  obtain ⟨hm0, hm4, hm1⟩ := maxU_rng p 0 n (fun i hi => by have := hpr i hi; omega)
  obtain ⟨hv0, hv4, hv1⟩ := maxU_rng p 1 n (fun i hi => by have := hpr i hi; omega)
  have hm1 := hm1 (by omega); have hv1 := hv1 (by omega)
  have eac : ac = upQ a uw := by rw [hac, huw]; rfl
  have edn : dn = upQ b uh := by rw [hdn, huh]; rfl
  obtain ⟨s1, s2⟩ := upQ_spec a uw (by omega)
  obtain ⟨t1, t2⟩ := upQ_spec b uh (by omega)
  have r1 := upQ_rng (a := a) (b := uw) (A := 16384) (by omega) a1 (by omega)
  have r2 := upQ_rng (a := b) (b := uh) (A := 16384) (by omega) b1 (by omega)
  have q1 := upQ_pos a uw a0 (by omega)
  have q2 := upQ_pos b uh b0 (by omega)
  rw [← eac] at s1 s2 r1 q1
  rw [← edn] at t1 t2 r2 q2
  refine ⟨by omega, by omega, fun i hi => ?_⟩
  have hpi := hpr i hi
  have g0 : gr i 0 = ac * p i 0 := by rw [hg, hac]; rfl
  have g1 : gr i 1 = dn * p i 1 := by rw [hg, hdn]; rfl
  have g2 : gr i 2 = upQ (upQ (a * p i 0) (maxU p 0 n)) 8 := by rw [hg]; rfl
  have g3 : gr i 3 = upQ (upQ (b * p i 1) (maxU p 1 n)) 8 := by rw [hg]; rfl
  have o1 := own_rng (a := a) (x := p i 0) (hh := maxU p 0 n) a0 (by omega) (maxU_ge p 0 n i hi)
  have o2 := own_rng (a := b) (x := p i 1) (hh := maxU p 1 n) b0 (by omega) (maxU_ge p 1 n i hi)
  simp only [] at o1 o2
  rw [← huw, ← eac, ← g2] at o1
  rw [← huh, ← edn, ← g3] at o2
  have d0 : gr i 0 / ac = p i 0 := by rw [g0]; exact Int.mul_ediv_cancel_left _ (by omega)
  have d1 : gr i 1 / dn = p i 1 := by rw [g1]; exact Int.mul_ediv_cancel_left _ (by omega)
  have e0 : gr i 0 % ac = 0 := by rw [g0]; exact Int.mul_emod_right _ _
  have e1 : gr i 1 % dn = 0 := by rw [g1]; exact Int.mul_emod_right _ _
  have m0 := mul_rng (x := ac) (y := p i 0) (A := 16384) (B := 4) (by omega) (by omega) (by omega) (by omega)
  have m1 := mul_rng (x := dn) (y := p i 1) (A := 16384) (B := 4) (by omega) (by omega) (by omega) (by omega)
  have x0 : (ac - 1) * p i 0 = gr i 0 - p i 0 := by rw [g0, Int.sub_mul, Int.one_mul]
  have x1 : (dn - 1) * p i 1 = gr i 1 - p i 1 := by rw [g1, Int.sub_mul, Int.one_mul]
  rw [d0, d1]
  refine ⟨by omega, by omega, ⟨e0, e1⟩, by omega, by omega⟩
end Go.Proofs.Ytjfnlgmllhjonaa
