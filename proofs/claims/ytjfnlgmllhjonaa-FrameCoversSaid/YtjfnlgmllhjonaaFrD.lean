/- frame.New. No condition. -/
import Derived.Test.YtjfnlgmllhjonaaFrC
import Derived.Test.YtjfnlgmllhjonaaSeqE
import Derived.Test.YtjfnlgmllhjonaaSeqF
import Derived.Deep.MidRow
namespace Go.Proofs.Ytjfnlgmllhjonaa
open Go.RowKit
set_option linter.unusedSimpArgs false
set_option linter.unusedVariables false
/-- One struct of two stored at the head of a row of the call's own that holds one. -/
theorem store1 {ops : Array Oper} {rest : List Oper} {o : Oper} {a : Act} {w : World} {Q : Exit → Act → World → Prop} (hgd : o.guard = none) (ty : TypeId) (x y : Operand) (ho : o.op = .store ty x y) (g c : Nat) (p q : Int) {base n : Nat} {e : TypeId} {f : Nat → Nat → Int} (hn1 : n = 1)
    (hx : a.eval x = .pointer (some ⟨g, 0, none⟩)) (hy : a.eval y = .agg #[.int .i64 p, .int .i64 q]) (hO : OwnS w base e 2 (.slice (some ⟨g, 0, none⟩) n c) n f) (hi : (Try.prog.info? ty).map (·.size) = some 2) (hbase : base ≤ w.heap.size)
    (h : ∀ w', OwnS w' base e 2 (.slice (some ⟨g, 0, none⟩) n c) n (fun _ j => if j = 0 then p else q) → (∀ g' t cs, t ≠ e → Blk w g' t cs → Blk w' g' t cs) → Below base w w' → wpList Try.prog ops Q rest (a.put o.dst undef) w') : wpList Try.prog ops Q (o :: rest) a w := by
  subst hn1
  have hO' : w.ownsRow base e 2 (.slice (some ⟨g, 0, none⟩) 1 c) 1 (flatF 2 f 1) := hO
  have hth : w.there g 0 2 := fun j hj => ⟨by rw [Nat.zero_add, World.ownsRow.cellAt hO' j (by omega)]; have hl := flatF_len 2 f 1; simp [hl]; omega, World.ownsRow.frozenAt hO' _⟩
  refine wpList_store_mid hgd ty x y ho g 0 #[.int .i64 p, .int .i64 q] hx hy hth hi (by simp [Value.oneCell']) ?_
  obtain ⟨s1, g1⟩ := World.ownsRow.stored hO' 0 (.int .i64 p)
  obtain ⟨s2, g2⟩ := World.ownsRow.stored s1 1 (.int .i64 q)
  have hg : w.grownBy (w.setCells g 0 [.int .i64 p, .int .i64 q]) (some g) := g1.trans g2
  have hfl : ((flatF 2 f 1).set 0 (Value.int .i64 p)).set 1 (Value.int .i64 q) = flatF 2 (fun _ j => if j = 0 then p else q) 1 := rfl
  rw [hfl] at s2
  exact h _ s2 (KeepS hO' hg) ((Below.refl base w).grown hg hbase (fun k hk => (World.ownsRow.lt hO' k hk).1))
/-- The factors as they are used. -/
def pF (n : Nat) (f : Nat → Nat → Int) : Nat → Nat → Int := fun i j => if n = 1 then 1 else f i j
def maxU (p : Nat → Nat → Int) (j : Nat) : Nat → Int
  | 0 => 0
  | k + 1 => max (maxU p j k) (p k j)
def sumU (p : Nat → Nat → Int) : Nat → Int
  | 0 => 0
  | k + 1 => sumU p k + p k 0 * p k 1
def upQ (a b : Int) : Int := (a + b - 1) / b
def gridF (a b hh vv ac dn : Int) (p : Nat → Nat → Int) : Nat → Nat → Int := fun i j =>
  if j = 0 then ac * p i 0 else if j = 1 then dn * p i 1 else if j = 2 then upQ (upQ (a * p i 0) hh) 8 else upQ (upQ (b * p i 1) vv) 8
theorem ownS_some {w : World} {base e q n c m : Nat} {A : Option Addr} {f : Nat → Nat → Int} (h : OwnS w base e q (.slice A m c) n f) (hn : 0 < n) : ∃ g, A = some ⟨g, 0, none⟩ := by
  rcases h.2 with ⟨h1, h0⟩ | ⟨g, cap, cur, h1, _⟩
  · omega
  · injection h1 with h1; exact ⟨g, h1⟩
def acU (a : Int) (p : Nat → Nat → Int) (n : Nat) (j : Nat) : Int := upQ a (8 * maxU p j n)
def gridU (a b : Int) (p : Nat → Nat → Int) (n : Nat) : Nat → Nat → Int := gridF a b (maxU p 0 n) (maxU p 1 n) (acU a p n 0) (acU b p n 1) p
/-- What New answers: its fault. -/
def faultV (a b : Int) (n : Nat) (f : Nat → Nat → Int) : Int :=
  if rightV a b n f ≠ 0 then rightV a b n f else if 1 < n ∧ 10 < sumU (pF n f) n then 12 else if 16384 < sumU (gridU a b (pF n f) n) n then 11 else 0
theorem maxU_rng (p : Nat → Nat → Int) (j k : Nat) (h : ∀ i, i < k → 1 ≤ p i j ∧ p i j ≤ 4) : 0 ≤ maxU p j k ∧ maxU p j k ≤ 4 ∧ (0 < k → 1 ≤ maxU p j k) := by
  induction k with
  | zero => simp [maxU]
  | succ k ih =>
    have := ih fun i hi => h i (by omega)
    have := h k (by omega)
    simp only [maxU]
    omega
theorem sumU_rng (p : Nat → Nat → Int) (k : Nat) (M : Int) (hM : 0 ≤ M) (h : ∀ i, i < k → 0 ≤ p i 0 * p i 1 ∧ p i 0 * p i 1 ≤ M) : 0 ≤ sumU p k ∧ sumU p k ≤ k * M := by
  induction k with
  | zero => simp [sumU]
  | succ k ih =>
    have := ih fun i hi => h i (by omega)
    have := h k (by omega)
    simp only [sumU]
    have e : ((k + 1 : Nat) : Int) * M = k * M + M := by rw [Int.natCast_succ, Int.add_mul, Int.one_mul]
    omega
theorem right_zero {a b : Int} {n : Nat} {f : Nat → Nat → Int} (h : rightV a b n f = 0) : 1 ≤ a ∧ a ≤ 16384 ∧ 1 ≤ b ∧ b ≤ 16384 ∧ 1 ≤ n ∧ n ≤ 4 ∧ ∀ i, i < n → 1 ≤ f i 0 ∧ f i 0 ≤ 4 ∧ 1 ≤ f i 1 ∧ f i 1 ≤ 4 := by
  unfold rightV at h
  by_cases h1 : a < 1 ∨ b < 1 ∨ n = 0 ∨ anyB (fun i => badF (f i 0) (f i 1)) n = true
  · rw [if_pos h1] at h; cases h
  · rw [if_neg h1] at h
    by_cases h2 : 16384 < a ∨ 16384 < b
    · rw [if_pos h2] at h; cases h
    · rw [if_neg h2] at h
      by_cases h3 : 4 < n
      · rw [if_pos h3] at h; cases h
      · refine ⟨by omega, by omega, by omega, by omega, by omega, by omega, fun i hi => ?_⟩
        have h4 : ¬ badF (f i 0) (f i 1) = true := fun hb => h1 (Or.inr (Or.inr (Or.inr (anyB_hit (p := fun i => badF (f i 0) (f i 1)) hi hb))))
        simp [badF, goodF] at h4
        omega
theorem mul_rng {x y A B : Int} (x0 : 0 ≤ x) (x1 : x ≤ A) (y0 : 0 ≤ y) (y1 : y ≤ B) : 0 ≤ x * y ∧ x * y ≤ A * B := ⟨Int.mul_nonneg x0 y0, Int.mul_le_mul x1 y1 y0 (by omega)⟩
theorem upQ_rng {a b A : Int} (a0 : 0 ≤ a) (a1 : a ≤ A) (b0 : 1 ≤ b) : 0 ≤ upQ a b ∧ upQ a b ≤ A := by
  unfold upQ
  refine ⟨Int.ediv_nonneg (by omega) (by omega), ?_⟩
  have : (a + b - 1) / b ≤ a := by
    have e : a + b - 1 = (a - 1) + b * 1 := by omega
    rw [e, Int.add_mul_ediv_left _ _ (by omega)]
    by_cases h : a = 0
    · subst h
      have : (0 - 1 : Int) / b < 0 := Int.ediv_lt_of_lt_mul (by omega) (by omega)
      omega
    · have := Int.ediv_le_self b (show 0 ≤ a - 1 by omega)
      omega
  omega
/-- New's block on its way. -/
structure NwI (B : Nat) (w : World) (G : Nat) (pv gs : Value) (n m : Nat) (p gr : Nat → Nat → Int) (ac dn uw uh tot iu : Int) : Prop where
  fr : Blk w G 67 (frC pv gs ac dn uw uh tot iu)
  po : OwnS w B 62 2 pv n p
  go : OwnS w B 33 4 gs m gr
  le : B ≤ G
section
variable {B G n m : Nat} {w wd : World} {pv gs : Value} {p gr : Nat → Nat → Int} {ac dn uw uh tot iu : Int}
theorem NwI.drewE (h : NwI B w G pv gs n m p gr ac dn uw uh tot iu) (hd : wd = w.drew) : NwI B wd G pv gs n m p gr ac dn uw uh tot iu := ⟨h.fr.drewE hd, h.po.drewE hd, h.go.drewE hd, h.le⟩
theorem NwI.bel (h : NwI B w G pv gs n m p gr ac dn uw uh tot iu) (hb : Below w.heap.size w wd) : NwI B wd G pv gs n m p gr ac dn uw uh tot iu := ⟨h.fr.bel hb, h.po.bel hb, h.go.bel hb, h.le⟩
theorem NwI.set (h : NwI B w G pv gs n m p gr ac dn uw uh tot iu) (i : Nat) (u : Value) {ac' dn' uw' uh' tot' iu' : Int} (e : (frC pv gs ac dn uw uh tot iu).setIfInBounds i u = frC pv gs ac' dn' uw' uh' tot' iu') : NwI B (w.setCell ⟨G, i, none⟩ u) G pv gs n m p gr ac' dn' uw' uh' tot' iu' :=
  ⟨(by have h1 := Blk.set_ h.fr i u; rw [e] at h1; exact h1), h.po.keep fun g' cs hB => hB.far (fun hh => hB.ne h.fr (by decide) hh) u, h.go.keep fun g' cs hB => hB.far (fun hh => hB.ne h.fr (by decide) hh) u, h.le⟩
end
set_option maxHeartbeats 0 in
set_option maxRecDepth 20000 in
theorem new_no (a b : Int) (A : Option Addr) (n c : Nat) (f : Nat → Nat → Int) (w : World) (hn : n ≤ 1000) (hR : RdS w A n 2 f) (h0 : rightV a b n f ≠ 0) :
    Calls Try.prog 8 #[.int .i64 a, .int .i64 b, .slice A n c] w fun e w' => e = .returned (.tuple #[.pointer none, .int .i64 (rightV a b n f)]) ∧ Below w.heap.size w w' := by
  have h1 := right_walk a b A n c f w hn hR
  obtain ⟨r, hr⟩ : ∃ r, r = rightV a b n f := ⟨_, rfl⟩
  rw [← hr] at h1 h0 ⊢
  have g0 : (r != 0) = true := by simpa using h0
  have H1 := Lib.hid h1
  clear hR h1 hr h0
  go_enter Try.func8, Try.ntmps8
  go_wp2_with (first | (go_at_call 20; refine H1.out.mono ?_; rintro e w1 ⟨rfl, hb1⟩; have HB1 := Lib.hid hb1; clear hb1))
  go_ret2
  exact ⟨rfl, HB1.out⟩
/-- A frame that New has made. -/
def NewOk (w : World) (a b : Int) (n : Nat) (p : Nat → Nat → Int) (e : Ending) (w' : World) : Prop := ∃ (G : Nat) (pv gs : Value), e = .returned (.tuple #[.pointer (some ⟨G, 0, none⟩), .int .i64 0]) ∧
  NwI w.heap.size w' G pv gs n n p (gridU a b p n) (acU a p n 0) (acU b p n 1) (8 * maxU p 0 n) (8 * maxU p 1 n) (sumU (gridU a b p n) n) (sumU p n) ∧ Below w.heap.size w w'
theorem NewOk.mk {w w' : World} {a b : Int} {n : Nat} {p : Nat → Nat → Int} {e : Ending} (G : Nat) (pv gs : Value) (h1 : e = .returned (.tuple #[.pointer (some ⟨G, 0, none⟩), .int .i64 0])) (h2 : NwI w.heap.size w' G pv gs n n p (gridU a b p n) (acU a p n 0) (acU b p n 1) (8 * maxU p 0 n) (8 * maxU p 1 n) (sumU (gridU a b p n) n) (sumU p n)) (h3 : Below w.heap.size w w') : NewOk w a b n p e w' := ⟨G, pv, gs, h1, h2, h3⟩
/-- What New answers. -/
def NewPost (w : World) (a b : Int) (n : Nat) (f : Nat → Nat → Int) (e : Ending) (w' : World) : Prop :=
  (faultV a b n f = 0 ∧ NewOk w a b n (pF n f) e w') ∨ (faultV a b n f ≠ 0 ∧ e = .returned (.tuple #[.pointer none, .int .i64 (faultV a b n f)]) ∧ Below w.heap.size w w')
theorem NewPost.ok {w w' : World} {a b : Int} {n : Nat} {f : Nat → Nat → Int} {e : Ending} (h : faultV a b n f = 0) (h2 : NewOk w a b n (pF n f) e w') : NewPost w a b n f e w' := Or.inl ⟨h, h2⟩
theorem NewPost.fail {w w' : World} {a b q : Int} {n : Nat} {f : Nat → Nat → Int} {e : Ending} (h : faultV a b n f = q) (hq : q ≠ 0) (he : e = .returned (.tuple #[.pointer none, .int .i64 q])) (hb : Below w.heap.size w w') : NewPost w a b n f e w' := by
  subst h
  exact Or.inr ⟨hq, he, hb⟩
theorem faultV_right {a b : Int} {n : Nat} {f : Nat → Nat → Int} (h : rightV a b n f = 0) : faultV a b n f = if 1 < n ∧ 10 < sumU (pF n f) n then 12 else if 16384 < sumU (gridU a b (pF n f) n) n then 11 else 0 := by
  unfold faultV
  rw [if_neg (by rw [h]; simp)]
end Go.Proofs.Ytjfnlgmllhjonaa
