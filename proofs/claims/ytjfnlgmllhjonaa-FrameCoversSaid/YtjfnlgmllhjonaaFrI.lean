/- The document's Blocks, and the faults of its New. No condition. -/
import Derived.Test.YtjfnlgmllhjonaaFrH
namespace Go.Proofs.Ytjfnlgmllhjonaa
open Go.RowKit
set_option linter.unusedSimpArgs false
set_option linter.unusedVariables false

def rfC (uw uh ac dn : Int) (pv gs : Value) : Array Value := #[.int .i64 uw, .int .i64 uh, .int .i64 ac, .int .i64 dn, pv, gs]
set_option maxHeartbeats 0 in
set_option maxRecDepth 20000 in
theorem rblocks_walk (uw uh ac dn : Int) (pv : Value) (A : Option Addr) (n c : Nat) (gr : Nat → Nat → Int) (w : World) (hn : n ≤ 1000) (hR : RdS w A n 4 gr) (hg : ∀ i, i < n → 0 ≤ gr i 0 ∧ gr i 0 ≤ 65536 ∧ 0 ≤ gr i 1 ∧ gr i 1 ≤ 65536) :
    Calls Try.prog 15 #[.agg (rfC uw uh ac dn pv (.slice A n c))] w fun e w' => e = .returned (.int .i64 (sumU gr n)) ∧ Below w.heap.size w w' := by
  have hal : Below w.heap.size w (w.alloc (.cells #[.int .i64 uw, .int .i64 uh, .int .i64 ac, .int .i64 dn, pv, .slice A n c] 39)) := (Below.refl _ _).alloc (Nat.le_refl _) _
  have HR := Lib.hid (hR.bel hal); have HAL := Lib.hid hal; have HG := Lib.hid hg
  clear hR hal hg
  unfold rfC
  go_enter Try.func15, Try.ntmps15
  go_wp2_with fail
  go_loopw [3, 4] (fun t i wr => ∃ (k : Nat) (tt : Int), k ≤ n ∧ i = .int .i64 k ∧ t = .int .i64 tt ∧ (0 ≤ tt ∧ tt ≤ 4294967296 * (k : Int)) ∧ Hid (tt = sumU gr k) ∧ wr.cell? ⟨w.heap.size, 5, none⟩ = some (.slice A n c) ∧ Hid (RdS wr A n 4 gr) ∧ Hid (Below w.heap.size w wr)) (fun _ i _ => n - (intOf i).toNat)
  case atStart => exact ⟨0, 0, by omega, rfl, rfl, by omega, Lib.hid rfl, (Blk.new w 39 #[.int .i64 uw, .int .i64 uh, .int .i64 ac, .int .i64 dn, pv, .slice A n c]).cell 5, HR, HAL⟩
  case round =>
    obtain ⟨k, tt, hk, rfl, rfl, htt, hte, c5, HR1, hb⟩ := hrel
    by_cases hlt : k < n
    · obtain ⟨g, off, rfl, hgs, q0, q1, _, _⟩ := HR1.out.at4 hlt
      have hgk := HG.out k hlt
      obtain ⟨x, hx⟩ : ∃ x, x = gr k 0 := ⟨_, rfl⟩
      obtain ⟨y, hy⟩ : ∃ y, y = gr k 1 := ⟨_, rfl⟩
      rw [← hx] at q0
      rw [← hy] at q1
      rw [← hx, ← hy] at hgk
      obtain ⟨x0, x1, y0, y1⟩ := hgk
      have hxy := mul_rng (x := x) (y := y) (A := 65536) (B := 65536) x0 x1 y0 y1
      have HX := Lib.hid hx; have HY := Lib.hid hy
      clear hx hy hgs
      go_wp2_with fail
      refine region_plan (.run [0, 1, 2, 3, 4, 5, 6, 7, 8, 9, 10, 11, 12, 13, 14] (.run [15] .fin)) (fun w' => True) (by kernel_rfl) trivial ?_
      intro wd hwd
      have HB2 := Lib.hid (belowD hb.out hwd)
      have HR2 := Lib.hid (HR1.out.drewE hwd)
      have k5 : wd.cell? ⟨w.heap.size, 5, none⟩ = some (.slice (some ⟨g, off, none⟩) n c) := by rw [hwd]; exact c5
      have q0' : wd.cell? ⟨g, off + k * 4, none⟩ = some (.int .i64 x) := by rw [hwd]; exact q0
      have q1' : wd.cell? ⟨g, off + k * 4 + 1, none⟩ = some (.int .i64 y) := by rw [hwd]; exact q1
      clear q0 q1 c5
      clear hwd
      refine plan_run fun m hm => ?_
      simp only [pickO, List.filterMap_cons, List.filterMap_nil, List.getElem?_toArray, List.getElem?_cons_zero, List.getElem?_cons_succ] at hm
      subst hm
      go_wp2_with fail
      refine ⟨rfl, by rfl, ?_⟩
      refine plan_run fun m hm => ?_
      simp only [pickO, List.filterMap_cons, List.filterMap_nil, List.getElem?_toArray, List.getElem?_cons_zero, List.getElem?_cons_succ] at hm
      subst hm
      go_wp2_with fail
      refine ⟨rfl, by rfl, ?_⟩
      refine plan_fin ?_
      go_wp2
      exact ⟨⟨k + 1, tt + x * y, by omega, by go_num, rfl, by omega, Lib.hid (by rw [sumU, ← hte.out, HX.out, HY.out]), k5, HR2, HB2⟩, by simp [intOf]; omega⟩
    · obtain rfl : k = n := by omega
      go_wp2
      go_ret
      refine ⟨?_, hb.out⟩
      rw [← hte.out]
      rfl
def RefNo (w : World) (q : Int) (e : Ending) (w' : World) : Prop := e = .returned (.tuple #[.agg #[.int .i64 0, .int .i64 0, .int .i64 0, .int .i64 0, .slice none 0 0, .slice none 0 0], .int .i64 q]) ∧ Below w.heap.size w w'
theorem anyB_none {p : Nat → Bool} {k : Nat} (h : ∀ i, i < k → p i = false) : anyB p k = false := by
  cases e : anyB p k with
  | false => rfl
  | true => obtain ⟨i, h1, h2⟩ := (anyB_iff p k).1 e; rw [h i h1] at h2; cases h2
theorem rightV_7 {a b : Int} {n : Nat} {f : Nat → Nat → Int} (h : a < 1 ∨ b < 1 ∨ n = 0 ∨ anyB (fun i => badF (f i 0) (f i 1)) n = true) : rightV a b n f = 7 := by unfold rightV; rw [if_pos h]
set_option maxHeartbeats 0 in
set_option maxRecDepth 20000 in
theorem rnew_no (a b : Int) (A : Option Addr) (n c : Nat) (f : Nat → Nat → Int) (w : World) (hn : n ≤ 1000) (hR : RdS w A n 2 f) (h0 : rightV a b n f ≠ 0) :
    Calls Try.prog 13 #[.int .i64 a, .int .i64 b, .slice A n c] w (RefNo w (rightV a b n f)) := by
  by_cases h1 : a < 1 ∨ b < 1 ∨ n = 0
  · have hq : rightV a b n f = 7 := rightV_7 (by rcases h1 with h | h | h <;> simp [h])
    rw [hq]
    clear hq h0 hR
    by_cases h2 : a < 1
    · have g1 : decide (a < 1) = true := by simpa using h2
      clear h1
      go_enter Try.func13, Try.ntmps13
      go_wp2
      exact bodyPost_ret (v := .tuple #[.agg #[.int .i64 0, .int .i64 0, .int .i64 0, .int .i64 0, .slice none 0 0, .slice none 0 0], .int .i64 7]) (by simp [results, Try.results13, go_sem]) rfl ⟨rfl, (Below.refl _ _).alloc (Nat.le_refl _) _⟩
    · have g1 : decide (a < 1) = false := by simpa using h2
      by_cases h3 : b < 1
      · have g2 : decide (b < 1) = true := by simpa using h3
        clear h1
        go_enter Try.func13, Try.ntmps13
        go_wp2
        exact bodyPost_ret (v := .tuple #[.agg #[.int .i64 0, .int .i64 0, .int .i64 0, .int .i64 0, .slice none 0 0, .slice none 0 0], .int .i64 7]) (by simp [results, Try.results13, go_sem]) rfl ⟨rfl, (Below.refl _ _).alloc (Nat.le_refl _) _⟩
      · have g2 : decide (b < 1) = false := by simpa using h3
        obtain rfl : n = 0 := by omega
        clear h1
        go_enter Try.func13, Try.ntmps13
        go_wp2
        exact bodyPost_ret (v := .tuple #[.agg #[.int .i64 0, .int .i64 0, .int .i64 0, .int .i64 0, .slice none 0 0, .slice none 0 0], .int .i64 7]) (by simp [results, Try.results13, go_sem]) rfl ⟨rfl, (Below.refl _ _).alloc (Nat.le_refl _) _⟩
  · have g1 : decide (a < 1) = false := by simp; omega
    have g2 : decide (b < 1) = false := by simp; omega
    have g3 : (((n : Nat) : Int) == 0) = false := by simp; omega
    have hal : Below w.heap.size w (w.alloc (.cells #[.int .i64 0, .int .i64 0, .int .i64 0, .int .i64 0, .slice none 0 0, .slice none 0 0] 39)) := (Below.refl _ _).alloc (Nat.le_refl _) _
    obtain ⟨Q, hQ⟩ : ∃ Q, Q = rightV a b n f := ⟨_, rfl⟩
    rw [← hQ]
    have HR := Lib.hid (hR.bel hal); have H1 := Lib.hid h1; have H0 := Lib.hid h0; have HQ := Lib.hid hQ
    clear hR h1 h0 hal hQ
    go_enter Try.func13, Try.ntmps13
    go_wp2_with fail
    go_loop [8] (fun i => ∃ (k : Nat), k ≤ n ∧ i = .int .i64 k ∧ Hid (∀ i, i < k → badF (f i 0) (f i 1) = false)) (fun i => n - (intOf i).toNat)
    case atStart => exact ⟨0, by omega, rfl, Lib.hid fun i hi => by omega⟩
    case round =>
      obtain ⟨k, hk, rfl, hall⟩ := hrel
      by_cases hlt : k < n
      · obtain ⟨g, off, rfl, hgs, q0, q1⟩ := HR.out.at2 hlt
        obtain ⟨x, hx⟩ : ∃ x, x = f k 0 := ⟨_, rfl⟩
        obtain ⟨y, hy⟩ : ∃ y, y = f k 1 := ⟨_, rfl⟩
        rw [← hx] at q0
        rw [← hy] at q1
        have HX := Lib.hid hx; have HY := Lib.hid hy
        clear hx hy hgs
        by_cases hbad : badF x y = true
        · have hq7 : Q = 7 := by rw [HQ.out]; exact rightV_7 (Or.inr (Or.inr (Or.inr (anyB_hit (p := fun i => badF (f i 0) (f i 1)) hlt (by rw [← HX.out, ← HY.out]; exact hbad)))))
          subst hq7
          have hd : decide (x < 1) = true ∨ (decide (x < 1) = false ∧ decide (4 < x) = true) ∨ (decide (x < 1) = false ∧ decide (4 < x) = false ∧ decide (y < 1) = true) ∨ (decide (x < 1) = false ∧ decide (4 < x) = false ∧ decide (y < 1) = false ∧ decide (4 < y) = true) := by
            simp [badF, goodF] at hbad
            simp only [decide_eq_true_eq, decide_eq_false_iff_not]; omega
          clear hbad
          rcases hd with d1 | ⟨d1, d2⟩ | ⟨d1, d2, d3⟩ | ⟨d1, d2, d3, d4⟩
          all_goals
            go_wp2
            exact bodyPost_ret (v := .tuple #[.agg #[.int .i64 0, .int .i64 0, .int .i64 0, .int .i64 0, .slice none 0 0, .slice none 0 0], .int .i64 7]) (by simp [results, Try.results13, go_sem]) rfl ⟨rfl, (Below.refl _ _).alloc (Nat.le_refl _) _⟩
        · have hbf : badF x y = false := by simpa using hbad
          obtain ⟨d1, d2, d3, d4⟩ : decide (x < 1) = false ∧ decide (4 < x) = false ∧ decide (y < 1) = false ∧ decide (4 < y) = false := by
            simp [badF, goodF] at hbf
            simp only [decide_eq_false_iff_not]; omega
          have HBF := Lib.hid hbf
          clear hbad hbf
          go_wp2
          exact ⟨⟨k + 1, by omega, by go_num, Lib.hid fun i hi => by
            by_cases e : i = k
            · subst e; rw [← HX.out, ← HY.out]; exact HBF.out
            · exact hall.out i (by omega)⟩, by simp [intOf]; omega⟩
      · obtain rfl : k = n := by omega
        have hno : anyB (fun i => badF (f i 0) (f i 1)) k = false := anyB_none hall.out
        have hr2 : Q = if 16384 < a ∨ 16384 < b then 11 else if 4 < k then 12 else 0 := by
          rw [HQ.out]; unfold rightV; rw [if_neg]; rw [hno]; have := H1.out; rintro (h | h | h | h) <;> first | omega | cases h
        have hq0 : Q ≠ 0 := by rw [HQ.out]; exact H0.out
        have HQ2 := Lib.hid hr2; have HQ0 := Lib.hid hq0
        clear hno hr2 hq0
        by_cases h4 : 16384 < a
        · have d1 : decide (16384 < a) = true := by simpa using h4
          obtain rfl : Q = 11 := by rw [HQ2.out, if_pos (Or.inl h4)]
          go_wp2
          exact bodyPost_ret (v := .tuple #[.agg #[.int .i64 0, .int .i64 0, .int .i64 0, .int .i64 0, .slice none 0 0, .slice none 0 0], .int .i64 11]) (by simp [results, Try.results13, go_sem]) rfl ⟨rfl, (Below.refl _ _).alloc (Nat.le_refl _) _⟩
        · have d1 : decide (16384 < a) = false := by simpa using h4
          by_cases h5 : 16384 < b
          · have d2 : decide (16384 < b) = true := by simpa using h5
            obtain rfl : Q = 11 := by rw [HQ2.out, if_pos (Or.inr h5)]
            go_wp2
            exact bodyPost_ret (v := .tuple #[.agg #[.int .i64 0, .int .i64 0, .int .i64 0, .int .i64 0, .slice none 0 0, .slice none 0 0], .int .i64 11]) (by simp [results, Try.results13, go_sem]) rfl ⟨rfl, (Below.refl _ _).alloc (Nat.le_refl _) _⟩
          · have d2 : decide (16384 < b) = false := by simpa using h5
            have h6 : 4 < k := by
              have e1 := HQ2.out; have e2 := HQ0.out
              rw [if_neg (by omega)] at e1
              by_cases h : 4 < k
              · exact h
              · rw [if_neg h] at e1; exact absurd e1 e2
            have d3 : decide ((4 : Int) < (k : Int)) = true := by simp; omega
            obtain rfl : Q = 12 := by rw [HQ2.out, if_neg (by omega), if_pos h6]
            go_wp2
            exact bodyPost_ret (v := .tuple #[.agg #[.int .i64 0, .int .i64 0, .int .i64 0, .int .i64 0, .slice none 0 0, .slice none 0 0], .int .i64 12]) (by simp [results, Try.results13, go_sem]) rfl ⟨rfl, (Below.refl _ _).alloc (Nat.le_refl _) _⟩

def maxR (p : Nat → Nat → Int) (j : Nat) : Nat → Int
  | 0 => 1
  | k + 1 => max (maxR p j k) (p k j)
theorem maxR_rng (p : Nat → Nat → Int) (j k : Nat) (h : ∀ i, i < k → 1 ≤ p i j ∧ p i j ≤ 4) : 1 ≤ maxR p j k ∧ maxR p j k ≤ 4 := by
  induction k with
  | zero => simp [maxR]
  | succ k ih =>
    have := ih fun i hi => h i (by omega)
    have := h k (by omega)
    simp only [maxR]; omega
theorem maxR_eq (p : Nat → Nat → Int) (j k : Nat) (h : ∀ i, i < k → 1 ≤ p i j) (hk : 0 < k) : maxR p j k = maxU p j k := by
  induction k with
  | zero => omega
  | succ k ih =>
    have := h k (by omega)
    by_cases e : k = 0
    · subst e; simp only [maxR, maxU]; omega
    · simp only [maxR, maxU, ih (fun i hi => h i (by omega)) (by omega)]
/-- The document's frame, on its way. -/
structure RfI (B : Nat) (w : World) (G : Nat) (pv gs : Value) (n m : Nat) (p gr : Nat → Nat → Int) (uw uh ac dn : Int) : Prop where
  fr : Blk w G 39 (rfC uw uh ac dn pv gs)
  po : OwnS w B 69 2 pv n p
  go : OwnS w B 43 4 gs m gr
  le : B ≤ G
section
variable {B G n m : Nat} {w wd : World} {pv gs : Value} {p gr : Nat → Nat → Int} {uw uh ac dn : Int}
theorem RfI.drewE (h : RfI B w G pv gs n m p gr uw uh ac dn) (hd : wd = w.drew) : RfI B wd G pv gs n m p gr uw uh ac dn := ⟨h.fr.drewE hd, h.po.drewE hd, h.go.drewE hd, h.le⟩
theorem RfI.bel (h : RfI B w G pv gs n m p gr uw uh ac dn) (hb : Below w.heap.size w wd) : RfI B wd G pv gs n m p gr uw uh ac dn := ⟨h.fr.bel hb, h.po.bel hb, h.go.bel hb, h.le⟩
theorem RfI.set (h : RfI B w G pv gs n m p gr uw uh ac dn) (i : Nat) (u : Value) {ac' dn' uw' uh' : Int} (e : (rfC uw uh ac dn pv gs).setIfInBounds i u = rfC uw' uh' ac' dn' pv gs) : RfI B (w.setCell ⟨G, i, none⟩ u) G pv gs n m p gr uw' uh' ac' dn' :=
  ⟨(by have h1 := Blk.set_ h.fr i u; rw [e] at h1; exact h1), h.po.keep fun g' cs hB => hB.far (fun hh => hB.ne h.fr (by decide) hh) u, h.go.keep fun g' cs hB => hB.far (fun hh => hB.ne h.fr (by decide) hh) u, h.le⟩
end
theorem cover_up (a b : Int) (a0 : 0 ≤ a) (a1 : a ≤ 10000000) (b0 : 1 ≤ b) (b1 : b ≤ 1000) (w : World) : Calls Try.prog 23 #[.int .i64 a, .int .i64 b] w fun e w' => e = .returned (.int .i64 (upQ a b)) ∧ w' = w := cover_walk a b a0 a1 b0 b1 w
/-- What the document's New answers. -/
def RefYes (w : World) (n : Nat) (p gr : Nat → Nat → Int) (uw uh ac dn : Int) (e : Ending) (w' : World) : Prop := ∃ pv gs, e = .returned (.tuple #[.agg #[.int .i64 uw, .int .i64 uh, .int .i64 ac, .int .i64 dn, pv, gs], .int .i64 0]) ∧ OwnS w' w.heap.size 69 2 pv n p ∧ OwnS w' w.heap.size 43 4 gs n gr ∧ Below w.heap.size w w'
def RefPost (w : World) (a b : Int) (n : Nat) (f : Nat → Nat → Int) (e : Ending) (w' : World) : Prop :=
  (faultV a b n f = 0 ∧ RefYes w n (pF n f) (gridU a b (pF n f) n) (8 * maxU (pF n f) 0 n) (8 * maxU (pF n f) 1 n) (acU a (pF n f) n 0) (acU b (pF n f) n 1) e w') ∨ (faultV a b n f ≠ 0 ∧ RefNo w (faultV a b n f) e w')
theorem RefPost.fail {w w' : World} {a b q : Int} {n : Nat} {f : Nat → Nat → Int} {e : Ending} (h : faultV a b n f = q) (hq : q ≠ 0) (he : e = .returned (.tuple #[.agg #[.int .i64 0, .int .i64 0, .int .i64 0, .int .i64 0, .slice none 0 0, .slice none 0 0], .int .i64 q])) (hb : Below w.heap.size w w') : RefPost w a b n f e w' := by
  subst h
  exact Or.inr ⟨hq, he, hb⟩
theorem RefPost.ok {w w' : World} {a b : Int} {n : Nat} {f : Nat → Nat → Int} {e : Ending} {uw uh ac dn : Int} {p gr : Nat → Nat → Int} (pv gs : Value) (h : faultV a b n f = 0) (h1 : p = pF n f) (h2 : gr = gridU a b (pF n f) n) (h3 : uw = 8 * maxU (pF n f) 0 n) (h4 : uh = 8 * maxU (pF n f) 1 n) (h5 : ac = acU a (pF n f) n 0) (h6 : dn = acU b (pF n f) n 1)
    (he : e = .returned (.tuple #[.agg #[.int .i64 uw, .int .i64 uh, .int .i64 ac, .int .i64 dn, pv, gs], .int .i64 0])) (ho : OwnS w' w.heap.size 69 2 pv n p) (hg : OwnS w' w.heap.size 43 4 gs n gr) (hb : Below w.heap.size w w') : RefPost w a b n f e w' := by
  subst h1 h2 h3 h4 h5 h6
  exact Or.inl ⟨h, pv, gs, he, ho, hg, hb⟩
end Go.Proofs.Ytjfnlgmllhjonaa
