/- A region that draws its order, step by step, by the library's own laws: each step with its check as one closed Bool and its frame written out. No condition. -/
import Derived.Test.YtdohhhkondokkaaDoorBase
namespace Go.Proofs.YtdohhhkondokkaaDoor
open Go.RowKit
section
variable {P : Program} {ops : Array Oper} {Q : Exit → Act → World → Prop} {S : World → Prop} {md : Region.Mode}
theorem r_start {id n : Nat} {a : Act} {w : World} (l : Array Bool) (hm : P.follows .mixedOrders = true) (hn : ops.size = n) (hl : Array.replicate n false = l) (hS : S w.drew)
    (h : S w.drew → wpAnyH P .any ops Q S n l a w.drew) : (Code.region id ops true).wp P Q a w := by
  subst hn
  subst hl
  exact wp_region_held_drew hm hS h
def okTake (md : Region.Mode) (ops : Array Oper) (l l' : Array Bool) (i : Nat) : Bool := Region.noSelect ops && Region.free md ops l i && (Region.ready md ops l).contains i && (l.setIfInBounds i true == l')
/-- Operation i first: it yields v in every world that meets S. -/
theorem r_take {i : Nat} {N : Option Tmp} {oi : Oper} {v : Value} {fuel : Nat} {l : Array Bool} {a : Act} {w : World} (l' : Array Bool) (hi : ops[i]? = some oi) (hN : oi.dst = N) (hc : okTake md ops l l' i = true)
    (hQ : ∀ c a w, Q (.panic c) (a.put oi.dst v) w → Q (.panic c) a w) (hS : S w) (hy : YieldsIf P ops S oi v a) {a' : Act} (ha : a.put N v = a')
    (h : wpAnyH P md ops Q S fuel l' a' w) : wpAnyH P md ops Q S (fuel + 1) l a w := by
  subst ha
  subst hN
  simp only [okTake, Bool.and_eq_true, beq_iff_eq] at hc
  obtain ⟨⟨⟨h1, h2⟩, h3⟩, h6⟩ := hc
  subst h6
  exact wpAnyH_take hi h1 h2 h3 hQ hy hS h
theorem r_done {n : Nat} {l : Array Bool} {a : Act} {w : World} (hr : (Region.ready md ops l == []) = true) (h : Q .normal a w) : wpAnyH P md ops Q S n l a w := wpAnyH_done (by simpa using hr) h n
/-- What one operation must be shown to do. -/
def Step (P : Program) (md : Region.Mode) (ops : Array Oper) (Q : Exit → Act → World → Prop) (S : World → Prop) (fuel : Nat) (l' : Array Bool) (a : Act) (w : World) (oi : Oper) (N : Option Tmp) : Prop :=
  ∀ K : Act → World → Prop, Shut (∀ a' w', S w' → (S w' → wpAnyH P md ops Q S fuel l' a' w') → K a' w') → if Region.wanted oi (yielded ops a.tmps) = true then Oper.wp P oi a w K Q else K (a.put N undef) w
theorem r_one {i : Nat} {N : Option Tmp} {oi : Oper} {fuel : Nat} {l : Array Bool} {a : Act} {w : World} (l' : Array Bool) (hi : ops[i]? = some oi) (hN : oi.dst = N) (hc : (Region.ready md ops l == [i] && l.setIfInBounds i true == l') = true)
    (h : Step P md ops Q S fuel l' a w oi N) : wpAnyH P md ops Q S (fuel + 1) l a w := by
  subst hN
  simp only [Bool.and_eq_true, beq_iff_eq] at hc
  obtain ⟨h1, h2⟩ := hc
  subst h2
  exact wpAnyH_ready h1 (by simp) (AllReadyH.cons hi (fun K hK => h K hK) AllReadyH.nil)
theorem r_two {i j : Nat} {Ni Nj : Option Tmp} {oi oj : Oper} {fuel : Nat} {l : Array Bool} {a : Act} {w : World} (li lj : Array Bool) (hi : ops[i]? = some oi) (hNi : oi.dst = Ni) (hj : ops[j]? = some oj) (hNj : oj.dst = Nj)
    (hc : (Region.ready md ops l == [i, j] && l.setIfInBounds i true == li && l.setIfInBounds j true == lj) = true)
    (h1 : Step P md ops Q S fuel li a w oi Ni) (h2 : Step P md ops Q S fuel lj a w oj Nj) : wpAnyH P md ops Q S (fuel + 1) l a w := by
  subst hNi hNj
  simp only [Bool.and_eq_true, beq_iff_eq] at hc
  obtain ⟨⟨h3, h4⟩, h5⟩ := hc
  subst h4 h5
  exact wpAnyH_ready h3 (by simp) (AllReadyH.cons hi (fun K hK => h1 K hK) (AllReadyH.cons hj (fun K hK => h2 K hK) AllReadyH.nil))
theorem r_three {i j k : Nat} {Ni Nj Nk : Option Tmp} {oi oj ok : Oper} {fuel : Nat} {l : Array Bool} {a : Act} {w : World} (li lj lk : Array Bool) (hi : ops[i]? = some oi) (hNi : oi.dst = Ni) (hj : ops[j]? = some oj) (hNj : oj.dst = Nj) (hk : ops[k]? = some ok) (hNk : ok.dst = Nk)
    (hc : (Region.ready md ops l == [i, j, k] && l.setIfInBounds i true == li && l.setIfInBounds j true == lj && l.setIfInBounds k true == lk) = true)
    (h1 : Step P md ops Q S fuel li a w oi Ni) (h2 : Step P md ops Q S fuel lj a w oj Nj) (h3 : Step P md ops Q S fuel lk a w ok Nk) : wpAnyH P md ops Q S (fuel + 1) l a w := by
  subst hNi hNj hNk
  simp only [Bool.and_eq_true, beq_iff_eq] at hc
  obtain ⟨⟨⟨h4, h5⟩, h6⟩, h7⟩ := hc
  subst h5 h6 h7
  exact wpAnyH_ready h4 (by simp) (AllReadyH.cons hi (fun K hK => h1 K hK) (AllReadyH.cons hj (fun K hK => h2 K hK) (AllReadyH.cons hk (fun K hK => h3 K hK) AllReadyH.nil)))
theorem r_four {i j k m : Nat} {Ni Nj Nk Nm : Option Tmp} {oi oj ok om : Oper} {fuel : Nat} {l : Array Bool} {a : Act} {w : World} (li lj lk lm : Array Bool) (hi : ops[i]? = some oi) (hNi : oi.dst = Ni) (hj : ops[j]? = some oj) (hNj : oj.dst = Nj) (hk : ops[k]? = some ok) (hNk : ok.dst = Nk) (hm : ops[m]? = some om) (hNm : om.dst = Nm)
    (hc : (Region.ready md ops l == [i, j, k, m] && l.setIfInBounds i true == li && l.setIfInBounds j true == lj && l.setIfInBounds k true == lk && l.setIfInBounds m true == lm) = true)
    (h1 : Step P md ops Q S fuel li a w oi Ni) (h2 : Step P md ops Q S fuel lj a w oj Nj) (h3 : Step P md ops Q S fuel lk a w ok Nk) (h4 : Step P md ops Q S fuel lm a w om Nm) : wpAnyH P md ops Q S (fuel + 1) l a w := by
  subst hNi hNj hNk hNm
  simp only [Bool.and_eq_true, beq_iff_eq] at hc
  obtain ⟨⟨⟨⟨h5, h6⟩, h7⟩, h8⟩, h9⟩ := hc
  subst h6 h7 h8 h9
  exact wpAnyH_ready h5 (by simp) (AllReadyH.cons hi (fun K hK => h1 K hK) (AllReadyH.cons hj (fun K hK => h2 K hK) (AllReadyH.cons hk (fun K hK => h3 K hK) (AllReadyH.cons hm (fun K hK => h4 K hK) AllReadyH.nil))))
/-- A call of a Go function, by its contract. -/
theorem enters_run {f : FuncId} {fn : Func} (hf : P.funcs[f]? = some fn) (hname : (fn.name == "runtime.NumGoroutine") = false) (hb : fn.body.isSome = true) (args : Array Value) (w : World) : (callFunc f args).run P w = .ok (.enter f args) w := by
  have h1 : fn.name ≠ "runtime.NumGoroutine" := by simpa using hname
  obtain ⟨c, hc⟩ := Option.isSome_iff_exists.1 hb
  simp [callFunc, hf, h1, hc]
theorem r_call {oi : Oper} {N : Option Tmp} {a : Act} {w : World} {fuel : Nat} {l' : Array Bool} {f : FuncId} {fn : Func} {xs : Array Operand} {ts : Array TypeId} (hf : P.funcs[f]? = some fn) (hname : (fn.name == "runtime.NumGoroutine") = false) (hb : fn.body.isSome = true) (args : Array Value)
    (hw : Region.wanted oi (yielded ops a.tmps) = true) (hN : oi.dst = N) (hop : oi.op = .call { callee := .value (.func f), args := xs, argTypes := ts }) (hargs : xs.map a.eval = args)
    (h : Calls P f args w fun e w' => ∃ v, e = .returned v ∧ S w' ∧ (S w' → wpAnyH P md ops Q S fuel l' (a.put N v) w')) : Step P md ops Q S fuel l' a w oi N := fun K hK => by
  rw [if_pos hw]
  subst hN
  unfold Oper.wp
  have he := enters_run hf hname hb args w
  have hrun : (execOp a.eval oi).run P w = .ok (.enter f args) w := by
    unfold execOp
    simp [hop, resolve, Deferred.ofValue, invoke, Act.eval, hargs, he]
  rw [hrun, Oper.upon_enter]
  refine h.mono fun e w'' hh => ?_
  obtain ⟨v, rfl, h1, h2⟩ := hh
  exact hK.out _ _ h1 h2
/-- An operation that yields a value, and may make memory. -/
theorem r_value {oi : Oper} {N : Option Tmp} {a : Act} {w w1 : World} {v : Value} {fuel : Nat} {l' : Array Bool} (hw : Region.wanted oi (yielded ops a.tmps) = true) (hN : oi.dst = N) (hrun : (execOp a.eval oi).run P w = .ok (.value v) w1)
    (h1 : S w1) (h : S w1 → wpAnyH P md ops Q S fuel l' (a.put N v) w1) : Step P md ops Q S fuel l' a w oi N := fun K hK => by
  rw [if_pos hw]
  subst hN
  unfold Oper.wp
  rw [hrun]
  exact hK.out _ _ h1 h
/-- A store. -/
theorem r_store {oi : Oper} {a : Act} {w w1 : World} {fuel : Nat} {l' : Array Bool} (hw : Region.wanted oi (yielded ops a.tmps) = true) (hN : oi.dst = none) (hrun : (execOp a.eval oi).run P w = .ok .skip w1)
    (h1 : S w1) (h : S w1 → wpAnyH P md ops Q S fuel l' a w1) : Step P md ops Q S fuel l' a w oi none := fun K hK => by
  rw [if_pos hw]
  unfold Oper.wp
  rw [hrun]
  show K (a.put oi.dst undef) w1
  rw [hN]
  exact hK.out _ _ h1 h
/-- An operation whose guard says no, where it stands alone. -/
theorem r_off {oi : Oper} {N : Option Tmp} {a : Act} {w : World} {fuel : Nat} {l' : Array Bool} (hw : Region.wanted oi (yielded ops a.tmps) = false) (h1 : S w) (h : S w → wpAnyH P md ops Q S fuel l' (a.put N undef) w) : Step P md ops Q S fuel l' a w oi N := fun K hK => by
  rw [hw, if_neg (by simp)]
  exact hK.out _ _ h1 h
theorem rangeOf {w : World} {g : Nat} {t : TypeId} {cs : Array Value} (h : Blk w g t cs) : w.rangeAt g 0 cs.toList := fun j u hu => by
  rw [Nat.zero_add]
  exact (h.cell j).trans (by simpa using hu)
/-- A new variable: the world behind it under one letter. -/
theorem r_alloc {oi : Oper} {N : Option Tmp} {a : Act} {w : World} {fuel : Nat} {l' : Array Bool} (t : TypeId) (z : Array Value) (hw : Region.wanted oi (yielded ops a.tmps) = true) (hN : oi.dst = N) (hrun : (execOp a.eval oi).run P w = .ok (.value (.pointer (some ⟨w.heap.size, 0, none⟩))) (w.alloc (.cells z t)))
    (h : ∀ w1, Blk w1 w.heap.size t z → Below w.heap.size w w1 → w.heap.size < w1.heap.size → S w1 ∧ (S w1 → wpAnyH P md ops Q S fuel l' (a.put N (.pointer (some ⟨w.heap.size, 0, none⟩))) w1)) : Step P md ops Q S fuel l' a w oi N := by
  obtain ⟨h1, h2⟩ := h _ (Blk.new w t z) ((Below.refl _ _).alloc (Nat.le_refl _) _) (by simp)
  exact r_value hw hN hrun h1 h2
theorem run_alloc_rowOp {oi : Oper} {a : Act} {w : World} {n : Nat} (t : TypeId) (z : Array Value) (ho : oi.op = .alloc t) (hz : (P.info? t).map (fun i => (i.zero, i.size)) = some (some (.agg z), n)) : (execOp a.eval oi).run P w = .ok (.value (.pointer (some ⟨w.heap.size, 0, none⟩))) (w.alloc (.cells z t)) := by
  cases hq : P.info? t with
  | none => simp [hq] at hz
  | some i =>
    simp only [hq, Option.map_some, Option.some.injEq, Prod.mk.injEq] at hz
    unfold execOp
    simp [ho, Instr.alloc, zeroValue, typeInfo, hq, hz.1, newVar, newRow, Value.cells, Sem.run_bind]
theorem run_store_rowOp {oi : Oper} {a : Act} {w : World} (ty : TypeId) (x y : Operand) (ho : oi.op = .store ty x y) (g : Nat) (cells : Array Value) (hx : a.eval x = .pointer (some ⟨g, 0, none⟩)) (hy : a.eval y = .agg cells) (t : TypeId) (old : Array Value) (hg : Blk w g t old)
    (hi : (P.info? ty).map (·.size) = some cells.size) (hold : old.size = cells.size) (h1 : cells.all (·.oneCell') = true) : (execOp a.eval oi).run P w = .ok .skip (w.setRow g cells) := by
  unfold execOp
  simp only [ho, hx, hy, Instr.storeAt, Instr.sureAddr, Sem.run_bind, Sem.run_pure, Result.andThen_ok, run_storeVar_row w g t ty old cells hg hi hold h1]
/-- A whole array into a variable: the world behind it under one letter; the other blocks stand. -/
theorem r_row {oi : Oper} {a : Act} {w : World} {fuel : Nat} {l' : Array Bool} (ty : TypeId) (x y : Operand) (g : Nat) (cells : Array Value) (t : TypeId) (old : Array Value) (hw : Region.wanted oi (yielded ops a.tmps) = true) (hN : oi.dst = none) (ho : oi.op = .store ty x y) (hx : a.eval x = .pointer (some ⟨g, 0, none⟩)) (hy : a.eval y = .agg cells) (hg : Blk w g t old)
    (hi : (P.info? ty).map (·.size) = some cells.size) (hold : old.size = cells.size) (h1 : cells.all (·.oneCell') = true)
    (h : ∀ w1, Blk w1 g t cells → (∀ g', g' ≠ g → w1.heap[g']? = w.heap[g']?) → Below g w w1 → w1.heap.size = w.heap.size → S w1 ∧ (S w1 → wpAnyH P md ops Q S fuel l' a w1)) : Step P md ops Q S fuel l' a w oi none := by
  obtain ⟨h2, h3⟩ := h (w.setRow g cells) (hg.row cells) (fun g' hne => setRow_other _ _ _ _ hne) (below_row (Below.refl _ _) (Nat.le_refl _) _) (by simp)
  exact r_store hw hN (run_store_rowOp ty x y ho g cells hx hy t old hg hi hold h1) h2 h3
end
end Go.Proofs.YtdohhhkondokkaaDoor
