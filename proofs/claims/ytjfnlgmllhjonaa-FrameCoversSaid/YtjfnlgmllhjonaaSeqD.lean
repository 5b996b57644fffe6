/- A region that draws its order, as one walk (4): plans. No condition. -/
import Derived.Test.YtjfnlgmllhjonaaSeqC
namespace Go.Proofs.Ytjfnlgmllhjonaa
open Go.RowKit
set_option linter.unusedSimpArgs false
set_option linter.unusedVariables false
/-- It ends as it should, and K holds. -/
def Nrm (K : Act → World → Prop) : Exit → Act → World → Prop := fun e a w => e = .normal ∧ K a w
def qI (P : Program) (ops : Array Oper) (i : Nat) : Bool := match ops[i]? with | some o => kindQ P o | none => true
theorem plainO_congr {ρ ρ' : Operand → Value} (o : Oper) (h : ∀ x ∈ o.op.operands, ρ x = ρ' x) : plainO ρ o = plainO ρ' o := by
  obtain ⟨dst, op, type, pos, after, guard⟩ := o
  cases op
  case binOp op t x y u => unfold plainO; dsimp only; rw [h x (by simp [Op.operands]), h y (by simp [Op.operands])]
  case convert s d x => unfold plainO; dsimp only; rw [h x (by simp [Op.operands])]
  case nilCheck x => unfold plainO; dsimp only; rw [h x (by simp [Op.operands])]
  case call c =>
    have e : c.args.toList.map ρ = c.args.toList.map ρ' := List.map_congr_left fun x hx => h x (by simp [Op.operands, Call.operands]; right; simpa using hx)
    unfold plainO; dsimp only; rw [e]
  all_goals rfl
section
variable {P : Program} {ops : Array Oper} {K : Act → World → Prop} {S : World → Prop}
/-- Whatever order is picked: operations that read at most leave the world, S holds behind each. -/
def wpA (P : Program) (ops : Array Oper) (K : Act → World → Prop) (S : World → Prop) : Nat → Array Bool → Act → World → Prop
  | 0, l, a, w => Region.ready .any ops l = [] ∧ K a w
  | fuel + 1, l, a, w => (Region.ready .any ops l = [] → K a w) ∧
    ∀ i ∈ Region.ready .any ops l, wpOp P ops (Nrm K) i (fun a' w' => (qI P ops i = true → w' = w) ∧ S w' ∧ wpA P ops K S fuel (l.setIfInBounds i true) a' w') a w
/-- It yields v and leaves the world: at once, or as a call that does. -/
def Rn (P : Program) (m : Sem Next) (w : World) (v : Value) : Prop := m.run P w = .ok (.value v) w ∨ ∃ f args, m.run P w = .ok (.enter f args) w ∧ Calls P f args w fun e w' => e = .returned v ∧ w' = w
def YC (P : Program) (ops : Array Oper) (T : World → Prop) (o : Oper) (v : Value) (a : Act) : Prop :=
  (Region.wanted o (yielded ops a.tmps) = true ∧ ∀ w, T w → Rn P (execOp a.eval o) w v) ∨ (Region.wanted o (yielded ops a.tmps) = false ∧ v = undef)
theorem toYC {T : World → Prop} {o : Oper} {v : Value} {a : Act} (h : YieldsIf P ops T o v a) : YC P ops T o v a := h.imp (fun ⟨hw, hv⟩ => ⟨hw, fun w hT => Or.inl (hv w hT)⟩) id
theorem YC.same {T : World → Prop} {o : Oper} {v : Value} {a a' : Act} (hy : YC P ops T o v a) (he : execOp a'.eval o = execOp a.eval o) (hw : Region.wanted o (yielded ops a'.tmps) = Region.wanted o (yielded ops a.tmps)) : YC P ops T o v a' := by
  unfold YC at *; rw [he, hw]; exact hy
theorem YC.op {T : World → Prop} {R : Act → World → Prop} {i : Nat} {o : Oper} {v : Value} {a : Act} (hi : ops[i]? = some o) (hy : YC P ops T o v a) {K0 : Act → World → Prop} {w : World} (hT : T w) (h : K0 (a.put o.dst v) w) : wpOp P ops (Nrm R) i K0 a w := by
  unfold wpOp
  simp only [hi]
  rcases hy with ⟨hw, hv⟩ | ⟨hw, rfl⟩
  · rw [if_pos hw]
    refine Or.inl ?_
    unfold Oper.wp
    rcases hv w hT with hr | ⟨f, args, hr, hc⟩
    · rw [hr]; exact h
    · rw [hr, Oper.upon_enter]
      refine hc.mono fun e w' ⟨he, hw'⟩ => ?_
      subst he hw'
      exact h
  · rw [if_neg (by rw [hw]; simp)]; exact h
/-- Another operation first, where the two are apart. -/
theorem wpOp_putC {j : Nat} {oi oj : Oper} {v : Value} {T : World → Prop} {R : Act → World → Prop} (hj : ops[j]? = some oj) (hap : oi.apart ops oj = true) (hsi : ∀ cs b, oi.op ≠ .select cs b) (hsj : ∀ cs b, oj.op ≠ .select cs b)
    {K0 : Act → World → Prop} {a : Act} {w : World} (hy : YC P ops T oi v a) (h : wpOp P ops (Nrm R) j K0 (a.put oi.dst v) w) :
    wpOp P ops (Nrm R) j (fun a' w' => YC P ops T oi v a' ∧ K0 (a'.put oi.dst v) w') a w := by
  obtain ⟨h1, h2, h3⟩ := Oper.apart_spec hap
  have keep : ∀ u, YC P ops T oi v (a.put oj.dst u) := fun u => hy.same (execOp_put oi hsi a oj.dst u h3) (wanted_put oi a oj.dst u h3)
  have keepD : ∀ d u, YC P ops T oi v (({ a with defers := d :: a.defers } : Act).put oj.dst u) := fun d u => by
    have h0 : YC P ops T oi v { a with defers := d :: a.defers } := hy.same rfl rfl
    exact h0.same (execOp_put oi hsi _ oj.dst u h3) (wanted_put oi _ oj.dst u h3)
  have eqE := execOp_put oj hsj a oi.dst v h1
  have eqW := wanted_put oj a oi.dst v h1
  have sw : ∀ u, (a.put oj.dst u).put oi.dst v = (a.put oi.dst v).put oj.dst u := fun u => (Act.put_comm a v u h2).symm
  unfold wpOp at h ⊢
  simp only [hj, eqW] at h ⊢
  by_cases hw : Region.wanted oj (yielded ops a.tmps) = true
  · rw [if_pos hw] at h ⊢
    rcases h with h | ⟨_, _, _, h⟩
    · refine Or.inl ?_
      unfold Oper.wp at h ⊢
      rw [eqE] at h
      cases hr : (execOp a.eval oj).run P w with
      | halt x w' => rw [hr] at h; cases x <;> first | exact h.elim | cases h.1
      | ok n w' =>
        rw [hr] at h
        cases n
        case value u => exact ⟨keep u, by rw [sw]; exact h⟩
        case skip => exact ⟨keep undef, by rw [sw]; exact h⟩
        case defer d => exact ⟨keepD d undef, by rw [← Act.put_comm _ v undef h2, ← Act.put_defers]; exact h⟩
        case enter f args =>
          rw [Oper.upon_enter] at h ⊢
          refine h.mono fun e w'' he => ?_
          cases e with
          | returned u => exact ⟨keep u, by rw [sw]; exact he⟩
          | panicked c => cases he.1
          | outgrown => exact he
        case row r args => exact Rows.mono h fun u w'' he => ⟨keep u, by rw [sw]; exact he⟩
        all_goals exact h
    · cases h.1
  · rw [if_neg hw] at h ⊢
    exact ⟨keep undef, by rw [sw]; exact h⟩
theorem wpA_any : ∀ (fuel : Nat) (l : Array Bool) (a : Act) (w : World), wpA P ops K S fuel l a w → wpAny P .any ops (Nrm K) fuel l a w
  | 0, _, _, _, h => ⟨h.1, rfl, h.2⟩
  | fuel + 1, _, _, _, h => ⟨fun e => ⟨rfl, h.1 e⟩, fun i hi => wpOp_mono (fun a' w' h' => wpA_any fuel _ a' w' h'.2.2) (h.2 i hi)⟩
theorem wpA_take {i : Nat} {oi : Oper} {v : Value} {T : World → Prop} (hi : ops[i]? = some oi) (hsel : ∀ (j : Nat) (o : Oper) cs b, ops[j]? = some o → o.op ≠ .select cs b)
    (Inv : Array Bool → Prop) (hinv : ∀ l, Inv l → i ∈ Region.ready .any ops l → ∀ j ∈ Region.ready .any ops l, j ≠ i → Inv (l.setIfInBounds j true) ∧ ∀ w w', T w → (qI P ops j = true → w' = w) → S w' → T w') :
    ∀ (fuel : Nat) (l : Array Bool) (a : Act) (w : World), Inv l →
      (∀ j oj, ops[j]? = some oj → j ≠ i → l.getD j true = false → (∀ e ∈ oj.after, Region.binds .any e = true → e.on ≠ i) → oi.apart ops oj = true) →
      i ∈ Region.ready .any ops l → YC P ops T oi v a → T w → S w →
      wpA P ops K S fuel (l.setIfInBounds i true) (a.put oi.dst v) w → wpA P ops K S (fuel + 1) l a w := by
  intro fuel
  induction fuel with
  | zero =>
    intro l a w hI _ hr hy hT hS H
    refine ⟨fun h => (by rw [h] at hr; cases hr), fun j hj => ?_⟩
    by_cases hji : j = i
    · subst hji; exact hy.op hi hT ⟨fun _ => rfl, hS, H⟩
    · have := ready_mono hj hji
      rw [H.1] at this
      cases this
  | succ fuel ih =>
    intro l a w hI hfree hr hy hT hS H
    refine ⟨fun h => (by rw [h] at hr; cases hr), fun j hj => ?_⟩
    by_cases hji : j = i
    · subst hji; exact hy.op hi hT ⟨fun _ => rfl, hS, H⟩
    · have h1 := H.2 j (ready_mono hj hji)
      obtain ⟨hjun, oj, hoj, hall⟩ := mem_ready.1 hj
      have hnot : ∀ e ∈ oj.after, Region.binds .any e = true → e.on ≠ i := fun e he hb heq => by
        have h1 := hall e he hb
        have h0 := (mem_ready.1 hr).1
        rw [heq] at h1
        rcases Nat.lt_or_ge i l.size with h' | h'
        · simp [h'] at h0 h1; rw [h0] at h1; cases h1
        · simp [Array.getElem?_eq_none h'] at h1
      have h2 := wpOp_putC hoj (hfree j oj hoj hji hjun hnot) (fun cs b => hsel i oi cs b hi) (fun cs b => hsel j oj cs b hoj) hy h1
      have hfree' : ∀ k ok, ops[k]? = some ok → k ≠ i → (l.setIfInBounds j true).getD k true = false →
          (∀ e ∈ ok.after, Region.binds .any e = true → e.on ≠ i) → oi.apart ops ok = true := fun k ok hk hki hun hno => by
        refine hfree k ok hk hki ?_ hno
        by_cases hjk : j = k
        · subst hjk; exact hjun
        · rw [getD_set_ne true hjk] at hun; exact hun
      obtain ⟨hI', hstep⟩ := hinv l hI hr j hj hji
      refine wpOp_mono (fun a' w' h3 => ⟨h3.2.1, h3.2.2.1, ih (l.setIfInBounds j true) a' w' hI' hfree' (ready_mono hr (Ne.symm hji)) h3.1 (hstep w w' hT h3.2.1 h3.2.2.1) h3.2.2.1 ?_⟩) h2
      rw [Array.setIfInBounds_comm _ _ hji]
      exact h3.2.2.2
/-- Who waits for number i, at first hand or not. -/
def waits (ops : Array Oper) (i : Nat) : Array Bool :=
  (List.range ops.size).foldl (fun D k => D.push (match ops[k]? with | some o => o.after.any (fun e => Region.binds .any e && (e.on == i || D.getD e.on false)) | none => false)) #[]
/-- Each that does more than read was listed, or waits for number i. -/
def okD (P : Program) (ops : Array Oper) (l : Array Bool) (i : Nat) (D : Array Bool) : Bool :=
  decide (D.size ≤ ops.size) && (List.range ops.size).all fun k => (l.getD k true || qI P ops k || D.getD k false) &&
    (!D.getD k false || (!l.getD k false && (match ops[k]? with | some o => o.after.any (fun e => Region.binds .any e && (e.on == i || D.getD e.on false)) | none => false)))
def InvD (ops : Array Oper) (l0 D l : Array Bool) : Prop := (∀ k, l0.getD k true = true → l.getD k true = true) ∧ ∀ k, k < ops.size → D.getD k false = true → l.getD k false = false
theorem invD_step {l0 D : Array Bool} {i : Nat} (hD : okD P ops l0 i D = true) (l : Array Bool) (hI : InvD ops l0 D l) (hr : i ∈ Region.ready .any ops l) (j : Nat) (hj : j ∈ Region.ready .any ops l) (hji : j ≠ i) :
    InvD ops l0 D (l.setIfInBounds j true) ∧ qI P ops j = true := by
  obtain ⟨hjun, oj, hoj, hall⟩ := mem_ready.1 hj
  have hlt : j < ops.size := (Array.getElem?_eq_some_iff.1 hoj).1
  have hi0 : l.getD i false = false := by
    have h0 := (mem_ready.1 hr).1
    rcases Nat.lt_or_ge i l.size with h' | h'
    · simp [h'] at h0 ⊢; exact h0
    · simp [Array.getElem?_eq_none h']
  simp only [okD, List.all_eq_true, List.mem_range, Bool.and_eq_true, Bool.or_eq_true, decide_eq_true_eq] at hD
  obtain ⟨hds, hD⟩ := hD
  obtain ⟨h1, h2⟩ := hD j hlt
  have hDj : D.getD j false = false := by
    cases hd : D.getD j false with
    | false => rfl
    | true =>
      rw [hd] at h2
      simp only [Bool.not_true, Bool.false_eq_true, false_or, Bool.not_eq_true', hoj] at h2
      obtain ⟨e, he, hb⟩ := Array.any_eq_true'.1 h2.2
      simp only [Bool.and_eq_true, Bool.or_eq_true, beq_iff_eq] at hb
      have h3 := hall e he hb.1
      rcases hb.2 with h4 | h4
      · rw [h4, hi0] at h3; cases h3
      · have hlt2 : e.on < ops.size := by
          rcases Nat.lt_or_ge e.on ops.size with h' | h'
          · exact h'
          · rw [Array.getD_eq_getD_getElem?, Array.getElem?_eq_none (by omega)] at h4; cases h4
        rw [hI.2 _ hlt2 h4] at h3; cases h3
  refine ⟨⟨fun k hk => ?_, fun k hks hk => ?_⟩, ?_⟩
  · have := hI.1 k hk
    by_cases hjk : j = k
    · subst hjk; rw [this] at hjun; cases hjun
    · rw [getD_set_ne true hjk]; exact this
  · have hjk : j ≠ k := fun e => by rw [← e, hDj] at hk; cases hk
    rw [getD_set_ne false hjk]; exact hI.2 k hks hk
  · rcases h1 with (h1 | h1) | h1
    · rw [hI.1 j h1] at hjun; cases hjun
    · exact h1
    · rw [hDj] at h1; cases h1
theorem invD_start {l D : Array Bool} {i : Nat} (hD : okD P ops l i D = true) : InvD ops l D l := by
  simp only [okD, List.all_eq_true, List.mem_range, Bool.and_eq_true, Bool.or_eq_true, decide_eq_true_eq] at hD
  refine ⟨fun k h => h, fun k hk hd => ?_⟩
  have h2 := (hD.2 k hk).2
  rw [hd] at h2
  simp only [Bool.not_true, Bool.false_eq_true, false_or, Bool.not_eq_true'] at h2
  exact h2.1
/-- What follows operation o where it goes well. -/
theorem wp_ok {o : Oper} {a : Act} {w : World} {R : Act → World → Prop} {K0 : Act → World → Prop} (h : o.wp P a w K0 (Nrm R) ∨ (o.asks P a w ∧ LetsOut (Nrm R))) (hk : kindQ P o = true) : ∃ v w1, (execOp a.eval o).run P w = .ok (.value v) w1 ∧ K0 (a.put o.dst v) w1 := by
  rcases h with h | ⟨_, _, _, h⟩
  · unfold Oper.wp at h
    cases hr : (execOp a.eval o).run P w with
    | ok n w1 =>
      obtain ⟨v, rfl⟩ := kind_val hk a.eval w n w1 hr
      rw [hr, Oper.upon_value] at h
      exact ⟨v, w1, rfl, h⟩
    | halt x w1 =>
      rw [hr] at h
      cases x <;> first | exact h.elim | cases h.1
  · cases h.1
def pickO (ops : Array Oper) (is : List Nat) : List Oper := is.filterMap (ops[·]?)
/-- Where all goes well: the last act, which differs in what was written alone. -/
theorem wpList_last {R : Act → World → Prop} : ∀ (m : List Oper) (a : Act) (w : World), (∀ o ∈ m, kindQ P o = true) → wpList P ops (Nrm R) m a w → ∃ A w', R A w' ∧ ∀ t, (∀ o ∈ m, o.dst ≠ some t) → A.tmps[t]? = a.tmps[t]?
  | [], a, w, _, h => ⟨a, w, h.2, fun _ _ => rfl⟩
  | o :: m, a, w, hk, h => by
    have put_ne : ∀ (v : Value) t, o.dst ≠ some t → (a.put o.dst v).tmps[t]? = a.tmps[t]? := by
      intro v t ht
      unfold Act.put
      cases hd : o.dst with
      | none => rfl
      | some d =>
        have hne : d ≠ t := fun e => ht (by rw [hd, e])
        simp [Array.getElem?_setIfInBounds_ne hne]
    have key : ∃ v w1, wpList P ops (Nrm R) m (a.put o.dst v) w1 := by
      unfold wpList at h
      split at h
      · obtain ⟨v, w1, _, h2⟩ := wp_ok h (hk o (by simp))
        exact ⟨v, w1, h2⟩
      · exact ⟨undef, w, h⟩
    obtain ⟨v, w1, h1⟩ := key
    obtain ⟨A, w', hR, hA⟩ := wpList_last m _ w1 (fun o' h' => hk o' (by simp [h'])) h1
    exact ⟨A, w', hR, fun t ht => (hA t fun o' h' => ht o' (by simp [h'])).trans (put_ne v t (ht o (by simp)))⟩
/-- Each operation of a list was plain. -/
def plainL (ops : Array Oper) (m : List Oper) (a : Act) : Bool := m.all fun o => !Region.wanted o (yielded ops a.tmps) || plainO a.eval o
def okRun (P : Program) (ops : Array Oper) : List Nat → Array Bool → Bool
  | [], _ => true
  | i :: is, l => (match ops[i]? with
      | some o => kindQ P o && (!isLoad o || okD P ops l i (waits ops i)) && (i :: is).all (fun j => match (ops[j]?).bind (·.dst) with | some d => !(o.looksAt ops).contains d | none => true)
      | none => false) && Region.free .any ops l i && (Region.ready .any ops l).contains i && okRun P ops is (l.setIfInBounds i true)
def setAll : List Nat → Array Bool → Array Bool
  | [], l => l
  | i :: is, l => setAll is (l.setIfInBounds i true)
theorem run_step (hsel : ∀ (j : Nat) (o : Oper) cs b, ops[j]? = some o → o.op ≠ .select cs b) {C : Act → World → Prop} {m : List Oper} : ∀ (is : List Nat) (l : Array Bool) (a : Act) (w : World) (fuel : Nat), okRun P ops is l = true → (∀ o ∈ pickO ops is, o ∈ m) → S w →
    wpList P ops (Nrm fun a' w' => plainL ops m a' = true ∧ C a' w') (pickO ops is) a w → (∀ A, C A w → wpA P ops K S fuel (setAll is l) A w) → wpA P ops K S (fuel + is.length) l a w
  | [], l, a, w, fuel, _, _, _, h, hC => hC a h.2.2
  | i :: is, l, a, w, fuel, hok, hm, hS, h, hC => by
    rw [okRun] at hok
    simp only [Bool.and_eq_true] at hok
    obtain ⟨⟨⟨h1, h2⟩, h3⟩, h4⟩ := hok
    cases hi : ops[i]? with
    | none => rw [hi] at h1; cases h1
    | some o =>
      rw [hi] at h1
      simp only [Bool.and_eq_true] at h1
      obtain ⟨⟨hk, hd⟩, hdst⟩ := h1
      have hpick : pickO ops (i :: is) = o :: pickO ops is := by simp [pickO, hi]
      rw [hpick] at h hm
      have hquiet : ∀ (is : List Nat) (l : Array Bool), okRun P ops is l = true → ∀ o ∈ pickO ops is, kindQ P o = true := by
        intro is
        induction is with
        | nil => intro l _ o ho; simp [pickO] at ho
        | cons i is ih =>
          intro l hl o ho
          rw [okRun] at hl
          simp only [Bool.and_eq_true] at hl
          obtain ⟨⟨⟨g1, g2⟩, g3⟩, g4⟩ := hl
          cases hi : ops[i]? with
          | none => rw [hi] at g1; cases g1
          | some o' =>
            rw [hi] at g1
            have e : pickO ops (i :: is) = o' :: pickO ops is := by simp [pickO, hi]
            rw [e] at ho
            rcases List.mem_cons.1 ho with rfl | ho
            · simp only [Bool.and_eq_true] at g1; exact g1.1.1
            · exact ih _ g4 o ho
      -- the last act is plain at o, so this one is
      have hplain : Region.wanted o (yielded ops a.tmps) = true → plainO a.eval o = true := by
        intro hwt
        obtain ⟨A, w', ⟨hp, _⟩, hA⟩ := wpList_last (o :: pickO ops is) a w (by
          intro o' ho'
          rcases List.mem_cons.1 ho' with rfl | ho'
          · exact hk
          · exact hquiet is _ h4 o' ho') h
        have hat : ∀ t, t ∈ o.looksAt ops → A.tmps[t]? = a.tmps[t]? := by
          intro t hmem
          refine hA t fun o' ho' he => ?_
          have hin : ∃ j ∈ i :: is, ops[j]? = some o' := by
            rcases List.mem_cons.1 ho' with rfl | ho'
            · exact ⟨i, by simp, hi⟩
            · obtain ⟨j, hj, e⟩ := List.mem_filterMap.1 ho'
              exact ⟨j, by simp [hj], e⟩
          obtain ⟨j, hj, e⟩ := hin
          have := List.all_eq_true.1 hdst j hj
          rw [e] at this
          simp only [Option.bind_some, he, Bool.not_eq_true'] at this
          have : (o.looksAt ops).contains t = true := by simpa using hmem
          simp_all
        have hwA : Region.wanted o (yielded ops A.tmps) = true := by
          rw [← hwt]
          unfold Region.wanted
          cases hg : o.guard with
          | none => rfl
          | some gw =>
            obtain ⟨g, want⟩ := gw
            have hy : yielded ops A.tmps g = yielded ops a.tmps g := by
              unfold yielded
              cases ht : (ops[g]?).bind (·.dst) with
              | none => rfl
              | some t => simp only [Option.bind_some, hat t (by simp [Oper.looksAt, hg, ht])]
            simp only [hy]
        have hpo := (List.all_eq_true.1 hp) o (hm o (by simp))
        rw [hwA] at hpo
        have hpo : plainO A.eval o = true := by simpa using hpo
        rw [← hpo]
        refine plainO_congr o fun x hx => ?_
        cases x with
        | tmp t =>
          have := hat t (List.mem_append_left _ (List.mem_filterMap.2 ⟨.tmp t, by simpa using hx, rfl⟩))
          simp only [Act.eval, Array.getD_eq_getD_getElem?]
          rw [this]
        | _ => rfl
      have hrest : ∃ v, (YieldsIf P ops (fun w' => isLoad o = false ∨ w' = w) o v a) ∧ wpList P ops (Nrm fun a' w' => plainL ops m a' = true ∧ C a' w') (pickO ops is) (a.put o.dst v) w := by
        unfold wpList at h
        split at h
        · rename_i hwant
          obtain ⟨v, w1, hr, h5⟩ := wp_ok h hk
          have hw1 := kind_ro hk (hplain hwant) w _ w1 hr
          subst hw1
          refine ⟨v, Or.inl ⟨hwant, fun w' hw' => ?_⟩, h5⟩
          rcases hw' with hl | rfl
          · exact kind_nw hk hl (hplain hwant) _ _ _ hr w'
          · exact hr
        · rename_i hwant
          exact ⟨undef, Or.inr ⟨by simpa using hwant, rfl⟩, h⟩
      obtain ⟨v, hy, h6⟩ := hrest
      have IH := run_step hsel is (l.setIfInBounds i true) (a.put o.dst v) w fuel h4 (fun o' ho' => hm o' (by simp [ho'])) hS h6 hC
      rw [List.length_cons, ← Nat.add_assoc]
      cases hl : isLoad o with
      | false =>
        refine wpA_take (T := fun w' => isLoad o = false ∨ w' = w) hi hsel (fun _ => True) (fun l' _ _ j _ _ => ⟨trivial, fun _ _ _ _ _ => Or.inl hl⟩) _ l a w trivial (Region.free_spec hi h2) (by simpa using h3) (toYC hy) (Or.inl hl) hS IH
      | true =>
        have hD : okD P ops l i (waits ops i) = true := by rw [hl] at hd; simpa using hd
        refine wpA_take (T := fun w' => isLoad o = false ∨ w' = w) hi hsel (InvD ops l (waits ops i)) (fun l' hI hr j hj hji => ?_) _ l a w (invD_start hD) (Region.free_spec hi h2) (by simpa using h3) (toYC hy) (Or.inr rfl) hS IH
        obtain ⟨g1, g2⟩ := invD_step hD l' hI hr j hj hji
        exact ⟨g1, fun w1 w2 hT hq _ => by rw [hq g2]; exact hT⟩
/-- In which order a region is gone through. -/
inductive Plan where
  | fin
  | run (is : List Nat) (p : Plan)
  | held (i : Nat) (p : Plan)
  | ev (i : Nat) (p : Plan)
  | two (i j : Nat) (p q : Plan)
  | alt (i j : Nat) (p q : Plan)
def Plan.len : Plan → Nat
  | .fin => 0
  | .run is p => p.len + is.length
  | .held _ p => p.len + 1
  | .ev _ p => p.len + 1
  | .two _ _ p q => max p.len q.len + 1
  | .alt _ _ p q => max p.len q.len + 1
def Plan.ok (P : Program) (ops : Array Oper) : Plan → Array Bool → Bool
  | .fin, l => (Region.ready .any ops l).isEmpty
  | .run is p, l => okRun P ops is l && p.ok P ops (setAll is l)
  | .held i p, l => (ops[i]?).isSome && Region.free .any ops l i && (Region.ready .any ops l).contains i && p.ok P ops (l.setIfInBounds i true)
  | .ev i p, l => !qI P ops i && (Region.ready .any ops l == [i]) && p.ok P ops (l.setIfInBounds i true)
  | .two i j p q, l => !qI P ops i && !qI P ops j && (Region.ready .any ops l == [i, j]) && p.ok P ops (l.setIfInBounds i true) && q.ok P ops (l.setIfInBounds j true)
  | .alt i j p q, l => (ops[i]?).isSome && !qI P ops j && (Region.ready .any ops l).all (fun k => k == i || k == j) && !(Region.ready .any ops l).isEmpty && p.ok P ops (l.setIfInBounds i true) && q.ok P ops (l.setIfInBounds j true)
/-- What is to be shown along a plan. -/
def Plan.wp (P : Program) (ops : Array Oper) (S : World → Prop) (K : Act → World → Prop) : Plan → Act → World → Prop
  | .fin, a, w => K a w
  | .run is p, a, w => wpList P ops (Nrm fun a' w' => plainL ops (pickO ops is) a' = true ∧ p.wp P ops S K a' w') (pickO ops is) a w
  | .held i p, a, w => ∀ o, ops[i]? = some o → ∃ v, YC P ops S o v a ∧ p.wp P ops S K (a.put o.dst v) w
  | .ev i p, a, w => wpList P ops (Nrm fun a' w' => S w' ∧ p.wp P ops S K a' w') (pickO ops [i]) a w
  | .two i j p q, a, w => wpList P ops (Nrm fun a' w' => S w' ∧ p.wp P ops S K a' w') (pickO ops [i]) a w ∧ wpList P ops (Nrm fun a' w' => S w' ∧ q.wp P ops S K a' w') (pickO ops [j]) a w
  | .alt i j p q, a, w => wpList P ops (Nrm fun a' w' => w' = w ∧ p.wp P ops S K a' w') (pickO ops [i]) a w ∧ wpList P ops (Nrm fun a' w' => S w' ∧ q.wp P ops S K a' w') (pickO ops [j]) a w
theorem wpA_fin {l : Array Bool} {a : Act} {w : World} (hr : Region.ready .any ops l = []) (h : K a w) : ∀ fuel, wpA P ops K S fuel l a w
  | 0 => ⟨hr, h⟩
  | _ + 1 => ⟨fun _ => h, by rw [hr]; simp⟩
theorem ev_op {i : Nat} {fuel : Nat} {l : Array Bool} {a : Act} {w : World} {C : Act → World → Prop} (hq : qI P ops i = false) (h : wpList P ops (Nrm fun a' w' => S w' ∧ C a' w') (pickO ops [i]) a w)
    (hC : ∀ a' w', S w' → C a' w' → wpA P ops K S fuel (l.setIfInBounds i true) a' w') : wpOp P ops (Nrm K) i (fun a' w' => (qI P ops i = true → w' = w) ∧ S w' ∧ wpA P ops K S fuel (l.setIfInBounds i true) a' w') a w := by
  unfold wpOp
  cases hi : ops[i]? with
  | none => simp [qI, hi] at hq
  | some o =>
    have hpick : pickO ops [i] = [o] := by simp [pickO, hi]
    rw [hpick] at h
    unfold wpList at h
    dsimp only
    have hnil : ∀ a' w', wpList P ops (Nrm fun a' w' => S w' ∧ C a' w') [] a' w' → (qI P ops i = true → w' = w) ∧ S w' ∧ wpA P ops K S fuel (l.setIfInBounds i true) a' w' :=
      fun a' w' h' => ⟨(fun e => by rw [hq] at e; cases e), h'.2.1, hC a' w' h'.2.1 h'.2.2⟩
    split
    · rename_i hw
      rw [if_pos hw] at h
      rcases h with h | ⟨_, _, _, h⟩
      · refine Or.inl ?_
        have h2 := Oper.wp_mono hnil h
        unfold Oper.wp at h2 ⊢
        generalize (execOp a.eval o).run P w = r at h2 ⊢
        cases r with
        | ok n w' =>
          cases n <;> simp only [Oper.upon] at h2 ⊢ <;> first
            | exact h2
            | (exact Calls.mono h2 (fun e w'' he => by cases e <;> first | exact he | (cases he.1) | (obtain ⟨_, _, he⟩ := he; cases he.1)))
        | halt x w' => cases x <;> simp only [Oper.upon] at h2 ⊢ <;> first | exact h2 | cases h2.1
      · cases h.1
    · rename_i hw
      rw [if_neg hw] at h
      exact hnil _ _ h
theorem quiet_op {i : Nat} {fuel : Nat} {l : Array Bool} {a : Act} {w : World} {C : Act → World → Prop} (hs : (ops[i]?).isSome = true) (hS : S w) (h : wpList P ops (Nrm fun a' w' => w' = w ∧ C a' w') (pickO ops [i]) a w)
    (hC : ∀ a', C a' w → wpA P ops K S fuel (l.setIfInBounds i true) a' w) : wpOp P ops (Nrm K) i (fun a' w' => (qI P ops i = true → w' = w) ∧ S w' ∧ wpA P ops K S fuel (l.setIfInBounds i true) a' w') a w := by
  unfold wpOp
  cases hi : ops[i]? with
  | none => simp [hi] at hs
  | some o =>
    have hpick : pickO ops [i] = [o] := by simp [pickO, hi]
    rw [hpick] at h
    unfold wpList at h
    dsimp only
    have hnil : ∀ a' w', wpList P ops (Nrm fun a' w' => w' = w ∧ C a' w') [] a' w' → (qI P ops i = true → w' = w) ∧ S w' ∧ wpA P ops K S fuel (l.setIfInBounds i true) a' w' :=
      fun a' w' h' => by obtain ⟨_, rfl, h3⟩ := h'; exact ⟨fun _ => rfl, hS, hC a' h3⟩
    split
    · rename_i hw
      rw [if_pos hw] at h
      rcases h with h | ⟨_, _, _, h⟩
      · refine Or.inl ?_
        have h2 := Oper.wp_mono hnil h
        unfold Oper.wp at h2 ⊢
        generalize (execOp a.eval o).run P w = r at h2 ⊢
        cases r with
        | ok n w' =>
          cases n <;> simp only [Oper.upon] at h2 ⊢ <;> first
            | exact h2
            | (exact Calls.mono h2 (fun e w'' he => by cases e <;> first | exact he | (cases he.1) | (obtain ⟨_, _, he⟩ := he; cases he.1)))
        | halt x w' => cases x <;> simp only [Oper.upon] at h2 ⊢ <;> first | exact h2 | cases h2.1
      · cases h.1
    · rename_i hw
      rw [if_neg hw] at h
      exact hnil _ _ h
theorem plan_wpA (hsel : ∀ (j : Nat) (o : Oper) cs b, ops[j]? = some o → o.op ≠ .select cs b) : ∀ (p : Plan) (l : Array Bool) (a : Act) (w : World) (fuel : Nat), p.ok P ops l = true → S w → p.wp P ops S K a w → wpA P ops K S (fuel + p.len) l a w
  | .fin, l, a, w, fuel, hok, _, h => wpA_fin (by simpa [Plan.ok] using hok) h _
  | .run is p, l, a, w, fuel, hok, hS, h => by
    rw [Plan.ok, Bool.and_eq_true] at hok
    rw [Plan.len, ← Nat.add_assoc]
    exact run_step hsel is l a w _ hok.1 (fun o h => h) hS h fun A hA => plan_wpA hsel p _ A w fuel hok.2 hS hA
  | .held i p, l, a, w, fuel, hok, hS, h => by
    rw [Plan.ok] at hok
    simp only [Bool.and_eq_true] at hok
    obtain ⟨⟨⟨h0, h2⟩, h3⟩, h4⟩ := hok
    obtain ⟨o, hi⟩ := Option.isSome_iff_exists.1 h0
    obtain ⟨v, hy, h5⟩ := h o hi
    exact wpA_take (T := S) hi hsel (fun _ => True) (fun l' _ _ j _ _ => ⟨trivial, fun _ _ _ _ h => h⟩) _ l a w trivial (Region.free_spec hi h2) (by simpa using h3) hy hS hS (plan_wpA hsel p _ _ w fuel h4 hS h5)
  | .ev i p, l, a, w, fuel, hok, hS, h => by
    rw [Plan.ok] at hok
    simp only [Bool.and_eq_true, beq_iff_eq, Bool.not_eq_true'] at hok
    obtain ⟨⟨h1, h2⟩, h3⟩ := hok
    refine ⟨fun e => (by rw [h2] at e; cases e), fun j hj => ?_⟩
    rw [h2] at hj
    obtain rfl : j = i := by simpa using hj
    exact ev_op h1 h fun a' w' hS' h' => plan_wpA hsel p _ a' w' fuel h3 hS' h'
  | .two i j p q, l, a, w, fuel, hok, hS, h => by
    rw [Plan.ok] at hok
    simp only [Bool.and_eq_true, beq_iff_eq, Bool.not_eq_true'] at hok
    obtain ⟨⟨⟨⟨h1, h2⟩, h3⟩, h4⟩, h5⟩ := hok
    refine ⟨fun e => (by rw [h3] at e; cases e), fun k hk => ?_⟩
    rw [h3] at hk
    rcases List.mem_cons.1 hk with rfl | hk
    · refine ev_op h1 h.1 fun a' w' hS' h' => ?_
      have e : fuel.add (max p.len q.len) = (fuel + max p.len q.len - p.len) + p.len := by show fuel + max p.len q.len = _; omega
      rw [e]
      exact plan_wpA hsel p _ a' w' _ h4 hS' h'
    · obtain rfl : k = j := by simpa using hk
      refine ev_op h2 h.2 fun a' w' hS' h' => ?_
      have e : fuel.add (max p.len q.len) = (fuel + max p.len q.len - q.len) + q.len := by show fuel + max p.len q.len = _; omega
      rw [e]
      exact plan_wpA hsel q _ a' w' _ h5 hS' h'
  | .alt i j p q, l, a, w, fuel, hok, hS, h => by
    rw [Plan.ok] at hok
    simp only [Bool.and_eq_true, Bool.not_eq_true', List.all_eq_true, Bool.or_eq_true, beq_iff_eq] at hok
    obtain ⟨⟨⟨⟨⟨h1, h2⟩, h3⟩, h6⟩, h4⟩, h5⟩ := hok
    refine ⟨fun e => (by rw [e] at h6; cases h6), fun k hk => ?_⟩
    rcases h3 k hk with rfl | rfl
    · refine quiet_op h1 hS h.1 fun a' h' => ?_
      have e : fuel.add (max p.len q.len) = (fuel + max p.len q.len - p.len) + p.len := by show fuel + max p.len q.len = _; omega
      rw [e]
      exact plan_wpA hsel p _ a' w _ h4 hS h'
    · refine ev_op h2 h.2 fun a' w' hS' h' => ?_
      have e : fuel.add (max p.len q.len) = (fuel + max p.len q.len - q.len) + q.len := by show fuel + max p.len q.len = _; omega
      rw [e]
      exact plan_wpA hsel q _ a' w' _ h5 hS' h'
def Plan.okTop (P : Program) (ops : Array Oper) (p : Plan) : Bool := P.follows .mixedOrders && Region.noSelect ops && decide (p.len ≤ ops.size) && p.ok P ops (Array.replicate ops.size false)
/-- A region that draws its order, along a plan. -/
theorem region_plan {id : Nat} {Q : Exit → Act → World → Prop} {a : Act} {w : World} (p : Plan) (S : World → Prop) (hc : p.okTop P ops = true) (hS : S w.drew) (h : ∀ wd, wd = w.drew → p.wp P ops S (fun a w => Q .normal a w) a wd) : (Code.region id ops true).wp P Q a w := by
  have h := h _ rfl
  simp only [Plan.okTop, Bool.and_eq_true, decide_eq_true_eq] at hc
  obtain ⟨⟨⟨h1, h2⟩, h3⟩, h4⟩ := hc
  have e : (ops.size - p.len) + p.len = ops.size := by omega
  have h5 := plan_wpA (K := fun a w => Q .normal a w) (S := S) (Region.noSelect_spec h2) p (Array.replicate ops.size false) a w.drew (ops.size - p.len) h4 hS h
  rw [e] at h5
  exact Code.wp_mono (Q := Nrm fun a w => Q .normal a w) (fun e a w h => by cases e <;> first | exact h.2 | cases h.1) (wp_region_any h1 (wpA_any _ _ _ _ h5))
theorem plan_run {is : List Nat} {p : Plan} {a : Act} {w : World} (h : ∀ m, pickO ops is = m → wpList P ops (Nrm fun a' w' => plainL ops m a' = true ∧ p.wp P ops S K a' w') m a w) : (Plan.run is p).wp P ops S K a w := h _ rfl
theorem plan_ev {i : Nat} {p : Plan} {a : Act} {w : World} (h : ∀ m, pickO ops [i] = m → wpList P ops (Nrm fun a' w' => S w' ∧ p.wp P ops S K a' w') m a w) : (Plan.ev i p).wp P ops S K a w := h _ rfl
theorem plan_two {i j : Nat} {p q : Plan} {a : Act} {w : World} (h : ∀ m, pickO ops [i] = m → wpList P ops (Nrm fun a' w' => S w' ∧ p.wp P ops S K a' w') m a w) (h2 : ∀ m, pickO ops [j] = m → wpList P ops (Nrm fun a' w' => S w' ∧ q.wp P ops S K a' w') m a w) : (Plan.two i j p q).wp P ops S K a w := ⟨h _ rfl, h2 _ rfl⟩
theorem plan_alt {i j : Nat} {p q : Plan} {a : Act} {w : World} (h : ∀ m, pickO ops [i] = m → wpList P ops (Nrm fun a' w' => w' = w ∧ p.wp P ops S K a' w') m a w) (h2 : ∀ m, pickO ops [j] = m → wpList P ops (Nrm fun a' w' => S w' ∧ q.wp P ops S K a' w') m a w) : (Plan.alt i j p q).wp P ops S K a w := ⟨h _ rfl, h2 _ rfl⟩
theorem plan_held {i : Nat} {p : Plan} {a : Act} {w : World} {o : Oper} {v : Value} (ho : ops[i]? = some o) (hw : Region.wanted o (yielded ops a.tmps) = true) (hr : ∀ w', S w' → (execOp a.eval o).run P w' = .ok (.value v) w') (h : p.wp P ops S K (a.put o.dst v) w) : (Plan.held i p).wp P ops S K a w := fun o' ho' => by
  rw [ho] at ho'
  injection ho' with e
  subst e
  exact ⟨v, Or.inl ⟨hw, fun w' hS => Or.inl (hr w' hS)⟩, h⟩
/-- A call that only computes. -/
theorem plan_pure {i : Nat} {p : Plan} {a : Act} {w : World} {o : Oper} {v : Value} {f : FuncId} {fn : Func} {xs : Array Operand} {ts : Array TypeId} (args : Array Value) (ho : ops[i]? = some o) (hw : Region.wanted o (yielded ops a.tmps) = true) (hf : P.funcs[f]? = some fn) (hname : (fn.name == "runtime.NumGoroutine") = false) (hb : fn.body.isSome = true)
    (hop : o.op = .call { callee := .value (.func f), args := xs, argTypes := ts }) (hargs : xs.map a.eval = args) (hr : ∀ w', S w' → Calls P f args w' fun e w'' => e = .returned v ∧ w'' = w') (h : p.wp P ops S K (a.put o.dst v) w) : (Plan.held i p).wp P ops S K a w := fun o' ho' => by
  rw [ho] at ho'
  injection ho' with e
  subst e
  refine ⟨v, Or.inl ⟨hw, fun w' hS => Or.inr ⟨f, args, ?_, hr w' hS⟩⟩, h⟩
  have h1 : fn.name ≠ "runtime.NumGoroutine" := by simpa using hname
  obtain ⟨c, hc⟩ := Option.isSome_iff_exists.1 hb
  unfold execOp
  simp [hop, resolve, Deferred.ofValue, invoke, Act.eval, hargs, callFunc, hf, h1, hc]
theorem plan_off {i : Nat} {p : Plan} {a : Act} {w : World} {o : Oper} (ho : ops[i]? = some o) (hw : Region.wanted o (yielded ops a.tmps) = false) (h : p.wp P ops S K (a.put o.dst undef) w) : (Plan.held i p).wp P ops S K a w := fun o' ho' => by
  rw [ho] at ho'
  injection ho' with e
  subst e
  exact ⟨undef, Or.inr ⟨hw, rfl⟩, h⟩
theorem plan_fin {a : Act} {w : World} (h : K a w) : Plan.fin.wp P ops S K a w := h
end
end Go.Proofs.Ytjfnlgmllhjonaa
