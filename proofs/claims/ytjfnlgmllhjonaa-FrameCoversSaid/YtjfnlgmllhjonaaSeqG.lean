/- A region that draws its order, walked inside a fence: in a round of a range over a function, or where yield is called (gen_seqg.py). No condition. -/
import Derived.Test.YtjfnlgmllhjonaaSeqD
import Derived.OrdersIn
import Derived.RangeFuncNested
import Derived.RangeFuncCalls
import Derived.RangeFuncLeaves
import Derived.OwnWalkIn
namespace Go.Proofs.Ytjfnlgmllhjonaa
open Go.RowKit
set_option linter.unusedSimpArgs false
set_option linter.unusedVariables false
/-- The wide fence, in a round or in none. -/
def FR (ro : Option Nat) : Fence := { Fence.wide with round := ro }
theorem fr_wide : FR none = Fence.wide := rfl
theorem fr_in (l : Nat) : Fence.wide.inRound l = FR (some l) := rfl
section
variable {P : Program} {ops : Array Oper} {K : Act → World → Prop} {S : World → Prop} {ro : Option Nat} {n : Nat}
theorem callsX {f : FuncId} {args : Array Value} {w : World} {R : Ending → World → Prop} (h : Calls P f args w R) : CallsIn (FR ro) n P f args w R := (callsIn_wide (n := n)).2 h
theorem callsX' {f : FuncId} {args : Array Value} {w : World} {R : Ending → World → Prop} (h : CallsIn (FR ro) n P f args w R) : Calls P f args w R := (callsIn_wide (n := n)).1 h
theorem rowsX {row : String} {args : Array Value} {w : World} {R : Value → World → Prop} (h : Rows P row args w R) : RowsIn (FR ro) n P row args w R := fun c cs _ => by
  obtain ⟨v, w', h1, h2⟩ := h c cs
  exact ⟨v, w', h1, stepsIn_wide.2 h2⟩
/-- One operation of a region inside the fence. -/
def upX (ro : Option Nat) (n : Nat) (P : Program) (ops : Array Oper) (R : Act → World → Prop) (i : Nat) (K0 : Act → World → Prop) (a : Act) (w : World) : Prop :=
  match ops[i]? with
  | none => K0 a w
  | some o => if Region.wanted o (yielded ops a.tmps) then o.uponIn (FR ro) n P a K0 (Nrm R) ((execOp a.eval o).run P w) else K0 (a.put o.dst undef) w
theorem upX_in {i : Nat} {R K0 : Act → World → Prop} {a : Act} {w : World} (hd : ∀ (j : Nat) (o : Oper), ops[j]? = some o → ∀ c, o.op ≠ .defer c) (h : upX ro n P ops R i K0 a w) : wpOpIn (FR ro) n P ops (Nrm R) i K0 a w := by
  unfold upX at h
  unfold wpOpIn
  cases hi : ops[i]? with
  | none => rw [hi] at h; exact h
  | some o =>
    rw [hi] at h
    dsimp only at h ⊢
    by_cases hw : Region.wanted o (yielded ops a.tmps) = true
    · rw [if_pos hw] at h ⊢
      refine ⟨fun _ _ => trivial, ?_⟩
      rw [Oper.semAt_plain _ _ _ (hd i o hi)]
      exact h
    · rw [if_neg hw] at h ⊢
      exact ⟨fun _ _ => trivial, h⟩
theorem uponIn_mono {o : Oper} {a : Act} {Q : Exit → Act → World → Prop} {K0 K1 : Act → World → Prop} (h : ∀ a w, K0 a w → K1 a w) : ∀ {r : Result Next}, o.uponIn (FR ro) n P a K0 Q r → o.uponIn (FR ro) n P a K1 Q r
  | .ok (.value _) _, hh => h _ _ hh
  | .ok .skip _, hh => h _ _ hh
  | .ok (.defer _) _, hh => h _ _ hh
  | .ok (.enter _ _) _, hh => ⟨hh.1, CallsIn.mono hh.2 (fun e w'' he => by cases e <;> first | exact h _ _ he | exact he)⟩
  | .ok (.row _ _) _, hh => ⟨hh.1, RowsIn.mono hh.2 (fun _ _ he => h _ _ he)⟩
  | .ok (.round _ _ _ _ _) _, hh => ⟨hh.1, RoundIn.mono hh.2 (fun e w'' he => by cases e <;> first | exact h _ _ he | exact he)⟩
  | .halt (.panic _) _, hh => hh
theorem upX_mono {i : Nat} {R K0 K1 : Act → World → Prop} {a : Act} {w : World} (h : ∀ a w, K0 a w → K1 a w) (hh : upX ro n P ops R i K0 a w) : upX ro n P ops R i K1 a w := by
  unfold upX at *
  split
  · exact h _ _ (by simpa [*] using hh)
  · rename_i o ho
    simp only [ho] at hh
    split
    · rename_i hw; rw [if_pos hw] at hh; exact uponIn_mono h hh
    · rename_i hw; rw [if_neg hw] at hh; exact h _ _ hh
/-- What goes well outside goes well inside. -/
theorem upon_in {o : Oper} {a : Act} {R K0 : Act → World → Prop} : ∀ {r : Result Next}, o.upon P a K0 (Nrm R) r → ∀ {R' : Act → World → Prop}, o.uponIn (FR ro) n P a K0 (Nrm R') r
  | .ok (.value _) _, hh, _ => hh
  | .ok .skip _, hh, _ => hh
  | .ok (.defer _) _, hh, _ => hh
  | .ok (.enter _ _) _, hh, _ => ⟨(fun h => by cases h), callsX (Calls.mono hh (fun e w'' he => by cases e <;> first | exact he | (cases he.1) | (obtain ⟨_, _, he⟩ := he; cases he.1)))⟩
  | .ok (.row _ _) _, hh, _ => ⟨(fun h => by cases h), rowsX hh⟩
  | .halt (.panic _) _, hh, _ => by cases hh.1
def wpX (ro : Option Nat) (n : Nat) (P : Program) (ops : Array Oper) (K : Act → World → Prop) (S : World → Prop) : Nat → Array Bool → Act → World → Prop
  | 0, l, a, w => Region.ready .any ops l = [] ∧ K a w
  | fuel + 1, l, a, w => (Region.ready .any ops l = [] → K a w) ∧
    ∀ i ∈ Region.ready .any ops l, upX ro n P ops K i (fun a' w' => (qI P ops i = true → w' = w) ∧ S w' ∧ wpX ro n P ops K S fuel (l.setIfInBounds i true) a' w') a w
theorem YC.opX {T : World → Prop} {R : Act → World → Prop} {i : Nat} {o : Oper} {v : Value} {a : Act} (hi : ops[i]? = some o) (hy : YC P ops T o v a) {K0 : Act → World → Prop} {w : World} (hT : T w) (h : K0 (a.put o.dst v) w) : upX ro n P ops R i K0 a w := by
  unfold upX
  simp only [hi]
  rcases hy with ⟨hw, hv⟩ | ⟨hw, rfl⟩
  · rw [if_pos hw]
    rcases hv w hT with hr | ⟨f, args, hr, hc⟩
    · rw [hr]; exact h
    · rw [hr]
      refine ⟨(fun h => by cases h), callsX (hc.mono fun e w' ⟨he, hw'⟩ => ?_)⟩
      subst he hw'
      exact h
  · rw [if_neg (by rw [hw]; simp)]; exact h
theorem upX_putC {j : Nat} {oi oj : Oper} {v : Value} {T : World → Prop} {R : Act → World → Prop} (hj : ops[j]? = some oj) (hap : oi.apart ops oj = true) (hsi : ∀ cs b, oi.op ≠ .select cs b) (hsj : ∀ cs b, oj.op ≠ .select cs b)
    {K0 : Act → World → Prop} {a : Act} {w : World} (hy : YC P ops T oi v a) (h : upX ro n P ops R j K0 (a.put oi.dst v) w) :
    upX ro n P ops R j (fun a' w' => YC P ops T oi v a' ∧ K0 (a'.put oi.dst v) w') a w := by
  obtain ⟨h1, h2, h3⟩ := Oper.apart_spec hap
  have keep : ∀ u, YC P ops T oi v (a.put oj.dst u) := fun u => hy.same (execOp_put oi hsi a oj.dst u h3) (wanted_put oi a oj.dst u h3)
  have keepD : ∀ d u, YC P ops T oi v (({ a with defers := d :: a.defers } : Act).put oj.dst u) := fun d u => by
    have h0 : YC P ops T oi v { a with defers := d :: a.defers } := hy.same rfl rfl
    exact h0.same (execOp_put oi hsi _ oj.dst u h3) (wanted_put oi _ oj.dst u h3)
  have eqE := execOp_put oj hsj a oi.dst v h1
  have eqW := wanted_put oj a oi.dst v h1
  have sw : ∀ u, (a.put oj.dst u).put oi.dst v = (a.put oi.dst v).put oj.dst u := fun u => (Act.put_comm a v u h2).symm
  unfold upX at h ⊢
  simp only [hj, eqW] at h ⊢
  by_cases hw : Region.wanted oj (yielded ops a.tmps) = true
  · rw [if_pos hw] at h ⊢
    rw [eqE] at h
    cases hr : (execOp a.eval oj).run P w with
    | halt x w' => rw [hr] at h; cases x <;> first | exact h.elim | cases h.1
    | ok nx w' =>
      rw [hr] at h
      cases nx
      case value u => exact ⟨keep u, by rw [sw]; exact h⟩
      case skip => exact ⟨keep undef, by rw [sw]; exact h⟩
      case defer d => exact ⟨keepD d undef, by rw [← Act.put_comm _ v undef h2, ← Act.put_defers]; exact h⟩
      case enter f args =>
        refine ⟨h.1, CallsIn.mono h.2 fun e w'' he => ?_⟩
        cases e with
        | returned u => exact ⟨keep u, by rw [sw]; exact he⟩
        | panicked c => cases he.1
        | outgrown => exact he
      case row r args => exact ⟨h.1, RowsIn.mono h.2 fun u w'' he => ⟨keep u, by rw [sw]; exact he⟩⟩
      case round l f tm asg bd =>
        refine ⟨h.1, RoundIn.mono h.2 fun e w'' he => ?_⟩
        cases e with
        | returned u => exact ⟨keep u, by rw [sw]; exact he⟩
        | panicked c => cases he.1
        | outgrown => exact he
      all_goals exact h
  · rw [if_neg hw] at h ⊢
    exact ⟨keep undef, by rw [sw]; exact h⟩
theorem wpX_any (hd : ∀ (j : Nat) (o : Oper), ops[j]? = some o → ∀ c, o.op ≠ .defer c) : ∀ (fuel : Nat) (l : Array Bool) (a : Act) (w : World), wpX ro n P ops K S fuel l a w → wpAnyIn (FR ro) n P .any ops (Nrm K) fuel l a w
  | 0, _, _, _, h => ⟨h.1, rfl, h.2⟩
  | fuel + 1, _, _, _, h => ⟨fun e => ⟨rfl, h.1 e⟩, fun i hi => upX_in hd (upX_mono (fun a' w' h' => wpX_any hd fuel _ a' w' h'.2.2) (h.2 i hi))⟩
theorem wpX_take {i : Nat} {oi : Oper} {v : Value} {T : World → Prop} (hi : ops[i]? = some oi) (hsel : ∀ (j : Nat) (o : Oper) cs b, ops[j]? = some o → o.op ≠ .select cs b)
    (Inv : Array Bool → Prop) (hinv : ∀ l, Inv l → i ∈ Region.ready .any ops l → ∀ j ∈ Region.ready .any ops l, j ≠ i → Inv (l.setIfInBounds j true) ∧ ∀ w w', T w → (qI P ops j = true → w' = w) → S w' → T w') :
    ∀ (fuel : Nat) (l : Array Bool) (a : Act) (w : World), Inv l →
      (∀ j oj, ops[j]? = some oj → j ≠ i → l.getD j true = false → (∀ e ∈ oj.after, Region.binds .any e = true → e.on ≠ i) → oi.apart ops oj = true) →
      i ∈ Region.ready .any ops l → YC P ops T oi v a → T w → S w →
      wpX ro n P ops K S fuel (l.setIfInBounds i true) (a.put oi.dst v) w → wpX ro n P ops K S (fuel + 1) l a w := by
  intro fuel
  induction fuel with
  | zero =>
    intro l a w hI _ hr hy hT hS H
    refine ⟨fun h => (by rw [h] at hr; cases hr), fun j hj => ?_⟩
    by_cases hji : j = i
    · subst hji; exact hy.opX hi hT ⟨fun _ => rfl, hS, H⟩
    · have := ready_mono hj hji
      rw [H.1] at this
      cases this
  | succ fuel ih =>
    intro l a w hI hfree hr hy hT hS H
    refine ⟨fun h => (by rw [h] at hr; cases hr), fun j hj => ?_⟩
    by_cases hji : j = i
    · subst hji; exact hy.opX hi hT ⟨fun _ => rfl, hS, H⟩
    · have h1 := H.2 j (ready_mono hj hji)
      obtain ⟨hjun, oj, hoj, hall⟩ := mem_ready.1 hj
      have hnot : ∀ e ∈ oj.after, Region.binds .any e = true → e.on ≠ i := fun e he hb heq => by
        have h1 := hall e he hb
        have h0 := (mem_ready.1 hr).1
        rw [heq] at h1
        rcases Nat.lt_or_ge i l.size with h' | h'
        · simp [h'] at h0 h1; rw [h0] at h1; cases h1
        · simp [Array.getElem?_eq_none h'] at h1
      have h2 := upX_putC hoj (hfree j oj hoj hji hjun hnot) (fun cs b => hsel i oi cs b hi) (fun cs b => hsel j oj cs b hoj) hy h1
      have hfree' : ∀ k ok, ops[k]? = some ok → k ≠ i → (l.setIfInBounds j true).getD k true = false →
          (∀ e ∈ ok.after, Region.binds .any e = true → e.on ≠ i) → oi.apart ops ok = true := fun k ok hk hki hun hno => by
        refine hfree k ok hk hki ?_ hno
        by_cases hjk : j = k
        · subst hjk; exact hjun
        · rw [getD_set_ne true hjk] at hun; exact hun
      obtain ⟨hI', hstep⟩ := hinv l hI hr j hj hji
      refine upX_mono (fun a' w' h3 => ⟨h3.2.1, h3.2.2.1, ih (l.setIfInBounds j true) a' w' hI' hfree' (ready_mono hr (Ne.symm hji)) h3.1 (hstep w w' hT h3.2.1 h3.2.2.1) h3.2.2.1 ?_⟩) h2
      rw [Array.setIfInBounds_comm _ _ hji]
      exact h3.2.2.2
theorem run_stepX (hsel : ∀ (j : Nat) (o : Oper) cs b, ops[j]? = some o → o.op ≠ .select cs b) {C : Act → World → Prop} {m : List Oper} : ∀ (is : List Nat) (l : Array Bool) (a : Act) (w : World) (fuel : Nat), okRun P ops is l = true → (∀ o ∈ pickO ops is, o ∈ m) → S w →
    wpList P ops (Nrm fun a' w' => plainL ops m a' = true ∧ C a' w') (pickO ops is) a w → (∀ A, C A w → wpX ro n P ops K S fuel (setAll is l) A w) → wpX ro n P ops K S (fuel + is.length) l a w
  | [], l, a, w, fuel, _, _, _, h, hC => hC a h.2.2
  | i :: is, l, a, w, fuel, hok, hm, hS, h, hC => by
    rw [okRun] at hok
    simp only [Bool.and_eq_true] at hok
    obtain ⟨⟨⟨h1, h2⟩, h3⟩, h4⟩ := hok
    cases hi : ops[i]? with
    | none => rw [hi] at h1; cases h1
    | some o =>
      rw [hi] at h1
      simp only [Bool.and_eq_true] at h1
      obtain ⟨⟨hk, hd⟩, hdst⟩ := h1
      have hpick : pickO ops (i :: is) = o :: pickO ops is := by simp [pickO, hi]
      rw [hpick] at h hm
      have hquiet : ∀ (is : List Nat) (l : Array Bool), okRun P ops is l = true → ∀ o ∈ pickO ops is, kindQ P o = true := by
        intro is
        induction is with
        | nil => intro l _ o ho; simp [pickO] at ho
        | cons i is ih =>
          intro l hl o ho
          rw [okRun] at hl
          simp only [Bool.and_eq_true] at hl
          obtain ⟨⟨⟨g1, g2⟩, g3⟩, g4⟩ := hl
          cases hi : ops[i]? with
          | none => rw [hi] at g1; cases g1
          | some o' =>
            rw [hi] at g1
            have e : pickO ops (i :: is) = o' :: pickO ops is := by simp [pickO, hi]
            rw [e] at ho
            rcases List.mem_cons.1 ho with rfl | ho
            · simp only [Bool.and_eq_true] at g1; exact g1.1.1
            · exact ih _ g4 o ho
      -- the last act is plain at o, so this one is
      have hplain : Region.wanted o (yielded ops a.tmps) = true → plainO a.eval o = true := by
        intro hwt
        obtain ⟨A, w', ⟨hp, _⟩, hA⟩ := wpList_last (o :: pickO ops is) a w (by
          intro o' ho'
          rcases List.mem_cons.1 ho' with rfl | ho'
          · exact hk
          · exact hquiet is _ h4 o' ho') h
        have hat : ∀ t, t ∈ o.looksAt ops → A.tmps[t]? = a.tmps[t]? := by
          intro t hmem
          refine hA t fun o' ho' he => ?_
          have hin : ∃ j ∈ i :: is, ops[j]? = some o' := by
            rcases List.mem_cons.1 ho' with rfl | ho'
            · exact ⟨i, by simp, hi⟩
            · obtain ⟨j, hj, e⟩ := List.mem_filterMap.1 ho'
              exact ⟨j, by simp [hj], e⟩
          obtain ⟨j, hj, e⟩ := hin
          have := List.all_eq_true.1 hdst j hj
          rw [e] at this
          simp only [Option.bind_some, he, Bool.not_eq_true'] at this
          have : (o.looksAt ops).contains t = true := by simpa using hmem
          simp_all
        have hwA : Region.wanted o (yielded ops A.tmps) = true := by
          rw [← hwt]
          unfold Region.wanted
          cases hg : o.guard with
          | none => rfl
          | some gw =>
            obtain ⟨g, want⟩ := gw
            have hy : yielded ops A.tmps g = yielded ops a.tmps g := by
              unfold yielded
              cases ht : (ops[g]?).bind (·.dst) with
              | none => rfl
              | some t => simp only [Option.bind_some, hat t (by simp [Oper.looksAt, hg, ht])]
            simp only [hy]
        have hpo := (List.all_eq_true.1 hp) o (hm o (by simp))
        rw [hwA] at hpo
        have hpo : plainO A.eval o = true := by simpa using hpo
        rw [← hpo]
        refine plainO_congr o fun x hx => ?_
        cases x with
        | tmp t =>
          have := hat t (List.mem_append_left _ (List.mem_filterMap.2 ⟨.tmp t, by simpa using hx, rfl⟩))
          simp only [Act.eval, Array.getD_eq_getD_getElem?]
          rw [this]
        | _ => rfl
      have hrest : ∃ v, (YieldsIf P ops (fun w' => isLoad o = false ∨ w' = w) o v a) ∧ wpList P ops (Nrm fun a' w' => plainL ops m a' = true ∧ C a' w') (pickO ops is) (a.put o.dst v) w := by
        unfold wpList at h
        split at h
        · rename_i hwant
          obtain ⟨v, w1, hr, h5⟩ := wp_ok h hk
          have hw1 := kind_ro hk (hplain hwant) w _ w1 hr
          subst hw1
          refine ⟨v, Or.inl ⟨hwant, fun w' hw' => ?_⟩, h5⟩
          rcases hw' with hl | rfl
          · exact kind_nw hk hl (hplain hwant) _ _ _ hr w'
          · exact hr
        · rename_i hwant
          exact ⟨undef, Or.inr ⟨by simpa using hwant, rfl⟩, h⟩
      obtain ⟨v, hy, h6⟩ := hrest
      have IH := run_stepX hsel is (l.setIfInBounds i true) (a.put o.dst v) w fuel h4 (fun o' ho' => hm o' (by simp [ho'])) hS h6 hC
      rw [List.length_cons, ← Nat.add_assoc]
      cases hl : isLoad o with
      | false =>
        refine wpX_take (T := fun w' => isLoad o = false ∨ w' = w) hi hsel (fun _ => True) (fun l' _ _ j _ _ => ⟨trivial, fun _ _ _ _ _ => Or.inl hl⟩) _ l a w trivial (Region.free_spec hi h2) (by simpa using h3) (toYC hy) (Or.inl hl) hS IH
      | true =>
        have hD : okD P ops l i (waits ops i) = true := by rw [hl] at hd; simpa using hd
        refine wpX_take (T := fun w' => isLoad o = false ∨ w' = w) hi hsel (InvD ops l (waits ops i)) (fun l' hI hr j hj hji => ?_) _ l a w (invD_start hD) (Region.free_spec hi h2) (by simpa using h3) (toYC hy) (Or.inr rfl) hS IH
        obtain ⟨g1, g2⟩ := invD_step hD l' hI hr j hj hji
        exact ⟨g1, fun w1 w2 hT hq _ => by rw [hq g2]; exact hT⟩
theorem wpX_fin {l : Array Bool} {a : Act} {w : World} (hr : Region.ready .any ops l = []) (h : K a w) : ∀ fuel, wpX ro n P ops K S fuel l a w
  | 0 => ⟨hr, h⟩
  | _ + 1 => ⟨fun _ => h, by rw [hr]; simp⟩
/-- A call of yield: its run, and its round. -/
def YdX (ro : Option Nat) (n : Nat) (P : Program) (ops : Array Oper) (i : Nat) (C : Act → World → Prop) (a : Act) (w : World) : Prop :=
  ∃ o l f tm asg bd, ops[i]? = some o ∧ Region.wanted o (yielded ops a.tmps) = true ∧ (execOp a.eval o).run P w = .ok (.round l f tm asg bd) w ∧ RoundIn (FR ro) (n - 1) P l f tm asg bd w fun e w' => ∃ v, e = .returned v ∧ C (a.put o.dst v) w'
/-- What is to be shown along a plan, inside the fence. -/
def Plan.wpX (ro : Option Nat) (n : Nat) (P : Program) (ops : Array Oper) (S : World → Prop) (K : Act → World → Prop) : Plan → Act → World → Prop
  | .fin, a, w => K a w
  | .run is p, a, w => wpList P ops (Nrm fun a' w' => plainL ops (pickO ops is) a' = true ∧ p.wpX ro n P ops S K a' w') (pickO ops is) a w
  | .held i p, a, w => ∀ o, ops[i]? = some o → ∃ v, YC P ops S o v a ∧ p.wpX ro n P ops S K (a.put o.dst v) w
  | .ev i p, a, w => wpList P ops (Nrm fun a' w' => S w' ∧ p.wpX ro n P ops S K a' w') (pickO ops [i]) a w ∨ YdX ro n P ops i (fun a' w' => S w' ∧ p.wpX ro n P ops S K a' w') a w
  | .two i j p q, a, w => wpList P ops (Nrm fun a' w' => S w' ∧ p.wpX ro n P ops S K a' w') (pickO ops [i]) a w ∧ wpList P ops (Nrm fun a' w' => S w' ∧ q.wpX ro n P ops S K a' w') (pickO ops [j]) a w
  | .alt i j p q, a, w => wpList P ops (Nrm fun a' w' => w' = w ∧ p.wpX ro n P ops S K a' w') (pickO ops [i]) a w ∧ wpList P ops (Nrm fun a' w' => S w' ∧ q.wpX ro n P ops S K a' w') (pickO ops [j]) a w
theorem ev_opX {i : Nat} {fuel : Nat} {l : Array Bool} {a : Act} {w : World} {C : Act → World → Prop} (hq : qI P ops i = false) (h : wpList P ops (Nrm fun a' w' => S w' ∧ C a' w') (pickO ops [i]) a w)
    (hC : ∀ a' w', S w' → C a' w' → Go.Proofs.Ytjfnlgmllhjonaa.wpX ro n P ops K S fuel (l.setIfInBounds i true) a' w') : upX ro n P ops K i (fun a' w' => (qI P ops i = true → w' = w) ∧ S w' ∧ Go.Proofs.Ytjfnlgmllhjonaa.wpX ro n P ops K S fuel (l.setIfInBounds i true) a' w') a w := by
  unfold upX
  cases hi : ops[i]? with
  | none => simp [qI, hi] at hq
  | some o =>
    have hpick : pickO ops [i] = [o] := by simp [pickO, hi]
    rw [hpick] at h
    unfold wpList at h
    dsimp only
    have hnil : ∀ a' w', wpList P ops (Nrm fun a' w' => S w' ∧ C a' w') [] a' w' → (qI P ops i = true → w' = w) ∧ S w' ∧ Go.Proofs.Ytjfnlgmllhjonaa.wpX ro n P ops K S fuel (l.setIfInBounds i true) a' w' :=
      fun a' w' h' => ⟨(fun e => by rw [hq] at e; cases e), h'.2.1, hC a' w' h'.2.1 h'.2.2⟩
    split
    · rename_i hw
      rw [if_pos hw] at h
      rcases h with h | ⟨_, _, _, h⟩
      · exact uponIn_mono hnil (upon_in h)
      · cases h.1
    · rename_i hw
      rw [if_neg hw] at h
      exact hnil _ _ h
theorem yd_opX {i : Nat} {fuel : Nat} {l : Array Bool} {a : Act} {w : World} {C : Act → World → Prop} (hq : qI P ops i = false) (h : YdX ro n P ops i (fun a' w' => S w' ∧ C a' w') a w)
    (hC : ∀ a' w', S w' → C a' w' → Go.Proofs.Ytjfnlgmllhjonaa.wpX ro n P ops K S fuel (l.setIfInBounds i true) a' w') : upX ro n P ops K i (fun a' w' => (qI P ops i = true → w' = w) ∧ S w' ∧ Go.Proofs.Ytjfnlgmllhjonaa.wpX ro n P ops K S fuel (l.setIfInBounds i true) a' w') a w := by
  obtain ⟨o, l', f, tm, asg, bd, hi, hw, hr, hR⟩ := h
  unfold upX
  rw [hi]
  dsimp only
  rw [if_pos hw, hr]
  refine ⟨(fun h => by cases h), RoundIn.mono hR fun e w' he => ?_⟩
  obtain ⟨v, rfl, hS, hc⟩ := he
  exact ⟨(fun e => by rw [hq] at e; cases e), hS, hC _ _ hS hc⟩
theorem quiet_opX {i : Nat} {fuel : Nat} {l : Array Bool} {a : Act} {w : World} {C : Act → World → Prop} (hs : (ops[i]?).isSome = true) (hS : S w) (h : wpList P ops (Nrm fun a' w' => w' = w ∧ C a' w') (pickO ops [i]) a w)
    (hC : ∀ a', C a' w → Go.Proofs.Ytjfnlgmllhjonaa.wpX ro n P ops K S fuel (l.setIfInBounds i true) a' w) : upX ro n P ops K i (fun a' w' => (qI P ops i = true → w' = w) ∧ S w' ∧ Go.Proofs.Ytjfnlgmllhjonaa.wpX ro n P ops K S fuel (l.setIfInBounds i true) a' w') a w := by
  unfold upX
  cases hi : ops[i]? with
  | none => simp [hi] at hs
  | some o =>
    have hpick : pickO ops [i] = [o] := by simp [pickO, hi]
    rw [hpick] at h
    unfold wpList at h
    dsimp only
    have hnil : ∀ a' w', wpList P ops (Nrm fun a' w' => w' = w ∧ C a' w') [] a' w' → (qI P ops i = true → w' = w) ∧ S w' ∧ Go.Proofs.Ytjfnlgmllhjonaa.wpX ro n P ops K S fuel (l.setIfInBounds i true) a' w' :=
      fun a' w' h' => by obtain ⟨_, rfl, h3⟩ := h'; exact ⟨fun _ => rfl, hS, hC a' h3⟩
    split
    · rename_i hw
      rw [if_pos hw] at h
      rcases h with h | ⟨_, _, _, h⟩
      · exact uponIn_mono hnil (upon_in h)
      · cases h.1
    · rename_i hw
      rw [if_neg hw] at h
      exact hnil _ _ h
theorem plan_wpX (hsel : ∀ (j : Nat) (o : Oper) cs b, ops[j]? = some o → o.op ≠ .select cs b) : ∀ (p : Plan) (l : Array Bool) (a : Act) (w : World) (fuel : Nat), p.ok P ops l = true → S w → p.wpX ro n P ops S K a w → Go.Proofs.Ytjfnlgmllhjonaa.wpX ro n P ops K S (fuel + p.len) l a w
  | .fin, l, a, w, fuel, hok, _, h => wpX_fin (by simpa [Plan.ok] using hok) h _
  | .run is p, l, a, w, fuel, hok, hS, h => by
    rw [Plan.ok, Bool.and_eq_true] at hok
    rw [Plan.len, ← Nat.add_assoc]
    exact run_stepX hsel is l a w _ hok.1 (fun o h => h) hS h fun A hA => plan_wpX hsel p _ A w fuel hok.2 hS hA
  | .held i p, l, a, w, fuel, hok, hS, h => by
    rw [Plan.ok] at hok
    simp only [Bool.and_eq_true] at hok
    obtain ⟨⟨⟨h0, h2⟩, h3⟩, h4⟩ := hok
    obtain ⟨o, hi⟩ := Option.isSome_iff_exists.1 h0
    obtain ⟨v, hy, h5⟩ := h o hi
    exact wpX_take (T := S) hi hsel (fun _ => True) (fun l' _ _ j _ _ => ⟨trivial, fun _ _ _ _ h => h⟩) _ l a w trivial (Region.free_spec hi h2) (by simpa using h3) hy hS hS (plan_wpX hsel p _ _ w fuel h4 hS h5)
  | .ev i p, l, a, w, fuel, hok, hS, h => by
    rw [Plan.ok] at hok
    simp only [Bool.and_eq_true, beq_iff_eq, Bool.not_eq_true'] at hok
    obtain ⟨⟨h1, h2⟩, h3⟩ := hok
    refine ⟨fun e => (by rw [h2] at e; cases e), fun j hj => ?_⟩
    rw [h2] at hj
    obtain rfl : j = i := by simpa using hj
    rcases h with h | h
    · exact ev_opX h1 h fun a' w' hS' h' => plan_wpX hsel p _ a' w' fuel h3 hS' h'
    · exact yd_opX h1 h fun a' w' hS' h' => plan_wpX hsel p _ a' w' fuel h3 hS' h'
  | .two i j p q, l, a, w, fuel, hok, hS, h => by
    rw [Plan.ok] at hok
    simp only [Bool.and_eq_true, beq_iff_eq, Bool.not_eq_true'] at hok
    obtain ⟨⟨⟨⟨h1, h2⟩, h3⟩, h4⟩, h5⟩ := hok
    refine ⟨fun e => (by rw [h3] at e; cases e), fun k hk => ?_⟩
    rw [h3] at hk
    rcases List.mem_cons.1 hk with rfl | hk
    · refine ev_opX h1 h.1 fun a' w' hS' h' => ?_
      have e : fuel.add (max p.len q.len) = (fuel + max p.len q.len - p.len) + p.len := by show fuel + max p.len q.len = _; omega
      rw [e]
      exact plan_wpX hsel p _ a' w' _ h4 hS' h'
    · obtain rfl : k = j := by simpa using hk
      refine ev_opX h2 h.2 fun a' w' hS' h' => ?_
      have e : fuel.add (max p.len q.len) = (fuel + max p.len q.len - q.len) + q.len := by show fuel + max p.len q.len = _; omega
      rw [e]
      exact plan_wpX hsel q _ a' w' _ h5 hS' h'
  | .alt i j p q, l, a, w, fuel, hok, hS, h => by
    rw [Plan.ok] at hok
    simp only [Bool.and_eq_true, Bool.not_eq_true', List.all_eq_true, Bool.or_eq_true, beq_iff_eq] at hok
    obtain ⟨⟨⟨⟨⟨h1, h2⟩, h3⟩, h6⟩, h4⟩, h5⟩ := hok
    refine ⟨fun e => (by rw [e] at h6; cases h6), fun k hk => ?_⟩
    rcases h3 k hk with rfl | rfl
    · refine quiet_opX h1 hS h.1 fun a' h' => ?_
      have e : fuel.add (max p.len q.len) = (fuel + max p.len q.len - p.len) + p.len := by show fuel + max p.len q.len = _; omega
      rw [e]
      exact plan_wpX hsel p _ a' w _ h4 hS h'
    · refine ev_opX h2 h.2 fun a' w' hS' h' => ?_
      have e : fuel.add (max p.len q.len) = (fuel + max p.len q.len - q.len) + q.len := by show fuel + max p.len q.len = _; omega
      rw [e]
      exact plan_wpX hsel q _ a' w' _ h5 hS' h'
def noDefer (ops : Array Oper) : Bool := ops.all fun o => match o.op with | .defer _ => false | _ => true
theorem noDefer_spec (h : noDefer ops = true) : ∀ (j : Nat) (o : Oper), ops[j]? = some o → ∀ c, o.op ≠ .defer c := fun j o ho c e => by
  have := Array.all_eq_true_iff_forall_mem.1 h o (Array.mem_of_getElem? ho)
  rw [e] at this
  cases this
/-- A region that draws its order, along a plan, inside the fence. -/
theorem region_planX {id : Nat} {Q : Exit → Act → World → Prop} {a : Act} {w : World} (p : Plan) (S : World → Prop) (hc : (p.okTop P ops && noDefer ops) = true) (hS : S w.drew) (h : ∀ wd, wd = w.drew → p.wpX ro n P ops S (fun a w => Q .normal a w) a wd) : (Code.region id ops true).wpIn (FR ro) n P Q a w := by
  have h := h _ rfl
  rw [Bool.and_eq_true] at hc
  obtain ⟨hc, hnd⟩ := hc
  simp only [Plan.okTop, Bool.and_eq_true, decide_eq_true_eq] at hc
  obtain ⟨⟨⟨h1, h2⟩, h3⟩, h4⟩ := hc
  have e : (ops.size - p.len) + p.len = ops.size := by omega
  have h5 := plan_wpX (K := fun a w => Q .normal a w) (S := S) (ro := ro) (n := n) (Region.noSelect_spec h2) p (Array.replicate ops.size false) a w.drew (ops.size - p.len) h4 hS h
  rw [e] at h5
  exact wpIn_mono (wpIn_region_any (Q := Nrm fun a w => Q .normal a w) h1 (wpX_any (noDefer_spec hnd) _ _ _ _ h5)) (fun e a w h => by cases e <;> first | exact h.2 | cases h.1)
theorem planX_run {is : List Nat} {p : Plan} {a : Act} {w : World} (h : ∀ m, pickO ops is = m → wpList P ops (Nrm fun a' w' => plainL ops m a' = true ∧ p.wpX ro n P ops S K a' w') m a w) : (Plan.run is p).wpX ro n P ops S K a w := h _ rfl
theorem planX_ev {i : Nat} {p : Plan} {a : Act} {w : World} (h : ∀ m, pickO ops [i] = m → wpList P ops (Nrm fun a' w' => S w' ∧ p.wpX ro n P ops S K a' w') m a w) : (Plan.ev i p).wpX ro n P ops S K a w := .inl (h _ rfl)
theorem planX_yd {i : Nat} {p : Plan} {a : Act} {w : World} {o : Oper} {l : Nat} {f : FuncId} {tm : Array Value} {asg bd : Code} (ho : ops[i]? = some o) (hw : Region.wanted o (yielded ops a.tmps) = true) (hr : (execOp a.eval o).run P w = .ok (.round l f tm asg bd) w)
    (h : RoundIn (FR ro) (n - 1) P l f tm asg bd w fun e w' => ∃ v, e = .returned v ∧ S w' ∧ p.wpX ro n P ops S K (a.put o.dst v) w') : (Plan.ev i p).wpX ro n P ops S K a w := .inr ⟨o, l, f, tm, asg, bd, ho, hw, hr, h⟩
theorem planX_held {i : Nat} {p : Plan} {a : Act} {w : World} {o : Oper} {v : Value} (ho : ops[i]? = some o) (hw : Region.wanted o (yielded ops a.tmps) = true) (hr : ∀ w', S w' → (execOp a.eval o).run P w' = .ok (.value v) w') (h : p.wpX ro n P ops S K (a.put o.dst v) w) : (Plan.held i p).wpX ro n P ops S K a w := fun o' ho' => by
  rw [ho] at ho'
  injection ho' with e
  subst e
  exact ⟨v, Or.inl ⟨hw, fun w' hS => Or.inl (hr w' hS)⟩, h⟩
theorem planX_off {i : Nat} {p : Plan} {a : Act} {w : World} {o : Oper} (ho : ops[i]? = some o) (hw : Region.wanted o (yielded ops a.tmps) = false) (h : p.wpX ro n P ops S K (a.put o.dst undef) w) : (Plan.held i p).wpX ro n P ops S K a w := fun o' ho' => by
  rw [ho] at ho'
  injection ho' with e
  subst e
  exact ⟨undef, Or.inr ⟨hw, rfl⟩, h⟩
theorem planX_fin {a : Act} {w : World} (h : K a w) : Plan.fin.wpX ro n P ops S K a w := h
end
end Go.Proofs.Ytjfnlgmllhjonaa
