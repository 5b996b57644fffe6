/- Words used by all texts of this seat: blocks known whole, arrays of integers by value, their equality, the step from a walk to the row. No condition. -/
import Derived.Test.YtjfnlgmllhjonaaRows
import Derived.WalkKit
import Derived.ProofKit
import Derived.WalkSpells
import Derived.Lib.Hide
import Derived.Laws.CopyOwn
import Derived.ChangeKeysEq
import Derived.ChangeSame
import Derived.Deep.Draws
import Derived.Deep.RegionHeld3
import Derived.Deep.DeepCutAuto
import Derived.Deep.MidRow
import Derived.OpenShut
namespace Go.Proofs.Ytjfnlgmllhjonaa
open Go.RowKit
/-- Block g is the cells cs of element type t, none frozen. -/
def Blk (w : World) (g : Nat) (t : TypeId) (cs : Array Value) : Prop := w.heap[g]? = some (.cells cs t (0, 0))
section
variable {w w' : World} {g : Nat} {t : TypeId} {cs : Array Value}
theorem Blk.lt (h : Blk w g t cs) : g < w.heap.size := by
  rcases Nat.lt_or_ge g w.heap.size with hlt | hge
  · exact hlt
  · unfold Blk at h; rw [Array.getElem?_eq_none hge] at h; cases h
theorem Blk.cell (h : Blk w g t cs) (i : Nat) : w.cell? ⟨g, i, none⟩ = cs[i]? := cell_of_row w g i cs t (0, 0) h
theorem Blk.frozen (h : Blk w g t cs) (i : Nat) : w.frozen? ⟨g, i, none⟩ = false := by
  unfold Blk at h
  simp [World.frozen?, h]
theorem Blk.new (w : World) (t : TypeId) (cs : Array Value) : Blk (w.alloc (.cells cs t)) w.heap.size t cs := heap_alloc_new w _
theorem Blk.nw (h : g = w.heap.size) : Blk (w.alloc (.cells cs t)) g t cs := h ▸ heap_alloc_new w _
theorem Blk.drew (h : Blk w g t cs) : Blk w.drew g t cs := h
theorem Blk.drewN (h : Blk w g t cs) (n : Nat) : Blk (w.drewN n) g t cs := h
theorem Blk.alloc (h : Blk w g t cs) (o : Obj) : Blk (w.alloc o) g t cs := (Below.heap_alloc w o g h.lt).trans h
theorem Blk.set_ (h : Blk w g t cs) (i : Nat) (u : Value) : Blk (w.setCell ⟨g, i, none⟩ u) g t (cs.setIfInBounds i u) := by
  unfold Blk at h ⊢
  simp [World.setCell, Array.getElem?_modify, h]
theorem Blk.far (h : Blk w g t cs) {p : Addr} (hp : g ≠ p.block) (u : Value) : Blk (w.setCell p u) g t cs := (Below.heap_setCell w p u g hp).trans h
theorem Blk.below {B : Nat} (h : Blk w g t cs) (hb : Below B w w') (hg : g < B) : Blk w' g t cs := (hb.block g hg).trans h
theorem Blk.bel (h : Blk w g t cs) (hb : Below w.heap.size w w') : Blk w' g t cs := (hb.block g h.lt).trans h
theorem Blk.row (h : Blk w g t cs) (cs' : Array Value) : Blk (w.setRow g cs') g t cs' := setRow_heap _ _ _ _ _ _ h
theorem Blk.rowFar {g' : Nat} (h : Blk w g t cs) (hg : g ≠ g') (cs' : Array Value) : Blk (w.setRow g' cs') g t cs := (setRow_other _ _ _ _ hg).trans h
end
theorem below_drewN {B : Nat} {a w : World} (h : Below B a w) (n : Nat) : Below B a (w.drewN n) := ⟨h.os, h.tape, h.output, h.size, h.block⟩
theorem below_row {B g : Nat} {a w : World} (h : Below B a w) (hg : B ≤ g) (cs : Array Value) : Below B a (w.setRow g cs) := below_setRow h hg cs
/-! Arrays of integers, by value. -/
def arrN (K : IntKind) (n : Nat) (v : Nat → Int) : Array Value := ((List.range n).map fun j => Value.int K (v j)).toArray
theorem arrN_size (K : IntKind) (n : Nat) (v : Nat → Int) : (arrN K n v).size = n := by simp [arrN]
theorem arrN_get (K : IntKind) {n : Nat} (v : Nat → Int) {j : Nat} (h : j < n) : (arrN K n v)[j]? = some (.int K (v j)) := by simp [arrN, h]
theorem arrN_one (K : IntKind) (n : Nat) (v : Nat → Int) : (arrN K n v).all (·.oneCell') = true := by
  rw [Array.all_eq_true_iff_forall_mem]
  intro x hx
  simp only [arrN, List.mem_toArray, List.mem_map] at hx
  obtain ⟨j, _, rfl⟩ := hx
  rfl
theorem arrN_congr (K : IntKind) {n : Nat} {u v : Nat → Int} (h : ∀ j, j < n → u j = v j) : arrN K n u = arrN K n v := by
  unfold arrN
  congr 1
  exact List.map_congr_left fun j hj => by rw [h j (List.mem_range.1 hj)]
theorem arrN_set (K : IntKind) {n : Nat} (v : Nat → Int) {i : Nat} (x : Int) (_h : i < n) : (arrN K n v).setIfInBounds i (.int K x) = arrN K n (fun j => if j = i then x else v j) := by
  apply Array.ext_getElem?
  intro j
  by_cases hj : j < n
  · rw [arrN_get K _ hj, Array.getElem?_setIfInBounds]
    by_cases hij : i = j
    · subst hij; simp [arrN_size, hj]
    · have hji : ¬ j = i := fun e => hij e.symm
      simp [hij, hji, arrN_get K v hj]
  · rw [Array.getElem?_eq_none (by simp [arrN_size]; omega), Array.getElem?_eq_none (by simp [arrN_size]; omega)]
/-- The cells behind k rounds: place p i holds v i for each i below k, the others 0. -/
def setTo (K : IntKind) (n : Nat) (p : Nat → Nat) (v : Nat → Int) : Nat → Array Value
  | 0 => arrN K n (fun _ => 0)
  | k + 1 => (setTo K n p v k).setIfInBounds (p k) (.int K (v k))
theorem setTo_size (K : IntKind) (n : Nat) (p : Nat → Nat) (v : Nat → Int) (k : Nat) : (setTo K n p v k).size = n := by
  induction k with
  | zero => simp [setTo, arrN]
  | succ k ih => simp [setTo, ih]
theorem setTo_some (K : IntKind) {n : Nat} (p : Nat → Nat) (v : Nat → Int) (k : Nat) {j : Nat} (h : j < n) : ∃ u, (setTo K n p v k)[j]? = some u :=
  ⟨_, Array.getElem?_eq_getElem (by rw [setTo_size]; exact h)⟩
theorem setTo_one (K : IntKind) (n : Nat) (p : Nat → Nat) (v : Nat → Int) (k : Nat) : (setTo K n p v k).all (·.oneCell') = true := by
  induction k with
  | zero => exact arrN_one _ _ _
  | succ k ih =>
    rw [Array.all_eq_true_iff_forall_mem] at ih ⊢
    intro x hx
    rcases Array.mem_or_eq_of_mem_setIfInBounds hx with h | h
    · exact ih x h
    · subst h; rfl
/-- All places filled, q telling which round fills place j. -/
theorem setTo_all (K : IntKind) (n : Nat) (p q : Nat → Nat) (v : Nat → Int) (m : Nat) (hq : ∀ j, j < n → q j < m ∧ p (q j) = j ∧ ∀ i, i < m → p i = j → i = q j) :
    setTo K n p v m = arrN K n (fun j => v (q j)) := by
  have H : ∀ k, k ≤ m → setTo K n p v k = arrN K n (fun j => if q j < k then v (q j) else 0) := by
    intro k
    induction k with
    | zero => intro _; simp [setTo]
    | succ k ih =>
      intro hk
      rw [setTo, ih (by omega)]
      by_cases hp : p k < n
      · rw [arrN_set K _ _ hp]
        refine arrN_congr K fun j hj => ?_
        obtain ⟨h1, h2, h3⟩ := hq j hj
        by_cases hjp : j = p k
        · have hk2 := h3 k (by omega) hjp.symm
          rw [if_pos hjp, if_pos (by omega), ← hk2]
        · have hne : q j ≠ k := fun e => hjp (by rw [← e, h2])
          rw [if_neg hjp]
          by_cases hlt : q j < k
          · rw [if_pos hlt, if_pos (by omega)]
          · rw [if_neg hlt, if_neg (by omega)]
      · have e : (arrN K n fun j => if q j < k then v (q j) else 0).setIfInBounds (p k) (.int K (v k)) = arrN K n fun j => if q j < k then v (q j) else 0 := by
          apply Array.setIfInBounds_eq_of_size_le
          rw [arrN_size]; omega
        rw [e]
        refine arrN_congr K fun j hj => ?_
        obtain ⟨h1, h2, h3⟩ := hq j hj
        have hne : q j ≠ k := fun e => hp (by rw [← e, h2]; exact hj)
        by_cases hlt : q j < k
        · rw [if_pos hlt, if_pos (by omega)]
        · rw [if_neg hlt, if_neg (by omega)]
  rw [H m (Nat.le_refl _)]
  refine arrN_congr K fun j hj => ?_
  rw [if_pos (hq j hj).1]
section
variable {P : Program} (w : World)
theorem eqItems_arr (d : Nat) {e : TypeId} {K : IntKind} (he : P.underlying e = some (.int K)) (hce : P.plainKey e = true) {n : Nat} (u v : Nat → Int) : ∀ (is : List Nat), (∀ i ∈ is, i < n) →
    (Op.eqItems (d + 1) e 1 (arrN K n u) (arrN K n v) is).run P w = .ok (decide (∀ i ∈ is, u i = v i)) w
  | [], _ => by simp [Op.eqItems]
  | i :: is, h => by
    have hi := h i (by simp)
    have p1 := run_part_plain w hce (xs := arrN K n u) (arrN_get K u hi)
    have p2 := run_part_plain w hce (xs := arrN K n v) (arrN_get K v hi)
    have p3 : (Op.equalIn (d + 1) e (.int K (u i)) (.int K (v i))).run P w = .ok (u i == v i) w := by simp [Op.equalIn, run_underlying he]
    have ih := eqItems_arr d he hce u v is (fun j hj => h j (by simp [hj]))
    simp only [Op.eqItems, Nat.mul_one, Sem.run_bind, p1, p2, p3, Result.andThen_ok]
    by_cases heq : u i = v i
    · simp [heq, ih]
    · simp [heq]
/-- '==' of two arrays of integers. -/
theorem run_eql_arr {t e : TypeId} {K : IntKind} {n : Nat} {i : TypeInfo} (ht : P.underlying t = some (.array n e)) (he : P.underlying e = some (.int K)) (hce : P.plainKey e = true) (hi : P.info? e = some i) (h1 : P.cellsOf e = 1) (u v : Nat → Int) :
    (binOp .eql t (.agg (arrN K n u)) (.agg (arrN K n v))).run P w = .ok (.bool (decide (∀ j, j < n → u j = v j))) w := by
  rw [run_eql_struct, run_equalIn_array w 9999 _ _ ht hi, h1, eqItems_arr w 9998 he hce u v _ (fun i hi => List.mem_range.1 hi)]
  simp [List.mem_range]
end
/-- A whole array into the variable that was made last. -/
theorem wpList_store_new {P : Program} {ops : Array Oper} {rest : List Oper} {o : Oper} {a : Act} {w1 : World} {Q : Exit → Act → World → Prop} (hgd : o.guard = none) (ty : TypeId) (x y : Operand) (ho : o.op = .store ty x y) (cells z : Array Value) (t : TypeId)
    (hx : a.eval x = .pointer (some ⟨w1.heap.size, 0, none⟩)) (hy : a.eval y = .agg cells) (hi : (P.info? ty).map (·.size) = some cells.size) (hold : z.size = cells.size) (h1 : cells.all (·.oneCell') = true)
    (h : ∀ w2, w1.heap.size < w2.heap.size → Blk w2 w1.heap.size t cells → Below w1.heap.size w1 w2 → wpList P ops Q rest (a.put o.dst undef) w2) : wpList P ops Q (o :: rest) a (w1.alloc (.cells z t)) :=
  wpList_store_row hgd ty x y ho w1.heap.size cells hx hy t z (Blk.nw rfl) hi hold h1
    (h _ (by simp) ((Blk.new w1 t z).row cells) (below_row ((Below.refl _ _).alloc (Nat.le_refl _) _) (Nat.le_refl _) _))
/-! From a walk to the row. -/
open Go.WideShapes Go.ChangeShapes Go.ChangeAt
section
variable {H : Type} {enc : TypeId × Value → H} {P : Program}
theorem post_of_below {f : Func} {s : ChangeSpec} {apart fresh handsOn again : Bool} {W W' : World} {args : Array Value} {v : Value} {ds gs : List (DataW H)} {before pa pv : List MemPlace}
    (hW : DataW.Whole enc P f.params.toList s.vars apart W args.toList ds gs before)
    (hres : ∀ (b : Nat) (sp : Nat → Bool) (hd : Bool), DataW.TrodAll enc P W' b sp hd f.resultTypes.toList (v.resultList f.resultTypes.size) (s.fn H (ds ++ gs)).results [])
    (hargs : ∀ sp : Nat → Bool, (∀ p ∈ before, sp p.block = true) → DataW.TrodAll enc P W' 0 sp true f.params.toList args.toList (s.fn H (ds ++ gs)).args pa)
    (hvars : ∀ sp : Nat → Bool, (∀ p ∈ before, sp p.block = true) → DataW.TrodVars enc P W' sp s.vars (s.fn H (ds ++ gs)).vars pv)
    (hps : before = pa ++ pv) (hb : Below W.heap.size W W')
    (hok : ∀ (j : Nat) (t : TypeId) (r : Value), f.resultTypes[j]? = some t → (v.resultList f.resultTypes.size)[j]? = some r → Value.okWide P W' .any 0 t r) :
    s.post enc P f apart fresh handsOn again W args v W' := by
  have hlt : ∀ p ∈ before, p.block < W.heap.size := fun p hp => hW.lt p hp
  have hold : ∀ p ∈ before, (fun b => decide (b < W.heap.size)) p.block = true := fun p hp => by simpa using hlt p hp
  refine ⟨ds, gs, before, [], pa, pv, hW, hres _ _ _, hargs _ hold, hvars _ hold, World.keptBut_mono (fun p hp => ⟨hp, ?_⟩) (hb.frame (· ∈ before)), fun _ => ?_⟩
  · rw [hps, List.mem_append] at hp
    exact Or.inr hp
  · obtain ⟨_, _, _, _, _, hz, hn⟩ := hW
    refine ⟨hok, _, _, ([] ++ pa) ++ pv, ⟨[] ++ pa, pv, trodAll_append (hargs _ (fun _ _ => rfl)) (hres _ _ _), hvars _ (fun _ _ => rfl), rfl, ?_, ?_⟩, ?_⟩
    · intro b off hp
      have hin : MemPlace.cell b off ∈ before := by rw [hps]; simpa using hp
      rw [hb.frozen (hlt _ hin)]
      exact hz b off hin
    · intro ha
      have := hn ha
      rw [hps] at this
      simpa using this
    · intro p hp _
      rw [hps]
      simpa using hp
theorem trodAll_stays (hl : laidOutB P = true) {W W' : World} {sp : Nat → Bool} : ∀ (ts : List TypeId) (vs : List Value) (ds : List (DataW H)) (ps : List MemPlace), (∀ t ∈ ts, P.readableRec t = true ∧ t < P.types.size) →
    DataW.TrodAll enc P W 0 (fun _ => true) true ts vs ds ps → (∀ x ∈ ps, W.sameAt W' x) → (∀ x ∈ ps, sp x.block = true) → DataW.TrodAll enc P W' 0 sp true ts vs ds ps
  | [], vs, ds, ps, _, h, _, _ => by
    obtain ⟨rfl, rfl, rfl⟩ := trodAll_nil h
    rfl
  | t :: ts, vs, ds, ps, ht, h, hs, hp => by
    obtain ⟨v, vs', d, ds', p, q, rfl, rfl, rfl, h1, h2⟩ := trodAll_cons h
    obtain ⟨hr, hrow⟩ := ht t (by simp)
    exact ⟨p, q, WideElems.Trod_stays hl hr hrow h1 (fun x hx => hs x (by simp [hx])) (fun x hx => hp x (by simp [hx])),
      trodAll_stays hl ts vs' ds' q (fun t' h' => ht t' (by simp [h'])) h2 (fun x hx => hs x (by simp [hx])) (fun x hx => hp x (by simp [hx])), rfl⟩
/-- The row's last step, at a law: it answered true, and nothing that was there has turned. -/
theorem law_post (hl : laidOutB P = true) {f : Func} {s : ChangeSpec} {tb : TypeId} {apart fresh handsOn again : Bool} {W W' : World} {args : Array Value} {ds gs : List (DataW H)} {before : List MemPlace}
    (hts : ∀ t ∈ f.params.toList, P.readableRec t = true ∧ t < P.types.size) (hrt : f.resultTypes = #[tb]) (hbt : P.underlying tb = some .bool)
    (hW : DataW.Whole enc P f.params.toList s.vars apart W args.toList ds gs before) (hv : s.vars = []) (hfn : s.fn H (ds ++ []) = { results := [.lit (.bool true)], args := ds }) (hb : Below W.heap.size W W') :
    s.post enc P f apart fresh handsOn again W args (.bool true) W' := by
  have hW' := hW
  have hlt : ∀ p ∈ before, p.block < W.heap.size := fun p hp => hW.lt p hp
  obtain ⟨p, q, hA, hV, rfl, hz, hn⟩ := hW
  rw [hv] at hV
  obtain ⟨rfl, rfl⟩ := trodVars_none hV
  have hlt' : ∀ x ∈ p, x.block < W.heap.size := fun x hx => hlt x (by simp [hx])
  have e : (Value.bool true).resultList 1 = [.bool true] := rfl
  refine post_of_below (pa := p) (pv := []) hW' (fun b sp hd => ?_) (fun sp hsp => ?_) (fun sp _ => ?_) rfl hb (ok_one hrt rfl (okWide_bool_mk hbt true))
  · rw [hfn, hrt]
    exact trodAll_mk1 (shut_bool hbt true)
  · rw [hfn]
    exact trodAll_stays hl _ _ _ _ hts hA (fun x hx => hb.same (hlt' x hx)) (fun x hx => hsp x (by simp [hx]))
  · rw [hfn, hv]
    rfl
/-- An array of integers that comes in by value. -/
theorem open_arrN {t e : TypeId} {n : Nat} {K : IntKind} {W : World} {base b0 : Nat} {sp : Nat → Bool} {held : Bool} {r : Reach} {v : Value} {d : DataW H} {ps : List MemPlace} (ht : P.underlying t = some (.array n e)) (he : P.underlying e = some (.int K)) (hce : P.cellsOf e = 1) (hct : P.cellsOf t = n)
    (hv : Value.okWide P W r b0 t v) (h : DataW.Trod enc P W base sp held t v d ps) : ∃ f : Nat → Int, v = .agg (arrN K n f) ∧ ∀ j, j < n → (Lit.int K (f j)).wf = true := by
  simp only [Value.okWide, ht] at hv
  obtain ⟨cs, rfl, hs, _⟩ := hv
  obtain ⟨fuel, hf⟩ := h
  obtain ⟨xs, m, _, _, hl, hxl, hall⟩ := DataW.trod_array ht hf
  have hcl : (Value.agg cs).cells.toList.length = n := by rw [hl, hct]
  have hcs : (Value.agg cs).cells = cs := rfl
  rw [hcs] at hcl hall
  have H1 : ∀ i, i < n → ∃ z, cs[i]? = some (.int K z) ∧ (Lit.int K z).wf = true := by
    intro i hi
    have h1 := hall i hi
    rw [hce, Nat.mul_one] at h1
    have hx : i < xs.length := by omega
    rw [List.getElem?_eq_getElem hx] at h1
    obtain ⟨z, hz, _, hw⟩ := DataW.trod_int he h1
    refine ⟨z, ?_, hw⟩
    have h0 := congrArg (·[0]?) hz
    simpa using h0
  refine ⟨fun i => match cs[i]? with | some (.int _ z) => z | _ => 0, ?_, ?_⟩
  · congr 1
    apply Array.ext_getElem?
    intro j
    by_cases hj : j < n
    · obtain ⟨z, hz, _⟩ := H1 j hj
      rw [arrN_get K _ hj, hz]
    · rw [Array.getElem?_eq_none (by simp at hcl; omega), Array.getElem?_eq_none (by rw [arrN_size]; omega)]
  · intro j hj
    obtain ⟨z, hz, hw⟩ := H1 j hj
    dsimp only
    rw [hz]
    exact hw
end
end Go.Proofs.Ytjfnlgmllhjonaa
