/- mark: all pieces of a file (gen_mke.py). No condition but the laid table. -/
import Derived.Test.YthibnhgbgmpjoaaDoorHMkD
import Derived.Test.YthibnhgbgmpjoaaDoorHOwnC
import Derived.Test.YthibnhgbgmpjoaaDoorHSegT
namespace Go.Proofs.YthibnhgbgmpjoaaDoor
open Go.RowKit
set_option linter.unusedSimpArgs false
set_option linter.unusedVariables false
set_option maxRecDepth 100000
theorem results_tc {P : Program} {fn : Func} {p u : Tmp} {ty : TypeId} (h : fn.results = #[.tmp u, .cell p ty]) (tmps : Array Value) (w : World) (g : Nat) (t : TypeId) (cs : Array Value) (fr : Nat × Nat) (d : TypeDesc)
    (hp : tmps.getD p undef = .pointer (some ⟨g, 0, none⟩)) (hg : w.heap[g]? = some (.cells cs t fr))
    (hu : P.underlying ty = some d) (hd : (match d with | .struct _ | .array _ _ => true | _ => false) = true) (hi : (P.info? ty).map (·.size) = some cs.size) :
    (results fn tmps).run P w = .ok (.tuple #[tmps.getD u undef, .agg cs]) w := by
  have hp' : tmps[p]?.getD undef = .pointer (some ⟨g, 0, none⟩) := by simpa using hp
  simp [results, h, hp', asAddr, run_loadVar_row w g t ty cs fr d hg hu hd hi]
/-- A piece as the program has it. -/
structure Pv where
  at_ : Nat
  T : TypeId
  y : Value
  data : ByteArray
def Pv.v (p : Pv) : Value := .iface p.T p.y
def Pv.cells (p : Pv) : List Value := [.int .i64 p.at_, .iface p.T p.y, .string p.data]
theorem Pv.is : CellsOf Pv.cells 3 := ⟨fun _ => rfl, fun x u hu => by simp only [Pv.cells, List.mem_cons, List.not_mem_nil, or_false] at hu; rcases hu with rfl | rfl | rfl <;> rfl⟩
/-- The program's pieces are these. -/
def PcV (w : World) (base : Nat) (l : List Pv) (m : List Pc) : Prop := l.length = m.length ∧ ∀ i (hi : i < l.length) (hj : i < m.length), l[i].at_ = m[i].at_ ∧ l[i].data = m[i].data ∧ SgV w base l[i].v m[i].x
theorem PcV.nil (w : World) (base : Nat) : PcV w base [] [] := ⟨rfl, fun i hi => absurd hi (Nat.not_lt_zero i)⟩
theorem PcV.snoc {w : World} {base : Nat} {l : List Pv} {m : List Pc} (h : PcV w base l m) {p : Pv} {q : Pc} (h1 : p.at_ = q.at_) (h2 : p.data = q.data) (h3 : SgV w base p.v q.x) : PcV w base (l ++ [p]) (m ++ [q]) := by
  refine ⟨by simp [h.1], fun i hi hj => ?_⟩
  by_cases e : i < l.length
  · rw [List.getElem_append_left e, List.getElem_append_left (by rw [← h.1]; exact e)]
    exact h.2 i e _
  · have : i = l.length := by simp at hi; omega
    subst this
    have e2 : (l ++ [p])[l.length]'hi = p := List.getElem_concat_length rfl _
    have e3 : (m ++ [q])[l.length]'hj = q := List.getElem_concat_length h.1 _
    rw [e2, e3]
    exact ⟨h1, h2, h3⟩
theorem PcV.keep {w w' : World} {base : Nat} {l : List Pv} {m : List Pc} (h : PcV w base l m) (hk : ∀ e, e = 136 ∨ e = 140 ∨ e = 150 ∨ e = 146 → ∀ g cs, Blk w g e cs → Blk w' g e cs) : PcV w' base l m :=
  ⟨h.1, fun i hi hj => ⟨(h.2 i hi hj).1, (h.2 i hi hj).2.1, (h.2 i hi hj).2.2.keep hk⟩⟩
theorem PcV.bel {w w' : World} {base : Nat} {l : List Pv} {m : List Pc} (h : PcV w base l m) (hb : Below w.heap.size w w') : PcV w' base l m := h.keep fun _ _ _ _ hB => hB.bel hb
theorem PcV.keepT {w w' : World} {base : Nat} {l : List Pv} {m : List Pc} {e : TypeId} (h : PcV w base l m) (hk : KeepT e w w') (h1 : e ≠ 136) (h2 : e ≠ 140) (h3 : e ≠ 150) (h4 : e ≠ 146) : PcV w' base l m :=
  h.keep fun e' he g cs hB => hk g _ _ (by rcases he with rfl | rfl | rfl | rfl; exact h1.symm; exact h2.symm; exact h3.symm; exact h4.symm) hB
theorem SgV.keepT {w w' : World} {base : Nat} {v : Value} {x : Sg} {e : TypeId} (h : SgV w base v x) (hk : KeepT e w w') (h1 : e ≠ 136) (h2 : e ≠ 140) (h3 : e ≠ 150) (h4 : e ≠ 146) : SgV w' base v x :=
  h.keep fun e' he g cs hB => hk g _ _ (by rcases he with rfl | rfl | rfl | rfl; exact h1.symm; exact h2.symm; exact h3.symm; exact h4.symm) hB
theorem SgV.form {w : World} {base : Nat} {v : Value} {x : Sg} (h : SgV w base v x) : ∃ T y, v = .iface T y := by
  cases x with
  | plain c b => exact ⟨_, _, h⟩
  | quants l => obtain ⟨u, h, _⟩ := h; exact ⟨_, _, h⟩
  | huffs l => obtain ⟨u, h, _⟩ := h; exact ⟨_, _, h⟩
  | frame c hh ww l => obtain ⟨u, h, _⟩ := h; exact ⟨_, _, h⟩
  | scan l a b hi lo => obtain ⟨u, h, _⟩ := h; exact ⟨_, _, h⟩
  | rst n => exact ⟨_, _, h⟩
/-- Is it a scan, as the program asks. -/
theorem SgV.asScan {w : World} {base : Nat} {v : Value} {c : Int} {s : ByteArray} (he : prE c s = 0) (h : SgV w base v (prG c s)) : ∃ ys : Array Value, ys.size = 5 ∧ ys.all (·.oneCell') = true ∧ ∀ W, (Instr.typeAssert v 46 105 true).run Tryd.prog W = .ok (.tuple #[.agg ys, .bool (decide (c = 218))]) W := by
  have H0 : (#[.slice none 0 0, .int .i64 0, .int .i64 0, .int .i64 0, .int .i64 0] : Array Value).all (·.oneCell') = true := by simp [Value.oneCell']
  rcases prG_cases he with ⟨h1, l, hG⟩ | ⟨h1, l, hG⟩ | ⟨h1, l, a, b, hi, lo, hG⟩ | ⟨h1, n, hG⟩ | ⟨h0, h1, hh, ww, l, hG⟩ | ⟨h1, h0, hG⟩
  · rw [hG] at h; obtain ⟨u, rfl, _⟩ := h
    exact ⟨_, rfl, H0, fun W => by rw [decide_eq_false (by omega)]; exact asQuants_Scan _ W⟩
  · rw [hG] at h; obtain ⟨u, rfl, _⟩ := h
    exact ⟨_, rfl, H0, fun W => by rw [decide_eq_false (by omega)]; exact asHuffs_Scan _ W⟩
  · rw [hG] at h; obtain ⟨u, rfl, hO⟩ := h
    obtain ⟨A, n, cp, rfl⟩ := hO.form2
    exact ⟨#[.slice A n cp, .int .i64 a, .int .i64 b, .int .i64 hi, .int .i64 lo], rfl, by simp [Value.oneCell'], fun W => by rw [decide_eq_true h1]; exact asScan_Scan _ W⟩
  · rw [hG] at h; obtain rfl := h
    exact ⟨_, rfl, H0, fun W => by rw [decide_eq_false (by omega)]; exact asRestart_Scan _ W⟩
  · rw [hG] at h; obtain ⟨u, rfl, _⟩ := h
    exact ⟨_, rfl, H0, fun W => by rw [decide_eq_false (by omega)]; exact asFrame_Scan _ W⟩
  · rw [hG] at h; obtain rfl := h
    exact ⟨_, rfl, H0, fun W => by rw [decide_eq_false (by omega)]; exact asPlain_Scan _ W⟩
/-- What marker answers: its code, the place behind it, its fault. -/
def mkC (s : ByteArray) (a : Nat) : Int × Int × Nat × Int :=
  if s.size ≤ ffEnd s a then (0, 0, s.size, 2)
  else if ffEnd s a = a ∨ bAt s (ffEnd s a) = 0 ∨ (208 ≤ bAt s (ffEnd s a) ∧ bAt s (ffEnd s a) ≤ 216) then (0, 0, a, 3)
  else (bAt s (ffEnd s a), ((ffEnd s a + 1 : Nat) : Int), 0, 0)
theorem mkV_eq (s : ByteArray) (a : Nat) : mkV s a = .tuple #[.int .i64 (mkC s a).1, .int .i64 (mkC s a).2.1, .agg #[.int .i64 (mkC s a).2.2.1, .int .i64 (mkC s a).2.2.2]] := by
  unfold mkV mkC; (repeat' split) <;> rfl
theorem mkC_bad {s : ByteArray} {a : Nat} (h : (mkC s a).2.2.2 ≠ 0) : stepP s a = .bad (mkC s a).2.2.1 (mkC s a).2.2.2 := by
  unfold mkC stepP at *
  (repeat' split) <;> simp_all
theorem mkC_ok {s : ByteArray} {a : Nat} (h : (mkC s a).2.2.2 = 0) : ∃ b : Nat, b = ffEnd s a + 1 ∧ mkC s a = (bAt s (ffEnd s a), (b : Int), 0, 0) ∧ b ≤ s.size ∧ 0 ≤ bAt s (ffEnd s a) ∧ stepP s a = if bAt s (ffEnd s a) = 217 then (if b < s.size then .bad b 4 else .fin) else segP s (bAt s (ffEnd s a)) a b := by
  unfold mkC at h ⊢
  split at h
  · cases h
  · rename_i h1
    split at h
    · cases h
    · rename_i h2
      refine ⟨_, rfl, by rw [if_neg h1, if_neg h2], by omega, by rw [bAt_in (by omega)]; omega, ?_⟩
      unfold stepP
      rw [if_neg h1, if_neg h2]
/-- What a round of split stands on. -/
structure SpI (w : World) (v : Value) (l : List Pv) (m : List Pc) (wr : World) : Prop where
  f : Blk wr w.heap.size 60 #[.int .i64 0, .int .i64 0]
  ow : OwnC Pv.cells 3 wr w.heap.size 48 v l
  pc : PcV wr w.heap.size l m
  be : Below w.heap.size w wr
theorem SpI.bel {w wr w' : World} {v : Value} {l : List Pv} {m : List Pc} (H : SpI w v l m wr) (hb : Below wr.heap.size wr w') : SpI w v l m w' := ⟨H.f.bel hb, H.ow.bel hb, H.pc.bel hb, H.be.trans (hb.mono H.be.size)⟩
theorem SpI.far {w wr w' : World} {v : Value} {l : List Pv} {m : List Pc} {g : Nat} {old : Array Value} (H : SpI w v l m wr) (hg : Blk wr g 60 old) (hne : w.heap.size < g) (h2 : ∀ g' t cs, g' ≠ g → Blk wr g' t cs → Blk w' g' t cs) (h3 : ∀ B w0, B ≤ g → Below B w0 wr → Below B w0 w') : SpI w v l m w' :=
  ⟨h2 _ _ _ (by omega) H.f, H.ow.keep fun g' cs hB => h2 g' _ _ (fun hgg => by subst hgg; have hh := hB.symm.trans hg; injection hh with hh; injection hh with _ hh; exact absurd hh (by decide)) hB,
   H.pc.keep fun e he g' cs hB => h2 g' _ _ (fun hgg => by subst hgg; have hh := hB.symm.trans hg; injection hh with hh; injection hh with _ hh; rcases he with rfl | rfl | rfl | rfl <;> exact absurd hh (by decide)) hB, h3 _ _ (by omega) H.be⟩
theorem SpI.set {w wr : World} {v : Value} {l : List Pv} {m : List Pc} {g i : Nat} {old : Array Value} (H : SpI w v l m wr) (hne : w.heap.size < g) (hn : v.ownBlock ≠ some g) (hg : Blk wr g 48 old) (u : Value) : SpI w v l m (wr.setCell ⟨g, i, none⟩ u) :=
  ⟨H.f.far (p := ⟨g, i, none⟩) (by show w.heap.size ≠ g; omega) u, H.ow.set hn u, H.pc.keep fun e he g' cs hB => hB.far (p := ⟨g, i, none⟩) (fun hgg => by have hgg : g' = g := hgg; subst hgg; have hh := hB.symm.trans hg; injection hh with hh; injection hh with _ hh; rcases he with rfl | rfl | rfl | rfl <;> exact absurd hh (by decide)) u, H.be.setCell (by show w.heap.size ≤ g; omega) u⟩
theorem pc_built (x : Int) (T : TypeId) (y : Value) : Tryd.prog.built 48 [(0, .int .i64 x), (1, .iface T y)] = some #[.int .i64 x, .iface T y, .string ⟨#[]⟩] := by kernel_rfl
/-- append of one; every block but the slice's own stands. -/
theorem appC2 {α : Type} {c : α → List Value} {q : Nat} {w : World} {base : Nat} {e : TypeId} {v : Value} {l : List α} {by_ : Nat} {sl : TypeId} {cs : Array Value} {ops : Array Oper} {rest : List Oper} {o : Oper} {a : Act} {Q : Exit → Act → World → Prop} (x : α) (hC : CellsOf c q)
    (hsl : Tryd.prog.underlying sl = some (.slice e)) (hinf : (Tryd.prog.info? e).map (fun i => (i.zero.map fun z => z.cells.size, i.size, i.bytes)) = some (some q, q, by_)) (hq : 0 < q) (hby : by_ ≤ 1000)
    (hgd : o.guard = none) (s y : Operand) (ho : o.op = .call { callee := .builtin .append, args := #[s, y], argTypes := #[sl, sl] }) (hs : a.eval s = v) (hy : a.eval y = .slice (some ⟨w.heap.size, 0, none⟩) 1 1)
    (hcs : cs.toList = c x) (hown : OwnC c q w base e v l) (hlen : l.length < 1000000000) (hbase : base ≤ w.heap.size)
    (h : ∀ v' w', OwnC c q w' base e v' (l ++ [x]) → KeepT e w w' → (∀ g t cs, v.ownBlock ≠ some g → Blk w g t cs → Blk w' g t cs) → Below base w w' → wpList Tryd.prog ops Q rest (a.put o.dst v') w') :
    wpList Tryd.prog ops Q (o :: rest) a (w.alloc (.cells cs e)) := by
  have hcz : cs.size = q := by rw [← Array.length_toList, hcs, hC.len]
  obtain ⟨i, hi⟩ := Option.isSome_iff_exists.1 (show (Tryd.prog.info? e).isSome = true by cases hq' : Tryd.prog.info? e with | none => rw [hq'] at hinf; cases hinf | some _ => rfl)
  rw [hi] at hinf
  simp only [Option.map_some, Option.some.injEq, Prod.mk.injEq] at hinf
  obtain ⟨hz, hsz, hb⟩ := hinf
  obtain ⟨z, hz, hzs⟩ := Option.map_eq_some_iff.1 hz
  refine wpList_append_own (w.alloc (.cells cs e)) hgd s y sl ho base e i z q by_ hsl hi hz hsz hb hzs hq v l.length (flatC c l) hs (World.ownsRow.alloc hown _) ⟨w.heap.size, 0, none⟩ 1 1 cs.toList hy ?_ ?_ (by rw [hcs]; exact hC.one x) ?_ ?_ ?_ ?_
  · simp [hcz]
  · intro j u hj
    have hadd : (⟨w.heap.size, 0, none⟩ : Addr).add j = ⟨w.heap.size, j, none⟩ := by unfold Addr.add; split <;> simp_all
    rw [hadd, (Blk.new w e cs).cell j]
    simpa using hj
  · simp only [maxLen]; omega
  · have : (l.length + 1) * by_ ≤ 1000000001 * 1000 := Nat.mul_le_mul (by omega) hby
    omega
  · exact Nat.le_trans hbase (by simp)
  · intro v' w' hown' hg _
    have hg2 : w.grownBy w' v.ownBlock := (World.grownBy_alloc w _ v.ownBlock).trans hg
    refine h v' w' ?_ (KeepT.of_own hown hg2) (fun g t cs hne hB => (hg2.block g hB.lt (fun e => hne (by rw [e]))).trans hB) ((Below.refl base w).grown hg2 hbase (fun k hk => (World.ownsRow.lt hown k hk).1))
    unfold OwnC
    rw [flatC_snoc, List.length_append, ← hcs]
    exact hown'
def SplitPost (w : World) (R : List Pc × Nat × Int) (e : Ending) (w' : World) : Prop :=
  ∃ v l, e = .returned (.tuple #[v, .agg #[.int .i64 R.2.1, .int .i64 R.2.2]]) ∧ OwnC Pv.cells 3 w' w.heap.size 48 v l ∧ PcV w' w.heap.size l R.1 ∧ Below w.heap.size w w'
set_option maxHeartbeats 4000000 in
theorem split_walk (s : ByteArray) (hs : s.size ≤ 16777216) (hs2 : 2 ≤ s.size) (w : World) (hL : Laid w) :
    Calls Tryd.prog 17 #[.string s] w (SplitPost w (spL s (s.size + 1) 2 [])) := by
  obtain ⟨R, hR⟩ : ∃ R, R = spL s (s.size + 1) 2 [] := ⟨_, rfl⟩
  rw [← hR]
  have HL := Lib.hid hL; clear hL
  have HI0 : Hid (SpI w (.slice none 0 0) [] [] (w.alloc (.cells #[.int .i64 0, .int .i64 0] 60))) := Lib.hid ⟨Blk.new _ _ _, OwnC.nil _ _ _, PcV.nil _ _, (Below.refl _ _).alloc (Nat.le_refl _) _⟩
  have HSEG := Lib.hid (fun (c : Int) (a b : Nat) (hb : b ≤ s.size) (W : World) (hL : Laid W) => segment_walk s c a b hs hb W hL)
  have HDAT := Lib.hid (fun (a : Nat) (ha : a ≤ s.size) (W : World) => data_walk s a hs ha W)
  go_enter Tryd.func17, Tryd.ntmps17
  go_wp2_with fail
  go_loopw [4, 5] (fun v i wr => ∃ (a f : Nat) (vv : Value) (l : List Pv) (m : List Pc), a ≤ s.size ∧ v = vv ∧ i = .int .i64 a ∧ Hid (SpI w vv l m wr) ∧ Hid (R = spL s f a m ∧ s.size + 1 - a ≤ f ∧ l.length + 2 ≤ a)) (fun _ i _ => s.size - (intOf i).toNat)
  case atStart => exact ⟨2, s.size + 1, _, [], [], hs2, rfl, rfl, HI0, Lib.hid ⟨hR, by omega, by simp⟩⟩
  case round =>
    clear HI0 hR
    obtain ⟨a, f, vv, l, m, ha, hvv0, rfl, HI, HRR⟩ := hrel
    obtain rfl := hvv0.symm
    obtain ⟨g, hg⟩ : ∃ g, f = g + 1 := ⟨f - 1, by have := HRR.out.2.1; omega⟩
    have hR1 : R = match stepP s a with | .bad b e => ([], b, e) | .fin => (m, 0, 0) | .next p a' => spL s g a' (m ++ [p]) := by have := HRR.out.1; rw [hg, spL] at this; exact this
    have HF : Hid (s.size + 1 - a ≤ g + 1 ∧ l.length + 2 ≤ a) := Lib.hid ⟨by have := HRR.out.2.1; omega, HRR.out.2.2⟩
    clear HRR hg
    have hm0 := marker_walk s a hs ha
    rw [mkV_eq] at hm0
    by_cases hz : (mkC s a).2.2.2 = 0
    case neg =>
      rw [mkC_bad hz] at hR1
      obtain ⟨K, hK⟩ : ∃ K, K = mkC s a := ⟨_, rfl⟩
      rw [← hK] at hm0 hz hR1
      clear hK
      obtain ⟨c1, c2, c3, c4⟩ := K
      dsimp only at hm0 hz hR1
      have d4 : (c4 == 0) = false := by simpa using hz
      have d5 : (c4 != 0) = true := by simpa using hz
      have HM := Lib.hid hm0; have HR := Lib.hid hR1
      clear hm0 hR1 hz
      go_upto_block 2 with (go_at_call 37; refine (HM.out _).mono ?_; rintro ex w2 ⟨rfl, hb2⟩; have HB2 := Lib.hid hb2; clear hb2)
      have HG : Hid (Blk (w2.alloc (.cells #[.int .i64 c3, .int .i64 c4] 60)) w2.heap.size 60 #[.int .i64 c3, .int .i64 c4]) := Lib.hid (Blk.new _ _ _)
      have HJ : Hid (SpI w vv l m (w2.alloc (.cells #[.int .i64 c3, .int .i64 c4] 60))) := Lib.hid ((HI.out.bel HB2.out).bel ((Below.refl _ _).alloc (Nat.le_refl _) _))
      obtain ⟨w3, hw3⟩ : ∃ w3, w3 = w2.alloc (.cells #[.int .i64 c3, .int .i64 c4] 60) := ⟨_, rfl⟩
      rw [← hw3] at HG HJ ⊢
      clear hw3
      have q1 := HG.out.cell 1
      go_upto_region 5 with fail
      clear q1
      refine region_plan (.run [0, 1] (.ev 2 .fin)) (fun w' => True) (by kernel_rfl) trivial ?_
      intro wd hwd
      have HG5 := Lib.hid (Blk.drewE HG.out hwd)
      have HJ5 := Lib.hid (HJ.out.bel (hwd ▸ (Below.refl _ _).drew))
      have q5 := HG5.out.cell 0
      have q6 := HG5.out.cell 1
      clear hwd
      refine plan_run fun m hm => ?_
      simp only [pickO, List.filterMap_cons, List.filterMap_nil, List.getElem?_toArray, List.getElem?_cons_zero, List.getElem?_cons_succ] at hm
      subst hm
      go_wp2_with fail
      refine ⟨rfl, by rfl, ?_⟩
      refine plan_ev fun m hm => ?_
      simp only [pickO, List.filterMap_cons, List.filterMap_nil, List.getElem?_toArray, List.getElem?_cons_zero, List.getElem?_cons_succ] at hm
      subst hm
      clear q5 q6
      refine wpList_store_far rfl 60 (.tmp 3) _ rfl w.heap.size #[.int .i64 c3, .int .i64 c4] #[.int .i64 0, .int .i64 0] 60 rfl rfl HJ5.out.f (by kernel_rfl) rfl (by simp [Value.oneCell']) ?_; intro wzq hz1 hz2 hz3 hz4 hz5; have HZ1q := Lib.hid hz1; have HZ2q := Lib.hid hz2; have HZ3q := Lib.hid hz3; clear hz1 hz2 hz3 hz4 hz5
      refine ⟨rfl, trivial, ?_⟩
      try simp only [Act.put, List.setIfInBounds_toArray, List.set_cons_zero, List.set_cons_succ]
      refine plan_fin ?_
      go_wp2_with fail
      exact bodyPost_ret (results_tc rfl _ _ w.heap.size 60 _ (0, 0) _ rfl HZ1q.out Tryd.underlying60 rfl (by kernel_rfl)) rfl ⟨_, [], by rw [HR.out]; rfl, OwnC.nil _ _ _, by rw [HR.out]; exact PcV.nil _ _, HZ3q.out _ _ (Nat.le_refl _) HJ5.out.be⟩
    case pos =>
    obtain ⟨b, hb1, hmk, hb, hc0, hst⟩ := mkC_ok hz
    rw [hst] at hR1
    rw [hmk] at hm0
    obtain ⟨c, hc⟩ : ∃ c, c = bAt s (ffEnd s a) := ⟨_, rfl⟩
    rw [← hc] at hR1 hm0 hc0
    dsimp only at hm0
    have HM := Lib.hid hm0
    have hab : a + 1 ≤ b := by have := (ffEnd_is s a).le; omega
    clear hst hmk hb1 hz hm0 hc
    by_cases h217 : c = 217
    case pos =>
      obtain rfl := h217
      rw [if_pos rfl] at hR1
      by_cases hbs : b < s.size
      case pos =>
        rw [if_pos hbs] at hR1
        have HR := Lib.hid hR1
        clear hR1
        go_wp2_with (first | (go_at_call 37; refine (HM.out _).mono ?_; rintro ex w2 ⟨rfl, hb2⟩; have HB2 := Lib.hid hb2; have HJ : Hid (SpI w vv l m (w2.alloc (.cells #[.int .i64 0, .int .i64 0] 60))) := Lib.hid ((HI.out.bel hb2).bel ((Below.refl _ _).alloc (Nat.le_refl _) _)); clear hb2) | (refine wpList_store_far rfl 60 (.tmp 3) _ rfl w.heap.size #[.int .i64 b, .int .i64 4] #[.int .i64 0, .int .i64 0] 60 rfl rfl HJ.out.f (by kernel_rfl) rfl (by simp [Value.oneCell']) ?_; intro wzq hz1 hz2 hz3 hz4 hz5; have HZ1q := Lib.hid hz1; have HZ2q := Lib.hid hz2; have HZ3q := Lib.hid hz3; clear hz1 hz2 hz3 hz4 hz5))
        exact bodyPost_ret (results_tc rfl _ _ w.heap.size 60 _ (0, 0) _ rfl HZ1q.out Tryd.underlying60 rfl (by kernel_rfl)) rfl ⟨_, [], by rw [HR.out]; rfl, OwnC.nil _ _ _, by rw [HR.out]; exact PcV.nil _ _, HZ3q.out _ _ (Nat.le_refl _) HJ.out.be⟩
      case neg =>
        rw [if_neg hbs] at hR1
        have HR := Lib.hid hR1
        clear hR1
        go_wp2_with (first | (go_at_call 37; refine (HM.out _).mono ?_; rintro ex w2 ⟨rfl, hb2⟩; have HB2 := Lib.hid hb2; have HJ : Hid (SpI w vv l m (w2.alloc (.cells #[.int .i64 0, .int .i64 0] 60))) := Lib.hid ((HI.out.bel hb2).bel ((Below.refl _ _).alloc (Nat.le_refl _) _)); clear hb2) | (refine wpList_store_far rfl 60 (.tmp 3) _ rfl w.heap.size #[.int .i64 0, .int .i64 0] #[.int .i64 0, .int .i64 0] 60 rfl rfl HJ.out.f (by kernel_rfl) rfl (by simp [Value.oneCell']) ?_; intro wzq hz1 hz2 hz3 hz4 hz5; have HZ1q := Lib.hid hz1; have HZ2q := Lib.hid hz2; have HZ3q := Lib.hid hz3; clear hz1 hz2 hz3 hz4 hz5))
        exact bodyPost_ret (results_tc rfl _ _ w.heap.size 60 _ (0, 0) _ rfl HZ1q.out Tryd.underlying60 rfl (by kernel_rfl)) rfl ⟨_, l, by rw [HR.out]; rfl, HJ.out.ow.keep fun g' cs hB => HZ2q.out g' _ _ (fun hgg => by subst hgg; have hh := hB.symm.trans HJ.out.f; injection hh with hh; injection hh with _ hh; exact absurd hh (by decide)) hB, by rw [HR.out]; exact HJ.out.pc.keep fun e he g' cs hB => HZ2q.out g' _ _ (fun hgg => by subst hgg; have hh := hB.symm.trans HJ.out.f; injection hh with hh; injection hh with _ hh; rcases he with rfl | rfl | rfl | rfl <;> exact absurd hh (by decide)) hB, HZ3q.out _ _ (Nat.le_refl _) HJ.out.be⟩
    case neg =>
    rw [if_neg h217] at hR1
    have d217 : (c == 217) = false := by simpa using h217
    obtain ⟨E, hE⟩ : ∃ E, E = segE s c a b := ⟨_, rfl⟩
    have hSG := fun W hL => HSEG.out c a b hb W hL
    unfold SegPost at hSG
    rw [← hE] at hSG
    have HSG := Lib.hid hSG
    have HEE := Lib.hid hE
    clear hSG
    obtain ⟨X, hX⟩ : ∃ X : Int, X = if E.2 = 0 then (b : Int) + pAt s b else 0 := ⟨_, rfl⟩
    rw [← hX] at HSG
    obtain ⟨E1, E2⟩ := E
    dsimp only at HSG hX
    have HX := Lib.hid hX
    clear hX
    go_upto_region 10 with (go_at_call 37; refine (HM.out _).mono ?_; rintro ex w2 ⟨rfl, hb2⟩; have HB2 := Lib.hid hb2; clear hb2)
    have HG : Hid (Blk (w2.alloc (.cells #[.int .i64 0, .int .i64 0] 60)) w2.heap.size 60 #[.int .i64 0, .int .i64 0]) := Lib.hid (Blk.new _ _ _)
    have HJ : Hid (SpI w vv l m (w2.alloc (.cells #[.int .i64 0, .int .i64 0] 60))) := Lib.hid ((HI.out.bel HB2.out).bel ((Below.refl _ _).alloc (Nat.le_refl _) _))
    have HG2 : Hid (w.heap.size < w2.heap.size) := Lib.hid (Nat.lt_of_lt_of_le HI.out.f.lt HB2.out.size)
    obtain ⟨w3, hw3⟩ : ∃ w3, w3 = w2.alloc (.cells #[.int .i64 0, .int .i64 0] 60) := ⟨_, rfl⟩
    rw [← hw3] at HG HJ ⊢
    have HG3 : Hid (w2.heap.size < w3.heap.size) := Lib.hid HG.out.lt
    clear hw3 hE
    go_upto_region 11 with (first | (go_at_call 38; refine (HSG.out _ (HL.out.below HJ.out.be)).mono ?_; rintro ex w4 ⟨v, rfl, hv4, hb4⟩; have HV4 := Lib.hid hv4; have HG4 := Lib.hid (HG.out.bel hb4); have HJ4 := Lib.hid (HJ.out.bel hb4); have HB4 := Lib.hid hb4; clear hv4 hb4) | (refine wpList_store_far rfl 60 (.tmp 8) _ rfl w2.heap.size #[.int .i64 E1, .int .i64 E2] #[.int .i64 0, .int .i64 0] 60 rfl rfl HG4.out (by kernel_rfl) rfl (by simp [Value.oneCell']) ?_; intro wzr hz1 hz2 hz3 hz4 hz5; have HZ1r := Lib.hid hz1; have HZ2r := Lib.hid hz2; have HZ3r := Lib.hid hz3; clear hz1 hz2 hz3 hz4 hz5))
    obtain ⟨w5, rfl⟩ : ∃ w5 : World, w5 = wzr := ⟨_, rfl⟩
    have HJ5 : Hid (SpI w vv l m w5) := Lib.hid (HJ4.out.far HG4.out (by have := HG2.out; omega) HZ2r.out HZ3r.out)
    have HG5 := HZ1r
    by_cases hE2 : E2 = 0
    case neg =>
      have hbad := segE_no (s := s) (c := c) (a := a) (b := b) (by rw [← HEE.out]; exact hE2)
      rw [← HEE.out] at hbad
      dsimp only at hbad
      rw [hbad] at hR1
      have d4 : (E2 == 0) = false := by simpa using hE2
      have d5 : (E2 != 0) = true := by simpa using hE2
      have HR := Lib.hid hR1
      have HG := HG5; have HJ := HJ5
      have q1 := HG5.out.cell 1
      clear hR1 hbad hE2 HZ1r HZ2r HZ3r HV4 HG4 HJ4 HG5 HJ5
      go_upto_region 12 with fail
      clear q1
      refine region_plan (.run [0, 1] (.ev 2 .fin)) (fun w' => True) (by kernel_rfl) trivial ?_
      intro wd hwd
      have HG5 := Lib.hid (Blk.drewE HG.out hwd)
      have HJ5 := Lib.hid (HJ.out.bel (hwd ▸ (Below.refl _ _).drew))
      have q5 := HG5.out.cell 0
      have q6 := HG5.out.cell 1
      clear hwd
      refine plan_run fun m hm => ?_
      simp only [pickO, List.filterMap_cons, List.filterMap_nil, List.getElem?_toArray, List.getElem?_cons_zero, List.getElem?_cons_succ] at hm
      subst hm
      go_wp2_with fail
      refine ⟨rfl, by rfl, ?_⟩
      refine plan_ev fun m hm => ?_
      simp only [pickO, List.filterMap_cons, List.filterMap_nil, List.getElem?_toArray, List.getElem?_cons_zero, List.getElem?_cons_succ] at hm
      subst hm
      clear q5 q6
      refine wpList_store_far rfl 60 (.tmp 3) _ rfl w.heap.size #[.int .i64 E1, .int .i64 E2] #[.int .i64 0, .int .i64 0] 60 rfl rfl HJ5.out.f (by kernel_rfl) rfl (by simp [Value.oneCell']) ?_; intro wzq hz1 hz2 hz3 hz4 hz5; have HZ1q := Lib.hid hz1; have HZ2q := Lib.hid hz2; have HZ3q := Lib.hid hz3; clear hz1 hz2 hz3 hz4 hz5
      refine ⟨rfl, trivial, ?_⟩
      try simp only [Act.put, List.setIfInBounds_toArray, List.set_cons_zero, List.set_cons_succ]
      refine plan_fin ?_
      go_wp2_with fail
      exact bodyPost_ret (results_tc rfl _ _ w.heap.size 60 _ (0, 0) _ rfl HZ1q.out Tryd.underlying60 rfl (by kernel_rfl)) rfl ⟨_, [], by rw [HR.out]; rfl, OwnC.nil _ _ _, by rw [HR.out]; exact PcV.nil _ _, HZ3q.out _ _ (Nat.le_refl _) HJ5.out.be⟩
    case pos =>
    obtain rfl := hE2
    obtain ⟨hEE, hb2, hp2, hbn, hpr⟩ := segE_ok (s := s) (c := c) (a := a) (b := b) (by rw [← HEE.out])
    obtain ⟨n, hn⟩ : ∃ n, n = (pAt s b).toNat := ⟨_, rfl⟩
    have hX2 : X = ((b + n : Nat) : Int) := by rw [HX.out]; simp; omega
    obtain ⟨nx, hnx⟩ : ∃ nx, nx = b + n := ⟨_, rfl⟩
    rw [← hn] at hbn hpr
    obtain ⟨body, hbody⟩ : ∃ y, y = s.extract (b + 2) (b + n) := ⟨_, rfl⟩
    have hseg : segP s c a b = .next ⟨a, prG c body, body, if c = 218 then s.extract nx (dEnd s nx) else ⟨#[]⟩⟩ (if c = 218 then dEnd s nx else nx) := by
      unfold segP
      rw [if_neg (by omega), if_neg (by omega), ← hn, if_neg (by omega), ← hbody, if_neg (by rw [hbody]; simpa using hpr), ← hnx]
    rw [hseg] at hR1
    dsimp only at hR1
    rw [← hbody] at hpr
    have hv5 : SgV w4 w3.heap.size v (prG c body) := by have := HV4.out (by first | rfl | trivial); rw [← hn, ← hbody] at this; exact this
    obtain ⟨ys, hy5, hy1, hta⟩ := hv5.asScan hpr
    obtain ⟨T, y, rfl⟩ := hv5.form
    have hv6 : SgV w5 w.heap.size (.iface T y) (prG c body) := (hv5.mono HJ.out.be.size).keep fun e he g' cs hB => HZ2r.out g' _ _ (fun hgg => by subst hgg; have hh := hB.symm.trans HG4.out; injection hh with hh; injection hh with _ hh; rcases he with rfl | rfl | rfl | rfl <;> exact absurd hh (by decide)) hB
    obtain ⟨G, hG⟩ : ∃ G, G = prG c body := ⟨_, rfl⟩
    rw [← hG] at hv6 hR1
    have hnxs : nx ≤ s.size := by omega
    have hanx : a + 1 ≤ nx := by omega
    rw [hX2, ← hnx] at *
    have HV := Lib.hid hv6; have HY5 := Lib.hid hy5; have HY1 := Lib.hid hy1; have HR1 := Lib.hid hR1
    have HBT : Hid (Tryd.prog.built 48 [(0, .int .i64 (a : Int)), (1, .iface T y)] = some #[.int .i64 (a : Int), .iface T y, .string ⟨#[]⟩]) := Lib.hid (pc_built _ _ _)
    have q1 := HG5.out.cell 1
    obtain ⟨bb, hbb⟩ : ∃ bb, bb = decide (c = 218) := ⟨_, rfl⟩
    rw [← hbb] at hta
    have HBBb := Lib.hid hbb
    clear hbb
    clear hv6 hy5 hy1 hR1 hv5 hseg hG hn hnx hbody hEE hb2 hp2 hbn hpr HX hX2 HSG HEE HV4 HG4 HJ4 HZ1r HZ2r HZ3r
    go_upto_region 15 with (first | (refine wpList_build2 rfl 48 (.tmp 55) (.tmp 56) _ _ rfl rfl rfl HBT.out ?_) | (refine wpList_store_far rfl 105 (.tmp 12) _ rfl (w5.heap.size + 1) ys #[.slice none 0 0, .int .i64 0, .int .i64 0, .int .i64 0, .int .i64 0] 105 rfl rfl (Blk.nw (by rw [World.size_alloc])) (by rw [HY5.out]; kernel_rfl) (by rw [HY5.out]; rfl) HY1.out ?_; intro w7 hs7 hB7 hb7 hs8 hs9; have HK7 := Lib.hid hB7; have HF7 := Lib.hid hb7; clear hs7 hB7 hb7 hs8 hs9))
    clear q1 hta
    have HP7 : Hid (Blk w7 w5.heap.size 48 #[.int .i64 (a : Int), .iface T y, .string ⟨#[]⟩]) := Lib.hid (HK7.out _ _ _ (by omega) ((Blk.new w5 _ _).alloc _))
    have HB57 : Hid (Below w5.heap.size w5 w7) := Lib.hid (HF7.out _ _ (by omega) (((Below.refl _ w5).alloc (Nat.le_refl _) _).alloc (by rw [World.size_alloc]; omega) _))
    have HJ7 := Lib.hid (HJ5.out.bel HB57.out)
    have HV7 := Lib.hid (HV.out.bel HB57.out)
    have HN7 : Hid (vv.ownBlock ≠ some w5.heap.size) := Lib.hid (HJ5.out.ow.ne (Nat.le_refl _))
    have HW5 : Hid (w.heap.size < w5.heap.size) := Lib.hid HJ5.out.f.lt
    clear HJ5 HV HK7 HF7 HB57 HG5
    obtain ⟨A3, n3, cp3, hvv⟩ := HJ7.out.ow.form2
    by_cases h218 : c = 218
    case pos =>
      obtain rfl : bb = true := by rw [HBBb.out]; exact decide_eq_true h218
      have hd := dEnd_bd (s := s) _ nx (Nat.le_refl _) hnxs
      obtain ⟨de, hde⟩ : ∃ de, de = dEnd s nx := ⟨_, rfl⟩
      obtain ⟨hd1, hd2⟩ := hd
      rw [← hde] at hd1 hd2
      obtain ⟨dd, hdd⟩ : ∃ dd, dd = s.extract nx de := ⟨_, rfl⟩
      have hdz : dd.size = de - nx := by rw [hdd, ByteArray.size_extract]; omega
      have HR2 : Hid (R = spL s g de (m ++ [⟨a, G, body, dd⟩])) := Lib.hid (by have := HR1.out; rw [if_pos h218, if_pos h218, ← hde, ← hdd] at this; exact this)
      have HDT : Hid (∀ W, Calls Tryd.prog 39 #[.string s, .int .i64 nx] W fun e w' => e = .returned (.int .i64 de) ∧ W = w') := Lib.hid fun W => by rw [hde]; exact HDAT.out nx hnxs W
      have HDZ := Lib.hid hdz
      have HNX : Hid ((nx : Int) + (dd.size : Int) = de) := Lib.hid (by omega)
      have q2 := HP7.out.cell 2; have q3 := HP7.out.frozen 2
      clear HBBb h218 hde hdz HR1
      go_upto_region 17 with (first | (go_at_call 39; refine (HDT.out _).mono ?_; rintro ex wq ⟨rfl, rfl⟩))
      rw [← hdd]
      have HP8 : Hid (Blk (w7.setCell ⟨w5.heap.size, 2, none⟩ (.string dd)) w5.heap.size 48 #[.int .i64 (a : Int), .iface T y, .string dd]) := Lib.hid (HP7.out.set_ 2 _)
      have HJ8 : Hid (SpI w vv l m (w7.setCell ⟨w5.heap.size, 2, none⟩ (.string dd))) := Lib.hid (HJ7.out.set HW5.out (Ne.symm (by intro h; exact HN7.out h.symm)) HP7.out _)
      have HV8 : Hid (SgV (w7.setCell ⟨w5.heap.size, 2, none⟩ (.string dd)) w.heap.size (.iface T y) G) := Lib.hid (HV7.out.keep fun e he g' cs hB => hB.far (fun hgg => by subst hgg; have hh := hB.symm.trans HP7.out; injection hh with hh; injection hh with _ hh; rcases he with rfl | rfl | rfl | rfl <;> exact absurd hh (by decide)) _)
      obtain ⟨w8, hw8⟩ : ∃ w8, w8 = w7.setCell ⟨w5.heap.size, 2, none⟩ (.string dd) := ⟨_, rfl⟩
      rw [← hw8] at HP8 HJ8 HV8 ⊢
      clear hw8 q2 q3 hdd
      subst hvv
      have HFP : Hid (de ≤ s.size ∧ a + 1 ≤ de ∧ l.length + 1 + 2 ≤ de ∧ s.size + 1 - de ≤ g) := Lib.hid ⟨hd2, by omega, by have := HF.out; omega, by have := HF.out; omega⟩
      have hsum : nx + dd.size ≤ 16777216 := by have h1 := HNX.out; have h2 := HFP.out; omega
      go_wp2_with (first | (refine wpList_load_row rfl 48 (.tmp 11) rfl w5.heap.size rfl 48 _ (0, 0) _ HP8.out Tryd.underlying48 rfl (by kernel_rfl) ?_) | (refine wpList_buildSlice1 rfl 23 48 (.tmp 72) rfl 3 #[.int .i64 (a : Int), .iface T y, .string dd] rfl Tryd.underlying23 (by kernel_rfl) (by decide) (by decide) rfl ?_) | (at_builtin; refine appC2 (q := 3) (by_ := 40) (cs := #[.int .i64 (a : Int), .iface T y, .string dd]) (⟨a, T, y, dd⟩ : Pv) Pv.is Tryd.underlying23 (by kernel_rfl) (by decide) (by decide) rfl (.tmp 71) (.tmp 73) rfl rfl rfl rfl HJ8.out.ow (by have := HFP.out; omega) HJ8.out.be.size ?_; intro v9 w9 hO9 hK9 hk9 hb9; obtain ⟨A9, n9, c9, rfl⟩ := hO9.form2; have HO9 := Lib.hid hO9; have HK9 := Lib.hid hK9; have HP9 := Lib.hid (hk9 _ _ _ HN7.out HP8.out); have HB9 := Lib.hid hb9; have q2 := HP9.out.cell 2; clear hO9 hK9 hk9 hb9))
      go_roundw
      case rel => exact ⟨de, g, _, l ++ [⟨a, T, y, dd⟩], m ++ [⟨a, G, body, dd⟩], HFP.out.1, by first | rfl | trivial, (by first | exact congrArg (Value.int .i64) HNX.out | rfl | trivial), Lib.hid ⟨HK9.out _ _ _ (by decide) HJ8.out.f, HO9.out, (HJ8.out.pc.keepT HK9.out (by decide) (by decide) (by decide) (by decide)).snoc (p := ⟨a, T, y, dd⟩) (q := ⟨a, G, body, dd⟩) rfl rfl (HV8.out.keepT HK9.out (by decide) (by decide) (by decide) (by decide)), HJ8.out.be.trans HB9.out⟩, Lib.hid ⟨HR2.out, HFP.out.2.2.2, by rw [List.length_append]; exact HFP.out.2.2.1⟩⟩
      case measure => have h1 := HFP.out; have h2 := HNX.out; simp [intOf]; omega
    case neg =>
      obtain rfl : bb = false := by rw [HBBb.out]; exact decide_eq_false h218
      obtain ⟨dd, hdd⟩ : ∃ dd : ByteArray, dd = ⟨#[]⟩ := ⟨_, rfl⟩
      have HR2 : Hid (R = spL s g nx (m ++ [⟨a, G, body, dd⟩])) := Lib.hid (by have := HR1.out; rw [if_neg h218, if_neg h218, ← hdd] at this; exact this)
      have HNX : Hid ((nx : Int) + (dd.size : Int) = nx) := Lib.hid (by rw [hdd]; exact Int.add_zero _)
      rw [← hdd] at HP7
      obtain ⟨de, hde⟩ : ∃ de, de = nx := ⟨_, rfl⟩
      rw [← hde] at HR2
      have HNX : Hid ((nx : Int) + (dd.size : Int) = de) := Lib.hid (by rw [hde]; exact HNX.out)
      have hd1 : nx ≤ de := by omega
      have hd2 : de ≤ s.size := by omega
      have HP8 := HP7; have HJ8 := HJ7; have HV8 := HV7
      obtain ⟨w8, rfl⟩ : ∃ w8 : World, w8 = w7 := ⟨_, rfl⟩
      clear HBBb h218 HR1 hdd hde
      go_upto_region 17 with fail
      subst hvv
      have HFP : Hid (de ≤ s.size ∧ a + 1 ≤ de ∧ l.length + 1 + 2 ≤ de ∧ s.size + 1 - de ≤ g) := Lib.hid ⟨hd2, by omega, by have := HF.out; omega, by have := HF.out; omega⟩
      have hsum : nx + dd.size ≤ 16777216 := by have h1 := HNX.out; have h2 := HFP.out; omega
      go_wp2_with (first | (refine wpList_load_row rfl 48 (.tmp 11) rfl w5.heap.size rfl 48 _ (0, 0) _ HP8.out Tryd.underlying48 rfl (by kernel_rfl) ?_) | (refine wpList_buildSlice1 rfl 23 48 (.tmp 72) rfl 3 #[.int .i64 (a : Int), .iface T y, .string dd] rfl Tryd.underlying23 (by kernel_rfl) (by decide) (by decide) rfl ?_) | (at_builtin; refine appC2 (q := 3) (by_ := 40) (cs := #[.int .i64 (a : Int), .iface T y, .string dd]) (⟨a, T, y, dd⟩ : Pv) Pv.is Tryd.underlying23 (by kernel_rfl) (by decide) (by decide) rfl (.tmp 71) (.tmp 73) rfl rfl rfl rfl HJ8.out.ow (by have := HFP.out; omega) HJ8.out.be.size ?_; intro v9 w9 hO9 hK9 hk9 hb9; obtain ⟨A9, n9, c9, rfl⟩ := hO9.form2; have HO9 := Lib.hid hO9; have HK9 := Lib.hid hK9; have HP9 := Lib.hid (hk9 _ _ _ HN7.out HP8.out); have HB9 := Lib.hid hb9; have q2 := HP9.out.cell 2; clear hO9 hK9 hk9 hb9))
      go_roundw
      case rel => exact ⟨de, g, _, l ++ [⟨a, T, y, dd⟩], m ++ [⟨a, G, body, dd⟩], HFP.out.1, by first | rfl | trivial, (by first | exact congrArg (Value.int .i64) HNX.out | rfl | trivial), Lib.hid ⟨HK9.out _ _ _ (by decide) HJ8.out.f, HO9.out, (HJ8.out.pc.keepT HK9.out (by decide) (by decide) (by decide) (by decide)).snoc (p := ⟨a, T, y, dd⟩) (q := ⟨a, G, body, dd⟩) rfl rfl (HV8.out.keepT HK9.out (by decide) (by decide) (by decide) (by decide)), HJ8.out.be.trans HB9.out⟩, Lib.hid ⟨HR2.out, HFP.out.2.2.2, by rw [List.length_append]; exact HFP.out.2.2.1⟩⟩
      case measure => have h1 := HFP.out; have h2 := HNX.out; simp [intOf]; omega

end Go.Proofs.YthibnhgbgmpjoaaDoor
