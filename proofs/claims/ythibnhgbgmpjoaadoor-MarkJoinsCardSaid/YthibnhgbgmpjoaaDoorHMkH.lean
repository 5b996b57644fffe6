/- The document's Split (gen_mkh.py). No condition. -/
import Derived.Test.YthibnhgbgmpjoaaDoorHMkG
import Derived.Test.YthibnhgbgmpjoaaDoorHGG
import Derived.Test.YthibnhgbgmpjoaaDoorHMkE
import Derived.Test.YthibnhgbgmpjoaaDoorHRsF
namespace Go.Proofs.YthibnhgbgmpjoaaDoor
open Go.RowKit
set_option linter.unusedSimpArgs false
set_option linter.unusedVariables false
set_option maxRecDepth 100000
theorem RgV.code {w : World} {b : Nat} {cs : Array Value} {x : Sg} (h : RgV w b cs x) : cs[0]? = some (.int .i64 (sgC x)) := by
  cases x with
  | plain c b => subst h; rfl
  | quants l => obtain ⟨v, rfl, _⟩ := h; rfl
  | huffs l => obtain ⟨v, rfl, _⟩ := h; rfl
  | frame c hh ww l => obtain ⟨v, rfl, _⟩ := h; rfl
  | scan l a b hi lo => obtain ⟨v, rfl, _⟩ := h; rfl
  | rst n => subst h; rfl
/-- A piece as the document has it: its 16 cells. -/
structure Rp where
  at_ : Nat
  cs : Array Value
  hz : cs.size = 13
  h1 : cs.all (·.oneCell') = true
  body : ByteArray
  data : ByteArray
def Rp.cells (p : Rp) : List Value := [Value.int .i64 p.at_] ++ p.cs.toList ++ [Value.string p.body, Value.string p.data]
theorem Rp.is : CellsOf Rp.cells 16 := ⟨fun p => by simp only [Rp.cells, List.length_append, Array.length_toList, p.hz]; rfl, fun p u hu => by
  simp only [Rp.cells, List.mem_append, List.mem_cons, List.not_mem_nil, or_false] at hu
  rcases hu with (rfl | hu) | rfl | rfl
  · rfl
  · exact Array.all_eq_true_iff_forall_mem.1 p.h1 u (by simpa using hu)
  · rfl
  · rfl⟩
/-- The document's pieces are these. -/
def RpV (l : List Rp) (m : List Pc) : Prop := l.length = m.length ∧ ∀ i (hi : i < l.length) (hj : i < m.length), l[i].at_ = m[i].at_ ∧ l[i].body = m[i].body ∧ l[i].data = m[i].data ∧ l[i].cs[0]? = some (.int .i64 (sgC m[i].x))
theorem RpV.nil : RpV [] [] := ⟨rfl, fun i hi => absurd hi (Nat.not_lt_zero i)⟩
theorem RpV.snoc {l : List Rp} {m : List Pc} (h : RpV l m) {p : Rp} {q : Pc} (h1 : p.at_ = q.at_ ∧ p.body = q.body ∧ p.data = q.data ∧ p.cs[0]? = some (.int .i64 (sgC q.x))) : RpV (l ++ [p]) (m ++ [q]) := by
  refine ⟨by simp [h.1], fun i hi hj => ?_⟩
  by_cases e : i < l.length
  · rw [List.getElem_append_left e, List.getElem_append_left (by rw [← h.1]; exact e)]
    exact h.2 i e _
  · have : i = l.length := by simp at hi; omega
    subst this
    have e2 : (l ++ [p])[l.length]'hi = p := List.getElem_concat_length rfl _
    have e3 : (m ++ [q])[l.length]'hj = q := List.getElem_concat_length h.1 _
    rw [e2, e3]
    exact h1
theorem arr13 {cs : Array Value} (h : cs.size = 13) : ∃ v0 v1 v2 v3 v4 v5 v6 v7 v8 v9 v10 v11 v12, cs = #[v0, v1, v2, v3, v4, v5, v6, v7, v8, v9, v10, v11, v12] := by
  obtain ⟨l⟩ := cs
  match l, h with
  | [v0, v1, v2, v3, v4, v5, v6, v7, v8, v9, v10, v11, v12], _ => exact ⟨v0, v1, v2, v3, v4, v5, v6, v7, v8, v9, v10, v11, v12, rfl⟩
theorem rp_built (a : Int) (v0 v1 v2 v3 v4 v5 v6 v7 v8 v9 v10 v11 v12 : Value) (b : ByteArray) : Tryd.prog.built 39 [(0, .int .i64 a), (1, .agg #[v0, v1, v2, v3, v4, v5, v6, v7, v8, v9, v10, v11, v12]), (2, .string b)] = some #[.int .i64 a, v0, v1, v2, v3, v4, v5, v6, v7, v8, v9, v10, v11, v12, .string b, .string ⟨#[]⟩] := by kernel_rfl
theorem rp_built' {a : Nat} {cs : Array Value} {h1 : cs.all (·.oneCell') = true} {body : ByteArray} (hz : cs.size = 13) : Tryd.prog.built 39 [(0, .int .i64 (a : Int)), (1, .agg cs), (2, .string body)] = some (Rp.cells ⟨a, cs, hz, h1, body, ⟨#[]⟩⟩).toArray := by
  obtain ⟨v0, v1, v2, v3, v4, v5, v6, v7, v8, v9, v10, v11, v12, rfl⟩ := arr13 hz
  exact rp_built a v0 v1 v2 v3 v4 v5 v6 v7 v8 v9 v10 v11 v12 body
theorem rp_set {w : World} {g a : Nat} {cs : Array Value} {hz : cs.size = 13} {h1 : cs.all (·.oneCell') = true} {body d dd : ByteArray} (h : Blk w g 39 (Rp.cells ⟨a, cs, hz, h1, body, d⟩).toArray) : Blk (w.setCell ⟨g, 15, none⟩ (.string dd)) g 39 (Rp.cells ⟨a, cs, hz, h1, body, dd⟩).toArray := by
  obtain ⟨v0, v1, v2, v3, v4, v5, v6, v7, v8, v9, v10, v11, v12, rfl⟩ := arr13 hz
  exact h.set_ 15 _
theorem rp_c15 {w : World} {g a : Nat} {cs : Array Value} {hz : cs.size = 13} {h1 : cs.all (·.oneCell') = true} {body d : ByteArray} (h : Blk w g 39 (Rp.cells ⟨a, cs, hz, h1, body, d⟩).toArray) : w.cell? ⟨g, 15, none⟩ = some (.string d) := by
  obtain ⟨v0, v1, v2, v3, v4, v5, v6, v7, v8, v9, v10, v11, v12, rfl⟩ := arr13 hz
  exact h.cell 15
theorem wpList_build3 {P : Program} {ops : Array Oper} {rest : List Oper} {o : Oper} {a : Act} {w : World} {Q : Exit → Act → World → Prop} {cells : Array Value} (hg : o.guard = none) (t : TypeId) (x y z : Operand) (u v r : Value) (ho : o.op = .build t #[(0, x), (1, y), (2, z)])
    (hx : a.eval x = u) (hy : a.eval y = v) (hz : a.eval z = r) (hf : P.built t [(0, u), (1, v), (2, r)] = some cells)
    (h : wpList P ops Q rest (a.put o.dst (.agg cells)) w) : wpList P ops Q (o :: rest) a w := by
  subst hx hy hz
  exact wpList_buildT hg t #[(0, x), (1, y), (2, z)] ho (by simpa using hf) h
def RSplitPost (w : World) (R : List Pc × Nat × Int) (e : Ending) (w' : World) : Prop :=
  ∃ v l, e = .returned (.tuple #[v, .int .i64 R.2.1, .int .i64 R.2.2]) ∧ OwnC Rp.cells 16 w' w.heap.size 39 v l ∧ RpV l R.1 ∧ Below w.heap.size w w'
theorem RSplitPost.bad {w w' : World} {a : Nat} {e : Int} (hb : Below w.heap.size w w') : RSplitPost w ([], a, e) (.returned (.tuple #[.slice none 0 0, .int .i64 a, .int .i64 e])) w' := ⟨_, [], rfl, OwnC.nil _ _ _, RpV.nil, hb⟩
set_option maxHeartbeats 0 in
theorem refSplit_walk (s : ByteArray) (w : World) : Calls Tryd.prog 10 #[.string s] w (RSplitPost w (spF s)) := by
  obtain ⟨R, hR⟩ : ∃ R, R = spF s := ⟨_, rfl⟩
  rw [← hR]
  unfold spF at hR
  by_cases h1 : 16777216 < s.size
  case pos =>
    rw [if_pos h1] at hR
    subst hR
    go_enter Tryd.func10, Tryd.ntmps10
    go_wp2_with fail
    go_ret3
    exact RSplitPost.bad (Below.refl _ _)
  case neg =>
  rw [if_neg h1] at hR
  have hs : s.size ≤ 16777216 := by omega
  by_cases h2 : s.size < 2
  case pos =>
    rw [if_pos (.inl h2)] at hR
    subst hR
    go_enter Tryd.func10, Tryd.ntmps10
    go_wp2_with fail
    go_ret3
    exact RSplitPost.bad (Below.refl _ _)
  case neg =>
  have hl0 : 0 < s.size := by omega
  have hl1 : 1 < s.size := by omega
  have b0 := bAt_in hl0; have b1 := bAt_in hl1
  obtain ⟨x, hx⟩ : ∃ x, x = s[0] := ⟨_, rfl⟩
  obtain ⟨y, hy⟩ : ∃ x, x = s[1] := ⟨_, rfl⟩
  have e0 : s[0]? = some x := by rw [hx]; exact str_at hl0
  have e1 : s[1]? = some y := by rw [hy]; exact str_at hl1
  have x0 := fun W => run_index_str (P := Tryd.prog) W Tryd.underlying9 (rfl : (0 : Int) = (0 : Nat)) e0
  have x1 := fun W => run_index_str (P := Tryd.prog) W Tryd.underlying9 (rfl : (1 : Int) = (1 : Nat)) e1
  rw [← hx] at b0; rw [← hy] at b1
  clear hx hy e0 e1
  by_cases h3 : x.toNat = 255 ∧ y.toNat = 216
  case neg =>
    rw [if_pos (by rw [b0, b1]; omega)] at hR
    subst hR
    by_cases h4 : x.toNat = 255
    · have d0 : ((x.toNat : Int) != 255) = false := by rw [h4]; rfl
      have d1 : ((y.toNat : Int) != 216) = true := by simp; omega
      clear h3 h4 b0 b1
      go_enter Tryd.func10, Tryd.ntmps10
      go_wp2_with fail
      go_ret3
      exact RSplitPost.bad (Below.refl _ _)
    · have d0 : ((x.toNat : Int) != 255) = true := by simp; omega
      clear h3 h4 b0 b1
      go_enter Tryd.func10, Tryd.ntmps10
      go_wp2_with fail
      go_ret3
      exact RSplitPost.bad (Below.refl _ _)
  case pos =>
  rw [if_neg (by rw [b0, b1]; omega)] at hR
  have d0 : ((x.toNat : Int) != 255) = false := by rw [h3.1]; rfl
  have d1 : ((y.toNat : Int) != 216) = false := by rw [h3.2]; rfl
  clear h3 b0 b1
  have HRUN := Lib.hid (fun (k n : Nat) (hk : k ≤ s.size) (hn : ffEnd s k = k + n) (W : World) => run_walk s k n hs hk hn W)
  have HDAT := Lib.hid (fun (a : Nat) (ha : a ≤ s.size) (W : World) => dataEnd_walk s a hs ha W)
  go_enter Tryd.func10, Tryd.ntmps10
  go_wp2_with fail
  clear x0 x1 d0 d1
  go_loopw [5, 6] (fun v i wr => ∃ (a f : Nat) (vv : Value) (l : List Rp) (m : List Pc), a ≤ s.size ∧ v = vv ∧ i = .int .i64 a ∧ Hid (OwnC Rp.cells 16 wr w.heap.size 39 vv l ∧ RpV l m ∧ Below w.heap.size w wr) ∧ Hid (R = spL s f a m ∧ s.size + 1 - a ≤ f ∧ l.length + 2 ≤ a)) (fun _ i _ => s.size - (intOf i).toNat)
  case atStart => exact ⟨2, s.size + 1, _, [], [], by omega, rfl, rfl, Lib.hid ⟨OwnC.nil _ _ _, RpV.nil, Below.refl _ _⟩, Lib.hid ⟨hR, by omega, by simp⟩⟩
  case round =>
    clear hR
    obtain ⟨a, f, vv, l, m, ha, hvv0, rfl, HI, HRR⟩ := hrel
    obtain rfl := hvv0.symm
    obtain ⟨g, hg⟩ : ∃ g, f = g + 1 := ⟨f - 1, by have := HRR.out.2.1; omega⟩
    have hR1 : R = match stepP s a with | .bad b e => ([], b, e) | .fin => (m, 0, 0) | .next p a' => spL s g a' (m ++ [p]) := by have := HRR.out.1; rw [hg, spL] at this; exact this
    have HF : Hid (s.size + 1 - a ≤ g + 1 ∧ l.length + 2 ≤ a) := Lib.hid ⟨by have := HRR.out.2.1; omega, HRR.out.2.2⟩
    clear HRR hg
    obtain ⟨w1, rfl⟩ : ∃ w1 : World, w1 = wr := ⟨_, rfl⟩
    have hff := ffEnd_is s a
    have hfe := ffEnd_le ha
    obtain ⟨n, hn⟩ : ∃ n, ffEnd s a = a + n := ⟨ffEnd s a - a, by have := hff.le; omega⟩
    have HCR : Hid (∀ W, Calls Tryd.prog 19 #[.string s, .int .i64 a] W fun e w' => e = .returned (.int .i64 n) ∧ W = w') := Lib.hid fun W => HRUN.out a n ha hn W
    obtain ⟨k, hk⟩ : ∃ k, k = ffEnd s a := ⟨_, rfl⟩
    have hkn : k = a + n := by rw [hk, hn]
    unfold stepP at hR1
    rw [← hk] at hR1 hfe
    clear hff hn hk
    go_upto_region 8 with (go_at_call 19; refine (HCR.out _).mono ?_; rintro ex wq ⟨rfl, rfl⟩)
    go_cut [8] (fun b wx => b = .int .i64 k ∧ wx = w1)
    case first =>
      go_wp2_with fail
      go_meet
      case rel => exact ⟨congrArg (Value.int .i64) (by omega), by first | rfl | trivial⟩
    case rest =>
    obtain ⟨rfl, rfl⟩ := hcut
    obtain ⟨w1, rfl⟩ : ∃ w1 : World, w1 = wc := ⟨_, rfl⟩
    clear HCR
    by_cases q1 : s.size ≤ k
    case pos =>
      rw [if_pos q1] at hR1
      dsimp only at hR1
      have HR := Lib.hid hR1
      clear hR1
      go_wp2_with fail
      go_ret3
      exact (by rw [HR.out]; exact RSplitPost.bad HI.out.2.2)
    case neg =>
    rw [if_neg q1] at hR1
    have hlt : k < s.size := by omega
    have hb := bAt_in hlt
    obtain ⟨y, hy⟩ : ∃ x, x = s[k] := ⟨_, rfl⟩
    have e1 : s[k]? = some y := by rw [hy]; exact str_at hlt
    have x1 := fun W => run_index_str (P := Tryd.prog) W Tryd.underlying9 (rfl : (k : Int) = k) e1
    rw [← hy] at hb
    have hx0 := y.toNat_lt
    obtain ⟨c, hc⟩ : ∃ c : Int, c = y.toNat := ⟨_, rfl⟩
    have x2 : ∀ W, (Instr.index 9 (.string s) (.int .i64 (k : Int))).run Tryd.prog W = .ok (.int .u8 c) W := fun W => by rw [hc]; exact x1 W
    have hc0 : 0 ≤ c ∧ c < 256 := by omega
    rw [← hc] at hb
    rw [hb] at hR1
    have d1 : decide ((s.size : Int) ≤ (k : Int)) = false := by simp; omega
    have Q1 := Lib.hid q1; have HKN := Lib.hid hkn; have HFE := Lib.hid hfe
    clear hy e1 hb x1 hx0 hc q1 hlt hkn hfe
    go_upto_region 12 with fail
    clear x2 d1
    go_cut [7, 9, 60] (fun b7 b9 b wx => b7 = .int .i64 n ∧ b9 = .int .i64 c ∧ b = .bool (decide (n = 0 ∨ c = 0 ∨ (208 ≤ c ∧ c ≤ 216))) ∧ wx = w1)
    case first =>
      go_wp2_with fail
      all_goals
        go_meet
        case rel => exact ⟨congrArg (Value.int .i64) (by first | rfl | omega), congrArg (Value.int .i64) (by first | rfl | omega), congrArg Value.bool (by first | rfl | (rw [Bool.eq_iff_iff]; simp only [Bool.or_eq_true, Bool.and_eq_true, Bool.not_eq_true', decide_eq_false_iff_not, bne_iff_ne, Bool.false_eq_true, decide_eq_true_eq, beq_iff_eq, false_iff, true_iff]; done) | (rw [Bool.eq_iff_iff]; simp only [Bool.or_eq_true, Bool.and_eq_true, Bool.not_eq_true', decide_eq_false_iff_not, bne_iff_ne, Bool.false_eq_true, decide_eq_true_eq, beq_iff_eq, false_iff, true_iff]; omega)), by first | rfl | trivial⟩
    case rest =>
    obtain ⟨rfl, rfl, rfl, rfl⟩ := hcut
    obtain ⟨w1, rfl⟩ : ∃ w1 : World, w1 = wc := ⟨_, rfl⟩
    have q1 := Q1.out; have hkn := HKN.out; have hfe := HFE.out
    clear Q1 HKN HFE
    by_cases q2 : n = 0 ∨ c = 0 ∨ (208 ≤ c ∧ c ≤ 216)
    case pos =>
      rw [if_pos (by omega)] at hR1
      dsimp only at hR1
      have HR := Lib.hid hR1
      rw [decide_eq_true q2]
      clear hR1 q2
      go_wp2_with fail
      go_ret3
      exact (by rw [HR.out]; exact RSplitPost.bad HI.out.2.2)
    case neg =>
    rw [if_neg (by omega)] at hR1
    rw [decide_eq_false q2]
    obtain ⟨b, hbk⟩ : ∃ b, b = k + 1 := ⟨_, rfl⟩
    rw [← hbk] at hR1
    go_upto_region 14 with fail
    go_cut [8] (fun v wx => v = .int .i64 b ∧ wx = w1)
    case first =>
      go_wp2_with fail
      go_meet
      case rel => exact ⟨congrArg (Value.int .i64) (by omega), by first | rfl | trivial⟩
    case rest =>
    obtain ⟨rfl, rfl⟩ := hcut
    obtain ⟨w1, rfl⟩ : ∃ w1 : World, w1 = wc := ⟨_, rfl⟩
    have hab : a + 1 ≤ b := by omega
    have hbz : b ≤ s.size := by omega
    clear q1 q2 hkn hbk hfe
    by_cases h217 : c = 217
    case pos =>
      obtain rfl := h217
      rw [if_pos rfl] at hR1
      by_cases hbs : b < s.size
      case pos =>
        rw [if_pos hbs] at hR1
        dsimp only at hR1
        have HR := Lib.hid hR1
        clear hR1
        go_wp2_with fail
        go_ret3
        exact (by rw [HR.out]; exact RSplitPost.bad HI.out.2.2)
      case neg =>
        rw [if_neg hbs] at hR1
        dsimp only at hR1
        have HR := Lib.hid hR1
        clear hR1
        go_wp2_with fail
        go_ret3
        exact ⟨_, l, by rw [HR.out]; rfl, HI.out.1, by rw [HR.out]; exact HI.out.2.1, HI.out.2.2⟩
    case neg =>
    rw [if_neg h217] at hR1
    have d217 : (c == 217) = false := by simpa using h217
    unfold segP at hR1
    by_cases q3 : s.size < b + 2
    case pos =>
      rw [if_pos q3] at hR1
      dsimp only at hR1
      have HR := Lib.hid hR1
      have d3 : decide ((s.size : Int) - (b : Int) < 2) = true := by simp; omega
      clear hR1
      go_wp2_with fail
      go_ret3
      exact (by rw [HR.out]; exact RSplitPost.bad HI.out.2.2)
    case neg =>
    rw [if_neg q3] at hR1
    have d3 : decide ((s.size : Int) - (b : Int) < 2) = false := by simp; omega
    have hb0 : b < s.size := by omega
    have hb1 : b + 1 < s.size := by omega
    obtain ⟨u, hu⟩ : ∃ x, x = s[b] := ⟨_, rfl⟩
    obtain ⟨z, hz⟩ : ∃ x, x = s[b + 1] := ⟨_, rfl⟩
    have e0 : s[b]? = some u := by rw [hu]; exact str_at hb0
    have e1 : s[b + 1]? = some z := by rw [hz]; exact str_at hb1
    have x1 := fun W => run_index_str (P := Tryd.prog) W Tryd.underlying9 (rfl : (b : Int) = b) e0
    have x2 := fun W => run_index_str (P := Tryd.prog) W Tryd.underlying9 (by omega : (b : Int) + 1 = ((b + 1 : Nat) : Int)) e1
    have hpa : pAt s b = (u.toNat : Int) * 256 + z.toNat := by rw [pAt, dif_pos hb1, hu, hz]
    have hu0 := u.toNat_lt; have hz0 := z.toNat_lt
    obtain ⟨p, hp⟩ : ∃ p : Nat, p = u.toNat * 256 + z.toNat := ⟨_, rfl⟩
    have hpp : pAt s b = (p : Int) := by rw [hpa, hp]; omega
    have HPA : Hid ((p : Int) = (u.toNat : Int) * 256 + z.toNat) := Lib.hid (by omega)
    have hpz : p < 65536 := by omega
    rw [hpp] at hR1
    simp only [Int.toNat_natCast] at hR1
    have Q3 := Lib.hid q3
    clear hu hz e0 e1 hpa hp hpp hb0 hb1 q3
    go_upto_region 21 with fail
    go_cut [10] (fun v wx => v = .int .i64 p ∧ Hid (Below w1.heap.size w1 wx))
    case first =>
      refine region_plan (.run [0, 1, 2, 3, 4, 5, 6, 7, 8, 9, 10, 11] .fin) (fun w' => True) (by kernel_rfl) trivial ?_
      intro wd hwd
      have hbd : Below w1.heap.size w1 wd := hwd ▸ (Below.refl _ w1).drew
      have HBD := Lib.hid hbd
      clear hbd
      clear hwd
      refine plan_run fun m hm => ?_
      simp only [pickO, List.filterMap_cons, List.filterMap_nil, List.getElem?_toArray, List.getElem?_cons_zero, List.getElem?_cons_succ] at hm
      subst hm
      go_wp2_with fail
      refine ⟨rfl, by rfl, ?_⟩
      refine plan_fin ?_
      go_wp2_with fail
      go_meet
      case rel => exact ⟨congrArg (Value.int .i64) (by rw [HPA.out] <;> omega), HBD⟩
    case rest =>
    obtain ⟨rfl, HBw⟩ := hcut
    obtain ⟨w2, rfl⟩ : ∃ w2 : World, w2 = wc := ⟨_, rfl⟩
    have HI2 : Hid (OwnC Rp.cells 16 w2 w.heap.size 39 vv l ∧ RpV l m ∧ Below w.heap.size w w2) := Lib.hid ⟨HI.out.1.bel HBw.out, HI.out.2.1, HI.out.2.2.trans (HBw.out.mono HI.out.2.2.size)⟩
    have q3 := Q3.out
    clear x1 x2 HPA hu0 hz0 d3 HI HBw Q3
    by_cases q4 : p < 2
    case pos =>
      rw [if_pos (by omega)] at hR1
      dsimp only at hR1
      have HR := Lib.hid hR1
      clear hR1
      go_wp2_with fail
      go_ret3
      exact (by rw [HR.out]; exact RSplitPost.bad HI2.out.2.2)
    case neg =>
    rw [if_neg (by omega)] at hR1
    by_cases q5 : s.size < b + p
    case pos =>
      rw [if_pos q5] at hR1
      dsimp only at hR1
      have HR := Lib.hid hR1
      have d5 : decide ((s.size : Int) - (b : Int) < (p : Int)) = true := by simp; omega
      clear hR1
      go_wp2_with fail
      go_ret3
      exact (by rw [HR.out]; exact RSplitPost.bad HI2.out.2.2)
    case neg =>
    rw [if_neg q5] at hR1
    have d5 : decide ((s.size : Int) - (b : Int) < (p : Int)) = false := by simp; omega
    obtain ⟨body, hbody⟩ : ∃ y, y = s.extract (b + 2) (b + p) := ⟨_, rfl⟩
    rw [← hbody] at hR1
    have HBO := Lib.hid hbody
    clear hbody
    go_upto_region 26 with fail
    go_cut [11] (fun v wx => v = .string body ∧ wx = w2)
    case first =>
      go_wp2_with fail
      go_meet
      case rel => exact ⟨congrArg Value.string (by rw [HBO.out] <;> (first | rfl | (congr 1 <;> omega))), by first | rfl | trivial⟩
    case rest =>
    obtain ⟨rfl, rfl⟩ := hcut
    obtain ⟨w2, rfl⟩ : ∃ w2 : World, w2 = wc := ⟨_, rfl⟩
    obtain ⟨nx, hnx⟩ : ∃ nx, nx = b + p := ⟨_, rfl⟩
    rw [← hnx] at hR1
    have hnxs : nx ≤ s.size := by omega
    have hanx : a + 1 ≤ nx := by omega
    have HPAR := Lib.hid (fun W => refParse_walk c body W)
    unfold RPPost at HPAR
    obtain ⟨er, her⟩ : ∃ er, er = prE c body := ⟨_, rfl⟩
    have hcd : er = 0 → sgC (prG c body) = c := fun h => (parse_back (by rw [← her]; exact h)).1
    obtain ⟨G, hG⟩ : ∃ G, G = prG c body := ⟨_, rfl⟩
    rw [← her, ← hG] at HPAR hR1
    rw [← hG] at hcd
    have HCD := Lib.hid hcd; have HR1 := Lib.hid hR1; have HNX0 := Lib.hid hnx
    clear hcd hR1 hG her q4 q5 d5 HBO hnx
    go_upto_region 28 with (first | (go_at_call 20; refine (HPAR.out _).mono ?_; rintro ex w3 ⟨cs, rfl, hz, ho, hv, hb3⟩; have HZ := Lib.hid hz; have HO := Lib.hid ho; have HV := Lib.hid hv; have HB3 := Lib.hid hb3; clear hz ho hv hb3) | (refine wpList_store_new rfl 37 (.tmp 12) _ rfl cs _ 37 rfl rfl (by rw [HZ.out]; kernel_rfl) (by rw [HZ.out]; rfl) HO.out ?_; intro w4 hs4 hB4 hb4; have HX4 := Lib.hid hB4; have HB4 := Lib.hid hb4; have HS4 := Lib.hid hs4; clear hs4 hB4 hb4))
    have HI4 : Hid (OwnC Rp.cells 16 w4 w.heap.size 39 vv l ∧ RpV l m ∧ Below w.heap.size w w4) := Lib.hid ⟨(HI2.out.1.bel HB3.out).bel HB4.out, HI2.out.2.1, (HI2.out.2.2.trans (HB3.out.mono HI2.out.2.2.size)).trans (HB4.out.mono (Nat.le_trans HI2.out.2.2.size HB3.out.size))⟩
    clear HI2 HB3 HB4 HPAR
    by_cases q6 : er = 0
    case neg =>
      have HR : Hid (R = ([], a, er)) := Lib.hid (by have := HR1.out; rw [if_pos q6] at this; exact this)
      have d6 : (er == 0) = false := by simpa using q6
      have d7 : (er != 0) = true := by simpa using q6
      clear q6
      go_wp2_with fail
      go_ret3
      exact (by rw [HR.out]; exact RSplitPost.bad HI4.out.2.2)
    case pos =>
    obtain rfl := q6
    have HR2 : Hid (R = spL s g (if c = 218 then dEnd s nx else nx) (m ++ [⟨a, G, body, if c = 218 then s.extract nx (dEnd s nx) else ⟨#[]⟩⟩])) := Lib.hid (by have := HR1.out; rw [if_neg (by simp)] at this; exact this)
    have HC0 : Hid (cs[0]? = some (.int .i64 (sgC G))) := Lib.hid ((HV.out rfl).code)
    obtain ⟨P0, hP0⟩ : ∃ P0 : Rp, P0 = ⟨a, cs, HZ.out, HO.out, body, ⟨#[]⟩⟩ := ⟨_, rfl⟩
    obtain ⟨cq, hcq⟩ : ∃ cq, cq = P0.cells.toArray := ⟨_, rfl⟩
    have HCQZ : Hid (cq.size = 16) := Lib.hid (by rw [hcq, List.size_toArray, Rp.is.len])
    have HCQ1 : Hid (cq.all (·.oneCell') = true) := Lib.hid (by rw [hcq]; exact all_oneCell_toArray (Rp.is.one P0))
    have HBT : Hid (Tryd.prog.built 39 [(0, .int .i64 (a : Int)), (1, .agg cs), (2, .string body)] = some cq) := Lib.hid (by rw [hcq, hP0]; exact rp_built' HZ.out)
    have HCQ := Lib.hid hcq; have HP0 := Lib.hid hP0
    clear hcq hP0 HR1 HV
    go_upto_region 31 with (first | (refine wpList_load_row rfl 37 (.tmp 12) rfl w3.heap.size rfl 37 cs (0, 0) _ HX4.out Tryd.underlying37 rfl (by rw [HZ.out]; kernel_rfl) ?_) | (refine wpList_build3 rfl 39 (.tmp 118) (.tmp 119) (.tmp 120) _ (.agg cs) _ rfl rfl rfl rfl HBT.out ?_) | (refine wpList_store_new rfl 39 (.tmp 14) _ rfl cq _ 39 rfl rfl (by rw [HCQZ.out]; kernel_rfl) (by rw [HCQZ.out]; rfl) HCQ1.out ?_; intro w5 hs5 hB5 hb5; have HY5 := Lib.hid hB5; have HB5 := Lib.hid hb5; have HS5 := Lib.hid hs5; clear hs5 hB5 hb5))
    have HI5 : Hid (OwnC Rp.cells 16 w5 w.heap.size 39 vv l ∧ RpV l m ∧ Below w.heap.size w w5) := Lib.hid ⟨HI4.out.1.bel HB5.out, HI4.out.2.1, HI4.out.2.2.trans (HB5.out.mono HI4.out.2.2.size)⟩
    have HP5 : Hid (Blk w5 w4.heap.size 39 P0.cells.toArray) := Lib.hid (by rw [← HCQ.out]; exact HY5.out)
    have HN5 : Hid (vv.ownBlock ≠ some w4.heap.size) := Lib.hid (HI4.out.1.ne (Nat.le_refl _))
    have HW4 : Hid (w.heap.size ≤ w4.heap.size) := Lib.hid HI4.out.2.2.size
    clear HI4 HB5 HY5
    try simp only [Act.put, List.setIfInBounds_toArray, List.set_cons_zero, List.set_cons_succ]
    go_cut [8] (fun v wx => v = .int .i64 nx ∧ wx = w5)
    case first =>
      go_wp2_with fail
      go_meet
      case rel => exact ⟨congrArg (Value.int .i64) (by rw [HNX0.out] <;> omega), by first | rfl | trivial⟩
    case rest =>
    obtain ⟨rfl, rfl⟩ := hcut
    obtain ⟨w5, rfl⟩ : ∃ w5 : World, w5 = wc := ⟨_, rfl⟩
    clear HNX0
    rw [HP0.out] at HP5
    clear HP0 HCQ HCQZ HCQ1 HBT
    by_cases h218 : c = 218
    case pos =>
      obtain rfl := h218
      have hd := dEnd_bd (s := s) _ nx (Nat.le_refl _) hnxs
      obtain ⟨de, hde⟩ : ∃ de, de = dEnd s nx := ⟨_, rfl⟩
      obtain ⟨hd1, hd2⟩ := hd
      rw [← hde] at hd1 hd2
      obtain ⟨dd, hdd⟩ : ∃ dd, dd = s.extract nx de := ⟨_, rfl⟩
      have hdz : dd.size = de - nx := by rw [hdd, ByteArray.size_extract]; omega
      have HR3 : Hid (R = spL s g de (m ++ [⟨a, G, body, dd⟩])) := Lib.hid (by have := HR2.out; rw [if_pos rfl, if_pos rfl, ← hde, ← hdd] at this; exact this)
      have HDT : Hid (∀ W, Calls Tryd.prog 21 #[.string s, .int .i64 nx] W fun e w' => e = .returned (.int .i64 de) ∧ W = w') := Lib.hid fun W => by rw [hde]; exact HDAT.out nx hnxs W
      have HNX : Hid ((nx : Int) + (dd.size : Int) = de) := Lib.hid (by omega)
      have q2 : w5.cell? ⟨w4.heap.size, 15, none⟩ = some (.string ⟨#[]⟩) := rp_c15 HP5.out
      have q3 := HP5.out.frozen 15
      clear hde hdz HR2
      go_upto_region 34 with (first | (go_at_call 21; refine (HDT.out _).mono ?_; rintro ex wq ⟨rfl, rfl⟩))
      rw [← hdd]
      have HP8 : Hid (Blk (w5.setCell ⟨w4.heap.size, 15, none⟩ (.string dd)) w4.heap.size 39 (Rp.cells ⟨a, cs, HZ.out, HO.out, body, dd⟩).toArray) := Lib.hid (rp_set HP5.out)
      have HI8 : Hid (OwnC Rp.cells 16 (w5.setCell ⟨w4.heap.size, 15, none⟩ (.string dd)) w.heap.size 39 vv l ∧ RpV l m ∧ Below w.heap.size w (w5.setCell ⟨w4.heap.size, 15, none⟩ (.string dd))) := Lib.hid ⟨HI5.out.1.set HN5.out _, HI5.out.2.1, HI5.out.2.2.setCell HW4.out _⟩
      obtain ⟨w8, hw8⟩ : ∃ w8, w8 = w5.setCell ⟨w4.heap.size, 15, none⟩ (.string dd) := ⟨_, rfl⟩
      rw [← hw8] at HP8 HI8 ⊢
      clear hw8 q2 q3 hdd
      have HFP : Hid (de ≤ s.size ∧ a + 1 ≤ de ∧ l.length + 1 + 2 ≤ de ∧ s.size + 1 - de ≤ g) := Lib.hid ⟨hd2, by omega, by have := HF.out; omega, by have := HF.out; omega⟩
      have hsum : nx + dd.size ≤ 16777216 := by have h1 := HNX.out; have h2 := HFP.out; omega
      obtain ⟨A3, n3, cp3, hvv⟩ := HI8.out.1.form2
      subst hvv
      have HSZ : Hid ((Rp.cells ⟨a, cs, HZ.out, HO.out, body, dd⟩).toArray.size = 16) := Lib.hid (by rw [List.size_toArray, Rp.is.len])
      obtain ⟨cz, hcz⟩ : ∃ cz, cz = (Rp.cells ⟨a, cs, HZ.out, HO.out, body, dd⟩).toArray := ⟨_, rfl⟩
      have HCZ : Hid (cz.toList = Rp.cells ⟨a, cs, HZ.out, HO.out, body, dd⟩) := Lib.hid (by rw [hcz])
      have HQ15 : Hid (∀ W g, Blk W g 39 cz → W.cell? ⟨g, 15, none⟩ = some (.string dd)) := Lib.hid fun W g h => by rw [hcz] at h; exact rp_c15 h
      rw [← hcz] at HP8 HSZ
      clear hcz
      go_wp2_with (first | (refine wpList_load_row rfl 39 (.tmp 14) rfl w4.heap.size rfl 39 cz (0, 0) _ HP8.out Tryd.underlying39 rfl (by rw [HSZ.out]; kernel_rfl) ?_) | (refine wpList_buildSlice1 rfl 29 39 (.tmp 135) rfl 16 cz rfl Tryd.underlying29 (by kernel_rfl) (by decide) (by decide) HSZ.out ?_) | (at_builtin; refine appC2 (q := 16) (by_ := 216) (cs := cz) (⟨a, cs, HZ.out, HO.out, body, dd⟩ : Rp) Rp.is Tryd.underlying29 (by kernel_rfl) (by decide) (by decide) rfl (.tmp 134) (.tmp 136) rfl rfl rfl HCZ.out HI8.out.1 (by have := HFP.out; omega) HI8.out.2.2.size ?_; intro v9 w9 hO9 hK9 hk9 hb9; obtain ⟨A9, n9, c9, rfl⟩ := hO9.form2; have HO9 := Lib.hid hO9; have HP9 := Lib.hid (hk9 _ _ _ HN5.out HP8.out); have HB9 := Lib.hid (HI8.out.2.2.trans hb9); have q2 := HQ15.out _ _ HP9.out; clear hO9 hK9 hk9 hb9))
      go_roundw
      case rel => exact ⟨de, g, _, l ++ [⟨a, cs, HZ.out, HO.out, body, dd⟩], m ++ [⟨a, G, body, dd⟩], HFP.out.1, by first | rfl | trivial, (by first | exact congrArg (Value.int .i64) HNX.out | rfl | trivial), Lib.hid ⟨HO9.out, HI8.out.2.1.snoc (p := ⟨a, cs, HZ.out, HO.out, body, dd⟩) (q := ⟨a, G, body, dd⟩) ⟨rfl, rfl, rfl, HC0.out⟩, HB9.out⟩, Lib.hid ⟨HR3.out, HFP.out.2.2.2, by rw [List.length_append]; exact HFP.out.2.2.1⟩⟩
      case measure => have h1 := HFP.out; have h2 := HNX.out; simp [intOf]; omega
    case neg =>
      obtain ⟨dd, hdd⟩ : ∃ dd : ByteArray, dd = ⟨#[]⟩ := ⟨_, rfl⟩
      have HR3' : Hid (R = spL s g nx (m ++ [⟨a, G, body, dd⟩])) := Lib.hid (by have := HR2.out; rw [if_neg h218, if_neg h218, ← hdd] at this; exact this)
      have d218 : (c == 218) = false := by simpa using h218
      have hdz : dd.size = 0 := by rw [hdd]; rfl
      obtain ⟨de, hde⟩ : ∃ de, de = nx := ⟨_, rfl⟩
      have HR3 : Hid (R = spL s g de (m ++ [⟨a, G, body, dd⟩])) := Lib.hid (by rw [hde]; exact HR3'.out)
      have HNX : Hid ((nx : Int) + (dd.size : Int) = de) := Lib.hid (by omega)
      have hd1 : nx ≤ de := by omega
      have hd2 : de ≤ s.size := by omega
      have HP8 : Hid (Blk w5 w4.heap.size 39 (Rp.cells ⟨a, cs, HZ.out, HO.out, body, dd⟩).toArray) := Lib.hid (by rw [hdd]; exact HP5.out)
      have HI8 := HI5
      obtain ⟨w8, rfl⟩ : ∃ w8 : World, w8 = w5 := ⟨_, rfl⟩
      clear hdd hde hdz HR2 HR3' h218
      go_upto_region 34 with fail
      have HFP : Hid (de ≤ s.size ∧ a + 1 ≤ de ∧ l.length + 1 + 2 ≤ de ∧ s.size + 1 - de ≤ g) := Lib.hid ⟨hd2, by omega, by have := HF.out; omega, by have := HF.out; omega⟩
      have hsum : nx + dd.size ≤ 16777216 := by have h1 := HNX.out; have h2 := HFP.out; omega
      obtain ⟨A3, n3, cp3, hvv⟩ := HI8.out.1.form2
      subst hvv
      have HSZ : Hid ((Rp.cells ⟨a, cs, HZ.out, HO.out, body, dd⟩).toArray.size = 16) := Lib.hid (by rw [List.size_toArray, Rp.is.len])
      obtain ⟨cz, hcz⟩ : ∃ cz, cz = (Rp.cells ⟨a, cs, HZ.out, HO.out, body, dd⟩).toArray := ⟨_, rfl⟩
      have HCZ : Hid (cz.toList = Rp.cells ⟨a, cs, HZ.out, HO.out, body, dd⟩) := Lib.hid (by rw [hcz])
      have HQ15 : Hid (∀ W g, Blk W g 39 cz → W.cell? ⟨g, 15, none⟩ = some (.string dd)) := Lib.hid fun W g h => by rw [hcz] at h; exact rp_c15 h
      rw [← hcz] at HP8 HSZ
      clear hcz
      go_wp2_with (first | (refine wpList_load_row rfl 39 (.tmp 14) rfl w4.heap.size rfl 39 cz (0, 0) _ HP8.out Tryd.underlying39 rfl (by rw [HSZ.out]; kernel_rfl) ?_) | (refine wpList_buildSlice1 rfl 29 39 (.tmp 135) rfl 16 cz rfl Tryd.underlying29 (by kernel_rfl) (by decide) (by decide) HSZ.out ?_) | (at_builtin; refine appC2 (q := 16) (by_ := 216) (cs := cz) (⟨a, cs, HZ.out, HO.out, body, dd⟩ : Rp) Rp.is Tryd.underlying29 (by kernel_rfl) (by decide) (by decide) rfl (.tmp 134) (.tmp 136) rfl rfl rfl HCZ.out HI8.out.1 (by have := HFP.out; omega) HI8.out.2.2.size ?_; intro v9 w9 hO9 hK9 hk9 hb9; obtain ⟨A9, n9, c9, rfl⟩ := hO9.form2; have HO9 := Lib.hid hO9; have HP9 := Lib.hid (hk9 _ _ _ HN5.out HP8.out); have HB9 := Lib.hid (HI8.out.2.2.trans hb9); have q2 := HQ15.out _ _ HP9.out; clear hO9 hK9 hk9 hb9))
      go_roundw
      case rel => exact ⟨de, g, _, l ++ [⟨a, cs, HZ.out, HO.out, body, dd⟩], m ++ [⟨a, G, body, dd⟩], HFP.out.1, by first | rfl | trivial, (by first | exact congrArg (Value.int .i64) HNX.out | rfl | trivial), Lib.hid ⟨HO9.out, HI8.out.2.1.snoc (p := ⟨a, cs, HZ.out, HO.out, body, dd⟩) (q := ⟨a, G, body, dd⟩) ⟨rfl, rfl, rfl, HC0.out⟩, HB9.out⟩, Lib.hid ⟨HR3.out, HFP.out.2.2.2, by rw [List.length_append]; exact HFP.out.2.2.1⟩⟩
      case measure => have h1 := HFP.out; have h2 := HNX.out; simp [intOf]; omega

end Go.Proofs.YthibnhgbgmpjoaaDoor
