/- Pieces of any segments and any data are joined to the document's bytes, or refused. No condition but the card's own: the table holds what the program's text lays. -/
import Derived.Test.YthibnhgbgmpjoaaDoorHMkR
import Derived.Test.YthibnhgbgmpjoaaDoorHInI
import Derived.Test.YthibnhgbgmpjoaaDoorHInC
import Derived.Test.YthibnhgbgmpjoaaDoorCards
import Derived.Test.YthibnhgbgmpjoaaDoorTie
import Derived.Deep.DeepHandedRow
import Derived.Lib.LaidTab
namespace Go.Proofs.YthibnhgbgmpjoaaDoor
open Go.RowKit
set_option linter.unusedSimpArgs false
set_option linter.unusedVariables false
set_option maxRecDepth 100000
def strC (s : ByteArray) : List Value := [.string s]
theorem strIs : CellsOf strC 1 := ⟨fun _ => rfl, fun x u hu => by simp only [strC, List.mem_cons, List.not_mem_nil, or_false] at hu; rcases hu with rfl; rfl⟩
theorem str_el {H : Type} {enc : TypeId × Value → H} {W : World} (m : Nat) (cs : List Value) (x : DataW H × List MemPlace) (h : DataW.trod enc Tryd.prog W 0 (fun _ => true) true m 9 cs = some x) : ∃ p, cs = strC p ∧ True := by
  obtain ⟨s, h1, _, _⟩ := DataW.trod_string Tryd.underlying9 h
  exact ⟨s, h1, trivial⟩
theorem strAt {w : World} {A : Option Addr} {l : List ByteArray} (h : RdC strC 1 w A l) {i : Nat} (hi : i < l.length) : ∃ g off, A = some ⟨g, off, none⟩ ∧ g < w.heap.size ∧ w.cell? ⟨g, off + i, none⟩ = some (.string l[i]) := by
  obtain ⟨g, off, h1, h2, h3⟩ := h.at1 hi
  have := h3 0 (by decide)
  rw [Nat.mul_one, Nat.add_zero] at this
  exact ⟨g, off, h1, h2, this⟩
theorem wpList_buildIJ {P : Program} {ops : Array Oper} {rest : List Oper} {o : Oper} {a : Act} {w : World} {Q : Exit → Act → World → Prop} {cells : Array Value} (hg : o.guard = none) (t : TypeId) (i j : Nat) (x y : Operand) (u v : Value) (ho : o.op = .build t #[(i, x), (j, y)])
    (hx : a.eval x = u) (hy : a.eval y = v) (hf : P.built t [(i, u), (j, v)] = some cells)
    (h : wpList P ops Q rest (a.put o.dst (.agg cells)) w) : wpList P ops Q (o :: rest) a w := by
  subst hx hy
  exact wpList_buildT hg t #[(i, x), (j, y)] ho (by simpa using hf) h
theorem pv0_built {T : TypeId} {y : Value} {d : ByteArray} : Tryd.prog.built 48 [(1, .iface T y), (2, .string d)] = some #[.int .i64 0, .iface T y, .string d] := by kernel_rfl
theorem rp0_built {b d : ByteArray} : Tryd.prog.built 39 [(2, .string b), (3, .string d)] = some #[.int .i64 0, .int .i64 (0), .string ⟨#[]⟩, .slice none 0 0, .slice none 0 0, .int .i64 0, .int .i64 0, .slice none 0 0, .slice none 0 0, .int .i64 0, .int .i64 0, .int .i64 0, .int .i64 0, .int .i64 0, .string b, .string d] := by kernel_rfl
theorem exec_seq8 {ρ : Operand → Value} {o : Oper} {w : World} {x y : Operand} {u : TypeId} {X Y : ByteArray} (ho : o.op = .binOp .eql 9 x y u) (hx : ρ x = .string X) (hy : ρ y = .string Y) (b : Bool) (hb : b = decide (X = Y)) : (execOp ρ o).run Tryd.prog w = .ok (.value (.bool b)) w := by
  have hb2 : (X.toList == Y.toList) = b := by
    rw [hb]
    by_cases h : X = Y
    · subst h; simp
    · rw [(Lib.bytes_beq_false_iff X Y).2 h, decide_eq_false h]
  subst hb2
  unfold execOp
  simp only [ho, hx, hy]
  go_simp
theorem exec_ieq8 {ρ : Operand → Value} {o : Oper} {w : World} {x y : Operand} {u : TypeId} {X Y : Int} (ho : o.op = .binOp .eql 3 x y u) (hx : ρ x = .int .i64 X) (hy : ρ y = .int .i64 Y) (b : Bool) (hb : b = decide (X = Y)) : (execOp ρ o).run Tryd.prog w = .ok (.value (.bool b)) w := by
  have hb2 : (X == Y) = b := by rw [hb]; rfl
  subst hb2
  unfold execOp
  simp only [ho, hx, hy]
  go_simp
/-- The document's piece of a code, a body and data. -/
def rpOf (c : Int) (b d : ByteArray) : Rp := ⟨0, SC c ⟨#[]⟩ nilS nilS 0 0 nilS nilS 0 0 0 0 0, rfl, sc_one _ _ _ _ _ _ _ _ _ _ _ _ _ rfl rfl rfl rfl, b, d⟩
theorem rpOf_cells (c : Int) (b d : ByteArray) : (rpOf c b d).cells = ((#[.int .i64 0, .int .i64 (c), .string ⟨#[]⟩, .slice none 0 0, .slice none 0 0, .int .i64 0, .int .i64 0, .slice none 0 0, .slice none 0 0, .int .i64 0, .int .i64 0, .int .i64 0, .int .i64 0, .int .i64 0, .string b, .string d] : Array Value)).toList := rfl
/-- The program's pieces and the document's, both of the law's own. -/
structure MJ (base : Nat) (v1 : Value) (l : List Pv) (v2 : Value) (r : List Rp) (m : List Pc) (W : World) : Prop where
  a : OwnC Pv.cells 3 W base 48 v1 l
  p : PcV W base l m
  b : OwnC Rp.cells 16 W base 39 v2 r
theorem MJ.bel {base : Nat} {v1 v2 : Value} {l : List Pv} {r : List Rp} {m : List Pc} {W W' : World} (h : MJ base v1 l v2 r m W) (hb : Below W.heap.size W W') : MJ base v1 l v2 r m W' := ⟨h.a.bel hb, h.p.bel hb, h.b.bel hb⟩
theorem MJ.apt {base g : Nat} {v1 v2 : Value} {l : List Pv} {r : List Rp} {m : List Pc} {W W' : World} {old : Array Value} (h : MJ base v1 l v2 r m W) (ha : Apt g W W') (hB : Blk W g 39 old) (hne : v2.ownBlock ≠ some g) : MJ base v1 l v2 r m W' :=
  ⟨h.a.apt ha (h.a.neT hB (by decide)), h.p.keep fun e he g' cs hb => Blk.apt hb ha (hb.ne hB (by rcases he with rfl | rfl | rfl | rfl <;> decide)), h.b.apt ha hne⟩
theorem MJ.app1 {base : Nat} {v1 v1' v2 : Value} {l l' : List Pv} {r : List Rp} {m m' : List Pc} {W W' : World} (h : MJ base v1 l v2 r m W) (ha : OwnC Pv.cells 3 W' base 48 v1' l') (hp : PcV W base l' m') (hk : KeepT 48 W W') : MJ base v1' l' v2 r m' W' :=
  ⟨ha, hp.keepT hk (by decide) (by decide) (by decide) (by decide), h.b.keep fun g cs hB => hk g _ cs (by decide) hB⟩
theorem MJ.app2 {base : Nat} {v1 v2 v2' : Value} {l : List Pv} {r r' : List Rp} {m : List Pc} {W W' : World} (h : MJ base v1 l v2 r m W) (ha : OwnC Rp.cells 16 W' base 39 v2' r') (hk : KeepT 39 W W') : MJ base v1 l v2' r' m W' :=
  ⟨h.a.keep fun g cs hB => hk g _ cs (by decide) hB, h.p.keepT hk (by decide) (by decide) (by decide) (by decide), ha⟩
theorem apt_of {g : Nat} {w w' : World} (hb : Below g w w') (hs : w'.heap.size = w.heap.size) (ho : ∀ i, i ≠ g → w'.heap[i]? = w.heap[i]?) : Apt g w w' := ⟨hb.os, hb.tape, hb.output, hs, ho⟩
set_option maxHeartbeats 1000000 in
theorem mj_big1 (A B D : Option Addr) (n ca cb cd : Nat) (f : Nat → Int) (lb ld : List ByteArray) (w : World) (hL : Laid w) (h1 : 20 < n) : Calls Tryd.prog 6 #[.slice A n ca, .slice B lb.length cb, .slice D ld.length cd] w fun e w' => e = .returned (.bool true) ∧ Below w.heap.size w w' := by
  have HL := Lib.hid hL; clear hL
  obtain ⟨nb, hnb⟩ : ∃ z, z = lb.length := ⟨_, rfl⟩
  obtain ⟨nd, hnd⟩ : ∃ z, z = ld.length := ⟨_, rfl⟩
  rw [← hnb, ← hnd]
  have d1 : decide ((20 : Int) < (n : Int)) = true := by simp; omega
  clear hnb hnd
  go_enter Tryd.func6, Tryd.ntmps6
  go_wp2_with (first | (go_at_call 7; have HB0 := Lib.hid HB.out; refine (awake8 _ (HL.out.below HB.out)).mono ?_; rintro ex w2 ⟨rfl, hb2⟩; have HB2 := Lib.hid (HB.out.trans (hb2.mono HB.out.size)); clear hb2) | (go_at_call 7; refine (awake8 _ HL.out).mono ?_; rintro ex w1 ⟨rfl, hb1⟩; have HB := Lib.hid hb1; clear hb1))
  go_ret
  exact ⟨rfl, HB2.out⟩
set_option maxHeartbeats 1000000 in
theorem mj_big2 (A B D : Option Addr) (n ca cb cd : Nat) (f : Nat → Int) (lb ld : List ByteArray) (w : World) (hL : Laid w) (h1 : n ≤ 20) (h2 : lb.length < n) : Calls Tryd.prog 6 #[.slice A n ca, .slice B lb.length cb, .slice D ld.length cd] w fun e w' => e = .returned (.bool true) ∧ Below w.heap.size w w' := by
  have HL := Lib.hid hL; clear hL
  obtain ⟨nb, hnb⟩ : ∃ z, z = lb.length := ⟨_, rfl⟩
  obtain ⟨nd, hnd⟩ : ∃ z, z = ld.length := ⟨_, rfl⟩
  rw [← hnb, ← hnd]
  have d1 : decide ((20 : Int) < (n : Int)) = false := by simp; omega
  have d2 : decide (nb < n) = true := by simp; omega
  clear hnb hnd
  go_enter Tryd.func6, Tryd.ntmps6
  go_wp2_with (first | (go_at_call 7; have HB0 := Lib.hid HB.out; refine (awake8 _ (HL.out.below HB.out)).mono ?_; rintro ex w2 ⟨rfl, hb2⟩; have HB2 := Lib.hid (HB.out.trans (hb2.mono HB.out.size)); clear hb2) | (go_at_call 7; refine (awake8 _ HL.out).mono ?_; rintro ex w1 ⟨rfl, hb1⟩; have HB := Lib.hid hb1; clear hb1))
  go_ret
  exact ⟨rfl, HB2.out⟩
set_option maxHeartbeats 1000000 in
theorem mj_big3 (A B D : Option Addr) (n ca cb cd : Nat) (f : Nat → Int) (lb ld : List ByteArray) (w : World) (hL : Laid w) (h1 : n ≤ 20) (h2 : n ≤ lb.length) (h3 : ld.length < n) : Calls Tryd.prog 6 #[.slice A n ca, .slice B lb.length cb, .slice D ld.length cd] w fun e w' => e = .returned (.bool true) ∧ Below w.heap.size w w' := by
  have HL := Lib.hid hL; clear hL
  obtain ⟨nb, hnb⟩ : ∃ z, z = lb.length := ⟨_, rfl⟩
  obtain ⟨nd, hnd⟩ : ∃ z, z = ld.length := ⟨_, rfl⟩
  rw [← hnb, ← hnd]
  have d1 : decide ((20 : Int) < (n : Int)) = false := by simp; omega
  have d2 : decide (nb < n) = false := by simp; omega
  have d3 : decide (nd < n) = true := by simp; omega
  clear hnb hnd
  go_enter Tryd.func6, Tryd.ntmps6
  go_wp2_with (first | (go_at_call 7; have HB0 := Lib.hid HB.out; refine (awake8 _ (HL.out.below HB.out)).mono ?_; rintro ex w2 ⟨rfl, hb2⟩; have HB2 := Lib.hid (HB.out.trans (hb2.mono HB.out.size)); clear hb2) | (go_at_call 7; refine (awake8 _ HL.out).mono ?_; rintro ex w1 ⟨rfl, hb1⟩; have HB := Lib.hid hb1; clear hb1))
  go_ret
  exact ⟨rfl, HB2.out⟩
set_option maxHeartbeats 0 in
theorem mj_in (A B D : Option Addr) (n ca cb cd : Nat) (f : Nat → Int) (lb ld : List ByteArray) (w : World) (hL : Laid w) (hA : InI w A n f) (hB : RdC strC 1 w B lb) (hD : RdC strC 1 w D ld) (hn : n ≤ 20) (hnb : n ≤ lb.length) (hnd : n ≤ ld.length) : Calls Tryd.prog 6 #[.slice A n ca, .slice B lb.length cb, .slice D ld.length cd] w fun e w' => e = .returned (.bool true) ∧ Below w.heap.size w w' := by
  have HL := Lib.hid hL; have HA := Lib.hid hA; have HBB := Lib.hid hB; have HDD := Lib.hid hD
  have HNB := Lib.hid hnb; have HND := Lib.hid hnd
  obtain ⟨nb, hnb2⟩ : ∃ z, z = lb.length := ⟨_, rfl⟩
  obtain ⟨nd, hnd2⟩ : ∃ z, z = ld.length := ⟨_, rfl⟩
  rw [← hnb2, ← hnd2]
  rw [← hnb2] at hnb
  rw [← hnd2] at hnd
  have HNB9 := Lib.hid hnb; have HND9 := Lib.hid hnd
  clear hL hA hB hD hnb2 hnd2
  have d1 : decide ((20 : Int) < (n : Int)) = false := by simp; omega
  have d2 : decide (nb < n) = false := by simp; omega
  have d3 : decide (nd < n) = false := by simp; omega
  go_enter Tryd.func6, Tryd.ntmps6
  go_upto_region 3 with (first | (go_at_call 7; have HB0 := Lib.hid HB.out; refine (awake8 _ (HL.out.below HB.out)).mono ?_; rintro ex w2 ⟨rfl, hb2⟩; have HB2 := Lib.hid (HB.out.trans (hb2.mono HB.out.size)); clear hb2) | (go_at_call 7; refine (awake8 _ HL.out).mono ?_; rintro ex w1 ⟨rfl, hb1⟩; have HB := Lib.hid hb1; clear hb1))
  have HLW := Lib.hid (HL.out.below HB.out)
  go_wp2_with fail
  clear hnb hnd d1 d2 d3
  go_loopw [7, 8, 9, 10] (fun t7 t8 t9 t10 wr => ∃ (k S : Nat) (v1 v2 : Value) (l : List Pv) (r : List Rp) (m : List Pc), k ≤ n ∧ t7 = v1 ∧ t8 = v2 ∧ t9 = .int .i64 S ∧ t10 = .int .i64 k ∧ S ≤ 16000 * k ∧ Hid (MJ w1.heap.size v1 l v2 r m wr) ∧ Hid (RpV r m ∧ (m.length = k ∧ (∀ p ∈ m, Ps p) ∧ lenP m = S + 4 * k) ∧ Below w1.heap.size w1 wr ∧ Below w.heap.size w wr)) (fun _ _ _ i _ => n - (intOf i).toNat)
  case atStart => exact ⟨0, 0, _, _, [], [], [], by omega, rfl, rfl, rfl, rfl, by omega, Lib.hid ⟨OwnC.nil _ _ _, PcV.nil _ _, OwnC.nil _ _ _⟩, Lib.hid ⟨RpV.nil, ⟨rfl, (fun p hp => by cases hp), rfl⟩, Below.refl _ _, HB.out⟩⟩
  case round =>
    obtain ⟨k, S, v1, v2, l, r, m, hk, hv1, hv2, rfl, rfl, hS, HOO, HI⟩ := hrel
    obtain rfl := hv1.symm
    obtain rfl := hv2.symm
    by_cases hkl : k < n
    case pos =>
      obtain ⟨ga, oa, rfl, hga, hqa, hwf⟩ := HA.out k hkl
      obtain ⟨gb, ob, rfl, hgb, hqb⟩ := strAt HBB.out (Nat.lt_of_lt_of_le hkl HNB.out)
      obtain ⟨gd, od, rfl, hgd, hqd⟩ := strAt HDD.out (Nat.lt_of_lt_of_le hkl HND.out)
      obtain ⟨c, hc⟩ : ∃ z, z = f k := ⟨_, rfl⟩
      obtain ⟨b, hb⟩ : ∃ z, z = lb[k]'(Nat.lt_of_lt_of_le hkl HNB.out) := ⟨_, rfl⟩
      obtain ⟨d, hd⟩ : ∃ z, z = ld[k]'(Nat.lt_of_lt_of_le hkl HND.out) := ⟨_, rfl⟩
      rw [← hc] at hqa hwf
      rw [← hb] at hqb
      rw [← hd] at hqd
      have HQ0 := Lib.hid hqa; have HQ1 := Lib.hid hqb; have HQ2 := Lib.hid hqd
      have hnb : k < nb := by have := HNB9.out; omega
      have hnd : k < nd := by have := HND9.out; omega
      clear hqa hqb hqd
      have hqa : wr.cell? ⟨ga, oa + k, none⟩ = some (.int .i64 c) := (HI.out.2.2.2.cell (p := ⟨ga, oa + k, none⟩) hga).trans HQ0.out
      have hqb : wr.cell? ⟨gb, ob + k, none⟩ = some (.string b) := (HI.out.2.2.2.cell (p := ⟨gb, ob + k, none⟩) hgb).trans HQ1.out
      have hqd : wr.cell? ⟨gd, od + k, none⟩ = some (.string d) := (HI.out.2.2.2.cell (p := ⟨gd, od + k, none⟩) hgd).trans HQ2.out
      clear hc hb hd hwf
      by_cases hbz : 8000 < b.size
      case pos =>
        have d1 : decide ((8000 : Int) < (b.size : Int)) = true := by simp; omega
        go_wp2_with fail
        go_ret
        exact ⟨rfl, HI.out.2.2.2⟩
      case neg =>
      by_cases hdz : 8000 < d.size
      case pos =>
        have d1 : decide ((8000 : Int) < (b.size : Int)) = false := by simp; omega
        have d2 : decide ((8000 : Int) < (d.size : Int)) = true := by simp; omega
        go_wp2_with fail
        go_ret
        exact ⟨rfl, HI.out.2.2.2⟩
      case neg =>
      have d1 : decide ((8000 : Int) < (b.size : Int)) = false := by simp; omega
      have d2 : decide ((8000 : Int) < (d.size : Int)) = false := by simp; omega
      have HPA := Lib.hid (fun W hW => parse_walk c b W hW)
      unfold ParsePost at HPA
      have hpb := parse_back (c := c) (s := b)
      have hps := ps_mk (c := c) (b := b) (d := d)
      obtain ⟨er, her⟩ : ∃ z, z = prE c b := ⟨_, rfl⟩
      obtain ⟨G, hG⟩ : ∃ z, z = prG c b := ⟨_, rfl⟩
      rw [← her, ← hG] at HPA hps
      rw [← her, ← hG] at hpb
      have hcd : er = 0 → sgC G = c := fun h => (hpb h).1
      have HCD := Lib.hid hcd; have HPS := Lib.hid hps
      clear hpb hcd hps her hG
      go_upto_region 11 with fail
      clear d1 d2 hqa hqb hqd
      refine region_plan (.run [0, 1, 2, 3, 4, 5, 6, 7, 8, 9, 10, 11, 12] (.run [13] .fin)) (fun w' => True) (by kernel_rfl) trivial ?_
      intro wd hwd
      have hbd : Below w.heap.size w wd := hwd ▸ HI.out.2.2.2.drew
      have q0 : wd.cell? ⟨ga, oa + k, none⟩ = some (.int .i64 c) := (hbd.cell (p := ⟨ga, oa + k, none⟩) hga).trans HQ0.out
      have q1 : wd.cell? ⟨gb, ob + k, none⟩ = some (.string b) := (hbd.cell (p := ⟨gb, ob + k, none⟩) hgb).trans HQ1.out
      have q2 : wd.cell? ⟨gd, od + k, none⟩ = some (.string d) := (hbd.cell (p := ⟨gd, od + k, none⟩) hgd).trans HQ2.out
      have HBd := Lib.hid hbd
      have HBr := Lib.hid (show Below wr.heap.size wr wd from hwd ▸ (Below.refl _ wr).drew)
      clear hbd
      clear hwd
      refine plan_run fun m hm => ?_
      simp only [pickO, List.filterMap_cons, List.filterMap_nil, List.getElem?_toArray, List.getElem?_cons_zero, List.getElem?_cons_succ] at hm
      subst hm
      go_wp2_with fail
      refine ⟨rfl, by rfl, ?_⟩
      refine plan_run fun m hm => ?_
      simp only [pickO, List.filterMap_cons, List.filterMap_nil, List.getElem?_toArray, List.getElem?_cons_zero, List.getElem?_cons_succ] at hm
      subst hm
      go_wp2_with fail
      refine ⟨rfl, by rfl, ?_⟩
      refine plan_fin ?_
      go_upto_region 12 with fail
      clear q0 q1 q2
      refine region_plan (.run [0, 1, 2, 3, 4, 5, 6, 7] (.ev 8 (.run [9, 10, 11, 12, 13] .fin))) (fun w' => True) (by kernel_rfl) trivial ?_
      intro wd2 hwd
      have hbd : Below w.heap.size w wd2 := hwd ▸ HBd.out.drew
      have q0 : wd2.cell? ⟨ga, oa + k, none⟩ = some (.int .i64 c) := (hbd.cell (p := ⟨ga, oa + k, none⟩) hga).trans HQ0.out
      have q1 : wd2.cell? ⟨gb, ob + k, none⟩ = some (.string b) := (hbd.cell (p := ⟨gb, ob + k, none⟩) hgb).trans HQ1.out
      have q2 : wd2.cell? ⟨gd, od + k, none⟩ = some (.string d) := (hbd.cell (p := ⟨gd, od + k, none⟩) hgd).trans HQ2.out
      have HBd2 := Lib.hid hbd
      have HBr2 := Lib.hid (show Below wr.heap.size wr wd2 from hwd ▸ HBr.out.drew)
      clear hbd
      clear hwd
      refine plan_run fun m hm => ?_
      simp only [pickO, List.filterMap_cons, List.filterMap_nil, List.getElem?_toArray, List.getElem?_cons_zero, List.getElem?_cons_succ] at hm
      subst hm
      go_wp2_with fail
      refine ⟨rfl, by rfl, ?_⟩
      refine plan_ev fun m hm => ?_
      simp only [pickO, List.filterMap_cons, List.filterMap_nil, List.getElem?_toArray, List.getElem?_cons_zero, List.getElem?_cons_succ] at hm
      subst hm
      go_wp2_with (go_at_call 14; refine (HPA.out _ (HL.out.below HBd2.out)).mono ?_; rintro ex w5 ⟨v5, rfl, hv5, hn5, hb5⟩; have HV5 := Lib.hid hv5; have HN5 := Lib.hid hn5; have HB5 := Lib.hid (HBd2.out.trans (hb5.mono HBd2.out.size)); have HBr5 := Lib.hid (HBr2.out.trans (hb5.mono HBr2.out.size)); clear hv5 hn5 hb5 q0 q1 q2)
      refine ⟨rfl, trivial, ?_⟩
      try simp only [Act.put, List.setIfInBounds_toArray, List.set_cons_zero, List.set_cons_succ]
      refine plan_run fun m hm => ?_
      simp only [pickO, List.filterMap_cons, List.filterMap_nil, List.getElem?_toArray, List.getElem?_cons_zero, List.getElem?_cons_succ] at hm
      subst hm
      go_wp2_with fail
      refine ⟨rfl, by rfl, ?_⟩
      refine plan_fin ?_
      by_cases her : er = 0
      case neg =>
        have d1 : (er != 0) = true := by simpa using her
        clear her
        go_wp2_with fail
        go_ret
        exact ⟨rfl, HB5.out⟩
      case pos =>
      obtain rfl := her
      have hbase : w1.heap.size ≤ wd2.heap.size := Nat.le_trans HI.out.2.2.1.size HBr2.out.size
      have HVG : Hid (SgV w5 w1.heap.size v5 G) := Lib.hid ((HV5.out rfl).mono hbase)
      obtain ⟨T, y, hTy⟩ := HVG.out.form
      subst hTy
      have hq2 := (HB5.out.cell (p := ⟨gd, od + k, none⟩) hgd).trans HQ2.out
      obtain ⟨PC, hPC⟩ : ∃ z : Pc, z = ⟨0, G, b, d⟩ := ⟨_, rfl⟩
      obtain ⟨PV, hPV⟩ : ∃ z : Pv, z = ⟨0, T, y, d⟩ := ⟨_, rfl⟩
      have HPC := Lib.hid hPC; have HPV0 := Lib.hid hPV
      have HMJ := Lib.hid (HOO.out.bel HBr5.out)
      have hB15 := HI.out.2.2.1.trans (HBr5.out.mono HI.out.2.2.1.size)
      have HB15 := Lib.hid hB15
      have hll : l.length < 1000000000 := by rw [HMJ.out.p.1, HI.out.2.1.1]; omega
      have hrl : r.length < 1000000000 := by rw [HI.out.1.1, HI.out.2.1.1]; omega
      have HLL := Lib.hid hll; have HRL := Lib.hid hrl
      have HPVC := Lib.hid (show (#[Value.int .i64 0, .iface T y, .string d] : Array Value).toList = Pv.cells PV by rw [hPV]; rfl)
      have HPN : Hid (PcV w5 w1.heap.size (l ++ [PV]) (m ++ [PC])) := Lib.hid (HMJ.out.p.snoc (by rw [hPV, hPC]) (by rw [hPV, hPC]) (by rw [hPV, hPC]; exact HVG.out))
      clear hPC hPV hll hrl HOO HV5 HN5 HPA hB15
      obtain ⟨A1, n1, cp1, hvv1⟩ := HMJ.out.a.form2
      subst hvv1
      go_upto_region 16 with (first | (refine wpList_buildIJ rfl 48 1 2 (.tmp 92) (.tmp 96) (.iface T y) (.string d) rfl rfl rfl pv0_built ?_) | (refine wpList_buildSlice1 rfl 23 48 (.tmp 97) rfl 3 #[.int .i64 0, .iface T y, .string d] rfl Tryd.underlying23 (by kernel_rfl) (by decide) (by decide) rfl ?_) | (at_builtin; refine appC2 (q := 3) (by_ := 40) (cs := #[.int .i64 0, .iface T y, .string d]) PV Pv.is Tryd.underlying23 (by kernel_rfl) (by decide) (by decide) rfl (.tmp 91) (.tmp 98) rfl rfl rfl HPVC.out HMJ.out.a HLL.out HB15.out.size ?_; intro v6 w6 hO6 hK6 hk6 hb6; obtain ⟨A6, n6, c6, rfl⟩ := hO6.form2; have HM6 := Lib.hid (HMJ.out.app1 hO6 HPN.out hK6); have HBw6 := Lib.hid (HB15.out.trans hb6); clear hO6 hK6 hk6 hb6 hq2))
      have HB6 : Hid (Below w.heap.size w w6) := Lib.hid (HB.out.trans (HBw6.out.mono HB.out.size))
      have hbS : Below w.heap.size w w6.drew := HB6.out.drew
      clear HMJ HPN HVG HB5 HBr5 HBd2 HBr2 HBd HBr HB15
      refine region_plan (.run [0, 1, 2] (.held 3 (.run [4, 5, 6] (.held 7 (.run [8] (.ev 9 (.ev 10 .fin))))))) (fun w' => w'.cell? ⟨gb, ob + k, none⟩ = some (.string b) ∧ w'.cell? ⟨gd, od + k, none⟩ = some (.string d)) (by kernel_rfl) ⟨(hbS.cell (p := ⟨gb, ob + k, none⟩) hgb).trans HQ1.out, (hbS.cell (p := ⟨gd, od + k, none⟩) hgd).trans HQ2.out⟩ ?_
      intro wd3 hwd
      have HBd3 := Lib.hid (show Below w.heap.size w wd3 from hwd ▸ hbS)
      have HBw7 := Lib.hid (belowD HBw6.out hwd)
      have HM7 : Hid (MJ w1.heap.size (.slice A6 n6 c6) (l ++ [PV]) v2 r (m ++ [PC]) wd3) := Lib.hid (HM6.out.bel (hwd ▸ (Below.refl _ w6).drew))
      have HG : Hid (w6.heap.size ≤ wd3.heap.size) := Lib.hid (by rw [hwd]; exact Nat.le_refl _)
      have HNE := Lib.hid (HM7.out.b.ne (Nat.le_refl _))
      have HA7 : Hid (Below wd3.heap.size wd3 (wd3.alloc (.cells #[.int .i64 0, .int .i64 (0), .string ⟨#[]⟩, .slice none 0 0, .slice none 0 0, .int .i64 0, .int .i64 0, .slice none 0 0, .slice none 0 0, .int .i64 0, .int .i64 0, .int .i64 0, .int .i64 0, .int .i64 0, .string ⟨#[]⟩, .string ⟨#[]⟩] 39)) ∧ Blk (wd3.alloc (.cells #[.int .i64 0, .int .i64 (0), .string ⟨#[]⟩, .slice none 0 0, .slice none 0 0, .int .i64 0, .int .i64 0, .slice none 0 0, .slice none 0 0, .int .i64 0, .int .i64 0, .int .i64 0, .int .i64 0, .int .i64 0, .string ⟨#[]⟩, .string ⟨#[]⟩] 39)) wd3.heap.size 39 #[.int .i64 0, .int .i64 (0), .string ⟨#[]⟩, .slice none 0 0, .slice none 0 0, .int .i64 0, .int .i64 0, .slice none 0 0, .slice none 0 0, .int .i64 0, .int .i64 0, .int .i64 0, .int .i64 0, .int .i64 0, .string ⟨#[]⟩, .string ⟨#[]⟩]) := Lib.hid ⟨(Below.refl _ _).alloc (Nat.le_refl _) _, Blk.new _ _ _⟩
      have HBA := Lib.hid (HBd3.out.trans (HA7.out.1.mono HBd3.out.size))
      clear hbS
      clear hwd
      refine plan_run fun m hm => ?_
      simp only [pickO, List.filterMap_cons, List.filterMap_nil, List.getElem?_toArray, List.getElem?_cons_zero, List.getElem?_cons_succ] at hm
      subst hm
      go_wp2_with fail
      refine ⟨rfl, by rfl, ?_⟩
      refine plan_held (o := ⟨some 103, _, _, _, _, _⟩) (v := .string b) rfl (by rfl) (fun w' hS => ?_) ?_
      · obtain ⟨hS1, hS2⟩ := hS; go_simp
      try simp only [Act.put, List.setIfInBounds_toArray, List.set_cons_zero, List.set_cons_succ]
      refine plan_run fun m hm => ?_
      simp only [pickO, List.filterMap_cons, List.filterMap_nil, List.getElem?_toArray, List.getElem?_cons_zero, List.getElem?_cons_succ] at hm
      subst hm
      go_wp2_with fail
      refine ⟨rfl, by rfl, ?_⟩
      refine plan_held (o := ⟨some 107, _, _, _, _, _⟩) (v := .string d) rfl (by rfl) (fun w' hS => ?_) ?_
      · obtain ⟨hS1, hS2⟩ := hS; go_simp
      try simp only [Act.put, List.setIfInBounds_toArray, List.set_cons_zero, List.set_cons_succ]
      refine plan_run fun m hm => ?_
      simp only [pickO, List.filterMap_cons, List.filterMap_nil, List.getElem?_toArray, List.getElem?_cons_zero, List.getElem?_cons_succ] at hm
      subst hm
      go_wp2_with (refine wpList_buildIJ rfl 39 2 3 (.tmp 103) (.tmp 107) (.string b) (.string d) rfl rfl rfl rp0_built ?_)
      refine ⟨rfl, by rfl, ?_⟩
      refine plan_ev fun m hm => ?_
      simp only [pickO, List.filterMap_cons, List.filterMap_nil, List.getElem?_toArray, List.getElem?_cons_zero, List.getElem?_cons_succ] at hm
      subst hm
      go_wp2_with fail
      refine ⟨rfl, ⟨(HBA.out.cell (p := ⟨gb, ob + k, none⟩) hgb).trans HQ1.out, (HBA.out.cell (p := ⟨gd, od + k, none⟩) hgd).trans HQ2.out⟩, ?_⟩
      try simp only [Act.put, List.setIfInBounds_toArray, List.set_cons_zero, List.set_cons_succ]
      refine plan_ev fun m hm => ?_
      simp only [pickO, List.filterMap_cons, List.filterMap_nil, List.getElem?_toArray, List.getElem?_cons_zero, List.getElem?_cons_succ] at hm
      subst hm
      refine wpList_store_far rfl 39 (.tmp 13) (.tmp 108) rfl wd3.heap.size #[.int .i64 0, .int .i64 (0), .string ⟨#[]⟩, .slice none 0 0, .slice none 0 0, .int .i64 0, .int .i64 0, .slice none 0 0, .slice none 0 0, .int .i64 0, .int .i64 0, .int .i64 0, .int .i64 0, .int .i64 0, .string b, .string d] #[.int .i64 0, .int .i64 (0), .string ⟨#[]⟩, .slice none 0 0, .slice none 0 0, .int .i64 0, .int .i64 0, .slice none 0 0, .slice none 0 0, .int .i64 0, .int .i64 0, .int .i64 0, .int .i64 0, .int .i64 0, .string ⟨#[]⟩, .string ⟨#[]⟩] 39 rfl rfl HA7.out.2 (by kernel_rfl) rfl (by simp [Value.oneCell']) ?_
      intro wS hS2 hf hb hsz hoth
      have HBS := Lib.hid (hb w.heap.size w HBd3.out.size HBA.out)
      have HBS1 := Lib.hid (hb w1.heap.size w1 HBw7.out.size (HBw7.out.trans (HA7.out.1.mono HBw7.out.size)))
      have HMS := Lib.hid ((HM7.out.bel HA7.out.1).apt (apt_of (hb wd3.heap.size _ (Nat.le_refl _) (Below.refl _ _)) hsz hoth) HA7.out.2 HNE.out)
      clear hf hb hsz hoth
      go_wp2_with fail
      refine ⟨rfl, ⟨(HBS.out.cell (p := ⟨gb, ob + k, none⟩) hgb).trans HQ1.out, (HBS.out.cell (p := ⟨gd, od + k, none⟩) hgd).trans HQ2.out⟩, ?_⟩
      try simp only [Act.put, List.setIfInBounds_toArray, List.set_cons_zero, List.set_cons_succ]
      refine plan_fin ?_
      have hc1 := hS2.cell 1
      have hf1 := hS2.frozen 1
      have hcc : wS.cell? ⟨ga, oa + k, none⟩ = some (.int .i64 c) := (HBS.out.cell (p := ⟨ga, oa + k, none⟩) hga).trans HQ0.out
      have HS2 := Lib.hid hS2
      clear hS2
      go_upto_region 18 with fail
      have HSU : Hid (Blk (wS.setCell ⟨wd3.heap.size, 1, none⟩ (.int .i64 c)) wd3.heap.size 39 #[.int .i64 0, .int .i64 (c), .string ⟨#[]⟩, .slice none 0 0, .slice none 0 0, .int .i64 0, .int .i64 0, .slice none 0 0, .slice none 0 0, .int .i64 0, .int .i64 0, .int .i64 0, .int .i64 0, .int .i64 0, .string b, .string d]) := Lib.hid (HS2.out.set_ 1 _)
      have HMU : Hid (MJ w1.heap.size (.slice A6 n6 c6) (l ++ [PV]) v2 r (m ++ [PC]) (wS.setCell ⟨wd3.heap.size, 1, none⟩ (.int .i64 c))) := Lib.hid (HMS.out.apt (Apt.set wS ⟨wd3.heap.size, 1, none⟩ _) HS2.out HNE.out)
      have HBU : Hid (Below w.heap.size w (wS.setCell ⟨wd3.heap.size, 1, none⟩ (.int .i64 c)) ∧ Below w1.heap.size w1 (wS.setCell ⟨wd3.heap.size, 1, none⟩ (.int .i64 c))) := Lib.hid ⟨HBS.out.setCell (Nat.le_trans HB6.out.size HG.out) _, HBS1.out.setCell (Nat.le_trans HBw6.out.size HG.out) _⟩
      obtain ⟨wU, hwU⟩ : ∃ z, z = wS.setCell ⟨wd3.heap.size, 1, none⟩ (.int .i64 c) := ⟨_, rfl⟩
      rw [← hwU] at HSU HMU HBU ⊢
      clear hwU hc1 hf1 hcc HS2 HMS
      obtain ⟨A2, n2, cp2, hvv2⟩ := HMU.out.b.form2
      subst hvv2
      go_wp2_with (first | (refine wpList_load_row rfl 39 (.tmp 13) rfl wd3.heap.size rfl 39 #[.int .i64 0, .int .i64 (c), .string ⟨#[]⟩, .slice none 0 0, .slice none 0 0, .int .i64 0, .int .i64 0, .slice none 0 0, .slice none 0 0, .int .i64 0, .int .i64 0, .int .i64 0, .int .i64 0, .int .i64 0, .string b, .string d] (0, 0) _ HSU.out Tryd.underlying39 rfl (by kernel_rfl) ?_) | (refine wpList_buildSlice1 rfl 29 39 (.tmp 116) rfl 16 #[.int .i64 0, .int .i64 (c), .string ⟨#[]⟩, .slice none 0 0, .slice none 0 0, .int .i64 0, .int .i64 0, .slice none 0 0, .slice none 0 0, .int .i64 0, .int .i64 0, .int .i64 0, .int .i64 0, .int .i64 0, .string b, .string d] rfl Tryd.underlying29 (by kernel_rfl) (by decide) (by decide) rfl ?_) | (at_builtin; refine appC2 (q := 16) (by_ := 216) (cs := #[.int .i64 0, .int .i64 (c), .string ⟨#[]⟩, .slice none 0 0, .slice none 0 0, .int .i64 0, .int .i64 0, .slice none 0 0, .slice none 0 0, .int .i64 0, .int .i64 0, .int .i64 0, .int .i64 0, .int .i64 0, .string b, .string d]) (rpOf c b d) Rp.is Tryd.underlying29 (by kernel_rfl) (by decide) (by decide) rfl (.tmp 115) (.tmp 117) rfl rfl rfl (rpOf_cells c b d).symm HMU.out.b HRL.out HBU.out.2.size ?_; intro v9 w9 hO9 hK9 hk9 hb9; obtain ⟨A9, n9, c9, rfl⟩ := hO9.form2; have HM9 := Lib.hid (HMU.out.app2 hO9 hK9); have HB9 := Lib.hid (HBU.out.2.trans hb9); clear hO9 hK9 hk9 hb9))
      go_roundw
      case rel => exact ⟨k + 1, S + b.size + d.size, _, _, l ++ [PV], r ++ [rpOf c b d], m ++ [PC], by omega, rfl, rfl, by go_num, by go_num, by omega, HM9, Lib.hid ⟨HI.out.1.snoc (p := rpOf c b d) (q := PC) (by rw [HPC.out]; exact ⟨rfl, rfl, rfl, by show (rpOf c b d).cs[0]? = some (.int .i64 (sgC G)); rw [HCD.out (by trivial)]; rfl⟩), ⟨by rw [List.length_append, HI.out.2.1.1]; rfl, (fun p hp => by rcases List.mem_append.1 hp with hp | hp; exact HI.out.2.1.2.1 p hp; rw [List.mem_singleton.1 hp, HPC.out]; exact HPS.out (by trivial)), by rw [lenP_snoc, HI.out.2.1.2.2, HPC.out]; dsimp only; omega⟩, HB9.out, HB.out.trans (HB9.out.mono HB.out.size)⟩⟩
      case measure => simp [intOf]; omega
    case neg =>
      obtain rfl : n = k := by omega
      by_cases hS2 : 8000 < S
      case pos =>
        have d1 : decide ((8000 : Int) < (S : Int)) = true := by simp; omega
        clear hS hS2
        go_wp2_with fail
        go_ret
        exact ⟨rfl, HI.out.2.2.2⟩
      case neg =>
      have d1 : decide ((8000 : Int) < (S : Int)) = false := by simp; omega
      obtain ⟨A1, cp1, hw1, _⟩ := HOO.out.a.form
      subst hw1
      obtain ⟨A2, cp2, hw2, _⟩ := HOO.out.b.form
      subst hw2
      have hln : l.length = n := by rw [HOO.out.p.1, HI.out.2.1.1]
      have hrn : r.length = n := by rw [HI.out.1.1, HI.out.2.1.1]
      have hpm := HI.out.2.1.2.1
      have hlp := HI.out.2.1.2.2
      have HJ := Lib.hid (join_walk wr (HL.out.below HI.out.2.2.2) _ A1 cp1 l m HOO.out.a HOO.out.p (by omega) (ps_ok hpm) (by rw [jnL_ps hpm, joinL_len]; omega))
      unfold JnPost at HJ
      have HPM := Lib.hid hpm
      have hz6 : lenP m ≤ 1000000 := by omega
      have hr6 : r.length ≤ 1000 := by omega
      have HZ6 := Lib.hid hz6; have HR6 := Lib.hid hr6; have HRN := Lib.hid hrn; have HBI := Lib.hid HI.out.2.2.2; have HRV := Lib.hid HI.out.1; have HMN := Lib.hid HI.out.2.1.1
      clear hln hrn hpm hlp hz6 hr6 hS hS2
      go_upto_region 22 with (go_at_call 12; refine (HJ.out).mono ?_; rintro ex w3 ⟨s3, er, rfl, hc3, hb3⟩; have HC3 := Lib.hid hc3; have HM3 := Lib.hid (HOO.out.bel hb3); have HB3 := Lib.hid (HBI.out.trans (hb3.mono HBI.out.size)); clear hc3 hb3)
      clear d1
      have HJD := Lib.hid (joined_walk w3 _ A2 cp2 r m HM3.out.b HRV.out HR6.out HPM.out HZ6.out)
      obtain ⟨F, hF⟩ : ∃ z : ByteArray, z = ⟨(joinL m).toArray⟩ := ⟨_, rfl⟩
      rw [← hF] at HJD
      have hFj : jnS m = F := by rw [hF]; unfold jnS; rw [jnL_ps HPM.out]
      have hsm := rf_jn HPM.out
      rw [hFj] at hsm
      have HFJ := Lib.hid hFj
      have HRS := Lib.hid (fun W => refSplit_walk F W)
      unfold RSplitPost at HRS
      obtain ⟨R, hR⟩ : ∃ R, R = spF F := ⟨_, rfl⟩
      rw [← hR] at HRS hsm
      obtain ⟨a, b, e⟩ := R
      unfold rfOk at hsm
      dsimp only at HRS hsm
      have HSM := Lib.hid hsm
      clear hF hFj hsm hR
      go_upto_region 24 with (first | (go_at_call 15; refine (HJD.out).mono ?_; rintro ex w4 ⟨rfl, hb4⟩; have HM4 := Lib.hid (HM3.out.bel hb4); have HB4 := Lib.hid (HB3.out.trans (hb4.mono HB3.out.size)); clear hb4) | (go_at_call 10; refine (HRS.out _).mono ?_; rintro ex w5 ⟨v5, r5, rfl, hO5, hP5, hb5⟩; have HO5 := Lib.hid hO5; have HP5 := Lib.hid hP5; have HO2 := Lib.hid (HM4.out.b.bel hb5); have HB5 := Lib.hid (HB4.out.trans (hb5.mono HB4.out.size)); clear hO5 hP5 hb5))
      obtain ⟨A5, cp5, hw5, _⟩ := HO5.out.form
      subst hw5
      obtain ⟨na, hna⟩ : ∃ z, z = r5.length := ⟨_, rfl⟩
      rw [← hna, HRN.out]
      have HNA : Hid (na = r5.length ∧ na = a.length) := Lib.hid ⟨hna, by rw [hna]; exact HP5.out.1⟩
      clear hna HJ HJD HRS HB3 HM3 HB4 HM4 HOO
      go_cut [8, 17, 19, 20] (fun v8 v17 v19 v wx => v8 = .slice A2 n cp2 ∧ v17 = .slice A5 na cp5 ∧ v19 = .int .i64 e ∧ v = .bool (decide (e = 0 ∧ na = n)) ∧ wx = w5)
      case first =>
        go_wp2_with fail
        all_goals
          go_meet
          case rel => exact ⟨by first | rfl | (congr 1; omega), by first | rfl | (congr 1; omega), congrArg (Value.int .i64) (by first | rfl | omega), congrArg Value.bool (by first | rfl | (rw [Bool.eq_iff_iff]; simp only [Bool.or_eq_true, Bool.and_eq_true, Bool.not_eq_true', decide_eq_false_iff_not, bne_iff_ne, Bool.false_eq_true, decide_eq_true_eq, beq_iff_eq, false_iff, true_iff]; done) | (rw [Bool.eq_iff_iff]; simp only [Bool.or_eq_true, Bool.and_eq_true, Bool.not_eq_true', decide_eq_false_iff_not, bne_iff_ne, Bool.false_eq_true, decide_eq_true_eq, beq_iff_eq, false_iff, true_iff]; omega)), by first | rfl | trivial⟩
      case rest =>
      obtain ⟨rfl, rfl, rfl, rfl, rfl⟩ := hcut
      obtain ⟨w5, rfl⟩ : ∃ w4 : World, w4 = wc := ⟨_, rfl⟩
      obtain ⟨bz, hbz⟩ : ∃ z, z = decide (e = 0 ∧ na = n) := ⟨_, rfl⟩
      rw [← hbz]
      have HBZ : Hid (bz = true ↔ (e = 0 ∧ na = n)) := Lib.hid (by rw [hbz, decide_eq_true_eq])
      clear hbz
      go_wp2_with fail
      go_loopw [20, 21] (fun ok i wr => ∃ (k : Nat) (bb : Bool), k ≤ na ∧ ok = .bool bb ∧ i = .int .i64 k ∧ Hid (bb = true ↔ (e = 0 ∧ na = n ∧ ∀ j (h1 : j < a.length) (h2 : j < m.length), j < k → sgC a[j].x = sgC m[j].x ∧ a[j].body = m[j].body ∧ a[j].data = m[j].data)) ∧ Hid (Below w5.heap.size w5 wr)) (fun _ i _ => na - (intOf i).toNat)
      case atStart => exact ⟨0, bz, by omega, rfl, rfl, Lib.hid (by rw [HBZ.out]; exact ⟨fun h => ⟨h.1, h.2, fun j _ _ h3 => absurd h3 (Nat.not_lt_zero j)⟩, fun h => ⟨h.1, h.2.1⟩⟩), Lib.hid (Below.refl _ _)⟩
      case round =>
        obtain ⟨k, bb, hk, rfl, rfl, HR, HB2⟩ := hrel
        have HB := Lib.hid HB2.out
        cases bb with
        | false =>
          have hno : ¬ jnOk m := fun h => by
            have h1 := HSM.out.1 h
            have h2 := HR.out.2 ⟨h1.1, by rw [HNA.out.2, h1.2.1, HMN.out], fun j a1 a2 _ => h1.2.2 j a1 a2⟩
            cases h2
          obtain ⟨rfl, rfl⟩ : er = 1 ∧ s3 = ⟨#[]⟩ := by
            rcases HC3.out with ⟨_, _, h3⟩ | ⟨h1, h2, _⟩
            · exact absurd h3 hno
            · exact ⟨h1, h2⟩
          clear hno HC3
          by_cases hkl : k < na
          all_goals
            go_wp2_with fail
            go_ret
            exact ⟨rfl, HB5.out.trans (HB.out.mono HB5.out.size)⟩
        | true =>
        by_cases hkl : k < na
        case neg =>
          have hyes : jnOk m := by
            have h1 := HR.out.1 rfl
            exact HSM.out.2 ⟨h1.1, by rw [← HNA.out.2, h1.2.1, HMN.out], fun j a1 a2 => h1.2.2 j a1 a2 (by have := HNA.out.2; omega)⟩
          obtain ⟨rfl, rfl⟩ : er = 0 ∧ s3 = F := by
            rcases HC3.out with ⟨h1, h2, _⟩ | ⟨_, _, h3⟩
            · exact ⟨h1, by rw [h2]; exact HFJ.out⟩
            · exact absurd hyes h3
          clear hyes HC3
          go_wp2_with fail
          go_ret
          exact ⟨rfl, HB5.out.trans (HB.out.mono HB5.out.size)⟩
        case pos =>
        have hen := HR.out.1 rfl
        have hk5 : k < r5.length := by rw [← HNA.out.1]; exact hkl
        have hka : k < a.length := by rw [← HNA.out.2]; exact hkl
        have hkm : k < m.length := by rw [HMN.out, ← hen.2.1]; exact hkl
        have hkr : k < r.length := by rw [HRN.out, ← hen.2.1]; exact hkl
        have hkn : k < n := by rw [← hen.2.1]; exact hkl
        obtain ⟨g5, rfl, -, hg5, hc5⟩ := (HO5.out.bel HB.out).at_ Rp.is hk5
        obtain ⟨g2, rfl, -, hg2, hc2⟩ := (HO2.out.bel HB.out).at_ Rp.is hkr
        obtain ⟨-, x2, x3, x4⟩ := HP5.out.2 k hk5 hka
        obtain ⟨-, y2, y3, y4⟩ := HRV.out.2 k hkr hkm
        obtain ⟨xc, hxc⟩ : ∃ z, z = sgC a[k].x := ⟨_, rfl⟩
        obtain ⟨xb, hxb⟩ : ∃ z, z = a[k].body := ⟨_, rfl⟩
        obtain ⟨xd, hxd⟩ : ∃ z, z = a[k].data := ⟨_, rfl⟩
        obtain ⟨yc, hyc⟩ : ∃ z, z = sgC m[k].x := ⟨_, rfl⟩
        obtain ⟨yb, hyb⟩ : ∃ z, z = m[k].body := ⟨_, rfl⟩
        obtain ⟨yd, hyd⟩ : ∃ z, z = m[k].data := ⟨_, rfl⟩
        have HNX : Hid (∀ b2 : Bool, (b2 = true ↔ (xc = yc ∧ xb = yb ∧ xd = yd)) → (b2 = true ↔ (e = 0 ∧ na = n ∧ ∀ j (h1 : j < a.length) (h2 : j < m.length), j < k + 1 → sgC a[j].x = sgC m[j].x ∧ a[j].body = m[j].body ∧ a[j].data = m[j].data))) := Lib.hid fun b2 hb2 => by
          rw [hb2, hxc, hxb, hxd, hyc, hyb, hyd]
          constructor
          · intro h
            refine ⟨hen.1, hen.2.1, fun j h1 h2 h3 => ?_⟩
            by_cases ej : j = k
            · subst ej; exact h
            · exact hen.2.2 j h1 h2 (by omega)
          · intro h
            exact h.2.2 k hka hkm (Nat.lt_succ_self k)
        rw [← hxc] at x4
        rw [← hyc] at y4
        rw [← hxb] at x2
        rw [← hyb] at y2
        rw [← hxd] at x3
        rw [← hyd] at y3
        have HE1 : Hid (wr.cell? ⟨g5, k * 16 + 1, none⟩ = some (.int .i64 xc)) := Lib.hid (by rw [hc5 1 (by decide)]; exact rp_c1 x4)
        have HE14 : Hid (wr.cell? ⟨g5, k * 16 + 14, none⟩ = some (.string xb)) := Lib.hid (by rw [hc5 14 (by decide), rp_c14, x2])
        have HE15 : Hid (wr.cell? ⟨g5, k * 16 + 15, none⟩ = some (.string xd)) := Lib.hid (by rw [hc5 15 (by decide), rp_c15', x3])
        have HU1 : Hid (wr.cell? ⟨g2, k * 16 + 1, none⟩ = some (.int .i64 yc)) := Lib.hid (by rw [hc2 1 (by decide)]; exact rp_c1 y4)
        have HU14 : Hid (wr.cell? ⟨g2, k * 16 + 14, none⟩ = some (.string yb)) := Lib.hid (by rw [hc2 14 (by decide), rp_c14, y2])
        have HU15 : Hid (wr.cell? ⟨g2, k * 16 + 15, none⟩ = some (.string yd)) := Lib.hid (by rw [hc2 15 (by decide), rp_c15', y3])
        clear hc5 hc2 x2 x3 x4 y2 y3 y4 hxc hxb hxd hyc hyb hyd hen
        go_upto_region 28 with fail
        by_cases h1 : xc = yc
        case neg =>
          refine region_plan (.run [0, 1, 2, 3, 4, 5, 6, 7, 8, 9, 10, 11] (.held 12 (.run [13] (.held 14 (.held 15 (.held 16 (.held 17 (.held 18 (.held 19 (.held 20 (.held 21 (.held 22 (.held 23 (.held 24 (.run [25, 26] (.held 27 (.held 28 (.held 29 (.held 30 (.held 31 (.held 32 (.held 33 (.held 34 (.held 35 (.held 36 (.held 37 (.run [38, 39] .fin))))))))))))))))))))))))))) (fun w' => True) (by kernel_rfl) trivial ?_
          intro wd hwd
          have hbd : Below wr.heap.size wr wd := hwd ▸ (Below.refl _ wr).drew
          have HBd := Lib.hid (HB.out.trans (hbd.mono HB.out.size))
          have e1 : wd.cell? ⟨g5, k * 16 + 1, none⟩ = some (.int .i64 xc) := (hbd.cell (p := ⟨g5, k * 16 + 1, none⟩) hg5).trans HE1.out
          have e14 : wd.cell? ⟨g5, k * 16 + 14, none⟩ = some (.string xb) := (hbd.cell (p := ⟨g5, k * 16 + 14, none⟩) hg5).trans HE14.out
          have e15 : wd.cell? ⟨g5, k * 16 + 15, none⟩ = some (.string xd) := (hbd.cell (p := ⟨g5, k * 16 + 15, none⟩) hg5).trans HE15.out
          have u1 : wd.cell? ⟨g2, k * 16 + 1, none⟩ = some (.int .i64 yc) := (hbd.cell (p := ⟨g2, k * 16 + 1, none⟩) hg2).trans HU1.out
          have u14 : wd.cell? ⟨g2, k * 16 + 14, none⟩ = some (.string yb) := (hbd.cell (p := ⟨g2, k * 16 + 14, none⟩) hg2).trans HU14.out
          have u15 : wd.cell? ⟨g2, k * 16 + 15, none⟩ = some (.string yd) := (hbd.cell (p := ⟨g2, k * 16 + 15, none⟩) hg2).trans HU15.out
          clear hbd
          clear hwd
          refine plan_run fun m hm => ?_
          simp only [pickO, List.filterMap_cons, List.filterMap_nil, List.getElem?_toArray, List.getElem?_cons_zero, List.getElem?_cons_succ] at hm
          subst hm
          go_wp2_with fail
          refine ⟨rfl, by rfl, ?_⟩
          refine plan_held (o := ⟨some 164, _, _, _, _, _⟩) (v := .bool false) rfl (by rfl) (fun w' hS => ?_) ?_
          · exact exec_ieq8 rfl rfl rfl _ (by first | rw [decide_eq_false h1] | simp)
          try simp only [Act.put, List.setIfInBounds_toArray, List.set_cons_zero, List.set_cons_succ]
          refine plan_run fun m hm => ?_
          simp only [pickO, List.filterMap_cons, List.filterMap_nil, List.getElem?_toArray, List.getElem?_cons_zero, List.getElem?_cons_succ] at hm
          subst hm
          go_wp2_with fail
          refine ⟨rfl, by rfl, ?_⟩
          refine plan_off (o := ⟨some 166, _, _, _, _, _⟩) rfl (by rfl) ?_
          try simp only [Act.put, List.setIfInBounds_toArray, List.set_cons_zero, List.set_cons_succ]
          refine plan_off (o := ⟨some 167, _, _, _, _, _⟩) rfl (by rfl) ?_
          try simp only [Act.put, List.setIfInBounds_toArray, List.set_cons_zero, List.set_cons_succ]
          refine plan_off (o := ⟨some 168, _, _, _, _, _⟩) rfl (by rfl) ?_
          try simp only [Act.put, List.setIfInBounds_toArray, List.set_cons_zero, List.set_cons_succ]
          refine plan_off (o := ⟨some 169, _, _, _, _, _⟩) rfl (by rfl) ?_
          try simp only [Act.put, List.setIfInBounds_toArray, List.set_cons_zero, List.set_cons_succ]
          refine plan_off (o := ⟨some 170, _, _, _, _, _⟩) rfl (by rfl) ?_
          try simp only [Act.put, List.setIfInBounds_toArray, List.set_cons_zero, List.set_cons_succ]
          refine plan_off (o := ⟨some 171, _, _, _, _, _⟩) rfl (by rfl) ?_
          try simp only [Act.put, List.setIfInBounds_toArray, List.set_cons_zero, List.set_cons_succ]
          refine plan_off (o := ⟨some 172, _, _, _, _, _⟩) rfl (by rfl) ?_
          try simp only [Act.put, List.setIfInBounds_toArray, List.set_cons_zero, List.set_cons_succ]
          refine plan_off (o := ⟨some 173, _, _, _, _, _⟩) rfl (by rfl) ?_
          try simp only [Act.put, List.setIfInBounds_toArray, List.set_cons_zero, List.set_cons_succ]
          refine plan_off (o := ⟨some 174, _, _, _, _, _⟩) rfl (by rfl) ?_
          try simp only [Act.put, List.setIfInBounds_toArray, List.set_cons_zero, List.set_cons_succ]
          refine plan_off (o := ⟨some 175, _, _, _, _, _⟩) rfl (by rfl) ?_
          try simp only [Act.put, List.setIfInBounds_toArray, List.set_cons_zero, List.set_cons_succ]
          refine plan_off (o := ⟨some 176, _, _, _, _, _⟩) rfl (by rfl) ?_
          try simp only [Act.put, List.setIfInBounds_toArray, List.set_cons_zero, List.set_cons_succ]
          refine plan_run fun m hm => ?_
          simp only [pickO, List.filterMap_cons, List.filterMap_nil, List.getElem?_toArray, List.getElem?_cons_zero, List.getElem?_cons_succ] at hm
          subst hm
          go_wp2_with fail
          refine ⟨rfl, by rfl, ?_⟩
          refine plan_off (o := ⟨some 179, _, _, _, _, _⟩) rfl (by rfl) ?_
          try simp only [Act.put, List.setIfInBounds_toArray, List.set_cons_zero, List.set_cons_succ]
          refine plan_off (o := ⟨some 180, _, _, _, _, _⟩) rfl (by rfl) ?_
          try simp only [Act.put, List.setIfInBounds_toArray, List.set_cons_zero, List.set_cons_succ]
          refine plan_off (o := ⟨some 181, _, _, _, _, _⟩) rfl (by rfl) ?_
          try simp only [Act.put, List.setIfInBounds_toArray, List.set_cons_zero, List.set_cons_succ]
          refine plan_off (o := ⟨some 182, _, _, _, _, _⟩) rfl (by rfl) ?_
          try simp only [Act.put, List.setIfInBounds_toArray, List.set_cons_zero, List.set_cons_succ]
          refine plan_off (o := ⟨some 183, _, _, _, _, _⟩) rfl (by rfl) ?_
          try simp only [Act.put, List.setIfInBounds_toArray, List.set_cons_zero, List.set_cons_succ]
          refine plan_off (o := ⟨some 184, _, _, _, _, _⟩) rfl (by rfl) ?_
          try simp only [Act.put, List.setIfInBounds_toArray, List.set_cons_zero, List.set_cons_succ]
          refine plan_off (o := ⟨some 185, _, _, _, _, _⟩) rfl (by rfl) ?_
          try simp only [Act.put, List.setIfInBounds_toArray, List.set_cons_zero, List.set_cons_succ]
          refine plan_off (o := ⟨some 186, _, _, _, _, _⟩) rfl (by rfl) ?_
          try simp only [Act.put, List.setIfInBounds_toArray, List.set_cons_zero, List.set_cons_succ]
          refine plan_off (o := ⟨some 187, _, _, _, _, _⟩) rfl (by rfl) ?_
          try simp only [Act.put, List.setIfInBounds_toArray, List.set_cons_zero, List.set_cons_succ]
          refine plan_off (o := ⟨some 188, _, _, _, _, _⟩) rfl (by rfl) ?_
          try simp only [Act.put, List.setIfInBounds_toArray, List.set_cons_zero, List.set_cons_succ]
          refine plan_off (o := ⟨some 189, _, _, _, _, _⟩) rfl (by rfl) ?_
          try simp only [Act.put, List.setIfInBounds_toArray, List.set_cons_zero, List.set_cons_succ]
          refine plan_run fun m hm => ?_
          simp only [pickO, List.filterMap_cons, List.filterMap_nil, List.getElem?_toArray, List.getElem?_cons_zero, List.getElem?_cons_succ] at hm
          subst hm
          go_wp2_with fail
          refine ⟨rfl, by rfl, ?_⟩
          refine plan_fin ?_
          go_wp2_with fail
          go_roundw
          case rel => exact ⟨k + 1, false, by omega, rfl, by go_num, Lib.hid (HNX.out _ (by simp [h1])), HBd⟩
          case measure => simp [intOf]; omega
        case pos =>
        by_cases h2 : xb = yb
        case neg =>
          refine region_plan (.run [0, 1, 2, 3, 4, 5, 6, 7, 8, 9, 10, 11] (.held 12 (.run [13, 14, 15, 16, 17, 18, 19, 20, 21, 22, 23] (.held 24 (.run [25, 26] (.held 27 (.held 28 (.held 29 (.held 30 (.held 31 (.held 32 (.held 33 (.held 34 (.held 35 (.held 36 (.held 37 (.run [38, 39] .fin))))))))))))))))) (fun w' => True) (by kernel_rfl) trivial ?_
          intro wd hwd
          have hbd : Below wr.heap.size wr wd := hwd ▸ (Below.refl _ wr).drew
          have HBd := Lib.hid (HB.out.trans (hbd.mono HB.out.size))
          have e1 : wd.cell? ⟨g5, k * 16 + 1, none⟩ = some (.int .i64 xc) := (hbd.cell (p := ⟨g5, k * 16 + 1, none⟩) hg5).trans HE1.out
          have e14 : wd.cell? ⟨g5, k * 16 + 14, none⟩ = some (.string xb) := (hbd.cell (p := ⟨g5, k * 16 + 14, none⟩) hg5).trans HE14.out
          have e15 : wd.cell? ⟨g5, k * 16 + 15, none⟩ = some (.string xd) := (hbd.cell (p := ⟨g5, k * 16 + 15, none⟩) hg5).trans HE15.out
          have u1 : wd.cell? ⟨g2, k * 16 + 1, none⟩ = some (.int .i64 yc) := (hbd.cell (p := ⟨g2, k * 16 + 1, none⟩) hg2).trans HU1.out
          have u14 : wd.cell? ⟨g2, k * 16 + 14, none⟩ = some (.string yb) := (hbd.cell (p := ⟨g2, k * 16 + 14, none⟩) hg2).trans HU14.out
          have u15 : wd.cell? ⟨g2, k * 16 + 15, none⟩ = some (.string yd) := (hbd.cell (p := ⟨g2, k * 16 + 15, none⟩) hg2).trans HU15.out
          clear hbd
          clear hwd
          refine plan_run fun m hm => ?_
          simp only [pickO, List.filterMap_cons, List.filterMap_nil, List.getElem?_toArray, List.getElem?_cons_zero, List.getElem?_cons_succ] at hm
          subst hm
          go_wp2_with fail
          refine ⟨rfl, by rfl, ?_⟩
          refine plan_held (o := ⟨some 164, _, _, _, _, _⟩) (v := .bool true) rfl (by rfl) (fun w' hS => ?_) ?_
          · exact exec_ieq8 rfl rfl rfl _ (by first | rw [decide_eq_true h1] | simp)
          try simp only [Act.put, List.setIfInBounds_toArray, List.set_cons_zero, List.set_cons_succ]
          refine plan_run fun m hm => ?_
          simp only [pickO, List.filterMap_cons, List.filterMap_nil, List.getElem?_toArray, List.getElem?_cons_zero, List.getElem?_cons_succ] at hm
          subst hm
          go_wp2_with fail
          refine ⟨rfl, by rfl, ?_⟩
          refine plan_held (o := ⟨some 176, _, _, _, _, _⟩) (v := .bool false) rfl (by rfl) (fun w' hS => ?_) ?_
          · exact exec_seq8 rfl rfl rfl _ (by first | rw [decide_eq_false h2] | simp)
          try simp only [Act.put, List.setIfInBounds_toArray, List.set_cons_zero, List.set_cons_succ]
          refine plan_run fun m hm => ?_
          simp only [pickO, List.filterMap_cons, List.filterMap_nil, List.getElem?_toArray, List.getElem?_cons_zero, List.getElem?_cons_succ] at hm
          subst hm
          go_wp2_with fail
          refine ⟨rfl, by rfl, ?_⟩
          refine plan_off (o := ⟨some 179, _, _, _, _, _⟩) rfl (by rfl) ?_
          try simp only [Act.put, List.setIfInBounds_toArray, List.set_cons_zero, List.set_cons_succ]
          refine plan_off (o := ⟨some 180, _, _, _, _, _⟩) rfl (by rfl) ?_
          try simp only [Act.put, List.setIfInBounds_toArray, List.set_cons_zero, List.set_cons_succ]
          refine plan_off (o := ⟨some 181, _, _, _, _, _⟩) rfl (by rfl) ?_
          try simp only [Act.put, List.setIfInBounds_toArray, List.set_cons_zero, List.set_cons_succ]
          refine plan_off (o := ⟨some 182, _, _, _, _, _⟩) rfl (by rfl) ?_
          try simp only [Act.put, List.setIfInBounds_toArray, List.set_cons_zero, List.set_cons_succ]
          refine plan_off (o := ⟨some 183, _, _, _, _, _⟩) rfl (by rfl) ?_
          try simp only [Act.put, List.setIfInBounds_toArray, List.set_cons_zero, List.set_cons_succ]
          refine plan_off (o := ⟨some 184, _, _, _, _, _⟩) rfl (by rfl) ?_
          try simp only [Act.put, List.setIfInBounds_toArray, List.set_cons_zero, List.set_cons_succ]
          refine plan_off (o := ⟨some 185, _, _, _, _, _⟩) rfl (by rfl) ?_
          try simp only [Act.put, List.setIfInBounds_toArray, List.set_cons_zero, List.set_cons_succ]
          refine plan_off (o := ⟨some 186, _, _, _, _, _⟩) rfl (by rfl) ?_
          try simp only [Act.put, List.setIfInBounds_toArray, List.set_cons_zero, List.set_cons_succ]
          refine plan_off (o := ⟨some 187, _, _, _, _, _⟩) rfl (by rfl) ?_
          try simp only [Act.put, List.setIfInBounds_toArray, List.set_cons_zero, List.set_cons_succ]
          refine plan_off (o := ⟨some 188, _, _, _, _, _⟩) rfl (by rfl) ?_
          try simp only [Act.put, List.setIfInBounds_toArray, List.set_cons_zero, List.set_cons_succ]
          refine plan_off (o := ⟨some 189, _, _, _, _, _⟩) rfl (by rfl) ?_
          try simp only [Act.put, List.setIfInBounds_toArray, List.set_cons_zero, List.set_cons_succ]
          refine plan_run fun m hm => ?_
          simp only [pickO, List.filterMap_cons, List.filterMap_nil, List.getElem?_toArray, List.getElem?_cons_zero, List.getElem?_cons_succ] at hm
          subst hm
          go_wp2_with fail
          refine ⟨rfl, by rfl, ?_⟩
          refine plan_fin ?_
          go_wp2_with fail
          go_roundw
          case rel => exact ⟨k + 1, false, by omega, rfl, by go_num, Lib.hid (HNX.out _ (by simp [h1, h2])), HBd⟩
          case measure => simp [intOf]; omega
        case pos =>
        by_cases h3 : xd = yd
        case neg =>
          refine region_plan (.run [0, 1, 2, 3, 4, 5, 6, 7, 8, 9, 10, 11] (.held 12 (.run [13, 14, 15, 16, 17, 18, 19, 20, 21, 22, 23] (.held 24 (.run [25, 26, 27, 28, 29, 30, 31, 32, 33, 34, 35, 36] (.held 37 (.run [38, 39] .fin))))))) (fun w' => True) (by kernel_rfl) trivial ?_
          intro wd hwd
          have hbd : Below wr.heap.size wr wd := hwd ▸ (Below.refl _ wr).drew
          have HBd := Lib.hid (HB.out.trans (hbd.mono HB.out.size))
          have e1 : wd.cell? ⟨g5, k * 16 + 1, none⟩ = some (.int .i64 xc) := (hbd.cell (p := ⟨g5, k * 16 + 1, none⟩) hg5).trans HE1.out
          have e14 : wd.cell? ⟨g5, k * 16 + 14, none⟩ = some (.string xb) := (hbd.cell (p := ⟨g5, k * 16 + 14, none⟩) hg5).trans HE14.out
          have e15 : wd.cell? ⟨g5, k * 16 + 15, none⟩ = some (.string xd) := (hbd.cell (p := ⟨g5, k * 16 + 15, none⟩) hg5).trans HE15.out
          have u1 : wd.cell? ⟨g2, k * 16 + 1, none⟩ = some (.int .i64 yc) := (hbd.cell (p := ⟨g2, k * 16 + 1, none⟩) hg2).trans HU1.out
          have u14 : wd.cell? ⟨g2, k * 16 + 14, none⟩ = some (.string yb) := (hbd.cell (p := ⟨g2, k * 16 + 14, none⟩) hg2).trans HU14.out
          have u15 : wd.cell? ⟨g2, k * 16 + 15, none⟩ = some (.string yd) := (hbd.cell (p := ⟨g2, k * 16 + 15, none⟩) hg2).trans HU15.out
          clear hbd
          clear hwd
          refine plan_run fun m hm => ?_
          simp only [pickO, List.filterMap_cons, List.filterMap_nil, List.getElem?_toArray, List.getElem?_cons_zero, List.getElem?_cons_succ] at hm
          subst hm
          go_wp2_with fail
          refine ⟨rfl, by rfl, ?_⟩
          refine plan_held (o := ⟨some 164, _, _, _, _, _⟩) (v := .bool true) rfl (by rfl) (fun w' hS => ?_) ?_
          · exact exec_ieq8 rfl rfl rfl _ (by first | rw [decide_eq_true h1] | simp)
          try simp only [Act.put, List.setIfInBounds_toArray, List.set_cons_zero, List.set_cons_succ]
          refine plan_run fun m hm => ?_
          simp only [pickO, List.filterMap_cons, List.filterMap_nil, List.getElem?_toArray, List.getElem?_cons_zero, List.getElem?_cons_succ] at hm
          subst hm
          go_wp2_with fail
          refine ⟨rfl, by rfl, ?_⟩
          refine plan_held (o := ⟨some 176, _, _, _, _, _⟩) (v := .bool true) rfl (by rfl) (fun w' hS => ?_) ?_
          · exact exec_seq8 rfl rfl rfl _ (by first | rw [decide_eq_true h2] | simp)
          try simp only [Act.put, List.setIfInBounds_toArray, List.set_cons_zero, List.set_cons_succ]
          refine plan_run fun m hm => ?_
          simp only [pickO, List.filterMap_cons, List.filterMap_nil, List.getElem?_toArray, List.getElem?_cons_zero, List.getElem?_cons_succ] at hm
          subst hm
          go_wp2_with fail
          refine ⟨rfl, by rfl, ?_⟩
          refine plan_held (o := ⟨some 189, _, _, _, _, _⟩) (v := .bool false) rfl (by rfl) (fun w' hS => ?_) ?_
          · exact exec_seq8 rfl rfl rfl _ (by first | rw [decide_eq_false h3] | simp)
          try simp only [Act.put, List.setIfInBounds_toArray, List.set_cons_zero, List.set_cons_succ]
          refine plan_run fun m hm => ?_
          simp only [pickO, List.filterMap_cons, List.filterMap_nil, List.getElem?_toArray, List.getElem?_cons_zero, List.getElem?_cons_succ] at hm
          subst hm
          go_wp2_with fail
          refine ⟨rfl, by rfl, ?_⟩
          refine plan_fin ?_
          go_wp2_with fail
          go_roundw
          case rel => exact ⟨k + 1, false, by omega, rfl, by go_num, Lib.hid (HNX.out _ (by simp [h1, h2, h3])), HBd⟩
          case measure => simp [intOf]; omega
        case pos =>
          refine region_plan (.run [0, 1, 2, 3, 4, 5, 6, 7, 8, 9, 10, 11] (.held 12 (.run [13, 14, 15, 16, 17, 18, 19, 20, 21, 22, 23] (.held 24 (.run [25, 26, 27, 28, 29, 30, 31, 32, 33, 34, 35, 36] (.held 37 (.run [38, 39] .fin))))))) (fun w' => True) (by kernel_rfl) trivial ?_
          intro wd hwd
          have hbd : Below wr.heap.size wr wd := hwd ▸ (Below.refl _ wr).drew
          have HBd := Lib.hid (HB.out.trans (hbd.mono HB.out.size))
          have e1 : wd.cell? ⟨g5, k * 16 + 1, none⟩ = some (.int .i64 xc) := (hbd.cell (p := ⟨g5, k * 16 + 1, none⟩) hg5).trans HE1.out
          have e14 : wd.cell? ⟨g5, k * 16 + 14, none⟩ = some (.string xb) := (hbd.cell (p := ⟨g5, k * 16 + 14, none⟩) hg5).trans HE14.out
          have e15 : wd.cell? ⟨g5, k * 16 + 15, none⟩ = some (.string xd) := (hbd.cell (p := ⟨g5, k * 16 + 15, none⟩) hg5).trans HE15.out
          have u1 : wd.cell? ⟨g2, k * 16 + 1, none⟩ = some (.int .i64 yc) := (hbd.cell (p := ⟨g2, k * 16 + 1, none⟩) hg2).trans HU1.out
          have u14 : wd.cell? ⟨g2, k * 16 + 14, none⟩ = some (.string yb) := (hbd.cell (p := ⟨g2, k * 16 + 14, none⟩) hg2).trans HU14.out
          have u15 : wd.cell? ⟨g2, k * 16 + 15, none⟩ = some (.string yd) := (hbd.cell (p := ⟨g2, k * 16 + 15, none⟩) hg2).trans HU15.out
          clear hbd
          clear hwd
          refine plan_run fun m hm => ?_
          simp only [pickO, List.filterMap_cons, List.filterMap_nil, List.getElem?_toArray, List.getElem?_cons_zero, List.getElem?_cons_succ] at hm
          subst hm
          go_wp2_with fail
          refine ⟨rfl, by rfl, ?_⟩
          refine plan_held (o := ⟨some 164, _, _, _, _, _⟩) (v := .bool true) rfl (by rfl) (fun w' hS => ?_) ?_
          · exact exec_ieq8 rfl rfl rfl _ (by first | rw [decide_eq_true h1] | simp)
          try simp only [Act.put, List.setIfInBounds_toArray, List.set_cons_zero, List.set_cons_succ]
          refine plan_run fun m hm => ?_
          simp only [pickO, List.filterMap_cons, List.filterMap_nil, List.getElem?_toArray, List.getElem?_cons_zero, List.getElem?_cons_succ] at hm
          subst hm
          go_wp2_with fail
          refine ⟨rfl, by rfl, ?_⟩
          refine plan_held (o := ⟨some 176, _, _, _, _, _⟩) (v := .bool true) rfl (by rfl) (fun w' hS => ?_) ?_
          · exact exec_seq8 rfl rfl rfl _ (by first | rw [decide_eq_true h2] | simp)
          try simp only [Act.put, List.setIfInBounds_toArray, List.set_cons_zero, List.set_cons_succ]
          refine plan_run fun m hm => ?_
          simp only [pickO, List.filterMap_cons, List.filterMap_nil, List.getElem?_toArray, List.getElem?_cons_zero, List.getElem?_cons_succ] at hm
          subst hm
          go_wp2_with fail
          refine ⟨rfl, by rfl, ?_⟩
          refine plan_held (o := ⟨some 189, _, _, _, _, _⟩) (v := .bool true) rfl (by rfl) (fun w' hS => ?_) ?_
          · exact exec_seq8 rfl rfl rfl _ (by first | rw [decide_eq_true h3] | simp)
          try simp only [Act.put, List.setIfInBounds_toArray, List.set_cons_zero, List.set_cons_succ]
          refine plan_run fun m hm => ?_
          simp only [pickO, List.filterMap_cons, List.filterMap_nil, List.getElem?_toArray, List.getElem?_cons_zero, List.getElem?_cons_succ] at hm
          subst hm
          go_wp2_with fail
          refine ⟨rfl, by rfl, ?_⟩
          refine plan_fin ?_
          go_wp2_with fail
          go_roundw
          case rel => exact ⟨k + 1, true, by omega, rfl, by go_num, Lib.hid (HNX.out _ (by simp [h1, h2, h3])), HBd⟩
          case measure => simp [intOf]; omega
theorem mj_walk (A B D : Option Addr) (n ca cb cd : Nat) (f : Nat → Int) (lb ld : List ByteArray) (w : World) (hL : Laid w) (hA : InI w A n f) (hB : RdC strC 1 w B lb) (hD : RdC strC 1 w D ld) : Calls Tryd.prog 6 #[.slice A n ca, .slice B lb.length cb, .slice D ld.length cd] w fun e w' => e = .returned (.bool true) ∧ Below w.heap.size w w' := by
  by_cases h1 : 20 < n
  · exact mj_big1 A B D n ca cb cd f lb ld w hL h1
  by_cases h2 : lb.length < n
  · exact mj_big2 A B D n ca cb cd f lb ld w hL (by omega) h2
  by_cases h3 : ld.length < n
  · exact mj_big3 A B D n ca cb cd f lb ld w hL (by omega) (by omega) h3
  · exact mj_in A B D n ca cb cd f lb ld w hL hA hB hD (by omega) (by omega) (by omega)
namespace lawMarkJoins
open Go.ChangeShapes Go.WideShapes Go.ChangeAt Go.RowKit
theorem own : ownKnob Tryd.prog.godebug = none := by kernel_rfl
theorem laidOut : laidOutB Tryd.prog = true := by kernel_rfl
theorem gTab0 : Tryd.prog.globalNamed "aquatint/zig.order" = some 0 := by kernel_rfl
theorem gTabType0 : (Tryd.prog.globals[0]?).map (·.type) = some 153 := by kernel_rfl
theorem cellsT : Tryd.prog.cellsOf 153 = 64 := by kernel_rfl
theorem cellsE : Tryd.prog.cellsOf 3 = 1 := by kernel_rfl
theorem table {W : World} (h : laidMetH Tryd.prog Rows.markJoinsRow.laid W) : Lib.TabIs Tryd.prog W "aquatint/zig.order" .i64 (ordL.map fun (n : Nat) => (n : Int)) :=
  Lib.tabIs_of_head (rest := []) gTab0 gTabType0 Tryd.underlying153 Tryd.underlying3 cellsE cellsT h
theorem laid_of {W : World} (h : laidMetH Tryd.prog Rows.markJoinsRow.laid W) : Laid W := by
  have H : ∀ k, k < 64 → W.cell? ⟨0, k, none⟩ = some (.int .i64 (ord k)) := fun k hk => by
    have h1 := (table h).cell gTab0 k (by simpa [ordL] using hk)
    rw [h1]
    have h2 : ord k = ordL[k]'(by simpa [ordL] using hk) := by
      unfold ord
      rw [List.getD_eq_getElem?_getD, List.getElem?_eq_getElem (by simpa [ordL] using hk)]
      rfl
    rw [h2, List.getD_eq_getElem?_getD, List.getElem?_map, List.getElem?_eq_getElem (by simpa [ordL] using hk)]
    rfl
  exact ⟨block_lt_of_cell (H 0 (by omega)), H⟩
open Go.ChangeMaps (open_string shut_string)
theorem contract (H : Type) (enc : TypeId × Value → H) (W : World) (base : Nat) (args : Array Value) (ds gs : List (DataW H)) (before : List MemPlace)
    (hval : ∀ (j : Nat) t v, Tryd.f6.params[j]? = some t → args[j]? = some v → Value.okWide Tryd.prog W .any base t v)
    (hW : DataW.Whole enc Tryd.prog Tryd.f6.params.toList Rows.markJoinsSpec.vars false W args.toList ds gs before) (hL : laidMetH Tryd.prog Rows.markJoinsRow.laid W) (_hsz : (DataW.weightsEach Tryd.prog (Tryd.f6.params.toList ++ (OpenSpec.ofChange Rows.markJoinsSpec).bare.plain.varTypes Tryd.prog) (ds ++ gs)).all (· ≤ reachBytes) = true) :
    Calls Tryd.prog 6 args W fun e W' => ∃ v, e = .returned v ∧ Rows.markJoinsSpec.post enc Tryd.prog Tryd.f6 false true false false W args v W' := by
  have hW' := hW
  obtain ⟨p, q, hA0, hV, hbefore, hfz, hnd⟩ := hW
  obtain ⟨rfl, rfl⟩ := trodVars_none hV
  have hA : DataW.TrodAll enc Tryd.prog W 0 (fun _ => true) true Tryd.f6.params.toList args.toList ds p := hA0
  rw [Tryd.params6] at hA hval
  obtain ⟨v0, vs1, d0, ds1, p0, q0, hargs, rfl, hps, h0, r0⟩ := trodAll_cons hA
  obtain ⟨v1, vs2, d1, ds2, p1, q1, rfl, rfl, rfl, h1, r1⟩ := trodAll_cons r0
  obtain ⟨v2, vs3, d2, ds3, p2, q2, rfl, rfl, rfl, h2, r2⟩ := trodAll_cons r1
  obtain ⟨rfl, rfl, rfl⟩ := trodAll_nil r2
  obtain rfl : args = #[v0, v1, v2] := by cases args; simp_all
  have o0 := hval 0 52 v0 rfl rfl
  have o1 := hval 1 53 v1 rfl rfl
  have o2 := hval 2 53 v2 rfl rfl
  clear hA0
  obtain ⟨A, n, ca, f, rfl, hca, hAi⟩ := openInI o0 h0
  obtain ⟨B, cb, lb, rfl, hcb, hBs, _⟩ := openInC strIs (fun _ => True) Tryd.underlying53 (by kernel_rfl) (by decide) (fun m cs x h => str_el m cs x h) o1 h1
  obtain ⟨D, cd, ld, rfl, hcd, hDs, _⟩ := openInC strIs (fun _ => True) Tryd.underlying53 (by kernel_rfl) (by decide) (fun m cs x h => str_el m cs x h) o2 h2
  refine (mj_walk A B D n ca cb cd f lb ld W (laid_of hL) hAi hBs hDs).mono fun e W' ⟨he, hb⟩ => ?_
  subst he
  exact ⟨_, rfl, law_post laidOut (by rw [Tryd.params6]; intro t ht; simp only [List.mem_cons, List.not_mem_nil, or_false] at ht; rcases ht with rfl | rfl | rfl <;> exact ⟨by kernel_rfl, of_decide_eq_true (by kernel_rfl)⟩) (by kernel_rfl) Tryd.underlying4 hW' rfl rfl hb⟩
theorem gTab : Tryd.prog.globalNamed "aquatint/zig.order" = some 0 := by kernel_rfl
theorem gTabType : (Tryd.prog.globals[0]?).map (·.type) = some 153 := by kernel_rfl
/-- A world for the witness: the settled one, the table holding what its initialiser lays. -/
noncomputable def laidWorld (os : Os) : World :=
  { World.holding Tryd.prog os ⟨#[], #[], []⟩ with heap := (World.holding Tryd.prog os ⟨#[], #[], []⟩).heap.modify 0 fun
      | .cells _ t frozen => .cells #[.int .i64 0, .int .i64 1, .int .i64 8, .int .i64 16, .int .i64 9, .int .i64 2, .int .i64 3, .int .i64 10, .int .i64 17, .int .i64 24, .int .i64 32, .int .i64 25, .int .i64 18, .int .i64 11, .int .i64 4, .int .i64 5, .int .i64 12, .int .i64 19, .int .i64 26, .int .i64 33, .int .i64 40, .int .i64 48, .int .i64 41, .int .i64 34, .int .i64 27, .int .i64 20, .int .i64 13, .int .i64 6, .int .i64 7, .int .i64 14, .int .i64 21, .int .i64 28, .int .i64 35, .int .i64 42, .int .i64 49, .int .i64 56, .int .i64 57, .int .i64 50, .int .i64 43, .int .i64 36, .int .i64 29, .int .i64 22, .int .i64 15, .int .i64 23, .int .i64 30, .int .i64 37, .int .i64 44, .int .i64 51, .int .i64 58, .int .i64 59, .int .i64 52, .int .i64 45, .int .i64 38, .int .i64 31, .int .i64 39, .int .i64 46, .int .i64 53, .int .i64 60, .int .i64 61, .int .i64 54, .int .i64 47, .int .i64 55, .int .i64 62, .int .i64 63] t frozen
      | o => o }
theorem laid_met (os : Os) : laidMet Tryd.prog Rows.markJoinsRow.laid ((laidWorld os).forCall (fun _ _ => 0) ⟨#[], #[Value.slice none 0 0, Value.slice none 0 0, Value.slice none 0 0], []⟩).memory :=
  laidMet_of_run' 8 (by kernel_rfl) (by kernel_rfl)
theorem reads (os : Os) {H : Type} (enc : TypeId × Value → H) : ∃ places, DataW.whole enc Tryd.prog ((laidWorld os).forCall (fun _ _ => 0) ⟨#[], #[Value.slice none 0 0, Value.slice none 0 0, Value.slice none 0 0], []⟩).memory Tryd.f6.params.toList Rows.markJoinsSpec.vars false #[Value.slice none 0 0, Value.slice none 0 0, Value.slice none 0 0].toList 8 = some ([.nil, .nil, .nil], [], places) :=
  ⟨[], by kernel_rfl⟩
set_option maxRecDepth 100000 in
theorem lifted (os : Os) (started : os.Started) (H : Type) (enc : TypeId × Value → H) (F : Stop.Interp) :
    ReturnsInHanded {} Tryd.checked os 6 .any ((OpenSpec.ofChange Rows.markJoinsSpec).preRow enc Tryd.prog Tryd.f6 Rows.markJoinsRow.domain false Rows.markJoinsRow.laid) (((OpenSpec.ofChange Rows.markJoinsSpec).at F).post enc Tryd.prog Tryd.f6 false true false false) := by
  obtain ⟨places, hx⟩ := reads os enc
  refine returnsInHanded_of_row (C := Tryd.checked) (s := (OpenSpec.ofChange Rows.markJoinsSpec)) own started (by kernel_rfl) Tryd.func6
    (witness_row_at (enc := enc) (C := Tryd.checked) false (laidWorld os) #[Value.slice none 0 0, Value.slice none 0 0, Value.slice none 0 0] rfl (by kernel_rfl) (by kernel_rfl) (by kernel_rfl)
      (OpenSpec.preRow_of_cond 8 hx (by kernel_rfl) (fun k hk => by cases hk) (by kernel_rfl) (laid_met os))) ?_
  intro W base args ds gs before hval hW _ _ hsz hL _ _
  exact contract H enc W base args ds gs before hval hW hL hsz
theorem said : Rows.MarkJoinsSaid :=
  OpenClaim.holds_of_cond 6 Tryd.f6 rfl rfl rfl rfl rfl rfl rfl ⟨rfl, rfl, rfl, rfl, rfl⟩ rfl rfl rfl rfl rfl (by kernel_rfl) Tryd.func6 (by kernel_rfl)
    (of_decide_eq_true (by kernel_rfl)) (by unfold Func.isWrapper; first | (rw [if_pos (by decide +kernel)]; kernel_rfl) | (rw [if_neg (by decide +kernel)]; exact ⟨rfl, rfl⟩))
    (fun os started H enc _ F => by rw [OpenClaim.pre_eq_preRow]; exact lifted os started H enc F)
theorem plain (f : FuncId) (fn : Func) (hf : Tryd.pinned.checked.prog.funcNamed "aquatint/aquatintlaw08.MarkJoins" = some f) (hfn : Tryd.pinned.checked.prog.funcs[f]? = some fn) :
    true = Tryd.pinned.checked.prog.looks [] ∧ ∀ (j : Nat) t, fn.params[j]? = some t → Tryd.pinned.checked.prog.wantsStandIn t = false := by
  obtain rfl : f = 6 := Option.some.inj ((show Tryd.prog.funcNamed "aquatint/aquatintlaw08.MarkJoins" = some 6 by kernel_rfl).symm.trans hf) |>.symm
  obtain rfl : fn = Tryd.f6 := (Option.some.inj (Tryd.func6.symm.trans hfn)).symm
  refine ⟨by kernel_rfl, fun j t ht => ?_⟩
  rw [Tryd.params6] at ht
  have hm := Array.mem_of_getElem? ht
  simp only [List.mem_toArray, List.mem_cons, List.not_mem_nil, or_false] at hm
  rcases hm with rfl | rfl | rfl
  · exact (show Tryd.prog.wantsStandIn 52 = false by kernel_rfl)
  · exact (show Tryd.prog.wantsStandIn 53 = false by kernel_rfl)
  · exact (show Tryd.prog.wantsStandIn 53 = false by kernel_rfl)
/-- The card. -/
theorem card : Rows.MarkJoinsCardSaid :=
  Claim7.holds_tied_plain_at .later [] _ _ _ _ said (fun _ h => by cases h) (by kernel_rfl) (fun _ h => by cases h) markJoins_row_tie rfl ⟨rfl, rfl⟩ (by kernel_rfl) rfl plain (by kernel_rfl)
#print axioms card
end lawMarkJoins
end Go.Proofs.YthibnhgbgmpjoaaDoor
