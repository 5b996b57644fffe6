/- The reader's quants. No condition. -/
import Derived.Test.YthibnhgbgmpjoaaDoorHSegJ
import Derived.Test.YthibnhgbgmpjoaaDoorHGD
import Derived.Great.BuildSlice
namespace Go.Proofs.YthibnhgbgmpjoaaDoor
open Go.RowKit
set_option linter.unusedSimpArgs false
set_option linter.unusedVariables false
set_option maxRecDepth 100000
/-- All blocks but b are as they were. -/
structure Apt (b : Nat) (w w' : World) : Prop where
  os : w'.os = w.os
  tape : w'.tape = w.tape
  output : w'.output = w.output
  size : w'.heap.size = w.heap.size
  block : ∀ i, i ≠ b → w'.heap[i]? = w.heap[i]?
theorem Apt.refl (b : Nat) (w : World) : Apt b w w := ⟨rfl, rfl, rfl, rfl, fun _ _ => rfl⟩
theorem Apt.trans {b : Nat} {w0 w1 w2 : World} (h : Apt b w0 w1) (k : Apt b w1 w2) : Apt b w0 w2 := ⟨k.os.trans h.os, k.tape.trans h.tape, k.output.trans h.output, k.size.trans h.size, fun i hi => (k.block i hi).trans (h.block i hi)⟩
theorem Apt.set (w : World) (p : Addr) (u : Value) : Apt p.block w (w.setCell p u) := ⟨rfl, rfl, rfl, by simp [World.setCell], fun i hi => Below.heap_setCell w p u i hi⟩
theorem Apt.sets (b : Nat) : ∀ (vs : List Value) (o : Nat) (w : World), Apt b w (w.setCells b o vs)
  | [], _, w => Apt.refl b w
  | v :: vs, o, w => (Apt.set w ⟨b, o, none⟩ v).trans (Apt.sets b vs (o + 1) _)
section
variable {w w' wr : World} {r g b b' : Nat} {s : ByteArray} {t : St}
theorem Blk.apt {ty : TypeId} {cs : Array Value} (h : Blk w b' ty cs) (ha : Apt b w w') (hne : b' ≠ b) : Blk w' b' ty cs := (ha.block b' hne).trans h
theorem Rd7.apt (h : Rd7 w r g s t) (ha : Apt b w w') (h1 : r ≠ b) (h2 : g ≠ b) : Rd7 w' r g s t := ⟨Blk.apt h.1 ha h1, Blk.apt h.2.1 ha h2, h.2.2⟩
theorem Two.apt (h : Two g r w wr) (ha : Apt b wr w') (hb : w.heap.size ≤ b) : Two g r w w' :=
  ⟨ha.os.trans h.os, ha.tape.trans h.tape, ha.output.trans h.output, by rw [ha.size]; exact h.size, fun i hi h1 h2 => (ha.block i (by omega)).trans (h.block i hi h1 h2)⟩
theorem OwnC.apt {α : Type} {c : α → List Value} {q base : Nat} {e : TypeId} {v : Value} {l : List α} (h : OwnC c q w base e v l) (ha : Apt b w w') (hne : v.ownBlock ≠ some b) : OwnC c q w' base e v l := by
  refine ⟨h.1, ?_⟩
  rcases h.2 with h0 | ⟨g, cap, cur, rfl, hg, hc, rest⟩
  · exact Or.inl h0
  · exact Or.inr ⟨g, cap, cur, rfl, hg, (ha.block g (fun e => hne (by rw [← e]; rfl))).trans hc, rest⟩
end
theorem Laid.two {g r : Nat} {w w' : World} (h : Laid w) (h2 : Two g r w w') (hg : g ≠ 0) (hr : r ≠ 0) : Laid w' := ⟨Nat.lt_of_lt_of_le h.1 h2.size, fun k hk => by
  have hc := h.2 k hk
  unfold World.cell? at hc ⊢
  rw [h2.block 0 h.1 (fun e => hg e.symm) (fun e => hr e.symm)]
  exact hc⟩
/-- Cells within a block replaced. -/
theorem Blk.sets {t : TypeId} {g : Nat} : ∀ (vs old pre post : List Value) (w : World), old.length = vs.length → Blk w g t (pre ++ old ++ post).toArray → Blk (w.setCells g pre.length vs) g t (pre ++ vs ++ post).toArray
  | [], old, pre, post, w, hl, h => by
    have : old = [] := List.length_eq_zero_iff.1 hl
    subst this; exact h
  | v :: vs, [], pre, post, w, hl, h => by simp at hl
  | v :: vs, x :: old, pre, post, w, hl, h => by
    have h1 : Blk (w.setCell ⟨g, pre.length, none⟩ v) g t ((pre ++ [v]) ++ old ++ post).toArray := by
      have := Blk.set_ h pre.length v
      rw [List.setIfInBounds_toArray] at this
      have e : (pre ++ x :: old ++ post).set pre.length v = (pre ++ [v]) ++ old ++ post := by simp
      rwa [e] at this
    have h2 := Blk.sets vs old (pre ++ [v]) post _ (by simpa using hl) h1
    rw [List.length_append] at h2
    have e2 : (pre ++ [v]) ++ vs ++ post = pre ++ (v :: vs) ++ post := by simp
    rw [e2] at h2
    exact h2
/-- A store into the middle of a known block. -/
theorem wpList_store_part {P : Program} {ops : Array Oper} {rest : List Oper} {o : Oper} {a : Act} {w : World} {Q : Exit → Act → World → Prop} (hgd : o.guard = none) (ty : TypeId) (x y : Operand) (ho : o.op = .store ty x y) (b : Nat) (t : TypeId) (pre old post vs : List Value)
    (hx : a.eval x = .pointer (some ⟨b, pre.length, none⟩)) (hy : a.eval y = .agg vs.toArray) (hB : Blk w b t (pre ++ old ++ post).toArray) (hl : old.length = vs.length) (hi : (P.info? ty).map (·.size) = some vs.length) (h1 : ∀ v ∈ vs, v.oneCell' = true)
    (h : ∀ w2, Blk w2 b t (pre ++ vs ++ post).toArray → Apt b w w2 → wpList P ops Q rest (a.put o.dst undef) w2) : wpList P ops Q (o :: rest) a w := by
  refine wpList_store_mid hgd ty x y ho b pre.length vs.toArray hx hy (fun j hj => ?_) (by simpa using hi) (all_oneCell_toArray h1) (h _ ?_ (Apt.sets b _ _ w))
  · rw [List.size_toArray] at hj
    refine ⟨?_, hB.frozen _⟩
    rw [hB.cell, List.getElem?_toArray, List.append_assoc, List.getElem?_append_right (by omega), Nat.add_sub_cancel_left, List.getElem?_append_left (by omega), List.getElem?_eq_getElem (by omega)]
    rfl
  · exact Blk.sets vs old pre post w hl hB
/-- A slice literal of one struct whose cells are known by a letter. -/
theorem wpList_buildSlice1 {P : Program} {ops : Array Oper} {rest : List Oper} {o : Oper} {a : Act} {w : World} {Q : Exit → Act → World → Prop} (hg : o.guard = none) (t e : TypeId) (x : Operand) (ho : o.op = .buildSlice t 1 #[(0, x)]) (q : Nat) (cs : Array Value)
    (hx : a.eval x = .agg cs) (hu : P.underlying t = some (.slice e)) (hi : (P.info? e).map (fun i => (i.zero.map fun z => z.cells.size, i.size)) = some (some q, q)) (hq : 0 < q) (hq2 : q ≤ 1000) (hcs : cs.size = q)
    (h : wpList P ops Q rest (a.put o.dst (.slice (some ⟨w.heap.size, 0, none⟩) 1 1)) (w.alloc (.cells cs e))) : wpList P ops Q (o :: rest) a w := by
  cases hie : P.info? e with
  | none => rw [hie] at hi; simp at hi
  | some ie =>
    rw [hie] at hi
    simp only [Option.map_some, Option.some.injEq, Prod.mk.injEq] at hi
    obtain ⟨hz, hsz⟩ := hi
    obtain ⟨z, hz, hzq⟩ := Option.map_eq_some_iff.1 hz
    refine wpList_buildSlice hg t e 1 #[(0, x)] ho cs ie z hu hie hz (by rw [hsz]; omega) (by rw [hsz]; omega) ?_ h
    have hv : ∀ v ∈ [Value.agg cs], v.cells.size = q := by intro v hv; simp only [List.mem_singleton] at hv; subst hv; exact hcs
    have h2 := Great.fill_whole hq [Value.agg cs] ((Array.range (1 * ie.size)).map (z.cells[· % z.cells.size]!)) hv (by simp [hsz])
    rw [hsz] at h2 ⊢
    simpa [hx, Value.cells] using h2
structure Qt where
  at_ : Int
  wide : Bool
  q : Nat → Int
def Qt.cells (p : Qt) : List Value := [.int .i64 p.at_, .bool p.wide] ++ (arrN .u16 64 p.q).toList
theorem arrN_mem {K : IntKind} {n : Nat} {v : Nat → Int} {u : Value} (h : u ∈ (arrN K n v).toList) : u.oneCell' = true := by
  simp only [arrN, List.mem_map] at h
  obtain ⟨j, _, rfl⟩ := h
  rfl
theorem Qt.is : CellsOf Qt.cells 66 := ⟨fun x => by simp only [Qt.cells, List.length_append, Array.length_toList, arrN_size]; rfl, fun x u hu => by
  rcases List.mem_append.1 hu with h | h
  · simp only [List.mem_cons, List.not_mem_nil, or_false] at h; rcases h with rfl | rfl <;> rfl
  · exact arrN_mem h⟩
/-- Behind k numbers of a table. -/
def zT (s : ByteArray) (n : Nat) (u : St) : Nat → St
  | 0 => u
  | k + 1 => tS (nS s n (zT s n u k)) (decide (0 < nV s n (zT s n u k))) 5
def zV (s : ByteArray) (n : Nat) (u : St) (k : Nat) : Int := nV s n (zT s n u k)
def zA (s : ByteArray) (n : Nat) (u : St) (k : Nat) : Array Value := arrN .u16 64 (fun j => if j < k then zV s n u j else 0)
theorem zA_set (s : ByteArray) (n : Nat) (u : St) (k : Nat) (hk : k < 64) : (zA s n u k).setIfInBounds k (.int .u16 (zV s n u k)) = zA s n u (k + 1) := by
  unfold zA
  rw [arrN_set .u16 _ _ hk]
  refine arrN_congr .u16 fun j hj => ?_
  by_cases h1 : j = k
  · subst h1; simp
  · by_cases h2 : j < k
    · simp [h1, h2, show j < k + 1 by omega]
    · simp [h1, h2, show ¬ j < k + 1 by omega]
theorem zA_all (s : ByteArray) (n : Nat) (u : St) : zA s n u 64 = arrN .u16 64 (zV s n u) := arrN_congr .u16 fun j hj => by simp [hj]
/-- One table. -/
def qu1 (s : ByteArray) (p : St × List Qt) : St × List Qt :=
  let b := nV s 1 p.1
  let u := tS (nS s 1 p.1) (decide (b / 16 ≤ 1 ∧ b % 16 ≤ 3)) 5
  let n := (1 + b / 16 % 2).toNat
  (zT s n u 64, p.2 ++ [⟨b % 16, b / 16 == 1, fun j => zV s n u (inv j)⟩])
def quL (s : ByteArray) : Nat → St × List Qt → St × List Qt
  | 0, p => p
  | f + 1, p => if p.1.e = 0 ∧ (p.2 = [] ∨ p.1.a < s.size) then quL s f (qu1 s p) else p
theorem quL_no (s : ByteArray) (f : Nat) (p : St × List Qt) (h : ¬ (p.1.e = 0 ∧ (p.2 = [] ∨ p.1.a < s.size))) : quL s f p = p := by cases f <;> simp [quL, h]
def quR (s : ByteArray) (t0 : St) : St × List Qt := quL s (s.size + 1) (t0, [])
theorem nS_le (s : ByteArray) (n : Nat) (t : St) : t.a ≤ (nS s n t).a := by show t.a ≤ nxA s n t.a; unfold nxA; split <;> omega
theorem nS_ok {s : ByteArray} {n : Nat} {t : St} (h : (nS s n t).e = 0) : t.e = 0 ∧ t.a + n ≤ s.size ∧ (nS s n t).a = t.a + n := by
  have h' : nxE s n t.a t.e = 0 := h
  unfold nxE at h'
  split at h'
  · rename_i hq; exact ⟨h', hq, by show nxA s n t.a = _; rw [nxA, if_pos hq]⟩
  · split at h' <;> omega
theorem tS_ok {t : St} {ok : Bool} {x : Int} (h : (tS t ok x).e = 0) (hx : x ≠ 0) : t.e = 0 ∧ ok = true := by
  have h' : stp t.e ok x = 0 := h
  unfold stp at h'
  split at h'
  · exact absurd h' hx
  · rename_i hq; exact ⟨h', by cases ok <;> simp_all⟩
theorem zT_le (s : ByteArray) (n : Nat) (u : St) (k : Nat) : u.a ≤ (zT s n u k).a := by
  induction k with
  | zero => exact Nat.le_refl _
  | succ k ih => exact Nat.le_trans ih (nS_le s n _)
theorem zT_ok {s : ByteArray} {n : Nat} {u : St} {k : Nat} (h : (zT s n u k).e = 0) : u.e = 0 := by
  induction k with
  | zero => exact h
  | succ k ih => exact ih (nS_ok (tS_ok h (by decide)).1).1
theorem qu1_adv {s : ByteArray} {p : St × List Qt} (h : (qu1 s p).1.e = 0) : p.1.a + 1 ≤ (qu1 s p).1.a := by
  have h1 := zT_ok h
  have h2 := nS_ok (tS_ok h1 (by decide)).1
  have h3 := zT_le s (1 + nV s 1 p.1 / 16 % 2).toNat (tS (nS s 1 p.1) (decide (nV s 1 p.1 / 16 ≤ 1 ∧ nV s 1 p.1 % 16 ≤ 3)) 5) 64
  have h4 : (nS s 1 p.1).a ≤ (qu1 s p).1.a := h3
  omega
/-- What is left to a reader. -/
def meas (s : ByteArray) (r g : Nat) (w : World) : Nat := match w.cell? ⟨r, 1, none⟩, w.cell? ⟨g, 1, none⟩ with
  | some (.int _ e), some (.int _ a) => if e = 0 then s.size + 1 - a.toNat else 0
  | _, _ => 0
theorem meas_rd {w : World} {r g : Nat} {s : ByteArray} {t : St} (h : Rd7 w r g s t) : meas s r g w = if t.e = 0 then s.size + 1 - t.a else 0 := by
  unfold meas
  rw [h.ec, h.2.1.a_]
  simp
def QuantsPost (w : World) (r g : Nat) (s : ByteArray) (R : St × List Qt) (e : Ending) (w' : World) : Prop :=
  ∃ v, e = .returned (.iface 115 (.agg #[v])) ∧ OwnC Qt.cells 66 w' w.heap.size 136 v R.2 ∧ Rd7 w' r g s R.1 ∧ Two g r w w'
structure QuI (w : World) (r g : Nat) (s : ByteArray) (v : Value) (l : List Qt) (t : St) (wr : World) : Prop where
  rd : Rd7 wr r g s t
  qs : Blk wr w.heap.size 115 #[v]
  ow : OwnC Qt.cells 66 wr w.heap.size 136 v l
  tw : Two g r w wr
section
variable {w wr w' : World} {r g b : Nat} {s : ByteArray} {v : Value} {l : List Qt} {t t' : St}
theorem QuI.two (h : QuI w r g s v l t wr) (hr : Rd7 w' r g s t') (h2 : Two g r wr w') : QuI w r g s v l t' w' :=
  ⟨hr, h2.keepT h.rd (by decide) (by decide) _ _ h.qs, h.ow.keep (h2.keepT h.rd (by decide) (by decide)), h.tw.trans h2⟩
theorem QuI.bel (h : QuI w r g s v l t wr) (hb : Below wr.heap.size wr w') : QuI w r g s v l t w' := ⟨h.rd.bel hb, h.qs.bel hb, h.ow.bel hb, h.tw.bel (hb.mono h.tw.size)⟩
theorem QuI.drew (h : QuI w r g s v l t wr) : QuI w r g s v l t wr.drew := h.bel (Below.refl _ _).drew
theorem QuI.apt (h : QuI w r g s v l t wr) (ha : Apt b wr w') (h1 : r ≠ b) (h2 : g ≠ b) (h3 : w.heap.size < b) (h4 : v.ownBlock ≠ some b) : QuI w r g s v l t w' :=
  ⟨h.rd.apt ha h1 h2, h.qs.apt ha (by omega), h.ow.apt ha h4, h.tw.apt ha (by omega)⟩
end
theorem quant_built (y : Int) (b : Bool) : Tryd.prog.built 136 [(0, .int .i64 y), (1, .bool b)] = some (Qt.cells ⟨y, b, fun _ => 0⟩).toArray := by kernel_rfl
/-- The table that is read, and its numbers. -/
structure QuP (w wr : World) (b7 b8 : Nat) (v : Value) (p : Qt) (z : Array Value) : Prop where
  qt : Blk wr b7 136 p.cells.toArray
  z8 : Blk wr b8 134 z
  ne : v.ownBlock ≠ some b7
  l7 : w.heap.size < b7
  l8 : w.heap.size < b8
theorem QuP.two {w wr w' : World} {r g b7 b8 : Nat} {s : ByteArray} {v : Value} {l : List Qt} {t : St} {p : Qt} {z : Array Value} (h : QuP w wr b7 b8 v p z) (hI : QuI w r g s v l t wr) (h2 : Two g r wr w') : QuP w w' b7 b8 v p z :=
  ⟨h2.keepT hI.rd (by decide) (by decide) _ _ h.qt, h2.keepT hI.rd (by decide) (by decide) _ _ h.z8, h.ne, h.l7, h.l8⟩
theorem QuP.bel {w wr w' : World} {b7 b8 : Nat} {v : Value} {p : Qt} {z : Array Value} (h : QuP w wr b7 b8 v p z) (hb : Below wr.heap.size wr w') : QuP w w' b7 b8 v p z := ⟨h.qt.bel hb, h.z8.bel hb, h.ne, h.l7, h.l8⟩
theorem num7z (n : Nat) (z : Int) (hz : z = n) (h1 : 1 ≤ n) (h4 : n ≤ 4) (w : World) (r g : Nat) (s : ByteArray) (t : St) (h : Rd7 w r g s t) :
    Calls Tryd.prog 31 #[.pointer (some ⟨r, 0, none⟩), .int .i64 z] w fun ex w' => ex = .returned (.int .i64 (nV s n t)) ∧ Rd7 w' r g s (nS s n t) ∧ Two g r w w' := hz ▸ num7 n h1 h4 w r g s t h
theorem and1 (y : Int) (h0 : 0 ≤ y) (h1 : y < 16) : bits .and .i64 y 1 = y % 2 := by
  obtain ⟨k, rfl⟩ : ∃ k : Nat, y = k := ⟨y.toNat, by omega⟩
  have hk : k < 16 := by omega
  have h : ∀ k : Fin 16, bits .and .i64 ((k.val : Nat) : Int) 1 = ((k.val : Nat) : Int) % 2 := by decide +kernel
  exact h ⟨k, hk⟩
set_option maxHeartbeats 4000000 in
theorem quants_walk (w : World) (r g : Nat) (s : ByteArray) (t0 : St) (hL : Laid w) (hr0 : r ≠ 0) (hg0 : g ≠ 0) (h : Rd7 w r g s t0) :
    Calls Tryd.prog 28 #[.pointer (some ⟨r, 0, none⟩)] w (QuantsPost w r g s (quR s t0)) := by
  have H := Lib.hid h; clear h
  have HLD := Lib.hid hL; clear hL
  obtain ⟨p2, hp2⟩ : ∃ p, p = quR s t0 := ⟨_, rfl⟩
  rw [← hp2]
  have HP2 := Lib.hid hp2; clear hp2
  have hI0 : QuI w r g s (.slice none 0 0) [] t0 (w.alloc (.cells #[.slice none 0 0] 115)) := ⟨H.out.alloc _, Blk.new _ _ _, OwnC.nil _ _ _, (Two.refl g r w).alloc _⟩
  have HI0 := Lib.hid hI0; clear hI0
  go_enter Tryd.func28, Tryd.ntmps28
  go_upto_block 0 with fail
  go_cut [] (fun wx => Hid (∃ v, QuI w r g s v p2.2 p2.1 wx))
  case rest =>
    obtain ⟨v, hI⟩ := hcut.out
    obtain ⟨A, n1, cp, rfl⟩ := hI.ow.form2
    have HI := Lib.hid hI
    have e0 : wc.cell? ⟨w.heap.size, 0, none⟩ = some (.slice A n1 cp) := hI.qs.cell 0
    clear hI hcut
    go_wp2_with fail
    go_ret
    exact ⟨_, rfl, HI.out.ow, HI.out.rd, HI.out.tw⟩
  case first =>
  go_wp2_with fail
  go_loopw [4] (fun fb wr => ∃ (f : Nat) (b : Bool) (v : Value) (l : List Qt) (t : St), fb = .bool b ∧ Hid (b = true ↔ l = []) ∧ Hid (QuI w r g s v l t wr) ∧ Hid (quL s f (t, l) = p2) ∧ Hid (t.e = 0 → s.size + 1 ≤ f + t.a) ∧ Hid (l.length + f = s.size + 1)) (fun _ wr => meas s r g wr)
  case atStart => exact ⟨s.size + 1, true, .slice none 0 0, [], t0, rfl, Lib.hid (by simp), HI0, Lib.hid HP2.out.symm, Lib.hid (fun _ => by omega), Lib.hid (by simp)⟩
  case round =>
    obtain ⟨f, b, v, l, t, rfl, HBL, HI, HP, HF, HLN⟩ := hrel
    by_cases hc : t.e = 0 ∧ (l = [] ∨ t.a < s.size)
    case neg =>
      have hxe : (t, l) = p2 := by rw [← HP.out, quL_no _ _ _ hc]
      have HX := Lib.hid hxe; clear hxe
      have hD : Hid (∃ v, QuI w r g s v p2.2 p2.1 wr) := Lib.hid ⟨v, by rw [← HX.out]; exact HI.out⟩
      have hDD : Hid (∃ v, QuI w r g s v p2.2 p2.1 wr.drew) := Lib.hid ⟨v, by rw [← HX.out]; exact HI.out.drew⟩
      by_cases he : t.e = 0
      case neg =>
        have hee : wr.cell? ⟨r, 1, none⟩ = some (.int .i64 t.e) := HI.out.rd.ec
        have hef : (t.e == 0) = false := by simpa using he
        clear he hc
        go_wp2_with fail
        go_meet
        case rel => exact hD
      case pos =>
        have hb : b = false := by cases b with | false => rfl | true => exact absurd ⟨he, .inl (HBL.out.1 rfl)⟩ hc
        subst hb
        have hle : s.size ≤ t.a := by rcases Nat.lt_or_ge t.a s.size with h | h; exact absurd ⟨he, .inr h⟩ hc; exact h
        have hee : wr.cell? ⟨r, 1, none⟩ = some (.int .i64 0) := he ▸ HI.out.rd.ec
        have hgp : wr.cell? ⟨r, 0, none⟩ = some (.pointer (some ⟨g, 0, none⟩)) := HI.out.rd.gp
        have hdl : decide (t.a < s.size) = false := by simp; omega
        clear he hc hle
        go_wp2_with (go_at_call 35; refine (left7 _ r g s t HI.out.rd).mono ?_; rintro ex w1 ⟨rfl, rfl⟩)
        go_meet
        case rel => exact hDD
    case pos =>
    go_upto_region 3 with fail
    go_cut [25] (fun c wx => c = .bool true ∧ Hid (QuI w r g s v l t wx))
    case first =>
      have hee : wr.cell? ⟨r, 1, none⟩ = some (.int .i64 0) := by have := HI.out.rd.ec; rw [hc.1] at this; exact this
      cases b with
      | true =>
        clear hc
        go_wp2_with fail
        go_meet
        case rel => exact ⟨rfl, HI⟩
      | false =>
        have hle : t.a < s.size := by rcases hc.2 with h | h; exact absurd (HBL.out.2 h) (by simp); exact h
        have hgp : wr.cell? ⟨r, 0, none⟩ = some (.pointer (some ⟨g, 0, none⟩)) := HI.out.rd.gp
        have hdl : decide (t.a < s.size) = true := by simp; omega
        clear hc hle
        go_wp2_with (go_at_call 35; refine (left7 _ r g s t HI.out.rd).mono ?_; rintro ex w1 ⟨rfl, rfl⟩)
        go_meet
        case rel => exact ⟨rfl, Lib.hid HI.out.drew⟩
    case rest =>
    obtain ⟨rfl, HI1⟩ := hcut
    have hm0 := meas_rd HI.out.rd
    rw [if_pos hc.1] at hm0
    have HM0 := Lib.hid hm0
    have hta : t.a ≤ s.size := HI.out.rd.2.2.1
    clear HI hm0
    obtain ⟨f, rfl⟩ : ∃ f', f = f' + 1 := by
      cases f with
      | zero => exfalso; have h1 := HF.out hc.1; have h2 := HI1.out.rd.2.2.1; omega
      | succ f => exact ⟨f, rfl⟩
    have hn1 : quL s f (qu1 s (t, l)) = p2 := by rw [← HP.out, quL, if_pos hc]
    have hfn : (qu1 s (t, l)).1.e = 0 → s.size + 1 ≤ f + (qu1 s (t, l)).1.a := fun h => by have h1 := qu1_adv h; have h2 := HF.out hc.1; dsimp only at h1; omega
    have hme : (qu1 s (t, l)).1.e = 0 → t.a + 1 ≤ (qu1 s (t, l)).1.a := fun h => qu1_adv h
    have hlf : l.length ≤ s.size := by have := HLN.out; omega
    have hss : s.size ≤ 65533 := HI1.out.rd.2.2.2.2
    have HE := Lib.hid hc.1
    obtain ⟨bb, hbb⟩ : ∃ n, n = nV s 1 t := ⟨_, rfl⟩
    have hbd : 0 ≤ bb ∧ bb < 256 := hbb ▸ nV_bd s t
    obtain ⟨u1, hu1⟩ : ∃ t', t' = nS s 1 t := ⟨_, rfl⟩
    obtain ⟨x, hx⟩ : ∃ x, x = bb / 16 := ⟨_, rfl⟩
    obtain ⟨y, hy⟩ : ∃ y, y = bb % 16 := ⟨_, rfl⟩
    obtain ⟨u2, hu2⟩ : ∃ t, t = tS u1 (decide (x ≤ 1 ∧ y ≤ 3)) 5 := ⟨_, rfl⟩
    obtain ⟨m, hm⟩ : ∃ m, m = x % 2 := ⟨_, rfl⟩
    have hm0 : 0 ≤ m := by omega
    have hm1 : m ≤ 1 := by omega
    obtain ⟨n, hn⟩ : ∃ n, n = (1 + m).toNat := ⟨_, rfl⟩
    have hnn : 1 ≤ n ∧ n ≤ 2 := by omega
    have hnm : 1 + m = (n : Int) := by omega
    have hand : bits .and .i64 x 1 = m := by rw [and1 x (by omega) (by omega), hm]
    have hq : qu1 s (t, l) = (zT s n u2 64, l ++ [⟨y, x == 1, fun j => zV s n u2 (inv j)⟩]) := by
      rw [qu1]
      simp only [← hbb, ← hu1, ← hx, ← hy, ← hu2, ← hm, ← hn]
    rw [hq] at hn1 hfn hme
    have HN1 := Lib.hid hn1; have HFN := Lib.hid hfn; have HME := Lib.hid hme; have HBB := Lib.hid hbb; have HU1 := Lib.hid hu1; have HX := Lib.hid hx; have HYY := Lib.hid hy; have HU2 := Lib.hid hu2; have HNM := Lib.hid hnm; have HLF := Lib.hid hlf
    clear hn1 hfn hme hbb hu1 hx hy hu2 hm hn hnm hq hc hbd
    go_wp2_with fail
    refine (halves7 _ r g s t HI1.out.rd).mono ?_
    rintro ex w2 ⟨rfl, h2, k2⟩
    rw [← HU1.out] at h2; rw [← HBB.out, ← HX.out, ← HYY.out]
    have HI2 := Lib.hid (HI1.out.two h2 k2); clear h2 k2
    go_upto_region 6 with fail
    go_cut [] (fun wx => Hid (QuI w r g s v l u2 wx))
    case first =>
      clear hand hm0 hm1
      go_wp2_with fail
      all_goals
        refine (test7e _ r g s u1 5 (decide (x ≤ 1 ∧ y ≤ 3)) _ ?_ HI2.out.rd).mono ?_
        first | rfl | (rw [Bool.eq_iff_iff]; simp only [Bool.false_eq_true, decide_eq_true_eq, false_iff, true_iff]; omega)
        rintro ex w3 ⟨rfl, h2, k2⟩
        rw [← HU2.out] at h2
        have HI3 := Lib.hid (HI2.out.two h2 k2); clear h2 k2
        go_wp2_with fail
        go_meet
        case rel => exact HI3
    case rest =>
    have HI3 := hcut
    clear hcut HI2 HI1
    obtain ⟨cs, hcs⟩ : ∃ cs, cs = (Qt.cells ⟨y, (x == 1), fun _ => 0⟩).toArray := ⟨_, rfl⟩
    have hbt := quant_built y (x == 1)
    rw [← hcs] at hbt
    have hcz : cs.size = 66 := by rw [hcs, List.size_toArray, Qt.is.len]
    have hc1 : cs.all (·.oneCell') = true := by rw [hcs]; exact all_oneCell_toArray (Qt.is.one _)
    have HCS := Lib.hid hcs; have HBT := Lib.hid hbt; have HCZ := Lib.hid hcz; have HC1 := Lib.hid hc1
    clear hcs hbt hcz hc1
    go_wp2_with (first | ((with_reducible show wpList _ _ _ (⟨some 42, _, _, _, _, _⟩ :: _) _ _); refine wpList_build2 rfl 136 (.tmp 39) (.tmp 41) (.int .i64 y) (.bool (x == 1)) rfl rfl rfl HBT.out ?_) | (refine wpList_store_new rfl 136 (.tmp 7) (.tmp 42) rfl cs _ 136 rfl rfl (by rw [HCZ.out]; kernel_rfl) (by rw [HCZ.out]; rfl) HC1.out ?_; intro w5 hs5 hB5 hb5; have HB5 := Lib.hid hB5; have HBW5 := Lib.hid hb5; clear hB5 hb5))
    have hI5 : QuI w r g s v l u2 (w5.alloc (.cells (arrN .u16 64 (fun _ => 0)) 134)) := (HI3.out.bel HBW5.out).bel ((Below.refl _ _).alloc (Nat.le_refl _) _)
    have hP5 : QuP w (w5.alloc (.cells (arrN .u16 64 (fun _ => 0)) 134)) wc.heap.size w5.heap.size v ⟨y, (x == 1), fun _ => 0⟩ (zA s n u2 0) :=
      ⟨Blk.alloc (HCS.out ▸ HB5.out) _, by have := Blk.new w5 134 (arrN .u16 64 (fun _ => 0)); unfold zA; simpa using this, HI3.out.ow.ne (Nat.le_refl _), HI3.out.qs.lt, Nat.lt_of_lt_of_le HI3.out.qs.lt HBW5.out.size⟩
    have HI5 := Lib.hid hI5; have HP5 := Lib.hid hP5
    clear hI5 hP5
    go_loopw [43] (fun i wx => ∃ k : Nat, k ≤ 64 ∧ i = .int .i64 k ∧ Hid (QuI w r g s v l (zT s n u2 k) wx) ∧ Hid (QuP w wx wc.heap.size w5.heap.size v ⟨y, (x == 1), fun _ => 0⟩ (zA s n u2 k))) (fun i _ => 64 - (intOf i).toNat)
    case atStart => exact ⟨0, by omega, rfl, HI5, HP5⟩
    case round =>
      clear HB5 HBW5 HI5 HP5 HI3
      obtain ⟨k, hk, rfl, HIk, HPk⟩ := hrel
      by_cases hk64 : k < 64
      case pos =>
        obtain ⟨uk, huk⟩ : ∃ t, t = zT s n u2 k := ⟨_, rfl⟩
        obtain ⟨vk, hvk⟩ : ∃ n', n' = zV s n u2 k := ⟨_, rfl⟩
        have hvb : 0 ≤ vk ∧ vk < 65536 := by
          have h1 := nV_bd2 s n (zT s n u2 k)
          have h2 : (256 : Int) ^ n ≤ 65536 := by rcases (by omega : n = 1 ∨ n = 2) with rfl | rfl <;> decide
          rw [hvk]; exact ⟨h1.1, by have := h1.2; unfold zV; omega⟩
        obtain ⟨hv0, hv1⟩ := hvb
        have hvn : nV s n uk = vk := by rw [huk, hvk]; rfl
        obtain ⟨un, hun⟩ : ∃ t, t = nS s n uk := ⟨_, rfl⟩
        have hun1 : zT s n u2 (k + 1) = tS un (decide (0 < vk)) 5 := by rw [zT, ← huk, hvn, hun]
        have hza := zA_set s n u2 k hk64
        rw [← hvk] at hza
        rw [← huk] at HIk
        have HVN := Lib.hid hvn; have HUN := Lib.hid hun; have HUN1 := Lib.hid hun1; have HZA := Lib.hid hza
        clear hvn hun hun1 hza huk hvk
        go_wp2_with fail
        refine (num7z n _ HNM.out (by omega) (by omega) _ r g s uk HIk.out.rd).mono ?_
        rintro ex w6 ⟨rfl, h6, k6⟩
        rw [← HUN.out] at h6; rw [HVN.out]
        have HI6 := Lib.hid (HIk.out.two h6 k6); have HP6 := Lib.hid (HPk.out.two HIk.out k6); clear h6 k6
        have hold : w6.cell? ⟨w5.heap.size, k, none⟩ = some (.int .u16 ((fun j => if j < k then zV s n u2 j else 0) k)) := (HP6.out.z8.cell k).trans (arrN_get .u16 _ hk64)
        have hfz := HP6.out.z8.frozen k
        go_upto_region 13 with fail
        have h8r : w5.heap.size ≠ r := HP6.out.z8.ne HI6.out.rd.1 (by decide)
        have h8g : w5.heap.size ≠ g := HP6.out.z8.ne HI6.out.rd.2.1 (by decide)
        have h87 : wc.heap.size ≠ w5.heap.size := HP6.out.qt.ne HP6.out.z8 (by decide)
        have hap := Apt.set w6 ⟨w5.heap.size, k, none⟩ (.int .u16 vk)
        have hI7 := HI6.out.apt hap h8r.symm h8g.symm HP6.out.l8 (HI6.out.ow.neT HP6.out.z8 (by decide))
        have hP7 : QuP w (w6.setCell ⟨w5.heap.size, k, none⟩ (.int .u16 vk)) wc.heap.size w5.heap.size v ⟨y, (x == 1), fun _ => 0⟩ (zA s n u2 (k + 1)) :=
          ⟨HP6.out.qt.apt hap h87, by rw [← HZA.out]; exact HP6.out.z8.set_ k _, HP6.out.ne, HP6.out.l7, HP6.out.l8⟩
        have h13 : (w6.setCell ⟨w5.heap.size, k, none⟩ (.int .u16 vk)).cell? ⟨w5.heap.size, k, none⟩ = some (.int .u16 vk) := by
          rw [(HP6.out.z8.set_ k (.int .u16 vk)).cell k, Array.getElem?_setIfInBounds, if_pos rfl, if_pos (by unfold zA; rw [arrN_size]; exact hk64)]
        have HI7 := Lib.hid hI7; have HP7 := Lib.hid hP7
        clear hold hfz h8r h8g h87 hap hI7 hP7
        go_wp2_with fail
        refine (test7e _ r g s un 5 (decide (0 < vk)) _ ?_ HI7.out.rd).mono ?_
        first | rfl | (rw [Bool.eq_iff_iff]; simp only [Bool.false_eq_true, decide_eq_true_eq, false_iff, true_iff]; omega)
        rintro ex w8 ⟨rfl, h8, k8⟩
        rw [← HUN1.out] at h8
        have HI8 := Lib.hid (HI7.out.two h8 k8); have HP8 := Lib.hid (HP7.out.two HI7.out k8); clear h8 k8 h13
        go_wp2_with fail
        go_roundw
        case rel => exact ⟨k + 1, by omega, by go_num, HI8, HP8⟩
        case measure => simp [intOf]; omega
      case neg =>
        obtain rfl : k = 64 := by omega
        rw [zA_all] at HPk
        obtain ⟨az, haz⟩ : ∃ az, az = arrN .u16 64 (zV s n u2) := ⟨_, rfl⟩
        have hbk := fun w' hL => backU (zV s n u2) w' hL
        rw [← haz] at hbk HPk
        have hzs : az.size = 64 := by rw [haz, arrN_size]
        obtain ⟨qz, hqz⟩ : ∃ qz : Nat → Int, qz = fun j => zV s n u2 (inv j) := ⟨_, rfl⟩
        obtain ⟨bz, hbz⟩ : ∃ bz, bz = (arrN .u16 64 (fun j => zV s n u2 (inv j))).toList := ⟨_, rfl⟩
        have hbz2 : Value.agg (arrN .u16 64 (fun j => zV s n u2 (inv j))) = .agg bz.toArray := by rw [hbz]
        have hbl : bz.length = 64 := by rw [hbz, Array.length_toList, arrN_size]
        have hb1 : ∀ u ∈ bz, u.oneCell' = true := by rw [hbz]; exact fun u hu => arrN_mem hu
        have hcell : (Qt.cells ⟨y, (x == 1), qz⟩) = [Value.int .i64 y, Value.bool (x == 1)] ++ bz ++ [] := by rw [hqz, hbz]; simp [Qt.cells]
        simp only [hbz2] at hbk
        have HBK := Lib.hid hbk; have HZS := Lib.hid hzs; have HQZ := Lib.hid hqz; have HBL := Lib.hid hbl; have HB1 := Lib.hid hb1; have HCE := Lib.hid hcell
        clear hbk haz hzs hqz hbz hbz2 hbl hb1 hcell
        have hqold : Blk wr wc.heap.size 136 ([Value.int .i64 y, Value.bool (x == 1)] ++ (arrN .u16 64 (fun _ => 0)).toList ++ []).toArray := by rw [List.append_nil]; exact HPk.out.qt
        have HQO := Lib.hid hqold; clear hqold
        obtain ⟨uz, huz⟩ : ∃ t, t = zT s n u2 64 := ⟨_, rfl⟩
        rw [← huz] at HIk HN1 HFN HME
        have HUZ := Lib.hid huz; clear huz
        have h7r : wc.heap.size ≠ r := HPk.out.qt.ne HIk.out.rd.1 (by decide)
        have h7g : wc.heap.size ≠ g := HPk.out.qt.ne HIk.out.rd.2.1 (by decide)
        go_upto_region 16 with (first | (refine wpList_load_row rfl 134 (.tmp 8) rfl w5.heap.size rfl 134 az (0, 0) _ HPk.out.z8 Tryd.underlying134 rfl (by rw [HZS.out]; kernel_rfl) ?_) | (go_at_call 53; refine (HBK.out _ (HLD.out.two HIk.out.tw hg0 hr0)).mono ?_; rintro ex w6 ⟨rfl, hb6⟩; have HI6 := Lib.hid (HIk.out.bel hb6); have HQ6 := Lib.hid (HQO.out.bel hb6); clear hb6) | (refine wpList_store_part rfl 134 (.tmp 63) (.tmp 62) rfl wc.heap.size 136 [Value.int .i64 y, Value.bool (x == 1)] (arrN .u16 64 (fun _ => 0)).toList [] bz rfl rfl HQ6.out (by rw [HBL.out, Array.length_toList, arrN_size]) (by rw [HBL.out]; kernel_rfl) HB1.out ?_; intro w7 hB7 hA7; rw [← HCE.out] at hB7; have HB7 := Lib.hid hB7; have HI7 := Lib.hid (HI6.out.apt hA7 h7r.symm h7g.symm HPk.out.l7 HPk.out.ne); clear hB7 hA7))
        obtain ⟨A, cp, rfl, hcp⟩ := HI7.out.ow.form
        have e0 : w7.cell? ⟨w.heap.size, 0, none⟩ = some (.slice A l.length cp) := HI7.out.qs.cell 0
        obtain ⟨cq, hcq⟩ : ∃ cq, cq = (Qt.cells ⟨y, (x == 1), qz⟩).toArray := ⟨_, rfl⟩
        rw [← hcq] at HB7
        have hcqz : cq.size = 66 := by rw [hcq, List.size_toArray, Qt.is.len]
        have hcql : cq.toList = Qt.cells ⟨y, (x == 1), qz⟩ := by rw [hcq]
        have HCQZ := Lib.hid hcqz; have HCQL := Lib.hid hcql
        clear hcq hcqz hcql hcp
        go_wp2_with (first | (refine wpList_load_row rfl 136 (.tmp 7) rfl wc.heap.size rfl 136 cq (0, 0) _ HB7.out Tryd.underlying136 rfl (by rw [HCQZ.out]; kernel_rfl) ?_) | (refine wpList_buildSlice1 rfl 113 136 (.tmp 66) rfl 66 cq rfl Tryd.underlying113 (by kernel_rfl) (by decide) (by decide) HCQZ.out ?_) | (at_builtin; refine appC (q := 66) (by_ := 144) (cs := cq) ⟨y, (x == 1), qz⟩ Qt.is Tryd.underlying113 (by kernel_rfl) (by decide) (by decide) rfl (.tmp 65) (.tmp 67) rfl rfl rfl HCQL.out HI7.out.ow (by have := HLF.out; omega) HI7.out.tw.size ?_; intro v8 w8 hO8 hk8 hb8; obtain ⟨A8, n8, cp8, rfl⟩ := hO8.form2; have HS8 := Lib.hid (hk8 _ _ _ (by decide) HI7.out.qs); have e8 : w8.cell? ⟨w.heap.size, 0, none⟩ = some (.slice A l.length cp) := HS8.out.cell 0; have f8 := HS8.out.frozen 0; have HO8 := Lib.hid hO8; have HK8 := Lib.hid hk8; have HB8 := Lib.hid hb8; clear hO8 hk8 hb8))
        have hR8 := HI7.out.rd.keepT HK8.out (by decide) (by decide)
        have hI9 : QuI w r g s (.slice A8 n8 cp8) (l ++ [⟨y, (x == 1), qz⟩]) uz (w8.setCell ⟨w.heap.size, 0, none⟩ (.slice A8 n8 cp8)) :=
          ⟨hR8.set (HS8.out.ne hR8.1 (by decide)) (HS8.out.ne hR8.2.1 (by decide)) _, HS8.out.set_ 0 (.slice A8 n8 cp8), HO8.out.set (HO8.out.neT HS8.out (by decide)) _, (HI7.out.tw.bel HB8.out).set (Nat.le_refl _) _⟩
        have HI9 := Lib.hid hI9; clear hI9 hR8
        go_wp2_with fail
        go_roundw
        case rel => exact ⟨f, false, (.slice A8 n8 cp8), l ++ [⟨y, (x == 1), qz⟩], uz, rfl, Lib.hid (by simp), HI9, by rw [HQZ.out]; exact HN1, HFN, Lib.hid (by rw [List.length_append]; have := HLN.out; simp; omega)⟩
        case measure =>
          rw [meas_rd HI9.out.rd, HM0.out]
          have h9 := HME.out
          split
          · rename_i hz; have := h9 hz; omega
          · omega
end Go.Proofs.YthibnhgbgmpjoaaDoor
