/- What was put is read again: the readers' and writers' calls along it. No condition. -/
import Derived.Test.YtaofponadaifiaaBkP
namespace Go.Proofs.Ytaofponadaifiaa
open Go.RowKit
set_option linter.unusedSimpArgs false
set_option linter.unusedVariables false
/-- append of one struct of cells cs: the goal's world is that behind the making of the one-element row. -/
theorem appV {w : World} {base : Nat} {v : Value} {n q by_ : Nat} {e sl : TypeId} {xs : List Value} {cs : Array Value} {ops : Array Oper} {rest : List Oper} {o : Oper} {a : Act} {Q : Exit → Act → World → Prop}
    (hsl : Try.prog.underlying sl = some (.slice e)) (hinf : (Try.prog.info? e).map (fun i => (i.zero.map fun z => z.cells.size, i.size, i.bytes)) = some (some q, q, by_)) (hq : 0 < q) (hby : by_ ≤ 1000)
    (hgd : o.guard = none) (s y : Operand) (ho : o.op = .call { callee := .builtin .append, args := #[s, y], argTypes := #[sl, sl] }) (hs : a.eval s = v) (hy : a.eval y = .slice (some ⟨w.heap.size, 0, none⟩) 1 1)
    (hcs : cs.size = q) (h1 : ∀ u ∈ cs.toList, u.oneCell' = true) (hown : w.ownsRow base e q v n xs) (hlen : n < 1000000000) (hbase : base ≤ w.heap.size)
    (h : ∀ v' w', w'.ownsRow base e q v' (n + 1) (xs ++ cs.toList) → KeepT e w w' → Below base w w' → wpList Try.prog ops Q rest (a.put o.dst v') w') :
    wpList Try.prog ops Q (o :: rest) a (w.alloc (.cells cs e)) := by
  obtain ⟨i, hi⟩ := Option.isSome_iff_exists.1 (show (Try.prog.info? e).isSome = true by cases hq' : Try.prog.info? e with | none => rw [hq'] at hinf; cases hinf | some _ => rfl)
  rw [hi] at hinf
  simp only [Option.map_some, Option.some.injEq, Prod.mk.injEq] at hinf
  obtain ⟨hz, hsz, hb⟩ := hinf
  obtain ⟨z, hz, hzs⟩ := Option.map_eq_some_iff.1 hz
  refine wpList_append_own (w.alloc (.cells cs e)) hgd s y sl ho base e i z q by_ hsl hi hz hsz hb hzs hq v n xs hs (World.ownsRow.alloc hown _) ⟨w.heap.size, 0, none⟩ 1 1 cs.toList hy ?_ ?_ h1 ?_ ?_ ?_ ?_
  · simp [hcs]
  · intro j u hj
    have hadd : (⟨w.heap.size, 0, none⟩ : Addr).add j = ⟨w.heap.size, j, none⟩ := by unfold Addr.add; split <;> simp_all
    rw [hadd, (Blk.new w e cs).cell j]
    simpa using hj
  · simp only [maxLen]; omega
  · have : (n + 1) * by_ ≤ 1000000001 * 1000 := Nat.mul_le_mul (by omega) hby
    omega
  · exact Nat.le_trans hbase (by simp)
  · intro v' w' hown' hg _
    have hg2 : w.grownBy w' v.ownBlock := (World.grownBy_alloc w _ v.ownBlock).trans hg
    exact h v' w' hown' (KeepT.of_own hown hg2) ((Below.refl base w).grown hg2 hbase (fun k hk => (World.ownsRow.lt hown k hk).1))
/-- A call: what, and its two numbers. -/
structure Ac where
  d : Int
  v : Int
  n : Int
def Ac.cells (p : Ac) : List Value := [.int .u8 p.d, .int .i64 p.v, .int .i64 p.n]
def flatA (P : List Ac) : List Value := (P.map Ac.cells).flatten
theorem flatA_len (P : List Ac) : (flatA P).length = 3 * P.length := by
  induction P with
  | nil => rfl
  | cons p P ih => simp only [flatA, List.map_cons, List.flatten_cons, List.length_append, List.length_cons] at *; rw [ih]; simp [Ac.cells]; omega
theorem flatA_get (P : List Ac) (i j : Nat) (hi : i < P.length) (hj : j < 3) : (flatA P)[i * 3 + j]? = (P[i].cells)[j]? := by
  induction P generalizing i with
  | nil => simp at hi
  | cons p P ih =>
    have e : flatA (p :: P) = p.cells ++ flatA P := by simp [flatA]
    rw [e]
    cases i with
    | zero => rw [List.getElem?_append_left (by simp [Ac.cells]; omega)]; simp
    | succ i =>
      have hl : p.cells.length = 3 := rfl
      rw [List.getElem?_append_right (by rw [hl]; omega), hl]
      have e2 : (i + 1) * 3 + j - 3 = i * 3 + j := by omega
      rw [e2, ih i (by simpa using hi)]
      simp
def Ac.ev (p : Ac) : Ev := if p.d % 6 < 5 then .put p.v p.n.toNat else .mark p.v
/-- It was put without an error. -/
def Ac.ok (p : Ac) : Prop := 0 ≤ p.d ∧ p.d < 256 ∧ (if p.d % 6 < 5 then 0 ≤ p.n ∧ p.n ≤ 16 ∧ 0 ≤ p.v ∧ p.v < 2 ^ p.n.toNat else 1 ≤ p.v ∧ p.v ≤ 254)
/-- The writer behind k calls of which those of P were done. -/
structure PW (w : World) (B g : Nat) (l W : List Int) (t : Int) (P : List Ac) (k : Nat) : Prop where
  wr : ∃ vv, WrV w B g vv l (valB W) W.length t
  w8 : W.length < 8
  wb : bitL W
  len : l.length ≤ 8 * k
  t0 : 0 ≤ t
  t1 : t ≤ 16 * k
  ok : ∀ p ∈ P, p.ok
  pl : P.length ≤ k
  all : ∀ es, l ++ enc W es = enc [] (P.map Ac.ev ++ es)
theorem PW.bel {w w' : World} {B g k : Nat} {l W : List Int} {t : Int} {P : List Ac} (h : PW w B g l W t P k) (hb : Below w.heap.size w w') : PW w' B g l W t P k := by
  obtain ⟨⟨vv, h1⟩, h2⟩ := h
  exact ⟨⟨vv, h1.bel hb⟩, by assumption, by assumption, by assumption, by assumption, by assumption, by assumption, by assumption, by assumption⟩
theorem PW.drewE {w wd : World} {B g k : Nat} {l W : List Int} {t : Int} {P : List Ac} (h : PW w B g l W t P k) (hd : wd = w.drew) : PW wd B g l W t P k := by
  subst hd; exact ⟨by obtain ⟨vv, h1⟩ := h.wr; exact ⟨vv, h1.drew⟩, h.w8, h.wb, h.len, h.t0, h.t1, h.ok, h.pl, h.all⟩
theorem PW.up {w : World} {B g k : Nat} {l W : List Int} {t : Int} {P : List Ac} (h : PW w B g l W t P k) : PW w B g l W t P (k + 1) := ⟨h.wr, h.w8, h.wb, by have := h.len; omega, h.t0, by have := h.t1; omega, h.ok, by have := h.pl; omega, h.all⟩
theorem PW.put_no {w : World} {B g k : Nat} {l W : List Int} {t : Int} {P : List Ac} (h : PW w B g l W t P k) (v n : Int) (hno : (n < 0 ∨ 16 < n) ∨ (v < 0 ∨ 2 ^ n.toNat ≤ v)) :
    ∃ e0 : Int, e0 ≠ 0 ∧ Calls Try.prog 29 #[.pointer (some ⟨g, 0, none⟩), .int .i64 v, .int .i64 n] w fun e w' => e = .returned (.int .i64 e0) ∧ w = w' := by
  by_cases hn : n < 0 ∨ 16 < n
  · exact ⟨1, by decide, wput_arg w _ v n hn _ rfl⟩
  · obtain ⟨N, rfl⟩ := Int.eq_ofNat_of_zero_le (show 0 ≤ n by omega)
    exact ⟨11, by decide, wput_large w v N (by omega) (by rcases hno with h | h; exact absurd h hn; simpa using h) _⟩
theorem PW.put_ok {w : World} {B g k : Nat} {l W : List Int} {t : Int} {P : List Ac} (h : PW w B g l W t P k) (hBg : B ≤ g) (hk : k ≤ 200) (p : Ac) (hd : p.d % 6 < 5) (hp : p.ok) :
    Calls Try.prog 29 #[.pointer (some ⟨g, 0, none⟩), .int .i64 p.v, .int .i64 p.n] w fun e w' => Hid (∃ l' W' t', e = .returned (.int .i64 0) ∧ PW w' B g l' W' t' (P ++ [p]) (k + 1) ∧ Below B w w' ∧ KeepG g w w') := by
  obtain ⟨d, v, n⟩ := p
  obtain ⟨hd0, hd1, hp2⟩ := hp
  dsimp only at hd hp2 ⊢
  rw [if_pos hd] at hp2
  obtain ⟨n0, n1, v0, v1⟩ := hp2
  obtain ⟨N, rfl⟩ := Int.eq_ofNat_of_zero_le n0
  rw [Int.toNat_natCast] at v1
  obtain ⟨vv, hw⟩ := h.wr
  have r := valB_range W h.wb
  have hlen := h.len; have ht1 := h.t1; have h8 := h.w8
  refine (wput_ok w B g vv l (valB W) W.length t hw hBg (by omega) (by omega) (by omega) r.1 (by rw [Int.toNat_natCast]; exact r.2) h.t0 (by omega) v N (by omega) v0 v1).mono fun e w' hq => ?_
  obtain ⟨vv', rfl, h1, h2, h3⟩ := hq.out
  have hb : bitL (W ++ bitsN N v) := h.wb.app (bitsN_bit N v)
  have hv : valB (W ++ bitsN N v) = valB W * 2 ^ N + v := by rw [valB_append, bitsN_len, bitsN_inj N v v0 v1]
  have hl : ((W ++ bitsN N v).length : Int) = (W.length : Int) + N := by rw [List.length_append, bitsN_len]; omega
  have hlt : (W ++ bitsN N v).length < 8 * 3 + 8 := by rw [List.length_append, bitsN_len]; omega
  have hdr := drn_pack 3 l _ hb hlt
  rw [hv, hl] at hdr
  have hvr := valB_range _ hb
  rw [hv] at hvr
  have hcn : ((W.length : Int) + (N : Int)).toNat = (W ++ bitsN N v).length := by omega
  have h6 := (drn_ok 3 l (valB W * 2 ^ N + v) (W.length + N) (by omega) (by omega) hvr.1 (by rw [hcn]; exact hvr.2)).2.2.2.2.1
  rw [hdr] at h1 h6
  have h7 : (l ++ packL (W ++ bitsN N v)).length ≤ l.length + 2 * 3 := h6
  refine Lib.hid ⟨l ++ packL (W ++ bitsN N v), restL (W ++ bitsN N v), t + N, rfl, ⟨⟨vv', h1⟩, rest_lt _, hb.rest, by omega, by have := h.t0; omega, by omega, ?_, by have := h.pl; simp; omega, fun es => ?_⟩, h2, h3⟩
  · intro q hq
    rcases List.mem_append.1 hq with hq | hq
    · exact h.ok q hq
    · rw [List.mem_singleton] at hq; subst hq
      exact ⟨hd0, hd1, by dsimp only; rw [if_pos hd]; exact ⟨n0, n1, v0, by rw [Int.toNat_natCast]; exact v1⟩⟩
  · have e := h.all (.put v N :: es)
    rw [enc_put, ← List.append_assoc] at e
    rw [e]
    simp [Ac.ev, hd]
theorem PW.bytes {w : World} {B g k : Nat} {l W : List Int} {t : Int} {P : List Ac} (h : PW w B g l W t P k) (hk : k ≤ 201) :
    Calls Try.prog 26 #[.pointer (some ⟨g, 0, none⟩)] w fun e w' => e = .returned (.string (bytesOf (enc [] (P.map Ac.ev)))) ∧ Below w.heap.size w w' := by
  obtain ⟨vv, hw⟩ := h.wr
  have r := valB_range W h.wb
  have hlen := h.len; have h8 := h.w8
  have e := h.all []
  rw [enc_nil, List.append_nil, ← last_tail _ _ h8] at e
  rw [← e]
  exact bytes_walk w B g vv l (valB W) W.length t hw (by omega) (by omega) (by omega) r.1 (by rw [Int.toNat_natCast]; exact r.2)
theorem enc_len {w : World} {B g k : Nat} {l W : List Int} {t : Int} {P : List Ac} (h : PW w B g l W t P k) : (enc [] (P.map Ac.ev)).length ≤ 8 * k + 2 := by
  have e := h.all []
  rw [enc_nil, List.append_nil, ← last_tail _ _ h.w8] at e
  rw [← e]
  have := lastL_len l (valB W) W.length
  have := h.len
  omega
/-- Bits of what was put. -/
theorem rbits_back {S H W : List Int} {a n : Nat} {v : Int} {es : List Ev} (R : RS S a H W (.put v n :: es)) (hn : n ≤ 16) (v0 : 0 ≤ v) (v1 : v < 2 ^ n) (hS : S.length ≤ 1000000) :
    ∃ (H' W' : List Int) (a' : Nat), RS S a' H' W' es ∧ ∀ w g, RdV w g (bytesOf S) a (valB H) H.length → Calls Try.prog 28 #[.pointer (some ⟨g, 0, none⟩), .int .i64 n] w fun e w' => e = .returned (.tuple #[.int .i64 v, .int .i64 0]) ∧ RdV w' g (bytesOf S) a' (valB H') H'.length ∧ Only g w w' := by
  have hsz := bytesOf_size S
  have hle := R.le
  obtain ⟨H', a', h1, h2, h3⟩ := R.put hn v0 v1
  obtain ⟨b1, b2, b3, b4⟩ := rdB_ok (bytesOf S) n 3 H a H' a' R.hb (by omega) (by omega) (by have := R.h8; omega) h1
  have e1 := rdL_rdB (bytesOf S) n 3 H a R.hb
  rw [h1] at e1
  have r := valB_range H R.hb
  have hd : valB H' = valB (H'.take n) * 2 ^ (H'.length - n) + valB (H'.drop n) := by
    have e := valB_append (H'.take n) (H'.drop n)
    rw [List.take_append_drop, List.length_drop] at e
    exact e
  have rd := valB_range (H'.drop n) (b1.drop n)
  rw [List.length_drop] at rd
  have hp := two_pos (H'.length - n)
  have d1 : valB H' / 2 ^ (H'.length - n) = valB (H'.take n) := by
    rw [hd, Int.add_comm, Int.add_mul_ediv_right _ _ (by omega), Int.ediv_eq_zero_of_lt rd.1 rd.2]; omega
  have d2 : valB H' % 2 ^ (H'.length - n) = valB (H'.drop n) := by
    rw [hd, Int.add_comm, Int.add_mul_emod_self_right, Int.emod_eq_of_lt rd.1 rd.2]
  have e2 : bitsR (bytesOf S) n (valB H) H.length a = (.tuple #[.int .i64 v, .int .i64 0], (a' : Int), valB (H'.drop n), ((H'.drop n).length : Int)) := by
    unfold bitsR
    rw [e1]
    simp only [Option.map_some]
    rw [d1, d2, List.length_drop, h2]
  refine ⟨H'.drop n, _, a', h3, fun w g hR => (rbits_walk w g (bytesOf S) (valB H) H.length a n hR (by omega) (by omega) R.h8 (by omega) r.1 r.2).mono ?_⟩
  rintro e w' ⟨rfl, k2, k3⟩
  rw [e2] at k2 ⊢
  exact ⟨rfl, k2, k3⟩
/-- At the end there are no bits. -/
theorem rbits_end {S : List Int} {a : Nat} (ha : a = S.length) (hS : S.length ≤ 1000000) (w : World) (g : Nat) (hR : RdV w g (bytesOf S) a 0 0) :
    Calls Try.prog 28 #[.pointer (some ⟨g, 0, none⟩), .int .i64 1] w fun e w' => e = .returned (.tuple #[.int .i64 0, .int .i64 2]) ∧ RdV w' g (bytesOf S) a 0 0 ∧ Only g w w' := by
  have hsz := bytesOf_size S
  have hw : wholeV (bytesOf S) a = (0, 0) := by unfold wholeV; rw [if_pos (by omega)]
  have e1 : rdL (bytesOf S) 1 3 0 0 a = none := by rw [rdL, if_pos (by omega), hw]; rfl
  have e2 : bitsR (bytesOf S) 1 0 0 a = (.tuple #[.int .i64 0, .int .i64 2], (a : Int), 0, ((0 : Nat) : Int)) := by unfold bitsR; rw [e1]
  refine (rbits_walk w g (bytesOf S) 0 0 a 1 hR (by omega) (by omega) (by omega) (by omega) (by decide) (by decide)).mono ?_
  rintro e w' ⟨rfl, k2, k3⟩
  rw [e2] at k2 ⊢
  exact ⟨rfl, k2, k3⟩
theorem mod6 (d : Int) (h : 0 ≤ d) : 0 ≤ d % 6 := by omega
end Go.Proofs.Ytaofponadaifiaa
