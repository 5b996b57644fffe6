/- What HuffReads keeps in memory. No condition. -/
import Derived.Test.YtaofponadaifiaaHuK
namespace Go.Proofs.Ytaofponadaifiaa
open Go.RowKit
set_option linter.unusedSimpArgs false
set_option linter.unusedVariables false
/-- The table, the document's codes, the reader. -/
structure Ctx (w : World) (g r : Nat) (cnt : Nat → Int) (s : ByteArray) (st : HS) (fs at_ : Nat → Int) (B2 : Nat) (A3 : Option Addr) (c3 : Nat) (gg : GS) (ds : ByteArray) (a : Nat) (H : List Int) : Prop where
  tb : Tab w g cnt s st.cb st.cn fs at_
  cd : OwnS w B2 36 3 (.slice A3 gg.at_ c3) gg.at_ (fC s gg)
  rd : RdV w r ds a (valB H) H.length
section
variable {w w' : World} {g r B2 c3 a a' M : Nat} {cnt fs at_ : Nat → Int} {s ds : ByteArray} {st : HS} {A3 : Option Addr} {gg : GS} {H H' : List Int}
theorem Ctx.bel (h : Ctx w g r cnt s st fs at_ B2 A3 c3 gg ds a H) (hb : Below w.heap.size w w') : Ctx w' g r cnt s st fs at_ B2 A3 c3 gg ds a H := ⟨h.tb.bel hb, h.cd.bel hb, h.rd.bel hb⟩
theorem Ctx.keepT (h : Ctx w g r cnt s st fs at_ B2 A3 c3 gg ds a H) (hk : KeepT 3 w w') : Ctx w' g r cnt s st fs at_ B2 A3 c3 gg ds a H := ⟨hk _ _ _ (by decide) h.tb, h.cd.keep fun g cs hB => hk _ _ _ (by decide) hB, hk _ _ _ (by decide) h.rd⟩
theorem Ctx.far {cs : Array Value} (h : Ctx w g r cnt s st fs at_ B2 A3 c3 gg ds a H) (hM : Blk w M 48 cs) (hf : ∀ g' t cs, g' ≠ M → Blk w g' t cs → Blk w' g' t cs) : Ctx w' g r cnt s st fs at_ B2 A3 c3 gg ds a H :=
  ⟨hf _ _ _ (Blk.ne h.tb hM (by decide)) h.tb, h.cd.keep fun g cs hB => hf _ _ _ (hB.ne hM (by decide)) hB, hf _ _ _ (Blk.ne h.rd hM (by decide)) h.rd⟩
theorem Ctx.only (h : Ctx w g r cnt s st fs at_ B2 A3 c3 gg ds a H) (ho : Only r w w') (hr : RdV w' r ds a' (valB H') H'.length) : Ctx w' g r cnt s st fs at_ B2 A3 c3 gg ds a' H' :=
  ⟨ho.blk h.tb (Blk.ne h.tb h.rd (by decide)), h.cd.keep fun g cs hB => ho.blk hB (hB.ne h.rd (by decide)), hr⟩
end
theorem appI2 {w : World} {base : Nat} {v : Value} {l : List Int} {ops : Array Oper} {rest : List Oper} {o : Oper} {a : Act} {Q : Exit → Act → World → Prop} (hgd : o.guard = none) (s y : Operand) (gs : Nat) (hgs : gs = w.heap.size)
    (ho : o.op = .call { callee := .builtin .append, args := #[s, y], argTypes := #[46, 46] }) (x : Int) (hs : a.eval s = v) (hy : a.eval y = .slice (some ⟨gs, 0, none⟩) 1 1)
    (hown : OwnI w base v l) (hlen : l.length < 1000000000000) (hbase : base ≤ w.heap.size)
    (h : ∀ v' w', OwnI w' base v' (l ++ [x]) → w.grownBy w' v.ownBlock → Below base w w' → wpList Try.prog ops Q rest (a.put o.dst v') w') :
    wpList Try.prog ops Q (o :: rest) a (w.alloc (.cells #[Value.int .i64 x] 3)) := by
  subst hgs
  exact appI hgd s y ho x hs hy hown hlen hbase h
theorem HeldV.grown {w w' : World} {y : Value} {L : List Int} {K : Nat} {row : Option Nat} (h : HeldV w y L) (hi : HiV K y) (hk : ∀ k, row = some k → k < K) (hg : w.grownBy w' row) : HeldV w' y L := by
  rcases h with h | ⟨g, off, c, h1, h2, h3⟩
  · exact Or.inl h
  · refine Or.inr ⟨g, off, c, h1, h2, fun j hj => ?_⟩
    obtain ⟨hl, hc⟩ := h3 j hj
    refine ⟨Nat.lt_of_lt_of_le hl hg.size, ?_⟩
    have hne : some g ≠ row := fun e => by have := hk g e.symm; have := hi _ _ _ _ h1; omega
    rw [← hc]
    have hblk := hg.block g hl hne
    simp [World.cell?, hblk]
theorem HiV.ne {y : Value} {L : List Int} {K T : Nat} (hi : HiV K y) (hT : T < K) : NeV T y L := Or.inr fun g off n c e => by have := hi g off n c e; omega
theorem OwnI.held {w : World} {B n c : Nat} {A : Option Addr} {L : List Int} (h : OwnI w B (.slice A n c) L) (hn : n = L.length) : HeldV w (.slice A n c) L ∧ HiV B (.slice A n c) := by
  subst hn
  rcases h.2 with ⟨e, h0⟩ | ⟨g, cap, cur, e, hg, rest⟩
  · injection e with e1 e2 e3
    subst e1 e3
    have hL : L = [] := List.eq_nil_of_length_eq_zero h0
    subst hL
    exact ⟨Or.inl ⟨rfl, rfl⟩, fun g off n c e => by injection e with e; cases e⟩
  · injection e with e1 e2 e3
    subst e1 e3
    refine ⟨Or.inr ⟨g, 0, c, rfl, rest.2.1, fun j hj => ?_⟩, fun g' off n c' e => ?_⟩
    · obtain ⟨g', c', e', hg', hc⟩ := h.at_ hj
      injection e' with e'; injection e' with e'; injection e' with e'
      subst e'
      exact ⟨(h.lt g rfl).2, by rw [Nat.zero_add]; exact hc⟩
    · injection e with e; injection e with e; injection e with e
      subst e; exact hg
theorem HiV.drop {w : World} {B n c j : Nat} {A : Option Addr} {L : List Int} (hH : HeldV w (.slice A n c) L) (h : HiV B (.slice A n c)) : HiV B (.slice (if c = j then A else A.map (·.add j)) (n - j) (c - j)) := by
  intro g off n' c' e
  injection e with e
  by_cases hcj : c = j
  · rw [if_pos hcj] at e; subst e; exact h g off n c rfl
  · rw [if_neg hcj] at e
    rcases hH with ⟨h1, _⟩ | ⟨b, o, c2, h1, _⟩
    · injection h1 with h1; subst h1; cases e
    · injection h1 with h1; subst h1
      have hadd : (⟨b, o, none⟩ : Addr).add j = ⟨b, o + j, none⟩ := by unfold Addr.add; split <;> simp_all
      rw [Option.map_some, hadd] at e
      injection e with e
      injection e with e1 e2
      rw [← e1]
      exact h b o n c rfl
theorem wpList_dropH {P : Program} {ops : Array Oper} {rest : List Oper} {o : Oper} {a : Act} {w : World} {Q : Exit → Act → World → Prop} (hgd : o.guard = none) (T e : TypeId) (x lo : Operand) (ho : o.op = .slice T x (some lo) none none) (hT : P.underlying T = some (.slice e)) (he : (P.info? e).map (·.size) = some 1)
    (A : Option Addr) (n c j B : Nat) (hx : a.eval x = .slice A n c) (hl : a.eval lo = .int .i64 j) {L : List Int} (hH : HeldV w (.slice A n c) L) (hi : HiV B (.slice A n c)) (hj : j ≤ L.length)
    (h : ∀ A' c', HeldV w (.slice A' (n - j) c') (L.drop j) → HiV B (.slice A' (n - j) c') → wpList P ops Q rest (a.put o.dst (.slice A' (n - j) c')) w) : wpList P ops Q (o :: rest) a w := by
  obtain ⟨h1, h2, h3⟩ := hH.drop j hj
  refine wpList_val (v := .slice (if c = j then A else A.map (·.add j)) (n - j) (c - j)) hgd ?_ (h _ _ h3 (HiV.drop hH hi))
  have hr := run_drop T e hT he A n c j (by omega) h2 w
  unfold execOp
  have hr2 : (Instr.sliceAt T (.slice A n c) (some (.int .i64 j)) none none).run P w = .ok (.slice (if c = j then A else A.map (·.add j)) (n - j) (c - j)) w := by
    unfold Instr.sliceAt
    simp only [Sem.run_bind, run_underlying hT, Result.andThen_ok]
    exact hr
  simp only [ho, Option.map_some, Option.map_none, hx, hl, Sem.run_bind, hr2, Result.andThen_ok]
  rfl
/-- The document's Bits of one bit, by cases. -/
theorem rbit_none (s : ByteArray) (a : Nat) (H : List Int) (hs : s.size ≤ 1000000) (I : InvR s a H) (w : World) (y : Value) (hy : HeldV w y H) (h1 : bit1 s a H = none) :
    Calls Try.prog 19 #[.agg #[.string s, .int .i64 a, y], .int .i64 1] w fun e w' => e = .returned (.tuple #[.int .i64 0, .agg #[.string s, .int .i64 a, y], .int .i64 2]) ∧ Below w.heap.size w w' := by
  refine (refBits_ok s a y H 1 hs (by have := I.le; omega) (by omega) I.few I.bits w hy).mono ?_
  intro e w' hp
  have hp := hp.out
  unfold bit1 at h1
  cases hr : rdB s 1 3 H a with
  | none => rw [hr] at hp; exact hp
  | some p => rw [hr] at h1; cases h1
theorem rbit_some (s : ByteArray) (a : Nat) (H : List Int) (hs : s.size ≤ 1000000) (I : InvR s a H) (w : World) (y : Value) (hy : HeldV w y H) {b : Int} {a' : Nat} {H' : List Int} (h1 : bit1 s a H = some (b, a', H')) :
    Calls Try.prog 19 #[.agg #[.string s, .int .i64 a, y], .int .i64 1] w fun e w' => Hid (∃ A c, e = .returned (.tuple #[.int .i64 b, .agg #[.string s, .int .i64 a', .slice A H'.length c], .int .i64 0]) ∧ HeldV w' (.slice A H'.length c) H' ∧ HiV w.heap.size (.slice A H'.length c) ∧ Below w.heap.size w w') := by
  refine (refBits_ok s a y H 1 hs (by have := I.le; omega) (by omega) I.few I.bits w hy).mono ?_
  intro e w' hp
  have hp := hp.out
  unfold bit1 at h1
  cases hr : rdB s 1 3 H a with
  | none => rw [hr] at h1; cases h1
  | some p =>
    obtain ⟨H2, a2⟩ := p
    rw [hr] at hp h1
    obtain ⟨y', e1, e2, e3, e4⟩ := hp
    simp only [Option.some.injEq, Prod.mk.injEq] at h1
    obtain ⟨rfl, rfl, rfl⟩ := h1
    obtain ⟨A, c, rfl⟩ := e2.form
    exact Lib.hid ⟨A, c, e1, e2, e3, e4⟩
theorem CodesP.get2 {w w' : World} {cnt : Nat → Int} {s : ByteArray} {e : Ending} {st : HS} (h : CodesP w cnt s e w') (h0 : hufNew cnt s = some st) : Hid (∃ g v, gOut cnt s 16 = some g ∧ GoodG s g ∧ Sim s st g ∧ e = .returned (.tuple #[v, .bool true]) ∧ OwnS w' w.heap.size 36 3 v g.at_ (fC s g) ∧ Below w.heap.size w w') := by
  obtain ⟨g0, hg0, hG0, hS0⟩ := codes_yes h0
  rcases h with ⟨g, v, h1, h2, h3, h4, h5⟩ | ⟨h1, _⟩
  · rw [hg0] at h1; injection h1 with h1; subst h1
    exact Lib.hid ⟨g0, v, hg0, hG0, hS0, h3, h4, h5⟩
  · rcases h1 with h1 | ⟨g, h1, h2⟩
    · rw [hg0] at h1; cases h1
    · rw [hg0] at h1; injection h1 with h1; subst h1; exact absurd hG0 h2
theorem NextP.get {cnt : Nat → Int} {s ds : ByteArray} {L : List Int} {r : Nat} {w w' : World} {e : Ending} {V er : Int} {u : Nat} (h : NextP cnt s ds L r w e w') (hd : decP cnt s L = (V, u, er)) : Hid (∃ (a : Nat) (H : List Int), e = .returned (.tuple #[.int .i64 V, .int .i64 er]) ∧ RdV w' r ds a (valB H) H.length ∧ InvR ds a H ∧ (er = 0 → remB ds a H = L.drop u) ∧ Only r w w') := by
  obtain ⟨h1, a, H, h2, h3, h4, h5⟩ := h
  rw [hd] at h1 h4
  exact Lib.hid ⟨a, H, h1, h2, h3, h4, h5⟩
end Go.Proofs.Ytaofponadaifiaa
