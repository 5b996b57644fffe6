/- The walk of a writer's Mark. No condition. -/
import Derived.Test.YtidockifeofgfaaWriE
namespace Go.Proofs.Ytidockifeofgfaa
open Go.RowKit
set_option linter.unusedSimpArgs false
set_option linter.unusedVariables false
theorem OwnU.mono {w : World} {b b' : Nat} {v : Value} {l : List Int} (h : OwnU w b v l) (hb : b' ≤ b) : OwnU w b' v l := by
  refine ⟨h.1, ?_⟩
  rcases h.2 with h0 | ⟨g, cap, cur, e, hg, rest⟩
  · exact Or.inl h0
  · exact Or.inr ⟨g, cap, cur, e, Nat.le_trans hb hg, rest⟩
theorem OwnU.form2 {w : World} {b : Nat} {v : Value} {l : List Int} (h : OwnU w b v l) : ∃ A n c, v = .slice A n c := by obtain ⟨A, c, e, _⟩ := h.form; exact ⟨A, _, c, e⟩
/-- append of two elements: the goal's world is that behind the making of the two-element row. -/
theorem appU2 {w : World} {base : Nat} {v : Value} {l : List Int} {ops : Array Oper} {rest : List Oper} {o : Oper} {a : Act} {Q : Exit → Act → World → Prop} (hgd : o.guard = none) (s y : Operand)
    (ho : o.op = .call { callee := .builtin .append, args := #[s, y], argTypes := #[56, 56] }) (x z : Int) (hs : a.eval s = v) (hy : a.eval y = .slice (some ⟨w.heap.size, 0, none⟩) 2 2)
    (hown : OwnU w base v l) (hlen : l.length < 1000000000000) (hbase : base ≤ w.heap.size)
    (h : ∀ v' w', OwnU w' base v' (l ++ [x, z]) → w.grownBy w' v.ownBlock → Below base w w' → wpList Try.prog ops Q rest (a.put o.dst v') w') :
    wpList Try.prog ops Q (o :: rest) a (w.alloc (.cells #[Value.int .u8 x, Value.int .u8 z] 5)) := by
  obtain ⟨i, hi⟩ := Option.isSome_iff_exists.1 (show (Try.prog.info? 5).isSome = true by kernel_rfl)
  have h3 : (Try.prog.info? 5).map (fun i => (i.zero, i.size, i.bytes)) = some (some (Value.int .u8 0), 1, 1) := by kernel_rfl
  rw [hi] at h3
  simp only [Option.map_some, Option.some.injEq, Prod.mk.injEq] at h3
  obtain ⟨hz, hsz, hby⟩ := h3
  refine wpList_append_own (w.alloc (.cells #[Value.int .u8 x, Value.int .u8 z] 5)) hgd s y 56 ho base 5 i (Value.int .u8 0) 1 1 Try.underlying56 hi hz hsz hby rfl (by decide) v l.length (l.map fun x => Value.int .u8 x) hs (World.ownsRow.alloc hown _) ⟨w.heap.size, 0, none⟩ 2 2 [Value.int .u8 x, Value.int .u8 z] hy rfl ?_ ?_ ?_ ?_ ?_ ?_
  · intro j u hj
    have hadd : (⟨w.heap.size, 0, none⟩ : Addr).add j = ⟨w.heap.size, j, none⟩ := by unfold Addr.add; split <;> simp_all
    rw [hadd, (Blk.new w 5 #[Value.int .u8 x, Value.int .u8 z]).cell j]
    simpa using hj
  · intro u hu
    simp only [List.mem_cons, List.not_mem_nil, or_false] at hu
    rcases hu with rfl | rfl <;> rfl
  · simp only [maxLen]; omega
  · omega
  · exact Nat.le_trans hbase (by simp)
  · intro v' w' hown' hg _
    have hg2 : w.grownBy w' v.ownBlock := (World.grownBy_alloc w _ v.ownBlock).trans hg
    exact h v' w' (by unfold OwnU; rw [List.length_append, List.map_append]; exact hown') hg2 ((Below.refl base w).grown hg2 hbase (fun k hk => (hown.lt k hk).1))
theorem lastL_len (l : List Int) (h c : Int) : (lastL l h c).length ≤ l.length + 2 := by
  unfold lastL
  split
  · exact pt_len _ _
  · omega
theorem wmark_arg (w : World) (p : Value) (x : Int) (hx : x < 1 ∨ 255 ≤ x) (q : Addr) (hp : p = .pointer (some q)) :
    Calls Try.prog 11 #[p, .int .i64 x] w fun e w' => e = .returned (.int .i64 1) ∧ w = w' := by
  subst hp
  rcases hx with hx | hx
  · have d1 : decide (x < 1) = true := by simp; omega
    go_enter Try.func11, Try.ntmps11
    go_wp2
    go_ret
    exact ⟨rfl, rfl⟩
  · have d1 : decide (x < 1) = false := by simp; omega
    have d2 : decide (255 ≤ x) = true := by simp; omega
    go_enter Try.func11, Try.ntmps11
    go_wp2
    go_ret
    exact ⟨rfl, rfl⟩
set_option maxHeartbeats 1600000 in
theorem wmark_ok (w : World) (base g : Nat) (vv : Value) (l : List Int) (h c t : Int) (H : WrV w base g vv l h c t) (hbg : base ≤ g) (hl : l.length ≤ 90000) (c0 : 0 ≤ c) (c1 : c < 8) (h0 : 0 ≤ h) (h1 : h < 2 ^ c.toNat) (x : Int) (x1 : 1 ≤ x) (x2 : x < 255) :
    Calls Try.prog 11 #[.pointer (some ⟨g, 0, none⟩), .int .i64 x] w fun e w' => Hid (∃ vv', e = .returned (.int .i64 0) ∧ WrV w' base g vv' (lastL l h c ++ [255, x]) 0 0 0 ∧ Below base w w' ∧ KeepG g w w') := by
  have HL := Lib.hid (last_walk w base g vv l h c t H (by omega) c0 c1 h0 h1)
  have hll := lastL_len l h c
  obtain ⟨L, hL⟩ : ∃ L, L = lastL l h c := ⟨_, rfl⟩
  rw [← hL] at HL hll ⊢
  have HG := Lib.hid H.1
  have hgl := H.1.lt
  have hw : x % 256 = x := by omega
  clear H h1 hL
  go_enter Try.func11, Try.ntmps11
  go_wp2_with (first | (go_at_call 27; refine HL.out.mono ?_; intro e w1 hp; obtain ⟨v1, rfl, hO1, hB1⟩ := hp.out; have HO1 := Lib.hid hO1; have HB1 := Lib.hid hB1; clear hO1 hB1 hp) | (at_builtin; refine appU2 rfl (.tmp 17) (.tmp 20) rfl _ _ rfl rfl HO1.out (by omega) HB1.out.size ?_; intro v2 w2 hO2 hg2 hb2; obtain ⟨A2, N2, k2, ev2⟩ := hO2.form2; subst ev2; have HO2 := Lib.hid hO2; have HB2 := Lib.hid (HB1.out.trans hb2); have HG2 : Hid (Blk w2 g 58 (wrC vv h c t)) := Lib.hid (HG.out.bel HB2.out); have y0 : w2.cell? ⟨g, 0, none⟩ = some vv := Blk.cell HG2.out 0; have y1 : w2.cell? ⟨g, 1, none⟩ = some (.int .i64 h) := Blk.cell HG2.out 1; have y2 : w2.cell? ⟨g, 2, none⟩ = some (.int .i64 c) := Blk.cell HG2.out 2; have y3 : w2.cell? ⟨g, 3, none⟩ = some (.int .i64 t) := Blk.cell HG2.out 3; have z0 := HG2.out.frozen 0; have z1 := HG2.out.frozen 1; have z2 := HG2.out.frozen 2; have z3 := HG2.out.frozen 3; clear hO2 hg2 hb2))
  go_ret
  have b0 := HG2.out.set_ 0 (.slice A2 N2 k2)
  have b1 := b0.set_ 1 (.int .i64 0)
  have b2 := b1.set_ 2 (.int .i64 0)
  have b3 := b2.set_ 3 (.int .i64 0)
  have HK2 : KeepG g w w2 := KeepG.of_keep (KeepT.of_below _ HB2.out)
  have hbw : base ≤ w.heap.size := Nat.le_trans hbg (Nat.le_of_lt hgl)
  refine Lib.hid ⟨.slice A2 N2 k2, rfl, ⟨b3, ?_⟩, ?_, ?_⟩
  · have e := OwnU.far (i := 3) (OwnU.far (i := 2) (OwnU.far (i := 1) (OwnU.far (i := 0) (HO2.out.mono hbw) HG2.out (by decide) (.slice A2 N2 k2)) b0 (by decide) (.int .i64 0)) b1 (by decide) (.int .i64 0)) b2 (by decide) (.int .i64 0)
    first | exact e | (rw [hw] at e; exact e)
  · exact (((((HB2.out.mono hbw).setCell (p := ⟨g, 0, none⟩) hbg _).setCell (p := ⟨g, 1, none⟩) hbg _).setCell (p := ⟨g, 2, none⟩) hbg _).setCell (p := ⟨g, 3, none⟩) hbg _)
  · exact (((HK2.set_ (i := 0) _).set_ (i := 1) _).set_ (i := 2) _).set_ (i := 3) _
end Go.Proofs.Ytidockifeofgfaa
