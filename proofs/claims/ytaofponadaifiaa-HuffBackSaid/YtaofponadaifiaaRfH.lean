/- The walk of the reference's Bits. No condition. -/
import Derived.Test.YtaofponadaifiaaRfG
import Derived.Test.YtaofponadaifiaaRfD
namespace Go.Proofs.Ytaofponadaifiaa
open Go.RowKit
set_option linter.unusedSimpArgs false
set_option linter.unusedVariables false
/-- Bits that are held: a slice that is only read. -/
def HeldV (w : World) (y : Value) (L : List Int) : Prop := (y = .slice none 0 0 ∧ L = []) ∨ ∃ g off c, y = .slice (some ⟨g, off, none⟩) L.length c ∧ L.length ≤ c ∧ ∀ j (h : j < L.length), g < w.heap.size ∧ w.cell? ⟨g, off + j, none⟩ = some (.int .i64 L[j])
theorem HeldV.bel {w w' : World} {y : Value} {L : List Int} (h : HeldV w y L) (hb : Below w.heap.size w w') : HeldV w' y L := by
  rcases h with h | ⟨g, off, c, h1, h2, h3⟩
  · exact Or.inl h
  · exact Or.inr ⟨g, off, c, h1, h2, fun j hj => ⟨Nat.lt_of_lt_of_le (h3 j hj).1 hb.size, (hb.cell (p := ⟨g, off + j, none⟩) (h3 j hj).1).trans (h3 j hj).2⟩⟩
theorem HeldV.drewE {w wd : World} {y : Value} {L : List Int} (h : HeldV w y L) (hd : wd = w.drew) : HeldV wd y L := hd ▸ h
theorem HeldV.one {w : World} {y : Value} {L : List Int} (h : HeldV w y L) : y.oneCell' = true := by
  rcases h with ⟨rfl, _⟩ | ⟨g, off, c, rfl, _⟩ <;> rfl
theorem HeldV.form {w : World} {y : Value} {L : List Int} (h : HeldV w y L) : ∃ A c, y = .slice A L.length c := by
  rcases h with ⟨rfl, rfl⟩ | ⟨g, off, c, rfl, _⟩
  · exact ⟨none, 0, rfl⟩
  · exact ⟨_, c, rfl⟩
/-- append of bits that are held. -/
theorem appIH {w : World} {base : Nat} {v y0 : Value} {l m : List Int} {ops : Array Oper} {rest : List Oper} {o : Oper} {a : Act} {Q : Exit → Act → World → Prop} (hgd : o.guard = none) (s y : Operand)
    (ho : o.op = .call { callee := .builtin .append, args := #[s, y], argTypes := #[46, 46] }) (hs : a.eval s = v) (hy : a.eval y = y0)
    (hown : OwnI w base v l) (hsrc : HeldV w y0 m) (hlen : l.length + m.length < 1000000000) (hbase : base ≤ w.heap.size)
    (h : ∀ v' w', OwnI w' base v' (l ++ m) → KeepT 3 w w' → w.grownBy w' v.ownBlock → Below base w w' → wpList Try.prog ops Q rest (a.put o.dst v') w') :
    wpList Try.prog ops Q (o :: rest) a w := by
  obtain ⟨i, hi⟩ := Option.isSome_iff_exists.1 (show (Try.prog.info? 3).isSome = true by kernel_rfl)
  have h3 : (Try.prog.info? 3).map (fun i => (i.zero, i.size, i.bytes)) = some (some (Value.int .i64 0), 1, 8) := by kernel_rfl
  rw [hi] at h3
  simp only [Option.map_some, Option.some.injEq, Prod.mk.injEq] at h3
  obtain ⟨hz, hsz, hby⟩ := h3
  rcases hsrc with ⟨rfl, rfl⟩ | ⟨g, off, cap, rfl, hcap, hc⟩
  · refine wpList_append_own_none hgd s y 46 ho base 3 i 1 Try.underlying46 hi v l.length (l.map fun x => Value.int .i64 x) hs hown hy ?_
    exact h v w (by rw [List.append_nil]; exact hown) (KeepT.refl _ _) (World.grownBy.refl w _) (Below.refl _ _)
  · refine wpList_append_own w hgd s y 46 ho base 3 i (Value.int .i64 0) 1 8 Try.underlying46 hi hz hsz hby rfl (by decide) v l.length (l.map fun x => Value.int .i64 x) hs hown ⟨g, off, none⟩ m.length cap (m.map fun x => Value.int .i64 x) hy (by simp) ?_ ?_ ?_ ?_ hbase ?_
    · intro j u hj
      obtain ⟨hj1, hj2⟩ : ∃ h : j < m.length, Value.int .i64 m[j] = u := by
        rw [List.getElem?_map] at hj
        cases hm : m[j]? with
        | none => rw [hm] at hj; cases hj
        | some x =>
          rw [hm] at hj
          obtain ⟨h1, h2⟩ := List.getElem?_eq_some_iff.1 hm
          refine ⟨h1, ?_⟩
          simp at hj
          rw [h2, hj]
      have e := (hc j hj1).2
      rw [hj2] at e
      have hadd : (⟨g, off, none⟩ : Addr).add j = ⟨g, off + j, none⟩ := by unfold Addr.add; split <;> simp_all
      rw [hadd]; exact e
    · intro u hu
      obtain ⟨x, _, rfl⟩ := List.mem_map.1 hu
      rfl
    · simp only [maxLen]; omega
    · omega
    · intro v' w' hown' hg _
      exact h v' w' (by unfold OwnI; rw [List.length_append, List.map_append]; exact hown') (KeepT.of_own hown hg) hg ((Below.refl base w).grown hg hbase (fun k hk => (hown.lt k hk).1))
def sliceN (v : Value) : Nat := match v with | .slice _ n _ => n | _ => 0
def rV (s : ByteArray) (a : Nat) (y : Value) : Value := .agg #[.string s, .int .i64 a, y]
theorem refBits_arg (s : ByteArray) (a : Nat) (y : Value) (H : List Int) (n : Int) (hn : n < 0 ∨ 16 < n) (w : World) (hy : HeldV w y H) :
    Calls Try.prog 19 #[rV s a y, .int .i64 n] w fun e w' => e = .returned (.tuple #[.int .i64 0, rV s a y, .int .i64 1]) ∧ Below w.heap.size w w' := by
  unfold rV
  have HY1 := Lib.hid hy.one
  obtain ⟨A, c, rfl⟩ := hy.form
  obtain ⟨N, hN⟩ : ∃ N, N = H.length := ⟨_, rfl⟩
  rw [← hN] at HY1 ⊢
  clear hy hN
  rcases hn with hn | hn
  · have d1 : decide (n < 0) = true := by simp; omega
    go_enter Try.func19, Try.ntmps19
    go_wp2_with fail
    obtain ⟨b0, b1, b2⟩ : Blk ((w.alloc (.cells #[.string s, .int .i64 a, .slice A N c] 48)).alloc (.cells #[.string { data := #[] }, .int .i64 0, .slice none 0 0] 48)) w.heap.size 48 #[.string s, .int .i64 a, .slice A N c] ∧ Blk ((w.alloc (.cells #[.string s, .int .i64 a, .slice A N c] 48)).alloc (.cells #[.string { data := #[] }, .int .i64 0, .slice none 0 0] 48)) (w.heap.size + 1) 48 #[.string { data := #[] }, .int .i64 0, .slice none 0 0] ∧ Below w.heap.size w ((w.alloc (.cells #[.string s, .int .i64 a, .slice A N c] 48)).alloc (.cells #[.string { data := #[] }, .int .i64 0, .slice none 0 0] 48)) := ⟨(Blk.new _ _ _).alloc _, Blk.nw (by simp), ((Below.refl _ _).alloc (Nat.le_refl _) _).alloc (by simp) _⟩
    have G1 := Lib.hid b0; have G2 := Lib.hid b1; have HB := Lib.hid b2
    clear b0 b1 b2
    refine region_plan (.run [0, 1] (.ev 2 (.run [3] .fin))) (fun w' => True) (by kernel_rfl) trivial ?_
    intro wd hwd
    have G1 := Lib.hid (G1.out.drewE hwd)
    have G2 := Lib.hid (G2.out.drewE hwd)
    have HB := Lib.hid (belowD HB.out hwd)
    have x0 : wd.cell? ⟨w.heap.size, 0, none⟩ = some (.string s) := G1.out.cell 0
    have x1 : wd.cell? ⟨w.heap.size, 1, none⟩ = some (.int .i64 a) := G1.out.cell 1
    have x2 : wd.cell? ⟨w.heap.size, 2, none⟩ = some (.slice A N c) := G1.out.cell 2
    clear hwd
    refine plan_run fun m hm => ?_
    simp only [pickO, List.filterMap_cons, List.filterMap_nil, List.getElem?_toArray, List.getElem?_cons_zero, List.getElem?_cons_succ] at hm
    subst hm
    go_wp2_with fail
    refine ⟨rfl, by rfl, ?_⟩
    refine plan_ev fun m hm => ?_
    simp only [pickO, List.filterMap_cons, List.filterMap_nil, List.getElem?_toArray, List.getElem?_cons_zero, List.getElem?_cons_succ] at hm
    subst hm
    refine wpList_store_far rfl 48 (.tmp 5) (.tmp 19) rfl (w.heap.size + 1) #[.string s, .int .i64 a, .slice A N c] _ 48 rfl rfl G2.out (by kernel_rfl) rfl (by simp [Value.oneCell', HY1.out]) ?_
    intro wS hS2 hf hb hsz _
    have c1 : wS.cell? ⟨w.heap.size + 1, 0, none⟩ = some (.string s) := hS2.cell 0
    have c2 : wS.cell? ⟨w.heap.size + 1, 1, none⟩ = some (.int .i64 a) := hS2.cell 1
    have c3 : wS.cell? ⟨w.heap.size + 1, 2, none⟩ = some (.slice A N c) := hS2.cell 2
    have HBS := Lib.hid (hb w.heap.size w (by omega) HB.out)
    clear hS2 hf hb
    refine ⟨rfl, trivial, ?_⟩
    try simp only [Act.put, List.setIfInBounds_toArray, List.set_cons_zero, List.set_cons_succ]
    refine plan_run fun m hm => ?_
    simp only [pickO, List.filterMap_cons, List.filterMap_nil, List.getElem?_toArray, List.getElem?_cons_zero, List.getElem?_cons_succ] at hm
    subst hm
    go_wp2_with fail
    refine ⟨rfl, by rfl, ?_⟩
    refine plan_fin ?_
    go_wp2
    exact bodyPost_ret (v := .tuple #[.int .i64 0, .agg #[.string s, .int .i64 a, .slice A N c], .int .i64 1]) (by simp [results, Try.results19, go_sem, c1, c2, c3]) rfl ⟨rfl, HBS.out⟩
  · have d1 : decide (n < 0) = false := by simp; omega
    have d2 : decide (16 < n) = true := by simp; omega
    go_enter Try.func19, Try.ntmps19
    go_wp2_with fail
    obtain ⟨b0, b1, b2⟩ : Blk ((w.alloc (.cells #[.string s, .int .i64 a, .slice A N c] 48)).alloc (.cells #[.string { data := #[] }, .int .i64 0, .slice none 0 0] 48)) w.heap.size 48 #[.string s, .int .i64 a, .slice A N c] ∧ Blk ((w.alloc (.cells #[.string s, .int .i64 a, .slice A N c] 48)).alloc (.cells #[.string { data := #[] }, .int .i64 0, .slice none 0 0] 48)) (w.heap.size + 1) 48 #[.string { data := #[] }, .int .i64 0, .slice none 0 0] ∧ Below w.heap.size w ((w.alloc (.cells #[.string s, .int .i64 a, .slice A N c] 48)).alloc (.cells #[.string { data := #[] }, .int .i64 0, .slice none 0 0] 48)) := ⟨(Blk.new _ _ _).alloc _, Blk.nw (by simp), ((Below.refl _ _).alloc (Nat.le_refl _) _).alloc (by simp) _⟩
    have G1 := Lib.hid b0; have G2 := Lib.hid b1; have HB := Lib.hid b2
    clear b0 b1 b2
    refine region_plan (.run [0, 1] (.ev 2 (.run [3] .fin))) (fun w' => True) (by kernel_rfl) trivial ?_
    intro wd hwd
    have G1 := Lib.hid (G1.out.drewE hwd)
    have G2 := Lib.hid (G2.out.drewE hwd)
    have HB := Lib.hid (belowD HB.out hwd)
    have x0 : wd.cell? ⟨w.heap.size, 0, none⟩ = some (.string s) := G1.out.cell 0
    have x1 : wd.cell? ⟨w.heap.size, 1, none⟩ = some (.int .i64 a) := G1.out.cell 1
    have x2 : wd.cell? ⟨w.heap.size, 2, none⟩ = some (.slice A N c) := G1.out.cell 2
    clear hwd
    refine plan_run fun m hm => ?_
    simp only [pickO, List.filterMap_cons, List.filterMap_nil, List.getElem?_toArray, List.getElem?_cons_zero, List.getElem?_cons_succ] at hm
    subst hm
    go_wp2_with fail
    refine ⟨rfl, by rfl, ?_⟩
    refine plan_ev fun m hm => ?_
    simp only [pickO, List.filterMap_cons, List.filterMap_nil, List.getElem?_toArray, List.getElem?_cons_zero, List.getElem?_cons_succ] at hm
    subst hm
    refine wpList_store_far rfl 48 (.tmp 5) (.tmp 19) rfl (w.heap.size + 1) #[.string s, .int .i64 a, .slice A N c] _ 48 rfl rfl G2.out (by kernel_rfl) rfl (by simp [Value.oneCell', HY1.out]) ?_
    intro wS hS2 hf hb hsz _
    have c1 : wS.cell? ⟨w.heap.size + 1, 0, none⟩ = some (.string s) := hS2.cell 0
    have c2 : wS.cell? ⟨w.heap.size + 1, 1, none⟩ = some (.int .i64 a) := hS2.cell 1
    have c3 : wS.cell? ⟨w.heap.size + 1, 2, none⟩ = some (.slice A N c) := hS2.cell 2
    have HBS := Lib.hid (hb w.heap.size w (by omega) HB.out)
    clear hS2 hf hb
    refine ⟨rfl, trivial, ?_⟩
    try simp only [Act.put, List.setIfInBounds_toArray, List.set_cons_zero, List.set_cons_succ]
    refine plan_run fun m hm => ?_
    simp only [pickO, List.filterMap_cons, List.filterMap_nil, List.getElem?_toArray, List.getElem?_cons_zero, List.getElem?_cons_succ] at hm
    subst hm
    go_wp2_with fail
    refine ⟨rfl, by rfl, ?_⟩
    refine plan_fin ?_
    go_wp2
    exact bodyPost_ret (v := .tuple #[.int .i64 0, .agg #[.string s, .int .i64 a, .slice A N c], .int .i64 1]) (by simp [results, Try.results19, go_sem, c1, c2, c3]) rfl ⟨rfl, HBS.out⟩
end Go.Proofs.Ytaofponadaifiaa
