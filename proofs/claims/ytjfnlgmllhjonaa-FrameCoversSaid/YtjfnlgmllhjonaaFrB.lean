/- Grid, Clone, and what the laws make of factors. No condition. -/
import Derived.Test.YtjfnlgmllhjonaaFrA
import Derived.Lib.SliceRun
namespace Go.Proofs.Ytjfnlgmllhjonaa
open Go.RowKit
set_option linter.unusedSimpArgs false
set_option linter.unusedVariables false
theorem grid_nil (w : World) (x : Int) : Calls Try.prog 12 #[.pointer none, .int .i64 x] w fun e w' => e = .returned (.tuple #[.agg #[.int .i64 0, .int .i64 0, .int .i64 0, .int .i64 0], .bool false]) ∧ Below w.heap.size w w' := by
  go_enter Try.func12, Try.ntmps12
  go_wp2
  exact bodyPost_ret (v := .tuple #[.agg #[.int .i64 0, .int .i64 0, .int .i64 0, .int .i64 0], .bool false]) (by simp [results, Try.results12, go_sem]) rfl ⟨rfl, (Below.refl _ _).alloc (Nat.le_refl _) _⟩
theorem grid_no (w : World) (b : Nat) (p : Value) (A : Option Addr) (n c : Nat) (ac dn uw uh tot iu : Int) (H : Blk w b 67 (frC p (.slice A n c) ac dn uw uh tot iu)) (x : Int) (hx : x < 0 ∨ (n : Int) ≤ x) : Calls Try.prog 12 #[.pointer (some ⟨b, 0, none⟩), .int .i64 x] w fun e w' => e = .returned (.tuple #[.agg #[.int .i64 0, .int .i64 0, .int .i64 0, .int .i64 0], .bool false]) ∧ Below w.heap.size w w' := by
  have hlt := H.lt
  have h1 : (w.alloc (.cells #[.int .i64 0, .int .i64 0, .int .i64 0, .int .i64 0] 33)).cell? ⟨b, 1, none⟩ = some (.slice A n c) := (H.alloc _).cell 1
  clear H
  rcases hx with hx | hx
  · have d1 : decide (x < 0) = true := by simp; omega
    go_enter Try.func12, Try.ntmps12
    go_wp2
    exact bodyPost_ret (v := .tuple #[.agg #[.int .i64 0, .int .i64 0, .int .i64 0, .int .i64 0], .bool false]) (by simp [results, Try.results12, go_sem]) rfl ⟨rfl, (Below.refl _ _).alloc (Nat.le_refl _) _⟩
  · have d1 : decide (x < 0) = false := by simp; omega
    have d2 : decide ((n : Int) ≤ x) = true := by simp; omega
    go_enter Try.func12, Try.ntmps12
    go_wp2
    exact bodyPost_ret (v := .tuple #[.agg #[.int .i64 0, .int .i64 0, .int .i64 0, .int .i64 0], .bool false]) (by simp [results, Try.results12, go_sem]) rfl ⟨rfl, (Below.refl _ _).alloc (Nat.le_refl _) _⟩
theorem RdS.at4 {w : World} {A : Option Addr} {n : Nat} {f : Nat → Nat → Int} (h : RdS w A n 4 f) {i : Nat} (hi : i < n) : ∃ g off, A = some ⟨g, off, none⟩ ∧ g < w.heap.size ∧ w.cell? ⟨g, off + i * 4, none⟩ = some (.int .i64 (f i 0)) ∧ w.cell? ⟨g, off + i * 4 + 1, none⟩ = some (.int .i64 (f i 1)) ∧ w.cell? ⟨g, off + i * 4 + 2, none⟩ = some (.int .i64 (f i 2)) ∧ w.cell? ⟨g, off + i * 4 + 3, none⟩ = some (.int .i64 (f i 3)) := by
  obtain ⟨g, off, h1, h2, h3⟩ := h i hi
  exact ⟨g, off, h1, h2, h3 0 (by decide), h3 1 (by decide), h3 2 (by decide), h3 3 (by decide)⟩
theorem RdS.at2 {w : World} {A : Option Addr} {n : Nat} {f : Nat → Nat → Int} (h : RdS w A n 2 f) {i : Nat} (hi : i < n) : ∃ g off, A = some ⟨g, off, none⟩ ∧ g < w.heap.size ∧ w.cell? ⟨g, off + i * 2, none⟩ = some (.int .i64 (f i 0)) ∧ w.cell? ⟨g, off + i * 2 + 1, none⟩ = some (.int .i64 (f i 1)) := by
  obtain ⟨g, off, h1, h2, h3⟩ := h i hi
  exact ⟨g, off, h1, h2, h3 0 (by decide), h3 1 (by decide)⟩
theorem grid_ok (w : World) (b : Nat) (p : Value) (A : Option Addr) (n c : Nat) (f : Nat → Nat → Int) (ac dn uw uh tot iu : Int) (H : Blk w b 67 (frC p (.slice A n c) ac dn uw uh tot iu)) (hR : RdS w A n 4 f) (i : Nat) (hi : i < n) : Calls Try.prog 12 #[.pointer (some ⟨b, 0, none⟩), .int .i64 i] w fun e w' => e = .returned (.tuple #[.agg #[.int .i64 (f i 0), .int .i64 (f i 1), .int .i64 (f i 2), .int .i64 (f i 3)], .bool true]) ∧ Below w.heap.size w w' := by
  have hlt := H.lt
  have hal : Below w.heap.size w (w.alloc (.cells #[.int .i64 0, .int .i64 0, .int .i64 0, .int .i64 0] 33)) := (Below.refl _ _).alloc (Nat.le_refl _) _
  have h1 : (w.alloc (.cells #[.int .i64 0, .int .i64 0, .int .i64 0, .int .i64 0] 33)).cell? ⟨b, 1, none⟩ = some (.slice A n c) := (H.alloc _).cell 1
  obtain ⟨g, off, rfl, hg, q0, q1, q2, q3⟩ := (hR.bel hal).at4 hi
  have hgw : g < w.heap.size := by obtain ⟨g', off', e, h', _⟩ := hR i hi; injection e with e; injection e with e; subst e; exact h'
  have hne : ¬ g = w.heap.size := by omega
  obtain ⟨f0, hf0⟩ : ∃ f0, f0 = f i 0 := ⟨_, rfl⟩
  obtain ⟨f1, hf1⟩ : ∃ f1, f1 = f i 1 := ⟨_, rfl⟩
  obtain ⟨f2, hf2⟩ : ∃ f2, f2 = f i 2 := ⟨_, rfl⟩
  obtain ⟨f3, hf3⟩ : ∃ f3, f3 = f i 3 := ⟨_, rfl⟩
  rw [← hf0] at q0 ⊢
  rw [← hf1] at q1 ⊢
  rw [← hf2] at q2 ⊢
  rw [← hf3] at q3 ⊢
  have HAL := Lib.hid hal
  clear H hR hf0 hf1 hf2 hf3 hg hal
  go_enter Try.func12, Try.ntmps12
  go_wp2
  exact bodyPost_ret (v := .tuple #[.agg #[.int .i64 f0, .int .i64 f1, .int .i64 f2, .int .i64 f3], .bool true]) (by simp [results, Try.results12, go_sem]) rfl ⟨rfl, (Below.refl _ _).alloc (Nat.le_refl _) _⟩
/-- append of a row that is read to an empty one of the call's own. -/
theorem appS0 {w : World} {base : Nat} {v : Value} {m q by_ g off c : Nat} {e sl : TypeId} {f : Nat → Nat → Int} {ops : Array Oper} {rest : List Oper} {o : Oper} {a : Act} {Q : Exit → Act → World → Prop}
    (hsl : Try.prog.underlying sl = some (.slice e)) (hinf : (Try.prog.info? e).map (fun i => (i.zero.map fun z => z.cells.size, i.size, i.bytes)) = some (some q, q, by_)) (hq : 0 < q) (hby : by_ ≤ 1000)
    (hgd : o.guard = none) (s y : Operand) (ho : o.op = .call { callee := .builtin .append, args := #[s, y], argTypes := #[sl, sl] }) (hs : a.eval s = v) (hy : a.eval y = .slice (some ⟨g, off, none⟩) m c)
    (hown : w.ownsRow base e q v 0 []) (hR : RdS w (some ⟨g, off, none⟩) m q f) (hlen : m < 1000000000) (hbase : base ≤ w.heap.size)
    (h : ∀ v' w', OwnS w' base e q v' m f → (∀ g t cs, t ≠ e → Blk w g t cs → Blk w' g t cs) → Below base w w' → wpList Try.prog ops Q rest (a.put o.dst v') w') :
    wpList Try.prog ops Q (o :: rest) a w := by
  obtain ⟨i, hi⟩ := Option.isSome_iff_exists.1 (show (Try.prog.info? e).isSome = true by cases hq' : Try.prog.info? e with | none => rw [hq'] at hinf; cases hinf | some _ => rfl)
  rw [hi] at hinf
  simp only [Option.map_some, Option.some.injEq, Prod.mk.injEq] at hinf
  obtain ⟨hz, hsz, hb⟩ := hinf
  obtain ⟨z, hz, hzs⟩ := Option.map_eq_some_iff.1 hz
  refine wpList_append_own w hgd s y sl ho base e i z q by_ hsl hi hz hsz hb hzs hq v 0 [] hs hown ⟨g, off, none⟩ m c (flatF q f m) hy (flatF_len q f m) ?_ (flatF_one q f m) ?_ ?_ hbase ?_
  · intro j u hj
    have hjl : j < m * q := by have := (List.getElem?_eq_some_iff.1 hj).1; rwa [flatF_len] at this
    have hi2 : j / q < m := by rw [Nat.div_lt_iff_lt_mul hq]; exact hjl
    have hj2 : j % q < q := Nat.mod_lt _ hq
    have e1 : j / q * q + j % q = j := by rw [Nat.mul_comm]; exact Nat.div_add_mod j q
    have e2 := flatF_get q f m (j / q) (j % q) hi2 hj2
    rw [e1, hj] at e2
    injection e2 with e2
    obtain ⟨g', off', e3, _, hc⟩ := hR (j / q) hi2
    injection e3 with e3; injection e3 with e3 e4; subst e3 e4
    have hc2 := hc (j % q) hj2
    rw [e1] at hc2
    have hadd : (⟨g, off, none⟩ : Addr).add j = ⟨g, off + j, none⟩ := by unfold Addr.add; split <;> simp_all
    rw [hadd, hc2, e2]
  · simp only [maxLen]; omega
  · have : (0 + m) * by_ ≤ 1000000000 * 1000 := Nat.mul_le_mul (by omega) hby
    omega
  · intro v' w' hown' hg _
    rw [Nat.zero_add, List.nil_append] at hown'
    exact h v' w' hown' (KeepS hown hg) ((Below.refl base w).grown hg hbase (fun k hk => (World.ownsRow.lt hown k hk).1))
theorem clone_ok (w : World) (g off n c : Nat) (f : Nat → Nat → Int) (hn : n ≤ 1000) (hR : RdS w (some ⟨g, off, none⟩) n 2 f) : Calls Try.prog 21 #[.slice (some ⟨g, off, none⟩) n c] w fun e w' => Hid (∃ v', e = .returned v' ∧ OwnS w' w.heap.size 62 2 v' n f ∧ Below w.heap.size w w') := by
  have HR := Lib.hid hR; clear hR
  have hnil : ∀ (W : World), (binOp .eql 28 (.slice (some ⟨g, off, none⟩) n c) (.slice none 0 0)).run Try.prog W = .ok (.bool false) W := fun W => Lib.run_eql_slice_nil W _ _ _ n c 0 0 Try.underlying28
  go_enter Try.func21, Try.ntmps21
  go_wp2_with (first | (at_builtin; refine appS0 (q := 2) (by_ := 16) Try.underlying28 (by kernel_rfl) (by decide) (by decide) rfl (.tmp 5) (.tmp 6) rfl rfl rfl (base := w.heap.size) (World.ownsRow_made w #[] 0 (Nat.le_refl _) (by decide) rfl) (HR.out.bel ((Below.refl _ _).alloc (Nat.le_refl _) _)) (by omega) (by simp) ?_; intro v1 w1 hO1 _ hb1; have HO1 := Lib.hid hO1; have HB1 := Lib.hid (((Below.refl w.heap.size w).alloc (Nat.le_refl _) _).trans hb1); clear hO1 hb1))
  go_ret
  exact Lib.hid ⟨v1, rfl, HO1.out, HB1.out⟩
end Go.Proofs.Ytjfnlgmllhjonaa
