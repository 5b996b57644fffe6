/- What both cursors' calls answer, together. No condition. -/
import Derived.Test.YtlfhojmdffkkhaaCurD
namespace Go.Proofs.Ytlfhojmdffkkhaa
open Go.RowKit
set_option linter.unusedSimpArgs false
set_option linter.unusedVariables false
theorem wpList_store_far {P : Program} {ops : Array Oper} {rest : List Oper} {o : Oper} {a : Act} {w1 : World} {Q : Exit → Act → World → Prop} (hgd : o.guard = none) (ty : TypeId) (x y : Operand) (ho : o.op = .store ty x y) (g : Nat) (cells old : Array Value) (t : TypeId)
    (hx : a.eval x = .pointer (some ⟨g, 0, none⟩)) (hy : a.eval y = .agg cells) (hB : Blk w1 g t old) (hi : (P.info? ty).map (·.size) = some cells.size) (hold : old.size = cells.size) (h1 : cells.all (·.oneCell') = true)
    (h : ∀ w2, Blk w2 g t cells → (∀ g' t' cs, g' ≠ g → Blk w1 g' t' cs → Blk w2 g' t' cs) → (∀ B w0, B ≤ g → Below B w0 w1 → Below B w0 w2) → wpList P ops Q rest (a.put o.dst undef) w2) : wpList P ops Q (o :: rest) a w1 :=
  wpList_store_row hgd ty x y ho g cells hx hy t old hB hi hold h1
    (h _ (hB.row cells) (fun _ _ _ hne hb => hb.rowFar hne _) (fun _ _ hB hb => below_row hb hB _))
theorem Cur.drew {w : World} {g a : Nat} {s : ByteArray} (h : Cur w g s a) : Cur w.drew g s a := h
theorem Cur.drewN {w : World} {g a : Nat} {s : ByteArray} (h : Cur w g s a) (n : Nat) : Cur (w.drewN n) g s a := h
theorem Cur.alloc {w : World} {g a : Nat} {s : ByteArray} (h : Cur w g s a) (o : Obj) : Cur (w.alloc o) g s a := Blk.alloc h o
theorem Cur.far {w : World} {g a : Nat} {s : ByteArray} (h : Cur w g s a) {p : Addr} (hp : g ≠ p.block) (u : Value) : Cur (w.setCell p u) g s a := Blk.far h hp u
theorem one2 (s : ByteArray) (a : Int) : (#[Value.string s, .int .i64 a] : Array Value).all (·.oneCell') = true := by simp [Value.oneCell']
def TakeC (s : ByteArray) (a b : Nat) (x : Int) (T : ByteArray) (e : Int) : Prop :=
  (∀ w g, Cur w g s a → Calls Try.prog 17 #[.pointer (some ⟨g, 0, none⟩), .int .i64 x] w fun E w' => E = .returned (.tuple #[.string T, .int .i64 e]) ∧ Cur w' g s b ∧ Only g w w')
def RefC (s : ByteArray) (a b : Nat) (x : Int) (T : ByteArray) (e : Int) : Prop :=
  ∀ w, Calls Try.prog 15 #[.agg #[.string s, .int .i64 a], .int .i64 x] w fun E w' => E = .returned (.tuple #[.string T, .agg #[.string s, .int .i64 b], .int .i64 e]) ∧ Below w.heap.size w w'
theorem Only.drew (g : Nat) (w : World) : Only g w w.drew := Only.of_below (Below.refl _ _).drew
theorem take_both (s : ByteArray) (a : Nat) (x : Int) (hs : s.size ≤ 5000) (ha : a ≤ s.size) : ∃ (T : ByteArray) (b : Nat) (e : Int), b ≤ s.size ∧ TakeC s a b x T e ∧ RefC s a b x T e := by
  by_cases h0 : x < 0
  · refine ⟨⟨#[]⟩, a, 1, ha, fun w g hC => (take_arg x h0 w g).mono ?_, fun w => refTake_arg s a x h0 w⟩
    rintro e w' ⟨rfl, rfl⟩
    exact ⟨rfl, hC, Only.refl _ _⟩
  · obtain ⟨n, rfl⟩ := Int.eq_ofNat_of_zero_le (show 0 ≤ x by omega)
    by_cases hn : a + n ≤ s.size
    · exact ⟨s.extract a (a + n), a + n, 0, hn, fun w g hC => take_ok n w g a s (by omega) hC hn, fun w => refTake_ok s a n (by omega) hn w⟩
    · refine ⟨⟨#[]⟩, a, 2, ha, fun w g hC => (take_short n w g a s (by omega) ha hC (by omega)).mono ?_, fun w => refTake_short s a n (by omega) ha (by omega) w⟩
      rintro e w' ⟨rfl, rfl⟩
      exact ⟨rfl, hC.drew, Only.drew _ _⟩
theorem num_both (s : ByteArray) (a : Nat) (x : Int) (hs : s.size ≤ 5000) (ha : a ≤ s.size) (h1 : 1 ≤ x) (h4 : x ≤ 4) : ∃ (T : ByteArray) (b : Nat) (e y : Int), b ≤ s.size ∧
    (∀ w g, Cur w g s a → Calls Try.prog 12 #[.pointer (some ⟨g, 0, none⟩), .int .i64 x] w fun E w' => E = .returned (.tuple #[.int .i64 y, .int .i64 e]) ∧ Cur w' g s b ∧ Only g w w') ∧ RefC s a b x T e ∧
    (∀ w, Calls Try.prog 16 #[.string T] w fun E w' => E = .returned (.int .i64 y) ∧ w = w') := by
  obtain ⟨n, rfl⟩ := Int.eq_ofNat_of_zero_le (show 0 ≤ x by omega)
  by_cases hn : a + n ≤ s.size
  · exact ⟨s.extract a (a + n), a + n, 0, _, hn, fun w g hC => num_ok n (by omega) (by omega) w g a s (by omega) hC hn, fun w => refTake_ok s a n (by omega) hn w, fun w => refNum_walk _ (by rw [ext_size s a n hn]; omega) w⟩
  · refine ⟨⟨#[]⟩, a, 2, 0, ha, fun w g hC => (num_short n (by omega) (by omega) w g a s (by omega) ha hC (by omega)).mono ?_, fun w => refTake_short s a n (by omega) ha (by omega) w, fun w => refNum_walk ⟨#[]⟩ (by decide) w⟩
    rintro e w' ⟨rfl, rfl⟩
    exact ⟨rfl, hC.drew, Only.drew _ _⟩
theorem sub_both (s : ByteArray) (a : Nat) (x : Int) (hs : s.size ≤ 5000) (ha : a ≤ s.size) :
    (∃ (T : ByteArray) (b : Nat), b ≤ s.size ∧ T.size ≤ 5000 ∧ (∀ w g, Cur w g s a → Calls Try.prog 18 #[.pointer (some ⟨g, 0, none⟩), .int .i64 x] w fun E w' => ∃ g', E = .returned (.tuple #[.pointer (some ⟨g', 0, none⟩), .int .i64 0]) ∧ Cur w' g s b ∧ Cur w' g' T 0 ∧ w.heap.size ≤ g' ∧ Only g w w') ∧ RefC s a b x T 0) ∨
    (∃ e : Int, e ≠ 0 ∧ (∀ w g, Cur w g s a → Calls Try.prog 18 #[.pointer (some ⟨g, 0, none⟩), .int .i64 x] w fun E w' => E = .returned (.tuple #[.pointer none, .int .i64 e]) ∧ Cur w' g s a ∧ Only g w w') ∧ RefC s a a x ⟨#[]⟩ e) := by
  by_cases h0 : x < 0
  · refine Or.inr ⟨1, by decide, fun w g hC => (sub_arg x h0 w g).mono ?_, fun w => refTake_arg s a x h0 w⟩
    rintro e w' ⟨rfl, rfl⟩
    exact ⟨rfl, hC, Only.refl _ _⟩
  · obtain ⟨n, rfl⟩ := Int.eq_ofNat_of_zero_le (show 0 ≤ x by omega)
    by_cases hn : a + n ≤ s.size
    · exact Or.inl ⟨s.extract a (a + n), a + n, hn, by rw [ext_size s a n hn]; omega, fun w g hC => sub_ok n w g a s (by omega) hC hn, fun w => refTake_ok s a n (by omega) hn w⟩
    · refine Or.inr ⟨2, by decide, fun w g hC => (sub_short n w g a s (by omega) ha hC (by omega)).mono ?_, fun w => refTake_short s a n (by omega) ha (by omega) w⟩
      rintro e w' ⟨rfl, rfl⟩
      exact ⟨rfl, hC.drew, Only.drew _ _⟩
end Go.Proofs.Ytlfhojmdffkkhaa
