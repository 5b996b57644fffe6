/- The walks of a cursor's methods and of the reference's Take. -/
import Derived.Test.YtdohhhkondokkaaDoorCurB
namespace Go.Proofs.YtdohhhkondokkaaDoor
open Go.RowKit
set_option linter.unusedSimpArgs false
set_option linter.unusedVariables false
/-- A cursor at block g: the text s, of which a bytes were read. -/
def Cur (w : World) (g : Nat) (s : ByteArray) (a : Nat) : Prop := Blk w g 115 #[.string s, .int .i64 a]
theorem Cur.s_ {w : World} {g a : Nat} {s : ByteArray} (h : Cur w g s a) : w.cell? ⟨g, 0, none⟩ = some (.string s) := Blk.cell h 0
theorem Cur.a_ {w : World} {g a : Nat} {s : ByteArray} (h : Cur w g s a) : w.cell? ⟨g, 1, none⟩ = some (.int .i64 a) := Blk.cell h 1
/-- Only block g, and what is new, has turned. -/
def Only (g : Nat) (w w' : World) : Prop := w.grownBy w' (some g)
theorem Only.below {g B : Nat} {w w' : World} (h : Only g w w') (hB : B ≤ g) (hB2 : B ≤ w.heap.size) : Below B w w' := (Below.refl B w).grown h hB2 (fun k hk => by injection hk with hk; omega)
theorem Only.refl (g : Nat) (w : World) : Only g w w := World.grownBy.refl w _
theorem Only.of_below {g : Nat} {w w' : World} (h : Below w.heap.size w w') : Only g w w' := ⟨h.os, h.tape, h.output, h.size, fun i hi _ => h.block i hi⟩
theorem Only.blk {g g' : Nat} {t : TypeId} {cs : Array Value} {w w' : World} (h : Only g w w') (hb : Blk w g' t cs) (hne : g' ≠ g) : Blk w' g' t cs := (h.block g' hb.lt (fun e => hne (by injection e))).trans hb
theorem new_walk (s : ByteArray) (w : World) :
    Calls Tryd.prog 21 #[.string s] w fun e w' => e = .returned (.pointer (some ⟨w.heap.size, 0, none⟩)) ∧ Cur w' w.heap.size s 0 ∧ Below w.heap.size w w' ∧ w.heap.size < w'.heap.size := by
  go_enter Tryd.func21, Tryd.ntmps21
  go_wp2
  go_ret
  exact ⟨rfl, Blk.new _ _ _, (Below.refl _ _).alloc (Nat.le_refl _) _, by simp⟩
theorem left_walk (w : World) (g a : Nat) (s : ByteArray) (hs : s.size ≤ 140737488351232) (ha : a ≤ s.size) (h : Cur w g s a) :
    Calls Tryd.prog 29 #[.pointer (some ⟨g, 0, none⟩)] w fun e w' => e = .returned (.int .i64 ((s.size : Int) - a)) ∧ w.drew = w' := by
  have h0 := h.s_
  have h1 := h.a_
  have H := Lib.hid h; clear h
  go_enter Tryd.func29, Tryd.ntmps29
  go_wp2
  go_region
  go_wp2
  go_ret
  exact ⟨rfl, rfl⟩
theorem left_nil (w : World) : Calls Tryd.prog 29 #[.pointer none] w fun e w' => e = .returned (.int .i64 0) ∧ w = w' := by
  go_enter Tryd.func29, Tryd.ntmps29
  go_wp2
  go_ret
  exact ⟨rfl, rfl⟩
theorem take_nil (n : Int) (w : World) : Calls Tryd.prog 43 #[.pointer none, .int .i64 n] w fun e w' => e = .returned (.tuple #[.string ⟨#[]⟩, .int .i64 1]) ∧ w = w' := by
  go_enter Tryd.func43, Tryd.ntmps43
  go_wp2
  go_ret2
  exact ⟨rfl, rfl⟩
theorem take_arg (n : Int) (hn : n < 0) (w : World) (g : Nat) : Calls Tryd.prog 43 #[.pointer (some ⟨g, 0, none⟩), .int .i64 n] w fun e w' => e = .returned (.tuple #[.string ⟨#[]⟩, .int .i64 1]) ∧ w = w' := by
  go_enter Tryd.func43, Tryd.ntmps43
  go_wp2
  go_ret2
  exact ⟨rfl, rfl⟩
theorem take_short (n : Int) (w : World) (g a : Nat) (s : ByteArray) (hs : s.size ≤ 140737488351232) (ha : a ≤ s.size) (h : Cur w g s a) (hn : (s.size : Int) - a < n) :
    Calls Tryd.prog 43 #[.pointer (some ⟨g, 0, none⟩), .int .i64 n] w fun e w' => e = .returned (.tuple #[.string ⟨#[]⟩, .int .i64 2]) ∧ w.drew = w' := by
  have H := Lib.hid h; clear h
  have h0 : ¬ n < 0 := by omega
  go_enter Tryd.func43, Tryd.ntmps43
  go_wp2_with (first | (go_at_call 29; refine (left_walk _ g a s hs ha H.out).mono ?_; rintro e w' ⟨rfl, rfl⟩))
  go_ret2
  exact ⟨rfl, rfl⟩
set_option maxHeartbeats 800000 in
theorem take_ok (n : Nat) (w : World) (g a : Nat) (s : ByteArray) (hs : s.size ≤ 140737488351232) (h : Cur w g s a) (hn : a + n ≤ s.size) :
    Calls Tryd.prog 43 #[.pointer (some ⟨g, 0, none⟩), .int .i64 n] w fun e w' => e = .returned (.tuple #[.string (s.extract a (a + n)), .int .i64 0]) ∧ Cur w' g s (a + n) ∧ Only g w w' := by
  have H := Lib.hid h
  have h0 := h.s_
  have h1 := h.a_
  have hf := Blk.frozen h 1
  have hlt := Blk.lt h
  clear h
  have hn2 : ¬ (s.size : Int) - a < n := by omega
  go_enter Tryd.func43, Tryd.ntmps43
  go_wp2_with (first | (go_at_call 29; refine (left_walk _ g a s hs (by omega) H.out).mono ?_; rintro e w' ⟨rfl, rfl⟩))
  go_region
  go_wp2
  go_ret2
  refine ⟨rfl, Blk.drew (Blk.set_ H.out 1 (.int .i64 ((a : Int) + n))), ?_⟩
  exact (World.grownBy.refl w (some g)).trans ⟨rfl, rfl, rfl, by simp [World.setCell], fun i hi hne => Below.heap_setCell w ⟨g, 1, none⟩ _ i (fun e => hne (by rw [e]))⟩
/-! ### Num, Sub, Rest -/
theorem ext_size (s : ByteArray) (a n : Nat) (h : a + n ≤ s.size) : (s.extract a (a + n)).size = n := by
  rw [ByteArray.size_extract]; omega
theorem num_size (p : Value) (n : Int) (h : n < 1 ∨ 4 < n) (w : World) :
    Calls Tryd.prog 42 #[p, .int .i64 n] w fun e w' => e = .returned (.tuple #[.int .i64 0, .int .i64 1]) ∧ w = w' := by
  have hd : decide (1 ≤ n ∧ n ≤ 4) = false := by simp; omega
  clear h
  go_enter Tryd.func42, Tryd.ntmps42
  go_wp2_with (first | (go_at_call 50; refine (sized_walk _ _).mono ?_; rintro e w' ⟨rfl, rfl⟩))
  go_ret2
  exact ⟨rfl, rfl⟩
theorem num_nil (n : Nat) (h1 : 1 ≤ n) (h4 : n ≤ 4) (w : World) :
    Calls Tryd.prog 42 #[.pointer none, .int .i64 n] w fun e w' => e = .returned (.tuple #[.int .i64 0, .int .i64 1]) ∧ w = w' := by
  have hd : decide (1 ≤ (n : Int) ∧ (n : Int) ≤ 4) = true := by simp; omega
  have hn := fun w => number_walk ⟨#[]⟩ (by decide) w
  go_enter Tryd.func42, Tryd.ntmps42
  have Hn := Lib.hid hn; clear hn
  go_wp2_with (first | (go_at_call 50; refine (sized_walk _ _).mono ?_; rintro e w' ⟨rfl, rfl⟩) | (go_at_call 43; refine (take_nil _ _).mono ?_; rintro e w' ⟨rfl, rfl⟩) | (go_at_call 54; refine (Hn.out _).mono ?_; rintro e w' ⟨rfl, rfl⟩))
  go_ret2
  exact ⟨rfl, rfl⟩
set_option maxHeartbeats 800000 in
theorem num_ok (n : Nat) (h1 : 1 ≤ n) (h4 : n ≤ 4) (w : World) (g a : Nat) (s : ByteArray) (hs : s.size ≤ 140737488351232) (h : Cur w g s a) (hn : a + n ≤ s.size) :
    Calls Tryd.prog 42 #[.pointer (some ⟨g, 0, none⟩), .int .i64 n] w fun e w' => e = .returned (.tuple #[.int .i64 (numL (s.extract a (a + n)).data.toList), .int .i64 0]) ∧ Cur w' g s (a + n) ∧ Only g w w' := by
  have hd : decide (1 ≤ (n : Int) ∧ (n : Int) ≤ 4) = true := by simp; omega
  have H := Lib.hid h; clear h
  have hx := ext_size s a n hn
  obtain ⟨t, ht⟩ : ∃ t, t = s.extract a (a + n) := ⟨_, rfl⟩
  have hT := fun w h => take_ok n w g a s hs h hn
  rw [← ht] at hx ⊢
  simp only [← ht] at hT
  have Ht := Lib.hid ht; clear ht
  have Hx := Lib.hid hx; clear hx
  have HT := Lib.hid hT; clear hT hn
  go_enter Tryd.func42, Tryd.ntmps42
  go_wp2_with (first | (go_at_call 50; refine (sized_walk _ _).mono ?_; rintro e w' ⟨rfl, rfl⟩) | (go_at_call 43; refine (HT.out _ H.out).mono ?_; rintro e w1 ⟨rfl, hc, ho⟩; have Hc := Lib.hid hc; have Ho := Lib.hid ho; clear hc ho) | (go_at_call 54; refine (number_walk t (by rw [Hx.out]; exact h4) _).mono ?_; rintro e w' ⟨rfl, rfl⟩))
  go_ret2
  exact ⟨rfl, Hc.out, Ho.out⟩
theorem num_short (n : Nat) (h1 : 1 ≤ n) (h4 : n ≤ 4) (w : World) (g a : Nat) (s : ByteArray) (hs : s.size ≤ 140737488351232) (ha : a ≤ s.size) (h : Cur w g s a) (hn : s.size < a + n) :
    Calls Tryd.prog 42 #[.pointer (some ⟨g, 0, none⟩), .int .i64 n] w fun e w' => e = .returned (.tuple #[.int .i64 0, .int .i64 2]) ∧ w.drew = w' := by
  have hd : decide (1 ≤ (n : Int) ∧ (n : Int) ≤ 4) = true := by simp; omega
  have H := Lib.hid h; clear h
  have hN := fun w => number_walk ⟨#[]⟩ (by decide) w
  have HN := Lib.hid hN; clear hN
  go_enter Tryd.func42, Tryd.ntmps42
  go_wp2_with (first | (go_at_call 50; refine (sized_walk _ _).mono ?_; rintro e w' ⟨rfl, rfl⟩) | (go_at_call 43; refine (take_short n _ g a s hs ha H.out (by omega)).mono ?_; rintro e w' ⟨rfl, rfl⟩) | (go_at_call 54; refine (HN.out _).mono ?_; rintro e w' ⟨rfl, rfl⟩))
  go_ret2
  exact ⟨rfl, rfl⟩
set_option maxHeartbeats 800000 in
theorem rest_walk (w : World) (g a : Nat) (s : ByteArray) (hs : s.size ≤ 140737488351232) (ha : a ≤ s.size) (h : Cur w g s a) :
    Calls Tryd.prog 27 #[.pointer (some ⟨g, 0, none⟩)] w fun e w' => e = .returned (.string (s.extract a s.size)) ∧ Cur w' g s s.size ∧ Only g w w' := by
  have H := Lib.hid h; clear h
  obtain ⟨n, hn⟩ : ∃ n, a + n = s.size := ⟨s.size - a, by omega⟩
  have hT := fun w h => take_ok n w g a s hs h (by omega)
  rw [hn] at hT
  have e : (s.size : Int) - a = n := by omega
  obtain ⟨t, ht⟩ : ∃ t, t = s.extract a s.size := ⟨_, rfl⟩
  rw [← ht] at hT ⊢
  have HT := Lib.hid hT; clear hT ht
  have hL := fun w h => left_walk w g a s hs ha h
  rw [e] at hL
  have HL := Lib.hid hL; clear hL
  have Hn := Lib.hid hn; clear hn e
  go_enter Tryd.func27, Tryd.ntmps27
  go_wp2_with (first | (go_at_call 29; refine (HL.out _ H.out).mono ?_; rintro e w' ⟨rfl, rfl⟩) | (go_at_call 43; refine (HT.out _ (Blk.drew H.out)).mono ?_; rintro e w1 ⟨rfl, hc, ho⟩; have Hc := Lib.hid hc; have Ho := Lib.hid ho; clear hc ho))
  go_ret
  exact ⟨rfl, Hc.out, (show Only g w w.drew from ⟨rfl, rfl, rfl, Nat.le_refl _, fun _ _ _ => rfl⟩).trans Ho.out⟩
theorem rest_nil (w : World) : Calls Tryd.prog 27 #[.pointer none] w fun e w' => e = .returned (.string ⟨#[]⟩) ∧ w = w' := by
  go_enter Tryd.func27, Tryd.ntmps27
  go_wp2_with (first | (go_at_call 29; refine (left_nil _).mono ?_; rintro e w' ⟨rfl, rfl⟩) | (go_at_call 43; refine (take_nil _ _).mono ?_; rintro e w' ⟨rfl, rfl⟩))
  go_ret
  exact ⟨rfl, rfl⟩
end Go.Proofs.YtdohhhkondokkaaDoor
