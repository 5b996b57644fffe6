/- The document's Find, and what Codes answers where New does. No condition. -/
import Derived.Test.YtaofponadaifiaaHuG
namespace Go.Proofs.Ytaofponadaifiaa
open Go.RowKit
set_option linter.unusedSimpArgs false
set_option linter.unusedVariables false
theorem CodesP.get {w w' : World} {cnt : Nat → Int} {s : ByteArray} {e : Ending} {st : HS} (h : CodesP w cnt s e w') (h0 : hufNew cnt s = some st) : Hid (∃ g v, GoodG s g ∧ Sim s st g ∧ e = .returned (.tuple #[v, .bool true]) ∧ OwnS w' w.heap.size 36 3 v g.at_ (fC s g) ∧ Below w.heap.size w w') := by
  obtain ⟨g0, hg0, hG0, hS0⟩ := codes_yes h0
  rcases h with ⟨g, v, h1, h2, h3, h4, h5⟩ | ⟨h1, _⟩
  · rw [hg0] at h1; injection h1 with h1; subst h1
    exact Lib.hid ⟨g0, v, hG0, hS0, h3, h4, h5⟩
  · rcases h1 with h1 | ⟨g, h1, h2⟩
    · rw [hg0] at h1; cases h1
    · rw [hg0] at h1; injection h1 with h1; subst h1; exact absurd hG0 h2
theorem CodesP.none {w w' : World} {cnt : Nat → Int} {s : ByteArray} {e : Ending} (h : CodesP w cnt s e w') (h0 : hufNew cnt s = none) : e = .returned (.tuple #[.slice none 0 0, .bool false]) ∧ Below w.heap.size w w' := by
  rcases h with ⟨g, v, h1, h2, _⟩ | ⟨_, h⟩
  · rcases codes_no h0 with h3 | ⟨g', h3, h4⟩
    · rw [h1] at h3; cases h3
    · rw [h1] at h3; injection h3 with h3; subst h3; exact absurd h2 h4
  · exact h
theorem find_yes (A : Option Addr) (n c : Nat) (f : Nat → Nat → Int) (x : Int) (i : Nat) (w : World) (hn : n ≤ 1000) (hR : RdS w A n 3 f) (hi : i < n) (hfi : f i 0 = x) (hne : ∀ k, k < i → f k 0 ≠ x) :
    Calls Try.prog 13 #[.slice A n c, .int .i64 x] w fun e w' => e = .returned (.tuple #[.agg #[.int .i64 x, .int .i64 (f i 1), .int .i64 (f i 2)], .bool true]) ∧ Below w.heap.size w w' := by
  have hal : Below w.heap.size w (w.alloc (.cells #[.int .i64 0, .int .i64 0, .int .i64 0] 36)) := (Below.refl _ _).alloc (Nat.le_refl _) _
  have HR := Lib.hid (hR.bel hal); have HNE := Lib.hid hne; have HFI := Lib.hid hfi
  have HRW := Lib.hid hR
  clear hR hne hfi hal
  go_enter Try.func13, Try.ntmps13
  go_wp2_with fail
  go_loop [6] (fun j => ∃ (k : Nat), k ≤ i ∧ j = .int .i64 k) (fun j => i + 1 - (intOf j).toNat)
  case atStart => exact ⟨0, by omega, rfl⟩
  case round =>
    obtain ⟨k, hk, rfl⟩ := hrel
    obtain ⟨g, off, rfl, hg, q0, q1, q2⟩ := HR.out.at3 (show k < n by omega)
    obtain ⟨g', off', e3, hg', _, _, _⟩ := HRW.out.at3 (show k < n by omega)
    cases e3
    have hne2 : ¬ g = w.heap.size := by omega
    obtain ⟨y, hy⟩ : ∃ y, y = f k 0 := ⟨_, rfl⟩
    obtain ⟨y1, hy1⟩ : ∃ y, y = f k 1 := ⟨_, rfl⟩
    obtain ⟨y2, hy2⟩ : ∃ y, y = f k 2 := ⟨_, rfl⟩
    rw [← hy] at q0
    rw [← hy1] at q1
    rw [← hy2] at q2
    have HY := Lib.hid hy; have HY1 := Lib.hid hy1; have HY2 := Lib.hid hy2
    clear hy hy1 hy2 hg
    have dkn : decide (k < n) = true := by simp; omega
    by_cases hlt : k < i
    · have g1 : (y == x) = false := by have := HNE.out k hlt; rw [HY.out]; simpa using this
      go_wp2
      exact ⟨⟨k + 1, by omega, by go_num⟩, by simp [intOf]; omega⟩
    · obtain rfl : i = k := by omega
      have g1 : (y == x) = true := by rw [HY.out, HFI.out]; simp
      go_wp2
      refine bodyPost_ret (v := .tuple #[.agg #[.int .i64 y, .int .i64 y1, .int .i64 y2], .bool true]) (by simp [results, Try.results13, go_sem]) rfl ⟨?_, (Below.refl _ _).alloc (Nat.le_refl _) _⟩
      rw [HY.out, HY1.out, HY2.out, HFI.out]
theorem find_no (A : Option Addr) (n c : Nat) (f : Nat → Nat → Int) (x : Int) (w : World) (hn : n ≤ 1000) (hR : RdS w A n 3 f) (hne : ∀ k, k < n → f k 0 ≠ x) :
    Calls Try.prog 13 #[.slice A n c, .int .i64 x] w fun e w' => e = .returned (.tuple #[.agg #[.int .i64 0, .int .i64 0, .int .i64 0], .bool false]) ∧ Below w.heap.size w w' := by
  have hal : Below w.heap.size w (w.alloc (.cells #[.int .i64 0, .int .i64 0, .int .i64 0] 36)) := (Below.refl _ _).alloc (Nat.le_refl _) _
  have HR := Lib.hid (hR.bel hal); have HNE := Lib.hid hne
  clear hR hne hal
  go_enter Try.func13, Try.ntmps13
  go_wp2_with fail
  go_loop [6] (fun j => ∃ (k : Nat), k ≤ n ∧ j = .int .i64 k) (fun j => n - (intOf j).toNat)
  case atStart => exact ⟨0, by omega, rfl⟩
  case round =>
    obtain ⟨k, hk, rfl⟩ := hrel
    by_cases hlt : k < n
    · obtain ⟨g, off, rfl, hg, q0, _, _⟩ := HR.out.at3 hlt
      obtain ⟨y, hy⟩ : ∃ y, y = f k 0 := ⟨_, rfl⟩
      rw [← hy] at q0
      have g1 : (y == x) = false := by have := HNE.out k hlt; rw [hy]; simpa using this
      clear hy hg
      go_wp2
      exact ⟨⟨k + 1, by omega, by go_num⟩, by simp [intOf]; omega⟩
    · obtain rfl : k = n := by omega
      go_wp2
      exact bodyPost_ret (v := .tuple #[.agg #[.int .i64 0, .int .i64 0, .int .i64 0], .bool false]) (by simp [results, Try.results13, go_sem]) rfl ⟨rfl, (Below.refl _ _).alloc (Nat.le_refl _) _⟩
end Go.Proofs.Ytaofponadaifiaa
