/- The walks of a reader's methods. No condition. -/
import Derived.Test.YtaofponadaifiaaWri
import Derived.Test.YtaofponadaifiaaBitP
import Derived.BigRegion
namespace Go.Proofs.Ytaofponadaifiaa
open Go.RowKit
set_option linter.unusedSimpArgs false
set_option linter.unusedVariables false
/-- A reader at block g: text s, at place a, held bits h, how many c. -/
def RdV (w : World) (g : Nat) (s : ByteArray) (a h c : Int) : Prop := Blk w g 69 #[.string s, .int .i64 a, .int .i64 h, .int .i64 c]
theorem RdV.c0 {w : World} {g : Nat} {s : ByteArray} {a h c : Int} (H : RdV w g s a h c) : w.cell? ⟨g, 0, none⟩ = some (.string s) := Blk.cell H 0
theorem RdV.c1 {w : World} {g : Nat} {s : ByteArray} {a h c : Int} (H : RdV w g s a h c) : w.cell? ⟨g, 1, none⟩ = some (.int .i64 a) := Blk.cell H 1
theorem RdV.c2 {w : World} {g : Nat} {s : ByteArray} {a h c : Int} (H : RdV w g s a h c) : w.cell? ⟨g, 2, none⟩ = some (.int .i64 h) := Blk.cell H 2
theorem RdV.c3 {w : World} {g : Nat} {s : ByteArray} {a h c : Int} (H : RdV w g s a h c) : w.cell? ⟨g, 3, none⟩ = some (.int .i64 c) := Blk.cell H 3
theorem RdV.bel {w w' : World} {g : Nat} {s : ByteArray} {a h c : Int} (H : RdV w g s a h c) (hb : Below w.heap.size w w') : RdV w' g s a h c := Blk.bel H hb
theorem RdV.drew {w : World} {g : Nat} {s : ByteArray} {a h c : Int} (H : RdV w g s a h c) : RdV w.drew g s a h c := H
/-- Only block g, and what is new, has turned. -/
def Only (g : Nat) (w w' : World) : Prop := w.grownBy w' (some g)
theorem Only.below {g B : Nat} {w w' : World} (h : Only g w w') (hB : B ≤ g) (hB2 : B ≤ w.heap.size) : Below B w w' := (Below.refl B w).grown h hB2 (fun k hk => by injection hk with hk; omega)
theorem Only.refl (g : Nat) (w : World) : Only g w w := World.grownBy.refl w _
theorem Only.of_below {g : Nat} {w w' : World} (h : Below w.heap.size w w') : Only g w w' := ⟨h.os, h.tape, h.output, h.size, fun i hi _ => h.block i hi⟩
theorem Only.blk {g g' : Nat} {t : TypeId} {cs : Array Value} {w w' : World} (h : Only g w w') (hb : Blk w g' t cs) (hne : g' ≠ g) : Blk w' g' t cs := (h.block g' hb.lt (fun e => hne (by injection e))).trans hb
theorem Only.trans {g : Nat} {a b c : World} (h : Only g a b) (h2 : Only g b c) : Only g a c := World.grownBy.trans h h2
theorem Only.set_ {g i : Nat} {a b : World} (h : Only g a b) (u : Value) : Only g a (b.setCell ⟨g, i, none⟩ u) :=
  Only.trans h ⟨rfl, rfl, rfl, by simp [World.setCell], fun k _ hne => Below.heap_setCell b ⟨g, i, none⟩ u k (fun e => hne (by rw [e]))⟩
theorem Only.drew {g : Nat} {a b : World} (h : Only g a b) : Only g a b.drew := Only.trans h (Only.of_below (Below.refl _ _).drew)
def byteA (s : ByteArray) (i : Nat) : Int := if h : i < s.size then ((s[i]'h).toNat : Int) else 0
theorem byteA_eq (s : ByteArray) (i : Nat) (h : i < s.size) : byteA s i = ((s[i]'h).toNat : Int) := by simp [byteA, h]
/-- The next whole byte, and how many bytes it takes. -/
def wholeV (s : ByteArray) (a : Nat) : Int × Nat := if s.size ≤ a then (0, 0) else if byteA s a ≠ 255 then (byteA s a, 1) else if a + 1 < s.size ∧ byteA s (a + 1) = 0 then (255, 2) else (0, 0)
theorem whole_walk (w : World) (g : Nat) (s : ByteArray) (a0 h c : Int) (H : RdV w g s a0 h c) (a : Nat) (hs : s.size ≤ 100000000) (ha : a ≤ 200000000) :
    Calls Try.prog 31 #[.pointer (some ⟨g, 0, none⟩), .int .i64 a] w fun e w' => e = .returned (.tuple #[.int .i64 (wholeV s a).1, .int .i64 (wholeV s a).2]) ∧ w = w' := by
  have h0 := H.c0
  clear H
  by_cases h1 : s.size ≤ a
  · have e : wholeV s a = (0, 0) := by simp [wholeV, h1]
    rw [e]
    clear e
    go_enter Try.func31, Try.ntmps31
    go_wp2
    go_ret2
    exact ⟨rfl, rfl⟩
  · have hl : a < s.size := by omega
    have hb := byteA_eq s a hl
    by_cases h2 : byteA s a = 255
    · by_cases h3 : a + 1 < s.size
      · have hb3 := byteA_eq s (a + 1) h3
        by_cases h4 : byteA s (a + 1) = 0
        · have e : wholeV s a = (255, 2) := by simp [wholeV, h1, h2, h3, h4]
          rw [e]
          rw [hb] at h2
          rw [hb3] at h4
          clear e hb hb3
          go_enter Try.func31, Try.ntmps31
          go_wp2
          go_ret2
          exact ⟨rfl, rfl⟩
        · have e : wholeV s a = (0, 0) := by simp [wholeV, h1, h2, h3, h4]
          rw [e]
          rw [hb] at h2
          rw [hb3] at h4
          clear e hb hb3
          go_enter Try.func31, Try.ntmps31
          go_wp2
          go_ret2
          exact ⟨rfl, rfl⟩
      · have e : wholeV s a = (0, 0) := by simp [wholeV, h1, h2, h3]
        rw [e]
        rw [hb] at h2
        clear e hb
        go_enter Try.func31, Try.ntmps31
        go_wp2
        go_ret2
        exact ⟨rfl, rfl⟩
    · have e : wholeV s a = (((s[a]'hl).toNat : Int), 1) := by unfold wholeV; rw [if_neg h1, if_pos h2, hb]
      have hw : wrap64 ((s[a]'hl).toNat : Int) = ((s[a]'hl).toNat : Int) := by have := (s[a]'hl).toNat_lt; unfold wrap64; omega
      rw [e]
      rw [hb] at h2
      clear e hb
      go_enter Try.func31, Try.ntmps31
      go_wp2
      go_ret2
      refine ⟨?_, rfl⟩
      show Ending.returned (.tuple #[.int .i64 (wrap64 ((s[a]'hl).toNat : Int)), .int .i64 1]) = _
      rw [hw]
      rfl
end Go.Proofs.Ytaofponadaifiaa
