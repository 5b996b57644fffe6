/- The reader's calls over its state: where it is, what it met. No condition. -/
import Derived.Test.YthibnhgbgmpjoaaDoorHGB
import Derived.Test.YthibnhgbgmpjoaaDoorHGC
namespace Go.Proofs.YthibnhgbgmpjoaaDoor
open Go.RowKit
set_option linter.unusedSimpArgs false
set_option linter.unusedVariables false
/-- Where a reader is, and what it met. -/
structure St where
  a : Nat
  e : Int
def nS (s : ByteArray) (n : Nat) (t : St) : St := ⟨nxA s n t.a, nxE s n t.a t.e⟩
def nV (s : ByteArray) (n : Nat) (t : St) : Int := nxV s n t.a t.e
def xS (s : ByteArray) (n : Int) (t : St) : St := ⟨txA s n t.a, txE s n t.a t.e⟩
def xV (s : ByteArray) (n : Int) (t : St) : ByteArray := txV s n t.a
def tS (t : St) (ok : Bool) (x : Int) : St := ⟨t.a, stp t.e ok x⟩
/-- The reader of block r, over the cursor of block g. -/
def Rd7 (w : World) (r g : Nat) (s : ByteArray) (t : St) : Prop := Rdr w r g t.e ∧ Cur w g s t.a ∧ t.a ≤ s.size ∧ r ≠ g ∧ s.size ≤ 65533
theorem Rd7.bel {w w' : World} {r g : Nat} {s : ByteArray} {t : St} (h : Rd7 w r g s t) (hb : Below w.heap.size w w') : Rd7 w' r g s t := ⟨Blk.bel h.1 hb, Blk.bel h.2.1 hb, h.2.2⟩
theorem Rd7.drew {w : World} {r g : Nat} {s : ByteArray} {t : St} (h : Rd7 w r g s t) : Rd7 w.drew r g s t := h
theorem Rd7.alloc {w : World} {r g : Nat} {s : ByteArray} {t : St} (h : Rd7 w r g s t) (o : Obj) : Rd7 (w.alloc o) r g s t := ⟨Blk.alloc h.1 o, Blk.alloc h.2.1 o, h.2.2⟩
theorem Rd7.gp {w : World} {r g : Nat} {s : ByteArray} {t : St} (h : Rd7 w r g s t) : w.cell? ⟨r, 0, none⟩ = some (.pointer (some ⟨g, 0, none⟩)) := h.1.g_
theorem Rd7.ec {w : World} {r g : Nat} {s : ByteArray} {t : St} (h : Rd7 w r g s t) : w.cell? ⟨r, 1, none⟩ = some (.int .i64 t.e) := h.1.e_
theorem Rd7.lt {w : World} {r g : Nat} {s : ByteArray} {t : St} (h : Rd7 w r g s t) : r < w.heap.size ∧ g < w.heap.size := ⟨Blk.lt h.1, Blk.lt h.2.1⟩
theorem Rd7.keepT {w w' : World} {r g : Nat} {s : ByteArray} {t : St} {e : TypeId} (h : Rd7 w r g s t) (hk : KeepT e w w') (h1 : 90 ≠ e) (h2 : 130 ≠ e) : Rd7 w' r g s t := ⟨hk r _ _ h1 h.1, hk g _ _ h2 h.2.1, h.2.2⟩
theorem num7 (n : Nat) (h1 : 1 ≤ n) (h4 : n ≤ 4) (w : World) (r g : Nat) (s : ByteArray) (t : St) (h : Rd7 w r g s t) :
    Calls Tryd.prog 31 #[.pointer (some ⟨r, 0, none⟩), .int .i64 n] w fun ex w' => ex = .returned (.int .i64 (nV s n t)) ∧ Rd7 w' r g s (nS s n t) ∧ Two g r w w' := by
  obtain ⟨hr, hc, ha, hne, hs⟩ := h
  refine (num_walkR n h1 h4 w r g t.a s t.e (by omega) ha hne hr hc).mono ?_
  rintro ex w' ⟨he, h1, h2, h3⟩
  exact ⟨he, ⟨h1, h2, by show nxA s n t.a ≤ s.size; unfold nxA; split <;> omega, hne, hs⟩, h3⟩
theorem halves7 (w : World) (r g : Nat) (s : ByteArray) (t : St) (h : Rd7 w r g s t) :
    Calls Tryd.prog 52 #[.pointer (some ⟨r, 0, none⟩)] w fun ex w' => ex = .returned (.tuple #[.int .i64 (nV s 1 t / 16), .int .i64 (nV s 1 t % 16)]) ∧ Rd7 w' r g s (nS s 1 t) ∧ Two g r w w' := by
  obtain ⟨hr, hc, ha, hne, hs⟩ := h
  refine (halves_walk w r g t.a s t.e (by omega) ha hne hr hc).mono ?_
  rintro ex w' ⟨he, h1, h2, h3⟩
  exact ⟨he, ⟨h1, h2, by show nxA s 1 t.a ≤ s.size; unfold nxA; split <;> omega, hne, hs⟩, h3⟩
theorem text7 (n : Nat) (w : World) (r g : Nat) (s : ByteArray) (t : St) (h : Rd7 w r g s t) :
    Calls Tryd.prog 54 #[.pointer (some ⟨r, 0, none⟩), .int .i64 n] w fun ex w' => ex = .returned (.string (xV s n t)) ∧ Rd7 w' r g s (xS s n t) ∧ Two g r w w' := by
  obtain ⟨hr, hc, ha, hne, hs⟩ := h
  refine (text_walk n w r g t.a s t.e (by omega) ha hne hr hc).mono ?_
  rintro ex w' ⟨he, h1, h2, h3⟩
  exact ⟨he, ⟨h1, h2, by show txA s n t.a ≤ s.size; unfold txA; split <;> omega, hne, hs⟩, h3⟩
theorem test7 (w : World) (r g : Nat) (s : ByteArray) (t : St) (x : Int) (ok : Bool) (h : Rd7 w r g s t) :
    Calls Tryd.prog 34 #[.pointer (some ⟨r, 0, none⟩), .bool ok, .int .i64 x] w fun ex w' => ex = .returned (.tuple #[]) ∧ Rd7 w' r g s (tS t ok x) ∧ Two g r w w' := by
  obtain ⟨hr, hc, ha, hne, hs⟩ := h
  refine (test_walk w r g t.e x ok hr).mono ?_
  rintro ex w' ⟨he, h1, h2⟩
  exact ⟨he, ⟨h1, h2.blk hc hne.symm, ha, hne, hs⟩, Two.two h2⟩
theorem test7e (w : World) (r g : Nat) (s : ByteArray) (t : St) (x : Int) (ok b : Bool) (he : b = ok) (h : Rd7 w r g s t) :
    Calls Tryd.prog 34 #[.pointer (some ⟨r, 0, none⟩), .bool b, .int .i64 x] w fun ex w' => ex = .returned (.tuple #[]) ∧ Rd7 w' r g s (tS t ok x) ∧ Two g r w w' := he ▸ test7 w r g s t x b h
theorem left7 (w : World) (r g : Nat) (s : ByteArray) (t : St) (h : Rd7 w r g s t) :
    Calls Tryd.prog 35 #[.pointer (some ⟨g, 0, none⟩)] w fun e w' => e = .returned (.int .i64 ((s.size : Int) - t.a)) ∧ w.drew = w' := left_walk w g t.a s (by have := h.2.2.2.2; omega) h.2.2.1 h.2.1
theorem nV_bd (s : ByteArray) (t : St) : 0 ≤ nV s 1 t ∧ nV s 1 t < 256 := nxV_bd s t.a t.e
theorem nV_bd2 (s : ByteArray) (n : Nat) (t : St) : 0 ≤ nV s n t ∧ nV s n t < 256 ^ n := by
  unfold nV nxV
  split
  · refine ⟨(numL_bd _).1, ?_⟩
    exact numL_lt _ n (by simp; omega)
  · exact ⟨by omega, Int.pow_pos (by decide)⟩
/-- Keeping of blocks under Two. -/
theorem Two.keepT {g r : Nat} {w w' : World} {e : TypeId} {s : ByteArray} {t : St} (h : Two g r w w') (hR : Rd7 w r g s t) (h1 : 90 ≠ e) (h2 : 130 ≠ e) : ∀ i cs, Blk w i e cs → Blk w' i e cs := fun i cs hB => by
  refine h.blk hB ?_ ?_
  · rintro rfl
    have h0 : Blk w i 130 _ := hR.2.1
    unfold Blk at h0 hB
    rw [h0] at hB
    simp at hB
    exact h2 hB.2
  · rintro rfl
    have h0 : Blk w i 90 _ := hR.1
    unfold Blk at h0 hB
    rw [h0] at hB
    simp at hB
    exact h1 hB.2
theorem Rd7.set {w : World} {r g : Nat} {s : ByteArray} {t : St} (h : Rd7 w r g s t) {p : Addr} (h1 : p.block ≠ r) (h2 : p.block ≠ g) (u : Value) : Rd7 (w.setCell p u) r g s t := ⟨Blk.far h.1 (fun e => h1 e.symm) u, Blk.far h.2.1 (fun e => h2 e.symm) u, h.2.2⟩
theorem Two.set {g r : Nat} {w w' : World} (h : Two g r w w') {p : Addr} (hp : w.heap.size ≤ p.block) (u : Value) : Two g r w (w'.setCell p u) :=
  ⟨h.os, h.tape, h.output, by simpa [World.setCell] using h.size, fun i hi h1 h2 => (Below.heap_setCell w' p u i (by omega)).trans (h.block i hi h1 h2)⟩
theorem Two.bel {g r : Nat} {w w1 w2 : World} (h : Two g r w w1) (hb : Below w.heap.size w1 w2) : Two g r w w2 :=
  ⟨hb.os.trans h.os, hb.tape.trans h.tape, hb.output.trans h.output, Nat.le_trans h.size hb.size, fun i hi h1 h2 => (hb.block i hi).trans (h.block i hi h1 h2)⟩
theorem Two.alloc {g r : Nat} {w w1 : World} (h : Two g r w w1) (o : Obj) : Two g r w (w1.alloc o) := h.bel ((Below.refl _ w1).alloc h.size o)
theorem Two.drew {g r : Nat} {w w1 : World} (h : Two g r w w1) : Two g r w w1.drew := h.bel (Below.refl _ w1).drew
end Go.Proofs.YthibnhgbgmpjoaaDoor
