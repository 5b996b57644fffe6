/- A loop over an iterator: what a plain round keeps. No condition. -/
import Derived.Test.YtjfnlgmllhjonaaFrO
namespace Go.Proofs.Ytjfnlgmllhjonaa
open Go.RowKit
set_option linter.unusedSimpArgs false
set_option linter.unusedVariables false
/-- From B on nothing that was; of what stood when the loop began (wL), only what is in Wr is turned; D is the iterator's. -/
structure LpI (B : Nat) (w wL : World) (Wr : Nat → Prop) (D : Nat → Prop) (W : World) : Prop where
  le : B ≤ wL.heap.size
  be : Below B w W
  dg : ∀ g, D g → wL.heap.size ≤ g
  sz : wL.heap.size ≤ W.heap.size
  kp : ∀ g, g < wL.heap.size → ¬ Wr g → W.heap[g]? = wL.heap[g]?
section
variable {B : Nat} {w wL : World} {Wr D : Nat → Prop} {W W' : World}
theorem LpI.refl (hb : Below B w wL) (hle : B ≤ wL.heap.size) : LpI B w wL Wr (fun _ => False) wL := ⟨hle, hb, fun _ h => h.elim, Nat.le_refl _, fun _ _ _ => rfl⟩
theorem LpI.step (h : LpI B w wL Wr D W) (hit : It D W W') : LpI B w wL Wr (More D W W') W' :=
  ⟨h.le, h.be.trans ⟨hit.os, hit.tape, hit.output, hit.size, fun g hg => hit.same g (Nat.lt_of_lt_of_le hg (Nat.le_trans h.le h.sz)) fun hd => by have := h.dg g hd; have := h.le; omega⟩,
   fun g hg => by
    rcases hg with hg | hg
    · exact h.dg g hg
    · have := h.sz; omega,
   Nat.le_trans h.sz hit.size, fun g hg hn => (hit.same g (Nat.lt_of_lt_of_le hg h.sz) fun hd => by have := h.dg g hd; omega).trans (h.kp g hg hn)⟩
theorem LpI.stepBlk (h : LpI B w wL Wr D W) (hit : It D W W') {g : Nat} {t : TypeId} {cs : Array Value} (hg : g < wL.heap.size) (hB : Blk W g t cs) : Blk W' g t cs :=
  (hit.same g (Nat.lt_of_lt_of_le hg h.sz) fun hd => by have := h.dg g hd; omega).trans hB
theorem LpI.blk (h : LpI B w wL Wr D W) {g : Nat} {t : TypeId} {cs : Array Value} (hn : ¬ Wr g) (hB : Blk wL g t cs) : Blk W g t cs := (h.kp g hB.lt hn).trans hB
theorem LpI.alloc (h : LpI B w wL Wr D W) (o : Obj) : LpI B w wL Wr D (W.alloc o) :=
  ⟨h.le, h.be.alloc (Nat.le_trans h.le h.sz) o, h.dg, by have := h.sz; simp; omega, fun g hg hn => (Below.heap_alloc W o g (Nat.lt_of_lt_of_le hg h.sz)).trans (h.kp g hg hn)⟩
theorem LpI.put (h : LpI B w wL Wr D W) {l : Nat} (hl : wL.heap.size ≤ l) (o : Obj) : LpI B w wL Wr D (W.putObj l o) :=
  ⟨h.le, h.be.trans ⟨rfl, rfl, rfl, by simp, fun g hg => World.putObj_heap_other (fun e => by have := h.le; omega)⟩, h.dg, by have := h.sz; simp; omega, fun g hg hn => (World.putObj_heap_other (fun e => by omega)).trans (h.kp g hg hn)⟩
theorem LpI.drewE {wd : World} (h : LpI B w wL Wr D W) (hd : wd = W.drew) : LpI B w wL Wr D wd := hd ▸ ⟨h.le, h.be.drew, h.dg, h.sz, h.kp⟩
theorem LpI.set (h : LpI B w wL Wr D W) {p : Addr} (hp : Wr p.block) (hb : B ≤ p.block) (u : Value) : LpI B w wL Wr D (W.setCell p u) :=
  ⟨h.le, h.be.setCell hb u, h.dg, by have := h.sz; simp [World.setCell]; omega, fun g hg hn => (Below.heap_setCell W p u g (fun e => hn (e ▸ hp))).trans (h.kp g hg hn)⟩
theorem LpI.bel (h : LpI B w wL Wr D W) (hb : Below W.heap.size W W') : LpI B w wL Wr D W' :=
  ⟨h.le, h.be.trans (hb.mono (Nat.le_trans h.le h.sz)), h.dg, Nat.le_trans h.sz hb.size, fun g hg hn => (hb.block g (Nat.lt_of_lt_of_le hg h.sz)).trans (h.kp g hg hn)⟩
theorem LpI.rdS (h : LpI B w wL Wr D W) {A : Option Addr} {n q : Nat} {f : Nat → Nat → Int} (hr : RdS wL A n q f) (hn : ∀ g off, A = some ⟨g, off, none⟩ → ¬ Wr g) : RdS W A n q f := fun i hi => by
  obtain ⟨g, off, h1, h2, h3⟩ := hr i hi
  exact ⟨g, off, h1, Nat.lt_of_lt_of_le h2 h.sz, fun j hj => (heap_cell (h.kp g h2 (hn g off h1))).trans (h3 j hj)⟩
end
/-- A round that turns one block. -/
theorem KeepD.set {D : Nat → Prop} {W : World} {p : Addr} (h : ¬ D p.block) (u : Value) : KeepD D W (W.setCell p u) := ⟨by simp [World.setCell], fun g hg _ => Below.heap_setCell W p u g (fun e => h (e ▸ hg))⟩
theorem KeepD.drewE {D : Nat → Prop} {W wd : World} (hd : wd = W.drew) : KeepD D W wd := by subst hd; exact ⟨Nat.le_refl _, fun _ _ _ => rfl⟩
theorem KeepD.sub {D D' : Nat → Prop} {A B : World} (h : KeepD D A B) (hs : ∀ g, D' g → D g) : KeepD D' A B := ⟨h.1, fun g hg hl => h.2 g (hs g hg) hl⟩
end Go.Proofs.Ytjfnlgmllhjonaa
