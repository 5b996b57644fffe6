/- A range over a function whose iterator may itself lay blocks and range over another: what the iterator owes, and the law of the loop. No condition. -/
import Derived.Test.YtjfnlgmllhjonaaSeqG
namespace Go.Proofs.Ytjfnlgmllhjonaa
open Go.RowKit
set_option linter.unusedSimpArgs false
set_option linter.unusedVariables false
/-- A round, as it is run: no bound on the frames. -/
def Rnd (P : Program) (l : Nat) (f : FuncId) (tm : Array Value) (asg bd : Code) (w : World) (R : Ending → World → Prop) : Prop := RoundIn (FR none) 0 P l f tm asg bd w R
theorem Rnd.to {P : Program} {l : Nat} {f : FuncId} {tm : Array Value} {asg bd : Code} {w : World} {R : Ending → World → Prop} (h : Rnd P l f tm asg bd w R) (ro : Option Nat) (n : Nat) : RoundIn (FR ro) n P l f tm asg bd w R :=
  ⟨trivial, fun c cs _ => h.2 c cs (room_wide _)⟩
theorem Rnd.of {P : Program} {l : Nat} {f : FuncId} {tm : Array Value} {asg bd : Code} {w : World} {R : Ending → World → Prop} {ro : Option Nat} {n : Nat} (h : RoundIn (FR ro) n P l f tm asg bd w R) : Rnd P l f tm asg bd w R :=
  ⟨trivial, fun c cs _ => h.2 c cs (room_wide _)⟩
/-- A call of yield: its run, and its round. -/
def YdAt (P : Program) (l : Nat) (args : Array Value) (W : World) (R : Ending → World → Prop) : Prop :=
  ∃ fn tm asg bd, (Instr.yield l args).run P W = .ok (.round l fn tm asg bd) W ∧ Rnd P l fn tm asg bd W R
theorem YdAt.mono {P : Program} {l : Nat} {args : Array Value} {W : World} {R R' : Ending → World → Prop} (h : YdAt P l args W R) (hr : ∀ e w, R e w → R' e w) : YdAt P l args W R' := by
  obtain ⟨fn, tm, asg, bd, h1, h2⟩ := h
  exact ⟨fn, tm, asg, bd, h1, RoundIn.mono h2 hr⟩
/-- What lies in D is the iterator's: it may turn it; all else that lay lies as it lay. -/
structure It (D : Nat → Prop) (W W' : World) : Prop where
  os : W'.os = W.os
  tape : W'.tape = W.tape
  output : W'.output = W.output
  size : W.heap.size ≤ W'.heap.size
  same : ∀ g, g < W.heap.size → ¬ D g → W'.heap[g]? = W.heap[g]?
/-- D, and what was laid between two worlds. -/
def More (D : Nat → Prop) (W W' : World) : Nat → Prop := fun g => D g ∨ (W.heap.size ≤ g ∧ g < W'.heap.size)
theorem It.of_below {D : Nat → Prop} {W W' : World} (h : Below W.heap.size W W') : It D W W' := ⟨h.os, h.tape, h.output, h.size, fun g hg _ => h.block g hg⟩
theorem It.putObj {D : Nat → Prop} {W : World} {l : Nat} (o : Obj) (h : D l) : It D W (W.putObj l o) :=
  ⟨rfl, rfl, rfl, by simp, fun g _ hd => World.putObj_heap_other (fun e => hd (by rw [e]; exact h))⟩
theorem more_self {D : Nat → Prop} {W W' : World} (h : W'.heap.size = W.heap.size) : More D W W' = D := by
  funext g
  apply propext
  unfold More
  constructor
  · rintro (h1 | h1)
    · exact h1
    · omega
  · exact Or.inl
/-- The caller's facts abide what the iterator does: what is laid is the iterator's. -/
def Step {β : Type} (J : (Nat → Prop) → β → World → Prop) : Prop := ∀ D s W W', J D s W → It D W W' → J (More D W W') s W'
/-- What a round keeps of D. -/
def KeepD (D : Nat → Prop) (W W' : World) : Prop := W.heap.size ≤ W'.heap.size ∧ ∀ g, D g → g < W.heap.size → W'.heap[g]? = W.heap[g]?
theorem KeepD.refl (D : Nat → Prop) (W : World) : KeepD D W W := ⟨Nat.le_refl _, fun _ _ _ => rfl⟩
theorem KeepD.trans {D : Nat → Prop} {A B C : World} (h : KeepD D A B) (k : KeepD D B C) : KeepD D A C := ⟨Nat.le_trans h.1 k.1, fun g hg hl => (k.2 g hg (Nat.lt_of_lt_of_le hl h.1)).trans (h.2 g hg hl)⟩
theorem KeepD.of_below {D : Nat → Prop} {W W' : World} (h : Below W.heap.size W W') : KeepD D W W' := ⟨h.size, fun g _ hl => h.block g hl⟩
theorem KeepD.blk {D : Nat → Prop} {W W' : World} {g : Nat} {t : TypeId} {cs : Array Value} (h : KeepD D W W') (hd : D g) (hB : Blk W g t cs) : Blk W' g t cs := (h.2 g hd hB.lt).trans hB
/-- What an iterator owes: it hands on a list's members in their order, as long as it is told to. -/
def SqX {α : Type} (P : Program) (g : Nat) (lb : Array Value) (encs : α → Array Value) (Kp : World → World → Prop) (xs : List α) (w : World) : Prop :=
  ∀ (l : Nat) (J Jx : (Nat → Prop) → List α → World → Prop) (W : World) (D0 : Nat → Prop), Kp w W → Step J → Step Jx →
    (∀ D pre x W1, J D pre W1 → (∃ r, xs = pre ++ x :: r) → (∀ g, D0 g → D g) → YdAt P l (encs x) W1 fun e W' =>
      (e = .returned (.bool true) ∧ J D (pre ++ [x]) W' ∧ Kp W1 W' ∧ KeepD D W1 W') ∨ (e = .returned (.bool false) ∧ Jx D (pre ++ [x]) W' ∧ KeepD D W1 W')) →
    J D0 [] W →
    Calls P g (#[.func (.yield l) #[] #[]] ++ lb) W fun e W' => (∃ v, e = .returned v) ∧ ((∃ D, (∀ g, D0 g → D g) ∧ J D xs W') ∨ ∃ D pre, (∀ g, D0 g → D g) ∧ pre <+: xs ∧ Jx D pre W')
/-- How a round's body may be left. -/
def bodyX {α : Type} (Kp : World → World → Prop) (D : Nat → Prop) (I : (Nat → Prop) → List α → World → Prop) (Ix : Code → (Nat → Prop) → List α → World → Prop) (xs : List α) (W : World) : Exit → Act → World → Prop
  | .normal, _, W' => KeepD D W W' ∧ Kp W W' ∧ I D xs W'
  | .ret, _, W' => KeepD D W W' ∧ Ix .ret D xs W'
  | .exit id, _, W' => KeepD D W W' ∧ Ix (.exit id) D xs W'
  | .goto t, _, W' => KeepD D W W' ∧ Ix (.goto t) D xs W'
  | .panic _, _, _ => False
  | .outgrown, _, _ => False
/-- The loop over an iterator. -/
theorem rangeX {P : Program} {α : Type} {g : Operand} {ps : Array Tmp} {assign body : Code} {Q : Exit → Act → World → Prop} {a : Act} {w : World} {gf : Nat} {lb : Array Value} (hg : a.eval g = .func (.func gf) #[] lb) (eg : ∀ args w, (callFunc gf args).run P w = .ok (.enter gf args) w)
    {encs : α → Array Value} {Kp : World → World → Prop} {xs : List α} {w0 : World} (hseq : SqX P gf lb encs Kp xs w0) (hb0 : ∀ W, Below w.heap.size w W → Kp w0 W)
    (hKt : ∀ {A B C : World}, Kp A B → Kp B C → Kp A C) (hKb : ∀ (W : World) (l : Nat) (o o' : Obj), w.heap.size ≤ l → W.heap[l]? = some o → o.isCells = false → o'.isCells = false → Kp W (W.putObj l o'))
    (hps : ∀ x, (encs x).size = ps.size)
    (I : (Nat → Prop) → List α → World → Prop) (Ix : Code → (Nat → Prop) → List α → World → Prop) (hI : Step I) (hIx : ∀ c, Step (Ix c)) (D0 : Nat → Prop) (hD0 : ∀ g, D0 g → g < w.heap.size) (h0 : I D0 [] w)
    (hround : ∀ (l : Nat) (D : Nat → Prop) (pre : List α) (x : α) (W : World), D l → D (l - 1) → w.heap.size + 1 = l → l < W.heap.size → (∀ g, D0 g → D g) → I D pre W → (∃ r, xs = pre ++ x :: r) →
      assign.wpIn (FR (some l)) 8 P (Exit.then (fun a' W' => KeepD D W W' ∧ Kp W W' ∧ ∀ o o', W'.heap[l]? = some o → o.isCells = false → o'.isCells = false →
        body.wpIn (FR (some l)) 8 P (bodyX Kp D I Ix (pre ++ [x]) (W'.putObj l o')) a' (W'.putObj l o')) (fun _ _ _ => False)) { tmps := (ps.zip (encs x)).foldl (fun t (p, v) => t.setIfInBounds p v) a.tmps, defers := [] } W)
    (hdone : ∀ (d : Nat) (D : Nat → Prop) (W : World), w.heap.size = d → D d → (∀ g, D0 g → D g) → I D xs W → W.heap[d]? = some (.deferred (some [])) → Q .normal { a with defers := { target := .collected d, args := #[] } :: a.defers } W)
    (hstop : ∀ (d : Nat) (c : Code) (D : Nat → Prop) (pre : List α) (W : World), w.heap.size = d → D d → (∀ g, D0 g → D g) → pre <+: xs → Ix c D pre W → W.heap[d]? = some (.deferred (some [])) → c.wp P Q { a with defers := { target := .collected d, args := #[] } :: a.defers } W) :
    (Code.rangeFunc g ps assign body).wp P Q a w := by
  refine (wpIn_wide (n := 9)).1 ?_
  refine wpIn_rangeFunc ?_
  intro fn hfn
  obtain ⟨rec, hrec⟩ : ∃ rec : LoopState → Option Code → Loop, rec = fun st pe => { state := st, pending := pe, fn, tmps := a.tmps, params := ps, assign, body, defers := w.heap.size } := ⟨_, rfl⟩
  obtain ⟨W1, hW1⟩ : ∃ W1, (w.alloc (.deferred (some []))).alloc (.loop (rec .ready none)) = W1 := ⟨_, rfl⟩
  have hL1 : W1.heap[w.heap.size + 1]? = some (.loop (rec .ready none)) := by
    rw [← hW1]; have := World.alloc_heap_new (w.alloc (.deferred (some []))) (.loop (rec .ready none)); rwa [World.size_alloc] at this
  have hK1 : W1.heap[w.heap.size]? = some (.deferred (some [])) := by
    rw [← hW1]; exact (Below.heap_alloc _ _ _ (by simp)).trans (World.alloc_heap_new w _)
  have hz1 : W1.heap.size = w.heap.size + 2 := by rw [← hW1]; simp
  have hbl : Below w.heap.size w W1 := by rw [← hW1]; exact ((Below.refl _ w).alloc (Nat.le_refl _) _).alloc (by simp) _
  have hI1 : I (More D0 w W1) [] W1 := hI _ _ _ _ h0 (It.of_below hbl)
  -- the two blocks of book-keeping stand beside whatever is the iterator's
  obtain ⟨Dp, hDp⟩ : ∃ Dp : (Nat → Prop) → Nat → Prop, Dp = fun D g => D g ∨ g = w.heap.size ∨ g = w.heap.size + 1 := ⟨_, rfl⟩
  have hdp1 : More D0 w W1 = Dp D0 := by
    rw [hDp]; funext g; apply propext; unfold More
    constructor
    · rintro (h | h)
      · exact .inl h
      · rw [hz1] at h; exact .inr (by omega)
    · rintro (h | h)
      · exact .inl h
      · exact .inr (by rw [hz1]; omega)
  rw [hdp1] at hI1
  have dpl : ∀ D, Dp D (w.heap.size + 1) := fun D => by rw [hDp]; exact .inr (.inr rfl)
  have dpd : ∀ D, Dp D w.heap.size := fun D => by rw [hDp]; exact .inr (.inl rfl)
  have dps : ∀ D g, D g → Dp D g := fun D g h => by rw [hDp]; exact .inl h
  have itp : ∀ {D : Nat → Prop} {A B : World}, It D A B → It (Dp D) A B := fun h => ⟨h.os, h.tape, h.output, h.size, fun g hg hn => h.same g hg (fun hd => hn (dps _ _ hd))⟩
  have mrp : ∀ (D : Nat → Prop) (A B : World), More (Dp D) A B = Dp (More D A B) := fun D A B => by
    rw [hDp]; funext g; apply propext; unfold More
    constructor
    · rintro ((h | h) | h)
      · exact .inl (.inl h)
      · exact .inr h
      · exact .inl (.inr h)
    · rintro ((h | h) | h)
      · exact .inl (.inl h)
      · exact .inr h
      · exact .inl (.inr h)
  -- the record and the deferred block lie on
  have on : ∀ {D : Nat → Prop} {A B : World} {k : Nat} {o : Obj}, It D A B → ¬ D k → A.heap[k]? = some o → B.heap[k]? = some o := fun h hn ho => (h.same _ (Array.getElem?_eq_some_iff.1 ho).1 hn).trans ho
  have nomore : ∀ {D : Nat → Prop} {A B : World} {k : Nat} {o : Obj}, ¬ D k → A.heap[k]? = some o → ¬ More D A B k := fun hn ho h => by
    rcases h with h | h
    · exact hn h
    · have := (Array.getElem?_eq_some_iff.1 ho).1; omega
  refine ⟨w.heap.size + 1, [{ target := .collected w.heap.size, args := #[] }], W1, { target := .fn (.func gf) lb, args := #[.func (.yield (w.heap.size + 1)) #[] #[]] }, W1, gf,
    #[.func (.yield (w.heap.size + 1)) #[] #[]] ++ lb, W1, ?_, ?_, ?_, ?_, (fun h => by cases h), ?_⟩
  · rw [← hW1, hrec]; exact run_enterLoop_outer _ _ _ _ _
  · simp only [resolve, hg]
    simp [go_sem]
  · intro f' hf'; trivial
  · simp [invoke, go_sem, eg]
  · refine callsX (ro := none) ((hseq (w.heap.size + 1)
      (fun D pre W => I (Dp D) pre W ∧ (∀ g, D0 g → Dp D g) ∧ ¬ D (w.heap.size + 1) ∧ ¬ D w.heap.size ∧ W.heap[w.heap.size + 1]? = some (.loop (rec .ready none)) ∧ W.heap[w.heap.size]? = some (.deferred (some [])))
      (fun D pre W => ∃ c, Ix c (Dp D) pre W ∧ (∀ g, D0 g → Dp D g) ∧ ¬ D (w.heap.size + 1) ∧ ¬ D w.heap.size ∧ W.heap[w.heap.size + 1]? = some (.loop (rec .done (some c))) ∧ W.heap[w.heap.size]? = some (.deferred (some [])))
      W1 D0 (hb0 _ hbl)
      (fun D s A B hs hit => ⟨by rw [← mrp]; exact hI _ _ _ _ hs.1 (itp hit), fun g hg => by rw [← mrp]; exact .inl (hs.2.1 g hg), nomore hs.2.2.1 hs.2.2.2.2.1, nomore hs.2.2.2.1 hs.2.2.2.2.2, on hit hs.2.2.1 hs.2.2.2.2.1, on hit hs.2.2.2.1 hs.2.2.2.2.2⟩)
      (fun D s A B hs hit => by
        obtain ⟨c, hc, hd, hn1, hn2, hl, hk⟩ := hs
        exact ⟨c, by rw [← mrp]; exact hIx c _ _ _ _ hc (itp hit), fun g hg => by rw [← mrp]; exact .inl (hd g hg), nomore hn1 hl, nomore hn2 hk, on hit hn1 hl, on hit hn2 hk⟩)
      ?_ ⟨hI1, fun g hg => dps _ _ hg, fun h => by have := hD0 _ h; omega, fun h => by have := hD0 _ h; omega, hL1, hK1⟩).mono ?_)
    · rintro D pre x W ⟨hi, hdd, hn1, hn2, hl, hk⟩ hx _
      have hlt : w.heap.size + 1 < W.heap.size := (Array.getElem?_eq_some_iff.1 hl).1
      have hy := run_yield (P := P) (args := encs x) hl (by rw [hrec]; exact hps x)
      rw [hrec] at hy
      refine ⟨fn, _, assign, body, hy, Rnd.of (ro := none) (n := 8) (roundIn_of_wpIn (F := FR none) trivial ?_)⟩
      clear hy
      refine wpIn_mono (hround (w.heap.size + 1) (Dp D) pre x W (dpl D) (dpd D) rfl hlt hdd hi hx) ?_
      rintro e a' Wa hp
      cases e with
      | normal =>
        obtain ⟨hkf, hkp, hbody⟩ := hp
        have hl1 : Wa.heap[w.heap.size + 1]? = some (.loop (rec .ready none)) := (hkf.2 _ (dpl D) hlt).trans hl
        have hk1 : Wa.heap[w.heap.size]? = some (.deferred (some [])) := (hkf.2 _ (dpd D) (by omega)).trans hk
        have hlt1 : w.heap.size + 1 < Wa.heap.size := (Array.getElem?_eq_some_iff.1 hl1).1
        refine ⟨_, run_beginRound hl1 (by rw [hrec]), ?_⟩
        have hl2 : (Wa.putObj (w.heap.size + 1) (.loop { rec .ready none with state := .busy })).heap[w.heap.size + 1]? = some (.loop { rec .ready none with state := .busy }) := World.putObj_heap_same hlt1
        have hk2 : (Wa.putObj (w.heap.size + 1) (.loop { rec .ready none with state := .busy })).heap[w.heap.size]? = some (.deferred (some [])) := (World.putObj_heap_other (by omega)).trans hk1
        have hsz2 : (Wa.putObj (w.heap.size + 1) (.loop { rec .ready none with state := .busy })).heap.size = Wa.heap.size := by simp
        have hw2 : Kp Wa (Wa.putObj (w.heap.size + 1) (.loop { rec .ready none with state := .busy })) := hKb _ _ _ _ (by omega) hl1 rfl rfl
        have fin : ∀ (jump : Option Code) (W3 : World), KeepD (Dp D) (Wa.putObj (w.heap.size + 1) (.loop { rec .ready none with state := .busy })) W3 →
            (Instr.endRound (w.heap.size + 1) jump).run P W3 = .ok (.bool jump.isNone) (W3.putObj (w.heap.size + 1) (.loop (rec (if jump.isNone then .ready else .done) jump))) ∧
            W3.heap[w.heap.size + 1]? = some (.loop { rec .ready none with state := .busy }) ∧
            (W3.putObj (w.heap.size + 1) (.loop (rec (if jump.isNone then .ready else .done) jump))).heap[w.heap.size + 1]? = some (.loop (rec (if jump.isNone then .ready else .done) jump)) ∧
            (W3.putObj (w.heap.size + 1) (.loop (rec (if jump.isNone then .ready else .done) jump))).heap[w.heap.size]? = some (.deferred (some [])) := fun jump W3 hk3 => by
          have hl3 : W3.heap[w.heap.size + 1]? = some (.loop { rec .ready none with state := .busy }) := (hk3.2 _ (dpl D) (by omega)).trans hl2
          have := run_endRound (P := P) jump hl3
          rw [hrec] at this ⊢
          exact ⟨this, by rw [hrec] at hl3; exact hl3, World.putObj_heap_same (Array.getElem?_eq_some_iff.1 hl3).1, (World.putObj_heap_other (by omega)).trans ((hk3.2 _ (dpd D) (by omega)).trans hk2)⟩
        have stepI : ∀ {s : List α} {A : World} (o : Obj), I (Dp D) s A → I (Dp D) s (A.putObj (w.heap.size + 1) o) := fun o h => by
          have := hI _ _ _ _ h (It.putObj o (dpl D))
          rwa [more_self (by simp)] at this
        have stepX : ∀ {c : Code} {s : List α} {A : World} (o : Obj), Ix c (Dp D) s A → Ix c (Dp D) s (A.putObj (w.heap.size + 1) o) := fun o h => by
          have := hIx _ _ _ _ _ h (It.putObj o (dpl D))
          rwa [more_self (by simp)] at this
        have keep3 : ∀ (W3 : World) (o : Obj), KeepD (Dp D) (Wa.putObj (w.heap.size + 1) (.loop { rec .ready none with state := .busy })) W3 → KeepD D W (W3.putObj (w.heap.size + 1) o) := fun W3 o hk3 => by
          refine ⟨?_, ?_⟩
          · have h1 := hk3.1; have h2 := hkf.1; simp at h1 ⊢; omega
          · intro q hq hql
            have hne : q ≠ w.heap.size + 1 := fun e => hn1 (e ▸ hq)
            rw [World.putObj_heap_other hne, hk3.2 q (dps _ _ hq) (by rw [hsz2]; have := hkf.1; omega), World.putObj_heap_other hne, hkf.2 q (dps _ _ hq) hql]
        refine wpIn_mono (hbody _ _ hl1 rfl rfl) ?_
        rintro e a3 W3 hp
        cases e with
        | normal =>
          obtain ⟨hk3, hkp3, hi3⟩ := hp
          obtain ⟨hr, hl3, hl4, hk4⟩ := fin none W3 hk3
          exact ⟨_, _, hr, .inl ⟨rfl, ⟨stepI _ hi3, hdd, hn1, hn2, hl4, hk4⟩, hKt hkp (hKt (hKt hw2 hkp3) (hKb _ _ _ _ (by omega) hl3 rfl rfl)), keep3 _ _ hk3⟩⟩
        | ret =>
          obtain ⟨hk3, hi3⟩ := hp
          obtain ⟨hr, hl3, hl4, hk4⟩ := fin (some .ret) W3 hk3
          exact ⟨_, _, hr, .inr ⟨rfl, ⟨.ret, stepX _ hi3, hdd, hn1, hn2, hl4, hk4⟩, keep3 _ _ hk3⟩⟩
        | exit id =>
          obtain ⟨hk3, hi3⟩ := hp
          obtain ⟨hr, hl3, hl4, hk4⟩ := fin (some (.exit id)) W3 hk3
          exact ⟨_, _, hr, .inr ⟨rfl, ⟨.exit id, stepX _ hi3, hdd, hn1, hn2, hl4, hk4⟩, keep3 _ _ hk3⟩⟩
        | goto t =>
          obtain ⟨hk3, hi3⟩ := hp
          obtain ⟨hr, hl3, hl4, hk4⟩ := fin (some (.goto t)) W3 hk3
          exact ⟨_, _, hr, .inr ⟨rfl, ⟨.goto t, stepX _ hi3, hdd, hn1, hn2, hl4, hk4⟩, keep3 _ _ hk3⟩⟩
        | panic ch => exact hp.elim
        | outgrown => exact hp.elim
      | ret => exact hp.elim
      | exit id => exact hp.elim
      | goto t => exact hp.elim
      | panic ch => exact hp.elim
      | outgrown => exact hp.elim
    · rintro e W2 ⟨⟨v, rfl⟩, (⟨D, _, hi, hdd, hn1, hn2, hl, hk⟩ | ⟨D, pre, _, hSp, c, hi, hdd, hn1, hn2, hl, hk⟩)⟩
      · have h1 := hI _ _ _ _ hi (It.putObj (.loop { rec .ready none with state := .exhausted }) (dpl D))
        rw [more_self (by simp)] at h1
        exact ⟨none, _, by have := run_endLoop (P := P) hl (by rw [hrec]; simp); rw [hrec] at this; rw [hrec] at h1; exact this, hdone _ _ _ rfl (dpd D) hdd (by rw [hrec] at h1; exact h1) ((World.putObj_heap_other (by omega)).trans hk)⟩
      · have h1 := hIx _ _ _ _ _ hi (It.putObj (.loop { rec .done (some c) with state := .exhausted }) (dpl D))
        rw [more_self (by simp)] at h1
        exact ⟨some c, _, by have := run_endLoop (P := P) hl (by rw [hrec]; simp); rw [hrec] at this; exact this, (wpIn_wide (n := 9)).2 (hstop _ c _ pre _ rfl (dpd D) hdd hSp (by rw [hrec] at h1; exact h1) ((World.putObj_heap_other (by omega)).trans hk))⟩
end Go.Proofs.Ytjfnlgmllhjonaa
