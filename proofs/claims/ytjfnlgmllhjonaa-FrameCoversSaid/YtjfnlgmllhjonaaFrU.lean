/- Plain: the list of a scan of several, on its way through five loops. No program in sight. -/
import Derived.Test.YtjfnlgmllhjonaaFrQ
namespace Go.Proofs.Ytjfnlgmllhjonaa
open Go.RowKit
set_option linter.unusedSimpArgs false
set_option linter.unusedVariables false
/-- A list, and behind it what comes of the first k. -/
def upTo {α : Type} (l : List α) (k : Nat) (f : Nat → List α) : List α := l ++ (List.range k).flatMap f
theorem upTo_zero {α : Type} (l : List α) (f : Nat → List α) : upTo l 0 f = l := by simp [upTo]
theorem upTo_next {α : Type} (l : List α) (k : Nat) (f : Nat → List α) : upTo l (k + 1) f = upTo l k f ++ f k := by simp [upTo, List.range_succ]
theorem upTo_len {α : Type} (l : List α) (k B : Nat) (f : Nat → List α) (h : ∀ i, i < k → (f i).length ≤ B) : (upTo l k f).length ≤ l.length + k * B := by
  induction k with
  | zero => simp [upTo]
  | succ k ih =>
    rw [upTo_next, List.length_append, Nat.succ_mul]
    have := ih fun i hi => h i (by omega)
    have := h k (by omega)
    omega
section
variable (p : Nat → Nat → Int) (cN : Nat → Nat) (m ac : Nat)
/-- One row of blocks of a component within a unit. -/
def mRow (c u y x v : Nat) : Nat → List (Int × Spt) := fun h => [((u : Int), (⟨c, (y : Int) * p c 1 + v, (x : Int) * p c 0 + h⟩ : Spt))]
def mPart (c u y x : Nat) : Nat → List (Int × Spt) := fun v => upTo [] (p c 0).toNat (mRow p c u y x v)
def mComp (y x : Nat) : Nat → List (Int × Spt) := fun i => upTo [] (p (cN i) 1).toNat (mPart p (cN i) (y * ac + x) y x)
def mUnit (y : Nat) : Nat → List (Int × Spt) := fun x => upTo [] m (mComp p cN ac y x)
def mLine : Nat → List (Int × Spt) := fun y => upTo [] ac (mUnit p cN m ac y)
def mL1 (y : Nat) : List (Int × Spt) := upTo [] y (mLine p cN m ac)
def mL2 (y x : Nat) : List (Int × Spt) := upTo (mL1 p cN m ac y) x (mUnit p cN m ac y)
def mL3 (y x i : Nat) : List (Int × Spt) := upTo (mL2 p cN m ac y x) i (mComp p cN ac y x)
def mL4 (y x i v : Nat) : List (Int × Spt) := upTo (mL3 p cN m ac y x i) v (mPart p (cN i) (y * ac + x) y x)
def mL5 (y x i v h : Nat) : List (Int × Spt) := upTo (mL4 p cN m ac y x i v) h (mRow p (cN i) (y * ac + x) y x v)
theorem upTo_nil {α : Type} (l : List α) (k : Nat) (f : Nat → List α) : upTo l k f = l ++ upTo [] k f := by simp [upTo]
theorem mL1_all (dn : Nat) : mL1 p cN m ac dn = refLn p cN m ac dn := by
  have e : ∀ (l : List Nat) (g : Nat → Int × Spt), (l.flatMap fun h => [g h]) = l.map g := fun l g => by induction l with
    | nil => rfl
    | cons a l ih => simp [ih]
  unfold mL1 mLine mUnit mComp mPart mRow refLn refPart upTo
  simp only [List.nil_append, e]
theorem mL2_full (y : Nat) : mL2 p cN m ac y ac = mL1 p cN m ac (y + 1) := by
  show upTo (mL1 p cN m ac y) ac (mUnit p cN m ac y) = upTo [] (y + 1) (mLine p cN m ac)
  rw [upTo_next, upTo_nil]; rfl
theorem mL3_full (y x : Nat) : mL3 p cN m ac y x m = mL2 p cN m ac y (x + 1) := by
  show upTo (mL2 p cN m ac y x) m (mComp p cN ac y x) = upTo (mL1 p cN m ac y) (x + 1) (mUnit p cN m ac y)
  rw [upTo_next, upTo_nil]; rfl
theorem mL4_full (y x i : Nat) : mL4 p cN m ac y x i (p (cN i) 1).toNat = mL3 p cN m ac y x (i + 1) := by
  show upTo (mL3 p cN m ac y x i) (p (cN i) 1).toNat (mPart p (cN i) (y * ac + x) y x) = upTo (mL2 p cN m ac y x) (i + 1) (mComp p cN ac y x)
  rw [upTo_next, upTo_nil]; rfl
theorem mL5_full (y x i v : Nat) : mL5 p cN m ac y x i v (p (cN i) 0).toNat = mL4 p cN m ac y x i (v + 1) := by
  show upTo (mL4 p cN m ac y x i v) (p (cN i) 0).toNat (mRow p (cN i) (y * ac + x) y x v) = upTo (mL3 p cN m ac y x i) (v + 1) (mPart p (cN i) (y * ac + x) y x)
  rw [upTo_next, upTo_nil]; rfl
theorem mL2_zero (y : Nat) : mL2 p cN m ac y 0 = mL1 p cN m ac y := upTo_zero _ _
theorem mL3_zero (y x : Nat) : mL3 p cN m ac y x 0 = mL2 p cN m ac y x := upTo_zero _ _
theorem mL4_zero (y x i : Nat) : mL4 p cN m ac y x i 0 = mL3 p cN m ac y x i := upTo_zero _ _
theorem mL5_zero (y x i v : Nat) : mL5 p cN m ac y x i v 0 = mL4 p cN m ac y x i v := upTo_zero _ _
theorem mL5_next (y x i v h : Nat) : mL5 p cN m ac y x i v (h + 1) = mL5 p cN m ac y x i v h ++ [(((y * ac + x : Nat) : Int), (⟨cN i, (y : Int) * p (cN i) 1 + v, (x : Int) * p (cN i) 0 + h⟩ : Spt))] := upTo_next _ _ _
end
/-- How long it may be: parts lie in 1..4. -/
theorem mL5_len {p : Nat → Nat → Int} {cN : Nat → Nat} {m ac y x i v h : Nat} (hp : ∀ j, j < m → p (cN j) 0 ≤ 4 ∧ p (cN j) 1 ≤ 4) (hm : m ≤ 4) (hac : ac ≤ 2048) (hy : y ≤ 2048) (hx : x ≤ 2048) (hi : i < m) (hv : v ≤ 4) (hh : h ≤ 4) : (mL5 p cN m ac y x i v h).length ≤ 300000000 := by
  have h1 : ∀ c u y x v h, (mRow p c u y x v h).length ≤ 1 := fun c u y x v h => by simp [mRow]
  have h2 : ∀ j, j < m → ∀ u y x v, (mPart p (cN j) u y x v).length ≤ 4 := fun j hj u y x v => by
    have := upTo_len [] (p (cN j) 0).toNat 1 (mRow p (cN j) u y x v) (fun h _ => h1 _ _ _ _ _ _)
    have := hp j hj
    simp only [List.length_nil] at *
    unfold mPart; omega
  have h3 : ∀ j, j < m → ∀ y x, (mComp p cN ac y x j).length ≤ 16 := fun j hj y x => by
    have := upTo_len [] (p (cN j) 1).toNat 4 (mPart p (cN j) (y * ac + x) y x) (fun v _ => h2 j hj _ _ _ _)
    have := hp j hj
    simp only [List.length_nil] at *
    unfold mComp; omega
  have h4 : ∀ y x, (mUnit p cN m ac y x).length ≤ 64 := fun y x => by
    have := upTo_len [] m 16 (mComp p cN ac y x) (fun j hj => h3 j hj _ _)
    simp only [List.length_nil] at *
    unfold mUnit; omega
  have h5 : ∀ y, (mLine p cN m ac y).length ≤ 131072 := fun y => by
    have := upTo_len [] ac 64 (mUnit p cN m ac y) (fun x _ => h4 _ _)
    simp only [List.length_nil] at *
    unfold mLine; omega
  have a1 := upTo_len [] y 131072 (mLine p cN m ac) (fun y _ => h5 y)
  have a2 := upTo_len (mL1 p cN m ac y) x 64 (mUnit p cN m ac y) (fun x _ => h4 _ _)
  have a3 := upTo_len (mL2 p cN m ac y x) i 16 (mComp p cN ac y x) (fun j hj => h3 j (by omega) _ _)
  have a4 := upTo_len (mL3 p cN m ac y x i) v 4 (mPart p (cN i) (y * ac + x) y x) (fun v _ => h2 i hi _ _ _ _)
  have a5 := upTo_len (mL4 p cN m ac y x i v) h 1 (mRow p (cN i) (y * ac + x) y x v) (fun h _ => h1 _ _ _ _ _ _)
  simp only [List.length_nil] at a1
  change (mL1 p cN m ac y).length ≤ _ at a1
  change (mL2 p cN m ac y x).length ≤ _ at a2
  change (mL3 p cN m ac y x i).length ≤ _ at a3
  change (mL4 p cN m ac y x i v).length ≤ _ at a4
  change (mL5 p cN m ac y x i v h).length ≤ _ at a5
  omega
end Go.Proofs.Ytjfnlgmllhjonaa
