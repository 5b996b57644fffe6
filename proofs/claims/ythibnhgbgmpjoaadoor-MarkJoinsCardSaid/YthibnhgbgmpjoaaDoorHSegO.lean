/- The writer's halves, frame, scan. No condition. -/
import Derived.Test.YthibnhgbgmpjoaaDoorHSegN
import Derived.Test.YthibnhgbgmpjoaaDoorHGE
namespace Go.Proofs.YthibnhgbgmpjoaaDoor
open Go.RowKit
set_option linter.unusedSimpArgs false
set_option linter.unusedVariables false
set_option maxRecDepth 100000
theorem and15a (a : Int) : bits .and .i64 a 15 = a % 16 := by
  show IntKind.i64.wrap ((BitVec.ofInt 64 a &&& BitVec.ofInt 64 15).toNat : Int) = _
  rw [BitVec.toNat_and, BitVec.toNat_ofInt, show (BitVec.ofInt 64 15).toNat = 2 ^ 4 - 1 by decide, Nat.and_two_pow_sub_one_eq_mod, IntKind.wrap_i64]
  omega
theorem or_half (x y : Int) (x0 : 0 ≤ x) (x1 : x < 16) (y0 : 0 ≤ y) (y1 : y < 16) : bits .or .i64 (x * 16) y = x * 16 + y := by
  obtain ⟨a, rfl⟩ := Int.eq_ofNat_of_zero_le x0
  obtain ⟨b, rfl⟩ := Int.eq_ofNat_of_zero_le y0
  have h : ∀ a b : Fin 16, bits .or .i64 (((a.val : Nat) : Int) * 16) ((b.val : Nat) : Int) = ((a.val : Nat) : Int) * 16 + ((b.val : Nat) : Int) := by decide +kernel
  exact h ⟨a, by omega⟩ ⟨b, by omega⟩
def hvL (a b : Int) : List UInt8 := putL (a % 16 * 16 + b % 16) 1
def hvB (a b : Int) : Bool := decide (a < 0 ∨ 15 < a ∨ b < 0 ∨ 15 < b)
theorem putL_len (n : Int) (m : Nat) : (putL n m).length ≤ m := by unfold putL; split <;> simp [byL_length]
theorem hv_putB (a b : Int) : putB (a % 16 * 16 + b % 16) 1 = false := by unfold putB; simp; omega
theorem Wtr.bell {B b : Nat} {l : List UInt8} {bad : Bool} {w w' : World} (h : Wtr B b l bad w) (hb : Below w.heap.size w w') : Wtr B b l bad w' := h.bel hb
theorem Wtr.size {B b : Nat} {l : List UInt8} {bad : Bool} {w : World} (h : Wtr B b l bad w) : B ≤ w.heap.size := by rcases h with h | h <;> exact h.2.1
set_option maxHeartbeats 1000000 in
theorem whalves_walk (B b : Nat) (l : List UInt8) (x y : Int) (bad : Bool) (w : World) (hl : l.length ≤ 140737488350000) (h : Wtr B b l bad w) :
    Calls Tryd.prog 61 #[.pointer (some ⟨b, 0, none⟩), .int .i64 x, .int .i64 y] w fun e w' => e = .returned (.tuple #[]) ∧ Wtr B b (l ++ hvL x y) (bad || hvB x y) w' ∧ Below B w w' ∧ KeepW w w' := by
  have hbw := h.size
  obtain ⟨bb, hbb⟩ : ∃ bb, bb = (bad || hvB x y) := ⟨_, rfl⟩
  obtain ⟨u, hu⟩ : ∃ u, u = x % 16 := ⟨_, rfl⟩
  obtain ⟨v, hv⟩ : ∃ v, v = y % 16 := ⟨_, rfl⟩
  have hx : bits .and .i64 x 15 = u := by rw [and15a, hu]
  have hy : bits .and .i64 y 15 = v := by rw [and15a, hv]
  have hu0 : 0 ≤ u := by omega
  have hu1 : u < 16 := by omega
  have hv0 : 0 ≤ v := by omega
  have hv1 : v < 16 := by omega
  have ho := or_half u v hu0 hu1 hv0 hv1
  have hn : putL (u * 16 + v) 1 = hvL x y := by rw [hu, hv]; rfl
  have hnb : putB (u * 16 + v) 1 = false := by rw [hu, hv]; exact hv_putB x y
  have HW := Lib.hid h; have HBB := Lib.hid hbb; have HN := Lib.hid hn; have HNB := Lib.hid hnb; have HX := Lib.hid hx; have HY := Lib.hid hy; have HO := Lib.hid ho
  clear h hbb hu hv hn hnb hx hy ho
  obtain ⟨p, v2, hk⟩ := HW.out.bad
  have c2 : w.cell? ⟨b, 2, none⟩ = some (.bool bad) := hk.cell 2
  have f2 := hk.frozen 2
  clear hk
  go_enter Tryd.func61, Tryd.ntmps61
  go_upto_region 0 with fail
  go_cut [] (fun wx => Hid (∃ z, z = bb ∧ Wtr B b l z wx ∧ Below B w wx ∧ KeepW w wx))
  case first =>
    clear hu0 hu1 hv0 hv1
    cases bad with
    | true =>
      go_wp2_with fail
      go_meet
      case rel => exact Lib.hid ⟨true, by rw [HBB.out]; rfl, (HW.out.setBad true).1, (HW.out.setBad true).2⟩
    | false =>
      go_wp2_with fail
      all_goals
        go_meet
        case rel =>
          refine Lib.hid ⟨_, ?_, (HW.out.setBad _).1, (HW.out.setBad _).2⟩
          rw [HBB.out, Bool.false_or, hvB, Bool.eq_iff_iff]
          simp only [Bool.false_eq_true, Bool.or_eq_true, decide_eq_true_eq, false_iff, true_iff]
          omega
  case rest =>
    obtain ⟨z, rfl, hw, hb, hkw⟩ := hcut.out
    have HWc := Lib.hid hw; have HBc := Lib.hid hb; have HKc := Lib.hid hkw
    clear hcut hw hb hkw c2 f2
    have hx := HX.out; have hy := HY.out; have ho := HO.out
    go_wp2_with (go_at_call 49; refine (wnum_walk B b l (u * 16 + v) 1 (by decide) (by decide) _ _ hl HWc.out).mono ?_; rintro ex w2 ⟨rfl, h2, hb2, hk2⟩; rw [HN.out, HNB.out, Bool.or_false] at h2; have HW2 := Lib.hid h2; have HB2 := Lib.hid hb2; have HK2 := Lib.hid hk2; clear h2 hb2 hk2)
    go_end0
    exact ⟨rfl, by rw [← HBB.out]; exact HW2.out, HBc.out.trans HB2.out, HKc.out.trans HK2.out⟩
/-- The bytes of a list, one behind the other; whether one of them is bad. -/
def catW {α : Type} (f : α → List UInt8) (l : List α) : List UInt8 := (l.map f).flatten
theorem catW_snoc {α : Type} (f : α → List UInt8) (l : List α) (x : α) : catW f (l ++ [x]) = catW f l ++ f x := by simp [catW]
theorem catW_len {α : Type} (f : α → List UInt8) (m : Nat) (h : ∀ x, (f x).length ≤ m) (l : List α) : (catW f l).length ≤ l.length * m := by
  induction l with
  | nil => simp [catW]
  | cons x l ih => have h1 := h x; simp only [catW, List.map_cons, List.flatten_cons, List.length_append, List.length_cons] at *; rw [Nat.succ_mul]; omega
theorem take_next {α : Type} (l : List α) (k : Nat) (h : k < l.length) : l.take (k + 1) = l.take k ++ [l[k]] := List.take_succ_eq_append_getElem h
def ptW (p : Pt) : List UInt8 := putL p.id 1 ++ hvL p.h p.v ++ putL p.q 1
def ptB (p : Pt) : Bool := putB p.id 1 || hvB p.h p.v || putB p.q 1
theorem ptW_len (p : Pt) : (ptW p).length ≤ 3 := by
  have h1 := putL_len p.id 1; have h2 := putL_len (p.h % 16 * 16 + p.v % 16) 1; have h3 := putL_len p.q 1
  unfold ptW hvL; simp only [List.length_append]; omega
def pkW (p : Pk) : List UInt8 := putL p.id 1 ++ hvL p.dc p.ac
def pkB (p : Pk) : Bool := putB p.id 1 || hvB p.dc p.ac
theorem pkW_len (p : Pk) : (pkW p).length ≤ 2 := by
  have h1 := putL_len p.id 1; have h2 := putL_len (p.dc % 16 * 16 + p.ac % 16) 1
  unfold pkW hvL; simp only [List.length_append]; omega
def frW (h w : Int) (l : List Pt) : List UInt8 := putL 8 1 ++ putL h 2 ++ putL w 2 ++ putL l.length 1 ++ catW ptW l
def frB (h w : Int) (l : List Pt) : Bool := putB h 2 || putB w 2 || putB l.length 1 || l.any ptB
def scW (l : List Pk) (a b hi lo : Int) : List UInt8 := putL l.length 1 ++ catW pkW l ++ putL a 1 ++ putL b 1 ++ hvL hi lo
def scB (l : List Pk) (a b hi lo : Int) : Bool := putB l.length 1 || l.any pkB || putB a 1 || putB b 1 || hvB hi lo
end Go.Proofs.YthibnhgbgmpjoaaDoor
