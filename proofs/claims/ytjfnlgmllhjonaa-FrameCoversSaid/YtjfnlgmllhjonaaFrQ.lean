/- Plain: the order of a scan, as the document tells it. No program in sight. -/
import Derived.Test.YtjfnlgmllhjonaaFrO
namespace Go.Proofs.Ytjfnlgmllhjonaa
open Go.RowKit
set_option linter.unusedSimpArgs false
set_option linter.unusedVariables false
theorem range_mul (a b : Nat) : List.range (a * b) = (List.range a).flatMap fun y => (List.range b).map fun x => y * b + x := by
  induction a with
  | zero => simp
  | succ a ih =>
    rw [Nat.succ_mul, List.range_succ, List.flatMap_append, ← ih, List.range_add]
    simp
theorem flatMap_congr9 {α β : Type} {l : List α} {f g : α → List β} (h : ∀ a ∈ l, f a = g a) : l.flatMap f = l.flatMap g := by
  induction l with
  | nil => rfl
  | cons a l ih => rw [List.flatMap_cons, List.flatMap_cons, h a (by simp), ih fun b hb => h b (by simp [hb])]
/-- All blocks of a scan of one component. -/
def refL1 (c0 oc ow : Nat) : List (Int × Spt) := (List.range ow).flatMap fun (r : Nat) => (List.range oc).map fun (c : Nat) => ((((r * oc + c : Nat)) : Int), (⟨c0, r, c⟩ : Spt))
/-- All blocks of a scan of several. -/
def refPart (p : Nat → Nat → Int) (c : Nat) (u y x : Nat) : List (Int × Spt) := (List.range (p c 1).toNat).flatMap fun (v : Nat) => (List.range (p c 0).toNat).map fun (h : Nat) => ((u : Int), (⟨c, (y : Int) * p c 1 + v, (x : Int) * p c 0 + h⟩ : Spt))
def refLn (p : Nat → Nat → Int) (cN : Nat → Nat) (m ac dn : Nat) : List (Int × Spt) := (List.range dn).flatMap fun (y : Nat) => (List.range ac).flatMap fun (x : Nat) => (List.range m).flatMap fun (i : Nat) => refPart p (cN i) (y * ac + x) y x
theorem preS_one {p gr : Nat → Nat → Int} {ac : Int} {cN : Nat → Nat} {oc ow : Nat} (ho : 0 < oc) (hg : gr (cN 0) 2 = oc) : preS p gr ac 1 cN (ow * oc) = refL1 (cN 0) oc ow := by
  unfold preS refL1
  rw [range_mul, List.flatMap_assoc]
  congr 1
  funext r
  rw [List.flatMap_map, List.map_eq_flatMap]
  refine flatMap_congr9 fun c hc => ?_
  have hc := List.mem_range.1 hc
  have e : spotsU p gr ac 1 cN (r * oc + c) = [⟨cN 0, ((r * oc + c : Nat) : Int) / gr (cN 0) 2, ((r * oc + c : Nat) : Int) % gr (cN 0) 2⟩] := if_pos rfl
  rw [e, hg]
  have e1 : (((r * oc + c : Nat)) : Int) / (oc : Int) = (r : Int) := by
    rw [← Int.natCast_ediv, Nat.mul_comm, Nat.mul_add_div ho, Nat.div_eq_of_lt hc, Nat.add_zero]
  have e2 : (((r * oc + c : Nat)) : Int) % (oc : Int) = (c : Int) := by
    rw [← Int.natCast_emod, Nat.mul_comm, Nat.mul_add_mod, Nat.mod_eq_of_lt hc]
  rw [e1, e2]
  rfl
theorem part_ref {p : Nat → Nat → Int} {c : Nat} (h0 : 1 ≤ p c 0) (h1 : 1 ≤ p c 1) (u y x : Nat) : (partU p c y x).map (fun s => ((u : Int), s)) = refPart p c u y x := by
  obtain ⟨H, hH⟩ : ∃ H : Nat, p c 0 = H := ⟨(p c 0).toNat, by omega⟩
  obtain ⟨V, hV⟩ : ∃ V : Nat, p c 1 = V := ⟨(p c 1).toNat, by omega⟩
  unfold partU refPart
  have hz : (p c 0 * p c 1).toNat = V * H := by rw [hH, hV, ← Int.natCast_mul, Int.toNat_natCast, Nat.mul_comm]
  rw [hz, range_mul, hH, hV, Int.toNat_natCast, Int.toNat_natCast, List.map_map, List.map_flatMap]
  congr 1
  funext v
  rw [List.map_map]
  refine List.map_congr_left fun h hh => ?_
  have hh := List.mem_range.1 hh
  have hH0 : 0 < H := by omega
  have e1 : (((v * H + h : Nat)) : Int) / (H : Int) = (v : Int) := by
    rw [← Int.natCast_ediv, Nat.mul_comm, Nat.mul_add_div hH0, Nat.div_eq_of_lt hh, Nat.add_zero]
  have e2 : (((v * H + h : Nat)) : Int) % (H : Int) = (h : Int) := by
    rw [← Int.natCast_emod, Nat.mul_comm, Nat.mul_add_mod, Nat.mod_eq_of_lt hh]
  show ((u : Int), (⟨_, _, _⟩ : Spt)) = _
  rw [e1, e2]
theorem preS_many {p gr : Nat → Nat → Int} {cN : Nat → Nat} {m ac dn : Nat} (hac : 0 < ac) (hm : m ≠ 1) (hp : ∀ j, j < m → 1 ≤ p (cN j) 0 ∧ 1 ≤ p (cN j) 1) : preS p gr ac m cN (dn * ac) = refLn p cN m ac dn := by
  unfold preS refLn
  rw [range_mul, List.flatMap_assoc]
  congr 1
  funext y
  rw [List.flatMap_map]
  refine flatMap_congr9 fun x hx => ?_
  have hx := List.mem_range.1 hx
  have e : spotsU p gr ac m cN (y * ac + x) = unL p cN m (((y * ac + x : Nat) : Int) / ac) (((y * ac + x : Nat) : Int) % ac) := if_neg hm
  have e1 : (((y * ac + x : Nat)) : Int) / (ac : Int) = (y : Int) := by
    rw [← Int.natCast_ediv, Nat.mul_comm, Nat.mul_add_div hac, Nat.div_eq_of_lt hx, Nat.add_zero]
  have e2 : (((y * ac + x : Nat)) : Int) % (ac : Int) = (x : Int) := by
    rw [← Int.natCast_emod, Nat.mul_comm, Nat.mul_add_mod, Nat.mod_eq_of_lt hx]
  rw [e, e1, e2]
  unfold unL preU
  rw [List.map_flatMap]
  refine flatMap_congr9 fun j hj => ?_
  exact part_ref (hp j (List.mem_range.1 hj)).1 (hp j (List.mem_range.1 hj)).2 _ _ _
end Go.Proofs.Ytjfnlgmllhjonaa
