/- The writer's frame and scan (gen_segp.py). No condition. -/
import Derived.Test.YthibnhgbgmpjoaaDoorHSegO
namespace Go.Proofs.YthibnhgbgmpjoaaDoor
open Go.RowKit
set_option linter.unusedSimpArgs false
set_option linter.unusedVariables false
set_option maxRecDepth 100000
theorem any_next {α : Type} (f : α → Bool) (l : List α) (k : Nat) (h : k < l.length) : (l.take (k + 1)).any f = ((l.take k).any f || f l[k]) := by rw [take_next l k h, List.any_append]; simp
theorem catW_next {α : Type} (f : α → List UInt8) (l : List α) (k : Nat) (h : k < l.length) : catW f (l.take (k + 1)) = catW f (l.take k) ++ f l[k] := by rw [take_next l k h, catW_snoc]
theorem catW_tlen {α : Type} (f : α → List UInt8) (m : Nat) (h : ∀ x, (f x).length ≤ m) (l : List α) (k : Nat) : (catW f (l.take k)).length ≤ l.length * m := Nat.le_trans (catW_len f m h _) (Nat.mul_le_mul_right m (by rw [List.length_take]; omega))
/-- What a writer stands on: w0 the world of the call of Bytes. -/
structure WrI (w0 : World) (b : Nat) (l : List UInt8) (bad : Bool) (w : World) : Prop where
  wt : Wtr w0.heap.size b l bad w
  be : Below w0.heap.size w0 w
theorem WrI.bel {w0 w w' : World} {b : Nat} {l : List UInt8} {bad : Bool} (h : WrI w0 b l bad w) (hb : Below w.heap.size w w') : WrI w0 b l bad w' := ⟨h.wt.bel hb, h.be.trans (hb.mono h.be.size)⟩
theorem WrI.alloc {w0 w : World} {b : Nat} {l : List UInt8} {bad : Bool} (h : WrI w0 b l bad w) (o : Obj) : WrI w0 b l bad (w.alloc o) := h.bel ((Below.refl _ _).alloc (Nat.le_refl _) o)
theorem wnumI (w0 : World) (b : Nat) (l : List UInt8) (n : Int) (m : Nat) (h1 : 1 ≤ m) (h4 : m ≤ 4) (bad : Bool) (w : World) (hl : l.length ≤ 140737488350000) (h : WrI w0 b l bad w) :
    Calls Tryd.prog 49 #[.pointer (some ⟨b, 0, none⟩), .int .i64 n, .int .i64 m] w fun e w' => e = .returned (.tuple #[]) ∧ WrI w0 b (l ++ putL n m) (bad || putB n m) w' ∧ KeepW w w' :=
  (wnum_walk _ b l n m h1 h4 bad w hl h.wt).mono fun _ _ ⟨h1, h2, h3, h4⟩ => ⟨h1, ⟨h2, h.be.trans h3⟩, h4⟩
theorem whalvesI (w0 : World) (b : Nat) (l : List UInt8) (x y : Int) (bad : Bool) (w : World) (hl : l.length ≤ 140737488350000) (h : WrI w0 b l bad w) :
    Calls Tryd.prog 61 #[.pointer (some ⟨b, 0, none⟩), .int .i64 x, .int .i64 y] w fun e w' => e = .returned (.tuple #[]) ∧ WrI w0 b (l ++ hvL x y) (bad || hvB x y) w' ∧ KeepW w w' :=
  (whalves_walk _ b l x y bad w hl h.wt).mono fun _ _ ⟨h1, h2, h3, h4⟩ => ⟨h1, ⟨h2, h.be.trans h3⟩, h4⟩
theorem hvL_len (x y : Int) : (hvL x y).length ≤ 1 := putL_len _ _
set_option maxHeartbeats 2000000 in
theorem wframe_walk (w0 : World) (base b : Nat) (c h ww : Int) (A : Option Addr) (cp : Nat) (L : List Pt) (l : List UInt8) (bad : Bool) (w : World) (hO : OwnC Pt.cells 4 w0 base 150 (.slice A L.length cp) L) (hL : L.length ≤ 1000000) (hl : l.length ≤ 1000000) (hW : WrI w0 b l bad w) :
    Calls Tryd.prog 47 #[.pointer (some ⟨b, 0, none⟩), .agg #[.int .i64 c, .int .i64 h, .int .i64 ww, .slice A L.length cp]] w fun e w' => e = .returned (.tuple #[]) ∧ WrI w0 b (l ++ frW h ww L) (bad || frB h ww L) w' := by
  have HO := Lib.hid hO; clear hO
  have HI0 := Lib.hid (hW.alloc (.cells #[.int .i64 c, .int .i64 h, .int .i64 ww, .slice A L.length cp] 123)); clear hW
  have HF0 : Hid (Blk (w.alloc (.cells #[.int .i64 c, .int .i64 h, .int .i64 ww, .slice A L.length cp] 123)) w.heap.size 123 #[.int .i64 c, .int .i64 h, .int .i64 ww, .slice A L.length cp]) := Lib.hid (Blk.new _ _ _)
  obtain ⟨l1, hl1⟩ : ∃ x, x = l ++ putL (8) 1 := ⟨_, rfl⟩
  have z1 : l1.length ≤ l.length + 1 := by rw [hl1, List.length_append]; have := putL_len (8) 1; omega
  obtain ⟨b1, hb1⟩ : ∃ x, x = (bad || putB (8) 1) := ⟨_, rfl⟩
  obtain ⟨l2, hl2⟩ : ∃ x, x = l1 ++ putL (h) 2 := ⟨_, rfl⟩
  have z2 : l2.length ≤ l1.length + 2 := by rw [hl2, List.length_append]; have := putL_len (h) 2; omega
  obtain ⟨b2, hb2⟩ : ∃ x, x = (b1 || putB (h) 2) := ⟨_, rfl⟩
  obtain ⟨l3, hl3⟩ : ∃ x, x = l2 ++ putL (ww) 2 := ⟨_, rfl⟩
  have z3 : l3.length ≤ l2.length + 2 := by rw [hl3, List.length_append]; have := putL_len (ww) 2; omega
  obtain ⟨b3, hb3⟩ : ∃ x, x = (b2 || putB (ww) 2) := ⟨_, rfl⟩
  obtain ⟨l4, hl4⟩ : ∃ x, x = l3 ++ putL ((L.length : Int)) 1 := ⟨_, rfl⟩
  have z4 : l4.length ≤ l3.length + 1 := by rw [hl4, List.length_append]; have := putL_len ((L.length : Int)) 1; omega
  obtain ⟨b4, hb4⟩ : ∃ x, x = (b3 || putB ((L.length : Int)) 1) := ⟨_, rfl⟩
  have hfin : l ++ frW h ww L = l4 ++ catW ptW L := by rw [hl4, hl3, hl2, hl1, frW]; simp only [List.append_assoc]
  have hfib : (bad || frB h ww L) = (b4 || L.any ptB) := by rw [hb4, hb3, hb2, hb1, frB, show putB 8 1 = false by decide]; simp only [Bool.or_false, Bool.or_assoc]
  rw [hfin, hfib]
  have HL1 := Lib.hid hl1; have HB1 := Lib.hid hb1; have HL2 := Lib.hid hl2; have HB2 := Lib.hid hb2; have HL3 := Lib.hid hl3; have HB3 := Lib.hid hb3; have HL4 := Lib.hid hl4; have HB4 := Lib.hid hb4
  clear hl1 hb1 hl2 hb2 hl3 hb3 hl4 hb4 hfin hfib
  go_enter Tryd.func47, Tryd.ntmps47
  go_wp2_with fail
  refine (wnumI w0 b _ (8) 1 (by decide) (by decide) _ _ (by omega) HI0.out).mono ?_
  rintro ex w1 ⟨rfl, h1, k1⟩
  rw [← HL1.out, ← HB1.out] at h1
  have HI1 := Lib.hid h1
  have HF1 := Lib.hid (k1 _ _ _ (by decide) (by decide) HF0.out)
  clear h1 k1
  have c1 : w1.cell? ⟨w.heap.size, 1, none⟩ = some (.int .i64 h) := HF1.out.cell 1
  go_wp2_with fail
  refine (wnumI w0 b _ (h) 2 (by decide) (by decide) _ _ (by omega) HI1.out).mono ?_
  rintro ex w2 ⟨rfl, h2, k2⟩
  rw [← HL2.out, ← HB2.out] at h2
  have HI2 := Lib.hid h2
  have HF2 := Lib.hid (k2 _ _ _ (by decide) (by decide) HF1.out)
  clear h2 k2
  clear c1
  have c1 : w2.cell? ⟨w.heap.size, 2, none⟩ = some (.int .i64 ww) := HF2.out.cell 2
  go_wp2_with fail
  refine (wnumI w0 b _ (ww) 2 (by decide) (by decide) _ _ (by omega) HI2.out).mono ?_
  rintro ex w3 ⟨rfl, h3, k3⟩
  rw [← HL3.out, ← HB3.out] at h3
  have HI3 := Lib.hid h3
  have HF3 := Lib.hid (k3 _ _ _ (by decide) (by decide) HF2.out)
  clear h3 k3
  clear c1
  have c1 : w3.cell? ⟨w.heap.size, 3, none⟩ = some (.slice A L.length cp) := HF3.out.cell 3
  go_wp2_with fail
  refine (wnumI w0 b _ ((L.length : Int)) 1 (by decide) (by decide) _ _ (by omega) HI3.out).mono ?_
  rintro ex w4 ⟨rfl, h4, k4⟩
  rw [← HL4.out, ← HB4.out] at h4
  have HI4 := Lib.hid h4
  have HF4 := Lib.hid (k4 _ _ _ (by decide) (by decide) HF3.out)
  clear h4 k4
  clear c1
  have c1 : w4.cell? ⟨w.heap.size, 3, none⟩ = some (.slice A L.length cp) := HF4.out.cell 3
  go_wp2_with fail
  clear c1
  go_loopw [24] (fun i wr => ∃ k : Nat, k ≤ L.length ∧ i = .int .i64 k ∧ Hid (WrI w0 b (l4 ++ catW ptW (L.take k)) (b4 || (L.take k).any ptB) wr)) (fun i _ => L.length - (intOf i).toNat)
  case atStart => exact ⟨0, by omega, rfl, Lib.hid (by simpa [catW] using HI4.out)⟩
  case round =>
    obtain ⟨k, hk, rfl, HIk⟩ := hrel
    by_cases hkl : k < L.length
    case neg =>
      obtain rfl : k = L.length := by omega
      go_wp2_with fail
      go_end0
      exact ⟨rfl, by have := HIk.out; rwa [List.take_length] at this⟩
    case pos =>
    obtain ⟨g5, rfl, hg5, hg5', hcl⟩ := (HO.out.bel (HIk.out.be)).at_ Pt.is hkl
    obtain ⟨p, hp⟩ : ∃ p, p = L[k] := ⟨_, rfl⟩
    rw [← hp] at hcl
    have q0 : wr.cell? ⟨g5, k * 4, none⟩ = some (.int .i64 p.id) := hcl 0 (by decide)
    have q1 : wr.cell? ⟨g5, k * 4 + 1, none⟩ = some (.int .i64 p.h) := hcl 1 (by decide)
    have q2 : wr.cell? ⟨g5, k * 4 + 2, none⟩ = some (.int .i64 p.v) := hcl 2 (by decide)
    have q3 : wr.cell? ⟨g5, k * 4 + 3, none⟩ = some (.int .i64 p.q) := hcl 3 (by decide)
    have hlen := catW_tlen ptW 3 ptW_len L k
    obtain ⟨l10, hl10⟩ : ∃ x, x = l4 ++ catW ptW (L.take k) := ⟨_, rfl⟩
    obtain ⟨b10, hb10⟩ : ∃ x, x = (b4 || (L.take k).any ptB) := ⟨_, rfl⟩
    have z10 : l10.length ≤ 5000000 := by rw [hl10, List.length_append]; omega
    obtain ⟨l11, hl11⟩ : ∃ x, x = l10 ++ putL (p.id) 1 := ⟨_, rfl⟩
    have z11 : l11.length ≤ l10.length + 1 := by rw [hl11, List.length_append]; have := putL_len (p.id) 1; omega
    obtain ⟨b11, hb11⟩ : ∃ x, x = (b10 || putB (p.id) 1) := ⟨_, rfl⟩
    obtain ⟨l12, hl12⟩ : ∃ x, x = l11 ++ hvL (p.h) (p.v) := ⟨_, rfl⟩
    have z12 : l12.length ≤ l11.length + 1 := by rw [hl12, List.length_append]; have := hvL_len (p.h) (p.v); omega
    obtain ⟨b12, hb12⟩ : ∃ x, x = (b11 || hvB (p.h) (p.v)) := ⟨_, rfl⟩
    obtain ⟨l13, hl13⟩ : ∃ x, x = l12 ++ putL (p.q) 1 := ⟨_, rfl⟩
    have z13 : l13.length ≤ l12.length + 1 := by rw [hl13, List.length_append]; have := putL_len (p.q) 1; omega
    obtain ⟨b13, hb13⟩ : ∃ x, x = (b12 || putB (p.q) 1) := ⟨_, rfl⟩
    have hfin : l4 ++ catW ptW (L.take (k + 1)) = l13 := by rw [catW_next ptW L k hkl, ← hp, hl13, hl12, hl11, hl10, ptW]; simp only [List.append_assoc]
    have hfib : (b4 || (L.take (k + 1)).any ptB) = b13 := by rw [any_next ptB L k hkl, ← hp, hb13, hb12, hb11, hb10, ptB]; simp only [Bool.or_assoc]
    rw [← hl10, ← hb10] at HIk
    have HFIN := Lib.hid hfin; have HFIB := Lib.hid hfib
    have HL11 := Lib.hid hl11; have HB11 := Lib.hid hb11; have HL12 := Lib.hid hl12; have HB12 := Lib.hid hb12; have HL13 := Lib.hid hl13; have HB13 := Lib.hid hb13
    clear hl11 hb11 hl12 hb12 hl13 hb13 hfin hfib hl10 hb10 hp hcl hlen
    have HI10 := Lib.hid (HIk.out.alloc (.cells #[.int .i64 p.id, .int .i64 p.h, .int .i64 p.v, .int .i64 p.q] 150))
    have HF10 : Hid (Blk (wr.alloc (.cells #[.int .i64 p.id, .int .i64 p.h, .int .i64 p.v, .int .i64 p.q] 150)) wr.heap.size 150 #[.int .i64 p.id, .int .i64 p.h, .int .i64 p.v, .int .i64 p.q]) := Lib.hid (Blk.new _ _ _)
    go_wp2_with fail
    refine (wnumI w0 b _ (p.id) 1 (by decide) (by decide) _ _ (by omega) HI10.out).mono ?_
    rintro ex w11 ⟨rfl, h11, k11⟩
    rw [← HL11.out, ← HB11.out] at h11
    have HI11 := Lib.hid h11
    have HF11 := Lib.hid (k11 _ _ _ (by decide) (by decide) HF10.out)
    clear h11 k11
    clear q0 q1 q2 q3
    have c1 : w11.cell? ⟨wr.heap.size, 1, none⟩ = some (.int .i64 p.h) := HF11.out.cell 1
    have c2 : w11.cell? ⟨wr.heap.size, 2, none⟩ = some (.int .i64 p.v) := HF11.out.cell 2
    go_wp2_with fail
    refine (whalvesI w0 b _ (p.h) (p.v) _ _ (by omega) HI11.out).mono ?_
    rintro ex w12 ⟨rfl, h12, k12⟩
    rw [← HL12.out, ← HB12.out] at h12
    have HI12 := Lib.hid h12
    have HF12 := Lib.hid (k12 _ _ _ (by decide) (by decide) HF11.out)
    clear h12 k12
    clear c1 c2
    have c1 : w12.cell? ⟨wr.heap.size, 3, none⟩ = some (.int .i64 p.q) := HF12.out.cell 3
    go_wp2_with fail
    refine (wnumI w0 b _ (p.q) 1 (by decide) (by decide) _ _ (by omega) HI12.out).mono ?_
    rintro ex w13 ⟨rfl, h13, k13⟩
    rw [← HL13.out, ← HB13.out] at h13
    have HI13 := Lib.hid h13
    have HF13 := Lib.hid (k13 _ _ _ (by decide) (by decide) HF12.out)
    clear h13 k13
    clear c1
    go_wp2_with fail
    go_roundw
    case rel => exact ⟨k + 1, by omega, by go_num, by rw [HFIN.out, HFIB.out]; exact HI13⟩
    case measure => simp [intOf]; omega
set_option maxHeartbeats 2000000 in
theorem wscan_walk (w0 : World) (base b : Nat) (x1 x2 x3 x4 : Int) (A : Option Addr) (cp : Nat) (L : List Pk) (l : List UInt8) (bad : Bool) (w : World) (hO : OwnC Pk.cells 3 w0 base 146 (.slice A L.length cp) L) (hL : L.length ≤ 1000000) (hl : l.length ≤ 1000000) (hW : WrI w0 b l bad w) :
    Calls Tryd.prog 48 #[.pointer (some ⟨b, 0, none⟩), .agg #[.slice A L.length cp, .int .i64 x1, .int .i64 x2, .int .i64 x3, .int .i64 x4]] w fun e w' => e = .returned (.tuple #[]) ∧ WrI w0 b (l ++ scW L x1 x2 x3 x4) (bad || scB L x1 x2 x3 x4) w' := by
  have HO := Lib.hid hO; clear hO
  have HI0 := Lib.hid (hW.alloc (.cells #[.slice A L.length cp, .int .i64 x1, .int .i64 x2, .int .i64 x3, .int .i64 x4] 105)); clear hW
  have HF0 : Hid (Blk (w.alloc (.cells #[.slice A L.length cp, .int .i64 x1, .int .i64 x2, .int .i64 x3, .int .i64 x4] 105)) w.heap.size 105 #[.slice A L.length cp, .int .i64 x1, .int .i64 x2, .int .i64 x3, .int .i64 x4]) := Lib.hid (Blk.new _ _ _)
  obtain ⟨l1, hl1⟩ : ∃ x, x = l ++ putL ((L.length : Int)) 1 := ⟨_, rfl⟩
  have z1 : l1.length ≤ l.length + 1 := by rw [hl1, List.length_append]; have := putL_len ((L.length : Int)) 1; omega
  obtain ⟨b1, hb1⟩ : ∃ x, x = (bad || putB ((L.length : Int)) 1) := ⟨_, rfl⟩
  obtain ⟨l20, hl20⟩ : ∃ x, x = l1 ++ catW pkW L := ⟨_, rfl⟩
  obtain ⟨b20, hb20⟩ : ∃ x, x = (b1 || L.any pkB) := ⟨_, rfl⟩
  have z20 : l20.length ≤ 5000000 := by rw [hl20, List.length_append]; have := catW_len pkW 2 pkW_len L; omega
  obtain ⟨l21, hl21⟩ : ∃ x, x = l20 ++ putL (x1) 1 := ⟨_, rfl⟩
  have z21 : l21.length ≤ l20.length + 1 := by rw [hl21, List.length_append]; have := putL_len (x1) 1; omega
  obtain ⟨b21, hb21⟩ : ∃ x, x = (b20 || putB (x1) 1) := ⟨_, rfl⟩
  obtain ⟨l22, hl22⟩ : ∃ x, x = l21 ++ putL (x2) 1 := ⟨_, rfl⟩
  have z22 : l22.length ≤ l21.length + 1 := by rw [hl22, List.length_append]; have := putL_len (x2) 1; omega
  obtain ⟨b22, hb22⟩ : ∃ x, x = (b21 || putB (x2) 1) := ⟨_, rfl⟩
  obtain ⟨l23, hl23⟩ : ∃ x, x = l22 ++ hvL (x3) (x4) := ⟨_, rfl⟩
  have z23 : l23.length ≤ l22.length + 1 := by rw [hl23, List.length_append]; have := hvL_len (x3) (x4); omega
  obtain ⟨b23, hb23⟩ : ∃ x, x = (b22 || hvB (x3) (x4)) := ⟨_, rfl⟩
  have hfin : l ++ scW L x1 x2 x3 x4 = l23 := by rw [hl23, hl22, hl21, hl20, hl1, scW]; simp only [List.append_assoc]
  have hfib : (bad || scB L x1 x2 x3 x4) = b23 := by rw [hb23, hb22, hb21, hb20, hb1, scB]; simp only [Bool.or_assoc]
  rw [hfin, hfib]
  have HL20 := Lib.hid hl20; have HB20 := Lib.hid hb20
  have HL1 := Lib.hid hl1; have HB1 := Lib.hid hb1
  clear hl1 hb1
  have HL21 := Lib.hid hl21; have HB21 := Lib.hid hb21; have HL22 := Lib.hid hl22; have HB22 := Lib.hid hb22; have HL23 := Lib.hid hl23; have HB23 := Lib.hid hb23
  clear hl21 hb21 hl22 hb22 hl23 hb23 hfin hfib hl20 hb20
  go_enter Tryd.func48, Tryd.ntmps48
  go_wp2_with fail
  refine (wnumI w0 b _ ((L.length : Int)) 1 (by decide) (by decide) _ _ (by omega) HI0.out).mono ?_
  rintro ex w1 ⟨rfl, h1, k1⟩
  rw [← HL1.out, ← HB1.out] at h1
  have HI1 := Lib.hid h1
  have HF1 := Lib.hid (k1 _ _ _ (by decide) (by decide) HF0.out)
  clear h1 k1
  have c1 : w1.cell? ⟨w.heap.size, 0, none⟩ = some (.slice A L.length cp) := HF1.out.cell 0
  go_wp2_with fail
  clear c1
  go_loopw [14] (fun i wr => ∃ k : Nat, k ≤ L.length ∧ i = .int .i64 k ∧ Hid (WrI w0 b (l1 ++ catW pkW (L.take k)) (b1 || (L.take k).any pkB) wr) ∧ Hid (Blk wr w.heap.size 105 #[.slice A L.length cp, .int .i64 x1, .int .i64 x2, .int .i64 x3, .int .i64 x4])) (fun i _ => L.length - (intOf i).toNat)
  case atStart => exact ⟨0, by omega, rfl, Lib.hid (by simpa [catW] using HI1.out), HF1⟩
  case round =>
    obtain ⟨k, hk, rfl, HIk, HFk⟩ := hrel
    by_cases hkl : k < L.length
    case neg =>
      obtain rfl : k = L.length := by omega
      rw [List.take_length, ← HL20.out, ← HB20.out] at HIk
      have HI20 := HIk; have HF20 := HFk
      have c1 : wr.cell? ⟨w.heap.size, 1, none⟩ = some (.int .i64 x1) := HF20.out.cell 1
      go_wp2_with fail
      refine (wnumI w0 b _ (x1) 1 (by decide) (by decide) _ _ (by omega) HI20.out).mono ?_
      rintro ex w21 ⟨rfl, h21, k21⟩
      rw [← HL21.out, ← HB21.out] at h21
      have HI21 := Lib.hid h21
      have HF21 := Lib.hid (k21 _ _ _ (by decide) (by decide) HF20.out)
      clear h21 k21
      clear c1
      have c1 : w21.cell? ⟨w.heap.size, 2, none⟩ = some (.int .i64 x2) := HF21.out.cell 2
      go_wp2_with fail
      refine (wnumI w0 b _ (x2) 1 (by decide) (by decide) _ _ (by omega) HI21.out).mono ?_
      rintro ex w22 ⟨rfl, h22, k22⟩
      rw [← HL22.out, ← HB22.out] at h22
      have HI22 := Lib.hid h22
      have HF22 := Lib.hid (k22 _ _ _ (by decide) (by decide) HF21.out)
      clear h22 k22
      clear c1
      have c1 : w22.cell? ⟨w.heap.size, 3, none⟩ = some (.int .i64 x3) := HF22.out.cell 3
      have c2 : w22.cell? ⟨w.heap.size, 4, none⟩ = some (.int .i64 x4) := HF22.out.cell 4
      go_wp2_with fail
      refine (whalvesI w0 b _ (x3) (x4) _ _ (by omega) HI22.out).mono ?_
      rintro ex w23 ⟨rfl, h23, k23⟩
      rw [← HL23.out, ← HB23.out] at h23
      have HI23 := Lib.hid h23
      have HF23 := Lib.hid (k23 _ _ _ (by decide) (by decide) HF22.out)
      clear h23 k23
      clear c1 c2
      go_wp2_with fail
      go_end0
      exact ⟨rfl, HI23.out⟩
    case pos =>
    obtain ⟨g5, rfl, hg5, hg5', hcl⟩ := (HO.out.bel (HIk.out.be)).at_ Pk.is hkl
    obtain ⟨p, hp⟩ : ∃ p, p = L[k] := ⟨_, rfl⟩
    rw [← hp] at hcl
    have q0 : wr.cell? ⟨g5, k * 3, none⟩ = some (.int .i64 p.id) := hcl 0 (by decide)
    have q1 : wr.cell? ⟨g5, k * 3 + 1, none⟩ = some (.int .i64 p.dc) := hcl 1 (by decide)
    have q2 : wr.cell? ⟨g5, k * 3 + 2, none⟩ = some (.int .i64 p.ac) := hcl 2 (by decide)
    have hlen := catW_tlen pkW 2 pkW_len L k
    obtain ⟨l10, hl10⟩ : ∃ x, x = l1 ++ catW pkW (L.take k) := ⟨_, rfl⟩
    obtain ⟨b10, hb10⟩ : ∃ x, x = (b1 || (L.take k).any pkB) := ⟨_, rfl⟩
    have z10 : l10.length ≤ 5000000 := by rw [hl10, List.length_append]; omega
    obtain ⟨l11, hl11⟩ : ∃ x, x = l10 ++ putL (p.id) 1 := ⟨_, rfl⟩
    have z11 : l11.length ≤ l10.length + 1 := by rw [hl11, List.length_append]; have := putL_len (p.id) 1; omega
    obtain ⟨b11, hb11⟩ : ∃ x, x = (b10 || putB (p.id) 1) := ⟨_, rfl⟩
    obtain ⟨l12, hl12⟩ : ∃ x, x = l11 ++ hvL (p.dc) (p.ac) := ⟨_, rfl⟩
    have z12 : l12.length ≤ l11.length + 1 := by rw [hl12, List.length_append]; have := hvL_len (p.dc) (p.ac); omega
    obtain ⟨b12, hb12⟩ : ∃ x, x = (b11 || hvB (p.dc) (p.ac)) := ⟨_, rfl⟩
    have hfin : l1 ++ catW pkW (L.take (k + 1)) = l12 := by rw [catW_next pkW L k hkl, ← hp, hl12, hl11, hl10, pkW]; simp only [List.append_assoc]
    have hfib : (b1 || (L.take (k + 1)).any pkB) = b12 := by rw [any_next pkB L k hkl, ← hp, hb12, hb11, hb10, pkB]; simp only [Bool.or_assoc]
    rw [← hl10, ← hb10] at HIk
    have HFIN := Lib.hid hfin; have HFIB := Lib.hid hfib
    have HL11 := Lib.hid hl11; have HB11 := Lib.hid hb11; have HL12 := Lib.hid hl12; have HB12 := Lib.hid hb12
    clear hl11 hb11 hl12 hb12 hfin hfib hl10 hb10 hp hcl hlen
    have HI10 := Lib.hid (HIk.out.alloc (.cells #[.int .i64 p.id, .int .i64 p.dc, .int .i64 p.ac] 146))
    have HF10 : Hid (Blk (wr.alloc (.cells #[.int .i64 p.id, .int .i64 p.dc, .int .i64 p.ac] 146)) wr.heap.size 146 #[.int .i64 p.id, .int .i64 p.dc, .int .i64 p.ac]) := Lib.hid (Blk.new _ _ _)
    have HS10 := Lib.hid (HFk.out.alloc (.cells #[.int .i64 p.id, .int .i64 p.dc, .int .i64 p.ac] 146))
    go_wp2_with fail
    refine (wnumI w0 b _ (p.id) 1 (by decide) (by decide) _ _ (by omega) HI10.out).mono ?_
    rintro ex w11 ⟨rfl, h11, k11⟩
    rw [← HL11.out, ← HB11.out] at h11
    have HI11 := Lib.hid h11
    have HF11 := Lib.hid (k11 _ _ _ (by decide) (by decide) HF10.out)
    have HS11 := Lib.hid (k11 _ _ _ (by decide) (by decide) HS10.out)
    clear h11 k11 q0 q1 q2
    have c1 : w11.cell? ⟨wr.heap.size, 1, none⟩ = some (.int .i64 p.dc) := HF11.out.cell 1
    have c2 : w11.cell? ⟨wr.heap.size, 2, none⟩ = some (.int .i64 p.ac) := HF11.out.cell 2
    go_wp2_with fail
    refine (whalvesI w0 b _ (p.dc) (p.ac) _ _ (by omega) HI11.out).mono ?_
    rintro ex w12 ⟨rfl, h12, k12⟩
    rw [← HL12.out, ← HB12.out] at h12
    have HI12 := Lib.hid h12
    have HS12 := Lib.hid (k12 _ _ _ (by decide) (by decide) HS11.out)
    clear h12 k12 c1 c2
    go_wp2_with fail
    go_roundw
    case rel => exact ⟨k + 1, by omega, by go_num, by rw [HFIN.out, HFIB.out]; exact HI12, HS12⟩
    case measure => simp [intOf]; omega
end Go.Proofs.YthibnhgbgmpjoaaDoor
