/- IsFrame, IsScan, IsTag, MustFrame, of each kind of segment (gen_segq.py). -/
import Derived.Test.YthibnhgbgmpjoaaDoorHSegH
import Derived.Handy
import Derived.Test.YthibnhgbgmpjoaaDoorHMkE
import Derived.Test.YthibnhgbgmpjoaaDoorHGG
namespace Go.Proofs.YthibnhgbgmpjoaaDoor
open Go.RowKit
set_option linter.unusedSimpArgs false
set_option linter.unusedVariables false
set_option maxRecDepth 100000
theorem isTag_Plain (c : Int) (b : ByteArray) (w : World) : Calls Tryd.prog 18 #[.iface 97 (.agg #[.int .i64 c, .string b])] w fun e w' => e = .returned (.tuple #[.agg #[.int .i64 c, .string b], .bool true]) ∧ Below w.heap.size w w' := by
  go_enter Tryd.func18, Tryd.ntmps18
  go_wp2
  refine bodyPost_ret (v := .tuple #[.agg #[.int .i64 c, .string b], .bool true]) (by simp [results, Tryd.results18, go_sem]) rfl ⟨rfl, ?_⟩
  first | exact below2 _ _ _ | (have h1 := below2 w _ _; exact h1.setCell (by simp) _)
theorem isTag_Quants (u : Value) (w : World) : Calls Tryd.prog 18 #[.iface 115 (.agg #[u])] w fun e w' => e = .returned (.tuple #[.agg #[.int .i64 0, .string ByteArray.empty], .bool false]) ∧ Below w.heap.size w w' := by
  go_enter Tryd.func18, Tryd.ntmps18
  go_wp2
  refine bodyPost_ret (v := .tuple #[.agg #[.int .i64 0, .string ByteArray.empty], .bool false]) (by simp [results, Tryd.results18, go_sem]) rfl ⟨rfl, ?_⟩
  first | exact below2 _ _ _ | (have h1 := below2 w _ _; exact h1.setCell (by simp) _)
theorem isTag_Huffs (u : Value) (w : World) : Calls Tryd.prog 18 #[.iface 119 (.agg #[u])] w fun e w' => e = .returned (.tuple #[.agg #[.int .i64 0, .string ByteArray.empty], .bool false]) ∧ Below w.heap.size w w' := by
  go_enter Tryd.func18, Tryd.ntmps18
  go_wp2
  refine bodyPost_ret (v := .tuple #[.agg #[.int .i64 0, .string ByteArray.empty], .bool false]) (by simp [results, Tryd.results18, go_sem]) rfl ⟨rfl, ?_⟩
  first | exact below2 _ _ _ | (have h1 := below2 w _ _; exact h1.setCell (by simp) _)
theorem isTag_Frame (c h ww : Int) (A : Option Addr) (n cp : Nat) (w : World) : Calls Tryd.prog 18 #[.iface 123 (.agg #[.int .i64 c, .int .i64 h, .int .i64 ww, .slice A n cp])] w fun e w' => e = .returned (.tuple #[.agg #[.int .i64 0, .string ByteArray.empty], .bool false]) ∧ Below w.heap.size w w' := by
  go_enter Tryd.func18, Tryd.ntmps18
  go_wp2
  refine bodyPost_ret (v := .tuple #[.agg #[.int .i64 0, .string ByteArray.empty], .bool false]) (by simp [results, Tryd.results18, go_sem]) rfl ⟨rfl, ?_⟩
  first | exact below2 _ _ _ | (have h1 := below2 w _ _; exact h1.setCell (by simp) _)
theorem isTag_Scan (A : Option Addr) (n cp : Nat) (x1 x2 x3 x4 : Int) (w : World) : Calls Tryd.prog 18 #[.iface 105 (.agg #[.slice A n cp, .int .i64 x1, .int .i64 x2, .int .i64 x3, .int .i64 x4])] w fun e w' => e = .returned (.tuple #[.agg #[.int .i64 0, .string ByteArray.empty], .bool false]) ∧ Below w.heap.size w w' := by
  go_enter Tryd.func18, Tryd.ntmps18
  go_wp2
  refine bodyPost_ret (v := .tuple #[.agg #[.int .i64 0, .string ByteArray.empty], .bool false]) (by simp [results, Tryd.results18, go_sem]) rfl ⟨rfl, ?_⟩
  first | exact below2 _ _ _ | (have h1 := below2 w _ _; exact h1.setCell (by simp) _)
theorem isTag_Restart (n : Int) (w : World) : Calls Tryd.prog 18 #[.iface 94 (.agg #[.int .i64 n])] w fun e w' => e = .returned (.tuple #[.agg #[.int .i64 0, .string ByteArray.empty], .bool false]) ∧ Below w.heap.size w w' := by
  go_enter Tryd.func18, Tryd.ntmps18
  go_wp2
  refine bodyPost_ret (v := .tuple #[.agg #[.int .i64 0, .string ByteArray.empty], .bool false]) (by simp [results, Tryd.results18, go_sem]) rfl ⟨rfl, ?_⟩
  first | exact below2 _ _ _ | (have h1 := below2 w _ _; exact h1.setCell (by simp) _)
theorem isTag_Nil  (w : World) : Calls Tryd.prog 18 #[.nilIface] w fun e w' => e = .returned (.tuple #[.agg #[.int .i64 0, .string ByteArray.empty], .bool false]) ∧ Below w.heap.size w w' := by
  go_enter Tryd.func18, Tryd.ntmps18
  go_wp2
  refine bodyPost_ret (v := .tuple #[.agg #[.int .i64 0, .string ByteArray.empty], .bool false]) (by simp [results, Tryd.results18, go_sem]) rfl ⟨rfl, ?_⟩
  first | exact below2 _ _ _ | (have h1 := below2 w _ _; exact h1.setCell (by simp) _)
end Go.Proofs.YthibnhgbgmpjoaaDoor
namespace Go.Proofs.YthibnhgbgmpjoaaDoor
open Go.RowKit
set_option linter.unusedSimpArgs false
set_option linter.unusedVariables false
set_option maxRecDepth 100000
theorem ext2 {s : ByteArray} (h : 2 ≤ s.size) : ((s.extract 0 2).toList == [255, 216]) = decide (bAt s 0 = 255 ∧ bAt s 1 = 216) := by
  have hl : (s.extract 0 2).data.toList = [s[0]'(by omega), s[1]'(by omega)] := by rw [bs_ext, bs_cons (by omega) (by omega), bs_cons (by omega) (by omega), bs_nil]
  rw [ByteArray.toList_eq, hl, Bool.eq_iff_iff, beq_iff_eq, decide_eq_true_eq, bAt_in (by omega), bAt_in (by omega)]
  simp only [List.cons.injEq, and_true]
  constructor
  · intro ⟨h1, h2⟩
    rw [h1, h2]
    decide
  · intro ⟨h1, h2⟩
    have e0 : s[0]'(by omega) = 255 := UInt8.toNat_inj.1 (by have h3 : (s[0]'(by omega)).toNat = 255 := by omega
                                                             rw [h3]; rfl)
    have e1 : s[1]'(by omega) = 216 := UInt8.toNat_inj.1 (by have h3 : (s[1]'(by omega)).toNat = 216 := by omega
                                                             rw [h3]; rfl)
    exact ⟨e0, e1⟩
theorem pre1_walk (s : ByteArray) (hs : s.size ≤ 16777216) (w : World) :
    Calls Tryd.prog 36 #[.string s, .string ⟨#[255, 216]⟩] w fun e w' => e = .returned (.bool (decide (2 ≤ s.size ∧ bAt s 0 = 255 ∧ bAt s 1 = 216))) ∧ w = w' := by
  by_cases h2 : 2 ≤ s.size
  · have hx := ext2 h2
    obtain ⟨r, hr⟩ : ∃ r, r = ((s.extract 0 2).toList == [255, 216]) := ⟨_, rfl⟩
    have he : decide (2 ≤ s.size ∧ bAt s 0 = 255 ∧ bAt s 1 = 216) = r := by rw [hr, hx]; simp [h2]
    rw [he]
    have hr2 : ((s.extract 0 2).toList == [255, 216]) = r := hr.symm
    clear hx he hr
    go_enter Tryd.func36, Tryd.ntmps36
    go_wp2_with fail
    go_ret
    exact ⟨by first | rfl | (rw [← hr2]; rfl), rfl⟩
  · have he : decide (2 ≤ s.size ∧ bAt s 0 = 255 ∧ bAt s 1 = 216) = false := decide_eq_false (fun h => h2 h.1)
    rw [he]
    clear he
    go_enter Tryd.func36, Tryd.ntmps36
    go_wp2_with fail
    go_ret
    exact ⟨rfl, rfl⟩
theorem pre_walk (s : ByteArray) (hs : s.size ≤ 16777216) (w : World) :
    Calls Tryd.prog 16 #[.string s, .string ⟨#[255, 216]⟩] w fun e w' => e = .returned (.bool (decide (2 ≤ s.size ∧ bAt s 0 = 255 ∧ bAt s 1 = 216))) ∧ w = w' := by
  have H := Lib.hid (fun W => pre1_walk s hs W)
  obtain ⟨d, hd⟩ : ∃ d, d = decide (2 ≤ s.size ∧ bAt s 0 = 255 ∧ bAt s 1 = 216) := ⟨_, rfl⟩
  rw [← hd] at H ⊢
  clear hd
  go_enter Tryd.func16, Tryd.ntmps16
  go_wp2_with (go_at_call 36; refine (H.out _).mono ?_; rintro e w' ⟨rfl, rfl⟩)
  go_ret
  exact ⟨rfl, rfl⟩
def SplitFPost (w : World) (R : List Pc × Nat × Int) (e : Ending) (w' : World) : Prop :=
  ∃ v l, e = .returned (.tuple #[v, .int .i64 R.2.1, .int .i64 R.2.2]) ∧ OwnC Pv.cells 3 w' w.heap.size 48 v l ∧ PcV w' w.heap.size l R.1 ∧ Below w.heap.size w w'
set_option maxHeartbeats 1000000 in
theorem splitF_walk (s : ByteArray) (w : World) (hL : Laid w) : Calls Tryd.prog 8 #[.string s] w (SplitFPost w (spF s)) := by
  obtain ⟨R, hR⟩ : ∃ R, R = spF s := ⟨_, rfl⟩
  rw [← hR]
  unfold spF at hR
  by_cases h1 : 16777216 < s.size
  case pos =>
    rw [if_pos h1] at hR
    subst hR
    go_enter Tryd.func8, Tryd.ntmps8
    go_wp2_with fail
    go_ret3
    exact ⟨_, [], rfl, OwnC.nil _ _ _, PcV.nil _ _, Below.refl _ _⟩
  case neg =>
  rw [if_neg h1] at hR
  have hs : s.size ≤ 16777216 := by omega
  have HPRE := Lib.hid (fun W => pre_walk s hs W)
  by_cases h2 : s.size < 2 ∨ bAt s 0 ≠ 255 ∨ bAt s 1 ≠ 216
  case pos =>
    rw [if_pos h2] at hR
    have hd : decide (2 ≤ s.size ∧ bAt s 0 = 255 ∧ bAt s 1 = 216) = false := decide_eq_false (by omega)
    rw [hd] at HPRE
    clear hd h2
    subst hR
    go_enter Tryd.func8, Tryd.ntmps8
    go_wp2_with (go_at_call 16; refine (HPRE.out _).mono ?_; rintro e w' ⟨rfl, rfl⟩)
    go_ret3
    exact ⟨_, [], rfl, OwnC.nil _ _ _, PcV.nil _ _, Below.refl _ _⟩
  case neg =>
  rw [if_neg h2] at hR
  have hd : decide (2 ≤ s.size ∧ bAt s 0 = 255 ∧ bAt s 1 = 216) = true := decide_eq_true (by omega)
  rw [hd] at HPRE
  have hsp := split_walk s hs (by omega) w hL
  rw [← hR] at hsp
  have HSP := Lib.hid hsp
  obtain ⟨m, b, e2⟩ := R
  clear hd h2 hR hsp
  go_enter Tryd.func8, Tryd.ntmps8
  go_upto_region 6 with (first | (go_at_call 16; refine (HPRE.out _).mono ?_; rintro e w' ⟨rfl, rfl⟩) | (go_at_call 17; refine (HSP.out).mono ?_; rintro e w2 ⟨v, l, rfl, hO, hP, hb⟩; have HO := Lib.hid hO; have HP := Lib.hid hP; have HB2 := Lib.hid hb; clear hO hP hb))
  have HK5 : Hid (Blk (w2.alloc (.cells #[.int .i64 b, .int .i64 e2] 60)) w2.heap.size 60 #[.int .i64 b, .int .i64 e2]) := Lib.hid (Blk.new _ _ _)
  have HB5 : Hid (Below w2.heap.size w2 (w2.alloc (.cells #[.int .i64 b, .int .i64 e2] 60))) := Lib.hid ((Below.refl _ _).alloc (Nat.le_refl _) _)
  try dsimp only
  obtain ⟨w5, hw5⟩ : ∃ w5, w5 = w2.alloc (.cells #[.int .i64 b, .int .i64 e2] 60) := ⟨_, rfl⟩
  rw [← hw5] at HK5 HB5 ⊢
  clear hw5
  refine region_plan (.run [0, 1, 2, 3, 4, 5, 6, 7] .fin) (fun w' => True) (by kernel_rfl) trivial ?_
  intro wd hwd
  have hbd : Below w5.heap.size w5 wd := hwd ▸ (Below.refl _ w5).drew
  have q0 : wd.cell? ⟨w2.heap.size, 0, none⟩ = some (.int .i64 b) := (hbd.cell (p := ⟨w2.heap.size, 0, none⟩) HK5.out.lt).trans (HK5.out.cell 0)
  have q1 : wd.cell? ⟨w2.heap.size, 1, none⟩ = some (.int .i64 e2) := (hbd.cell (p := ⟨w2.heap.size, 1, none⟩) HK5.out.lt).trans (HK5.out.cell 1)
  have HBD := Lib.hid hbd
  clear hbd
  clear hwd
  refine plan_run fun m hm => ?_
  simp only [pickO, List.filterMap_cons, List.filterMap_nil, List.getElem?_toArray, List.getElem?_cons_zero, List.getElem?_cons_succ] at hm
  subst hm
  go_wp2_with fail
  refine ⟨rfl, by rfl, ?_⟩
  refine plan_fin ?_
  go_wp2_with fail
  go_ret3
  exact ⟨v, l, rfl, (HO.out.bel HB5.out).bel HBD.out, (HP.out.bel HB5.out).bel HBD.out, HB2.out.trans ((HB5.out.trans (HBD.out.mono HB5.out.size)).mono HB2.out.size)⟩
/-- The tags of pieces. -/
def tgOf : Sg → Option (Int × ByteArray)
  | .plain c b => some (c, b)
  | _ => none
def tgs (m : List Pc) : List (Int × ByteArray) := m.filterMap fun p => tgOf p.x
def tgC (t : Int × ByteArray) : List Value := [.int .i64 t.1, .string t.2]
theorem tgIs : CellsOf tgC 2 := ⟨fun _ => rfl, fun x u hu => by simp only [tgC, List.mem_cons, List.not_mem_nil, or_false] at hu; rcases hu with rfl | rfl <;> rfl⟩
theorem SgV.isTag {w : World} {base : Nat} {v : Value} {x : Sg} (h : SgV w base v x) : ∃ (c : Int) (b : ByteArray) (ok : Bool), tgOf x = (if ok = true then some (c, b) else none) ∧ ∀ W, Calls Tryd.prog 18 #[v] W fun e w' => e = .returned (.tuple #[.agg #[.int .i64 c, .string b], .bool ok]) ∧ Below W.heap.size W w' := by
  cases x with
  | plain c b => cases h; exact ⟨c, b, true, rfl, fun W => isTag_Plain c b W⟩
  | quants l => obtain ⟨u, rfl, _⟩ := h; exact ⟨0, ByteArray.empty, false, rfl, fun W => isTag_Quants u W⟩
  | huffs l => obtain ⟨u, rfl, _⟩ := h; exact ⟨0, ByteArray.empty, false, rfl, fun W => isTag_Huffs u W⟩
  | frame c hh ww l => obtain ⟨u, rfl, hO⟩ := h; obtain ⟨A, n, cp, rfl⟩ := hO.form2; exact ⟨0, ByteArray.empty, false, rfl, fun W => isTag_Frame c hh ww A n cp W⟩
  | scan l a b hi lo => obtain ⟨u, rfl, hO⟩ := h; obtain ⟨A, n, cp, rfl⟩ := hO.form2; exact ⟨0, ByteArray.empty, false, rfl, fun W => isTag_Scan A n cp a b hi lo W⟩
  | rst n => cases h; exact ⟨0, ByteArray.empty, false, rfl, fun W => isTag_Restart n W⟩
theorem tgs_snoc (m : List Pc) (p : Pc) : tgs (m ++ [p]) = tgs m ++ (match tgOf p.x with | some t => [t] | none => []) := by
  unfold tgs
  rw [List.filterMap_append]
  congr 1
  cases hx : tgOf p.x <;> simp [hx]
theorem tgs_len (m : List Pc) : (tgs m).length ≤ m.length := List.length_filterMap_le _ _
set_option maxHeartbeats 1000000 in
theorem tags_walk (w : World) (base : Nat) (A : Option Addr) (cp : Nat) (l : List Pv) (m : List Pc) (hO : OwnC Pv.cells 3 w base 48 (.slice A l.length cp) l) (hP : PcV w base l m) (hl : l.length ≤ 100000000) :
    Calls Tryd.prog 9 #[.slice A l.length cp] w fun e w' => ∃ v, e = .returned v ∧ OwnC tgC 2 w' w.heap.size 41 v (tgs m) ∧ Below w.heap.size w w' := by
  have HO := Lib.hid hO; have HP := Lib.hid hP; clear hO hP
  go_enter Tryd.func9, Tryd.ntmps9
  go_wp2_with fail
  go_loopw [3, 10] (fun v i wr => ∃ (k : Nat) (vv : Value), k ≤ l.length ∧ v = vv ∧ i = .int .i64 k ∧ Hid (OwnC tgC 2 wr w.heap.size 41 vv (tgs (m.take k))) ∧ Hid (Below w.heap.size w wr)) (fun _ i _ => l.length - (intOf i).toNat)
  case atStart => exact ⟨0, _, by omega, rfl, rfl, Lib.hid (OwnC.nil _ _ _), Lib.hid (Below.refl _ _)⟩
  case round =>
    obtain ⟨k, vv, hk, hvv0, rfl, HT, HB⟩ := hrel
    obtain rfl := hvv0.symm
    by_cases hkl : k < l.length
    case neg =>
      obtain rfl : k = l.length := by omega
      go_wp2_with fail
      go_ret
      exact ⟨_, rfl, by have h := HT.out; rw [HP.out.1, List.take_length] at h; exact h, HB.out⟩
    case pos =>
    obtain ⟨g5, rfl, hg5, hg5', hcl⟩ := (HO.out.bel HB.out).at_ Pv.is hkl
    have hkm : k < m.length := by rw [← HP.out.1]; exact hkl
    obtain ⟨c1, c2, c3⟩ := HP.out.2 k hkl hkm
    obtain ⟨c, b, ok, hmt, hcall⟩ := c3.isTag
    obtain ⟨p, hp⟩ : ∃ p, p = l[k] := ⟨_, rfl⟩
    rw [← hp] at hcl hcall
    obtain ⟨pa, T, y, pd⟩ := p
    have q0 : wr.cell? ⟨g5, k * 3, none⟩ = some (.int .i64 pa) := hcl 0 (by decide)
    have q1 : wr.cell? ⟨g5, k * 3 + 1, none⟩ = some (.iface T y) := hcl 1 (by decide)
    have q2 : wr.cell? ⟨g5, k * 3 + 2, none⟩ = some (.string pd) := hcl 2 (by decide)
    have HC : Hid (∀ W, Calls Tryd.prog 18 #[.iface T y] W fun e w' => e = .returned (.tuple #[.agg #[.int .i64 c, .string b], .bool ok]) ∧ Below W.heap.size W w') := Lib.hid hcall
    have hnx : m.take (k + 1) = m.take k ++ [m[k]] := List.take_succ_eq_append_getElem hkm
    have HTN : Hid (tgs (m.take (k + 1)) = tgs (m.take k) ++ (if ok = true then [(c, b)] else [])) := Lib.hid (by rw [hnx, tgs_snoc, hmt]; cases ok <;> rfl)
    have HLN : Hid ((tgs (m.take k)).length < 1000000000) := Lib.hid (by have := tgs_len (m.take k); rw [List.length_take] at this; omega)
    clear hcl hcall hmt c1 c2 c3 hp hnx
    cases ok with
    | false =>
      go_wp2_with (first | (go_at_call 18; refine (HC.out _).mono ?_; rintro ex w3 ⟨rfl, hb3⟩; have HB3 := Lib.hid hb3; clear hb3 q0 q1 q2))
      go_roundw
      case rel => exact ⟨k + 1, _, by omega, by first | rfl | trivial, by go_num, Lib.hid (by rw [HTN.out]; simp only [Bool.false_eq_true, if_false, List.append_nil]; exact ((HT.out.bel ((Below.refl _ wr).alloc (Nat.le_refl _) _)).bel HB3.out).bel ((Below.refl _ _).alloc (Nat.le_refl _) _)), Lib.hid (((HB.out.alloc HB.out.size _).trans (HB3.out.mono (Nat.le_trans HB.out.size (by rw [World.size_alloc]; omega)))).alloc (Nat.le_trans (Nat.le_trans HB.out.size (by rw [World.size_alloc]; omega)) HB3.out.size) _)⟩
      case measure => simp [intOf]; omega
    | true =>
      go_upto_region 7 with (go_at_call 18; refine (HC.out _).mono ?_; rintro ex w3 ⟨rfl, hb3⟩; have HB3 := Lib.hid hb3; clear hb3 q0 q1 q2)
      have HT4 : Hid (OwnC tgC 2 (w3.alloc (.cells #[.int .i64 c, .string b] 41)) w.heap.size 41 vv (tgs (m.take k)) ∧ Below w.heap.size w (w3.alloc (.cells #[.int .i64 c, .string b] 41)) ∧ Blk (w3.alloc (.cells #[.int .i64 c, .string b] 41)) w3.heap.size 41 #[.int .i64 c, .string b]) := Lib.hid ⟨((HT.out.bel ((Below.refl _ wr).alloc (Nat.le_refl _) _)).bel HB3.out).bel ((Below.refl _ _).alloc (Nat.le_refl _) _), ((HB.out.alloc HB.out.size _).trans (HB3.out.mono (Nat.le_trans HB.out.size (by rw [World.size_alloc]; omega)))).alloc (Nat.le_trans (Nat.le_trans HB.out.size (by rw [World.size_alloc]; omega)) HB3.out.size) _, Blk.new _ _ _⟩
      obtain ⟨w4, hw4⟩ : ∃ w4, w4 = w3.alloc (.cells #[.int .i64 c, .string b] 41) := ⟨_, rfl⟩
      rw [← hw4] at HT4 ⊢
      clear hw4
      have q0 := HT4.out.2.2.cell 0; have q1 := HT4.out.2.2.cell 1
      go_wp2_with (first | (at_builtin; refine appC (q := 2) (by_ := 24) (cs := #[.int .i64 c, .string b]) (c, b) tgIs Tryd.underlying27 (by kernel_rfl) (by decide) (by decide) rfl (.tmp 21) (.tmp 23) rfl rfl rfl rfl HT4.out.1 HLN.out HT4.out.2.1.size ?_; intro v9 w9 hO9 hK9 hb9; obtain ⟨A9, n9, c9, rfl⟩ := hO9.form2; have HO9 := Lib.hid hO9; have HB9 := Lib.hid (HT4.out.2.1.trans hb9); clear hO9 hK9 hb9 q0 q1))
      go_roundw
      case rel => exact ⟨k + 1, _, by omega, by first | rfl | trivial, by go_num, Lib.hid (by rw [HTN.out]; exact HO9.out), HB9⟩
      case measure => simp [intOf]; omega
end Go.Proofs.YthibnhgbgmpjoaaDoor
