/- The writer's quants and huffs (gen_segr.py). No condition but the laid table. -/
import Derived.Test.YthibnhgbgmpjoaaDoorHSegP
namespace Go.Proofs.YthibnhgbgmpjoaaDoor
open Go.RowKit
set_option linter.unusedSimpArgs false
set_option linter.unusedVariables false
set_option maxRecDepth 100000
/-- The first k numbers of a table, of m bytes each; whether one is bad. -/
def zW (f : Nat → Int) (m : Nat) : Nat → List UInt8
  | 0 => []
  | k + 1 => zW f m k ++ putL (f k) m
def zB (f : Nat → Int) (m : Nat) : Nat → Bool
  | 0 => false
  | k + 1 => zB f m k || putB (f k) m
theorem zW_len (f : Nat → Int) (m k : Nat) : (zW f m k).length ≤ k * m := by
  induction k with
  | zero => simp [zW]
  | succ k ih => have := putL_len (f k) m; simp only [zW, List.length_append, Nat.succ_mul]; omega
def szW (p : Qt) : Nat := if p.wide then 2 else 1
def qtW (p : Qt) : List UInt8 := hvL ((szW p : Int) - 1) p.at_ ++ zW (fun k => p.q (ord k)) (szW p) 64
def qtB (p : Qt) : Bool := hvB ((szW p : Int) - 1) p.at_ || zB (fun k => p.q (ord k)) (szW p) 64
theorem szW_le (p : Qt) : 1 ≤ szW p ∧ szW p ≤ 2 := by unfold szW; split <;> omega
theorem qtW_len (p : Qt) : (qtW p).length ≤ 129 := by
  have h1 := hvL_len ((szW p : Int) - 1) p.at_; have h2 := zW_len (fun k => p.q (ord k)) (szW p) 64; have h3 := szW_le p
  unfold qtW; rw [List.length_append]; omega
def cS (f : Nat → Int) : Nat → Int
  | 0 => 0
  | k + 1 => cS f k + f k
def hfW (p : Hf) : List UInt8 := hvL p.cls p.at_ ++ zW p.cnt 1 16 ++ p.sym.data.toList
def hfB (p : Hf) : Bool := hvB p.cls p.at_ || zB p.cnt 1 16 || (cS p.cnt 16 != p.sym.size)
theorem RdC_range {α : Type} {c : α → List Value} {q : Nat} {w : World} {g : Nat} {l : List α} (hC : CellsOf c q) {k : Nat} (hk : k < l.length) (h : ∀ j, j < q → w.cell? ⟨g, k * q + j, none⟩ = (c l[k])[j]?) : w.rangeAt g (k * q) (c l[k]) := fun j v hv => by
  have hj : j < q := by have := (List.getElem?_eq_some_iff.1 hv).1; rwa [hC.len] at this
  rw [h j hj, hv]
theorem qt_c0 {w : World} {b : Nat} {p : Qt} (h : Blk w b 136 p.cells.toArray) : w.cell? ⟨b, 0, none⟩ = some (.int .i64 p.at_) := by rw [h.cell]; rfl
theorem qt_c1 {w : World} {b : Nat} {p : Qt} (h : Blk w b 136 p.cells.toArray) : w.cell? ⟨b, 1, none⟩ = some (.bool p.wide) := by rw [h.cell]; rfl
theorem qt_range {w : World} {b : Nat} {p : Qt} (h : Blk w b 136 p.cells.toArray) : w.rangeAt b 2 (arrN .u16 64 p.q).toList := fun j v hv => by
  rw [h.cell, Qt.cells, List.getElem?_toArray, List.getElem?_append_right (by simp), show 2 + j - [Value.int IntKind.i64 p.at_, Value.bool p.wide].length = j by simp]
  exact hv
theorem run_index_val {P : Program} (w : World) {t e : TypeId} {n : Nat} {cs : Array Value} {i : Nat} {K : IntKind} {x : Int} (ht : P.underlying t = some (.array n e)) (he : (P.info? e).map (·.size) = some 1) (hce : P.plainKey e = true) (hi : i < n) (hv : cs[i]? = some (.int K x)) :
    (Instr.index t (.agg cs) (.int .i64 i)).run P w = .ok (.int K x) w := by
  obtain ⟨ie, hie, hs⟩ := Option.map_eq_some_iff.1 he
  have h1 : (0 : Int) ≤ (i : Int) ∧ (i : Int) < n := by omega
  have h2 := run_part_plain (P := P) w hce (xs := cs) hv
  simp [Instr.index, asIntOf, run_underlying ht, sizeOf, typeInfo, hie, hs, h1, h2, hi]
/-- The numbers of a table are 16 bits wide. -/
def Qt.ok (p : Qt) : Prop := ∀ j, j < 64 → 0 ≤ p.q j ∧ p.q j < 65536
def Hf.ok (p : Hf) : Prop := ∀ j, j < 16 → 0 ≤ p.cnt j ∧ p.cnt j < 256
set_option maxHeartbeats 4000000 in
theorem wquants_walk (w0 : World) (base b : Nat) (A : Option Addr) (cp : Nat) (L : List Qt) (l : List UInt8) (bad : Bool) (w : World) (hLd : Laid w0) (hO : OwnC Qt.cells 66 w0 base 136 (.slice A L.length cp) L) (hok : ∀ p ∈ L, p.ok) (hL : L.length ≤ 1000000) (hl : l.length ≤ 1000000) (hW : WrI w0 b l bad w) :
    Calls Tryd.prog 45 #[.pointer (some ⟨b, 0, none⟩), .slice A L.length cp] w fun e w' => e = .returned (.tuple #[]) ∧ WrI w0 b (l ++ catW qtW L) (bad || L.any qtB) w' := by
  have HO := Lib.hid hO; have HOK := Lib.hid hok; have HLD := Lib.hid hLd; clear hO hok hLd
  have HI0 := Lib.hid hW; clear hW
  go_enter Tryd.func45, Tryd.ntmps45
  go_wp2_with fail
  go_loopw [11] (fun i wr => ∃ k : Nat, k ≤ L.length ∧ i = .int .i64 k ∧ Hid (WrI w0 b (l ++ catW qtW (L.take k)) (bad || (L.take k).any qtB) wr)) (fun i _ => L.length - (intOf i).toNat)
  case atStart => exact ⟨0, by omega, rfl, Lib.hid (by simpa [catW] using HI0.out)⟩
  case round =>
    obtain ⟨k, hk, rfl, HIk⟩ := hrel
    by_cases hkl : k < L.length
    case neg =>
      obtain rfl : k = L.length := by omega
      go_wp2_with fail
      go_end0
      exact ⟨rfl, by have := HIk.out; rwa [List.take_length] at this⟩
    case pos =>
    obtain ⟨g5, rfl, hg5, hg5', hcl⟩ := (HO.out.bel (HIk.out.be)).at_ Qt.is hkl
    have hrg := RdC_range Qt.is hkl hcl
    have hpo := HOK.out _ (List.getElem_mem hkl)
    obtain ⟨p, hp⟩ : ∃ p, p = L[k] := ⟨_, rfl⟩
    rw [← hp] at hrg hpo
    clear hcl
    have hlen := catW_tlen qtW 129 qtW_len L k
    obtain ⟨l10, hl10⟩ : ∃ x, x = l ++ catW qtW (L.take k) := ⟨_, rfl⟩
    obtain ⟨b10, hb10⟩ : ∃ x, x = (bad || (L.take k).any qtB) := ⟨_, rfl⟩
    have z10 : l10.length ≤ 131000000 := by rw [hl10, List.length_append]; omega
    obtain ⟨m, hm⟩ : ∃ m, m = szW p := ⟨_, rfl⟩
    have hm1 := szW_le p
    rw [← hm] at hm1
    obtain ⟨l11, hl11⟩ : ∃ x, x = l10 ++ hvL ((m : Int) - 1) p.at_ := ⟨_, rfl⟩
    have z11 : l11.length ≤ l10.length + 1 := by rw [hl11, List.length_append]; have := hvL_len ((m : Int) - 1) p.at_; omega
    obtain ⟨b11, hb11⟩ : ∃ x, x = (b10 || hvB ((m : Int) - 1) p.at_) := ⟨_, rfl⟩
    have hfin : l ++ catW qtW (L.take (k + 1)) = l11 ++ zW (fun k => p.q (ord k)) m 64 := by rw [catW_next qtW L k hkl, ← hp, hl11, hl10, qtW, hm]; simp only [List.append_assoc]
    have hfib : (bad || (L.take (k + 1)).any qtB) = (b11 || zB (fun k => p.q (ord k)) m 64) := by rw [any_next qtB L k hkl, ← hp, hb11, hb10, qtB, hm]; simp only [Bool.or_assoc]
    rw [← hl10, ← hb10] at HIk
    obtain ⟨cs, hcs⟩ : ∃ cs, cs = p.cells.toArray := ⟨_, rfl⟩
    have hcz : cs.size = 66 := by rw [hcs, List.size_toArray, Qt.is.len]
    have hc1 : cs.all (·.oneCell') = true := by rw [hcs]; exact all_oneCell_toArray (Qt.is.one _)
    have hcr : wr.rangeAt g5 (k * 66) cs.toList := by rw [hcs]; exact hrg
    have hszv : p.wide = true → m = 2 := fun h => by rw [hm, szW, if_pos h]
    have hszn : p.wide = false → m = 1 := fun h => by rw [hm, szW]; simp [h]
    have HFIN := Lib.hid hfin; have HFIB := Lib.hid hfib; have HL11 := Lib.hid hl11; have HB11 := Lib.hid hb11; have HCS := Lib.hid hcs; have HCZ := Lib.hid hcz; have HC1 := Lib.hid hc1; have HCR := Lib.hid hcr; have HPO := Lib.hid hpo; have HSV := Lib.hid hszv; have HSN := Lib.hid hszn
    clear hfin hfib hl10 hb10 hl11 hb11 hp hlen hrg hpo hcs hcz hc1 hcr hm hszv hszn
    go_upto_region 4 with (first | (refine wpList_load_mid rfl 136 (.tmp 13) rfl g5 (k * 66) rfl cs.toList _ HCR.out Tryd.underlying136 rfl (by rw [Array.length_toList, HCZ.out]; kernel_rfl) ?_) | (refine wpList_store_new rfl 136 (.tmp 5) (.tmp 14) rfl cs _ 136 rfl rfl (by rw [HCZ.out]; kernel_rfl) (by rw [HCZ.out]; rfl) HC1.out ?_; intro w5 hs5 hB5 hb5; have HB5 := Lib.hid hB5; have HI5 := Lib.hid (HIk.out.bel hb5); clear hB5 hb5))
    have hB5 := HB5.out
    rw [HCS.out] at hB5
    have HQ5 := Lib.hid hB5
    clear hB5
    have c1 : w5.cell? ⟨wr.heap.size, 1, none⟩ = some (.bool p.wide) := qt_c1 HQ5.out
    go_upto_if 16 with fail
    clear c1
    go_cut [6] (fun c wx => c = .int .i64 m ∧ wx = w5)
    case first =>
      go_wp2_with fail
      all_goals
        go_meet
        case rel => first | exact ⟨by rw [HSV.out ‹p.wide = true›]; rfl, rfl⟩ | exact ⟨by rw [HSN.out ‹p.wide = false›]; rfl, rfl⟩
    case rest =>
    obtain ⟨rfl, rfl⟩ := hcut
    have c0 : wc.cell? ⟨wr.heap.size, 0, none⟩ = some (.int .i64 p.at_) := qt_c0 HQ5.out
    go_wp2_with fail
    refine (whalvesI w0 b _ ((m : Int) - 1) p.at_ _ _ (by omega) HI5.out).mono ?_
    rintro ex w11 ⟨rfl, h11, k11⟩
    rw [← HL11.out, ← HB11.out] at h11
    have HI11 := Lib.hid h11
    have HQ11 := Lib.hid (k11 _ _ _ (by decide) (by decide) HQ5.out)
    clear h11 k11 c0
    obtain ⟨az, haz⟩ : ∃ az, az = (arrN .u16 64 p.q).toList := ⟨_, rfl⟩
    have hzig := fun w' hL => zigU p.q w' hL
    rw [show arrN .u16 64 p.q = az.toArray by rw [haz]] at hzig
    have hal : az.length = 64 := by rw [haz, Array.length_toList, arrN_size]
    have hra := qt_range HQ11.out
    rw [← haz] at hra
    obtain ⟨zz, hzz⟩ : ∃ zz, zz = arrN .u16 64 (fun j => p.q (ord j)) := ⟨_, rfl⟩
    have hzs : zz.size = 64 := by rw [hzz, arrN_size]
    have hzg : ∀ j, j < 64 → zz[j]? = some (.int .u16 (p.q (ord j))) := fun j hj => by rw [hzz, arrN_get .u16 _ hj]
    rw [← hzz] at hzig
    have HZIG := Lib.hid hzig; have HAL := Lib.hid hal; have HRA := Lib.hid hra; have HZS := Lib.hid hzs; have HZG := Lib.hid hzg
    clear haz hzig hal hra hzz hzs hzg
    go_wp2_with (first | (refine wpList_load_mid rfl 134 (.tmp 23) rfl wr.heap.size 2 rfl az _ HRA.out Tryd.underlying134 rfl (by rw [HAL.out]; kernel_rfl) ?_) | (go_at_call 62; refine (HZIG.out _ (HLD.out.below HI11.out.be)).mono ?_; rintro ex w12 ⟨rfl, hb12⟩; have HI12 := Lib.hid (HI11.out.bel hb12); clear hb12))
    obtain ⟨f, hf⟩ : ∃ f : Nat → Int, f = fun j => p.q (ord j) := ⟨_, rfl⟩
    have hfb : ∀ j, j < 64 → 0 ≤ f j ∧ f j < 65536 := fun j hj => by rw [hf]; exact HPO.out _ (ord_lt j hj)
    rw [show (fun k => p.q (ord k)) = f from hf.symm] at HFIN HFIB
    have hzg : ∀ j, j < 64 → zz[j]? = some (.int .u16 (f j)) := fun j hj => by rw [HZG.out j hj, hf]
    have HZG2 := Lib.hid hzg; have HFB := Lib.hid hfb
    clear hf hfb hzg
    go_loopw [26] (fun i wx => ∃ q : Nat, q ≤ 64 ∧ i = .int .i64 q ∧ Hid (WrI w0 b (l11 ++ zW f m q) (b11 || zB f m q) wx)) (fun i _ => 64 - (intOf i).toNat)
    case atStart => exact ⟨0, by omega, rfl, Lib.hid (by simpa [zW, zB] using HI12.out)⟩
    case round =>
      obtain ⟨q, hq, rfl, HIq⟩ := hrel
      by_cases hq64 : q < 64
      case pos =>
        have hz := HZG2.out q hq64
        obtain ⟨hf0, hf1⟩ := HFB.out q hq64
        have hzl := zW_len f m q
        have hzm : q * m ≤ 64 * 2 := Nat.mul_le_mul (by omega) hm1.2
        obtain ⟨l12, hl12⟩ : ∃ x, x = l11 ++ zW f m q := ⟨_, rfl⟩
        obtain ⟨b12, hb12⟩ : ∃ x, x = (b11 || zB f m q) := ⟨_, rfl⟩
        have z12 : l12.length ≤ 140000000 := by rw [hl12, List.length_append]; omega
        have hn1 : l11 ++ zW f m (q + 1) = l12 ++ putL (f q) m := by rw [hl12, zW, List.append_assoc]
        have hn2 : (b11 || zB f m (q + 1)) = (b12 || putB (f q) m) := by rw [hb12, zB, Bool.or_assoc]
        rw [← hl12, ← hb12] at HIq
        obtain ⟨fq, hfq⟩ : ∃ x, x = f q := ⟨_, rfl⟩
        rw [← hfq] at hz hf0 hf1 hn1 hn2
        have HN1 := Lib.hid hn1; have HN2 := Lib.hid hn2
        have hzsz := HZS.out
        clear hn1 hn2 hl12 hb12 hfq hzl hzm
        have hix := run_index_val (P := Tryd.prog) wr Tryd.underlying134 (by kernel_rfl : (Tryd.prog.info? 133).map (·.size) = some 1) (by kernel_rfl) hq64 hz
        clear hzsz hz
        go_wp2_with fail
        refine (wnumI w0 b _ fq m (by omega) (by omega) _ _ (by omega) HIq.out).mono ?_
        rintro ex w13 ⟨rfl, h13, k13⟩
        rw [← HN1.out, ← HN2.out] at h13
        have HI13 := Lib.hid h13
        clear h13 k13 hix
        go_wp2_with fail
        go_roundw
        case rel => exact ⟨q + 1, by omega, by go_num, HI13⟩
        case measure => simp [intOf]; omega
      case neg =>
        obtain rfl : q = 64 := by omega
        go_wp2_with fail
        go_roundw
        case rel => exact ⟨k + 1, by omega, by go_num, by rw [HFIN.out, HFIB.out]; exact HIq⟩
        case measure => simp [intOf]; omega
theorem hf_c0 {w : World} {b : Nat} {p : Hf} (h : Blk w b 140 p.cells.toArray) : w.cell? ⟨b, 0, none⟩ = some (.int .i64 p.cls) := by rw [h.cell]; rfl
theorem hf_c1 {w : World} {b : Nat} {p : Hf} (h : Blk w b 140 p.cells.toArray) : w.cell? ⟨b, 1, none⟩ = some (.int .i64 p.at_) := by rw [h.cell]; rfl
theorem hfW_len (p : Hf) (h : p.sym.size ≤ 100000) : (hfW p).length ≤ 100017 := by
  have h1 := hvL_len p.cls p.at_
  have h2 := zW_len p.cnt 1 16
  have h4 : p.sym.data.toList.length = p.sym.size := by rw [Array.length_toList]; rfl
  unfold hfW
  simp only [List.length_append]
  omega
theorem catW_lenP {α : Type} (f : α → List UInt8) (m : Nat) (l : List α) (h : ∀ x ∈ l, (f x).length ≤ m) : (catW f l).length ≤ l.length * m := by
  induction l with
  | nil => simp [catW]
  | cons x l ih => have h1 := h x (by simp); have h2 := ih (fun y hy => h y (by simp [hy])); simp only [catW, List.map_cons, List.flatten_cons, List.length_append, List.length_cons] at *; rw [Nat.succ_mul]; omega
theorem cS_bd (f : Nat → Int) (h : ∀ j, j < 16 → 0 ≤ f j ∧ f j < 256) (k : Nat) (hk : k ≤ 16) : 0 ≤ cS f k ∧ cS f k ≤ 255 * k := by
  induction k with
  | zero => simp [cS]
  | succ k ih => have h1 := h k (by omega); have h2 := ih (by omega); unfold cS; omega
/-- A string behind the rest. -/
theorem wstrI (w0 : World) (b : Nat) (l : List UInt8) (s : ByteArray) (bad : Bool) (w : World) (hl : l.length + s.size ≤ 140737488355328) (h : WrI w0 b l bad w) :
    Calls Tryd.prog 25 #[.pointer (some ⟨b, 0, none⟩), .string s] w fun e w' => (∃ x, e = .returned x) ∧ WrI w0 b (l ++ s.data.toList) bad w' ∧ KeepW w w' :=
  (writeStr_walk _ b l s bad w hl h.wt).mono fun _ _ ⟨h1, h2, h3, h4⟩ => ⟨h1, ⟨.inr h2, h.be.trans h3⟩, h4⟩
theorem WrI.drew {w0 w : World} {b : Nat} {l : List UInt8} {bad : Bool} (h : WrI w0 b l bad w) : WrI w0 b l bad w.drew := h.bel (Below.refl _ _).drew
theorem WrI.setBad {w0 w : World} {b : Nat} {l : List UInt8} {bad : Bool} (h : WrI w0 b l bad w) (y : Bool) : WrI w0 b l y (w.setCell ⟨b, 2, none⟩ (.bool y)) := ⟨(h.wt.setBad y).1, h.be.trans (h.wt.setBad y).2.1⟩
set_option maxHeartbeats 4000000 in
theorem whuffs_walk (w0 : World) (base b : Nat) (A : Option Addr) (cp : Nat) (L : List Hf) (l : List UInt8) (bad : Bool) (w : World) (hO : OwnC Hf.cells 19 w0 base 140 (.slice A L.length cp) L) (hok : ∀ p ∈ L, p.ok ∧ p.sym.size ≤ 100000) (hL : L.length ≤ 1000000) (hl : l.length ≤ 1000000) (hW : WrI w0 b l bad w) :
    Calls Tryd.prog 46 #[.pointer (some ⟨b, 0, none⟩), .slice A L.length cp] w fun e w' => e = .returned (.tuple #[]) ∧ WrI w0 b (l ++ catW hfW L) (bad || L.any hfB) w' := by
  have HO := Lib.hid hO; have HOK := Lib.hid hok; clear hO
  have HI0 := Lib.hid hW; clear hW
  have hwl : ∀ k, (catW hfW (L.take k)).length ≤ 100017000000 := fun k => by
    have h := catW_lenP hfW 100017 (L.take k) (fun p hp => hfW_len p (HOK.out p (List.mem_of_mem_take hp)).2)
    have h2 : (L.take k).length ≤ 1000000 := by rw [List.length_take]; omega
    omega
  have HWL := Lib.hid hwl; clear hwl hok
  go_enter Tryd.func46, Tryd.ntmps46
  go_wp2_with fail
  go_loopw [11] (fun i wr => ∃ k : Nat, k ≤ L.length ∧ i = .int .i64 k ∧ Hid (WrI w0 b (l ++ catW hfW (L.take k)) (bad || (L.take k).any hfB) wr)) (fun i _ => L.length - (intOf i).toNat)
  case atStart => exact ⟨0, by omega, rfl, Lib.hid (by simpa [catW] using HI0.out)⟩
  case round =>
    obtain ⟨k, hk, rfl, HIk⟩ := hrel
    by_cases hkl : k < L.length
    case neg =>
      obtain rfl : k = L.length := by omega
      go_wp2_with fail
      go_end0
      exact ⟨rfl, by have := HIk.out; rwa [List.take_length] at this⟩
    case pos =>
    obtain ⟨g5, rfl, hg5, hg5', hcl⟩ := (HO.out.bel (HIk.out.be)).at_ Hf.is hkl
    have hrg := RdC_range Hf.is hkl hcl
    have hpo := HOK.out _ (List.getElem_mem hkl)
    obtain ⟨p, hp⟩ : ∃ p, p = L[k] := ⟨_, rfl⟩
    rw [← hp] at hrg hpo
    clear hcl
    have hlen := HWL.out k
    obtain ⟨l10, hl10⟩ : ∃ x, x = l ++ catW hfW (L.take k) := ⟨_, rfl⟩
    obtain ⟨b10, hb10⟩ : ∃ x, x = (bad || (L.take k).any hfB) := ⟨_, rfl⟩
    have z10 : l10.length ≤ 110000000000 := by rw [hl10, List.length_append]; omega
    obtain ⟨l11, hl11⟩ : ∃ x, x = l10 ++ hvL p.cls p.at_ := ⟨_, rfl⟩
    have z11 : l11.length ≤ l10.length + 1 := by rw [hl11, List.length_append]; have := hvL_len p.cls p.at_; omega
    obtain ⟨b11, hb11⟩ : ∃ x, x = (b10 || hvB p.cls p.at_) := ⟨_, rfl⟩
    obtain ⟨l14, hl14⟩ : ∃ x, x = l11 ++ zW p.cnt 1 16 := ⟨_, rfl⟩
    have z14 : l14.length ≤ l11.length + 16 := by rw [hl14, List.length_append]; have := zW_len p.cnt 1 16; omega
    obtain ⟨b14, hb14⟩ : ∃ x, x = (b11 || zB p.cnt 1 16) := ⟨_, rfl⟩
    obtain ⟨sy, hsy⟩ : ∃ sy, sy = p.sym := ⟨_, rfl⟩
    obtain ⟨sm, hsm⟩ : ∃ sm, sm = cS p.cnt 16 := ⟨_, rfl⟩
    obtain ⟨b15, hb15⟩ : ∃ x, x = (b14 || (sm != (sy.size : Int))) := ⟨_, rfl⟩
    have hsz : sy.size ≤ 100000 := by rw [hsy]; exact hpo.2
    have hfin : l ++ catW hfW (L.take (k + 1)) = l14 ++ sy.data.toList := by rw [catW_next hfW L k hkl, ← hp, hl14, hl11, hl10, hfW, hsy]; simp only [List.append_assoc]
    have hfib : (bad || (L.take (k + 1)).any hfB) = b15 := by rw [any_next hfB L k hkl, ← hp, hb15, hb14, hb11, hb10, hfB, hsy, hsm]; simp only [Bool.or_assoc]
    rw [← hl10, ← hb10] at HIk
    obtain ⟨cs, hcs⟩ : ∃ cs, cs = p.cells.toArray := ⟨_, rfl⟩
    have hcz : cs.size = 19 := by rw [hcs, List.size_toArray, Hf.is.len]
    have hc1 : cs.all (·.oneCell') = true := by rw [hcs]; exact all_oneCell_toArray (Hf.is.one _)
    have hcr : wr.rangeAt g5 (k * 19) cs.toList := by rw [hcs]; exact hrg
    have HFIN := Lib.hid hfin; have HFIB := Lib.hid hfib; have HL11 := Lib.hid hl11; have HB11 := Lib.hid hb11; have HL14 := Lib.hid hl14; have HB14 := Lib.hid hb14; have HB15 := Lib.hid hb15; have HSY := Lib.hid hsy; have HSM := Lib.hid hsm; have HCS := Lib.hid hcs; have HCZ := Lib.hid hcz; have HC1 := Lib.hid hc1; have HCR := Lib.hid hcr; have HPO := Lib.hid hpo.1
    clear hfin hfib hl10 hb10 hl11 hb11 hl14 hb14 hb15 hsy hsm hp hlen hrg hpo hcs hcz hc1 hcr
    go_upto_region 3 with (first | (refine wpList_load_mid rfl 140 (.tmp 13) rfl g5 (k * 19) rfl cs.toList _ HCR.out Tryd.underlying140 rfl (by rw [Array.length_toList, HCZ.out]; kernel_rfl) ?_) | (refine wpList_store_new rfl 140 (.tmp 5) (.tmp 14) rfl cs _ 140 rfl rfl (by rw [HCZ.out]; kernel_rfl) (by rw [HCZ.out]; rfl) HC1.out ?_; intro w5 hs5 hB5 hb5; have HB5 := Lib.hid hB5; have HI5 := Lib.hid (HIk.out.bel hb5); clear hB5 hb5))
    have hB5 := HB5.out
    rw [HCS.out] at hB5
    have HQ5 := Lib.hid hB5
    clear hB5
    have c0 : w5.cell? ⟨wr.heap.size, 0, none⟩ = some (.int .i64 p.cls) := hf_c0 HQ5.out
    have c1 : w5.cell? ⟨wr.heap.size, 1, none⟩ = some (.int .i64 p.at_) := hf_c1 HQ5.out
    go_wp2_with fail
    refine (whalvesI w0 b _ p.cls p.at_ _ _ (by omega) HI5.out).mono ?_
    rintro ex w11 ⟨rfl, h11, k11⟩
    rw [← HL11.out, ← HB11.out] at h11
    have HI11 := Lib.hid h11
    have HQ11 := Lib.hid (k11 _ _ _ (by decide) (by decide) HQ5.out)
    clear h11 k11 c0 c1
    obtain ⟨f, hf⟩ : ∃ f : Nat → Int, f = p.cnt := ⟨_, rfl⟩
    obtain ⟨zz, hzz⟩ : ∃ zz, zz = (arrN .u8 16 f).toList := ⟨_, rfl⟩
    have hzl : zz.length = 16 := by rw [hzz, Array.length_toList, arrN_size]
    have hzg : ∀ j, j < 16 → zz.toArray[j]? = some (.int .u8 (f j)) := fun j hj => by rw [hzz, Array.toArray_toList, arrN_get .u8 _ hj]
    have hra := hfRange HQ11.out
    rw [← hf, ← hzz] at hra
    rw [← hf] at HL14 HB14 HSM
    have hfb : ∀ j, j < 16 → 0 ≤ f j ∧ f j < 256 := by rw [hf]; exact HPO.out
    have HZL := Lib.hid hzl; have HZG := Lib.hid hzg; have HRA := Lib.hid hra; have HFB := Lib.hid hfb
    clear hzl hzg hra hfb hf hzz
    go_wp2_with (first | (refine wpList_load_mid rfl 138 (.tmp 21) rfl wr.heap.size 2 rfl zz _ HRA.out Tryd.underlying138 rfl (by rw [HZL.out]; kernel_rfl) ?_))
    obtain ⟨wo, rfl⟩ : ∃ wo : World, wo = wr := ⟨_, rfl⟩
    go_loopw [6, 23] (fun s6 i wx => ∃ q : Nat, q ≤ 16 ∧ i = .int .i64 q ∧ s6 = .int .i64 (cS f q) ∧ Hid (WrI w0 b (l11 ++ zW f 1 q) (b11 || zB f 1 q) wx) ∧ Hid (Blk wx wo.heap.size 140 p.cells.toArray)) (fun _ i _ => 16 - (intOf i).toNat)
    case atStart => exact ⟨0, by omega, rfl, rfl, Lib.hid (by simpa [zW, zB] using HI11.out), HQ11⟩
    case round =>
      obtain ⟨q, hq, rfl, rfl, HIq, HQq⟩ := hrel
      obtain ⟨hs0, hs1⟩ := cS_bd f HFB.out q hq
      by_cases hq16 : q < 16
      case pos =>
        have hz := HZG.out q hq16
        obtain ⟨hf0, hf1⟩ := HFB.out q hq16
        have hzl := zW_len f 1 q
        obtain ⟨l12, hl12⟩ : ∃ x, x = l11 ++ zW f 1 q := ⟨_, rfl⟩
        obtain ⟨b12, hb12⟩ : ∃ x, x = (b11 || zB f 1 q) := ⟨_, rfl⟩
        have z12 : l12.length ≤ 110000000100 := by rw [hl12, List.length_append]; omega
        have hn1 : l11 ++ zW f 1 (q + 1) = l12 ++ putL (f q) 1 := by rw [hl12, zW, List.append_assoc]
        have hn2 : (b11 || zB f 1 (q + 1)) = (b12 || putB (f q) 1) := by rw [hb12, zB, Bool.or_assoc]
        have hn3 : cS f (q + 1) = cS f q + f q := rfl
        rw [← hl12, ← hb12] at HIq
        obtain ⟨fq, hfq⟩ : ∃ x, x = f q := ⟨_, rfl⟩
        obtain ⟨sq, hsq⟩ : ∃ x, x = cS f q := ⟨_, rfl⟩
        rw [← hfq] at hz hf0 hf1 hn1 hn2 hn3
        rw [← hsq] at hn3 hs0 hs1 ⊢
        have HN1 := Lib.hid hn1; have HN2 := Lib.hid hn2; have HN3 := Lib.hid hn3
        have hix := run_index_val (P := Tryd.prog) wr Tryd.underlying138 (by kernel_rfl : (Tryd.prog.info? 5).map (·.size) = some 1) (by kernel_rfl) hq16 hz
        clear hn1 hn2 hn3 hl12 hb12 hfq hsq hzl hz
        go_wp2_with fail
        refine (wnumI w0 b _ fq 1 (by omega) (by omega) _ _ (by omega) HIq.out).mono ?_
        rintro ex w13 ⟨rfl, h13, k13⟩
        rw [← HN1.out, ← HN2.out] at h13
        have HI13 := Lib.hid h13
        have HQ13 := Lib.hid (k13 _ _ _ (by decide) (by decide) HQq.out)
        clear h13 k13 hix
        go_wp2_with fail
        go_roundw
        case rel => exact ⟨q + 1, by omega, by go_num, by rw [HN3.out], HI13, HQ13⟩
        case measure => simp [intOf]; omega
      case neg =>
        obtain rfl : q = 16 := by omega
        rw [← HL14.out, ← HB14.out] at HIq
        rw [← HSM.out] at hs0 hs1 ⊢
        have hS : wr.cell? ⟨wo.heap.size, 18, none⟩ = some (.string sy) := by rw [HSY.out]; exact hfCellS HQq.out
        obtain ⟨pp, vv, hkk⟩ := HIq.out.wt.bad
        have c2 : wr.cell? ⟨b, 2, none⟩ = some (.bool b14) := hkk.cell 2
        have f2 := hkk.frozen 2
        have hkq := Lib.hid (HQq.out.ne hkk (by decide))
        clear hkk
        go_upto_region 11 with fail
        go_cut [] (fun wx => Hid (WrI w0 b l14 b15 wx) ∧ Hid (Blk wx wo.heap.size 140 p.cells.toArray))
        case first =>
          cases b14 with
          | true =>
            have hb : b15 = true := by rw [HB15.out]; rfl
            have HB := Lib.hid hb; clear hb
            go_wp2_with fail
            go_meet
            case rel => rw [HB.out]; exact ⟨Lib.hid (HIq.out.setBad true), Lib.hid (HQq.out.far (p := ⟨b, 2, none⟩) hkq.out _)⟩
          | false =>
            have hb : b15 = (sm != (sy.size : Int)) := by rw [HB15.out]; rfl
            have HB := Lib.hid hb; clear hb
            go_wp2_with fail
            go_meet
            case rel => rw [HB.out]; exact ⟨Lib.hid (HIq.out.setBad _), Lib.hid (HQq.out.far (p := ⟨b, 2, none⟩) hkq.out _)⟩
        case rest =>
          obtain ⟨HIx, HQx⟩ := hcut
          clear c2 f2 hS HIq HQq
          go_wp2_with fail
          refine region_plan (.run [0, 1, 2, 3, 4] (.ev 5 .fin)) (fun w' => True) (by kernel_rfl) trivial ?_
          intro wd hwd
          have HId : Hid (WrI w0 b l14 b15 wd) := Lib.hid (hwd ▸ HIx.out.drew)
          have hS : wd.cell? ⟨wo.heap.size, 18, none⟩ = some (.string sy) := by rw [HSY.out, hwd]; exact hfCellS HQx.out
          clear hwd
          refine plan_run fun m hm => ?_
          simp only [pickO, List.filterMap_cons, List.filterMap_nil, List.getElem?_toArray, List.getElem?_cons_zero, List.getElem?_cons_succ] at hm
          subst hm
          go_wp2_with fail
          refine ⟨rfl, by rfl, ?_⟩
          refine plan_ev fun m hm => ?_
          simp only [pickO, List.filterMap_cons, List.filterMap_nil, List.getElem?_toArray, List.getElem?_cons_zero, List.getElem?_cons_succ] at hm
          subst hm
          go_wp2_with (go_at_call 25; refine (wstrI w0 b _ sy _ _ (by omega) HId.out).mono ?_; rintro ex w14 ⟨⟨y, rfl⟩, h14, k14⟩; have HI14 := Lib.hid h14; clear h14 k14)
          refine ⟨rfl, trivial, ?_⟩
          try simp only [Act.put, List.setIfInBounds_toArray, List.set_cons_zero, List.set_cons_succ]
          refine plan_fin ?_
          go_wp2_with fail
          go_roundw
          case rel => exact ⟨k + 1, by omega, by go_num, by rw [HFIN.out, HFIB.out]; exact HI14⟩
          case measure => simp [intOf]; omega
end Go.Proofs.YthibnhgbgmpjoaaDoor
