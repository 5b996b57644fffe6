/- Put, Symbols and Counts of a table. No condition. -/
import Derived.Test.YtaofponadaifiaaHuM
import Derived.Test.YtaofponadaifiaaHuC
namespace Go.Proofs.Ytaofponadaifiaa
open Go.RowKit
set_option linter.unusedSimpArgs false
set_option linter.unusedVariables false
theorem syms_ok {w : World} {g : Nat} {cnt : Nat → Int} {s : ByteArray} {cb cn fs at_ : Nat → Int} (hT : Tab w g cnt s cb cn fs at_) : Calls Try.prog 24 #[.pointer (some ⟨g, 0, none⟩)] w fun e w' => e = .returned (.string s) ∧ w' = w := by
  have c16 := hT.sym
  clear hT
  go_enter Try.func24, Try.ntmps24
  go_wp2
  go_ret
  exact ⟨rfl, rfl⟩
theorem counts_ok {w : World} {g : Nat} {cnt : Nat → Int} {s : ByteArray} {cb cn fs at_ : Nat → Int} (hT : Tab w g cnt s cb cn fs at_) : Calls Try.prog 25 #[.pointer (some ⟨g, 0, none⟩)] w fun e w' => e = .returned (.agg (arrN .u8 16 cnt)) ∧ Below w.heap.size w w' := by
  have c0 : w.cell? ⟨g, 0, none⟩ = some (.int .u8 (cnt 0)) := hT.gCnt (i := 0) (by decide)
  have c1 : w.cell? ⟨g, 1, none⟩ = some (.int .u8 (cnt 1)) := hT.gCnt (i := 1) (by decide)
  have c2 : w.cell? ⟨g, 2, none⟩ = some (.int .u8 (cnt 2)) := hT.gCnt (i := 2) (by decide)
  have c3 : w.cell? ⟨g, 3, none⟩ = some (.int .u8 (cnt 3)) := hT.gCnt (i := 3) (by decide)
  have c4 : w.cell? ⟨g, 4, none⟩ = some (.int .u8 (cnt 4)) := hT.gCnt (i := 4) (by decide)
  have c5 : w.cell? ⟨g, 5, none⟩ = some (.int .u8 (cnt 5)) := hT.gCnt (i := 5) (by decide)
  have c6 : w.cell? ⟨g, 6, none⟩ = some (.int .u8 (cnt 6)) := hT.gCnt (i := 6) (by decide)
  have c7 : w.cell? ⟨g, 7, none⟩ = some (.int .u8 (cnt 7)) := hT.gCnt (i := 7) (by decide)
  have c8 : w.cell? ⟨g, 8, none⟩ = some (.int .u8 (cnt 8)) := hT.gCnt (i := 8) (by decide)
  have c9 : w.cell? ⟨g, 9, none⟩ = some (.int .u8 (cnt 9)) := hT.gCnt (i := 9) (by decide)
  have c10 : w.cell? ⟨g, 10, none⟩ = some (.int .u8 (cnt 10)) := hT.gCnt (i := 10) (by decide)
  have c11 : w.cell? ⟨g, 11, none⟩ = some (.int .u8 (cnt 11)) := hT.gCnt (i := 11) (by decide)
  have c12 : w.cell? ⟨g, 12, none⟩ = some (.int .u8 (cnt 12)) := hT.gCnt (i := 12) (by decide)
  have c13 : w.cell? ⟨g, 13, none⟩ = some (.int .u8 (cnt 13)) := hT.gCnt (i := 13) (by decide)
  have c14 : w.cell? ⟨g, 14, none⟩ = some (.int .u8 (cnt 14)) := hT.gCnt (i := 14) (by decide)
  have c15 : w.cell? ⟨g, 15, none⟩ = some (.int .u8 (cnt 15)) := hT.gCnt (i := 15) (by decide)
  have hlt := hT.lt
  have hne : ¬ g = w.heap.size := by omega
  clear hT
  have e : arrN .u8 16 cnt = #[.int .u8 (cnt 0), .int .u8 (cnt 1), .int .u8 (cnt 2), .int .u8 (cnt 3), .int .u8 (cnt 4), .int .u8 (cnt 5), .int .u8 (cnt 6), .int .u8 (cnt 7), .int .u8 (cnt 8), .int .u8 (cnt 9), .int .u8 (cnt 10), .int .u8 (cnt 11), .int .u8 (cnt 12), .int .u8 (cnt 13), .int .u8 (cnt 14), .int .u8 (cnt 15)] := rfl
  rw [e]
  clear e
  go_enter Try.func25, Try.ntmps25
  go_wp2
  exact bodyPost_ret (v := .agg #[.int .u8 (cnt 0), .int .u8 (cnt 1), .int .u8 (cnt 2), .int .u8 (cnt 3), .int .u8 (cnt 4), .int .u8 (cnt 5), .int .u8 (cnt 6), .int .u8 (cnt 7), .int .u8 (cnt 8), .int .u8 (cnt 9), .int .u8 (cnt 10), .int .u8 (cnt 11), .int .u8 (cnt 12), .int .u8 (cnt 13), .int .u8 (cnt 14), .int .u8 (cnt 15)]) (by simp [results, Try.results25, go_sem]) rfl ⟨rfl, (Below.refl _ _).alloc (Nat.le_refl _) _⟩
def acs (l : List (Nat × Nat)) : List Ac := l.map fun c => ⟨0, c.1, c.2⟩
theorem acs_ev (l : List (Nat × Nat)) : (acs l).map Ac.ev = putE l := by
  unfold acs putE
  rw [List.map_map]
  refine List.map_congr_left fun c _ => ?_
  simp [Ac.ev]
theorem PW.keepT {w w' : World} {B g k : Nat} {l W : List Int} {t : Int} {P : List Ac} (h : PW w B g l W t P k) (hk : KeepT 3 w w') : PW w' B g l W t P k := by
  obtain ⟨⟨vv, h1, h2⟩, h3⟩ := h
  exact ⟨⟨vv, hk _ _ _ (by decide) h1, ownsRow_keep h2 fun g cs hB => hk _ _ _ (by decide) hB⟩, by assumption, by assumption, by assumption, by assumption, by assumption, by assumption, by assumption, by assumption⟩
theorem PW.blk {w : World} {B g k : Nat} {l W : List Int} {t : Int} {P : List Ac} (h : PW w B g l W t P k) : ∃ cs, Blk w g 76 cs := by
  obtain ⟨vv, h1, _⟩ := h.wr; exact ⟨_, h1⟩
theorem code_z {w : World} {g : Nat} {cnt : Nat → Int} {s : ByteArray} {st : HS} {fs at_ : Nat → Int} (hT : Tab w g cnt s st.cb st.cn fs at_) {i : Nat} (hi : i < 256) (hC : st.cn i = 0 ∧ st.cb i = 0) : Calls Try.prog 11 #[.pointer (some ⟨g, 0, none⟩), .int .i64 i] w fun e w' => e = .returned (.tuple #[.int .i64 0, .int .i64 0, .bool false]) ∧ Below w.heap.size w w' := by
  have h := code_ok hT i hi
  rw [hC.1, hC.2] at h
  exact h
theorem code_y {w : World} {g : Nat} {cnt : Nat → Int} {s : ByteArray} {st : HS} {fs at_ : Nat → Int} (hT : Tab w g cnt s st.cb st.cn fs at_) {i n v : Nat} (hi : i < 256) (hC : CodeIs st i n v) : Calls Try.prog 11 #[.pointer (some ⟨g, 0, none⟩), .int .i64 i] w fun e w' => e = .returned (.tuple #[.int .i64 v, .int .i64 n, .bool true]) ∧ Below w.heap.size w w' := by
  have h := code_ok hT i hi
  rw [hC.1, hC.2.1, show decide (0 < (n : Int)) = true by have := hC.2.2.1; simp; omega] at h
  exact h
theorem put_none {w : World} {g : Nat} {q : Addr} {cnt : Nat → Int} {s : ByteArray} {st : HS} {fs at_ : Nat → Int} (hT : Tab w g cnt s st.cb st.cn fs at_) {i : Nat} (hi : i < 256) (hC : st.cn i = 0 ∧ st.cb i = 0) :
    Calls Try.prog 22 #[.pointer (some ⟨g, 0, none⟩), .pointer (some q), .int .i64 i] w fun e w' => e = .returned (.int .i64 17) ∧ Below w.heap.size w w' := by
  have h := code_ok hT i hi
  rw [hC.1, hC.2] at h
  have h : Calls Try.prog 11 #[.pointer (some ⟨g, 0, none⟩), .int .i64 i] w fun e w' => e = .returned (.tuple #[.int .i64 0, .int .i64 0, .bool false]) ∧ Below w.heap.size w w' := h
  have HC := Lib.hid h
  clear h hT hC
  go_enter Try.func22, Try.ntmps22
  go_wp2_with (first | (go_at_call 11; refine HC.out.mono ?_; rintro e w1 ⟨rfl, hb1⟩; have HB1 := Lib.hid hb1; clear hb1))
  go_ret
  exact ⟨rfl, HB1.out⟩
theorem put_some {w : World} {g gw B k : Nat} {l W : List Int} {t : Int} {P : List Ac} {cnt : Nat → Int} {s : ByteArray} {st : HS} {fs at_ : Nat → Int} (hT : Tab w g cnt s st.cb st.cn fs at_) (hP : PW w B gw l W t P k) (hB : B ≤ gw) (hk : k ≤ 200) (hBs : B ≤ w.heap.size) {i : Nat} (hi : i < 256) {n v : Nat} (hC : CodeIs st i n v) (hn : n ≤ 16) :
    Calls Try.prog 22 #[.pointer (some ⟨g, 0, none⟩), .pointer (some ⟨gw, 0, none⟩), .int .i64 i] w fun e w' => Hid (∃ l' W' t', e = .returned (.int .i64 0) ∧ PW w' B gw l' W' t' (P ++ [⟨0, v, n⟩]) (k + 1) ∧ Below B w w' ∧ KeepG gw w w') := by
  have h := code_ok hT i hi
  rw [hC.1, hC.2.1, show decide (0 < (n : Int)) = true by have := hC.2.2.1; simp; omega] at h
  have hok : Ac.ok ⟨0, v, n⟩ := by
    obtain ⟨Q, q1, q2, _⟩ := pow_cast n
    have := hC.2.2.2
    refine ⟨by simp, by simp, ?_⟩
    simp only [Int.toNat_natCast]
    rw [if_pos (by decide), q1]
    omega
  have HC := Lib.hid h; have HP := Lib.hid hP; have HOK := Lib.hid hok
  clear h hT hC hP hok
  go_enter Try.func22, Try.ntmps22
  go_wp2_with fail
  refine HC.out.mono ?_
  rintro e w1 ⟨rfl, hb1⟩
  have hput := (HP.out.bel hb1).put_ok hB hk ⟨0, v, n⟩ (by simp) HOK.out
  have HB1 := Lib.hid hb1; have HPUT := Lib.hid hput
  clear hb1 hput
  go_wp2_with fail
  refine HPUT.out.mono ?_
  intro e w2 hp
  obtain ⟨l', W', t', rfl, hP2, hb2, hk2⟩ := hp.out
  have HP2 := Lib.hid hP2; have HB2 := Lib.hid hb2; have HK2 := Lib.hid hk2
  clear hp hP2 hb2 hk2
  go_wp2_with fail
  go_ret
  exact Lib.hid ⟨l', W', t', rfl, HP2.out, (HB1.out.mono hBs).trans HB2.out, fun g' ty cs h1 h2 hb => HK2.out g' ty cs h1 h2 (hb.bel HB1.out)⟩
end Go.Proofs.Ytaofponadaifiaa
