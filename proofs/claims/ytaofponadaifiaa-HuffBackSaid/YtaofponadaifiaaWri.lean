/- The walks of a writer's methods. No condition. -/
import Derived.Test.YtaofponadaifiaaOwnU
import Derived.Test.YtaofponadaifiaaReg
import Derived.Test.YtaofponadaifiaaBits
import Derived.Test.YtaofponadaifiaaSeqE
import Derived.Laws.CopyOwn
import Derived.OwnWalk
namespace Go.Proofs.Ytaofponadaifiaa
open Go.RowKit
set_option linter.unusedSimpArgs false
set_option linter.unusedVariables false
/-- A byte put, with its zero. -/
def pt (l : List Int) (b : Int) : List Int := l ++ (if b = 255 then [255, 0] else [b])
theorem pt_len (l : List Int) (b : Int) : (pt l b).length ≤ l.length + 2 := by unfold pt; split <;> simp
theorem KeepT.of_grown {base : Nat} {v : Value} {l : List Int} {w w' : World} (hO : OwnU w base v l) (hg : w.grownBy w' v.ownBlock) : KeepT 5 w w' := KeepT.of_own hO hg
theorem put_walk (b : Int) (b0 : 0 ≤ b) (b1 : b < 256) (w : World) (base : Nat) (v : Value) (l : List Int) (hO : OwnU w base v l) (hbase : base ≤ w.heap.size) (hl : l.length ≤ 1000000) :
    Calls Try.prog 32 #[v, .int .i64 b] w fun e w' => Hid (∃ v', e = .returned v' ∧ OwnU w' base v' (pt l b) ∧ Below base w w' ∧ KeepT 5 w w') := by
  have HO := Lib.hid hO; clear hO
  by_cases hb : b = 255
  · subst hb
    clear b0 b1
    go_enter Try.func32, Try.ntmps32
    go_wp2_with (first | (at_builtin; refine appU rfl (.tmp 5) (.tmp 8) rfl _ rfl rfl HO.out (by omega) hbase ?_; intro v1 w1 hO1 hg1 hb1; have HO1 := Lib.hid hO1; have HB1 := Lib.hid hb1; have HK1 := Lib.hid (KeepT.of_grown HO.out hg1); clear hO1 hg1 hb1) | (at_builtin; refine appU rfl (.tmp 12) (.tmp 13) rfl _ rfl rfl HO1.out (by simp; omega) (Nat.le_trans hbase HB1.out.size) ?_; intro v2 w2 hO2 hg2 hb2; have HO2 := Lib.hid hO2; have HB2 := Lib.hid (HB1.out.trans hb2); have HK2 := Lib.hid (HK1.out.trans (KeepT.of_grown HO1.out hg2)); clear hO2 hg2 hb2))
    go_ret
    refine Lib.hid ⟨v2, rfl, ?_, HB2.out, HK2.out⟩
    have h := HO2.out
    simpa [pt] using h
  · have hw : b % 256 = b := by omega
    have Hb := Lib.hid hb
    go_enter Try.func32, Try.ntmps32
    go_wp2_with (first | (at_builtin; refine appU rfl (.tmp 5) (.tmp 8) rfl _ rfl rfl HO.out (by omega) hbase ?_; intro v1 w1 hO1 hg1 hb1; have HO1 := Lib.hid hO1; have HB1 := Lib.hid hb1; have HK1 := Lib.hid (KeepT.of_grown HO.out hg1); clear hO1 hg1 hb1))
    go_ret
    refine Lib.hid ⟨v1, rfl, ?_, HB1.out, HK1.out⟩
    have h := HO1.out
    simpa [pt, Hb.out, hw] using h
/-! ### the writer -/
def wrC (v : Value) (h c t : Int) : Array Value := #[v, .int .i64 h, .int .i64 c, .int .i64 t]
/-- A writer at block g: bytes l, held bits, how many, total. -/
def WrV (w : World) (base g : Nat) (v : Value) (l : List Int) (h c t : Int) : Prop := Blk w g 76 (wrC v h c t) ∧ OwnU w base v l
theorem WrV.bel {w w' : World} {base g : Nat} {v : Value} {l : List Int} {h c t : Int} (H : WrV w base g v l h c t) (hb : Below w.heap.size w w') : WrV w' base g v l h c t := ⟨H.1.bel hb, H.2.bel hb⟩
theorem WrV.drew {w : World} {base g : Nat} {v : Value} {l : List Int} {h c t : Int} (H : WrV w base g v l h c t) : WrV w.drew base g v l h c t := H
def bitP (c : Int) : Int := 2 ^ (8 - c).toNat
def lastL (l : List Int) (h c : Int) : List Int := if 0 < c then pt l (h * bitP c + (bitP c - 1)) else l
theorem newWriter_walk (w : World) : Calls Try.prog 23 #[] w fun e w' => e = .returned (.pointer (some ⟨w.heap.size, 0, none⟩)) ∧ WrV w' w.heap.size w.heap.size (.slice none 0 0) [] 0 0 0 ∧ Below w.heap.size w w' := by
  go_enter Try.func23, Try.ntmps23
  go_wp2
  go_ret
  exact ⟨rfl, ⟨Blk.new _ _ _, OwnU.nil _ _⟩, (Below.refl _ _).alloc (Nat.le_refl _) _⟩
end Go.Proofs.Ytaofponadaifiaa
