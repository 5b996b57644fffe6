/- The walks of a writer's Bytes and Put. No condition. -/
import Derived.Test.YtaofponadaifiaaWriB
import Derived.BigRegion
import Derived.Laws.BytesArg
namespace Go.Proofs.Ytaofponadaifiaa
open Go.RowKit
set_option linter.unusedSimpArgs false
set_option linter.unusedVariables false
def bytesOf (l : List Int) : ByteArray := ⟨(l.map fun z => UInt8.ofNat z.toNat).toArray⟩
theorem conv_own {w : World} {base : Nat} {v : Value} {l : List Int} (hO : OwnU w base v l) : (convert 74 9 v).run Try.prog w = .ok (.string (bytesOf l)) w := by
  have hO' := hO
  rcases hO.2 with ⟨rfl, h0⟩ | ⟨g, cap, cur, rfl, hg, hc, hcap, _, _⟩
  · obtain rfl : l = [] := List.eq_nil_of_length_eq_zero h0
    simp [convert, go_sem, Try.underlying74, Try.underlying9, Try.underlying5, bytesOf]
    first | rfl | (simp [Conv.bytesToString]; done) | (simp [Conv.bytesToString]; rfl)
  · refine run_convert_bytes_arg w 74 5 Try.underlying74 Try.underlying5 g 0 l.length cap l rfl (fun i hi => ?_) 9 Try.underlying9
    obtain ⟨g', c', e, _, h⟩ := hO'.at_ hi
    injection e with e1
    injection e1 with e2
    injection e2 with e3
    subst e3
    rw [Nat.zero_add, h]
    simp [hi]
theorem bytes_walk (w : World) (base g : Nat) (v : Value) (l : List Int) (h c t : Int) (H : WrV w base g v l h c t) (hl : l.length ≤ 100000) (c0 : 0 ≤ c) (c1 : c < 8) (h0 : 0 ≤ h) (h1 : h < 2 ^ c.toNat) :
    Calls Try.prog 26 #[.pointer (some ⟨g, 0, none⟩)] w fun e w' => e = .returned (.string (bytesOf (lastL l h c))) ∧ Below w.heap.size w w' := by
  have HL := Lib.hid (last_walk w base g v l h c t H hl c0 c1 h0 h1)
  clear H h1
  go_enter Try.func26, Try.ntmps26
  go_wp2_with (first | (go_at_call 30; refine HL.out.mono ?_; intro e w1 hp; obtain ⟨v1, rfl, hO1, hB1⟩ := hp.out; have hcv := conv_own hO1; have HB1 := Lib.hid hB1; clear hO1 hB1 hp))
  go_ret
  exact ⟨rfl, HB1.out⟩
theorem wput_arg (w : World) (p : Value) (v n : Int) (hn : n < 0 ∨ 16 < n) (q : Addr) (hp : p = .pointer (some q)) :
    Calls Try.prog 29 #[p, .int .i64 v, .int .i64 n] w fun e w' => e = .returned (.int .i64 1) ∧ w = w' := by
  subst hp
  rcases hn with hn | hn
  · have d1 : decide (n < 0) = true := by simp; omega
    go_enter Try.func29, Try.ntmps29
    go_wp2
    go_ret
    exact ⟨rfl, rfl⟩
  · have d1 : decide (n < 0) = false := by simp; omega
    have d2 : decide (16 < n) = true := by simp; omega
    go_enter Try.func29, Try.ntmps29
    go_wp2
    go_ret
    exact ⟨rfl, rfl⟩
theorem wput_large (w : World) (v : Int) (n : Nat) (hn : n ≤ 16) (hv : v < 0 ∨ 2 ^ n ≤ v) (q : Addr) :
    Calls Try.prog 29 #[.pointer (some q), .int .i64 v, .int .i64 n] w fun e w' => e = .returned (.int .i64 11) ∧ w = w' := by
  by_cases h : v < 0
  · clear hv
    go_enter Try.func29, Try.ntmps29
    go_wp2
    go_ret
    exact ⟨rfl, rfl⟩
  · have h2 : 0 < v / 2 ^ n := by
      rcases hv with hv | hv
      · omega
      · exact Int.lt_of_lt_of_le (by omega) (Int.le_ediv_of_mul_le (by have := two_pos n; omega) (by rw [Int.one_mul]; exact hv) : 1 ≤ v / 2 ^ n)
    clear hv
    go_enter Try.func29, Try.ntmps29
    go_wp2
    go_ret
    exact ⟨rfl, rfl⟩
end Go.Proofs.Ytaofponadaifiaa
