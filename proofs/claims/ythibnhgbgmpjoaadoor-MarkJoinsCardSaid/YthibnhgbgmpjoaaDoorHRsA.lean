/- The reference's byteAt and pair, and a reader's state. No condition. -/
import Derived.Test.YthibnhgbgmpjoaaDoorHSegN
import Derived.IntWalk
namespace Go.Proofs.YthibnhgbgmpjoaaDoor
open Go.RowKit
set_option linter.unusedSimpArgs false
set_option linter.unusedVariables false
/-- A byte; -1 behind the end. -/
def bAt (s : ByteArray) (i : Nat) : Int := if h : i < s.size then (s[i].toNat : Int) else -1
def pAt (s : ByteArray) (i : Nat) : Int := if h : i + 1 < s.size then (s[i].toNat : Int) * 256 + s[i + 1].toNat else -1
theorem bAt_bd (s : ByteArray) (i : Nat) : -1 ≤ bAt s i ∧ bAt s i < 256 := by
  unfold bAt; split
  · have := s[i].toNat_lt; omega
  · omega
theorem pAt_bd (s : ByteArray) (i : Nat) : -1 ≤ pAt s i ∧ pAt s i < 65536 := by
  unfold pAt; split
  · rename_i h; have := s[i].toNat_lt; have := s[i + 1].toNat_lt; omega
  · omega
theorem byteAt_walk (s : ByteArray) (i : Nat) (hi : i ≤ 1000000000) (hs : s.size ≤ 1000000000) (w : World) :
    Calls Tryd.prog 58 #[.string s, .int .i64 i] w fun e w' => e = .returned (.int .i64 (bAt s i)) ∧ w = w' := by
  by_cases h : i < s.size
  · have hb : bAt s i = (s[i].toNat : Int) := by rw [bAt, dif_pos h]
    rw [hb]
    clear hb
    have hx0 := s[i].toNat_lt
    go_enter Tryd.func58, Tryd.ntmps58
    go_wp2
    go_ret
    exact ⟨rfl, rfl⟩
  · have hb : bAt s i = -1 := by rw [bAt, dif_neg h]
    rw [hb]
    clear hb
    go_enter Tryd.func58, Tryd.ntmps58
    go_wp2
    go_ret
    exact ⟨rfl, rfl⟩
theorem byteAt_z (s : ByteArray) (z : Int) (i : Nat) (hz : z = i) (hi : i ≤ 1000000000) (hs : s.size ≤ 1000000000) (w : World) :
    Calls Tryd.prog 58 #[.string s, .int .i64 z] w fun e w' => e = .returned (.int .i64 (bAt s i)) ∧ w = w' := hz ▸ byteAt_walk s i hi hs w
theorem run_index_str {P : Program} (w : World) {t : TypeId} {s : ByteArray} {i : Nat} {z : Int} {y : UInt8} (ht : P.underlying t = some .string) (hz : z = i) (hv : s[i]? = some y) :
    (Instr.index t (.string s) (.int .i64 z)).run P w = .ok (.int .u8 y.toNat) w := by
  subst hz
  simp [Instr.index, asIntOf, run_underlying ht, hv]
theorem pair_walk (s : ByteArray) (i : Nat) (hi : i ≤ 1000000000) (hs : s.size ≤ 1000000000) (w : World) :
    Calls Tryd.prog 43 #[.string s, .int .i64 i] w fun e w' => e = .returned (.int .i64 (pAt s i)) ∧ Below w.heap.size w w' := by
  by_cases h : i + 1 < s.size
  · have hb : pAt s i = (s[i].toNat : Int) * 256 + s[i + 1].toNat := by rw [pAt, dif_pos h]
    rw [hb]
    clear hb
    have hi0 : i < s.size := by omega
    obtain ⟨x, hx⟩ : ∃ x, x = s[i] := ⟨_, rfl⟩
    obtain ⟨y, hy⟩ : ∃ y, y = s[i + 1] := ⟨_, rfl⟩
    have hx0 := x.toNat_lt
    have hy0 := y.toNat_lt
    rw [← hx, ← hy]
    have e1 : s[i]? = some x := by rw [hx]; simp [hi0]
    have e2 : s[i + 1]? = some y := by rw [hy]; simp [h]
    have hd : decide (s.size ≤ i + 1) = false := by simp; omega
    have hd2 : decide ((s.size : Int) ≤ (i : Int) + 1) = false := by simp; omega
    have hw : IntKind.i64.wrap ((i : Int) + 1) = (i : Int) + 1 := IntWalk.i64_in _ (by omega)
    have hn : ((i : Int) + 1).toNat = i + 1 := by omega
    have h0 : (0 : Int) ≤ (i : Int) + 1 := by omega
    have x1 := fun W => run_index_str (P := Tryd.prog) W Tryd.underlying9 (rfl : (i : Int) = i) e1
    have x2 := fun W => run_index_str (P := Tryd.prog) W Tryd.underlying9 (by omega : (i : Int) + 1 = ((i + 1 : Nat) : Int)) e2
    clear hx hy
    go_enter Tryd.func43, Tryd.ntmps43
    go_wp2
    go_region
    go_wp2
    go_ret
    exact ⟨rfl, (Below.refl _ _).drew⟩
  · have hb : pAt s i = -1 := by rw [pAt, dif_neg h]
    rw [hb]
    clear hb
    have hd : decide (s.size ≤ i + 1) = true := by simp; omega
    have hd2 : decide ((s.size : Int) ≤ (i : Int) + 1) = true := by simp; omega
    go_enter Tryd.func43, Tryd.ntmps43
    go_wp2
    go_ret
    exact ⟨rfl, Below.refl _ _⟩
/-! What a read gives to a reader that met nothing. -/
theorem bAt_ok {s : ByteArray} {i : Nat} (h : 0 ≤ bAt s i) : nS s 1 ⟨i, 0⟩ = ⟨i + 1, 0⟩ ∧ nV s 1 ⟨i, 0⟩ = bAt s i ∧ i < s.size := by
  have hi : i < s.size := by
    by_cases hi : i < s.size
    · exact hi
    · rw [bAt, dif_neg hi] at h; omega
  refine ⟨?_, ?_, hi⟩
  · unfold nS nxA nxE; simp; omega
  · unfold nV nxV nxE
    rw [if_pos (show i + 1 ≤ s.size by omega), if_pos rfl, bAt, dif_pos hi]
    have e : (s.extract i (i + 1)).data.toList = [s[i]] := by
      apply List.ext_getElem
      · simp [ByteArray.data_extract]; show min 1 (s.size - i) = 1; omega
      · intro j h1 h2
        have : j = 0 := by simp at h2; omega
        subst this
        simp [ByteArray.data_extract]
        rfl
    rw [e]
    simp [numL]
theorem bAt_no {s : ByteArray} {i : Nat} (h : bAt s i < 0) : (nS s 1 ⟨i, 0⟩).e = 4 := by
  have hi : ¬ i + 1 ≤ s.size := by
    intro hi
    rw [bAt, dif_pos (by omega)] at h
    omega
  show nxE s 1 i 0 = 4
  unfold nxE
  rw [if_neg hi]; rfl
theorem pAt_ok {s : ByteArray} {i : Nat} (h : 0 ≤ pAt s i) : nS s 2 ⟨i, 0⟩ = ⟨i + 2, 0⟩ ∧ nV s 2 ⟨i, 0⟩ = pAt s i ∧ i + 1 < s.size := by
  have hi : i + 1 < s.size := by
    by_cases hi : i + 1 < s.size
    · exact hi
    · rw [pAt, dif_neg hi] at h; omega
  refine ⟨?_, ?_, hi⟩
  · unfold nS nxA nxE; simp; omega
  · unfold nV nxV nxE
    rw [if_pos (show i + 2 ≤ s.size by omega), if_pos rfl, pAt, dif_pos hi]
    have e : (s.extract i (i + 2)).data.toList = [s[i], s[i + 1]] := by
      apply List.ext_getElem
      · simp [ByteArray.data_extract]; show min 2 (s.size - i) = 2; omega
      · intro j h1 h2
        have : j = 0 ∨ j = 1 := by simp at h2; omega
        rcases this with rfl | rfl
        · simp [ByteArray.data_extract]; rfl
        · simp [ByteArray.data_extract]; rfl
    rw [e]
    simp [numL]
theorem pAt_no {s : ByteArray} {i : Nat} (h : pAt s i < 0) : (nS s 2 ⟨i, 0⟩).e = 4 := by
  have hi : ¬ i + 2 ≤ s.size := by
    intro hi
    rw [pAt, dif_pos (by omega)] at h
    omega
  show nxE s 2 i 0 = 4
  unfold nxE
  rw [if_neg hi]; rfl
/-! What was met stays. -/
theorem nS_stay {s : ByteArray} {n : Nat} {t : St} (h : t.e ≠ 0) : (nS s n t).e = t.e := by
  show nxE s n t.a t.e = t.e
  unfold nxE; split
  · rfl
  · simp [h]
theorem tS_stay {t : St} {ok : Bool} {x : Int} (h : t.e ≠ 0) : (tS t ok x).e = t.e := by
  show stp t.e ok x = t.e
  unfold stp; rw [if_neg (fun hq => h hq.2)]
theorem tS_true (t : St) (x : Int) : tS t true x = t := by unfold tS stp; simp
theorem tS_false (a : Nat) (x : Int) : (tS ⟨a, 0⟩ false x).e = x := by show stp 0 false x = x; unfold stp; simp
theorem xS_stay {s : ByteArray} {n : Int} {t : St} (h : t.e ≠ 0) : (xS s n t).e = t.e := by
  show txE s n t.a t.e = t.e
  unfold txE; split
  · rfl
  · simp [h]
theorem idT_stay {x id : Int} {l : List Int} {t : St} (h : t.e ≠ 0) : (idT x id l t).e = t.e := by
  induction l generalizing t with
  | nil => rfl
  | cons y l ih =>
    have e : idT x id (y :: l) t = idT x id l (tS t (y != id) x) := rfl
    rw [e, ih (by rw [tS_stay h]; exact h), tS_stay h]
theorem idT_hit {x id : Int} {l : List Int} {t : St} (h0 : t.e = 0) (h : id ∈ l) (hx : x ≠ 0) : (idT x id l t).e = x := by
  induction l generalizing t with
  | nil => cases h
  | cons y l ih =>
    have e : idT x id (y :: l) t = idT x id l (tS t (y != id) x) := rfl
    rw [e]
    by_cases hy : y = id
    · have h1 : (tS t (y != id) x).e = x := by
        show stp t.e (y != id) x = x
        unfold stp; rw [if_pos ⟨by simp [hy], h0⟩]
      rw [idT_stay (by rw [h1]; exact hx), h1]
    · have h1 : tS t (y != id) x = t := by
        rw [show (y != id) = true by simpa using hy]; exact tS_true _ _
      rw [h1]
      rcases List.mem_cons.1 h with h | h
      · exact absurd h.symm hy
      · exact ih h0 h
theorem idT_miss {x id : Int} {l : List Int} {t : St} (h : ∀ y ∈ l, y ≠ id) : idT x id l t = t := by
  induction l generalizing t with
  | nil => rfl
  | cons y l ih =>
    have e : idT x id (y :: l) t = idT x id l (tS t (y != id) x) := rfl
    rw [e, show (y != id) = true by simpa using h y (by simp), tS_true, ih (fun z hz => h z (by simp [hz]))]
end Go.Proofs.YthibnhgbgmpjoaaDoor
