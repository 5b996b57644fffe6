/- Plain: what is joined (gen_mkl3.py). No program in sight. -/
import Derived.Test.YthibnhgbgmpjoaaDoorHMkJn
namespace Go.Proofs.YthibnhgbgmpjoaaDoor
open Go.RowKit
set_option linter.unusedSimpArgs false
set_option linter.unusedVariables false
set_option maxRecDepth 100000
theorem head2 (c : Int) (h0 : 192 ≤ c) (h1 : c ≤ 254) : putL (bits .or .i64 65280 c) 2 = [255, UInt8.ofNat c.toNat] := by
  obtain ⟨k, rfl⟩ := Int.eq_ofNat_of_zero_le (show 0 ≤ c by omega)
  have h : ∀ k : Fin 255, 192 ≤ k.val → putL (bits .or .i64 65280 ((k.val : Nat) : Int)) 2 = [255, UInt8.ofNat ((k.val : Nat) : Int).toNat] := by decide +kernel
  exact h ⟨k, by omega⟩ (by show 192 ≤ k; omega)
theorem len2 (n : Nat) (hs : n ≤ 65533) : putL ((n + 2 : Nat) : Int) 2 = [UInt8.ofNat ((n + 2) / 256), UInt8.ofNat ((n + 2) % 256)] := by
  unfold putL
  rw [if_pos ⟨by omega, by show ((n + 2 : Nat) : Int) < 65536; omega⟩]
  simp only [byL, List.nil_append, List.cons_append]
  have e1 : (((n + 2 : Nat) : Int) / 256 % 256).toNat = (n + 2) / 256 := by omega
  have e2 : (((n + 2 : Nat) : Int) % 256).toNat = (n + 2) % 256 := by omega
  rw [e1, e2]
theorem byS_eq {x : Sg} {b : ByteArray} (he : prE (sgC x) b = 0) (hx : x = prG (sgC x) b) : (byS x).data.toList = [255, UInt8.ofNat (sgC x).toNat, UInt8.ofNat ((b.size + 2) / 256), UInt8.ofNat ((b.size + 2) % 256)] ++ b.data.toList := by
  have hb := parse_back he
  rw [← hx] at hb
  obtain ⟨_, h2, _, _, h5⟩ := hb
  obtain ⟨h0, hs⟩ := prE_may he
  have hc := mayC_zero h0
  have hl : b.data.toList.length = b.size := by rw [Array.length_toList]; rfl
  rw [byS, if_pos h5, h2, hl, head2 (sgC x) (by omega) (by omega), len2 b.size hs]
  simp [ByteArray.data_append]
theorem pcB_eq {p : Pc} (h : Gd p) : pcB p = pcW p := by
  unfold pcB pcW pcL
  rw [byS_eq h.e h.x]
theorem catB_eq {m : List Pc} (h : ∀ p ∈ m, Gd p) : catW pcB m = catW pcW m := by
  unfold catW
  rw [List.map_congr_left fun p hp => pcB_eq (h p hp)]
theorem jnL_eq {m : List Pc} (h : ∀ p ∈ m, Gd p) : jnL m = joinL m := by unfold jnL joinL; rw [catB_eq h]
theorem same_jn {a m : List Pc} (h : Same a m) : jnSame a m := by
  have hl : a.length = m.length := by have := congrArg List.length h; simpa using this
  refine ⟨hl, fun i h1 h2 => ?_⟩
  have := congrArg (fun z => z[i]?) h
  simp only [List.getElem?_map, List.getElem?_eq_getElem h1, List.getElem?_eq_getElem h2, Option.map_some, Option.some.injEq, Prod.mk.injEq] at this
  rw [this.1, this.2.2]
  exact ⟨rfl, rfl⟩
/-- What is good is joined. -/
theorem jn_good {m : List Pc} (h : ∀ p ∈ m, Gd p) (hz : 4 + lenP m ≤ 16777216) : jnOk m ∧ (jnS m).size = 4 + lenP m ∧ ∃ m', spF (jnS m) = (m', 0, 0) ∧ Same m' m := by
  have hs : (jnS m).data.toList = joinL m := by unfold jnS; rw [← jnL_eq h]
  have hlen : (jnS m).size = 4 + lenP m := by rw [size_list hs, joinL, List.length_append, List.length_append, catW_sum]; simp; omega
  obtain ⟨m', h1, h2⟩ := spF_join h hs (by omega)
  exact ⟨⟨by rw [h1], by rw [h1]; exact same_jn h2⟩, hlen, m', h1, h2⟩
theorem gd_ok {m : List Pc} (h : ∀ p ∈ m, Gd p) : ∀ p ∈ m, p.x.ok ∧ byE p.x = 0 := fun p hp => by
  have hb := parse_back (h p hp).e
  rw [← (h p hp).x] at hb
  exact ⟨hb.2.2.2.1, hb.2.2.2.2⟩
end Go.Proofs.YthibnhgbgmpjoaaDoor
