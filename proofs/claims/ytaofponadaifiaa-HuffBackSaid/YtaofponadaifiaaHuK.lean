/- The document's Next walked; a slice cut at its front. No condition. -/
import Derived.Test.YtaofponadaifiaaHuJ
import Derived.Test.YtaofponadaifiaaHuH
namespace Go.Proofs.Ytaofponadaifiaa
open Go.RowKit
set_option linter.unusedSimpArgs false
set_option linter.unusedVariables false
theorem run_drop {P : Program} (T e : TypeId) (hT : P.underlying T = some (.slice e)) (he : (P.info? e).map (·.size) = some 1) (A : Option Addr) (n c j : Nat) (hj : j ≤ n) (hc : n ≤ c) (w : World) :
    (Instr.slice T (.slice A n c) (some (.int .i64 j)) none none).run P w = .ok (.slice (if c = j then A else A.map (·.add j)) (n - j) (c - j)) w := by
  obtain ⟨i, hi⟩ : ∃ i, P.info? e = some i := by cases h : P.info? e with | none => rw [h] at he; cases he | some i => exact ⟨i, rfl⟩
  rw [hi] at he
  have hs : i.size = 1 := by simpa using he
  have h1 : (Instr.sliceBound (.int .i64 (j : Int)) n .sliceB).run P w = .ok j w := by
    rw [run_sliceBound w .i64 j n .sliceB (by omega) (by omega)]; simp
  simp [Instr.slice, Instr.sliceBounds, run_underlying hT, sizeOf, typeInfo, hi, hs, h1]
theorem HeldV.drop {w : World} {A : Option Addr} {n c : Nat} {L : List Int} (h : HeldV w (.slice A n c) L) (j : Nat) (hj : j ≤ L.length) : n = L.length ∧ n ≤ c ∧ HeldV w (.slice (if c = j then A else A.map (·.add j)) (n - j) (c - j)) (L.drop j) := by
  rcases h with ⟨h1, rfl⟩ | ⟨g, off, c', h1, h2, h3⟩
  · injection h1 with e1 e2 e3
    subst e1 e2 e3
    obtain rfl : j = 0 := by simpa using hj
    exact ⟨rfl, Nat.le_refl _, Or.inl ⟨rfl, rfl⟩⟩
  · injection h1 with e1 e2 e3
    subst e1 e2 e3
    refine ⟨rfl, h2, Or.inr ?_⟩
    by_cases e : c = j
    · rw [if_pos e]
      refine ⟨g, off, c - j, by rw [List.length_drop], by rw [List.length_drop]; omega, fun k hk => ?_⟩
      rw [List.length_drop] at hk; omega
    · rw [if_neg e]
      have hadd : (⟨g, off, none⟩ : Addr).add j = ⟨g, off + j, none⟩ := by unfold Addr.add; split <;> simp_all
      refine ⟨g, off + j, c - j, by rw [List.length_drop, Option.map_some, hadd], by rw [List.length_drop]; omega, fun k hk => ?_⟩
      rw [List.length_drop] at hk
      obtain ⟨h4, h5⟩ := h3 (j + k) (by omega)
      refine ⟨h4, ?_⟩
      rw [show off + j + k = off + (j + k) by omega, h5]
      simp
theorem wpList_drop {P : Program} {ops : Array Oper} {rest : List Oper} {o : Oper} {a : Act} {w : World} {Q : Exit → Act → World → Prop} (hgd : o.guard = none) (T e : TypeId) (x lo : Operand) (ho : o.op = .slice T x (some lo) none none) (hT : P.underlying T = some (.slice e)) (he : (P.info? e).map (·.size) = some 1)
    (A : Option Addr) (n c j : Nat) (hx : a.eval x = .slice A n c) (hl : a.eval lo = .int .i64 j) {L : List Int} (hH : HeldV w (.slice A n c) L) (hj : j ≤ L.length)
    (h : ∀ A' c', HeldV w (.slice A' (n - j) c') (L.drop j) → wpList P ops Q rest (a.put o.dst (.slice A' (n - j) c')) w) : wpList P ops Q (o :: rest) a w := by
  obtain ⟨h1, h2, h3⟩ := hH.drop j hj
  refine wpList_val (v := .slice (if c = j then A else A.map (·.add j)) (n - j) (c - j)) hgd ?_ (h _ _ h3)
  have hr := run_drop T e hT he A n c j (by omega) h2 w
  unfold execOp
  have hr2 : (Instr.sliceAt T (.slice A n c) (some (.int .i64 j)) none none).run P w = .ok (.slice (if c = j then A else A.map (·.add j)) (n - j) (c - j)) w := by
    unfold Instr.sliceAt
    simp only [Sem.run_bind, run_underlying hT, Result.andThen_ok]
    exact hr
  simp only [ho, Option.map_some, Option.map_none, hx, hl, Sem.run_bind, hr2, Result.andThen_ok]
  rfl
theorem HeldV.at_ {w : World} {A : Option Addr} {n c : Nat} {L : List Int} (h : HeldV w (.slice A n c) L) {i : Nat} (hi : i < L.length) : ∃ g off, A = some ⟨g, off, none⟩ ∧ g < w.heap.size ∧ w.cell? ⟨g, off + i, none⟩ = some (.int .i64 L[i]) := by
  rcases h with ⟨_, rfl⟩ | ⟨g, off, c', h1, h2, h3⟩
  · simp at hi
  · injection h1 with e1 e2 e3
    exact ⟨g, off, e1, (h3 i hi).1, (h3 i hi).2⟩
set_option maxHeartbeats 0 in
set_option maxRecDepth 20000 in
theorem rnext_walk (s : ByteArray) (g : GS) (A A2 : Option Addr) (c c2 : Nat) (L : List Int) (w : World) (hn : g.at_ ≤ 1000) (hbd : bdG g) (hR : RdS w A g.at_ 3 (fC s g)) (hL : HeldV w (.slice A2 L.length c2) L) (hl : L.length ≤ 100000) (hbits : ∀ b ∈ L, b = 0 ∨ b = 1) :
    Calls Try.prog 21 #[.slice A g.at_ c, .slice A2 L.length c2] w fun e w' => e = .returned (.tuple #[.int .i64 (decG s g L).1, .int .i64 (decG s g L).2.1, .int .i64 (decG s g L).2.2]) ∧ w' = w := by
  obtain ⟨N, hN⟩ : ∃ N, N = g.at_ := ⟨_, rfl⟩
  obtain ⟨M, hM⟩ : ∃ M, M = L.length := ⟨_, rfl⟩
  rw [← hN] at hR hn ⊢
  rw [← hM] at hL hl ⊢
  have HN := Lib.hid hN; have HM := Lib.hid hM; have HBD := Lib.hid hbd; have HR := Lib.hid hR; have HL := Lib.hid hL; have HBT := Lib.hid hbits
  clear hN hM hbd hR hL hbits
  go_enter Try.func21, Try.ntmps21
  go_wp2_with fail
  go_loop [7, 8] (fun vv n => ∃ (m : Nat) (v : Int), m ≤ 16 ∧ (0 ≤ v ∧ v ≤ 65535) ∧ vv = .int .i64 v ∧ n = .int .i64 ((m : Int) + 1) ∧ Hid (v < 2 ^ m) ∧ m ≤ M ∧ Hid (decG s g L = goD (fun n v => hitG s g n v g.at_ 0) (16 - m) (m + 1) v (L.drop m))) (fun _ n => 17 - (intOf n).toNat)
  case atStart => exact ⟨0, 0, by omega, by omega, rfl, rfl, Lib.hid (by decide), by omega, Lib.hid (by rw [List.drop_zero]; rfl)⟩
  case round =>
    obtain ⟨m, v, hm, hv, rfl, rfl, hvm, hmM, HD⟩ := hrel
    by_cases hlt : m < 16
    · have h16 : decide ((m : Int) + 1 ≤ 16) = true := by simp; omega
      obtain ⟨f, hf⟩ : ∃ f, 16 - m = f + 1 := ⟨15 - m, by omega⟩
      by_cases hml : m = M
      · have hd : decG s g L = (0, 0, 2) := by
          rw [HD.out, List.drop_of_length_le (by rw [← HM.out]; omega), hf]; rfl
        have g1 : decide ((M : Int) < (m : Int) + 1) = true := by simp; omega
        have HDD := Lib.hid hd; clear hd hf hml
        go_wp2
        go_ret3
        rw [HDD.out]
        exact ⟨rfl, rfl⟩
      · have hmM2 : m < M := by omega
        have hmL : m < L.length := by rw [← HM.out]; exact hmM2
        have g1 : decide ((M : Int) < (m : Int) + 1) = false := by simp; omega
        obtain ⟨g2, off2, rfl, _, q0⟩ := HL.out.at_ hmL
        have hb01 := HBT.out L[m] (List.getElem_mem _)
        obtain ⟨b, hb⟩ : ∃ b, b = L[m] := ⟨_, rfl⟩
        rw [← hb] at q0 hb01
        have hcons : L.drop m = b :: L.drop (m + 1) := by rw [hb]; exact (List.drop_eq_getElem_cons hmL)
        obtain ⟨v2, hv2⟩ : ∃ v2, v * 2 + b = v2 := ⟨_, rfl⟩
        have hv2b : v2 < 2 ^ (m + 1) := by have := hvm.out; rw [Int.pow_succ]; omega
        have hv3 : 0 ≤ v2 ∧ v2 ≤ 65535 := by
          obtain ⟨Q, q1, q2, _⟩ := pow_cast (m + 1)
          have : Q ≤ 65536 := by rw [q2]; exact Nat.pow_le_pow_right (n := 2) (by omega) (show m + 1 ≤ 16 by omega)
          rw [q1] at hv2b
          omega
        have hgo : decG s g L = match hitG s g (m + 1) v2 g.at_ 0 with | some x => ((x : Int), m + 1, 0) | none => goD (fun n v => hitG s g n v g.at_ 0) f (m + 1 + 1) v2 (L.drop (m + 1)) := by
          rw [HD.out, hcons, hf, goD, hv2]
          cases hitG s g (m + 1) v2 g.at_ 0 <;> rfl
        have HGO := Lib.hid hgo; have HV2 := Lib.hid hv2b; have HFF := Lib.hid (show f = 16 - (m + 1) by omega)
        clear hgo hcons hb hv2b hf hmL hb01 hml
        go_wp2_with fail
        go_loop [9] (fun j => ∃ (i : Nat), i ≤ N ∧ j = .int .i64 i ∧ Hid (hitG s g (m + 1) v2 g.at_ 0 = hitG s g (m + 1) v2 (N - i) i)) (fun j => N - (intOf j).toNat)
        case atStart => exact ⟨0, by omega, rfl, Lib.hid (by rw [HN.out]; rfl)⟩
        case round =>
          obtain ⟨i, hi, rfl, HH⟩ := hrel
          by_cases hlt2 : i < N
          · obtain ⟨g3, off3, rfl, _, r0, r1, r2⟩ := HR.out.at3 hlt2
            obtain ⟨q, hq⟩ : ∃ q, N - i = q + 1 := ⟨N - i - 1, by omega⟩
            have hstep : hitG s g (m + 1) v2 g.at_ 0 = if g.ni i = m + 1 ∧ (g.bi i : Int) = v2 then some (symN s i) else hitG s g (m + 1) v2 q (i + 1) := by rw [HH.out, hq, hitG]
            have hb3 := HBD.out i (by rw [← HN.out]; exact hlt2)
            obtain ⟨x, hx⟩ : ∃ x : Nat, x = symN s i := ⟨_, rfl⟩
            obtain ⟨bt, hbt⟩ : ∃ bt : Nat, bt = g.bi i := ⟨_, rfl⟩
            obtain ⟨nn, hnn⟩ : ∃ nn : Nat, nn = g.ni i := ⟨_, rfl⟩
            have p0 : w.cell? ⟨g3, off3 + i * 3, none⟩ = some (.int .i64 x) := by rw [r0, hx]; rfl
            have p1 : w.cell? ⟨g3, off3 + i * 3 + 1, none⟩ = some (.int .i64 bt) := by rw [r1, hbt]; rfl
            have p2 : w.cell? ⟨g3, off3 + i * 3 + 2, none⟩ = some (.int .i64 nn) := by rw [r2, hnn]; rfl
            rw [← hbt, ← hnn, ← hx] at hstep
            rw [← hbt, ← hnn] at hb3
            have HST := Lib.hid hstep; have HQ := Lib.hid (show q = N - (i + 1) by omega)
            clear r0 r1 r2 hx hbt hnn hstep hq
            have d65 : decide (i < N) = true := by simpa using hlt2
            by_cases hn1 : nn = m + 1
            · have e1 : ((nn : Int) == (m : Int) + 1) = true := by simp; omega
              by_cases hn2 : (bt : Int) = v2
              · have e2 : ((bt : Int) == v2) = true := by simpa using hn2
                have hdd : decG s g L = ((x : Int), m + 1, 0) := by rw [HGO.out, HST.out, if_pos ⟨hn1, hn2⟩]
                have HDD := Lib.hid hdd; clear hdd hn1 hn2
                go_wp2
                go_ret3
                rw [HDD.out]
                exact ⟨rfl, rfl⟩
              · have e2 : ((bt : Int) == v2) = false := by simpa using hn2
                have HNX : Hid (hitG s g (m + 1) v2 g.at_ 0 = hitG s g (m + 1) v2 (N - (i + 1)) (i + 1)) := Lib.hid (by rw [HST.out, if_neg (fun h => hn2 h.2), HQ.out])
                clear hn1 hn2
                go_wp2
                exact ⟨⟨i + 1, by omega, by go_num, HNX⟩, by simp [intOf]; omega⟩
            · have e1 : ((nn : Int) == (m : Int) + 1) = false := by simp; omega
              have HNX : Hid (hitG s g (m + 1) v2 g.at_ 0 = hitG s g (m + 1) v2 (N - (i + 1)) (i + 1)) := Lib.hid (by rw [HST.out, if_neg (fun h => hn1 h.1), HQ.out])
              clear hn1
              go_wp2
              exact ⟨⟨i + 1, by omega, by go_num, HNX⟩, by simp [intOf]; omega⟩
          · obtain rfl : N = i := by omega
            have hnone : hitG s g (m + 1) v2 g.at_ 0 = none := by rw [HH.out, Nat.sub_self]; rfl
            have hnx : decG s g L = goD (fun n v => hitG s g n v g.at_ 0) (16 - (m + 1)) (m + 1 + 1) v2 (L.drop (m + 1)) := by rw [HGO.out, hnone, HFF.out]
            have HNX := Lib.hid hnx; clear hnone hnx
            go_wp2
            exact ⟨⟨m + 1, v2, by omega, by omega, rfl, by go_num, HV2, by omega, HNX⟩, by simp [intOf]; omega⟩
    · obtain ⟨hm16⟩ : m = 16 := by omega
      have hd : decG s g L = (0, 0, 9) := by rw [HD.out]; rfl
      have HDD := Lib.hid hd; clear hd
      go_wp2
      go_ret3
      rw [HDD.out]
      exact ⟨rfl, rfl⟩
end Go.Proofs.Ytaofponadaifiaa
