/- The reference's huffs. No condition. -/
import Derived.Test.YthibnhgbgmpjoaaDoorHRsB
import Derived.Test.YthibnhgbgmpjoaaDoorHHuG
namespace Go.Proofs.YthibnhgbgmpjoaaDoor
open Go.RowKit
set_option linter.unusedSimpArgs false
set_option linter.unusedVariables false
set_option maxRecDepth 100000
theorem cT_stay {s : ByteArray} {u : St} (k m : Nat) (h : (cT s u k).e ≠ 0) (hm : k ≤ m) : (cT s u m).e = (cT s u k).e := by
  induction m with
  | zero => rw [show k = 0 by omega]
  | succ m ih =>
    by_cases hk : k = m + 1
    · rw [hk]
    · have h1 := ih (by omega)
      have h2 : (cT s u m).e ≠ 0 := by rw [h1]; exact h
      rw [cT, nS_stay h2, h1]
theorem hu1_late {s : ByteArray} {p : St × List Hf} {e : Int} (h : (cT s (tS (nS s 1 p.1) (decide (nV s 1 p.1 / 16 ≤ 1 ∧ nV s 1 p.1 % 16 ≤ 3)) 5) 16).e = e) (he : e ≠ 0) : (hu1 s p).1.e = e := by
  show (tS (xS s _ (cT s _ 16)) _ 5).e = e
  rw [tS_stay (by rw [xS_stay (by rw [h]; exact he), h]; exact he), xS_stay (by rw [h]; exact he), h]
theorem hu1_stay {s : ByteArray} {p : St × List Hf} {e : Int} (h : (tS (nS s 1 p.1) (decide (nV s 1 p.1 / 16 ≤ 1 ∧ nV s 1 p.1 % 16 ≤ 3)) 5).e = e) (he : e ≠ 0) : (hu1 s p).1.e = e :=
  hu1_late (by rw [cT_stay 0 16 (by show (tS _ _ _).e ≠ 0; rw [h]; exact he) (by omega)]; exact h) he
theorem huL_err {s : ByteArray} {f : Nat} {p : St × List Hf} (hc : p.1.e = 0 ∧ (p.2 = [] ∨ p.1.a < s.size)) (h : (hu1 s p).1.e ≠ 0) : (huL s (f + 1) p).1.e = (hu1 s p).1.e := by
  rw [huL, if_pos hc, huL_no _ _ _ (fun hq => h hq.1)]
theorem refHuff_built (x y : Int) : Tryd.prog.built 155 [(0, .int .i64 x), (1, .int .i64 y)] = some (Hf.cells ⟨x, y, fun _ => 0, ⟨#[]⟩⟩).toArray := by kernel_rfl
theorem hf_lit (x y : Int) : (#[.int .i64 x, .int .i64 y, .int .u8 0, .int .u8 0, .int .u8 0, .int .u8 0, .int .u8 0, .int .u8 0, .int .u8 0, .int .u8 0, .int .u8 0, .int .u8 0, .int .u8 0, .int .u8 0, .int .u8 0, .int .u8 0, .int .u8 0, .int .u8 0, .string ⟨#[]⟩] : Array Value) = (Hf.cells ⟨x, y, fun _ => 0, ⟨#[]⟩⟩).toArray := by
  unfold Hf.cells arrN
  simp [List.range_succ]
theorem codes_any (cnt : Nat → Int) (s : ByteArray) (w : World) (hc : ∀ j, j < 16 → 0 ≤ cnt j ∧ cnt j ≤ 255) (hs : s.size ≤ 5000) :
    Calls Tryd.prog 60 #[.agg (arrN .u8 16 cnt), .string s] w fun e w' => (∃ v, e = .returned (.tuple #[v, .bool (hufNew cnt s).isSome])) ∧ Below w.heap.size w w' := by
  refine (codes_walk cnt s w hc hs).mono fun e w' h => ?_
  rcases h with ⟨g, v, h1, h2, he, _, hb⟩ | ⟨h1, he, hb⟩
  · have hk : (hufNew cnt s).isSome = true := by
      cases hq : hufNew cnt s with
      | some st => rfl
      | none =>
        rcases codes_no hq with h | ⟨g', h, hn⟩
        · rw [h1] at h; cases h
        · rw [h1] at h; injection h with h; subst h; exact absurd h2 hn
    exact ⟨⟨v, by rw [hk]; exact he⟩, hb⟩
  · have hk : (hufNew cnt s).isSome = false := by
      cases hq : hufNew cnt s with
      | none => rfl
      | some st =>
        obtain ⟨g, h2, h3, _⟩ := codes_yes hq
        rcases h1 with h | ⟨g', h, hn⟩
        · rw [h2] at h; cases h
        · rw [h2] at h; injection h with h; subst h; exact absurd h3 hn
    exact ⟨⟨_, by rw [hk]; exact he⟩, hb⟩
section
variable {T : TypeId} {w : World} {b : Nat} {p : Hf}
theorem hfSetC' (h : Blk w b T p.cells.toArray) {k : Nat} (hk : k < 16) (x : Int) : Blk (w.setCell ⟨b, 2 + k, none⟩ (.int .u8 x)) b T (Hf.cells ⟨p.cls, p.at_, upd p.cnt k x, p.sym⟩).toArray := by
  have h1 := h.set_ (2 + k) (.int .u8 x)
  have h2 := set_mid [Value.int .i64 p.cls, Value.int .i64 p.at_] (arrN .u8 16 p.cnt).toList [Value.string p.sym] k (.int .u8 x) (by rw [Array.length_toList, arrN_size]; exact hk)
  rw [arrN_setL .u8 16 _ _ _ hk] at h2
  unfold Hf.cells at h1
  have e : 2 + k = [Value.int .i64 p.cls, Value.int .i64 p.at_].length + k := rfl
  rw [e, h2] at h1
  exact h1
theorem hfCellC' (h : Blk w b T p.cells.toArray) {k : Nat} (hk : k < 16) : w.cell? ⟨b, 2 + k, none⟩ = some (.int .u8 (p.cnt k)) := by
  rw [h.cell]
  have h2 := get_mid [Value.int .i64 p.cls, Value.int .i64 p.at_] (arrN .u8 16 p.cnt).toList [Value.string p.sym] k (by rw [Array.length_toList, arrN_size]; exact hk)
  have e : 2 + k = [Value.int .i64 p.cls, Value.int .i64 p.at_].length + k := rfl
  unfold Hf.cells
  rw [e, h2, Array.getElem?_toList]
  exact arrN_get .u8 _ hk
theorem hfRange' (h : Blk w b T p.cells.toArray) : w.rangeAt b 2 (arrN .u8 16 p.cnt).toList := fun j v hv => by
  have hj : j < 16 := by have := (List.getElem?_eq_some_iff.1 hv).1; rwa [Array.length_toList, arrN_size] at this
  rw [hfCellC' h hj, ← hv, Array.getElem?_toList, arrN_get .u8 _ hj]
theorem hfCellS' (h : Blk w b T p.cells.toArray) : w.cell? ⟨b, 18, none⟩ = some (.string p.sym) := by
  rw [h.cell]
  unfold Hf.cells
  rw [List.getElem?_toArray, List.getElem?_append_right (by simp [arrN_size])]
  simp [arrN_size]
theorem hfSetS' (h : Blk w b T p.cells.toArray) (x : ByteArray) : Blk (w.setCell ⟨b, 18, none⟩ (.string x)) b T (Hf.cells ⟨p.cls, p.at_, p.cnt, x⟩).toArray := by
  have h1 := h.set_ 18 (.string x)
  have h2 := set_mid ([Value.int .i64 p.cls, Value.int .i64 p.at_] ++ (arrN .u8 16 p.cnt).toList) [Value.string p.sym] [] 0 (.string x) (by simp)
  have e : ([Value.int .i64 p.cls, Value.int .i64 p.at_] ++ (arrN .u8 16 p.cnt).toList).length + 0 = 18 := by simp [arrN_size]
  rw [e, List.append_nil, List.append_nil] at h2
  unfold Hf.cells at h1
  rw [h2] at h1
  exact h1
end
def RHPost (w : World) (P : St × List Hf) (e : Ending) (w' : World) : Prop :=
  ∃ v, e = .returned (.tuple #[v, .int .i64 P.1.e]) ∧ (∃ A n cp, v = .slice A n cp) ∧ (P.1.e = 0 → OwnC Hf.cells 19 w' w.heap.size 155 v P.2) ∧ Below w.heap.size w w'
structure RhI (w : World) (v : Value) (l : List Hf) (wr : World) : Prop where
  ow : OwnC Hf.cells 19 wr w.heap.size 155 v l
  be : Below w.heap.size w wr
theorem RhI.bel {w wr w' : World} {v : Value} {l : List Hf} (h : RhI w v l wr) (hb : Below wr.heap.size wr w') : RhI w v l w' := ⟨h.ow.bel hb, h.be.trans (hb.mono h.be.size)⟩
theorem RhI.set {w wr : World} {v : Value} {l : List Hf} (h : RhI w v l wr) {p : Addr} (hp : v.ownBlock ≠ some p.block) (hb : w.heap.size ≤ p.block) (u : Value) : RhI w v l (wr.setCell p u) := ⟨h.ow.set hp u, h.be.setCell hb u⟩
set_option maxHeartbeats 4000000 in
theorem refHuffs_walk (s : ByteArray) (hs : s.size ≤ 65533) (w : World) :
    Calls Tryd.prog 41 #[.string s] w (RHPost w (huR s st0)) := by
  obtain ⟨P, hP⟩ : ∃ P, P = huR s st0 := ⟨_, rfl⟩
  rw [← hP]
  have HP0 := Lib.hid hP; clear hP
  have HI0 : Hid (RhI w (.slice none 0 0) [] w) := Lib.hid ⟨OwnC.nil _ _ _, Below.refl _ _⟩
  go_enter Tryd.func41, Tryd.ntmps41
  go_wp2_with fail
  go_loopw [4, 5] (fun v iv wr => ∃ (f i : Nat) (l : List Hf), iv = .int .i64 i ∧ i ≤ s.size ∧ Hid (i = 0 ↔ l = []) ∧ Hid (RhI w v l wr) ∧ Hid (huL s f (⟨i, 0⟩, l) = P) ∧ Hid (s.size + 1 ≤ f + i) ∧ Hid (l.length + f = s.size + 1)) (fun _ iv _ => s.size - (intOf iv).toNat)
  case atStart => exact ⟨s.size + 1, 0, [], rfl, Nat.zero_le _, Lib.hid (by simp), HI0, Lib.hid HP0.out.symm, Lib.hid (by omega), Lib.hid (by simp)⟩
  case round =>
    obtain ⟨f, i, l, rfl, hi, HIL, HI, HP, HF, HLN⟩ := hrel
    obtain ⟨A, n1, cp, rfl⟩ := HI.out.ow.form2
    by_cases hc : l = [] ∨ i < s.size
    case neg =>
      have hxe : P = (⟨i, 0⟩, l) := by rw [← HP.out, huL_no _ _ _ (fun hq => hc hq.2)]
      have hi0 : ((i : Int) == 0) = false := by
        have : i ≠ 0 := fun e => hc (.inl (HIL.out.1 e))
        simpa using this
      have hil : decide (i < s.size) = false := by simp; omega
      have HX := Lib.hid hxe; clear hxe hc
      go_wp2_with fail
      go_ret2
      refine ⟨_, by rw [HX.out]; rfl, ⟨_, _, _, rfl⟩, fun _ => by rw [HX.out]; exact HI.out.ow, HI.out.be⟩
    case pos =>
    obtain ⟨f, rfl⟩ : ∃ f', f = f' + 1 := by
      cases f with
      | zero => exfalso; have := HF.out; omega
      | succ f => exact ⟨f, rfl⟩
    have hcc : ((⟨i, 0⟩, l) : St × List Hf).1.e = 0 ∧ (((⟨i, 0⟩, l) : St × List Hf).2 = [] ∨ ((⟨i, 0⟩, l) : St × List Hf).1.a < s.size) := ⟨rfl, hc⟩
    have hPn : P = huL s f (hu1 s (⟨i, 0⟩, l)) := by rw [← HP.out, huL, if_pos hcc]
    have hPe : ∀ e, (hu1 s (⟨i, 0⟩, l)).1.e = e → e ≠ 0 → P.1.e = e := fun e h1 h2 => by rw [← HP.out, huL_err hcc (by rw [h1]; exact h2), h1]
    have HPN := Lib.hid hPn; have HPE := Lib.hid hPe; clear hPn hPe hcc
    go_upto_region 3 with fail
    go_cut [20] (fun c wx => c = .bool true ∧ wx = wr)
    case first =>
      by_cases hi0 : i = 0
      · have hz : ((i : Int) == 0) = true := by simp [hi0]
        clear hc hi0
        go_wp2_with fail
        go_meet
        case rel => exact ⟨rfl, rfl⟩
      · have hz : ((i : Int) == 0) = false := by simpa using hi0
        have hil : decide (i < s.size) = true := by
          rcases hc with h | h
          · exact absurd (HIL.out.2 h) hi0
          · simpa using h
        clear hc hi0
        go_wp2_with fail
        go_meet
        case rel => exact ⟨rfl, rfl⟩
    case rest =>
    obtain ⟨rfl, rfl⟩ := hcut
    have hll : l.length ≤ 65534 := by have := HLN.out; omega
    obtain ⟨b, hb⟩ : ∃ b, b = bAt s i := ⟨_, rfl⟩
    have hbb := bAt_bd s i
    rw [← hb] at hbb
    obtain ⟨hb0, hb1⟩ := hbb
    by_cases hbn : b < 0
    case pos =>
      have hE : P.1.e = 4 := HPE.out 4 (by
        have h1 : (tS (nS s 1 ⟨i, 0⟩) (decide (nV s 1 ⟨i, 0⟩ / 16 ≤ 1 ∧ nV s 1 ⟨i, 0⟩ % 16 ≤ 3)) 5).e = 4 := by
          have h4 := bAt_no (hb ▸ hbn)
          rw [tS_stay (by rw [h4]; decide), h4]
        exact hu1_stay h1 (by decide)) (by decide)
      have HE := Lib.hid hE; have HBE := Lib.hid hb
      clear hE hb hc
      have hd : decide (b < 0) = true := by simpa using hbn
      go_wp2_with (go_at_call 58; refine (byteAt_walk s i (by omega) (by omega) _).mono ?_; rintro ex w1 ⟨rfl, rfl⟩; rw [← HBE.out])
      go_ret2
      exact ⟨_, by rw [HE.out]; rfl, ⟨_, _, _, rfl⟩, fun h => absurd (HE.out ▸ h) (by decide), HI.out.be⟩
    case neg =>
    have hbp : 0 ≤ b := by omega
    obtain ⟨hn1, hn2, hn3⟩ := bAt_ok (s := s) (i := i) (hb ▸ hbp)
    rw [← hb] at hn2
    obtain ⟨x, hx⟩ : ∃ x, x = b / 16 := ⟨_, rfl⟩
    obtain ⟨y, hy⟩ : ∃ y, y = b % 16 := ⟨_, rfl⟩
    have hx0 : 0 ≤ x := by omega
    have hx1 : x < 16 := by omega
    have hy0 : 0 ≤ y := by omega
    have hy1 : y < 16 := by omega
    have hd0 : decide (b < 0) = false := by simp; omega
    by_cases hok : x ≤ 1 ∧ y ≤ 3
    case neg =>
      have hE : P.1.e = 5 := HPE.out 5 (by
        have h1 : (tS (nS s 1 ⟨i, 0⟩) (decide (nV s 1 ⟨i, 0⟩ / 16 ≤ 1 ∧ nV s 1 ⟨i, 0⟩ % 16 ≤ 3)) 5).e = 5 := by
          rw [hn1, hn2, ← hx, ← hy, decide_eq_false hok]
          exact tS_false _ _
        exact hu1_stay h1 (by decide)) (by decide)
      have HE := Lib.hid hE; have HBE := Lib.hid hb; have HX := Lib.hid hx; have HY := Lib.hid hy; have HOK := Lib.hid hok
      have HI2 := HI
      clear hE hb hc hn1 hn2 hx hy
      go_upto_region 8 with (go_at_call 58; refine (byteAt_walk s i (by omega) (by omega) _).mono ?_; rintro ex w1 ⟨rfl, rfl⟩; rw [← HBE.out])
      go_cut [35] (fun c wx => c = .bool true ∧ wx = wc)
      case first =>
        have hx := HX.out; have hy := HY.out
        by_cases hx2 : x ≤ 1
        · have hd1 : decide (1 < b / 16) = false := by rw [← hx]; simp; omega
          have hd2 : decide (3 < b % 16) = true := by rw [← hy]; have := HOK.out; simp; omega
          clear hx hy hok
          go_wp2_with fail
          go_meet
          case rel => exact ⟨rfl, rfl⟩
        · have hd1 : decide (1 < b / 16) = true := by rw [← hx]; simp; omega
          clear hx hy hok
          go_wp2_with fail
          go_meet
          case rel => exact ⟨rfl, rfl⟩
      case rest =>
        obtain ⟨rfl, rfl⟩ := hcut
        clear hok
        go_wp2_with fail
        go_ret2
        exact ⟨_, by rw [HE.out]; rfl, ⟨_, _, _, rfl⟩, fun h => absurd (HE.out ▸ h) (by decide), HI2.out.be⟩
    case pos =>
    obtain ⟨hxo, hyo⟩ := hok
    obtain ⟨u, hu⟩ : ∃ u : St, u = ⟨i + 1, 0⟩ := ⟨_, rfl⟩
    have hus : tS (nS s 1 ⟨i, 0⟩) (decide (nV s 1 ⟨i, 0⟩ / 16 ≤ 1 ∧ nV s 1 ⟨i, 0⟩ % 16 ≤ 3)) 5 = u := by
      rw [hn1, hn2, ← hx, ← hy, decide_eq_true (show x ≤ 1 ∧ y ≤ 3 from ⟨hxo, hyo⟩), tS_true, hu]
    have hlate : ∀ k, k ≤ 16 → (cT s u k).e = 4 → P.1.e = 4 := fun k hk h => HPE.out 4 (hu1_late (e := 4) (by
      have hus' : tS (nS s 1 ((⟨i, 0⟩, l) : St × List Hf).1) (decide (nV s 1 ((⟨i, 0⟩, l) : St × List Hf).1 / 16 ≤ 1 ∧ nV s 1 ((⟨i, 0⟩, l) : St × List Hf).1 % 16 ≤ 3)) 5 = u := hus
      rw [hus', cT_stay k 16 (by rw [h]; decide) hk, h]) (by decide)) (by decide)
    obtain ⟨sm, hsm⟩ : ∃ sm, sm = cSum s u 16 := ⟨_, rfl⟩
    have hq1 : hu1 s (⟨i, 0⟩, l) = (tS (xS s sm (cT s u 16)) (hufNew (cV s u) (xV s sm (cT s u 16))).isSome 5, l ++ [⟨x, y, cV s u, xV s sm (cT s u 16)⟩]) := by
      rw [hu1]
      have hus2 := hus
      rw [hn2, ← hx, ← hy] at hus2
      simp only [hn2, ← hx, ← hy, hus2, ← hsm]
    have hsmb := cSum_bd s u 16
    rw [← hsm] at hsmb
    obtain ⟨cs, hcs⟩ : ∃ cs, cs = (Hf.cells ⟨x, y, fun _ => 0, ⟨#[]⟩⟩).toArray := ⟨_, rfl⟩
    have hbt := refHuff_built x y
    rw [← hcs] at hbt
    have hcz : cs.size = 19 := by rw [hcs, List.size_toArray, Hf.is.len]
    have hc1 : cs.all (·.oneCell') = true := by rw [hcs]; exact all_oneCell_toArray (Hf.is.one _)
    have hd1 : decide (1 < b / 16) = false := by rw [← hx]; simp; omega
    have hd2 : decide (3 < b % 16) = false := by rw [← hy]; simp; omega
    have HBE := Lib.hid hb; have HX := Lib.hid hx; have HY := Lib.hid hy; have HLT := Lib.hid hlate; have HQ1 := Lib.hid hq1; have HSM := Lib.hid hsm; have HSB := Lib.hid hsmb; have HCS := Lib.hid hcs; have HBT := Lib.hid hbt; have HCZ := Lib.hid hcz; have HC1 := Lib.hid hc1; have HU := Lib.hid hu
    have hif : i + 1 ≤ s.size := hn3
    clear hb hc hn1 hn2 hx hy hlate hq1 hsm hsmb hcs hbt hcz hc1 hu hus
    go_upto_region 10 with (go_at_call 58; refine (byteAt_walk s i (by omega) (by omega) _).mono ?_; rintro ex w1 ⟨rfl, rfl⟩; rw [← HBE.out])
    clear hd1 hd2 hd0
    go_wp2_with (first | ((with_reducible show wpList _ _ _ (⟨some 40, _, _, _, _, _⟩ :: _) _ _); refine wpList_build2 rfl 155 (.tmp 37) (.tmp 39) (.int .i64 x) (.int .i64 y) rfl (by rw [HX.out]; rfl) (by rw [HY.out]; rfl) HBT.out ?_) | (refine wpList_store_new rfl 155 (.tmp 7) (.tmp 40) rfl cs _ 155 rfl rfl (by rw [HCZ.out]; kernel_rfl) (by rw [HCZ.out]; rfl) HC1.out ?_; intro w5 hs5 hB5 hb5; have HB5 := Lib.hid hB5; have HBW5 := Lib.hid hb5; clear hB5 hb5))
    obtain ⟨wq, rfl⟩ : ∃ wq, wq = wc := ⟨_, rfl⟩
    have hQ5 : Blk w5 wq.heap.size 155 (Hf.cells ⟨x, y, cF s u 0, ⟨#[]⟩⟩).toArray := by
      have e : Hf.cells ⟨x, y, cF s u 0, ⟨#[]⟩⟩ = Hf.cells ⟨x, y, fun _ => 0, ⟨#[]⟩⟩ := by
        unfold Hf.cells
        rw [show arrN .u8 16 (cF s u 0) = arrN .u8 16 (fun _ => 0) from arrN_congr .u8 fun j hj => by simp [cF]]
      rw [e, ← HCS.out]; exact HB5.out
    have hne : (Value.slice A n1 cp).ownBlock ≠ some wq.heap.size := HI.out.ow.ne (Nat.le_refl _)
    have HI5 := Lib.hid (HI.out.bel HBW5.out); have HQ5 := Lib.hid hQ5; have HNE := Lib.hid hne; have HWZ := Lib.hid HI.out.be.size
    clear hQ5 hne HB5 HBW5 HI
    go_loopw [5, 8, 9] (fun iv sv kv wx => ∃ k j : Nat, k ≤ 16 ∧ kv = .int .i64 k ∧ iv = .int .i64 j ∧ sv = .int .i64 (cSum s u k) ∧ j ≤ s.size ∧ Hid (j = i + 1 + k) ∧ Hid (cT s u k = ⟨j, 0⟩) ∧ Hid (RhI w (.slice A n1 cp) l wx) ∧ Hid (Blk wx wq.heap.size 155 (Hf.cells ⟨x, y, cF s u k, ⟨#[]⟩⟩).toArray)) (fun _ _ kv _ => 16 - (intOf kv).toNat)
    case atStart => exact ⟨0, i + 1, by omega, rfl, by go_num, rfl, by omega, Lib.hid (by omega), Lib.hid HU.out, HI5, HQ5⟩
    case round =>
      obtain ⟨k, j, hk, rfl, rfl, rfl, hj, HKJ, HZT, HIk, HQk⟩ := hrel
      by_cases hk16 : k < 16
      case pos =>
        have cq : wr.cell? ⟨wq.heap.size, 2 + k, none⟩ = some (.int .u8 (cF s u k k)) := hfCellC' HQk.out hk16
        have fq := HQk.out.frozen (2 + k)
        obtain ⟨v, hv⟩ : ∃ v, v = bAt s j := ⟨_, rfl⟩
        have hvb := bAt_bd s j
        rw [← hv] at hvb
        obtain ⟨hv0, hv1⟩ := hvb
        obtain ⟨sk, hsk⟩ : ∃ sk, sk = cSum s u k := ⟨_, rfl⟩
        have hskb := cSum_bd s u k
        rw [← hsk] at hskb ⊢
        obtain ⟨hsk0, hsk1⟩ := hskb
        by_cases hvn : v < 0
        case pos =>
          have h4 : (cT s u (k + 1)).e = 4 := by rw [cT, HZT.out]; exact bAt_no (hv ▸ hvn)
          have hE := HLT.out (k + 1) (by omega) h4
          have HE := Lib.hid hE; have HV := Lib.hid hv; clear hE h4 hv hsk cq fq
          go_wp2_with (go_at_call 58; refine (byteAt_walk s j (by omega) (by omega) _).mono ?_; rintro ex w1 ⟨rfl, rfl⟩; rw [← HV.out])
          go_ret2
          exact ⟨_, by rw [HE.out]; rfl, ⟨_, _, _, rfl⟩, fun h => absurd (HE.out ▸ h) (by decide), HIk.out.be⟩
        case neg =>
        have hv00 : 0 ≤ v := by omega
        obtain ⟨a1, a2, a3⟩ := bAt_ok (s := s) (i := j) (hv ▸ hv00)
        rw [← hv] at a2
        have hc1 : cT s u (k + 1) = ⟨j + 1, 0⟩ := by rw [cT, HZT.out, a1]
        have hc2 : cV s u k = v := by unfold cV; rw [HZT.out, a2]
        have hc3 : cSum s u (k + 1) = sk + v := by rw [cSum, ← hsk, hc2]
        have hd0 : decide (v < 0) = false := by simpa using hv00
        have HV := Lib.hid hv; have HC1 := Lib.hid hc1; have HC2 := Lib.hid hc2; have HC3 := Lib.hid hc3
        clear hv hsk a1 a2 hc1 hc2 hc3 hvn
        go_wp2_with (go_at_call 58; refine (byteAt_walk s j (by omega) (by omega) _).mono ?_; rintro ex w1 ⟨rfl, rfl⟩; rw [← HV.out])
        have hq2 : Blk (wr.setCell ⟨wq.heap.size, 2 + k, none⟩ (.int .u8 v)) wq.heap.size 155 (Hf.cells ⟨x, y, cF s u (k + 1), ⟨#[]⟩⟩).toArray := by
          rw [← cF_upd s u k hk16 x y ⟨#[]⟩, HC2.out]
          exact hfSetC' HQk.out hk16 v
        have HIy := Lib.hid (HIk.out.set (p := ⟨wq.heap.size, 2 + k, none⟩) HNE.out HWZ.out (.int .u8 v)); have HQy := Lib.hid hq2
        clear hq2
        go_roundw
        case rel => exact ⟨k + 1, j + 1, by omega, by go_num, by go_num, by rw [HC3.out], by omega, Lib.hid (by have := HKJ.out; omega), HC1, HIy, HQy⟩
        case measure => simp [intOf]; omega
      case neg =>
        obtain rfl : k = 16 := by omega
        rw [← HSM.out]
        obtain ⟨hsb0, hsb1⟩ := HSB.out
        obtain ⟨N, rfl⟩ := Int.eq_ofNat_of_zero_le hsb0
        have hN : N ≤ 4080 := by omega
        have hP16 := HQ1.out
        rw [HZT.out] at hP16
        by_cases hsh : s.size < j + N
        case pos =>
          have hE : P.1.e = 4 := HPE.out 4 (by
            rw [hP16]
            have h4 : (xS s (N : Int) ⟨j, 0⟩).e = 4 := by
              show txE s N j 0 = 4
              unfold txE
              rw [if_neg (by omega)]; rfl
            show (tS _ _ _).e = 4
            rw [tS_stay (by rw [h4]; decide), h4]) (by decide)
          have HE := Lib.hid hE; clear hE hP16
          have hd : decide ((s.size : Int) - (j : Int) < (N : Int)) = true := by simp; omega
          go_wp2_with fail
          go_ret2
          exact ⟨_, by rw [HE.out]; rfl, ⟨_, _, _, rfl⟩, fun h => absurd (HE.out ▸ h) (by decide), HIk.out.be⟩
        case neg =>
        have hjN : j + N ≤ s.size := by omega
        have hd : decide ((s.size : Int) - (j : Int) < (N : Int)) = false := by simp; omega
        have hxS : xS s (N : Int) ⟨j, 0⟩ = ⟨j + N, 0⟩ := by
          show St.mk (txA s N j) (txE s N j 0) = _
          unfold txA txE
          rw [if_pos (by omega), if_pos (by omega)]; simp
        have hxV : xV s (N : Int) ⟨j, 0⟩ = s.extract j (j + N) := by
          show txV s N j = _
          unfold txV
          rw [if_pos (by omega)]; simp
        rw [hxS, hxV] at hP16
        obtain ⟨sy, hsy⟩ : ∃ sy, sy = s.extract j (j + N) := ⟨_, rfl⟩
        rw [← hsy] at hP16
        have hsyz : sy.size ≤ 5000 := by rw [hsy, ByteArray.size_extract]; omega
        have HP16 := Lib.hid hP16; have HSY := Lib.hid hsy; have HSZ := Lib.hid hsyz
        clear hP16 hxS hxV hsy hsyz hsh
        have f18 := HQk.out.frozen 18
        have c18 : wr.cell? ⟨wq.heap.size, 18, none⟩ = some (.string ⟨#[]⟩) := hfCellS' HQk.out
        go_upto_region 25 with fail
        rw [← HSY.out]
        clear f18 c18
        have hq7 : Blk (wr.setCell ⟨wq.heap.size, 18, none⟩ (.string sy)) wq.heap.size 155 (Hf.cells ⟨x, y, cV s u, sy⟩).toArray := by
          rw [← cF_all]; exact hfSetS' HQk.out sy
        have HI7 := Lib.hid (HIk.out.set (p := ⟨wq.heap.size, 18, none⟩) HNE.out HWZ.out (.string sy)); have HQ7 := Lib.hid hq7
        clear hq7
        obtain ⟨w7, hw7⟩ : ∃ w7, w7 = wr.setCell ⟨wq.heap.size, 18, none⟩ (.string sy) := ⟨_, rfl⟩
        rw [← hw7] at HI7 HQ7 ⊢
        clear hw7
        have hcb : ∀ j, j < 16 → 0 ≤ cV s u j ∧ cV s u j ≤ 255 := fun j _ => by have := nV_bd s (cT s u j); unfold cV; omega
        have hna := fun w' => codes_any (cV s u) sy w' hcb HSZ.out
        obtain ⟨ok, hok⟩ : ∃ ok, ok = (hufNew (cV s u) sy).isSome := ⟨_, rfl⟩
        rw [← hok] at hna HP16
        obtain ⟨ca, hca⟩ : ∃ ca, ca = cV s u := ⟨_, rfl⟩
        rw [← hca] at hna HQ7 HP16
        obtain ⟨aa, haa⟩ : ∃ aa, aa = (arrN .u8 16 ca).toList := ⟨_, rfl⟩
        have haa2 : arrN .u8 16 ca = aa.toArray := by rw [haa]
        have hal : aa.length = 16 := by rw [haa, Array.length_toList, arrN_size]
        have hrg : w7.rangeAt wq.heap.size 2 aa := by rw [haa]; exact hfRange' HQ7.out
        rw [haa2] at hna
        have HNA := Lib.hid hna; have HAL := Lib.hid hal; have HRG := Lib.hid hrg
        clear hcb hna hok haa haa2 hal hrg hca
        have c18 : w7.cell? ⟨wq.heap.size, 18, none⟩ = some (.string sy) := hfCellS' HQ7.out
        go_upto_region 26 with (first | (refine wpList_load_mid rfl 138 (.tmp 77) rfl wq.heap.size 2 rfl aa (.array 16 5) HRG.out Tryd.underlying138 rfl (by rw [HAL.out]; kernel_rfl) ?_) | (go_at_call 60; refine (HNA.out _).mono ?_; rintro ex w8 ⟨⟨pv, rfl⟩, hb8⟩; have HI8 := Lib.hid (HI7.out.bel hb8); have HQ8 := Lib.hid (HQ7.out.bel hb8); clear hb8))
        clear c18
        cases ok with
        | false =>
          have hE : P.1.e = 5 := HPE.out 5 (by rw [HP16.out]; exact tS_false _ _) (by decide)
          have HE := Lib.hid hE; clear hE
          go_wp2_with fail
          go_ret2
          exact ⟨_, by rw [HE.out]; rfl, ⟨_, _, _, rfl⟩, fun h => absurd (HE.out ▸ h) (by decide), HI8.out.be⟩
        | true =>
          have hPN3 : P = huL s f (⟨j + N, 0⟩, l ++ [⟨x, y, ca, sy⟩]) := by rw [HPN.out, HP16.out, tS_true]
          obtain ⟨cq, hcq⟩ : ∃ cq, cq = (Hf.cells ⟨x, y, ca, sy⟩).toArray := ⟨_, rfl⟩
          rw [← hcq] at HQ8
          have hcqz : cq.size = 19 := by rw [hcq, List.size_toArray, Hf.is.len]
          have hcql : cq.toList = Hf.cells ⟨x, y, ca, sy⟩ := by rw [hcq]
          have HCQZ := Lib.hid hcqz; have HCQL := Lib.hid hcql; have HPN3 := Lib.hid hPN3
          clear hcq hcqz hcql hPN3
          go_wp2_with (first | (refine wpList_load_row rfl 155 (.tmp 7) rfl wq.heap.size rfl 155 cq (0, 0) _ HQ8.out Tryd.underlying155 rfl (by rw [HCQZ.out]; kernel_rfl) ?_) | (refine wpList_buildSlice1 rfl 33 155 (.tmp 87) rfl 19 cq rfl Tryd.underlying33 (by kernel_rfl) (by decide) (by decide) HCQZ.out ?_) | (at_builtin; refine appC (q := 19) (by_ := 48) (cs := cq) ⟨x, y, ca, sy⟩ Hf.is Tryd.underlying33 (by kernel_rfl) (by decide) (by decide) rfl (.tmp 86) (.tmp 88) rfl rfl rfl HCQL.out HI8.out.ow (by omega) HI8.out.be.size ?_; intro v8 w8 hO8 hk8 hb8; obtain ⟨A8, n8, cp8, rfl⟩ := hO8.form2; have HO8 := Lib.hid hO8; have HB8 := Lib.hid hb8; clear hO8 hk8 hb8))
          have hI10 : RhI w (.slice A8 n8 cp8) (l ++ [⟨x, y, ca, sy⟩]) w8 := ⟨HO8.out, HI8.out.be.trans HB8.out⟩
          have HI10 := Lib.hid hI10; clear hI10
          go_wp2_with fail
          go_roundw
          case rel => exact ⟨f, j + N, l ++ [⟨x, y, ca, sy⟩], by go_num, hjN, Lib.hid (by have := HKJ.out; simp; omega), HI10, Lib.hid HPN3.out.symm, Lib.hid (by have := HF.out; have := HKJ.out; omega), Lib.hid (by rw [List.length_append]; have := HLN.out; simp; omega)⟩
          case measure => have := HKJ.out; simp [intOf]; omega
end Go.Proofs.YthibnhgbgmpjoaaDoor
