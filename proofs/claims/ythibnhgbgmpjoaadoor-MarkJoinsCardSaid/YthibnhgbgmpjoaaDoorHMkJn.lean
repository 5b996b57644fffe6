/- Join (gen_mkjn.py). No condition. -/
import Derived.Test.YthibnhgbgmpjoaaDoorHGI
import Derived.Test.YthibnhgbgmpjoaaDoorHMkBd
import Derived.Test.YthibnhgbgmpjoaaDoorHGG
import Derived.Test.YthibnhgbgmpjoaaDoorHGF
import Derived.Lib.SlicesS
namespace Go.Proofs.YthibnhgbgmpjoaaDoor
open Go.RowKit
set_option linter.unusedSimpArgs false
set_option linter.unusedVariables false
set_option maxRecDepth 100000
/-- The bytes of a piece as Join puts them. -/
def pcB (p : Pc) : List UInt8 := (byS p.x).data.toList ++ p.data.data.toList
def jnL (m : List Pc) : List UInt8 := [255, 216] ++ catW pcB m ++ [255, 217]
def jnS (m : List Pc) : ByteArray := ⟨(jnL m).toArray⟩
/-- The same pieces, by their bytes and data. -/
def jnSame (a m : List Pc) : Prop := a.length = m.length ∧ ∀ i (h1 : i < a.length) (h2 : i < m.length), byS a[i].x = byS m[i].x ∧ a[i].data = m[i].data
def jnOk (m : List Pc) : Prop := (spF (jnS m)).2.2 = 0 ∧ jnSame (spF (jnS m)).1 m
def JnPost (w : World) (m : List Pc) (e : Ending) (w' : World) : Prop := ∃ s er, e = .returned (.tuple #[.string s, .int .i64 er]) ∧ ((er = 0 ∧ s = jnS m ∧ jnOk m) ∨ (er = 1 ∧ s = ⟨#[]⟩ ∧ ¬ jnOk m)) ∧ Below w.heap.size w w'
theorem JnPost.bad {w w' : World} {m : List Pc} (h : ¬ jnOk m) (hb : Below w.heap.size w w') : JnPost w m (.returned (.tuple #[.string ⟨#[]⟩, .int .i64 1])) w' := ⟨_, _, rfl, .inr ⟨rfl, rfl, h⟩, hb⟩
theorem catB_take {m : List Pc} {k : Nat} (h : k < m.length) : catW pcB (m.take (k + 1)) = catW pcB (m.take k) ++ (byS m[k].x).data.toList ++ m[k].data.data.toList := by
  rw [take_next m k h, catW_snoc, pcB, List.append_assoc]
theorem catB_le {m : List Pc} (k : Nat) : (catW pcB (m.take k)).length ≤ (catW pcB m).length := by
  have : catW pcB m = catW pcB (m.take k) ++ catW pcB (m.drop k) := by unfold catW; rw [← List.flatten_append, ← List.map_append, List.take_append_drop]
  rw [this, List.length_append]; omega
theorem jnL_len (m : List Pc) : (jnL m).length = 4 + (catW pcB m).length := by unfold jnL; simp; omega
set_option maxHeartbeats 0 in
theorem join_walk (w : World) (hL : Laid w) (base : Nat) (A : Option Addr) (cp : Nat) (l : List Pv) (m : List Pc) (hO : OwnC Pv.cells 3 w base 48 (.slice A l.length cp) l) (hP : PcV w base l m) (hl : l.length ≤ 100000000) (hok : ∀ p ∈ m, p.x.ok ∧ byE p.x = 0) (hz : (jnL m).length ≤ 1000000000) :
    Calls Tryd.prog 12 #[.slice A l.length cp] w (JnPost w m) := by
  have HO := Lib.hid hO; have HP := Lib.hid hP; have HK := Lib.hid hok; have HL := Lib.hid hL
  have hlm : l.length = m.length := hP.1
  rw [jnL_len] at hz
  obtain ⟨n, hn⟩ : ∃ n, n = l.length := ⟨_, rfl⟩
  rw [← hn] at hl ⊢
  have HN : Hid (n = l.length ∧ n = m.length) := Lib.hid ⟨hn, by rw [hn, hlm]⟩
  have HZ := Lib.hid hz
  clear hO hP hok hL hlm hn hz
  go_enter Tryd.func12, Tryd.ntmps12
  have HD0 := Lib.hid (bdr_new w.heap.size w (Nat.le_refl _))
  have HB0 := Lib.hid ((Below.refl w.heap.size w).alloc (Nat.le_refl _) (.cells #[.pointer none, .slice none 0 0] 75))
  go_upto_region 3 with (go_at_call 25; refine (bWrite_walk w.heap.size w.heap.size [] ⟨#[255, 216]⟩ _ (by decide) HD0.out).mono ?_; rintro ex w2 ⟨⟨x2, rfl⟩, hd2, hb2, _⟩; have HD2 : Hid (Bdr w.heap.size w.heap.size [255, 216] w2) := Lib.hid (.inr hd2); have HB2 := Lib.hid (HB0.out.trans hb2); clear hd2 hb2)
  clear HD0 HB0
  go_wp2_with fail
  go_loopw [22] (fun i wr => ∃ k : Nat, k ≤ n ∧ i = .int .i64 k ∧ Hid (Bdr w.heap.size w.heap.size ([255, 216] ++ catW pcB (m.take k)) wr ∧ Below w.heap.size w wr)) (fun i _ => n - (intOf i).toNat)
  case atStart => exact ⟨0, by omega, rfl, Lib.hid ⟨by simpa [catW] using HD2.out, HB2.out⟩⟩
  case round =>
    obtain ⟨k, hk, rfl, HI⟩ := hrel
    clear HD2 HB2
    by_cases hkl : k < n
    case pos =>
      have hk1 : k < l.length := by rw [← HN.out.1]; exact hkl
      have hk2 : k < m.length := by rw [← HN.out.2]; exact hkl
      obtain ⟨ga, rfl, hga1, hga, hca⟩ := (HO.out.bel HI.out.2).at_ Pv.is hk1
      obtain ⟨p1, p2, p3⟩ := HP.out.2 k hk1 hk2
      obtain ⟨ok1, ok2⟩ := HK.out m[k] (List.getElem_mem hk2)
      have hct := catB_take hk2
      have hcl := catB_le (m := m) (k + 1)
      obtain ⟨bs, hbs⟩ : ∃ bs, bs = byS m[k].x := ⟨_, rfl⟩
      obtain ⟨dd, hdd⟩ : ∃ dd, dd = m[k].data := ⟨_, rfl⟩
      obtain ⟨q, hq⟩ : ∃ q, q = l[k] := ⟨_, rfl⟩
      have hby : ∀ W, Below wr.heap.size wr W → Calls Tryd.prog 11 #[l[k].v] W fun e w' => e = .returned (.tuple #[.string bs, .int .i64 0]) ∧ Below W.heap.size W w' := fun W hW => by
        have := bytes_any ((HL.out.below HI.out.2).below hW) ((p3.bel HI.out.2).bel hW) ok1
        rw [ok2, ← hbs] at this; exact this
      rw [← hq] at hca p1 p2 hby
      rw [← hdd] at p2 hct
      rw [← hbs] at hct
      obtain ⟨pa, T, y, pd⟩ := q
      dsimp only at p2
      subst p2
      have q0 : wr.cell? ⟨ga, k * 3, none⟩ = some (.int .i64 pa) := hca 0 (by decide)
      have q1 : wr.cell? ⟨ga, k * 3 + 1, none⟩ = some (.iface T y) := hca 1 (by decide)
      have q2 : wr.cell? ⟨ga, k * 3 + 2, none⟩ = some (.string pd) := hca 2 (by decide)
      have HBY := Lib.hid hby; have HCT := Lib.hid hct
      have HSZ : Hid ((catW pcB (m.take k)).length + bs.size + pd.size ≤ 1000000000) := Lib.hid (by
        have h1 := HZ.out
        have h2 := congrArg List.length hct
        simp only [List.length_append, Array.length_toList] at h2
        have e1 : bs.data.size = bs.size := rfl
        have e2 : pd.data.size = pd.size := rfl
        omega)
      have hw1 : w.heap.size < wr.heap.size + 1 := by have := HI.out.2.size; omega
      have HA : Hid (Blk (wr.alloc (.cells #[.int .i64 pa, .iface T y, .string pd] 48)) wr.heap.size 48 #[.int .i64 pa, .iface T y, .string pd] ∧ Below wr.heap.size wr (wr.alloc (.cells #[.int .i64 pa, .iface T y, .string pd] 48))) := Lib.hid ⟨Blk.new _ _ _, (Below.refl _ _).alloc (Nat.le_refl _) _⟩
      clear hca p1 p3 ok1 ok2 hct hcl hbs hdd hq hby
      go_wp2_with (first | (go_at_call 11; refine (HBY.out _ HA.out.2).mono ?_; rintro ex w3 ⟨rfl, hb3⟩; have HD3 : Hid (Bdr w.heap.size w.heap.size ([255, 216] ++ catW pcB (m.take k)) w3 ∧ Below w.heap.size w w3 ∧ Blk w3 wr.heap.size 48 #[.int .i64 pa, .iface T y, .string pd]) := Lib.hid ⟨(HI.out.1.bel HA.out.2).bel hb3, (HI.out.2.trans (HA.out.2.mono HI.out.2.size)).trans (hb3.mono (Nat.le_trans HI.out.2.size HA.out.2.size)), HA.out.1.bel hb3⟩; clear hb3 HBY q0 q1 q2) | (go_at_call 25; refine (bWrite_walk w.heap.size w.heap.size _ bs _ (by have := HSZ.out; simp only [List.length_append, List.length_cons, List.length_nil]; omega) HD3.out.1).mono ?_; rintro ex w4 ⟨⟨x4, rfl⟩, hd4, hb4, hk4⟩; have HP4 := hk4 _ _ _ (by decide) (by decide) HD3.out.2.2; have q2 : w4.cell? ⟨wr.heap.size, 2, none⟩ = some (.string pd) := HP4.cell 2; have HD4 : Hid (Bdr w.heap.size w.heap.size (([255, 216] ++ catW pcB (m.take k)) ++ bs.data.toList) w4 ∧ Below w.heap.size w w4) := Lib.hid ⟨.inr hd4, HD3.out.2.1.trans hb4⟩; clear hd4 hb4 hk4 HP4 HD3) | (go_at_call 25; refine (bWrite_walk w.heap.size w.heap.size _ pd _ (by have h := HSZ.out; have e1 : bs.data.size = bs.size := rfl; simp only [List.length_append, List.length_cons, List.length_nil, Array.length_toList]; omega) HD4.out.1).mono ?_; rintro ex w5 ⟨⟨x5, rfl⟩, hd5, hb5, _⟩; have HD5 : Hid (Bdr w.heap.size w.heap.size ((([255, 216] ++ catW pcB (m.take k)) ++ bs.data.toList) ++ pd.data.toList) w5 ∧ Below w.heap.size w w5) := Lib.hid ⟨.inr hd5, HD4.out.2.trans hb5⟩; clear hd5 hb5 q2))
      go_roundw
      case rel => exact ⟨k + 1, by omega, by go_num, Lib.hid ⟨by rw [HCT.out]; simpa [List.append_assoc] using HD5.out.1, HD5.out.2⟩⟩
      case measure => simp [intOf]; omega
    case neg =>
      obtain rfl : n = k := by omega
      have HI2 : Hid (Bdr w.heap.size w.heap.size ([255, 216] ++ catW pcB m) wr ∧ Below w.heap.size w wr) := Lib.hid (by have := HI.out; rw [HN.out.2, List.take_length] at this; exact this)
      clear HI
      go_upto_region 14 with (first | (go_at_call 25; refine (bWrite_walk w.heap.size w.heap.size _ ⟨#[255, 217]⟩ _ (by have := HZ.out; simp only [List.length_append, List.length_cons, List.length_nil]; have : (⟨#[255, 217]⟩ : ByteArray).size = 2 := rfl; omega) HI2.out.1).mono ?_; rintro ex w3 ⟨⟨x3, rfl⟩, hd3, hb3, _⟩; have HD3 : Hid (Bdr w.heap.size w.heap.size (jnL m) w3 ∧ Below w.heap.size w w3) := Lib.hid ⟨.inr hd3, HI2.out.2.trans hb3⟩; clear hd3 hb3) | (go_at_call 23; refine (bString_walk w.heap.size w.heap.size _ _ HD3.out.1).mono ?_; rintro ex w4 ⟨rfl, hb4⟩; have HB4 := Lib.hid (HD3.out.2.trans hb4); clear hb4))
      obtain ⟨F, hF⟩ : ∃ F, F = jnS m := ⟨_, rfl⟩
      rw [show (⟨(jnL m).toArray⟩ : ByteArray) = F from hF.symm]
      have HF := Lib.hid hF; clear hF HI2 HD3
      have HSP := Lib.hid (splitF_walk F w4 (HL.out.below HB4.out))
      have hgd := fun mm b => spF_good (s := F) (m := mm) (b := b)
      have hsm : jnOk m ↔ (spF F).2.2 = 0 ∧ jnSame (spF F).1 m := by rw [HF.out]; exact Iff.rfl
      obtain ⟨R, hR⟩ : ∃ R, R = spF F := ⟨_, rfl⟩
      unfold SplitFPost at HSP
      rw [← hR] at HSP hgd hsm
      obtain ⟨a, b, e⟩ := R
      dsimp only at HSP hgd hsm
      clear hR
      have HSM := Lib.hid hsm; have HGD := Lib.hid hgd
      clear hsm hgd
      go_upto_region 15 with (go_at_call 8; refine (HSP.out).mono ?_; rintro ex w5 ⟨v5, l5, rfl, hO5, hP5, hb5⟩; have HO5 := Lib.hid hO5; have HP5 := Lib.hid hP5; have HB5 := Lib.hid (HB4.out.trans (hb5.mono HB4.out.size)); clear hO5 hP5 hb5)
      obtain ⟨A5, cp5, hv5, _⟩ := HO5.out.form
      subst hv5
      clear HSP HB4
      obtain ⟨n5, hn5⟩ : ∃ n5, n5 = l5.length := ⟨_, rfl⟩
      rw [← hn5]
      have HN5 : Hid (n5 = l5.length ∧ n5 = a.length) := Lib.hid ⟨hn5, by rw [hn5]; exact HP5.out.1⟩
      clear hn5
      by_cases he : e = 0
      case neg =>
        have hno : ¬ jnOk m := fun h => he (HSM.out.1 h).1
        have HNO := Lib.hid hno
        have d1 : (e != 0) = true := by simpa using he
        clear he hno
        go_wp2_with fail
        go_ret2
        exact JnPost.bad HNO.out HB5.out
      case pos =>
      obtain rfl := he
      by_cases hnn : n5 = n
      case neg =>
        have HNO := Lib.hid (show ¬ jnOk m from fun h => hnn (by rw [HN5.out.2, HN.out.2]; exact (HSM.out.1 h).2.1))
        have d1 : ((n5 : Int) != (n : Int)) = true := by simp; omega
        clear hnn
        go_wp2_with fail
        go_ret2
        exact JnPost.bad HNO.out HB5.out
      case pos =>
      obtain rfl := hnn
      have hG := (HGD.out a b rfl).2.1
      have HG := Lib.hid hG
      have d1 : ((n5 : Int) != (n5 : Int)) = false := by simp
      clear HGD hG
      go_upto_region 17 with fail
      clear d1
      go_wp2_with fail
      go_loopw [59] (fun i wr => ∃ k : Nat, k ≤ n5 ∧ i = .int .i64 k ∧ Hid (Below w5.heap.size w5 wr ∧ ∀ i (h1 : i < a.length) (h2 : i < m.length), i < k → byS a[i].x = byS m[i].x ∧ a[i].data = m[i].data)) (fun i _ => n5 - (intOf i).toNat)
      case atStart => exact ⟨0, by omega, rfl, Lib.hid ⟨Below.refl _ _, fun i _ _ h => absurd h (Nat.not_lt_zero i)⟩⟩
      case round =>
        obtain ⟨k, hk, rfl, HI⟩ := hrel
        have HBr := Lib.hid (HB5.out.trans (HI.out.1.mono HB5.out.size))
        by_cases hkl : k < n5
        case neg =>
          obtain rfl : n5 = k := by omega
          have hyes : jnOk m := HSM.out.2 ⟨by trivial, by rw [← HN5.out.2, HN.out.2], fun i h1 h2 => HI.out.2 i h1 h2 (by rw [HN5.out.2]; exact h1)⟩
          have HYES := Lib.hid hyes
          clear hyes
          go_wp2_with fail
          go_ret2
          exact ⟨_, _, rfl, .inl ⟨rfl, HF.out, HYES.out⟩, HBr.out⟩
        case pos =>
        have hk1 : k < l.length := by rw [← HN.out.1]; exact hkl
        have hk2 : k < m.length := by rw [← HN.out.2]; exact hkl
        have hk3 : k < l5.length := by rw [← HN5.out.1]; exact hkl
        have hk4 : k < a.length := by rw [← HN5.out.2]; exact hkl
        obtain ⟨g5, rfl, hg51, hg5, hc5⟩ := (HO5.out.bel HI.out.1).at_ Pv.is hk3
        obtain ⟨ga, rfl, hga1, hga, hca⟩ := (HO.out.bel HBr.out).at_ Pv.is hk1
        obtain ⟨_, s2, s3⟩ := HP5.out.2 k hk3 hk4
        obtain ⟨_, p2, p3⟩ := HP.out.2 k hk1 hk2
        obtain ⟨ok1, ok2⟩ := HK.out m[k] (List.getElem_mem hk2)
        have hgb := parse_back (HG.out a[k] (List.getElem_mem hk4)).e
        rw [← (HG.out a[k] (List.getElem_mem hk4)).x] at hgb
        obtain ⟨_, _, _, ok3, ok4⟩ := hgb
        have hnx : ∀ i (h1 : i < a.length) (h2 : i < m.length), i < k + 1 → byS a[k].x = byS m[k].x → a[k].data = m[k].data → byS a[i].x = byS m[i].x ∧ a[i].data = m[i].data := fun i h1 h2 h3 h4 h5 => by
          by_cases e : i = k
          · subst e; exact ⟨h4, h5⟩
          · exact HI.out.2 i h1 h2 (by omega)
        have hno : ¬ (byS a[k].x = byS m[k].x ∧ a[k].data = m[k].data) → ¬ jnOk m := fun h h0 => h ((HSM.out.1 h0).2.2 k hk4 hk2)
        obtain ⟨ba, hba⟩ : ∃ bs, bs = byS a[k].x := ⟨_, rfl⟩
        obtain ⟨bm, hbm⟩ : ∃ bs, bs = byS m[k].x := ⟨_, rfl⟩
        obtain ⟨da, hda⟩ : ∃ dd, dd = a[k].data := ⟨_, rfl⟩
        obtain ⟨dm, hdm⟩ : ∃ dd, dd = m[k].data := ⟨_, rfl⟩
        obtain ⟨q, hq⟩ : ∃ q, q = l[k] := ⟨_, rfl⟩
        obtain ⟨q5, hq5⟩ : ∃ q, q = l5[k] := ⟨_, rfl⟩
        have hby : ∀ W, Below wr.heap.size wr W → Calls Tryd.prog 11 #[l[k].v] W fun e w' => e = .returned (.tuple #[.string bm, .int .i64 0]) ∧ Below W.heap.size W w' := fun W hW => by
          have := bytes_any ((HL.out.below HBr.out).below hW) ((p3.bel HBr.out).bel hW) ok1
          rw [ok2, ← hbm] at this; exact this
        have hby5 : ∀ W, Below wr.heap.size wr W → Calls Tryd.prog 11 #[l5[k].v] W fun e w' => e = .returned (.tuple #[.string ba, .int .i64 0]) ∧ Below W.heap.size W w' := fun W hW => by
          have := bytes_any ((HL.out.below HBr.out).below hW) ((s3.bel HI.out.1).bel hW) ok3
          rw [ok4, ← hba] at this; exact this
        rw [← hba, ← hbm, ← hda, ← hdm] at hno hnx
        rw [← hq] at hca p2 hby
        rw [← hq5] at hc5 s2 hby5
        rw [← hdm] at p2
        rw [← hda] at s2
        obtain ⟨pa, T, y, dq⟩ := q
        obtain ⟨pa5, T5, y5, dp⟩ := q5
        dsimp only at p2 s2
        subst p2 s2
        have q0 : wr.cell? ⟨g5, k * 3, none⟩ = some (.int .i64 pa5) := hc5 0 (by decide)
        have q1 : wr.cell? ⟨g5, k * 3 + 1, none⟩ = some (.iface T5 y5) := hc5 1 (by decide)
        have q2 : wr.cell? ⟨g5, k * 3 + 2, none⟩ = some (.string dp) := hc5 2 (by decide)
        have u1 : wr.cell? ⟨ga, k * 3 + 1, none⟩ = some (.iface T y) := hca 1 (by decide)
        have u2 : wr.cell? ⟨ga, k * 3 + 2, none⟩ = some (.string dq) := hca 2 (by decide)
        have HBY := Lib.hid hby; have HBY5 := Lib.hid hby5; have HNX := Lib.hid hnx; have HNOK := Lib.hid hno; have HU1 := Lib.hid u1; have HU2 := Lib.hid u2
        have HA : Hid (Blk (wr.alloc (.cells #[.int .i64 pa5, .iface T5 y5, .string dp] 48)) wr.heap.size 48 #[.int .i64 pa5, .iface T5 y5, .string dp] ∧ Below wr.heap.size wr (wr.alloc (.cells #[.int .i64 pa5, .iface T5 y5, .string dp] 48))) := Lib.hid ⟨Blk.new _ _ _, (Below.refl _ _).alloc (Nat.le_refl _) _⟩
        clear hca hc5 p3 s3 ok1 ok2 ok3 ok4 hba hbm hda hdm hq hq5 hby hby5 hnx hno u1 u2
        go_upto_region 22 with (first | (go_at_call 11; refine (HBY5.out _ HA.out.2).mono ?_; rintro ex w7 ⟨rfl, hb7⟩; have HB7 := Lib.hid (HA.out.2.trans (hb7.mono HA.out.2.size)); have HP7 := Lib.hid (HA.out.1.bel hb7); have u1 : w7.cell? ⟨ga, k * 3 + 1, none⟩ = some (.iface T y) := (HB7.out.cell (p := ⟨ga, k * 3 + 1, none⟩) hga).trans HU1.out; clear hb7 HBY5 q0 q1 q2) | (go_at_call 11; refine (HBY.out _ HB7.out).mono ?_; rintro ex w9 ⟨rfl, hb9⟩; have HP9 := Lib.hid (HP7.out.bel hb9); have HB9' := Lib.hid (HB7.out.trans (hb9.mono HB7.out.size)); clear hb9 u1))
        have HB9 := Lib.hid (HI.out.1.trans (HB9'.out.mono HI.out.1.size))
        have HQ9 := Lib.hid ((HB9'.out.cell (p := ⟨ga, k * 3 + 2, none⟩) hga).trans HU2.out)
        have hga9 : ga < w9.heap.size := Nat.lt_of_lt_of_le hga HB9'.out.size
        clear HU1 HU2 HA HB7 HP7 HBY
        by_cases hb : ba = bm
        case neg =>
          have HNO := Lib.hid (HNOK.out fun h => hb h.1)
          refine region_plan (.run [0, 1] (.held 2 (.run [3, 4, 5, 6, 7, 8, 9, 10] (.held 11 (.run [12] .fin))))) (fun w' => True) (by kernel_rfl) trivial ?_
          intro wd hwd
          have hbd : Below w9.heap.size w9 wd := hwd ▸ (Below.refl _ w9).drew
          have HBd := Lib.hid (HB9.out.trans (hbd.mono HB9.out.size))
          have r0 : wd.cell? ⟨wr.heap.size, 2, none⟩ = some (.string dp) := (hbd.cell (p := ⟨wr.heap.size, 2, none⟩) HP9.out.lt).trans (HP9.out.cell 2)
          have r1 : wd.cell? ⟨ga, k * 3 + 2, none⟩ = some (.string dq) := (hbd.cell (p := ⟨ga, k * 3 + 2, none⟩) hga9).trans HQ9.out
          clear hbd
          clear hwd
          refine plan_run fun m hm => ?_
          simp only [pickO, List.filterMap_cons, List.filterMap_nil, List.getElem?_toArray, List.getElem?_cons_zero, List.getElem?_cons_succ] at hm
          subst hm
          go_wp2_with fail
          refine ⟨rfl, by rfl, ?_⟩
          refine plan_held (o := ⟨some 81, _, _, _, _, _⟩) (v := .bool true) rfl (by rfl) (fun w' hS => ?_) ?_
          · exact exec_sne rfl rfl rfl _ (by rw [decide_eq_true hb])
          try simp only [Act.put, List.setIfInBounds_toArray, List.set_cons_zero, List.set_cons_succ]
          refine plan_run fun m hm => ?_
          simp only [pickO, List.filterMap_cons, List.filterMap_nil, List.getElem?_toArray, List.getElem?_cons_zero, List.getElem?_cons_succ] at hm
          subst hm
          go_wp2_with fail
          refine ⟨rfl, by rfl, ?_⟩
          refine plan_off (o := ⟨some 90, _, _, _, _, _⟩) rfl (by rfl) ?_
          try simp only [Act.put, List.setIfInBounds_toArray, List.set_cons_zero, List.set_cons_succ]
          refine plan_run fun m hm => ?_
          simp only [pickO, List.filterMap_cons, List.filterMap_nil, List.getElem?_toArray, List.getElem?_cons_zero, List.getElem?_cons_succ] at hm
          subst hm
          go_wp2_with fail
          refine ⟨rfl, by rfl, ?_⟩
          refine plan_fin ?_
          go_wp2_with fail
          go_ret2
          exact JnPost.bad HNO.out (HB5.out.trans (HBd.out.mono HB5.out.size))
        case pos =>
        obtain rfl := hb
        by_cases hd : dp = dq
        case neg =>
          have HNO := Lib.hid (HNOK.out fun h => hd h.2)
          refine region_plan (.run [0, 1] (.held 2 (.run [3, 4, 5, 6, 7, 8, 9, 10] (.held 11 (.run [12] .fin))))) (fun w' => True) (by kernel_rfl) trivial ?_
          intro wd hwd
          have hbd : Below w9.heap.size w9 wd := hwd ▸ (Below.refl _ w9).drew
          have HBd := Lib.hid (HB9.out.trans (hbd.mono HB9.out.size))
          have r0 : wd.cell? ⟨wr.heap.size, 2, none⟩ = some (.string dp) := (hbd.cell (p := ⟨wr.heap.size, 2, none⟩) HP9.out.lt).trans (HP9.out.cell 2)
          have r1 : wd.cell? ⟨ga, k * 3 + 2, none⟩ = some (.string dq) := (hbd.cell (p := ⟨ga, k * 3 + 2, none⟩) hga9).trans HQ9.out
          clear hbd
          clear hwd
          refine plan_run fun m hm => ?_
          simp only [pickO, List.filterMap_cons, List.filterMap_nil, List.getElem?_toArray, List.getElem?_cons_zero, List.getElem?_cons_succ] at hm
          subst hm
          go_wp2_with fail
          refine ⟨rfl, by rfl, ?_⟩
          refine plan_held (o := ⟨some 81, _, _, _, _, _⟩) (v := .bool false) rfl (by rfl) (fun w' hS => ?_) ?_
          · exact exec_sne rfl rfl rfl _ (by rw [decide_eq_false (by simp)])
          try simp only [Act.put, List.setIfInBounds_toArray, List.set_cons_zero, List.set_cons_succ]
          refine plan_run fun m hm => ?_
          simp only [pickO, List.filterMap_cons, List.filterMap_nil, List.getElem?_toArray, List.getElem?_cons_zero, List.getElem?_cons_succ] at hm
          subst hm
          go_wp2_with fail
          refine ⟨rfl, by rfl, ?_⟩
          refine plan_held (o := ⟨some 90, _, _, _, _, _⟩) (v := .bool true) rfl (by rfl) (fun w' hS => ?_) ?_
          · exact exec_sne rfl rfl rfl _ (by rw [decide_eq_true hd])
          try simp only [Act.put, List.setIfInBounds_toArray, List.set_cons_zero, List.set_cons_succ]
          refine plan_run fun m hm => ?_
          simp only [pickO, List.filterMap_cons, List.filterMap_nil, List.getElem?_toArray, List.getElem?_cons_zero, List.getElem?_cons_succ] at hm
          subst hm
          go_wp2_with fail
          refine ⟨rfl, by rfl, ?_⟩
          refine plan_fin ?_
          go_wp2_with fail
          go_ret2
          exact JnPost.bad HNO.out (HB5.out.trans (HBd.out.mono HB5.out.size))
        case pos =>
        obtain rfl := hd
        have HI9 : Hid (∀ i (h1 : i < a.length) (h2 : i < m.length), i < k + 1 → byS a[i].x = byS m[i].x ∧ a[i].data = m[i].data) := Lib.hid fun i h1 h2 h3 => HNX.out i h1 h2 h3 rfl rfl
        refine region_plan (.run [0, 1] (.held 2 (.run [3, 4, 5, 6, 7, 8, 9, 10] (.held 11 (.run [12] .fin))))) (fun w' => True) (by kernel_rfl) trivial ?_
        intro wd hwd
        have hbd : Below w9.heap.size w9 wd := hwd ▸ (Below.refl _ w9).drew
        have HBd := Lib.hid (HB9.out.trans (hbd.mono HB9.out.size))
        have r0 : wd.cell? ⟨wr.heap.size, 2, none⟩ = some (.string dp) := (hbd.cell (p := ⟨wr.heap.size, 2, none⟩) HP9.out.lt).trans (HP9.out.cell 2)
        have r1 : wd.cell? ⟨ga, k * 3 + 2, none⟩ = some (.string dp) := (hbd.cell (p := ⟨ga, k * 3 + 2, none⟩) hga9).trans HQ9.out
        clear hbd
        clear hwd
        refine plan_run fun m hm => ?_
        simp only [pickO, List.filterMap_cons, List.filterMap_nil, List.getElem?_toArray, List.getElem?_cons_zero, List.getElem?_cons_succ] at hm
        subst hm
        go_wp2_with fail
        refine ⟨rfl, by rfl, ?_⟩
        refine plan_held (o := ⟨some 81, _, _, _, _, _⟩) (v := .bool false) rfl (by rfl) (fun w' hS => ?_) ?_
        · exact exec_sne rfl rfl rfl _ (by rw [decide_eq_false (by simp)])
        try simp only [Act.put, List.setIfInBounds_toArray, List.set_cons_zero, List.set_cons_succ]
        refine plan_run fun m hm => ?_
        simp only [pickO, List.filterMap_cons, List.filterMap_nil, List.getElem?_toArray, List.getElem?_cons_zero, List.getElem?_cons_succ] at hm
        subst hm
        go_wp2_with fail
        refine ⟨rfl, by rfl, ?_⟩
        refine plan_held (o := ⟨some 90, _, _, _, _, _⟩) (v := .bool false) rfl (by rfl) (fun w' hS => ?_) ?_
        · exact exec_sne rfl rfl rfl _ (by rw [decide_eq_false (by simp)])
        try simp only [Act.put, List.setIfInBounds_toArray, List.set_cons_zero, List.set_cons_succ]
        refine plan_run fun m hm => ?_
        simp only [pickO, List.filterMap_cons, List.filterMap_nil, List.getElem?_toArray, List.getElem?_cons_zero, List.getElem?_cons_succ] at hm
        subst hm
        go_wp2_with fail
        refine ⟨rfl, by rfl, ?_⟩
        refine plan_fin ?_
        go_wp2_with fail
        go_roundw
        case rel => exact ⟨k + 1, by omega, by go_num, Lib.hid ⟨HBd.out, HI9.out⟩⟩
        case measure => simp [intOf]; omega

end Go.Proofs.YthibnhgbgmpjoaaDoor
