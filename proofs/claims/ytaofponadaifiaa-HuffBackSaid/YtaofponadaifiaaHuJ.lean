/- One bit of both readers; the symbol that comes next, of both. No condition. -/
import Derived.Test.YtaofponadaifiaaHuI
import Derived.Test.YtaofponadaifiaaHuC
import Derived.Test.YtaofponadaifiaaHuG
namespace Go.Proofs.Ytaofponadaifiaa
open Go.RowKit
set_option linter.unusedSimpArgs false
set_option linter.unusedVariables false
def PbitP (s : ByteArray) (a : Nat) (H : List Int) (g : Nat) (w : World) (e : Ending) (w' : World) : Prop := match bit1 s a H with
  | none => e = .returned (.tuple #[.int .i64 0, .int .i64 2]) ∧ RdV w' g s a (valB H) H.length ∧ Only g w w'
  | some (b, a', H') => e = .returned (.tuple #[.int .i64 b, .int .i64 0]) ∧ RdV w' g s a' (valB H') H'.length ∧ Only g w w'
theorem pbit (w : World) (g : Nat) (s : ByteArray) (a : Nat) (H : List Int) (h : RdV w g s a (valB H) H.length) (hs : s.size ≤ 1000000) (I : InvR s a H) :
    Calls Try.prog 28 #[.pointer (some ⟨g, 0, none⟩), .int .i64 1] w (PbitP s a H g w) := by
  have r := valB_range H I.bits
  have e1 := rdL_rdB s 1 3 H a I.bits
  have hw := rbits_walk w g s (valB H) H.length a 1 h hs (by have := I.le; omega) I.few (by omega) r.1 r.2
  refine hw.mono ?_
  rintro e w' ⟨rfl, h2, h3⟩
  unfold PbitP bit1
  cases hr : rdB s 1 3 H a with
  | none =>
    rw [hr] at e1
    have e2 : bitsR s 1 (valB H) H.length a = (.tuple #[.int .i64 0, .int .i64 2], (a : Int), valB H, (H.length : Int)) := by unfold bitsR; rw [e1]; rfl
    rw [e2] at h2 ⊢
    exact ⟨rfl, h2, h3⟩
  | some p =>
    obtain ⟨H', a'⟩ := p
    rw [hr] at e1
    obtain ⟨b1, b2, b3, b4⟩ := rdB_ok s 1 3 H a H' a' I.bits I.le (by omega) (by have := I.few; omega) hr
    have hd : valB H' = valB (H'.take 1) * 2 ^ (H'.length - 1) + valB (H'.drop 1) := by
      have e := valB_append (H'.take 1) (H'.drop 1)
      rw [List.take_append_drop, List.length_drop] at e
      exact e
    have rd := valB_range (H'.drop 1) (b1.drop 1)
    rw [List.length_drop] at rd
    have hp := two_pos (H'.length - 1)
    have d1 : valB H' / 2 ^ (H'.length - 1) = valB (H'.take 1) := by
      rw [hd, Int.add_comm, Int.add_mul_ediv_right _ _ (by omega), Int.ediv_eq_zero_of_lt rd.1 rd.2]; omega
    have d2 : valB H' % 2 ^ (H'.length - 1) = valB (H'.drop 1) := by
      rw [hd, Int.add_comm, Int.add_mul_emod_self_right, Int.emod_eq_of_lt rd.1 rd.2]
    have e2 : bitsR s 1 (valB H) H.length a = (.tuple #[.int .i64 (valB (H'.take 1)), .int .i64 0], (a' : Int), valB (H'.drop 1), ((H'.drop 1).length : Int)) := by
      unfold bitsR
      rw [e1]
      simp only [Option.map_some]
      rw [d1, d2, List.length_drop]
    rw [e2] at h2 ⊢
    exact ⟨rfl, h2, h3⟩
theorem PbitP.none {s : ByteArray} {a : Nat} {H : List Int} {g : Nat} {w w' : World} {e : Ending} (h : PbitP s a H g w e w') (h1 : bit1 s a H = none) : e = .returned (.tuple #[.int .i64 0, .int .i64 2]) ∧ RdV w' g s a (valB H) H.length ∧ Only g w w' := by unfold PbitP at h; rw [h1] at h; exact h
theorem PbitP.some {s : ByteArray} {a a' : Nat} {H H' : List Int} {b : Int} {g : Nat} {w w' : World} {e : Ending} (h : PbitP s a H g w e w') (h1 : bit1 s a H = some (b, a', H')) : e = .returned (.tuple #[.int .i64 b, .int .i64 0]) ∧ RdV w' g s a' (valB H') H'.length ∧ Only g w w' := by unfold PbitP at h; rw [h1] at h; exact h
/-- The document's Bits of one bit. -/
theorem rbit (s : ByteArray) (a : Nat) (H : List Int) (hs : s.size ≤ 1000000) (I : InvR s a H) (w : World) (y : Value) (hy : HeldV w y H) :
    Calls Try.prog 19 #[rV s a y, .int .i64 1] w fun e w' => Hid ((bit1 s a H = none ∧ e = .returned (.tuple #[.int .i64 0, rV s a y, .int .i64 2]) ∧ Below w.heap.size w w') ∨ ∃ b a' H' y', bit1 s a H = some (b, a', H') ∧ e = .returned (.tuple #[.int .i64 b, rV s a' y', .int .i64 0]) ∧ HeldV w' y' H' ∧ Below w.heap.size w w') := by
  refine (refBits_ok s a y H 1 hs (by have := I.le; omega) (by omega) I.few I.bits w hy).mono ?_
  intro e w' hp
  have hp := hp.out
  unfold bit1
  cases hr : rdB s 1 3 H a with
  | none =>
    rw [hr] at hp
    exact Lib.hid (Or.inl ⟨rfl, hp.1, hp.2⟩)
  | some p =>
    obtain ⟨H', a'⟩ := p
    rw [hr] at hp
    obtain ⟨y', h1, h2, _, h4⟩ := hp
    exact Lib.hid (Or.inr ⟨_, _, _, y', rfl, h1, h2, h4⟩)
theorem or_bit (x b : Int) (h0 : 0 ≤ x) (h1 : x < 1073741824) (b0 : 0 ≤ b) (b1 : b ≤ 1) : bits .or .i64 (x * 2) b = x * 2 + b := by
  have e := or_shift x b 1 (by omega) h0 h1 b0 (by have e : (2 : Int) ^ 1 = 2 := by decide
                                                   omega)
  have e2 : (2 : Int) ^ 1 = 2 := by decide
  rw [e2, wrap_small b b0 (by omega), wrap_small (x * 2) (by omega) (by omega)] at e
  exact e
/-- What Next answers. -/
def NextP (cnt : Nat → Int) (s ds : ByteArray) (L : List Int) (r : Nat) (w : World) (e : Ending) (w' : World) : Prop :=
  e = .returned (.tuple #[.int .i64 (decP cnt s L).1, .int .i64 (decP cnt s L).2.2]) ∧ ∃ (a : Nat) (H : List Int), RdV w' r ds a (valB H) H.length ∧ InvR ds a H ∧ ((decP cnt s L).2.2 = 0 → remB ds a H = L.drop (decP cnt s L).2.1) ∧ Only r w w'
theorem NextP.mk {cnt : Nat → Int} {s ds : ByteArray} {L : List Int} {r : Nat} {w w' : World} {e : Ending} {a : Nat} {H : List Int} (h1 : RdV w' r ds a (valB H) H.length) (h2 : InvR ds a H) (h3 : e = .returned (.tuple #[.int .i64 (decP cnt s L).1, .int .i64 (decP cnt s L).2.2]) ∧ ((decP cnt s L).2.2 = 0 → remB ds a H = L.drop (decP cnt s L).2.1)) (h4 : Only r w w') : NextP cnt s ds L r w e w' := ⟨h3.1, a, H, h1, h2, h3.2, h4⟩
theorem next_rng {cnt : Nat → Int} {s : ByteArray} {st : HS} (h0 : hufNew cnt s = some st) (m : Nat) (hm : m < 16) : ∃ F A : Nat, fsF cnt s (m + 1) = F ∧ atF cnt s (m + 1) = A ∧ F ≤ 131070 ∧ A + (cnt m).toNat ≤ s.size := by
  obtain ⟨h16, h2, _⟩ := hufNew_hOut h0
  obtain ⟨g, hg, S16⟩ := sim_out 16 st h16
  obtain ⟨i1, _⟩ := gOut_get 16 g hg
  obtain ⟨gm, a1, a2, _⟩ := i1 m hm
  cases hk : hOut cnt s m with
  | none => rw [hOut_none hk 16 (by omega)] at h16; cases h16
  | some sm =>
    obtain ⟨gm', b1, S⟩ := sim_out m sm hk
    rw [a1] at b1; injection b1 with b1; subst b1
    have hb := (hOut_bd hk).1
    have h6 : 2 ^ m ≤ 2 ^ 15 := Nat.pow_le_pow_right (n := 2) (by omega) (by omega)
    have h7 := S16.at_
    have h8 := S.at_
    refine ⟨2 * sm.next, sm.at_, by simp only [fsF, hk]; omega, by simp only [atF, hk], by omega, by omega⟩
set_option maxHeartbeats 0 in
set_option maxRecDepth 20000 in
theorem next_walk (cnt : Nat → Int) (s ds : ByteArray) (st : HS) (g r a : Nat) (H : List Int) (fs at_ : Nat → Int) (w : World) (hT : Tab w g cnt s st.cb st.cn fs at_) (hfs : ∀ j, 1 ≤ j → j ≤ 16 → fs j = fsF cnt s j ∧ at_ j = atF cnt s j) (hc : ∀ j, j < 16 → 0 ≤ cnt j ∧ cnt j ≤ 255) (h0 : hufNew cnt s = some st)
    (hR : RdV w r ds a (valB H) H.length) (hI : InvR ds a H) (hne : g ≠ r) (hds : ds.size ≤ 1000000) (hss : s.size ≤ 100000) : Calls Try.prog 20 #[.pointer (some ⟨g, 0, none⟩), .pointer (some ⟨r, 0, none⟩)] w (NextP cnt s ds (remB ds a H) r w) := by
  obtain ⟨L, hL⟩ : ∃ L, L = remB ds a H := ⟨_, rfl⟩
  have hbits : ∀ b ∈ L, b = 0 ∨ b = 1 := by rw [hL]; exact remB_bit (mB ds a H) a H hI (Nat.le_refl _)
  have HL0 : Hid (remB ds a H = L.drop 0) := Lib.hid (by rw [hL, List.drop_zero])
  rw [← hL]
  have HT := Lib.hid hT; have HFS := Lib.hid hfs; have HCR := Lib.hid hc; have HST := Lib.hid h0; have HR := Lib.hid hR; have HI := Lib.hid hI; have HNE := Lib.hid hne; have HBT := Lib.hid hbits
  clear hT hfs hc h0 hR hI hne hL hbits
  go_enter Try.func20, Try.ntmps20
  go_wp2_with fail
  go_loopw [6, 7] (fun vv n wr => ∃ (m a2 : Nat) (v : Int) (H2 : List Int), m ≤ 16 ∧ (0 ≤ v ∧ v ≤ 65535) ∧ vv = .int .i64 v ∧ n = .int .i64 ((m : Int) + 1) ∧ Hid (v < 2 ^ m) ∧ Hid (InvR ds a2 H2) ∧ Hid (remB ds a2 H2 = L.drop m) ∧ Hid (decP cnt s L = goD (hitP cnt s) (16 - m) (m + 1) v (L.drop m)) ∧ Hid (RdV wr r ds a2 (valB H2) H2.length) ∧ Hid (Tab wr g cnt s st.cb st.cn fs at_) ∧ Hid (Only r w wr)) (fun _ n _ => 17 - (intOf n).toNat)
  case atStart => exact ⟨0, a, 0, H, by omega, by omega, rfl, rfl, Lib.hid (by decide), HI, HL0, Lib.hid (by rw [List.drop_zero]; rfl), HR, HT, Lib.hid (Only.refl _ _)⟩
  case round =>
    obtain ⟨m, a2, v, H2, hm, hv, rfl, rfl, hvm, HI2, HL2, HD, HR2, HT2, HO2⟩ := hrel
    by_cases hlt : m < 16
    · have hcall := pbit wr r ds a2 H2 HR2.out hds HI2.out
      have h16 : decide ((m : Int) + 1 ≤ 16) = true := by simp; omega
      obtain ⟨f, hf⟩ : ∃ f, 16 - m = f + 1 := ⟨15 - m, by omega⟩
      cases hb : bit1 ds a2 H2 with
      | none =>
        have hd : decP cnt s L = (0, 0, 2) := by
          rw [HD.out, ← HL2.out, remB_none hb, hf]; rfl
        have HC := Lib.hid hcall; have HB := Lib.hid hb; have HDD := Lib.hid hd
        clear hcall hb hd hf
        go_wp2_with (first | (go_at_call 28; refine HC.out.mono ?_; intro e w3 hp; obtain ⟨rfl, hR3, hO3⟩ := PbitP.none hp HB.out; have HR3 := Lib.hid hR3; have HO3 := Lib.hid (HO2.out.trans hO3); clear hp hR3 hO3))
        go_ret2
        refine NextP.mk HR3.out HI2.out ?_ HO3.out
        rw [HDD.out]
        exact ⟨rfl, fun h => by cases h⟩
      | some p =>
        obtain ⟨b, a3, H3⟩ := p
        obtain ⟨I3, _, hb01⟩ := bit1_ok HI2.out hb
        have hcons := remB_some HI2.out hb
        rw [HL2.out] at hcons
        have hL3 : remB ds a3 H3 = L.drop (m + 1) := by
          have e : L.drop (m + 1) = (L.drop m).drop 1 := by rw [List.drop_drop]
          rw [e, hcons]; rfl
        obtain ⟨F, A, hF, hA, hF2, hAs⟩ := next_rng HST.out m hlt
        have hcm := HCR.out m hlt
        obtain ⟨cc, hcc⟩ : ∃ cc : Nat, cnt m = cc := ⟨(cnt m).toNat, by omega⟩
        have hor := or_bit v b hv.1 (by omega) (by omega) (by omega)
        obtain ⟨v2, hv2⟩ : ∃ v2, v2 = v * 2 + b := ⟨_, rfl⟩
        have hv2b : v2 < 2 ^ (m + 1) := by have := hvm.out; rw [Int.pow_succ]; omega
        have hv3 : 0 ≤ v2 ∧ v2 ≤ 65535 := by
          obtain ⟨Q, q1, q2, _⟩ := pow_cast (m + 1)
          have : Q ≤ 65536 := by rw [q2]; exact Nat.pow_le_pow_right (n := 2) (by omega) (show m + 1 ≤ 16 by omega)
          rw [q1] at hv2b
          omega
        have hgo : decP cnt s L = match hitP cnt s (m + 1) v2 with | some x => ((x : Int), m + 1, 0) | none => goD (hitP cnt s) f (m + 1 + 1) v2 (L.drop (m + 1)) := by
          rw [HD.out, hcons, hf, goD, ← hv2, hL3]
          cases hitP cnt s (m + 1) v2 <;> rfl
        have hff : f = 16 - (m + 1) := by omega
        have hor2 : bits .or .i64 (v * 2) b = v2 := by rw [hor, hv2]
        have hfsm := HFS.out (m + 1) (by omega) (by omega)
        have HC := Lib.hid hcall; have HB := Lib.hid hb; have HGO := Lib.hid hgo; have HL3 := Lib.hid hL3; have HI3 := Lib.hid I3; have HV2 := Lib.hid hv2b; have HFF := Lib.hid hff; have HFM := Lib.hid hF; have HAM := Lib.hid hA; have HFSM := Lib.hid hfsm; have HCC := Lib.hid hcc
        have hcl : cc ≤ 255 := by omega
        have hAs2 : A + cc ≤ s.size := by rw [hcc] at hAs; omega
        clear hcall hb hgo hL3 I3 hv2b hf hcons hF hA hAs hcm hcc hor hv2 hff hb01 hfsm
        obtain ⟨kk, hkk⟩ : ∃ kk, v2 - (F : Int) = kk := ⟨_, rfl⟩
        by_cases hit : 0 ≤ kk ∧ kk < cc
        · obtain ⟨K, rfl⟩ : ∃ K : Nat, kk = K := ⟨kk.toNat, by omega⟩
          have hKc : K < cc := by omega
          have hA9 : A ≤ 100000 := by omega
          have hK9 : K ≤ 255 := by omega
          have hAK : ((A : Int) + (K : Int)).toNat = A + K := by omega
          have hbs : A + K < s.size := by omega
          obtain ⟨x, hx⟩ : ∃ x, s[A + K].toNat = x := ⟨_, rfl⟩
          have hxs : symN s (A + K) = x := by rw [← hx]; exact (symN_eq hbs).symm
          have hh : hitP cnt s (m + 1) v2 = some x := by
            unfold hitP
            rw [HFM.out, HAM.out, Nat.add_sub_cancel, HCC.out, if_pos (by omega), ← hxs]
            congr 2
            omega
          have hdd : decP cnt s L = ((x : Int), m + 1, 0) := by rw [HGO.out, hh]
          have HDD := Lib.hid hdd
          have d1 : decide (K < cc) = true := by simpa using hKc
          have hx2 : x < 256 := by rw [← hx]; exact UInt8.toNat_lt _
          clear hxs hh hdd hit
          go_wp2_with fail
          refine HC.out.mono ?_
          intro e w3 hp
          obtain ⟨rfl, hR3, hO3⟩ := PbitP.some hp HB.out
          have HR3 := Lib.hid hR3
          have HT3 := Lib.hid (show Tab w3 g cnt s st.cb st.cn fs at_ from Only.blk hO3 HT2.out HNE.out)
          have HO3 := Lib.hid (HO2.out.trans hO3)
          have cf : w3.cell? ⟨g, 529 + (m + 1), none⟩ = some (.int .i64 F) := by rw [HT3.out.gFs (i := m + 1) (by omega), HFSM.out.1, HFM.out]
          have cc1 : w3.cell? ⟨g, m, none⟩ = some (.int .u8 cc) := by rw [HT3.out.gCnt hlt, HCC.out]
          clear hp hR3 hO3
          have ca : w3.cell? ⟨g, 546 + (m + 1), none⟩ = some (.int .i64 A) := by rw [HT3.out.gAt (i := m + 1) (by omega), HFSM.out.2, HAM.out]
          go_wp2_with fail
          refine region_plan (.run [0, 1, 2, 3, 4, 5, 6, 7, 8, 9, 10, 11, 12, 13, 14, 15] .fin) (fun w' => True) (by kernel_rfl) trivial ?_
          intro wd hwd
          have c16 : wd.cell? ⟨g, 16, none⟩ = some (.string s) := by rw [hwd]; exact HT3.out.sym
          have cat : wd.cell? ⟨g, 546 + (m + 1), none⟩ = some (.int .i64 A) := by rw [hwd]; exact ca
          have HR9 : Hid (RdV wd r ds a3 (valB H3) H3.length) := Lib.hid (by rw [hwd]; exact HR3.out.drew)
          have HO9 : Hid (Only r w wd) := Lib.hid (by rw [hwd]; exact HO3.out.drew)
          clear ca
          clear hwd
          refine plan_run fun m hm => ?_
          simp only [pickO, List.filterMap_cons, List.filterMap_nil, List.getElem?_toArray, List.getElem?_cons_zero, List.getElem?_cons_succ] at hm
          subst hm
          go_wp2_with fail
          refine ⟨rfl, by rfl, ?_⟩
          refine plan_fin ?_
          go_wp2_with fail
          go_ret2
          refine NextP.mk HR9.out HI3.out ?_ HO9.out
          rw [HDD.out]
          exact ⟨rfl, fun _ => HL3.out⟩
        · have hh : hitP cnt s (m + 1) v2 = none := by
            unfold hitP
            rw [HFM.out, HAM.out, Nat.add_sub_cancel, HCC.out, if_neg (by omega)]
          have HNH := Lib.hid hh; clear hh
          by_cases hk0 : 0 ≤ kk
          · have d0 : decide (0 ≤ kk) = true := by simpa using hk0
            have d1 : decide (kk < (cc : Int)) = false := by simp; omega
            clear hit
            go_wp2_with fail
            refine HC.out.mono ?_
            intro e w3 hp
            obtain ⟨rfl, hR3, hO3⟩ := PbitP.some hp HB.out
            have HR3 := Lib.hid hR3
            have HT3 := Lib.hid (show Tab w3 g cnt s st.cb st.cn fs at_ from Only.blk hO3 HT2.out HNE.out)
            have HO3 := Lib.hid (HO2.out.trans hO3)
            have cf : w3.cell? ⟨g, 529 + (m + 1), none⟩ = some (.int .i64 F) := by rw [HT3.out.gFs (i := m + 1) (by omega), HFSM.out.1, HFM.out]
            have cc1 : w3.cell? ⟨g, m, none⟩ = some (.int .u8 cc) := by rw [HT3.out.gCnt hlt, HCC.out]
            clear hp hR3 hO3
            go_wp2
            exact ⟨⟨m + 1, a3, v2, H3, by omega, by omega, rfl, by go_num, HV2, HI3, HL3, Lib.hid (by rw [HGO.out, HNH.out, HFF.out]), HR3, HT3, HO3⟩, by simp [intOf]; omega⟩
          · have d0 : decide (0 ≤ kk) = false := by simpa using hk0
            clear hit
            go_wp2_with fail
            refine HC.out.mono ?_
            intro e w3 hp
            obtain ⟨rfl, hR3, hO3⟩ := PbitP.some hp HB.out
            have HR3 := Lib.hid hR3
            have HT3 := Lib.hid (show Tab w3 g cnt s st.cb st.cn fs at_ from Only.blk hO3 HT2.out HNE.out)
            have HO3 := Lib.hid (HO2.out.trans hO3)
            have cf : w3.cell? ⟨g, 529 + (m + 1), none⟩ = some (.int .i64 F) := by rw [HT3.out.gFs (i := m + 1) (by omega), HFSM.out.1, HFM.out]
            have cc1 : w3.cell? ⟨g, m, none⟩ = some (.int .u8 cc) := by rw [HT3.out.gCnt hlt, HCC.out]
            clear hp hR3 hO3
            go_wp2
            exact ⟨⟨m + 1, a3, v2, H3, by omega, by omega, rfl, by go_num, HV2, HI3, HL3, Lib.hid (by rw [HGO.out, HNH.out, HFF.out]), HR3, HT3, HO3⟩, by simp [intOf]; omega⟩
    · obtain ⟨hm16⟩ : m = 16 := by omega
      have hd : decP cnt s L = (0, 0, 9) := by rw [HD.out]; rfl
      have HDD := Lib.hid hd; clear hd
      go_wp2
      go_ret2
      refine NextP.mk HR2.out HI2.out ?_ HO2.out
      rw [HDD.out]
      exact ⟨rfl, fun h => by cases h⟩
end Go.Proofs.Ytaofponadaifiaa
