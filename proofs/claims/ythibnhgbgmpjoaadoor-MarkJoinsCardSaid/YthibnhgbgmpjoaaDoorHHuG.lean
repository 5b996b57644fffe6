/- The document's Codes and Find. No condition. -/
import Derived.Test.YthibnhgbgmpjoaaDoorHGH
import Derived.Test.YthibnhgbgmpjoaaDoorHOwnS
namespace Go.Proofs.YthibnhgbgmpjoaaDoor
open Go.RowKit
set_option linter.unusedSimpArgs false
set_option linter.unusedVariables false
def fC (s : ByteArray) (g : GS) : Nat → Nat → Int := fun i j => if j = 0 then (symN s i : Int) else if j = 1 then (g.bi i : Int) else (g.ni i : Int)
theorem RdS.at3 {w : World} {A : Option Addr} {n : Nat} {f : Nat → Nat → Int} (h : RdS w A n 3 f) {i : Nat} (hi : i < n) : ∃ g off, A = some ⟨g, off, none⟩ ∧ g < w.heap.size ∧ w.cell? ⟨g, off + i * 3, none⟩ = some (.int .i64 (f i 0)) ∧ w.cell? ⟨g, off + i * 3 + 1, none⟩ = some (.int .i64 (f i 1)) ∧ w.cell? ⟨g, off + i * 3 + 2, none⟩ = some (.int .i64 (f i 2)) := by
  obtain ⟨g, off, h1, h2, h3⟩ := h i hi
  exact ⟨g, off, h1, h2, h3 0 (by decide), h3 1 (by decide), h3 2 (by decide)⟩
theorem ownS_some3 {w : World} {base e q n c m : Nat} {A : Option Addr} {f : Nat → Nat → Int} (h : OwnS w base e q (.slice A m c) n f) (hn : 0 < n) : ∃ g, A = some ⟨g, 0, none⟩ := by
  rcases h.2 with ⟨h1, h0⟩ | ⟨g, cap, cur, h1, _⟩
  · omega
  · injection h1 with h1; exact ⟨g, h1⟩
def bdG (g : GS) : Prop := ∀ i, i < g.at_ → 1 ≤ g.ni i ∧ g.ni i ≤ 16 ∧ g.bi i ≤ 33423615
theorem bdG_in {s : ByteArray} {n : Nat} (hn : 1 ≤ n) (hn2 : n ≤ 16) : ∀ (k : Nat) (g g' : GS), gIn s n k g = some g' → g.next + k ≤ 33423615 → bdG g → bdG g' ∧ g'.next = g.next + k
  | 0, g, g', h, _, hb => by simp [gIn] at h; subst h; exact ⟨hb, rfl⟩
  | k + 1, g, g', h, hx, hb => by
    rw [gIn] at h
    cases hk : gIn s n k g with
    | none => rw [hk] at h; cases h
    | some g2 =>
      rw [hk] at h
      obtain ⟨i1, i2⟩ := bdG_in hn hn2 k g g2 hk (by omega) hb
      simp only at h
      split at h
      · cases h
      · injection h with h; subst h
        refine ⟨fun i hi => ?_, by simp only; omega⟩
        simp only at hi
        by_cases e : i = g2.at_
        · subst e; simp only [updN, if_pos]; omega
        · simp only [updN, if_neg e]; exact i1 i (by omega)
theorem bdG_out {cnt : Nat → Int} {s : ByteArray} (hc : ∀ j, j < 16 → 0 ≤ cnt j ∧ cnt j ≤ 255) : ∀ (n : Nat) (g : GS), n ≤ 16 → gOut cnt s n = some g → bdG g
  | 0, g, _, h => by simp [gOut] at h; subst h; exact fun i hi => absurd hi (Nat.not_lt_zero _)
  | n + 1, g, hn, h => by
    rw [gOut] at h
    cases hk : gOut cnt s n with
    | none => rw [hk] at h; cases h
    | some g2 =>
      rw [hk] at h
      have h1 := bdG_out hc n g2 (by omega) hk
      obtain ⟨h2, _⟩ := gOut_bd hc n g2 (by omega) hk
      have h5 := hc n (by omega)
      have h6 : 2 ^ n ≤ 2 ^ 15 := Nat.pow_le_pow_right (n := 2) (by omega) (by omega)
      exact (bdG_in (by omega) hn _ _ _ h (by simp only; omega) h1).1
/-- What the document's Codes answers. -/
def CodesP (w : World) (cnt : Nat → Int) (s : ByteArray) (e : Ending) (w' : World) : Prop :=
  (∃ g v, gOut cnt s 16 = some g ∧ GoodG s g ∧ e = .returned (.tuple #[v, .bool true]) ∧ OwnS w' w.heap.size 172 3 v g.at_ (fC s g) ∧ Below w.heap.size w w') ∨
  ((gOut cnt s 16 = none ∨ ∃ g, gOut cnt s 16 = some g ∧ ¬ GoodG s g) ∧ e = .returned (.tuple #[.slice none 0 0, .bool false]) ∧ Below w.heap.size w w')
theorem CodesP.no {w w' : World} {cnt : Nat → Int} {s : ByteArray} {e : Ending} (h : gOut cnt s 16 = none ∨ ∃ g, gOut cnt s 16 = some g ∧ ¬ GoodG s g) (he : e = .returned (.tuple #[.slice none 0 0, .bool false])) (hb : Below w.heap.size w w') : CodesP w cnt s e w' := Or.inr ⟨h, he, hb⟩
theorem CodesP.yes {w w' : World} {cnt : Nat → Int} {s : ByteArray} {e : Ending} (g : GS) (v : Value) (h : gOut cnt s 16 = some g) (hG : GoodG s g) (he : e = .returned (.tuple #[v, .bool true])) (ho : OwnS w' w.heap.size 172 3 v g.at_ (fC s g)) (hb : Below w.heap.size w w') : CodesP w cnt s e w' := Or.inl ⟨g, v, h, hG, he, ho, hb⟩
theorem gOut_in {cnt : Nat → Int} {s : ByteArray} {m k : Nat} {g : GS} (h : gOut cnt s m = some g) (h2 : gIn s (m + 1) k { g with next := g.next * 2 } = none) (hm : m < 16) (hk : k ≤ (cnt m).toNat) : gOut cnt s 16 = none := by
  refine gOut_more (k := m + 1) ?_ 16 (by omega)
  rw [gOut, h]
  exact gIn_more k _ _ hk h2
set_option maxHeartbeats 0 in
set_option maxRecDepth 20000 in
theorem codes_walk (cnt : Nat → Int) (s : ByteArray) (w : World) (hc : ∀ j, j < 16 → 0 ≤ cnt j ∧ cnt j ≤ 255) (hs : s.size ≤ 5000) :
    Calls Tryd.prog 60 #[.agg (arrN .u8 16 cnt), .string s] w (CodesP w cnt s) := by
  have hcb := Lib.hid hc; clear hc
  obtain ⟨ar, har⟩ : ∃ ar, ar = arrN .u8 16 cnt := ⟨_, rfl⟩
  rw [← har]
  have HAR := Lib.hid har
  clear har
  have hal : Below w.heap.size w (w.alloc (.cells ar 138)) := (Below.refl _ _).alloc (Nat.le_refl _) _
  have HAL := Lib.hid hal; clear hal
  go_enter Tryd.func60, Tryd.ntmps60
  go_wp2_with fail
  go_loopw [6, 7, 8] (fun o x n wr => ∃ (m a nx : Nat) (A : Option Addr) (c : Nat) (g : GS), m ≤ 16 ∧ nx ≤ 16711680 ∧ a ≤ s.size ∧ o = .slice A a c ∧ x = .int .i64 nx ∧ n = .int .i64 ((m : Int) + 1) ∧ Hid (g.next = nx ∧ g.at_ = a) ∧ Hid (gOut cnt s m = some g) ∧ Hid (OwnS wr w.heap.size 172 3 (.slice A a c) a (fC s g)) ∧ Hid (Blk wr w.heap.size 138 ar) ∧ Hid (Below w.heap.size w wr)) (fun _ _ n _ => 17 - (intOf n).toNat)
  case atStart => exact ⟨0, 0, 0, none, 0, ⟨0, 0, fun _ => 0, fun _ => 0⟩, by omega, by omega, by omega, rfl, rfl, rfl, Lib.hid ⟨rfl, rfl⟩, Lib.hid rfl, Lib.hid (OwnS.nil _ _ _ _ _), Lib.hid (Blk.new w _ _), HAL⟩
  case round =>
    obtain ⟨m, a, nx, A, c0, g, hm, hnx, ha, rfl, rfl, rfl, hst, hout, HO, HC, HB⟩ := hrel
    by_cases hlt : m < 16
    · obtain ⟨cc, hcc⟩ : ∃ cc : Nat, (cc : Int) = cnt m := ⟨(cnt m).toNat, by have := hcb.out m hlt; omega⟩
      have hc2 : cc ≤ 255 := by have := hcb.out m hlt; omega
      have HCC := Lib.hid hcc; clear hcc
      have h16 : decide ((m : Int) + 1 ≤ 16) = true := by simp; omega
      go_wp2_with fail
      go_loopw [6, 7, 9] (fun o x j wr => ∃ (k a2 nx2 : Nat) (A2 : Option Addr) (c2 : Nat) (g2 : GS), k ≤ cc ∧ nx2 ≤ 33423360 + k ∧ a2 ≤ s.size ∧ o = .slice A2 a2 c2 ∧ x = .int .i64 nx2 ∧ j = .int .i64 k ∧ Hid (g2.next = nx2 ∧ g2.at_ = a2) ∧ Hid (gIn s (m + 1) k { g with next := g.next * 2 } = some g2) ∧ Hid (OwnS wr w.heap.size 172 3 (.slice A2 a2 c2) a2 (fC s g2)) ∧ Hid (Blk wr w.heap.size 138 ar) ∧ Hid (Below w.heap.size w wr)) (fun _ _ j _ => cc - (intOf j).toNat)
      case atStart => exact ⟨0, a, nx * 2, A, c0, { g with next := g.next * 2 }, by omega, by omega, ha, rfl, by go_num, rfl, Lib.hid ⟨by simp only; rw [hst.out.1], hst.out.2⟩, Lib.hid rfl, HO, HC, HB⟩
      case round =>
        obtain ⟨k, a2, nx2, A2, c2, g2, hk, hnx2, ha2, rfl, rfl, rfl, hst2, hin, HO, HC, HB⟩ := hrel
        have cm : wr.cell? ⟨w.heap.size, m, none⟩ = some (.int .u8 cc) := by rw [HC.out.cell m, HAR.out, arrN_get _ _ hlt, HCC.out]
        by_cases hlt2 : k < cc
        · by_cases has : a2 = s.size
          · have g1 : ((a2 : Int) == (s.size : Int)) = true := by simp; omega
            have HAS := Lib.hid has; clear has
            go_wp2
            go_ret2
            exact CodesP.no (Or.inl (gOut_in hout.out (k := k + 1) (by rw [gIn, hin.out]; simp only; rw [if_pos (by rw [hst2.out.2]; exact HAS.out)]) hlt (by rw [← HCC.out]; omega))) rfl HB.out
          · have g1 : ((a2 : Int) == (s.size : Int)) = false := by simp; omega
            have hbs : a2 < s.size := by omega
            obtain ⟨x, hx⟩ : ∃ x, s[a2].toNat = x := ⟨_, rfl⟩
            have hx2 : x < 256 := by rw [← hx]; exact UInt8.toNat_lt _
            have hxs : symN s a2 = x := by rw [← hx]; exact (symN_eq hbs).symm
            have HXS := Lib.hid hxs; have HAS := Lib.hid has; clear hxs has
            go_wp2_with (first | (at_builtin; refine appS (q := 3) (by_ := 24) (cs := #[.int .i64 x, .int .i64 nx2, .int .i64 ((m : Int) + 1)]) (fun j => if j = 0 then (x : Int) else if j = 1 then (nx2 : Int) else ((m : Int) + 1)) Tryd.underlying156 (by kernel_rfl) (by decide) (by decide) rfl (.tmp 34) (.tmp 43) rfl rfl rfl rfl HO.out (by omega) HB.out.size ?_; intro v7 w7 hO7 hk7 _ hb7; obtain ⟨A8, c8, rfl, _, _⟩ := hO7.form; have HO7 := Lib.hid hO7; have HC7 := Lib.hid (hk7 _ _ _ (by decide) HC.out); have HB7 := Lib.hid (HB.out.trans hb7); clear hO7 hk7 hb7))
            refine ⟨⟨k + 1, a2 + 1, nx2 + 1, A8, c8, ⟨g2.next + 1, g2.at_ + 1, updN g2.bi g2.at_ g2.next, updN g2.ni g2.at_ (m + 1)⟩, by omega, by omega, by omega, by go_num, by go_num, by go_num, Lib.hid ⟨by simp only; rw [hst2.out.1], by simp only; rw [hst2.out.2]⟩, Lib.hid ?_, Lib.hid ?_, HC7, HB7⟩, by simp [intOf]; omega⟩
            · rw [gIn, hin.out]; simp only; rw [if_neg (by rw [hst2.out.2]; exact HAS.out)]
            · refine HO7.out.congr fun i hi q hq => ?_
              unfold fC
              by_cases e : i = a2
              · subst e
                simp only [updN, hst2.out.1, hst2.out.2, HXS.out, if_pos, Int.natCast_add, Int.natCast_one]
              · simp only [updN, hst2.out.1, hst2.out.2, if_neg e]
        · obtain rfl : k = cc := by omega
          go_wp2
          have h2 := gOut_bd hcb.out (m + 1) g2 (by omega) (by rw [gOut, hout.out, ← HCC.out]; exact hin.out)
          have h6 : 2 ^ (m + 1) ≤ 2 ^ 16 := Nat.pow_le_pow_right (n := 2) (by omega) (by omega)
          rw [hst2.out.1] at h2
          exact ⟨⟨m + 1, a2, nx2, A2, c2, g2, by omega, by omega, ha2, rfl, rfl, by go_num, hst2, Lib.hid (by rw [gOut, hout.out, ← HCC.out]; exact hin.out), HO, HC, HB⟩, by simp [intOf]; omega⟩
    · have HM16 := Lib.hid (show m = 16 by omega)
      have HO16 : Hid (gOut cnt s 16 = some g) := Lib.hid (by rw [← HM16.out]; exact hout.out)
      have h16 : decide ((m : Int) + 1 ≤ 16) = false := by simp; omega
      have hbd := bdG_out hcb.out 16 g (by omega) HO16.out
      have hgs := hst.out.2
      have HBD := Lib.hid hbd; have HGS := Lib.hid hgs
      clear hbd hgs
      by_cases h0 : a ≠ s.size ∨ a = 0 ∨ 256 < a
      · have hno : ¬ GoodG s g := fun hG => by
          have h1 := hG.1; have h2 := hG.2.1; have h3 := hG.2.2.1
          rw [HGS.out] at h1 h2 h3
          omega
        have HN := Lib.hid hno; clear hno
        by_cases h1 : a = s.size
        · have g1 : ((a : Int) != (s.size : Int)) = false := by simp; omega
          by_cases h2 : a = 0
          · have g2 : ((a : Int) == 0) = true := by simp; omega
            clear h1 h2 h0
            go_wp2
            go_ret2
            exact CodesP.no (Or.inr ⟨g, HO16.out, HN.out⟩) rfl HB.out
          · have g2 : ((a : Int) == 0) = false := by simp; omega
            have g3 : decide ((256 : Int) < (a : Int)) = true := by simp; omega
            clear h1 h2 h0
            go_wp2
            go_ret2
            exact CodesP.no (Or.inr ⟨g, HO16.out, HN.out⟩) rfl HB.out
        · have g1 : ((a : Int) != (s.size : Int)) = true := by simp; omega
          clear h1 h0
          go_wp2
          go_ret2
          exact CodesP.no (Or.inr ⟨g, HO16.out, HN.out⟩) rfl HB.out
      · have g1 : ((a : Int) != (s.size : Int)) = false := by simp; omega
        have g2 : ((a : Int) == 0) = false := by simp; omega
        have g3 : decide ((256 : Int) < (a : Int)) = false := by simp; omega
        have H0 := Lib.hid h0
        obtain ⟨b1, rfl⟩ : ∃ b1, A = some ⟨b1, 0, none⟩ := ownS_some3 HO.out (by omega)
        have ha2 : a ≤ 256 := by omega
        clear h0
        go_wp2_with fail
        clear g1 g2 g3
        go_loopw [10] (fun j wr => ∃ (i : Nat), i ≤ a ∧ j = .int .i64 i ∧ Hid (∀ q, q < i → okG s g q) ∧ Hid (OwnS wr w.heap.size 172 3 (.slice (some ⟨b1, 0, none⟩) a c0) a (fC s g)) ∧ Hid (Below w.heap.size w wr)) (fun j _ => a - (intOf j).toNat)
        case atStart => exact ⟨0, by omega, rfl, Lib.hid fun q hq => absurd hq (Nat.not_lt_zero _), HO, HB⟩
        case round =>
          clear HO HB HC
          obtain ⟨i, hi, rfl, hok, HO, HB⟩ := hrel
          by_cases hlt : i < a
          · obtain ⟨A2, c2, e2, _, hR2⟩ := HO.out.form
            cases e2
            obtain ⟨b2, off2, e3, hg2, r0, r1, r2⟩ := hR2.at3 hlt
            cases e3
            rw [Nat.zero_add] at r0 r1 r2
            have hb3 := HBD.out i (by rw [HGS.out]; exact hlt)
            obtain ⟨x, hx⟩ : ∃ x : Nat, x = symN s i := ⟨_, rfl⟩
            obtain ⟨bt, hbt⟩ : ∃ bt : Nat, bt = g.bi i := ⟨_, rfl⟩
            obtain ⟨nn, hnn⟩ : ∃ nn : Nat, nn = g.ni i := ⟨_, rfl⟩
            have p0 : wr.cell? ⟨b1, i * 3, none⟩ = some (.int .i64 x) := by rw [r0, hx]; rfl
            have p1 : wr.cell? ⟨b1, i * 3 + 1, none⟩ = some (.int .i64 bt) := by rw [r1, hbt]; rfl
            have p2 : wr.cell? ⟨b1, i * 3 + 2, none⟩ = some (.int .i64 nn) := by rw [r2, hnn]; rfl
            rw [← hbt, ← hnn] at hb3
            obtain ⟨hn1, hn2, hbt2⟩ := hb3
            have HX := Lib.hid hx; have HBT := Lib.hid hbt; have HNN := Lib.hid hnn
            clear hx hbt hnn hR2 hg2 r0 r1 r2
            have d65 : decide (i < a) = true := by simpa using hlt
            go_wp2_with fail
            go_loop [11, 12] (fun o k => ∃ (k' o' : Nat), k' ≤ nn ∧ (1 ≤ o' ∧ o' ≤ 65536) ∧ Hid (o' = 2 ^ k') ∧ o = .int .i64 o' ∧ k = .int .i64 k') (fun _ k => nn - (intOf k).toNat)
            case atStart => exact ⟨0, 1, by omega, by omega, Lib.hid rfl, rfl, rfl⟩
            case round =>
              obtain ⟨k, o, hk, ho, hoe, rfl, rfl⟩ := hrel
              by_cases hlt2 : k < nn
              · have ho2 : o ≤ 32768 := by rw [hoe.out]; exact pow_le k (by omega)
                go_wp2
                exact ⟨⟨k + 1, o * 2, by omega, by omega, Lib.hid (by rw [hoe.out, Nat.pow_succ]), by go_num, by go_num⟩, by simp [intOf]; omega⟩
              · obtain rfl : nn = k := by omega
                by_cases hbad : o ≤ bt + 1
                · have g1 : decide ((o : Int) - 1 ≤ (bt : Int)) = true := by simp; omega
                  go_wp2
                  go_ret2
                  exact CodesP.no (Or.inr ⟨g, HO16.out, fun hG => by have h1 := (hG.2.2.2 i (by rw [HGS.out]; exact hlt)).1; rw [← HBT.out, ← HNN.out, ← hoe.out] at h1; omega⟩) rfl HB.out
                · have g1 : decide ((o : Int) - 1 ≤ (bt : Int)) = false := by simp; omega
                  have hok1 : g.bi i + 2 ≤ 2 ^ g.ni i := by rw [← HBT.out, ← HNN.out, ← hoe.out]; omega
                  have HOK1 := Lib.hid hok1; clear hok1
                  go_wp2_with fail
                  clear g1
                  go_loopw [13] (fun j wr => ∃ (k : Nat), k ≤ i ∧ j = .int .i64 k ∧ Hid (∀ q, q < k → symN s q ≠ symN s i) ∧ Hid (OwnS wr w.heap.size 172 3 (.slice (some ⟨b1, 0, none⟩) a c0) a (fC s g)) ∧ Hid (Below w.heap.size w wr)) (fun j _ => i - (intOf j).toNat)
                  case atStart => exact ⟨0, by omega, rfl, Lib.hid fun q hq => absurd hq (Nat.not_lt_zero _), HO, HB⟩
                  case round =>
                    clear HO HB p0 p1 p2
                    obtain ⟨k, hk3, rfl, hne, HO5, HB5⟩ := hrel
                    by_cases hlt3 : k < i
                    · obtain ⟨A2, c2, e2, _, hR2⟩ := HO5.out.form
                      cases e2
                      obtain ⟨b2, off2, e3, hg2, r0, _, _⟩ := hR2.at3 (show k < a by omega)
                      cases e3
                      obtain ⟨b2, off2, e3, hg2, r1, _, _⟩ := hR2.at3 hlt
                      cases e3
                      rw [Nat.zero_add] at r0 r1
                      obtain ⟨y, hy⟩ : ∃ y : Nat, y = symN s k := ⟨_, rfl⟩
                      have q0 : wr.cell? ⟨b1, k * 3, none⟩ = some (.int .i64 y) := by rw [r0, hy]; rfl
                      have p0 : wr.cell? ⟨b1, i * 3, none⟩ = some (.int .i64 x) := by rw [r1, HX.out]; rfl
                      have HY := Lib.hid hy
                      clear hy hR2 hg2 r0 r1
                      by_cases hxy : y = x
                      · have g1 : ((y : Int) == (x : Int)) = true := by simp; omega
                        have HXY := Lib.hid hxy; clear hxy
                        go_wp2_with fail
                        refine region_plan (.run [0, 1, 2, 3, 4, 5, 6, 7, 8, 9, 10] .fin) (fun w' => True) (by kernel_rfl) trivial ?_
                        intro wd hwd
                        have HO6 := Lib.hid (HO5.out.drewE hwd)
                        have HB6 := Lib.hid (belowD HB5.out hwd)
                        have u0 : wd.cell? ⟨b1, k * 3, none⟩ = some (.int .i64 y) := by rw [hwd]; exact q0
                        have v0 : wd.cell? ⟨b1, i * 3, none⟩ = some (.int .i64 x) := by rw [hwd]; exact p0
                        clear q0 p0
                        clear hwd
                        refine plan_run fun m hm => ?_
                        simp only [pickO, List.filterMap_cons, List.filterMap_nil, List.getElem?_toArray, List.getElem?_cons_zero, List.getElem?_cons_succ] at hm
                        subst hm
                        go_wp2_with fail
                        refine ⟨rfl, by rfl, ?_⟩
                        refine plan_fin ?_
                        go_wp2
                        go_ret2
                        exact CodesP.no (Or.inr ⟨g, HO16.out, fun hG => (hG.2.2.2 i (by rw [HGS.out]; exact hlt)).2 k hlt3 (by rw [← HX.out, ← HY.out, HXY.out])⟩) rfl HB6.out
                      · have g1 : ((y : Int) == (x : Int)) = false := by simp; omega
                        have HXY := Lib.hid hxy; clear hxy
                        go_wp2_with fail
                        refine region_plan (.run [0, 1, 2, 3, 4, 5, 6, 7, 8, 9, 10] .fin) (fun w' => True) (by kernel_rfl) trivial ?_
                        intro wd hwd
                        have HO6 := Lib.hid (HO5.out.drewE hwd)
                        have HB6 := Lib.hid (belowD HB5.out hwd)
                        have u0 : wd.cell? ⟨b1, k * 3, none⟩ = some (.int .i64 y) := by rw [hwd]; exact q0
                        have v0 : wd.cell? ⟨b1, i * 3, none⟩ = some (.int .i64 x) := by rw [hwd]; exact p0
                        clear q0 p0
                        clear hwd
                        refine plan_run fun m hm => ?_
                        simp only [pickO, List.filterMap_cons, List.filterMap_nil, List.getElem?_toArray, List.getElem?_cons_zero, List.getElem?_cons_succ] at hm
                        subst hm
                        go_wp2_with fail
                        refine ⟨rfl, by rfl, ?_⟩
                        refine plan_fin ?_
                        go_wp2
                        exact ⟨⟨k + 1, by omega, by go_num, Lib.hid fun q hq => by
                          by_cases e : q = k
                          · subst e; rw [← HX.out, ← HY.out]; exact HXY.out
                          · exact hne.out q (by omega), HO6, HB6⟩, by simp [intOf]; omega⟩
                    · obtain rfl : i = k := by omega
                      go_wp2
                      exact ⟨⟨i + 1, by omega, by go_num, Lib.hid fun q hq => by
                        by_cases e : q = i
                        · subst e; exact ⟨HOK1.out, hne.out⟩
                        · exact hok.out q (by omega), HO5, HB5⟩, by simp [intOf]; omega⟩
          · obtain rfl : a = i := by omega
            have hG : GoodG s g := by
              have := H0.out
              exact ⟨by rw [HGS.out]; omega, by rw [HGS.out]; omega, by rw [HGS.out]; omega, fun q hq => hok.out q (by rw [HGS.out] at hq; exact hq)⟩
            have HG := Lib.hid hG; clear hG
            go_wp2
            go_ret2
            exact CodesP.yes g _ HO16.out HG.out rfl (by rw [HGS.out]; exact HO.out) HB.out
end Go.Proofs.YthibnhgbgmpjoaaDoor
