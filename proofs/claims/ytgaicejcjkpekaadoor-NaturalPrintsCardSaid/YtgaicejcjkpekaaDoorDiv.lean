/- natural.Divide. -/
import Derived.Test.YtgaicejcjkpekaaDoorCmp
import Derived.Test.YtgaicejcjkpekaaDoorTrim
import Derived.Test.YtgaicejcjkpekaaDoorSmall
import Derived.Test.YtgaicejcjkpekaaDoorShift
import Derived.Test.YtgaicejcjkpekaaDoorDig
import Derived.Test.YtgaicejcjkpekaaDoorDivM
import Derived.Test.YtgaicejcjkpekaaDoorShelf
import Derived.Deep.CutBlock
import Derived.Deep.RegionWith
namespace Go.Proofs.YtgaicejcjkpekaaDoor
open Go.RowKit Nt

def RetDiv (q r : Nat) (ok : Bool) (w : World) (e : Ending) (w' : World) : Prop :=
  ∃ p c p' c', e = .returned (.tuple #[.slice p (limbs q).length c, .slice p' (limbs r).length c', .bool ok]) ∧ Below w.heap.size w w' ∧ Mine w.heap.size w' p c (limbs q) ∧ Mine w.heap.size w' p' c' (limbs r)

theorem mine_nil (B : Nat) (w : World) : Mine B w none 0 (limbs 0) := by rw [limbs_zero]; exact ⟨lim_nil, Nat.le_refl _, by omega, .inl rfl⟩

/-- Leading zeros of a limb that is not 0. -/
theorem lead_bd {x : Nat} (h : x < 4294967296) (h0 : x ≠ 0) : ∃ s : Nat, (32 : Int) - (Lib.bitLen x : Int) = (s : Int) ∧ s < 32 ∧ 2147483648 ≤ x * 2 ^ s ∧ x * 2 ^ s < 4294967296 := by
  have hb := Lib.bitLenAux_bounds 64 x (by omega) h0
  have hle := Lib.bitLen_le x 32 (by omega) (by omega)
  unfold Lib.bitLen at *
  generalize Lib.bitLenAux 64 x = k at *
  obtain ⟨h1, h2, h3⟩ := hb
  refine ⟨32 - k, by omega, by omega, ?_, ?_⟩
  · have : 2 ^ (k - 1) * 2 ^ (32 - k) ≤ x * 2 ^ (32 - k) := Nat.mul_le_mul_right _ h2
    rw [← Nat.pow_add, show k - 1 + (32 - k) = 31 by omega] at this
    omega
  · have : x * 2 ^ (32 - k) < 2 ^ k * 2 ^ (32 - k) := Nat.mul_lt_mul_of_pos_right h3 (Nat.two_pow_pos _)
    rw [← Nat.pow_add, show k + (32 - k) = 32 by omega] at this
    omega

set_option maxRecDepth 100000 in
set_option maxHeartbeats 4000000 in
theorem divide_ok (pa : Option Addr) (na ca : Nat) (la : List Nat) (pb : Option Addr) (nb cb : Nat) (lb : List Nat) (w : World) (ha : NatIn w pa ca la) (hb : NatIn w pb cb lb) (hna : la.length = na) (hnb : lb.length = nb) (sa : na ≤ 100000000) (_sb : nb ≤ 100000000) :
    Calls Tryd.prog 27 #[.slice pa na ca, .slice pb nb cb] w (RetDiv (val la / val lb) (rmd (val la) (val lb)) (posB (val lb)) w) := by
  subst hna hnb
  have zA := limbs_length_val_le ha.lim
  have zB := limbs_length_val_le hb.lim
  go_enter Tryd.func27, Tryd.ntmps27
  go_wp2_with fail
  refine (low_ok pa _ ca la _ ha rfl).mono ?_
  rintro e w' ⟨A, hA, rfl, hAn, rfl⟩
  go_wp2_with fail
  refine (low_ok pb _ cb lb _ hb rfl).mono ?_
  rintro e w' ⟨B, hB, rfl, hBn, rfl⟩
  have HA := Lib.hid hAn
  have HB := Lib.hid hBn
  have hAl : A.length ≤ 100000000 := by rw [hA.out]; omega
  have hBl : B.length ≤ 100000000 := by rw [hB.out]; omega
  have hvA : Hid (val A = val la) := by rw [hA.out, val_limbs]; rfl
  have hvB : Hid (val B = val lb) := by rw [hB.out, val_limbs]; rfl
  clear hAn hBn ha hb zA zB
  by_cases hB0 : B.length = 0
  · have h0 : ((B.length : Int) == 0) = true := by rw [beq_iff_eq]; omega
    have hz : Hid (val lb = 0) := by rw [← hvB.out, List.length_eq_zero_iff.1 hB0]; rfl
    clear hB0
    go_wp2_with fail
    go_ret3
    refine ⟨none, 0, none, 0, ?_, Below.refl _ _, ?_, ?_⟩
    · rw [hz.out, Nat.div_zero, rmd_zero rfl, posB_false rfl, limbs_zero]; rfl
    · rw [hz.out, Nat.div_zero]; exact mine_nil _ _
    · rw [hz.out, rmd_zero rfl]; exact mine_nil _ _
  have h0 : ((B.length : Int) == 0) = false := by rw [beq_eq_false_iff_ne]; omega
  have hBpos : 0 < B.length := by omega
  have hbpos : Hid (0 < val lb) := by
    rw [← hvB.out]
    apply Nat.pos_of_ne_zero
    exact val_pos_of_canon (by rw [hB.out]; exact canon_limbs _) (by intro h; rw [h] at hBpos; simp at hBpos)
  clear hB0
  go_wp2_with fail
  refine (cmp_ok pa _ ca A pb _ cb B _ HA.out HB.out rfl rfl).mono ?_
  rintro e w1 ⟨rfl, hw1⟩
  have HW1 := Lib.hid hw1
  rw [hvA.out, hvB.out]
  have HA1 := Lib.hid (HA.out.keep hw1)
  have HB1 := Lib.hid (HB.out.keep hw1)
  have hsz1 := hw1.size
  clear HA HB
  by_cases hlt : val la < val lb
  · rw [cmp_lt hlt]
    have hz := Lib.hid hlt
    clear hlt hw1
    go_wp2_with fail
    refine (trim_ok pa _ ca A _ HA1.out rfl (by omega)).mono ?_
    rintro e w2 ⟨p, c, rfl, hb2, hm2⟩
    rw [hvA.out] at hm2 ⊢
    have HM2 := Lib.hid hm2
    have HB2 := Lib.hid hb2
    clear hm2 hb2
    go_wp2_with fail
    go_ret3
    refine ⟨none, 0, p, c, ?_, HW1.out.trans (HB2.out.mono hsz1), ?_, ?_⟩
    · rw [Nat.div_eq_of_lt hz.out, rmd_pos hbpos.out, Nat.mod_eq_of_lt hz.out, posB_true hbpos.out, limbs_zero]; rfl
    · rw [Nat.div_eq_of_lt hz.out]; exact mine_nil _ _
    · rw [rmd_pos hbpos.out, Nat.mod_eq_of_lt hz.out]; exact HM2.out.mono hsz1
  have hc : ¬ cmp (val la) (val lb) < 0 := by rw [cmp_neg]; exact hlt
  have hle := Lib.hid (show val lb ≤ val la by omega)
  clear hlt hw1
  by_cases hB1 : B.length = 1
  · have h1 : ((B.length : Int) == 1) = true := by rw [beq_iff_eq]; omega
    have hv : Hid (val lb = lm B 0) := by
      rw [← hvB.out]
      obtain ⟨x, hx⟩ := List.length_eq_one_iff.1 hB1
      rw [hx]; simp [val, lm, Hid]
    have hlm := lm_lt HB1.out.lim 0
    have hlm0 : 0 < lm B 0 := by have := hbpos.out; have := hv.out; omega
    have hBc := HB1.out.cell 0 (by omega)
    rw [Nat.add_zero] at hBc
    have hBx := fun ww => HB1.out.ix (z := 0) (by omega) (n := B.length) (by omega) (Nat.le_refl _) cb ww
    rw [show (0 : Int).toNat = 0 from rfl, Nat.add_zero] at hBx
    clear hB1
    go_wp2_with fail
    refine (trim_ok pa _ ca A _ HA1.out rfl (by omega)).mono ?_
    rintro e w2 ⟨p, c, rfl, hb2, hm2⟩
    rw [hvA.out] at hm2 ⊢
    have hBc2 := (HB1.out.keep hb2).cell 0 (by omega)
    rw [Nat.add_zero] at hBc2
    have HM2 := Lib.hid hm2
    have HB2 := Lib.hid hb2
    have hsz2 := hb2.size
    clear hm2 hb2 hBc
    go_wp2_with fail
    refine (small_ok w1.heap.size p _ c (limbs (val la)) (lm B 0) _ HM2.out rfl hlm0 hlm).mono ?_
    rintro e w3 ⟨L, rfl, hL, hvL, hM3, hO3⟩
    rw [val_limbs, ← hv.out] at hvL
    obtain ⟨r, hr⟩ : ∃ r, r = val (limbs (val la)) % lm B 0 := ⟨_, rfl⟩
    rw [← hr]
    have hr2 : r < 4294967296 := by rw [hr]; exact Nat.lt_trans (Nat.mod_lt _ hlm0) hlm
    rw [val_limbs, ← hv.out] at hr
    have HRm := Lib.hid hr
    have HL := Lib.hid hL
    have HvL := Lib.hid hvL
    clear hr
    have HM3 := Lib.hid hM3
    have hB3 : Below w1.heap.size w2 w3 := hO3.below hsz2 (fun h0 => HM2.out.ge h0)
    have HB3 := Lib.hid hB3
    clear hL hvL hM3 hO3 hB3
    go_wp2_with fail
    refine (low_ok p _ c L _ HM3.out.natIn HL.out).mono ?_
    rintro e w' ⟨R, hR, rfl, hRn, rfl⟩
    clear hRn
    go_wp2_with fail
    refine (fromUint_ok r (by omega) _).mono ?_
    rintro e w4 ⟨p4, c4, rfl, hb4, hm4⟩
    have HB4 := Lib.hid hb4
    have HM4 := Lib.hid hm4
    have hsz3 := HB3.out.size
    have hlow := HM3.out.low
    have hlow2 := Lib.hid (hlow.keep hb4)
    clear hb4 hm4 hlow
    go_wp2_with fail
    go_ret3
    have hR' := hR.out
    rw [HvL.out] at hR'
    have hl2 := hlow2.out
    rw [HvL.out] at hl2
    refine ⟨p, c, p4, c4, ?_, ?_, hl2.mono hsz1, ?_⟩
    · rw [rmd_pos hbpos.out, posB_true hbpos.out, ← HRm.out, ← hR']; rfl
    · exact HW1.out.trans (((HB2.out.trans HB3.out).trans (HB4.out.mono (by omega))).mono hsz1)
    · rw [rmd_pos hbpos.out, ← HRm.out]; exact HM4.out.mono (by omega)
  have h1 : ((B.length : Int) == 1) = false := by rw [beq_eq_false_iff_ne]; omega
  have h2 : 2 ≤ B.length := by omega
  have hBc := HB1.out.cell (B.length - 1) (by omega)
  have hBx := fun ww => HB1.out.ix (z := (B.length : Int) - 1) (by omega) (n := B.length) (by omega) (Nat.le_refl _) cb ww
  rw [show ((B.length : Int) - 1).toNat = B.length - 1 from by omega] at hBx
  have htop := lm_lt HB1.out.lim (B.length - 1)
  have htop0 : lm B (B.length - 1) ≠ 0 := by
    rw [lm_eq (by omega)]
    have := canon_limbs (val lb)
    rw [← hB.out] at this
    have h3 := this (by intro h; rw [h] at h2; simp at h2)
    rwa [List.getLast_eq_getElem] at h3
  obtain ⟨s, hs, hs32, hsl, hsh⟩ := lead_bd htop htop0
  have HSl := Lib.hid hsl
  have HSh := Lib.hid hsh
  have HS := Lib.hid hs
  clear hB1 htop0 hsl hsh hs
  go_wp2_with fail
  refine (Tryd.bits_LeadingZeros32 _ _ (by omega) (by omega)).mono ?_
  rintro e w' ⟨rfl, hh⟩
  obtain rfl := hh.symm
  clear hh
  rw [Int.toNat_natCast, HS.out]
  clear hBc hBx
  go_upto_region 11 with fail
  go_cut [10, 11] (fun rv bv wx => ∃ (g g2 : Nat) (R V : List Nat), rv = .slice (some ⟨g, 0, none⟩) (A.length + 1) (A.length + 1) ∧ bv = .slice (some ⟨g2, 0, none⟩) B.length (B.length + 1) ∧ w1.heap.size ≤ g ∧ g ≠ g2 ∧ w1.heap.size ≤ g2 ∧
    R.length = A.length + 1 ∧ Lim R ∧ Own wx g R ∧ val R = val la * 2 ^ s ∧ V.length = B.length ∧ NatIn wx (some ⟨g2, 0, none⟩) (B.length + 1) V ∧ val V = val lb * 2 ^ s ∧ Below w1.heap.size w1 wx)
  case first =>
    go_region_with (first
      | (go_at_call_of 49 (Value.slice pa A.length ca); refine (shift_ok pa _ ca A s _ HA1.out.drew rfl hs32 (by omega)).mono ?_; rintro e wx ⟨RR, rfl, hr1, hr2, hr3, hr4, hr5⟩)
      | (go_at_call_of 49 (Value.slice pb B.length cb); refine (shift_ok pb _ cb B s _ (HB1.out.drew.keep (by assumption)) rfl hs32 (by omega)).mono ?_; rintro e wy ⟨VV, rfl, hv1, hv2, hv3, hv4, hv5⟩))
    all_goals
      go_wp2_with fail
      go_meet
      rw [hvA.out] at hr2
      rw [hvB.out] at hv2
      have hlt2 : val VV < bp B.length := by rw [hv2, ← hvB.out]; exact shl_lt HB1.out.lim rfl (by omega) hs32 HSh.out
      have hr1w : Below w1.heap.size w1 wx := ((Below.refl _ _).drew).trans hr5
      refine ⟨w1.heap.size, wx.heap.size, RR, VV.take B.length, rfl, rfl, Nat.le_refl _, ?_, hr1w.size, hr1, hr3, hr4.below hv5 hr4.lt, hr2, by rw [List.length_take]; omega,
        hv4.natIn hv3 (by omega) (by omega) (by omega), by rw [val_take_of_lt (by omega) hlt2, hv2], hr1w.trans (hv5.mono hr1w.size)⟩
      have := hr4.lt
      exact Nat.ne_of_lt this
  case rest =>
    obtain ⟨g, g2, R, V, rfl, rfl, hg, hgg, hg2, hR, hRl, hRO, hRv, hV, hVn, hVv, hbc⟩ := hcut
    have HR := Lib.hid hR
    have HRl := Lib.hid hRl
    have HRO := Lib.hid hRO
    have HRv := Lib.hid hRv
    have HV := Lib.hid hV
    have HVn := Lib.hid hVn
    have HVv := Lib.hid hVv
    have HBc := Lib.hid hbc
    have HGG := Lib.hid hgg
    have hszc := hbc.size
    have hgl := hRO.lt
    have hg2l := (hVn.ptr (by omega)).2
    rw [blk_some] at hg2l
    have hBA : B.length ≤ A.length := by rw [hA.out, hB.out]; exact limbs_length_mono hle.out
    clear hR hRl hRO hRv hV hVn hVv hbc hgg
    go_wp2_with (at_make; refine wpList_mk _ rfl _ _ rfl (A.length - B.length + 1) rfl rfl (by omega) (by omega) ?_)
    intro w5 hsz5 hown5 hb5
    have HO5 := Lib.hid hown5
    have HB5 := Lib.hid hb5
    have hsz5' := hb5.size
    clear hown5 hb5
    have hvlt : Hid (val lb * 2 ^ s < bp B.length) := by rw [← hvB.out]; exact shl_lt HB1.out.lim rfl (by omega) hs32 HSh.out
    have hvge : Hid (2147483648 * bp (B.length - 1) ≤ val lb * 2 ^ s) := by rw [← hvB.out]; exact shl_ge rfl (by omega) HSl.out
    have hvpos : Hid (0 < val lb * 2 ^ s) := Nat.mul_pos hbpos.out (Nat.two_pow_pos s)
    have hVtop : 2147483648 ≤ lm V (B.length - 1) := top_ge HVn.out.lim HV.out (by omega) (by rw [HVv.out]; exact hvge.out)
    have hstart : Hid (val la * 2 ^ s < val lb * 2 ^ s * bp (A.length - B.length + 1)) :=
      div_start (N := A.length) (by have := val_lt HA1.out.lim; rwa [hvA.out] at this) hs32 (by omega) hvge.out (by omega)
    obtain ⟨v, hv⟩ : ∃ v, v = val lb * 2 ^ s := ⟨_, rfl⟩
    obtain ⟨u, hu⟩ : ∃ u, u = val la * 2 ^ s := ⟨_, rfl⟩
    rw [← hv] at hvlt hvge hvpos hstart HVv
    rw [← hu] at hstart HRv
    have HVd := Lib.hid hv
    have HUd := Lib.hid hu
    clear hv hu
    go_wp2_with fail
    rw [show ((A.length : Int) - (B.length : Int)) = ((A.length - B.length : Nat) : Int) from by omega]
    go_loopw [13] (fun iv wr => ∃ (k : Nat) (R Q : List Nat), k ≤ A.length - B.length + 1 ∧ iv = .int .i64 ((k : Int) - 1) ∧ R.length = A.length + 1 ∧ Lim R ∧ Own wr g R ∧ Q.length = A.length - B.length + 1 ∧ Lim Q ∧ Own wr wc.heap.size Q ∧ NatIn wr (some ⟨g2, 0, none⟩) (B.length + 1) V ∧ Below w1.heap.size w1 wr ∧ wc.heap.size < wr.heap.size ∧
        val R < v * bp k ∧ u = val (Q.drop k) * bp k * v + val R) (fun iv _ => (intOf iv + 1).toNat)
    case atStart =>
      refine ⟨A.length - B.length + 1, R, List.replicate (A.length - B.length + 1) 0, Nat.le_refl _, ?_, HR.out, HRl.out, HRO.out.below HB5.out hgl, by simp, lim_zeros _, HO5.out, HVn.out.keep HB5.out, HBc.out.trans (HB5.out.mono hszc), hsz5, by rw [HRv.out]; exact hstart.out, ?_⟩
      · congr 1; omega
      · rw [List.drop_of_length_le (by simp), HRv.out]; simp [val]
    case round =>
      obtain ⟨k, R2, Q, hk, rfl, hR2, hR2l, hR2O, hQ, hQl, hQO, hV2, hb2, hs2, hI1, hI2⟩ := hrel
      have HR2 := Lib.hid hR2
      have HR2l := Lib.hid hR2l
      have HR2O := Lib.hid hR2O
      have HQ := Lib.hid hQ
      have HQl := Lib.hid hQl
      have HQO := Lib.hid hQO
      have HV2 := Lib.hid hV2
      have HBw := Lib.hid hb2
      have HI1 := Lib.hid hI1
      have HI2 := Lib.hid hI2
      clear hR2 hR2l hR2O hQ hQl hQO hV2 hb2 hI1 hI2
      by_cases h0 : 0 < k
      · obtain ⟨j, rfl⟩ : ∃ j, k = j + 1 := ⟨k - 1, by omega⟩
        rw [show (((j + 1 : Nat) : Int) - 1) = (j : Int) from by omega]
        have hjl : j + (B.length + 1) ≤ R2.length := by have := HR2.out; omega
        have hSl : ((R2.drop j).take (B.length + 1)).length = B.length + 1 := by rw [List.length_take, List.length_drop]; omega
        have hpc := div_piece (n := B.length) (by omega : j + B.length + 1 ≤ R2.length) hvlt.out HI1.out
        have hSO : Own wr g (splice R2 j ((R2.drop j).take (B.length + 1))) := by rw [splice_self hjl]; exact HR2O.out
        have HSl2 := Lib.hid hSl
        have HSO := Lib.hid hSO
        have HPc := Lib.hid hpc.1
        have HJl := Lib.hid hjl
        obtain ⟨S, hSd⟩ : ∃ S, S = (R2.drop j).take (B.length + 1) := ⟨_, rfl⟩
        rw [← hSd] at HSl2 HSO HPc
        have HSd := Lib.hid hSd
        have HSm : Hid (Lim S) := by rw [hSd]; exact lim_take (lim_drop HR2l.out _) _
        clear hSl hSO hpc hSd hjl
        go_wp2_with fail
        rw [show j + B.length + 1 - j = B.length + 1 from by omega]
        refine (digit_ok g j _ B.length R2 S V _ _ _ HSO.out HSm.out HSl2.out (by have := HSl2.out; have := HJl.out; omega) HV2.out HV.out (by rw [blk_some]; exact fun e => HGG.out e.symm) (by omega) (by omega) hVtop (by rw [HVv.out]; exact HPc.out)).mono ?_
        rintro e w6 ⟨S', rfl, hS', hS'm, hO6, hv6, hg6⟩
        rw [HVv.out] at hv6 ⊢
        have hstep := div_step (n := B.length) HR2l.out (by have := HJl.out; omega) (by have := HQ.out; omega : j < Q.length) hvlt.out hvpos.out HI1.out HI2.out hS' (by rw [hv6, HSd.out])
        rw [← HSd.out] at hstep
        obtain ⟨qd, hqd⟩ : ∃ qd, qd = val S / v := ⟨_, rfl⟩
        rw [← hqd] at hstep ⊢
        have hqlt : qd < 4294967296 := by rw [hqd]; exact Nat.div_lt_of_lt_mul HPc.out
        have hgne : g ≠ wc.heap.size := by omega
        have hQ6 : Own w6 wc.heap.size Q := by
          unfold Own; rw [hg6.block _ hs2 (by simp only [ne_eq, Option.some.injEq]; omega)]; exact HQO.out
        have hoc := hQ6.cell (i := j) (by have := HQ.out; omega)
        have hof := hQ6.frozen j
        have hV6 := HV2.out.only hg6 (by rw [blk_some]; exact fun _ e => HGG.out e.symm)
        have hB6 : Below w1.heap.size w1 w6 := HBw.out.trans ⟨hg6.os, hg6.tape, hg6.output, hg6.size, fun k hk => hg6.block k (by omega) (by simp only [ne_eq, Option.some.injEq]; omega)⟩
        have hs6 : wc.heap.size < w6.heap.size := Nat.lt_of_lt_of_le hs2 hg6.size
        have HStep := Lib.hid hstep
        have HQ6 := Lib.hid hQ6
        have HV6 := Lib.hid hV6
        have HB6 := Lib.hid hB6
        have HO6 := Lib.hid hO6
        have HS' := Lib.hid hS'
        have HS'm := Lib.hid hS'm
        clear hstep hQ6 hV6 hB6 hO6 hS' hS'm hv6 hg6 hqd
        go_wp2_with fail
        go_roundw
        case rel =>
          refine ⟨j, splice R2 j S', Q.set j qd, by omega, rfl, ?_, lim_splice HR2l.out HS'm.out, ?_, by rw [List.length_set]; exact HQ.out, lim_set HQl.out hqlt, HQ6.out.set rfl, HV6.out.store (by rw [blk_some]; intro _; omega) _ _, below_set HB6.out (by omega) _, by simpa [World.setCell] using hs6, HStep.out.1, HStep.out.2⟩
          · rw [splice_length (by have := HS'.out; have := HJl.out; omega)]; exact HR2.out
          · unfold Own
            rw [Below.heap_setCell _ _ _ _ (by exact hgne)]
            exact HO6.out
        case measure => simp [intOf]
      · obtain rfl : k = 0 := by omega
        rw [show (((0 : Nat) : Int) - 1) = -1 from by omega]
        have hend := HI2.out
        rw [List.drop_zero, bp_zero, Nat.mul_one, HUd.out, HVd.out] at hend
        have hRlt := HI1.out
        rw [bp_zero, Nat.mul_one, HVd.out] at hRlt
        have hqr := div_end (Nat.two_pow_pos s) hRlt hend
        have HQv := Lib.hid hqr.1
        have HRv2 := Lib.hid hqr.2
        have hm0 := HR2O.out.mine (B0 := w1.heap.size) hg HR2l.out (by have := HR2.out; omega)
        rw [HR2.out] at hm0
        have hm1 := Lib.hid hm0.low
        clear hend hRlt hqr hm0
        go_wp2_with fail
        refine (low_ok _ _ _ R2 _ (HR2O.out.whole HR2l.out HR2.out (by omega)) HR2.out).mono ?_
        rintro e w' ⟨M, hM, rfl, hMn, rfl⟩
        rw [← hM.out] at hm1
        have hMl : M.length ≤ A.length + 1 := by have := hm1.out.2.1; omega
        have hMm := Lib.hid hMn.lim
        have hMv : Hid (val M / 2 ^ s = val la % val lb) := by
          rw [hM.out, val_limbs, HRv2.out]
          exact Nat.mul_div_cancel _ (Nat.two_pow_pos s)
        clear hMn
        go_wp2_with fail
        go_loopw [93] (fun iv wq => ∃ (i : Nat) (T : List Nat), i ≤ M.length ∧ iv = .int .i64 i ∧ T.length = M.length ∧ Mine w1.heap.size wq (some ⟨g, 0, none⟩) (A.length + 1) T ∧ Own wq wc.heap.size Q ∧ Below w1.heap.size w1 wq ∧ (∀ j, i ≤ j → lm T j = lm M j) ∧
            val (T.take i) = val M / 2 ^ s % bp i) (fun iv _ => M.length - (intOf iv).toNat)
        case atStart => exact ⟨0, M, Nat.zero_le _, rfl, rfl, hm1.out, HQO.out, HBw.out, fun _ _ => rfl, by rw [bp_zero, Nat.mod_one]; rfl⟩
        case round =>
          obtain ⟨i, T, hi, rfl, hT, hTm, hTQ, hTB, hTt, hTI⟩ := hrel
          have HT := Lib.hid hT
          have HTm := Lib.hid hTm
          have HTQ := Lib.hid hTQ
          have HTB := Lib.hid hTB
          have HTt := Lib.hid hTt
          have HTI := Lib.hid hTI
          clear hT hTm hTQ hTB hTt hTI
          by_cases hil : i < M.length
          · have hiT : i < T.length := by have := HT.out; omega
            have hc0 := HTm.out.natIn.cell i hiT
            rw [blk_some, ofs_some, Nat.zero_add] at hc0
            have hf0 := HTm.out.frozen (by omega) i
            rw [blk_some] at hf0
            have hx0 := lm_lt HTm.out.natIn.lim i
            have hxd : lm T i / 2 ^ s < 4294967296 := Nat.lt_of_le_of_lt (Nat.div_le_self _ _) hx0
            have hm2 := HTm.out.set hiT hxd (z := ((lm T i : Nat) : Int) / 2 ^ s) (by rw [Int.natCast_ediv, Int.natCast_pow]; rfl)
            rw [blk_some, ofs_some, Nat.zero_add] at hm2
            have hgne : g ≠ wc.heap.size := by omega
            by_cases hs0 : s = 0
            · have hsle : s ≤ 0 := by omega
              have HS0 := Lib.hid hs0
              have HM2 := Lib.hid hm2
              clear hs0 hm2
              go_wp2_with fail
              go_roundw
              case rel =>
                refine ⟨i + 1, _, by omega, by go_num, ?_, HM2.out, ?_, below_set HTB.out hg _, ?_, ?_⟩
                · rw [List.length_set]; exact HT.out
                · unfold Own; rw [Below.heap_setCell _ _ _ _ (by exact (fun e => hgne e.symm))]; exact HTQ.out
                · intro j hj
                  rw [lm_set_ne (by omega)]
                  exact HTt.out j (by omega)
                · have h3 := rsh_step hMm.out hiT (pow_split (by omega)) (Nat.two_pow_pos s) HTI.out
                  rw [← HTt.out i (Nat.le_refl _)] at h3
                  have h4 : (lm T i / 2 ^ s + 2 ^ (32 - s) * lm M (i + 1)) % 4294967296 = lm T i / 2 ^ s := by
                    rw [HS0.out, Nat.pow_zero, Nat.div_one]; omega
                  rwa [h4] at h3
              case measure => simp [intOf]; omega
            · have hs1 : 0 < s := by omega
              by_cases hlast : i + 1 < M.length
              · have HM2 := Lib.hid hm2
                have HQ2 : Hid (Own (wr.setCell ⟨g, i, none⟩ (.int .u32 (((lm T i : Nat) : Int) / 2 ^ s))) wc.heap.size Q) := by
                  show Own _ _ _
                  unfold Own; rw [Below.heap_setCell _ _ _ _ (by exact (fun e => hgne e.symm))]; exact HTQ.out
                have HB2 := Lib.hid (below_set HTB.out (o := i) hg (.int .u32 (((lm T i : Nat) : Int) / 2 ^ s)))
                clear hs0 hm2
                go_upto_region 23 with fail
                obtain ⟨wq, hwq⟩ : ∃ wq, wq = wr.setCell ⟨g, i, none⟩ (.int .u32 (((lm T i : Nat) : Int) / 2 ^ s)) := ⟨_, rfl⟩
                rw [← hwq] at HM2 HQ2 HB2 ⊢
                obtain ⟨x, hx⟩ : ∃ x, x = lm T i / 2 ^ s := ⟨_, rfl⟩
                have hTs : i < (T.set i (lm T i / 2 ^ s)).length := by rw [List.length_set]; exact hiT
                have hTs1 : i + 1 < (T.set i (lm T i / 2 ^ s)).length := by rw [List.length_set]; have := HT.out; omega
                have hd0 := HM2.out.natIn.cell i hTs
                rw [blk_some, ofs_some, Nat.zero_add, lm_set_eq hiT, ← hx] at hd0
                have hd1 := HM2.out.natIn.cell (i + 1) hTs1
                rw [blk_some, ofs_some, Nat.zero_add, lm_set_ne (by omega)] at hd1
                have hdf := HM2.out.frozen (by omega) i
                rw [blk_some] at hdf
                rw [← hx] at hxd
                have hy0 := lm_lt HTm.out.natIn.lim (i + 1)
                clear hc0 hf0 hwq
                have HX := Lib.hid hx
                clear hx
                have hor : Go.bits .or .u32 (x : Int) (((lm T (i + 1) : Nat) : Int) * 2 ^ (32 - s) % 4294967296) = (((x + 2 ^ (32 - s) * lm T (i + 1)) % 4294967296 : Nat) : Int) := by
                  have e : ((lm T (i + 1) : Nat) : Int) * 2 ^ (32 - s) % 4294967296 = ((lm T (i + 1) * 2 ^ (32 - s) % 4294967296 : Nat) : Int) := by
                    rw [Int.natCast_emod, Int.natCast_mul, Int.natCast_pow]; rfl
                  rw [e, or_u32 hxd (Nat.mod_lt _ (by omega)), HX.out, or_hi hs32 hx0]
                have HOr := Lib.hid hor
                have hm3 := HM2.out.set hTs (x := (x + 2 ^ (32 - s) * lm T (i + 1)) % 4294967296) (Nat.mod_lt _ (by omega)) hor
                rw [blk_some, ofs_some, Nat.zero_add, List.set_set] at hm3
                have HM3 := Lib.hid hm3
                clear hor hm3
                go_region
                go_wp2_with fail
                go_roundw
                case rel =>
                  refine ⟨i + 1, _, by omega, by go_num, ?_, HM3.out.drew, ?_, (below_set HB2.out hg _).drew, ?_, ?_⟩
                  · rw [List.length_set]; exact HT.out
                  · show Own (wq.setCell _ _) _ _
                    unfold Own; rw [Below.heap_setCell _ _ _ _ (by exact (fun e => hgne e.symm))]; exact HQ2.out
                  · intro j hj
                    rw [lm_set_ne (by omega)]
                    exact HTt.out j (by omega)
                  · have h3 := rsh_step hMm.out hiT (pow_split (by omega)) (Nat.two_pow_pos s) HTI.out
                    rw [← HTt.out i (Nat.le_refl _), ← HTt.out (i + 1) (by omega), ← HX.out] at h3
                    exact h3
                case measure => simp [intOf]; omega
              · have HM2 := Lib.hid hm2
                clear hs0 hm2
                go_wp2_with fail
                go_roundw
                case rel =>
                  refine ⟨i + 1, _, by omega, by go_num, ?_, HM2.out, ?_, below_set HTB.out hg _, ?_, ?_⟩
                  · rw [List.length_set]; exact HT.out
                  · unfold Own; rw [Below.heap_setCell _ _ _ _ (by exact (fun e => hgne e.symm))]; exact HTQ.out
                  · intro j hj
                    rw [lm_set_ne (by omega)]
                    exact HTt.out j (by omega)
                  · have h3 := rsh_step hMm.out hiT (pow_split (by omega)) (Nat.two_pow_pos s) HTI.out
                    rw [← HTt.out i (Nat.le_refl _)] at h3
                    have h4 : (lm T i / 2 ^ s + 2 ^ (32 - s) * lm M (i + 1)) % 4294967296 = lm T i / 2 ^ s := by
                      rw [lm_out (l := M) (by omega), Nat.mul_zero, Nat.add_zero]; exact Nat.mod_eq_of_lt hxd
                    rwa [h4] at h3
                case measure => simp [intOf]; omega
          · obtain rfl : i = M.length := by omega
            have hval := rsh_end hMm.out HT.out HTI.out
            rw [hMv.out] at hval
            have HVal := Lib.hid hval
            clear hval
            go_wp2_with fail
            refine (low_ok _ _ _ Q _ (HTQ.out.whole HQl.out HQ.out (by omega)) HQ.out).mono ?_
            rintro e w' ⟨X, hX, rfl, hXn, rfl⟩
            go_wp2_with fail
            refine (low_ok _ _ _ T _ HTm.out.natIn HT.out).mono ?_
            rintro e w' ⟨Y, hY, rfl, hYn, rfl⟩
            go_wp2_with fail
            go_ret3
            have hX' := hX.out
            rw [HQv.out] at hX'
            have hY' := hY.out
            rw [HVal.out] at hY'
            have hq0 := HTQ.out.mine (B0 := w.heap.size) (by omega) HQl.out (by have := HQ.out; omega)
            rw [HQ.out] at hq0
            have hq1 := hq0.low
            have ht1 := HTm.out.low
            rw [HQv.out] at hq1
            rw [HVal.out] at ht1
            refine ⟨_, _, _, _, ?_, HW1.out.trans (HTB.out.mono hsz1), hq1, by rw [rmd_pos hbpos.out]; exact ht1.mono hsz1⟩
            rw [rmd_pos hbpos.out, posB_true hbpos.out, ← hX', ← hY']; rfl
end Go.Proofs.YtgaicejcjkpekaaDoor
