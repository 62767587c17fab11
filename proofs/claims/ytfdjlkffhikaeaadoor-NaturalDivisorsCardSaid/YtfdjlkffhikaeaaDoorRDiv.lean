/- The reference: Divide. -/
import Derived.Test.YtfdjlkffhikaeaaDoorRShort
import Derived.Test.YtfdjlkffhikaeaaDoorRShifted
import Derived.Test.YtfdjlkffhikaeaaDoorDiv
import Derived.Test.YtfdjlkffhikaeaaDoorRefB
import Derived.Test.YtfdjlkffhikaeaaDoorUint
import Derived.Deep.LoopGhost
import Derived.Outline
namespace Go.Proofs.YtfdjlkffhikaeaaDoor
open Go.RowKit Nt

/-- The world's part of the long division's loops. -/
structure DvW (w1 w : World) (g g2 gq n : Nat) (V Q R : List Nat) : Prop where
  own : Own w g R
  quo : Own w gq Q
  div : NatIn w (some ⟨g2, 0, none⟩) (n + 1) V
  bel : Below w1.heap.size w1 w
  lt : gq < w.heap.size
theorem DvW.set {w1 w : World} {g g2 gq n : Nat} {V Q R : List Nat} (h : DvW w1 w g g2 gq n V Q R) (h1 : w1.heap.size ≤ g) (h2 : g ≠ gq) (h3 : g2 ≠ g) {o x : Nat} {z : Int} (hz : z = (x : Int)) :
    DvW w1 (w.setCell ⟨g, o, none⟩ (.int .u32 z)) g g2 gq n V Q (R.set o x) :=
  ⟨h.own.set hz, by unfold Own; rw [Below.heap_setCell _ _ _ _ (by exact fun e => h2 e.symm)]; exact h.quo, h.div.store (by rw [blk_some]; exact fun _ => h3) _ _, below_set h.bel h1 _, by simpa [World.setCell] using h.lt⟩
theorem DvW.seg {w1 w : World} {g g2 gq n j k : Nat} {V Q R S : List Nat} (h : DvW w1 w g g2 gq n V Q (splice R j S)) (h1 : w1.heap.size ≤ g) (h2 : g ≠ gq) (h3 : g2 ≠ g) (hR : j + S.length ≤ R.length) (hk : k < S.length) {x : Nat} {z : Int} (hz : z = (x : Int)) :
    DvW w1 (w.setCell ⟨g, j + k, none⟩ (.int .u32 z)) g g2 gq n V Q (splice R j (S.set k x)) := by
  rw [← splice_set hR hk]; exact h.set h1 h2 h3 hz
theorem DvW.drewN {w1 w : World} {g g2 gq n : Nat} {V Q R : List Nat} (h : DvW w1 w g g2 gq n V Q R) (k : Nat) : DvW w1 (w.drewN k) g g2 gq n V Q R :=
  ⟨h.own, h.quo, h.div.drewN k, below_drewN h.bel k, h.lt⟩
theorem DvW.quoSet {w1 w : World} {g g2 gq n : Nat} {V Q R : List Nat} (h : DvW w1 w g g2 gq n V Q R) (h1 : w1.heap.size ≤ gq) (h2 : g ≠ gq) (h3 : g2 ≠ gq) {o x : Nat} {z : Int} (hz : z = (x : Int)) :
    DvW w1 (w.setCell ⟨gq, o, none⟩ (.int .u32 z)) g g2 gq n V (Q.set o x) R :=
  ⟨by unfold Own; rw [Below.heap_setCell _ _ _ _ (by exact h2)]; exact h.own, h.quo.set hz, h.div.store (by rw [blk_some]; exact fun _ => h3) _ _, below_set h.bel h1 _, by simpa [World.setCell] using h.lt⟩
theorem back_val {T S V : List Nat} {n c : Nat} (hT : T.length = n + 1) (hS : S.length = n + 1) (hV : V.length = n) (h0 : lm T n = lm S n) (h : val (T.take n) + bp n * c = val (S.take n) + val (V.take n)) :
    val (T.set n ((c + lm T n) % 4294967296)) + bp (n + 1) * ((c + lm T n) / 4294967296) = val S + val V := by
  rw [add_last hT]
  have e := val_take S n
  rw [val_take_all (by omega), ← h0] at e
  rw [val_take_all (l := V) (by omega)] at h
  rw [bp_succ]
  have e2 := Nat.mod_add_div (c + lm T n) 4294967296
  generalize (c + lm T n) % 4294967296 = r at *
  generalize (c + lm T n) / 4294967296 = d at *
  generalize lm T n = x at *
  generalize val (T.take n) = A1 at *
  generalize val (S.take n) = A2 at *
  generalize bp n = P at *
  grind
theorem rms_br {x lo br : Nat} (hx : x < 4294967296) (hl : lo < 4294967296) (hb : br ≤ 1) : 1 - ((x : Int) + 4294967296 - (lo : Int) - (br : Int)) / 4294967296 = ((if x < lo + br then 1 else 0 : Nat) : Int) := by
  split <;> omega
/-- One digit is done: the rest of the loop over guesses. -/
structure Gs (S U : List Nat) (n q v : Nat) (un : Bool) : Prop where
  len : U.length = n + 1
  lim : Lim U
  val : val U + q * v = val S + (if un = true then bp (n + 1) else 0)
  ge : Nt.val S / v ≤ q
theorem Gs.more {S U : List Nat} {n q v : Nat} (h : Gs S U n q v true) (hv : 0 < v) : 1 ≤ q ∧ Nt.val S / v ≤ q - 1 := by
  have h1 := h.val
  rw [if_pos rfl] at h1
  have h2 := val_lt h.lim
  rw [h.len] at h2
  have h3 : Nt.val S < q * v := by omega
  have h4 := (Nat.div_lt_iff_lt_mul hv).2 h3
  generalize Nt.val S / v = t at *
  omega
theorem Gs.done {S U : List Nat} {n q v : Nat} (h : Gs S U n q v false) (hv : 0 < v) : Nt.val S / v = q ∧ Nt.val S % v = Nt.val U := by
  have h1 := h.val
  rw [if_neg (by decide), Nat.add_zero] at h1
  exact quo_first hv h1 h.ge
theorem Gs.step {S U T V : List Nat} {n q c : Nat} (h : Gs S U n q (Nt.val V) true) (hv : 0 < Nt.val V) (hT : T.length = n + 1) (hTl : Lim T) (hV : V.length = n) (h0 : lm T n = lm U n) (hc : c ≤ 1) (hI : Nt.val (T.take n) + bp n * c = Nt.val (U.take n) + Nt.val (V.take n)) :
    Gs S (T.set n ((c + lm T n) % 4294967296)) n (q - 1) (Nt.val V) (decide (((c : Int) + ((lm T n : Nat) : Int)) / 4294967296 = 0)) := by
  have h1 := h.more hv
  have h2 := back_val hT h.len hV h0 hI
  have h3 := h.val
  rw [if_pos rfl] at h3
  have hx := lm_lt hTl n
  refine ⟨by rw [List.length_set]; exact hT, lim_set hTl (by omega), ?_, h1.2⟩
  obtain ⟨q0, rfl⟩ : ∃ q0, q = q0 + 1 := ⟨q - 1, by omega⟩
  rw [Nat.add_sub_cancel]
  rw [Nat.add_mul] at h3
  rcases (by omega : (c + lm T n) / 4294967296 = 0 ∨ (c + lm T n) / 4294967296 = 1) with hd | hd
  · rw [if_pos (by simp; omega)]
    rw [hd] at h2
    omega
  · rw [if_neg (by simp; omega)]
    rw [hd] at h2
    omega

set_option maxRecDepth 100000 in
set_option maxHeartbeats 4000000 in
theorem rdivide_ok (pa : Option Addr) (na ca : Nat) (la : List Nat) (pb : Option Addr) (nB cb : Nat) (lb : List Nat) (w : World) (ha : NatIn w pa ca la) (hb : NatIn w pb cb lb) (hna : la.length = na) (hnb : lb.length = nB) (sa : na ≤ 100000000) (sb : nB ≤ 100000000) :
    Calls Tryd.prog 41 #[.slice pa na ca, .slice pb nB cb] w (RetDiv (val la / val lb) (rmd (val la) (val lb)) (posB (val lb)) w) := by
  subst hna hnb
  have zA := limbs_length_val_le ha.lim
  have zB := limbs_length_val_le hb.lim
  obtain ⟨N, hA⟩ : ∃ N, N = (limbs (val la)).length := ⟨_, rfl⟩
  obtain ⟨n, hB⟩ : ∃ n, n = (limbs (val lb)).length := ⟨_, rfl⟩
  rw [← hA] at zA
  rw [← hB] at zB
  have H1 := Lib.hid ha
  have H2 := Lib.hid hb
  have HA := Lib.hid hA
  have HB := Lib.hid hB
  clear ha hb hA hB
  go_enter Tryd.func41, Tryd.ntmps41
  go_wp2_with fail
  refine (rsize_ok pb _ cb lb _ H2.out rfl).mono ?_
  rintro e w' ⟨rfl, rfl⟩
  rw [← HB.out]
  by_cases hB0 : n = 0
  · have h0 : ((n : Int) == 0) = true := by rw [beq_iff_eq]; omega
    have hz : Hid (val lb = 0) := by rw [← val_limbs (val lb), List.length_eq_zero_iff.1 (HB.out.symm.trans hB0)]; rfl
    clear hB0
    go_wp2_with fail
    go_ret3
    refine ⟨none, 0, none, 0, ?_, Below.refl _ _, ?_, ?_⟩
    · rw [hz.out, Nat.div_zero, rmd_zero rfl, posB_false rfl, limbs_zero]; rfl
    · rw [hz.out, Nat.div_zero]; exact mine_nil _ _
    · rw [hz.out, rmd_zero rfl]; exact mine_nil _ _
  have h0 : ((n : Int) == 0) = false := by rw [beq_eq_false_iff_ne]; omega
  have hBpos : 0 < n := by omega
  have hbpos : Hid (0 < val lb) := by
    apply Nat.pos_of_ne_zero
    intro hz
    have h3 := HB.out
    rw [hz, limbs_zero] at h3
    simp at h3
    omega
  clear hB0
  go_wp2_with fail
  refine (rcmp_ok pa _ ca la pb _ cb lb _ H1.out H2.out rfl rfl).mono ?_
  rintro e w1 ⟨rfl, hw1⟩
  have HW1 := Lib.hid hw1
  have HA1 := Lib.hid (H1.out.keep hw1)
  have HB1 := Lib.hid (H2.out.keep hw1)
  have hsz1 := hw1.size
  clear H1 H2
  by_cases hlt : val la < val lb
  · rw [cmp_lt hlt]
    have hz := Lib.hid hlt
    clear hlt hw1
    go_wp2_with fail
    refine (rtrim_ok pa _ ca la _ HA1.out rfl (by omega)).mono ?_
    rintro e w2 ⟨p, c, rfl, hb2, hm2⟩
    have HM2 := Lib.hid hm2
    have HB2 := Lib.hid hb2
    clear hm2 hb2
    go_wp2_with fail
    go_ret3
    refine ⟨none, 0, p, c, ?_, HW1.out.trans (HB2.out.mono hsz1), ?_, ?_⟩
    · rw [Nat.div_eq_of_lt hz.out, rmd_pos hbpos.out, Nat.mod_eq_of_lt hz.out, posB_true hbpos.out, limbs_zero]; rfl
    · rw [Nat.div_eq_of_lt hz.out]; exact mine_nil _ _
    · rw [rmd_pos hbpos.out, Nat.mod_eq_of_lt hz.out]; exact HM2.out.mono hsz1
  have hc : ¬ cmp (val la) (val lb) < 0 := by rw [cmp_neg]; exact hlt
  have hle := Lib.hid (show val lb ≤ val la by omega)
  clear hlt hw1
  by_cases hB1 : n = 1
  · have h1 : ((n : Int) == 1) = true := by rw [beq_iff_eq]; omega
    have hBl : 0 < lb.length := by omega
    have hv0 := lm_val HB1.out.lim 0
    have hv : Hid (val lb = lm lb 0) := by
      have h3 := val_limbs (val lb)
      have h4 := val_lt (l := limbs (val lb)) (lim_limbs _)
      rw [← HB.out, hB1, h3, show bp 1 = 4294967296 from rfl] at h4
      rw [bp_zero, Nat.div_one, Nat.mod_eq_of_lt h4] at hv0
      exact hv0
    have hlm := lm_lt HB1.out.lim 0
    have hlm0 : 0 < lm lb 0 := by have := hbpos.out; have := hv.out; omega
    have hBc := HB1.out.cell 0 hBl
    rw [Nat.add_zero] at hBc
    have hBx := fun ww => HB1.out.ix (z := 0) (by omega) (n := lb.length) (by omega) (Nat.le_refl _) cb ww
    rw [show (0 : Int).toNat = 0 from rfl, Nat.add_zero] at hBx
    clear hB1 hv0
    go_wp2_with fail
    refine (rshort_ok pa _ ca la (lm lb 0) _ HA1.out rfl (by omega) hlm0 hlm).mono ?_
    rintro e w2 ⟨p, c, rfl, hb2, hm2⟩
    rw [← hv.out] at hm2 ⊢
    obtain ⟨r, hr⟩ : ∃ r, r = val la % val lb := ⟨_, rfl⟩
    rw [← hr]
    have hr2 : r < 4294967296 := by rw [hr, hv.out]; exact Nat.lt_trans (Nat.mod_lt _ hlm0) hlm
    have HM2 := Lib.hid hm2
    have HB2 := Lib.hid hb2
    have HRm := Lib.hid hr
    have hsz2 := hb2.size
    clear hm2 hb2 hBc hr
    go_wp2_with fail
    refine (rfromUint_ok r (by omega) _).mono ?_
    rintro e w4 ⟨p4, c4, rfl, hb4, hm4⟩
    have HB4 := Lib.hid hb4
    have HM4 := Lib.hid hm4
    have HM2' := Lib.hid (HM2.out.keep hb4)
    clear hb4 hm4
    go_wp2_with fail
    go_ret3
    refine ⟨p, c, p4, c4, ?_, ?_, HM2'.out.mono hsz1, ?_⟩
    · rw [rmd_pos hbpos.out, posB_true hbpos.out, ← HRm.out]; rfl
    · exact HW1.out.trans ((HB2.out.trans (HB4.out.mono hsz2)).mono hsz1)
    · rw [rmd_pos hbpos.out, ← HRm.out]; exact HM4.out.mono (by omega)
  have h1 : ((n : Int) == 1) = false := by rw [beq_eq_false_iff_ne]; omega
  have h2 : 2 ≤ n := by omega
  have hBlb : n ≤ lb.length := zB
  have htop := lm_lt HB1.out.lim (n - 1)
  have htop0 : lm lb (n - 1) ≠ 0 := by
    rw [lm_eq (by omega)]
    exact last_ne_zero HB1.out.lim (by rw [← HB.out]; omega) (by omega)
  have hBc := HB1.out.cell (n - 1) (by omega)
  have hBx := fun ww => HB1.out.ix (z := (n : Int) - 1) (by omega) (n := lb.length) (by omega) (Nat.le_refl _) cb ww
  rw [show ((n : Int) - 1).toNat = n - 1 from by omega] at hBx
  obtain ⟨x, hx⟩ : ∃ x, x = lm lb (n - 1) := ⟨_, rfl⟩
  rw [← hx] at htop hBc htop0
  have HXd := Lib.hid hx
  have HX0 : Hid (x ≠ 0) := htop0
  clear hB1 hx htop0
  go_wp2_with fail
  go_loop [10] (fun sv => ∃ k : Nat, sv = .int .i64 k ∧ k < 32 ∧ x * 2 ^ k < 4294967296) (fun sv => 32 - (intOf sv).toNat)
  case atStart => exact ⟨0, rfl, by omega, by rw [Nat.pow_zero, Nat.mul_one]; exact htop⟩
  case round =>
    obtain ⟨k, rfl, hk, hxk⟩ := hrel
    obtain ⟨X, hX⟩ : ∃ X, X = x * 2 ^ k := ⟨_, rfl⟩
    have hXi : (x : Int) * 2 ^ k = (X : Int) := by rw [hX, Int.natCast_mul, Int.natCast_pow]; rfl
    rw [← hX] at hxk
    have HX := Lib.hid hX
    clear hX
    by_cases h31 : X < 2147483648
    · have e1 : ((X : Int) / 2147483648 == 0) = true := by rw [beq_iff_eq]; omega
      have hk31 : k < 31 := by
        rcases Nat.lt_or_ge k 31 with h | h
        · exact h
        · obtain rfl : k = 31 := by omega
          have h3 := HX.out
          have h4 := HX0.out
          exfalso
          have : 1 * 2 ^ 31 ≤ x * 2 ^ 31 := Nat.mul_le_mul_right _ (Nat.pos_of_ne_zero h4)
          omega
      go_wp2_with fail
      go_round
      case rel => exact ⟨k + 1, by go_num, by omega, by rw [Nat.pow_succ, ← Nat.mul_assoc, ← HX.out]; omega⟩
      case measure => simp [intOf]; omega
    · have e1 : ((X : Int) / 2147483648 == 0) = false := by rw [beq_eq_false_iff_ne]; omega
      have HX31 : Hid (2147483648 ≤ X) := (by omega : 2147483648 ≤ X)
      have HX32 : Hid (X < 4294967296) := hxk
      have h31' : 2147483648 ≤ X := by omega
      have hca := HA1.out.le
      have hcb := HB1.out.le
      have hNc : N ≤ ca := by omega
      have hnc : n ≤ cb := by omega
      clear h31
      go_wp2_with fail
      refine (rsize_ok pa _ ca la _ HA1.out rfl).mono ?_
      rintro e w' ⟨rfl, rfl⟩
      rw [← HA.out]
      go_wp2_with fail
      have hAt : (la.take N).length = N := by rw [List.length_take]; omega
      have hBt : (lb.take n).length = n := by rw [List.length_take]; omega
      have hAv : val (la.take N) = val la := by rw [HA.out, take_limbs HA1.out.lim, val_limbs]
      have hBv : val (lb.take n) = val lb := by rw [HB.out, take_limbs HB1.out.lim, val_limbs]
      have HAt := Lib.hid hAt
      have HBt := Lib.hid hBt
      have HAv := Lib.hid hAv
      have HBv := Lib.hid hBv
      clear hAt hBt hAv hBv
      refine (rshifted_ok pa N ca (la.take N) k _ (HA1.out.take zA) HAt.out hk (by omega)).mono ?_
      rintro e w2 ⟨R, rfl, hR, hRv, hRl, hRO, hb2⟩
      rw [HAv.out] at hRv
      have HR := Lib.hid hR
      have HRv := Lib.hid hRv
      have HRl := Lib.hid hRl
      have HRO := Lib.hid hRO
      have HB2 := Lib.hid hb2
      have HBn2 := Lib.hid (HB1.out.keep hb2)
      have hsz2 := hRO.lt
      clear hR hRv hRl hRO hb2
      go_wp2_with fail
      refine (rshifted_ok pb n cb (lb.take n) k _ (HBn2.out.take zB) HBt.out hk (by omega)).mono ?_
      rintro e w3 ⟨V, rfl, hV, hVv, hVl, hVO, hb3⟩
      rw [HBv.out] at hVv
      have HV := Lib.hid hV
      have HVv := Lib.hid hVv
      have HVl := Lib.hid hVl
      have HVO := Lib.hid hVO
      have HRO3 := Lib.hid (HRO.out.below hb3 hsz2)
      have HB3 := Lib.hid (HB2.out.trans (hb3.mono (by omega)))
      have hsz3 := hVO.lt
      clear hV hVv hVl hVO hb3 HRO
      have hBA : n ≤ N := by rw [HA.out, HB.out]; exact limbs_length_mono hle.out
      obtain ⟨nQ, hnq⟩ : ∃ x, x = N + 1 - n := ⟨_, rfl⟩
      have hnqi : (N : Int) + 1 - (n : Int) = (nQ : Int) := by omega
      have hnq1 : nQ ≤ N + 1 - n := by omega
      have hnq2 : N + 1 - n ≤ nQ := by omega
      have HNQ := Lib.hid hnq
      clear hnq
      go_wp2_with (at_make; refine wpList_mk _ rfl _ _ rfl nQ rfl rfl (by omega) (by omega) ?_)
      intro w4 hsz4 hown4 hb4
      have HO4 := Lib.hid hown4
      have HB4 := Lib.hid hb4
      clear hown4 hb4
      go_wp2_with fail
      have hxt : lm (lb.take n) (n - 1) = x := by rw [lm_take (by omega), HXd.out]
      have hvlt : val lb * 2 ^ k < bp n := by rw [← HBv.out]; exact shl_lt (lim_take HB1.out.lim n) HBt.out (by omega) hk (by rw [hxt, ← HX.out]; exact HX32.out)
      have hvge : 2147483648 * bp (n - 1) ≤ val lb * 2 ^ k := by rw [← HBv.out]; exact shl_ge HBt.out (by omega) (by rw [hxt, ← HX.out]; exact HX31.out)
      have hvpos : 0 < val lb * 2 ^ k := Nat.mul_pos hbpos.out (Nat.two_pow_pos k)
      have hstart : val la * 2 ^ k < val lb * 2 ^ k * bp (nQ) :=
        by rw [HNQ.out]; exact div_start (N := N) (by have := val_lt (lim_take HA1.out.lim N); rwa [HAv.out, HAt.out] at this) hk (by omega) hvge (by omega)
      have hV2v : val (V.take n) = val lb * 2 ^ k := by rw [val_take_of_lt (by have := HV.out; omega) (by rw [HVv.out]; exact hvlt), HVv.out]
      obtain ⟨v, hv⟩ : ∃ v, v = val lb * 2 ^ k := ⟨_, rfl⟩
      obtain ⟨u, hu⟩ : ∃ u, u = val la * 2 ^ k := ⟨_, rfl⟩
      have hV2n := (HVO.out.natIn HVl.out (n := n) (c := n + 1) (by have := HV.out; omega) (by omega) (by omega)).keep HB4.out
      have hV2l : (V.take n).length = n := by rw [List.length_take, HV.out]; omega
      obtain ⟨V2, hV2⟩ : ∃ V2, V2 = V.take n := ⟨_, rfl⟩
      rw [← hV2] at hV2n hV2l hV2v
      rw [← hv] at hvlt hvge hvpos hstart hV2v
      rw [← hu] at hstart
      have hVtop : 2147483648 ≤ lm V2 (n - 1) := top_ge hV2n.lim hV2l (by omega) (by rw [hV2v]; exact hvge)
      have HVtop := Lib.hid hVtop
      have HVLT := Lib.hid hvlt
      have HVP := Lib.hid hvpos
      have HST := Lib.hid hstart
      have HVd := Lib.hid hv
      have HUd := Lib.hid hu
      have HV2v := Lib.hid hV2v
      have HV2n := Lib.hid hV2n
      have HV2l := Lib.hid hV2l
      have HRO4 := Lib.hid (HRO3.out.below HB4.out (by omega))
      have HBw4 := Lib.hid (HB3.out.trans (HB4.out.mono (by omega)))
      have HRu : Hid (val R = u) := by rw [HRv.out, HUd.out]; rfl
      obtain ⟨g, hg⟩ : ∃ g, g = w1.heap.size := ⟨_, rfl⟩
      obtain ⟨g2, hg2⟩ : ∃ g, g = w2.heap.size := ⟨_, rfl⟩
      obtain ⟨gq, hgq⟩ : ∃ g, g = w3.heap.size := ⟨_, rfl⟩
      rw [← hg] at HRO4 hsz2 ⊢
      rw [← hg2] at HV2n hsz2 hsz3 ⊢
      rw [← hgq] at HO4 hsz4 hsz3 ⊢
      have HG := Lib.hid hg
      clear hxt hvlt hvge hvpos hstart hV2v hv hu hV2n hV2l hV2 hVtop HV HVv HVl HVO HB4 HRO3 HB3 HB2 HBn2 HRv HX31 HX32 hXi HX HX0 HXd hxk htop hBc hBx e1 h31' hg hg2 hgq HAt HBt HAv HBv
      go_loopg [14] (N + 2) (fun gk iv wr => ∃ (m : Nat) (R Q : List Nat), m ≤ nQ ∧ iv = .int .i64 ((m : Int) - 1) ∧ R.length = N + 1 ∧ Lim R ∧ Own wr g R ∧ Q.length = nQ ∧ Lim Q ∧ Own wr gq Q ∧ NatIn wr (some ⟨g2, 0, none⟩) (n + 1) V2 ∧ Below w1.heap.size w1 wr ∧ gq < wr.heap.size ∧
          val R < v * bp m ∧ u = val (Q.drop m) * bp m * v + val R ∧ m < gk)
      case atStart =>
        refine ⟨nQ, R, List.replicate (nQ) 0, Nat.le_refl _, ?_, HR.out, HRl.out, HRO4.out, by simp, lim_zeros _, HO4.out, HV2n.out, HBw4.out, hsz4, by rw [HRu.out]; exact HST.out, ?_, by omega⟩
        · congr 1
        · rw [List.drop_of_length_le (by simp), HRu.out]; simp [val]
      case round =>
        clear HRu HRO4 HO4 HV2n HBw4 HR HRl HST hsz4
        obtain ⟨m, R2, Q, hm, rfl, hR2, hR2l, hR2O, hQ, hQl, hQO, hV2, hb2, hs2, hI1, hI2, hgk⟩ := hrel
        have HR2 := Lib.hid hR2
        have HR2l := Lib.hid hR2l
        have HR2O := Lib.hid hR2O
        have HQ := Lib.hid hQ
        have HQl := Lib.hid hQl
        have HQO := Lib.hid hQO
        have HV2 := Lib.hid hV2
        have HBw := Lib.hid hb2
        have HI1 := Lib.hid hI1
        have HI2 := Lib.hid hI2
        have HGK := Lib.hid hgk
        clear hR2 hR2l hR2O hQ hQl hQO hV2 hb2 hI1 hI2 hgk
        by_cases h0 : 0 < m
        · obtain ⟨j, rfl⟩ : ∃ j, m = j + 1 := ⟨m - 1, by omega⟩
          rw [show (((j + 1 : Nat) : Int) - 1) = (j : Int) from by omega]
          obtain ⟨n1, hn1⟩ : ∃ n1, n1 = n - 1 := ⟨_, rfl⟩
          have HN1 := Lib.hid hn1
          have hn1a : n1 < n := by omega
          have hn1b : n ≤ n1 + 1 := by omega
          have hjN : j + n ≤ N := by omega
          clear hn1
          have hjl : j + (n + 1) ≤ R2.length := by have := HR2.out; omega
          have hSl : ((R2.drop j).take (n + 1)).length = n + 1 := by rw [List.length_take, List.length_drop]; omega
          have hpc := div_piece (n := n) (by omega : j + n + 1 ≤ R2.length) HVLT.out HI1.out
          have hSO : Own wr g (splice R2 j ((R2.drop j).take (n + 1))) := by rw [splice_self hjl]; exact HR2O.out
          obtain ⟨S, hSd⟩ : ∃ S, S = (R2.drop j).take (n + 1) := ⟨_, rfl⟩
          have hSm : Lim S := by rw [hSd]; exact lim_take (lim_drop HR2l.out _) _
          rw [← hSd] at hSl hSO hpc
          have hRS : j + S.length ≤ R2.length := by omega
          have HT := Lib.hid (top_of hSl HV2l.out hSm HV2.out.lim (by omega) HVtop.out (by rw [HV2v.out]; exact hpc.1))
          have HSl := Lib.hid hSl
          have HSO := Lib.hid hSO
          have HPc := Lib.hid hpc.1
          have HJl := Lib.hid hjl
          have HSm := Lib.hid hSm
          have HSd := Lib.hid hSd
          have HRS := Lib.hid hRS
          have hs1 := seg_cell hSO hRS (k := n1) (by omega)
          have hs2' := seg_cell hSO hRS (k := n) (by omega)
          have hv1 := HV2.out.cell n1 (by have := HV2l.out; omega)
          have hvx := fun ww => HV2.out.ix (z := (n1 : Int)) (by omega) (n := n) (by omega) (by have := HV2l.out; omega) (n + 1) ww
          rw [blk_some, ofs_some, Nat.zero_add] at hv1
          rw [blk_some, ofs_some, Nat.zero_add, show ((n1 : Int)).toNat = n1 from by omega] at hvx
          have b1 := lm_lt hSm n1
          have b2 := lm_lt hSm n
          have b4 := lm_lt HV2.out.lim n1
          have hor1 := or_u64 (r := lm S n) (x := lm S n1) b2 b1
          have hvt := HVtop.out
          rw [← HN1.out] at hvt
          clear hSl hSO hpc hjl hSm hSd hRS
          go_wp2_with fail
          have hwa : IntKind.i64.wrap ((j : Int) + (n : Int)) = (j : Int) + (n : Int) := IntWalk.i64_in _ (by omega)
          have hwb : IntKind.i64.wrap ((j : Int) + (n : Int) - 1) = (j : Int) + (n1 : Int) := by rw [IntWalk.i64_in _ (by omega)]; omega
          have hwc : IntKind.i64.wrap ((n : Int) - 1) = (n1 : Int) := by rw [IntWalk.i64_in _ (by omega)]; omega
          have hta : ((j : Int) + (n : Int)).toNat = j + n := by omega
          have htb : ((j : Int) + (n1 : Int)).toNat = j + n1 := by omega
          go_quiet (fail)
          clear hwa hwb hwc hta htb hs1 hs2'
          obtain ⟨T, hTd⟩ : ∃ T, T = lm S n * 4294967296 + lm S n1 := ⟨_, rfl⟩
          have hTi : ((lm S n : Nat) : Int) * 4294967296 + ((lm S n1 : Nat) : Int) = (T : Int) := by omega
          obtain ⟨q1, hq1⟩ : ∃ q, q = T / lm V2 n1 := ⟨_, rfl⟩
          have hq1i : (T : Int) / ((lm V2 n1 : Nat) : Int) = (q1 : Int) := by rw [hq1, Int.natCast_ediv]
          obtain ⟨q, hq⟩ : ∃ q, q = min q1 4294967295 := ⟨_, rfl⟩
          have hqi : min (q1 : Int) 4294967295 = (q : Int) := by omega
          rw [hTi, hq1i, hqi]
          have hqb : q ≤ 4294967295 := by omega
          have hge : Hid (val S / val V2 ≤ q) := by
            have h3 := HT.out.start
            rw [← HN1.out, ← hTd, ← hq1] at h3
            have h4 : val S / v < 4294967296 := Nat.div_lt_of_lt_mul HPc.out
            rw [HV2v.out] at h3 ⊢
            show _ ≤ _
            omega
          have HW := Lib.hid (show DvW w1 (wr.drewN nq) g g2 gq n V2 Q (splice R2 j S) from ⟨HSO.out, HQO.out, HV2.out.drewN _, below_drewN HBw.out _, hs2⟩)
          have hgw : w1.heap.size ≤ g := by rw [HG.out]; exact Nat.le_refl _
          have hg3 : g2 ≠ g := by omega
          have hg4 : g ≠ gq := by omega
          clear hTi hq1i hqi hTd hq1 hq hor1 hv1 hvx b1 b2 b4 HT HSO HQO HV2 HBw hs2 HR2O
          go_wp2_with fail
          go_loopg [16, 17, 116] (n + 1) (fun gk2 cv bv iv wq => ∃ (i c br : Nat) (U : List Nat), i ≤ n ∧ iv = .int .i64 i ∧ cv = .int .u64 c ∧ bv = .int .u64 br ∧ c ≤ q ∧ br ≤ 1 ∧ U.length = n + 1 ∧ Lim U ∧ DvW w1 wq g g2 gq n V2 Q (splice R2 j U) ∧
              (∀ t, i ≤ t → lm U t = lm S t) ∧ val (U.take i) + q * val (V2.take i) = val (S.take i) + bp i * (c + br) ∧ n - i < gk2)
          case atStart => exact ⟨0, 0, 0, S, Nat.zero_le _, rfl, rfl, rfl, Nat.zero_le _, by omega, HSl.out, HSm.out, HW.out, fun _ _ => rfl, by simp [val], by omega⟩
          case round =>
            obtain ⟨i, c, br, U, hi, rfl, rfl, rfl, hc2, hbr, hU, hlim, hO1, ht1, hI, hgk2⟩ := hrel
            have HU := Lib.hid hU
            have HLim := Lib.hid hlim
            have HO1 := Lib.hid hO1
            have HT1 := Lib.hid ht1
            have HI := Lib.hid hI
            have HGK2 := Lib.hid hgk2
            have hRU : j + U.length ≤ R2.length := by rw [hU, ← HSl.out]; exact HRS.out
            have HRU := Lib.hid hRU
            have hNR : j + n ≤ N := by have := HR2.out; omega
            clear hU hlim hO1 ht1 hI hRU hgk2
            by_cases hin : i < n
            · have hsc := seg_cell HO1.out.own HRU.out (k := i) (by have := HU.out; omega)
              have hvc := HO1.out.div.cell i (by have := HV2l.out; omega)
              have hvx := fun ww => HO1.out.div.ix (z := (i : Int)) (by omega) (n := n) (by omega) (by have := HV2l.out; omega) (n + 1) ww
              rw [blk_some, ofs_some, Nat.zero_add] at hvc
              rw [blk_some, ofs_some, Nat.zero_add, Int.toNat_natCast] at hvx
              have hof := HO1.out.own.frozen (j + i)
              have bs := lm_lt HLim.out i
              have bv := lm_lt HO1.out.div.lim i
              obtain ⟨P, hP⟩ : ∃ P, P = q * lm V2 i := ⟨_, rfl⟩
              have hPi : (q : Int) * ((lm V2 i : Nat) : Int) = (P : Int) := by rw [hP, Int.natCast_mul]
              have hPb : P ≤ 18446744065119617025 := by
                rw [hP]; exact Nat.mul_le_mul (show q ≤ 4294967295 by omega) (show lm V2 i ≤ 4294967295 by omega)
              have HP := Lib.hid hP
              clear hP
              obtain ⟨lo, hlo⟩ : ∃ lo, lo = (c + P) % 4294967296 := ⟨_, rfl⟩
              have hand : Go.bits .and .u64 ((c : Int) + (P : Int)) 4294967295 = (lo : Int) := by rw [and_lo (by omega) (by omega)]; omega
              have hlob : lo < 4294967296 := by omega
              have HLO := Lib.hid hlo
              clear hlo
              have hand2 : Go.bits .and .u64 (((lm U i : Nat) : Int) + 4294967296 - (lo : Int) - (br : Int)) 4294967295 = (((4294967296 + lm U i - lo - br) % 4294967296 : Nat) : Int) := by rw [and_lo (by omega) (by omega)]; omega
              have hbr2 := rms_br bs hlob hbr
              obtain ⟨b2, hb2⟩ : ∃ b2, b2 = (if lm U i < lo + br then 1 else 0 : Nat) := ⟨_, rfl⟩
              rw [← hb2] at hbr2
              have hb2l : b2 ≤ 1 := by rw [hb2]; exact ite_le_one' _
              have HB2' := Lib.hid hb2
              clear hb2
              go_wp2_with fail
              go_roundg (n - i)
              case measure => have := HGK2.out; omega
              case rel =>
                refine ⟨i + 1, (c + P) / 4294967296, b2, U.set i ((4294967296 + lm U i - lo - br) % 4294967296), by omega, by go_num, by go_num, rfl, ?_, hb2l,
                  by rw [List.length_set]; exact HU.out, lim_set HLim.out (by omega), ?_, ?_, ?_, by omega⟩
                · rw [HP.out]; exact msub_carry hc2 bv
                · refine HO1.out.seg hgw hg4 hg3 HRU.out (by have := HU.out; omega) (by omega)
                · intro t ht
                  rw [lm_set_ne (by omega)]
                  exact HT1.out t (by omega)
                · rw [HB2'.out, HLO.out, HP.out]; exact msub_step HLim.out (by have := HU.out; omega) (HT1.out i (Nat.le_refl _)) hbr HI.out
            · obtain rfl : n = i := by omega
              have hsc := seg_cell HO1.out.own HRU.out (k := n) (by have := HU.out; omega)
              have hof := HO1.out.own.frozen (j + n)
              have bs := lm_lt HLim.out n
              have hI2 := HI.out
              rw [val_take_all (l := V2) (by have := HV2l.out; omega), HV2v.out] at hI2
              obtain ⟨D, hD⟩ : ∃ D, D = lm U n + 8589934592 - c - br := ⟨_, rfl⟩
              have hDi : ((lm U n : Nat) : Int) + 8589934592 - (c : Int) - (br : Int) = (D : Int) := by omega
              have hand : Go.bits .and .u64 (D : Int) 4294967295 = (D : Int) % 4294967296 := and_lo (by omega) (by omega)
              have HD := Lib.hid hD
              clear hD
              obtain ⟨un, hun⟩ : ∃ un, un = decide ((D : Int) < 8589934592) := ⟨_, rfl⟩
              have hund : decide ((D : Int) < 8589934592) = un := hun.symm
              have hgs : Hid (Gs S (U.set n (D % 4294967296)) n q v un) := by
                have hDd := HD.out
                refine ⟨by rw [List.length_set]; exact HU.out, lim_set HLim.out (by omega), ?_, by have := hge.out; rwa [HV2v.out] at this⟩
                by_cases hneg : lm U n < c + br
                · rw [if_pos (by rw [hun]; simp; omega), show D % 4294967296 = (4294967296 + lm U n - c - br) % 4294967296 from by omega]
                  exact msub_neg HU.out (HT1.out _ (Nat.le_refl _)) HSl.out hneg (by omega) hI2
                · rw [if_neg (by rw [hun]; simp; omega), show D % 4294967296 = lm U n - c - br from by omega]
                  exact msub_end HU.out (HT1.out _ (Nat.le_refl _)) HSl.out (by omega) hI2
              have HO2 := Lib.hid (HO1.out.seg hgw hg4 hg3 HRU.out (k := n) (x := D % 4294967296) (z := (D : Int) % 4294967296) (by have := HU.out; omega) (by omega))
              obtain ⟨U2, hU2⟩ : ∃ U2, U2 = U.set n (D % 4294967296) := ⟨_, rfl⟩
              rw [← hU2] at hgs HO2
              clear hun hU2 hI2
              go_wp2_with fail
              clear hsc hof bs
              go_loopg [15, 21] (q + 2) (fun gk3 gv uv wq => ∃ (qq : Nat) (un : Bool) (U : List Nat), gv = .int .u64 qq ∧ uv = .bool un ∧ qq ≤ 4294967295 ∧ Gs S U n qq v un ∧ DvW w1 wq g g2 gq n V2 Q (splice R2 j U) ∧ qq < gk3)
              case atStart => exact ⟨q, un, U2, rfl, rfl, hqb, hgs.out, HO2.out, by omega⟩
              case round =>
                clear HU HLim HO1 HT1 HI HRU HO2 hgs HD hand hDi hund
                obtain ⟨qq, un, U, rfl, rfl, hqq, hgs, hO2, hgk3⟩ := hrel
                have HGS := Lib.hid hgs
                have HO2 := Lib.hid hO2
                have HGK3 := Lib.hid hgk3
                have hRU : j + U.length ≤ R2.length := by rw [hgs.len, ← HSl.out]; exact HRS.out
                have HRU := Lib.hid hRU
                clear hgs hO2 hgk3 hRU
                cases un
                · have hqc := HO2.out.quo.cell (i := j) (by have := HQ.out; omega)
                  have hqf := HO2.out.quo.frozen j
                  have hdone := HGS.out.done HVP.out
                  have hstep := div_step (n := n) HR2l.out (by have := HR2.out; omega) (by have := HQ.out; omega : j < Q.length) HVLT.out HVP.out HI1.out HI2.out HGS.out.len (by rw [← HSd.out]; exact hdone.2.symm)
                  rw [← HSd.out, hdone.1] at hstep
                  have HStep := Lib.hid hstep
                  clear hdone hstep
                  go_wp2_with fail
                  go_roundg (j + 1)
                  case measure => exact HGK.out
                  case rel =>
                    have hW := HO2.out.quoSet (by omega) hg4 (by omega) (o := j) (x := qq) (z := (qq : Int)) rfl
                    exact ⟨j, splice R2 j U, Q.set j qq, by omega, by go_num, by rw [splice_length HRU.out]; exact HR2.out, lim_splice HR2l.out HGS.out.lim, hW.own, by rw [List.length_set]; exact HQ.out, lim_set HQl.out (by omega), hW.quo, hW.div, hW.bel, hW.lt, HStep.out.1, HStep.out.2, by omega⟩
                · have hmore := HGS.out.more HVP.out
                  have hq1 := hmore.1
                  have HMore := Lib.hid hmore.2
                  clear hmore
                  go_wp2_with fail
                  go_loopg [22, 182] (n + 1) (fun gk4 cv iv wq => ∃ (i c : Nat) (Z : List Nat), i ≤ n ∧ iv = .int .i64 i ∧ cv = .int .u64 c ∧ c ≤ 1 ∧ Z.length = n + 1 ∧ Lim Z ∧ DvW w1 wq g g2 gq n V2 Q (splice R2 j Z) ∧
                      (∀ t, i ≤ t → lm Z t = lm U t) ∧ val (Z.take i) + bp i * c = val (U.take i) + val (V2.take i) ∧ n - i < gk4)
                  case atStart => exact ⟨0, 0, U, Nat.zero_le _, rfl, rfl, by omega, HGS.out.len, HGS.out.lim, HO2.out, fun _ _ => rfl, by simp [val], by omega⟩
                  case round =>
                    clear HO2 HRU
                    obtain ⟨i, c2, Z, hi, rfl, rfl, hc2, hZ, hlimZ, hOZ, htZ, hIZ, hgk4⟩ := hrel
                    have HZ := Lib.hid hZ
                    have HLimZ := Lib.hid hlimZ
                    have HOZ := Lib.hid hOZ
                    have HTZ := Lib.hid htZ
                    have HIZ := Lib.hid hIZ
                    have HGK4 := Lib.hid hgk4
                    have hRZ : j + Z.length ≤ R2.length := by rw [hZ, ← HSl.out]; exact HRS.out
                    have HRZ := Lib.hid hRZ
                    clear hZ hlimZ hOZ htZ hIZ hRZ hgk4
                    by_cases hin : i < n
                    · have hsc := seg_cell HOZ.out.own HRZ.out (k := i) (by have := HZ.out; omega)
                      have hvc := HOZ.out.div.cell i (by have := HV2l.out; omega)
                      have hvx := fun ww => HOZ.out.div.ix (z := (i : Int)) (by omega) (n := n) (by omega) (by have := HV2l.out; omega) (n + 1) ww
                      rw [blk_some, ofs_some, Nat.zero_add] at hvc
                      rw [blk_some, ofs_some, Nat.zero_add, Int.toNat_natCast] at hvx
                      have hof := HOZ.out.own.frozen (j + i)
                      have bs := lm_lt HLimZ.out i
                      have bv := lm_lt HOZ.out.div.lim i
                      obtain ⟨D, hD⟩ : ∃ D, D = c2 + lm Z i + lm V2 i := ⟨_, rfl⟩
                      have hDi : (c2 : Int) + ((lm Z i : Nat) : Int) + ((lm V2 i : Nat) : Int) = (D : Int) := by omega
                      have hDb : D ≤ 8589934591 := by omega
                      have hand : Go.bits .and .u64 (D : Int) 4294967295 = (D : Int) % 4294967296 := and_lo (by omega) (by omega)
                      have HD := Lib.hid hD
                      have hwa : IntKind.i64.wrap ((j : Int) + (i : Int)) = (j : Int) + (i : Int) := IntWalk.i64_in _ (by omega)
                      have hta : ((j : Int) + (i : Int)).toNat = j + i := by omega
                      clear hD
                      go_wp2_with fail
                      go_quiet (fail)
                      clear hwa hta
                      go_wp2_with fail
                      go_roundg (n - i)
                      case measure => have := HGK4.out; omega
                      case rel =>
                        refine ⟨i + 1, D / 4294967296, Z.set i (D % 4294967296), by omega, by go_num, by go_num, by omega, by rw [List.length_set]; exact HZ.out, lim_set HLimZ.out (by omega), ?_, ?_, ?_, by omega⟩
                        · exact (HOZ.out.drewN _).seg hgw hg4 hg3 HRZ.out (by have := HZ.out; omega) (by omega)
                        · intro t ht
                          rw [lm_set_ne (by omega)]
                          exact HTZ.out t (by omega)
                        · have h3 := add_step (L := Z) (by have := HZ.out; omega) HIZ.out
                          rw [← HTZ.out i (Nat.le_refl _), ← HD.out] at h3
                          exact h3
                    · obtain rfl : n = i := by omega
                      have hsc := seg_cell HOZ.out.own HRZ.out (k := n) (by have := HZ.out; omega)
                      have hof := HOZ.out.own.frozen (j + n)
                      have bs := lm_lt HLimZ.out n
                      obtain ⟨D, hD⟩ : ∃ D, D = c2 + lm Z n := ⟨_, rfl⟩
                      have hDi : (c2 : Int) + ((lm Z n : Nat) : Int) = (D : Int) := by omega
                      have hDb : D ≤ 8589934591 := by omega
                      have hand : Go.bits .and .u64 (D : Int) 4294967295 = (D : Int) % 4294967296 := and_lo (by omega) (by omega)
                      have hgs2 := HGS.out
                      rw [← HV2v.out] at hgs2
                      have hst := hgs2.step (by rw [HV2v.out]; exact HVP.out) HZ.out HLimZ.out HV2l.out (HTZ.out n (Nat.le_refl _)) hc2 HIZ.out
                      rw [hDi, ← hD, HV2v.out] at hst
                      obtain ⟨un, hun⟩ : ∃ un, un = decide ((D : Int) / 4294967296 = 0) := ⟨_, rfl⟩
                      rw [← hun] at hst
                      have hund : ((D : Int) / 4294967296 == 0) = un := by rw [hun]; rfl
                      have HST := Lib.hid hst
                      have hO3 := HOZ.out.seg hgw hg4 hg3 HRZ.out (k := n) (x := D % 4294967296) (z := (D : Int) % 4294967296) (by have := HZ.out; omega) (by omega)
                      have HO3 := Lib.hid hO3
                      clear hD hun hst hO3 hgs2
                      go_wp2_with fail
                      go_roundg qq
                      case measure => exact HGK3.out
                      case rel => exact ⟨qq - 1, un, Z.set n (D % 4294967296), by go_num, rfl, by omega, HST.out, HO3.out, by omega⟩
        · obtain rfl : m = 0 := by omega
          rw [show (((0 : Nat) : Int) - 1) = -1 from by omega]
          have hend := HI2.out
          rw [List.drop_zero, bp_zero, Nat.mul_one, HUd.out, HVd.out] at hend
          have hRlt := HI1.out
          rw [bp_zero, Nat.mul_one, HVd.out] at hRlt
          have hqr := div_end (Nat.two_pow_pos k) hRlt hend
          have HQv := Lib.hid hqr.1
          have HRv2 := Lib.hid hqr.2
          have hlen2 := HR2.out
          clear hend hRlt hqr
          go_wp2_with fail
          refine (rtrim_ok _ _ _ R2 _ (HR2O.out.whole HR2l.out HR2.out (by omega)) HR2.out (by omega)).mono ?_
          rintro e w5 ⟨p1, c1, rfl, hb5, hm5⟩
          have hMl : (limbs (val R2)).length ≤ N + 1 := by have := limbs_length_val_le HR2l.out; omega
          obtain ⟨M, hM⟩ : ∃ M, M = limbs (val R2) := ⟨_, rfl⟩
          rw [← hM] at hm5 hMl ⊢
          have hMv : Hid (val M / 2 ^ k = val la % val lb) := by
            rw [hM, val_limbs, HRv2.out]
            exact Nat.mul_div_cancel _ (Nat.two_pow_pos k)
          have hMm := Lib.hid hm5.natIn.lim
          have HM1 := Lib.hid hm5
          have HB5 := Lib.hid hb5
          obtain ⟨wo, hwo⟩ : ∃ wo : World, wo = wr := ⟨_, rfl⟩
          rw [← hwo] at HQO HBw hs2 HM1 HB5
          clear hM hb5 hm5 hlen2 HRv2 HR2 HR2l HR2O HV2 hwo
          go_wp2_with fail
          go_loopg [240] (M.length + 1) (fun gk5 iv wq => ∃ (i : Nat) (T : List Nat), i ≤ M.length ∧ iv = .int .i64 i ∧ T.length = M.length ∧ Mine wo.heap.size wq p1 c1 T ∧ Below wo.heap.size wo wq ∧ (∀ j, i ≤ j → lm T j = lm M j) ∧
              val (T.take i) = val M / 2 ^ k % bp i ∧ M.length - i < gk5)
          case atStart => exact ⟨0, M, Nat.zero_le _, rfl, rfl, HM1.out, HB5.out, fun _ _ => rfl, by rw [bp_zero, Nat.mod_one]; rfl, by omega⟩
          case round =>
            clear HM1 HB5
            obtain ⟨i, T, hi, rfl, hT, hTm, hTB, hTt, hTI, hgk5⟩ := hrel
            have HT := Lib.hid hT
            have HTm := Lib.hid hTm
            have HTB := Lib.hid hTB
            have HTt := Lib.hid hTt
            have HTI := Lib.hid hTI
            have HGK5 := Lib.hid hgk5
            clear hT hTm hTB hTt hTI hgk5
            by_cases hil : i < M.length
            · have hiT : i < T.length := by have := HT.out; omega
              have hc0 := HTm.out.natIn.cell i hiT
              have hf0 := HTm.out.frozen (by omega) (ofs p1 + i)
              have hx0 := lm_lt HTm.out.natIn.lim i
              have hge := HTm.out.ge (by omega)
              have hix := fun ww => HTm.out.natIn.ix (z := (i : Int)) (by omega) (n := M.length) (by omega) (by have := HT.out; omega) c1 ww
              rw [Int.toNat_natCast] at hix
              have hxd : lm T i / 2 ^ k < 4294967296 := Nat.lt_of_le_of_lt (Nat.div_le_self _ _) hx0
              have hm2 := HTm.out.set hiT hxd (z := ((lm T i : Nat) : Int) / 2 ^ k) (by rw [Int.natCast_ediv, Int.natCast_pow]; rfl)
              have HM2 := Lib.hid hm2
              clear hm2
              by_cases hlast : i + 1 < M.length
              · have HB2 := Lib.hid (below_set HTB.out (o := ofs p1 + i) hge (.int .u32 (((lm T i : Nat) : Int) / 2 ^ k)))
                have hix1 := fun ww => HTm.out.natIn.ix (z := (i : Int) + 1) (by omega) (n := M.length) (by omega) (by have := HT.out; omega) c1 ww
                rw [show ((i : Int) + 1).toNat = i + 1 from by omega] at hix1
                go_upto_region 52 with fail
                obtain ⟨wq, hwq⟩ : ∃ wq, wq = wr.setCell ⟨blk p1, ofs p1 + i, none⟩ (.int .u32 (((lm T i : Nat) : Int) / 2 ^ k)) := ⟨_, rfl⟩
                rw [← hwq] at HM2 HB2 ⊢
                obtain ⟨x2, hx2⟩ : ∃ x, x = lm T i / 2 ^ k := ⟨_, rfl⟩
                have hTs : i < (T.set i (lm T i / 2 ^ k)).length := by rw [List.length_set]; exact hiT
                have hTs1 : i + 1 < (T.set i (lm T i / 2 ^ k)).length := by rw [List.length_set]; have := HT.out; omega
                have hd0 := HM2.out.natIn.cell i hTs
                rw [lm_set_eq hiT, ← hx2] at hd0
                have hd1 := HM2.out.natIn.cell (i + 1) hTs1
                rw [lm_set_ne (by omega)] at hd1
                have hdf := HM2.out.frozen (by omega) (ofs p1 + i)
                rw [← hx2] at hxd
                have hy0 := lm_lt HTm.out.natIn.lim (i + 1)
                clear hc0 hf0 hwq
                have HX2 := Lib.hid hx2
                clear hx2
                obtain ⟨Y, hY⟩ : ∃ Y, Y = lm T (i + 1) * 2 ^ (32 - k) := ⟨_, rfl⟩
                have hYi : ((lm T (i + 1) : Nat) : Int) * 2 ^ (32 - k) = (Y : Int) := by rw [hY, Int.natCast_mul, Int.natCast_pow]; rfl
                have hYb : Y ≤ 18446744069414584320 := by
                  rw [hY]
                  have h5 : 2 ^ (32 - k) ≤ 2 ^ 32 := Nat.pow_le_pow_right (by omega) (by omega)
                  exact Nat.mul_le_mul (show lm T (i + 1) ≤ 4294967295 by omega) h5
                have HY := Lib.hid hY
                clear hY
                have hand : Go.bits .and .u64 (Y : Int) 4294967295 = (Y : Int) % 4294967296 := and_lo (by omega) (by omega)
                have hwY : IntKind.u64.wrap (Y : Int) = (Y : Int) := IntWalk.u64_in _ (by omega)
                obtain ⟨Z, hZ⟩ : ∃ Z, Z = (x2 + 2 ^ (32 - k) * lm T (i + 1)) % 4294967296 := ⟨_, rfl⟩
                have hor : Go.bits .or .u32 (x2 : Int) ((Y : Int) % 4294967296) = (Z : Int) := by
                  rw [hZ]
                  have e : (Y : Int) % 4294967296 = ((Y % 4294967296 : Nat) : Int) := by omega
                  rw [e, or_u32 hxd (Nat.mod_lt _ (by omega)), HX2.out, HY.out, or_hi hk hx0]
                have hm3 := HM2.out.set hTs (x := Z) (z := (Z : Int)) (by rw [hZ]; exact Nat.mod_lt _ (by omega)) rfl
                rw [List.set_set] at hm3
                have HM3 := Lib.hid hm3
                have HZ := Lib.hid hZ
                clear hZ
                have hw32 : IntKind.i64.wrap (32 - (k : Int)) = 32 - (k : Int) := IntWalk.i64_in _ (by omega)
                clear hm3
                go_region
                go_wp2_with fail
                go_roundg (M.length - i)
                case measure => have := HGK5.out; omega
                case rel =>
                  refine ⟨i + 1, _, by omega, by go_num, ?_, HM3.out.drew, (below_set HB2.out hge _).drew, ?_, ?_, by omega⟩
                  · rw [List.length_set]; exact HT.out
                  · intro j hj
                    rw [lm_set_ne (by omega)]
                    exact HTt.out j (by omega)
                  · have h3 := rsh_step hMm.out hiT (pow_split (by omega)) (Nat.two_pow_pos k) HTI.out
                    rw [← HTt.out i (Nat.le_refl _), ← HTt.out (i + 1) (by omega), ← HX2.out, ← HZ.out] at h3
                    exact h3
              · go_wp2_with fail
                go_roundg (M.length - i)
                case measure => have := HGK5.out; omega
                case rel =>
                  refine ⟨i + 1, _, by omega, by go_num, ?_, HM2.out, below_set HTB.out hge _, ?_, ?_, by omega⟩
                  · rw [List.length_set]; exact HT.out
                  · intro j hj
                    rw [lm_set_ne (by omega)]
                    exact HTt.out j (by omega)
                  · have h3 := rsh_step hMm.out hiT (pow_split (by omega)) (Nat.two_pow_pos k) HTI.out
                    rw [← HTt.out i (Nat.le_refl _)] at h3
                    have h4 : (lm T i / 2 ^ k + 2 ^ (32 - k) * lm M (i + 1)) % 4294967296 = lm T i / 2 ^ k := by
                      rw [lm_out (l := M) (by omega), Nat.mul_zero, Nat.add_zero]; exact Nat.mod_eq_of_lt hxd
                    rwa [h4] at h3
            · obtain rfl : i = M.length := by omega
              have hval := rsh_end hMm.out HT.out HTI.out
              rw [hMv.out] at hval
              have HVal := Lib.hid hval
              have HQO2 := Lib.hid (HQO.out.below HTB.out hs2)
              have hszo := HTB.out.size
              have hszw := HBw.out.size
              clear hval
              go_wp2_with fail
              refine (rtrim_ok _ _ _ Q _ (HQO2.out.whole HQl.out HQ.out (by omega)) HQ.out (by omega)).mono ?_
              rintro e w6 ⟨p6, c6, rfl, hb6, hm6⟩
              rw [HQv.out] at hm6 ⊢
              have HM6 := Lib.hid hm6
              have HB6 := Lib.hid hb6
              have HTm6 := Lib.hid (HTm.out.natIn.keep hb6)
              have hsz6 := hb6.size
              clear hb6 hm6
              go_wp2_with fail
              refine (rtrim_ok _ _ _ T _ HTm6.out HT.out (by omega)).mono ?_
              rintro e w7 ⟨p7, c7, rfl, hb7, hm7⟩
              rw [HVal.out] at hm7 ⊢
              have HM7 := Lib.hid hm7
              have HM67 := Lib.hid (HM6.out.keep hb7)
              have HB7 := Lib.hid hb7
              clear hb7 hm7
              go_wp2_with fail
              go_ret3
              refine ⟨p6, c6, p7, c7, ?_, ?_, HM67.out.mono (by omega), ?_⟩
              · rw [rmd_pos hbpos.out, posB_true hbpos.out]; rfl
              · exact HW1.out.trans ((HBw.out.trans ((HTB.out.trans ((HB6.out.trans (HB7.out.mono hsz6)).mono hszo)).mono hszw)).mono hsz1)
              · rw [rmd_pos hbpos.out]; exact HM7.out.mono (by omega)
end Go.Proofs.YtfdjlkffhikaeaaDoor
