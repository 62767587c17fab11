/- The reference: Same, Compare, Bits, Add; canonical, Cut, Fold; natural.Bits. -/
import Derived.Test.YtfdjlkffhikaeaaDoorRefA
import Derived.Test.YtfdjlkffhikaeaaDoorCmp
import Derived.Test.YtfdjlkffhikaeaaDoorDiv
namespace Go.Proofs.YtfdjlkffhikaeaaDoor
open Go.RowKit Nt

theorem ret_i64 {a b : Int} (h : a = b) : Ending.returned (.int .i64 a) = .returned (.int .i64 b) := by rw [h]
theorem bitLen_nb {x : Nat} (h : x < 4294967296) : Lib.bitLen x = nb x := by
  by_cases h0 : x = 0
  · subst h0; rw [nb_zero]; rfl
  · have hb := Lib.bitLenAux_bounds 64 x (by omega) h0
    unfold Lib.bitLen
    obtain ⟨h1, h2, h3⟩ := hb
    obtain ⟨k, hk⟩ : ∃ k, Lib.bitLenAux 64 x = k + 1 := ⟨Lib.bitLenAux 64 x - 1, by omega⟩
    rw [hk] at h2 h3 ⊢
    exact (nb_of h2 h3).symm

set_option maxRecDepth 100000 in
set_option maxHeartbeats 1000000 in
theorem same_ok (pa : Option Addr) (na ca : Nat) (la : List Nat) (pb : Option Addr) (nb cb : Nat) (lb : List Nat) (w : World) (ha : NatIn w pa ca la) (hb : NatIn w pb cb lb) (hna : la.length = na) (hnb : lb.length = nb) :
    Calls Tryd.prog 24 #[.slice pa na ca, .slice pb nb cb] w fun e w' => e = .returned (.bool (eqL la lb)) ∧ Below w.heap.size w w' := by
  subst hna hnb
  have HA := Lib.hid ha
  have HB := Lib.hid hb
  have hAc := ha.le
  have hBc := hb.le
  have hAm := ha.cap
  have hBm := hb.cap
  clear ha hb
  go_enter Tryd.func24, Tryd.ntmps24
  by_cases hl : la.length = lb.length
  · have hne : ((la.length : Int) != (lb.length : Int)) = false := by rw [bne_eq_false_iff_eq]; omega
    have hle : la.length ≤ lb.length := by omega
    have HL := Lib.hid hl
    clear hl
    go_wp2_with fail
    go_loopw [13] (fun iv wr => ∃ k : Nat, k ≤ la.length ∧ iv = .int .i64 k ∧ Below w.heap.size w wr ∧ (∀ j, j < k → lm la j = lm lb j)) (fun iv _ => la.length - (intOf iv).toNat)
    case atStart => exact ⟨0, Nat.zero_le _, rfl, Below.refl _ _, fun j h => absurd h (by omega)⟩
    case round =>
      obtain ⟨k, hk, rfl, hbl, hI⟩ := hrel
      have HI := Lib.hid hI
      have HBl := Lib.hid hbl
      clear hI hbl
      by_cases h0 : k < la.length
      · have hac := (HA.out.keep HBl.out).cell k h0
        have hai := fun ww => HA.out.ix (z := (k : Int)) (by omega) (n := la.length) (by omega) (Nat.le_refl _) ca ww
        have hbc := (HB.out.keep HBl.out).cell k (by omega)
        have hbi := fun ww => HB.out.ix (z := (k : Int)) (by omega) (n := lb.length) (by omega) (Nat.le_refl _) cb ww
        rw [Int.toNat_natCast] at hai hbi
        by_cases he : lm la k = lm lb k
        · have HE := Lib.hid he
          have hn : (((lm la k : Nat) : Int) != ((lm lb k : Nat) : Int)) = false := by rw [bne_eq_false_iff_eq]; omega
          clear he
          go_wp2_with fail
          go_quiet (fail)
          go_wp2_with fail
          go_roundw
          case rel =>
            refine ⟨k + 1, by omega, by go_num, below_drewN HBl.out _, fun j hj => ?_⟩
            by_cases hjk : j = k
            · subst hjk; exact HE.out
            · exact HI.out j (by omega)
          case measure => simp [intOf]; omega
        · have hn : (((lm la k : Nat) : Int) != ((lm lb k : Nat) : Int)) = true := by rw [bne_iff_ne]; omega
          have hne2 : Hid (la ≠ lb) := fun e => he (by rw [e])
          clear he
          go_wp2_with fail
          go_quiet (fail)
          go_wp2_with fail
          go_ret
          exact ⟨by rw [eqL_false hne2.out]; rfl, below_drewN HBl.out _⟩
      · obtain rfl : k = la.length := by omega
        have heq : Hid (la = lb) := eq_of_lm HL.out HI.out
        go_wp2_with fail
        go_ret
        exact ⟨by rw [eqL_true heq.out]; rfl, HBl.out⟩
  · have hne : ((la.length : Int) != (lb.length : Int)) = true := by rw [bne_iff_ne]; omega
    have hne2 : Hid (la ≠ lb) := fun e => hl (by rw [e])
    clear hl
    go_wp2_with fail
    go_ret
    exact ⟨by rw [eqL_false hne2.out]; rfl, Below.refl _ _⟩

set_option maxRecDepth 100000 in
set_option maxHeartbeats 1000000 in
theorem rcmp_ok (pa : Option Addr) (na ca : Nat) (la : List Nat) (pb : Option Addr) (nb cb : Nat) (lb : List Nat) (w : World) (ha : NatIn w pa ca la) (hb : NatIn w pb cb lb) (hna : la.length = na) (hnb : lb.length = nb) :
    Calls Tryd.prog 19 #[.slice pa na ca, .slice pb nb cb] w fun e w' => e = .returned (.int .i64 (cmp (val la) (val lb))) ∧ Below w.heap.size w w' := by
  subst hna hnb
  go_enter Tryd.func19, Tryd.ntmps19
  go_wp2_with fail
  refine (rsize_ok pa _ ca la _ ha rfl).mono ?_
  rintro e w' ⟨rfl, rfl⟩
  go_wp2_with fail
  refine (rsize_ok pb _ cb lb _ hb rfl).mono ?_
  rintro e w' ⟨rfl, rfl⟩
  obtain ⟨A, hA1⟩ : ∃ A, A = limbs (val la) := ⟨_, rfl⟩
  obtain ⟨B, hB1⟩ : ∃ B, B = limbs (val lb) := ⟨_, rfl⟩
  have HA : Hid (NatIn w pa ca A) := by rw [hA1]; exact ha.low
  have HB : Hid (NatIn w pb cb B) := by rw [hB1]; exact hb.low
  rw [← hA1, ← hB1]
  have zA : A.length ≤ la.length := by rw [hA1]; exact limbs_length_val_le ha.lim
  have zB : B.length ≤ lb.length := by rw [hB1]; exact limbs_length_val_le hb.lim
  have hA := Lib.hid hA1
  have hB := Lib.hid hB1
  clear hA1 hB1
  have HA0 := Lib.hid ha
  have HB0 := Lib.hid hb
  have hvA : Hid (val A = val la) := by rw [hA.out, val_limbs]; rfl
  have hvB : Hid (val B = val lb) := by rw [hB.out, val_limbs]; rfl
  have hAc := ha.le
  have hBc := hb.le
  have hAm := ha.cap
  have hBm := hb.cap
  clear ha hb
  by_cases h1 : A.length < B.length
  · have hlt : Hid (val la < val lb) := lt_of_length (by rw [← hA.out, ← hB.out]; exact h1)
    have hne : ((A.length : Int) != B.length) = true := by rw [bne_iff_ne]; omega
    go_wp2_with fail
    go_ret
    exact ⟨by rw [cmp_lt hlt.out]; rfl, Below.refl _ _⟩
  · by_cases h2 : B.length < A.length
    · have hlt : Hid (val lb < val la) := lt_of_length (by rw [← hA.out, ← hB.out]; exact h2)
      have hne : ((A.length : Int) != B.length) = true := by rw [bne_iff_ne]; omega
      go_wp2_with fail
      go_ret
      exact ⟨by rw [cmp_gt hlt.out]; rfl, Below.refl _ _⟩
    · have hne : ((A.length : Int) != B.length) = false := by rw [bne_eq_false_iff_eq]; omega
      have h3 : A.length ≤ B.length := by omega
      have h4 : B.length ≤ A.length := by omega
      go_wp2_with fail
      go_loopw [7] (fun iv wr => ∃ k : Nat, k ≤ A.length ∧ iv = .int .i64 ((k : Int) - 1) ∧ Below w.heap.size w wr ∧ val (A.drop k) = val (B.drop k)) (fun iv _ => (intOf iv + 1).toNat)
      case atStart => exact ⟨A.length, Nat.le_refl _, rfl, Below.refl _ _, by rw [List.drop_of_length_le (Nat.le_refl _), List.drop_of_length_le h4]⟩
      case round =>
        obtain ⟨k, hk, rfl, hbl, hI⟩ := hrel
        have HI := Lib.hid hI
        have HBl := Lib.hid hbl
        clear hI hbl
        by_cases h0 : 0 < k
        · obtain ⟨j, rfl⟩ : ∃ j, k = j + 1 := ⟨k - 1, by omega⟩
          rw [show (((j + 1 : Nat) : Int) - 1) = (j : Int) from by omega]
          have hac := (HA.out.keep HBl.out).cell j (by omega)
          have hai := fun ww => HA0.out.ix (z := (j : Int)) (by omega) (n := la.length) (by omega) (Nat.le_refl _) ca ww
          have hbc := (HB.out.keep HBl.out).cell j (by omega)
          have hbi := fun ww => HB0.out.ix (z := (j : Int)) (by omega) (n := lb.length) (by omega) (Nat.le_refl _) cb ww
          rw [Int.toNat_natCast] at hai hbi
          by_cases hlt : lm A j < lm B j
          · have hfin : Hid (val la < val lb) := by
              have := gt_of_limb HA.out.lim (by omega) (by omega) HI.out.symm hlt
              rwa [hvA.out, hvB.out] at this
            go_wp2_with fail
            go_quiet (fail)
            go_wp2_with fail
            go_ret
            exact ⟨by rw [cmp_lt hfin.out]; rfl, below_drewN HBl.out _⟩
          · by_cases hgt : lm B j < lm A j
            · have hfin : Hid (val lb < val la) := by
                have := gt_of_limb HB.out.lim (by omega) (by omega) HI.out hgt
                rwa [hvA.out, hvB.out] at this
              go_wp2_with fail
              go_quiet (fail)
              go_wp2_with fail
              go_quiet (fail)
              go_wp2_with fail
              go_ret
              exact ⟨by rw [cmp_gt hfin.out]; rfl, below_drewN (below_drewN HBl.out _) _⟩
            · have he : Hid (lm A j = lm B j) := by show _ = _; omega
              go_wp2_with fail
              go_quiet (fail)
              go_wp2_with fail
              go_quiet (fail)
              go_wp2_with fail
              go_roundw
              case rel => exact ⟨j, by omega, rfl, below_drewN HBl.out _, drop_step (by omega) (by omega) HI.out he.out⟩
              case measure => simp [intOf]
        · obtain rfl : k = 0 := by omega
          have hfin : Hid (val la = val lb) := by
            have := HI.out
            rw [List.drop_zero, List.drop_zero, hvA.out, hvB.out] at this
            exact this
          rw [show (((0 : Nat) : Int) - 1) = -1 from by omega]
          go_wp2_with fail
          go_ret
          exact ⟨by rw [cmp_eq hfin.out]; rfl, HBl.out⟩

/-- Bits of the reference: its loop counts the bits of the leading limb. -/
theorem last_ix {l : List Nat} {k : Nat} (hl : Lim l) (h : (limbs (val l)).length = k + 1) : lm (limbs (val l)) k = lm l k := by
  have h1 := take_limbs hl
  rw [← h1, h, lm_take (by omega)]

set_option maxRecDepth 100000 in
set_option maxHeartbeats 1000000 in
theorem rbits_ok (p : Option Addr) (n c : Nat) (l : List Nat) (w : World) (h : NatIn w p c l) (hn : l.length = n) (hs : n ≤ 1000000000) :
    Calls Tryd.prog 16 #[.slice p n c] w fun e w' => e = .returned (.int .i64 ((nb (val l) : Nat) : Int)) ∧ w = w' := by
  subst hn
  have zA := limbs_length_val_le h.lim
  go_enter Tryd.func16, Tryd.ntmps16
  go_wp2_with fail
  refine (rsize_ok p _ c l _ h rfl).mono ?_
  rintro e w' ⟨rfl, rfl⟩
  by_cases hz : (limbs (val l)).length = 0
  · have h0 : nb (val l) = 0 := by
      rw [nb_eq_zero, ← val_limbs (val l), List.length_eq_zero_iff.1 hz]; rfl
    rw [hz]
    have H0 := Lib.hid h0
    clear h0 hz
    go_wp2_with fail
    go_ret
    exact ⟨by rw [H0.out]; rfl, rfl⟩
  · obtain ⟨k, hk⟩ : ∃ k, (limbs (val l)).length = k + 1 := ⟨(limbs (val l)).length - 1, by omega⟩
    have hnb := nb_limbs hk
    have htl := top_limb hk
    rw [last_ix h.lim hk] at hnb htl
    rw [hk]
    have hc0 := h.cell k (by omega)
    have hx0 := fun ww => h.ix (z := (k : Int)) (by omega) (n := l.length) (by omega) (Nat.le_refl _) c ww
    rw [Int.toNat_natCast] at hx0
    have hlt := lm_lt h.lim k
    have h32 : nb (lm l k) ≤ 32 := nb_le (by omega)
    have HNb := Lib.hid hnb
    obtain ⟨x, hx⟩ : ∃ x, x = lm l k := ⟨_, rfl⟩
    rw [← hx] at hc0 hlt HNb h32 htl
    have hk9 : k ≤ 1000000000 := by omega
    have e1 : ((k + 1 : Nat) : Int) = (k : Int) + 1 := by omega
    clear h zA hz hnb hx hk
    go_wp2_with fail
    go_loop [4, 5] (fun bv vv => ∃ (b v : Nat), vv = .int .u32 v ∧ bv = .int .i64 b ∧ v < 4294967296 ∧ b ≤ 32 ∧ b + nb v = nb x) (fun _ vv => (intOf vv).toNat)
    case atStart => exact ⟨0, x, rfl, rfl, hlt, by omega, by omega⟩
    case round =>
      obtain ⟨b, v, rfl, rfl, hv, hb, hI⟩ := hrel
      by_cases h0 : 0 < v
      · have hh := nb_half (n := v) (by omega)
        have hb1 : b + 1 ≤ 32 := by omega
        have HI : Hid (b + 1 + nb (v / 2) = nb x) := by show _ = _; omega
        clear hI hh
        go_wp2_with fail
        go_round
        case rel => exact ⟨b + 1, v / 2, by go_num, by go_num, by omega, hb1, HI.out⟩
        case measure => simp [intOf]; omega
      · obtain rfl : v = 0 := by omega
        rw [nb_zero, Nat.add_zero] at hI
        have HI := Lib.hid hI
        clear hI
        go_wp2_with fail
        go_ret
        refine ⟨?_, rfl⟩
        rw [HNb.out, ← HI.out]
        exact (ret_i64 (by omega) : Ending.returned (.int .i64 (32 * (k : Int) + (b : Int))) = .returned (.int .i64 ((32 * k + (b + 0) : Nat) : Int)))

set_option maxRecDepth 100000 in
set_option maxHeartbeats 1000000 in
/-- natural.Bits. -/
theorem bits_ok (p : Option Addr) (n c : Nat) (l : List Nat) (w : World) (h : NatIn w p c l) (hn : l.length = n) (hs : n ≤ 1000000000) :
    Calls Tryd.prog 34 #[.slice p n c] w fun e w' => e = .returned (.int .i64 ((nb (val l) : Nat) : Int)) ∧ w = w' := by
  have zA := limbs_length_val_le h.lim
  go_enter Tryd.func34, Tryd.ntmps34
  go_wp2_with fail
  refine (low_ok p _ c l _ h hn).mono ?_
  rintro e w' ⟨A, hA, rfl, hAn, rfl⟩
  have HA := Lib.hid hAn
  have hAl : A.length ≤ 1000000000 := by rw [hA.out]; omega
  clear hAn h
  by_cases hz : A.length = 0
  · have h0 : nb (val l) = 0 := by
      rw [nb_eq_zero, ← val_limbs (val l), ← hA.out, List.length_eq_zero_iff.1 hz]; rfl
    have h1 : ((A.length : Int) == 0) = true := by rw [beq_iff_eq]; omega
    have H0 := Lib.hid h0
    clear h0 hz
    go_wp2_with fail
    go_ret
    exact ⟨by rw [H0.out]; rfl, rfl⟩
  · have h1 : ((A.length : Int) == 0) = false := by rw [beq_eq_false_iff_ne]; omega
    obtain ⟨k, hk⟩ : ∃ k, A.length = k + 1 := ⟨A.length - 1, by omega⟩
    have hnb : nb (val l) = 32 * k + nb (lm A k) := by
      have := nb_limbs (n := val l) (k := k) (by rw [← hA.out]; exact hk)
      rwa [← hA.out] at this
    have htl : lm A k ≠ 0 := by
      have := top_limb (n := val l) (k := k) (by rw [← hA.out]; exact hk)
      rwa [← hA.out] at this
    have hc0 := HA.out.cell k (by omega)
    have hx0 := fun ww => HA.out.ix (z := (A.length : Int) - 1) (by omega) (n := A.length) (by omega) (Nat.le_refl _) c ww
    rw [show ((A.length : Int) - 1).toNat = k from by omega] at hx0
    have hlt := lm_lt HA.out.lim k
    obtain ⟨s, hs1, hs2, hs3, hs4⟩ := lead_bd hlt htl
    have hnb2 : (nb (lm A k) : Int) = (Lib.bitLen (lm A k) : Int) := by rw [bitLen_nb hlt]
    have h32 : nb (lm A k) ≤ 32 := nb_le (by omega)
    have HNb := Lib.hid hnb
    have HNb2 := Lib.hid hnb2
    have HK := Lib.hid hk
    have hAp : 1 ≤ A.length := by omega
    clear hz hnb hk hnb2 hs1 hs2 hs3 hs4
    go_wp2_with fail
    refine (Tryd.bits_LeadingZeros32 _ _ (by omega) (by omega)).mono ?_
    rintro e w' ⟨rfl, hh⟩
    obtain rfl := hh.symm
    clear hh
    rw [Int.toNat_natCast, ← HNb2.out]
    go_wp2_with fail
    go_ret
    refine ⟨?_, rfl⟩
    rw [HNb.out]
    have := HK.out
    exact (ret_i64 (by omega) : Ending.returned (.int .i64 (32 * (A.length : Int) - (32 - ((nb (lm A k) : Nat) : Int)))) = .returned (.int .i64 ((32 * k + nb (lm A k) : Nat) : Int)))
end Go.Proofs.YtfdjlkffhikaeaaDoor
