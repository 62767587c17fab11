/- The reference: Mul. -/
import Derived.Test.YtgaicejcjkpekaaDoorRefC
namespace Go.Proofs.YtgaicejcjkpekaaDoor
open Go.RowKit Nt

theorem rsize_q {p : Option Addr} {n c : Nat} {l : List Nat} {w : World} (h : NatIn w p c l) (hn : l.length = n) (k : Nat) :
    Calls Tryd.prog 31 #[.slice p n c] (w.drewN k) fun e w' => e = .returned (.int .i64 (((limbs (val l)).length : Nat) : Int)) ∧ ∃ m, w' = w.drewN m :=
  (rsize_ok p n c l _ (h.drewN k) hn).mono fun _ _ hh => ⟨hh.1, k, hh.2.symm⟩

set_option maxRecDepth 100000 in
set_option maxHeartbeats 2000000 in
theorem rmul_ok (pa : Option Addr) (na ca : Nat) (la : List Nat) (pb : Option Addr) (nb cb : Nat) (lb : List Nat) (w : World) (ha : NatIn w pa ca la) (hb : NatIn w pb cb lb) (hna : la.length = na) (hnb : lb.length = nb) (sa : na ≤ 100000000) (sb : nb ≤ 100000000) :
    Calls Tryd.prog 29 #[.slice pa na ca, .slice pb nb cb] w (RetNat (val la * val lb) w) := by
  subst hna hnb
  have zA := limbs_length_val_le ha.lim
  have zB := limbs_length_val_le hb.lim
  have zca := ha.le
  have zcb := hb.le
  have zAc : (limbs (val la)).length ≤ ca := by omega
  have zBc : (limbs (val lb)).length ≤ cb := by omega
  have HA0 := Lib.hid ha
  have HB0 := Lib.hid hb
  obtain ⟨A, hA1⟩ : ∃ A, A = limbs (val la) := ⟨_, rfl⟩
  obtain ⟨B, hB1⟩ : ∃ B, B = limbs (val lb) := ⟨_, rfl⟩
  have HA : Hid (NatIn w pa ca A) := by rw [hA1]; exact ha.low
  have HB : Hid (NatIn w pb cb B) := by rw [hB1]; exact hb.low
  have hvA : Hid (val A = val la) := by rw [hA1, val_limbs]; rfl
  have hvB : Hid (val B = val lb) := by rw [hB1, val_limbs]; rfl
  rw [← hA1] at zA zAc
  rw [← hB1] at zB zBc
  have hA := Lib.hid hA1
  have hB := Lib.hid hB1
  have hqa := Lib.hid (fun k => rsize_q ha rfl k)
  have hqb := Lib.hid (fun k => rsize_q hb rfl k)
  rw [← hA1] at hqa
  rw [← hB1] at hqb
  have hAl : A.length ≤ 100000000 := by omega
  have hBl : B.length ≤ 100000000 := by omega
  clear ha hb hA1 hB1
  go_enter Tryd.func29, Tryd.ntmps29
  go_wp2_with fail
  go_quiet ((first | (go_at_call_of 31 (Value.slice pa la.length ca); exact hqa.out _) | (go_at_call_of 31 (Value.slice pb lb.length cb); exact hqb.out _)))
  go_wp2_with (at_make; refine wpList_mk _ rfl _ _ rfl (A.length + B.length) rfl rfl (by omega) (by omega) ?_)
  intro w1 hsz0 hown hbel0
  have hbel : Below w.heap.size w w1 := (below_drewN (Below.refl _ _) _).trans hbel0
  have hsz : w.heap.size < w1.heap.size := hsz0
  have HO1 : Hid (Own w1 w.heap.size (List.replicate (A.length + B.length) 0)) := hown
  have HB1 := Lib.hid hbel
  clear hown hbel hbel0 hsz0
  go_wp2_with fail
  try rw [show ∀ n, (w.drewN n).heap.size = w.heap.size from fun _ => rfl]
  go_loopw [7, 25] (fun _ iv wr => ∃ (i : Nat) (L : List Nat), i ≤ A.length ∧ iv = .int .i64 i ∧ L.length = A.length + B.length ∧ Lim L ∧ Own wr w.heap.size L ∧ Below w.heap.size w wr ∧
      (∀ j, i + B.length ≤ j → lm L j = 0) ∧ val L = val (A.take i) * val B) (fun _ iv _ => A.length - (intOf iv).toNat)
  case atStart =>
    refine ⟨0, List.replicate (A.length + B.length) 0, Nat.zero_le _, rfl, by simp, lim_zeros _, HO1.out, HB1.out, fun j _ => ?_, by simp [val_zeros, val]⟩
    by_cases hj : j < (List.replicate (A.length + B.length) 0).length
    · rw [lm_eq hj]; simp
    · exact lm_out (by omega)
  case round =>
    obtain ⟨i, L0, hi, rfl, hL, hlim, hO, hbl, ht, hI⟩ := hrel
    have HL := Lib.hid hL
    have HO := Lib.hid hO
    have HBl := Lib.hid hbl
    have HT := Lib.hid ht
    have HI := Lib.hid hI
    have HLim := Lib.hid hlim
    clear hL hO hbl ht hI hlim
    by_cases hlt : i < A.length
    · have hx := lm_lt HA.out.lim i
      go_wp2_with fail
      obtain ⟨wo, hwo⟩ : ∃ wo : World, wo = wr := ⟨_, rfl⟩
      have HWO := Lib.hid hwo
      clear hwo
      go_loopw [7, 30] (fun cv kv wq => ∃ (k c : Nat) (L : List Nat), k ≤ B.length ∧ kv = .int .i64 k ∧ cv = .int .u64 c ∧ c < 4294967296 ∧ L.length = A.length + B.length ∧ Lim L ∧ Own wq w.heap.size L ∧ Below w.heap.size w wq ∧
          (∀ j, i + k ≤ j → lm L j = lm L0 j) ∧ val L + bp (i + k) * c = val L0 + bp i * (lm A i * val (B.take k))) (fun _ kv _ => B.length - (intOf kv).toNat)
      case atStart => exact ⟨0, 0, L0, Nat.zero_le _, rfl, rfl, by omega, HL.out, HLim.out, HO.out, HBl.out, fun _ _ => rfl, by simp [val]⟩
      case round =>
        obtain ⟨k, c, L, hk, rfl, rfl, hc, hL2, hlim2, hO2, hbl2, ht2, hI2⟩ := hrel
        have HL2 := Lib.hid hL2
        have HO2 := Lib.hid hO2
        have HBl2 := Lib.hid hbl2
        have HT2 := Lib.hid ht2
        have HI2 := Lib.hid hI2
        have HLim2 := Lib.hid hlim2
        have hLb : A.length + B.length ≤ L.length := by omega
        clear hL2 hO2 hbl2 ht2 hI2 hlim2
        by_cases hkl : k < B.length
        · have hxc := (HA.out.keep HBl2.out).cell i hlt
          have hxi := fun ww => HA.out.ix (z := (i : Int)) (by omega) (n := A.length) (by omega) (Nat.le_refl _) ca ww
          have hyc := (HB.out.keep HBl2.out).cell k hkl
          have hyi := fun ww => HB.out.ix (z := (k : Int)) (by omega) (n := B.length) (by omega) (Nat.le_refl _) cb ww
          have hy := lm_lt HB.out.lim k
          rw [Int.toNat_natCast] at hyi hxi
          have hoc := HO2.out.cell (i := i + k) (by omega)
          have hof := HO2.out.frozen (i + k)
          have ho := lm_lt HLim2.out (i + k)
          obtain ⟨P, hP⟩ : ∃ P, P = lm A i * lm B k := ⟨_, rfl⟩
          have hPi : ((lm A i : Nat) : Int) * ((lm B k : Nat) : Int) = (P : Int) := by rw [hP, Int.natCast_mul]
          have hPb : P ≤ 18446744065119617025 := by
            rw [hP]
            exact Nat.mul_le_mul (show lm A i ≤ 4294967295 by omega) (show lm B k ≤ 4294967295 by omega)
          have HP := Lib.hid hP
          clear hP
          have hand : Go.bits .and .u64 ((c : Int) + ((lm L (i + k) : Nat) : Int) + (P : Int)) 4294967295 = ((c : Int) + ((lm L (i + k) : Nat) : Int) + (P : Int)) % 4294967296 := and_lo (by omega) (by omega)
          have hw1 : IntKind.i64.wrap ((i : Int) + (k : Int)) = (i : Int) + (k : Int) := IntWalk.i64_in _ (by omega)
          have HW1 := Lib.hid hw1
          clear hw1
          go_wp2_with fail
          have hw1 := HW1.out
          go_quiet (fail)
          clear hw1
          go_wp2_with fail
          go_roundw
          case rel =>
            refine ⟨k + 1, (c + lm L (i + k) + P) / 4294967296, L.set (i + k) ((c + lm L (i + k) + P) % 4294967296), by omega, by go_num, by go_num, by omega, by rw [List.length_set]; exact HL2.out, lim_set HLim2.out (by omega),
              (HO2.out.drewN _).set (by omega), below_set (below_drewN HBl2.out _) (Nat.le_refl _) _, ?_, ?_⟩
            · intro j hj
              rw [lm_set_ne (by omega)]
              exact HT2.out j (by omega)
            · rw [show c + lm L (i + k) + P = c + (P + lm L (i + k)) from by omega, HP.out]
              exact mul_step (by omega) HI2.out
          case measure => simp [intOf]; omega
        · obtain rfl : k = B.length := by omega
          have hoc := HO2.out.cell (i := i + B.length) (by omega)
          have hof := HO2.out.frozen (i + B.length)
          have hlast : Hid (val (L.set (i + B.length) c) = val (A.take (i + 1)) * val B) := by
            have h1 := mul_last (by omega) (by rw [HT2.out _ (Nat.le_refl _)]; exact HT.out _ (Nat.le_refl _)) HI2.out
            rw [val_take_all (Nat.le_refl _), HI.out] at h1
            show _ = _
            rw [h1, val_take, Nat.add_mul, Nat.mul_assoc]
          go_wp2_with fail
          go_roundw
          case rel =>
            refine ⟨i + 1, L.set (i + B.length) c, by omega, by go_num, by rw [List.length_set]; exact HL2.out, lim_set HLim2.out hc, HO2.out.set (by omega), below_set HBl2.out (Nat.le_refl _) _, ?_, hlast.out⟩
            intro j hj
            rw [lm_set_ne (by omega), HT2.out _ (by omega)]
            exact HT.out _ (by omega)
          case measure => simp [intOf]; omega
    · obtain rfl : i = A.length := by omega
      have hval : Hid (val L0 = val la * val lb) := by
        have := HI.out
        rwa [val_take_all (Nat.le_refl _), hvA.out, hvB.out] at this
      go_wp2_with fail
      refine (rtrim_ok _ _ _ L0 _ (HO.out.whole HLim.out HL.out (by omega)) HL.out (by omega)).mono ?_
      intro e w2 h
      obtain ⟨p, c2, rfl, h3⟩ := ret_trim hval.out HBl.out h
      go_wp2_with fail
      go_ret
      exact ⟨p, c2, rfl, h3⟩

/-! ### Small ones of the laws -/
set_option maxHeartbeats 400000 in
theorem fold_ok (v n : Int) (w : World) (h1 : 1 ≤ n) (h2 : n ≤ 1000000000) (_hv : -9223372036854775808 ≤ v ∧ v ≤ 9223372036854775807) :
    Calls Tryd.prog 11 #[.int .i64 v, .int .i64 n] w fun e w' => (∃ r : Int, 0 ≤ r ∧ r < n ∧ e = .returned (.int .i64 r)) ∧ w = w' := by
  have hm : max n 1 = n := by omega
  have hr0 := Int.emod_nonneg (IntKind.u64.wrap v) (by omega : n ≠ 0)
  have hr1 := Int.emod_lt_of_pos (IntKind.u64.wrap v) (by omega : 0 < n)
  have hu0 : 0 ≤ IntKind.u64.wrap v := by rw [IntKind.wrap_u64]; omega
  obtain ⟨u, hu⟩ : ∃ u, u = IntKind.u64.wrap v := ⟨_, rfl⟩
  have hu2 : IntKind.u64.wrap v = u := hu.symm
  rw [← hu] at hr0 hr1 hu0
  clear hu
  go_enter Tryd.func11, Tryd.ntmps11
  go_wp2_with fail
  go_ret
  exact ⟨⟨u % n, hr0, hr1, rfl⟩, rfl⟩
end Go.Proofs.YtgaicejcjkpekaaDoor
