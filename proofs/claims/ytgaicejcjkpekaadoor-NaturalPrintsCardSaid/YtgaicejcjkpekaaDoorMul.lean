/- natural.Mul. -/
import Derived.Test.YtgaicejcjkpekaaDoorTrim
namespace Go.Proofs.YtgaicejcjkpekaaDoor
open Go.RowKit Nt

theorem ret_nil {w w' : World} (hb : Below w.heap.size w w') : RetNat 0 w (.returned (.slice none 0 0)) w' :=
  ⟨none, 0, by rw [limbs_zero]; rfl, hb, by rw [limbs_zero]; exact ⟨lim_nil, Nat.le_refl _, by omega, .inl rfl⟩⟩

set_option maxRecDepth 100000 in
set_option maxHeartbeats 2000000 in
theorem mul_ok (pa : Option Addr) (na ca : Nat) (la : List Nat) (pb : Option Addr) (nb cb : Nat) (lb : List Nat) (w : World) (ha : NatIn w pa ca la) (hb : NatIn w pb cb lb) (hna : la.length = na) (hnb : lb.length = nb) (sa : na ≤ 1000000000) (sb : nb ≤ 1000000000) :
    Calls Tryd.prog 18 #[.slice pa na ca, .slice pb nb cb] w (RetNat (val la * val lb) w) := by
  subst hna hnb
  have zA := limbs_length_val_le ha.lim
  have zB := limbs_length_val_le hb.lim
  go_enter Tryd.func18, Tryd.ntmps18
  go_wp2_with fail
  refine (low_ok pa _ ca la _ ha rfl).mono ?_
  rintro e w' ⟨A, hA, rfl, hAn, rfl⟩
  go_wp2_with fail
  refine (low_ok pb _ cb lb _ hb rfl).mono ?_
  rintro e w' ⟨B, hB, rfl, hBn, rfl⟩
  have HA := Lib.hid hAn
  have HB := Lib.hid hBn
  have hAl : A.length ≤ 1000000000 := by rw [hA.out]; omega
  have hBl : B.length ≤ 1000000000 := by rw [hB.out]; omega
  have hvA : Hid (val A = val la) := by rw [hA.out, val_limbs]; rfl
  have hvB : Hid (val B = val lb) := by rw [hB.out, val_limbs]; rfl
  clear hAn hBn ha hb zA zB
  by_cases hA0 : A.length = 0
  · have h0 : ((A.length : Int) == 0) = true := by rw [beq_iff_eq]; omega
    have hz : Hid (val la * val lb = 0) := by
      rw [← hvA.out, List.length_eq_zero_iff.1 hA0]; simp [val, Hid]
    clear hA0
    go_wp2_with fail
    go_ret
    rw [hz.out]
    exact ret_nil (Below.refl _ _)
  by_cases hB0 : B.length = 0
  · have h0 : ((A.length : Int) == 0) = false := by rw [beq_eq_false_iff_ne]; omega
    have h1 : ((B.length : Int) == 0) = true := by rw [beq_iff_eq]; omega
    have hz : Hid (val la * val lb = 0) := by
      rw [← hvB.out, List.length_eq_zero_iff.1 hB0]; simp [val, Hid]
    clear hA0 hB0
    go_wp2_with fail
    go_ret
    rw [hz.out]
    exact ret_nil (Below.refl _ _)
  have h0 : ((A.length : Int) == 0) = false := by rw [beq_eq_false_iff_ne]; omega
  have h1 : ((B.length : Int) == 0) = false := by rw [beq_eq_false_iff_ne]; omega
  clear hA0 hB0
  go_wp2_with (at_make; refine wpList_mk _ rfl _ _ rfl (A.length + B.length) rfl rfl (by omega) (by omega) ?_)
  intro w1 hsz hown hbel
  have HO1 := Lib.hid hown
  have HB1 := Lib.hid hbel
  clear hown hbel
  go_wp2_with fail
  go_loopw [8, 31] (fun _ iv wr => ∃ (i : Nat) (L : List Nat), i ≤ A.length ∧ iv = .int .i64 i ∧ L.length = A.length + B.length ∧ Lim L ∧ Own wr w.heap.size L ∧ Below w.heap.size w wr ∧
      (∀ j, i + B.length ≤ j → lm L j = 0) ∧ val L = val (A.take i) * val B) (fun _ iv _ => A.length - (intOf iv).toNat)
  case atStart =>
    refine ⟨0, List.replicate (A.length + B.length) 0, Nat.zero_le _, rfl, by simp, lim_zeros _, HO1.out, HB1.out, fun j _ => ?_, by simp [val_zeros, val]⟩
    by_cases hj : j < (List.replicate (A.length + B.length) 0).length
    · rw [lm_eq hj]; simp
    · exact lm_out (by omega)
  case round =>
    obtain ⟨i, L0, hi, rfl, hL, hlim, hO, hbl, ht, hI⟩ := hrel
    have HL := Lib.hid hL
    have HO := Lib.hid hO
    have HBl := Lib.hid hbl
    have HT := Lib.hid ht
    have HI := Lib.hid hI
    have HLim := Lib.hid hlim
    clear hL hO hbl ht hI hlim
    by_cases hlt : i < A.length
    · have hxc := (HA.out.keep HBl.out).cell i hlt
      have hxi := fun ww => HA.out.ix (z := (i : Int)) (by omega) (n := A.length) (by omega) (Nat.le_refl _) ca ww
      have hx := lm_lt HA.out.lim i
      rw [Int.toNat_natCast] at hxi
      go_wp2_with fail
      obtain ⟨wo, hwo⟩ : ∃ wo : World, wo = wr := ⟨_, rfl⟩
      have HWO := Lib.hid hwo
      clear hwo
      go_loopw [8, 38] (fun cv kv wq => ∃ (k c : Nat) (L : List Nat), k ≤ B.length ∧ kv = .int .i64 k ∧ cv = .int .u64 c ∧ c < 4294967296 ∧ L.length = A.length + B.length ∧ Lim L ∧ Own wq w.heap.size L ∧ Below w.heap.size w wq ∧
          (∀ j, i + k ≤ j → lm L j = lm L0 j) ∧ val L + bp (i + k) * c = val L0 + bp i * (lm A i * val (B.take k))) (fun _ kv _ => B.length - (intOf kv).toNat)
      case atStart => exact ⟨0, 0, L0, Nat.zero_le _, rfl, rfl, by omega, HL.out, HLim.out, HO.out, HBl.out, fun _ _ => rfl, by simp [val]⟩
      case round =>
        obtain ⟨k, c, L, hk, rfl, rfl, hc, hL2, hlim2, hO2, hbl2, ht2, hI2⟩ := hrel
        have HL2 := Lib.hid hL2
        have HO2 := Lib.hid hO2
        have HBl2 := Lib.hid hbl2
        have HT2 := Lib.hid ht2
        have HI2 := Lib.hid hI2
        have HLim2 := Lib.hid hlim2
        have hLb : A.length + B.length ≤ L.length := by omega
        clear hL2 hO2 hbl2 ht2 hI2 hlim2
        by_cases hkl : k < B.length
        · have hyc := (HB.out.keep HBl2.out).cell k hkl
          have hyi := fun ww => HB.out.ix (z := (k : Int)) (by omega) (n := B.length) (by omega) (Nat.le_refl _) cb ww
          have hy := lm_lt HB.out.lim k
          rw [Int.toNat_natCast] at hyi
          have hoc := HO2.out.cell (i := i + k) (by omega)
          have hof := HO2.out.frozen (i + k)
          have ho := lm_lt HLim2.out (i + k)
          obtain ⟨P, hP⟩ : ∃ P, P = lm A i * lm B k := ⟨_, rfl⟩
          have hPi : ((lm A i : Nat) : Int) * ((lm B k : Nat) : Int) = (P : Int) := by rw [hP, Int.natCast_mul]
          have hPb : P ≤ 18446744065119617025 := by
            rw [hP]
            exact Nat.mul_le_mul (show lm A i ≤ 4294967295 by omega) (show lm B k ≤ 4294967295 by omega)
          have HP := Lib.hid hP
          clear hP
          go_wp2_with fail
          go_roundw
          case rel =>
            refine ⟨k + 1, (c + (P + lm L (i + k))) / 4294967296, L.set (i + k) ((c + (P + lm L (i + k))) % 4294967296), by omega, by go_num, by go_num, by omega, by rw [List.length_set]; exact HL2.out, lim_set HLim2.out (by omega),
              HO2.out.set (by omega), below_set HBl2.out (Nat.le_refl _) _, ?_, ?_⟩
            · intro j hj
              rw [lm_set_ne (by omega)]
              exact HT2.out j (by omega)
            · rw [HP.out]
              exact mul_step (by omega) HI2.out
          case measure => simp [intOf]; omega
        · obtain rfl : k = B.length := by omega
          have hoc := HO2.out.cell (i := i + B.length) (by omega)
          have hof := HO2.out.frozen (i + B.length)
          have hlast : Hid (val (L.set (i + B.length) c) = val (A.take (i + 1)) * val B) := by
            have h1 := mul_last (by omega) (by rw [HT2.out _ (Nat.le_refl _)]; exact HT.out _ (Nat.le_refl _)) HI2.out
            rw [val_take_all (Nat.le_refl _), HI.out] at h1
            show _ = _
            rw [h1, val_take, Nat.add_mul, Nat.mul_assoc]
          go_wp2_with fail
          go_roundw
          case rel =>
            refine ⟨i + 1, L.set (i + B.length) c, by omega, by go_num, by rw [List.length_set]; exact HL2.out, lim_set HLim2.out hc, HO2.out.set (by omega), below_set HBl2.out (Nat.le_refl _) _, ?_, hlast.out⟩
            intro j hj
            rw [lm_set_ne (by omega), HT2.out _ (by omega)]
            exact HT.out _ (by omega)
          case measure => simp [intOf]; omega
    · obtain rfl : i = A.length := by omega
      have hval : Hid (val L0 = val la * val lb) := by
        have := HI.out
        rwa [val_take_all (Nat.le_refl _), hvA.out, hvB.out] at this
      go_wp2_with fail
      refine (low_ok _ _ _ L0 _ (HO.out.whole HLim.out HL.out (by omega)) HL.out).mono ?_
      rintro e w' ⟨R, hR, rfl, hRn, rfl⟩
      go_wp2_with fail
      go_ret
      exact ret_low hR HO.out HLim.out (Nat.le_refl _) HL.out hval.out HBl.out (by omega)
end Go.Proofs.YtgaicejcjkpekaaDoor
