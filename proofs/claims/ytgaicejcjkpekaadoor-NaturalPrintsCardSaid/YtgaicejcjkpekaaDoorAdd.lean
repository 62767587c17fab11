/- natural.Add. -/
import Derived.Test.YtgaicejcjkpekaaDoorLow
import Derived.Deep.DeepCutAuto
namespace Go.Proofs.YtgaicejcjkpekaaDoor
open Go.RowKit Nt

set_option maxRecDepth 100000 in
set_option maxHeartbeats 1000000 in
theorem add_ok (pa : Option Addr) (na ca : Nat) (la : List Nat) (pb : Option Addr) (nb cb : Nat) (lb : List Nat) (w : World) (ha : NatIn w pa ca la) (hb : NatIn w pb cb lb) (hna : la.length = na) (hnb : lb.length = nb) (sa : la.length ≤ 1000000000) (sb : lb.length ≤ 1000000000) :
    Calls Tryd.prog 17 #[.slice pa na ca, .slice pb nb cb] w (RetNat (val la + val lb) w) := by
  subst hna hnb
  have zA := limbs_length_val_le ha.lim
  have zB := limbs_length_val_le hb.lim
  go_enter Tryd.func17, Tryd.ntmps17
  go_wp2_with fail
  refine (low_ok pa _ ca la _ ha rfl).mono ?_
  rintro e w' ⟨A, hA, rfl, hAn, rfl⟩
  go_wp2_with fail
  refine (low_ok pb _ cb lb _ hb rfl).mono ?_
  rintro e w' ⟨B, hB, rfl, hBn, rfl⟩
  have HA := Lib.hid hAn
  have HB := Lib.hid hBn
  have hAl : A.length ≤ 1000000000 := by rw [hA.out]; omega
  have hBl : B.length ≤ 1000000000 := by rw [hB.out]; omega
  have hS : Hid (val A + val B = val la + val lb) := by rw [hA.out, hB.out, val_limbs, val_limbs]; rfl
  clear hAn hBn ha hb zA zB hA hB
  go_upto_if 17 with fail
  go_cut [0, 1] (fun v0 v1 wx => wx = w ∧ ∃ px cx X py cy Y, v0 = .slice px (List.length X) cx ∧ v1 = .slice py (List.length Y) cy ∧ NatIn w px cx X ∧ NatIn w py cy Y ∧ Y.length ≤ X.length ∧ X.length ≤ 1000000000 ∧ val X + val Y = val la + val lb)
  case first =>
    by_cases h : A.length < B.length
    · go_wp2_with fail
      go_meet
      exact ⟨rfl, _, _, B, _, _, A, rfl, rfl, HB.out, HA.out, by omega, by omega, by rw [← hS.out]; omega⟩
    · go_wp2_with fail
      go_meet
      exact ⟨rfl, _, _, A, _, _, B, rfl, rfl, HA.out, HB.out, by omega, by omega, hS.out⟩
  case rest =>
    obtain ⟨rfl, px, cx, X, py, cy, Y, rfl, rfl, hX, hY, hle, hXl, hN⟩ := hcut
    have HX := Lib.hid hX
    have HY := Lib.hid hY
    have HN := Lib.hid hN
    clear HA HB hX hY hN hS
    go_wp2_with (at_make; refine wpList_mk _ rfl _ _ rfl (X.length + 1) rfl rfl (by omega) (by omega) ?_)
    intro w1 hsz hown hbel
    have hB0 : Hid (wc.heap.size = wc.heap.size) := rfl
    go_wp2_with fail
    go_loopw [6, 26] (fun cv iv wr => ∃ (k c : Nat) (L : List Nat), k ≤ X.length ∧ iv = .int .i64 k ∧ cv = .int .u64 c ∧ c ≤ 1 ∧ L.length = X.length + 1 ∧ Lim L ∧ Own wr wc.heap.size L ∧ Below wc.heap.size wc wr ∧
        val (L.take k) + bp k * c = val (X.take k) + val (Y.take k)) (fun _ iv _ => X.length - (intOf iv).toNat)
    case atStart => exact ⟨0, 0, _, Nat.zero_le _, rfl, rfl, by omega, by simp, lim_zeros _, hown, hbel, by simp [val]⟩
    case round =>
      obtain ⟨k, c, L, hk, rfl, rfl, hc, hL, hlim, hO, hBl, hI⟩ := hrel
      have HO := Lib.hid hO
      have HI := Lib.hid hI
      have HL := Lib.hid hL
      have HBl := Lib.hid hBl
      have hLge : X.length < L.length := by omega
      clear hO hI hL hBl
      by_cases hlt : k < X.length
      · have hxc := (HX.out.keep HBl.out).cell k hlt
        have hxi := fun ww => HX.out.ix (z := (k : Int)) (by omega) (n := X.length) (by omega) (Nat.le_refl _) cx ww
        have hoc := HO.out.cell (i := k) (by omega)
        have hof := HO.out.frozen k
        have hx := lm_lt HX.out.lim k
        rw [Int.toNat_natCast] at hxi
        by_cases hy : k < Y.length
        · have hyc := (HY.out.keep HBl.out).cell k hy
          have hyi := fun ww => HY.out.ix (z := (k : Int)) (by omega) (n := Y.length) (by omega) (Nat.le_refl _) cy ww
          have hyy := lm_lt HY.out.lim k
          rw [Int.toNat_natCast] at hyi
          go_wp2_with fail
          go_roundw
          case rel =>
            exact ⟨k + 1, (c + lm X k + lm Y k) / 4294967296, L.set k ((c + lm X k + lm Y k) % 4294967296), by omega, by go_num, by go_num, by omega, by rw [List.length_set]; exact HL.out, lim_set hlim (by omega),
              HO.out.set (by omega), HBl.out.setCell (Nat.le_refl _) _, add_step (by omega) HI.out⟩
          case measure => simp [intOf]; omega
        · have hyz : lm Y k = 0 := lm_out (by omega)
          have HYZ := Lib.hid hyz
          clear hyz
          go_wp2_with fail
          go_roundw
          case rel =>
            refine ⟨k + 1, (c + lm X k) / 4294967296, L.set k ((c + lm X k) % 4294967296), by omega, by go_num, by go_num, by omega, by rw [List.length_set]; exact HL.out, lim_set hlim (by omega),
              HO.out.set (by omega), HBl.out.setCell (Nat.le_refl _) _, ?_⟩
            have := add_step (b := Y) (by omega) HI.out
            rwa [HYZ.out, Nat.add_zero] at this
          case measure => simp [intOf]; omega
      · obtain rfl : k = X.length := by omega
        have hoc := HO.out.cell (i := X.length) (by omega)
        have hof := HO.out.frozen X.length
        have hsum : Hid (val (L.set X.length c) = val la + val lb) := by
          have h1 := HI.out
          rw [val_take_all (Nat.le_refl _), val_take_all hle, HN.out] at h1
          exact (add_last (by have := HL.out; omega)).trans h1
        have hO2 := HO.out.set (i := X.length) (x := c) rfl
        have hlim2 : Lim (L.set X.length c) := lim_set hlim (by omega)
        have hlen : (L.set X.length c).length = X.length + 1 := by rw [List.length_set]; exact HL.out
        have hB2 : Below wc.heap.size wc (wr.setCell ⟨wc.heap.size, X.length, none⟩ (.int .u32 (c : Int))) := HBl.out.setCell (Nat.le_refl _) _
        generalize hM : L.set X.length c = M at hO2 hlim2 hlen hsum
        clear hM hoc hof
        have hoc := HO.out.cell (i := X.length) (by omega)
        have hof := HO.out.frozen X.length
        have HM := Lib.hid hlen
        clear hlen
        go_wp2_with fail
        have hN := hO2.whole hlim2 HM.out (by omega)
        refine (low_ok _ _ _ M _ hN HM.out).mono ?_
        rintro e w' ⟨R, hR, rfl, hRn, rfl⟩
        go_wp2_with fail
        go_ret
        exact ret_low hR hO2 hlim2 (Nat.le_refl _) HM.out hsum.out hB2 (by omega)
end Go.Proofs.YtgaicejcjkpekaaDoor
