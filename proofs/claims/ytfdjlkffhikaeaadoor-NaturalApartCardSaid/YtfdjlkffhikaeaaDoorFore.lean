/- natural.foreseen: quotients foreseen from leading bits (Lehmer). -/
import Derived.Test.YtfdjlkffhikaeaaDoorLehmerM
import Derived.Test.YtfdjlkffhikaeaaDoorAbove
import Derived.Test.YtfdjlkffhikaeaaDoorComb
import Derived.Test.YtfdjlkffhikaeaaDoorRefB
namespace Go.Proofs.YtfdjlkffhikaeaaDoor
open Go.RowKit Nt

/-- All stays small. -/
structure Bd (m n x y z w : Int) : Prop where
  m0 : 0 ≤ m
  m1 : m < 1073741824
  n0 : 0 ≤ n
  n1 : n < 1073741824
  x0 : -1073741823 ≤ x
  x1 : x ≤ 1073741823
  y0 : -1073741823 ≤ y
  y1 : y ≤ 1073741823
  z0 : -1073741823 ≤ z
  z1 : z ≤ 1073741823
  w0 : -1073741823 ≤ w
  w1 : w ≤ 1073741823

theorem mul_bd2 {q v : Int} (h0 : 0 ≤ q) (h1 : q ≤ 2147483647) (h2 : -1073741823 ≤ v) (h3 : v ≤ 1073741823) : -2305843007066210241 ≤ q * v ∧ q * v ≤ 2305843007066210241 := by
  have a1 : q * v ≤ q * 1073741823 := Int.mul_le_mul_of_nonneg_left h3 h0
  have a2 : q * (-1073741823) ≤ q * v := Int.mul_le_mul_of_nonneg_left h2 h0
  omega

theorem Bd.step {D m0 n0 al be A B m n x y z w a1 b1 q : Int} (g : Bd m n x y z w) (h : Lm D m0 n0 al be A B m n x y z w a1 b1) (hz : 0 < n + z) (hw : 0 < n + w) (hq1 : q = (m + x) / (n + z)) (hq2 : q = (m + y) / (n + w)) : Bd n (m - q * n) z w (x - q * z) (y - q * w) := by
  have r1 : 0 ≤ (m + x) - q * (n + z) ∧ (m + x) - q * (n + z) < n + z := by
    have e := Int.emod_add_mul_ediv (m + x) (n + z)
    have e1 := Int.emod_nonneg (m + x) (by omega : n + z ≠ 0)
    have e2 := Int.emod_lt_of_pos (m + x) hz
    rw [← hq1, Int.mul_comm] at e
    omega
  have r2 : 0 ≤ (m + y) - q * (n + w) ∧ (m + y) - q * (n + w) < n + w := by
    have e := Int.emod_add_mul_ediv (m + y) (n + w)
    have e1 := Int.emod_nonneg (m + y) (by omega : n + w ≠ 0)
    have e2 := Int.emod_lt_of_pos (m + y) hw
    rw [← hq2, Int.mul_comm] at e
    omega
  have hq0 : 0 ≤ q := by rw [hq1]; exact Int.ediv_nonneg h.p1 (by omega)
  have e1 : (m - q * n) + (x - q * z) = (m + x) - q * (n + z) := by grind
  have e2 : (m - q * n) + (y - q * w) = (m + y) - q * (n + w) := by grind
  obtain ⟨g1, g2, g3, g4, g5, g6, g7, g8, g9, g10, g11, g12⟩ := g
  rcases h.sg with ⟨s1, s2, s3, s4⟩ | ⟨s1, s2, s3, s4⟩
  · have t1 : 0 ≤ q * (-z) := Int.mul_nonneg hq0 (by omega)
    have t2 : 0 ≤ q * w := Int.mul_nonneg hq0 s4
    rw [Int.mul_neg] at t1
    exact ⟨g3, g4, by omega, by omega, g9, g10, g11, g12, by omega, by omega, by omega, by omega⟩
  · have t1 : 0 ≤ q * z := Int.mul_nonneg hq0 s3
    have t2 : 0 ≤ q * (-w) := Int.mul_nonneg hq0 (by omega)
    rw [Int.mul_neg] at t2
    exact ⟨g3, g4, by omega, by omega, g9, g10, g11, g12, by omega, by omega, by omega, by omega⟩

theorem Bd.fall {D m0 n0 al be A B m n x y z w a1 b1 q : Int} (h : Lm D m0 n0 al be A B m n x y z w a1 b1) (hz : 0 < n + z) (hw : 0 < n + w) (hq1 : q = (m + x) / (n + z)) (hq2 : q = (m + y) / (n + w)) : m - q * n < n := by
  have r1 : 0 ≤ (m + x) - q * (n + z) ∧ (m + x) - q * (n + z) < n + z := by
    have e := Int.emod_add_mul_ediv (m + x) (n + z)
    have e1 := Int.emod_nonneg (m + x) (by omega : n + z ≠ 0)
    have e2 := Int.emod_lt_of_pos (m + x) hz
    rw [← hq1, Int.mul_comm] at e
    omega
  have r2 : 0 ≤ (m + y) - q * (n + w) ∧ (m + y) - q * (n + w) < n + w := by
    have e := Int.emod_add_mul_ediv (m + y) (n + w)
    have e1 := Int.emod_nonneg (m + y) (by omega : n + w ≠ 0)
    have e2 := Int.emod_lt_of_pos (m + y) hw
    rw [← hq2, Int.mul_comm] at e
    omega
  have hq0 : 0 ≤ q := by rw [hq1]; exact Int.ediv_nonneg h.p1 (by omega)
  have e1 : (m - q * n) + (x - q * z) = (m + x) - q * (n + z) := by grind
  have e2 : (m - q * n) + (y - q * w) = (m + y) - q * (n + w) := by grind
  rcases h.sg with ⟨s1, s2, s3, s4⟩ | ⟨s1, s2, s3, s4⟩
  · have t1 : 0 ≤ q * (-z) := Int.mul_nonneg hq0 (by omega)
    rw [Int.mul_neg] at t1
    omega
  · have t2 : 0 ≤ q * (-w) := Int.mul_nonneg hq0 (by omega)
    rw [Int.mul_neg] at t2
    omega
theorem results_tmp4 {fn : Func} {t u v x : Tmp} (h : fn.results = #[.tmp t, .tmp u, .tmp v, .tmp x]) (tmps : Array Value) (P : Program) (w : World) :
    Sem.run P (results fn tmps) w = .ok (.tuple #[tmps.getD t undef, tmps.getD u undef, tmps.getD v undef, tmps.getD x undef]) w := by
  simp [results, h]
/-- What the factors give. -/
structure Fore (A B : Nat) (x y z u a1 b1 : Int) : Prop where
  ha : a1 = x * A + y * B
  hb : b1 = z * A + u * B
  b0 : 0 ≤ b1
  le : b1 ≤ a1
  top : a1 ≤ A
  gcd : Int.gcd a1 b1 = Nat.gcd A B
  less : y ≠ 0 → b1 < B
  leB : b1 ≤ B

set_option maxRecDepth 100000 in
set_option maxHeartbeats 2000000 in
theorem foreseen_ok (pa : Option Addr) (na ca : Nat) (la : List Nat) (pb : Option Addr) (nB cb : Nat) (lb : List Nat) (w : World) (ha : NatIn w pa ca la) (hb : NatIn w pb cb lb) (hna : la.length = na) (hnb : lb.length = nB) (sa : na ≤ 100000000) (sb : nB ≤ 100000000)
    (hle : val lb ≤ val la) (h31 : 31 ≤ nb (val la)) :
    Calls Tryd.prog 53 #[.slice pa na ca, .slice pb nB cb] w fun e w' =>
      (∃ m n x y z u a1 b1 : Int, e = .returned (.tuple #[.int .i64 x, .int .i64 y, .int .i64 z, .int .i64 u]) ∧ Bd m n x y z u ∧ Fore (val la) (val lb) x y z u a1 b1) ∧ w = w' := by
  subst hna hnb
  have HX := Lib.hid ha
  have HY := Lib.hid hb
  obtain ⟨A, hA⟩ : ∃ A, A = val la := ⟨_, rfl⟩
  obtain ⟨B, hB⟩ : ∃ B, B = val lb := ⟨_, rfl⟩
  obtain ⟨s, hs⟩ : ∃ s, s = nb (val la) := ⟨_, rfl⟩
  have hs1 : 31 ≤ s := by omega
  have hs2 : s ≤ 3200000000 := by rw [hs]; have := nb_len (limbs_length_val_le ha.lim); omega
  obtain ⟨c, hc⟩ : ∃ c, c = s - 30 := ⟨_, rfl⟩
  have hci : (s : Int) - 30 = (c : Int) := by omega
  have hcb : c ≤ 1000000000000 := by omega
  have hlt : val la < 2 ^ c * 1073741824 := by
    have h1 := nb_lt (val la)
    rw [← hs, show s = c + 30 by omega, Nat.pow_add] at h1
    exact h1
  obtain ⟨D, hD⟩ : ∃ D, D = 2 ^ c := ⟨_, rfl⟩
  have hDp : 0 < D := by rw [hD]; exact Nat.two_pow_pos c
  have hm0 : val la / 2 ^ c < 1073741824 := Nat.div_lt_of_lt_mul hlt
  have hn0 : val lb / 2 ^ c < 1073741824 := Nat.lt_of_le_of_lt (Nat.div_le_div_right hle) hm0
  obtain ⟨m0, hm⟩ : ∃ m, m = val la / 2 ^ c := ⟨_, rfl⟩
  obtain ⟨n0, hn⟩ : ∃ n, n = val lb / 2 ^ c := ⟨_, rfl⟩
  have hAd : (A : Int) = (D : Int) * (m0 : Int) + ((A % D : Nat) : Int) := by
    rw [hm, hA, hD]; have := Nat.div_add_mod (val la) (2 ^ c); omega
  have hBd : (B : Int) = (D : Int) * (n0 : Int) + ((B % D : Nat) : Int) := by
    rw [hn, hB, hD]; have := Nat.div_add_mod (val lb) (2 ^ c); omega
  have hAm := Nat.mod_lt A hDp
  have hBm := Nat.mod_lt B hDp
  have hi0 : Lm (D : Int) m0 n0 ((A % D : Nat) : Int) ((B % D : Nat) : Int) A B m0 n0 1 0 0 1 A B := ⟨by omega, by omega, by omega, by omega, by omega, by omega, by omega, by omega, .inl ⟨by omega, by omega, by omega, by omega⟩⟩
  have hg0 : Bd (m0 : Int) n0 1 0 0 1 := ⟨by omega, by omega, by omega, by omega, by omega, by omega, by omega, by omega, by omega, by omega, by omega, by omega⟩
  have HI0 := Lib.hid hi0
  have HG0 := Lib.hid hg0
  have HAd := Lib.hid hAd
  have HBd := Lib.hid hBd
  have HDp := Lib.hid hDp
  have HAm := Lib.hid hAm
  have HBm := Lib.hid hBm
  have HA := Lib.hid hA
  have HB := Lib.hid hB
  have HS := Lib.hid hs
  have HM := Lib.hid hm
  have HN := Lib.hid hn
  have HLE : Hid (B ≤ A) := by rw [hA, hB]; exact hle
  have HLT1 : Hid (val la / 2 ^ c < 4294967296) := (by omega : val la / 2 ^ c < 4294967296)
  have HLT2 : Hid (val lb / 2 ^ c < 4294967296) := (by omega : val lb / 2 ^ c < 4294967296)
  rw [← hA, ← hB]
  clear hi0 hg0 hAd hBd hDp hAm hBm hA hB hs hm hn hle h31 hlt hm0 hn0 hc hD ha hb
  go_enter Tryd.func53, Tryd.ntmps53
  go_wp2_with fail
  refine (bits_ok pa _ ca la _ HX.out rfl (by omega)).mono ?_
  rintro e w' ⟨rfl, rfl⟩
  rw [← HS.out]
  go_wp2_with fail
  refine (above_ok pa _ ca la c _ HX.out rfl (by omega) (by omega) HLT1.out).mono ?_
  rintro e w' ⟨rfl, rfl⟩
  rw [← HM.out]
  go_wp2_with fail
  refine (above_ok pb _ cb lb c _ HY.out rfl (by omega) (by omega) HLT2.out).mono ?_
  rintro e w' ⟨rfl, rfl⟩
  rw [← HN.out]
  go_wp2_with fail
  go_loop [4, 5, 6, 7, 9, 10] (fun xv yv zv uv mv nv => ∃ m n x y z u a1 b1 : Int, xv = .int .i64 x ∧ yv = .int .i64 y ∧ zv = .int .i64 z ∧ uv = .int .i64 u ∧ mv = .int .i64 m ∧ nv = .int .i64 n ∧
      Lm (D : Int) m0 n0 ((A % D : Nat) : Int) ((B % D : Nat) : Int) A B m n x y z u a1 b1 ∧ Bd m n x y z u ∧ Fore A B x y z u a1 b1) (fun _ _ _ _ _ nv => (intOf nv).toNat)
  case atStart =>
    have := HLE.out
    exact ⟨_, _, _, _, _, _, _, _, rfl, rfl, rfl, rfl, rfl, rfl, HI0.out, HG0.out, ⟨by omega, by omega, by omega, by omega, by omega, rfl, fun h => absurd rfl h, by omega⟩⟩
  case round =>
    obtain ⟨m, n, x, y, z, u, a1, b1, rfl, rfl, rfl, rfl, rfl, rfl, hL, hG, hF⟩ := hrel
    have HL := Lib.hid hL
    have HG := Lib.hid hG
    have HF := Lib.hid hF
    obtain ⟨g1, g2, g3, g4, g5, g6, g7, g8, g9, g10, g11, g12⟩ := hG
    have p1 := hL.p1
    have p2 := hL.p2
    have p3 := hL.p3
    have p4 := hL.p4
    have v1 : wrap64 (n + z) = n + z := w64 (by omega) (by omega)
    have v2 : wrap64 (n + u) = n + u := w64 (by omega) (by omega)
    have v3 : wrap64 (m + x) = m + x := w64 (by omega) (by omega)
    have v4 : wrap64 (m + y) = m + y := w64 (by omega) (by omega)
    clear hL hF
    by_cases hz : n + z = 0
    · have e1 : (n + z != 0) = false := by rw [bne_eq_false_iff_eq]; exact hz
      go_wp2_with fail
      refine bodyPost_ret (results_tmp4 rfl _ _ _) rfl ?_
      exact ⟨⟨m, n, x, y, z, u, rfl, HG.out, _, _, HF.out⟩, rfl⟩
    · have e1 : (n + z != 0) = true := by rw [bne_iff_ne]; exact hz
      by_cases hu : n + u = 0
      · have e2 : (n + u != 0) = false := by rw [bne_eq_false_iff_eq]; exact hu
        go_wp2_with fail
        refine bodyPost_ret (results_tmp4 rfl _ _ _) rfl ?_
        exact ⟨⟨m, n, x, y, z, u, rfl, HG.out, _, _, HF.out⟩, rfl⟩
      · have e2 : (n + u != 0) = true := by rw [bne_iff_ne]; exact hu
        have hz0 : 0 < n + z := by omega
        have hu0 : 0 < n + u := by omega
        obtain ⟨q, hq⟩ : ∃ q, q = (m + x) / (n + z) := ⟨_, rfl⟩
        obtain ⟨q2, hq2⟩ : ∃ q, q = (m + y) / (n + u) := ⟨_, rfl⟩
        have hq0 : 0 ≤ q := by rw [hq]; exact Int.ediv_nonneg p1 p3
        have hqb : q ≤ 2147483647 := by rw [hq]; have := Int.ediv_le_self (n + z) p1; omega
        have hq20 : 0 ≤ q2 := by rw [hq2]; exact Int.ediv_nonneg p2 p4
        have hq2b : q2 ≤ 2147483647 := by rw [hq2]; have := Int.ediv_le_self (n + u) p2; omega
        have v5 : wrap64 q = q := w64 (by omega) (by omega)
        have v6 : wrap64 q2 = q2 := w64 (by omega) (by omega)
        have d1 : (m + x) / (n + z) = q := hq.symm
        have d2 : (m + y) / (n + u) = q2 := hq2.symm
        have HQ := Lib.hid hq
        have HQ2 := Lib.hid hq2
        clear hq hq2
        by_cases heq : q = q2
        · subst heq
          have t1 := mul_bd2 hq0 hqb (show -1073741823 ≤ n by omega) (by omega)
          have t2 := mul_bd2 hq0 hqb g9 g10
          have t3 := mul_bd2 hq0 hqb g11 g12
          obtain ⟨P1, hP1⟩ : ∃ P, P = q * n := ⟨_, rfl⟩
          obtain ⟨P2, hP2⟩ : ∃ P, P = q * z := ⟨_, rfl⟩
          obtain ⟨P3, hP3⟩ : ∃ P, P = q * u := ⟨_, rfl⟩
          rw [← hP1] at t1
          rw [← hP2] at t2
          rw [← hP3] at t3
          have v7 : wrap64 (q * n) = P1 := by rw [← hP1]; exact w64 (by omega) (by omega)
          have v8 : wrap64 (q * z) = P2 := by rw [← hP2]; exact w64 (by omega) (by omega)
          have v9 : wrap64 (q * u) = P3 := by rw [← hP3]; exact w64 (by omega) (by omega)
          have va : wrap64 (m - P1) = m - P1 := w64 (by omega) (by omega)
          have vb : wrap64 (x - P2) = x - P2 := w64 (by omega) (by omega)
          have vc : wrap64 (y - P3) = y - P3 := w64 (by omega) (by omega)
          have H1 := Lib.hid hP1
          have H2 := Lib.hid hP2
          have H3 := Lib.hid hP3
          have hst := HL.out.step HAd.out HBd.out (by have := HDp.out; omega) (by omega) (by have := HAm.out; omega) (by omega) (by have := HBm.out; omega) hz0 hu0 HQ.out HQ2.out
          have hgs := HG.out.step HL.out hz0 hu0 HQ.out HQ2.out
          rw [← hP1, ← hP2, ← hP3] at hst hgs
          have hfl := Bd.fall HL.out hz0 hu0 HQ.out HQ2.out
          rw [← hP1] at hfl
          have HF2 := Lib.hid hfl
          clear hfl
          have HST := Lib.hid hst
          have HGS := Lib.hid hgs
          clear hst hgs t1 t2 t3 hP1 hP2 hP3
          go_wp2_with fail
          go_round
          case rel =>
            have hF := HF.out
            have h1 := HST.out
            refine ⟨n, m - P1, z, u, x - P2, y - P3, b1, a1 - q * b1, by go_num, by go_num, by go_num, by go_num, by go_num, by go_num, h1.1, HGS.out, ⟨h1.1.ha, h1.1.hb, h1.2.1, by omega, by have := hF.le; have := hF.top; omega, ?_, fun _ => ?_, ?_⟩⟩
            · rw [← hF.gcd, Int.gcd_comm a1 b1]; exact Int.gcd_sub_mul_right_right ..
            · have h2 := hF.leB; have h4 := h1.2.2; omega
            · have h2 := hF.leB; have h4 := h1.2.2; omega
          case measure =>
            have f := HF2.out
            have f2 := HGS.out.n0
            have f3 := HGS.out.m0
            simp only [intOf]
            omega
        · have e3 : (q != q2) = true := by rw [bne_iff_ne]; exact heq
          go_wp2_with fail
          refine bodyPost_ret (results_tmp4 rfl _ _ _) rfl ?_
          exact ⟨⟨m, n, x, y, z, u, rfl, HG.out, _, _, HF.out⟩, rfl⟩
end Go.Proofs.YtfdjlkffhikaeaaDoor
