/- The reference: GCD. -/
import Derived.Test.YtfdjlkffhikaeaaDoorRDiv
namespace Go.Proofs.YtfdjlkffhikaeaaDoor
open Go.RowKit Nt

/-- What the loop of the reference's GCD keeps. -/
structure Ge (M G x y : Nat) : Prop where
  tx : x ≤ M
  ty : y ≤ M
  gcd : Nat.gcd x y = G

theorem Ge.div {M G x y : Nat} (h : Ge M G x y) (hy : 0 < y) : Ge M G y (x % y) :=
  ⟨h.ty, Nat.le_trans (Nat.le_of_lt (Nat.mod_lt _ hy)) h.ty, by rw [← h.gcd, Nat.gcd_comm x y, Nat.gcd_comm y (x % y), ← Nat.gcd_rec]⟩

set_option maxRecDepth 100000 in
set_option maxHeartbeats 2000000 in
theorem rgcd_ok (pa : Option Addr) (na ca : Nat) (la : List Nat) (pb : Option Addr) (nB cb : Nat) (lb : List Nat) (w : World) (ha : NatIn w pa ca la) (hb : NatIn w pb cb lb) (hna : la.length = na) (hnb : lb.length = nB) (sa : na ≤ 100000000) (sb : nB ≤ 100000000) :
    Calls Tryd.prog 40 #[.slice pa na ca, .slice pb nB cb] w (RetNat (Nat.gcd (val la) (val lb)) w) := by
  subst hna hnb
  have HX := Lib.hid ha
  have HY := Lib.hid hb
  have hla := limbs_length_val_le ha.lim
  have hlb := limbs_length_val_le hb.lim
  obtain ⟨A, hA⟩ : ∃ A, A = val la := ⟨_, rfl⟩
  obtain ⟨B, hB⟩ : ∃ B, B = val lb := ⟨_, rfl⟩
  rw [← hA] at hla
  rw [← hB] at hlb
  rw [← hA, ← hB]
  obtain ⟨G, hG⟩ : ∃ G, G = Nat.gcd A B := ⟨_, rfl⟩
  rw [← hG]
  obtain ⟨M, hM⟩ : ∃ M, M = max A B := ⟨_, rfl⟩
  have hMl : (limbs M).length ≤ 100000000 := by
    rcases Nat.le_total A B with h | h
    · rw [hM, Nat.max_eq_right h]; omega
    · rw [hM, Nat.max_eq_left h]; omega
  have HI0 : Hid (Ge M G A B) := ⟨by omega, by omega, hG.symm⟩
  have HA := Lib.hid hA
  have HB := Lib.hid hB
  have HML := Lib.hid hMl
  clear ha hb hA hB hG hM hMl
  go_enter Tryd.func40, Tryd.ntmps40
  go_wp2_with fail
  refine (rtrim_ok pa _ ca la _ HX.out rfl (by omega)).mono ?_
  rintro e w1 ⟨p1, c1, rfl, hb1, hm1⟩
  rw [← HA.out] at hm1 ⊢
  have HB1 := Lib.hid hb1
  have HM1 := Lib.hid hm1
  have HY1 := Lib.hid (HY.out.keep hb1)
  have hs1 := hb1.size
  clear hb1 hm1
  go_wp2_with fail
  refine (rtrim_ok pb _ cb lb _ HY1.out rfl (by omega)).mono ?_
  rintro e w2 ⟨p2, c2, rfl, hb2, hm2⟩
  rw [← HB.out] at hm2 ⊢
  have HM1' := Lib.hid (HM1.out.keep hb2)
  have HM2 := Lib.hid (hm2.mono hs1)
  have HB2 := Lib.hid (HB1.out.trans (hb2.mono hs1))
  clear hb2 hm2 HB1 HM1 HX HY HY1
  go_wp2_with fail
  go_loopg [0, 1] B (fun k av bv wr => ∃ (x y : Nat) (px : Option Addr) (cx nx : Nat) (py : Option Addr) (cy ny : Nat), av = .slice px nx cx ∧ bv = .slice py ny cy ∧ (limbs x).length = nx ∧ (limbs y).length = ny ∧
      Mine w.heap.size wr px cx (limbs x) ∧ Mine w.heap.size wr py cy (limbs y) ∧ Below w.heap.size w wr ∧ Ge M G x y ∧ y ≤ k)
  case atStart => exact ⟨A, B, _, _, _, _, _, _, rfl, rfl, rfl, rfl, HM1'.out, HM2.out, HB2.out, HI0.out, Nat.le_refl _⟩
  case round =>
    obtain ⟨x, y, px, cx, nx, py, cy, ny, rfl, rfl, hlx, hly, hMx, hMy, hB, hI, hk⟩ := hrel
    have HMx := Lib.hid hMx
    have HMy := Lib.hid hMy
    have HBw := Lib.hid hB
    have HI := Lib.hid hI
    have hxl := len_le HML.out hI.tx
    have hyl := len_le HML.out hI.ty
    rw [hlx] at hxl
    rw [hly] at hyl
    have HLX := Lib.hid hlx
    have HLY := Lib.hid hly
    have HK := Lib.hid hk
    clear hMx hMy hB hI hlx hly hk
    by_cases h0 : y = 0
    · have hz : Hid (x = G) := by have := HI.out.gcd; rw [h0, Nat.gcd_zero_right] at this; exact this
      have hn0 : ny = 0 := by rw [← HLY.out, h0, limbs_zero]; rfl
      subst hn0
      clear h0
      go_wp2_with fail
      go_ret
      have hm := HMx.out
      rw [hz.out] at hm
      exact ⟨px, cx, by rw [← HLX.out, hz.out]; rfl, HBw.out, hm⟩
    · have hyp : Hid (0 < y) := Nat.pos_of_ne_zero h0
      have hn0 : 0 < ny := by
        rw [← HLY.out]
        apply Nat.pos_of_ne_zero
        intro h
        have h1 := val_limbs y
        rw [List.length_eq_zero_iff.1 h] at h1
        exact h0 h1.symm
      clear h0
      go_wp2_with fail
      refine (rdivide_ok px _ cx (limbs x) py _ cy (limbs y) _ HMx.out.natIn HMy.out.natIn HLX.out HLY.out (by omega) (by omega)).mono ?_
      rintro e w3 ⟨p3, c3, p4, c4, rfl, hb3, hm3, hm4⟩
      rw [val_limbs, val_limbs, rmd_pos hyp.out] at hm4
      rw [val_limbs, val_limbs, rmd_pos hyp.out]
      have HM4 := Lib.hid (hm4.mono HBw.out.size)
      have HMy3 := Lib.hid (HMy.out.keep hb3)
      have HB3 := Lib.hid (HBw.out.trans (hb3.mono HBw.out.size))
      clear hb3 hm3 hm4 HMx HMy HBw
      go_wp2_with fail
      go_roundg (x % y)
      case measure => exact Nat.lt_of_lt_of_le (Nat.mod_lt _ hyp.out) HK.out
      case rel => exact ⟨y, x % y, _, _, _, _, _, _, rfl, rfl, HLY.out, rfl, HMy3.out, HM4.out, HB3.out, HI.out.div hyp.out, Nat.le_refl _⟩
end Go.Proofs.YtfdjlkffhikaeaaDoor
