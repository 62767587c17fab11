/- natural.GCD. -/
import Derived.Test.YtfdjlkffhikaeaaDoorFore
import Derived.Test.YtfdjlkffhikaeaaDoorDiv
import Derived.Test.YtfdjlkffhikaeaaDoorCmp
import Derived.Test.YtfdjlkffhikaeaaDoorTrim
import Derived.Deep.LoopGhost
import Derived.Outline
namespace Go.Proofs.YtfdjlkffhikaeaaDoor
open Go.RowKit Nt

/-- What the loop of GCD keeps. -/
structure Gc (M G x y : Nat) : Prop where
  le : y ≤ x
  top : x ≤ M
  gcd : Nat.gcd x y = G

theorem Gc.div {M G x y : Nat} (h : Gc M G x y) (hy : 0 < y) : Gc M G y (x % y) :=
  ⟨Nat.le_of_lt (Nat.mod_lt _ hy), Nat.le_trans h.le h.top, by rw [← h.gcd, Nat.gcd_comm x y, Nat.gcd_comm y (x % y), ← Nat.gcd_rec]⟩
theorem nb_two {y : Nat} (h : 1 < (limbs y).length) : 31 ≤ nb y := by
  rcases Nat.lt_or_ge (nb y) 31 with h1 | h1
  · exfalso
    have h2 := nb_lt y
    have h3 : 2 ^ nb y ≤ 2 ^ 31 := Nat.pow_le_pow_right (by omega) (by omega)
    have h4 : (limbs y).length ≤ 1 := limbs_length_le (by rw [show bp 1 = 4294967296 from rfl]; omega)
    omega
  · exact h1
theorem nb_mono {x y : Nat} (h : y ≤ x) : nb y ≤ nb x := nb_le (Nat.lt_of_le_of_lt h (nb_lt x))

set_option maxRecDepth 100000 in
set_option maxHeartbeats 2000000 in
theorem gcd_ok (pa : Option Addr) (na ca : Nat) (la : List Nat) (pb : Option Addr) (nB cb : Nat) (lb : List Nat) (w : World) (ha : NatIn w pa ca la) (hb : NatIn w pb cb lb) (hna : la.length = na) (hnb : lb.length = nB) (sa : na ≤ 100000000) (sb : nB ≤ 100000000) :
    Calls Tryd.prog 39 #[.slice pa na ca, .slice pb nB cb] w (RetNat (Nat.gcd (val la) (val lb)) w) := by
  subst hna hnb
  have HX := Lib.hid ha
  have HY := Lib.hid hb
  have hla := limbs_length_val_le ha.lim
  have hlb := limbs_length_val_le hb.lim
  obtain ⟨A, hA⟩ : ∃ A, A = val la := ⟨_, rfl⟩
  obtain ⟨B, hB⟩ : ∃ B, B = val lb := ⟨_, rfl⟩
  rw [← hA] at hla
  rw [← hB] at hlb
  rw [← hA, ← hB]
  obtain ⟨G, hG⟩ : ∃ G, G = Nat.gcd A B := ⟨_, rfl⟩
  rw [← hG]
  obtain ⟨M, hM⟩ : ∃ M, M = max A B := ⟨_, rfl⟩
  have hMl : (limbs M).length ≤ 100000000 := by
    rcases Nat.le_total A B with h | h
    · rw [hM, Nat.max_eq_right h]; omega
    · rw [hM, Nat.max_eq_left h]; omega
  have HA := Lib.hid hA
  have HB := Lib.hid hB
  have HG := Lib.hid hG
  have HM := Lib.hid hM
  have HML := Lib.hid hMl
  clear ha hb hA hB hG hM hMl
  go_enter Tryd.func39, Tryd.ntmps39
  go_wp2_with fail
  refine (trim_ok pa _ ca la _ HX.out rfl (by omega)).mono ?_
  rintro e w1 ⟨p1, c1, rfl, hb1, hm1⟩
  rw [← HA.out] at hm1 ⊢
  have HB1 := Lib.hid hb1
  have HM1 := Lib.hid hm1
  have HY1 := Lib.hid (HY.out.keep hb1)
  have hs1 := hb1.size
  clear hb1 hm1
  go_wp2_with fail
  refine (trim_ok pb _ cb lb _ HY1.out rfl (by omega)).mono ?_
  rintro e w2 ⟨p2, c2, rfl, hb2, hm2⟩
  rw [← HB.out] at hm2 ⊢
  have HM1' := Lib.hid (HM1.out.keep hb2)
  have HM2 := Lib.hid (hm2.mono hs1)
  have HB2 := Lib.hid (HB1.out.trans (hb2.mono hs1))
  have hs2 := HB2.out.size
  clear hb2 hm2 HB1 HM1 HX HY HY1
  go_wp2_with fail
  refine (cmp_ok p1 _ c1 (limbs A) p2 _ c2 (limbs B) _ HM1'.out.natIn HM2.out.natIn rfl rfl).mono ?_
  rintro e w3 ⟨rfl, hb3⟩
  rw [val_limbs, val_limbs]
  have HM1 := Lib.hid (HM1'.out.keep hb3)
  have HM2' := Lib.hid (HM2.out.keep hb3)
  have HB3 := Lib.hid (HB2.out.trans (hb3.mono hs2))
  have hs3 := HB3.out.size
  clear hb3 HM1' HM2 HB2
  by_cases hlt : A < B
  · rw [cmp_lt hlt]
    have HI0 : Hid (Gc M G B A) := ⟨by omega, by rw [HM.out]; exact Nat.le_max_right _ _, by rw [Nat.gcd_comm, HG.out]⟩
    have HMx0 := HM2'
    have HMy0 := HM1
    clear hlt HM2' HM1 HA HB HG HM
    go_wp2_with fail
    go_loopg [0, 1] A (fun k av bv wr => ∃ (x y : Nat) (px : Option Addr) (cx nx : Nat) (py : Option Addr) (cy ny : Nat), av = .slice px nx cx ∧ bv = .slice py ny cy ∧ (limbs x).length = nx ∧ (limbs y).length = ny ∧
        Mine w.heap.size wr px cx (limbs x) ∧ Mine w.heap.size wr py cy (limbs y) ∧ Below w.heap.size w wr ∧ Gc M G x y ∧ y ≤ k)
    case atStart => exact ⟨B, A, _, _, _, _, _, _, rfl, rfl, rfl, rfl, HMx0.out, HMy0.out, HB3.out, HI0.out, Nat.le_refl _⟩
    case round =>
      obtain ⟨x, y, px, cx, nx, py, cy, ny, rfl, rfl, hlx, hly, hMx, hMy, hB, hI, hk⟩ := hrel
      have HMx := Lib.hid hMx
      have HMy := Lib.hid hMy
      have HBw := Lib.hid hB
      have HI := Lib.hid hI
      have hxl := len_le HML.out hI.top
      have hyl := len_le HML.out (Nat.le_trans hI.le hI.top)
      rw [hlx] at hxl
      rw [hly] at hyl
      have HLX := Lib.hid hlx
      have HLY := Lib.hid hly
      have HK := Lib.hid hk
      clear hMx hMy hB hI hlx hly hk
      by_cases h0 : y = 0
      · have hz : Hid (x = G) := by have := HI.out.gcd; rw [h0, Nat.gcd_zero_right] at this; exact this
        have hn0 : ny = 0 := by rw [← HLY.out, h0, limbs_zero]; rfl
        subst hn0
        clear h0
        go_wp2_with fail
        go_ret
        have hm := HMx.out
        rw [hz.out] at hm
        exact ⟨px, cx, by rw [← HLX.out, hz.out]; rfl, HBw.out, hm⟩
      · have hyp : Hid (0 < y) := Nat.pos_of_ne_zero h0
        have hn0 : 0 < ny := by
          rw [← HLY.out]
          apply Nat.pos_of_ne_zero
          intro h
          have h1 := val_limbs y
          rw [List.length_eq_zero_iff.1 h] at h1
          exact h0 h1.symm
        clear h0
        by_cases h1 : 1 < ny
        · have h31 : 31 ≤ nb x := Nat.le_trans (nb_two (by rw [HLY.out]; exact h1)) (nb_mono HI.out.le)
          have H31 := Lib.hid h31
          clear h31
          go_wp2_with fail
          refine (foreseen_ok px _ cx (limbs x) py _ cy (limbs y) _ HMx.out.natIn HMy.out.natIn HLX.out HLY.out (by omega) (by omega) (by rw [val_limbs, val_limbs]; exact HI.out.le) (by rw [val_limbs]; exact H31.out)).mono ?_
          rintro e w' ⟨⟨fm, fn, fx, fy, fz, fu, a1, b1, rfl, hbd, hf⟩, rfl⟩
          rw [val_limbs, val_limbs] at hf
          obtain ⟨g1, g2, g3, g4, gx0, gx1, gy0, gy1, gz0, gz1, gw0, gw1⟩ := hbd
          have HF := Lib.hid hf
          clear hf g1 g2 g3 g4
          by_cases hy0 : fy = 0
          · have e1 : (fy != 0) = false := by rw [bne_eq_false_iff_eq]; exact hy0
            clear hy0 gx0 gx1 gy0 gy1 gz0 gz1 gw0 gw1
            go_wp2_with fail
            refine (divide_ok px _ cx (limbs x) py _ cy (limbs y) _ HMx.out.natIn HMy.out.natIn HLX.out HLY.out (by omega) (by omega)).mono ?_
            rintro e w3 ⟨p3, c3, p4, c4, rfl, hb3, hm3, hm4⟩
            rw [val_limbs, val_limbs, rmd_pos hyp.out] at hm4
            rw [val_limbs, val_limbs, rmd_pos hyp.out]
            have HM4 := Lib.hid (hm4.mono HBw.out.size)
            have HMy3 := Lib.hid (HMy.out.keep hb3)
            have HB3 := Lib.hid (HBw.out.trans (hb3.mono HBw.out.size))
            clear hb3 hm3 hm4 HMx HMy HBw
            go_wp2_with fail
            go_roundg (x % y)
            case measure => exact Nat.lt_of_lt_of_le (Nat.mod_lt _ hyp.out) HK.out
            case rel => exact ⟨y, x % y, _, _, _, _, _, _, rfl, rfl, HLY.out, rfl, HMy3.out, HM4.out, HB3.out, HI.out.div hyp.out, Nat.le_refl _⟩
          · have e1 : (fy != 0) = true := by rw [bne_iff_ne]; exact hy0
            have hless := HF.out.less hy0
            have hb0 := HF.out.b0
            have hle1 := HF.out.le
            have htop := HF.out.top
            have HA1 : Hid (((a1.toNat : Nat) : Int) = fx * (x : Int) + fy * (y : Int)) := by
              show _ = _
              rw [← HF.out.ha]; omega
            have HB1 : Hid (((b1.toNat : Nat) : Int) = fz * (x : Int) + fu * (y : Int)) := by
              show _ = _
              rw [← HF.out.hb]; omega
            have hG1 : Nat.gcd a1.toNat b1.toNat = G := by
              have h3 := HF.out.gcd
              have e3 : ((a1.toNat : Nat) : Int) = a1 := by omega
              have e4 : ((b1.toNat : Nat) : Int) = b1 := by omega
              rw [← e3, ← e4, HI.out.gcd] at h3
              rw [Int.gcd_natCast_natCast] at h3; exact h3
            have HG1 := Lib.hid hG1
            obtain ⟨x1, hx1⟩ : ∃ x1, x1 = a1.toNat := ⟨_, rfl⟩
            obtain ⟨y1, hy1⟩ : ∃ y1, y1 = b1.toNat := ⟨_, rfl⟩
            have hxx : Hid (x1 ≤ x) := show x1 ≤ x by omega
            have hyy : Hid (y1 < y) := show y1 < y by omega
            have hyx : Hid (y1 ≤ x1) := show y1 ≤ x1 by omega
            rw [← hx1] at HA1 HG1
            rw [← hy1] at HB1 HG1
            clear hy0 hless hb0 hle1 htop hG1 hx1 hy1 HF
            have hxb : x < bp (max nx ny + 1) := lt_bp_of (by rw [HLX.out]; omega)
            have HXB := Lib.hid hxb
            clear hxb
            go_wp2_with fail
            refine (combine_ok px _ cx (limbs x) py _ cy (limbs y) fx fy x1 _ HMx.out.natIn HMy.out.natIn HLX.out HLY.out (by omega) (by omega) gx0 gx1 gy0 gy1 (by rw [val_limbs, val_limbs]; exact HA1.out) (Nat.lt_of_le_of_lt hxx.out HXB.out)).mono ?_
            rintro e w4 ⟨p4, c4, rfl, hb4, hm4⟩
            have HM4 := Lib.hid (hm4.mono HBw.out.size)
            have HMx4 := Lib.hid (HMx.out.keep hb4)
            have HMy4 := Lib.hid (HMy.out.keep hb4)
            have HB4 := Lib.hid (HBw.out.trans (hb4.mono HBw.out.size))
            clear hb4 hm4 HMx HMy HBw
            go_wp2_with fail
            refine (combine_ok px _ cx (limbs x) py _ cy (limbs y) fz fu y1 _ HMx4.out.natIn HMy4.out.natIn HLX.out HLY.out (by omega) (by omega) gz0 gz1 gw0 gw1 (by rw [val_limbs, val_limbs]; exact HB1.out) (Nat.lt_of_le_of_lt (Nat.le_trans hyx.out hxx.out) HXB.out)).mono ?_
            rintro e w5 ⟨p5, c5, rfl, hb5, hm5⟩
            have HM5 := Lib.hid (hm5.mono HB4.out.size)
            have HM45 := Lib.hid (HM4.out.keep hb5)
            have HB5 := Lib.hid (HB4.out.trans (hb5.mono HB4.out.size))
            clear hb5 hm5 HMx4 HMy4 HM4 HB4
            go_wp2_with fail
            go_roundg y1
            case measure => exact Nat.lt_of_lt_of_le hyy.out HK.out
            case rel => exact ⟨x1, y1, _, _, _, _, _, _, rfl, rfl, rfl, rfl, HM45.out, HM5.out, HB5.out, ⟨hyx.out, Nat.le_trans hxx.out HI.out.top, HG1.out⟩, Nat.le_refl _⟩
        · go_wp2_with fail
          refine (divide_ok px _ cx (limbs x) py _ cy (limbs y) _ HMx.out.natIn HMy.out.natIn HLX.out HLY.out (by omega) (by omega)).mono ?_
          rintro e w3 ⟨p3, c3, p4, c4, rfl, hb3, hm3, hm4⟩
          rw [val_limbs, val_limbs, rmd_pos hyp.out] at hm4
          rw [val_limbs, val_limbs, rmd_pos hyp.out]
          have HM4 := Lib.hid (hm4.mono HBw.out.size)
          have HMy3 := Lib.hid (HMy.out.keep hb3)
          have HB3 := Lib.hid (HBw.out.trans (hb3.mono HBw.out.size))
          clear hb3 hm3 hm4 HMx HMy HBw
          go_wp2_with fail
          go_roundg (x % y)
          case measure => exact Nat.lt_of_lt_of_le (Nat.mod_lt _ hyp.out) HK.out
          case rel => exact ⟨y, x % y, _, _, _, _, _, _, rfl, rfl, HLY.out, rfl, HMy3.out, HM4.out, HB3.out, HI.out.div hyp.out, Nat.le_refl _⟩
  · have hc : ¬ cmp A B < 0 := by rw [cmp_neg]; exact hlt
    have HI0 : Hid (Gc M G A B) := ⟨by omega, by rw [HM.out]; exact Nat.le_max_left _ _, HG.out.symm⟩
    have HMx0 := HM1
    have HMy0 := HM2'
    clear hlt HM2' HM1 HA HB HG HM
    go_wp2_with fail
    go_loopg [0, 1] B (fun k av bv wr => ∃ (x y : Nat) (px : Option Addr) (cx nx : Nat) (py : Option Addr) (cy ny : Nat), av = .slice px nx cx ∧ bv = .slice py ny cy ∧ (limbs x).length = nx ∧ (limbs y).length = ny ∧
        Mine w.heap.size wr px cx (limbs x) ∧ Mine w.heap.size wr py cy (limbs y) ∧ Below w.heap.size w wr ∧ Gc M G x y ∧ y ≤ k)
    case atStart => exact ⟨A, B, _, _, _, _, _, _, rfl, rfl, rfl, rfl, HMx0.out, HMy0.out, HB3.out, HI0.out, Nat.le_refl _⟩
    case round =>
      obtain ⟨x, y, px, cx, nx, py, cy, ny, rfl, rfl, hlx, hly, hMx, hMy, hB, hI, hk⟩ := hrel
      have HMx := Lib.hid hMx
      have HMy := Lib.hid hMy
      have HBw := Lib.hid hB
      have HI := Lib.hid hI
      have hxl := len_le HML.out hI.top
      have hyl := len_le HML.out (Nat.le_trans hI.le hI.top)
      rw [hlx] at hxl
      rw [hly] at hyl
      have HLX := Lib.hid hlx
      have HLY := Lib.hid hly
      have HK := Lib.hid hk
      clear hMx hMy hB hI hlx hly hk
      by_cases h0 : y = 0
      · have hz : Hid (x = G) := by have := HI.out.gcd; rw [h0, Nat.gcd_zero_right] at this; exact this
        have hn0 : ny = 0 := by rw [← HLY.out, h0, limbs_zero]; rfl
        subst hn0
        clear h0
        go_wp2_with fail
        go_ret
        have hm := HMx.out
        rw [hz.out] at hm
        exact ⟨px, cx, by rw [← HLX.out, hz.out]; rfl, HBw.out, hm⟩
      · have hyp : Hid (0 < y) := Nat.pos_of_ne_zero h0
        have hn0 : 0 < ny := by
          rw [← HLY.out]
          apply Nat.pos_of_ne_zero
          intro h
          have h1 := val_limbs y
          rw [List.length_eq_zero_iff.1 h] at h1
          exact h0 h1.symm
        clear h0
        by_cases h1 : 1 < ny
        · have h31 : 31 ≤ nb x := Nat.le_trans (nb_two (by rw [HLY.out]; exact h1)) (nb_mono HI.out.le)
          have H31 := Lib.hid h31
          clear h31
          go_wp2_with fail
          refine (foreseen_ok px _ cx (limbs x) py _ cy (limbs y) _ HMx.out.natIn HMy.out.natIn HLX.out HLY.out (by omega) (by omega) (by rw [val_limbs, val_limbs]; exact HI.out.le) (by rw [val_limbs]; exact H31.out)).mono ?_
          rintro e w' ⟨⟨fm, fn, fx, fy, fz, fu, a1, b1, rfl, hbd, hf⟩, rfl⟩
          rw [val_limbs, val_limbs] at hf
          obtain ⟨g1, g2, g3, g4, gx0, gx1, gy0, gy1, gz0, gz1, gw0, gw1⟩ := hbd
          have HF := Lib.hid hf
          clear hf g1 g2 g3 g4
          by_cases hy0 : fy = 0
          · have e1 : (fy != 0) = false := by rw [bne_eq_false_iff_eq]; exact hy0
            clear hy0 gx0 gx1 gy0 gy1 gz0 gz1 gw0 gw1
            go_wp2_with fail
            refine (divide_ok px _ cx (limbs x) py _ cy (limbs y) _ HMx.out.natIn HMy.out.natIn HLX.out HLY.out (by omega) (by omega)).mono ?_
            rintro e w3 ⟨p3, c3, p4, c4, rfl, hb3, hm3, hm4⟩
            rw [val_limbs, val_limbs, rmd_pos hyp.out] at hm4
            rw [val_limbs, val_limbs, rmd_pos hyp.out]
            have HM4 := Lib.hid (hm4.mono HBw.out.size)
            have HMy3 := Lib.hid (HMy.out.keep hb3)
            have HB3 := Lib.hid (HBw.out.trans (hb3.mono HBw.out.size))
            clear hb3 hm3 hm4 HMx HMy HBw
            go_wp2_with fail
            go_roundg (x % y)
            case measure => exact Nat.lt_of_lt_of_le (Nat.mod_lt _ hyp.out) HK.out
            case rel => exact ⟨y, x % y, _, _, _, _, _, _, rfl, rfl, HLY.out, rfl, HMy3.out, HM4.out, HB3.out, HI.out.div hyp.out, Nat.le_refl _⟩
          · have e1 : (fy != 0) = true := by rw [bne_iff_ne]; exact hy0
            have hless := HF.out.less hy0
            have hb0 := HF.out.b0
            have hle1 := HF.out.le
            have htop := HF.out.top
            have HA1 : Hid (((a1.toNat : Nat) : Int) = fx * (x : Int) + fy * (y : Int)) := by
              show _ = _
              rw [← HF.out.ha]; omega
            have HB1 : Hid (((b1.toNat : Nat) : Int) = fz * (x : Int) + fu * (y : Int)) := by
              show _ = _
              rw [← HF.out.hb]; omega
            have hG1 : Nat.gcd a1.toNat b1.toNat = G := by
              have h3 := HF.out.gcd
              have e3 : ((a1.toNat : Nat) : Int) = a1 := by omega
              have e4 : ((b1.toNat : Nat) : Int) = b1 := by omega
              rw [← e3, ← e4, HI.out.gcd] at h3
              rw [Int.gcd_natCast_natCast] at h3; exact h3
            have HG1 := Lib.hid hG1
            obtain ⟨x1, hx1⟩ : ∃ x1, x1 = a1.toNat := ⟨_, rfl⟩
            obtain ⟨y1, hy1⟩ : ∃ y1, y1 = b1.toNat := ⟨_, rfl⟩
            have hxx : Hid (x1 ≤ x) := show x1 ≤ x by omega
            have hyy : Hid (y1 < y) := show y1 < y by omega
            have hyx : Hid (y1 ≤ x1) := show y1 ≤ x1 by omega
            rw [← hx1] at HA1 HG1
            rw [← hy1] at HB1 HG1
            clear hy0 hless hb0 hle1 htop hG1 hx1 hy1 HF
            have hxb : x < bp (max nx ny + 1) := lt_bp_of (by rw [HLX.out]; omega)
            have HXB := Lib.hid hxb
            clear hxb
            go_wp2_with fail
            refine (combine_ok px _ cx (limbs x) py _ cy (limbs y) fx fy x1 _ HMx.out.natIn HMy.out.natIn HLX.out HLY.out (by omega) (by omega) gx0 gx1 gy0 gy1 (by rw [val_limbs, val_limbs]; exact HA1.out) (Nat.lt_of_le_of_lt hxx.out HXB.out)).mono ?_
            rintro e w4 ⟨p4, c4, rfl, hb4, hm4⟩
            have HM4 := Lib.hid (hm4.mono HBw.out.size)
            have HMx4 := Lib.hid (HMx.out.keep hb4)
            have HMy4 := Lib.hid (HMy.out.keep hb4)
            have HB4 := Lib.hid (HBw.out.trans (hb4.mono HBw.out.size))
            clear hb4 hm4 HMx HMy HBw
            go_wp2_with fail
            refine (combine_ok px _ cx (limbs x) py _ cy (limbs y) fz fu y1 _ HMx4.out.natIn HMy4.out.natIn HLX.out HLY.out (by omega) (by omega) gz0 gz1 gw0 gw1 (by rw [val_limbs, val_limbs]; exact HB1.out) (Nat.lt_of_le_of_lt (Nat.le_trans hyx.out hxx.out) HXB.out)).mono ?_
            rintro e w5 ⟨p5, c5, rfl, hb5, hm5⟩
            have HM5 := Lib.hid (hm5.mono HB4.out.size)
            have HM45 := Lib.hid (HM4.out.keep hb5)
            have HB5 := Lib.hid (HB4.out.trans (hb5.mono HB4.out.size))
            clear hb5 hm5 HMx4 HMy4 HM4 HB4
            go_wp2_with fail
            go_roundg y1
            case measure => exact Nat.lt_of_lt_of_le hyy.out HK.out
            case rel => exact ⟨x1, y1, _, _, _, _, _, _, rfl, rfl, rfl, rfl, HM45.out, HM5.out, HB5.out, ⟨hyx.out, Nat.le_trans hxx.out HI.out.top, HG1.out⟩, Nat.le_refl _⟩
        · go_wp2_with fail
          refine (divide_ok px _ cx (limbs x) py _ cy (limbs y) _ HMx.out.natIn HMy.out.natIn HLX.out HLY.out (by omega) (by omega)).mono ?_
          rintro e w3 ⟨p3, c3, p4, c4, rfl, hb3, hm3, hm4⟩
          rw [val_limbs, val_limbs, rmd_pos hyp.out] at hm4
          rw [val_limbs, val_limbs, rmd_pos hyp.out]
          have HM4 := Lib.hid (hm4.mono HBw.out.size)
          have HMy3 := Lib.hid (HMy.out.keep hb3)
          have HB3 := Lib.hid (HBw.out.trans (hb3.mono HBw.out.size))
          clear hb3 hm3 hm4 HMx HMy HBw
          go_wp2_with fail
          go_roundg (x % y)
          case measure => exact Nat.lt_of_lt_of_le (Nat.mod_lt _ hyp.out) HK.out
          case rel => exact ⟨y, x % y, _, _, _, _, _, _, rfl, rfl, HLY.out, rfl, HMy3.out, HM4.out, HB3.out, HI.out.div hyp.out, Nat.le_refl _⟩
end Go.Proofs.YtfdjlkffhikaeaaDoor
