/- natural.root and natural.Root. -/
import Derived.Test.YtfdjlkffhikaeaaDoorRootM
import Derived.Test.YtfdjlkffhikaeaaDoorRaise
import Derived.Test.YtfdjlkffhikaeaaDoorDown
import Derived.Test.YtfdjlkffhikaeaaDoorUp
import Derived.Test.YtfdjlkffhikaeaaDoorAdd
import Derived.Test.YtfdjlkffhikaeaaDoorMul
import Derived.Test.YtfdjlkffhikaeaaDoorDiv
import Derived.Test.YtfdjlkffhikaeaaDoorRefB
import Derived.Deep.LoopGhost
import Derived.Outline
namespace Go.Proofs.YtfdjlkffhikaeaaDoor
open Go.RowKit Nt

/-- What a root returns. -/
def RetRoot (n k : Nat) (w : World) (e : Ending) (w' : World) : Prop := ∃ r, IsRoot r n k ∧ RetNat r w e w'

theorem len_pow {b k N : Nat} (hb : b ≤ 256) (hk : 8 * k ≤ 32 * N) : (limbs (b ^ k + b + 1)).length ≤ N + 2 := by
  apply limbs_length_le
  have h1 : b ^ k ≤ 256 ^ k := Nat.pow_le_pow_left hb k
  have h2 : (256 : Nat) ^ k = 2 ^ (8 * k) := by rw [show (256 : Nat) = 2 ^ 8 from rfl, ← Nat.pow_mul]
  have h3 : 2 ^ (8 * k) ≤ 2 ^ (32 * N) := Nat.pow_le_pow_right (by omega) hk
  rw [bp_two_pow, show 32 * (N + 2) = 32 * N + 64 by omega, Nat.pow_add]
  have h4 : 1 ≤ 2 ^ (32 * N) := Nat.two_pow_pos _
  have h5 : 2 ^ (32 * N) * 2 ^ 64 ≥ 2 ^ (32 * N) * 258 := Nat.mul_le_mul_left _ (by omega)
  omega

set_option maxRecDepth 100000 in
set_option maxHeartbeats 4000000 in
theorem root_any (k : Nat) (hk2 : 2 ≤ k) (hk : k ≤ 1024) (v : Nat) : ∀ (p : Option Addr) (n c : Nat) (l : List Nat) (w : World), NatIn w p c l → l.length = n → n ≤ 1000000 → val l = v → v ≠ 0 →
    Calls Tryd.prog 57 #[.slice p n c, .int .i64 (k : Int)] w (RetRoot v k w) := by
  induction v using Nat.strongRecOn with
  | _ v ih =>
  intro p n c l w h hn hs hv hv0
  subst hn
  have IH := Lib.hid ih
  have H := Lib.hid h
  have HV := Lib.hid hv
  have HV0 := Lib.hid hv0
  obtain ⟨b, hb⟩ : ∃ b, b = nb v := ⟨_, rfl⟩
  have hbn : b ≤ 32000000 := by rw [hb, ← hv]; have := nb_len (limbs_length_val_le h.lim); omega
  obtain ⟨wd, hwd⟩ : ∃ wd, wd = (b + k - 1) / k := ⟨_, rfl⟩
  have hwi : ((b : Int) + (k : Int) - 1) / (k : Int) = (wd : Int) := by
    rw [hwd, Int.natCast_ediv]; congr 1; omega
  have hwb : wd ≤ 32000000 := by
    rw [hwd]
    have : (b + k - 1) / k ≤ (b + k - 1) / 2 := Nat.div_le_div_left (by omega) (by omega)
    omega
  have HB := Lib.hid hb
  have HWD := Lib.hid hwd
  clear h hv hv0 ih hb hwd
  go_enter Tryd.func57, Tryd.ntmps57
  go_wp2_with fail
  go_step3
  go_wp2_with fail
  refine (bits_ok p _ c l _ H.out rfl (by omega)).mono ?_
  rintro e w' ⟨rfl, rfl⟩
  rw [HV.out, ← HB.out]
  by_cases hw8 : wd ≤ 8
  · have hw8i : (wd : Int) ≤ 8 := by omega
    have hw0 : (0 : Int) ≤ (wd : Int) := by omega
    go_wp2_with fail
    rw [hwi]
    obtain ⟨T, hT⟩ : ∃ T, T = 2 ^ wd := ⟨_, rfl⟩
    have hTb : T ≤ 256 := by rw [hT]; exact Nat.pow_le_pow_right (by omega) hw8
    have hTi : (2 : Int) ^ wd = (T : Int) := by rw [hT, Int.natCast_pow]; rfl
    have hT1 : 1 ≤ T := by rw [hT]; exact Nat.two_pow_pos _
    have hup : Hid (v < T ^ k) := by
      show v < T ^ k
      rw [hT, HWD.out, HB.out]
      exact wide_up (by omega)
    have HTd := Lib.hid hT
    clear hT
    go_quiet (fail)
    go_wp2_with fail
    have hT2 : 1 < T := by
      rcases Nat.lt_or_ge 1 T with h | h
      · exact h
      · obtain rfl : T = 1 := by omega
        have h3 := hup.out
        rw [Nat.one_pow] at h3
        have := HV0.out
        omega
    have HH0 := Lib.hid (H.out.drewN nq)
    have HBl0 := Lib.hid (below_drewN (Below.refl w.heap.size w) nq)
    have hv1 : Hid (1 ^ k ≤ v) := by
      show 1 ^ k ≤ v
      rw [Nat.one_pow]
      exact Nat.pos_of_ne_zero HV0.out
    clear hTi hT1
    go_loopg [6, 7] (T + 1) (fun gk fv tv wr => ∃ (f t : Nat), fv = .int .u64 f ∧ tv = .int .u64 t ∧ 1 ≤ f ∧ f < t ∧ t ≤ 256 ∧ f ^ k ≤ v ∧ v < t ^ k ∧ Below w.heap.size w wr ∧ NatIn wr p c l ∧ t - f < gk)
    case atStart => exact ⟨1, T, rfl, rfl, by omega, hT2, hTb, hv1.out, hup.out, HBl0.out, HH0.out, by omega⟩
    case round =>
      obtain ⟨f, t, rfl, rfl, hf1, hft, ht, hfv, htv, hB, hN, hgk⟩ := hrel
      have HF := Lib.hid hfv
      have HT := Lib.hid htv
      have HBl := Lib.hid hB
      have HN := Lib.hid hN
      have HGK := Lib.hid hgk
      clear hfv htv hB hN hgk hup hv1 HH0 HBl0 HTd
      by_cases h1 : 1 < t - f
      · obtain ⟨m, hm⟩ : ∃ m, m = (f + t) / 2 := ⟨_, rfl⟩
        have hmi : ((f : Int) + (t : Int)) / 2 = (m : Int) := by omega
        have hm1 : f < m := by omega
        have hm2 : m < t := by omega
        have hgt : (1 : Int) < (t : Int) - (f : Int) := by omega
        clear hm
        go_wp2_with fail
        refine (fromUint_ok m (by omega) _).mono ?_
        rintro e w3 ⟨p3, c3, rfl, hb3, hm3⟩
        have HM3 := Lib.hid hm3
        have HB3 := Lib.hid (HBl.out.trans (hb3.mono HBl.out.size))
        have HN3 := Lib.hid (HN.out.keep hb3)
        have hml : (limbs m).length ≤ 1 := limbs_length_le (by rw [show bp 1 = 4294967296 from rfl]; omega)
        clear hb3 hm3
        go_wp2_with fail
        refine (raise_ok p3 _ c3 (limbs m) k _ HM3.out.natIn rfl (by omega) (by omega) (by rw [val_limbs]; exact Nat.le_trans (len_pow (N := 256) (by omega) (by omega)) (by omega))).mono ?_
        rintro e w4 ⟨p4, c4, rfl, hb4, hm4⟩
        rw [val_limbs] at hm4 ⊢
        have HM4 := Lib.hid hm4
        have HB4 := Lib.hid (HB3.out.trans (hb4.mono HB3.out.size))
        have HN4 := Lib.hid (HN3.out.keep hb4)
        clear hb4 hm4 HM3
        go_wp2_with fail
        refine (cmp_ok p4 _ c4 (limbs (m ^ k)) p _ c l _ HM4.out.natIn HN4.out rfl rfl).mono ?_
        rintro e w5 ⟨rfl, hb5⟩
        rw [val_limbs, HV.out]
        have HB5 := Lib.hid (HB4.out.trans (hb5.mono HB4.out.size))
        have HN5 := Lib.hid (HN4.out.keep hb5)
        clear hb5 HM4
        by_cases hle : m ^ k ≤ v
        · have hc : cmp (m ^ k) v ≤ 0 := by
            have := @cmp_pos (m ^ k) v
            omega
          have HLE := Lib.hid hle
          clear hle
          go_wp2_with fail
          go_roundg (t - f)
          case measure => exact HGK.out
          case rel => exact ⟨m, t, rfl, rfl, by omega, hm2, ht, HLE.out, HT.out, HB5.out, HN5.out, by omega⟩
        · have hc : ¬ cmp (m ^ k) v ≤ 0 := by
            have := @cmp_pos (m ^ k) v
            omega
          have HLE : Hid (v < m ^ k) := (by omega : v < m ^ k)
          clear hle
          go_wp2_with fail
          go_roundg (t - f)
          case measure => exact HGK.out
          case rel => exact ⟨f, m, rfl, rfl, hf1, by omega, by omega, HF.out, HLE.out, HB5.out, HN5.out, by omega⟩
      · obtain rfl : t = f + 1 := by omega
        have hng : ¬ (1 : Int) < ((f + 1 : Nat) : Int) - (f : Int) := by omega
        go_wp2_with fail
        refine (fromUint_ok f (by omega) _).mono ?_
        rintro e w3 hR
        have HR := Lib.hid hR
        obtain ⟨p3, c3, rfl, hb3, hm3⟩ := hR
        go_wp2_with fail
        rw [Exit.noGoto_ret]
        go_ret
        exact ⟨f, ⟨HF.out, HT.out⟩, HR.out.behind HBl.out⟩
  · have hw9 : 9 ≤ wd := by omega
    obtain ⟨s, hs2⟩ : ∃ s, s = wd / 2 := ⟨_, rfl⟩
    have hsi : (wd : Int) / 2 = (s : Int) := by omega
    have hlow := wide_low (n := v) (k := k) (s := s) (by omega) HV0.out (by rw [← HB.out, ← HWD.out]; exact hs2) (by omega)
    rw [← HB.out] at hlow
    obtain ⟨P, hP⟩ : ∃ P, P = s * k := ⟨_, rfl⟩
    have hPi : (s : Int) * (k : Int) = (P : Int) := by rw [hP, Int.natCast_mul]
    rw [← hP] at hlow
    have hPb := hlow.1
    have HPp := Lib.hid hlow.2
    have HPd := Lib.hid hP
    have hsb : s ≤ 16000000 := by omega
    have hs4 : 4 ≤ s := by omega
    clear hP hlow hs2
    go_wp2_with fail
    refine (down_ok p _ c l P _ H.out rfl (by omega) (by omega)).mono ?_
    rintro e w1 ⟨p1, c1, rfl, hb1, hm1⟩
    rw [HV.out] at hm1 ⊢
    have hdl : (limbs (v / 2 ^ P)).length ≤ 1000000 := len_le (a := v) (by rw [← HV.out]; have := limbs_length_val_le H.out.lim; omega) (Nat.div_le_self _ _)
    have hlt : v / 2 ^ P < v := Nat.div_lt_self (Nat.pos_of_ne_zero HV0.out) (by
      have h3 : 1 ≤ P := by rw [HPd.out]; exact Nat.mul_pos (by omega) (by omega)
      exact Nat.lt_of_lt_of_le (by omega : 1 < 2 ^ 1) (Nat.pow_le_pow_right (by omega) h3))
    obtain ⟨v1, hv1⟩ : ∃ v1, v1 = v / 2 ^ P := ⟨_, rfl⟩
    rw [← hv1] at hm1 hdl hlt HPp ⊢
    have HV1 := Lib.hid hv1
    have HM1 := Lib.hid hm1
    have HB1 := Lib.hid hb1
    have hs1 := hb1.size
    clear hv1 hm1 hb1
    go_wp2_with fail
    refine (IH.out v1 hlt p1 _ c1 (limbs v1) _ HM1.out.natIn rfl hdl (val_limbs _) (by have := HPp.out; omega)).mono ?_
    rintro e w2 ⟨r0, hr0, p2, c2, rfl, hb2, hm2⟩
    have HR0 := Lib.hid hr0
    have HM2 := Lib.hid hm2
    have HB2 := Lib.hid (HB1.out.trans (hb2.mono hs1))
    have hs22 := HB2.out.size
    clear hr0 hm2 hb2 hlt hdl
    go_wp2_with fail
    have h1 := natIn_new w2 (cs := #[.int .u32 1]) (L := [1]) (n := 1) (by simp [limbV]) (lim_cons (by omega) lim_nil) rfl (by omega)
    have hr0l : (limbs r0).length ≤ 1000000 := by
      have h3 := HR0.out.1
      rw [HV1.out] at h3
      have h4 : r0 ^ 1 ≤ r0 ^ k := Nat.pow_le_pow_right (HR0.out.pos (by have := HPp.out; omega)) (by omega)
      rw [Nat.pow_one] at h4
      have h5 := Nat.div_le_self v (2 ^ P)
      exact len_le (a := v) (by rw [← HV.out]; have := limbs_length_val_le H.out.lim; omega) (by omega)
    refine (add_ok p2 _ c2 (limbs r0) _ 1 1 [1] _ (HM2.out.natIn.keep (below_new _ _)) h1 rfl rfl (by omega) (by simp)).mono ?_
    rintro e w3 ⟨p3, c3, rfl, hb3, hm3⟩
    rw [val_limbs, val_one] at hm3 ⊢
    have hb3' : Below w2.heap.size w2 w3 := (below_new _ _).trans (hb3.mono (by simp))
    have hr1l : (limbs (r0 + 1)).length ≤ 1000001 := len_add hr0l hsI (by omega) (by omega)
    have HB3 := Lib.hid (HB2.out.trans (hb3'.mono hs22))
    have HM3 := Lib.hid hm3
    have hs3 := HB3.out.size
    clear hb3 hm3 hb3' h1 hr0l
    go_wp2_with fail
    refine (up_ok p3 _ c3 (limbs (r0 + 1)) s _ HM3.out.natIn rfl (by omega) (by omega)).mono ?_
    rintro e w4 ⟨p4, c4, rfl, hb4, hm4⟩
    rw [val_limbs] at hm4 ⊢
    have HNw := Lib.hid (Nw.start (n := v) (k := k) (s := s) (by rw [← HPd.out, ← HV1.out]; exact HR0.out) (HR0.out.pos (by have := HPp.out; omega)))
    obtain ⟨a0, ha0⟩ : ∃ a0, a0 = (r0 + 1) * 2 ^ s := ⟨_, rfl⟩
    obtain ⟨M, hM⟩ : ∃ M, M = 2 ^ k * v := ⟨_, rfl⟩
    rw [← ha0, ← hM] at HNw
    rw [← ha0] at hm4 ⊢
    have hMl : (limbs M).length ≤ 1000032 := by
      apply limbs_length_le
      have h3 : v < bp 1000000 := lt_bp_of (by rw [← HV.out]; have := limbs_length_val_le H.out.lim; omega)
      have h4 : 2 ^ k ≤ bp 32 := pow_bp (by omega)
      rw [show 1000032 = 32 + 1000000 from rfl, bp_add, hM]
      have h5 : 2 ^ k * v ≤ bp 32 * v := Nat.mul_le_mul_right _ h4
      have h6 : bp 32 * v < bp 32 * bp 1000000 := Nat.mul_lt_mul_of_pos_left h3 (bp_pos 32)
      omega
    have HML := Lib.hid hMl
    have HB4 := Lib.hid (HB3.out.trans (hb4.mono hs3))
    have HM4 := Lib.hid (hm4.mono hs3)
    have hs4' := HB4.out.size
    clear hMl hM ha0 hb4 hm4 HM3 hr1l
    obtain ⟨k1, hk1⟩ : ∃ k1, k1 = k - 1 := ⟨_, rfl⟩
    have hk1i : (k : Int) - 1 = (k1 : Int) := by omega
    have hk1b : k1 ≤ 1023 := by omega
    have HK1 := Lib.hid hk1
    clear hk1
    go_wp2_with fail
    refine (fromUint_ok k (by omega) _).mono ?_
    rintro e w5 ⟨pd, cd, rfl, hb5, hm5⟩
    have HB5 := Lib.hid (HB4.out.trans (hb5.mono hs4'))
    have HM45 := Lib.hid (HM4.out.keep hb5)
    have HD5 := Lib.hid hm5.natIn
    have hs5 := HB5.out.size
    clear hb5 hm5 HM4
    go_wp2_with fail
    refine (fromUint_ok k1 (by omega) _).mono ?_
    rintro e w6 ⟨pe, ce, rfl, hb6, hm6⟩
    have HB6 := Lib.hid (HB5.out.trans (hb6.mono hs5))
    have HM46 := Lib.hid (HM45.out.keep hb6)
    have HD6 := Lib.hid (HD5.out.keep hb6)
    have HE6 := Lib.hid hm6.natIn
    have HN6 := Lib.hid (H.out.keep HB6.out)
    have hs6 := HB6.out.size
    have hkl : (limbs k).length ≤ 1 := limbs_length_le (by rw [show bp 1 = 4294967296 from rfl]; omega)
    have hk1l : (limbs k1).length ≤ 1 := limbs_length_le (by rw [show bp 1 = 4294967296 from rfl]; omega)
    clear hb6 hm6 HM45 HD5 HB5 HB4 HB3 HB2 HB1 HM2 HM1
    go_wp2_with fail
    go_step3
    go_wp2_with fail
    go_loopg [9] (a0 + 1) (fun gk av wr => ∃ (a : Nat) (pa : Option Addr) (ca na : Nat), av = .slice pa na ca ∧ (limbs a).length = na ∧ Mine w.heap.size wr pa ca (limbs a) ∧ Below w6.heap.size w6 wr ∧ Nw v k M a ∧ a < gk)
    case atStart => exact ⟨a0, _, _, _, rfl, rfl, HM46.out, Below.refl _ _, HNw.out, by omega⟩
    case round =>
      obtain ⟨a, pa, ca, na, rfl, hna, hMa, hBa, hNw, hgk⟩ := hrel
      have hsz := hNw.sizes (by omega)
      have hal := len_le HML.out hsz.1
      have hapl := len_le HML.out hsz.2
      rw [← HK1.out] at hapl
      rw [hna] at hal
      have hapos := hNw.pos
      have HNA := Lib.hid hna
      have HMa := Lib.hid hMa
      have HBa := Lib.hid hBa
      have HNW := Lib.hid hNw
      have HGK := Lib.hid hgk
      have HDw := Lib.hid (HD6.out.keep hBa)
      have HEw := Lib.hid (HE6.out.keep hBa)
      have HNw6 := Lib.hid (HN6.out.keep hBa)
      have hsw := hBa.size
      clear hna hMa hBa hNw hgk hsz
      go_wp2_with fail
      refine (raise_ok pa _ ca (limbs a) k1 _ HMa.out.natIn HNA.out (by omega) (by omega) (by
        rw [val_limbs]
        exact Nat.le_trans (len_add (i := 1000033) (j := 1) (k := 1000034) (len_add (i := 1000032) (j := 1000032) hapl (by rw [HNA.out]; exact hal) (by omega) (by omega)) hsI (by omega) (by omega)) (by omega))).mono ?_
      rintro e w7 ⟨p7, c7, rfl, hb7, hm7⟩
      rw [val_limbs] at hm7 ⊢
      have HM7 := Lib.hid hm7
      have HMa7 := Lib.hid (HMa.out.keep hb7)
      have HB7 := Lib.hid (HBa.out.trans (hb7.mono hsw))
      have HD7 := Lib.hid (HDw.out.keep hb7)
      have HE7 := Lib.hid (HEw.out.keep hb7)
      have HN7 := Lib.hid (HNw6.out.keep hb7)
      have hs7 := HB7.out.size
      have happ : Hid (0 < a ^ k1) := Nat.pow_pos hapos
      clear hb7 hm7 HMa HDw HEw HNw6
      go_wp2_with fail
      refine (divide_ok p _ c l p7 _ c7 (limbs (a ^ k1)) _ HN7.out HM7.out.natIn rfl rfl (by omega) (by omega)).mono ?_
      rintro e w8 hR
      rw [val_limbs, HV.out, posB_true happ.out, rmd_pos happ.out] at hR
      have hvl : (limbs v).length ≤ 1000000 := by rw [← HV.out]; have := limbs_length_val_le H.out.lim; omega
      obtain ⟨q, p8, c8, r8, p8', c8', hq, hr8, rfl, hb8, hn8, hn8', hql, hrl⟩ := hR.word (k := 1000000) (j := 1000000) (len_le hvl (Nat.div_le_self _ _)) (len_le hvl (Nat.mod_le _ _))
      have HQ := Lib.hid hq
      have HN8 := Lib.hid hn8
      have HMa8 := Lib.hid (HMa7.out.keep hb8)
      have HB8 := Lib.hid (HB7.out.trans (hb8.mono hs7))
      have HD8 := Lib.hid (HD7.out.keep hb8)
      have HE8 := Lib.hid (HE7.out.keep hb8)
      have hs8 := HB8.out.size
      clear hq hr8 hb8 hn8 hn8' hR HM7 HMa7 HD7 HE7 HN7
      go_wp2_with fail
      refine (mul_ok pe _ ce (limbs k1) pa _ ca (limbs a) _ HE8.out HMa8.out.natIn rfl HNA.out (by omega) (by omega)).mono ?_
      rintro e w9 hR
      rw [val_limbs, val_limbs] at hR
      obtain ⟨ka, p9, c9, hka, rfl, hb9, hn9, hkal⟩ := hR.word (k := 1000033) (len_mul hk1l (by rw [HNA.out]; exact hal) (by omega))
      have HKA := Lib.hid hka
      have HN9 := Lib.hid hn9
      have HN89 := Lib.hid (HN8.out.keep hb9)
      have HMa9 := Lib.hid (HMa8.out.keep hb9)
      have HB9 := Lib.hid (HB8.out.trans (hb9.mono hs8))
      have HD9 := Lib.hid (HD8.out.keep hb9)
      have hs9 := HB9.out.size
      clear hka hb9 hn9 hR HN8 HMa8 HD8 HE8
      go_wp2_with fail
      refine (add_ok p9 _ c9 (limbs ka) p8 _ c8 (limbs q) _ HN9.out HN89.out rfl rfl (by omega) (by omega)).mono ?_
      rintro e w10 hR
      rw [val_limbs, val_limbs] at hR
      obtain ⟨su, p10, c10, hsu, rfl, hb10, hn10, hsul⟩ := hR.word (k := 1000034) (len_add hkal hql (by omega) (by omega))
      have HSU := Lib.hid hsu
      have HN10 := Lib.hid hn10
      have HMa10 := Lib.hid (HMa9.out.keep hb10)
      have HB10 := Lib.hid (HB9.out.trans (hb10.mono hs9))
      have HD10 := Lib.hid (HD9.out.keep hb10)
      have hs10 := HB10.out.size
      clear hsu hb10 hn10 hR HN9 HN89 HMa9 HD9
      have hkp : Hid (0 < k) := (by omega : 0 < k)
      go_wp2_with fail
      refine (divide_ok p10 _ c10 (limbs su) pd _ cd (limbs k) _ HN10.out HD10.out rfl rfl (by omega) (by omega)).mono ?_
      rintro e w11 ⟨p11, c11, p12, c12, rfl, hb11, hm11, hm12⟩
      rw [val_limbs, val_limbs] at hm11 ⊢
      obtain ⟨nx, hnx⟩ : ∃ nx, nx = su / k := ⟨_, rfl⟩
      rw [← hnx] at hm11 ⊢
      have hnxe : Hid (nx = ((k - 1) * a + v / a ^ (k - 1)) / k) := by
        show nx = _
        rw [hnx, HSU.out, HKA.out, HQ.out, HK1.out]
      have hszw := Nat.le_trans hs6 hs10
      have HM11 := Lib.hid (hm11.mono hszw)
      have HMa11 := Lib.hid (HMa10.out.keep hb11)
      have HB11 := Lib.hid (HB10.out.trans (hb11.mono hs10))
      have hs11 := HB11.out.size
      clear hm11 hm12 hb11 hnx HN10 HMa10 HD10
      go_wp2_with fail
      refine (cmp_ok p11 _ c11 (limbs nx) pa _ ca (limbs a) _ HM11.out.natIn HMa11.out.natIn rfl HNA.out).mono ?_
      rintro e w13 ⟨rfl, hb13⟩
      rw [val_limbs, val_limbs]
      have HM13 := Lib.hid (HM11.out.keep hb13)
      have HMa13 := Lib.hid (HMa11.out.keep hb13)
      have HB13 := Lib.hid (HB11.out.trans (hb13.mono hs11))
      clear hb13 HM11 HMa11 HB11 HB10 HB9 HB8 HB7 HBa
      by_cases hlt : nx < a
      · have hst := HNW.out.step (by omega) (Nat.pos_of_ne_zero HV0.out) hnxe.out hlt
        rw [cmp_lt hlt]
        have HST := Lib.hid hst
        have HLT := Lib.hid hlt
        clear hst hlt
        go_wp2_with fail
        go_roundg a
        case measure => exact HGK.out
        case rel => exact ⟨nx, _, _, _, rfl, rfl, HM13.out, HB13.out, HST.out, HLT.out⟩
      · have hcn : ¬ cmp nx a < 0 := by rw [cmp_neg]; exact hlt
        have hst := HNW.out.stop (by omega) hnxe.out (by omega)
        have HST := Lib.hid hst
        clear hst hlt
        go_wp2_with fail
        rw [Exit.noGoto_ret]
        go_ret
        exact ⟨a, HST.out, pa, ca, by rw [← HNA.out]; rfl, HB6.out.trans (HB13.out.mono hs6), HMa13.out⟩
end Go.Proofs.YtfdjlkffhikaeaaDoor
