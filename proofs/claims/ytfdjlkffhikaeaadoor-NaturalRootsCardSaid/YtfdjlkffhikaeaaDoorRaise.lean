/- Powers: the reference's Raise. -/
import Derived.Test.YtfdjlkffhikaeaaDoorWord
import Derived.Test.YtfdjlkffhikaeaaDoorShelf
import Derived.Test.YtfdjlkffhikaeaaDoorMul
namespace Go.Proofs.YtfdjlkffhikaeaaDoor
open Go.RowKit Nt

theorem one_own (w : World) : Mine w.heap.size (w.alloc (.cells #[.int .u32 1] 35)) (some ⟨w.heap.size, 0, none⟩) 1 (limbs 1) := by
  rw [limbs_one (by omega) (by omega)]
  exact (own_new w (cs := #[.int .u32 1]) (L := [1]) (by simp [limbV])).mine (Nat.le_refl _) (lim_cons (by omega) lim_nil) (by simp)

theorem len_one : (limbs 1).length = 1 := by rw [limbs_one (by omega) (by omega)]; rfl

/-- The loop's law: x * y ^ j stays; both stay below M. -/
structure Pw (T M x y j : Nat) : Prop where
  e : x * y ^ j = T
  hx : x ≤ M
  hy : y ≤ M
  pos : y = 0 ∨ 1 ≤ x

theorem Pw.odd {T M x y j : Nat} (h : Pw T M x y j) (hT : T ≤ M) (hj : j % 2 = 1) : x * y ≤ M := by
  rcases Nat.eq_zero_or_pos y with rfl | hy
  · simp
  · have h1 : x * y ^ j = T := h.e
    obtain ⟨i, rfl⟩ : ∃ i, j = i + 1 := ⟨j - 1, by omega⟩
    rw [Nat.pow_succ, Nat.mul_comm (y ^ i), ← Nat.mul_assoc] at h1
    have h2 : x * y * 1 ≤ x * y * y ^ i := Nat.mul_le_mul_left _ (Nat.pow_pos hy)
    omega
theorem sq_pow (y j : Nat) : (y * y) ^ (j / 2) * y ^ (j % 2) = y ^ j := by
  rw [← Nat.pow_two, ← Nat.pow_mul, ← Nat.pow_add]
  congr 1
  omega
theorem Pw.sq {T M x y j : Nat} (h : Pw T M x y j) (hT : T ≤ M) (hj : 2 ≤ j) : y * y ≤ M := by
  rcases h.pos with h0 | hx
  · rw [h0]; simp
  · rcases Nat.eq_zero_or_pos y with rfl | hy
    · simp
    · have h1 := h.e
      obtain ⟨i, rfl⟩ : ∃ i, j = i + 2 := ⟨j - 2, by omega⟩
      have h2 : y * y * 1 ≤ y * y * y ^ i := Nat.mul_le_mul_left _ (Nat.pow_pos hy)
      have h3 : y ^ (i + 2) = y * y * y ^ i := by rw [Nat.pow_add, Nat.pow_two, Nat.mul_comm]
      have h4 : 1 * y ^ (i + 2) ≤ x * y ^ (i + 2) := Nat.mul_le_mul_right _ hx
      omega
theorem Pw.step1 {T M x y j : Nat} (h : Pw T M x y j) (hT : T ≤ M) (hj : j % 2 = 1) (h2 : 2 ≤ j) : Pw T M (x * y) (y * y) (j / 2) := by
  refine ⟨?_, h.odd hT hj, h.sq hT h2, ?_⟩
  · have := sq_pow y j
    rw [hj, Nat.pow_one] at this
    rw [Nat.mul_assoc, Nat.mul_comm y, this]
    exact h.e
  · rcases h.pos with h0 | hx
    · left; rw [h0]
    · rcases Nat.eq_zero_or_pos y with rfl | hy
      · left; rfl
      · right; exact Nat.mul_pos hx hy
theorem Pw.step0 {T M x y j : Nat} (h : Pw T M x y j) (hT : T ≤ M) (hj : j % 2 = 0) (h2 : 2 ≤ j) : Pw T M x (y * y) (j / 2) := by
  refine ⟨?_, h.hx, h.sq hT h2, ?_⟩
  · have := sq_pow y j
    rw [hj, Nat.pow_zero, Nat.mul_one] at this
    rw [this]
    exact h.e
  · rcases h.pos with h0 | hx
    · left; rw [h0]
    · right; exact hx
theorem Pw.last {T M x y : Nat} (h : Pw T M x y 1) (hT : T ≤ M) : Pw T M (x * y) y 0 := by
  refine ⟨by have := h.e; rw [Nat.pow_one] at this; rw [Nat.pow_zero, Nat.mul_one]; exact this, h.odd hT rfl, h.hy, ?_⟩
  rcases h.pos with h0 | hx
  · left; exact h0
  · rcases Nat.eq_zero_or_pos y with rfl | hy
    · left; rfl
    · right; exact Nat.mul_pos hx hy

set_option maxRecDepth 100000 in
set_option maxHeartbeats 2000000 in
theorem rraise_ok (p : Option Addr) (n c : Nat) (l : List Nat) (k : Nat) (w : World) (h : NatIn w p c l) (hn : l.length = n) (hk : k ≤ 1000000000) (hs2 : n ≤ 100000000) (hs : (limbs (val l ^ k + val l + 1)).length ≤ 50000000) :
    Calls Tryd.prog 43 #[.slice p n c, .int .i64 (k : Int)] w (RetNat (val l ^ k) w) := by
  subst hn
  obtain ⟨v, hv⟩ : ∃ v, v = val l := ⟨_, rfl⟩
  rw [← hv] at hs ⊢
  obtain ⟨T, hT⟩ : ∃ T, T = v ^ k := ⟨_, rfl⟩
  rw [← hT] at hs ⊢
  obtain ⟨M, hM⟩ : ∃ M, M = T + v + 1 := ⟨_, rfl⟩
  rw [← hM] at hs
  have hTM : T ≤ M := by omega
  have hP0 : Pw T M 1 v k := ⟨by rw [hT, Nat.one_mul], by omega, by omega, .inr (Nat.le_refl _)⟩
  have HP0 := Lib.hid hP0
  have HV := Lib.hid hv
  have HS := Lib.hid hs
  have H1 := one_own w
  have hlen := h.keep (below_new w (.cells #[.int .u32 1] 35))
  have HL := Lib.hid hlen
  have HM1 := Lib.hid H1
  clear hP0 hM hT hs hlen H1 h hv
  go_enter Tryd.func43, Tryd.ntmps43
  go_wp2_with fail
  refine (rtrim_ok p _ c l _ HL.out rfl (by omega)).mono ?_
  rintro e w1 ⟨p1, c1, rfl, hb1, hm1⟩
  rw [← HV.out] at hm1 ⊢
  have hb := (below_new w (.cells #[.int .u32 1] 35)).trans (hb1.mono (by simp))
  have HB1 := Lib.hid hb
  have HN1 := Lib.hid hm1.natIn
  have HO1 := Lib.hid (HM1.out.keep hb1)
  clear hb1 hm1 hb HM1 HL
  go_wp2_with fail
  go_loopw [0, 1, 5] (fun nv kv ov wr => ∃ (j x y : Nat) (po : Option Addr) (co lo : Nat) (pn : Option Addr) (cn ln : Nat), j ≤ k ∧ kv = .int .i64 j ∧ ov = .slice po lo co ∧ nv = .slice pn ln cn ∧ (limbs x).length = lo ∧ (limbs y).length = ln ∧
      Mine w.heap.size wr po co (limbs x) ∧ NatIn wr pn cn (limbs y) ∧ Below w.heap.size w wr ∧ Pw T M x y j) (fun _ kv _ _ => (intOf kv).toNat)
  case atStart => exact ⟨k, 1, v, _, _, _, _, _, _, Nat.le_refl _, rfl, rfl, rfl, len_one, rfl, HO1.out, HN1.out, HB1.out, HP0.out⟩
  case round =>
    obtain ⟨j, x, y, po, co, lo, pn, cn, ln, hj, rfl, rfl, rfl, hlo, hln, hO, hN, hB, hP⟩ := hrel
    have HO := Lib.hid hO
    have HN := Lib.hid hN
    have HB := Lib.hid hB
    have HP := Lib.hid hP
    have hxl := len_le HS.out hP.hx
    have hyl := len_le HS.out hP.hy
    rw [hlo] at hxl
    rw [hln] at hyl
    have HLO := Lib.hid hlo
    have HLN := Lib.hid hln
    clear hO hN hB hP hlo hln
    by_cases h0 : j = 0
    · subst h0
      have hz : Hid (x = T) := by have := HP.out.e; rw [Nat.pow_zero, Nat.mul_one] at this; exact this
      go_wp2_with fail
      go_ret
      have hm := HO.out
      rw [hz.out] at hm
      exact ⟨po, co, by rw [← HLO.out, hz.out]; rfl, HB.out, hm⟩
    · have hjp : 0 < j := by omega
      by_cases ho : j % 2 = 1
      · have hodd : (((j : Int) % 2 == 1) = true) := by rw [beq_iff_eq]; omega
        have HOD := Lib.hid ho
        clear ho
        go_wp2_with fail
        refine (rmul_ok po _ co (limbs x) pn _ cn (limbs y) _ HO.out.natIn HN.out HLO.out HLN.out (by omega) (by omega)).mono ?_
        rintro e w2 ⟨p2, c2, rfl, hb2, hm2⟩
        rw [val_limbs, val_limbs] at hm2 ⊢
        obtain ⟨x2, hx2⟩ : ∃ x2, x2 = x * y := ⟨_, rfl⟩
        rw [← hx2] at hm2 ⊢
        have HX2 := Lib.hid hx2
        have HN2 := Lib.hid (HN.out.keep hb2)
        have HO2 := Lib.hid (hm2.mono HB.out.size)
        have HB2 := Lib.hid (HB.out.trans (hb2.mono HB.out.size))
        clear hx2 hb2 hm2 HN HO HB
        by_cases h2 : 2 ≤ j
        · have hgt : (0 : Int) < (j : Int) / 2 := by omega
          go_wp2_with fail
          refine (rmul_ok pn _ cn (limbs y) pn _ cn (limbs y) _ HN2.out HN2.out HLN.out HLN.out (by omega) (by omega)).mono ?_
          rintro e w3 ⟨p3, c3, rfl, hb3, hm3⟩
          rw [val_limbs] at hm3 ⊢
          have HN3 := Lib.hid hm3.natIn
          have HO3 := Lib.hid (HO2.out.keep hb3)
          have HB3 := Lib.hid (HB2.out.trans (hb3.mono HB2.out.size))
          clear hb3 hm3 HN2 HO2 HB2
          go_wp2_with fail
          go_roundw
          case rel => exact ⟨j / 2, x2, y * y, p2, c2, _, _, _, _, by omega, by go_num, rfl, rfl, rfl, rfl, HO3.out, HN3.out, HB3.out, by rw [HX2.out]; exact HP.out.step1 hTM HOD.out h2⟩
          case measure => simp [intOf]; omega
        · obtain rfl : j = 1 := by omega
          go_wp2_with fail
          go_roundw
          case rel => exact ⟨0, x2, y, p2, c2, _, _, _, _, by omega, by go_num, rfl, rfl, rfl, HLN.out, HO2.out, HN2.out, HB2.out, by rw [HX2.out]; exact HP.out.last hTM⟩
          case measure => simp [intOf]
      · have hev : (((j : Int) % 2 == 1) = false) := by rw [beq_eq_false_iff_ne]; omega
        have HEV : Hid (j % 2 = 0) := (by omega : j % 2 = 0)
        have h2 : 2 ≤ j := by omega
        clear ho
        have hgt : (0 : Int) < (j : Int) / 2 := by omega
        go_wp2_with fail
        refine (rmul_ok pn _ cn (limbs y) pn _ cn (limbs y) _ HN.out HN.out HLN.out HLN.out (by omega) (by omega)).mono ?_
        rintro e w3 ⟨p3, c3, rfl, hb3, hm3⟩
        rw [val_limbs] at hm3 ⊢
        have HN3 := Lib.hid hm3.natIn
        have HO3 := Lib.hid (HO.out.keep hb3)
        have HB3 := Lib.hid (HB.out.trans (hb3.mono HB.out.size))
        clear hb3 hm3 HN HO HB
        go_wp2_with fail
        go_roundw
        case rel => exact ⟨j / 2, x, y * y, po, co, _, _, _, _, by omega, by go_num, rfl, rfl, HLO.out, rfl, HO3.out, HN3.out, HB3.out, HP.out.step0 hTM HEV.out h2⟩
        case measure => simp [intOf]; omega

theorem and_one {x : Int} (h0 : 0 ≤ x) (h1 : x ≤ 4294967296) : Go.bits .and .i64 x 1 = x % 2 :=
  bits_mask .i64 63 (by decide) (fun n h0 h1 => IntWalk.i64_in n ⟨by omega, by omega⟩) 1 (by omega) x h0 (by omega)
theorem bit_of {k i : Nat} (hk : k ≤ 1000000000) : Go.bits .and .i64 ((k : Int) / 2 ^ i) 1 = ((k / 2 ^ i % 2 : Nat) : Int) := by
  have e : ((k : Int) / 2 ^ i) = ((k / 2 ^ i : Nat) : Int) := by push_cast; rfl
  have h1 : k / 2 ^ i ≤ k := Nat.div_le_self _ _
  rw [e]
  generalize k / 2 ^ i = m at h1 ⊢
  rw [and_one (by omega) (by omega)]
  omega
theorem pow_half {v k j : Nat} : v ^ (k / 2 ^ j) = v ^ (k / 2 ^ (j + 1)) * v ^ (k / 2 ^ (j + 1)) * v ^ (k / 2 ^ j % 2) := by
  rw [← Nat.pow_add, ← Nat.pow_add, Nat.pow_succ, ← Nat.div_div_eq_div_mul]
  congr 1
  omega
theorem pow_le_M {v k j T M : Nat} (hT : T = v ^ k) (hM : T + 1 ≤ M) : v ^ (k / 2 ^ j) ≤ M := by
  rcases Nat.eq_zero_or_pos v with rfl | hv
  · rcases Nat.eq_zero_or_pos (k / 2 ^ j) with h | h
    · rw [h, Nat.pow_zero]; omega
    · rw [Nat.zero_pow h]; omega
  · have := Nat.pow_le_pow_right hv (Nat.div_le_self k (2 ^ j))
    omega

set_option maxRecDepth 100000 in
set_option maxHeartbeats 2000000 in
theorem raise_ok (p : Option Addr) (n c : Nat) (l : List Nat) (k : Nat) (w : World) (h : NatIn w p c l) (hn : l.length = n) (hk : k ≤ 1000000000) (hs2 : n ≤ 100000000) (hs : (limbs (val l ^ k + val l + 1)).length ≤ 50000000) :
    Calls Tryd.prog 52 #[.slice p n c, .int .i64 (k : Int)] w (RetNat (val l ^ k) w) := by
  subst hn
  obtain ⟨v, hv⟩ : ∃ v, v = val l := ⟨_, rfl⟩
  rw [← hv] at hs ⊢
  obtain ⟨T, hT⟩ : ∃ T, T = v ^ k := ⟨_, rfl⟩
  rw [← hT] at hs ⊢
  obtain ⟨M, hM⟩ : ∃ M, M = T + v + 1 := ⟨_, rfl⟩
  rw [← hM] at hs
  have hTM : T + 1 ≤ M := by omega
  have HV := Lib.hid hv
  have HT := Lib.hid hT
  have HS := Lib.hid hs
  have H1 := one_own w
  have HL := Lib.hid h
  have HM1 := Lib.hid H1
  have hb := below_new w (.cells #[.int .u32 1] 35)
  have HB1 := Lib.hid hb
  clear hM hT hs H1 h hv hb
  go_enter Tryd.func52, Tryd.ntmps52
  go_wp2_with fail
  refine (Tryd.bits_Len _ _ (by omega) (by omega)).mono ?_
  rintro e w' ⟨rfl, rfl⟩
  rw [Int.toNat_natCast]
  obtain ⟨L, hL⟩ : ∃ L, L = Lib.bitLen k := ⟨_, rfl⟩
  rw [← hL]
  have hkL : Hid (k < 2 ^ L) := by rw [hL, bitLen_nb (by omega)]; exact nb_lt k
  have hL30 : L ≤ 30 := by rw [hL, bitLen_nb (by omega)]; exact nb_le (by omega)
  clear hL
  go_wp2_with fail
  go_loopw [5, 6] (fun ov iv wr => ∃ (j x : Nat) (po : Option Addr) (co lo : Nat), j ≤ L ∧ iv = .int .i64 ((j : Int) - 1) ∧ ov = .slice po lo co ∧ (limbs x).length = lo ∧ x = v ^ (k / 2 ^ j) ∧
      Mine w.heap.size wr po co (limbs x) ∧ Below w.heap.size w wr) (fun _ iv _ => (intOf iv + 1).toNat)
  case atStart => exact ⟨L, 1, _, _, _, Nat.le_refl _, by go_num, rfl, len_one, by rw [Nat.div_eq_of_lt hkL.out, Nat.pow_zero], HM1.out, HB1.out⟩
  case round =>
    obtain ⟨j, x, po, co, lo, hj, rfl, rfl, hlo, hx, hO, hB⟩ := hrel
    have HO := Lib.hid hO
    have HB := Lib.hid hB
    have HX := Lib.hid hx
    have hxl := len_le HS.out (by rw [hx]; exact pow_le_M HT.out hTM : x ≤ M)
    rw [hlo] at hxl
    have HLO := Lib.hid hlo
    clear hO hB hlo hx
    by_cases h0 : j = 0
    · subst h0
      have hz : Hid (x = T) := by rw [HX.out, HT.out, Nat.pow_zero, Nat.div_one]; rfl
      go_wp2_with fail
      go_ret
      have hm := HO.out
      rw [hz.out] at hm
      exact ⟨po, co, by rw [← HLO.out, hz.out]; rfl, HB.out, hm⟩
    · obtain ⟨i, rfl⟩ : ∃ i, j = i + 1 := ⟨j - 1, by omega⟩
      have hi : (((i + 1 : Nat) : Int) - 1) = (i : Int) := by omega
      rw [hi]
      clear hi
      go_wp2_with fail
      refine (mul_ok po _ co (limbs x) po _ co (limbs x) _ HO.out.natIn HO.out.natIn HLO.out HLO.out (by omega) (by omega)).mono ?_
      rintro e w2 ⟨p2, c2, rfl, hb2, hm2⟩
      rw [val_limbs] at hm2 ⊢
      obtain ⟨x2, hx2⟩ : ∃ x2, x2 = x * x := ⟨_, rfl⟩
      rw [← hx2] at hm2 ⊢
      have hx2l : (limbs x2).length ≤ 100000000 := by rw [hx2]; exact len_mul (i := 50000000) (j := 50000000) (by rw [HLO.out]; exact hxl) (by rw [HLO.out]; exact hxl) (by omega)
      have HX2 := Lib.hid hx2
      have HN2 := Lib.hid (HL.out.keep (HB.out.trans (hb2.mono HB.out.size)))
      have HO2 := Lib.hid (hm2.mono HB.out.size)
      have HB2 := Lib.hid (HB.out.trans (hb2.mono HB.out.size))
      clear hx2 hb2 hm2 HO HB
      have hx2e : Hid (x2 = v ^ (k / 2 ^ (i + 1)) * v ^ (k / 2 ^ (i + 1))) := by rw [HX2.out, HX.out]; rfl
      by_cases hb1 : k / 2 ^ i % 2 = 1
      · have hbit : (Go.bits .and .i64 ((k : Int) / 2 ^ i) 1 == 1) = true := by rw [bit_of hk, hb1]; rfl
        have HBI := Lib.hid hb1
        clear hb1
        go_wp2_with fail
        refine (mul_ok p2 _ c2 (limbs x2) p _ c l _ HO2.out.natIn HN2.out rfl rfl (by omega) (by omega)).mono ?_
        rintro e w3 ⟨p3, c3, rfl, hb3, hm3⟩
        rw [val_limbs, ← HV.out] at hm3 ⊢
        have HO3 := Lib.hid (hm3.mono HB2.out.size)
        have HB3 := Lib.hid (HB2.out.trans (hb3.mono HB2.out.size))
        clear hb3 hm3 HO2 HB2 HN2
        go_wp2_with fail
        go_roundw
        case rel => exact ⟨i, x2 * v, p3, c3, _, by omega, by go_num, rfl, rfl, by rw [pow_half (j := i), HBI.out, Nat.pow_one, hx2e.out], HO3.out, HB3.out⟩
        case measure => simp [intOf]
      · have hb0 : k / 2 ^ i % 2 = 0 := by omega
        have hbit : (Go.bits .and .i64 ((k : Int) / 2 ^ i) 1 == 1) = false := by rw [bit_of hk, hb0]; rfl
        have HBI := Lib.hid hb0
        clear hb1 hb0
        go_wp2_with fail
        go_roundw
        case rel => exact ⟨i, x2, p2, c2, _, by omega, by go_num, rfl, rfl, by rw [pow_half (j := i), HBI.out, Nat.pow_zero, Nat.mul_one, hx2e.out], HO2.out, HB2.out⟩
        case measure => simp [intOf]
end Go.Proofs.YtfdjlkffhikaeaaDoor
