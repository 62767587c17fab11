/- natural.Root. -/
import Derived.Test.YtfdjlkffhikaeaaDoorRoot
import Derived.Test.YtfdjlkffhikaeaaDoorTrim
namespace Go.Proofs.YtfdjlkffhikaeaaDoor
open Go.RowKit Nt

def RetRt (n k : Nat) (w : World) (e : Ending) (w' : World) : Prop :=
  ∃ r p c, IsRoot r n k ∧ e = .returned (.tuple #[.slice p (limbs r).length c, .bool (decide (r ^ k = n)), .int .i64 0]) ∧ Below w.heap.size w w' ∧ Mine w.heap.size w' p c (limbs r)

theorem root_le {r n k : Nat} (h : IsRoot r n k) (hk : 1 ≤ k) : r ≤ n := by
  rcases Nat.eq_zero_or_pos r with rfl | hr
  · omega
  · have h1 : r ^ 1 ≤ r ^ k := Nat.pow_le_pow_right hr hk
    rw [Nat.pow_one] at h1
    exact Nat.le_trans h1 h.1
theorem raise_sz {v k n m : Nat} (hv : (limbs v).length ≤ n) (h : (limbs (v ^ k)).length ≤ m) (hn : n ≤ 1000000) (hm : m ≤ 1000000) : (limbs (v ^ k + v + 1)).length ≤ 50000000 :=
  Nat.le_trans (len_add (i := 1000001) (j := 1) (k := 1000002) (len_add (i := 1000000) (j := 1000000) (Nat.le_trans h hm) (Nat.le_trans hv hn) (by omega) (by omega)) hsI (by omega) (by omega)) (by omega)
theorem root_next_len {v r r1 k n : Nat} (hv : (limbs v).length ≤ n) (h : IsRoot r v k) (_hk1 : 1 ≤ k) (hk2 : k ≤ 1024) (e : r1 = r + 1) : (limbs (r1 ^ k)).length ≤ n + 33 := by
  subst e
  apply limbs_length_le
  have h1 : (r + 1) ^ k ≤ 2 ^ k * (v + 1) := by
    rcases Nat.eq_zero_or_pos r with rfl | hr
    · rw [Nat.zero_add, Nat.one_pow]; exact Nat.mul_pos (Nat.two_pow_pos k) (by omega)
    · have h2 : (r + 1) ^ k ≤ (2 * r) ^ k := Nat.pow_le_pow_left (by omega) k
      rw [Nat.mul_pow] at h2
      exact Nat.le_trans h2 (Nat.mul_le_mul_left _ (by have := h.1; omega))
  have h3 := lt_bp_of hv
  have h4 : 2 ^ k ≤ bp 32 := pow_bp (by omega)
  have h5 : 2 ^ k * (v + 1) ≤ bp 32 * bp n := Nat.mul_le_mul h4 h3
  rw [← bp_add] at h5
  have h6 : bp (32 + n) < bp (n + 33) := by
    rw [show n + 33 = (32 + n) + 1 by omega, bp_succ]
    have := bp_pos (32 + n)
    omega
  omega
theorem cmp_dec (a b : Nat) : (cmp a b == 0) = decide (a = b) := by
  by_cases h : a = b
  · rw [cmp_eq h]; simp [h]
  · have : cmp a b ≠ 0 := fun e => h (cmp_zero.1 e)
    simp [h, this]

set_option maxRecDepth 100000 in
set_option maxHeartbeats 1000000 in
theorem rootF_bad (p : Option Addr) (n c : Nat) (k : Int) (w : World) (hk : k < 1 ∨ 1024 < k) :
    Calls Tryd.prog 42 #[.slice p n c, .int .i64 k] w fun e w' => e = .returned (.tuple #[.slice none 0 0, .bool false, .int .i64 12]) ∧ w = w' := by
  rcases hk with h | h
  · go_enter Tryd.func42, Tryd.ntmps42
    go_wp2_with fail
    go_ret3
    exact ⟨rfl, rfl⟩
  · have h1 : ¬ k < 1 := by omega
    go_enter Tryd.func42, Tryd.ntmps42
    go_wp2_with fail
    go_ret3
    exact ⟨rfl, rfl⟩

set_option maxRecDepth 100000 in
set_option maxHeartbeats 1000000 in
theorem rootF_ok (p : Option Addr) (n c : Nat) (l : List Nat) (k : Nat) (w : World) (h : NatIn w p c l) (hn : l.length = n) (hs : n ≤ 1000000) (hk1 : 1 ≤ k) (hk : k ≤ 1024) :
    Calls Tryd.prog 42 #[.slice p n c, .int .i64 (k : Int)] w (RetRt (val l) k w) := by
  subst hn
  obtain ⟨v, hv⟩ : ∃ v, v = val l := ⟨_, rfl⟩
  obtain ⟨s, hsn⟩ : ∃ s, s = nb v := ⟨_, rfl⟩
  have hvl : (limbs v).length ≤ 1000000 := by rw [hv]; have := limbs_length_val_le h.lim; omega
  have H := Lib.hid h
  have HV := Lib.hid hv
  have HS := Lib.hid hsn
  rw [← hv]
  clear h hv hsn
  have hc1 : ¬ (k : Int) < 1 := by omega
  have hc2 : ¬ (1024 : Int) < (k : Int) := by omega
  by_cases h2 : s < 2
  · have hv2 : v < 2 := by
      have h3 := nb_lt v
      have h4 : 2 ^ nb v ≤ 2 ^ 1 := Nat.pow_le_pow_right (by omega) (by rw [← HS.out]; omega)
      omega
    have HR : Hid (IsRoot v v k) := IsRoot.small hk1 hv2
    have HP : Hid (v ^ k = v) := by
      show v ^ k = v
      have : v = 0 ∨ v = 1 := by omega
      rcases this with rfl | rfl
      · exact Nat.zero_pow hk1
      · exact Nat.one_pow k
    clear hv2
    go_enter Tryd.func42, Tryd.ntmps42
    go_wp2_with fail
    refine (bits_ok p _ c l _ H.out rfl (by omega)).mono ?_
    rintro e w' ⟨rfl, rfl⟩
    rw [← HV.out, ← HS.out]
    go_wp2_with fail
    refine (trim_ok p _ c l _ H.out rfl (by omega)).mono ?_
    rintro e w1 ⟨p1, c1, rfl, hb1, hm1⟩
    rw [← HV.out] at hm1 ⊢
    have HM1 := Lib.hid hm1
    have HB1 := Lib.hid hb1
    clear hm1 hb1
    go_wp2_with fail
    go_ret3
    exact ⟨v, p1, c1, HR.out, by rw [decide_eq_true HP.out]; rfl, HB1.out, HM1.out⟩
  · by_cases hk0 : k = 1
    · subst hk0
      have HR : Hid (IsRoot v v 1) := IsRoot.one v
      have HP : Hid (v ^ 1 = v) := Nat.pow_one v
      go_enter Tryd.func42, Tryd.ntmps42
      go_wp2_with fail
      refine (bits_ok p _ c l _ H.out rfl (by omega)).mono ?_
      rintro e w' ⟨rfl, rfl⟩
      rw [← HV.out, ← HS.out]
      go_wp2_with fail
      refine (trim_ok p _ c l _ H.out rfl (by omega)).mono ?_
      rintro e w1 ⟨p1, c1, rfl, hb1, hm1⟩
      rw [← HV.out] at hm1 ⊢
      have HM1 := Lib.hid hm1
      have HB1 := Lib.hid hb1
      clear hm1 hb1
      go_wp2_with fail
      go_ret3
      exact ⟨v, p1, c1, HR.out, by rw [decide_eq_true HP.out]; rfl, HB1.out, HM1.out⟩
    · have hke : ((k : Int) == 1) = false := by rw [beq_eq_false_iff_ne]; omega
      have hkn : ¬ (k : Int) = 1 := by omega
      have hv0 : v ≠ 0 := by
        intro h3
        have h4 := HS.out
        rw [h3, nb_zero] at h4
        omega
      have HV0 := Lib.hid hv0
      clear hv0 hk0
      go_enter Tryd.func42, Tryd.ntmps42
      go_wp2_with fail
      refine (bits_ok p _ c l _ H.out rfl (by omega)).mono ?_
      rintro e w' ⟨rfl, rfl⟩
      rw [← HV.out, ← HS.out]
      go_wp2_with fail
      refine (root_any k (by omega) hk v p _ c l _ H.out rfl hs HV.out.symm HV0.out).mono ?_
      rintro e w1 ⟨r, hr, p1, c1, rfl, hb1, hm1⟩
      have hrl : (limbs r).length ≤ 1000000 := len_le hvl (root_le hr hk1)
      have hpl : (limbs (r ^ k)).length ≤ 1000000 := len_le hvl hr.1
      have HR := Lib.hid hr
      have HM1 := Lib.hid hm1
      have HB1 := Lib.hid hb1
      have HN1 := Lib.hid (H.out.keep hb1)
      have hs1 := hb1.size
      clear hr hm1 hb1
      go_wp2_with fail
      refine (raise_ok p1 _ c1 (limbs r) k _ HM1.out.natIn rfl (by omega) (by omega) (by
        rw [val_limbs]
        exact Nat.le_trans (len_add (i := 1000001) (j := 1) (k := 1000002) (len_add (i := 1000000) (j := 1000000) hpl hrl (by omega) (by omega)) hsI (by omega) (by omega)) (by omega))).mono ?_
      rintro e w2 ⟨p2, c2, rfl, hb2, hm2⟩
      rw [val_limbs] at hm2 ⊢
      have HM2 := Lib.hid hm2
      have HM12 := Lib.hid (HM1.out.keep hb2)
      have HB2 := Lib.hid (HB1.out.trans (hb2.mono hs1))
      have HN2 := Lib.hid (HN1.out.keep hb2)
      have hs2 := HB2.out.size
      clear hm2 hb2 HM1
      go_wp2_with fail
      refine (cmp_ok p2 _ c2 (limbs (r ^ k)) p _ c l _ HM2.out.natIn HN2.out rfl rfl).mono ?_
      rintro e w3 ⟨rfl, hb3⟩
      rw [val_limbs, ← HV.out]
      have HM13 := Lib.hid (HM12.out.keep hb3)
      have HB3 := Lib.hid (HB2.out.trans (hb3.mono hs2))
      clear hb3
      go_wp2_with fail
      go_ret3
      exact ⟨r, p1, c1, HR.out, by rw [← cmp_dec]; rfl, HB3.out, HM13.out⟩
end Go.Proofs.YtfdjlkffhikaeaaDoor
