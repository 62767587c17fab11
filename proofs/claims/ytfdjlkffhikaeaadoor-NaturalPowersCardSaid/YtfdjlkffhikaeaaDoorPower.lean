/- natural.Power and the reference's: one law for both. -/
import Derived.Test.YtfdjlkffhikaeaaDoorRaise
import Derived.Test.YtfdjlkffhikaeaaDoorTrim
import Derived.Test.YtfdjlkffhikaeaaDoorRefB
namespace Go.Proofs.YtfdjlkffhikaeaaDoor
open Go.RowKit Nt

/-- What both return: the number and the error. -/
def powV (v : Nat) (k : Int) : Nat :=
  if k < 0 then 0 else if v < 2 ∨ k = 0 then v ^ k.toNat else if 131072 ≤ (nb v - 1) * k.toNat ∨ 131072 < nb (v ^ k.toNat) then 0 else v ^ k.toNat
def powE (v : Nat) (k : Int) : Int :=
  if k < 0 then 10 else if v < 2 ∨ k = 0 then 0 else if 131072 ≤ (nb v - 1) * k.toNat ∨ 131072 < nb (v ^ k.toNat) then 11 else 0
def RetPow (v : Nat) (k : Int) (w : World) (e : Ending) (w' : World) : Prop :=
  ∃ p c, e = .returned (.tuple #[.slice p (limbs (powV v k)).length c, .int .i64 (powE v k)]) ∧ Below w.heap.size w w' ∧ Mine w.heap.size w' p c (limbs (powV v k))

theorem pow_neg {v : Nat} {k : Int} (h : k < 0) : powV v k = 0 ∧ powE v k = 10 := ⟨if_pos h, if_pos h⟩
theorem pow_small {v k : Nat} (h : v < 2 ∨ k = 0) : powV v k = v ^ k ∧ powE v k = 0 := by
  have h1 : ¬ ((k : Int) < 0) := by omega
  have h2 : v < 2 ∨ (k : Int) = 0 := by omega
  exact ⟨by unfold powV; rw [if_neg h1, if_pos h2, Int.toNat_natCast], by unfold powE; rw [if_neg h1, if_pos h2]⟩
theorem pow_big {v k : Nat} (hv : 2 ≤ v) (hk : 1 ≤ k) (h : 131072 ≤ (nb v - 1) * k ∨ 131072 < nb (v ^ k)) : powV v k = 0 ∧ powE v k = 11 := by
  have h1 : ¬ ((k : Int) < 0) := by omega
  have h2 : ¬ (v < 2 ∨ (k : Int) = 0) := by omega
  exact ⟨by unfold powV; rw [if_neg h1, if_neg h2, Int.toNat_natCast, if_pos h], by unfold powE; rw [if_neg h1, if_neg h2, Int.toNat_natCast, if_pos h]⟩
theorem pow_fit {v k : Nat} (hv : 2 ≤ v) (hk : 1 ≤ k) (h1' : (nb v - 1) * k < 131072) (h2' : nb (v ^ k) ≤ 131072) : powV v k = v ^ k ∧ powE v k = 0 := by
  have h1 : ¬ ((k : Int) < 0) := by omega
  have h2 : ¬ (v < 2 ∨ (k : Int) = 0) := by omega
  have h : ¬ (131072 ≤ (nb v - 1) * k ∨ 131072 < nb (v ^ k)) := by omega
  exact ⟨by unfold powV; rw [if_neg h1, if_neg h2, Int.toNat_natCast, if_neg h], by unfold powE; rw [if_neg h1, if_neg h2, Int.toNat_natCast, if_neg h]⟩
theorem nb_small {v : Nat} : nb v < 2 ↔ v < 2 := by
  constructor
  · intro h
    have := nb_lt v
    have h2 : 2 ^ nb v ≤ 2 ^ 1 := Nat.pow_le_pow_right (by omega) (by omega)
    omega
  · intro h
    have := nb_le (n := v) (k := 1) (by omega)
    omega
theorem pow_len_gen {v k K : Nat} (h : nb v * k < 32 * K) : (limbs (v ^ k)).length ≤ K := by
  apply limbs_length_le
  rw [bp_two_pow]
  have h1 : v ^ k ≤ (2 ^ nb v) ^ k := Nat.pow_le_pow_left (Nat.le_of_lt (nb_lt v)) k
  rw [← Nat.pow_mul] at h1
  exact Nat.lt_of_le_of_lt h1 (Nat.pow_lt_pow_right (by omega) h)
theorem pow_len {v k : Nat} (h2 : 2 ≤ nb v) (hk : (nb v - 1) * k < 131072) : (limbs (v ^ k)).length ≤ 8193 := by
  have h3 : nb v * k ≤ 2 * ((nb v - 1) * k) := by
    rw [← Nat.mul_assoc]
    exact Nat.mul_le_mul_right _ (by omega)
  exact pow_len_gen (by omega)
theorem raise_len {v k n : Nat} (hv : (limbs v).length ≤ n) (hn : n ≤ 1000) (h : (limbs (v ^ k)).length ≤ 8193) : (limbs (v ^ k + v + 1)).length ≤ 50000000 :=
  len_add (i := 20000) (j := 1) (len_add (i := 8193) (j := 1000) h (by omega) (by omega) (by omega)) (by rw [len_one]; omega) (by omega) (by omega)
theorem mine_nil' (B : Nat) (w : World) {v : Nat} (h : v = 0) : Mine B w none 0 (limbs v) := by
  rw [h, limbs_zero]; exact ⟨lim_nil, Nat.le_refl _, by omega, .inl rfl⟩
theorem ret_pow0 {v : Nat} {k : Int} {w w' : World} {z : Int} (h1 : powV v k = 0) (h2 : powE v k = z) (hb : Below w.heap.size w w') : RetPow v k w (.returned (.tuple #[.slice none 0 0, .int .i64 z])) w' := by
  refine ⟨none, 0, ?_, hb, ?_⟩
  · rw [h1, h2, limbs_zero]; rfl
  · exact mine_nil' _ _ h1
theorem ret_pow {v x n c : Nat} {k : Int} {p : Option Addr} {w w' : World} {z : Int} (h1 : powV v k = x) (h2 : powE v k = z) (hn : (limbs x).length = n) (hb : Below w.heap.size w w') (hm : Mine w.heap.size w' p c (limbs x)) :
    RetPow v k w (.returned (.tuple #[.slice p n c, .int .i64 z])) w' := by
  refine ⟨p, c, ?_, hb, ?_⟩
  · rw [h1, h2, hn]
  · rw [h1]; exact hm

set_option maxRecDepth 100000 in
set_option maxHeartbeats 2000000 in
theorem power_ok (p : Option Addr) (n c : Nat) (l : List Nat) (k : Int) (w : World) (h : NatIn w p c l) (hn : l.length = n) (hs : n ≤ 1000) (hk1 : -9223372036854775808 ≤ k) (hk2 : k ≤ 9223372036854775807) :
    Calls Tryd.prog 37 #[.slice p n c, .int .i64 k] w (RetPow (val l) k w) := by
  subst hn
  obtain ⟨v, hv⟩ : ∃ v, v = val l := ⟨_, rfl⟩
  obtain ⟨s, hsn⟩ : ∃ s, s = nb v := ⟨_, rfl⟩
  have hvl : (limbs v).length ≤ l.length := by rw [hv]; exact limbs_length_val_le h.lim
  have hs32 : s ≤ 32000 := by rw [hsn]; have := nb_len (Nat.le_trans hvl hs); omega
  rw [← hv]
  have HV := Lib.hid hv
  have HSN := Lib.hid hsn
  have HL := Lib.hid h
  clear hv hsn h
  go_enter Tryd.func37, Tryd.ntmps37
  go_wp2_with fail
  refine (bits_ok p _ c l _ HL.out rfl (by omega)).mono ?_
  rintro e w' ⟨rfl, rfl⟩
  rw [← HV.out, ← HSN.out]
  by_cases hk0 : k < 0
  · have hp := Lib.hid (pow_neg (v := v) hk0)
    go_wp2_with fail
    go_ret2
    exact ret_pow0 hp.out.1 hp.out.2 (Below.refl _ _)
  · obtain ⟨j, rfl⟩ : ∃ j : Nat, k = (j : Int) := ⟨k.toNat, by omega⟩
    clear hk0 hk1
    by_cases h2 : s < 2
    · have hv2 : Hid (v < 2) := nb_small.1 (by rw [← HSN.out]; exact h2)
      by_cases hj : j = 0
      · subst hj
        have hp := Lib.hid (pow_small (v := v) (k := 0) (.inr rfl))
        go_wp2_with fail
        go_ret2
        exact ret_pow hp.out.1 hp.out.2 (by rw [Nat.pow_zero]; exact len_one) (below_new _ _) (by rw [Nat.pow_zero]; exact one_own _)
      · have hp := Lib.hid (pow_small (v := v) (k := j) (.inl hv2.out))
        have hvj : Hid (v ^ j = v) := by
          have := hv2.out
          rcases (by omega : v = 0 ∨ v = 1) with h | h
          · rw [h]; exact Nat.zero_pow (by omega)
          · rw [h]; exact Nat.one_pow _
        have hj0 : ((j : Int) == 0) = false := by rw [beq_eq_false_iff_ne]; omega
        go_wp2_with fail
        refine (trim_ok p _ c l _ HL.out rfl (by omega)).mono ?_
        rintro e w1 ⟨p1, c1, rfl, hb1, hm1⟩
        rw [← HV.out] at hm1 ⊢
        have HB1 := Lib.hid hb1
        have HM1 := Lib.hid hm1
        clear hb1 hm1
        go_wp2_with fail
        go_ret2
        exact ret_pow (hp.out.1.trans hvj.out) hp.out.2 rfl HB1.out HM1.out
    · have hv2 : Hid (2 ≤ v) := by
        apply Nat.le_of_not_lt
        intro h
        exact h2 (by rw [HSN.out]; exact nb_small.2 h)
      by_cases hbig : 131072 < j
      · have hp := Lib.hid (pow_big (v := v) (k := j) hv2.out (by omega) (.inl (by
          rw [← HSN.out]
          have : 1 * j ≤ (s - 1) * j := Nat.mul_le_mul_right _ (by omega)
          omega)))
        go_wp2_with fail
        go_ret2
        exact ret_pow0 hp.out.1 hp.out.2 (Below.refl _ _)
      · obtain ⟨m, hm⟩ : ∃ m, m = (s - 1) * j := ⟨_, rfl⟩
        have hmi : ((s : Int) - 1) * (j : Int) = (m : Int) := by
          rw [hm, show ((s : Int) - 1) = ((s - 1 : Nat) : Int) by omega]; push_cast; rfl
        have hmb : m ≤ 32000 * 131072 := by rw [hm]; exact Nat.mul_le_mul (by omega) (by omega)
        have HM := Lib.hid hm
        clear hm
        by_cases hmj : 131072 ≤ m
        · have hj1 : 1 ≤ j := by
            apply Nat.pos_of_ne_zero
            rintro rfl
            have := HM.out
            omega
          have hp := Lib.hid (pow_big (v := v) (k := j) hv2.out hj1 (.inl (by rw [← HSN.out, ← HM.out]; exact hmj)))
          go_wp2_with fail
          go_ret2
          exact ret_pow0 hp.out.1 hp.out.2 (Below.refl _ _)
        · have hlen : Hid ((limbs (v ^ j)).length ≤ 8193) := pow_len (by rw [← HSN.out]; omega) (by rw [← HSN.out, ← HM.out]; omega)
          go_wp2_with fail
          refine (raise_ok p _ c l j _ HL.out rfl (by omega) (by omega) (by rw [← HV.out]; exact raise_len hvl hs hlen.out)).mono ?_
          rintro e w1 ⟨p1, c1, rfl, hb1, hm1⟩
          rw [← HV.out] at hm1 ⊢
          obtain ⟨x, hx⟩ : ∃ x, x = v ^ j := ⟨_, rfl⟩
          rw [← hx] at hm1 hlen ⊢
          have HX := Lib.hid hx
          have HB1 := Lib.hid hb1
          have HM1 := Lib.hid hm1
          clear hb1 hm1 hx
          go_wp2_with fail
          refine (bits_ok p1 _ c1 (limbs x) _ HM1.out.natIn rfl (by have := hlen.out; omega)).mono ?_
          rintro e w' ⟨rfl, rfl⟩
          rw [val_limbs]
          obtain ⟨b, hb⟩ : ∃ b, b = nb x := ⟨_, rfl⟩
          rw [← hb]
          have HBB := Lib.hid hb
          clear hb
          by_cases hbx : 131072 < b
          · have hj1 : 1 ≤ j := by
              apply Nat.pos_of_ne_zero
              rintro rfl
              have h1 := HBB.out
              rw [HX.out, Nat.pow_zero] at h1
              have h3 := nb_le (n := 1) (k := 1) (by omega)
              omega
            have hp := Lib.hid (pow_big (v := v) (k := j) hv2.out hj1 (.inr (by rw [← HX.out, ← HBB.out]; exact hbx)))
            go_wp2_with fail
            go_ret2
            exact ret_pow0 hp.out.1 hp.out.2 HB1.out
          · have hp : Hid (powV v j = x ∧ powE v j = 0) := by
              by_cases hj : j = 0
              · subst hj; rw [HX.out]; exact pow_small (.inr rfl)
              · rw [HX.out]
                exact pow_fit hv2.out (by omega) (by rw [← HSN.out, ← HM.out]; omega) (by rw [← HX.out, ← HBB.out]; omega)
            go_wp2_with fail
            go_ret2
            exact ret_pow hp.out.1 hp.out.2 rfl HB1.out HM1.out
end Go.Proofs.YtfdjlkffhikaeaaDoor
