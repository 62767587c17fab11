/- Decimal digits in pieces of nine. No program here. -/
import Derived.Lib.ItoaNum
import Derived.Test.YtgaicejcjkpekaaDoorMath
namespace Go.Proofs.YtgaicejcjkpekaaDoor.Nt
open Go.Lib

/-- The decimal digits of a number. -/
def dec (n : Nat) : List UInt8 := decDigits n
def fw : Nat → Nat → List UInt8
  | 0, _ => []
  | k + 1, r => fw k (r / 10) ++ [UInt8.ofNat (48 + r % 10)]
theorem dec_big {n : Nat} (h : 10 ≤ n) : dec n = dec (n / 10) ++ [UInt8.ofNat (48 + n % 10)] := by
  unfold dec; rw [decDigits, dif_neg (by omega)]
theorem dec_small {n : Nat} (h : n < 10) : dec n = [UInt8.ofNat (48 + n)] := decDigits_one h
theorem dec_fw (k : Nat) : ∀ q r, 0 < q → r < 10 ^ k → dec (q * 10 ^ k + r) = dec q ++ fw k r := by
  induction k with
  | zero => intro q r _ hr; have : r = 0 := by simpa using hr
            subst this; simp [fw]
  | succ k ih =>
    intro q r hq hr
    have hp : 10 ^ (k + 1) = 10 * 10 ^ k := by rw [Nat.pow_succ, Nat.mul_comm]
    have hk := Nat.pow_pos (n := k) (show 0 < 10 by omega)
    have h1 : 10 * 10 ^ k ≤ q * 10 ^ (k + 1) := by rw [← hp]; exact Nat.le_mul_of_pos_left _ hq
    have e1 : q * 10 ^ (k + 1) = 10 * (q * 10 ^ k) := by rw [hp]; exact Nat.mul_left_comm ..
    rw [dec_big (by omega), e1]
    have e2 : (10 * (q * 10 ^ k) + r) / 10 = q * 10 ^ k + r / 10 := by omega
    have e3 : (10 * (q * 10 ^ k) + r) % 10 = r % 10 := by omega
    rw [e2, e3, ih q (r / 10) hq (by omega), fw, List.append_assoc]
theorem fw_dec (k : Nat) : ∀ r, r < 10 ^ (k + 1) → fw (k + 1) r = List.replicate (k + 1 - (dec r).length) 48 ++ dec r := by
  induction k with
  | zero =>
    intro r hr
    rw [dec_small (by simpa using hr)]
    have : r % 10 = r := Nat.mod_eq_of_lt (by simpa using hr)
    simp [fw, this]
  | succ k ih =>
    intro r hr
    have hp : 10 ^ (k + 1 + 1) = 10 * 10 ^ (k + 1) := by rw [Nat.pow_succ, Nat.mul_comm]
    rw [fw, ih (r / 10) (by omega)]
    by_cases h : 10 ≤ r
    · rw [dec_big h, List.length_append, List.length_singleton, Nat.add_sub_add_right, List.append_assoc]
    · rw [dec_small (n := r) (by omega), show r / 10 = 0 from by omega, dec_small (n := 0) (by omega)]
      have : r % 10 = r := Nat.mod_eq_of_lt (by omega)
      rw [this]
      have e : List.replicate (k + 1 - 1) (48 : UInt8) ++ [UInt8.ofNat (48 + 0)] = List.replicate (k + 1) 48 := by
        rw [Nat.add_sub_cancel, List.replicate_succ', show UInt8.ofNat (48 + 0) = 48 from rfl]
      simp only [List.length_singleton] at *
      rw [e]
      simp
theorem dec_len_le (k : Nat) : ∀ r, r < 10 ^ (k + 1) → (dec r).length ≤ k + 1 := by
  induction k with
  | zero => intro r hr; rw [dec_small (by simpa using hr)]; simp
  | succ k ih =>
    intro r hr
    have hp : 10 ^ (k + 1 + 1) = 10 * 10 ^ (k + 1) := by rw [Nat.pow_succ, Nat.mul_comm]
    by_cases h : 10 ≤ r
    · rw [dec_big h, List.length_append]; have := ih (r / 10) (by omega); simp; omega
    · rw [dec_small (by omega)]; simp
theorem dec_len_pos (r : Nat) : 1 ≤ (dec r).length := by
  by_cases h : 10 ≤ r
  · rw [dec_big h, List.length_append]; simp
  · rw [dec_small (by omega)]; simp
/-- A piece behind others: nine digits. -/
theorem dec_piece {v q r : Nat} (hq : q = v / 1000000000) (hr : r = v % 1000000000) (h0 : 0 < q) : dec v = dec q ++ (List.replicate (9 - (dec r).length) 48 ++ dec r) := by
  have e := Nat.div_add_mod v 1000000000
  have hlt := Nat.mod_lt v (show 1000000000 > 0 by omega)
  rw [← hq, ← hr] at e
  rw [← hr] at hlt
  rw [← fw_dec 8 r hlt, ← dec_fw 9 q r h0 hlt]
  congr 1
  omega
theorem itoa_dec (n : Nat) : itoa (n : Int) = dec n := by
  unfold itoa dec
  rw [if_neg (by omega), Int.toNat_natCast]
end Go.Proofs.YtgaicejcjkpekaaDoor.Nt
