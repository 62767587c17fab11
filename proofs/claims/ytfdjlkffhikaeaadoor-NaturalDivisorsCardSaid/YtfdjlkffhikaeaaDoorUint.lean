/- natural.Uint; the reference: FromUint, Uint. No condition but that the numbers fit. -/
import Derived.Test.YtfdjlkffhikaeaaDoorRefC
import Derived.Test.YtfdjlkffhikaeaaDoorLow
namespace Go.Proofs.YtfdjlkffhikaeaaDoor
open Go.RowKit Nt

/-- A number as a word, where it fits. -/
def u64v (n : Nat) : Nat := if n < 18446744073709551616 then n else 0
def u64ok (n : Nat) : Bool := decide (n < 18446744073709551616)
theorem u64v_fit {n : Nat} (h : n < 18446744073709551616) : u64v n = n := if_pos h
theorem u64ok_fit {n : Nat} (h : n < 18446744073709551616) : u64ok n = true := decide_eq_true h
theorem u64v_big {n : Nat} (h : 18446744073709551616 ≤ n) : u64v n = 0 := if_neg (by omega)
theorem u64ok_big {n : Nat} (h : 18446744073709551616 ≤ n) : u64ok n = false := decide_eq_false (by omega)

theorem rfromUint_ok (v : Nat) (hv : v < 18446744073709551616) (w : World) :
    Calls Tryd.prog 33 #[.int .u64 (v : Int)] w (RetNat v w) := by
  have hv1 : (v : Int) ≤ 18446744073709551615 := by omega
  have hand : Go.bits .and .u64 (v : Int) 4294967295 = (v : Int) % 4294967296 := and_lo (by omega) (by omega)
  clear hv
  go_enter Tryd.func33, Tryd.ntmps33
  go_wp2_with fail
  have hO := own_new w (cs := #[.int .u32 ((v : Int) % 4294967296), .int .u32 ((v : Int) / 4294967296)]) (L := [v % 4294967296, v / 4294967296]) (by simp [limbV])
  refine (rtrim_ok _ 2 2 [v % 4294967296, v / 4294967296] _ (hO.whole (lim_cons (by omega) (lim_cons (by omega) lim_nil)) rfl (by omega)) rfl (by omega)).mono ?_
  intro e w' h
  have h2 := RetNat.behind (below_new w _) h
  rw [show val [v % 4294967296, v / 4294967296] = v from by simp only [val]; omega] at h2
  obtain ⟨p, c, rfl, h3⟩ := h2
  go_wp2_with fail
  go_ret
  exact ⟨p, c, rfl, h3⟩

theorem limbs_eq_of {n : Nat} {L : List Nat} (h : limbs n = L) : n = val L := by rw [← h, val_limbs]
theorem lt_bp_of' {n s : Nat} (h : s = (limbs n).length) (hs : s ≤ 2) : n < 18446744073709551616 := by
  have h1 : n < bp (limbs n).length := by have := val_lt (lim_limbs n); rwa [val_limbs] at this
  have h2 := bp_mono (show (limbs n).length ≤ 2 by omega)
  rw [show bp 2 = 18446744073709551616 from rfl] at h2
  omega
theorem lim_drop {l : List Nat} (h : Lim l) (k : Nat) : Lim (l.drop k) := fun x hx => h x (List.mem_of_mem_drop hx)
theorem big_of_len {n m : Nat} (h : (limbs n).length = m + 3) : 18446744073709551616 ≤ n := by
  apply Nat.le_of_not_lt
  intro h2
  have h3 : (limbs n).length ≤ 2 := limbs_length_le (by rw [show bp 2 = 18446744073709551616 from rfl]; exact h2)
  omega

set_option maxRecDepth 100000 in
set_option maxHeartbeats 1000000 in
theorem uint_ok (p : Option Addr) (n c : Nat) (l : List Nat) (w : World) (h : NatIn w p c l) (hn : l.length = n) :
    Calls Tryd.prog 29 #[.slice p n c] w fun e w' => e = .returned (.tuple #[.int .u64 (u64v (val l) : Nat), .bool (u64ok (val l))]) ∧ Below w.heap.size w w' := by
  obtain ⟨v, hv⟩ : ∃ v, v = val l := ⟨_, rfl⟩
  rw [← hv]
  have HV := Lib.hid hv
  clear hv
  go_enter Tryd.func29, Tryd.ntmps29
  go_wp2_with fail
  refine (low_ok p n c l _ h hn).mono ?_
  rintro e w' ⟨A, hA, rfl, hAn, rfl⟩
  rw [← HV.out] at hA
  have HN := Lib.hid hAn
  clear hAn h
  obtain ⟨m, hm⟩ : ∃ m, A.length = m := ⟨_, rfl⟩
  rw [hm]
  have hAv : Hid (v = val A) := by have := hA.out; rw [this, val_limbs]; rfl
  have HM := Lib.hid hm
  have hc := HN.out.lim
  clear hc
  match m, hm, HM with
  | 0, hm, HM =>
    clear hm
    have hz : Hid (v = 0) := by
      rw [hAv.out, List.length_eq_zero_iff.1 HM.out]; rfl
    go_wp2_with fail
    go_ret2
    exact ⟨by rw [hz.out]; rfl, Below.refl _ _⟩
  | 1, hm, HM =>
    have hxc := HN.out.cell 0 (by omega)
    have hxi := fun ww => HN.out.ix (z := (0 : Int)) (by omega) (n := 1) (by omega) (by omega) c ww
    have hx := lm_lt HN.out.lim 0
    rw [show (0 : Int).toNat = 0 from rfl, Nat.add_zero] at hxi
    rw [Nat.add_zero] at hxc
    have hz : Hid (v = lm A 0) := by
      rw [hAv.out]
      match A, HM.out with
      | [x], _ => simp [val, lm, Hid]
    clear hm
    go_wp2_with fail
    go_ret2
    exact ⟨by rw [u64v_fit (by rw [hz.out]; omega), u64ok_fit (by rw [hz.out]; omega), hz.out]; rfl, Below.refl _ _⟩
  | 2, hm, HM =>
    have hxc := HN.out.cell 0 (by omega)
    have hyc := HN.out.cell 1 (by omega)
    have hxi := fun ww => HN.out.ix (z := (0 : Int)) (by omega) (n := 2) (by omega) (by omega) c ww
    have hyi := fun ww => HN.out.ix (z := (1 : Int)) (by omega) (n := 2) (by omega) (by omega) c ww
    have hx := lm_lt HN.out.lim 0
    have hy := lm_lt HN.out.lim 1
    rw [show (0 : Int).toNat = 0 from rfl, Nat.add_zero] at hxi
    rw [Nat.add_zero] at hxc
    rw [show (1 : Int).toNat = 1 from rfl] at hyi
    have hz : Hid (v = lm A 0 + 4294967296 * lm A 1) := by
      rw [hAv.out]
      match A, HM.out with
      | [x, y], _ => simp [val, lm, Hid]
    have hor : Go.bits .or .u64 (((lm A 1 : Nat) : Int) * 4294967296) ((lm A 0 : Nat) : Int) = ((lm A 1 : Nat) : Int) * 4294967296 + ((lm A 0 : Nat) : Int) := or_u64 hy hx
    clear hm
    go_wp2_with fail
    go_quiet (fail)
    go_wp2_with fail
    go_ret2
    exact ⟨by rw [u64v_fit (by rw [hz.out]; omega), u64ok_fit (by rw [hz.out]; omega), hz.out]; go_num, below_drewN (Below.refl _ _) nq⟩
  | m + 3, hm, HM =>
    have hz : Hid (18446744073709551616 ≤ v) := big_of_len (m := m) (by have := HM.out; rw [hA.out] at this; exact this)
    have hb0 : (((m + 3 : Nat) : Int) == 0) = false := by rw [beq_eq_false_iff_ne]; omega
    have hb1 : (((m + 3 : Nat) : Int) == 1) = false := by rw [beq_eq_false_iff_ne]; omega
    have hb2 : (((m + 3 : Nat) : Int) == 2) = false := by rw [beq_eq_false_iff_ne]; omega
    obtain ⟨k, hk⟩ : ∃ k, k = m + 3 := ⟨_, rfl⟩
    rw [← hk] at hb0 hb1 hb2 ⊢
    clear hm hk
    go_wp2_with fail
    go_ret2
    exact ⟨by rw [u64v_big hz.out, u64ok_big hz.out]; rfl, Below.refl _ _⟩

theorem drop_at {A : List Nat} {j : Nat} (h : j < A.length) : val (A.drop j) = lm A j + 4294967296 * val (A.drop (j + 1)) := by
  rw [List.drop_eq_getElem_cons h, lm_eq h]; rfl

set_option maxRecDepth 100000 in
set_option maxHeartbeats 1000000 in
theorem ruint_ok (p : Option Addr) (n c : Nat) (l : List Nat) (w : World) (h : NatIn w p c l) (hn : l.length = n) :
    Calls Tryd.prog 30 #[.slice p n c] w fun e w' => e = .returned (.tuple #[.int .u64 (u64v (val l) : Nat), .bool (u64ok (val l))]) ∧ w = w' := by
  subst hn
  have hle := h.le
  have hcap := h.cap
  obtain ⟨v, hv⟩ : ∃ v, v = val l := ⟨_, rfl⟩
  rw [← hv]
  have HV := Lib.hid hv
  have H0 := Lib.hid h
  have HL := Lib.hid h.low
  obtain ⟨s, hs⟩ : ∃ s, s = (limbs v).length := ⟨_, rfl⟩
  have hsl : s ≤ l.length := by rw [hs, hv]; exact limbs_length_val_le h.lim
  have HS := Lib.hid hs
  clear hv hs h
  go_enter Tryd.func30, Tryd.ntmps30
  go_wp2_with fail
  refine (rsize_ok p _ c l _ H0.out rfl).mono ?_
  rintro e w' ⟨rfl, rfl⟩
  rw [← HV.out, ← HS.out]
  go_wp2_with fail
  go_loop [4, 5] (fun xv iv => ∃ (j x : Nat), j ≤ s ∧ iv = .int .i64 ((j : Int) - 1) ∧ xv = .int .u64 x ∧ x = val ((limbs v).drop j) ∧ (3 ≤ s → j = s)) (fun _ iv => (intOf iv + 1).toNat)
  case atStart => exact ⟨s, 0, Nat.le_refl _, by go_num, rfl, by rw [List.drop_of_length_le (by have := HS.out; omega)]; rfl, fun _ => rfl⟩
  case round =>
    obtain ⟨j, x, hj, rfl, rfl, hx, hb⟩ := hrel
    have HX := Lib.hid hx
    have HB := Lib.hid hb
    clear hx hb
    by_cases h0 : j = 0
    · subst h0
      have hz : Hid (x = v) := by rw [HX.out, List.drop_zero, val_limbs]; rfl
      have hs3 : s ≤ 2 := by
        apply Nat.le_of_not_lt
        intro h3
        have := HB.out h3
        omega
      have hfit : Hid (v < 18446744073709551616) := by
        have := lt_bp_of' HS.out hs3
        exact this
      go_wp2_with fail
      go_ret2
      exact ⟨by rw [u64v_fit hfit.out, u64ok_fit hfit.out, hz.out]; rfl, rfl⟩
    · obtain ⟨i, rfl⟩ : ∃ i, j = i + 1 := ⟨j - 1, by omega⟩
      have hi : (((i + 1 : Nat) : Int) - 1) = (i : Int) := by omega
      rw [hi]
      by_cases h3 : 3 ≤ s
      · have hi2 : i + 1 = s := HB.out h3
        have hbig : Hid (18446744073709551616 ≤ v) := big_of_len (m := s - 3) (by have := HS.out; omega)
        have hgt : (1 : Int) < (i : Int) := by omega
        clear hi
        go_wp2_with fail
        go_ret2
        exact ⟨by rw [u64v_big hbig.out, u64ok_big hbig.out]; rfl, rfl⟩
      · have hii : i < (limbs v).length := by have := HS.out; omega
        have hxc := HL.out.cell i (by rw [← HV.out]; exact hii)
        have hxi := fun ww => H0.out.ix (z := (i : Int)) (by omega) (n := l.length) (by omega) (Nat.le_refl _) c ww
        have hxl := lm_lt HL.out.lim i
        rw [Int.toNat_natCast] at hxi
        rw [← HV.out] at hxc hxl
        have hle1 : (i : Int) ≤ 1 := by omega
        have hx32 : x < 4294967296 := by
          rw [HX.out]
          have h5 := val_lt (lim_drop (lim_limbs v) (i + 1))
          have h6 : ((limbs v).drop (i + 1)).length ≤ 1 := by rw [List.length_drop]; have := HS.out; omega
          have h7 := bp_mono h6
          rw [show bp 1 = 4294967296 from rfl] at h7
          omega
        have hor : Go.bits .or .u64 ((x : Int) * 4294967296) ((lm (limbs v) i : Nat) : Int) = (x : Int) * 4294967296 + ((lm (limbs v) i : Nat) : Int) := or_u64 hx32 hxl
        clear hi hii
        go_wp2_with fail
        go_round
        case rel =>
          refine ⟨i, x * 4294967296 + lm (limbs v) i, by omega, by go_num, by go_num, ?_, fun h => absurd h h3⟩
          rw [drop_at (by have := HS.out; omega), ← HX.out]
          omega
        case measure => simp [intOf]
end Go.Proofs.YtfdjlkffhikaeaaDoor
