/- natural.above: a number without its last bits, if this has at most 32 bits. -/
import Derived.Test.YtfdjlkffhikaeaaDoorWord
import Derived.Test.YtfdjlkffhikaeaaDoorShift
namespace Go.Proofs.YtfdjlkffhikaeaaDoor
open Go.RowKit Nt

theorem or_zero_u64 {x : Nat} (h : x < 4294967296) : Go.bits .or .u64 0 (x : Int) = (x : Int) := by
  have := bits_or_u64_nat 0 x (by omega) (by omega)
  rw [Nat.zero_or] at this
  exact this
theorem or_next {o x : Nat} (ho : o < 4294967296) (hx : x < 4294967296) : Go.bits .or .u64 (o : Int) ((x : Int) * 4294967296) = (o : Int) + (x : Int) * 4294967296 := by
  have h1 := bits_or_u64_nat o (x * 2 ^ 32) (by omega) (by omega)
  rw [or_low (s := 32) ho] at h1
  have e : ((x * 2 ^ 32 : Nat) : Int) = (x : Int) * 4294967296 := by rw [Int.natCast_mul]; rfl
  have e2 : ((o + x * 2 ^ 32 : Nat) : Int) = (o : Int) + (x : Int) * 4294967296 := by rw [Int.natCast_add, e]
  rw [e, e2] at h1
  exact h1
theorem above_val {l : List Nat} {b q s : Nat} (hl : Lim l) (hq : q = b / 32) (hs : s = b % 32) (h : val l / 2 ^ b < 4294967296) : (lm l q + 4294967296 * lm l (q + 1)) / 2 ^ s = val l / 2 ^ b := by
  have e0 : val l / 2 ^ b = val l / bp q / 2 ^ s := by
    rw [Nat.div_div_eq_div_mul, bp_two_pow, ← Nat.pow_add]
    congr 2
    omega
  have h1 := lm_val hl q
  have h2 := lm_val hl (q + 1)
  rw [bp_succ, Nat.mul_comm, ← Nat.div_div_eq_div_mul] at h2
  rw [e0] at h ⊢
  have h3 : val l / bp q < 4294967296 * 2 ^ s := by
    have := (Nat.div_lt_iff_lt_mul (Nat.two_pow_pos s)).1 h
    omega
  have h4 : 2 ^ s ≤ 2 ^ 31 := Nat.pow_le_pow_right (by omega) (by omega)
  generalize val l / bp q = Vq at h1 h2 h3 ⊢
  have h5 : lm l q + 4294967296 * lm l (q + 1) = Vq := by omega
  rw [h5]

set_option maxRecDepth 100000 in
set_option maxHeartbeats 1000000 in
theorem above_ok (p : Option Addr) (n c : Nat) (l : List Nat) (b : Nat) (w : World) (h : NatIn w p c l) (hn : l.length = n) (hs : n ≤ 100000000) (hb : b ≤ 1000000000000) (hv : val l / 2 ^ b < 4294967296) :
    Calls Tryd.prog 64 #[.slice p n c, .int .i64 (b : Int)] w fun e w' => e = .returned (.int .i64 ((val l / 2 ^ b : Nat) : Int)) ∧ w = w' := by
  subst hn
  obtain ⟨q, hq⟩ : ∃ q, q = b / 32 := ⟨_, rfl⟩
  obtain ⟨s, hss⟩ : ∃ s, s = b % 32 := ⟨_, rfl⟩
  have hqi : (b : Int) / 32 = (q : Int) := by omega
  have hsi : (b : Int) % 32 = (s : Int) := by omega
  have hs32 : s < 32 := by omega
  have hA := above_val h.lim hq hss hv
  obtain ⟨V, hV⟩ : ∃ V, V = val l / 2 ^ b := ⟨_, rfl⟩
  rw [← hV] at hv hA ⊢
  have HA := Lib.hid hA
  clear hA hV
  have H := Lib.hid h
  have hqb : q ≤ 1000000000000 := by omega
  have HV := Lib.hid hv
  have hx := lm_lt h.lim q
  have hy := lm_lt h.lim (q + 1)
  have hor0 := or_zero_u64 hx
  have hor1 := or_next hx hy
  have hor2 := or_next (o := 0) (by omega) hy
  obtain ⟨X, hX⟩ : ∃ X, X = lm l q := ⟨_, rfl⟩
  obtain ⟨Y, hY⟩ : ∃ Y, Y = lm l (q + 1) := ⟨_, rfl⟩
  rw [← hX] at HA hx hor0 hor1
  rw [← hY] at HA hy hor1 hor2
  have HX := Lib.hid hX
  have HY := Lib.hid hY
  have hlow : q < l.length ∨ (l.length ≤ q ∧ X = 0 ∧ Y = 0) := by
    by_cases h1 : q < l.length
    · exact .inl h1
    · exact .inr ⟨by omega, by rw [hX]; exact lm_out (by omega), by rw [hY]; exact lm_out (by omega)⟩
  have hmid : q + 1 < l.length ∨ (l.length ≤ q + 1 ∧ Y = 0) := by
    by_cases h1 : q + 1 < l.length
    · exact .inl h1
    · exact .inr ⟨by omega, by rw [hY]; exact lm_out (by omega)⟩
  have HLo := Lib.hid hlow
  have HMi := Lib.hid hmid
  clear hq hss h hv hX hY hlow hmid
  go_enter Tryd.func64, Tryd.ntmps64
  go_wp2_with fail
  go_loop [5, 8] (fun ov iv => ∃ (i o : Nat), i ≤ 2 ∧ iv = .int .i64 i ∧ ov = .int .u64 o ∧ (i = 0 → o = 0) ∧ (i = 1 → o = X) ∧ (i = 2 → o = X + 4294967296 * Y)) (fun _ iv => 2 - (intOf iv).toNat)
  case atStart => exact ⟨0, 0, by omega, rfl, rfl, fun _ => rfl, fun h => by omega, fun h => by omega⟩
  case round =>
    obtain ⟨i, o, hi, rfl, rfl, h0, h1, h2⟩ := hrel
    rcases (by omega : i = 0 ∨ i = 1 ∨ i = 2) with rfl | rfl | rfl
    · obtain rfl := h0 rfl
      clear h0 h1 h2
      rcases HLo.out with hq0 | ⟨hq0, hX0, hY0⟩
      · have hxc := H.out.cell q hq0
        rw [← HX.out] at hxc
        have hxi := fun ww => H.out.ix (z := (q : Int)) (by omega) (n := l.length) (by omega) (Nat.le_refl _) c ww
        rw [Int.toNat_natCast] at hxi
        go_wp2_with fail
        go_round
        case rel => exact ⟨1, X, by omega, by go_num, by go_num, fun h => by omega, fun _ => rfl, fun h => by omega⟩
        case measure => simp [intOf]
      · have HX0 := Lib.hid hX0
        clear hX0 hY0
        go_wp2_with fail
        go_round
        case rel => exact ⟨1, 0, by omega, by go_num, rfl, fun h => by omega, fun _ => HX0.out.symm, fun h => by omega⟩
        case measure => simp [intOf]
    · obtain rfl := h1 rfl
      clear h0 h1 h2
      rcases HMi.out with hq0 | ⟨hq0, hY0⟩
      · have hxc := H.out.cell (q + 1) hq0
        rw [← HY.out] at hxc
        have hxi := fun ww => H.out.ix (z := (q : Int) + 1) (by omega) (n := l.length) (by omega) (Nat.le_refl _) c ww
        rw [show ((q : Int) + 1).toNat = q + 1 from by omega] at hxi
        go_wp2_with fail
        go_round
        case rel => exact ⟨2, o + 4294967296 * Y, by omega, by go_num, by go_num, fun h => by omega, fun h => by omega, fun _ => rfl⟩
        case measure => simp [intOf]
      · have HY0 := Lib.hid hY0
        clear hY0
        go_wp2_with fail
        go_round
        case rel => exact ⟨2, o, by omega, by go_num, rfl, fun h => by omega, fun h => by omega, fun _ => by rw [HY0.out]; omega⟩
        case measure => simp [intOf]
    · have ho := Lib.hid (h2 rfl)
      have hob : o < 18446744073709551616 := by rw [ho.out]; omega
      clear h0 h1 h2
      have hres : Hid ((o : Int) / 2 ^ s = (V : Int)) := by
        rw [← HA.out, ← ho.out, Int.natCast_ediv, Int.natCast_pow]; rfl
      have hV2 := HV.out
      have hr := hres.out
      go_wp2_with fail
      go_ret
      exact ⟨rfl, rfl⟩
end Go.Proofs.YtfdjlkffhikaeaaDoor
