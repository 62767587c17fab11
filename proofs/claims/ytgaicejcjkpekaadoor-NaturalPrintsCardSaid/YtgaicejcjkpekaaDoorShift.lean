/- natural.shift. -/
import Derived.Test.YtgaicejcjkpekaaDoorBase
namespace Go.Proofs.YtgaicejcjkpekaaDoor
open Go.RowKit Nt

theorem or_shift {c x s : Nat} (hc : c < 2 ^ s) (hs : s < 32) (hx : x < 4294967296) : Go.bits .or .u64 (c : Int) ((x * 2 ^ s : Nat) : Int) = ((c + x * 2 ^ s : Nat) : Int) := by
  have h1 : 2 ^ s ≤ 2 ^ 31 := Nat.pow_le_pow_right (by omega) (by omega)
  have h2 : x * 2 ^ s ≤ 4294967295 * 2 ^ 31 := Nat.mul_le_mul (by omega) h1
  rw [bits_or_u64_nat _ _ (by omega) (by omega), or_low hc]

set_option maxRecDepth 100000 in
set_option maxHeartbeats 1000000 in
theorem shift_ok (p : Option Addr) (n cp : Nat) (l : List Nat) (s : Nat) (w : World) (h : NatIn w p cp l) (hn : l.length = n) (hs : s < 32) (sz : n ≤ 1000000000) :
    Calls Tryd.prog 49 #[.slice p n cp, .int .i64 (s : Int)] w fun e w' =>
      ∃ L, e = .returned (.slice (some ⟨w.heap.size, 0, none⟩) (n + 1) (n + 1)) ∧ L.length = n + 1 ∧ val L = val l * 2 ^ s ∧ Lim L ∧ Own w' w.heap.size L ∧ Below w.heap.size w w' := by
  subst hn
  have H := Lib.hid h
  have hle := h.le
  clear h
  go_enter Tryd.func49, Tryd.ntmps49
  go_wp2_with (at_make; refine wpList_mk _ rfl _ _ rfl (l.length + 1) rfl rfl (by omega) (by omega) ?_)
  intro w1 hsz hown hbel
  have HO1 := Lib.hid hown
  have HB1 := Lib.hid hbel
  clear hown hbel
  go_wp2_with fail
  go_loopw [6, 15] (fun cv iv wr => ∃ (k c : Nat) (L : List Nat), k ≤ l.length ∧ iv = .int .i64 k ∧ cv = .int .u64 c ∧ c < 2 ^ s ∧ L.length = l.length + 1 ∧ Lim L ∧ Own wr w.heap.size L ∧ Below w.heap.size w wr ∧
      val (L.take k) + bp k * c = val (l.take k) * 2 ^ s) (fun _ iv _ => l.length - (intOf iv).toNat)
  case atStart => exact ⟨0, 0, _, Nat.zero_le _, rfl, rfl, Nat.two_pow_pos s, by simp, lim_zeros _, HO1.out, HB1.out, by simp [val]⟩
  case round =>
    obtain ⟨k, c, L, hk, rfl, rfl, hc, hL, hlim, hO, hbl, hI⟩ := hrel
    have HL := Lib.hid hL
    have HO := Lib.hid hO
    have HBl := Lib.hid hbl
    have HI := Lib.hid hI
    have HLim := Lib.hid hlim
    have hLb : l.length < L.length := by omega
    have h31 : 2 ^ s ≤ 2 ^ 31 := Nat.pow_le_pow_right (by omega) (by omega)
    clear hL hO hbl hI hlim
    by_cases hlt : k < l.length
    · have hxc := (H.out.keep HBl.out).cell k hlt
      have hxi := fun ww => H.out.ix (z := (k : Int)) (by omega) (n := l.length) (by omega) (Nat.le_refl _) cp ww
      have hx := lm_lt H.out.lim k
      rw [Int.toNat_natCast] at hxi
      have hoc := HO.out.cell (i := k) (by omega)
      have hof := HO.out.frozen k
      have hor := or_shift hc hs hx
      obtain ⟨X, hX⟩ : ∃ X, X = lm l k * 2 ^ s := ⟨_, rfl⟩
      have hXb : X ≤ 9223372034707292160 := by
        rw [hX]
        exact Nat.mul_le_mul (show lm l k ≤ 4294967295 by omega) h31
      have hXi : ((lm l k : Nat) : Int) * 2 ^ s = (X : Int) := by rw [hX, Int.natCast_mul, Int.natCast_pow]; rfl
      rw [← hX] at hor
      have HX := Lib.hid hX
      have HC := Lib.hid hc
      have hc2 : c < 2147483648 := Nat.lt_of_lt_of_le hc h31
      clear hX h31 hc
      go_wp2_with fail
      go_roundw
      case rel =>
        refine ⟨k + 1, (c + X) / 4294967296, L.set k ((c + X) % 4294967296), by omega, by go_num, by go_num, ?_, by rw [List.length_set]; exact HL.out, lim_set HLim.out (by omega), HO.out.set (by omega), below_set HBl.out (Nat.le_refl _) _, ?_⟩
        · rw [HX.out]; exact shift_carry HC.out hx
        · rw [HX.out]; exact shift_step (by omega) HI.out
      case measure => simp [intOf]; omega
    · obtain rfl : k = l.length := by omega
      have hoc := HO.out.cell (i := l.length) (by omega)
      have hof := HO.out.frozen l.length
      have hc2 : c < 4294967296 := by omega
      have hval : Hid (val (L.set l.length c) = val l * 2 ^ s) := by
        have h1 := HI.out
        rw [val_take_all (l := l) (Nat.le_refl _)] at h1
        show _ = _
        rw [← h1]
        exact add_last HL.out
      clear h31 hc
      go_wp2_with fail
      go_ret
      exact ⟨L.set l.length c, rfl, by rw [List.length_set]; exact HL.out, hval.out, lim_set HLim.out hc2, HO.out.set (by omega), below_set HBl.out (Nat.le_refl _) _⟩
end Go.Proofs.YtgaicejcjkpekaaDoor
