/- natural.small. -/
import Derived.Test.YtgaicejcjkpekaaDoorBase
namespace Go.Proofs.YtgaicejcjkpekaaDoor
open Go.RowKit Nt

set_option maxRecDepth 100000 in
set_option maxHeartbeats 1000000 in
theorem small_ok (B0 : Nat) (p : Option Addr) (n c : Nat) (l : List Nat) (d : Nat) (w : World) (h : Mine B0 w p c l) (hn : l.length = n) (hd : 0 < d) (hd2 : d < 4294967296) :
    Calls Tryd.prog 22 #[.slice p n c, .int .u32 (d : Int)] w fun e w' =>
      ∃ L, e = .returned (.int .u32 ((val l % d : Nat) : Int)) ∧ L.length = n ∧ val L = val l / d ∧ Mine B0 w' p c L ∧ Wrote n w w' p := by
  subst hn
  have H := Lib.hid h
  have hle := h.2.1
  have hcap := h.2.2.1
  clear h
  have hd1 : (1 : Int) ≤ (d : Int) := by omega
  go_enter Tryd.func22, Tryd.ntmps22
  go_wp2_with fail
  go_loopw [5, 6] (fun rv iv wr => ∃ (k r : Nat) (L : List Nat), k ≤ l.length ∧ iv = .int .i64 ((k : Int) - 1) ∧ rv = .int .u64 r ∧ r < d ∧ L.length = l.length ∧ Mine B0 wr p c L ∧ Wrote l.length w wr p ∧ (∀ j, j < k → lm L j = lm l j) ∧
      val (L.drop k) * d + r = val (l.drop k)) (fun _ iv _ => (intOf iv + 1).toNat)
  case atStart => exact ⟨l.length, 0, l, Nat.le_refl _, rfl, rfl, hd, rfl, H.out, Wrote.refl _ _ _, fun _ _ => rfl, by simp [val]⟩
  case round =>
    obtain ⟨k, r, L, hk, rfl, rfl, hr, hL, hM, hO, ht, hI⟩ := hrel
    have HL := Lib.hid hL
    have HM := Lib.hid hM
    have HO := Lib.hid hO
    have HT := Lib.hid ht
    have HI := Lib.hid hI
    clear hL hM hO ht hI
    by_cases h0 : 0 < k
    · obtain ⟨j, rfl⟩ : ∃ j, k = j + 1 := ⟨k - 1, by omega⟩
      rw [show (((j + 1 : Nat) : Int) - 1) = (j : Int) from by omega]
      have hjL : j < L.length := by have := HL.out; omega
      have hxc := HM.out.natIn.cell j hjL
      have hxi := fun ww => HM.out.natIn.ix (z := (j : Int)) (by omega) (n := l.length) (by omega) (by have := HL.out; omega) c ww
      have hof := HM.out.frozen (by omega) (ofs p + j)
      have hx := lm_lt HM.out.natIn.lim j
      rw [Int.toNat_natCast] at hxi
      have hor := or_u64 (r := r) (x := lm L j) (by omega) hx
      have hq : (r * 4294967296 + lm L j) / d < 4294967296 := by
        apply Nat.div_lt_of_lt_mul
        have : (r + 1) * 4294967296 ≤ d * 4294967296 := Nat.mul_le_mul_right _ hr
        omega
      have hqi : (((r : Int) * 4294967296 + ((lm L j : Nat) : Int)) / (d : Int)) = (((r * 4294967296 + lm L j) / d : Nat) : Int) := by
        rw [Int.natCast_ediv, Int.natCast_add, Int.natCast_mul]; rfl
      have HQ := Lib.hid hqi
      have hlj := HT.out j (by omega)
      have HLJ := Lib.hid hlj
      clear hlj
      obtain ⟨q, hqd⟩ : ∃ q, q = (r * 4294967296 + lm L j) / d := ⟨_, rfl⟩
      rw [← hqd] at hqi hq
      have HQD := Lib.hid hqd
      clear hqd
      go_wp2_with fail
      have hge := HM.out.ge (by omega)
      go_roundw
      case rel =>
        refine ⟨j, (r * 4294967296 + lm L j) % d, L.set j q, by omega, rfl, ?_, Nat.mod_lt _ hd, by rw [List.length_set]; exact HL.out, HM.out.set hjL hq (by omega), HO.out.set (by omega) _ _, ?_, ?_⟩
        · rw [Int.natCast_emod, Int.natCast_add, Int.natCast_mul]; rfl
        · intro i hi
          rw [lm_set_ne (by omega)]
          exact HT.out i (by omega)
        · rw [HQD.out, HLJ.out]
          exact small_step hjL (by omega) HI.out
      case measure => simp [intOf]
    · obtain rfl : k = 0 := by omega
      rw [show (((0 : Nat) : Int) - 1) = -1 from by omega]
      have hend := HI.out
      rw [List.drop_zero, List.drop_zero] at hend
      have hend2 := small_end hr hend
      have H1 := Lib.hid hend2.1
      have H2 := Lib.hid hend2.2
      clear hend hend2
      go_wp2_with fail
      go_ret
      refine ⟨L, ?_, HL.out, H1.out, HM.out, HO.out⟩
      rw [← H2.out]; rfl
end Go.Proofs.YtgaicejcjkpekaaDoor
