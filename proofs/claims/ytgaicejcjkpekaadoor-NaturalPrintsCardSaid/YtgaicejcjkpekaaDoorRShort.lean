/- The reference: short. -/
import Derived.Test.YtgaicejcjkpekaaDoorWord
import Derived.Test.YtgaicejcjkpekaaDoorSmall
namespace Go.Proofs.YtgaicejcjkpekaaDoor
open Go.RowKit Nt

/-- A number and a small rest. -/
def RetShort (q r : Nat) (w : World) (e : Ending) (w' : World) : Prop :=
  ∃ p c, e = .returned (.tuple #[.slice p (limbs q).length c, .int .u32 ((r : Nat) : Int)]) ∧ Below w.heap.size w w' ∧ Mine w.heap.size w' p c (limbs q)

set_option maxRecDepth 100000 in
set_option maxHeartbeats 1000000 in
theorem rshort_ok (p0 : Option Addr) (n0 c0 : Nat) (l0 : List Nat) (d : Nat) (w : World) (h : NatIn w p0 c0 l0) (hn : l0.length = n0) (hs : n0 ≤ 100000000) (hd : 0 < d) (hd2 : d < 4294967296) :
    Calls Tryd.prog 30 #[.slice p0 n0 c0, .int .u32 (d : Int)] w (RetShort (val l0 / d) (val l0 % d) w) := by
  subst hn
  have H0 := Lib.hid h
  have hd1 : (1 : Int) ≤ (d : Int) := by omega
  have hlow := limbs_length_val_le h.lim
  obtain ⟨v, hv⟩ : ∃ v, v = val l0 := ⟨_, rfl⟩
  rw [← hv] at hlow ⊢
  have HV0 := Lib.hid hv
  clear h hv
  go_enter Tryd.func30, Tryd.ntmps30
  go_wp2_with fail
  refine (rtrim_ok p0 _ c0 l0 _ H0.out rfl (by omega)).mono ?_
  rintro e w1 ⟨p, c, rfl, hb1, hm1⟩
  rw [← HV0.out] at hm1 ⊢
  obtain ⟨l, hl⟩ : ∃ l, l = limbs v := ⟨_, rfl⟩
  rw [← hl] at hm1 hlow ⊢
  have HLv : Hid (val l = v) := by rw [hl, val_limbs]; rfl
  have H := Lib.hid hm1
  have hle := hm1.2.1
  have hcap := hm1.2.2.1
  have HB1 := Lib.hid hb1
  clear hm1 hb1 hl
  go_wp2_with fail
  go_loopw [7, 8] (fun rv iv wr => ∃ (k r : Nat) (L : List Nat), k ≤ l.length ∧ iv = .int .i64 ((k : Int) - 1) ∧ rv = .int .u64 r ∧ r < d ∧ L.length = l.length ∧ Mine w.heap.size wr p c L ∧ Below w.heap.size w wr ∧ (∀ j, j < k → lm L j = lm l j) ∧
      val (L.drop k) * d + r = val (l.drop k)) (fun _ iv _ => (intOf iv + 1).toNat)
  case atStart => exact ⟨l.length, 0, l, Nat.le_refl _, rfl, rfl, hd, rfl, H.out, HB1.out, fun _ _ => rfl, by simp [val]⟩
  case round =>
    obtain ⟨k, r, L, hk, rfl, rfl, hr, hL, hM, hO, ht, hI⟩ := hrel
    have HL := Lib.hid hL
    have HM := Lib.hid hM
    have HO := Lib.hid hO
    have HT := Lib.hid ht
    have HI := Lib.hid hI
    clear hL hM hO ht hI
    by_cases h0 : 0 < k
    · obtain ⟨j, rfl⟩ : ∃ j, k = j + 1 := ⟨k - 1, by omega⟩
      rw [show (((j + 1 : Nat) : Int) - 1) = (j : Int) from by omega]
      have hjL : j < L.length := by have := HL.out; omega
      have hxc := HM.out.natIn.cell j hjL
      have hxi := fun ww => HM.out.natIn.ix (z := (j : Int)) (by omega) (n := l.length) (by omega) (by have := HL.out; omega) c ww
      have hof := HM.out.frozen (by omega) (ofs p + j)
      have hx := lm_lt HM.out.natIn.lim j
      rw [Int.toNat_natCast] at hxi
      have hor := or_u64 (r := r) (x := lm L j) (by omega) hx
      have hq : (r * 4294967296 + lm L j) / d < 4294967296 := by
        apply Nat.div_lt_of_lt_mul
        have : (r + 1) * 4294967296 ≤ d * 4294967296 := Nat.mul_le_mul_right _ hr
        omega
      have hqi : (((r : Int) * 4294967296 + ((lm L j : Nat) : Int)) / (d : Int)) = (((r * 4294967296 + lm L j) / d : Nat) : Int) := by
        rw [Int.natCast_ediv, Int.natCast_add, Int.natCast_mul]; rfl
      have HQ := Lib.hid hqi
      have hlj := HT.out j (by omega)
      have HLJ := Lib.hid hlj
      clear hlj
      obtain ⟨q, hqd⟩ : ∃ q, q = (r * 4294967296 + lm L j) / d := ⟨_, rfl⟩
      rw [← hqd] at hqi hq
      have HQD := Lib.hid hqd
      clear hqd
      go_wp2_with fail
      have hge := HM.out.ge (by omega)
      go_roundw
      case rel =>
        refine ⟨j, (r * 4294967296 + lm L j) % d, L.set j q, by omega, rfl, ?_, Nat.mod_lt _ hd, by rw [List.length_set]; exact HL.out, HM.out.set hjL hq (by omega), below_set HO.out hge _, ?_, ?_⟩
        · rw [Int.natCast_emod, Int.natCast_add, Int.natCast_mul]; rfl
        · intro i hi
          rw [lm_set_ne (by omega)]
          exact HT.out i (by omega)
        · rw [HQD.out, HLJ.out]
          exact small_step hjL (by omega) HI.out
      case measure => simp [intOf]
    · obtain rfl : k = 0 := by omega
      rw [show (((0 : Nat) : Int) - 1) = -1 from by omega]
      have hend := HI.out
      rw [List.drop_zero, List.drop_zero] at hend
      have hend2 := small_end hr hend
      rw [HLv.out] at hend2
      have H1 := Lib.hid hend2.1
      have H2 := Lib.hid hend2.2
      have hr32 : r < 4294967296 := by omega
      clear hend hend2
      go_wp2_with fail
      refine (rtrim_ok p _ c L _ HM.out.natIn HL.out (by omega)).mono ?_
      rintro e w3 hR
      obtain ⟨p3, c3, rfl, hb3, hm3⟩ := hR.behind HO.out
      rw [H1.out] at hm3 ⊢
      have HB3 := Lib.hid hb3
      have HM3 := Lib.hid hm3
      clear hb3 hm3 hR
      go_wp2_with fail
      go_ret2
      exact ⟨p3, c3, by rw [← H2.out]; rfl, HB3.out, HM3.out⟩
end Go.Proofs.YtgaicejcjkpekaaDoor
