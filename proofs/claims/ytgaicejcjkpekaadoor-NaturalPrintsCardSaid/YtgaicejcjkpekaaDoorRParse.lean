/- The reference: Parse. -/
import Derived.Test.YtgaicejcjkpekaaDoorRDigits
namespace Go.Proofs.YtgaicejcjkpekaaDoor
open Go.RowKit Nt

/-- What Parse returns. -/
def RetPar (l : List UInt8) (w : World) (e : Ending) (w' : World) : Prop :=
  ∃ p c, e = .returned (.tuple #[.slice p (limbs (pV l)).length c, .int .i64 (pE l)]) ∧ Below w.heap.size w w' ∧ Mine w.heap.size w' p c (limbs (pV l))
theorem par_bad {l : List UInt8} (h : good l = false) : pV l = 0 ∧ pE l = 13 := by
  unfold pV pE; rw [h]; exact ⟨rfl, rfl⟩
theorem par_long {l : List UInt8} (h : good l = true) (h2 : 4096 < l.length) : pV l = 0 ∧ pE l = 14 := by
  unfold pV pE; rw [h, if_pos rfl, if_pos rfl, if_pos h2, if_pos h2]; exact ⟨rfl, rfl⟩
theorem par_good {l : List UInt8} (h : good l = true) (h2 : l.length ≤ 4096) : pV l = dval l ∧ pE l = 0 := by
  unfold pV pE; rw [h, if_pos rfl, if_pos rfl, if_neg (by omega), if_neg (by omega)]; exact ⟨rfl, rfl⟩
theorem ret_par0 {l : List UInt8} {z : Int} {w w' : World} (h : pV l = 0 ∧ pE l = z) (hb : Below w.heap.size w w') : RetPar l w (.returned (.tuple #[.slice none 0 0, .int .i64 z])) w' := by
  refine ⟨none, 0, ?_, hb, ?_⟩
  · rw [h.1, h.2, limbs_zero]; rfl
  · rw [h.1]; exact mine_zero _ _
theorem len_size (s : ByteArray) : s.data.toList.length = s.size := by simp
theorem head_at {s : ByteArray} (h : 0 < s.size) : s.data.toList.head? = some s[0] := by
  have e : s[0] = s.data.toList[0]'(by simpa using h) := rfl
  rw [e, List.head?_eq_getElem?, List.getElem?_eq_getElem (by simpa using h)]
theorem bad_at {s : ByteArray} {k : Nat} (hk : k < s.size) (h : ¬ (48 ≤ s[k].toNat ∧ s[k].toNat ≤ 57)) : good s.data.toList = false := by
  rw [Bool.eq_false_iff]
  intro hg
  exact h (isD_at (good_iff.1 hg).2.2 hk)
theorem bad_nil {s : ByteArray} (h : s.size = 0) : good s.data.toList = false := by
  rw [Bool.eq_false_iff]
  intro hg
  exact (good_iff.1 hg).1 (List.length_eq_zero_iff.1 (by rw [len_size]; exact h))
theorem bad_zero {s : ByteArray} (h : 1 < s.size) (h0 : s[0].toNat = 48) : good s.data.toList = false := by
  rw [Bool.eq_false_iff]
  intro hg
  rcases (good_iff.1 hg).2.1 with h1 | h1
  · rw [len_size] at h1; omega
  · apply h1
    rw [head_at (by omega)]
    congr 1
    exact UInt8.toNat_inj.1 h0
theorem good_of {s : ByteArray} (h0 : 0 < s.size) (h1 : s.size = 1 ∨ s[0].toNat ≠ 48) (h : s.data.toList.all isD = true) : good s.data.toList = true := by
  refine good_iff.2 ⟨?_, ?_, h⟩
  · intro e
    have := len_size s
    rw [e] at this
    simp at this
    omega
  · rcases h1 with h1 | h1
    · exact .inl (by rw [len_size]; exact h1)
    · right
      rw [head_at h0]
      intro e
      simp only [Option.some.injEq] at e
      rw [e] at h1
      exact h1 rfl

set_option maxRecDepth 100000 in
set_option maxHeartbeats 2000000 in
theorem rparse_ok (s : ByteArray) (w : World) (hs : s.size ≤ 100000) :
    Calls Tryd.prog 7 #[.string s] w (RetPar s.data.toList w) := by
  by_cases h0 : s.size = 0
  · have hb := Lib.hid (par_bad (bad_nil h0))
    have hz : ((s.size : Int) == 0) = true := by rw [beq_iff_eq]; omega
    go_enter Tryd.func7, Tryd.ntmps7
    go_wp2_with fail
    go_ret2
    exact ret_par0 hb.out (Below.refl _ _)
  have hp : 0 < s.size := by omega
  have hz : ((s.size : Int) == 0) = false := by rw [beq_eq_false_iff_ne]; omega
  have hz2 : ¬ (s.size : Int) = 0 := by omega
  by_cases h1 : 1 < s.size ∧ s[0].toNat = 48
  · have hb := Lib.hid (par_bad (bad_zero h1.1 h1.2))
    have hc : ((s[0].toNat : Int) == 48) = true := by rw [beq_iff_eq]; omega
    have hg : (1 : Int) < (s.size : Int) := by omega
    clear h0 h1
    go_enter Tryd.func7, Tryd.ntmps7
    go_wp2_with fail
    go_ret2
    exact ret_par0 hb.out (Below.refl _ _)
  have HC : Hid (s.size = 1 ∨ s[0].toNat ≠ 48) := by
    show _ ∨ _
    omega
  go_enter Tryd.func7, Tryd.ntmps7
  go_wp2_with fail
  all_goals
    go_loopg [20] (s.size + 1) (fun gk iv wr => ∃ k : Nat, k ≤ s.size ∧ iv = .int .i64 k ∧ (s.data.toList.take k).all isD = true ∧ w = wr ∧ s.size - k < gk)
    case atStart => exact ⟨0, Nat.zero_le _, rfl, rfl, rfl, by omega⟩
    case round =>
      obtain ⟨k, hk, rfl, hall, rfl, hgk⟩ := hrel
      have HALL := Lib.hid hall
      have HGK := Lib.hid hgk
      clear hall hgk
      by_cases hlt : k < s.size
      · by_cases hd : 48 ≤ s[k].toNat ∧ s[k].toNat ≤ 57
        · have hlo := hd.1
          have hhi := hd.2
          have HD := Lib.hid (isD_iff.2 hd)
          have n1 : ¬ (s[k].toNat : Int) < 48 := by omega
          have n2 : ¬ (57 : Int) < (s[k].toNat : Int) := by omega
          clear hd
          go_wp2_with fail
          go_roundg (s.size - k)
          case measure => exact HGK.out
          case rel => exact ⟨k + 1, by omega, by go_num, by rw [take_succ' s k hlt, List.all_append, HALL.out]; simp [HD.out], rfl, by omega⟩
        · have hb := Lib.hid (par_bad (bad_at hlt hd))
          by_cases hlo : s[k].toNat < 48
          · have n1 : (s[k].toNat : Int) < 48 := by omega
            clear hd
            go_wp2_with fail
            go_ret2
            exact ret_par0 hb.out (Below.refl _ _)
          · have n1 : ¬ (s[k].toNat : Int) < 48 := by omega
            have n2 : (57 : Int) < (s[k].toNat : Int) := by omega
            clear hd
            go_wp2_with fail
            go_ret2
            exact ret_par0 hb.out (Below.refl _ _)
      · obtain rfl : s.size = k := by omega
        have hall : s.data.toList.all isD = true := by
          have := HALL.out
          rwa [List.take_of_length_le (by simp)] at this
        have hg := Lib.hid (good_of hp HC.out hall)
        have HA := Lib.hid hall
        clear hall
        by_cases hlong : 4096 < s.size
        · have hb := Lib.hid (par_long hg.out (by rw [len_size]; exact hlong))
          have hl : (4096 : Int) < (s.size : Int) := by omega
          go_wp2_with fail
          go_ret2
          exact ret_par0 hb.out (Below.refl _ _)
        · have hb := Lib.hid (par_good hg.out (by rw [len_size]; omega))
          have hl : ¬ (4096 : Int) < (s.size : Int) := by omega
          go_wp2_with fail
          refine (rdigits_ok s _ hs HA.out).mono ?_
          rintro e w2 ⟨p2, c2, rfl, hb2, hm2⟩
          have HB2 := Lib.hid hb2
          have HM2 := Lib.hid hm2
          clear hb2 hm2
          go_wp2_with fail
          go_ret2
          exact ⟨p2, c2, by rw [hb.out.1, hb.out.2]; rfl, HB2.out, by rw [hb.out.1]; exact HM2.out⟩
end Go.Proofs.YtgaicejcjkpekaaDoor
