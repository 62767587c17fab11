/- The plain law of a foreseen step (Lehmer). No program. -/
import Derived.Test.YtfdjlkffhikaeaaDoorMath
namespace Go.Proofs.YtfdjlkffhikaeaaDoor.Nt

/-- Between two cut values: with 0 ≤ al, be ≤ D - 1 and signs apart, D * n + z * al + w * be lies between D * (n + min) and D * (n + max). -/
theorem cut_between {D n z w al be : Int} (hz : 0 ≤ z) (hw : w ≤ 0) (ha0 : 0 ≤ al) (ha : al ≤ D) (hb0 : 0 ≤ be) (hb : be ≤ D) :
    D * (n + w) ≤ D * n + z * al + w * be ∧ D * n + z * al + w * be ≤ D * (n + z) := by
  have h1 : 0 ≤ z * al := Int.mul_nonneg hz ha0
  have h2 : z * al ≤ z * D := Int.mul_le_mul_of_nonneg_left ha hz
  have h3 : 0 ≤ (-w) * be := Int.mul_nonneg (by omega) hb0
  have h4 : (-w) * be ≤ (-w) * D := Int.mul_le_mul_of_nonneg_left hb (by omega)
  rw [Int.neg_mul] at h3
  rw [Int.neg_mul, Int.neg_mul] at h4
  rw [Int.mul_add, Int.mul_add, Int.mul_comm D w, Int.mul_comm D z]
  omega

/-- The loop's law: the leading parts, the factors, the true numbers. -/
structure Lm (D m0 n0 al be A B m n x y z w a1 b1 : Int) : Prop where
  hm : m = x * m0 + y * n0
  hn : n = z * m0 + w * n0
  ha : a1 = x * A + y * B
  hb : b1 = z * A + w * B
  p1 : 0 ≤ m + x
  p2 : 0 ≤ m + y
  p3 : 0 ≤ n + z
  p4 : 0 ≤ n + w
  sg : (0 ≤ x ∧ y ≤ 0 ∧ z ≤ 0 ∧ 0 ≤ w) ∨ (x ≤ 0 ∧ 0 ≤ y ∧ 0 ≤ z ∧ w ≤ 0)

theorem Lm.low {D m0 n0 al be A B m n x y z w a1 b1 : Int} (h : Lm D m0 n0 al be A B m n x y z w a1 b1) (hA : A = D * m0 + al) (hB : B = D * n0 + be) : b1 = D * n + z * al + w * be := by
  rw [h.hb, hA, hB, h.hn]
  grind

theorem Lm.step {D m0 n0 al be A B m n x y z w a1 b1 q : Int} (h : Lm D m0 n0 al be A B m n x y z w a1 b1) (hA : A = D * m0 + al) (hB : B = D * n0 + be) (hD : 0 < D)
    (ha0 : 0 ≤ al) (ha1 : al ≤ D) (hb0 : 0 ≤ be) (hb1 : be ≤ D) (hz : 0 < n + z) (hw : 0 < n + w) (hq1 : q = (m + x) / (n + z)) (hq2 : q = (m + y) / (n + w)) :
    Lm D m0 n0 al be A B n (m - q * n) z w (x - q * z) (y - q * w) b1 (a1 - q * b1) ∧ 0 ≤ a1 - q * b1 ∧ a1 - q * b1 < b1 := by
  have r1 : 0 ≤ (m + x) - q * (n + z) ∧ (m + x) - q * (n + z) < n + z := by
    have e := Int.emod_add_mul_ediv (m + x) (n + z)
    have e1 := Int.emod_nonneg (m + x) (by omega : n + z ≠ 0)
    have e2 := Int.emod_lt_of_pos (m + x) hz
    rw [← hq1, Int.mul_comm] at e
    omega
  have r2 : 0 ≤ (m + y) - q * (n + w) ∧ (m + y) - q * (n + w) < n + w := by
    have e := Int.emod_add_mul_ediv (m + y) (n + w)
    have e1 := Int.emod_nonneg (m + y) (by omega : n + w ≠ 0)
    have e2 := Int.emod_lt_of_pos (m + y) hw
    rw [← hq2, Int.mul_comm] at e
    omega
  have hq0 : 0 ≤ q := by rw [hq1]; exact Int.ediv_nonneg h.p1 (by omega)
  have e1 : (m - q * n) + (x - q * z) = (m + x) - q * (n + z) := by grind
  have e2 : (m - q * n) + (y - q * w) = (m + y) - q * (n + w) := by grind
  have hN : Lm D m0 n0 al be A B n (m - q * n) z w (x - q * z) (y - q * w) b1 (a1 - q * b1) := by
    refine ⟨h.hn, by rw [h.hm, h.hn]; grind, h.hb, by rw [h.ha, h.hb]; grind, h.p3, h.p4, by omega, by omega, ?_⟩
    rcases h.sg with ⟨s1, s2, s3, s4⟩ | ⟨s1, s2, s3, s4⟩
    · right
      have t1 : 0 ≤ q * (-z) := Int.mul_nonneg hq0 (by omega)
      have t2 : 0 ≤ q * w := Int.mul_nonneg hq0 s4
      rw [Int.mul_neg] at t1
      exact ⟨s3, s4, by omega, by omega⟩
    · left
      have t1 : 0 ≤ q * z := Int.mul_nonneg hq0 s3
      have t2 : 0 ≤ q * (-w) := Int.mul_nonneg hq0 (by omega)
      rw [Int.mul_neg] at t2
      exact ⟨s3, s4, by omega, by omega⟩
  have L1 := h.low hA hB
  have L2 := hN.low hA hB
  refine ⟨hN, ?_, ?_⟩
  · rcases hN.sg with ⟨s1, s2, s3, s4⟩ | ⟨s1, s2, s3, s4⟩
    · have c := (cut_between (n := m - q * n) s4 s3 hb0 hb1 ha0 ha1).1
      have d : 0 ≤ D * (m - q * n + (x - q * z)) := Int.mul_nonneg (by omega) (by omega)
      omega
    · have c := (cut_between (n := m - q * n) s3 s4 ha0 ha1 hb0 hb1).1
      have d : 0 ≤ D * (m - q * n + (y - q * w)) := Int.mul_nonneg (by omega) (by omega)
      omega
  · rcases hN.sg with ⟨s1, s2, s3, s4⟩ | ⟨s1, s2, s3, s4⟩
    · have c := (cut_between (n := m - q * n) s4 s3 hb0 hb1 ha0 ha1).2
      have c2 := (cut_between (n := n) s1 s2 ha0 ha1 hb0 hb1).1
      have d : D * (m - q * n + (y - q * w)) ≤ D * (n + w - 1) := Int.mul_le_mul_of_nonneg_left (by omega) (by omega)
      rw [Int.mul_sub, Int.mul_one] at d
      omega
    · have c := (cut_between (n := m - q * n) s3 s4 ha0 ha1 hb0 hb1).2
      have c2 := (cut_between (n := n) s2 s1 hb0 hb1 ha0 ha1).1
      have d : D * (m - q * n + (x - q * z)) ≤ D * (n + z - 1) := Int.mul_le_mul_of_nonneg_left (by omega) (by omega)
      rw [Int.mul_sub, Int.mul_one] at d
      omega
end Go.Proofs.YtfdjlkffhikaeaaDoor.Nt
