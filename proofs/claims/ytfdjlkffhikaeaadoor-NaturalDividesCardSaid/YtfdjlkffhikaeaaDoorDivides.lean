/- NaturalDivides: the law's walk. -/
import Derived.Test.YtfdjlkffhikaeaaDoorAwake
namespace Go.Proofs.YtfdjlkffhikaeaaDoor
open Go.RowKit Nt

theorem take_le (l : List Nat) (k : Nat) : (l.take k).length ≤ k := List.length_take_le _ _

set_option maxRecDepth 100000 in
set_option maxHeartbeats 2000000 in
theorem divides_walk (pa : Option Addr) (na ca : Nat) (la : List Nat) (pb : Option Addr) (nb' cb : Nat) (lb : List Nat) (w : World) (ha : NatIn w pa ca la) (hb : NatIn w pb cb lb) (hna : la.length = na) (hnb : lb.length = nb') (ht : Tab w) (hg : 0 < w.heap.size) :
    Calls Tryd.prog 3 #[.slice pa na ca, .slice pb nb' cb] w fun e w' => e = .returned (.bool true) ∧ Below w.heap.size w w' := by
  have hac := ha.le
  have hbc := hb.le
  have ham := ha.cap
  have hbm := hb.cap
  obtain ⟨ma, hma⟩ : ∃ m, m = min na 40 := ⟨_, rfl⟩
  obtain ⟨mb, hmb⟩ : ∃ m, m = min nb' 40 := ⟨_, rfl⟩
  have hA1 := ha.take (k := ma) (by omega)
  have hB1 := hb.take (k := mb) (by omega)
  have hAl : (la.take ma).length = ma := by rw [List.length_take]; omega
  have hBl : (lb.take mb).length = mb := by rw [List.length_take]; omega
  have hia : min (na : Int) 40 = (ma : Int) := by omega
  have hib : min (nb' : Int) 40 = (mb : Int) := by omega
  have hia2 : min na 40 = ma := hma.symm
  have hib2 : min nb' 40 = mb := hmb.symm
  have hma40 : ma ≤ 40 := by omega
  have hmb40 : mb ≤ 40 := by omega
  have hmac : ma ≤ ca := by omega
  have hmbc : mb ≤ cb := by omega
  obtain ⟨A, hA⟩ : ∃ A, A = la.take ma := ⟨_, rfl⟩
  obtain ⟨B, hB⟩ : ∃ B, B = lb.take mb := ⟨_, rfl⟩
  rw [← hA] at hA1 hAl
  rw [← hB] at hB1 hBl
  have HA := Lib.hid hA1
  have HB := Lib.hid hB1
  have HAl := Lib.hid hAl
  have HBl := Lib.hid hBl
  have HT := Lib.hid ht
  clear ha hb hma hmb hA hB hA1 hB1 hAl hBl ht hac hbc hna hnb
  go_enter Tryd.func3, Tryd.ntmps3
  go_wp2_with fail
  go_quiet (fail)
  go_wp2_with fail
  have hb0 : Below w.heap.size w (w.drewN nq) := below_drewN (Below.refl _ _) nq
  by_cases hB0 : val B = 0
  · refine (divide_ok pa ma ca A pb mb cb B _ (HA.out.drewN _) (HB.out.drewN _) HAl.out HBl.out (by omega) (by omega)).mono ?_
    rintro e w1 ⟨p, c, p', c', rfl, hb1, hq, hr⟩
    rw [hB0, Nat.div_zero, rmd_zero rfl, posB_false rfl, limbs_zero]
    have hw1 := hb0.trans hb1
    have HW1 := Lib.hid hw1
    have HB1 := Lib.hid (HB.out.keep hw1)
    have hz := Lib.hid hB0
    have hs1 := hw1.size
    clear hb1 hq hr hw1 hB0
    go_wp2_with fail
    refine (rbits_ok pb mb cb B _ HB1.out HBl.out (by omega)).mono ?_
    rintro e w' ⟨rfl, rfl⟩
    rw [hz.out, nb_zero]
    go_wp2_with fail
    refine (awake_ok _ (Tab.keep HT.out HW1.out hg) (by omega)).mono ?_
    rintro e w2 ⟨rfl, hb2⟩
    have HW2 := Lib.hid (HW1.out.trans (hb2.mono hs1))
    clear hb2
    go_wp2_with fail
    go_ret
    exact ⟨rfl, HW2.out⟩
  · have hBp := Lib.hid (Nat.pos_of_ne_zero hB0)
    have hnz := Lib.hid hB0
    refine (divide_ok pa ma ca A pb mb cb B _ (HA.out.drewN _) (HB.out.drewN _) HAl.out HBl.out (by omega) (by omega)).mono ?_
    rintro e w1 ⟨p, c, p', c', rfl, hb1, hq, hr⟩
    rw [posB_true hBp.out]
    rw [rmd_pos hBp.out] at hr ⊢
    have hlq : (limbs (val A / val B)).length ≤ 100 := Nat.le_trans (limbs_length_mono (Nat.div_le_self _ _)) (Nat.le_trans (limbs_length_val_le HA.out.lim) (by rw [HAl.out]; omega))
    have hlr : (limbs (val A % val B)).length ≤ 100 := Nat.le_trans (limbs_length_mono (Nat.mod_le _ _)) (Nat.le_trans (limbs_length_val_le HA.out.lim) (by rw [HAl.out]; omega))
    have hw1 := hb0.trans hb1
    have HW1 := Lib.hid hw1
    have HA1 := Lib.hid (HA.out.keep hw1)
    have HB1 := Lib.hid (HB.out.keep hw1)
    have HQ1 := Lib.hid hq.natIn
    have HR1 := Lib.hid hr.natIn
    have hs1 := hw1.size
    clear hb1 hq hr hw1 hB0
    obtain ⟨q, hq⟩ : ∃ q, q = val A / val B := ⟨_, rfl⟩
    obtain ⟨r, hr⟩ : ∃ r, r = val A % val B := ⟨_, rfl⟩
    rw [← hq] at hlq HQ1 ⊢
    rw [← hr] at hlr HR1 ⊢
    have Hq := Lib.hid hq
    have Hr := Lib.hid hr
    clear hq hr
    go_wp2_with fail
    refine (rbits_ok pb mb cb B _ HB1.out HBl.out (by omega)).mono ?_
    rintro e w' ⟨rfl, rfl⟩
    have hnb : (((nb (val B) : Nat) : Int) == 0) = false := by
      rw [beq_eq_false_iff_ne]
      have := hnz.out
      have h2 : nb (val B) ≠ 0 := fun e => this (nb_eq_zero.1 e)
      omega
    go_wp2_with fail
    refine (canon_ok q p _ c _ HQ1.out rfl).mono ?_
    rintro e w' ⟨rfl, rfl⟩
    go_wp2_with fail
    refine (canon_ok r p' _ c' _ HR1.out rfl).mono ?_
    rintro e w' ⟨rfl, rfl⟩
    go_wp2_with fail
    refine (rcmp_ok p' _ c' (limbs r) pb mb cb B _ HR1.out HB1.out rfl HBl.out).mono ?_
    rintro e w2 ⟨rfl, hb2⟩
    rw [val_limbs, cmp_lt (by rw [Hr.out]; exact Nat.mod_lt _ hBp.out)]
    have HW2 := Lib.hid (HW1.out.trans (hb2.mono hs1))
    have HA2 := Lib.hid (HA1.out.keep hb2)
    have HB2 := Lib.hid (HB1.out.keep hb2)
    have HQ2 := Lib.hid (HQ1.out.keep hb2)
    have HR2 := Lib.hid (HR1.out.keep hb2)
    have hs2 := HW2.out.size
    clear hb2
    go_wp2_with fail
    refine (rmul_ok p _ c (limbs q) pb mb cb B _ HQ2.out HB2.out rfl HBl.out (by omega) (by omega)).mono ?_
    rintro e w3 ⟨p3, c3, rfl, hb3, hm3⟩
    rw [val_limbs] at hm3 ⊢
    have HW3 := Lib.hid (HW2.out.trans (hb3.mono hs2))
    have HA3 := Lib.hid (HA2.out.keep hb3)
    have HR3 := Lib.hid (HR2.out.keep hb3)
    have HM3 := Lib.hid hm3.natIn
    have hs3 := HW3.out.size
    have hqb : q * val B + r = val A := by
      rw [Hq.out, Hr.out, Nat.mul_comm]; exact Nat.div_add_mod _ _
    have hlm : (limbs (q * val B)).length ≤ 100 := Nat.le_trans (limbs_length_mono (by omega : q * val B ≤ val A)) (Nat.le_trans (limbs_length_val_le HA.out.lim) (by rw [HAl.out]; omega))
    have HQB := Lib.hid hqb
    clear hb3 hm3 hqb
    go_wp2_with fail
    refine (radd_ok p3 _ c3 (limbs (q * val B)) p' _ c' (limbs r) _ HM3.out HR3.out rfl rfl (by omega) (by omega)).mono ?_
    rintro e w4 ⟨p4, c4, rfl, hb4, hm4⟩
    rw [val_limbs, val_limbs, HQB.out] at hm4 ⊢
    have HW4 := Lib.hid (HW3.out.trans (hb4.mono hs3))
    have HA4 := Lib.hid (HA3.out.keep hb4)
    have HM4 := Lib.hid hm4.natIn
    have hs4 := HW4.out.size
    clear hb4 hm4
    go_wp2_with fail
    refine (rcmp_ok p4 _ c4 (limbs (val A)) pa ma ca A _ HM4.out HA4.out rfl HAl.out).mono ?_
    rintro e w5 ⟨rfl, hb5⟩
    rw [val_limbs, cmp_eq rfl]
    have HW5 := Lib.hid (HW4.out.trans (hb5.mono hs4))
    have hs5 := HW5.out.size
    clear hb5
    go_wp2_with fail
    refine (awake_ok _ (Tab.keep HT.out HW5.out hg) (by omega)).mono ?_
    rintro e w6 ⟨rfl, hb6⟩
    have HW6 := Lib.hid (HW5.out.trans (hb6.mono hs5))
    clear hb6
    go_wp2_with fail
    go_ret
    exact ⟨rfl, HW6.out⟩
end Go.Proofs.YtfdjlkffhikaeaaDoor
