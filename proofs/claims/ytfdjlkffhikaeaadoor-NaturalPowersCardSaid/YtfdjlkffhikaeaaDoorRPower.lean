/- The reference's Power. -/
import Derived.Test.YtfdjlkffhikaeaaDoorPower
namespace Go.Proofs.YtfdjlkffhikaeaaDoor
open Go.RowKit Nt

theorem rbits_q {p : Option Addr} {n c : Nat} {l : List Nat} {w : World} (h : NatIn w p c l) (hn : l.length = n) (hs : n ≤ 1000000000) {s : Nat} (he : s = nb (val l)) (k : Nat) :
    Calls Tryd.prog 16 #[.slice p n c] (w.drewN k) fun e w' => e = .returned (.int .i64 ((s : Nat) : Int)) ∧ ∃ m, w' = w.drewN m :=
  (rbits_ok p n c l _ (h.drewN k) hn hs).mono fun _ _ hh => ⟨by rw [he]; exact hh.1, k, hh.2.symm⟩

theorem cast_div (a b : Nat) : ((a / b : Nat) : Int) = (a : Int) / (b : Int) := Int.natCast_ediv a b
theorem quo_lt {s j m : Nat} (hj : 1 ≤ j) (hm : m = (s - 1) * j) (h1 : 1 ≤ s) : (131071 / (j : Int) < (s : Int) - 1) ↔ 131072 ≤ m := by
  have e : (131071 / (j : Int)) = ((131071 / j : Nat) : Int) := (cast_div 131071 j).symm
  rw [e]
  have h2 : 131071 / j < s - 1 ↔ 131071 < (s - 1) * j := Nat.div_lt_iff_lt_mul (by omega)
  rw [hm]
  omega

set_option maxRecDepth 100000 in
set_option maxHeartbeats 2000000 in
theorem rpower_ok (p : Option Addr) (n c : Nat) (l : List Nat) (k : Int) (w : World) (h : NatIn w p c l) (hn : l.length = n) (hs : n ≤ 1000) (hk1 : -9223372036854775808 ≤ k) (hk2 : k ≤ 9223372036854775807) :
    Calls Tryd.prog 38 #[.slice p n c, .int .i64 k] w (RetPow (val l) k w) := by
  subst hn
  obtain ⟨v, hv⟩ : ∃ v, v = val l := ⟨_, rfl⟩
  obtain ⟨s, hsn⟩ : ∃ s, s = nb v := ⟨_, rfl⟩
  have hvl : (limbs v).length ≤ l.length := by rw [hv]; exact limbs_length_val_le h.lim
  have hs32 : s ≤ 32000 := by rw [hsn]; have := nb_len (Nat.le_trans hvl hs); omega
  have HQ := Lib.hid (fun k => rbits_q h rfl (by omega) (show s = nb (val l) from by rw [hsn, hv]) k)
  rw [← hv]
  have HV := Lib.hid hv
  have HSN := Lib.hid hsn
  have HL := Lib.hid h
  clear hv hsn h
  by_cases hk0 : k < 0
  · have hp := Lib.hid (pow_neg (v := v) hk0)
    go_enter Tryd.func38, Tryd.ntmps38
    go_wp2_with fail
    go_ret2
    exact ret_pow0 hp.out.1 hp.out.2 (Below.refl _ _)
  · obtain ⟨j, rfl⟩ : ∃ j : Nat, k = (j : Int) := ⟨k.toNat, by omega⟩
    clear hk0 hk1
    by_cases hj : j = 0
    · subst hj
      have hp := Lib.hid (pow_small (v := v) (k := 0) (.inr rfl))
      have hmin : min (0 : Int) 1 = 0 := rfl
      go_enter Tryd.func38, Tryd.ntmps38
      go_wp2_with fail
      refine (rraise_ok p _ c l 0 _ HL.out rfl (by omega) (by omega) (by rw [← HV.out]; exact raise_len hvl hs (by rw [Nat.pow_zero, len_one]; omega))).mono ?_
      rintro e w1 ⟨p1, c1, rfl, hb1, hm1⟩
      rw [← HV.out] at hm1 ⊢
      have HB1 := Lib.hid hb1
      have HM1 := Lib.hid hm1
      clear hb1 hm1
      go_wp2_with fail
      go_ret2
      exact ret_pow hp.out.1 hp.out.2 rfl HB1.out HM1.out
    · have hj0 : ((j : Int) == 0) = false := by rw [beq_eq_false_iff_ne]; omega
      have hj1 : 1 ≤ j := by omega
      by_cases h2 : s < 2
      · have hv2 : Hid (v < 2) := nb_small.1 (by rw [← HSN.out]; exact h2)
        have hp := Lib.hid (pow_small (v := v) (k := j) (.inl hv2.out))
        have hvj : Hid (v ^ j = v) := by
          have := hv2.out
          rcases (by omega : v = 0 ∨ v = 1) with h | h
          · rw [h]; exact Nat.zero_pow (by omega)
          · rw [h]; exact Nat.one_pow _
        have hmin : min (j : Int) 1 = 1 := by omega
        have hmin2 : min j 1 = 1 := by omega
        go_enter Tryd.func38, Tryd.ntmps38
        go_wp2_with fail
        refine (rbits_ok p _ c l _ HL.out rfl (by omega)).mono ?_
        rintro e w' ⟨rfl, rfl⟩
        rw [← HV.out, ← HSN.out]
        go_wp2_with fail
        refine (rraise_ok p _ c l 1 _ HL.out rfl (by omega) (by omega) (by rw [← HV.out]; exact raise_len hvl hs (by rw [Nat.pow_one]; omega))).mono ?_
        rintro e w1 ⟨p1, c1, rfl, hb1, hm1⟩
        rw [← HV.out, Nat.pow_one] at hm1 ⊢
        have HB1 := Lib.hid hb1
        have HM1 := Lib.hid hm1
        clear hb1 hm1
        go_wp2_with fail
        go_ret2
        exact ret_pow (hp.out.1.trans hvj.out) hp.out.2 rfl HB1.out HM1.out
      · have hv2 : Hid (2 ≤ v) := by
          apply Nat.le_of_not_lt
          intro h
          exact h2 (by rw [HSN.out]; exact nb_small.2 h)
        obtain ⟨m, hm⟩ : ∃ m, m = (s - 1) * j := ⟨_, rfl⟩
        have hql := quo_lt hj1 hm (by omega)
        obtain ⟨q, hq⟩ : ∃ q : Nat, q = 131071 / j := ⟨_, rfl⟩
        have hqi : (131071 : Int) / (j : Int) = (q : Int) := by rw [hq]; exact (cast_div 131071 j).symm
        have hqb : q ≤ 131071 := by rw [hq]; exact Nat.div_le_self _ _
        rw [hqi] at hql
        have HQL := Lib.hid hql
        have HM := Lib.hid hm
        have hw1 : IntKind.i64.wrap ((s : Int) - 1) = (s : Int) - 1 := IntWalk.i64_in _ (by omega)
        have hw2 : IntKind.i64.wrap (q : Int) = (q : Int) := IntWalk.i64_in _ (by omega)
        clear hm hql hq
        go_enter Tryd.func38, Tryd.ntmps38
        go_wp2_with fail
        refine (rbits_ok p _ c l _ HL.out rfl (by omega)).mono ?_
        rintro e w' ⟨rfl, rfl⟩
        rw [← HV.out, ← HSN.out]
        go_wp2_with fail
        go_quiet ((go_at_call 16; exact HQ.out _))
        by_cases hmj : 131072 ≤ m
        · have hlt : (q : Int) < (s : Int) - 1 := HQL.out.2 hmj
          have hp := Lib.hid (pow_big (v := v) (k := j) hv2.out hj1 (.inl (by rw [← HSN.out, ← HM.out]; exact hmj)))
          go_wp2_with fail
          go_ret2
          exact ret_pow0 hp.out.1 hp.out.2 (below_drewN (Below.refl _ _) nq)
        · have hnl : ¬ ((q : Int) < (s : Int) - 1) := fun h => hmj (HQL.out.1 h)
          have hjb : j ≤ 131072 := by
            have h1 := HM.out
            have h3 : 1 * j ≤ (s - 1) * j := Nat.mul_le_mul_right _ (by omega)
            omega
          have hlen : Hid ((limbs (v ^ j)).length ≤ 8193) := pow_len (by rw [← HSN.out]; omega) (by rw [← HSN.out, ← HM.out]; omega)
          go_wp2_with fail
          refine (rraise_ok p _ c l j _ (HL.out.drewN _) rfl (by omega) (by omega) (by rw [← HV.out]; exact raise_len hvl hs hlen.out)).mono ?_
          rintro e w1 ⟨p1, c1, rfl, hb1, hm1⟩
          rw [← HV.out] at hm1 ⊢
          obtain ⟨x, hx⟩ : ∃ x, x = v ^ j := ⟨_, rfl⟩
          rw [← hx] at hm1 hlen ⊢
          have HX := Lib.hid hx
          have HB1 := Lib.hid ((below_drewN (Below.refl _ _) nq).trans hb1)
          have HM1 := Lib.hid hm1
          clear hb1 hm1 hx
          go_wp2_with fail
          refine (rbits_ok p1 _ c1 (limbs x) _ HM1.out.natIn rfl (by have := hlen.out; omega)).mono ?_
          rintro e w' ⟨rfl, rfl⟩
          rw [val_limbs]
          obtain ⟨b, hb⟩ : ∃ b, b = nb x := ⟨_, rfl⟩
          rw [← hb]
          have HBB := Lib.hid hb
          clear hb
          by_cases hbx : 131072 < b
          · have hp := Lib.hid (pow_big (v := v) (k := j) hv2.out hj1 (.inr (by rw [← HX.out, ← HBB.out]; exact hbx)))
            go_wp2_with fail
            go_ret2
            exact ret_pow0 hp.out.1 hp.out.2 HB1.out
          · have hp : Hid (powV v j = x ∧ powE v j = 0) := by
              rw [HX.out]
              exact pow_fit hv2.out hj1 (by rw [← HSN.out, ← HM.out]; omega) (by rw [← HX.out, ← HBB.out]; omega)
            go_wp2_with fail
            go_ret2
            exact ret_pow hp.out.1 hp.out.2 rfl HB1.out HM1.out

theorem RetPow.word {v x0 K : Nat} {k z : Int} {w w' : World} {e : Ending} (h : RetPow v k w e w') (h1 : powV v k = x0) (h2 : powE v k = z) (hk : (limbs x0).length ≤ K) :
    ∃ x p c, x = x0 ∧ e = .returned (.tuple #[.slice p (limbs x).length c, .int .i64 z]) ∧ Below w.heap.size w w' ∧ NatIn w' p c (limbs x) ∧ (limbs x).length ≤ K := by
  obtain ⟨p, c, he, hb, hm⟩ := h
  rw [h1] at he hm
  rw [h2] at he
  exact ⟨x0, p, c, rfl, he, hb, hm.natIn, hk⟩
theorem pow_len2 {v : Nat} (h : (limbs v).length ≤ 2) : ∀ j : Nat, (limbs (v ^ j)).length ≤ 2 * j + 1
  | 0 => by rw [Nat.pow_zero, len_one]; omega
  | j + 1 => by rw [Nat.pow_succ]; exact len_mul (pow_len2 h j) h (by omega)
theorem pow_ok {v j : Nat} (h : (limbs v).length ≤ 2) (hj : j ≤ 48) : powV v (j : Int) = v ^ j ∧ powE v (j : Int) = 0 := by
  by_cases h1 : v < 2 ∨ j = 0
  · exact pow_small h1
  · have h2 := nb_len h
    have h3 := nb_len (pow_len2 h j)
    have h4 : (nb v - 1) * j ≤ 64 * 48 := Nat.mul_le_mul (by omega) hj
    exact pow_fit (by omega) (by omega) (by omega) (by omega)
theorem pow_ok2 {v j k : Nat} (h : (limbs v).length ≤ 2) (hj : j + k ≤ 48) : powV v ((j : Int) + (k : Int)) = v ^ (j + k) ∧ powE v ((j : Int) + (k : Int)) = 0 := by
  have := pow_ok h hj
  rwa [Int.natCast_add] at this
theorem pow_len3 {v : Nat} {k : Int} (h : (limbs v).length ≤ 3) : (limbs (powV v k)).length ≤ 8193 := by
  unfold powV
  split
  · rw [limbs_zero]; exact Nat.zero_le _
  · split
    · rename_i h1
      rcases h1 with h1 | h1
      · rcases (by omega : v = 0 ∨ v = 1) with rfl | rfl
        · rcases Nat.eq_zero_or_pos k.toNat with h2 | h2
          · rw [h2, Nat.pow_zero, len_one]; omega
          · rw [Nat.zero_pow h2, limbs_zero]; exact Nat.zero_le _
        · rw [Nat.one_pow, len_one]; omega
      · subst h1
        rw [Int.toNat_zero, Nat.pow_zero, len_one]; omega
    · split
      · rw [limbs_zero]; exact Nat.zero_le _
      · rename_i h1 h2
        exact pow_len (by
          apply Nat.le_of_not_lt
          intro h3
          exact h1 (.inl (nb_small.1 h3))) (by omega)
theorem below_cell2 {w w' : World} (h : Below w.heap.size w w') {B i : Nat} {v : Value} (hc : w.cell? ⟨B, i, none⟩ = some v) (hB : B < w.heap.size) : w'.cell? ⟨B, i, none⟩ = some v := by
  rw [h.cell (p := ⟨B, i, none⟩) hB]; exact hc
theorem cell_new (w : World) (cs : Array Value) (t : TypeId) (i : Nat) : (w.alloc (.cells cs t)).cell? ⟨w.heap.size, i, none⟩ = cs[i]? := by
  unfold World.cell?
  rw [heap_alloc_new]
  simp
end Go.Proofs.YtfdjlkffhikaeaaDoor
