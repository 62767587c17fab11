/- natural.down: a number shifted to the right. Printed by downgen.py. -/
import Derived.Test.YtfdjlkffhikaeaaDoorWord
import Derived.Test.YtfdjlkffhikaeaaDoorTrim
import Derived.Test.YtfdjlkffhikaeaaDoorDivM
namespace Go.Proofs.YtfdjlkffhikaeaaDoor
open Go.RowKit Nt

theorem val_drop {l : List Nat} (h : Lim l) {q : Nat} (hq : q ≤ l.length) : val (l.drop q) = val l / bp q := by
  have h1 := val_split hq
  have h2 := val_take_lt h hq
  rw [h1, Nat.add_mul_div_left _ _ (bp_pos q), Nat.div_eq_of_lt h2, Nat.zero_add]
theorem lim_drop' {l : List Nat} (h : Lim l) (k : Nat) : Lim (l.drop k) := fun x hx => h x (List.mem_of_mem_drop hx)
theorem wrap_lo (x : Int) : IntKind.u64.wrap x % 4294967296 = x % 4294967296 := by rw [IntKind.wrap_u64]; omega
theorem map_add {p : Option Addr} {B O : Nat} (hp : p = some ⟨B, O, none⟩) (q : Nat) : Option.map (fun x => x.add q) p = some ⟨B, O + q, none⟩ := by
  subst hp
  have e : (⟨B, O, none⟩ : Addr).add q = ⟨B, O + q, none⟩ := by unfold Addr.add; split <;> simp_all
  rw [Option.map_some, e]
theorem NatIn.drop {w : World} {p : Option Addr} {c : Nat} {l : List Nat} (h : NatIn w p c l) {q : Nat} (hq : q ≤ l.length) : NatIn w (Option.map (fun x => x.add q) p) (c - q) (l.drop q) := by
  have hle := h.le
  have hcap := h.cap
  refine ⟨lim_drop' h.lim q, by rw [List.length_drop]; omega, by omega, ?_, ?_⟩
  · intro hl
    rw [List.length_drop] at hl
    obtain ⟨hp, hlt⟩ := h.ptr (by omega)
    rw [map_add hp q, blk_some, ofs_some]
    exact ⟨rfl, hlt⟩
  · intro i hi
    rw [List.length_drop] at hi
    obtain ⟨hp, hlt⟩ := h.ptr (by omega)
    have hc := h.cell (q + i) (by omega)
    rw [map_add hp q, blk_some, ofs_some, Nat.add_assoc, hc]
    congr 2
    rw [lm_eq (by omega), lm_eq (by rw [List.length_drop]; omega), List.getElem_drop]
theorem div_pow_min {v b n : Nat} (h : v < bp n) : v / 2 ^ b = v / (bp (min (b / 32) n) * 2 ^ (b % 32)) := by
  by_cases hb : b / 32 ≤ n
  · rw [Nat.min_eq_left hb, bp_two_pow, ← Nat.pow_add]
    congr 2
    omega
  · rw [Nat.min_eq_right (by omega), ← Nat.div_div_eq_div_mul, Nat.div_eq_of_lt h, Nat.zero_div]
    apply Nat.div_eq_of_lt
    rw [bp_two_pow] at h
    exact Nat.lt_of_lt_of_le h (Nat.pow_le_pow_right (by omega) (by omega))

set_option maxRecDepth 100000 in
set_option maxHeartbeats 2000000 in
theorem down_ok (p : Option Addr) (n c : Nat) (l : List Nat) (b : Nat) (w : World) (h : NatIn w p c l) (hn : l.length = n) (hs : n ≤ 100000000) (hb : b ≤ 1000000000000) :
    Calls Tryd.prog 66 #[.slice p n c, .int .i64 (b : Int)] w (RetNat (val l / 2 ^ b) w) := by
  obtain ⟨q, hq⟩ : ∃ q, q = min (b / 32) n := ⟨_, rfl⟩
  obtain ⟨s, hss⟩ : ∃ s, s = b % 32 := ⟨_, rfl⟩
  have hqi : min ((b : Int) / 32) (n : Int) = (q : Int) := by omega
  have hq2 : min (b / 32) n = q := hq.symm
  have hsi : (b : Int) % 32 = (s : Int) := by omega
  have hqn : q ≤ n := by omega
  have hs32 : s < 32 := by omega
  have hle := h.le
  have hcap := h.cap
  have hnc : n ≤ c := by omega
  have HP : Hid (val l / 2 ^ b = val l / (bp q * 2 ^ s)) := by
    rw [hq, hss]; exact div_pow_min (by rw [← hn]; exact val_lt h.lim)
  have H0 := Lib.hid h
  have HDV : Hid (val (l.drop q) = val l / bp q) := val_drop h.lim (by omega)
  have hDl : (l.drop q).length = n - q := by rw [List.length_drop, hn]
  have hD := h.drop (q := q) (by omega)
  obtain ⟨V, hV⟩ : ∃ V, V = val l / 2 ^ b := ⟨_, rfl⟩
  rw [← hV] at HP ⊢
  by_cases hcq : c = q
  · have hqn2 : q = n := by omega
    have hD0 : NatIn w p 0 (l.drop q) := by
      have e : l.drop q = [] := List.drop_of_length_le (by omega)
      rw [e]
      exact ⟨lim_nil, Nat.le_refl _, by omega, fun h => absurd h (by simp), fun i hi => absurd hi (by simp)⟩
    obtain ⟨D, hDe⟩ : ∃ D, D = l.drop q := ⟨_, rfl⟩
    rw [← hDe] at hD0 HDV hDl
    have HD := Lib.hid hD0
    have HDl := Lib.hid (show D.length = 0 by omega)
    obtain rfl := hcq.symm
    clear hq hss hD hD0 hDl hDe hV h
    go_enter Tryd.func66, Tryd.ntmps66
    go_wp2_with fail
    refine (trim_ok p 0 0 D _ HD.out HDl.out (by omega)).mono ?_
    rintro e w1 ⟨p1, c1, rfl, hb1, hm1⟩
    rw [HDV.out] at hm1 ⊢
    obtain ⟨v, hv⟩ : ∃ v, v = val l / bp q := ⟨_, rfl⟩
    rw [← hv] at hm1 ⊢
    have hvl : (limbs v).length ≤ 100000000 := by rw [hv]; exact Nat.le_trans (limbs_length_mono (Nat.div_le_self _ _)) (by have := limbs_length_val_le H0.out.lim; omega)
    obtain ⟨M, hM⟩ : ∃ M, M = limbs v := ⟨_, rfl⟩
    rw [← hM] at hm1 hvl ⊢
    have hMv : Hid (val M = v) := by rw [hM, val_limbs]; rfl
    have HV := Lib.hid hv
    have hMm := Lib.hid hm1.natIn.lim
    have HM1 := Lib.hid hm1
    have HB1 := Lib.hid hb1
    clear hv hM hb1 hm1
    go_wp2_with fail
    go_loopw [17] (fun iv wr => ∃ (i : Nat) (T : List Nat), i ≤ M.length ∧ iv = .int .i64 i ∧ T.length = M.length ∧ Mine w.heap.size wr p1 c1 T ∧ Below w.heap.size w wr ∧ (∀ j, i ≤ j → lm T j = lm M j) ∧
        val (T.take i) = val M / 2 ^ s % bp i) (fun iv _ => M.length - (intOf iv).toNat)
    case atStart => exact ⟨0, M, Nat.zero_le _, rfl, rfl, HM1.out, HB1.out, fun _ _ => rfl, by rw [bp_zero, Nat.mod_one]; rfl⟩
    case round =>
      obtain ⟨i, T, hi, rfl, hT, hTm, hTB, hTt, hTI⟩ := hrel
      have HT := Lib.hid hT
      have HTm := Lib.hid hTm
      have HTB := Lib.hid hTB
      have HTt := Lib.hid hTt
      have HTI := Lib.hid hTI
      clear hT hTm hTB hTt hTI
      by_cases hil : i < M.length
      · have hiT : i < T.length := by have := HT.out; omega
        have hc0 := HTm.out.natIn.cell i hiT
        have hf0 := HTm.out.frozen (by omega) (ofs p1 + i)
        have hx0 := lm_lt HTm.out.natIn.lim i
        have hge := HTm.out.ge (by omega)
        have hix := fun ww => HTm.out.natIn.ix (z := (i : Int)) (by omega) (n := M.length) (by omega) (by have := HT.out; omega) c1 ww
        rw [Int.toNat_natCast] at hix
        have hxd : lm T i / 2 ^ s < 4294967296 := Nat.lt_of_le_of_lt (Nat.div_le_self _ _) hx0
        have hm2 := HTm.out.set hiT hxd (z := ((lm T i : Nat) : Int) / 2 ^ s) (by rw [Int.natCast_ediv, Int.natCast_pow]; rfl)
        have HM2 := Lib.hid hm2
        clear hm2
        by_cases hlast : i + 1 < M.length
        · have HB2 := Lib.hid (below_set HTB.out (o := ofs p1 + i) hge (.int .u32 (((lm T i : Nat) : Int) / 2 ^ s)))
          have hix1 := fun ww => HTm.out.natIn.ix (z := (i : Int) + 1) (by omega) (n := M.length) (by omega) (by have := HT.out; omega) c1 ww
          rw [show ((i : Int) + 1).toNat = i + 1 from by omega] at hix1
          go_upto_region 7 with fail
          obtain ⟨wq, hwq⟩ : ∃ wq, wq = wr.setCell ⟨blk p1, ofs p1 + i, none⟩ (.int .u32 (((lm T i : Nat) : Int) / 2 ^ s)) := ⟨_, rfl⟩
          rw [← hwq] at HM2 HB2 ⊢
          obtain ⟨x, hx⟩ : ∃ x, x = lm T i / 2 ^ s := ⟨_, rfl⟩
          have hTs : i < (T.set i (lm T i / 2 ^ s)).length := by rw [List.length_set]; exact hiT
          have hTs1 : i + 1 < (T.set i (lm T i / 2 ^ s)).length := by rw [List.length_set]; have := HT.out; omega
          have hd0 := HM2.out.natIn.cell i hTs
          rw [lm_set_eq hiT, ← hx] at hd0
          have hd1 := HM2.out.natIn.cell (i + 1) hTs1
          rw [lm_set_ne (by omega)] at hd1
          have hdf := HM2.out.frozen (by omega) (ofs p1 + i)
          rw [← hx] at hxd
          have hy0 := lm_lt HTm.out.natIn.lim (i + 1)
          clear hc0 hf0 hwq
          have HX := Lib.hid hx
          clear hx
          have hor : Go.bits .or .u32 (x : Int) (((lm T (i + 1) : Nat) : Int) * 2 ^ (32 - s) % 4294967296) = (((x + 2 ^ (32 - s) * lm T (i + 1)) % 4294967296 : Nat) : Int) := by
            have e : ((lm T (i + 1) : Nat) : Int) * 2 ^ (32 - s) % 4294967296 = ((lm T (i + 1) * 2 ^ (32 - s) % 4294967296 : Nat) : Int) := by
              rw [Int.natCast_emod, Int.natCast_mul, Int.natCast_pow]; rfl
            rw [e, or_u32 hxd (Nat.mod_lt _ (by omega)), HX.out, or_hi hs32 hx0]
          have hm3 := HM2.out.set hTs (x := (x + 2 ^ (32 - s) * lm T (i + 1)) % 4294967296) (z := Go.bits .or .u32 (x : Int) (IntKind.u64.wrap (((lm T (i + 1) : Nat) : Int) * 2 ^ (32 - s)) % 4294967296)) (Nat.mod_lt _ (by omega)) (by rw [wrap_lo]; exact hor)
          rw [List.set_set] at hm3
          have HM3 := Lib.hid hm3
          have hw32 : IntKind.i64.wrap (32 - (s : Int)) = 32 - (s : Int) := IntWalk.i64_in _ (by omega)
          clear hm3
          go_region
          go_wp2_with fail
          go_roundw
          case rel =>
            refine ⟨i + 1, _, by omega, by go_num, ?_, HM3.out.drew, (below_set HB2.out hge _).drew, ?_, ?_⟩
            · rw [List.length_set]; exact HT.out
            · intro j hj
              rw [lm_set_ne (by omega)]
              exact HTt.out j (by omega)
            · have h3 := rsh_step hMm.out hiT (pow_split (by omega)) (Nat.two_pow_pos s) HTI.out
              rw [← HTt.out i (Nat.le_refl _), ← HTt.out (i + 1) (by omega), ← HX.out] at h3
              exact h3
          case measure => simp [intOf]; omega
        · go_wp2_with fail
          go_roundw
          case rel =>
            refine ⟨i + 1, _, by omega, by go_num, ?_, HM2.out, below_set HTB.out hge _, ?_, ?_⟩
            · rw [List.length_set]; exact HT.out
            · intro j hj
              rw [lm_set_ne (by omega)]
              exact HTt.out j (by omega)
            · have h3 := rsh_step hMm.out hiT (pow_split (by omega)) (Nat.two_pow_pos s) HTI.out
              rw [← HTt.out i (Nat.le_refl _)] at h3
              have h4 : (lm T i / 2 ^ s + 2 ^ (32 - s) * lm M (i + 1)) % 4294967296 = lm T i / 2 ^ s := by
                rw [lm_out (l := M) (by omega), Nat.mul_zero, Nat.add_zero]; exact Nat.mod_eq_of_lt hxd
              rwa [h4] at h3
          case measure => simp [intOf]; omega
      · obtain rfl : i = M.length := by omega
        have hval := rsh_end hMm.out HT.out HTI.out
        rw [hMv.out, HV.out, Nat.div_div_eq_div_mul, ← HP.out] at hval
        have HVal := Lib.hid hval
        clear hval
        go_wp2_with fail
        refine (low_ok _ _ _ T _ HTm.out.natIn HT.out).mono ?_
        rintro e w' ⟨Y, hY, rfl, hYn, rfl⟩
        go_wp2_with fail
        go_ret
        have hlow := HTm.out.low
        rw [HVal.out] at hlow
        have hY' := hY.out
        rw [HVal.out] at hY'
        exact ⟨p1, c1, by rw [← hY']; rfl, HTB.out, hlow⟩
  · obtain ⟨p2, hp2⟩ : ∃ p2, p2 = Option.map (fun x : Addr => x.add q) p := ⟨_, rfl⟩
    obtain ⟨D, hDe⟩ : ∃ D, D = l.drop q := ⟨_, rfl⟩
    rw [← hDe] at hD HDV hDl
    have HD := Lib.hid hD
    have HDl := Lib.hid hDl
    clear hq hss hD hDl hDe hV h hp2
    go_enter Tryd.func66, Tryd.ntmps66
    go_wp2_with fail
    refine (trim_ok _ _ _ D _ HD.out HDl.out (by omega)).mono ?_
    rintro e w1 ⟨p1, c1, rfl, hb1, hm1⟩
    rw [HDV.out] at hm1 ⊢
    obtain ⟨v, hv⟩ : ∃ v, v = val l / bp q := ⟨_, rfl⟩
    rw [← hv] at hm1 ⊢
    have hvl : (limbs v).length ≤ 100000000 := by rw [hv]; exact Nat.le_trans (limbs_length_mono (Nat.div_le_self _ _)) (by have := limbs_length_val_le H0.out.lim; omega)
    obtain ⟨M, hM⟩ : ∃ M, M = limbs v := ⟨_, rfl⟩
    rw [← hM] at hm1 hvl ⊢
    have hMv : Hid (val M = v) := by rw [hM, val_limbs]; rfl
    have HV := Lib.hid hv
    have hMm := Lib.hid hm1.natIn.lim
    have HM1 := Lib.hid hm1
    have HB1 := Lib.hid hb1
    clear hv hM hb1 hm1
    go_wp2_with fail
    go_loopw [17] (fun iv wr => ∃ (i : Nat) (T : List Nat), i ≤ M.length ∧ iv = .int .i64 i ∧ T.length = M.length ∧ Mine w.heap.size wr p1 c1 T ∧ Below w.heap.size w wr ∧ (∀ j, i ≤ j → lm T j = lm M j) ∧
        val (T.take i) = val M / 2 ^ s % bp i) (fun iv _ => M.length - (intOf iv).toNat)
    case atStart => exact ⟨0, M, Nat.zero_le _, rfl, rfl, HM1.out, HB1.out, fun _ _ => rfl, by rw [bp_zero, Nat.mod_one]; rfl⟩
    case round =>
      obtain ⟨i, T, hi, rfl, hT, hTm, hTB, hTt, hTI⟩ := hrel
      have HT := Lib.hid hT
      have HTm := Lib.hid hTm
      have HTB := Lib.hid hTB
      have HTt := Lib.hid hTt
      have HTI := Lib.hid hTI
      clear hT hTm hTB hTt hTI
      by_cases hil : i < M.length
      · have hiT : i < T.length := by have := HT.out; omega
        have hc0 := HTm.out.natIn.cell i hiT
        have hf0 := HTm.out.frozen (by omega) (ofs p1 + i)
        have hx0 := lm_lt HTm.out.natIn.lim i
        have hge := HTm.out.ge (by omega)
        have hix := fun ww => HTm.out.natIn.ix (z := (i : Int)) (by omega) (n := M.length) (by omega) (by have := HT.out; omega) c1 ww
        rw [Int.toNat_natCast] at hix
        have hxd : lm T i / 2 ^ s < 4294967296 := Nat.lt_of_le_of_lt (Nat.div_le_self _ _) hx0
        have hm2 := HTm.out.set hiT hxd (z := ((lm T i : Nat) : Int) / 2 ^ s) (by rw [Int.natCast_ediv, Int.natCast_pow]; rfl)
        have HM2 := Lib.hid hm2
        clear hm2
        by_cases hlast : i + 1 < M.length
        · have HB2 := Lib.hid (below_set HTB.out (o := ofs p1 + i) hge (.int .u32 (((lm T i : Nat) : Int) / 2 ^ s)))
          have hix1 := fun ww => HTm.out.natIn.ix (z := (i : Int) + 1) (by omega) (n := M.length) (by omega) (by have := HT.out; omega) c1 ww
          rw [show ((i : Int) + 1).toNat = i + 1 from by omega] at hix1
          go_upto_region 7 with fail
          obtain ⟨wq, hwq⟩ : ∃ wq, wq = wr.setCell ⟨blk p1, ofs p1 + i, none⟩ (.int .u32 (((lm T i : Nat) : Int) / 2 ^ s)) := ⟨_, rfl⟩
          rw [← hwq] at HM2 HB2 ⊢
          obtain ⟨x, hx⟩ : ∃ x, x = lm T i / 2 ^ s := ⟨_, rfl⟩
          have hTs : i < (T.set i (lm T i / 2 ^ s)).length := by rw [List.length_set]; exact hiT
          have hTs1 : i + 1 < (T.set i (lm T i / 2 ^ s)).length := by rw [List.length_set]; have := HT.out; omega
          have hd0 := HM2.out.natIn.cell i hTs
          rw [lm_set_eq hiT, ← hx] at hd0
          have hd1 := HM2.out.natIn.cell (i + 1) hTs1
          rw [lm_set_ne (by omega)] at hd1
          have hdf := HM2.out.frozen (by omega) (ofs p1 + i)
          rw [← hx] at hxd
          have hy0 := lm_lt HTm.out.natIn.lim (i + 1)
          clear hc0 hf0 hwq
          have HX := Lib.hid hx
          clear hx
          have hor : Go.bits .or .u32 (x : Int) (((lm T (i + 1) : Nat) : Int) * 2 ^ (32 - s) % 4294967296) = (((x + 2 ^ (32 - s) * lm T (i + 1)) % 4294967296 : Nat) : Int) := by
            have e : ((lm T (i + 1) : Nat) : Int) * 2 ^ (32 - s) % 4294967296 = ((lm T (i + 1) * 2 ^ (32 - s) % 4294967296 : Nat) : Int) := by
              rw [Int.natCast_emod, Int.natCast_mul, Int.natCast_pow]; rfl
            rw [e, or_u32 hxd (Nat.mod_lt _ (by omega)), HX.out, or_hi hs32 hx0]
          have hm3 := HM2.out.set hTs (x := (x + 2 ^ (32 - s) * lm T (i + 1)) % 4294967296) (z := Go.bits .or .u32 (x : Int) (IntKind.u64.wrap (((lm T (i + 1) : Nat) : Int) * 2 ^ (32 - s)) % 4294967296)) (Nat.mod_lt _ (by omega)) (by rw [wrap_lo]; exact hor)
          rw [List.set_set] at hm3
          have HM3 := Lib.hid hm3
          have hw32 : IntKind.i64.wrap (32 - (s : Int)) = 32 - (s : Int) := IntWalk.i64_in _ (by omega)
          clear hm3
          go_region
          go_wp2_with fail
          go_roundw
          case rel =>
            refine ⟨i + 1, _, by omega, by go_num, ?_, HM3.out.drew, (below_set HB2.out hge _).drew, ?_, ?_⟩
            · rw [List.length_set]; exact HT.out
            · intro j hj
              rw [lm_set_ne (by omega)]
              exact HTt.out j (by omega)
            · have h3 := rsh_step hMm.out hiT (pow_split (by omega)) (Nat.two_pow_pos s) HTI.out
              rw [← HTt.out i (Nat.le_refl _), ← HTt.out (i + 1) (by omega), ← HX.out] at h3
              exact h3
          case measure => simp [intOf]; omega
        · go_wp2_with fail
          go_roundw
          case rel =>
            refine ⟨i + 1, _, by omega, by go_num, ?_, HM2.out, below_set HTB.out hge _, ?_, ?_⟩
            · rw [List.length_set]; exact HT.out
            · intro j hj
              rw [lm_set_ne (by omega)]
              exact HTt.out j (by omega)
            · have h3 := rsh_step hMm.out hiT (pow_split (by omega)) (Nat.two_pow_pos s) HTI.out
              rw [← HTt.out i (Nat.le_refl _)] at h3
              have h4 : (lm T i / 2 ^ s + 2 ^ (32 - s) * lm M (i + 1)) % 4294967296 = lm T i / 2 ^ s := by
                rw [lm_out (l := M) (by omega), Nat.mul_zero, Nat.add_zero]; exact Nat.mod_eq_of_lt hxd
              rwa [h4] at h3
          case measure => simp [intOf]; omega
      · obtain rfl : i = M.length := by omega
        have hval := rsh_end hMm.out HT.out HTI.out
        rw [hMv.out, HV.out, Nat.div_div_eq_div_mul, ← HP.out] at hval
        have HVal := Lib.hid hval
        clear hval
        go_wp2_with fail
        refine (low_ok _ _ _ T _ HTm.out.natIn HT.out).mono ?_
        rintro e w' ⟨Y, hY, rfl, hYn, rfl⟩
        go_wp2_with fail
        go_ret
        have hlow := HTm.out.low
        rw [HVal.out] at hlow
        have hY' := hY.out
        rw [HVal.out] at hY'
        exact ⟨p1, c1, by rw [← hY']; rfl, HTB.out, hlow⟩
end Go.Proofs.YtfdjlkffhikaeaaDoor
