/- The reference: Digits. -/
import Derived.Test.YtgaicejcjkpekaaDoorTextM
import Derived.Test.YtgaicejcjkpekaaDoorWord2
import Derived.Test.YtgaicejcjkpekaaDoorRefD
import Derived.Deep.RegionHeld3
import Derived.Deep.LoopGhost
import Derived.Outline
namespace Go.Proofs.YtgaicejcjkpekaaDoor
open Go.RowKit Nt

theorem take_succ' (s : ByteArray) (k : Nat) (h : k < s.size) : s.data.toList.take (k + 1) = s.data.toList.take k ++ [s[k]] := by
  rw [List.take_succ_eq_append_getElem (by simpa using h)]; rfl
theorem isD_at {s : ByteArray} (h : s.data.toList.all isD = true) {k : Nat} (hk : k < s.size) : 48 ≤ s[k].toNat ∧ s[k].toNat ≤ 57 := by
  have h1 := List.all_eq_true.1 h s[k] (by
    have : s[k] = s.data.toList[k]'(by simpa using hk) := rfl
    rw [this]; exact List.getElem_mem _)
  exact isD_iff.1 h1
theorem len_dval {l : List UInt8} (h : l.all isD = true) : (limbs (dval l)).length ≤ l.length := by
  apply limbs_length_le
  have h1 := dval_lt l h
  have h2 : 10 ^ l.length ≤ 4294967296 ^ l.length := Nat.pow_le_pow_left (by omega) _
  show dval l < 4294967296 ^ l.length
  omega
theorem mine_zero (B : Nat) (w : World) : Mine B w none 0 (limbs 0) := by rw [limbs_zero]; exact ⟨lim_nil, Nat.le_refl _, by omega, .inl rfl⟩
theorem len_zero : (limbs 0).length = 0 := by rw [limbs_zero]; rfl

set_option maxRecDepth 100000 in
set_option maxHeartbeats 2000000 in
theorem rdigits_ok (s : ByteArray) (w : World) (hs : s.size ≤ 100000) (hd : s.data.toList.all isD = true) :
    Calls Tryd.prog 12 #[.string s] w (RetNat (dval s.data.toList) w) := by
  have HD := Lib.hid hd
  clear hd
  go_enter Tryd.func12, Tryd.ntmps12
  go_wp2_with fail
  go_loopg [3, 7] (s.size + 1) (fun gk nv iv wr => ∃ (k x : Nat) (p : Option Addr) (c n : Nat), k ≤ s.size ∧ iv = .int .i64 k ∧ nv = .slice p n c ∧ (limbs x).length = n ∧ x = dval (s.data.toList.take k) ∧ Mine w.heap.size wr p c (limbs x) ∧ Below w.heap.size w wr ∧ s.size - k < gk)
  case atStart => exact ⟨0, 0, none, 0, 0, Nat.zero_le _, rfl, rfl, len_zero, rfl, mine_zero _ _, Below.refl _ _, by omega⟩
  case round =>
    obtain ⟨k, x, p, c, n, hk, rfl, rfl, hn, hx, hm, hb, hgk⟩ := hrel
    have HNn := Lib.hid hn
    have HX := Lib.hid hx
    have HM := Lib.hid hm
    have HB := Lib.hid hb
    have HGK := Lib.hid hgk
    have hxl : (limbs x).length ≤ s.size := by
      rw [hx]
      have h1 := len_dval (l := s.data.toList.take k) (by
        rw [List.all_eq_true]; intro b hb'; exact List.all_eq_true.1 HD.out b (List.mem_of_mem_take hb'))
      have h2 : (s.data.toList.take k).length ≤ k := List.length_take_le _ _
      omega
    rw [hn] at hxl
    clear hn hx hm hb hgk
    by_cases hlt : k < s.size
    · have hdd := isD_at HD.out hlt
      obtain ⟨d, hdn⟩ : ∃ d, d = s[k].toNat - 48 := ⟨_, rfl⟩
      have hdi : (s[k].toNat : Int) - 48 = (d : Int) := by omega
      have hd9 : d ≤ 9 := by omega
      have HDN := Lib.hid hdn
      have hlo := hdd.1
      have hhi := hdd.2
      have h10 := natIn_new wr (cs := #[.int .u32 10]) (L := [10]) (n := 1) (by simp [limbV]) (lim_cons (by omega) lim_nil) rfl (by omega)
      have hdg := natIn_new wr (cs := #[.int .u32 (d : Int)]) (L := [d]) (n := 1) (by simp [limbV]) (lim_cons (by omega) lim_nil) rfl (by omega)
      have h10' := natIn_new (wr.alloc (.cells #[.int .u32 (d : Int)] 44)) (cs := #[.int .u32 10]) (L := [10]) (n := 1) (by simp [limbV]) (lim_cons (by omega) lim_nil) rfl (by omega)
      have hdg' := natIn_new (wr.alloc (.cells #[.int .u32 10] 44)) (cs := #[.int .u32 (d : Int)]) (L := [d]) (n := 1) (by simp [limbV]) (lim_cons (by omega) lim_nil) rfl (by omega)
      rw [World.size_alloc] at h10' hdg'
      have H10 := Lib.hid h10
      have HDG := Lib.hid hdg
      have H10' := Lib.hid h10'
      have HDG' := Lib.hid hdg'
      have HN := Lib.hid HM.out.natIn
      clear h10 hdg h10' hdg' hdn hdd
      go_wp2_with fail
      have hk0 : (0 : Int) ≤ (k : Int) := by omega
      have hk1 : (k : Int) < (s.size : Int) := by omega
      have hx1 : (limbs x).length ≤ 100000 := by rw [HNn.out]; omega
      have hl2 : (limbs (val (limbs x) * val [10])).length ≤ 100001 := by
        rw [val_limbs]
        exact len_mul (i := 100000) (j := 1) hx1 (limbs_length_le (by show 10 < bp 1; rw [show bp 1 = 4294967296 from rfl]; omega)) (by omega)
      have hval : val (limbs (val (limbs x) * val [10])) + val [d] = dval (s.data.toList.take (k + 1)) := by
        rw [val_limbs, val_limbs, take_succ' s k hlt, dval_snoc, ← HX.out, ← HDN.out]
        show x * 10 + (d + 4294967296 * 0) = _
        omega
      have HVAL := Lib.hid hval
      clear hval
      have hw8 : IntKind.u8.wrap (d : Int) = (d : Int) := IntWalk.u8_in _ (by omega)
      have hw32 : IntKind.u32.wrap (d : Int) = (d : Int) := IntWalk.u32_in _ (by omega)
      go_region_held3 (fun _ => True) (trivial) ((first
        | (go_at_call 29; (with_reducible refine (rmul_ok p n c (limbs x) _ 1 1 [10] _ (NatIn.drew (NatIn.keep HN.out (below_new _ _))) (NatIn.drew H10.out) HNn.out rfl (by omega) (by omega)).mono ?_); rintro e w2 ⟨p2, c2, rfl, hb2, hm2⟩)
        | (go_at_call 29; (with_reducible refine (rmul_ok p n c (limbs x) _ 1 1 [10] _ (NatIn.drew (NatIn.keep (NatIn.keep HN.out (below_new _ _)) (below_new _ _))) (NatIn.drew (NatIn.keep H10.out (below_new _ _))) HNn.out rfl (by omega) (by omega)).mono ?_); rintro e w2 ⟨p2, c2, rfl, hb2, hm2⟩)
        | (go_at_call 29; (with_reducible refine (rmul_ok p n c (limbs x) _ 1 1 [10] _ (NatIn.drew (NatIn.keep (NatIn.keep HN.out (below_new _ _)) (below_new _ _))) (NatIn.drew H10'.out) HNn.out rfl (by omega) (by omega)).mono ?_); rintro e w2 ⟨p2, c2, rfl, hb2, hm2⟩)
        | (go_at_call 28; (with_reducible refine (radd_ok p2 _ c2 _ _ 1 1 [d] _ (hm2.natIn.keep (below_new _ _)) (natIn_new w2 (cs := #[.int .u32 (d : Int)]) (L := [d]) (n := 1) (by simp [limbV]) (lim_cons (by omega) lim_nil) rfl (by omega)) rfl rfl (by omega) (by omega)).mono ?_); rintro e w3 ⟨p3, c3, rfl, hb3, hm3⟩)
        | (go_at_call 28; (with_reducible refine (radd_ok p2 _ c2 _ _ 1 1 [d] _ hm2.natIn (NatIn.keep (NatIn.drew HDG'.out) hb2) rfl rfl (by omega) (by omega)).mono ?_); rintro e w3 ⟨p3, c3, rfl, hb3, hm3⟩)
        | (go_at_call 28; (with_reducible refine (radd_ok p2 _ c2 _ _ 1 1 [d] _ hm2.natIn (NatIn.keep (NatIn.drew (NatIn.keep HDG.out (below_new _ _))) hb2) rfl rfl (by omega) (by omega)).mono ?_); rintro e w3 ⟨p3, c3, rfl, hb3, hm3⟩)))
      all_goals
        have HB2 := Lib.hid hb2
        have HB3 := Lib.hid hb3
        have HM3 := Lib.hid hm3
        have hs2 := hb2.size
        simp only [World.size_drew, World.size_alloc] at hs2
        clear hb2 hb3 hm3 hm2
        go_wp2_with fail
        go_roundg (s.size - k)
        case measure => exact HGK.out
        case rel =>
          have hs0 := HB.out.size
          have hw : Below wr.heap.size wr w3 ∧ w.heap.size ≤ w2.heap.size := by
            first
            | exact ⟨(((below_new wr (.cells #[.int .u32 10] 44)).drew).trans (HB2.out.mono (by simp))).trans (((below_new w2 (.cells #[.int .u32 (d : Int)] 44)).mono (by omega)).trans (HB3.out.mono (by simp; omega))), by omega⟩
            | exact ⟨((((below_new wr (.cells #[.int .u32 10] 44)).trans ((below_new _ (.cells #[.int .u32 (d : Int)] 44)).mono (by simp))).drew).trans (HB2.out.mono (by simp; omega))).trans (HB3.out.mono (by omega)), by omega⟩
            | exact ⟨((((below_new wr (.cells #[.int .u32 (d : Int)] 44)).trans ((below_new _ (.cells #[.int .u32 10] 44)).mono (by simp))).drew).trans (HB2.out.mono (by simp; omega))).trans (HB3.out.mono (by omega)), by omega⟩
          exact ⟨k + 1, _, p3, c3, _, by omega, by go_num, rfl, rfl, HVAL.out, HM3.out.mono (by have := hw.2; first | omega | (simp; omega)), HB.out.trans (hw.1.mono hs0), by omega⟩
    · obtain rfl : s.size = k := by omega
      have hall : Hid (x = dval s.data.toList) := by
        rw [HX.out, List.take_of_length_le (by simp)]; rfl
      go_wp2_with fail
      go_ret
      have hm := HM.out
      rw [hall.out] at hm
      exact ⟨p, c, by rw [← HNn.out, hall.out]; rfl, HB.out, hm⟩
end Go.Proofs.YtgaicejcjkpekaaDoor
