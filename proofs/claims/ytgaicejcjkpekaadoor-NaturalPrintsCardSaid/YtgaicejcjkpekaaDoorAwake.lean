/- The laws' own sanity check. -/
import Derived.Test.YtgaicejcjkpekaaDoorRefD
import Derived.Test.YtgaicejcjkpekaaDoorFmt
namespace Go.Proofs.YtgaicejcjkpekaaDoor
open Go.RowKit Nt

theorem limbs_one {n : Nat} (h0 : n ≠ 0) (h : n < 4294967296) : limbs n = [n] := by
  rw [limbs_pos h0, show n / 4294967296 = 0 from by omega, limbs_zero, Nat.mod_eq_of_lt h]
theorem dec_awake : dec 4294967296 = [52, 50, 57, 52, 57, 54, 55, 50, 57, 54] := by
  rw [dec_big (by omega), dec_big (by omega), dec_big (by omega), dec_big (by omega), dec_big (by omega), dec_big (by omega), dec_big (by omega), dec_big (by omega), dec_big (by omega), dec_small (by omega)]
  rfl
theorem natIn_new (w : World) {cs : Array Value} {L : List Nat} (h : cs = (L.map limbV).toArray) (hl : Lim L) {n : Nat} (hn : L.length = n) (hn2 : n ≤ 1000) : NatIn (w.alloc (.cells cs 44)) (some ⟨w.heap.size, 0, none⟩) n L :=
  (own_new w h).whole hl hn (by omega)

set_option maxRecDepth 100000 in
set_option maxHeartbeats 1000000 in
theorem awake_ok (w : World) (ht : Tab w) (hg : 4 < w.heap.size) :
    Calls Tryd.prog 10 #[] w fun e w' => e = .returned (.bool true) ∧ Below w.heap.size w w' := by
  go_enter Tryd.func10, Tryd.ntmps10
  go_wp2_with fail
  have h7 := natIn_new w (cs := #[.int .u32 7]) (L := [7]) (n := 1) (by simp [limbV]) (lim_cons (by omega) lim_nil) rfl (by omega)
  have h2 := natIn_new (w.alloc (.cells #[.int .u32 7] 44)) (cs := #[.int .u32 2]) (L := [2]) (n := 1) (by simp [limbV]) (lim_cons (by omega) lim_nil) rfl (by omega)
  rw [World.size_alloc] at h2
  refine (divide_ok _ 1 1 [7] _ 1 1 [2] _ (h7.keep (below_new _ _)) h2 rfl rfl (by omega) (by omega)).mono ?_
  rintro e w1 ⟨p, c, p', c', rfl, hb, hq, hr⟩
  rw [show val [7] / val [2] = 3 from rfl, limbs_one (by omega) (by omega)] at hq ⊢
  rw [show rmd (val [7]) (val [2]) = 1 from rfl, limbs_one (by omega) (by omega)] at hr ⊢
  rw [show posB (val [2]) = true from rfl]
  have hb1 : Below w.heap.size w w1 := ((below_new _ _).trans ((below_new _ _).mono (by simp))).trans (hb.mono (by simp only [World.size_alloc]; omega))
  have HB1 := Lib.hid hb1
  have HQ := Lib.hid hq.natIn
  have HR := Lib.hid hr.natIn
  have hs1 := hb1.size
  clear hb hq hr hb1 h7 h2
  go_wp2_with fail
  have h3 := natIn_new w1 (cs := #[.int .u32 3]) (L := [3]) (n := 1) (by simp [limbV]) (lim_cons (by omega) lim_nil) rfl (by omega)
  refine (same_ok p 1 c [3] _ 1 1 [3] _ (HQ.out.keep (below_new _ _)) h3 rfl rfl).mono ?_
  rintro e w2 ⟨rfl, hb2⟩
  rw [eqL_true rfl]
  have hb2' : Below w1.heap.size w1 w2 := (below_new _ _).trans (hb2.mono (by simp))
  have HB2 := Lib.hid hb2'
  have hs2 := hb2'.size
  clear hb2 hb2' h3
  go_wp2_with fail
  have h1 := natIn_new w2 (cs := #[.int .u32 1]) (L := [1]) (n := 1) (by simp [limbV]) (lim_cons (by omega) lim_nil) rfl (by omega)
  refine (same_ok p' 1 c' [1] _ 1 1 [1] _ ((HR.out.keep HB2.out).keep (below_new _ _)) h1 rfl rfl).mono ?_
  rintro e w3 ⟨rfl, hb3⟩
  rw [eqL_true rfl]
  have hb3' : Below w2.heap.size w2 w3 := (below_new _ _).trans (hb3.mono (by simp))
  have HB3 := Lib.hid hb3'
  have hs3 := hb3'.size
  clear hb3 hb3' h1
  go_wp2_with fail
  have h01 := natIn_new w3 (cs := #[.int .u32 0, .int .u32 1]) (L := [0, 1]) (n := 2) (by simp [limbV]) (lim_cons (by omega) (lim_cons (by omega) lim_nil)) rfl (by omega)
  have hw3 : Below w.heap.size w w3 := (HB1.out.trans (HB2.out.mono hs1)).trans (HB3.out.mono (by omega))
  have htn : Tab (w3.alloc (.cells #[.int .u32 0, .int .u32 1] 44)) := Tab.keep ht (hw3.trans ((below_new _ _).mono hw3.size)) hg
  refine (format_ok _ 2 2 [0, 1] _ h01 rfl (by omega) htn (by simp only [World.size_alloc]; omega)).mono ?_
  rintro e w4 ⟨rfl, hb4⟩
  rw [show val [0, 1] = 4294967296 from rfl, dec_awake]
  have hw4 : Below w.heap.size w w4 := (hw3.trans ((below_new _ _).mono hw3.size)).trans (hb4.mono (by have := hw3.size; simp only [World.size_alloc]; omega))
  have HW4 := Lib.hid hw4
  clear hb4 htn h01 hw3 hw4 ht
  go_wp2_with fail
  go_ret
  exact ⟨rfl, HW4.out⟩
end Go.Proofs.YtgaicejcjkpekaaDoor
