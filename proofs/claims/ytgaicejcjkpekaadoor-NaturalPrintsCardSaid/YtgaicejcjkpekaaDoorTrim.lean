/- natural.Trim, natural.FromUint. -/
import Derived.Test.YtgaicejcjkpekaaDoorLow
namespace Go.Proofs.YtgaicejcjkpekaaDoor
open Go.RowKit Nt

set_option maxHeartbeats 400000 in
theorem trim_ok (p : Option Addr) (n c : Nat) (l : List Nat) (w : World) (h : NatIn w p c l) (hn : l.length = n) (hs : n ≤ 1000000000000) :
    Calls Tryd.prog 20 #[.slice p n c] w (RetNat (val l) w) := by
  have hlow := limbs_length_val_le h.lim
  go_enter Tryd.func20, Tryd.ntmps20
  go_wp2_with fail
  refine (low_ok p _ c l _ h hn).mono ?_
  rintro e w' ⟨A, hA, rfl, hAn, rfl⟩
  have hAl : A.length ≤ 1000000000000 := by rw [hA.out]; omega
  go_wp2_with (at_builtin; refine wpList_cp _ rfl _ _ rfl rfl rfl hAn rfl hAl ?_)
  intro p' c' w' hb hm
  go_wp2_with fail
  go_ret
  have hA' := hA.out
  subst hA'
  exact ⟨p', c', rfl, hb, hm⟩

set_option maxHeartbeats 400000 in
theorem fromUint_ok (v : Nat) (hv : v < 18446744073709551616) (w : World) :
    Calls Tryd.prog 19 #[.int .u64 (v : Int)] w (RetNat v w) := by
  have hv1 : (v : Int) ≤ 18446744073709551615 := by omega
  clear hv
  go_enter Tryd.func19, Tryd.ntmps19
  go_wp2_with fail
  have hO := own_new w (cs := #[.int .u32 ((v : Int) % 4294967296), .int .u32 ((v : Int) / 4294967296)]) (L := [v % 4294967296, v / 4294967296]) (by simp [limbV])
  refine (trim_ok _ 2 2 [v % 4294967296, v / 4294967296] _ (hO.whole (lim_cons (by omega) (lim_cons (by omega) lim_nil)) rfl (by omega)) rfl (by omega)).mono ?_
  intro e w' h
  have h2 := RetNat.behind (below_new w _) h
  rw [show val [v % 4294967296, v / 4294967296] = v from by simp only [val]; omega] at h2
  obtain ⟨p, c, rfl, h3⟩ := h2
  go_wp2_with fail
  go_ret
  exact ⟨p, c, rfl, h3⟩
end Go.Proofs.YtgaicejcjkpekaaDoor
