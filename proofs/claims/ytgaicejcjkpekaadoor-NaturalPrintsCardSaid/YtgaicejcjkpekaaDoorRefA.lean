/- The reference: size, Trim, Same, Compare, Bits, Add; canonical, Cut, Fold. -/
import Derived.Test.YtgaicejcjkpekaaDoorLow
import Derived.Deep.LoopGhost
namespace Go.Proofs.YtgaicejcjkpekaaDoor
open Go.RowKit Nt

/-- append(api.Nat{}, x...): a copy onto an empty slice that is not nil. -/
theorem run_cpe (w : World) {p : Option Addr} {n c g : Nat} {l : List Nat} (h : NatIn w p c l) (hn : l.length = n) (hs : n ≤ 1000000000000) (ty : TypeId) :
    ∃ p' c' w', Sem.run Tryd.prog (Builtin.append_ #[23, 23] ty #[.slice (some ⟨g, 0, none⟩) 0 0, .slice p n c]) w = .ok (.slice p' n c') w' ∧ Below w.heap.size w w' ∧ Mine w.heap.size w' p' c' l := by
  obtain ⟨i0, hi, hz0, hz1, hz2⟩ := info_parts info32
  subst hn
  by_cases h0 : l = []
  · subst h0
    refine ⟨some ⟨g, 0, none⟩, 0, w, ?_, Below.refl _ _, lim_nil, Nat.le_refl _, by omega, .inl rfl⟩
    cases p with
    | none => simp [Builtin.append_, run_underlying Tryd.underlying23, sizeOf, typeInfo, hi, Builtin.lenOf, Builtin.firstCells, storeCells]
    | some a => simp [Builtin.append_, run_underlying Tryd.underlying23, sizeOf, typeInfo, hi, Builtin.lenOf, Builtin.firstCells, loadCells, loadCellsFrom, storeCells]
  · have hl : 0 < l.length := List.length_pos_iff.2 h0
    obtain ⟨hp, hlt⟩ := h.ptr hl
    have hr := run_append_grow (P := Tryd.prog) w 23 ty 44 i0 (.int .u32 0) Tryd.underlying23 hi hz0 ⟨g, 0, none⟩ 0 0 [] (by simp) (by simp) ⟨blk p, ofs p, none⟩ l.length c (l.map limbV) (by simp [hz1])
      (fun j v hj => by
        simp only [List.getElem?_map, Option.map_eq_some_iff] at hj
        obtain ⟨x, hx, rfl⟩ := hj
        obtain ⟨hjl, hx⟩ := List.getElem?_eq_some_iff.1 hx
        rw [Addr.add_lit, h.cell j hjl, lm_eq hjl, hx]; rfl) (by omega) (by omega) (growslice_fits (by omega) (by rw [hz2]; omega))
    rw [← hp] at hr
    have hge := grownCap_ge w (0 + l.length) 0 44
    have hle := grownCap_le_maxLen w (0 + l.length) 0 44 (by unfold maxLen; omega)
    rw [Nat.zero_add] at hr hge hle
    refine ⟨_, _, _, hr, ⟨rfl, rfl, rfl, by simp, fun k hk => Below.heap_alloc w.drew _ _ (by simpa using hk)⟩, h.lim, hge, hle, .inr ⟨w.heap.size, List.replicate (grownCap w l.length 0 44 - l.length) 0, rfl, Nat.le_refl _, ?_, lim_zeros _, ?_⟩⟩
    · have hnew := heap_alloc_new w.drew (.cells (([] : List Value).toArray ++ (List.map limbV l).toArray ++ Builtin.zeroCells (Value.int .u32 0).cells (grownCap w l.length 0 44 - l.length)) 44)
      have e : ([] : List Value).toArray ++ (List.map limbV l).toArray ++ Builtin.zeroCells (Value.int .u32 0).cells (grownCap w l.length 0 44 - l.length) = (List.map limbV (l ++ List.replicate (grownCap w l.length 0 44 - l.length) 0)).toArray := by
        apply Array.toList_inj.1
        rw [Array.toList_append, zeroCells_eq, List.map_append]
        simp
      rw [e] at hnew ⊢
      exact hnew
    · rw [List.length_replicate]; omega

theorem wpList_cpe {ops : Array Oper} {rest : List Oper} {o : Oper} {a : Act} {Q : Exit → Act → World → Prop} (w : World) (hg : o.guard = none) (s x : Operand)
    (hop : o.op = .call { callee := .builtin .append, args := #[s, x], argTypes := #[23, 23] }) {g : Nat} (hs : a.eval s = .slice (some ⟨g, 0, none⟩) 0 0) {p : Option Addr} {n c : Nat} (hx : a.eval x = .slice p n c) {l : List Nat} (h : NatIn w p c l) (hn : l.length = n) (hsz : n ≤ 1000000000000)
    (hK : ∀ p' c' w', Below w.heap.size w w' → Mine w.heap.size w' p' c' l → wpList Tryd.prog ops Q rest (a.put o.dst (.slice p' n c')) w') :
    wpList Tryd.prog ops Q (o :: rest) a w := by
  refine wpList_plain hg fun K hK' => ?_
  obtain ⟨p', c', w', hr, hb, hm⟩ := run_cpe w h hn hsz (g := g) o.type
  unfold Oper.wp execOp
  simp only [hop, resolve, invoke, builtin, Sem.run_bind, Sem.run_pure, Result.andThen_ok, List.map_toArray, List.map_cons, List.map_nil, hs, hx, hr]
  exact hK' _ _ (hK p' c' w' hb hm)

set_option maxHeartbeats 400000 in
theorem rsize_ok (p : Option Addr) (n c : Nat) (l : List Nat) (w : World) (h : NatIn w p c l) (hn : l.length = n) :
    Calls Tryd.prog 31 #[.slice p n c] w fun e w' => e = .returned (.int .i64 (((limbs (val l)).length : Nat) : Int)) ∧ w = w' := by
  subst hn
  have H := Lib.hid h
  have hle := h.le
  have hcap := h.cap
  have hlow := limbs_length_val_le h.lim
  clear h
  go_enter Tryd.func31, Tryd.ntmps31
  go_wp2_with fail
  go_loop [3] (fun v => ∃ k : Nat, k ≤ l.length ∧ (limbs (val l)).length ≤ k ∧ v = .int .i64 k) (fun v => (intOf v).toNat)
  case atStart => exact ⟨_, Nat.le_refl _, hlow, rfl⟩
  case round =>
    obtain ⟨k, hk, hk2, rfl⟩ := hrel
    by_cases h0 : 0 < k
    · obtain ⟨j, rfl⟩ : ∃ j, k = j + 1 := ⟨k - 1, by omega⟩
      have hj := H.out.cell j (by omega)
      have hix := fun ww => H.out.ix (z := (j : Int)) (by omega) (n := l.length) (by omega) (Nat.le_refl _) c ww
      rw [Int.toNat_natCast] at hix
      by_cases hz : lm l j = 0
      · have HZ := Lib.hid hz
        rw [hz] at hj
        clear hz
        go_wp2_with fail
        go_round
        case rel => exact ⟨j, by omega, low_keep H.out.lim (by omega) hk2 HZ.out, by go_num⟩
        case measure => simp [intOf]
      · have HZ := Lib.hid hz
        have hb : (((lm l j : Nat) : Int) == 0) = false := by rw [beq_eq_false_iff_ne]; omega
        clear hz
        go_wp2_with fail
        go_ret
        have e := low_stop H.out.lim (by omega) hk2 HZ.out
        exact ⟨by rw [e]; rfl, rfl⟩
    · obtain rfl : k = 0 := by omega
      go_wp2_with fail
      go_ret
      have e : (limbs (val l)).length = 0 := by omega
      exact ⟨by rw [e]; rfl, rfl⟩

set_option maxHeartbeats 400000 in
theorem rtrim_ok (p : Option Addr) (n c : Nat) (l : List Nat) (w : World) (h : NatIn w p c l) (hn : l.length = n) (hs : n ≤ 1000000000000) :
    Calls Tryd.prog 14 #[.slice p n c] w (RetNat (val l) w) := by
  have hlow := limbs_length_val_le h.lim
  have hle := h.le
  have H := Lib.hid h
  go_enter Tryd.func14, Tryd.ntmps14
  go_wp2_with fail
  refine (rsize_ok p _ c l _ (h.keep (below_new _ _)) hn).mono ?_
  rintro e w' ⟨rfl, hh⟩
  obtain rfl := hh.symm
  clear hh h
  have hsz : w.heap.size < (w.alloc (.cells #[] 44)).heap.size := by simp
  have hN := H.out.low.keep (below_new w (.cells #[] 44))
  go_wp2_with (at_builtin; refine wpList_cpe _ rfl _ _ rfl rfl rfl hN rfl (by omega) ?_)
  intro p' c' w' hb hm
  go_wp2_with fail
  go_ret
  exact ⟨p', c', rfl, (below_new w _).trans (hb.mono (by omega)), hm.mono (by omega)⟩
end Go.Proofs.YtgaicejcjkpekaaDoor
