namespace Go.Proofs.YtgaicejcjkpekaaDoor.Nt

/-- The number that limbs stand for, the least limb first. -/
def val : List Nat → Nat
  | [] => 0
  | x :: l => x + 4294967296 * val l

def Lim (l : List Nat) : Prop := ∀ x ∈ l, x < 4294967296

/-- The limbs of a number. -/
def limbs (n : Nat) : List Nat := if h : n = 0 then [] else n % 4294967296 :: limbs (n / 4294967296)
termination_by n
decreasing_by omega

theorem limbs_zero : limbs 0 = [] := by rw [limbs]; simp
theorem limbs_pos {n : Nat} (h : n ≠ 0) : limbs n = n % 4294967296 :: limbs (n / 4294967296) := by rw [limbs]; simp [h]

theorem val_limbs (n : Nat) : val (limbs n) = n := by
  induction n using Nat.strongRecOn with
  | _ n ih =>
    by_cases h : n = 0
    · subst h; rw [limbs_zero]; rfl
    · rw [limbs_pos h, val, ih _ (by omega)]; omega

theorem lim_nil : Lim [] := by intro x h; cases h
theorem lim_cons {x : Nat} {l : List Nat} (h : x < 4294967296) (hl : Lim l) : Lim (x :: l) := by
  intro y hy
  cases hy with
  | head => exact h
  | tail _ hy => exact hl y hy
theorem Lim.head {x : Nat} {l : List Nat} (h : Lim (x :: l)) : x < 4294967296 := h x (by simp)
theorem Lim.tail {x : Nat} {l : List Nat} (h : Lim (x :: l)) : Lim l := fun y hy => h y (by simp [hy])
theorem lim_limbs (n : Nat) : Lim (limbs n) := by
  induction n using Nat.strongRecOn with
  | _ n ih =>
    by_cases h : n = 0
    · subst h; rw [limbs_zero]; exact lim_nil
    · rw [limbs_pos h]; exact lim_cons (by omega) (ih _ (by omega))

theorem limbs_inj {m n : Nat} (h : limbs m = limbs n) : m = n := by rw [← val_limbs m, h, val_limbs]

/-- No limb 0 at the end. -/
def Canon (l : List Nat) : Prop := ∀ h : l ≠ [], l.getLast h ≠ 0

theorem canon_tail {x : Nat} {l : List Nat} (h : Canon (x :: l)) : Canon l := by
  intro hl
  have := h (by simp)
  rwa [List.getLast_cons hl] at this

theorem val_pos_of_canon {l : List Nat} (hc : Canon l) (h : l ≠ []) : val l ≠ 0 := by
  induction l with
  | nil => exact absurd rfl h
  | cons x l ih =>
    by_cases hl : l = []
    · subst hl
      have := hc (by simp)
      simp at this
      simp [val]; omega
    · have := ih (canon_tail hc) hl
      rw [val]; omega

theorem eq_limbs {l : List Nat} (hl : Lim l) (hc : Canon l) : l = limbs (val l) := by
  induction l with
  | nil => rw [val, limbs_zero]
  | cons x l ih =>
    have hx := hl.head
    have hne : val (x :: l) ≠ 0 := val_pos_of_canon hc (by simp)
    rw [limbs_pos hne]
    have e := ih hl.tail (canon_tail hc)
    rw [val] at hne ⊢
    have e1 : (x + 4294967296 * val l) % 4294967296 = x := by omega
    have e2 : (x + 4294967296 * val l) / 4294967296 = val l := by omega
    rw [e1, e2, ← e]

theorem canon_limbs (n : Nat) : Canon (limbs n) := by
  induction n using Nat.strongRecOn with
  | _ n ih =>
    by_cases h : n = 0
    · subst h; rw [limbs_zero]; intro h; exact absurd rfl h
    · rw [limbs_pos h]
      intro h'
      by_cases h0 : n / 4294967296 = 0
      · simp only [h0, limbs_zero, List.getLast_singleton]
        omega
      · have hne : limbs (n / 4294967296) ≠ [] := by rw [limbs_pos h0]; simp
        rw [List.getLast_cons hne]
        exact ih _ (by omega) hne

/-- The base's powers. -/
def bp (k : Nat) : Nat := 4294967296 ^ k
theorem bp_zero : bp 0 = 1 := rfl
theorem bp_succ (k : Nat) : bp (k + 1) = 4294967296 * bp k := by unfold bp; rw [Nat.pow_succ, Nat.mul_comm]
theorem bp_pos (k : Nat) : 0 < bp k := by unfold bp; exact Nat.pow_pos (by omega)
theorem bp_add (j k : Nat) : bp (j + k) = bp j * bp k := by unfold bp; exact Nat.pow_add ..

theorem val_lt {l : List Nat} (h : Lim l) : val l < bp l.length := by
  induction l with
  | nil => simp [val, bp]
  | cons x l ih =>
    have := ih h.tail
    have hx := h.head
    rw [val, List.length_cons, bp_succ]; omega

theorem val_append (a b : List Nat) : val (a ++ b) = val a + bp a.length * val b := by
  induction a with
  | nil => simp [val, bp]
  | cons x a ih =>
    rw [List.cons_append, val, val, ih, List.length_cons, bp_succ, Nat.mul_add, ← Nat.mul_assoc]; omega

theorem val_take_succ {l : List Nat} {k : Nat} (h : k < l.length) : val (l.take (k + 1)) = val (l.take k) + bp k * l[k] := by
  rw [List.take_succ_eq_append_getElem h, val_append]
  simp [val, Nat.min_eq_left (Nat.le_of_lt h)]

theorem val_zeros (k : Nat) : val (List.replicate k 0) = 0 := by
  induction k with
  | zero => rfl
  | succ k ih => rw [List.replicate_succ, val, ih]

theorem lim_append {a b : List Nat} (ha : Lim a) (hb : Lim b) : Lim (a ++ b) := by
  intro x hx
  rcases List.mem_append.1 hx with h | h
  · exact ha x h
  · exact hb x h
theorem lim_take {l : List Nat} (h : Lim l) (k : Nat) : Lim (l.take k) := fun x hx => h x (List.mem_of_mem_take hx)
theorem lim_drop {l : List Nat} (h : Lim l) (k : Nat) : Lim (l.drop k) := fun x hx => h x (List.mem_of_mem_drop hx)
theorem Lim.get {l : List Nat} (h : Lim l) {k : Nat} (hk : k < l.length) : l[k] < 4294967296 := h _ (List.getElem_mem hk)
theorem lim_set {l : List Nat} (h : Lim l) {k x : Nat} (hx : x < 4294967296) : Lim (l.set k x) := by
  intro y hy
  rcases List.mem_or_eq_of_mem_set hy with h1 | h1
  · exact h y h1
  · omega

/-- How many limbs a number has. -/
theorem limbs_length_le {n k : Nat} (h : n < bp k) : (limbs n).length ≤ k := by
  induction k generalizing n with
  | zero => have : n = 0 := by simp [bp] at h; omega
            subst this; simp [limbs_zero]
  | succ k ih =>
    by_cases h0 : n = 0
    · subst h0; simp [limbs_zero]
    · rw [limbs_pos h0, List.length_cons]
      have := @ih (n / 4294967296) (by rw [bp_succ] at h; omega)
      omega

theorem le_limbs_length {n k : Nat} (h : bp k ≤ n) : k < (limbs n).length := by
  have := val_lt (lim_limbs n)
  rw [val_limbs] at this
  apply Nat.lt_of_not_le
  intro hle
  have : bp (limbs n).length ≤ bp k := by unfold bp; exact Nat.pow_le_pow_right (by omega) hle
  omega

/-- The limbs of a list's number begin the list; behind them there are zeros alone. -/
theorem limbs_prefix {l : List Nat} (h : Lim l) : ∃ k, l = limbs (val l) ++ List.replicate k 0 := by
  induction l with
  | nil => exact ⟨0, by simp [val, limbs_zero]⟩
  | cons x l ih =>
    obtain ⟨k, e⟩ := ih h.tail
    have hx := h.head
    by_cases h0 : val (x :: l) = 0
    · rw [h0, limbs_zero]
      rw [val] at h0
      have hv : val l = 0 := by omega
      have hx0 : x = 0 := by omega
      rw [hv, limbs_zero] at e
      refine ⟨k + 1, ?_⟩
      simp only [List.nil_append] at e ⊢
      rw [List.replicate_succ, ← e, hx0]
    · refine ⟨k, ?_⟩
      rw [limbs_pos h0, val]
      have e1 : (x + 4294967296 * val l) % 4294967296 = x := by omega
      have e2 : (x + 4294967296 * val l) / 4294967296 = val l := by omega
      rw [e1, e2, List.cons_append, ← e]

theorem limbs_length_val_le {l : List Nat} (h : Lim l) : (limbs (val l)).length ≤ l.length := limbs_length_le (val_lt h)

theorem take_limbs {l : List Nat} (h : Lim l) : l.take (limbs (val l)).length = limbs (val l) := by
  obtain ⟨k, e⟩ := limbs_prefix h
  have := congrArg (List.take (limbs (val l)).length) e
  rw [this]; simp

theorem zero_behind {l : List Nat} (h : Lim l) {i : Nat} (h1 : (limbs (val l)).length ≤ i) (h2 : i < l.length) : l[i] = 0 := by
  obtain ⟨k, e⟩ := limbs_prefix h
  have : l[i]? = (limbs (val l) ++ List.replicate k 0)[i]? := by rw [← e]
  rw [List.getElem?_append_right h1] at this
  rw [List.getElem?_eq_getElem h2] at this
  have h3 := List.mem_of_getElem? this.symm
  exact (List.mem_replicate.1 h3).2

theorem last_ne_zero {l : List Nat} (h : Lim l) {i : Nat} (h1 : (limbs (val l)).length = i + 1) (h2 : i < l.length) : l[i] ≠ 0 := by
  have hc := canon_limbs (val l)
  have hne : limbs (val l) ≠ [] := by intro h; rw [h] at h1; simp at h1
  have := hc hne
  rw [List.getLast_eq_getElem] at this
  have e := take_limbs h
  have e2 : (l.take (limbs (val l)).length)[i]? = (limbs (val l))[i]? := by rw [e]
  rw [List.getElem?_take, if_pos (by omega), List.getElem?_eq_getElem h2, List.getElem?_eq_getElem (by omega)] at e2
  simp only [Option.some.injEq] at e2
  rw [e2]
  simpa [h1] using this

/-- Limb i; 0 behind the end. -/
def lm (l : List Nat) (i : Nat) : Nat := l.getD i 0
theorem lm_lt {l : List Nat} (h : Lim l) (i : Nat) : lm l i < 4294967296 := by
  unfold lm
  rw [List.getD_eq_getElem?_getD]
  by_cases hi : i < l.length
  · rw [List.getElem?_eq_getElem hi]; exact h.get hi
  · rw [List.getElem?_eq_none (by omega)]; simp
theorem lm_eq {l : List Nat} {i : Nat} (h : i < l.length) : lm l i = l[i] := by
  unfold lm; rw [List.getD_eq_getElem?_getD, List.getElem?_eq_getElem h]; rfl
theorem lm_out {l : List Nat} {i : Nat} (h : l.length ≤ i) : lm l i = 0 := by
  unfold lm; rw [List.getD_eq_getElem?_getD, List.getElem?_eq_none h]; rfl
theorem lm_take {l : List Nat} {i k : Nat} (h : i < k) : lm (l.take k) i = lm l i := by
  unfold lm; rw [List.getD_eq_getElem?_getD, List.getD_eq_getElem?_getD, List.getElem?_take, if_pos h]
theorem lm_set_ne {l : List Nat} {i k x : Nat} (h : i ≠ k) : lm (l.set k x) i = lm l i := by
  unfold lm; rw [List.getD_eq_getElem?_getD, List.getD_eq_getElem?_getD, List.getElem?_set_ne (by omega)]
theorem lm_set_eq {l : List Nat} {k x : Nat} (h : k < l.length) : lm (l.set k x) k = x := by
  unfold lm; rw [List.getD_eq_getElem?_getD, List.getElem?_set_self h]; rfl
theorem val_take (l : List Nat) (k : Nat) : val (l.take (k + 1)) = val (l.take k) + bp k * lm l k := by
  by_cases h : k < l.length
  · rw [val_take_succ h, lm_eq h]
  · rw [List.take_of_length_le (by omega), List.take_of_length_le (by omega), lm_out (by omega)]; omega
theorem val_take_all {l : List Nat} {k : Nat} (h : l.length ≤ k) : val (l.take k) = val l := by rw [List.take_of_length_le h]
theorem take_set_succ {l : List Nat} {k x : Nat} (h : k < l.length) : (l.set k x).take (k + 1) = l.take k ++ [x] := by
  rw [List.take_succ_eq_append_getElem (by simpa using h), List.take_set_of_le (Nat.le_refl _)]
  simp
theorem val_set {l : List Nat} {k x : Nat} (h : k < l.length) : val ((l.set k x).take (k + 1)) = val (l.take k) + bp k * x := by
  rw [take_set_succ h, val_append]
  simp [val, Nat.min_eq_left (Nat.le_of_lt h)]
theorem lim_zeros (n : Nat) : Lim (List.replicate n 0) := fun x hx => by have := (List.mem_replicate.1 hx).2; omega

/-! ### Sum -/
theorem add_step {a b L : List Nat} {k c : Nat} (hk : k < L.length) (h : val (L.take k) + bp k * c = val (a.take k) + val (b.take k)) :
    val ((L.set k ((c + lm a k + lm b k) % 4294967296)).take (k + 1)) + bp (k + 1) * ((c + lm a k + lm b k) / 4294967296) = val (a.take (k + 1)) + val (b.take (k + 1)) := by
  rw [val_set hk, val_take, val_take, bp_succ]
  have e := Nat.mod_add_div (c + lm a k + lm b k) 4294967296
  generalize (c + lm a k + lm b k) % 4294967296 = r at e ⊢
  generalize (c + lm a k + lm b k) / 4294967296 = q at e ⊢
  have e2 : bp k * (r + 4294967296 * q) = bp k * (c + lm a k + lm b k) := by rw [e]
  simp only [Nat.mul_add, Nat.mul_assoc, Nat.mul_left_comm (bp k)] at e2 ⊢
  omega
theorem add_last {L : List Nat} {k c : Nat} (hk : L.length = k + 1) : val (L.set k c) = val (L.take k) + bp k * c := by
  have := val_set (l := L) (k := k) (x := c) (by omega)
  rwa [List.take_of_length_le (by simp; omega)] at this

/-! ### Order -/
def cmp (a b : Nat) : Int := if a < b then -1 else if a = b then 0 else 1
def sgn (b : Bool) : Int := if b then 1 else -1
theorem cmp_lt {a b : Nat} (h : a < b) : cmp a b = -1 := by unfold cmp; rw [if_pos h]
theorem cmp_eq {a b : Nat} (h : a = b) : cmp a b = 0 := by unfold cmp; rw [if_neg (by omega), if_pos h]
theorem cmp_gt {a b : Nat} (h : b < a) : cmp a b = 1 := by unfold cmp; rw [if_neg (by omega), if_neg (by omega)]
theorem cmp_bd (a b : Nat) : -1 ≤ cmp a b ∧ cmp a b ≤ 1 := by unfold cmp; split <;> (try split) <;> omega
theorem cmp_neg {a b : Nat} : cmp a b < 0 ↔ a < b := by unfold cmp; split <;> (try split) <;> omega
theorem cmp_zero {a b : Nat} : cmp a b = 0 ↔ a = b := by unfold cmp; split <;> (try split) <;> omega
theorem cmp_pos {a b : Nat} : 0 < cmp a b ↔ b < a := by unfold cmp; split <;> (try split) <;> omega
theorem cmp_swap (a b : Nat) : cmp b a = - cmp a b := by unfold cmp; split <;> (try split) <;> (try split) <;> omega

theorem bp_mono {j k : Nat} (h : j ≤ k) : bp j ≤ bp k := by unfold bp; exact Nat.pow_le_pow_right (by omega) h
theorem lt_of_length {a b : Nat} (h : (limbs a).length < (limbs b).length) : a < b := by
  apply Nat.lt_of_not_le
  intro hle
  have h1 := val_lt (lim_limbs a)
  rw [val_limbs] at h1
  have := limbs_length_le (n := b) (k := (limbs a).length) (by omega)
  omega
theorem limbs_length_mono {a b : Nat} (h : a ≤ b) : (limbs a).length ≤ (limbs b).length := by
  have h1 := val_lt (lim_limbs b)
  rw [val_limbs] at h1
  exact limbs_length_le (by omega)

theorem val_split {l : List Nat} {k : Nat} (h : k ≤ l.length) : val l = val (l.take k) + bp k * val (l.drop k) := by
  have := val_append (l.take k) (l.drop k)
  rwa [List.take_append_drop, List.length_take, Nat.min_eq_left h] at this
theorem val_drop {l : List Nat} {k : Nat} (h : k < l.length) : val (l.drop k) = lm l k + 4294967296 * val (l.drop (k + 1)) := by
  rw [List.drop_eq_getElem_cons h, val, lm_eq h]
theorem val_take_lt {l : List Nat} (h : Lim l) {k : Nat} (hk : k ≤ l.length) : val (l.take k) < bp k := by
  have := val_lt (lim_take h k)
  rwa [List.length_take, Nat.min_eq_left hk] at this

theorem gt_of_limb {A B : List Nat} (hB : Lim B) {j : Nat} (ha : j < A.length) (hb : j < B.length) (hd : val (A.drop (j + 1)) = val (B.drop (j + 1))) (h : lm B j < lm A j) : val B < val A := by
  rw [val_split (Nat.le_of_lt ha), val_split (Nat.le_of_lt hb), val_drop ha, val_drop hb, hd]
  have h1 := val_take_lt hB (Nat.le_of_lt hb)
  have h2 : bp j * (lm B j + 4294967296 * val (B.drop (j + 1)) + 1) ≤ bp j * (lm A j + 4294967296 * val (B.drop (j + 1))) := Nat.mul_le_mul_left _ (by omega)
  rw [Nat.mul_add _ _ 1] at h2
  omega
theorem drop_step {A B : List Nat} {j : Nat} (ha : j < A.length) (hb : j < B.length) (hd : val (A.drop (j + 1)) = val (B.drop (j + 1))) (h : lm A j = lm B j) : val (A.drop j) = val (B.drop j) := by
  rw [val_drop ha, val_drop hb, hd, h]

/-! ### Difference -/
theorem sub_step {a b L : List Nat} {k br : Nat} (hL : Lim L) (hB : Lim b) (hk : k < L.length) (hla : lm L k = lm a k) (hbr : br ≤ 1) (h : val (L.take k) + val (b.take k) = val (a.take k) + bp k * br) :
    val ((L.set k ((4294967296 + lm L k - br - lm b k) % 4294967296)).take (k + 1)) + val (b.take (k + 1)) = val (a.take (k + 1)) + bp (k + 1) * (if lm L k < br + lm b k then 1 else 0) := by
  rw [val_set hk, val_take b, val_take a, bp_succ, ← hla]
  have h1 := lm_lt hL k
  have h2 := lm_lt hB k
  generalize lm L k = x at *
  generalize lm b k = y at *
  generalize hr : (4294967296 + x - br - y) % 4294967296 = r
  generalize hq : (if x < br + y then 1 else 0) = q
  have e : r + y + br = x + 4294967296 * q := by
    subst hr hq
    split <;> omega
  have e2 : bp k * (r + y + br) = bp k * (x + 4294967296 * q) := by rw [e]
  simp only [Nat.mul_add, Nat.mul_assoc, Nat.mul_left_comm (bp k)] at e2 ⊢
  omega
theorem sub_end {L : List Nat} {a b br n : Nat} (hL : Lim L) (hn : L.length = n) (hle : b ≤ a) (h : val L + b = a + bp n * br) : val L = a - b := by
  have h1 := val_lt hL
  rw [hn] at h1
  have h2 : br = 0 := by
    apply Nat.eq_zero_of_not_pos
    intro h3
    have := Nat.mul_le_mul_left (bp n) h3
    omega
  subst h2
  omega
def leB (a b : Nat) : Bool := decide (a ≤ b)
theorem leB_true {a b : Nat} (h : a ≤ b) : leB a b = true := by simpa [leB] using h
theorem leB_false {a b : Nat} (h : b < a) : leB a b = false := by simpa [leB] using h

/-! ### Product -/
theorem val_set_any {L : List Nat} {k x : Nat} (h : k < L.length) : val (L.set k x) + bp k * lm L k = val L + bp k * x := by
  have h1 := val_split (l := L.set k x) (k := k + 1) (by rw [List.length_set]; omega)
  have h2 := val_split (l := L) (k := k + 1) (by omega)
  have h3 : (L.set k x).drop (k + 1) = L.drop (k + 1) := List.drop_set_of_lt (by omega)
  rw [val_set h, h3] at h1
  rw [val_take] at h2
  omega
theorem mul_step {L L0 b : List Nat} {i k c x : Nat} (hk : i + k < L.length) (h : val L + bp (i + k) * c = val L0 + bp i * (x * val (b.take k))) :
    val (L.set (i + k) ((c + (x * lm b k + lm L (i + k))) % 4294967296)) + bp (i + (k + 1)) * ((c + (x * lm b k + lm L (i + k))) / 4294967296) = val L0 + bp i * (x * val (b.take (k + 1))) := by
  have h1 := val_set_any (x := (c + (x * lm b k + lm L (i + k))) % 4294967296) hk
  rw [val_take, ← Nat.add_assoc i k 1, bp_succ]
  have e := Nat.mod_add_div (c + (x * lm b k + lm L (i + k))) 4294967296
  have hp : bp (i + k) = bp i * bp k := bp_add i k
  generalize bp (i + k) = P at *
  generalize (c + (x * lm b k + lm L (i + k))) % 4294967296 = r at e h1 ⊢
  generalize (c + (x * lm b k + lm L (i + k))) / 4294967296 = q at e h1 ⊢
  generalize val (L.set (i + k) r) = V at *
  generalize val L = VL at *
  generalize val L0 = V0 at *
  generalize val (b.take k) = vb at *
  generalize lm b k = y at *
  generalize lm L (i + k) = o at *
  generalize bp i = Pi at *
  generalize bp k = Pk at *
  grind
theorem mul_last {L L0 : List Nat} {j c p : Nat} (hj : j < L.length) (h0 : lm L j = 0) (h : val L + bp j * c = val L0 + p) : val (L.set j c) = val L0 + p := by
  have := val_set_any (x := c) hj
  rw [h0] at this
  omega

/-! ### Division by one limb -/
theorem small_step {L l : List Nat} {j r d : Nat} (hj : j < L.length) (hl : j < l.length) (h : val (L.drop (j + 1)) * d + r = val (l.drop (j + 1))) :
    val ((L.set j ((r * 4294967296 + lm l j) / d)).drop j) * d + (r * 4294967296 + lm l j) % d = val (l.drop j) := by
  rw [val_drop (by simpa using hj), val_drop hl, lm_set_eq hj, List.drop_set_of_lt (by omega), ← h]
  have e := Nat.div_add_mod (r * 4294967296 + lm l j) d
  generalize (r * 4294967296 + lm l j) / d = q at *
  generalize (r * 4294967296 + lm l j) % d = s at *
  rw [Nat.add_mul, Nat.mul_add, Nat.mul_assoc, Nat.mul_comm q d]
  omega
theorem small_end {v q r d : Nat} (hr : r < d) (h : q * d + r = v) : q = v / d ∧ r = v % d := by
  subst h
  rw [Nat.mul_comm, Nat.mul_add_div (by omega), Nat.mul_add_mod, Nat.div_eq_of_lt hr, Nat.mod_eq_of_lt hr]
  exact ⟨rfl, rfl⟩

/-! ### Shift -/
theorem shift_step {l L : List Nat} {k c S : Nat} (hk : k < L.length) (h : val (L.take k) + bp k * c = val (l.take k) * S) :
    val ((L.set k ((c + lm l k * S) % 4294967296)).take (k + 1)) + bp (k + 1) * ((c + lm l k * S) / 4294967296) = val (l.take (k + 1)) * S := by
  rw [val_set hk, val_take, bp_succ]
  have e := Nat.mod_add_div (c + lm l k * S) 4294967296
  generalize (c + lm l k * S) % 4294967296 = r at e ⊢
  generalize (c + lm l k * S) / 4294967296 = q at e ⊢
  generalize val (L.take k) = V at *
  generalize val (l.take k) = U at *
  generalize lm l k = x at *
  generalize bp k = P at *
  grind
theorem shift_carry {c x S : Nat} (hc : c < S) (hx : x < 4294967296) : (c + x * S) / 4294967296 < S := by
  apply Nat.div_lt_of_lt_mul
  have : (x + 1) * S ≤ 4294967296 * S := Nat.mul_le_mul_right _ (by omega)
  rw [Nat.add_mul] at this
  omega
theorem or_low {c x s : Nat} (hc : c < 2 ^ s) : c ||| x * 2 ^ s = c + x * 2 ^ s := by
  rw [Nat.mul_comm x, Nat.or_comm, ← Nat.two_pow_add_eq_or_of_lt hc, Nat.add_comm]

/-! ### Binary digits -/
def nb (n : Nat) : Nat := if n = 0 then 0 else Nat.log2 n + 1
theorem nb_zero : nb 0 = 0 := rfl
theorem nb_pos {n : Nat} (h : n ≠ 0) : nb n = Nat.log2 n + 1 := by unfold nb; rw [if_neg h]
theorem nb_lt (n : Nat) : n < 2 ^ nb n := by
  by_cases h : n = 0
  · subst h; simp [nb]
  · rw [nb_pos h]; exact Nat.lt_log2_self
theorem nb_ge {n : Nat} (h : n ≠ 0) : 2 ^ (nb n - 1) ≤ n := by rw [nb_pos h]; exact Nat.log2_self_le h
theorem nb_of {n k : Nat} (h1 : 2 ^ k ≤ n) (h2 : n < 2 ^ (k + 1)) : nb n = k + 1 := by
  have h0 : n ≠ 0 := by have := Nat.two_pow_pos k; omega
  have h3 := nb_lt n
  have h4 := nb_ge h0
  have h5 : k < nb n := (Nat.pow_lt_pow_iff_right (by omega : 1 < 2)).1 (Nat.lt_of_le_of_lt h1 h3)
  have h6 : nb n - 1 < k + 1 := (Nat.pow_lt_pow_iff_right (by omega : 1 < 2)).1 (Nat.lt_of_le_of_lt h4 h2)
  omega
theorem nb_eq_zero {n : Nat} : nb n = 0 ↔ n = 0 := by
  constructor
  · intro h
    apply Classical.byContradiction
    intro h0
    rw [nb_pos h0] at h; omega
  · rintro rfl; rfl
theorem nb_half {n : Nat} (h : n ≠ 0) : nb n = nb (n / 2) + 1 := by
  by_cases h1 : n / 2 = 0
  · have : n = 1 := by omega
    subst this
    exact nb_of (k := 0) (by simp) (by simp)
  · have h2 := nb_lt (n / 2)
    have h3 := nb_ge h1
    have h4 : nb (n / 2) ≠ 0 := fun e => h1 (nb_eq_zero.1 e)
    obtain ⟨k, hk⟩ : ∃ k, nb (n / 2) = k + 1 := ⟨nb (n / 2) - 1, by omega⟩
    rw [hk] at h2 h3 ⊢
    rw [Nat.add_sub_cancel] at h3
    apply nb_of
    · rw [Nat.pow_succ]; omega
    · rw [Nat.pow_succ]; omega
theorem nb_le {n k : Nat} (h : n < 2 ^ k) : nb n ≤ k := by
  by_cases h0 : n = 0
  · subst h0; simp [nb]
  · have := nb_ge h0
    have h1 : nb n - 1 < k := (Nat.pow_lt_pow_iff_right (by omega : 1 < 2)).1 (Nat.lt_of_le_of_lt this h)
    omega
theorem nb_mono {a b : Nat} (h : a ≤ b) : nb a ≤ nb b := nb_le (Nat.lt_of_le_of_lt h (nb_lt b))
theorem bp_two_pow (k : Nat) : bp k = 2 ^ (32 * k) := by unfold bp; rw [Nat.pow_mul]
theorem nb_val {l : List Nat} (h : Lim l) {k : Nat} (hk : l.length = k + 1) (h0 : lm l k ≠ 0) : nb (val l) = 32 * k + nb (lm l k) := by
  have e := val_take l k
  rw [val_take_all (by omega)] at e
  have h1 := val_take_lt h (k := k) (by omega)
  have h2 := nb_lt (lm l k)
  have h3 := nb_ge h0
  have h4 : nb (lm l k) ≠ 0 := fun e => h0 (nb_eq_zero.1 e)
  obtain ⟨m, hm⟩ : ∃ m, nb (lm l k) = m + 1 := ⟨nb (lm l k) - 1, by omega⟩
  rw [hm] at h2 h3 ⊢
  rw [Nat.add_sub_cancel] at h3
  rw [← Nat.add_assoc]
  apply nb_of
  · rw [Nat.pow_add, ← bp_two_pow]
    have : bp k * 2 ^ m ≤ bp k * lm l k := Nat.mul_le_mul_left _ h3
    omega
  · rw [Nat.add_assoc, Nat.pow_add, ← bp_two_pow]
    have : bp k * (lm l k + 1) ≤ bp k * 2 ^ (m + 1) := Nat.mul_le_mul_left _ h2
    rw [Nat.mul_add] at this
    omega
theorem top_limb {n k : Nat} (h : (limbs n).length = k + 1) : lm (limbs n) k ≠ 0 := by
  have hc := canon_limbs n
  have h3 := hc (by intro e; rw [e] at h; simp at h)
  rw [List.getLast_eq_getElem] at h3
  rw [lm_eq (by omega)]
  simpa [h] using h3
theorem nb_limbs {n k : Nat} (h : (limbs n).length = k + 1) : nb n = 32 * k + nb (lm (limbs n) k) := by
  have := nb_val (lim_limbs n) h (top_limb h)
  rwa [val_limbs] at this
def eqL (a b : List Nat) : Bool := decide (a = b)
theorem eqL_true {a b : List Nat} (h : a = b) : eqL a b = true := by simp [eqL, h]
theorem eqL_false {a b : List Nat} (h : a ≠ b) : eqL a b = false := by simp [eqL, h]
theorem eq_of_lm {a b : List Nat} (hl : a.length = b.length) (h : ∀ j, j < a.length → lm a j = lm b j) : a = b := by
  apply List.ext_getElem hl
  intro i h1 h2
  have := h i h1
  rwa [lm_eq h1, lm_eq h2] at this

end Go.Proofs.YtgaicejcjkpekaaDoor.Nt
