/- Rows over the field of 256 elements: sums of multiples, elimination as the program does it, what it leaves alone, the inverse of a matrix without a kernel; polynomials with as many roots as coefficients. No condition. -/
import Derived.Test.YtgnmebgjfagjmaaGreatGf
namespace Go.Proofs.YtgnmebgjfagjmaaGreat
namespace M

abbrev Row := List F
def gr (rows : List Row) (i : Nat) : Row := rows.getD i []
def ge (r : Row) (i : Nat) : F := r.getD i 0

def dot : Row → Row → F
  | [], _ => 0
  | _ :: _, [] => 0
  | a :: as, b :: bs => mul a b ^^^ dot as bs
/-- d + c s -/
def axpy (c : F) (s d : Row) : Row := List.zipWith (fun x y => x ^^^ mul c y) d s
def scale (c : F) (r : Row) : Row := r.map fun x => mul x c
def mv (A : List Row) (u : Row) : Row := A.map fun r => dot r u
def zeros (n : Nat) : Row := List.replicate n 0

theorem ite_swap (j k : Nat) : (if k = j then (1 : F) else 0) = if j = k then 1 else 0 := by
  by_cases e : j = k
  · rw [if_pos e, if_pos e.symm]
  · rw [if_neg e, if_neg fun x => e x.symm]
theorem dot_nil_right (r : Row) : dot r [] = 0 := by cases r <;> rfl
theorem dot_nil_left (r : Row) : dot [] r = 0 := rfl
theorem xor4 (a b c d : F) : (a ^^^ b) ^^^ (c ^^^ d) = (a ^^^ c) ^^^ (b ^^^ d) := by
  rw [add_assoc, add_assoc, ← add_assoc b c d, add_comm b c, add_assoc c b d]
theorem dot_axpy (c : F) : ∀ (d s v : Row), s.length = d.length → dot (axpy c s d) v = dot d v ^^^ mul c (dot s v) := by
  intro d
  induction d with
  | nil => intro s v h; cases s with
    | nil => simp [axpy, dot, mul_zero]
    | cons => simp at h
  | cons x d ih => intro s v h; cases s with
    | nil => simp at h
    | cons y s => cases v with
      | nil => simp [axpy, dot, mul_zero]
      | cons z v =>
        have h' : s.length = d.length := by simpa using h
        have e := ih s v h'
        simp only [axpy, List.zipWith_cons_cons, dot] at e ⊢
        rw [e, add_mul, mul_add, mul_assoc, xor4]
theorem dot_scale (c : F) : ∀ (r v : Row), dot (scale c r) v = mul c (dot r v) := by
  intro r
  induction r with
  | nil => intro v; simp [scale, dot, mul_zero]
  | cons x r ih => intro v; cases v with
    | nil => simp [scale, dot, mul_zero]
    | cons z v =>
      have e := ih v
      simp only [scale, List.map_cons, dot] at e ⊢
      rw [e, mul_add, ← mul_assoc, mul_comm c x]
theorem dot_append_left (r s : Row) : ∀ (u : Row), u.length ≤ r.length → dot (r ++ s) u = dot r u := by
  induction r with
  | nil => intro u h; have : u = [] := List.eq_nil_of_length_eq_zero (by simpa using h); subst this; simp [dot, dot_nil_right]
  | cons x r ih => intro u h; cases u with
    | nil => simp [dot_nil_right]
    | cons z u => simp only [List.cons_append, dot]; rw [ih u (by simpa using h)]
theorem dot_append (u w : Row) : ∀ (r : Row), dot r (u ++ w) = dot r u ^^^ dot (r.drop u.length) w := by
  induction u with
  | nil => intro r; simp [dot_nil_right]
  | cons z u ih => intro r; cases r with
    | nil => simp [dot]
    | cons x r => simp only [List.cons_append, dot, List.length_cons, List.drop_succ_cons]; rw [ih r, add_assoc]
theorem dot_zero : ∀ (xs r : Row), (∀ j, j < xs.length → ge r j = 0) → dot r xs = 0 := by
  intro xs
  induction xs with
  | nil => intro r _; exact dot_nil_right r
  | cons z xs ih => intro r h; cases r with
    | nil => rfl
    | cons x r =>
      have h0 : x = 0 := by simpa [ge] using h 0 (by simp)
      have h1 : ∀ j, j < xs.length → ge r j = 0 := fun j hj => by simpa [ge] using h (j + 1) (by simpa using hj)
      simp only [dot]; rw [h0, zero_mul, ih r h1, add_zero]
theorem dot_zeros : ∀ (n : Nat) (r : Row), dot r (zeros n) = 0 := by
  intro n
  induction n with
  | zero => intro r; exact dot_nil_right r
  | succ n ih => intro r; cases r with
    | nil => rfl
    | cons x r => show mul x 0 ^^^ dot r (zeros n) = 0; rw [mul_zero, ih r, add_zero]
theorem dot_delta : ∀ (xs r : Row) (i : Nat), i < xs.length → (∀ j, j < xs.length → ge r j = if j = i then 1 else 0) → dot r xs = ge xs i := by
  intro xs
  induction xs with
  | nil => intro r i h; simp at h
  | cons z xs ih => intro r i hi h; cases r with
    | nil => have := h i hi; simp [ge] at this
    | cons x r =>
      cases i with
      | zero =>
        have h0 : x = 1 := by simpa [ge] using h 0 (by simp)
        have h1 : ∀ j, j < xs.length → ge r j = 0 := fun j hj => by simpa [ge] using h (j + 1) (by simpa using hj)
        simp only [dot]; rw [h0, one_mul, dot_zero xs r h1, add_zero]; simp [ge]
      | succ i =>
        have h0 : x = 0 := by simpa [ge] using h 0 (by simp)
        have h1 : ∀ j, j < xs.length → ge r j = if j = i then 1 else 0 := fun j hj => by simpa [ge] using h (j + 1) (by simpa using hj)
        simp only [dot]; rw [h0, zero_mul, ih r i (by simpa using hi) h1, zero_add]; simp [ge]

/-! ### Elimination -/
def swapL (rows : List Row) (i j : Nat) : List Row := (rows.set i (gr rows j)).set j (gr rows i)
def scaleAt (rows : List Row) (a : Nat) (c : F) : List Row := rows.set a (scale c (gr rows a))
/-- the first i rows are cleared -/
def clearN (rows : List Row) (a col i : Nat) : List Row := rows.mapIdx fun k r => if k < i ∧ k ≠ a then axpy (ge r col) (gr rows a) r else r
def findP (rows : List Row) (a col : Nat) : Option Nat := (List.range' a (rows.length - a)).find? fun i => ge (gr rows i) col != 0
def elimStep (c : Nat) (s : List Row × List Nat) : List Row × List Nat :=
  match findP s.1 s.2.length c with
  | none => s
  | some i =>
    let r1 := swapL s.1 s.2.length i
    let r2 := scaleAt r1 s.2.length (inv (ge (gr r1 s.2.length) c))
    (clearN r2 s.2.length c r2.length, s.2 ++ [c])
def elimN (rows : List Row) : Nat → List Row × List Nat
  | 0 => (rows, [])
  | c + 1 => elimStep c (elimN rows c)

theorem findP_some {rows : List Row} {a col i : Nat} (h1 : a ≤ i) (h2 : i < rows.length) (h3 : ∀ k, a ≤ k → k < i → ge (gr rows k) col = 0) (h4 : ge (gr rows i) col ≠ 0) :
    findP rows a col = some i := by
  have key : ∀ (n a : Nat), a ≤ i → i < a + n → (∀ k, a ≤ k → k < i → ge (gr rows k) col = 0) →
      (List.range' a n).find? (fun i => ge (gr rows i) col != 0) = some i := by
    intro n
    induction n with
    | zero => intro a ha hb; omega
    | succ n ih =>
      intro a ha hb hz
      rw [List.range'_succ, List.find?_cons]
      by_cases e : a = i
      · subst e
        have : (ge (gr rows a) col != 0) = true := by simpa using h4
        rw [this]
      · have hz0 := hz a (Nat.le_refl _) (by omega)
        have : (ge (gr rows a) col != 0) = false := by simp [hz0]
        rw [this]
        exact ih (a + 1) (by omega) (by omega) fun k hk hk' => hz k (by omega) hk'
  exact key _ a h1 (by omega) h3
theorem findP_none {rows : List Row} {a col : Nat} (h : ∀ k, a ≤ k → k < rows.length → ge (gr rows k) col = 0) : findP rows a col = none := by
  unfold findP
  rw [List.find?_eq_none]
  intro x hx
  rw [List.mem_range'_1] at hx
  simp [h x hx.1 (by omega)]
theorem findP_spec {rows : List Row} {a col i : Nat} (h : findP rows a col = some i) : a ≤ i ∧ i < rows.length ∧ ge (gr rows i) col ≠ 0 := by
  unfold findP at h
  have hm := List.mem_of_find?_eq_some h
  have hp := List.find?_some h
  rw [List.mem_range'_1] at hm
  exact ⟨hm.1, by omega, by simpa using hp⟩
theorem findP_spec_none {rows : List Row} {a col : Nat} (h : findP rows a col = none) : ∀ k, a ≤ k → k < rows.length → ge (gr rows k) col = 0 := by
  intro k hk hk'
  unfold findP at h
  rw [List.find?_eq_none] at h
  have := h k (by rw [List.mem_range'_1]; omega)
  simpa using this

theorem gr_set (rows : List Row) (i k : Nat) (r : Row) (h : i < rows.length) : gr (rows.set i r) k = if k = i then r else gr rows k := by
  unfold gr
  simp only [List.getD_eq_getElem?_getD, List.getElem?_set]
  by_cases e : i = k
  · subst e; simp [h]
  · rw [if_neg e, if_neg (fun x => e x.symm)]
theorem gr_clear (rows : List Row) (a col i k : Nat) : gr (clearN rows a col i) k = if k < i ∧ k ≠ a then axpy (ge (gr rows k) col) (gr rows a) (gr rows k) else gr rows k := by
  unfold clearN
  conv => lhs; unfold gr
  simp only [List.getD_eq_getElem?_getD, List.getElem?_mapIdx]
  by_cases hk : k < rows.length
  · have : gr rows k = rows[k] := by unfold gr; simp [hk]
    rw [this]
    simp [hk, gr]
  · have : gr rows k = [] := by unfold gr; simp [Nat.le_of_not_lt hk]
    rw [this]
    simp [Nat.le_of_not_lt hk, axpy]
theorem gr_ge (rows : List Row) (k : Nat) (h : rows.length ≤ k) : gr rows k = [] := by unfold gr; simp [h]
theorem swap_length (rows : List Row) (i j : Nat) : (swapL rows i j).length = rows.length := by simp [swapL]
theorem gr_swap (rows : List Row) (i j k : Nat) (hi : i < rows.length) (hj : j < rows.length) :
    gr (swapL rows i j) k = if k = j then gr rows i else if k = i then gr rows j else gr rows k := by
  unfold swapL
  rw [gr_set _ _ _ _ (by simpa using hj)]
  by_cases e : k = j
  · simp [e]
  · rw [if_neg e, if_neg e, gr_set _ _ _ _ hi]
theorem scaleAt_length (rows : List Row) (a : Nat) (c : F) : (scaleAt rows a c).length = rows.length := by simp [scaleAt]
theorem clearN_length (rows : List Row) (a col i : Nat) : (clearN rows a col i).length = rows.length := by simp [clearN]
theorem clearN_zero (rows : List Row) (a col : Nat) : clearN rows a col 0 = rows := by
  apply List.ext_getElem
  · simp [clearN]
  · intro k h1 h2; simp [clearN]

/-- n rows of m elements -/
def Shape (n m : Nat) (rows : List Row) : Prop := rows.length = n ∧ ∀ k, k < n → (gr rows k).length = m
theorem axpy_length (c : F) (s d : Row) (h : s.length = d.length) : (axpy c s d).length = d.length := by simp [axpy, h]
theorem scale_length (c : F) (r : Row) : (scale c r).length = r.length := by simp [scale]
theorem Shape.swap {n m : Nat} {rows : List Row} (h : Shape n m rows) {i j : Nat} (hi : i < n) (hj : j < n) : Shape n m (swapL rows i j) := by
  refine ⟨by rw [swap_length]; exact h.1, fun k hk => ?_⟩
  rw [gr_swap _ _ _ _ (by rw [h.1]; exact hi) (by rw [h.1]; exact hj)]
  split
  · exact h.2 i hi
  · split
    · exact h.2 j hj
    · exact h.2 k hk
theorem Shape.scale {n m : Nat} {rows : List Row} (h : Shape n m rows) {a : Nat} (ha : a < n) (c : F) : Shape n m (scaleAt rows a c) := by
  refine ⟨by rw [scaleAt_length]; exact h.1, fun k hk => ?_⟩
  unfold scaleAt
  rw [gr_set _ _ _ _ (by rw [h.1]; exact ha)]
  split
  · rw [scale_length]; exact h.2 a ha
  · exact h.2 k hk
theorem Shape.clear {n m : Nat} {rows : List Row} (h : Shape n m rows) {a : Nat} (ha : a < n) (col i : Nat) : Shape n m (clearN rows a col i) := by
  refine ⟨by rw [clearN_length]; exact h.1, fun k hk => ?_⟩
  rw [gr_clear]
  split
  · rw [axpy_length _ _ _ (by rw [h.2 a ha, h.2 k hk])]; exact h.2 k hk
  · exact h.2 k hk

theorem elimN_shape {n m : Nat} {rows : List Row} (h : Shape n m rows) : ∀ c, Shape n m (elimN rows c).1 := by
  intro c
  induction c with
  | zero => exact h
  | succ c ih =>
    show Shape n m (elimStep c (elimN rows c)).1
    unfold elimStep
    split
    · exact ih
    · rename_i i hi
      obtain ⟨h1, h2, h3⟩ := findP_spec hi
      rw [ih.1] at h2
      exact (((ih.swap (Nat.lt_of_le_of_lt h1 h2) h2).scale (Nat.lt_of_le_of_lt h1 h2) _).clear (Nat.lt_of_le_of_lt h1 h2) _ _)
theorem elimN_count {n m : Nat} {rows : List Row} (h : Shape n m rows) : ∀ c, (elimN rows c).2.length ≤ n := by
  intro c
  induction c with
  | zero => exact Nat.zero_le _
  | succ c ih =>
    show (elimStep c (elimN rows c)).2.length ≤ n
    unfold elimStep
    split
    · exact ih
    · rename_i i hi
      obtain ⟨h1, h2, h3⟩ := findP_spec hi
      rw [(elimN_shape h c).1] at h2
      simp only [List.length_append, List.length_cons, List.length_nil]; omega
theorem elimN_count_le (rows : List Row) : ∀ c, (elimN rows c).2.length ≤ c := by
  intro c
  induction c with
  | zero => exact Nat.zero_le _
  | succ c ih =>
    show (elimStep c (elimN rows c)).2.length ≤ c + 1
    unfold elimStep
    split
    · omega
    · simp only [List.length_append, List.length_cons, List.length_nil]; omega
theorem elimN_piv_lt (rows : List Row) : ∀ c, ∀ p, p ∈ (elimN rows c).2 → p < c := by
  intro c
  induction c with
  | zero => intro p hp; cases hp
  | succ c ih =>
    show ∀ p, p ∈ (elimStep c (elimN rows c)).2 → p < c + 1
    unfold elimStep
    split
    · intro p hp; have := ih p hp; omega
    · intro p hp
      simp only [List.mem_append, List.mem_singleton] at hp
      rcases hp with hp | hp
      · have := ih p hp; omega
      · omega

/-- v is taken to zero by all rows -/
def Null (rows : List Row) (v : Row) : Prop := ∀ k, dot (gr rows k) v = 0

theorem null_swap {rows : List Row} {i j : Nat} (hi : i < rows.length) (hj : j < rows.length) (v : Row) : Null (swapL rows i j) v ↔ Null rows v := by
  constructor
  · intro h k
    by_cases e : k = i
    · have := h j; rw [gr_swap _ _ _ _ hi hj, if_pos rfl] at this; rw [e]; exact this
    · by_cases e' : k = j
      · have := h i
        rw [gr_swap _ _ _ _ hi hj] at this
        rw [e']
        by_cases e2 : i = j
        · rw [← e2]; rw [if_pos e2] at this; exact this
        · rw [if_neg e2, if_pos rfl] at this; exact this
      · have := h k; rw [gr_swap _ _ _ _ hi hj, if_neg e', if_neg e] at this; exact this
  · intro h k
    rw [gr_swap _ _ _ _ hi hj]
    split
    · exact h i
    · split
      · exact h j
      · exact h k
theorem null_scale {rows : List Row} {a : Nat} (ha : a < rows.length) {c : F} (hc : c ≠ 0) (v : Row) : Null (scaleAt rows a c) v ↔ Null rows v := by
  unfold scaleAt
  constructor
  · intro h k
    have := h k
    rw [gr_set _ _ _ _ ha] at this
    by_cases e : k = a
    · rw [if_pos e, dot_scale] at this
      rcases mul_eq_zero this with h0 | h0
      · exact absurd h0 hc
      · rw [e]; exact h0
    · rwa [if_neg e] at this
  · intro h k
    rw [gr_set _ _ _ _ ha]
    split
    · rw [dot_scale, h a, mul_zero]
    · exact h k
theorem null_clear {n m : Nat} {rows : List Row} (hs : Shape n m rows) {a : Nat} (ha : a < n) (col i : Nat) (v : Row) : Null (clearN rows a col i) v ↔ Null rows v := by
  have key : ∀ k, dot (axpy (ge (gr rows k) col) (gr rows a) (gr rows k)) v = dot (gr rows k) v ^^^ mul (ge (gr rows k) col) (dot (gr rows a) v) ∨ gr rows k = [] := by
    intro k
    by_cases hk : k < n
    · exact .inl (dot_axpy _ _ _ _ (by rw [hs.2 a ha, hs.2 k hk]))
    · exact .inr (gr_ge _ _ (by rw [hs.1]; omega))
  constructor
  · intro h k
    have h0 : dot (gr rows a) v = 0 := by have := h a; rwa [gr_clear, if_neg (by simp)] at this
    have hk := h k
    rw [gr_clear] at hk
    split at hk
    · rcases key k with e | e
      · rw [e, h0, mul_zero, add_zero] at hk; exact hk
      · rw [e]; rfl
    · exact hk
  · intro h k
    rw [gr_clear]
    split
    · rcases key k with e | e
      · rw [e, h k, h a, mul_zero, add_zero]
      · rw [e]; rfl
    · exact h k
theorem inv_ne {a : F} (h : a ≠ 0) : inv a ≠ 0 := by
  intro e
  have := mul_inv h
  rw [e, mul_zero] at this
  exact absurd this (by decide)
theorem null_elim {n m : Nat} {rows : List Row} (hs : Shape n m rows) (v : Row) : ∀ c, Null (elimN rows c).1 v ↔ Null rows v := by
  intro c
  induction c with
  | zero => exact Iff.rfl
  | succ c ih =>
    rw [← ih]
    show Null (elimStep c (elimN rows c)).1 v ↔ _
    have hsh := elimN_shape hs c
    unfold elimStep
    split
    · exact Iff.rfl
    · rename_i i hi
      obtain ⟨h1, h2, h3⟩ := findP_spec hi
      have ha : (elimN rows c).2.length < (elimN rows c).1.length := Nat.lt_of_le_of_lt h1 h2
      have hn : (elimN rows c).2.length < n := by rw [← hsh.1]; exact ha
      have hi' : i < n := by rw [← hsh.1]; exact h2
      have hv : ge (gr (swapL (elimN rows c).1 (elimN rows c).2.length i) (elimN rows c).2.length) c ≠ 0 := by
        rw [gr_swap _ _ _ _ ha h2]
        split
        · rename_i e; rw [e]; exact h3
        · rw [if_pos rfl]; exact h3
      show Null (clearN _ _ _ _) v ↔ _
      rw [null_clear ((hsh.swap hn hi').scale hn _) hn, null_scale (by rw [swap_length]; exact ha) (inv_ne hv), null_swap ha h2]

theorem ge_axpy (c : F) : ∀ (d s : Row) (j : Nat), s.length = d.length → ge (axpy c s d) j = ge d j ^^^ mul c (ge s j) := by
  intro d
  induction d with
  | nil => intro s j h; have : s = [] := List.eq_nil_of_length_eq_zero (by simpa using h); subst this; simp [axpy, ge, mul_zero]
  | cons x d ih => intro s j h; cases s with
    | nil => simp at h
    | cons y s => cases j with
      | zero => simp [axpy, ge]
      | succ j => have := ih s j (by simpa using h); simpa [axpy, ge] using this
theorem ge_scale (c : F) : ∀ (r : Row) (j : Nat), ge (scale c r) j = mul (ge r j) c := by
  intro r
  induction r with
  | nil => intro j; simp [scale, ge, zero_mul]
  | cons x r ih => intro j; cases j with
    | zero => simp [scale, ge]
    | succ j => have := ih j; simpa [scale, ge] using this

/-- what elimination of the first c columns has made -/
structure Reduced (n c : Nat) (rows : List Row) (p : List Nat) : Prop where
  unit : ∀ j, j < p.length → ∀ k, k < n → ge (gr rows k) (p.getD j 0) = if k = j then 1 else 0
  below : ∀ k, p.length ≤ k → k < n → ∀ col, col < c → ge (gr rows k) col = 0

theorem elim_reduced {n m : Nat} {rows : List Row} (hs : Shape n m rows) : ∀ c, Reduced n c (elimN rows c).1 (elimN rows c).2 := by
  intro c
  induction c with
  | zero => exact ⟨fun j hj => absurd hj (Nat.not_lt_zero _), fun k _ _ col hc => absurd hc (Nat.not_lt_zero _)⟩
  | succ c ih =>
    have hsh := elimN_shape hs c
    have hlt := elimN_piv_lt rows c
    show Reduced n (c + 1) (elimStep c (elimN rows c)).1 (elimStep c (elimN rows c)).2
    unfold elimStep
    split
    · rename_i hn
      have hz := findP_spec_none hn
      rw [hsh.1] at hz
      exact ⟨ih.unit, fun k h1 h2 col hc => by
        by_cases e : col = c
        · rw [e]; exact hz k h1 h2
        · exact ih.below k h1 h2 col (by omega)⟩
    · rename_i i hi
      obtain ⟨h1, h2, h3⟩ := findP_spec hi
      generalize hs1 : elimN rows c = s at *
      obtain ⟨R, p⟩ := s
      dsimp only at *
      have ha : p.length < R.length := Nat.lt_of_le_of_lt h1 h2
      have hn : p.length < n := by rw [← hsh.1]; exact ha
      have hin : i < n := by rw [← hsh.1]; exact h2
      -- the swapped rows
      have g1 : ∀ k, gr (swapL R p.length i) k = if k = i then gr R p.length else if k = p.length then gr R i else gr R k := fun k => gr_swap _ _ _ _ ha h2
      generalize hr1 : swapL R p.length i = r1 at *
      have sh1 : Shape n m r1 := by rw [← hr1]; exact hsh.swap hn hin
      have gat : gr r1 p.length = gr R i := by
        rw [g1]; split
        · rename_i e; rw [e]
        · rw [if_pos rfl]
      have hx : ge (gr r1 p.length) c ≠ 0 := by rw [gat]; exact h3
      have u1 : ∀ j, j < p.length → ∀ k, k < n → ge (gr r1 k) (p.getD j 0) = if k = j then 1 else 0 := by
        intro j hj k hk
        rw [g1]
        split
        · rename_i e; rw [ih.unit j hj _ hn, if_neg (by omega), if_neg (by omega)]
        · split
          · rename_i e e'; rw [ih.unit j hj _ hin, if_neg (by omega), if_neg (by omega)]
          · exact ih.unit j hj k hk
      have b1 : ∀ k, p.length ≤ k → k < n → ∀ col, col < c → ge (gr r1 k) col = 0 := by
        intro k hk hk' col hc
        rw [g1]
        split
        · exact ih.below _ (Nat.le_refl _) hn col hc
        · split
          · exact ih.below _ h1 hin col hc
          · exact ih.below k hk hk' col hc
      have g2 : ∀ k, gr (scaleAt r1 p.length (inv (ge (gr r1 p.length) c))) k = if k = p.length then scale (inv (ge (gr r1 p.length) c)) (gr r1 p.length) else gr r1 k := fun k => gr_set _ _ _ _ (by rw [sh1.1]; exact hn)
      have sh2 := sh1.scale hn (inv (ge (gr r1 p.length) c))
      generalize hr2 : scaleAt r1 p.length (inv (ge (gr r1 p.length) c)) = r2 at *
      have at2 : gr r2 p.length = scale (inv (ge (gr r1 p.length) c)) (gr r1 p.length) := by rw [g2, if_pos rfl]
      have one2 : ge (gr r2 p.length) c = 1 := by rw [at2, ge_scale]; exact mul_inv hx
      have u2 : ∀ j, j < p.length → ∀ k, k < n → ge (gr r2 k) (p.getD j 0) = if k = j then 1 else 0 := by
        intro j hj k hk
        rw [g2]
        split
        · rename_i e; rw [ge_scale, u1 j hj _ hn, if_neg (by omega), if_neg (by omega), zero_mul]
        · exact u1 j hj k hk
      have b2 : ∀ k, p.length ≤ k → k < n → ∀ col, col < c → ge (gr r2 k) col = 0 := by
        intro k hk hk' col hc
        rw [g2]
        split
        · rw [ge_scale, b1 _ (Nat.le_refl _) hn col hc, zero_mul]
        · exact b1 k hk hk' col hc
      have hr2l : r2.length = n := sh2.1
      have g3 : ∀ k, k < n → ∀ col, ge (gr (clearN r2 p.length c r2.length) k) col = if k = p.length then ge (gr r2 k) col else ge (gr r2 k) col ^^^ mul (ge (gr r2 k) c) (ge (gr r2 p.length) col) := by
        intro k hk col
        rw [gr_clear, hr2l]
        by_cases e : k = p.length
        · rw [if_neg (by simp [e]), if_pos e]
        · rw [if_pos ⟨hk, e⟩, if_neg e, ge_axpy _ _ _ _ (by rw [sh2.2 _ hn, sh2.2 _ hk])]
      refine ⟨fun j hj k hk => ?_, fun k h1' hk col hc => ?_⟩
      · simp only [List.length_append, List.length_cons, List.length_nil] at hj
        rw [g3 k hk]
        by_cases e : j = p.length
        · have : (p ++ [c]).getD j 0 = c := by rw [e]; simp [List.getD_eq_getElem?_getD]
          rw [this]
          split
          · rename_i e'; rw [e', one2, if_pos e.symm]
          · rename_i e'; rw [one2, mul_one, add_self, if_neg (by omega)]
        · have : (p ++ [c]).getD j 0 = p.getD j 0 := by
            simp only [List.getD_eq_getElem?_getD]; rw [List.getElem?_append_left (by omega)]
          rw [this]
          split
          · rename_i e'; rw [u2 j (by omega) k hk]
          · rename_i e'
            rw [u2 j (by omega) k hk, u2 j (by omega) p.length hn, if_neg (show ¬ p.length = j by omega), mul_zero, add_zero]
      · simp only [List.length_append, List.length_cons, List.length_nil] at h1'
        rw [g3 k hk, if_neg (by omega)]
        by_cases e : col = c
        · rw [e, one2, mul_one, add_self]
        · rw [b2 k (by omega) hk col (by omega), b2 p.length (Nat.le_refl _) hn col (by omega), mul_zero, add_zero]

/-- no column but zero is taken to zero -/
def Inj (n : Nat) (rows : List Row) : Prop := ∀ u : Row, u.length = n → Null rows u → u = zeros n

theorem elim_full {n m : Nat} {rows : List Row} (hs : Shape n m rows) (_hm : n ≤ m) (hi : Inj n rows) : ∀ c, c ≤ n → (elimN rows c).2 = List.range c := by
  intro c
  induction c with
  | zero => intro _; rfl
  | succ c ih =>
    intro hc
    have ihc := ih (by omega)
    have hsh := elimN_shape hs c
    have hred := elim_reduced hs c
    show (elimStep c (elimN rows c)).2 = _
    unfold elimStep
    split
    · rename_i hn
      exfalso
      have hz := findP_spec_none hn
      rw [hsh.1, ihc, List.length_range] at hz
      have hun := hred.unit
      have hbe := hred.below
      rw [ihc] at hun hbe
      simp only [List.length_range] at hun hbe
      have hun' : ∀ j, j < c → ∀ k, k < n → ge (gr (elimN rows c).1 k) j = if k = j then 1 else 0 := by
        intro j hj k hk
        have := hun j hj k hk
        have e : (List.range c).getD j 0 = j := by simp [List.getD_eq_getElem?_getD, hj]
        rwa [e] at this
      let top : Row := (List.range c).map fun j => ge (gr (elimN rows c).1 j) c
      have htop : top.length = c := by simp [top]
      have hnull : Null (elimN rows c).1 (top ++ (1 :: zeros (n - c - 1))) := by
        intro k
        by_cases hk : k < n
        · rw [dot_append, htop]
          have hd : dot ((gr (elimN rows c).1 k).drop c) (1 :: zeros (n - c - 1)) = ge (gr (elimN rows c).1 k) c := by
            generalize gr (elimN rows c).1 k = r
            have hr : ge r c = ge (r.drop c) 0 := by simp [ge, List.getD_eq_getElem?_getD]
            rw [hr]
            cases r.drop c with
            | nil => simp [dot, ge]
            | cons x t => simp [dot, ge, mul_one, dot_zeros]
          rw [hd]
          by_cases hkc : k < c
          · rw [dot_delta top _ k (by rw [htop]; exact hkc) (fun j hj => by rw [htop] at hj; rw [hun' j hj k hk]; exact ite_swap j k)]
            have : ge top k = ge (gr (elimN rows c).1 k) c := by simp [top, ge, List.getD_eq_getElem?_getD, hkc]
            rw [this, add_self]
          · rw [dot_zero top _ (fun j hj => by rw [htop] at hj; exact hbe k (by omega) hk j hj), hz k (by omega) hk, add_self]
        · rw [gr_ge _ _ (by rw [hsh.1]; omega)]; rfl
      have h0 := hi _ (by simp [htop, zeros]; omega) ((null_elim hs _ c).1 hnull)
      have e1 : ge (top ++ (1 :: zeros (n - c - 1))) c = 1 := by simp [ge, List.getD_eq_getElem?_getD, htop]
      rw [h0] at e1
      have e2 : ge (zeros n) c = 0 := by
        have hcn : c < n := by omega
        simp [ge, zeros, List.getD_eq_getElem?_getD, hcn]
      rw [e2] at e1
      exact absurd e1 (by decide)
    · show (elimN rows c).2 ++ [c] = _
      rw [ihc, List.range_succ]

/-- the i-th unit row -/
def unit (n i : Nat) : Row := (List.range n).map fun j => if j = i then 1 else 0
theorem unit_length (n i : Nat) : (unit n i).length = n := by simp [unit]
theorem ge_unit (n i j : Nat) (hj : j < n) : ge (unit n i) j = if j = i then 1 else 0 := by simp [unit, ge, List.getD_eq_getElem?_getD, hj]
/-- the matrix beside the identity -/
def aug (A : List Row) : List Row := A.mapIdx fun i r => r ++ unit A.length i
theorem gr_aug (A : List Row) (k : Nat) (h : k < A.length) : gr (aug A) k = gr A k ++ unit A.length k := by
  unfold aug gr
  simp [List.getD_eq_getElem?_getD, h]
theorem aug_shape {n : Nat} {A : List Row} (h : Shape n n A) : Shape n (2 * n) (aug A) := by
  refine ⟨by simp [aug, h.1], fun k hk => ?_⟩
  rw [gr_aug _ _ (by rw [h.1]; exact hk), List.length_append, unit_length, h.2 k hk, h.1]; omega
/-- the inverse, as the program makes it -/
def invM (A : List Row) : List Row := (elimN (aug A) A.length).1.map fun r => r.drop A.length

theorem inj_aug {n : Nat} {A : List Row} (h : Shape n n A) (hi : Inj n A) : Inj n (aug A) := by
  intro u hu hn
  refine hi u hu fun k => ?_
  by_cases hk : k < n
  · have := hn k
    rw [gr_aug _ _ (by rw [h.1]; exact hk), dot_append_left _ _ _ (by rw [hu, h.2 k hk]; exact Nat.le_refl _)] at this
    exact this
  · rw [gr_ge _ _ (by rw [h.1]; omega)]; rfl
theorem invM_full {n : Nat} {A : List Row} (h : Shape n n A) (hi : Inj n A) : (elimN (aug A) n).2.length = n := by
  rw [elim_full (aug_shape h) (by omega) (inj_aug h hi) n (Nat.le_refl _)]; simp
theorem gr_map_drop (rows : List Row) (n k : Nat) : gr (rows.map fun r => r.drop n) k = (gr rows k).drop n := by
  unfold gr
  simp only [List.getD_eq_getElem?_getD, List.getElem?_map]
  cases rows[k]? <;> simp
theorem invM_shape {n : Nat} {A : List Row} (h : Shape n n A) : Shape n n (invM A) := by
  have hs := elimN_shape (aug_shape h) A.length
  refine ⟨by simp [invM, hs.1], fun k hk => ?_⟩
  unfold invM
  rw [gr_map_drop, List.length_drop, hs.2 k hk, h.1]; omega
theorem ext_row {n : Nat} {a b : Row} (ha : a.length = n) (hb : b.length = n) (h : ∀ j, j < n → ge a j = ge b j) : a = b := by
  apply List.ext_getElem (by rw [ha, hb])
  intro j h1 h2
  have := h j (by omega)
  simpa [ge, List.getD_eq_getElem?_getD, h1, h2] using this
theorem ge_mv (A : List Row) (u : Row) (k : Nat) (h : k < A.length) : ge (mv A u) k = dot (gr A k) u := by
  simp [mv, ge, gr, List.getD_eq_getElem?_getD, h]
theorem mv_length (A : List Row) (u : Row) : (mv A u).length = A.length := by simp [mv]
/-- A without a kernel: w = A u just where u = (the inverse) w -/
theorem invM_iff {n : Nat} {A : List Row} (h : Shape n n A) (hi : Inj n A) (u w : Row) (hu : u.length = n) (hw : w.length = n) :
    mv A u = w ↔ mv (invM A) w = u := by
  have hnull := null_elim (aug_shape h) (u ++ w) n
  have hsh := elimN_shape (aug_shape h) n
  have hred := elim_reduced (aug_shape h) n
  have hfull := elim_full (aug_shape h) (by omega) (inj_aug h hi) n (Nat.le_refl _)
  have L : Null (aug A) (u ++ w) ↔ mv A u = w := by
    constructor
    · intro hn
      refine ext_row (n := n) (by rw [mv_length]; exact h.1) hw fun k hk => ?_
      rw [ge_mv _ _ _ (by rw [h.1]; exact hk)]
      have hk' : k < A.length := by rw [h.1]; exact hk
      have := hn k
      rw [gr_aug _ _ hk', dot_append, dot_append_left _ _ _ (by rw [hu, h.2 k hk]; exact Nat.le_refl _)] at this
      have hd : (gr A k ++ unit A.length k).drop u.length = unit A.length k := by rw [hu, ← h.2 k hk]; simp
      rw [hd, dot_delta w _ k (by rw [hw]; exact hk) (fun j hj => ge_unit _ _ _ (by rw [h.1]; omega))] at this
      exact add_eq_zero this
    · intro e k
      by_cases hk : k < n
      · have hk' : k < A.length := by rw [h.1]; exact hk
        rw [gr_aug _ _ hk', dot_append, dot_append_left _ _ _ (by rw [hu, h.2 k hk]; exact Nat.le_refl _)]
        have hd : (gr A k ++ unit A.length k).drop u.length = unit A.length k := by rw [hu, ← h.2 k hk]; simp
        rw [hd, dot_delta w _ k (by rw [hw]; exact hk) (fun j hj => ge_unit _ _ _ (by rw [h.1]; omega)), ← e, ge_mv _ _ _ hk', add_self]
      · rw [gr_ge _ _ (by rw [(aug_shape h).1]; omega)]; rfl
  have hunit : ∀ j, j < n → ∀ k, k < n → ge (gr (elimN (aug A) n).1 k) j = if k = j then 1 else 0 := by
    intro j hj k hk
    have h1 := hred.unit j (by rw [hfull]; simpa using hj) k hk
    have e : (elimN (aug A) n).2.getD j 0 = j := by rw [hfull]; simp [List.getD_eq_getElem?_getD, hj]
    rwa [e] at h1
  have hinv : ∀ k, gr (invM A) k = (gr (elimN (aug A) n).1 k).drop n := by
    intro k; unfold invM; rw [gr_map_drop, h.1]
  have R : Null (elimN (aug A) n).1 (u ++ w) ↔ mv (invM A) w = u := by
    have step : ∀ k, k < n → dot (gr (elimN (aug A) n).1 k) (u ++ w) = ge u k ^^^ dot (gr (invM A) k) w := by
      intro k hk
      rw [dot_append, dot_delta u _ k (by rw [hu]; exact hk) (fun j hj => by rw [hunit j (by omega) k hk]; exact ite_swap j k), hinv, hu]
    constructor
    · intro hn
      refine ext_row (n := n) (by rw [mv_length]; exact (invM_shape h).1) hu fun k hk => ?_
      rw [ge_mv _ _ _ (by rw [(invM_shape h).1]; exact hk)]
      have := hn k
      rw [step k hk] at this
      exact (add_eq_zero this).symm
    · intro e k
      by_cases hk : k < n
      · have e1 : ge u k = dot (gr (invM A) k) w := by rw [← e, ge_mv _ _ _ (by rw [(invM_shape h).1]; exact hk)]
        rw [step k hk, e1, add_self]
      · rw [gr_ge _ _ (by rw [hsh.1]; omega)]; rfl
  rw [← L, ← R, hnull]

/-! ### Sums of multiples -/
/-- acc + c0 r0 + c1 r1 + .. -/
def lin : Row → Row → List Row → Row
  | acc, c :: cs, r :: rs => lin (axpy c r acc) cs rs
  | acc, _, _ => acc
theorem lin_length : ∀ (cs : Row) (rs : List Row) (acc : Row) (m : Nat), acc.length = m → (∀ r ∈ rs, r.length = m) → (lin acc cs rs).length = m := by
  intro cs
  induction cs with
  | nil => intro rs acc m h _; simpa [lin] using h
  | cons c cs ih => intro rs acc m h hr; cases rs with
    | nil => simpa [lin] using h
    | cons r rs =>
      simp only [lin]
      exact ih rs _ m (by rw [axpy_length _ _ _ (by rw [hr r (by simp), h])]; exact h) fun x hx => hr x (by simp [hx])
theorem dot_lin (v : Row) : ∀ (cs : Row) (rs : List Row) (acc : Row) (m : Nat), acc.length = m → (∀ r ∈ rs, r.length = m) → dot (lin acc cs rs) v = dot acc v ^^^ dot cs (mv rs v) := by
  intro cs
  induction cs with
  | nil => intro rs acc m h _; simp [lin, dot]
  | cons c cs ih => intro rs acc m h hr; cases rs with
    | nil => simp [lin, mv, dot]
    | cons r rs =>
      have hl : r.length = acc.length := by rw [hr r (by simp), h]
      simp only [lin]
      rw [ih rs _ m (by rw [axpy_length _ _ _ hl]; exact h) fun x hx => hr x (by simp [hx]), dot_axpy _ _ _ _ hl, add_assoc]
      rfl
theorem ge_lin (t : Nat) : ∀ (cs : Row) (rs : List Row) (acc : Row) (m : Nat), acc.length = m → (∀ r ∈ rs, r.length = m) → ge (lin acc cs rs) t = ge acc t ^^^ dot cs (rs.map fun r => ge r t) := by
  intro cs
  induction cs with
  | nil => intro rs acc m h _; simp [lin, dot]
  | cons c cs ih => intro rs acc m h hr; cases rs with
    | nil => simp [lin, dot]
    | cons r rs =>
      have hl : r.length = acc.length := by rw [hr r (by simp), h]
      simp only [lin]
      rw [ih rs _ m (by rw [axpy_length _ _ _ hl]; exact h) fun x hx => hr x (by simp [hx]), ge_axpy _ _ _ _ hl, add_assoc]
      rfl
theorem zeros_length (n : Nat) : (zeros n).length = n := by simp [zeros]
theorem ge_zeros (n t : Nat) : ge (zeros n) t = 0 := by
  simp only [ge, zeros, List.getD_eq_getElem?_getD, List.getElem?_replicate]
  split <;> rfl
theorem zeros_dot : ∀ (n : Nat) (v : Row), dot (zeros n) v = 0 := by
  intro n
  induction n with
  | zero => intro v; rfl
  | succ n ih => intro v; cases v with
    | nil => rfl
    | cons z v => show mul 0 z ^^^ dot (zeros n) v = 0; rw [zero_mul, ih v, add_zero]

/-! ### Polynomials -/
def ev (x : F) : Row → F
  | [] => 0
  | c :: cs => c ^^^ mul x (ev x cs)
/-- the powers of x: k of them from y on -/
def pows (x : F) : F → Nat → Row
  | _, 0 => []
  | y, k + 1 => y :: pows x (mul y x) k
theorem pows_length (x : F) : ∀ (k : Nat) (y : F), (pows x y k).length = k := by
  intro k
  induction k with
  | zero => intro y; rfl
  | succ k ih => intro y; simp [pows, ih]
theorem dot_pows (x : F) : ∀ (v : Row) (k : Nat) (y : F), v.length ≤ k → dot (pows x y k) v = mul y (ev x v) := by
  intro v
  induction v with
  | nil => intro k y _; rw [dot_nil_right]; simp [ev, mul_zero]
  | cons c v ih => intro k y h; cases k with
    | zero => simp at h
    | succ k =>
      simp only [pows, dot, ev]
      rw [ih k _ (by simpa using h), mul_add, mul_assoc]
/-- the values at r of the ends of a polynomial -/
def ends (r : F) : Row → Row
  | [] => []
  | c :: cs => ev r (c :: cs) :: ends r cs
theorem ends_length (r : F) (cs : Row) : (ends r cs).length = cs.length := by
  induction cs with
  | nil => rfl
  | cons c cs ih => simp [ends, ih]
theorem ev_div (x r : F) : ∀ (cs : Row) (c : F), ev x (c :: cs) = ev r (c :: cs) ^^^ mul (x ^^^ r) (ev x (ends r cs)) := by
  intro cs
  induction cs with
  | nil => intro c; simp [ev, ends, mul_zero]
  | cons d ds ih =>
    intro c
    have e := ih d
    show c ^^^ mul x (ev x (d :: ds)) = (c ^^^ mul r (ev r (d :: ds))) ^^^ mul (x ^^^ r) (ev r (d :: ds) ^^^ mul x (ev x (ends r ds)))
    rw [e]
    generalize ev r (d :: ds) = a
    generalize ev x (ends r ds) = q
    simp only [mul_add, add_mul]
    rw [← mul_assoc x x, ← mul_assoc x r, ← mul_assoc r x, mul_comm r x]
    generalize mul r a = p1
    generalize mul x a = p2
    generalize mul (mul x x) q = p3
    generalize mul (mul x r) q = p4
    apply F.ext
    simp only [UInt8.toNat_xor]
    apply Nat.eq_of_testBit_eq
    intro i
    simp only [Nat.testBit_xor]
    cases c.toNat.testBit i <;> cases p1.toNat.testBit i <;> cases p2.toNat.testBit i <;> cases p3.toNat.testBit i <;> cases p4.toNat.testBit i <;> rfl
theorem ends_zero (r : F) : ∀ (cs : Row) (n : Nat), ends r cs = zeros n → cs = zeros n ∧ ev r cs = 0 := by
  intro cs
  induction cs with
  | nil =>
    intro n h
    cases n with
    | zero => exact ⟨rfl, rfl⟩
    | succ n => exact absurd h (by simp [ends, zeros, List.replicate_succ])
  | cons d ds ih =>
    intro n h
    cases n with
    | zero => exact absurd h (by simp [ends, zeros])
    | succ n =>
      simp only [ends, zeros, List.replicate_succ, List.cons.injEq] at h
      obtain ⟨h1, h2⟩ := h
      obtain ⟨i1, i2⟩ := ih n h2
      refine ⟨?_, h1⟩
      have : d = 0 := by
        simp only [ev, i2, mul_zero, add_zero] at h1; exact h1
      rw [this, i1]; rfl
/-- as many roots as coefficients: zero -/
theorem roots : ∀ (k : Nat) (v : Row) (ps : List F), v.length = k → ps.length = k → ps.Nodup → (∀ p ∈ ps, ev p v = 0) → v = zeros k := by
  intro k
  induction k with
  | zero => intro v ps h _ _ _; exact List.eq_nil_of_length_eq_zero h
  | succ k ih =>
    intro v ps hv hp hnd hz
    cases v with
    | nil => simp at hv
    | cons c cs => cases ps with
      | nil => simp at hp
      | cons r rs =>
        have hnd' := List.nodup_cons.1 hnd
        have h0 : ev r (c :: cs) = 0 := hz r (by simp)
        have hq : ends r cs = zeros k := by
          refine ih _ rs (by rw [ends_length]; simpa using hv) (by simpa using hp) hnd'.2 fun p hp' => ?_
          have hpe := hz p (by simp [hp'])
          rw [ev_div p r, h0, zero_add] at hpe
          rcases mul_eq_zero hpe with e | e
          · exact absurd (add_eq_zero e ▸ hp') hnd'.1
          · exact e
        obtain ⟨e1, e2⟩ := ends_zero r cs k hq
        have : c = 0 := by simp only [ev, e2, mul_zero, add_zero] at h0; exact h0
        rw [this, e1]; rfl
end M
end Go.Proofs.YtgnmebgjfagjmaaGreat
