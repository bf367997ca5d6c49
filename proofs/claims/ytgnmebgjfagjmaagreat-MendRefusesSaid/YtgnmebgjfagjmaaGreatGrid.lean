/- A grid of rows of bytes in memory: one block for the headers, one for each row, no two the same. No condition. -/
import Derived.Test.YtgnmebgjfagjmaaGreatWalkAdd
import Derived.Deep.OwnRows
namespace Go.Proofs.YtgnmebgjfagjmaaGreat
open Go.RowKit
open M (F Row ge gr)

/-- block b holds these bytes (in its first cells) -/
def RowAt (w : World) (b : Nat) (l : Row) : Prop := ∃ c, w.heap[b]? = some (.cells c 5 (0, 0)) ∧ ∀ j, j < l.length → c[j]? = some (bc (ge l j))
/-- block q holds the headers of n rows of m bytes, of which row i lies in block R i -/
structure Grid (w : World) (q n m : Nat) (R C : Nat → Nat) (L : List Row) : Prop where
  shape : M.Shape n m L
  head : ∃ c, w.heap[q]? = some (.cells c 42 (0, 0)) ∧ ∀ i, i < n → c[i]? = some (.slice (some ⟨R i, 0, none⟩) m (C i))
  row : ∀ i, i < n → RowAt w (R i) (gr L i)
  inj : ∀ i j, i < n → j < n → R i = R j → i = j
  apart : ∀ i, i < n → R i ≠ q
  cap : ∀ i, i < n → m ≤ C i
theorem RowAt.keep {S : Nat → Prop} {w w' : World} {b : Nat} {l : Row} (h : RowAt w b l) (k : Keep S w w') (hn : ¬ S b) : RowAt w' b l := by
  obtain ⟨c, hc, hh⟩ := h
  exact ⟨c, k.some hc hn, hh⟩
theorem RowAt.lt {w : World} {b : Nat} {l : Row} (h : RowAt w b l) : b < w.heap.size := by obtain ⟨c, hc, _⟩ := h; exact lt_of_block hc
theorem RowAt.cell {w : World} {b : Nat} {l : Row} (h : RowAt w b l) {j : Nat} (hj : j < l.length) : w.cell? ⟨b, j, none⟩ = some (.int .u8 (ge l j).toNat) := by
  obtain ⟨c, hc, hh⟩ := h
  rw [cell_of hc]; exact hh j hj
theorem RowAt.frozen {w : World} {b : Nat} {l : Row} (h : RowAt w b l) (j : Nat) : w.frozen? ⟨b, j, none⟩ = false := by
  obtain ⟨c, hc, hh⟩ := h
  exact frozen_of hc j
theorem RowAt.bytes {w : World} {b : Nat} {l : Row} (h : RowAt w b l) {n : Nat} (hn : l.length = n) (cap : Nat) : Bytes w (.slice (some ⟨b, 0, none⟩) n cap) n l := by
  refine ⟨hn, _, cap, rfl, fun e => (by cases e), fun _ => ⟨b, 0, rfl, h.lt, fun i hi => ?_⟩⟩
  rw [Nat.zero_add]; exact h.cell (by omega)
/-- one byte of a row is stored -/
theorem RowAt.set {w : World} {b : Nat} {l : Row} (h : RowAt w b l) (j : Nat) (x : F) : RowAt (w.setCell ⟨b, j, none⟩ (.int .u8 x.toNat)) b (l.set j x) := by
  obtain ⟨c, hc, hh⟩ := h
  refine ⟨_, heap_setCell_same hc, fun i hi => ?_⟩
  rw [List.length_set] at hi
  have hs : i < c.size := (Array.getElem?_eq_some_iff.1 (hh i hi)).1
  by_cases e : j = i
  · subst e
    rw [set_same hs]
    congr 2
    simp [ge, List.getD_eq_getElem?_getD, hi]
  · rw [set_other e, hh i hi]
    congr 2
    simp [ge, List.getD_eq_getElem?_getD, e]
theorem RowAt.added {w : World} {b n : Nat} {cd cd' : Array Value} {l : Row} (hb : w.heap[b]? = some (.cells cd' 5 (0, 0))) (ha : Added cd 0 l n cd') (hl : l.length = n) : RowAt w b l :=
  ⟨cd', hb, fun j hj => by rw [ha.hit j (Nat.zero_le _) (by omega)]; rfl⟩

section
variable {w : World} {q n m : Nat} {R C : Nat → Nat} {L : List Row}
theorem Grid.keep {S : Nat → Prop} {w' : World} (h : Grid w q n m R C L) (k : Keep S w w') (hq : ¬ S q) (hR : ∀ i, i < n → ¬ S (R i)) : Grid w' q n m R C L := by
  obtain ⟨c, hc, hh⟩ := h.head
  exact ⟨h.shape, ⟨c, k.some hc hq, hh⟩, fun i hi => (h.row i hi).keep k (hR i hi), h.inj, h.apart, h.cap⟩
theorem Grid.header (h : Grid w q n m R C L) {i : Nat} (hi : i < n) : w.cell? ⟨q, i, none⟩ = some (.slice (some ⟨R i, 0, none⟩) m (C i)) := by
  obtain ⟨c, hc, hh⟩ := h.head
  rw [cell_of hc]; exact hh i hi
theorem Grid.cell (h : Grid w q n m R C L) {i j : Nat} (hi : i < n) (hj : j < m) : w.cell? ⟨R i, j, none⟩ = some (.int .u8 (ge (gr L i) j).toNat) :=
  (h.row i hi).cell (by rw [h.shape.2 i hi]; exact hj)
theorem Grid.bytes (h : Grid w q n m R C L) {i : Nat} (hi : i < n) : Bytes w (.slice (some ⟨R i, 0, none⟩) m (C i)) m (gr L i) := (h.row i hi).bytes (h.shape.2 i hi) _
theorem Grid.qlt (h : Grid w q n m R C L) : q < w.heap.size := by obtain ⟨c, hc, _⟩ := h.head; exact lt_of_block hc
theorem Grid.rlt (h : Grid w q n m R C L) {i : Nat} (hi : i < n) : R i < w.heap.size := (h.row i hi).lt
theorem Grid.qfree (h : Grid w q n m R C L) (i : Nat) : w.frozen? ⟨q, i, none⟩ = false := by obtain ⟨c, hc, _⟩ := h.head; exact frozen_of hc i
/-- row i has turned into another one of the same length; nothing else -/
theorem Grid.turn {w' : World} {r : Row} {i : Nat} (h : Grid w q n m R C L) (hi : i < n) (k : Keep (fun b => b = R i) w w') (hr : RowAt w' (R i) r) (hl : r.length = m) : Grid w' q n m R C (L.set i r) := by
  obtain ⟨c, hc, hh⟩ := h.head
  have hlen : i < L.length := by rw [h.shape.1]; exact hi
  refine ⟨⟨by rw [List.length_set]; exact h.shape.1, fun j hj => ?_⟩, ⟨c, k.some hc fun e => h.apart i hi e.symm, hh⟩, fun j hj => ?_, h.inj, h.apart, h.cap⟩
  · rw [M.gr_set _ _ _ _ hlen]; split
    · exact hl
    · exact h.shape.2 j hj
  · rw [M.gr_set _ _ _ _ hlen]
    by_cases e : j = i
    · rw [if_pos e, e]; exact hr
    · rw [if_neg e]; exact (h.row j hj).keep k fun x => e (h.inj j i hj hi x)
end
/-- a matrix behind a pointer: its field, its rows -/
def MatAt (w : World) (p f q n : Nat) : Prop := w.heap[p]? = some (.cells #[.pointer (some ⟨f, 0, none⟩), .slice (some ⟨q, 0, none⟩) n n] 115 (0, 0))
theorem MatAt.field {w : World} {p f q n : Nat} (h : MatAt w p f q n) : w.cell? ⟨p, 0, none⟩ = some (.pointer (some ⟨f, 0, none⟩)) := by rw [cell_of h]; rfl
theorem MatAt.rows {w : World} {p f q n : Nat} (h : MatAt w p f q n) : w.cell? ⟨p, 1, none⟩ = some (.slice (some ⟨q, 0, none⟩) n n) := by rw [cell_of h]; rfl
/-- a matrix of the call's own: all its blocks lie from B on -/
structure Mat (w : World) (B p f q n m : Nat) (R C : Nat → Nat) (L : List Row) : Prop where
  at_ : MatAt w p f q n
  grid : Grid w q n m R C L
  pB : B ≤ p
  qB : B ≤ q
  rB : ∀ i, i < n → B ≤ R i
  pq : p ≠ q
  pR : ∀ i, i < n → R i ≠ p
theorem Mat.keep {S : Nat → Prop} {w w' : World} {B p f q n m : Nat} {R C : Nat → Nat} {L : List Row} (h : Mat w B p f q n m R C L) (k : Keep S w w') (hs : ∀ b, B ≤ b → b < w.heap.size → ¬ S b) : Mat w' B p f q n m R C L :=
  ⟨k.some h.at_ (hs p h.pB (lt_of_block h.at_)), h.grid.keep k (hs q h.qB h.grid.qlt) (fun i hi => hs _ (h.rB i hi) (h.grid.rlt hi)), h.pB, h.qB, h.rB, h.pq, h.pR⟩
theorem Mat.keep0 {w w' : World} {B p f q n m : Nat} {R C : Nat → Nat} {L : List Row} (h : Mat w B p f q n m R C L) (k : Keep nob w w') : Mat w' B p f q n m R C L := h.keep k fun _ _ _ x => x
/-- n rows of m zeros -/
def zgrid (n m : Nat) : List Row := List.replicate n (M.zeros m)
theorem gr_zgrid (n m i : Nat) (h : i < n) : gr (zgrid n m) i = M.zeros m := by simp [gr, zgrid, List.getD_eq_getElem?_getD, h]
theorem zgrid_shape (n m : Nat) : M.Shape n m (zgrid n m) := ⟨by simp [zgrid], fun k hk => by rw [gr_zgrid _ _ _ hk, M.zeros_length]⟩

/-! ### blank -/
structure BlankR (w wr : World) (f n m k : Nat) : Prop where
  keep : Keep nob w wr
  size : wr.heap.size = w.heap.size + 2 + k
  at_ : MatAt wr (w.heap.size + 1) f w.heap.size n
  head : ∃ c, wr.heap[w.heap.size]? = some (.cells c 42 (0, 0)) ∧ c.size = n ∧ ∀ i, i < k → c[i]? = some (.slice (some ⟨w.heap.size + 2 + i, 0, none⟩) m m)
  row : ∀ i, i < k → RowAt wr (w.heap.size + 2 + i) (M.zeros m)
theorem heap_alloc_at (w : World) (o : Obj) : (w.alloc o).heap[w.heap.size]? = some o := by show (w.heap.push o)[w.heap.size]? = some o; simp
theorem heap_setCell_ne {w : World} {a : Addr} {u : Value} {k : Nat} {o : Obj} (h : w.heap[k]? = some o) (hn : k ≠ a.block) : (w.setCell a u).heap[k]? = some o := (Below.heap_setCell w a u k hn).trans h
theorem heap_alloc_ne {w : World} {o o' : Obj} {k : Nat} (h : w.heap[k]? = some o) : (w.alloc o').heap[k]? = some o := (Below.heap_alloc w o' k (lt_of_block h)).trans h
theorem made_zero (m j : Nat) (h : j < m) : (madeCells #[Value.int .u8 0] m)[j]? = some (bc (ge (M.zeros m) j)) := by
  rw [M.ge_zeros, ← Array.getElem?_toList, toList_madeCells_one]
  simp [h, bc]
theorem size_alloc (w : World) (o : Obj) : (w.alloc o).heap.size = w.heap.size + 1 := by show (w.heap.push o).size = _; simp
theorem size_setCell (w : World) (a : Addr) (u : Value) : (w.setCell a u).heap.size = w.heap.size := by simp [World.setCell]
theorem blank_start (w : World) (f n m : Nat) : BlankR w ((w.alloc (.cells (madeCells #[.slice none 0 0] n) 42)).alloc (.cells #[.pointer (some ⟨f, 0, none⟩), .slice (some ⟨w.heap.size, 0, none⟩) n n] 115)) f n m 0 := by
  refine ⟨((Keep.refl _ _).alloc _).alloc _, by rw [size_alloc, size_alloc], ?_, ⟨_, heap_alloc_ne (heap_alloc_at w _), size_madeCells _ _, fun i hi => by omega⟩, fun i hi => by omega⟩
  have := heap_alloc_at (w.alloc (.cells (madeCells #[.slice none 0 0] n) 42)) (.cells #[.pointer (some ⟨f, 0, none⟩), .slice (some ⟨w.heap.size, 0, none⟩) n n] 115)
  rw [size_alloc] at this
  exact this
theorem blank_step {w wr : World} {f n m k : Nat} (h : BlankR w wr f n m k) (hk : k < n) :
    BlankR w ((wr.alloc (.cells (madeCells #[.int .u8 0] m) 5)).setCell ⟨w.heap.size, k, none⟩ (.slice (some ⟨w.heap.size + 2 + k, 0, none⟩) m m)).drew f n m (k + 1) := by
  obtain ⟨c, hc, hs, hh⟩ := h.head
  have hz := h.size
  refine ⟨((h.keep.alloc _).setCell (fun x => absurd x (Nat.lt_irrefl _)) _).drew, ?_, ?_, ?_, ?_⟩
  · show (World.setCell _ _ _).heap.size = _; rw [size_setCell, size_alloc, hz]; omega
  · exact heap_setCell_ne (heap_alloc_ne h.at_) (by dsimp only; omega)
  · refine ⟨_, heap_setCell_same (heap_alloc_ne hc), by simp [hs], fun i hi => ?_⟩
    by_cases e : k = i
    · subst e; rw [set_same (by omega)]
    · rw [set_other e]; exact hh i (by omega)
  · intro i hi
    by_cases e : i = k
    · subst e
      refine ⟨_, heap_setCell_ne (k := w.heap.size + 2 + i) (o := .cells (madeCells #[.int .u8 0] m) 5) ?_ (by dsimp only; omega), fun j hj => made_zero m j (by rw [M.zeros_length] at hj; exact hj)⟩
      rw [← hz]; exact heap_alloc_at wr _
    · obtain ⟨c', hc', hh'⟩ := h.row i (by omega)
      exact ⟨c', heap_setCell_ne (heap_alloc_ne hc') (by dsimp only; omega), hh'⟩
theorem blank_done {w wr : World} {f n m : Nat} (h : BlankR w wr f n m n) : Mat wr w.heap.size (w.heap.size + 1) f w.heap.size n m (fun i => w.heap.size + 2 + i) (fun _ => m) (zgrid n m) := by
  obtain ⟨c, hc, hs, hh⟩ := h.head
  exact ⟨h.at_, ⟨zgrid_shape n m, ⟨c, hc, hh⟩, fun i hi => by rw [gr_zgrid _ _ _ hi]; exact h.row i hi, fun i j _ _ e => by omega, fun i _ => by omega, fun i _ => Nat.le_refl _⟩,
    by omega, Nat.le_refl _, fun i _ => by omega, by omega, fun i _ => by omega⟩

theorem info_bs : (Tryz.prog.info? 42).map (fun i => (i.zero, i.size, i.bytes)) = some (some (.slice none 0 0), 1, 24) := by kernel_rfl

set_option maxRecDepth 100000 in
set_option maxHeartbeats 800000 in
theorem mBlank (f n m : Nat) (w : World) (hn : n ≤ 1024) (hm : m ≤ 1024) : Calls Tryz.prog 59 #[.pointer (some ⟨f, 0, none⟩), .int .i64 n, .int .i64 m] w fun e w' =>
    ∃ p q R C, e = .returned (.pointer (some ⟨p, 0, none⟩)) ∧ Keep nob w w' ∧ Mat w' w.heap.size p f q n m R C (zgrid n m) := by
  have hmk := run_make_row' (P := Tryz.prog) 32 42 (.slice none 0 0) 24 Tryz.underlying32 info_bs rfl .i64 .i64 n (by omega) (by omega)
  have hmk2 := run_make_row' (P := Tryz.prog) 42 5 (.int .u8 0) 1 Tryz.underlying42 info_u8 rfl .i64 .i64 m (by omega) (by omega)
  go_enter Tryz.func59, Tryz.ntmps59
  go_wp2_with fail
  go_loopw [19] (fun i wr => ∃ k : Nat, k ≤ n ∧ i = .int .i64 k ∧ BlankR w wr f n m k) (fun i _ => n - (intOf i).toNat)
  case atStart => exact ⟨0, Nat.zero_le _, rfl, blank_start w f n m⟩
  case round =>
    obtain ⟨k, hk, rfl, hR⟩ := hrel
    have HR := Lib.hid hR
    have ha := hR.at_.rows
    have hz := hR.size
    obtain ⟨c, hc, hcs, _⟩ := hR.head
    have hfr := frozen_of hc k
    by_cases hlt : k < n
    · obtain ⟨v, hv⟩ : ∃ v, wr.cell? ⟨w.heap.size, k, none⟩ = some v := by rw [cell_of hc]; exact arr_some (by omega)
      have hfr' : ∀ o, (wr.alloc o).frozen? ⟨w.heap.size, k, none⟩ = false := fun o => frozen_of (heap_alloc_ne hc) k
      have hv' : ∀ o, (wr.alloc o).cell? ⟨w.heap.size, k, none⟩ = some v := fun o => by rw [cell_of (heap_alloc_ne hc), ← cell_of hc]; exact hv
      have ha' : ∀ o, (wr.alloc o).cell? ⟨w.heap.size + 1, 1, none⟩ = some (.slice (some ⟨w.heap.size, 0, none⟩) n n) := fun o => by rw [cell_of (heap_alloc_ne hR.at_), ← cell_of hR.at_]; exact ha
      have i1 : (k : Int) < (n : Int) := by omega
      clear hR hc hcs hk hfr hv
      go_wp2_with fail
      go_region
      all_goals (go_wp2; go_roundw; (case rel => exact ⟨k + 1, by omega, by go_num, blank_step HR.out hlt⟩); (case measure => (simp [intOf]; omega)))
    · obtain rfl : k = n := by omega
      clear hlt hc hcs hk hfr hR ha hz
      go_wp2
      go_ret
      exact ⟨_, _, _, _, rfl, HR.out.keep, blank_done HR.out⟩

end Go.Proofs.YtgnmebgjfagjmaaGreat
