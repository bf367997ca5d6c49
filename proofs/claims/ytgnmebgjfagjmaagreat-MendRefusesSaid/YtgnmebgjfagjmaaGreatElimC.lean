/- The three closures of matrix.eliminate: two rows exchanged, a multiple added, a row scaled. No condition. -/
import Derived.Test.YtgnmebgjfagjmaaGreatVand
namespace Go.Proofs.YtgnmebgjfagjmaaGreat
open Go.RowKit
open M (F Row ge gr)

/-- a row of which the first k places are new -/
def mix (new old : Row) (m k : Nat) : Row := (List.range m).map fun t => if t < k then ge new t else ge old t
theorem mix_length (new old : Row) (m k : Nat) : (mix new old m k).length = m := by simp [mix]
theorem ge_mix (new old : Row) (m k t : Nat) (h : t < m) : ge (mix new old m k) t = if t < k then ge new t else ge old t := by simp [mix, ge, List.getD_eq_getElem?_getD, h]
theorem mix_zero {new old : Row} {m : Nat} (h : old.length = m) : mix new old m 0 = old := M.ext_row (n := m) (mix_length _ _ _ _) h fun j hj => by rw [ge_mix _ _ _ _ _ hj]; simp
theorem mix_full {new old : Row} {m : Nat} (h : new.length = m) : mix new old m m = new := M.ext_row (n := m) (mix_length _ _ _ _) h fun j hj => by rw [ge_mix _ _ _ _ _ hj, if_pos hj]
theorem ge_set_same {r : Row} {j : Nat} {x : F} (h : j < r.length) : ge (r.set j x) j = x := by simp [ge, List.getD_eq_getElem?_getD, h]
theorem ge_set_other {r : Row} {j t : Nat} {x : F} (h : j ≠ t) : ge (r.set j x) t = ge r t := by simp [ge, List.getD_eq_getElem?_getD, h]
theorem mix_set (new old : Row) (m j : Nat) (hj : j < m) : (mix new old m j).set j (ge new j) = mix new old m (j + 1) := by
  refine M.ext_row (n := m) (by rw [List.length_set, mix_length]) (mix_length _ _ _ _) fun t ht => ?_
  rw [ge_mix _ _ _ _ _ ht]
  by_cases e : j = t
  · subst e
    rw [ge_set_same (by rw [mix_length]; exact hj), if_pos (by omega)]
  · rw [ge_set_other e, ge_mix _ _ _ _ _ ht]
    by_cases h : t < j
    · rw [if_pos h, if_pos (by omega)]
    · rw [if_neg h, if_neg (by omega)]

/-! ### swap -/
def swapF {α : Type} (R : Nat → α) (i j : Nat) : Nat → α := fun k => if k = j then R i else if k = i then R j else R k
theorem swap_grid {w : World} {q n m : Nat} {R C : Nat → Nat} {L : List Row} (h : Grid w q n m R C L) {i j : Nat} (hi : i < n) (hj : j < n) (d : Nat) :
    Grid (((w.setCell ⟨q, i, none⟩ (.slice (some ⟨R j, 0, none⟩) m (C j))).setCell ⟨q, j, none⟩ (.slice (some ⟨R i, 0, none⟩) m (C i))).drewN d) q n m (swapF R i j) (swapF C i j) (M.swapL L i j) := by
  obtain ⟨c, hc, hh⟩ := h.head
  have hL := h.shape.1
  have hsz : ∀ k, k < n → k < c.size := fun k hk => (Array.getElem?_eq_some_iff.1 (hh k hk)).1
  have hg : ∀ k, gr (M.swapL L i j) k = swapF (gr L) i j k := fun k => by rw [M.gr_swap _ _ _ _ (by omega) (by omega)]; rfl
  have hrow : ∀ k, k < n → RowAt w (swapF R i j k) (swapF (gr L) i j k) := fun k hk => by
    unfold swapF; split
    · exact h.row i hi
    · split
      · exact h.row j hj
      · exact h.row k hk
  have hneq : ∀ k, k < n → swapF R i j k ≠ q := fun k hk => by
    unfold swapF; split
    · exact h.apart i hi
    · split
      · exact h.apart j hj
      · exact h.apart k hk
  refine ⟨h.shape.swap hi hj, ⟨_, heap_setCell_same (heap_setCell_same hc), fun k hk => ?_⟩, fun k hk => ?_, fun a b ha hb e => ?_, hneq, fun k hk => ?_⟩
  · unfold swapF
    by_cases e : k = j
    · rw [if_pos e, if_pos e, e, set_same (by simp; exact hsz j hj)]
    · rw [if_neg e, if_neg e, set_other (fun x => e x.symm)]
      by_cases e' : k = i
      · rw [if_pos e', if_pos e', e', set_same (hsz i hi)]
      · rw [if_neg e', if_neg e', set_other (fun x => e' x.symm)]; exact hh k hk
  · rw [hg]
    refine (hrow k hk).keep (S := fun b => b = q) ((((Keep.refl (fun b => b = q) w).setCell (fun _ => rfl) _).setCell (fun _ => rfl) _).drewN d) (hneq k hk)
  · unfold swapF at e
    have hi' := h.inj
    by_cases a1 : a = j <;> by_cases b1 : b = j <;> by_cases a2 : a = i <;> by_cases b2 : b = i <;> simp only [a1, b1, a2, b2, if_true, if_false] at e ⊢ <;>
      first
        | rfl
        | (have := hi' _ _ (by omega) (by omega) e; omega)
        | (simp_all; done)
        | (exfalso; have := hi' _ _ (by first | exact hi | exact hj | exact ha | exact hb) (by first | exact hi | exact hj | exact ha | exact hb) e; omega)
        | (split at e <;> (have := hi' _ _ (by first | exact hi | exact hj | exact ha | exact hb) (by first | exact hi | exact hj | exact ha | exact hb) e; omega))

  · unfold swapF; split
    · exact h.cap i hi
    · split
      · exact h.cap j hj
      · exact h.cap k hk

set_option maxRecDepth 100000 in
set_option maxHeartbeats 800000 in
theorem mSwap (q n cap m i j br : Nat) (R C : Nat → Nat) (L : List Row) (w : World) (hb : w.cell? ⟨br, 0, none⟩ = some (.slice (some ⟨q, 0, none⟩) n cap)) (hq : br ≠ q) (h : Grid w q n m R C L) (hi : i < n) (hj : j < n) :
    Calls Tryz.prog 105 #[.int .i64 i, .int .i64 j, .pointer (some ⟨br, 0, none⟩)] w fun e w' =>
      e = .returned (.tuple #[]) ∧ Keep (fun b => b = q) w w' ∧ Grid w' q n m (swapF R i j) (swapF C i j) (M.swapL L i j) := by
  have h1 := h.header hi
  have h2 := h.header hj
  have hf1 := h.qfree i
  have hf2 := h.qfree j
  have i1 : (i : Int) < (n : Int) := by omega
  have i2 : (j : Int) < (n : Int) := by omega
  have k1 : ∀ W v k, (World.setCell W ⟨q, k, none⟩ v).cell? ⟨br, 0, none⟩ = W.cell? ⟨br, 0, none⟩ := fun W v k => World.cell?_of_block (w := W) (Below.heap_setCell _ _ _ _ hq)
  have HG := Lib.hid h
  clear h hq
  by_cases e : i = j
  · subst e
    go_enter Tryz.func105, Tryz.ntmps105
    go_wp2_with fail
    go_region
    all_goals (go_end0; exact ⟨rfl, ((((Keep.refl (fun b => b = q) w).setCell (fun _ => rfl) _).setCell (fun _ => rfl) _).drew), swap_grid HG.out hi hj 1⟩)
  · have k2 : ∀ W v, (World.setCell W ⟨q, i, none⟩ v).cell? ⟨q, j, none⟩ = W.cell? ⟨q, j, none⟩ := fun W v => cell_setCell_off W e
    go_enter Tryz.func105, Tryz.ntmps105
    go_wp2_with fail
    go_region
    all_goals (go_end0; exact ⟨rfl, ((((Keep.refl (fun b => b = q) w).setCell (fun _ => rfl) _).setCell (fun _ => rfl) _).drew), swap_grid HG.out hi hj 1⟩)

/-! ### add -/
theorem addRow {f q n m i j br bf : Nat} {R C : Nat → Nat} {L : List Row} {w : World} (hF : Fld w f) (hfR : ∀ k, k < n → R k ≠ f ∧ R k ≠ br ∧ R k ≠ bf) (h : Grid w q n m R C L) (hi : i < n) (hj : j < n) (hm : m ≤ 1024) (x : F) :
    Calls Tryz.prog 57 #[.pointer (some ⟨f, 0, none⟩), .slice (some ⟨R i, 0, none⟩) m (C i), .int .u8 x.toNat, .slice (some ⟨R j, 0, none⟩) m (C j)] w fun e w' =>
      e = .returned (.int .i64 0) ∧ Keep (fun b => b = R i) w w' ∧ Grid w' q n m R C (L.set i (M.axpy x (gr L j) (gr L i))) := by
  obtain ⟨c, hc, hh⟩ := h.row i hi
  have hli := h.shape.2 i hi
  have hlj := h.shape.2 j hj
  refine (gfAddMul f (R i) 0 m (C i) x (gr L i) (gr L j) c 5 _ w hF hc (fun e => (hfR i hi).1 e.symm) hli (fun k hk => by rw [Nat.zero_add]; exact hh k (by omega)) (h.bytes hj) (by omega)).mono ?_
  rintro e w' ⟨rfl, hk, cd', hcd, ha⟩
  have hl : (M.axpy x (gr L j) (gr L i)).length = m := by rw [M.axpy_length _ _ _ (by omega)]; exact hli
  exact ⟨rfl, hk, h.turn hi hk (RowAt.added hcd ha hl) hl⟩

set_option maxRecDepth 100000 in
set_option maxHeartbeats 800000 in
theorem mAdd (f q n cap m i j br bf : Nat) (x : F) (R C : Nat → Nat) (L : List Row) (w : World) (hb : w.cell? ⟨br, 0, none⟩ = some (.slice (some ⟨q, 0, none⟩) n cap)) (hbf : w.cell? ⟨bf, 0, none⟩ = some (.pointer (some ⟨f, 0, none⟩)))
    (hF : Fld w f) (hfR : ∀ k, k < n → R k ≠ f ∧ R k ≠ br ∧ R k ≠ bf) (h : Grid w q n m R C L) (hi : i < n) (hj : j < n) (hm : m ≤ 1024) :
    Calls Tryz.prog 106 #[.int .i64 i, .int .u8 x.toNat, .int .i64 j, .pointer (some ⟨bf, 0, none⟩), .pointer (some ⟨br, 0, none⟩)] w fun e w' =>
      e = .returned (.tuple #[]) ∧ Keep (fun b => b = R i) w w' ∧ Grid w' q n m R C (L.set i (M.axpy x (gr L j) (gr L i))) := by
  have h1 := h.header hi
  have h2 := h.header hj
  have i1 : (i : Int) < (n : Int) := by omega
  have i2 : (j : Int) < (n : Int) := by omega
  have HG := Lib.hid h
  have HR := Lib.hid hfR
  have HF := Lib.hid hF
  clear h hfR hF
  go_enter Tryz.func106, Tryz.ntmps106
  go_wp2_with fail
  go_region_held3 (fun w' => w'.cell? ⟨br, 0, none⟩ = some (.slice (some ⟨q, 0, none⟩) n cap) ∧ w'.cell? ⟨bf, 0, none⟩ = some (.pointer (some ⟨f, 0, none⟩)) ∧ w'.cell? ⟨q, i, none⟩ = some (.slice (some ⟨R i, 0, none⟩) m (C i)) ∧ w'.cell? ⟨q, j, none⟩ = some (.slice (some ⟨R j, 0, none⟩) m (C j)))
    (first | go_keep | exact ⟨hK.cellS hb (fun e => (HR.out i hi).2.1 e.symm), hK.cellS hbf (fun e => (HR.out i hi).2.2 e.symm), hK.cellS h1 (fun e => HG.out.apart i hi e.symm), hK.cellS h2 (fun e => HG.out.apart i hi e.symm)⟩)
    (first | (go_at_call 57; refine (addRow (L := L) (q := q) ?_ HR.out ?_ hi hj hm _).mono ?_; exact HF.out; exact HG.out.keep ((Keep.refl nob _).drew) (fun x => x) (fun _ _ x => x); rintro e w2 ⟨rfl, hK, hG⟩))
  all_goals (go_wp2; go_end0; exact ⟨rfl, ((Keep.refl _ w).drew).trans hK, hG⟩)

end Go.Proofs.YtgnmebgjfagjmaaGreat
