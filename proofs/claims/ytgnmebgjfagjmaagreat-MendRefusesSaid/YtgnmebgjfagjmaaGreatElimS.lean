/- The third closure of matrix.eliminate: a row scaled. No condition. -/
import Derived.Test.YtgnmebgjfagjmaaGreatElimC
namespace Go.Proofs.YtgnmebgjfagjmaaGreat
open Go.RowKit
open M (F Row ge gr)

/-- row i of which the first k places are scaled -/
structure ScaR (w wr : World) (q n m : Nat) (R C : Nat → Nat) (L : List Row) (i : Nat) (c : F) (k : Nat) : Prop where
  keep : Keep (fun b => b = R i) w wr
  grid : Grid wr q n m R C (L.set i (mix (M.scale c (gr L i)) (gr L i) m k))
theorem set_self {L : List Row} {n i : Nat} (hl : L.length = n) (hi : i < n) : L.set i (gr L i) = L := by
  subst hl
  apply List.ext_getElem (by simp)
  intro k h1 h2
  rw [List.getElem_set]
  split
  · rename_i e; subst e; simp [gr, hi]
  · rfl
theorem ScaR.start {w : World} {q n m : Nat} {R C : Nat → Nat} {L : List Row} {i : Nat} {c : F} (h : Grid w q n m R C L) (hi : i < n) : ScaR w w q n m R C L i c 0 := by
  refine ⟨Keep.refl _ _, ?_⟩
  rw [mix_zero (h.shape.2 i hi), set_self h.shape.1 hi]; exact h
theorem ScaR.gri {w wr : World} {q n m : Nat} {R C : Nat → Nat} {L : List Row} {i : Nat} {c : F} {k : Nat} (h : ScaR w wr q n m R C L i c k) (hL : L.length = n) (hi : i < n) :
    gr (L.set i (mix (M.scale c (gr L i)) (gr L i) m k)) i = mix (M.scale c (gr L i)) (gr L i) m k := by
  have := h.keep
  rw [gr_set' hL hi, if_pos rfl]
theorem ScaR.step {w wr : World} {q n m : Nat} {R C : Nat → Nat} {L : List Row} {i : Nat} {c : F} {k : Nat} (h : ScaR w wr q n m R C L i c k) (hL : L.length = n) (hi : i < n) (hk : k < m) (d : Nat) :
    ScaR w ((wr.drewN d).setCell ⟨R i, k, none⟩ (.int .u8 (M.mul (ge (gr L i) k) c).toNat)) q n m R C L i c (k + 1) := by
  have k1 : Keep (fun b => b = R i) wr ((wr.drewN d).setCell ⟨R i, k, none⟩ (.int .u8 (M.mul (ge (gr L i) k) c).toNat)) := (((Keep.refl (fun b => b = R i) wr).drewN d).setCell (fun _ => rfl) _)
  refine ⟨h.keep.trans k1, ?_⟩
  have hrow := h.grid.row i hi
  rw [h.gri hL hi] at hrow
  have hl := mix_length (M.scale c (gr L i)) (gr L i) m k
  have hs := RowAt.set (w := wr.drewN d) (l := mix (M.scale c (gr L i)) (gr L i) m k) (b := R i) hrow k (M.mul (ge (gr L i) k) c)
  have e : (mix (M.scale c (gr L i)) (gr L i) m k).set k (M.mul (ge (gr L i) k) c) = mix (M.scale c (gr L i)) (gr L i) m (k + 1) := by
    rw [← mix_set _ _ _ _ hk, M.ge_scale]
  have := h.grid.turn hi k1 hs (by rw [List.length_set]; exact hl)
  rw [e, List.set_set] at this
  exact this
theorem ScaR.done {w wr : World} {q n m : Nat} {R C : Nat → Nat} {L : List Row} {i : Nat} {c : F} (h : ScaR w wr q n m R C L i c m) (hl : (gr L i).length = m) : Grid wr q n m R C (M.scaleAt L i c) := by
  have := h.grid
  rw [mix_full (by rw [M.scale_length]; exact hl)] at this
  exact this

set_option maxRecDepth 100000 in
set_option maxHeartbeats 1600000 in
theorem mScale (f q n cap m i br bf : Nat) (x : F) (R C : Nat → Nat) (L : List Row) (w : World) (hb : w.cell? ⟨br, 0, none⟩ = some (.slice (some ⟨q, 0, none⟩) n cap)) (hbf : w.cell? ⟨bf, 0, none⟩ = some (.pointer (some ⟨f, 0, none⟩)))
    (hF : Fld w f) (hfR : ∀ k, k < n → R k ≠ f ∧ R k ≠ br ∧ R k ≠ bf) (h : Grid w q n m R C L) (hi : i < n) (hm : m ≤ 1024) :
    Calls Tryz.prog 107 #[.int .i64 i, .int .u8 x.toNat, .pointer (some ⟨br, 0, none⟩), .pointer (some ⟨bf, 0, none⟩)] w fun e w' =>
      e = .returned (.tuple #[]) ∧ Keep (fun b => b = R i) w w' ∧ Grid w' q n m R C (M.scaleAt L i x) := by
  have h1 := h.header hi
  have i1 : (i : Int) < (n : Int) := by omega
  have hL := Lib.hid h.shape.1
  have hLi := Lib.hid (h.shape.2 i hi)
  have HG := Lib.hid h
  have HR := Lib.hid (hfR i hi)
  have HF := Lib.hid hF
  have HA := Lib.hid (h.apart i hi)
  have HB := Lib.hid hb
  have HBF := Lib.hid hbf
  clear h hfR hF
  go_enter Tryz.func107, Tryz.ntmps107
  go_wp2_with fail
  clear h1 hb hbf
  go_loopw [13] (fun j wr => ∃ k : Nat, k ≤ m ∧ j = .int .i64 k ∧ ScaR w wr q n m R C L i x k) (fun j _ => m - (intOf j).toNat)
  case atStart => exact ⟨0, Nat.zero_le _, rfl, ScaR.start HG.out hi⟩
  case round =>
    obtain ⟨k, hk, rfl, hS⟩ := hrel
    have HS := Lib.hid hS
    by_cases hlt : k < m
    · have d1 := hS.keep.cellS HB.out (fun e => HR.out.2.1 e.symm)
      have d2 := hS.keep.cellS HBF.out (fun e => HR.out.2.2 e.symm)
      have d3 := hS.grid.header hi
      have d4 := hS.grid.cell (j := k) hi hlt
      have d5 := (hS.grid.row i hi).frozen k
      rw [hS.gri hL.out hi, ge_mix _ _ _ _ _ hlt, if_neg (Nat.lt_irrefl _)] at d4
      have HF2 := Lib.hid (HF.out.keep hS.keep (fun e => HR.out.1 e.symm))
      have i2 : (k : Int) < (m : Int) := by omega
      have k1 : ∀ W v, (World.setCell W ⟨R i, k, none⟩ v).cell? ⟨br, 0, none⟩ = W.cell? ⟨br, 0, none⟩ := fun W v => World.cell?_of_block (w := W) (Below.heap_setCell _ _ _ _ (fun e => HR.out.2.1 e.symm))
      have k2 : ∀ W v, (World.setCell W ⟨R i, k, none⟩ v).cell? ⟨bf, 0, none⟩ = W.cell? ⟨bf, 0, none⟩ := fun W v => World.cell?_of_block (w := W) (Below.heap_setCell _ _ _ _ (fun e => HR.out.2.2 e.symm))
      have k3 : ∀ W v, (World.setCell W ⟨R i, k, none⟩ v).cell? ⟨q, i, none⟩ = W.cell? ⟨q, i, none⟩ := fun W v => World.cell?_of_block (w := W) (Below.heap_setCell _ _ _ _ (fun e => HA.out e.symm))
      clear hS
      go_wp2_with fail
      go_region_held3 (fun w' => w'.cell? ⟨br, 0, none⟩ = some (.slice (some ⟨q, 0, none⟩) n cap) ∧ w'.cell? ⟨bf, 0, none⟩ = some (.pointer (some ⟨f, 0, none⟩)) ∧ w'.cell? ⟨q, i, none⟩ = some (.slice (some ⟨R i, 0, none⟩) m (C i))) (go_keep)
        (first | (go_at_call 60; refine (gfMul _ _ _ _ ?_).mono ?_; (first | exact HF2.out | exact HF2.out.keep ((Keep.refl nob _).drew) (fun x => x)); rintro e w2 ⟨rfl, m', rfl⟩))
      all_goals (go_wp2; go_roundw; (case rel => exact ⟨k + 1, by omega, by go_num, HS.out.step hL.out hi hlt _⟩); (case measure => (simp [intOf]; omega)))
    · obtain rfl : k = m := by omega
      clear hS hlt
      go_wp2
      go_end0
      exact ⟨rfl, HS.out.keep, HS.out.done hLi.out⟩

end Go.Proofs.YtgnmebgjfagjmaaGreat
