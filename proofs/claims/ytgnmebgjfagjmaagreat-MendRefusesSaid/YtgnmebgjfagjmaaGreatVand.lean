/- The walks of matrix.sized, matrix.Vandermonde: in row i the powers of point i. No condition. -/
import Derived.Test.YtgnmebgjfagjmaaGreatGrid
import Derived.Deep.RegionHeld3
namespace Go.Proofs.YtgnmebgjfagjmaaGreat
open Go.RowKit
open M (F Row ge gr)

set_option maxHeartbeats 400000 in
theorem mSized (f n m : Nat) (w : World) (h1 : 1 ≤ n) (h2 : n ≤ 256) (h3 : 1 ≤ m) (h4 : m ≤ 256) :
    Calls Tryz.prog 58 #[.pointer (some ⟨f, 0, none⟩), .int .i64 n, .int .i64 m] w fun e w' => e = .returned (.int .i64 0) ∧ w = w' := by
  have e1 : decide ((n : Int) < 1) = false := by simp; omega
  have e2 : decide ((m : Int) < 1) = false := by simp; omega
  have e3 : decide ((256 : Int) < (n : Int)) = false := by simp; omega
  have e4 : decide ((256 : Int) < (m : Int)) = false := by simp; omega
  go_enter Tryz.func58, Tryz.ntmps58
  go_wp2
  go_ret
  exact ⟨rfl, rfl⟩

/-- x to the power t -/
def pw (x : F) : Nat → F
  | 0 => 1
  | t + 1 => M.mul (pw x t) x
theorem ge_pows (x : F) : ∀ (k : Nat) (y : F) (t : Nat), t < k → ge (M.pows x y k) t = M.mul y (pw x t) := by
  intro k
  induction k with
  | zero => intro y t h; omega
  | succ k ih =>
    intro y t h
    cases t with
    | zero => simp [M.pows, ge, pw, M.mul_one]
    | succ t =>
      have := ih (M.mul y x) t (by omega)
      simp only [M.pows, ge, List.getD_cons_succ] at this ⊢
      rw [this, pw, M.mul_assoc, M.mul_comm (pw x t) x]
/-- a row of which j powers stand, then zeros -/
def powRow (x : F) (m j : Nat) : Row := (List.range m).map fun t => if t < j then pw x t else 0
theorem powRow_length (x : F) (m j : Nat) : (powRow x m j).length = m := by simp [powRow]
theorem ge_powRow (x : F) (m j t : Nat) (h : t < m) : ge (powRow x m j) t = if t < j then pw x t else 0 := by simp [powRow, ge, List.getD_eq_getElem?_getD, h]
theorem powRow_zero (x : F) (m : Nat) : powRow x m 0 = M.zeros m := M.ext_row (n := m) (powRow_length _ _ _) (M.zeros_length _) fun j hj => by rw [ge_powRow _ _ _ _ hj, M.ge_zeros]; simp
theorem powRow_set (x : F) (m j : Nat) : (powRow x m j).set j (pw x j) = powRow x m (j + 1) := by
  refine M.ext_row (n := m) (by rw [List.length_set, powRow_length]) (powRow_length _ _ _) fun t ht => ?_
  rw [ge_powRow _ _ _ _ ht]
  have hl := powRow_length x m j
  by_cases e : j = t
  · subst e
    have : ge ((powRow x m j).set j (pw x j)) j = pw x j := by simp [ge, List.getD_eq_getElem?_getD, hl, ht]
    rw [this, if_pos (by omega)]
  · have : ge ((powRow x m j).set j (pw x j)) t = ge (powRow x m j) t := by simp [ge, List.getD_eq_getElem?_getD, e]
    rw [this, ge_powRow _ _ _ _ ht]
    by_cases h : t < j
    · rw [if_pos h, if_pos (by omega)]
    · rw [if_neg h, if_neg (by omega)]
theorem powRow_full (x : F) (m : Nat) : powRow x m m = M.pows x 1 m := M.ext_row (n := m) (powRow_length _ _ _) (M.pows_length _ _ _) fun t ht => by
  rw [ge_powRow _ _ _ _ ht, ge_pows _ _ _ _ ht, if_pos ht, M.one_mul]
/-- the powers 0 to m - 1 of each point -/
def vander (ps : Row) (m : Nat) : List Row := ps.map fun x => M.pows x 1 m
theorem gr_vander (ps : Row) (m i : Nat) (h : i < ps.length) : gr (vander ps m) i = M.pows (ge ps i) 1 m := by simp [gr, vander, ge, List.getD_eq_getElem?_getD, h]
theorem vander_shape (ps : Row) (m : Nat) : M.Shape ps.length m (vander ps m) := ⟨by simp [vander], fun k hk => by rw [gr_vander _ _ _ hk, M.pows_length]⟩
theorem vander_shape' {ps : Row} {n m : Nat} (h : ps.length = n) : M.Shape n m (vander ps m) := by subst h; exact vander_shape ps m
theorem gr_vander' {ps : Row} {n m i : Nat} (h : ps.length = n) (hi : i < n) : gr (vander ps m) i = M.pows (ge ps i) 1 m := gr_vander ps m i (by omega)
theorem ext_rows {n m : Nat} {A B : List Row} (ha : M.Shape n m A) (hb : M.Shape n m B) (h : ∀ i, i < n → gr A i = gr B i) : A = B := by
  apply List.ext_getElem (by rw [ha.1, hb.1])
  intro i h1 h2
  have := h i (by rw [← ha.1]; exact h1)
  simpa [gr, List.getD_eq_getElem?_getD, h1, h2] using this

theorem cell_setCell_off (W : World) {b i j : Nat} {v : Value} (h : i ≠ j) : (W.setCell ⟨b, i, none⟩ v).cell? ⟨b, j, none⟩ = W.cell? ⟨b, j, none⟩ := by
  simp only [World.cell?, World.setCell]
  rw [Array.getElem?_modify]
  simp only [if_true]
  cases W.heap[b]? with
  | none => rfl
  | some o => cases o <;> simp [h]
/-- the rows above i are done, those from i on are zeros but row i, which is r -/
structure VanR (w w1 wr : World) (p f q n m : Nat) (R C : Nat → Nat) (ps : Row) (i : Nat) (r : Row) : Prop where
  keep : Keep nob w wr
  mat : ∃ L, Mat wr w.heap.size p f q n m R C L ∧ (∀ k, k < i → gr L k = M.pows (ge ps k) 1 m) ∧ (∀ k, i < k → k < n → gr L k = M.zeros m) ∧ (i < n → gr L i = r)
theorem gr_set' {L : List Row} {n i k : Nat} {r : Row} (hl : L.length = n) (hi : i < n) : gr (L.set i r) k = if k = i then r else gr L k := M.gr_set _ _ _ _ (by omega)
theorem VanR.store {w w1 wr : World} {p f q n m : Nat} {R C : Nat → Nat} {ps : Row} {i : Nat} {r : Row} (h : VanR w w1 wr p f q n m R C ps i r) (hi : i < n) (j : Nat) (x : F) (d : Nat) :
    VanR w w1 ((wr.setCell ⟨R i, j, none⟩ (.int .u8 x.toNat)).drewN d) p f q n m R C ps i (r.set j x) := by
  obtain ⟨L, hm, h1, h2, h3⟩ := h.mat
  have hlr : R i < wr.heap.size := hm.grid.rlt hi
  have k1 : Keep (fun b => b = R i) wr ((wr.setCell ⟨R i, j, none⟩ (.int .u8 x.toNat)).drewN d) := ((Keep.refl (fun b => b = R i) wr).setCell (fun _ => rfl) _).drewN d
  have hrow := hm.grid.row i hi
  rw [h3 hi] at hrow
  have hsh := hm.grid.shape.2 i hi
  rw [h3 hi] at hsh
  have hg := hm.grid.turn hi k1 (r := r.set j x) (hrow.set j x) (by rw [List.length_set]; exact hsh)
  refine ⟨((h.keep.setCell (fun hlt => absurd hlt (by have := hm.rB i hi; dsimp only; omega)) _).drewN d), L.set i (r.set j x), ?_, fun k hk => ?_, fun k hk hk' => ?_, fun _ => ?_⟩
  · exact ⟨k1.some hm.at_ (fun e => hm.pR i hi e.symm), hg, hm.pB, hm.qB, hm.rB, hm.pq, hm.pR⟩
  · rw [gr_set' hm.grid.shape.1 hi, if_neg (by omega)]; exact h1 k hk
  · rw [gr_set' hm.grid.shape.1 hi, if_neg (by omega)]; exact h2 k hk hk'
  · rw [gr_set' hm.grid.shape.1 hi, if_pos rfl]
theorem VanR.powStep {w w1 wr : World} {p f q n m : Nat} {R C : Nat → Nat} {ps : Row} {i t : Nat} {x : F} (h : VanR w w1 wr p f q n m R C ps i (powRow x m (t + 1))) (hi : i < n) (d : Nat) :
    VanR w w1 ((wr.drewN d).setCell ⟨R i, t + 1, none⟩ (.int .u8 (M.mul (pw x t) x).toNat)) p f q n m R C ps i (powRow x m (t + 1 + 1)) := by
  have := h.store hi (t + 1) (pw x (t + 1)) d
  rw [powRow_set] at this
  exact this
theorem VanR.next {w w1 wr : World} {p f q n m : Nat} {R C : Nat → Nat} {ps : Row} {i : Nat} (h : VanR w w1 wr p f q n m R C ps i (M.pows (ge ps i) 1 m)) (hi : i < n) : VanR w w1 wr p f q n m R C ps (i + 1) (M.zeros m) := by
  obtain ⟨L, hm, h1, h2, h3⟩ := h.mat
  refine ⟨h.keep, L, hm, fun k hk => ?_, fun k hk hk' => h2 k (by omega) hk', fun h' => h2 _ (by omega) h'⟩
  by_cases e : k = i
  · rw [e]; exact h3 hi
  · exact h1 k (by omega)

set_option maxRecDepth 100000 in
set_option maxHeartbeats 1600000 in
theorem mVander (f n m : Nat) (ps : Row) (pts : Value) (w : World) (h : Fld w f) (hp : Bytes w pts n ps) (h1 : 1 ≤ n) (h2 : n ≤ 256) (h3 : 1 ≤ m) (h4 : m ≤ 256) :
    Calls Tryz.prog 40 #[.pointer (some ⟨f, 0, none⟩), pts, .int .i64 m] w fun e w' =>
      ∃ p q R C, e = .returned (.tuple #[.pointer (some ⟨p, 0, none⟩), .int .i64 0]) ∧ Keep nob w w' ∧ Mat w' w.heap.size p f q n m R C (vander ps m) := by
  obtain ⟨ao, cap, rfl⟩ := hp.form
  have HP := Lib.hid hp
  have HF := Lib.hid h
  clear h hp
  go_enter Tryz.func40, Tryz.ntmps40
  go_wp2_with (first | (go_at_call 58; refine (mSized _ _ _ _ h1 h2 h3 h4).mono ?_; rintro e w' ⟨rfl, rfl⟩) | (go_at_call 59; refine (mBlank _ _ _ _ (by omega) (by omega)).mono ?_; rintro e w1 ⟨p, q, R, C, rfl, hk, hm⟩; have HK := Lib.hid hk; have HM := Lib.hid hm; clear hk hm))
  go_loopw [28] (fun i wr => ∃ k : Nat, k ≤ n ∧ i = .int .i64 k ∧ VanR w w1 wr p f q n m R C ps k (M.zeros m)) (fun i _ => n - (intOf i).toNat)
  case atStart => exact ⟨0, Nat.zero_le _, rfl, HK.out, _, HM.out, fun k hk => by omega, fun k _ hk => gr_zgrid _ _ _ hk, fun hk => gr_zgrid _ _ _ hk⟩
  case round =>
    obtain ⟨k, hk, rfl, hR⟩ := hrel
    have HR := Lib.hid hR
    by_cases hlt : k < n
    · obtain ⟨b, o, rfl, hb, hc⟩ := (HP.out.keep0 hR.keep).cells hlt
      have hpc := hc k hlt
      obtain ⟨L, hm, _⟩ := hR.mat
      have c1 := hm.at_.rows
      have c2 := hm.grid.header hlt
      have c3 := hm.grid.cell (j := 0) hlt (by omega)
      have c4 := (hm.grid.row k hlt).frozen 0
      have i1 : (k : Int) < (n : Int) := by omega
      have HX := Lib.hid hR.keep
      clear hR hc hm hb
      obtain ⟨wo, rfl⟩ : ∃ wo : World, wo = wr := ⟨_, rfl⟩
      go_wp2_with fail
      clear c1 c2 c3 c4 hpc
      go_loopw [12] (fun j wi => ∃ t : Nat, t + 1 ≤ m ∧ j = .int .i64 ((t : Int) + 1) ∧ VanR w w1 wi p f q n m R C ps k (powRow (ge ps k) m (t + 1))) (fun j _ => m - (intOf j).toNat)
      case atStart =>
        refine ⟨0, by omega, rfl, ?_⟩
        have := HR.out.store hlt 0 (pw (ge ps k) 0) 0
        rw [← powRow_zero (ge ps k) m, powRow_set] at this
        exact this
      case round =>
        obtain ⟨t, ht, rfl, hV⟩ := hrel
        have HV := Lib.hid hV
        by_cases htm : t + 1 < m
        · obtain ⟨L2, hm2, _, _, h3'⟩ := hV.mat
          have d1 := hm2.at_.rows
          have d2 := hm2.grid.header hlt
          have d3 := hm2.grid.cell (j := t) hlt (by omega)
          have d4 := hm2.grid.cell (j := t + 1) hlt (by omega)
          have d5 := (hm2.grid.row k hlt).frozen (t + 1)
          rw [h3' hlt, ge_powRow _ _ _ _ (by omega), if_pos (by omega)] at d3
          have HF2 := Lib.hid (HF.out.keep hV.keep (fun x => x))
          have i2 : ((t : Int) + 1) < (m : Int) := by omega
          have i3 : IntKind.i64.wrap (t : Int) = (t : Int) := IntWalk.i64_in _ (by omega)
          have i4 : (t : Int) < (m : Int) := by omega
          have i5 : (0 : Int) ≤ (t : Int) + 1 := by omega
          have i6 : ((t : Int) + 1).toNat = t + 1 := by omega
          have k1 : ∀ W v, (World.setCell W ⟨R k, t + 1, none⟩ v).cell? ⟨p, 1, none⟩ = W.cell? ⟨p, 1, none⟩ := fun W v => World.cell?_of_block (w := W) (Below.heap_setCell _ _ _ _ (fun e => hm2.pR k hlt e.symm))
          have k2 : ∀ W v, (World.setCell W ⟨R k, t + 1, none⟩ v).cell? ⟨q, k, none⟩ = W.cell? ⟨q, k, none⟩ := fun W v => World.cell?_of_block (w := W) (Below.heap_setCell _ _ _ _ (fun e => hm2.grid.apart k hlt e.symm))
          have k3 : ∀ W v, (World.setCell W ⟨R k, t + 1, none⟩ v).cell? ⟨R k, t, none⟩ = W.cell? ⟨R k, t, none⟩ := fun W v => cell_setCell_off W (by omega)
          clear hV hm2 h3'
          go_wp2_with fail
          go_region_held3 (fun w' => w'.cell? ⟨p, 1, none⟩ = some (.slice (some ⟨q, 0, none⟩) n n) ∧ w'.cell? ⟨q, k, none⟩ = some (.slice (some ⟨R k, 0, none⟩) m (C k)) ∧ w'.cell? ⟨R k, t, none⟩ = some (.int .u8 (pw (ge ps k) t).toNat)) (go_keep) (first | (go_at_call 60; refine (gfMul _ _ _ _ ?_).mono ?_; (first | exact HF2.out | exact HF2.out.keep ((Keep.refl nob _).drew) (fun x => x)); rintro e w2 ⟨rfl, m', rfl⟩))
          all_goals (go_wp2; go_roundw; (case rel => exact ⟨t + 1, by omega, i64_eq (by omega), HV.out.powStep hlt _⟩); (case measure => (simp [intOf]; omega)))
        · obtain rfl : m = t + 1 := by omega
          clear hV htm ht
          go_wp2
          go_roundw
          case rel => exact ⟨k + 1, by omega, by go_num, (powRow_full _ _ ▸ HV.out).next hlt⟩
          case measure => (simp [intOf]; omega)
    · obtain rfl : k = n := by omega
      clear hR hlt
      go_wp2
      go_ret2
      obtain ⟨L, hm, hL, _⟩ := HR.out.mat
      have e : L = vander ps m := ext_rows hm.grid.shape (vander_shape' HP.out.1) fun i hi => (hL i hi).trans (gr_vander' HP.out.1 hi).symm
      exact ⟨p, q, R, C, rfl, HR.out.keep, e ▸ hm⟩

end Go.Proofs.YtgnmebgjfagjmaaGreat
