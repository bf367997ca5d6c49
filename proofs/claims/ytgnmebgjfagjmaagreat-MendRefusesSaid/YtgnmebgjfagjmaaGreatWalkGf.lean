/- The walks of package gf: the standard field is made, products and inverses are those of the tables, AddMul adds a multiple. No condition. -/
import Derived.Test.YtgnmebgjfagjmaaGreatMem
import Derived.Test.YtgnmebgjfagjmaaGreatChecked
import Derived.Deep.QuietTactic
import Derived.BigQuiet
import Derived.Deep.LoopGhost
import Derived.Lib.Hide
import Derived.Deep.RegionHeld3
namespace Go.Proofs.YtgnmebgjfagjmaaGreat
open Go.RowKit
open M (F Row ge gr)

/-- a field's cells: its polynomial, the powers twice round, the logarithms, when i rounds are done -/
noncomputable def fc0 : Array Value := Tryz.zeroCells111.setIfInBounds 0 (.int .i64 285)
noncomputable def fcR : Nat → Array Value
  | 0 => fc0
  | i + 1 => (((fcR i).setIfInBounds (1 + i) (.int .u8 (M.xs i))).setIfInBounds (1 + (i + 255)) (.int .u8 (M.xs i))).setIfInBounds (511 + M.xs i) (.int .i64 i)
noncomputable def fcells : Array Value := fcR 255
/-- a field lies there -/
def Fld (w : World) (f : Nat) : Prop := w.heap[f]? = some (.cells fcells 111 (0, 0))


theorem fc0_size : fc0.size = 767 := by kernel_rfl
theorem fcR_size (i : Nat) : (fcR i).size = 767 := by
  induction i with
  | zero => exact fc0_size
  | succ i ih => simp [fcR, ih]
theorem xs_lt (k : Nat) (h : k < 255) : M.xs k < 256 := by rw [M.xs_ex k h]; exact M.ex_lt k
theorem xs_pos (k : Nat) (h : k < 255) : 1 ≤ M.xs k := by rw [M.xs_ex k h]; have := M.ex_ne k; omega
theorem xs_one (k : Nat) (h0 : 0 < k) (h : k < 255) : M.xs k ≠ 1 := by
  rw [M.xs_ex k h]
  intro e
  have h1 := M.lg_ex k
  rw [e, M.lg_one, Nat.mod_eq_of_lt h] at h1
  omega
theorem xs_255 : M.xs 255 = 1 := by kernel_rfl

theorem arr_some {c : Array Value} {i : Nat} (h : i < c.size) : ∃ v, c[i]? = some v := ⟨c[i], by simp [h]⟩
theorem gstep_hi (k : Nat) (h : k < 255) (h2 : 255 < (M.xs k : Int) * 2) : bits BinOp.xor IntKind.i64 ((M.xs k : Int) * 2) 285 = (M.xs (k + 1) : Int) := by
  have h3 := xs_lt k h
  have e := i64_xor_nat (M.xs k * 2) 285 (by omega) (by omega)
  have e2 : ((M.xs k * 2 : Nat) : Int) = (M.xs k : Int) * 2 := by omega
  rw [e2] at e
  refine e.trans ?_
  show _ = ((M.gstep (M.xs k) : Nat) : Int)
  unfold M.gstep
  rw [if_pos (by omega), Nat.mul_comm]
theorem gstep_lo (k : Nat) (h2 : (M.xs k : Int) * 2 ≤ 255) : (M.xs k : Int) * 2 = (M.xs (k + 1) : Int) := by
  show _ = ((M.gstep (M.xs k) : Nat) : Int)
  unfold M.gstep
  rw [if_neg (by omega)]; omega
theorem i64_eq {a b : Int} (h : a = b) : Value.int .i64 a = .int .i64 b := by rw [h]

set_option maxRecDepth 100000 in
set_option maxHeartbeats 800000 in
theorem gfNew (w : World) : Calls Tryz.prog 39 #[.int .i64 285] w fun e w' => e = .returned (.tuple #[.pointer (some ⟨w.heap.size, 0, none⟩), .int .i64 0]) ∧ w' = w.alloc (.cells fcells 111) := by
  go_enter Tryz.func39, Tryz.ntmps39
  go_wp2_with fail
  go_loopw [5, 16] (fun x i wr => ∃ k : Nat, k ≤ 255 ∧ i = .int .i64 k ∧ x = .int .i64 (M.xs k) ∧ wr = w.alloc (.cells (fcR k) 111)) (fun _ i _ => 255 - (intOf i).toNat)
  case atStart => exact ⟨0, Nat.zero_le _, rfl, rfl, rfl⟩
  case round =>
    obtain ⟨k, hk, rfl, rfl, rfl⟩ := hrel
    by_cases hlt : k < 255
    · have g1 := xs_lt k hlt
      have g2 := xs_pos k hlt
      have e0 : ((M.xs k : Int) == 0) = false := beq_eq_false_iff_ne.2 (by omega)
      have i1 : (M.xs k : Int) < 256 := by omega
      obtain ⟨v1, hv1⟩ := arr_some (c := fcR k) (i := 1 + k) (by rw [fcR_size]; omega)
      obtain ⟨v2, hv2⟩ := arr_some (c := fcR k) (i := 1 + (k + 255)) (by rw [fcR_size]; omega)
      obtain ⟨v3, hv3⟩ := arr_some (c := ((fcR k).setIfInBounds (1 + k) (.int .u8 (M.xs k))).setIfInBounds (1 + (k + 255)) (.int .u8 (M.xs k))) (i := 511 + M.xs k) (by simp only [Array.size_setIfInBounds, fcR_size]; omega)
      have hlo := gstep_lo k
      have hhi := gstep_hi k hlt
      have HL := Lib.hid hlo
      have HH := Lib.hid hhi
      clear hlo hhi
      by_cases h0 : k = 0
      · have e1 : decide ((k : Int) > 0) = false := by rw [h0]; decide
        have h0' : ¬ (0 : Int) < (k : Int) := by omega
        clear h0
        go_wp2
        all_goals (go_roundw; (case rel => exact ⟨k + 1, by omega, by go_num, i64_eq (by first | exact HL.out (by assumption) | exact HH.out (by assumption)), rfl⟩); (case measure => (simp [intOf]; omega)))
      · have e1 : ((M.xs k : Int) == 1) = false := beq_eq_false_iff_ne.2 (by have := xs_one k (by omega) hlt; omega)
        have h0' : 0 < k := by omega
        clear h0
        go_wp2
        all_goals (go_roundw; (case rel => exact ⟨k + 1, by omega, by go_num, i64_eq (by first | exact HL.out (by assumption) | exact HH.out (by assumption)), rfl⟩); (case measure => (simp [intOf]; omega)))
    · obtain rfl : k = 255 := by omega
      have e1 : ((M.xs 255 : Int) != 1) = false := by rw [xs_255]; rfl
      clear hlt hk
      go_wp2
      go_ret2
      exact ⟨rfl, rfl⟩

theorem gfStd (w : World) : Calls Tryz.prog 27 #[] w fun e w' => e = .returned (.pointer (some ⟨w.heap.size, 0, none⟩)) ∧ w' = w.alloc (.cells fcells 111) := by
  go_enter Tryz.func27, Tryz.ntmps27
  go_wp2_with (go_at_call 39; refine (gfNew _).mono ?_; rintro e w' ⟨rfl, rfl⟩)
  go_ret
  exact ⟨rfl, rfl⟩

theorem set_same {c : Array Value} {i : Nat} {v : Value} (h : i < c.size) : (c.setIfInBounds i v)[i]? = some v := by simp [h]
theorem set_other {c : Array Value} {i j : Nat} {v : Value} (h : i ≠ j) : (c.setIfInBounds i v)[j]? = c[j]? := by rw [Array.getElem?_setIfInBounds, if_neg h]
theorem xs_inj {i k : Nat} (hi : i < 255) (hk : k < 255) (h : M.xs i = M.xs k) : i = k := by
  rw [M.xs_ex i hi, M.xs_ex k hk] at h
  have := congrArg M.lg h
  rw [M.lg_ex, M.lg_ex, Nat.mod_eq_of_lt hi, Nat.mod_eq_of_lt hk] at this
  exact this
theorem fcR_at (k : Nat) (hk : k ≤ 255) : ∀ i, i < k → (fcR k)[1 + i]? = some (.int .u8 (M.xs i)) ∧ (fcR k)[1 + (i + 255)]? = some (.int .u8 (M.xs i)) ∧ (fcR k)[511 + M.xs i]? = some (.int .i64 i) := by
  induction k with
  | zero => intro i hi; omega
  | succ k ih =>
    intro i hi
    have hx := xs_lt i (by omega)
    simp only [fcR]
    by_cases e : i = k
    · subst e
      refine ⟨?_, ?_, ?_⟩
      · rw [set_other (by omega), set_other (by omega), set_same (by rw [fcR_size]; omega)]
      · rw [set_other (by omega), set_same (by simp only [Array.size_setIfInBounds, fcR_size]; omega)]
      · rw [set_same (by simp only [Array.size_setIfInBounds, fcR_size]; omega)]
    · obtain ⟨h1, h2, h3⟩ := ih (by omega) i (by omega)
      have hne : M.xs i ≠ M.xs k := fun h => e (xs_inj (by omega) (by omega) h)
      refine ⟨?_, ?_, ?_⟩
      · rw [set_other (by omega), set_other (by omega), set_other (by omega), h1]
      · rw [set_other (by omega), set_other (by omega), set_other (by omega), h2]
      · rw [set_other (by omega), set_other (by omega), set_other (by omega), h3]
theorem cell_of {w : World} {b : Nat} {c : Array Value} {t : TypeId} {fr : Nat × Nat} (h : w.heap[b]? = some (.cells c t fr)) (i : Nat) : w.cell? ⟨b, i, none⟩ = c[i]? := by simp [World.cell?, h]
theorem frozen_of {w : World} {b : Nat} {c : Array Value} {t : TypeId} (h : w.heap[b]? = some (.cells c t (0, 0))) (i : Nat) : w.frozen? ⟨b, i, none⟩ = false := by simp [World.frozen?, h]
theorem Fld.ex {w : World} {f : Nat} (h : Fld w f) (i : Nat) (hi : i < 510) : w.cell? ⟨f, 1 + i, none⟩ = some (.int .u8 (M.ex i)) := by
  rw [cell_of h]
  by_cases h0 : i < 255
  · rw [← M.xs_ex i h0]; exact (fcR_at 255 (Nat.le_refl _) i h0).1
  · have := (fcR_at 255 (Nat.le_refl _) (i - 255) (by omega)).2.1
    rw [show i - 255 + 255 = i by omega] at this
    rw [← M.ex_mod, show i % 255 = i - 255 by omega, ← M.xs_ex _ (by omega)]
    exact this
theorem Fld.lg {w : World} {f : Nat} (h : Fld w f) (a : Nat) (h0 : a ≠ 0) (ha : a < 256) : w.cell? ⟨f, 511 + a, none⟩ = some (.int .i64 (M.lg a)) := by
  rw [cell_of h]
  have := (fcR_at 255 (Nat.le_refl _) (M.lg a) (M.lg_lt a)).2.2
  rw [M.xs_ex _ (M.lg_lt a), M.ex_lg a h0 ha] at this
  exact this
theorem Fld.keep {S : Nat → Prop} {w w' : World} {f : Nat} (h : Fld w f) (k : Keep S w w') (hn : ¬ S f) : Fld w' f := k.some h hn

set_option maxRecDepth 100000 in
set_option maxHeartbeats 400000 in
theorem gfMul (f : Nat) (a b : F) (w : World) (h : Fld w f) :
    Calls Tryz.prog 60 #[.pointer (some ⟨f, 0, none⟩), .int .u8 a.toNat, .int .u8 b.toNat] w fun e w' => e = .returned (.int .u8 (M.mul a b).toNat) ∧ ∃ n, w' = w.drewN n := by
  rw [M.mul_toNat]
  have la := M.F.lt a
  have lb := M.F.lt b
  generalize a.toNat = a at *
  generalize b.toNat = b at *
  by_cases ha : a = 0
  · subst ha
    rw [M.zero_gm]
    go_enter Tryz.func60, Tryz.ntmps60
    go_wp2
    go_ret
    exact ⟨rfl, 0, rfl⟩
  · have ea : ((a : Int) == 0) = false := beq_eq_false_iff_ne.2 (by omega)
    by_cases hb : b = 0
    · subst hb
      rw [M.gm_zero]
      clear ha
      go_enter Tryz.func60, Tryz.ntmps60
      go_wp2
      go_ret
      exact ⟨rfl, 0, rfl⟩
    · have eb : ((b : Int) == 0) = false := beq_eq_false_iff_ne.2 (by omega)
      rw [M.gm_nz ha hb]
      have h1 := h.lg a ha la
      have h2 := h.lg b hb lb
      have hla := M.lg_lt a
      have hlb := M.lg_lt b
      have h3 := h.ex (M.lg a + M.lg b) (by omega)
      generalize M.lg a = x at *
      generalize M.lg b = y at *
      generalize M.ex (x + y) = z at *
      have i1 : (a : Int) < 256 := by omega
      have i2 : (b : Int) < 256 := by omega
      have i3 : ((x : Int) + (y : Int)) < 510 := by omega
      clear ha hb h
      go_enter Tryz.func60, Tryz.ntmps60
      go_wp2
      go_quiet (fail)
      go_wp2
      go_ret
      exact ⟨rfl, _, rfl⟩

set_option maxRecDepth 100000 in
set_option maxHeartbeats 400000 in
theorem gfInv (f : Nat) (a : F) (w : World) (h : Fld w f) (h0 : a ≠ 0) :
    Calls Tryz.prog 108 #[.pointer (some ⟨f, 0, none⟩), .int .u8 a.toNat] w fun e w' => e = .returned (.tuple #[.int .u8 (M.inv a).toNat, .int .i64 0]) ∧ ∃ n, w' = w.drewN n := by
  rw [M.inv_toNat]
  have la := M.F.lt a
  have ha := M.ne_toNat h0
  generalize a.toNat = a at *
  have ea : ((a : Int) == 0) = false := beq_eq_false_iff_ne.2 (by omega)
  have h1 := h.lg a ha la
  have hla := M.lg_lt a
  have h3 := h.ex (255 - M.lg a) (by omega)
  unfold M.gi
  generalize M.lg a = x at *
  generalize M.ex (255 - x) = z at *
  have i1 : (a : Int) < 256 := by omega
  clear ha h h0
  go_enter Tryz.func108, Tryz.ntmps108
  go_wp2
  go_outline
  go_quiet (fail)
  go_wp2
  go_ret2
  exact ⟨rfl, _, rfl⟩

end Go.Proofs.YtgnmebgjfagjmaaGreat
