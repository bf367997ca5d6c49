/- the law's mod: k modulo n, from 0 to n - 1. No condition. -/
import Derived.Test.YtgnmebgjfagjmaaGreatEnc
namespace Go.Proofs.YtgnmebgjfagjmaaGreat
open Go.RowKit
open M (F Row ge gr)

def imod (k : Int) (n : Nat) : Int := if k.tmod n < 0 then k.tmod n + n else k.tmod n
theorem tmod_lt (k : Int) (n : Nat) (h : 1 ≤ n) : -(n : Int) < k.tmod n ∧ k.tmod n < n := by
  have hn : (0 : Int) < (n : Int) := by omega
  constructor
  · exact Int.lt_tmod_of_pos k hn
  · exact Int.tmod_lt_of_pos k hn
theorem imod_lt (k : Int) (n : Nat) (h : 1 ≤ n) : 0 ≤ imod k n ∧ imod k n < n := by
  have := tmod_lt k n h
  unfold imod
  split <;> omega

theorem imod_nat (k : Int) (n : Nat) (h : 1 ≤ n) : ∃ t : Nat, t < n ∧ imod k n = (t : Int) := by
  have := imod_lt k n h
  exact ⟨(imod k n).toNat, by omega, by omega⟩

set_option maxRecDepth 100000 in
set_option maxHeartbeats 1000000 in
theorem lMod (k : Int) (n t : Nat) (w : World) (h1 : 1 ≤ n) (h2 : n ≤ 140737488351232) (ht : imod k n = (t : Int)) :
    Calls Tryz.prog 26 #[.int .i64 k, .int .i64 n] w fun e w' => e = .returned (.int .i64 t) ∧ w = w' := by
  have hn0 : ((n : Int) == 0) = false := by simp; omega
  have hn1 : ((n : Int) == -1) = false := by simp
  have hb := tmod_lt k n h1
  have hw : IntKind.i64.wrap (k.tmod n) = k.tmod n := IntWalk.i64_in _ (by omega)
  rw [← ht]
  unfold imod
  clear ht
  go_enter Tryz.func26, Tryz.ntmps26
  by_cases hlt : k.tmod n < 0
  · have d1 : decide (k.tmod n < 0) = true := by simp [hlt]
    have hw2 : IntKind.i64.wrap (k.tmod n + n) = k.tmod n + n := IntWalk.i64_in _ (by omega)
    rw [if_pos hlt]
    go_wp2
    go_ret
    exact ⟨rfl, rfl⟩
  · have d1 : decide (k.tmod n < 0) = false := by simp [hlt]
    rw [if_neg hlt]
    go_wp2
    go_ret
    exact ⟨rfl, rfl⟩

end Go.Proofs.YtgnmebgjfagjmaaGreat
