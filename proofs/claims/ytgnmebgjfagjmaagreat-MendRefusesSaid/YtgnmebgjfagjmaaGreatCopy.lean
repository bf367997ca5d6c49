/- copy into a row of bytes, from wherever. No condition. -/
import Derived.Test.YtgnmebgjfagjmaaGreatElim
import Derived.Laws.CopyOwn
namespace Go.Proofs.YtgnmebgjfagjmaaGreat
open Go.RowKit
open M (F Row ge gr)

/-- a row over which another one is laid, from off on -/
def lay (l : Row) (off : Nat) (ls : Row) : Row := (List.range l.length).map fun t => if off ≤ t ∧ t < off + ls.length then ge ls (t - off) else ge l t
theorem lay_length (l : Row) (off : Nat) (ls : Row) : (lay l off ls).length = l.length := by simp [lay]
theorem ge_lay (l : Row) (off : Nat) (ls : Row) (t : Nat) (h : t < l.length) : ge (lay l off ls) t = if off ≤ t ∧ t < off + ls.length then ge ls (t - off) else ge l t := by simp [lay, ge, List.getD_eq_getElem?_getD, h]
theorem keep_setRow {S : Nat → Prop} {a w : World} (h : Keep S a w) (g : Nat) (c : Array Value) (hg : S g) : Keep S a (w.setRow g c) :=
  ⟨h.os, h.tape, h.output, by show _ ≤ (w.heap.modify _ _).size; rw [Array.size_modify]; exact h.size, fun k hk hn => (setRow_other w g k c (fun e => hn (e ▸ hg))).trans (h.block k hk hn)⟩
theorem splice_get (cur : Array Value) (off : Nat) (cs : List Value) (h : off + cs.length ≤ cur.size) (j : Nat) : (splice cur.toList off cs).toArray[j]? = if off ≤ j ∧ j < off + cs.length then cs[j - off]? else cur[j]? := by
  simp only [splice, List.getElem?_toArray]
  by_cases h1 : j < off
  · rw [if_neg (by omega), List.getElem?_append_left (by simp; omega), List.getElem?_take, if_pos h1]; simp
  · rw [List.getElem?_append_right (by simp; omega)]
    simp only [List.length_take, Array.length_toList, Nat.min_eq_left (show off ≤ cur.size by omega)]
    by_cases h2 : j < off + cs.length
    · rw [if_pos (by omega), List.getElem?_append_left (by omega)]
    · rw [if_neg (by omega), List.getElem?_append_right (by omega), List.getElem?_drop]
      simp only [Array.getElem?_toList]
      congr 1; omega
theorem RowAt.laid {w : World} {g off : Nat} {l ls : Row} {c : Array Value} (hc : w.heap[g]? = some (.cells c 5 (0, 0))) (hh : ∀ j, j < l.length → c[j]? = some (bc (ge l j))) (hfit : off + ls.length ≤ l.length) :
    RowAt (w.setRow g (splice c.toList off (bcs ls)).toArray) g (lay l off ls) := by
  refine ⟨_, setRow_heap w g _ _ _ _ hc, fun j hj => ?_⟩
  rw [lay_length] at hj
  have hs : l.length ≤ c.size := by
    by_cases h0 : l.length = 0
    · omega
    · have := (Array.getElem?_eq_some_iff.1 (hh (l.length - 1) (by omega))).1; omega
  rw [splice_get _ _ _ (by rw [bcs_length]; omega), bcs_length, ge_lay _ _ _ _ hj]
  by_cases h : off ≤ j ∧ j < off + ls.length
  · rw [if_pos h, if_pos h, bcs_get _ _ (by omega)]
  · rw [if_neg h, if_neg h, hh j hj]
theorem u8_size : (Tryz.prog.info? 5).map (·.size) = some 1 := by kernel_rfl

theorem run_copy_bytes {w : World} {g off dLen dCap n : Nat} {l ls : Row} {sv : Value} (ty : TypeId) (hr : RowAt w g l) (hs : Bytes w sv n ls) (hn : n ≤ dLen) (hfit : off + dLen ≤ l.length) :
    ∃ w', (Builtin.copy_ #[42, 42] ty #[.slice (some ⟨g, off, none⟩) dLen dCap, sv]).run Tryz.prog w = .ok (goInt n) w' ∧ Keep (fun b => b = g) w w' ∧ RowAt w' g (lay l off ls) := by
  obtain ⟨hl, ao, cap, rfl, hz, hh⟩ := hs
  obtain ⟨c, hc, hcc⟩ := hr
  by_cases h0 : n = 0
  · have hls : ls = [] := List.eq_nil_of_length_eq_zero (by omega)
    refine ⟨w, ?_, Keep.refl _ _, c, hc, fun j hj => ?_⟩
    · rw [h0]; exact run_copy_none w _ _ _ 5 _ _ _ _ _ _ Tryz.underlying42 u8_size (by simp)
    · rw [lay_length] at hj
      rw [ge_lay _ _ _ _ hj, hls, if_neg (by simp only [List.length_nil]; omega)]; exact hcc j hj
  · obtain ⟨b, o, rfl, hb, hbc⟩ := hh (by omega)
    have hsz : l.length ≤ c.size := by
      have := (Array.getElem?_eq_some_iff.1 (hcc (l.length - 1) (by omega))).1; omega
    refine ⟨_, ?_, keep_setRow (Keep.refl (fun b => b = g) w) g _ rfl, RowAt.laid hc hcc (by omega)⟩
    have := run_copy_row (P := Tryz.prog) w 42 42 ty 5 g off dLen dCap ⟨b, o, none⟩ n cap c 5 (bcs ls) Tryz.underlying42 u8_size hc (by rw [bcs_length, hl]; exact (Nat.min_eq_left hn).symm)
      (fun j v hv => by
        rw [addr_add]
        have hj : j < n := by have := (List.getElem?_eq_some_iff.1 hv).1; rw [bcs_length] at this; omega
        rw [bcs_get _ _ (by omega)] at hv
        rw [← hv]; exact hbc j hj) (by rw [bcs_length]; omega) (bcs_one _)
    rw [bcs_length, hl] at this
    have e : splice c.toList off (bcs ls) = c.toList.take off ++ bcs ls ++ c.toList.drop (off + n) := by simp only [splice, bcs_length, hl, List.append_assoc]
    rw [e]
    exact this

/-- 'copy(row[off:], src)' -/
theorem wpList_copy_bytes {w : World} {ops : Array Oper} {rest : List Oper} {o : Oper} {a : Act} {Q : Exit → Act → World → Prop} (hgd : o.guard = none) (d s : Operand)
    (ho : o.op = .call { callee := .builtin .copy, args := #[d, s], argTypes := #[42, 42] }) (g off dLen dCap n : Nat) (sv : Value) (hd : a.eval d = .slice (some ⟨g, off, none⟩) dLen dCap) (hs : a.eval s = sv)
    {l ls : Row} (hr : RowAt w g l) (hb : Bytes w sv n ls) (hn : n ≤ dLen) (hfit : off + dLen ≤ l.length)
    (h : ∀ w', Keep (fun b => b = g) w w' → RowAt w' g (lay l off ls) → wpList Tryz.prog ops Q rest (a.put o.dst (goInt n)) w') : wpList Tryz.prog ops Q (o :: rest) a w := by
  refine wpList_plain hgd fun _ hK => ?_
  obtain ⟨w', hrun, h1, h2⟩ := run_copy_bytes (dCap := dCap) o.type hr hb hn hfit
  unfold Oper.wp
  simp [execOp, ho, resolve, invoke, builtin, hd, hs, hrun, Result.andThen]
  exact hK _ _ (h w' h1 h2)
/-- the same as a step of a region that draws -/
theorem step_copy_bytes {w : World} {ops : Array Oper} {o : Oper} {a : Act} {K : Act → World → Prop} {Q : Exit → Act → World → Prop} {E : Prop} (hgd : o.guard = none) (d s : Operand)
    (ho : o.op = .call { callee := .builtin .copy, args := #[d, s], argTypes := #[42, 42] }) (g off dLen dCap n : Nat) (sv : Value) (hd : a.eval d = .slice (some ⟨g, off, none⟩) dLen dCap) (hs : a.eval s = sv)
    {l ls : Row} (hr : RowAt w g l) (hb : Bytes w sv n ls) (hn : n ≤ dLen) (hfit : off + dLen ≤ l.length)
    (h : ∀ w', Keep (fun b => b = g) w w' → RowAt w' g (lay l off ls) → K (a.put o.dst (goInt n)) w') :
    if Region.wanted o (yielded ops a.tmps) = true then Oper.wp Tryz.prog o a w K Q else E := by
  have hw : Region.wanted o (yielded ops a.tmps) = true := by simp [Region.wanted, hgd]
  rw [if_pos hw]
  obtain ⟨w', hrun, h1, h2⟩ := run_copy_bytes (dCap := dCap) o.type hr hb hn hfit
  unfold Oper.wp
  simp [execOp, ho, resolve, invoke, builtin, hd, hs, hrun, Result.andThen]
  exact h w' h1 h2

end Go.Proofs.YtgnmebgjfagjmaaGreat
