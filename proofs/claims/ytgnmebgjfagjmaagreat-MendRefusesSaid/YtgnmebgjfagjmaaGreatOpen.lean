/- A case of the Mend laws, as an argument: its fields in their cells. No condition. -/
import Derived.Test.YtgnmebgjfagjmaaGreatMem
import Derived.Test.YtgnmebgjfagjmaaGreatChecked
import Derived.ProofKit
import Derived.OpenShut
import Derived.SizedLaws
import Derived.Lib.SmallJoins
namespace Go.Proofs.YtgnmebgjfagjmaaGreat
open Go.RowKit Go.ChangeShapes Go.WideShapes Go.ChangeAt
open M (F Row ge gr)

section
variable {H : Type} {enc : TypeId × Value → H} {W : World} {n : Nat}

theorem u8_cell {z : Int} (h : (Lit.int .u8 z).wf = true) : Value.int .u8 z = bc (UInt8.ofNat z.toNat) := by
  have hz : 0 ≤ z ∧ z ≤ 255 := by simpa [Lit.wf, IntKind.min, IntKind.max, IntKind.signed, IntKind.bits] using h
  have : ((UInt8.ofNat z.toNat).toNat : Int) = z := by
    rw [UInt8.toNat_ofNat', Nat.mod_eq_of_lt (by omega)]
    omega
  show _ = Value.int .u8 _
  rw [this]
/-- a slice of bytes -/
theorem open_u8s {c : Value} {y : DataW H × List MemPlace} (hf : DataW.trod enc Tryz.prog W 0 (fun _ => true) true n 42 [c] = some y)
    (hsz : ∀ m ∈ y.1.weights Tryz.prog 42, m ≤ reachBytes) : ∃ (ao : Option Addr) (nb cap : Nat) (lb : Row), c = .slice ao nb cap ∧ Bytes W (.slice ao nb cap) nb lb ∧ nb ≤ cap ∧ nb ≤ 140737488351232 := by
  rcases open_ints Tryz.underlying42 Tryz.underlying5 (by kernel_rfl) hf with ⟨hcs, hx⟩ | ⟨a, len, cap, zs, hcs, _, hl, hm, hz, hx, hcell, hwz⟩
  · simp only [List.cons.injEq, and_true] at hcs
    exact ⟨none, 0, 0, [], hcs, ⟨rfl, none, 0, rfl, fun _ => rfl, fun h => by omega⟩, Nat.le_refl _, by omega⟩
  · simp only [List.cons.injEq, and_true] at hcs
    simp only [if_true] at hz
    subst hx
    have hw := hsz (((lits IntKind.u8 (zs.take len) : List (DataW H)).length + (lits IntKind.u8 (zs.drop len) : List (DataW H)).length) * Tryz.prog.bytesOf 5) (by simp [DataW.weights, Tryz.underlying42])
    have hb1 : Tryz.prog.bytesOf 5 = 1 := by kernel_rfl
    simp only [lits, List.length_map, List.length_take, List.length_drop, hb1, Nat.mul_one, reachBytes] at hw
    refine ⟨some a, len, cap, (zs.take len).map fun z => UInt8.ofNat z.toNat, hcs, ⟨by simp; omega, some a, cap, rfl, fun e => (by cases e), fun h0 => ?_⟩, hl, by omega⟩
    obtain ⟨b, off, rfl, hc⟩ := ints_at hcell (by omega)
    refine ⟨b, off, rfl, World.block_lt_of_cell? W ⟨b, off + 0, none⟩ (hc 0 (by omega)), fun i hi => ?_⟩
    rw [hc i (by omega)]
    have hi' : i < zs.length := by omega
    have e1 : zs.getD i 0 = zs[i] := by simp [List.getD_eq_getElem?_getD, hi']
    rw [e1, u8_cell (hwz _ (List.getElem_mem hi'))]
    simp [ge, List.getD_eq_getElem?_getD, hi, hi']
/-- a slice of numbers -/
theorem open_i64s {c : Value} {y : DataW H × List MemPlace} (hf : DataW.trod enc Tryz.prog W 0 (fun _ => true) true n 33 [c] = some y)
    (hsz : ∀ m ∈ y.1.weights Tryz.prog 33, m ≤ reachBytes) : ∃ (ao : Option Addr) (no cap : Nat) (x : Nat → Int), c = .slice ao no cap ∧ (0 < no → ∃ b o, ao = some ⟨b, o, none⟩ ∧ b < W.heap.size ∧ ∀ i, i < no → W.cell? ⟨b, o + i, none⟩ = some (.int .i64 (x i))) ∧ no ≤ 140737488351232 := by
  rcases open_ints Tryz.underlying33 Tryz.underlying3 (by kernel_rfl) hf with ⟨hcs, hx⟩ | ⟨a, len, cap, zs, hcs, _, hl, hm, hz, hx, hcell, hwz⟩
  · simp only [List.cons.injEq, and_true] at hcs
    exact ⟨none, 0, 0, fun _ => 0, hcs, fun h => by omega, by omega⟩
  · simp only [List.cons.injEq, and_true] at hcs
    simp only [if_true] at hz
    subst hx
    have hw := hsz (((lits IntKind.i64 (zs.take len) : List (DataW H)).length + (lits IntKind.i64 (zs.drop len) : List (DataW H)).length) * Tryz.prog.bytesOf 3) (by simp [DataW.weights, Tryz.underlying33])
    have hb1 : Tryz.prog.bytesOf 3 = 8 := by kernel_rfl
    simp only [lits, List.length_map, List.length_take, List.length_drop, hb1, reachBytes] at hw
    refine ⟨some a, len, cap, fun i => zs.getD i 0, hcs, fun h0 => ?_, by omega⟩
    obtain ⟨b, off, rfl, hc⟩ := ints_at hcell (by omega)
    exact ⟨b, off, rfl, World.block_lt_of_cell? W ⟨b, off + 0, none⟩ (hc 0 (by omega)), fun i hi => hc i (by omega)⟩
theorem array7 {c : Array Value} (h : c.size = 7) : ∃ a0 a1 a2 a3 a4 a5 a6, c = #[a0, a1, a2, a3, a4, a5, a6] := by
  obtain ⟨l⟩ := c
  match l, h with
  | [a0, a1, a2, a3, a4, a5, a6], _ => exact ⟨a0, a1, a2, a3, a4, a5, a6, rfl⟩
theorem list7 {α : Type} {l : List α} (h : l.length = 7) : ∃ a0 a1 a2 a3 a4 a5 a6, l = [a0, a1, a2, a3, a4, a5, a6] := by
  match l, h with
  | [a0, a1, a2, a3, a4, a5, a6], _ => exact ⟨a0, a1, a2, a3, a4, a5, a6, rfl⟩
set_option maxRecDepth 100000 in
/-- a case -/
theorem open_case {base : Nat} {v : Value} {d : DataW H} {p : List MemPlace} (hv : Value.okWide Tryz.prog W .any base 47 v) (h : DataW.Trod enc Tryz.prog W 0 (fun _ => true) true 47 v d p)
    (hsz : ∀ m ∈ d.weights Tryz.prog 47, m ≤ reachBytes) :
    ∃ (N K T : Int) (nb no capb capo : Nat) (aob aoo : Option Addr) (sv hv : Value) (lb : Row) (x : Nat → Int), v = .agg #[.int .i64 N, .int .i64 K, .slice aob nb capb, .slice aoo no capo, .int .i64 T, sv, hv] ∧
      Bytes W (.slice aob nb capb) nb lb ∧ nb ≤ capb ∧ nb ≤ 140737488351232 ∧ (0 < no → ∃ b o, aoo = some ⟨b, o, none⟩ ∧ b < W.heap.size ∧ ∀ i, i < no → W.cell? ⟨b, o + i, none⟩ = some (.int .i64 (x i))) ∧ no ≤ 140737488351232 := by
  obtain ⟨cs, rfl, hs⟩ := okWide_struct Tryz.underlying47 hv
  obtain ⟨c0, c1, c2, c3, c4, c5, c6, rfl⟩ := array7 (hs.trans (by kernel_rfl))
  obtain ⟨fuel, hf⟩ := h
  obtain ⟨xs, n, _, hx, _, hl, hfs⟩ := DataW.trod_struct Tryz.underlying47 hf
  obtain ⟨y0, y1, y2, y3, y4, y5, y6, rfl⟩ := list7 hl
  have q1 : Tryz.prog.cellsOf 3 = 1 := by kernel_rfl
  have q2 : Tryz.prog.cellsOf 42 = 1 := by kernel_rfl
  have q3 : Tryz.prog.cellsOf 33 = 1 := by kernel_rfl
  have h0 := hfs 0 _ rfl
  have h1 := hfs 1 _ rfl
  have h2 := hfs 2 _ rfl
  have h3 := hfs 3 _ rfl
  have h4 := hfs 4 _ rfl
  simp [Value.cells, q1, q2, q3] at h0 h1 h2 h3 h4
  simp only [Prod.mk.injEq] at hx
  obtain ⟨rfl, _⟩ := hx
  simp only [DataW.weights, Tryz.underlying47] at hsz
  obtain ⟨N, e0, _, _⟩ := DataW.trod_int Tryz.underlying3 h0
  obtain ⟨K, e1, _, _⟩ := DataW.trod_int Tryz.underlying3 h1
  obtain ⟨T, e4, _, _⟩ := DataW.trod_int Tryz.underlying3 h4
  obtain ⟨ao, nb, capb, lb, rfl, hb, hcb, hnb⟩ := open_u8s h2 (fun m hm => hsz m (DataW.weights_mem_each (j := 2) rfl rfl m hm))
  obtain ⟨aoo, no, capo, x, rfl, ho, hno⟩ := open_i64s h3 (fun m hm => hsz m (DataW.weights_mem_each (j := 3) rfl rfl m hm))
  simp only [List.cons.injEq, and_true] at e0 e1 e4
  subst e0 e1 e4
  exact ⟨N, K, T, nb, no, capb, capo, ao, aoo, c5, c6, lb, x, rfl, hb, hcb, hnb, ho, hno⟩
end

end Go.Proofs.YtgnmebgjfagjmaaGreat
