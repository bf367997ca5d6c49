/- package code: New, N, K, sum, shaped, Encode. No condition. -/
import Derived.Test.YtgnmebgjfagjmaaGreatGen
namespace Go.Proofs.YtgnmebgjfagjmaaGreat
open Go.RowKit
open M (F Row ge gr)

/-- a code behind a pointer; all that is its own lies from B on -/
structure CodeW (w : World) (B pc f n k : Nat) (v : Value) : Prop where
  at_ : w.heap[pc]? = some (.cells #[.pointer (some ⟨f, 0, none⟩), .int .i64 n, .int .i64 k, v] 65 (0, 0))
  rows : SS w v n k (gen n k) (fun b => B ≤ b)
  fld : Fld w f
  pB : B ≤ pc
  fB : B ≤ f
theorem CodeW.keep {S : Nat → Prop} {w w' : World} {B pc f n k : Nat} {v : Value} (h : CodeW w B pc f n k v) (kk : Keep S w w') (hn : ∀ b, B ≤ b → b < w.heap.size → ¬ S b) : CodeW w' B pc f n k v :=
  ⟨kk.some h.at_ (hn pc h.pB (lt_of_block h.at_)), h.rows.keep kk hn, h.fld.keep kk (hn f h.fB (lt_of_block h.fld)), h.pB, h.fB⟩
theorem CodeW.keep0 {w w' : World} {B pc f n k : Nat} {v : Value} (h : CodeW w B pc f n k v) (kk : Keep nob w w') : CodeW w' B pc f n k v := h.keep kk fun _ _ _ x => x
theorem CodeW.c0 {w : World} {B pc f n k : Nat} {v : Value} (h : CodeW w B pc f n k v) : w.cell? ⟨pc, 0, none⟩ = some (.pointer (some ⟨f, 0, none⟩)) := by rw [cell_of h.at_]; rfl
theorem CodeW.c1 {w : World} {B pc f n k : Nat} {v : Value} (h : CodeW w B pc f n k v) : w.cell? ⟨pc, 1, none⟩ = some (.int .i64 n) := by rw [cell_of h.at_]; rfl
theorem CodeW.c2 {w : World} {B pc f n k : Nat} {v : Value} (h : CodeW w B pc f n k v) : w.cell? ⟨pc, 2, none⟩ = some (.int .i64 k) := by rw [cell_of h.at_]; rfl
theorem CodeW.c3 {w : World} {B pc f n k : Nat} {v : Value} (h : CodeW w B pc f n k v) : w.cell? ⟨pc, 3, none⟩ = some v := by rw [cell_of h.at_]; rfl
theorem SS.form {w : World} {v : Value} {n m : Nat} {L : List Row} {T : Nat → Prop} (h : SS w v n m L T) : ∃ ao cap, v = .slice ao n cap := by
  obtain ⟨A, C, h⟩ := h
  obtain ⟨ao, cap, e, _⟩ := h.form
  exact ⟨ao, cap, e⟩

set_option maxRecDepth 100000 in
set_option maxHeartbeats 1000000 in
theorem cNew (n k : Nat) (w : World) (h1 : 1 ≤ k) (h2 : k ≤ n) (h3 : n ≤ 255) :
    Calls Tryz.prog 8 #[.int .i64 n, .int .i64 k] w fun e w' =>
      ∃ pc f v, e = .returned (.tuple #[.pointer (some ⟨pc, 0, none⟩), .int .i64 0]) ∧ Keep nob w w' ∧ CodeW w' w.heap.size pc f n k v := by
  have e1 : decide ((k : Int) < 1) = false := by simp; omega
  have e2 : decide ((n : Int) < (k : Int)) = false := by simp; omega
  have e3 : decide ((255 : Int) < (n : Int)) = false := by simp; omega
  go_enter Tryz.func8, Tryz.ntmps8
  go_wp2_with fail
  refine (gfStd _).mono ?_
  rintro e w1 ⟨rfl, rfl⟩
  have hF : Fld (w.alloc (.cells fcells 111)) w.heap.size := heap_alloc_at w _
  have HF := Lib.hid hF
  clear hF
  go_wp2_with fail
  refine (cGen w.heap.size n k _ HF.out h1 h2 h3).mono ?_
  rintro e w2 ⟨v, rfl, hk, hs⟩
  obtain ⟨ao, cap, rfl⟩ := hs.form
  have HK := Lib.hid hk
  have HS := Lib.hid hs
  clear hk hs
  go_wp2_with fail
  go_ret2
  have k1 : Keep nob w w2 := ((Keep.refl _ _).alloc _).trans HK.out
  refine ⟨w2.heap.size, w.heap.size, _, rfl, k1.alloc _, heap_alloc_at w2 _, ?_, ?_, k1.size, Nat.le_refl _⟩
  · refine (HS.out.mono fun b hb => ?_).keep0 ((Keep.refl _ _).alloc _)
    rw [size_alloc] at hb; omega
  · exact (HF.out.keep HK.out (fun x => x)).keep ((Keep.refl nob _).alloc _) (fun x => x)

set_option maxHeartbeats 400000 in
theorem cN (B pc f n k : Nat) (v : Value) (w : World) (h : CodeW w B pc f n k v) : Calls Tryz.prog 23 #[.pointer (some ⟨pc, 0, none⟩)] w fun e w' => e = .returned (.int .i64 n) ∧ w = w' := by
  have c := h.c1
  clear h
  go_enter Tryz.func23, Tryz.ntmps23
  go_wp2
  go_ret
  exact ⟨rfl, rfl⟩
set_option maxHeartbeats 400000 in
theorem cK (B pc f n k : Nat) (v : Value) (w : World) (h : CodeW w B pc f n k v) : Calls Tryz.prog 20 #[.pointer (some ⟨pc, 0, none⟩)] w fun e w' => e = .returned (.int .i64 k) ∧ w = w' := by
  have c := h.c2
  clear h
  go_enter Tryz.func20, Tryz.ntmps20
  go_wp2
  go_ret
  exact ⟨rfl, rfl⟩

set_option maxRecDepth 100000 in
set_option maxHeartbeats 1000000 in
theorem cSum (B pc f n k m : Nat) (v fv rv : Value) (cs : Row) (D : List Row) (T : Nat → Prop) (w : World) (h : CodeW w B pc f n k v) (hc : Bytes w fv k cs) (hr : SS w rv k m D T) (hk : 1 ≤ k) (hk2 : k ≤ 1024) (hm : m ≤ 140737488351232) :
    Calls Tryz.prog 38 #[.pointer (some ⟨pc, 0, none⟩), fv, rv] w fun e w' =>
      e = .returned (.slice (some ⟨w.heap.size, 0, none⟩) m m) ∧ Keep nob w w' ∧ RowAt w' w.heap.size (M.lin (M.zeros m) cs D) := by
  have hmk := run_make_row' (P := Tryz.prog) 42 5 (.int .u8 0) 1 Tryz.underlying42 info_u8 rfl .i64 .i64 m (by omega) (by omega)
  obtain ⟨ao1, cap1, rfl⟩ := hc.form
  obtain ⟨A, C, hr⟩ := hr
  obtain ⟨ao2, cap2, rfl, _⟩ := hr.form
  obtain ⟨b2, o2, rfl, _, hb2, hcell⟩ := hr.cells (k := 0) (by omega)
  have d0 := hcell 0 (by omega)
  rw [Nat.add_zero] at d0
  have i0 : (0 : Int) < (k : Int) := by omega
  have i0' : 0 < k := by omega
  have H := Lib.hid h
  have HC := Lib.hid hc
  have HR := Lib.hid hr
  have HCELL := Lib.hid hcell
  have HB2 := Lib.hid hb2
  have HL := Lib.hid hr.shape
  clear h hc hr hcell hb2
  go_enter Tryz.func38, Tryz.ntmps38
  go_wp2_with fail
  clear d0
  go_loopw [17] (fun i wr => ∃ j : Nat, j ≤ k ∧ i = .int .i64 j ∧ Keep nob w wr ∧ RowAt wr w.heap.size (linTo (M.zeros m) cs D j)) (fun i _ => k - (intOf i).toNat)
  case atStart => exact ⟨0, Nat.zero_le _, rfl, (Keep.refl _ _).alloc _, _, heap_alloc_at w _, fun j hj => made_zero m j (by rw [linTo, M.zeros_length] at hj; exact hj)⟩
  case round =>
    obtain ⟨j, hj, rfl, hK, hR⟩ := hrel
    have HK := Lib.hid hK
    have HRW := Lib.hid hR
    by_cases hlt : j < k
    · have d1 := hK.cellS (HCELL.out j hlt) (fun x => x)
      have hS := HR.out.keep0 hK
      have HBY := Lib.hid (hS.row j hlt)
      obtain ⟨b1, o1, rfl, hb1, hcc⟩ := (HC.out.keep0 hK).cells hlt
      have d2 := hcc j hlt
      have d3 := hK.cellS H.out.c0 (fun x => x)
      have HF := Lib.hid (H.out.fld.keep hK (fun x => x))
      have i1 : (j : Int) < (k : Int) := by omega
      have hlin := linTo_length (acc := M.zeros m) (cs := cs) (rs := D) (m := m) (M.zeros_length m) j (fun i hi => HL.out.2 i (by omega))
      have HLN := Lib.hid hlin
      have hne : f ≠ w.heap.size := by have := lt_of_block H.out.fld; omega
      have hpne : pc ≠ w.heap.size := by have := lt_of_block H.out.at_; omega
      have hbne : b1 ≠ w.heap.size := by
        obtain ⟨b', o', e', hlt', _⟩ := HC.out.cells hlt
        simp only [Option.some.injEq, Addr.mk.injEq] at e'
        omega
      clear hK hR hS hb1 hcc hlin
      go_wp2_with fail
      go_region_held3 (fun w' => w'.cell? ⟨pc, 0, none⟩ = some (.pointer (some ⟨f, 0, none⟩)) ∧ w'.cell? ⟨b1, o1 + j, none⟩ = some (.int .u8 (ge cs j).toNat))
        (first | go_keep | exact ⟨hk5.cellS (by exact d3) hpne, hk5.cellS (by exact d2) hbne⟩)
        (first | (go_at_call 57; refine (addTo (ls := gr D j) ?_ hne ?_ HLN.out ?_ hm _).mono ?_; exact HF.out; exact HRW.out; exact HBY.out.keep0 ((Keep.refl nob _).drew); rintro e w5 ⟨rfl, hk5, hr5⟩))
      have HK5 := Lib.hid hk5
      have HR5 := Lib.hid hr5
      clear hk5 hr5 d1 d2 d3
      go_wp2
      go_roundw
      case rel => exact ⟨j + 1, by omega, by go_num, HK.out.drew.step HK5.out (fun i hi e => absurd hi (by omega)), HR5.out⟩
      case measure => (simp [intOf]; omega)
    · obtain rfl : j = k := by omega
      have hfull := linTo_full cs D (M.zeros m) (by rw [HC.out.1, HL.out.1])
      rw [HC.out.1] at hfull
      rw [hfull] at hR
      have HR2 := Lib.hid hR
      clear hlt hK hR hj hfull
      go_wp2
      go_ret
      exact ⟨rfl, HK.out, HR2.out⟩

end Go.Proofs.YtgnmebgjfagjmaaGreat
