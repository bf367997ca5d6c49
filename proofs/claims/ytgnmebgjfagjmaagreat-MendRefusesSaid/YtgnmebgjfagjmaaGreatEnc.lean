/- package code: shaped, Encode. No condition. -/
import Derived.Test.YtgnmebgjfagjmaaGreatCode
namespace Go.Proofs.YtgnmebgjfagjmaaGreat
open Go.RowKit
open M (F Row ge gr)

set_option maxHeartbeats 400000 in
theorem cShaped1 (bd b o k m cap cap0 c2 : Nat) (ao0 ao : Option Addr) (w : World) (h0 : w.cell? ⟨bd, 0, none⟩ = some (.slice (some ⟨b, o, none⟩) k cap)) (h1 : w.cell? ⟨b, o, none⟩ = some (.slice ao0 m cap0)) (hk : 0 < k) :
    Calls Tryz.prog 56 #[.slice ao m c2, .pointer (some ⟨bd, 0, none⟩)] w fun e w' => e = .returned (.bool false) ∧ w = w' := by
  have i0 : (0 : Int) < (k : Int) := by omega
  have e0 : ((m : Int) != (m : Int)) = false := by simp
  go_enter Tryz.func56, Tryz.ntmps56
  go_wp2
  go_ret
  exact ⟨rfl, rfl⟩

set_option maxRecDepth 100000 in
set_option maxHeartbeats 1000000 in
theorem xIndex1 (bd b o k m cap : Nat) (A : Nat → Option Addr) (C : Nat → Nat) (w : World) (h0 : w.cell? ⟨bd, 0, none⟩ = some (.slice (some ⟨b, o, none⟩) k cap)) (h1 : ∀ i, i < k → w.cell? ⟨b, o + i, none⟩ = some (.slice (A i) m (C i))) (hk : 0 < k) (hk2 : k ≤ 140737488351232) :
    Calls Tryz.prog 104 #[.slice (some ⟨b, o, none⟩) k cap, .func (.func 56) #[] #[.pointer (some ⟨bd, 0, none⟩)]] w fun e w' => e = .returned (.int .i64 (-1)) ∧ w = w' := by
  have h00 := h1 0 hk
  rw [Nat.add_zero] at h00
  have H0 := Lib.hid h0
  have H00 := Lib.hid h00
  have H1 := Lib.hid h1
  clear h0 h00 h1
  go_enter Tryz.func104, Tryz.ntmps104
  go_wp2_with fail
  go_loop [8] (fun i => ∃ j : Nat, j ≤ k ∧ i = .int .i64 j) (fun i => k - (intOf i).toNat)
  case atStart => exact ⟨0, Nat.zero_le _, rfl⟩
  case round =>
    obtain ⟨j, hj, rfl⟩ := hrel
    by_cases hlt : j < k
    · have d1 := H1.out j hlt
      have i1 : (j : Int) < (k : Int) := by omega
      go_wp2_with fail
      refine (cShaped1 bd b o k m cap (C 0) (C j) (A 0) (A j) _ H0.out H00.out hk).mono ?_
      rintro e w' ⟨rfl, rfl⟩
      go_wp2
      go_round
      case rel => exact ⟨j + 1, by omega, by go_num⟩
      case measure => (simp [intOf]; omega)
    · obtain rfl : j = k := by omega
      clear hlt hj
      go_wp2
      go_ret
      exact ⟨rfl, rfl⟩

set_option maxHeartbeats 400000 in
theorem xContains1 (bd b o k m cap : Nat) (A : Nat → Option Addr) (C : Nat → Nat) (w : World) (h0 : w.cell? ⟨bd, 0, none⟩ = some (.slice (some ⟨b, o, none⟩) k cap)) (h1 : ∀ i, i < k → w.cell? ⟨b, o + i, none⟩ = some (.slice (A i) m (C i))) (hk : 0 < k) (hk2 : k ≤ 140737488351232) :
    Calls Tryz.prog 55 #[.slice (some ⟨b, o, none⟩) k cap, .func (.func 56) #[] #[.pointer (some ⟨bd, 0, none⟩)]] w fun e w' => e = .returned (.bool false) ∧ w = w' := by
  have H0 := Lib.hid h0
  have H1 := Lib.hid h1
  clear h0 h1
  go_enter Tryz.func55, Tryz.ntmps55
  go_wp2_with fail
  refine (xIndex1 bd b o k m cap A C _ H0.out H1.out hk hk2).mono ?_
  rintro e w' ⟨rfl, rfl⟩
  go_wp2
  go_ret
  exact ⟨rfl, rfl⟩

set_option maxRecDepth 100000 in
set_option maxHeartbeats 1000000 in
theorem cShaped (B pc f n k m : Nat) (v rv : Value) (D : List Row) (T : Nat → Prop) (w : World) (h : CodeW w B pc f n k v) (hr : SS w rv k m D T) (hk : 0 < k) (hk2 : k ≤ 140737488351232) :
    Calls Tryz.prog 37 #[.pointer (some ⟨pc, 0, none⟩), rv] w fun e w' => e = .returned (.bool true) ∧ Keep nob w w' := by
  obtain ⟨A, C, hr⟩ := hr
  obtain ⟨ao2, cap2, rfl, _⟩ := hr.form
  obtain ⟨b2, o2, rfl, _, hb2, hcell⟩ := hr.cells hk
  have d0 : ∀ o, (w.alloc o).cell? ⟨pc, 2, none⟩ = some (.int .i64 k) := fun o => ((Keep.refl nob w).alloc o).cellS h.c2 (fun x => x)
  have HX : Hid (∀ d, Calls Tryz.prog 55 #[.slice (some ⟨b2, o2, none⟩) k cap2, .func (.func 56) #[] #[.pointer (some ⟨w.heap.size, 0, none⟩)]] ((w.alloc (.cells #[.slice (some ⟨b2, o2, none⟩) k cap2] 32)).drewN d) fun e w' => e = .returned (.bool false) ∧ w' = (w.alloc (.cells #[.slice (some ⟨b2, o2, none⟩) k cap2] 32)).drewN d) := fun d =>
    (xContains1 w.heap.size b2 o2 k m cap2 A C _ (by show (w.alloc _).cell? _ = _; rw [cell_of (heap_alloc_at w _)]; rfl) (fun i hi => (((Keep.refl nob w).alloc _).drewN d).cellS (hcell i hi) (fun x => x)) hk hk2).mono fun _ _ ⟨h1, h2⟩ => ⟨h1, h2.symm⟩
  have d1 : (w.alloc (.cells #[.slice (some ⟨b2, o2, none⟩) k cap2] 32)).cell? ⟨w.heap.size, 0, none⟩ = some (.slice (some ⟨b2, o2, none⟩) k cap2) := by rw [cell_of (heap_alloc_at w _)]; rfl
  have e0 : ((k : Int) == (k : Int)) = true := by simp
  clear h hr hcell hb2
  go_enter Tryz.func37, Tryz.ntmps37
  go_wp2_with fail
  go_quiet ((go_at_call 55; exact Calls.quiet_of_same (HX.out _)))
  go_wp2
  go_ret
  exact ⟨rfl, ((Keep.refl _ _).alloc _).drewN _⟩

set_option maxRecDepth 100000 in
set_option maxHeartbeats 2000000 in
theorem cEncode (B pc f n k m : Nat) (v rv : Value) (D : List Row) (T : Nat → Prop) (w : World) (h : CodeW w B pc f n k v) (hr : SS w rv k m D T) (hk : 1 ≤ k) (hkn : k ≤ n) (hn : n ≤ 255) (hm : m ≤ 140737488351232) :
    Calls Tryz.prog 22 #[.pointer (some ⟨pc, 0, none⟩), rv] w fun e w' =>
      ∃ u, e = .returned (.tuple #[u, .int .i64 0]) ∧ Keep nob w w' ∧ SS w' u n m (prod (gen n k) D m) (fun b => w.heap.size ≤ b) := by
  have H := Lib.hid h
  have HR := Lib.hid hr
  obtain ⟨aor, capr, rfl⟩ := hr.form
  clear h hr
  go_enter Tryz.func22, Tryz.ntmps22
  go_wp2_with fail
  refine (cShaped B pc f n k m v _ D T _ H.out HR.out (by omega) (by omega)).mono ?_
  rintro e w1 ⟨rfl, hk1⟩
  have HK1 := Lib.hid hk1
  have H1 := Lib.hid (H.out.keep0 hk1)
  obtain ⟨A, C, hs⟩ := H1.out.rows
  obtain ⟨ao2, cap2, rfl, _⟩ := hs.form
  obtain ⟨b2, o2, rfl, _, hb2, hcell⟩ := hs.cells (k := 0) (by omega)
  have d0 := H1.out.c3
  have HCELL := Lib.hid hcell
  have HS := Lib.hid hs
  clear hk1 hs hcell hb2
  go_wp2_with fail
  clear d0
  go_loopw [6, 20] (fun v i wr => ∃ j : Nat, j ≤ n ∧ i = .int .i64 j ∧ Keep nob w1 wr ∧ Bld wr w1.heap.size v j m (fun i => M.lin (M.zeros m) (gr (gen n k) i) D)) (fun _ i _ => n - (intOf i).toNat)
  case atStart => exact ⟨0, Nat.zero_le _, rfl, Keep.refl _ _, Bld.nil _ _ _ _⟩
  case round =>
    obtain ⟨j, hj, rfl, hK, hB⟩ := hrel
    obtain ⟨Hs, ho, hrr⟩ := hB.row
    obtain ⟨ao4, cap4, rfl⟩ := owns_form ho
    have HK := Lib.hid hK
    have HB := Lib.hid hB
    have HOW := Lib.hid ho
    have HRR := Lib.hid hrr
    have hlen := ho.1
    have HLEN : Hid (Hs.length = j) := by show Hs.length = j; omega
    by_cases hlt : j < n
    · have d1 := hK.cellS (HCELL.out j hlt) (fun x => x)
      have i1 : (j : Int) < (n : Int) := by omega
      clear hB ho hrr hlen
      go_wp2_with fail
      clear d1
      refine (cSum B pc f n k m _ _ _ (gr (gen n k) j) D T _ (H1.out.keep0 HK.out) ((HS.out.keep0 HK.out).row j hlt) ((HR.out.keep0 HK1.out).keep0 HK.out) hk (by omega) hm).mono ?_
      rintro e w2 ⟨rfl, hk2, hr2⟩
      have K2 := Lib.hid hk2
      have HL2 : Hid ((M.lin (M.zeros m) (gr (gen n k) j) D).length = m) := M.lin_length _ _ _ _ (M.zeros_length m) (shape_mem (by obtain ⟨_, _, h⟩ := HR.out; exact h.shape))
      have HBY := Lib.hid (hr2.bytes HL2.out m)
      have HRL := Lib.hid hr2.lt
      clear hk2 hr2 hK
      go_wp2_with (at_builtin; (with_reducible refine wpList_append_src (o := ⟨some 30, _, _, _, _, _⟩) ?_ (.tmp 24) (.tmp 29) 32 ?_ w1.heap.size 42 (.slice none 0 0) 1 24 Tryz.underlying32 info_bs ?_ ?_ (.slice ao4 j cap4) j Hs ?_ (owns_keep HOW.out (K2.out.alloc _) (fun _ _ x => x)) 1 [.slice (some ⟨wr.heap.size, 0, none⟩) m m] (.slice (some ⟨w2.heap.size, 0, none⟩) 1 1) ?_ (src_one w2 (.slice (some ⟨wr.heap.size, 0, none⟩) m m) 42) ?_ ?_ ?_ ?_ ?_ ?_); (rfl); (rfl); (rfl); (decide); (rfl); (rfl); (rfl); (intro u hu; simp at hu; subst hu; rfl); (simp only [maxLen]; omega); (omega); (have := HK.out.size; have := K2.out.size; rw [size_alloc]; omega); intro v2 w3 hown2 hgrow2 hat2 hnil2; have HPUSH := Lib.hid (Bld.push (L := fun i => M.lin (M.zeros m) (gr (gen n k) i) D) HK.out.size K2.out HBY.out (fun b hb => by simp only [Value.ownBlock, Option.some.injEq] at hb; have := HRL.out; omega) HRR.out (own_lt HOW.out) HLEN.out hgrow2 hown2 hat2); have K3 := Lib.hid (((HK.out.trans K2.out).alloc _).grown hgrow2 fun b hb hlt => absurd hlt (by have := owns_block HOW.out b hb; omega)); clear hown2 hgrow2 hat2 hnil2)
      go_roundw
      case rel => exact ⟨j + 1, by omega, by go_num, K3.out, HPUSH.out⟩
      case measure => (simp [intOf]; omega)
    · obtain rfl : j = n := by omega
      clear hlt hB hK ho hrr hlen
      go_wp2
      go_ret2
      have hD : M.Shape k m D := by obtain ⟨_, _, h⟩ := HR.out; exact h.shape
      have hb : Bld wr w1.heap.size (.slice ao4 j cap4) j m (gr (prod (gen j k) D m)) := by
        refine HB.out.congr fun i hi => ?_
        rw [gr_prod _ _ _ _ (by rw [(gen_shape j k).1]; exact hi)]
      exact ⟨_, rfl, HK1.out.trans HK.out, (hb.ss (prod_shape (gen_shape j k).1 hD)).mono fun b hb => Nat.le_trans HK1.out.size hb⟩

end Go.Proofs.YtgnmebgjfagjmaaGreat
