/- the law MendRefuses: each refusal, wherever it stands. No condition. -/
import Derived.Test.YtgnmebgjfagjmaaGreatMade
namespace Go.Proofs.YtgnmebgjfagjmaaGreat
open Go.RowKit
open M (F Row ge gr)

theorem pv_of_owns {w : World} {B m : Nat} {v : Value} {xs : List Value} {I : Nat → Int} {A : Nat → Option Addr} {L C : Nat → Nat} (h : w.ownsRow B 44 2 v m xs)
    (hx : ∀ i, i < m → xs[i * 2]? = some (.int .i64 (I i)) ∧ xs[i * 2 + 1]? = some (.slice (A i) (L i) (C i))) : PV w v m I A L C := by
  rcases h.2 with ⟨rfl, h0⟩ | ⟨g, cap, cur, rfl, _, hg, _⟩
  · exact ⟨none, 0, by rw [h0], fun h1 => by omega⟩
  · refine ⟨_, cap, rfl, fun _ => ⟨g, 0, rfl, lt_of_block hg, fun i hi => ?_⟩⟩
    rw [Nat.zero_add, h.cellAt _ (by omega), h.cellAt _ (by omega)]
    exact hx i hi
/-- the cells of the first m parts -/
theorem PG.owns {w : World} {B g cap n s m : Nat} {σ : Nat → Nat} {A : Nat → Option Addr} {C : Nat → Nat} (h : PG w B g cap n s σ A C) (hm : m ≤ n) :
    ∃ xs, w.ownsRow B 44 2 (.slice (some ⟨g, 0, none⟩) m cap) m xs ∧ ∀ i, i < m → xs[i * 2]? = some (.int .i64 (σ i : Int)) ∧ xs[i * 2 + 1]? = some (.slice (A (σ i)) s (C (σ i))) := by
  obtain ⟨cur, hc, hs, hh⟩ := h.at_
  have hnc := h.nc
  refine ⟨cur.toList.take (m * 2), ⟨by rw [List.length_take, Array.length_toList]; omega, .inr ⟨g, cap, cur, rfl, h.gB, hc, by omega, h.cM, hs, rfl⟩⟩, fun i hi => ?_⟩
  rw [List.getElem?_take, List.getElem?_take, if_pos (by omega), if_pos (by omega), Array.getElem?_toList, Array.getElem?_toList]
  exact hh i (by omega)
/-- one index is another one -/
theorem PG.index {w : World} {B g cap n s m : Nat} {σ : Nat → Nat} {A : Nat → Option Addr} {C : Nat → Nat} (h : PG w B g cap n s σ A C) (hm : m ≤ n) {y : Nat} (_hy : y < m) (u : Int) :
    PV (w.setCell ⟨g, y * 2, none⟩ (.int .i64 u)) (.slice (some ⟨g, 0, none⟩) m cap) m (fun t => if t = y then u else (σ t : Int)) (fun t => A (σ t)) (fun _ => s) (fun t => C (σ t)) := by
  obtain ⟨cur, hc, hs, hh⟩ := h.at_
  have hnc := h.nc
  refine ⟨_, cap, rfl, fun _ => ⟨g, 0, rfl, by rw [size_setCell]; exact lt_of_block hc, fun i hi => ?_⟩⟩
  rw [Nat.zero_add, cell_of (heap_setCell_same hc), cell_of (heap_setCell_same hc), set_other (i := y * 2) (j := i * 2 + 1) (by omega)]
  refine ⟨?_, (hh i (by omega)).2⟩
  by_cases e : i = y
  · subst e
    simp only [if_true]
    exact set_same (by omega)
  · simp only [e, if_false]
    rw [set_other (by omega)]
    exact (hh i (by omega)).1
/-- one part's data are other ones -/
theorem PG.data {w : World} {B g cap n s m : Nat} {σ : Nat → Nat} {A : Nat → Option Addr} {C : Nat → Nat} (h : PG w B g cap n s σ A C) (hm : m ≤ n) {y : Nat} (_hy : y < m) (a : Option Addr) (l c : Nat) :
    PV (w.setCell ⟨g, y * 2 + 1, none⟩ (.slice a l c)) (.slice (some ⟨g, 0, none⟩) m cap) m (fun t => (σ t : Int)) (fun t => if t = y then a else A (σ t)) (fun t => if t = y then l else s) (fun t => if t = y then c else C (σ t)) := by
  obtain ⟨cur, hc, hs, hh⟩ := h.at_
  have hnc := h.nc
  refine ⟨_, cap, rfl, fun _ => ⟨g, 0, rfl, by rw [size_setCell]; exact lt_of_block hc, fun i hi => ?_⟩⟩
  rw [Nat.zero_add, cell_of (heap_setCell_same hc), cell_of (heap_setCell_same hc), set_other (i := y * 2 + 1) (j := i * 2) (by omega)]
  refine ⟨(hh i (by omega)).1, ?_⟩
  by_cases e : i = y
  · subst e
    simp only [if_true]
    exact set_same (by omega)
  · simp only [e, if_false]
    rw [set_other (by omega)]
    exact (hh i (by omega)).2

theorem xs_snoc {m s : Nat} {xs : List Value} {σ : Nat → Nat} {A : Nat → Option Addr} {C : Nat → Nat} {u : Int} {a : Option Addr} {c : Nat}
    (h : ∀ i, i < m → xs[i * 2]? = some (.int .i64 (σ i : Int)) ∧ xs[i * 2 + 1]? = some (.slice (A (σ i)) s (C (σ i)))) (hl : xs.length = m * 2) :
    ∀ i, i < m + 1 → (xs ++ [.int .i64 u, .slice a s c])[i * 2]? = some (.int .i64 (if i = m then u else (σ i : Int))) ∧ (xs ++ [.int .i64 u, .slice a s c])[i * 2 + 1]? = some (.slice (if i = m then a else A (σ i)) s (if i = m then c else C (σ i))) := by
  intro i hi
  by_cases e : i = m
  · subst e
    rw [List.getElem?_append_right (by omega), List.getElem?_append_right (by omega), hl]
    simp
  · simp only [e, if_false]
    rw [List.getElem?_append_left (by omega), List.getElem?_append_left (by omega)]
    exact h i (by omega)
/-- the parts' block is no block of bytes -/
theorem PG.keepD {w w' : World} {B B' g cap n s m : Nat} {v : Value} {xs : List Value} {σ : Nat → Nat} {A : Nat → Option Addr} {C : Nat → Nat} (h : PG w B g cap n s σ A C) (hd : w.ownsRow B' 5 1 v m xs) (k : Keep (fun b => v.ownBlock = some b) w w') : PG w' B g cap n s σ A C := by
  obtain ⟨cur, hc, hh⟩ := h.at_
  refine ⟨⟨cur, k.some hc (fun x => ?_), hh⟩, h.gB, h.nc, h.cM⟩
  rcases hd.2 with ⟨rfl, _⟩ | ⟨b, c', cur', rfl, _, hg', _⟩
  · cases x
  · simp only [Value.ownBlock, Option.some.injEq] at x
    subst x
    rw [hc] at hg'
    simp at hg'

set_option maxRecDepth 200000 in
set_option maxHeartbeats 4000000 in
theorem lRefuses (N K T way at_ : Int) (nb no capb : Nat) (aob : Option Addr) (ov sv hv : Value) (lb : Row) (os : Nat → Int) (w : World) (hb : Bytes w (.slice aob nb capb) nb lb) (hcb : nb ≤ capb) (hnb : nb ≤ 140737488351232) (ho : Ints w ov no os) (hno : no ≤ 140737488351232) :
    Calls Tryz.prog 6 #[.agg #[.int .i64 N, .int .i64 K, .slice aob nb capb, ov, .int .i64 T, sv, hv], .int .i64 way, .int .i64 at_] w fun e w' => e = .returned (.bool true) ∧ Keep nob w w' := by
  have HB := Lib.hid hb
  have HO := Lib.hid ho
  clear hb ho
  go_enter Tryz.func6, Tryz.ntmps6
  go_wp2_with fail
  have HK1 : Hid (Keep nob w (w.alloc (.cells #[.int .i64 N, .int .i64 K, .slice aob nb capb, ov, .int .i64 T, sv, hv] 47))) := (Keep.refl _ _).alloc _
  obtain ⟨w1, hw1⟩ : ∃ w1 : World, w1 = w.alloc (.cells #[.int .i64 N, .int .i64 K, .slice aob nb capb, ov, .int .i64 T, sv, hv] 47) := ⟨_, rfl⟩
  rw [← hw1]
  rw [← hw1] at HK1
  clear hw1
  refine (lMade N K T nb no capb aob ov sv hv lb os w1 (HB.out.keep0 HK1.out) hcb hnb (HO.out.keep0 HK1.out) hno).mono ?_
  rintro e w2 ⟨n, k, m, s, pc, f, g, cap, B, cv, dv, σ, A, C, D, wm, rfl, n1, n2, n2', n3, hs1, hK0, hC, hSD, hKg, hPG, hPH, hlt, hinj⟩
  obtain ⟨y, hy, hyy⟩ := imod_nat at_ m (by omega)
  obtain ⟨x, hx, hxx⟩ := imod_nat way 5 (by decide)
  obtain ⟨z, hz, hzz⟩ := imod_nat at_ 3 (by decide)
  have HY := Lib.hid hyy
  have HX := Lib.hid hxx
  have HZ := Lib.hid hzz
  have HK0 := Lib.hid hK0
  have HC := Lib.hid hC
  have HKG := Lib.hid hKg
  have HPG := Lib.hid hPG
  have HPH := Lib.hid hPH
  have HLT := Lib.hid hlt
  have HINJ := Lib.hid hinj
  have HIN : Hid (∀ i, i < m → 0 ≤ (σ i : Int) ∧ (σ i : Int) < (n : Int)) := fun i hi => by have := hlt i (by omega); omega
  have HDI : Hid (∀ i j, i < j → j < m → (σ i : Int) ≠ (σ j : Int)) := fun i j hij hj e => by have := hinj i j (by omega) (by omega) (by omega); omega
  clear hyy hxx hzz hK0 hC hSD hKg hPG hPH hlt hinj
  go_wp2_with fail
  refine (lMod at_ m y _ (by omega) (by omega) HY.out).mono ?_
  rintro e w' ⟨rfl, rfl⟩
  go_wp2_with fail
  refine (lMod way 5 x _ (by decide) (by decide) HX.out).mono ?_
  rintro e w' ⟨rfl, rfl⟩
  clear HX
  have KW : Hid (Keep (fun b => wm.heap.size ≤ b) wm w2) := HKG.out.mono fun b _ (e : b = g) => by rw [e]; exact HPG.out.gB
  have i1 : (y : Int) < (m : Int) := by omega
  have c0 := HPG.out.c0 (i := y) (by omega)
  have c1 := HPG.out.c1 (i := y) (by omega)
  have f0 := HPG.out.frozen (y * 2)
  have f1 := HPG.out.frozen (y * 2 + 1)
  obtain rfl | rfl | rfl | rfl | rfl : x = 0 ∨ x = 1 ∨ x = 2 ∨ x = 3 ∨ x = 4 := by omega
  -- the ways
  · have HPV := Lib.hid (HPG.out.index (m := m) n2' hy (-1 - (y : Int)))
    have KWX := Lib.hid (KW.out.setCell (p := ⟨g, y * 2, none⟩) (fun _ => HPG.out.gB) (.int .i64 (-1 - (y : Int))))
    have HWHY : Hid (∀ x, Why n k m (fun t => if t = y then -1 - (y : Int) else (σ t : Int)) (fun _ => s) x → x = 22) := fun x hx => why_index (i := y) hy (.inl (by simp; omega)) x hx
    have HCX := Lib.hid (HC.out.keep KWX.out (fun b hb hlt (x : wm.heap.size ≤ b) => by omega))
    have HKX := Lib.hid (HK0.out.step KWX.out (fun b hb (x : wm.heap.size ≤ b) => by have := HK0.out.size; omega))
    clear c1
    go_wp2_with fail
    refine (mDecodeBad B pc f n k m 22 cv _ _ _ _ _ _ HCX.out HPV.out (by omega) n3 (by decide) HWHY.out).mono ?_
    rintro e w8 ⟨rfl, hk8⟩
    have HK8 := Lib.hid hk8
    clear hk8
    go_wp2_with fail
    refine (mDecodeNil _ w8).mono ?_
    rintro e w9 ⟨rfl, rfl⟩
    go_wp2_with fail
    refine (mMostNil _ w8).mono ?_
    rintro e w9 ⟨rfl, rfl⟩
    go_wp2
    go_ret
    exact ⟨rfl, HK1.out.trans (HKX.out.trans HK8.out)⟩
  · go_wp2_with fail
    refine (cN B pc f n k cv _ (HC.out.keep KW.out (fun b hb hlt (x : wm.heap.size ≤ b) => by omega))).mono ?_
    rintro e w' ⟨rfl, rfl⟩
    go_wp2_with fail
    refine (lMod at_ 3 z _ (by decide) (by decide) HZ.out).mono ?_
    rintro e w' ⟨rfl, rfl⟩
    have HPV := Lib.hid (HPG.out.index (m := m) n2' hy ((n : Int) + (z : Int)))
    have KWX := Lib.hid (KW.out.setCell (p := ⟨g, y * 2, none⟩) (fun _ => HPG.out.gB) (.int .i64 ((n : Int) + (z : Int))))
    have HWHY : Hid (∀ x, Why n k m (fun t => if t = y then (n : Int) + (z : Int) else (σ t : Int)) (fun _ => s) x → x = 22) := fun x hx => why_index (i := y) hy (.inr (by rw [if_pos rfl]; omega)) x hx
    have HCX := Lib.hid (HC.out.keep KWX.out (fun b hb hlt (x : wm.heap.size ≤ b) => by omega))
    have HKX := Lib.hid (HK0.out.step KWX.out (fun b hb (x : wm.heap.size ≤ b) => by have := HK0.out.size; omega))
    clear c1
    go_wp2_with fail
    refine (mDecodeBad B pc f n k m 22 cv _ _ _ _ _ _ HCX.out HPV.out (by omega) n3 (by decide) HWHY.out).mono ?_
    rintro e w8 ⟨rfl, hk8⟩
    have HK8 := Lib.hid hk8
    clear hk8
    go_wp2_with fail
    refine (mDecodeNil _ w8).mono ?_
    rintro e w9 ⟨rfl, rfl⟩
    go_wp2_with fail
    refine (mMostNil _ w8).mono ?_
    rintro e w9 ⟨rfl, rfl⟩
    go_wp2
    go_ret
    exact ⟨rfl, HK1.out.trans (HKX.out.trans HK8.out)⟩
  · obtain ⟨xs, hox, hxs⟩ := HPG.out.owns n2'
    have HOX := Lib.hid hox
    have HXS := Lib.hid hxs
    clear hox hxs
    have KA := Lib.hid ((Keep.refl nob w2).alloc (.cells #[.int .i64 (σ y : Int), .slice (A (σ y)) s (C (σ y))] 44))
    go_wp2_with (at_builtin; (with_reducible refine wpList_append_src (o := ⟨some 61, _, _, _, _, _⟩) ?_ (.tmp 55) (.tmp 60) 22 ?_ wm.heap.size 44 (.agg #[.int .i64 0, .slice none 0 0]) 2 32 Tryz.underlying22 info_part ?_ ?_ (.slice (some ⟨g, 0, none⟩) m cap) m xs ?_ (owns_keep HOX.out KA.out (fun _ _ x => x)) 1 [.int .i64 (σ y : Int), .slice (A (σ y)) s (C (σ y))] (.slice (some ⟨w2.heap.size, 0, none⟩) 1 1) ?_ (src_two w2 (.int .i64 (σ y : Int)) (.slice (A (σ y)) s (C (σ y))) 44) ?_ ?_ ?_ ?_ ?_ ?_); (rfl); (rfl); (rfl); (decide); (rfl); (rfl); (rfl); ((intro u hu; simp at hu; rcases hu with rfl | rfl <;> rfl)); ((simp only [maxLen]; omega)); (omega); ((have := HKG.out.size; rw [size_alloc]; omega)); intro v2 w7 hown2 hgrow2 hat2 hnil2; obtain ⟨ao7, cap7, rfl⟩ := owns_form hown2; have HPV := Lib.hid (pv_of_owns (I := fun t => if t = m then (σ y : Int) else (σ t : Int)) (A := fun t => if t = m then A (σ y) else A (σ t)) (L := fun _ => s) (C := fun t => if t = m then C (σ y) else C (σ t)) hown2 (xs_snoc HXS.out HOX.out.1)); have KWX := Lib.hid ((KW.out.alloc (.cells #[.int .i64 (σ y : Int), .slice (A (σ y)) s (C (σ y))] 44)).grown hgrow2 (fun b hb _ => by simp only [Value.ownBlock, Option.some.injEq] at hb; have := HPG.out.gB; show wm.heap.size ≤ b; omega)); clear hown2 hgrow2 hat2 hnil2)
    have HWHY : Hid (∀ x, Why n k (m + 1) (fun t => if t = m then (σ y : Int) else (σ t : Int)) (fun _ => s) x → x = 21) := fun x hx => why_twice (i := y) (j := m) (fun i hi => by
      by_cases e : i = m
      · simp only [e, if_true]; exact HIN.out y hy
      · simp only [e, if_false]; exact HIN.out i (by omega)) hy (by omega) (by rw [if_neg (by omega), if_pos rfl]) x hx
    have HCX := Lib.hid (HC.out.keep KWX.out (fun b hb hlt (x : wm.heap.size ≤ b) => by omega))
    have HKX := Lib.hid (HK0.out.step KWX.out (fun b hb (x : wm.heap.size ≤ b) => by have := HK0.out.size; omega))
    clear c0
    go_wp2_with fail
    refine (mDecodeBad B pc f n k (m + 1) 21 cv _ _ _ _ _ _ HCX.out HPV.out (by omega) n3 (by decide) HWHY.out).mono ?_
    rintro e w8 ⟨rfl, hk8⟩
    have HK8 := Lib.hid hk8
    clear hk8
    go_wp2_with fail
    refine (mDecodeNil _ w8).mono ?_
    rintro e w9 ⟨rfl, rfl⟩
    go_wp2_with fail
    refine (mMostNil _ w8).mono ?_
    rintro e w9 ⟨rfl, rfl⟩
    go_wp2
    go_ret
    exact ⟨rfl, HK1.out.trans (HKX.out.trans HK8.out)⟩
  · go_wp2_with fail
    refine (cK B pc f n k cv _ (HC.out.keep KW.out (fun b hb hlt (x : wm.heap.size ≤ b) => by omega))).mono ?_
    rintro e w' ⟨rfl, rfl⟩
    obtain ⟨k', hk'⟩ : ∃ k' : Nat, k' + 1 = k := ⟨k - 1, by omega⟩
    have e1 : (k : Int) - 1 = (k' : Int) := by omega
    have e2 : (k' : Int) ≤ (cap : Int) := by have := HPG.out.nc; omega
    have e3 : ¬ cap = 0 := by have := HPG.out.nc; omega
    obtain ⟨xs, hox, hxs⟩ := HPG.out.owns (m := k') (by omega)
    have HPV := Lib.hid (pv_of_owns (I := fun t => (σ t : Int)) (A := fun t => A (σ t)) (L := fun _ => s) (C := fun t => C (σ t)) hox hxs)
    have KWX := KW
    have HWHY : Hid (∀ x, Why n k k' (fun t => (σ t : Int)) (fun _ => s) x → x = 20) := fun x hx => why_few (fun i hi => HIN.out i (by omega)) (fun i j hij hj => HDI.out i j hij (by omega)) (fun _ _ => rfl) (by omega) x hx
    have hk1 : k' ≤ 255 := by omega
    clear hk' hox hxs
    have HCX := Lib.hid (HC.out.keep KWX.out (fun b hb hlt (x : wm.heap.size ≤ b) => by omega))
    have HKX := Lib.hid (HK0.out.step KWX.out (fun b hb (x : wm.heap.size ≤ b) => by have := HK0.out.size; omega))
    clear c0
    go_wp2_with fail
    refine (mDecodeBad B pc f n k k' 20 cv _ _ _ _ _ _ HCX.out HPV.out (by omega) n3 (by decide) HWHY.out).mono ?_
    rintro e w8 ⟨rfl, hk8⟩
    have HK8 := Lib.hid hk8
    clear hk8
    go_wp2_with fail
    refine (mDecodeNil _ w8).mono ?_
    rintro e w9 ⟨rfl, rfl⟩
    go_wp2_with fail
    refine (mMostNil _ w8).mono ?_
    rintro e w9 ⟨rfl, rfl⟩
    go_wp2
    go_ret
    exact ⟨rfl, HK1.out.trans (HKX.out.trans HK8.out)⟩
  · by_cases hm2 : m < 2
    · have e1 : (m : Int) < 2 := by omega
      go_wp2
      go_ret
      exact ⟨rfl, HK1.out.trans (HK0.out.step KW.out (fun b hb (x : wm.heap.size ≤ b) => by have := HK0.out.size; omega))⟩
    · have e1 : ¬ (m : Int) < 2 := by omega
      have hoD := HPH.out (σ y) (HLT.out y (by omega))
      have HOD := Lib.hid hoD
      have KA := Lib.hid ((Keep.refl nob w2).alloc (.cells #[.int .u8 1] 5))
      have HLB : Hid (∀ b, (Value.slice (A (σ y)) s (C (σ y))).ownBlock = some b → wm.heap.size ≤ b) := fun b hb => owns_block hoD b hb
      clear hoD
      go_wp2_with (at_builtin; (with_reducible refine wpList_append_src (o := ⟨some 82, _, _, _, _, _⟩) ?_ (.tmp 80) (.tmp 81) 42 ?_ wm.heap.size 5 (.int .u8 0) 1 1 Tryz.underlying42 info_u8 ?_ ?_ (.slice (A (σ y)) s (C (σ y))) s (bcs (gr (prod (gen n k) D s) (σ y))) ?_ (owns_keep HOD.out KA.out (fun _ _ x => x)) 1 [.int .u8 1] (.slice (some ⟨w2.heap.size, 0, none⟩) 1 1) ?_ (src_one w2 (.int .u8 1) 5) ?_ ?_ ?_ ?_ ?_ ?_); (rfl); (rfl); (rfl); (decide); (rfl); (rfl); (rfl); ((intro u hu; simp at hu; subst hu; rfl)); ((simp only [maxLen]; omega)); (omega); ((have := HKG.out.size; rw [size_alloc]; omega)); intro v2 w7 hown2 hgrow2 hat2 hnil2; obtain ⟨ao7, cap7, rfl⟩ := owns_form hown2; have KG7 := Lib.hid (((Keep.refl (fun b => (Value.slice (A (σ y)) s (C (σ y))).ownBlock = some b) w2).alloc (.cells #[.int .u8 1] 5)).grown hgrow2 (fun b hb _ => hb)); have PG7 := HPG.out.keepD HOD.out KG7.out; have HPG7 := Lib.hid PG7; have g0 := PG7.c1 (i := y) (by omega); have g1 := PG7.frozen (y * 2 + 1); clear PG7 hown2 hgrow2 hat2 hnil2)
      have HPV := Lib.hid (HPG7.out.data (m := m) n2' hy ao7 (s + 1) cap7)
      have KWX := Lib.hid ((KW.out.trans (KG7.out.mono (T := fun b => wm.heap.size ≤ b) (fun b _ hb => HLB.out b hb))).setCell (p := ⟨g, y * 2 + 1, none⟩) (fun _ => HPG.out.gB) (.slice ao7 (s + 1) cap7))
      have HWHY : Hid (∀ x, Why n k m (fun t => (σ t : Int)) (fun t => if t = y then s + 1 else s) x → x = 23) := fun x hx => by
        by_cases e : y = 0
        · exact why_size (i := 1) HIN.out HDI.out (by omega) (by simp [e]) x hx
        · exact why_size (i := y) HIN.out HDI.out hy (by rw [if_pos rfl, if_neg (by omega)]; omega) x hx
      have HCX := Lib.hid (HC.out.keep KWX.out (fun b hb hlt (x : wm.heap.size ≤ b) => by omega))
      have HKX := Lib.hid (HK0.out.step KWX.out (fun b hb (x : wm.heap.size ≤ b) => by have := HK0.out.size; omega))
      clear c0
      go_wp2_with fail
      refine (mDecodeBad B pc f n k m 23 cv _ _ _ _ _ _ HCX.out HPV.out (by omega) n3 (by decide) HWHY.out).mono ?_
      rintro e w8 ⟨rfl, hk8⟩
      have HK8 := Lib.hid hk8
      clear hk8
      go_wp2_with fail
      refine (mDecodeNil _ w8).mono ?_
      rintro e w9 ⟨rfl, rfl⟩
      go_wp2_with fail
      refine (mMostNil _ w8).mono ?_
      rintro e w9 ⟨rfl, rfl⟩
      go_wp2
      go_ret
      exact ⟨rfl, HK1.out.trans (HKX.out.trans HK8.out)⟩

end Go.Proofs.YtgnmebgjfagjmaaGreat
