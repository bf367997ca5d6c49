/- mend.refused: which way it answers. No condition. -/
import Derived.Test.YtgnmebgjfagjmaaGreatMod
namespace Go.Proofs.YtgnmebgjfagjmaaGreat
open Go.RowKit
open M (F Row ge gr)

theorem info_bool : (Tryz.prog.info? 4).map (fun i => (i.zero, i.size, i.bytes)) = some (some (.bool false), 1, 1) := by kernel_rfl
/-- m parts in their cells: indexes, and headers of data -/
def PCells (w : World) (b o m : Nat) (I : Nat → Int) (A : Nat → Option Addr) (L C : Nat → Nat) : Prop :=
  ∀ i, i < m → w.cell? ⟨b, o + i * 2, none⟩ = some (.int .i64 (I i)) ∧ w.cell? ⟨b, o + i * 2 + 1, none⟩ = some (.slice (A i) (L i) (C i))
def PV (w : World) (v : Value) (m : Nat) (I : Nat → Int) (A : Nat → Option Addr) (L C : Nat → Nat) : Prop :=
  ∃ ao cap, v = .slice ao m cap ∧ (0 < m → ∃ b o, ao = some ⟨b, o, none⟩ ∧ b < w.heap.size ∧ PCells w b o m I A L C)
theorem PV.keep0 {w w' : World} {v : Value} {m : Nat} {I : Nat → Int} {A : Nat → Option Addr} {L C : Nat → Nat} (h : PV w v m I A L C) (k : Keep nob w w') : PV w' v m I A L C := by
  obtain ⟨ao, cap, rfl, hh⟩ := h
  refine ⟨ao, cap, rfl, fun h0 => ?_⟩
  obtain ⟨b, o, rfl, hb, hc⟩ := hh h0
  exact ⟨b, o, rfl, Nat.lt_of_lt_of_le hb k.size, fun i hi => ⟨k.cellS (hc i hi).1 (fun x => x), k.cellS (hc i hi).2 (fun x => x)⟩⟩
theorem PV.cells {w : World} {ao : Option Addr} {m n cap : Nat} {I : Nat → Int} {A : Nat → Option Addr} {L C : Nat → Nat} (h : PV w (.slice ao n cap) m I A L C) {k : Nat} (hk : k < m) :
    ∃ b o, ao = some ⟨b, o, none⟩ ∧ b < w.heap.size ∧ PCells w b o m I A L C := by
  obtain ⟨ao', cap', e, hh⟩ := h
  simp only [Value.slice.injEq] at e
  obtain ⟨rfl, rfl, rfl⟩ := e
  exact hh (by omega)
theorem below_succ {P : Nat → Prop} {j : Nat} (h : ∀ i, i < j → P i) (hj : P j) : ∀ i, i < j + 1 → P i := fun i hi =>
  if e : i < j then h i e else (by obtain rfl : i = j := by omega
                                   exact hj)
/-- is the number j among the first t? -/
def hit (I : Nat → Int) (t j : Nat) : Bool := (List.range t).any fun i => decide (I i = (j : Int))
theorem hit_iff (I : Nat → Int) (t j : Nat) : hit I t j = true ↔ ∃ i, i < t ∧ I i = (j : Int) := by simp [hit]
def SeenAt (w : World) (b n : Nat) (I : Nat → Int) (t : Nat) : Prop := ∃ c, w.heap[b]? = some (.cells c 4 (0, 0)) ∧ ∀ j, j < n → c[j]? = some (.bool (hit I t j))
theorem SeenAt.cell {w : World} {b n t : Nat} {I : Nat → Int} (h : SeenAt w b n I t) {j : Nat} (hj : j < n) : w.cell? ⟨b, j, none⟩ = some (.bool (hit I t j)) := by
  obtain ⟨c, hc, hh⟩ := h
  rw [cell_of hc]; exact hh j hj
theorem SeenAt.frozen {w : World} {b n t : Nat} {I : Nat → Int} (h : SeenAt w b n I t) (j : Nat) : w.frozen? ⟨b, j, none⟩ = false := by
  obtain ⟨c, hc, hh⟩ := h
  exact frozen_of hc j
theorem SeenAt.keep0 {w w' : World} {b n t : Nat} {I : Nat → Int} (h : SeenAt w b n I t) (k : Keep nob w w') : SeenAt w' b n I t := by
  obtain ⟨c, hc, hh⟩ := h
  exact ⟨c, k.some hc (fun x => x), hh⟩
theorem SeenAt.set {w : World} {b n t : Nat} {I : Nat → Int} (h : SeenAt w b n I t) {x : Nat} (hx : I t = (x : Int)) : SeenAt (w.setCell ⟨b, x, none⟩ (.bool true)) b n I (t + 1) := by
  obtain ⟨c, hc, hh⟩ := h
  refine ⟨_, heap_setCell_same hc, fun i hi => ?_⟩
  have hs : i < c.size := (Array.getElem?_eq_some_iff.1 (hh i hi)).1
  by_cases e : x = i
  · subst e
    rw [set_same hs]
    have : hit I (t + 1) x = true := (hit_iff _ _ _).2 ⟨t, by omega, hx⟩
    rw [this]
  · rw [set_other e, hh i hi]
    have : hit I (t + 1) i = hit I t i := by
      unfold hit
      rw [List.range_succ, List.any_append]
      simp only [List.any_cons, List.any_nil, Bool.or_false]
      have : ¬ I t = (i : Int) := by rw [hx]; omega
      simp [this]
    rw [this]
/-- why parts are refused: the Errno -/
def Why (n k m : Nat) (I : Nat → Int) (L : Nat → Nat) (e : Int) : Prop :=
  (e = 22 ∧ ∃ i, i < m ∧ (I i < 0 ∨ (n : Int) ≤ I i)) ∨
  ((∀ i, i < m → 0 ≤ I i ∧ I i < (n : Int)) ∧
    ((e = 21 ∧ ∃ i j, i < j ∧ j < m ∧ I i = I j) ∨
     ((∀ i j, i < j → j < m → I i ≠ I j) ∧
      ((e = 23 ∧ ∃ i, i < m ∧ L i ≠ L 0) ∨
       ((∀ i, i < m → L i = L 0) ∧
        ((e = 20 ∧ m < k) ∨ (e = 0 ∧ k ≤ m)))))))

set_option maxRecDepth 100000 in
set_option maxHeartbeats 2000000 in
theorem mRefused (B pc f n k m : Nat) (v pv : Value) (I : Nat → Int) (A : Nat → Option Addr) (L C : Nat → Nat) (w : World) (h : CodeW w B pc f n k v) (hp : PV w pv m I A L C) (hm : m ≤ 65536) (hn : n ≤ 255) :
    Calls Tryz.prog 33 #[.pointer (some ⟨pc, 0, none⟩), pv] w fun e w' => (∃ x : Int, e = .returned (.int .i64 x) ∧ Why n k m I L x) ∧ Keep nob w w' := by
  have hmk := run_make_row' (P := Tryz.prog) 84 4 (.bool false) 1 Tryz.underlying84 info_bool rfl .i64 .i64 n (by omega) (by omega)
  have H := Lib.hid h
  obtain ⟨ao, cap, rfl, _⟩ := id hp
  have HP := Lib.hid hp
  clear h hp
  go_enter Tryz.func33, Tryz.ntmps33
  go_wp2_with fail
  go_loopw [16] (fun i wr => ∃ j : Nat, j ≤ m ∧ i = .int .i64 j ∧ Keep nob w wr ∧ ∀ i, i < j → 0 ≤ I i ∧ I i < (n : Int)) (fun i _ => m - (intOf i).toNat)
  case atStart => exact ⟨0, Nat.zero_le _, rfl, Keep.refl _ _, fun i hi => by omega⟩
  case round =>
    obtain ⟨j, hj, rfl, hK, hI⟩ := hrel
    have HK := Lib.hid hK
    have HI := Lib.hid hI
    by_cases hlt : j < m
    · obtain ⟨b, o, rfl, hb, hc⟩ := (HP.out.keep0 hK).cells hlt
      have d1 := (hc j hlt).1
      have d2 := (hc j hlt).2
      have i1 : (j : Int) < (m : Int) := by omega
      have HC := Lib.hid hc
      have HQ : Hid (∀ d, Calls Tryz.prog 23 #[.pointer (some ⟨pc, 0, none⟩)] ((wr.alloc (.cells #[.int .i64 (I j), .slice (A j) (L j) (C j)] 44)).drewN d) fun e w' => e = .returned (.int .i64 n) ∧ w' = ((wr.alloc (.cells #[.int .i64 (I j), .slice (A j) (L j) (C j)] 44)).drewN d)) := fun d =>
        (cN B pc f n k v _ (H.out.keep0 ((HK.out.alloc _).drewN d))).mono fun _ _ ⟨h1, h2⟩ => ⟨h1, h2.symm⟩
      have d3 : (wr.alloc (.cells #[.int .i64 (I j), .slice (A j) (L j) (C j)] 44)).cell? ⟨wr.heap.size, 0, none⟩ = some (.int .i64 (I j)) := by rw [cell_of (heap_alloc_at wr _)]; rfl
      clear hK hI hc
      go_wp2_with fail
      by_cases hneg : I j < 0
      · go_quiet ((go_at_call 23; exact Calls.quiet_of_same (HQ.out _)))
        go_wp2
        go_ret
        exact ⟨⟨22, rfl, .inl ⟨rfl, j, hlt, .inl hneg⟩⟩, (HK.out.alloc _).drewN _⟩
      · by_cases hbig : (n : Int) ≤ I j
        · go_quiet ((go_at_call 23; exact Calls.quiet_of_same (HQ.out _)))
          go_wp2
          go_ret
          exact ⟨⟨22, rfl, .inl ⟨rfl, j, hlt, .inr hbig⟩⟩, (HK.out.alloc _).drewN _⟩
        · go_quiet ((go_at_call 23; exact Calls.quiet_of_same (HQ.out _)))
          go_wp2
          go_roundw
          case rel => exact ⟨j + 1, by omega, by go_num, (HK.out.alloc _).drewN _, below_succ HI.out ⟨by omega, by omega⟩⟩
          case measure => (simp [intOf]; omega)
    · obtain rfl : j = m := by omega
      obtain ⟨w0, rfl⟩ : ∃ w0 : World, w0 = wr := ⟨_, rfl⟩
      clear hlt hK hI hj
      go_wp2_with fail
      refine (cN B pc f n k v _ (H.out.keep0 HK.out)).mono ?_
      rintro e w' ⟨rfl, rfl⟩
      go_wp2_with fail
      have HS0 : Hid (SeenAt (w0.alloc (.cells (madeCells #[.bool false] n) 4)) w0.heap.size n I 0) := ⟨_, heap_alloc_at w0 _, fun i hi => by
        rw [← Array.getElem?_toList, toList_madeCells_one]
        simp [hi, hit]⟩
      go_loopw [36] (fun i wr => ∃ t : Nat, t ≤ j ∧ i = .int .i64 t ∧ Keep nob w wr ∧ SeenAt wr w0.heap.size n I t ∧ ∀ b, b < t → ∀ a, a < b → I a ≠ I b) (fun i _ => j - (intOf i).toNat)
      case atStart => exact ⟨0, Nat.zero_le _, rfl, HK.out.alloc _, HS0.out, fun i hi => by omega⟩
      case round =>
        obtain ⟨t, ht, rfl, hK, hS, hD⟩ := hrel
        have HK1 := Lib.hid hK
        have HS1 := Lib.hid hS
        have HD := Lib.hid hD
        by_cases hlt : t < j
        · obtain ⟨b, o, rfl, hb, hc⟩ := (HP.out.keep0 hK).cells hlt
          have d1 := (hc t hlt).1
          have d2 := (hc t hlt).2
          have hx0 := (HI.out t hlt)
          obtain ⟨x, hx⟩ : ∃ x : Nat, I t = (x : Int) := ⟨(I t).toNat, by omega⟩
          have HX := Lib.hid hx
          rw [hx] at d1
          have i1 : (t : Int) < (j : Int) := by omega
          have i2 : (x : Int) < (n : Int) := by omega
          have i3 : x < n := by omega
          have d3 : (wr.alloc (.cells #[.int .i64 (x : Int), .slice (A t) (L t) (C t)] 44)).cell? ⟨wr.heap.size, 0, none⟩ = some (.int .i64 (x : Int)) := by rw [cell_of (heap_alloc_at wr _)]; rfl
          have S1 := Lib.hid (hS.keep0 (((Keep.refl nob wr).alloc (.cells #[.int .i64 (x : Int), .slice (A t) (L t) (C t)] 44))))
          have d4 := S1.out.cell i3
          have d5 := S1.out.frozen x
          clear hK hS hD hc hx hx0
          by_cases hh : hit I t x = true
          · rw [hh] at d4
            have HH := Lib.hid hh
            clear hh
            go_wp2
            go_ret
            refine ⟨⟨21, rfl, .inr ⟨HI.out, .inl ⟨rfl, ?_⟩⟩⟩, HK1.out.alloc _⟩
            obtain ⟨a, ha, hax⟩ := (hit_iff _ _ _).1 HH.out
            exact ⟨a, t, ha, hlt, by rw [hax, HX.out]⟩
          · have hf : hit I t x = false := by simpa using hh
            rw [hf] at d4
            have HH := Lib.hid hf
            clear hh hf
            go_wp2
            go_roundw
            case rel =>
              refine ⟨t + 1, by omega, by go_num, (HK1.out.alloc _).setCell (fun h => ?_) _, S1.out.set HX.out, below_succ HD.out fun a ha e => ?_⟩
              · have := HK.out.size
                exact absurd h (by show ¬ w0.heap.size < w.heap.size; omega)
              · have := (hit_iff I t x).2 ⟨a, ha, by rw [e, HX.out]⟩
                rw [HH.out] at this
                exact absurd this (by decide)
            case measure => (simp [intOf]; omega)
        · obtain rfl : t = j := by omega
          obtain ⟨w1, rfl⟩ : ∃ w1 : World, w1 = wr := ⟨_, rfl⟩
          clear hlt hK hS hD ht
          go_wp2_with fail
          go_loopw [52] (fun i wr => ∃ s : Nat, s ≤ t ∧ i = .int .i64 s ∧ Keep nob w wr ∧ ∀ i, i < s → L i = L 0) (fun i _ => t - (intOf i).toNat)
          case atStart => exact ⟨0, Nat.zero_le _, rfl, HK1.out, fun i hi => by omega⟩
          case round =>
            obtain ⟨s, hs, rfl, hK, hE⟩ := hrel
            have HK2 := Lib.hid hK
            have HE := Lib.hid hE
            by_cases hlt : s < t
            · obtain ⟨b, o, rfl, hb, hc⟩ := (HP.out.keep0 hK).cells hlt
              have d1 := (hc s hlt).1
              have d2 := (hc s hlt).2
              have i1 : (s : Int) < (t : Int) := by omega
              have i0 : (0 : Int) < (t : Int) := by omega
              have i0' : 0 < t := by omega
              have d3 : (wr.alloc (.cells #[.int .i64 (I s), .slice (A s) (L s) (C s)] 44)).cell? ⟨wr.heap.size, 1, none⟩ = some (.slice (A s) (L s) (C s)) := by rw [cell_of (heap_alloc_at wr _)]; rfl
              have d4 := ((Keep.refl nob wr).alloc (.cells #[.int .i64 (I s), .slice (A s) (L s) (C s)] 44)).cellS (hc 0 (by omega)).2 (fun x => x)
              have d5 := d4
              rw [Nat.zero_mul] at d5
              have d6 := d5
              rw [Nat.add_zero] at d6
              clear hK hE hc
              go_wp2_with fail
              by_cases hh : L s = L 0
              · have e1 : ((L s : Int) != (L 0 : Int)) = false := by simp [hh]
                have HH := Lib.hid hh
                clear hh
                go_quiet (fail)
                go_wp2
                go_roundw
                case rel => exact ⟨s + 1, by omega, by go_num, (HK2.out.alloc _).drewN _, below_succ HE.out HH.out⟩
                case measure => (simp [intOf]; omega)
              · have e1 : ((L s : Int) != (L 0 : Int)) = true := by simp; omega
                have HH := Lib.hid hh
                clear hh
                go_quiet (fail)
                go_wp2
                go_ret
                exact ⟨⟨23, rfl, .inr ⟨HI.out, .inr ⟨fun a b h1 h2 => HD.out b h2 a h1, .inl ⟨rfl, s, hlt, HH.out⟩⟩⟩⟩, (HK2.out.alloc _).drewN _⟩
            · obtain rfl : s = t := by omega
              clear hlt hK hE hs
              go_wp2_with fail
              refine (cK B pc f n k v _ (H.out.keep0 HK2.out)).mono ?_
              rintro e w' ⟨rfl, rfl⟩
              by_cases hfew : s < k
              · have i1 : (s : Int) < (k : Int) := by omega
                go_wp2
                go_ret
                exact ⟨⟨20, rfl, .inr ⟨HI.out, .inr ⟨fun a b h1 h2 => HD.out b h2 a h1, .inr ⟨HE.out, .inl ⟨rfl, hfew⟩⟩⟩⟩⟩, HK2.out⟩
              · have i1 : ¬ (s : Int) < (k : Int) := by omega
                go_wp2
                go_ret
                exact ⟨⟨0, rfl, .inr ⟨HI.out, .inr ⟨fun a b h1 h2 => HD.out b h2 a h1, .inr ⟨HE.out, .inr ⟨rfl, by omega⟩⟩⟩⟩⟩, HK2.out⟩

end Go.Proofs.YtgnmebgjfagjmaaGreat
