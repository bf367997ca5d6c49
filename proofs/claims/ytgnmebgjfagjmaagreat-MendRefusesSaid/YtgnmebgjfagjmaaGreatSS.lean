/- Slices of slices of bytes: read anywhere; built by append. No condition. -/
import Derived.Test.YtgnmebgjfagjmaaGreatMul
namespace Go.Proofs.YtgnmebgjfagjmaaGreat
open Go.RowKit
open M (F Row ge gr)

/-- n slices of m bytes each, their headers as told; all their blocks lie in T -/
structure SSat (w : World) (v : Value) (n m : Nat) (L : List Row) (T : Nat → Prop) (A : Nat → Option Addr) (C : Nat → Nat) : Prop where
  shape : M.Shape n m L
  form : ∃ ao cap, v = .slice ao n cap ∧ (0 < n → ∃ b o, ao = some ⟨b, o, none⟩ ∧ T b ∧ b < w.heap.size ∧ ∀ i, i < n → w.cell? ⟨b, o + i, none⟩ = some (.slice (A i) m (C i)))
  row : ∀ i, i < n → Bytes w (.slice (A i) m (C i)) m (gr L i)
  own : ∀ i, i < n → ∀ b, (Value.slice (A i) m (C i)).ownBlock = some b → T b
def SS (w : World) (v : Value) (n m : Nat) (L : List Row) (T : Nat → Prop) : Prop := ∃ A C, SSat w v n m L T A C
theorem SSat.keep {S T : Nat → Prop} {w w' : World} {v : Value} {n m : Nat} {L : List Row} {A : Nat → Option Addr} {C : Nat → Nat} (h : SSat w v n m L T A C) (k : Keep S w w') (hn : ∀ b, T b → b < w.heap.size → ¬ S b) : SSat w' v n m L T A C := by
  obtain ⟨ao, cap, e, hh⟩ := h.form
  refine ⟨h.shape, ⟨ao, cap, e, fun h0 => ?_⟩, fun i hi => (h.row i hi).keep k fun b hb hlt => hn b (h.own i hi b hb) hlt, h.own⟩
  obtain ⟨b, o, e', ht, hb, hc⟩ := hh h0
  exact ⟨b, o, e', ht, Nat.lt_of_lt_of_le hb k.size, fun i hi => (k.cell (p := ⟨b, o + i, none⟩) hb (hn b ht hb)).trans (hc i hi)⟩
theorem SS.keep {S T : Nat → Prop} {w w' : World} {v : Value} {n m : Nat} {L : List Row} (h : SS w v n m L T) (k : Keep S w w') (hn : ∀ b, T b → b < w.heap.size → ¬ S b) : SS w' v n m L T := by
  obtain ⟨A, C, h⟩ := h
  exact ⟨A, C, h.keep k hn⟩
theorem SS.keep0 {T : Nat → Prop} {w w' : World} {v : Value} {n m : Nat} {L : List Row} (h : SS w v n m L T) (k : Keep nob w w') : SS w' v n m L T := h.keep k fun _ _ _ x => x
theorem SSat.keep0 {T : Nat → Prop} {w w' : World} {v : Value} {n m : Nat} {L : List Row} {A : Nat → Option Addr} {C : Nat → Nat} (h : SSat w v n m L T A C) (k : Keep nob w w') : SSat w' v n m L T A C := h.keep k fun _ _ _ x => x
theorem SSat.cells {w : World} {ao : Option Addr} {n n' m cap : Nat} {L : List Row} {T : Nat → Prop} {A : Nat → Option Addr} {C : Nat → Nat} (h : SSat w (.slice ao n' cap) n m L T A C) {k : Nat} (hk : k < n) :
    ∃ b o, ao = some ⟨b, o, none⟩ ∧ T b ∧ b < w.heap.size ∧ ∀ i, i < n → w.cell? ⟨b, o + i, none⟩ = some (.slice (A i) m (C i)) := by
  obtain ⟨ao', cap', e, hh⟩ := h.form
  simp only [Value.slice.injEq] at e
  obtain ⟨rfl, rfl, rfl⟩ := e
  exact hh (by omega)
theorem SS.mono {T U : Nat → Prop} {w : World} {v : Value} {n m : Nat} {L : List Row} (h : SS w v n m L T) (hu : ∀ b, T b → U b) : SS w v n m L U := by
  obtain ⟨A, C, h⟩ := h
  obtain ⟨ao, cap, e, hh⟩ := h.form
  exact ⟨A, C, h.shape, ⟨ao, cap, e, fun h0 => by obtain ⟨b, o, e', ht, r⟩ := hh h0; exact ⟨b, o, e', hu b ht, r⟩⟩, h.row, fun i hi b hb => hu b (h.own i hi b hb)⟩

/-- built by append: j slices of m bytes, slice i of L i -/
structure Bld (w : World) (B : Nat) (v : Value) (j m : Nat) (L : Nat → Row) : Prop where
  row : ∃ Hs : List Value, w.ownsRow B 42 1 v j Hs ∧ ∀ i, i < j → ∃ ao cap, Hs[i]? = some (.slice ao m cap) ∧ Bytes w (.slice ao m cap) m (L i) ∧ ∀ b, (Value.slice ao m cap).ownBlock = some b → B ≤ b ∧ b < w.heap.size ∧ v.ownBlock ≠ some b
theorem Bld.nil (w : World) (B m : Nat) (L : Nat → Row) : Bld w B (.slice none 0 0) 0 m L := ⟨[], World.ownsRow_nil _ _ _ _, fun i hi => by omega⟩
theorem Bld.made {w : World} {B m cap g : Nat} {L : Nat → Row} (h : w.ownsRow B 42 1 (.slice (some ⟨g, 0, none⟩) 0 cap) 0 []) : Bld w B (.slice (some ⟨g, 0, none⟩) 0 cap) 0 m L := ⟨[], h, fun i hi => by omega⟩
theorem Bld.keep0 {w w' : World} {B m j : Nat} {v : Value} {L : Nat → Row} (h : Bld w B v j m L) (k : Keep nob w w') : Bld w' B v j m L := by
  obtain ⟨Hs, ho, hr⟩ := h.row
  refine ⟨Hs, owns_keep ho k (fun _ _ x => x), fun i hi => ?_⟩
  obtain ⟨ao, cap, e, hb, hh⟩ := hr i hi
  exact ⟨ao, cap, e, hb.keep0 k, fun b hb => ⟨(hh b hb).1, Nat.lt_of_lt_of_le (hh b hb).2.1 k.size, (hh b hb).2.2⟩⟩
/-- one more: its slice lies in a block that is new since w1, or is nil -/
theorem Bld.push {w1 w2 w3 : World} {B m j : Nat} {v v' : Value} {L : Nat → Row} {Hs : List Value} {ao : Option Addr} {cap : Nat} (hB : B ≤ w1.heap.size) (k : Keep nob w1 w2) (hrow : Bytes w2 (.slice ao m cap) m (L j)) (hnew : ∀ b, (Value.slice ao m cap).ownBlock = some b → w1.heap.size ≤ b ∧ b < w2.heap.size)
    (h0 : ∀ i, i < j → ∃ ao cap, Hs[i]? = some (.slice ao m cap) ∧ Bytes w1 (.slice ao m cap) m (L i) ∧ ∀ b, (Value.slice ao m cap).ownBlock = some b → B ≤ b ∧ b < w1.heap.size ∧ v.ownBlock ≠ some b) (hv : ∀ b, v.ownBlock = some b → b < w1.heap.size) (hj : Hs.length = j)
    (hg : (w2.alloc (.cells #[.slice ao m cap] 42)).grownBy w3 v.ownBlock) (ho : w3.ownsRow B 42 1 v' (j + 1) (Hs ++ [.slice ao m cap])) (hat : v'.ownBlock = v.ownBlock ∨ v'.ownBlock = some (w2.alloc (.cells #[.slice ao m cap] 42)).heap.size) : Bld w3 B v' (j + 1) m L := by
  have ka : Keep nob w2 (w2.alloc (.cells #[.slice ao m cap] 42)) := (Keep.refl _ _).alloc _
  have kg : Keep (fun b => v.ownBlock = some b) (w2.alloc (.cells #[.slice ao m cap] 42)) w3 := (Keep.refl _ _).grown hg fun b hb _ => hb
  have hs1 := k.size
  have hs2 : (w2.alloc (.cells #[.slice ao m cap] 42)).heap.size = w2.heap.size + 1 := size_alloc _ _
  have hs3 := kg.size
  refine ⟨_, ho, fun i hi => ?_⟩
  by_cases e : i < j
  · obtain ⟨ao', cap', e', hb', hh'⟩ := h0 i e
    refine ⟨ao', cap', by rw [List.getElem?_append_left (by omega)]; exact e', ((hb'.keep0 k).keep0 ka).keep kg (fun b hb _ => (hh' b hb).2.2), fun b hb => ⟨(hh' b hb).1, by have := (hh' b hb).2.1; omega, ?_⟩⟩
    rcases hat with h | h
    · rw [h]; exact (hh' b hb).2.2
    · rw [h]; intro x; simp only [Option.some.injEq] at x; have := (hh' b hb).2.1; omega
  · obtain rfl : i = j := by omega
    refine ⟨ao, cap, by rw [List.getElem?_append_right (by omega), hj]; simp, (hrow.keep0 ka).keep kg (fun b hb _ x => by have := hnew b hb; have := hv b x; omega), fun b hb => ⟨by have := hnew b hb; omega, by have := hnew b hb; omega, ?_⟩⟩
    have h1 := hnew b hb
    rcases hat with h | h
    · rw [h]; intro x; have := hv b x; omega
    · rw [h]; intro x; simp only [Option.some.injEq] at x; omega
theorem Bld.congr {w : World} {B j m : Nat} {v : Value} {L L' : Nat → Row} (h : Bld w B v j m L) (e : ∀ i, i < j → L' i = L i) : Bld w B v j m L' := by
  obtain ⟨Hs, ho, hr⟩ := h.row
  exact ⟨Hs, ho, fun i hi => by rw [e i hi]; exact hr i hi⟩
theorem own_lt {w : World} {base : Nat} {e : TypeId} {size : Nat} {v : Value} {n : Nat} {xs : List Value} (h : w.ownsRow base e size v n xs) : ∀ b, v.ownBlock = some b → b < w.heap.size := fun b hb => (h.lt b hb).2
theorem Bld.ss {w : World} {B n m : Nat} {v : Value} {L : List Row} (h : Bld w B v n m (gr L)) (hs : M.Shape n m L) : SS w v n m L (fun b => B ≤ b) := by
  obtain ⟨Hs, ho, hr⟩ := h.row
  refine ⟨fun i => match Hs[i]? with | some (.slice ao _ _) => ao | _ => none, fun i => match Hs[i]? with | some (.slice _ _ c) => c | _ => 0, hs, ?_, fun i hi => ?_, fun i hi b hb => ?_⟩
  · rcases ho.2 with ⟨rfl, h0⟩ | ⟨g, cap, cur, rfl, hg, hgg, _, _, _, htake⟩
    · exact ⟨none, 0, by rw [h0], fun h => by omega⟩
    · refine ⟨_, cap, rfl, fun _ => ⟨g, 0, rfl, hg, lt_of_block hgg, fun i hi => ?_⟩⟩
      obtain ⟨ao, c, e, _⟩ := hr i hi
      have := ho.cellAt i (by omega)
      rw [Nat.zero_add, this]
      simp only [e]
  · obtain ⟨ao, c, e, hb, _⟩ := hr i hi
    simp only [e]; exact hb
  · obtain ⟨ao, c, e, _, hh⟩ := hr i hi
    simp only [e] at hb
    exact (hh b hb).1

set_option maxRecDepth 100000 in
set_option maxHeartbeats 4000000 in
theorem mRows (p f q n m : Nat) (R C : Nat → Nat) (L : List Row) (w : World) (hp : MatAt w p f q n) (h : Grid w q n m R C L) (hn : n ≤ 256) (hm : m ≤ 1024) :
    Calls Tryz.prog 43 #[.pointer (some ⟨p, 0, none⟩)] w fun e w' =>
      ∃ v, e = .returned v ∧ Keep nob w w' ∧ SS w' v n m L (fun b => w.heap.size ≤ b) := by
  have c1 := hp.rows
  have HG := Lib.hid h
  have HP := Lib.hid hp
  clear h hp
  obtain ⟨ib, hbi, hbz, hbs, hbb⟩ := info_parts info_bs
  go_enter Tryz.func43, Tryz.ntmps43
  go_wp2_with (at_make; refine wpList_make_own _ rfl _ _ 32 rfl w.heap.size 42 ib _ 1 Tryz.underlying32 hbi hbz hbs .i64 .i64 (n : Int) n rfl rfl rfl (by rw [hbb]; omega) (by simp only [maxLen]; omega) (Nat.le_refl _) ?_; intro w1 hown hgrow; have c2 := hgrow.cell c1 (by simp); have HO := Lib.hid hown; have HGR := Lib.hid hgrow; clear hown hgrow)
  have K1 := Lib.hid ((Keep.refl nob w).grown HGR.out fun k hk => by cases hk)
  clear c1 c2
  go_loopw [3, 19] (fun v i wr => ∃ k : Nat, k ≤ n ∧ i = .int .i64 k ∧ Keep nob w wr ∧ Bld wr w.heap.size v k m (gr L)) (fun _ i _ => n - (intOf i).toNat)
  case atStart => exact ⟨0, Nat.zero_le _, rfl, K1.out, Bld.made HO.out⟩
  case round =>
    obtain ⟨k, hk, rfl, hK, hB⟩ := hrel
    obtain ⟨Hs, ho, hr⟩ := hB.row
    obtain ⟨ao2, cap2, rfl⟩ := owns_form ho
    have HK := Lib.hid hK
    have HB := Lib.hid hB
    have HOW := Lib.hid ho
    have HR := Lib.hid hr
    have hlen := ho.1
    have HLEN : Hid (Hs.length = k) := by show Hs.length = k; omega
    by_cases hlt : k < n
    · have hG := HG.out.keep hK (fun x => x) (fun _ _ x => x)
      have d1 := hG.header hlt
      have HBY := Lib.hid (hG.bytes hlt)
      have HLR := Lib.hid (HG.out.shape.2 k hlt)
      have i1 : (k : Int) < (n : Int) := by omega
      clear hG hB hK ho hr hlen
      go_wp2_with (first
        | (at_builtin; (with_reducible refine wpList_append_src (o := ⟨some 25, _, _, _, _, _⟩) ?_ (.const (.slice none 0 0)) (.tmp 24) 42 ?_ wr.heap.size 5 (.int .u8 0) 1 1 Tryz.underlying42 info_u8 ?_ ?_ (.slice none 0 0) 0 [] ?_ (World.ownsRow_nil _ _ _ _) m (bcs (gr L k)) (.slice (some ⟨R k, 0, none⟩) m (C k)) ?_ HBY.out.src ?_ (bcs_one _) ?_ ?_ (Nat.le_refl _) ?_); (rfl); (rfl); (rfl); (decide); (rfl); (rfl); ((rw [bcs_length, HLR.out]; omega)); ((simp only [maxLen]; omega)); (omega); intro v1 w2 hown1 hgrow1 hat1 hnil1; simp only [Nat.zero_add, List.nil_append] at hown1; obtain ⟨ao3, cap3, rfl⟩ := owns_form hown1; have HO1 := Lib.hid hown1; have K2 := Lib.hid ((Keep.refl nob wr).grown hgrow1 fun k hk => by cases hk); clear hown1 hgrow1 hat1 hnil1)
        | (at_builtin; (with_reducible refine wpList_append_src (o := ⟨some 27, _, _, _, _, _⟩) ?_ (.tmp 23) (.tmp 26) 32 ?_ w.heap.size 42 (.slice none 0 0) 1 24 Tryz.underlying32 info_bs ?_ ?_ (.slice ao2 k cap2) k Hs ?_ (owns_keep HOW.out (K2.out.alloc _) (fun _ _ x => x)) 1 [.slice ao3 m cap3] (.slice (some ⟨w2.heap.size, 0, none⟩) 1 1) ?_ (src_one w2 (.slice ao3 m cap3) 42) ?_ ?_ ?_ ?_ ?_ ?_); (rfl); (rfl); (rfl); (decide); (rfl); (rfl); (rfl); ((intro u hu; simp at hu; subst hu; rfl)); ((simp only [maxLen]; omega)); (omega); ((have := HK.out.size; have := K2.out.size; rw [size_alloc]; omega)); intro v2 w3 hown2 hgrow2 hat2 hnil2; have HPUSH := Lib.hid (Bld.push (L := gr L) HK.out.size K2.out (Bytes.of_owns HO1.out) (fun b hb => ⟨owns_block HO1.out b hb, own_lt HO1.out b hb⟩) HR.out (own_lt HOW.out) HLEN.out hgrow2 hown2 hat2); have K3 := Lib.hid (((HK.out.trans K2.out).alloc _).grown hgrow2 fun b hb hlt => absurd hlt (by have := owns_block HOW.out b hb; omega)); clear hown2 hgrow2 hat2 hnil2))
      go_roundw
      case rel => exact ⟨k + 1, by omega, by go_num, K3.out, HPUSH.out⟩
      case measure => (simp [intOf]; omega)
    · obtain rfl : k = n := by omega
      clear hlt hB hK ho hr hlen
      go_wp2
      go_ret
      exact ⟨_, rfl, HK.out, HB.out.ss HG.out.shape⟩

end Go.Proofs.YtgnmebgjfagjmaaGreat
