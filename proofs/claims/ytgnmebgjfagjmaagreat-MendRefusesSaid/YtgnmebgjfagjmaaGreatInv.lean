/- matrix.Invert: of a square matrix without a kernel the inverse. No condition. -/
import Derived.Test.YtgnmebgjfagjmaaGreatCopy
import Derived.Deep.RegionLaw
namespace Go.Proofs.YtgnmebgjfagjmaaGreat
open Go.RowKit
open M (F Row ge gr)

theorem Mat.turn {w w' : World} {B p f q n m : Nat} {R C : Nat → Nat} {L : List Row} {i : Nat} {r : Row} (h : Mat w B p f q n m R C L) (hi : i < n) (k : Keep (fun b => b = R i) w w') (hr : RowAt w' (R i) r) (hl : r.length = m) : Mat w' B p f q n m R C (L.set i r) :=
  ⟨k.some h.at_ fun e => h.pR i hi e.symm, h.grid.turn hi k hr hl, h.pB, h.qB, h.rB, h.pq, h.pR⟩
theorem Mat.mono {w : World} {B B' p f q n m : Nat} {R C : Nat → Nat} {L : List Row} (h : Mat w B p f q n m R C L) (hb : B' ≤ B) : Mat w B' p f q n m R C L :=
  ⟨h.at_, h.grid, Nat.le_trans hb h.pB, Nat.le_trans hb h.qB, fun i hi => Nat.le_trans hb (h.rB i hi), h.pq, h.pR⟩
theorem Keep.fresh {S T : Nat → Prop} {a w w' : World} (h : Keep S a w) (k : Keep T w w') (hT : ∀ b, T b → a.heap.size ≤ b) : Keep S a w' := h.step k fun i hi x => by have := hT i x; omega
theorem lay_aug {r : Row} {n k : Nat} (hr : r.length = n) (hk : k < n) : (lay (M.zeros (2 * n)) 0 r).set (n + k) 1 = r ++ M.unit n k := by
  refine M.ext_row (n := 2 * n) (by rw [List.length_set, lay_length, M.zeros_length]) (by rw [List.length_append, hr, M.unit_length]; omega) fun t ht => ?_
  by_cases e : n + k = t
  · subst e
    rw [ge_set_same (by rw [lay_length, M.zeros_length]; omega)]
    have : ge (r ++ M.unit n k) (n + k) = ge (M.unit n k) k := by
      simp only [ge, List.getD_eq_getElem?_getD]; rw [List.getElem?_append_right (by omega)]; congr 2; omega
    rw [this, M.ge_unit _ _ _ hk, if_pos rfl]
  · rw [ge_set_other e, ge_lay _ _ _ _ (by rw [M.zeros_length]; exact ht)]
    by_cases h : t < n
    · rw [if_pos ⟨by omega, by omega⟩]
      simp only [ge, List.getD_eq_getElem?_getD]; rw [List.getElem?_append_left (by omega)]; rfl
    · rw [if_neg (by omega), M.ge_zeros]
      have : ge (r ++ M.unit n k) t = ge (M.unit n k) (t - n) := by
        simp only [ge, List.getD_eq_getElem?_getD]; rw [List.getElem?_append_right (by omega), hr]
      rw [this, M.ge_unit _ _ _ (by omega), if_neg (by omega)]
theorem lay_whole {l r : Row} {n : Nat} (hl : l.length = n) (hr : r.length = n) : lay l 0 r = r := M.ext_row (n := n) (by rw [lay_length, hl]) hr fun t ht => by
  rw [ge_lay _ _ _ _ (by omega), if_pos ⟨by omega, by omega⟩]; rfl
theorem ge_drop (r : Row) (n t : Nat) : ge (r.drop n) t = ge r (n + t) := by simp [ge, List.getD_eq_getElem?_getD]
theorem RowAt.tail {w : World} {b n : Nat} {l : Row} (h : RowAt w b l) {m : Nat} (hn : n + m = l.length) (cap : Nat) : Bytes w (.slice (some ⟨b, n, none⟩) m cap) m (l.drop n) := by
  refine ⟨by rw [List.length_drop]; omega, _, cap, rfl, fun e => (by cases e), fun _ => ⟨b, n, rfl, h.lt, fun i hi => ?_⟩⟩
  rw [ge_drop]; exact h.cell (by omega)

/-- the rows above k are these, those from k on those -/
structure FillR (w wr : World) (p f q n m : Nat) (R C : Nat → Nat) (new old : Nat → Row) (k : Nat) : Prop where
  keep : Keep nob w wr
  mat : ∃ L, Mat wr w.heap.size p f q n m R C L ∧ (∀ i, i < k → gr L i = new i) ∧ (∀ i, k ≤ i → i < n → gr L i = old i)
theorem FillR.step {w wr w2 : World} {p f q n m : Nat} {R C : Nat → Nat} {new old : Nat → Row} {k : Nat} (h : FillR w wr p f q n m R C new old k) (hk : k < n) (kk : Keep (fun b => b = R k) wr w2) (hr : RowAt w2 (R k) (new k)) (hl : (new k).length = m) : FillR w w2 p f q n m R C new old (k + 1) := by
  obtain ⟨L, hm, h1, h2⟩ := h.mat
  refine ⟨h.keep.fresh kk fun b e => e ▸ hm.rB k hk, L.set k (new k), hm.turn hk kk hr hl, fun i hi => ?_, fun i hi hi' => ?_⟩
  · rw [gr_set' hm.grid.shape.1 hk]; split
    · rename_i e; rw [e]
    · exact h1 i (by omega)
  · rw [gr_set' hm.grid.shape.1 hk, if_neg (by omega)]; exact h2 i (by omega) hi'

set_option maxRecDepth 100000 in
set_option maxHeartbeats 4000000 in
theorem mInvert (p f q n : Nat) (R C : Nat → Nat) (A : List Row) (w : World) (hF : Fld w f) (hp : MatAt w p f q n) (h : Grid w q n n R C A) (hi : M.Inj n A) (h1 : 1 ≤ n) (h2 : n ≤ 256) :
    Calls Tryz.prog 41 #[.pointer (some ⟨p, 0, none⟩)] w fun e w' =>
      ∃ p' q' R' C', e = .returned (.tuple #[.pointer (some ⟨p', 0, none⟩), .int .i64 0]) ∧ Keep nob w w' ∧ Mat w' w.heap.size p' f q' n n R' C' (M.invM A) := by
  have c1 := hp.rows
  have c2 := hp.field
  have c3 := h.header (i := 0) (by omega)
  have e0 : ((n : Int) != (n : Int)) = false := by simp
  have HF := Lib.hid hF
  have HP := Lib.hid hp
  have HG := Lib.hid h
  have HI := Lib.hid hi
  have HC1 := Lib.hid c1
  have HC2 := Lib.hid c2
  have i0 : (0 : Int) < (n : Int) := by omega
  have hfq := HF.out.keep (Keep.refl nob w) (fun x => x)
  clear hF hp h hi hfq
  go_enter Tryz.func41, Tryz.ntmps41
  go_wp2_with fail
  rw [show (2 * (n : Int)) = ((2 * n : Nat) : Int) by omega]
  refine (mBlank f n (2 * n) _ (by omega) (by omega)).mono ?_
  rintro e w1 ⟨pw, qw, Rw, Cw, rfl, hk1, hm1⟩
  have HK1 := Lib.hid hk1
  have HM1 := Lib.hid hm1
  have c4 := (HP.out : MatAt w p f q n)
  have c1' := hk1.cellS c1 (fun x => x)
  clear c1 c2 c3 c4 hk1 hm1
  go_wp2_with fail
  clear c1'
  go_loopw [40] (fun i wr => ∃ k : Nat, k ≤ n ∧ i = .int .i64 k ∧ FillR w wr pw f qw n (2 * n) Rw Cw (fun i => gr A i ++ M.unit n i) (fun _ => M.zeros (2 * n)) k) (fun i _ => n - (intOf i).toNat)
  case atStart => exact ⟨0, Nat.zero_le _, rfl, HK1.out, _, HM1.out, fun i hi => by omega, fun i _ hi => gr_zgrid _ _ _ hi⟩
  case round =>
    obtain ⟨k, hk, rfl, hR⟩ := hrel
    have HR := Lib.hid hR
    by_cases hlt : k < n
    · have hG := HG.out.keep hR.keep (fun x => x) (fun _ _ x => x)
      have d1 := hG.header hlt
      obtain ⟨L, hm, hL1, hL2⟩ := hR.mat
      have d2 := hm.at_.rows
      have d3 := hm.grid.header hlt
      have hrow := hm.grid.row k hlt
      rw [hL2 k (Nat.le_refl _) hlt] at hrow
      have HROW := Lib.hid hrow
      have HB := Lib.hid (hG.bytes hlt)
      have HMT := Lib.hid hm
      have i1 : (k : Int) < (n : Int) := by omega
      have hAk := Lib.hid (HG.out.shape.2 k hlt)
      clear hR hG hm hL1 hL2 hrow
      go_wp2_with ((with_reducible refine wpList_copy_bytes (o := ⟨some 53, _, _, _, _, _⟩) ?h1 (.tmp 51) (.tmp 52) ?h2 (Rw k) 0 (2 * n) (Cw k) n (.slice (some ⟨R k, 0, none⟩) n (C k)) ?h3 ?h4 (l := M.zeros (2 * n)) (ls := gr A k) ?h5 ?h6 ?h7 ?h8 ?h9); (case h1 => rfl); (case h2 => rfl); (case h3 => rfl); (case h4 => rfl); (case h5 => exact HROW.out); (case h6 => exact HB.out); (case h7 => omega); (case h8 => (rw [M.zeros_length]; omega)); intro w2 hk2 hr2; have HK2 := Lib.hid hk2; have HR2 := Lib.hid hr2; have d5 := hk2.cellS d2 (fun e => HMT.out.pR k hlt e.symm); have d6 := hk2.cellS d3 (fun e => HMT.out.grid.apart k hlt e.symm); have d7 := hr2.cell (j := n + k) (by rw [lay_length, M.zeros_length]; omega); have d8 := hr2.frozen (n + k); clear hk2 hr2 d2 d3)
      go_roundw
      case rel =>
        refine ⟨k + 1, by omega, by go_num, HR.out.step hlt ((HK2.out.setCell (p := ⟨Rw k, n + k, none⟩) (fun _ => rfl) _)) ?_ (by rw [List.length_append, hAk.out, M.unit_length]; omega)⟩
        have := HR2.out.set (n + k) 1
        rw [lay_aug hAk.out hlt] at this
        exact this
      case measure => (simp [intOf]; omega)
    · obtain rfl : k = n := by omega
      obtain ⟨L, hm, hL1, hL2⟩ := hR.mat
      have hLL : L = M.aug A := ext_rows hm.grid.shape (M.aug_shape HG.out.shape) fun i hi => by rw [hL1 i hi, M.gr_aug _ _ (by rw [HG.out.shape.1]; exact hi), HG.out.shape.1]
      subst hLL
      have HM := Lib.hid hm
      have HKR := Lib.hid hR.keep
      have c5 := hR.keep.cellS HC2.out (fun x => x)
      have c6 := hm.at_.rows
      have HF2 := Lib.hid (HF.out.keep hR.keep (fun x => x))
      have HBS := Lib.hid (fun b (x : elS qw k Rw b) => show w.heap.size ≤ b from by
        rcases x with rfl | ⟨i, hi, rfl⟩
        · exact HM.out.qB
        · exact HM.out.rB i hi)
      have HFULL := Lib.hid (M.invM_full HG.out.shape HI.out)
      have HE := mElim f qw k k (2 * k) k Rw Cw (M.aug A) wr.drew HF2.out (HM.out.grid.keep ((Keep.refl nob wr).drew) (fun x => x) (fun _ _ x => x)) (fun x => by have := HBS.out f x; have := lt_of_block HF.out; omega) (by omega) (by omega) (by omega)
      have HEL := Lib.hid HE
      have HNP : Hid (¬ elS qw k Rw p) := fun x => by have := HBS.out p x; have := lt_of_block HP.out; omega
      have HNW : Hid (¬ elS qw k Rw pw) := by
        rintro (e | ⟨i, hi, e⟩)
        · exact HM.out.pq e
        · exact HM.out.pR i hi e.symm
      have e4 : decide ((k : Int) < (k : Int)) = false := by simp
      clear HE hR hm hL1 hL2 hlt hk
      go_wp2_with fail
      go_region_held3 (fun w' => w'.cell? ⟨p, 0, none⟩ = some (.pointer (some ⟨f, 0, none⟩)) ∧ w'.cell? ⟨pw, 1, none⟩ = some (.slice (some ⟨qw, 0, none⟩) k k))
        (first | go_keep | exact ⟨hk3.cellS (by exact c5) HNP.out, hk3.cellS (by exact c6) HNW.out⟩)
        (first | (go_at_call 61; refine HEL.out.mono ?_; rintro e w3 ⟨v, R3, C3, rfl, hk3, ho3, hg3, hs3⟩; rw [HFULL.out] at ho3; obtain ⟨ao3, cap3, rfl⟩ := owns_form ho3; have HO3 := Lib.hid ho3; have HG3 := Lib.hid hg3; have HS3 := Lib.hid hs3; clear ho3 hg3 hs3))
      have HK3 := Lib.hid hk3
      have c7 := hk3.cellS (by exact c5) HNP.out
      have c8 := hk3.cellS (by exact c6) HNW.out
      clear hk3 c5 c6
      go_wp2_with fail
      refine (mBlank f k k _ (by omega) (by omega)).mono ?_
      rintro e w4 ⟨po, qo, Ro, Co, rfl, hk4, hm4⟩
      have HK4 := Lib.hid hk4
      have HM4 := Lib.hid hm4
      have c9 := hk4.cellS c8 (fun x => x)
      clear c7 c8 hk4 hm4
      go_wp2_with fail
      clear c9
      go_loopw [91] (fun i wr => ∃ j : Nat, j ≤ k ∧ i = .int .i64 j ∧ FillR w3 wr po f qo k k Ro Co (fun i => (gr (M.elimN (M.aug A) k).1 i).drop k) (fun _ => M.zeros k) j) (fun i _ => k - (intOf i).toNat)
      case atStart => exact ⟨0, Nat.zero_le _, rfl, HK4.out, _, HM4.out, fun i hi => by omega, fun i _ hi => gr_zgrid _ _ _ hi⟩
      case round =>
        obtain ⟨j, hj, rfl, hR⟩ := hrel
        have HR2 := Lib.hid hR
        by_cases hlt : j < k
        · have hG := HG3.out.keep hR.keep (fun x => x) (fun _ _ x => x)
          have d1 := hG.header hlt
          obtain ⟨L, hm, hL1, hL2⟩ := hR.mat
          have d2 := hm.at_.rows
          have d3 := hm.grid.header hlt
          have hrow := hm.grid.row j hlt
          rw [hL2 j (Nat.le_refl _) hlt] at hrow
          have HROW := Lib.hid hrow
          have hlen := HG3.out.shape.2 j hlt
          have HB := Lib.hid ((hG.row j hlt).tail (n := k) (m := k) (by omega) (C3 j - k))
          have HLEN := Lib.hid hlen
          have hcap := HG3.out.cap j hlt
          have n4 : ¬ C3 j = k := by omega
          have n5 : 2 * k - k = k := by omega
          have n6 : (k : Int) ≤ (C3 j : Int) := by omega
          have n7 : (k : Int) ≤ 2 * (k : Int) := by omega
          have n8 : 2 * (k : Int) ≤ (C3 j : Int) := by omega
          have n9 : (0 : Int) ≤ (k : Int) := by omega
          have n10 : k ≤ 2 * k := by omega
          have i1 : (j : Int) < (k : Int) := by omega
          have HAP := Lib.hid (hm.grid.apart j hlt)
          have HPR := Lib.hid (hm.pR j hlt)
          clear hR hG hm hL1 hL2 hrow hlen hcap
          go_wp2_with fail
          go_region_held3 (fun w' => w'.cell? ⟨po, 1, none⟩ = some (.slice (some ⟨qo, 0, none⟩) k k) ∧ w'.cell? ⟨qo, j, none⟩ = some (.slice (some ⟨Ro j, 0, none⟩) k (Co j)))
            (first | go_keep | exact ⟨hk5.cellS (by exact d2) (fun e => HPR.out e.symm), hk5.cellS (by exact d3) (fun e => HAP.out e.symm)⟩)
            ((refine step_copy_bytes (o := ⟨some 106, _, _, _, _, _⟩) rfl (.tmp 102) (.tmp 105) rfl (Ro j) 0 k (Co j) k _ (by rfl) (by rfl) (l := M.zeros k) HROW.out HB.out (Nat.le_refl _) (by rw [M.zeros_length]; omega) ?_; intro w5 hk5 hr5))
          all_goals (go_wp2; go_roundw; (case rel => exact ⟨j + 1, by omega, by go_num, HR2.out.step hlt (((Keep.refl _ wr).drew).trans hk5) (lay_whole (n := k) (M.zeros_length k) HB.out.1 ▸ hr5) HB.out.1⟩); (case measure => (simp [intOf]; omega)))
        · obtain rfl : j = k := by omega
          clear hR hlt
          go_wp2
          go_ret2
          obtain ⟨L, hm, hL1, _⟩ := HR2.out.mat
          have hLL : L = M.invM A := ext_rows hm.grid.shape (M.invM_shape HG.out.shape) fun i hi => by
            rw [hL1 i hi]; unfold M.invM; rw [M.gr_map_drop, HG.out.shape.1]
          subst hLL
          have hsz : w.heap.size ≤ w3.heap.size := Nat.le_trans HKR.out.size HK3.out.size
          exact ⟨po, qo, Ro, Co, rfl, ((HKR.out.drew.fresh HK3.out HBS.out).trans HR2.out.keep), hm.mono hsz⟩

end Go.Proofs.YtgnmebgjfagjmaaGreat
