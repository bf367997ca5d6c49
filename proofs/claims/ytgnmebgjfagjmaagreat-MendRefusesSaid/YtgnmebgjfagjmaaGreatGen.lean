/- code.generator: the values at 0 to n - 1 of the polynomials that are 1 at one of the first k points. No condition. -/
import Derived.Test.YtgnmebgjfagjmaaGreatSS
namespace Go.Proofs.YtgnmebgjfagjmaaGreat
open Go.RowKit
open M (F Row ge gr)

/-- the points 0 to n - 1 -/
def pts (n : Nat) : Row := (List.range n).map UInt8.ofNat
theorem pts_length (n : Nat) : (pts n).length = n := by simp [pts]
theorem ge_pts (n i : Nat) (h : i < n) : ge (pts n) i = UInt8.ofNat i := by simp [pts, ge, List.getD_eq_getElem?_getD, h]
theorem ofNat_toNat {i : Nat} (h : i < 256) : (UInt8.ofNat i).toNat = i := by rw [UInt8.toNat_ofNat']; exact Nat.mod_eq_of_lt h
theorem ofNat_inj {i j : Nat} (hi : i < 256) (hj : j < 256) (h : UInt8.ofNat i = UInt8.ofNat j) : i = j := by
  have := congrArg UInt8.toNat h
  rwa [ofNat_toNat hi, ofNat_toNat hj] at this
theorem pts_take (n k : Nat) (h : k ≤ n) : (pts n).take k = pts k := by
  refine M.ext_row (n := k) (by rw [List.length_take, pts_length]; omega) (pts_length k) fun j hj => ?_
  rw [ge_pts _ _ hj]
  have : ge ((pts n).take k) j = ge (pts n) j := by simp [ge, List.getD_eq_getElem?_getD, hj]
  rw [this, ge_pts _ _ (by omega)]
theorem pts_nodup (k : Nat) (h : k ≤ 256) : (pts k).Nodup := by
  unfold pts
  rw [List.nodup_iff_pairwise_ne, List.pairwise_map]
  refine List.Pairwise.imp_of_mem (R := fun a b => a ≠ b) (fun ha hb hne e => ?_) (List.nodup_iff_pairwise_ne.1 List.nodup_range)
  rw [List.mem_range] at ha hb
  exact hne (ofNat_inj (by omega) (by omega) e)
/-- points that are all unlike make a matrix without a kernel -/
theorem vander_inj {k : Nat} {ps : Row} (hl : ps.length = k) (hn : ps.Nodup) : M.Inj k (vander ps k) := by
  intro u hu hz
  refine M.roots k u ps hu hl hn fun p hp => ?_
  obtain ⟨i, hi, rfl⟩ := List.mem_iff_getElem.1 hp
  have h := hz i
  rw [gr_vander _ _ _ hi, M.dot_pows _ _ _ _ (by omega), M.one_mul] at h
  have e : ge ps i = ps[i] := by simp [ge, List.getD_eq_getElem?_getD, hi]
  rwa [e] at h
/-- the generator -/
def gen (n k : Nat) : List Row := prod (vander (pts n) k) (M.invM (vander (pts k) k)) k
theorem vsq (k : Nat) : M.Shape k k (vander (pts k) k) := vander_shape' (pts_length k)
theorem gen_shape (n k : Nat) : M.Shape n k (gen n k) := prod_shape (by simp [vander, pts_length]) (M.invM_shape (vsq k))

theorem RowAt.part {w : World} {b n : Nat} {l : Row} (h : RowAt w b l) (hn : n ≤ l.length) (cap : Nat) : Bytes w (.slice (some ⟨b, 0, none⟩) n cap) n (l.take n) := by
  refine ⟨by rw [List.length_take]; omega, _, cap, rfl, fun e => (by cases e), fun _ => ⟨b, 0, rfl, h.lt, fun i hi => ?_⟩⟩
  have : ge (l.take n) i = ge l i := by simp [ge, List.getD_eq_getElem?_getD, hi]
  rw [this, Nat.zero_add]; exact h.cell (by omega)

set_option maxRecDepth 100000 in
set_option maxHeartbeats 4000000 in
theorem cGen (f n k : Nat) (w : World) (hF : Fld w f) (h1 : 1 ≤ k) (h2 : k ≤ n) (h3 : n ≤ 255) :
    Calls Tryz.prog 28 #[.pointer (some ⟨f, 0, none⟩), .int .i64 n, .int .i64 k] w fun e w' =>
      ∃ v, e = .returned v ∧ Keep nob w w' ∧ SS w' v n k (gen n k) (fun b => w.heap.size ≤ b) := by
  have hmk := run_make_row' (P := Tryz.prog) 42 5 (.int .u8 0) 1 Tryz.underlying42 info_u8 rfl .i64 .i64 n (by omega) (by omega)
  have HF := Lib.hid hF
  clear hF
  go_enter Tryz.func28, Tryz.ntmps28
  go_wp2_with fail
  go_loopw [21] (fun i wr => ∃ j : Nat, j ≤ n ∧ i = .int .i64 j ∧ Keep nob w wr ∧ RowAt wr w.heap.size (mix (pts n) (M.zeros n) n j)) (fun i _ => n - (intOf i).toNat)
  case atStart =>
    refine ⟨0, Nat.zero_le _, rfl, (Keep.refl _ _).alloc _, ?_⟩
    rw [mix_zero (M.zeros_length n)]
    exact ⟨_, heap_alloc_at w _, fun j hj => made_zero n j (by rw [M.zeros_length] at hj; exact hj)⟩
  case round =>
    obtain ⟨j, hj, rfl, hK, hR⟩ := hrel
    have HK := Lib.hid hK
    have HR := Lib.hid hR
    by_cases hlt : j < n
    · have d1 := hR.cell (j := j) (by rw [mix_length]; exact hlt)
      have d2 := hR.frozen j
      have i1 : (j : Int) < (n : Int) := by omega
      have i2 : (j : Int) < 256 := by omega
      clear hK hR
      go_wp2
      go_roundw
      case rel =>
        refine ⟨j + 1, by omega, by go_num, HK.out.setCell (fun h => absurd h (Nat.lt_irrefl _)) _, ?_⟩
        have := HR.out.set j (ge (pts n) j)
        rw [mix_set _ _ _ _ hlt, ge_pts _ _ hlt, ofNat_toNat (by omega)] at this
        exact this
      case measure => (simp [intOf]; omega)
    · obtain rfl : j = n := by omega
      rw [mix_full (pts_length j)] at hR
      have HP := Lib.hid hR
      clear hlt hK hR hj
      go_wp2_with fail
      refine (mVander f j k (pts j) _ _ (HF.out.keep HK.out (fun x => x)) (HP.out.bytes (pts_length j) j) (by omega) (by omega) h1 (by omega)).mono ?_
      rintro e w1 ⟨p1, q1, R1, C1, rfl, hk1, hm1⟩
      have HK1 := Lib.hid hk1
      have HM1 := Lib.hid hm1
      have i1 : (k : Int) ≤ (j : Int) := by omega
      clear hk1 hm1
      go_wp2_with fail
      have hb2 := (HP.out.keep HK1.out (fun x => x)).part (n := k) (by rw [pts_length]; exact h2) j
      rw [pts_take _ _ h2] at hb2
      have HB2 := Lib.hid hb2
      clear hb2
      refine (mVander f k k (pts k) _ _ ((HF.out.keep HK.out (fun x => x)).keep HK1.out (fun x => x)) HB2.out (by omega) (by omega) h1 (by omega)).mono ?_
      rintro e w2 ⟨p2, q2, R2, C2, rfl, hk2, hm2⟩
      have HK2 := Lib.hid hk2
      have HM2 := Lib.hid hm2
      clear hk2 hm2
      go_wp2_with fail
      have KA := Lib.hid ((HK.out.trans HK1.out).trans HK2.out)
      refine (mInvert p2 f q2 k R2 C2 _ _ (HF.out.keep KA.out (fun x => x)) HM2.out.at_ HM2.out.grid (vander_inj (pts_length k) (pts_nodup k (by omega))) h1 (by omega)).mono ?_
      rintro e w3 ⟨p3, q3, R3, C3, rfl, hk3, hm3⟩
      have KB := Lib.hid (KA.out.trans hk3)
      have HM3 := Lib.hid hm3
      have HM4 := Lib.hid ((HM1.out.keep0 HK2.out).keep0 hk3)
      clear hk3 hm3
      go_wp2_with fail
      refine (mMul p1 p3 f q1 q3 j k k R1 C1 R3 C3 _ _ _ (HF.out.keep KB.out (fun x => x)) HM4.out.at_ HM4.out.grid HM3.out.at_ HM3.out.grid (by omega) (by omega) h1 (by omega) h1 (by omega)).mono ?_
      rintro e w4 ⟨p4, q4, R4, C4, rfl, hk4, hm4⟩
      have KC := Lib.hid (KB.out.trans hk4)
      have HM5 := Lib.hid hm4
      clear hk4 hm4
      go_wp2_with fail
      refine (mRows p4 f q4 j k R4 C4 _ _ HM5.out.at_ HM5.out.grid (by omega) (by omega)).mono ?_
      rintro e w5 ⟨v, rfl, hk5, hs5⟩
      have KD := Lib.hid (KC.out.trans hk5)
      have HS := Lib.hid (hs5.mono (U := fun b => w.heap.size ≤ b) fun b hb => Nat.le_trans KC.out.size hb)
      clear hk5 hs5
      go_wp2
      go_ret
      exact ⟨_, rfl, KD.out, HS.out⟩

end Go.Proofs.YtgnmebgjfagjmaaGreat
