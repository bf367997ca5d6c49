/- matrix.Mul: row i of the product is the sum of multiples of the rows of the second matrix. No condition. -/
import Derived.Test.YtgnmebgjfagjmaaGreatInv
namespace Go.Proofs.YtgnmebgjfagjmaaGreat
open Go.RowKit
open M (F Row ge gr)

/-- acc + c0 r0 + .., j of them -/
def linTo (acc cs : Row) (rs : List Row) : Nat → Row
  | 0 => acc
  | j + 1 => M.axpy (ge cs j) (gr rs j) (linTo acc cs rs j)
theorem linTo_cons (c : F) (cs r : Row) (rs : List Row) (acc : Row) (j : Nat) : linTo acc (c :: cs) (r :: rs) (j + 1) = linTo (M.axpy c r acc) cs rs j := by
  induction j with
  | zero => simp [linTo, ge, gr]
  | succ j ih =>
    rw [linTo, ih, linTo]
    simp [ge, gr]
theorem linTo_full : ∀ (cs : Row) (rs : List Row) (acc : Row), cs.length = rs.length → linTo acc cs rs cs.length = M.lin acc cs rs := by
  intro cs
  induction cs with
  | nil => intro rs acc _; simp [linTo, M.lin]
  | cons c cs ih =>
    intro rs acc h
    cases rs with
    | nil => simp at h
    | cons r rs => rw [List.length_cons, linTo_cons, M.lin]; exact ih rs _ (by simpa using h)
theorem linTo_length {acc cs : Row} {rs : List Row} {m : Nat} (ha : acc.length = m) : ∀ j, (∀ i, i < j → (gr rs i).length = m) → (linTo acc cs rs j).length = m := by
  intro j
  induction j with
  | zero => intro _; exact ha
  | succ j ih =>
    intro h
    have := ih fun i hi => h i (by omega)
    rw [linTo, M.axpy_length _ _ _ (by rw [h j (by omega), this])]; exact this
/-- the product -/
def prod (A B : List Row) (m : Nat) : List Row := A.map fun r => M.lin (M.zeros m) r B
theorem gr_prod (A B : List Row) (m i : Nat) (h : i < A.length) : gr (prod A B m) i = M.lin (M.zeros m) (gr A i) B := by simp [gr, prod, List.getD_eq_getElem?_getD, h]
theorem shape_mem {n m : Nat} {B : List Row} (h : M.Shape n m B) : ∀ r ∈ B, r.length = m := by
  intro r hr
  obtain ⟨i, hi, rfl⟩ := List.mem_iff_getElem.1 hr
  have := h.2 i (by rw [← h.1]; exact hi)
  simpa [gr, List.getD_eq_getElem?_getD, hi] using this
theorem prod_shape {n k m : Nat} {A B : List Row} (ha : A.length = n) (hb : M.Shape k m B) : M.Shape n m (prod A B m) := ⟨by simp [prod, ha], fun i hi => by
  rw [gr_prod _ _ _ _ (by omega)]; exact M.lin_length _ _ _ _ (M.zeros_length m) (shape_mem hb)⟩

/-- a multiple of a list is added to a row -/
theorem addTo {f b m cap : Nat} {l ls : Row} {sv : Value} {w : World} (hF : Fld w f) (hfb : f ≠ b) (hr : RowAt w b l) (hl : l.length = m) (hs : Bytes w sv m ls) (hm : m ≤ 140737488351232) (x : F) :
    Calls Tryz.prog 57 #[.pointer (some ⟨f, 0, none⟩), .slice (some ⟨b, 0, none⟩) m cap, .int .u8 x.toNat, sv] w fun e w' =>
      e = .returned (.int .i64 0) ∧ Keep (fun k => k = b) w w' ∧ RowAt w' b (M.axpy x ls l) := by
  obtain ⟨c, hc, hh⟩ := hr
  refine (gfAddMul f b 0 m cap x l ls c 5 _ w hF hc hfb hl (fun k hk => by rw [Nat.zero_add]; exact hh k (by omega)) hs (by omega)).mono ?_
  rintro e w' ⟨rfl, hk, cd', hcd, ha⟩
  exact ⟨rfl, hk, RowAt.added hcd ha (by rw [M.axpy_length _ _ _ (by rw [hs.1, hl])]; exact hl)⟩

theorem zc_size : Tryz.zeroCells111.size = 767 := by kernel_rfl
theorem fc0_poly : fc0[0]? = some (.int .i64 285) := by
  have h : 0 < Tryz.zeroCells111.size := by rw [zc_size]; omega
  unfold fc0
  exact set_same h
theorem Fld.poly {w : World} {f : Nat} (h : Fld w f) : w.cell? ⟨f, 0, none⟩ = some (.int .i64 285) := by
  rw [cell_of h]
  have key : ∀ k, (fcR k)[0]? = some (.int .i64 285) := by
    intro k
    induction k with
    | zero => exact fc0_poly
    | succ k ih => simp only [fcR]; rw [set_other (by omega), set_other (by omega), set_other (by omega)]; exact ih
  exact key 255
theorem gfPoly (f : Nat) (w : World) (h : Fld w f) : Calls Tryz.prog 62 #[.pointer (some ⟨f, 0, none⟩)] w fun e w' => e = .returned (.int .i64 285) ∧ w' = w := by
  have h1 := h.poly
  clear h
  go_enter Tryz.func62, Tryz.ntmps62
  go_wp2
  go_ret
  exact ⟨rfl, rfl⟩

/-- row k of the product of which j terms stand; the rows above are done, those below are zeros -/
structure ProR (w wr : World) (p f q n m : Nat) (R C : Nat → Nat) (A B : List Row) (k : Nat) (r : Row) : Prop where
  keep : Keep nob w wr
  mat : ∃ L, Mat wr w.heap.size p f q n m R C L ∧ (∀ i, i < k → gr L i = M.lin (M.zeros m) (gr A i) B) ∧ (∀ i, k < i → i < n → gr L i = M.zeros m) ∧ (k < n → gr L k = r)
theorem ProR.put {w wr w2 : World} {p f q n m : Nat} {R C : Nat → Nat} {A B : List Row} {k : Nat} {r r' : Row} (h : ProR w wr p f q n m R C A B k r) (hk : k < n) (kk : Keep (fun b => b = R k) wr w2) (hr : RowAt w2 (R k) r') (hl : r'.length = m) : ProR w w2 p f q n m R C A B k r' := by
  obtain ⟨L, hm, h1, h2, h3⟩ := h.mat
  refine ⟨h.keep.fresh kk fun b e => e ▸ hm.rB k hk, L.set k r', hm.turn hk kk hr hl, fun i hi => ?_, fun i hi hi' => ?_, fun _ => ?_⟩
  · rw [gr_set' hm.grid.shape.1 hk, if_neg (by omega)]; exact h1 i hi
  · rw [gr_set' hm.grid.shape.1 hk, if_neg (by omega)]; exact h2 i hi hi'
  · rw [gr_set' hm.grid.shape.1 hk, if_pos rfl]
theorem ProR.next {w wr : World} {p f q n m : Nat} {R C : Nat → Nat} {A B : List Row} {k : Nat} (h : ProR w wr p f q n m R C A B k (M.lin (M.zeros m) (gr A k) B)) (hk : k < n) : ProR w wr p f q n m R C A B (k + 1) (M.zeros m) := by
  obtain ⟨L, hm, h1, h2, h3⟩ := h.mat
  refine ⟨h.keep, L, hm, fun i hi => ?_, fun i hi hi' => h2 i (by omega) hi', fun h' => h2 _ (by omega) h'⟩
  by_cases e : i = k
  · rw [e]; exact h3 hk
  · exact h1 i (by omega)

set_option maxRecDepth 100000 in
set_option maxHeartbeats 4000000 in
theorem mMul (pm po f qm qo n k c : Nat) (Rm Cm Ro Co : Nat → Nat) (A B : List Row) (w : World) (hF : Fld w f) (hpm : MatAt w pm f qm n) (hA : Grid w qm n k Rm Cm A) (hpo : MatAt w po f qo k) (hB : Grid w qo k c Ro Co B)
    (h1 : 1 ≤ n) (h2 : n ≤ 256) (h3 : 1 ≤ k) (h4 : k ≤ 256) (_h5 : 1 ≤ c) (h6 : c ≤ 256) :
    Calls Tryz.prog 42 #[.pointer (some ⟨pm, 0, none⟩), .pointer (some ⟨po, 0, none⟩)] w fun e w' =>
      ∃ p q R C, e = .returned (.tuple #[.pointer (some ⟨p, 0, none⟩), .int .i64 0]) ∧ Keep nob w w' ∧ Mat w' w.heap.size p f q n c R C (prod A B c) := by
  have c1 := hpm.rows
  have c2 := hpm.field
  have c3 := hpo.rows
  have c4 := hpo.field
  have c5 := hA.header (i := 0) (by omega)
  have c6 := hB.header (i := 0) (by omega)
  have HF := Lib.hid hF
  have HPM := Lib.hid hpm
  have HPO := Lib.hid hpo
  have HA := Lib.hid hA
  have HB := Lib.hid hB
  have i0 : (0 : Int) < (n : Int) := by omega
  have i1 : (0 : Int) < (k : Int) := by omega
  have i2 : 0 < k := by omega
  have i3 : 0 < n := by omega
  have e0 : ((k : Int) != (k : Int)) = false := by simp
  clear hF hpm hpo hA hB
  go_enter Tryz.func42, Tryz.ntmps42
  go_wp2_with fail
  go_quiet ((go_at_call 62; refine Calls.quiet_of_same (gfPoly _ _ ?_); exact HF.out))
  obtain ⟨na, hna⟩ : ∃ na, na = nq := ⟨_, rfl⟩
  subst hna
  go_wp2_with fail
  go_quiet (fail)
  go_wp2_with fail
  go_region_held3 (fun w' => w'.cell? ⟨pm, 0, none⟩ = some (.pointer (some ⟨f, 0, none⟩)) ∧ w'.cell? ⟨pm, 1, none⟩ = some (.slice (some ⟨qm, 0, none⟩) n n) ∧ w'.cell? ⟨po, 1, none⟩ = some (.slice (some ⟨qo, 0, none⟩) k k) ∧ w'.cell? ⟨qo, 0, none⟩ = some (.slice (some ⟨Ro 0, 0, none⟩) c (Co 0)))
    (first | go_keep | exact ⟨hk1.cellS (by exact c2) (fun x => x), hk1.cellS (by exact c1) (fun x => x), hk1.cellS (by exact c3) (fun x => x), hk1.cellS (by exact c6) (fun x => x)⟩)
    (first | (go_at_call 59; refine (mBlank f n c _ (by omega) (by omega)).mono ?_; rintro e w1 ⟨p, q, R, C, rfl, hk1, hm1⟩))
  have HK1 := Lib.hid hk1
  have HM1 := Lib.hid hm1
  have c7 := hk1.cellS (by exact c1) (fun x => x)
  have HKW := Lib.hid ((Keep.refl nob w).drewN (na + nq + 1))
  clear hk1 hm1 c3 c4 c5 c6
  go_wp2_with fail
  clear c7
  go_loopw [63] (fun i wr => ∃ t : Nat, t ≤ n ∧ i = .int .i64 t ∧ ProR (w.drewN (na + nq + 1)) wr p f q n c R C A B t (M.zeros c)) (fun i _ => n - (intOf i).toNat)
  case atStart => exact ⟨0, Nat.zero_le _, rfl, HK1.out, _, HM1.out, fun i hi => by omega, fun i _ hi => gr_zgrid _ _ _ hi, fun hi => gr_zgrid _ _ _ hi⟩
  case round =>
    obtain ⟨t, ht, rfl, hR⟩ := hrel
    have HR := Lib.hid hR
    by_cases hlt : t < n
    · have HG := Lib.hid (HA.out.keep (HKW.out.trans hR.keep) (fun x => x) (fun _ _ x => x))
      have d1 := HG.out.header hlt
      have i4 : (t : Int) < (n : Int) := by omega
      clear hR
      obtain ⟨wo, rfl⟩ : ∃ wo : World, wo = wr := ⟨_, rfl⟩
      go_wp2_with fail
      clear d1
      go_loopw [70] (fun j wi => ∃ s : Nat, s ≤ k ∧ j = .int .i64 s ∧ ProR (w.drewN (na + nq + 1)) wi p f q n c R C A B t (linTo (M.zeros c) (gr A t) B s)) (fun j _ => k - (intOf j).toNat)
      case atStart => exact ⟨0, Nat.zero_le _, rfl, HR.out⟩
      case round =>
        obtain ⟨s, hs, rfl, hV⟩ := hrel
        have HV := Lib.hid hV
        by_cases hsk : s < k
        · have hG2 := HA.out.keep (HKW.out.trans hV.keep) (fun x => x) (fun _ _ x => x)
          have d1 := hG2.cell (j := s) hlt hsk
          have hB2 := HB.out.keep (HKW.out.trans hV.keep) (fun x => x) (fun _ _ x => x)
          have d2 := hB2.header hsk
          have HBY := Lib.hid (hB2.bytes hsk)
          obtain ⟨L, hm, _, _, hL⟩ := hV.mat
          have d3 := hm.at_.rows
          have d4 := hm.grid.header hlt
          have hrow := hm.grid.row t hlt
          rw [hL hlt] at hrow
          have HROW := Lib.hid hrow
          have hsh := hm.grid.shape.2 t hlt
          rw [hL hlt] at hsh
          have HLN := Lib.hid hsh
          have HF2 := Lib.hid (HF.out.keep (HKW.out.trans hV.keep) (fun x => x))
          have HOLD : Hid (∀ x, x < w.heap.size → x ≠ R t) := by
            intro x h2 e
            have h1 := hm.rB t hlt
            rw [e] at h2
            exact absurd h2 (Nat.not_lt.2 h1)
          have HPR := Lib.hid (hm.pR t hlt)
          have HQR := Lib.hid (hm.grid.apart t hlt)
          have d5 := (HKW.out.trans hV.keep).cellS c2 (fun x => x)
          have d6 := (HKW.out.trans hV.keep).cellS (HPO.out.rows) (fun x => x)
          have i5 : (s : Int) < (k : Int) := by omega
          clear hG2 hB2 hV hm hL hrow hsh
          go_wp2_with fail
          go_region_held3 (fun w' => w'.cell? ⟨pm, 0, none⟩ = some (.pointer (some ⟨f, 0, none⟩)) ∧ w'.cell? ⟨p, 1, none⟩ = some (.slice (some ⟨q, 0, none⟩) n n) ∧ w'.cell? ⟨q, t, none⟩ = some (.slice (some ⟨R t, 0, none⟩) c (C t)) ∧ w'.cell? ⟨po, 1, none⟩ = some (.slice (some ⟨qo, 0, none⟩) k k) ∧ w'.cell? ⟨qo, s, none⟩ = some (.slice (some ⟨Ro s, 0, none⟩) c (Co s)))
            (first | go_keep | exact ⟨hk5.cellS (by exact d5) (HOLD.out _ (lt_of_block HPM.out)), hk5.cellS (by exact d3) (fun e => HPR.out e.symm), hk5.cellS (by exact d4) (fun e => HQR.out e.symm), hk5.cellS (by exact d6) (HOLD.out _ (lt_of_block HPO.out)), hk5.cellS (by exact d2) (HOLD.out _ HB.out.qlt)⟩)
            (first | (go_at_call 57; refine (addTo (ls := gr B s) ?_ (HOLD.out f (lt_of_block HF.out)) ?_ HLN.out ?_ (by omega) _).mono ?_; exact HF2.out; exact HROW.out; exact HBY.out.keep0 ((Keep.refl nob _).drew); rintro e w5 ⟨rfl, hk5, hr5⟩))
          have hlin := linTo_length (acc := M.zeros c) (cs := gr A t) (rs := B) (m := c) (M.zeros_length c) (s + 1) (fun i hi => HB.out.shape.2 i (by omega))
          have HNX := Lib.hid (HV.out.put hlt (((Keep.refl _ wr).drew).trans hk5) hr5 hlin)
          clear hk5 hr5 hlin d1 d2 d3 d4 d5 d6
          go_wp2
          go_roundw
          case rel => exact ⟨s + 1, by omega, by go_num, HNX.out⟩
          case measure => (simp [intOf]; omega)
        · obtain rfl : s = k := by omega
          have hfull := linTo_full (gr A t) B (M.zeros c) (by rw [HA.out.shape.2 t hlt, HB.out.shape.1])
          rw [HA.out.shape.2 t hlt] at hfull
          rw [hfull] at hV
          have HV2 := Lib.hid hV
          clear hV hsk hs hfull
          go_wp2
          go_roundw
          case rel => exact ⟨t + 1, by omega, by go_num, HV2.out.next hlt⟩
          case measure => (simp [intOf]; omega)
    · obtain rfl : t = n := by omega
      clear hR hlt
      go_wp2
      go_ret2
      obtain ⟨L, hm, hL, _⟩ := HR.out.mat
      have e : L = prod A B c := ext_rows hm.grid.shape (prod_shape HA.out.shape.1 HB.out.shape) fun i hi => (hL i hi).trans (gr_prod _ _ _ _ (by rw [HA.out.shape.1]; exact hi)).symm
      exact ⟨p, q, R, C, rfl, HKW.out.trans HR.out.keep, e ▸ hm⟩

end Go.Proofs.YtgnmebgjfagjmaaGreat
