/- matrix.eliminate: the rows are brought to the reduced form, the pivots are answered. No condition. -/
import Derived.Test.YtgnmebgjfagjmaaGreatElimS
import Derived.WalkMore
namespace Go.Proofs.YtgnmebgjfagjmaaGreat
open Go.RowKit
open M (F Row ge gr)

/-- whole numbers in their cells -/
def ics (l : List Nat) : List Value := l.map fun (n : Nat) => Value.int .i64 (n : Int)
theorem ics_length (l : List Nat) : (ics l).length = l.length := by simp [ics]
theorem ics_snoc (l : List Nat) (c : Nat) : ics l ++ [.int .i64 (c : Int)] = ics (l ++ [c]) := by simp [ics]
theorem info_int : (Tryz.prog.info? 3).map (fun i => (i.zero, i.size, i.bytes)) = some (some (.int .i64 0), 1, 8) := by kernel_rfl
theorem owns_form {w : World} {base : Nat} {e : TypeId} {size : Nat} {v : Value} {n : Nat} {xs : List Value} (h : w.ownsRow base e size v n xs) : ∃ ao cap, v = .slice ao n cap := by
  rcases h.2 with ⟨rfl, h0⟩ | ⟨g, cap, cur, rfl, _⟩
  · exact ⟨none, 0, by rw [h0]⟩
  · exact ⟨_, cap, rfl⟩
theorem owns_keep {S : Nat → Prop} {w w' : World} {base : Nat} {e : TypeId} {size : Nat} {v : Value} {n : Nat} {xs : List Value} (h : w.ownsRow base e size v n xs) (k : Keep S w w') (hn : ∀ b, base ≤ b → ¬ S b) : w'.ownsRow base e size v n xs := by
  refine ⟨h.1, ?_⟩
  rcases h.2 with h0 | ⟨g, cap, cur, rfl, hb, hg, rest⟩
  · exact .inl h0
  · exact .inr ⟨g, cap, cur, rfl, hb, k.some hg (hn g hb), rest⟩
theorem owns_mono {w : World} {base base' : Nat} {e : TypeId} {size : Nat} {v : Value} {n : Nat} {xs : List Value} (h : w.ownsRow base e size v n xs) (hb : base' ≤ base) : w.ownsRow base' e size v n xs := by
  refine ⟨h.1, ?_⟩
  rcases h.2 with h0 | ⟨g, cap, cur, e, hg, rest⟩
  · exact .inl h0
  · exact .inr ⟨g, cap, cur, e, Nat.le_trans hb hg, rest⟩
theorem src_one (w : World) (u : Value) (t : TypeId) : Src (w.alloc (.cells #[u] t)) (.slice (some ⟨w.heap.size, 0, none⟩) 1 1) 1 [u] := by
  refine ⟨_, 1, rfl, fun e => (by cases e), fun _ => ⟨w.heap.size, 0, rfl, by rw [size_alloc]; omega, fun j x hx => ?_⟩⟩
  cases j with
  | zero => simp at hx; subst hx; rw [cell_of (heap_alloc_at w _)]; rfl
  | succ j => simp at hx

theorem clearN_step {L : List Row} {n a col i : Nat} (hL : L.length = n) (hi : i < n) (hne : i ≠ a) :
    (M.clearN L a col i).set i (M.axpy (ge (gr (M.clearN L a col i) i) col) (gr (M.clearN L a col i) a) (gr (M.clearN L a col i) i)) = M.clearN L a col (i + 1) := by
  have e1 : gr (M.clearN L a col i) i = gr L i := by rw [M.gr_clear, if_neg (by omega)]
  have e2 : gr (M.clearN L a col i) a = gr L a := by rw [M.gr_clear, if_neg (by omega)]
  rw [e1, e2]
  apply List.ext_getElem
  · simp [M.clearN]
  · intro k h1 h2
    have hk : k < n := by rw [M.clearN_length] at h2; omega
    have g : ∀ (A : List Row) (h : k < A.length), A[k] = gr A k := fun A h => by simp [gr, h]
    rw [g _ h1, g _ h2, gr_set' (n := n) (by rw [M.clearN_length]; exact hL) hi, M.gr_clear, M.gr_clear]
    by_cases e : k = i
    · subst e; rw [if_pos rfl, if_pos ⟨by omega, hne⟩]
    · rw [if_neg e]
      by_cases h : k < i ∧ k ≠ a
      · rw [if_pos h, if_pos ⟨by omega, h.2⟩]
      · rw [if_neg h, if_neg fun x => h ⟨by omega, x.2⟩]
theorem clearN_skip {L : List Row} {a col : Nat} : M.clearN L a col a = M.clearN L a col (a + 1) := by
  apply List.ext_getElem
  · simp [M.clearN]
  · intro k h1 h2
    have g : ∀ (A : List Row) (h : k < A.length), A[k] = gr A k := fun A h => by simp [gr, h]
    rw [g _ h1, g _ h2, M.gr_clear, M.gr_clear]
    by_cases h : k < a ∧ k ≠ a
    · rw [if_pos h, if_pos ⟨by omega, h.2⟩]
    · rw [if_neg h, if_neg fun x => h ⟨by omega, x.2⟩]
theorem elimN_none {L0 : List Row} {c n : Nat} (hl : (M.elimN L0 c).1.length = n) (h : ∀ k, (M.elimN L0 c).2.length ≤ k → k < n → ge (gr (M.elimN L0 c).1 k) c = 0) : M.elimN L0 (c + 1) = M.elimN L0 c := by
  show M.elimStep c (M.elimN L0 c) = _
  unfold M.elimStep
  rw [M.findP_none (fun k h1 h2 => h k h1 (by omega))]
theorem elimN_some {L0 : List Row} {c n t : Nat} (hl : (M.elimN L0 c).1.length = n) (h1 : (M.elimN L0 c).2.length ≤ t) (h2 : t < n) (h3 : ∀ k, (M.elimN L0 c).2.length ≤ k → k < t → ge (gr (M.elimN L0 c).1 k) c = 0) (h4 : ge (gr (M.elimN L0 c).1 t) c ≠ 0) :
    M.elimN L0 (c + 1) = (M.clearN (M.scaleAt (M.swapL (M.elimN L0 c).1 (M.elimN L0 c).2.length t) (M.elimN L0 c).2.length (M.inv (ge (gr (M.elimN L0 c).1 t) c))) (M.elimN L0 c).2.length c n, (M.elimN L0 c).2 ++ [c]) := by
  show M.elimStep c (M.elimN L0 c) = _
  unfold M.elimStep
  rw [M.findP_some h1 (by omega) h3 h4]
  have e : gr (M.swapL (M.elimN L0 c).1 (M.elimN L0 c).2.length t) (M.elimN L0 c).2.length = gr (M.elimN L0 c).1 t := by
    rw [M.gr_swap _ _ _ _ (by omega) (by omega)]
    split
    · rename_i e; rw [e]
    · rw [if_pos rfl]
  show (M.clearN _ _ _ _, _) = _
  rw [e, M.scaleAt_length, M.swap_length, hl]

/-- what eliminate may write -/
def elS (q n : Nat) (R : Nat → Nat) : Nat → Prop := fun b => b = q ∨ ∃ k, k < n ∧ b = R k
def elR (n : Nat) (R0 R : Nat → Nat) : Prop := ∀ k, k < n → ∃ k', k' < n ∧ R k = R0 k'
/-- behind so many columns; the boxes of the field and of the rows -/
structure ElW (w wr : World) (f q n cap m : Nat) (R0 : Nat → Nat) (L : List Row) (p : List Nat) (v : Value) (R C : Nat → Nat) : Prop where
  keep : Keep (elS q n R0) w wr
  bf : wr.heap[w.heap.size]? = some (.cells #[.pointer (some ⟨f, 0, none⟩)] 61 (0, 0))
  br : wr.heap[w.heap.size + 1]? = some (.cells #[.slice (some ⟨q, 0, none⟩) n cap] 32 (0, 0))
  fld : Fld wr f
  piv : wr.ownsRow (w.heap.size + 2) 3 1 v p.length (ics p)
  grid : Grid wr q n m R C L
  sub : elR n R0 R
section
variable {w wr w2 : World} {f q n cap m : Nat} {R0 R C R' C' : Nat → Nat} {L L' : List Row} {p : List Nat} {v : Value} {T : Nat → Prop}
theorem ElW.next (h : ElW w wr f q n cap m R0 L p v R C) (hlt : ∀ b, elS q n R0 b → b < w.heap.size) (hf : ¬ elS q n R0 f) (k : Keep T wr w2) (hT : ∀ b, T b → elS q n R0 b) (g : Grid w2 q n m R' C' L') (hR : elR n R0 R') : ElW w w2 f q n cap m R0 L' p v R' C' :=
  ⟨h.keep.step k fun i _ x => hT i x, k.some h.bf fun x => Nat.lt_irrefl _ (hlt _ (hT _ x)), k.some h.br fun x => by have := hlt _ (hT _ x); omega, h.fld.keep k fun x => hf (hT _ x),
    owns_keep h.piv k fun b hb x => by have := hlt _ (hT _ x); omega, g, hR⟩
theorem ElW.drewN (h : ElW w wr f q n cap m R0 L p v R C) (d : Nat) : ElW w (wr.drewN d) f q n cap m R0 L p v R C :=
  ⟨h.keep.drewN d, h.bf, h.br, h.fld, h.piv, h.grid.keep ((Keep.refl nob wr).drewN d) (fun x => x) (fun _ _ x => x), h.sub⟩
theorem ElW.start {w : World} {C0 : Nat → Nat} (hF : Fld w f) (h : Grid w q n m R0 C0 L) : ElW w ((w.alloc (.cells #[.pointer (some ⟨f, 0, none⟩)] 61)).alloc (.cells #[.slice (some ⟨q, 0, none⟩) n cap] 32)) f q n cap m R0 L [] (.slice none 0 0) R0 C0 := by
  have k1 : Keep nob w ((w.alloc (.cells #[.pointer (some ⟨f, 0, none⟩)] 61)).alloc (.cells #[.slice (some ⟨q, 0, none⟩) n cap] 32)) := ((Keep.refl _ _).alloc _).alloc _
  refine ⟨k1.of_nob, heap_alloc_ne (heap_alloc_at w _), ?_, hF.keep k1 (fun x => x), World.ownsRow_nil _ _ _ _, h.keep k1 (fun x => x) (fun _ _ x => x), fun k hk => ⟨k, hk, rfl⟩⟩
  have := heap_alloc_at (w.alloc (.cells #[.pointer (some ⟨f, 0, none⟩)] 61)) (.cells #[.slice (some ⟨q, 0, none⟩) n cap] 32)
  rw [size_alloc] at this
  exact this
theorem ElW.push {v' : Value} (h : ElW w wr f q n cap m R0 L p v R C) (c : Nat) (k : (wr.alloc (.cells #[.int .i64 (c : Int)] 3)).grownBy w2 v.ownBlock) (ho : w2.ownsRow (w.heap.size + 2) 3 1 v' (p.length + 1) (ics p ++ [.int .i64 (c : Int)])) (hlt : ∀ b, elS q n R0 b → b < w.heap.size) (hfl : f < w.heap.size) :
    ElW w w2 f q n cap m R0 L (p ++ [c]) v' R C := by
  have hv := owns_block h.piv
  have kk : Keep (fun b => v.ownBlock = some b) wr w2 := ((Keep.refl _ _).alloc _).grown k fun b hb _ => hb
  refine ⟨h.keep.step kk fun i hi x => by have := hv i x; omega, kk.some h.bf fun x => by have := hv _ x; omega, kk.some h.br fun x => by have := hv _ x; omega, h.fld.keep kk fun x => by have := hv _ x; omega, ?_, ?_, h.sub⟩
  · rw [ics_snoc] at ho; rw [List.length_append]; exact ho
  · refine h.grid.keep kk (fun x => ?_) (fun i hi x => ?_)
    · have := hv _ x; have := hlt q (.inl rfl); omega
    · obtain ⟨k', hk', e⟩ := h.sub i hi
      have := hv _ x; have := hlt (R i) (.inr ⟨k', hk', e⟩); omega
theorem ElW.cbr (h : ElW w wr f q n cap m R0 L p v R C) : wr.cell? ⟨w.heap.size + 1, 0, none⟩ = some (.slice (some ⟨q, 0, none⟩) n cap) := by rw [cell_of h.br]; rfl
theorem ElW.cbf (h : ElW w wr f q n cap m R0 L p v R C) : wr.cell? ⟨w.heap.size, 0, none⟩ = some (.pointer (some ⟨f, 0, none⟩)) := by rw [cell_of h.bf]; rfl
theorem ElW.lt (h : ElW w wr f q n cap m R0 L p v R C) (hlt : ∀ b, elS q n R0 b → b < w.heap.size) (hf : ¬ elS q n R0 f) : ∀ k, k < n → R k ≠ f ∧ R k ≠ w.heap.size + 1 ∧ R k ≠ w.heap.size := by
  intro k hk
  obtain ⟨k', hk', e⟩ := h.sub k hk
  have hs : elS q n R0 (R k) := .inr ⟨k', hk', e⟩
  have := hlt _ hs
  exact ⟨fun x => hf (x ▸ hs), by omega, by omega⟩
end
theorem gr_swap_at {L : List Row} {n a t : Nat} (hl : L.length = n) (ha : a < n) (ht : t < n) : gr (M.swapL L a t) a = gr L t := by
  rw [M.gr_swap _ _ _ _ (by omega) (by omega)]
  split
  · rename_i e; rw [e]
  · rw [if_pos rfl]
theorem F_bne {x : F} (h : x ≠ 0) : ((x.toNat : Int) != 0) = true := by
  have := M.ne_toNat h
  rw [bne_iff_ne]; omega
theorem elR_swap {n : Nat} {R0 R : Nat → Nat} (h : elR n R0 R) {i j : Nat} (hi : i < n) (hj : j < n) : elR n R0 (swapF R i j) := by
  intro k hk
  unfold swapF; split
  · exact h i hi
  · split
    · exact h j hj
    · exact h k hk
theorem elR_S {q n : Nat} {R0 R : Nat → Nat} (h : elR n R0 R) {i : Nat} (hi : i < n) : ∀ b, b = R i → elS q n R0 b := fun b e => by
  obtain ⟨k', hk', e'⟩ := h i hi
  exact .inr ⟨k', hk', e.trans e'⟩

set_option maxRecDepth 100000 in
set_option maxHeartbeats 4000000 in
theorem mElim (f q n cap m cols : Nat) (R0 C0 : Nat → Nat) (L0 : List Row) (w : World) (hF : Fld w f) (h : Grid w q n m R0 C0 L0) (hfS : ¬ elS q n R0 f) (hc : cols ≤ m) (hn : n ≤ 1024) (hm : m ≤ 1024) :
    Calls Tryz.prog 61 #[.pointer (some ⟨f, 0, none⟩), .slice (some ⟨q, 0, none⟩) n cap, .int .i64 cols] w fun e w' =>
      ∃ v R C, e = .returned v ∧ Keep (elS q n R0) w w' ∧ w'.ownsRow w.heap.size 3 1 v (M.elimN L0 cols).2.length (ics (M.elimN L0 cols).2) ∧ Grid w' q n m R C (M.elimN L0 cols).1 ∧ elR n R0 R := by
  have HLT : Hid (∀ b, elS q n R0 b → b < w.heap.size) := by
    rintro b (rfl | ⟨k, hk, rfl⟩)
    · exact h.qlt
    · exact h.rlt hk
  have HS := Lib.hid hfS
  have HFL := Lib.hid (lt_of_block hF)
  have HG := Lib.hid h
  have HF := Lib.hid hF
  have HSH := Lib.hid h.shape
  clear h hF hfS
  go_enter Tryz.func61, Tryz.ntmps61
  go_wp2_with fail
  go_step3
  go_wp2_with fail
  go_step3
  go_wp2_with fail
  go_loopg [7, 21] cols (fun g v i wr => ∃ c R C, c + g = cols ∧ i = .int .i64 (c : Int) ∧ ElW w wr f q n cap m R0 (M.elimN L0 c).1 (M.elimN L0 c).2 v R C)
  case atStart => exact ⟨0, R0, C0, by omega, rfl, ElW.start HF.out HG.out⟩
  case round =>
    obtain ⟨c, R, C, hcg, rfl, hW⟩ := hrel
    obtain ⟨ao, vcap, rfl⟩ := owns_form hW.piv
    have HW := Lib.hid hW
    have hcnt := M.elimN_count HSH.out c
    have hsh := M.elimN_shape HSH.out c
    have Hcg := Lib.hid hcg
    by_cases hlt : c < cols
    · have hcr := hW.cbr
      generalize hA : (M.elimN L0 c).2.length = a at *
      generalize hLL : (M.elimN L0 c).1 = L at *
      have HA := Lib.hid hA
      have HLL := Lib.hid hLL
      have HSc := Lib.hid hsh
      clear hA hLL hW hsh hcg
      obtain ⟨wo, rfl⟩ : ∃ wo : World, wo = wr := ⟨_, rfl⟩
      go_wp2_with fail
      go_loopg [13] (n - a) (fun g i wi => ∃ t, t + g = n ∧ a ≤ t ∧ i = .int .i64 (t : Int) ∧ wi = wo ∧ ∀ k, a ≤ k → k < t → ge (gr L k) c = 0)
      case atStart => exact ⟨a, by omega, Nat.le_refl _, rfl, rfl, fun k h1 h2 => by omega⟩
      case round =>
        obtain ⟨t, htg, hat, rfl, rfl, hz⟩ := hrel
        have HZ := Lib.hid hz
        have Htg := Lib.hid htg
        clear hz htg
        by_cases htn : t < n
        · have d1 := HW.out.grid.header htn
          have i1 : (t : Int) < (n : Int) := by omega
          have i2 : (c : Int) < (m : Int) := by omega
          by_cases hz0 : ge (gr L t) c = 0
          · have d2 : wr.cell? ⟨R t, c, none⟩ = some (.int .u8 0) := by
              rw [HW.out.grid.cell htn (by omega), hz0]; rfl
            have HZ0 := Lib.hid hz0
            clear hz0
            go_wp2_with fail
            go_roundg (n - (t + 1))
            case measure => have := Htg.out; omega
            case rel => exact ⟨t + 1, by omega, by omega, by go_num, rfl, fun k h1 h2 => by
              by_cases e : k = t
              · rw [e]; exact HZ0.out
              · exact HZ.out k h1 (by omega)⟩
          · have d2 := HW.out.grid.cell (j := c) htn (by omega)
            have e0 : (((ge (gr L t) c).toNat : Int) != 0) = true := F_bne hz0
            have HZ0 := Lib.hid hz0
            clear hz0
            have han : a < n := by omega
            go_wp2_with fail
            clear d1 d2 e0 i1
            have hqb : w.heap.size + 1 ≠ q := by have := HLT.out q (.inl rfl); omega
            refine (mSwap q n cap m a t (w.heap.size + 1) R C L _ hcr hqb HW.out.grid han htn).mono ?_
            rintro e w2 ⟨rfl, hk2, hg2⟩
            have hW2 := HW.out.next HLT.out HS.out hk2 (fun b hb => .inl hb) hg2 (elR_swap HW.out.sub han htn)
            clear hk2 hg2 hcr hqb
            generalize swapF R a t = R2 at *
            generalize swapF C a t = C2 at *
            have HW2 := Lib.hid hW2
            have c1 := hW2.cbr
            have c2 := hW2.cbf
            have c3 := hW2.grid.header han
            have c4 := hW2.grid.cell (j := c) han (by omega)
            rw [gr_swap_at HSc.out.1 han htn] at c4
            have i3 : (a : Int) < (n : Int) := by omega
            clear hW2
            go_wp2_with fail
            go_quiet ((go_at_call 108; refine Calls.quiet_of (gfInv _ _ _ ?_ HZ0.out); exact HW2.out.fld))
            clear c1 c2 c3 c4
            go_wp2_with fail
            have HW3 := Lib.hid (HW2.out.drewN nq)
            refine (mScale f q n cap m a (w.heap.size + 1) w.heap.size (M.inv (ge (gr L t) c)) R2 C2 (M.swapL L a t) _ HW3.out.cbr HW3.out.cbf HW3.out.fld (HW3.out.lt HLT.out HS.out) HW3.out.grid han hm).mono ?_
            rintro e w3 ⟨rfl, hk3, hg3⟩
            have hW4 := HW3.out.next HLT.out HS.out hk3 (elR_S HW3.out.sub han) hg3 HW3.out.sub
            have HW4 := Lib.hid hW4
            have c1 := hW4.cbr
            clear hk3 hg3 hW4
            go_wp2_with fail
            clear c1
            generalize hL3 : M.scaleAt (M.swapL L a t) a (M.inv (ge (gr L t) c)) = L3 at *
            have HL3 := Lib.hid hL3
            clear hL3
            go_loopg [63] n (fun g i wi => ∃ k, k + g = n ∧ i = .int .i64 (k : Int) ∧ ElW w wi f q n cap m R0 (M.clearN L3 a c k) (M.elimN L0 c).2 (.slice ao a vcap) R2 C2)
            case atStart => exact ⟨0, by omega, rfl, by rw [M.clearN_zero]; exact HW4.out⟩
            case round =>
              obtain ⟨k, hkg, rfl, hV⟩ := hrel
              have HV := Lib.hid hV
              have Hkg := Lib.hid hkg
              have hkle : k ≤ n := by omega
              clear hkg
              by_cases hkn : k < n
              · have i4 : (k : Int) < (n : Int) := by omega
                by_cases hka : k = a
                · subst hka
                  have e1 : ((k : Int) != (k : Int)) = false := by simp
                  clear hV
                  go_wp2_with fail
                  go_roundg (n - (k + 1))
                  case measure => have := Hkg.out; omega
                  case rel => exact ⟨k + 1, by omega, by go_num, clearN_skip ▸ HV.out⟩
                · have e1 : ((k : Int) != (a : Int)) = true := by rw [bne_iff_ne]; omega
                  have c1 := hV.cbr
                  have c3 := hV.grid.header hkn
                  have c4 := hV.grid.cell (j := c) hkn (by omega)
                  clear hV
                  go_wp2_with fail
                  clear c1 c3 c4 e1
                  refine (mAdd f q n cap m k a (w.heap.size + 1) w.heap.size _ R2 C2 (M.clearN L3 a c k) _ HV.out.cbr HV.out.cbf HV.out.fld (HV.out.lt HLT.out HS.out) HV.out.grid hkn han hm).mono ?_
                  rintro e w4 ⟨rfl, hk4, hg4⟩
                  have hW5 := HV.out.next HLT.out HS.out hk4 (elR_S HV.out.sub hkn) hg4 HV.out.sub
                  rw [clearN_step (M.clearN_length L3 a c k ▸ HV.out.grid.shape.1) hkn hka] at hW5
                  have HW5 := Lib.hid hW5
                  clear hk4 hg4 hW5
                  go_wp2_with fail
                  go_roundg (n - (k + 1))
                  case measure => have := Hkg.out; omega
                  case rel => exact ⟨k + 1, by omega, by go_num, HW5.out⟩
              · obtain rfl : k = n := by omega
                clear hkn hV
                go_wp2_with (at_builtin; refine wpList_append_src rfl _ _ 33 rfl (w.heap.size + 2) 3 (.int .i64 0) 1 8 Tryz.underlying33 info_int rfl (by decide) _ a (ics (M.elimN L0 c).2) (by rfl) (HA.out ▸ (owns_keep HV.out.piv ((Keep.refl nob _).alloc _) (fun _ _ x => x))) 1 [.int .i64 (c : Int)] _ (by rfl) (src_one _ _ _) rfl (by intro u hu; simp at hu; subst hu; rfl) (by simp [maxLen]; omega) (by omega) (by have := HV.out.keep.size; have := lt_of_block HV.out.br; rw [size_alloc]; omega) ?_; intro v' w5 hown hgrow hat hnil; have HO := Lib.hid hown; have HGR := Lib.hid hgrow; clear hown hgrow hat hnil)
                have hes : M.elimN L0 (c + 1) = (M.clearN L3 a c k, (M.elimN L0 c).2 ++ [c]) := by
                  have h := elimN_some (L0 := L0) (c := c) (n := k) (t := t) (by rw [HLL.out]; exact HSc.out.1) (by rw [HA.out]; exact hat) htn (by rw [HA.out, HLL.out]; exact HZ.out) (by rw [HLL.out]; exact HZ0.out)
                  rw [HLL.out, HA.out, HL3.out] at h
                  exact h
                go_roundg (cols - (c + 1))
                case measure => have := Hcg.out; omega
                case rel =>
                  refine ⟨c + 1, R2, C2, by omega, by go_num, ?_⟩
                  rw [hes]
                  exact HV.out.push c HGR.out (by rw [HA.out]; exact HO.out) HLT.out HFL.out
        · obtain rfl : t = n := by have := Htg.out; omega
          have hes := elimN_none (L0 := L0) (c := c) (n := t) (by rw [HLL.out]; exact HSc.out.1) (by rw [HA.out, HLL.out]; exact HZ.out)
          have HES := Lib.hid hes
          clear hes htn
          go_wp2_with fail
          go_roundg (cols - (c + 1))
          case measure => have := Hcg.out; omega
          case rel =>
            refine ⟨c + 1, R, C, by omega, by go_num, ?_⟩
            rw [HES.out, HLL.out]
            exact HW.out
    · obtain rfl : c = cols := by omega
      clear hlt hW hcnt hsh
      go_wp2_with fail
      rw [Exit.noGoto_ret]
      go_ret
      exact ⟨_, R, C, rfl, HW.out.keep, owns_mono HW.out.piv (by omega), HW.out.grid, HW.out.sub⟩

end Go.Proofs.YtgnmebgjfagjmaaGreat
