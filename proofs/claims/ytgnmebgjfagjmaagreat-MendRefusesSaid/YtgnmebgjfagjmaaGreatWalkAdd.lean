/- The walk of gf.AddMul: a multiple of the source is added to the list that is handed in, which may share its memory with the source. No condition. -/
import Derived.Test.YtgnmebgjfagjmaaGreatWalkGf
import Derived.Deep.RegionWith
namespace Go.Proofs.YtgnmebgjfagjmaaGreat
open Go.RowKit
open M (F Row ge gr)

/-- block d, whose cells from o on held ld, holds what k rounds have made of them -/
structure Added (cd : Array Value) (o : Nat) (new : Row) (k : Nat) (cd' : Array Value) : Prop where
  size : cd'.size = cd.size
  hit : ∀ j, o ≤ j → j < o + k → cd'[j]? = some (bc (ge new (j - o)))
  miss : ∀ j, j < o ∨ o + k ≤ j → cd'[j]? = cd[j]?
theorem Added.start (cd : Array Value) (o : Nat) (new : Row) : Added cd o new 0 cd := ⟨rfl, fun j h h' => by omega, fun j _ => rfl⟩
theorem Added.step {cd : Array Value} {o : Nat} {new : Row} {k : Nat} {cd' : Array Value} (h : Added cd o new k cd') (hk : o + k < cd.size) :
    Added cd o new (k + 1) (cd'.setIfInBounds (o + k) (bc (ge new k))) := by
  refine ⟨by simp [h.size], fun j h1 h2 => ?_, fun j hj => ?_⟩
  · by_cases e : j = o + k
    · subst e
      rw [set_same (by rw [h.size]; exact hk)]
      congr 3; omega
    · rw [set_other (by omega)]; exact h.hit j h1 (by omega)
  · rw [set_other (by omega)]; exact h.miss j (by omega)
theorem heap_setCell_same {w : World} {b i : Nat} {c : Array Value} {t : TypeId} {v : Value} (h : w.heap[b]? = some (.cells c t (0, 0))) :
    (w.setCell ⟨b, i, none⟩ v).heap[b]? = some (.cells (c.setIfInBounds i v) t (0, 0)) := by
  simp only [World.setCell]
  rw [Array.getElem?_modify]
  simp [h]

theorem u8_xor_F (a b : F) : bits .xor .u8 (a.toNat : Int) (b.toNat : Int) = ((a ^^^ b).toNat : Int) := by
  rw [u8_xor_nat _ _ (M.F.lt a) (M.F.lt b), UInt8.toNat_xor]

theorem info_u8 : (Tryz.prog.info? 5).map (fun i => (i.zero, i.size, i.bytes)) = some (some (.int .u8 0), 1, 1) := by kernel_rfl

theorem add_round {d o n k m : Nat} {c : F} {ld ls : Row} {cd cd' : Array Value} {t : TypeId} {w1 wr : World} (hl : ls.length = n) (hn : ld.length = n) (_hk : k < n) (hsz : o + k < cd.size)
    (X1 : Keep (fun k => k = d) w1 wr) (X2 : wr.heap[d]? = some (.cells cd' t (0, 0))) (X3 : Added cd o (M.axpy c ls ld) k cd') :
    Keep (fun k => k = d) w1 ((wr.drewN m).setCell ⟨d, o + k, none⟩ (.int .u8 (bits .xor .u8 ((ge ld k).toNat : Int) ((M.mul c (ge ls k)).toNat : Int)))) ∧
    ∃ cd'', ((wr.drewN m).setCell ⟨d, o + k, none⟩ (.int .u8 (bits .xor .u8 ((ge ld k).toNat : Int) ((M.mul c (ge ls k)).toNat : Int)))).heap[d]? = some (.cells cd'' t (0, 0)) ∧ Added cd o (M.axpy c ls ld) (k + 1) cd'' := by
  refine ⟨(X1.drewN m).setCell (fun _ => rfl) _, _, heap_setCell_same (w := wr.drewN m) X2, ?_⟩
  have e : Value.int .u8 (bits .xor .u8 ((ge ld k).toNat : Int) ((M.mul c (ge ls k)).toNat : Int)) = bc (ge (M.axpy c ls ld) k) := by
    rw [u8_xor_F, M.ge_axpy _ _ _ _ (by omega)]; rfl
  rw [e]
  exact X3.step hsz

set_option maxRecDepth 100000 in
set_option maxHeartbeats 800000 in
theorem gfAddMul (f d o n cap : Nat) (c : F) (ld ls : Row) (cd : Array Value) (t : TypeId) (src : Value) (w : World) (h : Fld w f)
    (hd : w.heap[d]? = some (.cells cd t (0, 0))) (hfd : f ≠ d) (hn : ld.length = n) (hcd : ∀ i, i < n → cd[o + i]? = some (bc (ge ld i))) (hs : Bytes w src n ls) (hmax : n ≤ 140737488351232) :
    Calls Tryz.prog 57 #[.pointer (some ⟨f, 0, none⟩), .slice (some ⟨d, o, none⟩) n cap, .int .u8 c.toNat, src] w fun e w' =>
      e = .returned (.int .i64 0) ∧ Keep (fun k => k = d) w w' ∧ ∃ cd', w'.heap[d]? = some (.cells cd' t (0, 0)) ∧ Added cd o (M.axpy c ls ld) n cd' := by
  obtain ⟨ao, cap', rfl⟩ := hs.form
  have hne : ((n : Int) != (n : Int)) = false := by simp
  have HS := Lib.hid hs.src
  have HL := Lib.hid hs.1
  have HN := Lib.hid hn
  clear hs hn
  go_enter Tryz.func57, Tryz.ntmps57
  go_wp2_with (at_builtin; refine wpList_append_src rfl _ _ 42 rfl w.heap.size 5 (.int .u8 0) 1 1 Tryz.underlying42 info_u8 rfl (by decide) _ 0 [] rfl (World.ownsRow_nil _ _ _ _) _ _ _ (by rfl) HS.out (by rw [bcs_length, HL.out]; simp) (bcs_one _) (by simp [maxLen]; omega) (by omega) (Nat.le_refl _) ?_; intro v' w1 hown hgrow hat hnil; simp only [Nat.zero_add, List.nil_append] at hown; have HO := Lib.hid hown; have HG := Lib.hid hgrow; clear hown hgrow hat hnil; obtain ⟨ao2, cap2, rfl⟩ := (Bytes.of_owns (l := ls) HO.out).form)
  have K1 : Keep (fun k => k = d) w w1 := (Keep.refl _ w).grown HG.out fun k hk => by cases hk
  have B1 : Bytes w1 (.slice ao2 n cap2) n ls := Bytes.of_owns HO.out
  have O1 : ∀ b, (Value.slice ao2 n cap2).ownBlock = some b → b ≠ d := fun b hb e => by
    have := owns_block HO.out b hb
    have := lt_of_block hd
    omega
  have D1 : w1.heap[d]? = some (.cells cd t (0, 0)) := by rw [HG.out.block d (lt_of_block hd) (fun e => by cases e)]; exact hd
  have F1 : Fld w1 f := h.keep K1 hfd
  clear HG HO HS h hd
  have H0 := Lib.hid hcd
  have K0 := Lib.hid K1
  have B0 := Lib.hid B1
  have O0 := Lib.hid O1
  have D0 := Lib.hid D1
  have F2 := Lib.hid F1
  clear hcd K1 B1 O1 D1 F1
  go_loopw [23] (fun i wr => ∃ k : Nat, k ≤ n ∧ i = .int .i64 k ∧ Keep (fun k => k = d) w1 wr ∧ ∃ cd', wr.heap[d]? = some (.cells cd' t (0, 0)) ∧ Added cd o (M.axpy c ls ld) k cd') (fun i _ => n - (intOf i).toNat)
  case atStart => exact ⟨0, Nat.zero_le _, rfl, Keep.refl _ _, cd, D0.out, Added.start _ _ _⟩
  case round =>
    obtain ⟨k, hk, rfl, hkeep, cd', hcd', hadd⟩ := hrel
    have X1 := Lib.hid hkeep
    have X2 := Lib.hid hcd'
    have X3 := Lib.hid hadd
    by_cases hlt : k < n
    · obtain ⟨b, o2, rfl, hb, hc⟩ := (Bytes.keep B0.out hkeep fun b hb _ e => O0.out b hb e).cells hlt
      have hcb := hc k hlt
      have hck : wr.cell? ⟨d, o + k, none⟩ = some (.int .u8 (ge ld k).toNat) := by rw [cell_of hcd', hadd.miss _ (by omega)]; exact H0.out k hlt
      have hfr := frozen_of hcd' (o + k)
      have hsz : o + k < cd.size := by
        have := H0.out k hlt
        have := (Array.getElem?_eq_some_iff.1 this).1
        exact this
      have hx := u8_xor_F (ge ld k) (M.mul c (ge ls k))
      have HX := Lib.hid hx
      have hF := F2.out.keep hkeep hfd
      have HF := Lib.hid hF
      clear hc hcd' hadd hkeep hb hx hF
      go_wp2_with fail
      go_region_with (go_at_call 60; refine (gfMul _ _ _ _ ?_).mono ?_; (first | exact HF.out | exact HF.out.keep ((Keep.refl nob _).drew) (fun x => x)); rintro e w2 ⟨rfl, m, rfl⟩)
      all_goals (go_wp2; go_roundw; (case rel => exact ⟨k + 1, by omega, by go_num, add_round HL.out HN.out hlt hsz X1.out X2.out X3.out⟩); (case measure => (simp [intOf]; omega)))
    · obtain rfl : k = n := by omega
      clear hlt hadd hcd' hkeep
      go_wp2
      go_ret
      exact ⟨rfl, K0.out.trans X1.out, cd', X2.out, X3.out⟩

end Go.Proofs.YtgnmebgjfagjmaaGreat
