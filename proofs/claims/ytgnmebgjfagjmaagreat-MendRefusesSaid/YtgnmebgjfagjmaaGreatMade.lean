/- the law's made: a code, data, parts in some order. No condition. -/
import Derived.Test.YtgnmebgjfagjmaaGreatDec
namespace Go.Proofs.YtgnmebgjfagjmaaGreat
open Go.RowKit
open M (F Row ge gr)

/-- numbers in their cells -/
def Ints (w : World) (v : Value) (n : Nat) (x : Nat → Int) : Prop :=
  ∃ ao cap, v = .slice ao n cap ∧ (0 < n → ∃ b o, ao = some ⟨b, o, none⟩ ∧ b < w.heap.size ∧ ∀ i, i < n → w.cell? ⟨b, o + i, none⟩ = some (.int .i64 (x i)))
theorem Ints.keep0 {w w' : World} {v : Value} {n : Nat} {x : Nat → Int} (h : Ints w v n x) (k : Keep nob w w') : Ints w' v n x := by
  obtain ⟨ao, cap, rfl, hh⟩ := h
  refine ⟨ao, cap, rfl, fun h0 => ?_⟩
  obtain ⟨b, o, rfl, hb, hc⟩ := hh h0
  exact ⟨b, o, rfl, Nat.lt_of_lt_of_le hb k.size, fun i hi => k.cellS (hc i hi) (fun x => x)⟩
theorem Ints.cells {w : World} {ao : Option Addr} {n n' cap : Nat} {x : Nat → Int} (h : Ints w (.slice ao n' cap) n x) {k : Nat} (hk : k < n) :
    ∃ b o, ao = some ⟨b, o, none⟩ ∧ b < w.heap.size ∧ ∀ i, i < n → w.cell? ⟨b, o + i, none⟩ = some (.int .i64 (x i)) := by
  obtain ⟨ao', cap', e, hh⟩ := h
  simp only [Value.slice.injEq] at e
  obtain ⟨rfl, rfl, rfl⟩ := e
  exact hh (by omega)
/-- m bytes from q on -/
def cut (l : Row) (q m : Nat) : Row := (l.drop q).take m
theorem cut_length {l : Row} {q m : Nat} (h : q + m ≤ l.length) : (cut l q m).length = m := by simp [cut]; omega
theorem ge_cut {l : Row} {q m i : Nat} (h : i < m) : ge (cut l q m) i = ge l (q + i) := by
  simp [cut, ge, List.getD_eq_getElem?_getD, h]
theorem cut_src {w : World} {ao : Option Addr} {n cap q m : Nat} {l : Row} (h : Bytes w (.slice ao n cap) n l) (hc : n ≤ cap) (hq : q + m ≤ n) (s : Nat) (hs : s = m) (a' : Option Addr) (ha : a' = if cap = q then ao else ao.map (·.add q)) :
    Src w (.slice a' s (cap - q)) m (bcs (cut l q m)) := by
  subst hs
  subst ha
  refine ⟨_, _, rfl, fun e => ?_, fun h0 => ?_⟩
  · obtain ⟨_, ao', cap', e', hz, _⟩ := h
    simp only [Value.slice.injEq] at e'
    obtain ⟨rfl, _, rfl⟩ := e'
    split at e
    · omega
    · cases ao with
      | none => have := hz rfl; omega
      | some a => cases e
  · obtain ⟨b, o, rfl, hb, hh⟩ := h.cells (k := q) (by omega)
    rw [if_neg (by omega)]
    refine ⟨b, o + q, by simp [addr_add], hb, fun j u hu => ?_⟩
    have hj : j < (cut l q s).length := by
      have := (List.getElem?_eq_some_iff.1 hu).1
      rwa [bcs_length] at this
    have hl := h.1
    rw [cut_length (by omega)] at hj
    rw [bcs_get _ _ (by rw [cut_length (by omega)]; exact hj)] at hu
    rw [← hu, ge_cut hj, Nat.add_assoc]
    exact hh (q + j) (by omega)
theorem owns_empty (w : World) : (w.alloc (.cells #[] 5)).ownsRow w.heap.size 5 1 (.slice (some ⟨w.heap.size, 0, none⟩) 0 0) 0 [] := World.ownsRow_made w #[] 0 (Nat.le_refl _) (by decide) rfl
theorem cap_of_bytes_nil {w : World} {n cap : Nat} {l : Row} (h : Bytes w (.slice none n cap) n l) : n = 0 ∧ cap = 0 := by
  obtain ⟨_, ao', cap', e', hz, hh⟩ := h
  simp only [Value.slice.injEq] at e'
  obtain ⟨rfl, _, rfl⟩ := e'
  refine ⟨?_, hz rfl⟩
  by_cases h0 : 0 < n
  · obtain ⟨b, o, e, _⟩ := hh h0; cases e
  · omega

/-- the data rows -/
def cuts (l : Row) (k s : Nat) : List Row := (List.range k).map fun i => cut l (i * s) s
theorem gr_cuts (l : Row) (k s i : Nat) (h : i < k) : gr (cuts l k s) i = cut l (i * s) s := by simp [cuts, gr, List.getD_eq_getElem?_getD, h]
theorem cuts_shape {l : Row} {k s : Nat} (h : k * s ≤ l.length) : M.Shape k s (cuts l k s) := by
  refine ⟨by simp [cuts], fun i hi => ?_⟩
  rw [gr_cuts _ _ _ _ hi]
  refine cut_length ?_
  have h1 : (i + 1) * s ≤ k * s := Nat.mul_le_mul_right s hi
  rw [Nat.add_mul, Nat.one_mul] at h1
  omega

/-- a part's header: bytes of its own -/
def Hdr (w : World) (B s : Nat) (h : Value) (l : Row) : Prop := ∃ ao cap, h = .slice ao s cap ∧ w.ownsRow B 5 1 (.slice ao s cap) s (bcs l)
theorem Hdr.keep {S : Nat → Prop} {w w' : World} {B s : Nat} {h : Value} {l : Row} (hh : Hdr w B s h l) (k : Keep S w w') (hn : ∀ b c z, S b → w.heap[b]? = some (.cells c 5 z) → False) : Hdr w' B s h l := by
  obtain ⟨ao, cap, rfl, ho⟩ := hh
  refine ⟨ao, cap, rfl, ho.1, ?_⟩
  rcases ho.2 with h0 | ⟨g, cap', cur, e, hb, hg, rest⟩
  · exact .inl h0
  · exact .inr ⟨g, cap', cur, e, hb, k.some hg (fun x => hn g _ _ x hg), rest⟩
theorem Hdr.keep0 {w w' : World} {B s : Nat} {h : Value} {l : Row} (hh : Hdr w B s h l) (k : Keep nob w w') : Hdr w' B s h l := hh.keep k fun _ _ _ x _ => x
/-- parts in their cells, by index -/
def pcs (HH : Nat → Value) (j : Nat) : List Value := (List.range j).flatMap fun (t : Nat) => [.int .i64 (t : Int), HH t]
theorem pcs_succ (HH : Nat → Value) (j : Nat) : pcs HH (j + 1) = pcs HH j ++ [.int .i64 (j : Int), HH j] := by simp [pcs, List.range_succ]
theorem pcs_congr {HH HH' : Nat → Value} {j : Nat} (h : ∀ t, t < j → HH t = HH' t) : pcs HH j = pcs HH' j := by
  induction j with
  | zero => rfl
  | succ j ih => rw [pcs_succ, pcs_succ, ih (fun t ht => h t (by omega)), h j (by omega)]
theorem pcs_length (HH : Nat → Value) (j : Nat) : (pcs HH j).length = j * 2 := by
  induction j with
  | zero => rfl
  | succ j ih => rw [pcs_succ, List.length_append, ih]; simp; omega
theorem pcs_get (HH : Nat → Value) (j t : Nat) (h : t < j) : (pcs HH j)[t * 2]? = some (.int .i64 (t : Int)) ∧ (pcs HH j)[t * 2 + 1]? = some (HH t) := by
  induction j with
  | zero => omega
  | succ j ih =>
    rw [pcs_succ]
    by_cases e : t < j
    · rw [List.getElem?_append_left (by rw [pcs_length]; omega), List.getElem?_append_left (by rw [pcs_length]; omega)]
      exact ih e
    · obtain rfl : t = j := by omega
      rw [List.getElem?_append_right (by rw [pcs_length]; omega), List.getElem?_append_right (by rw [pcs_length]; omega), pcs_length]
      simp
theorem src_two (w : World) (u v : Value) (t : TypeId) : Src (w.alloc (.cells #[u, v] t)) (.slice (some ⟨w.heap.size, 0, none⟩) 1 1) 1 [u, v] := by
  refine ⟨_, 1, rfl, fun e => (by cases e), fun _ => ⟨w.heap.size, 0, rfl, by rw [size_alloc]; omega, fun j x hx => ?_⟩⟩
  match j with
  | 0 => simp at hx; subst hx; rw [cell_of (heap_alloc_at w _)]; rfl
  | 1 => simp at hx; subst hx; rw [cell_of (heap_alloc_at w _)]; rfl
  | j + 2 => simp at hx
theorem info_part : (Tryz.prog.info? 44).map (fun i => (i.zero, i.size, i.bytes)) = some (some (.agg #[.int .i64 0, .slice none 0 0]), 2, 32) := by kernel_rfl
/-- parts built by append -/
def BldP (w : World) (B : Nat) (v : Value) (j s : Nat) (E : Nat → Row) : Prop := ∃ HH : Nat → Value, w.ownsRow B 44 2 v j (pcs HH j) ∧ ∀ t, t < j → Hdr w B s (HH t) (E t)
theorem BldP.nil (w : World) (B s : Nat) (E : Nat → Row) : BldP w B (.slice none 0 0) 0 s E := ⟨fun _ => .slice none 0 0, World.ownsRow_nil _ _ _ _, fun i hi => by omega⟩
/-- no block is of two types -/
theorem not_both {w : World} {B j : Nat} {v : Value} {xs : List Value} (h : w.ownsRow B 44 2 v j xs) : ∀ b c z, v.ownBlock = some b → w.heap[b]? = some (.cells c 5 z) → False := by
  intro b c z hb hg
  rcases h.2 with ⟨rfl, _⟩ | ⟨g, cap, cur, rfl, _, hg', _⟩
  · cases hb
  · simp only [Value.ownBlock, Option.some.injEq] at hb
    subst hb
    rw [hg'] at hg
    simp at hg
theorem BldP.push {w1 w2 w3 : World} {B j s : Nat} {v v' h : Value} {E : Nat → Row} {HH : Nat → Value} (k : Keep nob w1 w2) (ho : w1.ownsRow B 44 2 v j (pcs HH j)) (hH : ∀ t, t < j → Hdr w1 B s (HH t) (E t))
    (hh : Hdr w2 B s h (E j)) (hg : (w2.alloc (.cells #[.int .i64 (j : Int), h] 44)).grownBy w3 v.ownBlock) (ho3 : w3.ownsRow B 44 2 v' (j + 1) (pcs HH j ++ [.int .i64 (j : Int), h])) : BldP w3 B v' (j + 1) s E := by
  have ka : Keep nob w2 (w2.alloc (.cells #[.int .i64 (j : Int), h] 44)) := (Keep.refl _ _).alloc _
  have kg : Keep (fun b => v.ownBlock = some b) (w2.alloc (.cells #[.int .i64 (j : Int), h] 44)) w3 := (Keep.refl _ _).grown hg fun b hb _ => hb
  have ho2 := owns_keep ho (k.trans ka) (fun _ _ x => x)
  refine ⟨fun t => if t = j then h else HH t, ?_, fun t ht => ?_⟩
  · rw [pcs_succ, pcs_congr (HH' := HH) (fun t ht => by simp; omega)]
    simpa using ho3
  · by_cases e : t = j
    · subst e
      simp only [if_true]
      exact (hh.keep0 ka).keep kg (not_both ho2)
    · simp only [e, if_false]
      exact ((hH t (by omega)).keep0 (k.trans ka)).keep kg (not_both ho2)

/-- parts in one block, in some order -/
structure PG (w : World) (B g cap n s : Nat) (σ : Nat → Nat) (A : Nat → Option Addr) (C : Nat → Nat) : Prop where
  at_ : ∃ cur, w.heap[g]? = some (.cells cur 44 (0, 0)) ∧ cur.size = cap * 2 ∧ ∀ i, i < n → cur[i * 2]? = some (.int .i64 (σ i : Int)) ∧ cur[i * 2 + 1]? = some (.slice (A (σ i)) s (C (σ i)))
  gB : B ≤ g
  nc : n ≤ cap
  cM : cap ≤ maxLen
/-- the parts' bytes -/
def PH (w : World) (B n s : Nat) (A : Nat → Option Addr) (C : Nat → Nat) (E : Nat → Row) : Prop := ∀ t, t < n → w.ownsRow B 5 1 (.slice (A t) s (C t)) s (bcs (E t))
theorem PG.c0 {w : World} {B g cap n s : Nat} {σ : Nat → Nat} {A : Nat → Option Addr} {C : Nat → Nat} (h : PG w B g cap n s σ A C) {i : Nat} (hi : i < n) : w.cell? ⟨g, i * 2, none⟩ = some (.int .i64 (σ i : Int)) := by
  obtain ⟨cur, hc, _, hh⟩ := h.at_
  rw [cell_of hc]; exact (hh i hi).1
theorem PG.c1 {w : World} {B g cap n s : Nat} {σ : Nat → Nat} {A : Nat → Option Addr} {C : Nat → Nat} (h : PG w B g cap n s σ A C) {i : Nat} (hi : i < n) : w.cell? ⟨g, i * 2 + 1, none⟩ = some (.slice (A (σ i)) s (C (σ i))) := by
  obtain ⟨cur, hc, _, hh⟩ := h.at_
  rw [cell_of hc]; exact (hh i hi).2
theorem PG.frozen {w : World} {B g cap n s : Nat} {σ : Nat → Nat} {A : Nat → Option Addr} {C : Nat → Nat} (h : PG w B g cap n s σ A C) (i : Nat) : w.frozen? ⟨g, i, none⟩ = false := by
  obtain ⟨cur, hc, _⟩ := h.at_
  exact frozen_of hc i
theorem PG.keep0 {w w' : World} {B g cap n s : Nat} {σ : Nat → Nat} {A : Nat → Option Addr} {C : Nat → Nat} (h : PG w B g cap n s σ A C) (k : Keep nob w w') : PG w' B g cap n s σ A C := by
  obtain ⟨cur, hc, hh⟩ := h.at_
  exact ⟨⟨cur, k.some hc (fun x => x), hh⟩, h.gB, h.nc, h.cM⟩
theorem PG.lt {w : World} {B g cap n s : Nat} {σ : Nat → Nat} {A : Nat → Option Addr} {C : Nat → Nat} (h : PG w B g cap n s σ A C) : g < w.heap.size := by
  obtain ⟨cur, hc, _⟩ := h.at_
  exact lt_of_block hc
/-- part j stands at place i too -/
theorem PG.put {w : World} {B g cap n s x : Nat} {σ : Nat → Nat} {A : Nat → Option Addr} {C : Nat → Nat} (h : PG w B g cap n s σ A C) {i : Nat} (_hi : i < n) :
    PG ((w.setCell ⟨g, i * 2, none⟩ (.int .i64 (x : Int))).setCell ⟨g, i * 2 + 1, none⟩ (.slice (A x) s (C x))) B g cap n s (fun t => if t = i then x else σ t) A C := by
  obtain ⟨cur, hc, hs, hh⟩ := h.at_
  refine ⟨⟨_, heap_setCell_same (heap_setCell_same hc), by simp [hs], fun t ht => ?_⟩, h.gB, h.nc, h.cM⟩
  have hnc := h.nc
  by_cases e : t = i
  · subst e
    simp only [if_true]
    refine ⟨?_, set_same (by simp; omega)⟩
    rw [set_other (by omega)]
    exact set_same (by omega)
  · simp only [e, if_false]
    rw [set_other (by omega), set_other (by omega), set_other (by omega), set_other (by omega)]
    exact hh t ht
theorem BldP.pg {w : World} {B n s : Nat} {v : Value} {E : Nat → Row} (h : BldP w B v n s E) (hn : 0 < n) : ∃ g cap A C, v = .slice (some ⟨g, 0, none⟩) n cap ∧ PG w B g cap n s (fun i => i) A C ∧ PH w B n s A C E := by
  obtain ⟨HH, ho, hr⟩ := h
  refine (show ∃ g cap, v = .slice (some ⟨g, 0, none⟩) n cap ∧ PG w B g cap n s (fun i => i) (fun t => match HH t with | .slice ao _ _ => ao | _ => none) (fun t => match HH t with | .slice _ _ c => c | _ => 0) ∧ PH w B n s (fun t => match HH t with | .slice ao _ _ => ao | _ => none) (fun t => match HH t with | .slice _ _ c => c | _ => 0) E from ?_).elim fun g ⟨cap, h1, h2, h3⟩ => ⟨g, cap, _, _, h1, h2, h3⟩
  rcases ho.2 with ⟨_, h0⟩ | ⟨g, cap, cur, rfl, hg, hgg, hnc, hcm, hsz, htake⟩
  · omega
  · refine ⟨g, cap, rfl, ⟨⟨cur, hgg, hsz, fun i hi => ?_⟩, hg, hnc, hcm⟩, fun t ht => ?_⟩
    · have h1 := (pcs_get HH n i hi)
      rw [← htake, List.getElem?_take, List.getElem?_take, if_pos (by omega), if_pos (by omega), Array.getElem?_toList, Array.getElem?_toList] at h1
      obtain ⟨ao, c, e, _⟩ := hr i hi
      refine ⟨h1.1, ?_⟩
      rw [h1.2]
      simp only [e]
    · obtain ⟨ao, c, e, hb⟩ := hr t ht
      simp only [e]; exact hb

theorem swp_lt {n i y : Nat} {σ : Nat → Nat} (h : ∀ a, a < n → σ a < n) (hi : i < n) (hy : y < n) : ∀ a, a < n → (if a = y then σ i else if a = i then σ y else σ a) < n := by
  intro a ha
  split
  · exact h i hi
  · split
    · exact h y hy
    · exact h a ha
theorem swp_inj {n i y : Nat} {σ : Nat → Nat} (h : ∀ a b, a < n → b < n → σ a = σ b → a = b) (hi : i < n) (hy : y < n) :
    ∀ a b, a < n → b < n → (if a = y then σ i else if a = i then σ y else σ a) = (if b = y then σ i else if b = i then σ y else σ b) → a = b := by
  intro a b ha hb e
  have h1 : ∀ x, x < n → ∃ x', x' < n ∧ (if x = y then σ i else if x = i then σ y else σ x) = σ x' ∧ x' = (if x = y then i else if x = i then y else x) := by
    intro x hx
    refine ⟨_, ?_, ?_, rfl⟩
    · split
      · exact hi
      · split
        · exact hy
        · exact hx
    · split
      · rfl
      · split <;> rfl
  obtain ⟨a', ha', ea, ea'⟩ := h1 a ha
  obtain ⟨b', hb', eb, eb'⟩ := h1 b hb
  rw [ea, eb] at e
  have := h a' b' ha' hb' e
  rw [ea', eb'] at this
  repeat' split at this
  all_goals omega
/-- what made makes: a code, data, parts of the coded rows in some order; only the parts' block has been turned since wm -/
def MadeAt (w : World) (e : Ending) (w' : World) : Prop := ∃ (n k m s pc f g cap B : Nat) (cv dv : Value) (σ : Nat → Nat) (A : Nat → Option Addr) (C : Nat → Nat) (D : List Row) (wm : World),
  e = .returned (.tuple #[.pointer (some ⟨pc, 0, none⟩), dv, .slice (some ⟨g, 0, none⟩) m cap, .bool true]) ∧ 1 ≤ k ∧ k ≤ m ∧ m ≤ n ∧ n ≤ 255 ∧ s ≤ 140737488351232 ∧
  Keep nob w wm ∧ CodeW wm B pc f n k cv ∧ SS wm dv k s D (fun b => w.heap.size ≤ b) ∧ Keep (fun b => b = g) wm w' ∧ PG w' wm.heap.size g cap n s σ A C ∧ PH w' wm.heap.size n s A C (gr (prod (gen n k) D s)) ∧
  (∀ a, a < n → σ a < n) ∧ (∀ a b, a < n → b < n → σ a = σ b → a = b)
theorem PH.keep {w w' : World} {B n s g cap : Nat} {σ : Nat → Nat} {A A' : Nat → Option Addr} {C C' : Nat → Nat} {E : Nat → Row} (h : PH w B n s A C E) (hg : PG w B g cap n s σ A' C') (k : Keep (fun b => b = g) w w') : PH w' B n s A C E := by
  obtain ⟨cur, hc, _⟩ := hg.at_
  intro t ht
  obtain ⟨ao, c, e, ho⟩ := Hdr.keep ⟨_, _, rfl, h t ht⟩ k (fun b c z hb hg' => by subst hb; rw [hc] at hg'; simp at hg')
  simp only [Value.slice.injEq] at e
  obtain ⟨rfl, _, rfl⟩ := e
  exact ho
theorem results_tmp4 {fn : Func} {t u v x : Tmp} (h : fn.results = #[.tmp t, .tmp u, .tmp v, .tmp x]) (tmps : Array Value) (P : Program) (w : World) :
    (results fn tmps).run P w = .ok (.tuple #[tmps.getD t undef, tmps.getD u undef, tmps.getD v undef, tmps.getD x undef]) w := by
  simp [results, h]
theorem made_post {w w2 w4 w5 wr : World} {n k m s pc f g cap B d : Nat} {cv dv : Value} {σ : Nat → Nat} {A : Nat → Option Addr} {C : Nat → Nat} {D : List Row} (hk2 : Keep nob w w2) (hk4 : Keep nob w2 w4) (hc : CodeW w4 B pc f n k cv) (hd : SS w4 dv k s D (fun b => w2.heap.size ≤ b))
    (hk5 : Keep nob w4 w5) (hh : PH w5 w4.heap.size n s A C (gr (prod (gen n k) D s))) (hk6 : Keep (fun b => b = g) w5 wr) (hp0 : PG w5 w4.heap.size g cap n s (fun i => i) A C) (hp : PG wr w4.heap.size g cap n s σ A C) (hlt : ∀ a, a < n → σ a < n) (hinj : ∀ a b, a < n → b < n → σ a = σ b → a = b)
    (n1 : 1 ≤ k) (n3 : n ≤ 255) (hs1 : s ≤ 140737488351232) (hm1 : k ≤ m) (hm2 : m ≤ n) :
    MadeAt w (.returned (.tuple #[.pointer (some ⟨pc, 0, none⟩), dv, .slice (some ⟨g, 0, none⟩) m cap, .bool true])) (wr.drewN d) := by
  have kd : Keep nob wr (wr.drewN d) := (Keep.refl _ _).drewN _
  refine ⟨n, k, m, s, pc, f, g, cap, B, cv, dv, σ, A, C, D, w4, rfl, n1, hm1, hm2, n3, hs1, hk2.trans hk4, hc, hd.mono fun b hb => Nat.le_trans hk2.size hb, (hk5.of_nob.trans hk6).drewN _, hp.keep0 kd, ?_, hlt, hinj⟩
  intro t ht
  exact owns_keep ((hh.keep hp0 hk6) t ht) kd (fun _ _ x => x)

set_option maxRecDepth 200000 in
set_option maxHeartbeats 4000000 in
theorem lMade (N K T : Int) (nb no capb : Nat) (aob : Option Addr) (ov sv hv : Value) (lb : Row) (os : Nat → Int) (w : World) (hb : Bytes w (.slice aob nb capb) nb lb) (hcb : nb ≤ capb) (hnb : nb ≤ 140737488351232) (ho : Ints w ov no os) (hno : no ≤ 140737488351232) :
    Calls Tryz.prog 19 #[.agg #[.int .i64 N, .int .i64 K, .slice aob nb capb, ov, .int .i64 T, sv, hv]] w fun e w' => MadeAt w e w' := by
  obtain ⟨n0, hn0, hN⟩ := imod_nat N 255 (by decide)
  obtain ⟨k0, hk0, hK⟩ := imod_nat K (n0 + 1) (by omega)
  have HB := Lib.hid hb
  have HO := Lib.hid ho
  have HN := Lib.hid hN
  have HK := Lib.hid hK
  obtain ⟨aoo, capo, rfl, _⟩ := id ho
  have b1 : ∀ W : World, W = w.alloc (.cells #[.int .i64 N, .int .i64 K, .slice aob nb capb, .slice aoo no capo, .int .i64 T, sv, hv] 47) → W.cell? ⟨w.heap.size, 0, none⟩ = some (.int .i64 N) := by
    intro W e; rw [e, cell_of (heap_alloc_at w _)]; rfl
  have HW1 : Hid (Keep nob w (w.alloc (.cells #[.int .i64 N, .int .i64 K, .slice aob nb capb, .slice aoo no capo, .int .i64 T, sv, hv] 47))) := (Keep.refl _ _).alloc _
  have HX1 : Hid ((w.alloc (.cells #[.int .i64 N, .int .i64 K, .slice aob nb capb, .slice aoo no capo, .int .i64 T, sv, hv] 47)).heap[w.heap.size]? = some (.cells #[.int .i64 N, .int .i64 K, .slice aob nb capb, .slice aoo no capo, .int .i64 T, sv, hv] 47 (0, 0))) := heap_alloc_at w _
  clear hb ho hN hK b1
  go_enter Tryz.func19, Tryz.ntmps19
  go_wp2_with fail
  refine (lMod N 255 n0 _ (by decide) (by decide) HN.out).mono ?_
  rintro e w' ⟨rfl, rfl⟩
  go_wp2_with fail
  obtain ⟨n, hn⟩ : ∃ n : Nat, n = n0 + 1 := ⟨_, rfl⟩
  obtain ⟨k, hk⟩ : ∃ k : Nat, k = k0 + 1 := ⟨_, rfl⟩
  have hkk : Hid (imod K n = (k0 : Int)) := by rw [hn]; exact HK.out
  rw [show (n0 : Int) + 1 = (n : Int) by omega]
  refine (lMod K n k0 _ (by omega) (by omega) hkk.out).mono ?_
  rintro e w' ⟨rfl, rfl⟩
  have n1 : 1 ≤ k := by omega
  have n2 : k ≤ n := by omega
  have n3 : n ≤ 255 := by omega
  have HKK := Lib.hid hk
  have hk1 : k0 < 255 := by omega
  clear HN HK hkk hn hk hn0 hk0
  go_wp2_with fail
  rw [show (k0 : Int) + 1 = (k : Int) by have := HKK.out; omega]
  clear HKK hk1
  obtain ⟨w1, hw1⟩ : ∃ w1 : World, w1 = w.alloc (.cells #[.int .i64 N, .int .i64 K, .slice aob nb capb, .slice aoo no capo, .int .i64 T, sv, hv] 47) := ⟨_, rfl⟩
  rw [← hw1]
  rw [← hw1] at HW1 HX1
  clear hw1
  refine (cNew n k w1 n1 n2 n3).mono ?_
  rintro e w2 ⟨pc, f, cv, rfl, hk2, hC⟩
  have HK2 := Lib.hid (HW1.out.trans hk2)
  have HX2 := Lib.hid (hk2.some HX1.out (fun x => x))
  have HC := Lib.hid hC
  have d0 : w2.cell? ⟨w.heap.size, 2, none⟩ = some (.slice aob nb capb) := by rw [cell_of HX2.out]; rfl
  have e0 : ((k : Int) == 0) = false := by simp; omega
  have e1 : ((k : Int) == -1) = false := by simp
  obtain ⟨s, hs⟩ : ∃ s : Nat, s = nb / k := ⟨_, rfl⟩
  have e2 : (nb : Int).tdiv (k : Int) = (s : Int) := by rw [hs]; exact (Int.ofNat_tdiv nb k).symm
  have hsk : k * s ≤ nb := by rw [hs]; exact Nat.mul_div_le nb k
  have HS := Lib.hid hsk
  have hs1 : s ≤ 140737488351232 := by
    have : 1 * s ≤ k * s := Nat.mul_le_mul_right s n1
    omega
  clear hk2 hC hsk hs HW1 HX1
  go_wp2_with fail
  clear d0 e0 e1 e2
  go_loopw [11, 12] (fun dv i wr => ∃ j : Nat, j ≤ k ∧ i = .int .i64 j ∧ Keep nob w2 wr ∧ Bld wr w2.heap.size dv j s (fun i => cut lb (i * s) s)) (fun _ i _ => k - (intOf i).toNat)
  case atStart => exact ⟨0, Nat.zero_le _, rfl, Keep.refl _ _, Bld.nil _ _ _ _⟩
  case round =>
    obtain ⟨j, hj, rfl, hK, hB⟩ := hrel
    obtain ⟨Hs, ho, hr⟩ := hB.row
    obtain ⟨ao2, cap2, rfl⟩ := owns_form ho
    have HK := Lib.hid hK
    have HBD := Lib.hid hB
    have HOW := Lib.hid ho
    have HR := Lib.hid hr
    have hlen := ho.1
    have HLEN : Hid (Hs.length = j) := by show Hs.length = j; omega
    by_cases hlt : j < k
    · have i1 : (j : Int) < (k : Int) := by omega
      obtain ⟨q, hq⟩ : ∃ q : Nat, q = j * s := ⟨_, rfl⟩
      have hqs : q + s ≤ nb := by
        have h1 : (j + 1) * s ≤ k * s := Nat.mul_le_mul_right s hlt
        have h2 := HS.out
        rw [Nat.add_mul, Nat.one_mul] at h1
        omega
      have e3 : (j : Int) * (s : Int) = (q : Int) := by rw [hq]; simp
      have d1 : (wr.alloc (.cells #[] 5)).cell? ⟨w.heap.size, 2, none⟩ = some (.slice aob nb capb) := by rw [cell_of (heap_alloc_ne (hK.some HX2.out (fun x => x)))]; rfl
      have HQ := Lib.hid hq
      clear hB hK ho hr hlen hq
      have HCL : Hid ((cut lb q s).length = s) := cut_length (by rw [HB.out.1]; exact hqs)
      have HBW := Lib.hid ((((HB.out.keep0 HK2.out).keep0 HK.out).keep0 ((Keep.refl nob wr).alloc (.cells #[] 5))))
      rcases aob with _ | a
      · have HSR := Lib.hid (cut_src (s := q + s - q) (a' := none) HBW.out hcb hqs (by omega) (by simp))
        have i2 : (q : Int) + (s : Int) ≤ (capb : Int) := by omega
        go_wp2_with (first | (at_builtin; (with_reducible refine wpList_append_src (o := ⟨some 63, _, _, _, _, _⟩) ?_ (.tmp 51) (.tmp 62) 42 ?_ wr.heap.size 5 (.int .u8 0) 1 1 Tryz.underlying42 info_u8 ?_ ?_ (.slice (some ⟨wr.heap.size, 0, none⟩) 0 0) 0 [] ?_ (owns_empty wr) s (bcs (cut lb q s)) (.slice none (q + s - q) (capb - q)) ?_ HSR.out ?_ (bcs_one _) ?_ ?_ ?_ ?_); (rfl); (rfl); (rfl); (decide); (rfl); (rfl); ((rw [bcs_length, HCL.out]; omega)); ((simp only [maxLen]; omega)); (omega); ((rw [size_alloc]; omega)); intro v1 w3 hown1 hgrow1 hat1 hnil1; simp only [Nat.zero_add, List.nil_append] at hown1; obtain ⟨ao3, cap3, rfl⟩ := owns_form hown1; have HO1 := Lib.hid hown1; have K2 := Lib.hid (((Keep.refl nob wr).alloc (.cells #[] 5)).grown hgrow1 fun k hk hlt => by simp [Value.ownBlock] at hk; omega); clear hown1 hgrow1 hat1 hnil1) | (at_builtin; (with_reducible refine wpList_append_src (o := ⟨some 65, _, _, _, _, _⟩) ?_ (.tmp 50) (.tmp 64) 32 ?_ w2.heap.size 42 (.slice none 0 0) 1 24 Tryz.underlying32 info_bs ?_ ?_ (.slice ao2 j cap2) j Hs ?_ (owns_keep HOW.out (K2.out.alloc _) (fun _ _ x => x)) 1 [.slice ao3 s cap3] (.slice (some ⟨w3.heap.size, 0, none⟩) 1 1) ?_ (src_one w3 (.slice ao3 s cap3) 42) ?_ ?_ ?_ ?_ ?_ ?_); (rfl); (rfl); (rfl); (decide); (rfl); (rfl); (rfl); ((intro u hu; simp at hu; subst hu; rfl)); ((simp only [maxLen]; omega)); (omega); ((have := HK.out.size; have := K2.out.size; rw [size_alloc]; omega)); intro v2 w4 hown2 hgrow2 hat2 hnil2; have HPUSH := Lib.hid (Bld.push (L := fun i => cut lb (i * s) s) HK.out.size K2.out (by have := Bytes.of_owns HO1.out; rw [HQ.out] at this; exact this) (fun b hb => ⟨owns_block HO1.out b hb, own_lt HO1.out b hb⟩) HR.out (own_lt HOW.out) HLEN.out hgrow2 hown2 hat2); have K3 := Lib.hid (((HK.out.trans K2.out).alloc _).grown hgrow2 fun b hb hlt => absurd hlt (by have := owns_block HOW.out b hb; omega)); clear hown2 hgrow2 hat2 hnil2))
        go_roundw
        case rel => exact ⟨j + 1, by omega, by go_num, K3.out, HPUSH.out⟩
        case measure => (simp [intOf]; omega)
      · by_cases hcq : capb = q
        · subst hcq
          have HSR := Lib.hid (cut_src (s := capb + s - capb) (a' := some a) HBW.out (by omega) hqs (by omega) (by simp))
          rw [Nat.sub_self] at HSR
          go_wp2_with (first | (at_builtin; (with_reducible refine wpList_append_src (o := ⟨some 63, _, _, _, _, _⟩) ?_ (.tmp 51) (.tmp 62) 42 ?_ wr.heap.size 5 (.int .u8 0) 1 1 Tryz.underlying42 info_u8 ?_ ?_ (.slice (some ⟨wr.heap.size, 0, none⟩) 0 0) 0 [] ?_ (owns_empty wr) s (bcs (cut lb capb s)) (.slice (some a) (capb + s - capb) 0) ?_ HSR.out ?_ (bcs_one _) ?_ ?_ ?_ ?_); (rfl); (rfl); (rfl); (decide); (rfl); (rfl); ((rw [bcs_length, HCL.out]; omega)); ((simp only [maxLen]; omega)); (omega); ((rw [size_alloc]; omega)); intro v1 w3 hown1 hgrow1 hat1 hnil1; simp only [Nat.zero_add, List.nil_append] at hown1; obtain ⟨ao3, cap3, rfl⟩ := owns_form hown1; have HO1 := Lib.hid hown1; have K2 := Lib.hid (((Keep.refl nob wr).alloc (.cells #[] 5)).grown hgrow1 fun k hk hlt => by simp [Value.ownBlock] at hk; omega); clear hown1 hgrow1 hat1 hnil1) | (at_builtin; (with_reducible refine wpList_append_src (o := ⟨some 65, _, _, _, _, _⟩) ?_ (.tmp 50) (.tmp 64) 32 ?_ w2.heap.size 42 (.slice none 0 0) 1 24 Tryz.underlying32 info_bs ?_ ?_ (.slice ao2 j cap2) j Hs ?_ (owns_keep HOW.out (K2.out.alloc _) (fun _ _ x => x)) 1 [.slice ao3 s cap3] (.slice (some ⟨w3.heap.size, 0, none⟩) 1 1) ?_ (src_one w3 (.slice ao3 s cap3) 42) ?_ ?_ ?_ ?_ ?_ ?_); (rfl); (rfl); (rfl); (decide); (rfl); (rfl); (rfl); ((intro u hu; simp at hu; subst hu; rfl)); ((simp only [maxLen]; omega)); (omega); ((have := HK.out.size; have := K2.out.size; rw [size_alloc]; omega)); intro v2 w4 hown2 hgrow2 hat2 hnil2; have HPUSH := Lib.hid (Bld.push (L := fun i => cut lb (i * s) s) HK.out.size K2.out (by have := Bytes.of_owns HO1.out; rw [HQ.out] at this; exact this) (fun b hb => ⟨owns_block HO1.out b hb, own_lt HO1.out b hb⟩) HR.out (own_lt HOW.out) HLEN.out hgrow2 hown2 hat2); have K3 := Lib.hid (((HK.out.trans K2.out).alloc _).grown hgrow2 fun b hb hlt => absurd hlt (by have := owns_block HOW.out b hb; omega)); clear hown2 hgrow2 hat2 hnil2))
          go_roundw
          case rel => exact ⟨j + 1, by omega, by go_num, K3.out, HPUSH.out⟩
          case measure => (simp [intOf]; omega)
        · have i2 : (q : Int) + (s : Int) ≤ (capb : Int) := by omega
          have HSR := Lib.hid (cut_src (s := q + s - q) (a' := some (a.add q)) HBW.out (by omega) hqs (by omega) (by simp [hcq]))
          go_wp2_with (first | (at_builtin; (with_reducible refine wpList_append_src (o := ⟨some 63, _, _, _, _, _⟩) ?_ (.tmp 51) (.tmp 62) 42 ?_ wr.heap.size 5 (.int .u8 0) 1 1 Tryz.underlying42 info_u8 ?_ ?_ (.slice (some ⟨wr.heap.size, 0, none⟩) 0 0) 0 [] ?_ (owns_empty wr) s (bcs (cut lb q s)) (.slice (some (a.add q)) (q + s - q) (capb - q)) ?_ HSR.out ?_ (bcs_one _) ?_ ?_ ?_ ?_); (rfl); (rfl); (rfl); (decide); (rfl); (rfl); ((rw [bcs_length, HCL.out]; omega)); ((simp only [maxLen]; omega)); (omega); ((rw [size_alloc]; omega)); intro v1 w3 hown1 hgrow1 hat1 hnil1; simp only [Nat.zero_add, List.nil_append] at hown1; obtain ⟨ao3, cap3, rfl⟩ := owns_form hown1; have HO1 := Lib.hid hown1; have K2 := Lib.hid (((Keep.refl nob wr).alloc (.cells #[] 5)).grown hgrow1 fun k hk hlt => by simp [Value.ownBlock] at hk; omega); clear hown1 hgrow1 hat1 hnil1) | (at_builtin; (with_reducible refine wpList_append_src (o := ⟨some 65, _, _, _, _, _⟩) ?_ (.tmp 50) (.tmp 64) 32 ?_ w2.heap.size 42 (.slice none 0 0) 1 24 Tryz.underlying32 info_bs ?_ ?_ (.slice ao2 j cap2) j Hs ?_ (owns_keep HOW.out (K2.out.alloc _) (fun _ _ x => x)) 1 [.slice ao3 s cap3] (.slice (some ⟨w3.heap.size, 0, none⟩) 1 1) ?_ (src_one w3 (.slice ao3 s cap3) 42) ?_ ?_ ?_ ?_ ?_ ?_); (rfl); (rfl); (rfl); (decide); (rfl); (rfl); (rfl); ((intro u hu; simp at hu; subst hu; rfl)); ((simp only [maxLen]; omega)); (omega); ((have := HK.out.size; have := K2.out.size; rw [size_alloc]; omega)); intro v2 w4 hown2 hgrow2 hat2 hnil2; have HPUSH := Lib.hid (Bld.push (L := fun i => cut lb (i * s) s) HK.out.size K2.out (by have := Bytes.of_owns HO1.out; rw [HQ.out] at this; exact this) (fun b hb => ⟨owns_block HO1.out b hb, own_lt HO1.out b hb⟩) HR.out (own_lt HOW.out) HLEN.out hgrow2 hown2 hat2); have K3 := Lib.hid (((HK.out.trans K2.out).alloc _).grown hgrow2 fun b hb hlt => absurd hlt (by have := owns_block HOW.out b hb; omega)); clear hown2 hgrow2 hat2 hnil2))
          go_roundw
          case rel => exact ⟨j + 1, by omega, by go_num, K3.out, HPUSH.out⟩
          case measure => (simp [intOf]; omega)
    · obtain rfl : j = k := by omega
      obtain ⟨w3, rfl⟩ : ∃ w3 : World, w3 = wr := ⟨_, rfl⟩
      have HLL : Hid (j * s ≤ lb.length) := by rw [HB.out.1]; exact HS.out
      have HSS := Lib.hid ((HBD.out.congr (L' := gr (cuts lb j s)) fun i hi => gr_cuts _ _ _ _ hi).ss (cuts_shape HLL.out))
      clear hlt hB hK ho hr hlen hj
      go_wp2_with fail
      refine (cEncode w1.heap.size pc f n j s cv _ (cuts lb j s) _ w3 (HC.out.keep0 HK.out) HSS.out n1 n2 n3 hs1).mono ?_
      rintro e w4 ⟨u, rfl, hk4, hs4⟩
      obtain ⟨au, cu, rfl⟩ := hs4.form
      have HK4 := Lib.hid (HK.out.trans hk4)
      have HS4 := Lib.hid hs4
      have HSD := Lib.hid (HSS.out.keep0 hk4)
      have HC4 := Lib.hid ((HC.out.keep0 HK.out).keep0 hk4)
      have HX4 := Lib.hid ((HK.out.trans hk4).some HX2.out (fun x => x))
      have e0 : ((n : Int) != (n : Int)) = false := by simp
      clear hk4 hs4
      go_wp2_with fail
      clear e0
      obtain ⟨A, C, hSA⟩ := HS4.out
      have HSA := Lib.hid hSA
      clear hSA
      go_loopw [14, 15] (fun v i wr => ∃ t : Nat, t ≤ n ∧ i = .int .i64 t ∧ Keep nob w4 wr ∧ BldP wr w4.heap.size v t s (gr (prod (gen n j) (cuts lb j s) s))) (fun _ i _ => n - (intOf i).toNat)
      case atStart => exact ⟨0, Nat.zero_le _, rfl, Keep.refl _ _, BldP.nil _ _ _ _⟩
      case round =>
        obtain ⟨t, ht, rfl, hK, hB⟩ := hrel
        obtain ⟨HH, ho, hr⟩ := hB
        obtain ⟨ao5, cap5, rfl⟩ := owns_form ho
        have HK5 := Lib.hid hK
        have HOW := Lib.hid ho
        have HR := Lib.hid hr
        by_cases hlt : t < n
        · have i1 : (t : Int) < (n : Int) := by omega
          obtain ⟨b6, o6, rfl, _, hb6, hcell⟩ := HSA.out.cells hlt
          have d1 := (hK.alloc (.cells #[] 5)).cellS (hcell t hlt) (fun x => x)
          have HBY := Lib.hid ((HSA.out.row t hlt).keep0 (hK.alloc (.cells #[] 5)))
          have HLR : Hid ((gr (prod (gen n j) (cuts lb j s) s) t).length = s) := HSA.out.shape.2 t hlt
          clear hK ho hr hcell
          go_wp2_with (first
            | (at_builtin; (with_reducible refine wpList_append_src (o := ⟨some 92, _, _, _, _, _⟩) ?_ (.tmp 87) (.tmp 91) 42 ?_ wr.heap.size 5 (.int .u8 0) 1 1 Tryz.underlying42 info_u8 ?_ ?_ (.slice (some ⟨wr.heap.size, 0, none⟩) 0 0) 0 [] ?_ (owns_empty wr) s (bcs (gr (prod (gen n j) (cuts lb j s) s) t)) (.slice (A t) s (C t)) ?_ HBY.out.src ?_ (bcs_one _) ?_ ?_ ?_ ?_); (rfl); (rfl); (rfl); (decide); (rfl); (rfl); ((rw [bcs_length, HLR.out]; omega)); ((simp only [maxLen]; omega)); (omega); ((rw [size_alloc]; omega)); intro v1 w6 hown1 hgrow1 hat1 hnil1; simp only [Nat.zero_add, List.nil_append] at hown1; obtain ⟨ao3, cap3, rfl⟩ := owns_form hown1; have HO1 := Lib.hid hown1; have K2 := Lib.hid (((Keep.refl nob wr).alloc (.cells #[] 5)).grown hgrow1 fun k hk hlt => by simp [Value.ownBlock] at hk; omega); clear hown1 hgrow1 hat1 hnil1)
            | (at_builtin; (with_reducible refine wpList_append_src (o := ⟨some 95, _, _, _, _, _⟩) ?_ (.tmp 85) (.tmp 94) 22 ?_ w4.heap.size 44 (.agg #[.int .i64 0, .slice none 0 0]) 2 32 Tryz.underlying22 info_part ?_ ?_ (.slice ao5 t cap5) t (pcs HH t) ?_ (owns_keep HOW.out (K2.out.alloc _) (fun _ _ x => x)) 1 [.int .i64 (t : Int), .slice ao3 s cap3] (.slice (some ⟨w6.heap.size, 0, none⟩) 1 1) ?_ (src_two w6 (.int .i64 (t : Int)) (.slice ao3 s cap3) 44) ?_ ?_ ?_ ?_ ?_ ?_); (rfl); (rfl); (rfl); (decide); (rfl); (rfl); (rfl); ((intro u hu; simp at hu; rcases hu with rfl | rfl <;> rfl)); ((simp only [maxLen]; omega)); (omega); ((have := HK5.out.size; have := K2.out.size; rw [size_alloc]; omega)); intro v2 w7 hown2 hgrow2 hat2 hnil2; have HPUSH := Lib.hid (BldP.push (E := gr (prod (gen n j) (cuts lb j s) s)) K2.out HOW.out HR.out ⟨_, _, rfl, owns_mono HO1.out HK5.out.size⟩ hgrow2 hown2); have K3 := Lib.hid (((HK5.out.trans K2.out).alloc _).grown hgrow2 fun b hb hlt => absurd hlt (by have := owns_block HOW.out b hb; omega)); clear hown2 hgrow2 hat2 hnil2))
          go_roundw
          case rel => exact ⟨t + 1, by omega, by go_num, K3.out, HPUSH.out⟩
          case measure => (simp [intOf]; omega)
        · obtain rfl : t = n := by omega
          obtain ⟨w5, rfl⟩ : ∃ w5 : World, w5 = wr := ⟨_, rfl⟩
          have HP0 : Hid (BldP w5 w4.heap.size (.slice ao5 t cap5) t s (gr (prod (gen t j) (cuts lb j s) s))) := ⟨HH, ho, hr⟩
          obtain ⟨g, cap, Aa, Cc, e, hpg, hph⟩ := HP0.out.pg (by omega)
          simp only [Value.slice.injEq] at e
          obtain ⟨rfl, _, rfl⟩ := e
          have HPG := Lib.hid hpg
          have HPH := Lib.hid hph
          have hX5 := hK.some HX4.out (fun x => x)
          have HX5 := Lib.hid hX5
          have HC5 := Lib.hid (HC4.out.keep0 hK)
          have HD5 := Lib.hid (HSD.out.keep0 hK)
          clear hlt hK ho hr ht hpg hph HOW HR HP0 hX5
          go_wp2_with fail
          go_loopw [16] (fun i wr => ∃ i' : Nat, i' ≤ t ∧ i = .int .i64 i' ∧ Keep (fun b => b = g) w5 wr ∧ ∃ σ, PG wr w4.heap.size g cap5 t s σ Aa Cc ∧ (∀ a, a < t → σ a < t) ∧ (∀ a b, a < t → b < t → σ a = σ b → a = b)) (fun i _ => t - (intOf i).toNat)
          case atStart => exact ⟨0, Nat.zero_le _, rfl, Keep.refl _ _, _, HPG.out, fun a ha => ha, fun a b _ _ h => h⟩
          case round =>
            obtain ⟨i, hi, rfl, hK, σ, hpg, hlt, hinj⟩ := hrel
            have HK6 := Lib.hid hK
            have HPR := Lib.hid hpg
            have HLT := Lib.hid hlt
            have HINJ := Lib.hid hinj
            have HGX : Hid (g ≠ w.heap.size) := by
              have h1 := hpg.gB
              have h2 := lt_of_block HX4.out
              show g ≠ _
              omega
            have HX6 := Lib.hid (hK.some HX5.out (fun x => HGX.out x.symm))
            have d1 : wr.cell? ⟨w.heap.size, 3, none⟩ = some (.slice aoo no capo) := by rw [cell_of HX6.out]; rfl
            have d4 : wr.cell? ⟨w.heap.size, 4, none⟩ = some (.int .i64 T) := by rw [cell_of HX6.out]; rfl
            obtain ⟨r, hr⟩ : ∃ r : Nat, r = t - j := ⟨_, rfl⟩
            obtain ⟨z, hz, hzz⟩ := imod_nat T (r + 1) (by omega)
            have HZ := Lib.hid hzz
            have r1 : (t : Int) - (j : Int) = (r : Int) := by omega
            have r2 : (j : Int) + (z : Int) ≤ (cap5 : Int) := by have := hpg.nc; omega
            have r3 : ¬ cap5 = 0 := by have := hpg.nc; omega
            have r4 : j + z ≤ t := by omega
            have r5 : r ≤ 255 := by omega
            clear hr hzz
            by_cases hlt1 : i < t
            · by_cases hlt2 : i < no
              · have i1 : (i : Int) < (t : Int) := by omega
                have i2 : (i : Int) < (no : Int) := by omega
                obtain ⟨bo, oo, rfl, hbo, hco⟩ := HO.out.cells hlt2
                have hbg : bo ≠ g := by
                  have h1 := HPR.out.gB
                  have h2 := HK2.out.size
                  have h4 := HK4.out.size
                  omega
                have d2 := hK.cellS (p := ⟨bo, oo + i, none⟩) (((HK2.out.trans HK4.out).trans HK5.out).cellS (hco i hlt2) (fun x => x)) hbg
                obtain ⟨y, hy, hyy⟩ := imod_nat (os i) t (by omega)
                have HY := Lib.hid hyy
                clear hK hpg hlt hinj hco hbo hbg hyy
                go_wp2_with fail
                refine (lMod (os i) t y _ (by omega) (by omega) HY.out).mono ?_
                rintro e w' ⟨rfl, rfl⟩
                have c1 := HPR.out.c0 hlt1
                have c2 := HPR.out.c1 hlt1
                have i3 : (y : Int) < (t : Int) := by omega
                have A1 := HPR.out.keep0 ((Keep.refl nob wr).alloc (.cells #[.int .i64 (σ i : Int), .slice (Aa (σ i)) s (Cc (σ i))] 44))
                have A2 := A1.put (x := σ y) hlt1
                have q1 := A1.c0 hy
                have q2 := A1.c1 hy
                have q3 := A1.c0 hlt1
                have q4 := A1.c1 hlt1
                have q5 := A1.frozen (i * 2)
                have q6 := A1.frozen (i * 2 + 1)
                have q7 := A2.c0 hy
                have q8 := A2.c1 hy
                have q9 := A2.frozen (y * 2)
                have q10 := A2.frozen (y * 2 + 1)
                have hgl : g ≠ wr.heap.size := by have := HPR.out.lt; omega
                have hgl' : wr.heap.size ≠ g := fun x => hgl x.symm
                have p1 : (((wr.alloc (.cells #[.int .i64 (σ i : Int), .slice (Aa (σ i)) s (Cc (σ i))] 44)).setCell ⟨g, i * 2, none⟩ (.int .i64 (σ y : Int))).setCell ⟨g, i * 2 + 1, none⟩ (.slice (Aa (σ y)) s (Cc (σ y)))).cell? ⟨wr.heap.size, 0, none⟩ = some (.int .i64 (σ i : Int)) := by
                  rw [cell_of (heap_setCell_ne (heap_setCell_ne (heap_alloc_at wr _) hgl') hgl')]; rfl
                have p2 : (((wr.alloc (.cells #[.int .i64 (σ i : Int), .slice (Aa (σ i)) s (Cc (σ i))] 44)).setCell ⟨g, i * 2, none⟩ (.int .i64 (σ y : Int))).setCell ⟨g, i * 2 + 1, none⟩ (.slice (Aa (σ y)) s (Cc (σ y)))).cell? ⟨wr.heap.size, 1, none⟩ = some (.slice (Aa (σ i)) s (Cc (σ i))) := by
                  rw [cell_of (heap_setCell_ne (heap_setCell_ne (heap_alloc_at wr _) hgl') hgl')]; rfl
                have HA2 := Lib.hid A2
                clear A1 A2
                go_wp2_with fail
                go_roundw
                case rel =>
                  refine ⟨i + 1, by omega, by go_num, ((((HK6.out.alloc _).setCell (fun _ => rfl) _).setCell (fun _ => rfl) _).setCell (fun _ => rfl) _).setCell (fun _ => rfl) _, _, HA2.out.put (x := σ i) hy, ?_, ?_⟩
                  · exact swp_lt HLT.out hlt1 hy
                  · exact swp_inj HINJ.out hlt1 hy
                case measure => (simp [intOf]; omega)
              · have i1 : (i : Int) < (t : Int) := by omega
                have i2 : ¬ (i : Int) < (no : Int) := by omega
                clear hK hpg hlt hinj
                have HQ : Hid (∀ d, Calls Tryz.prog 26 #[.int .i64 T, .int .i64 ((r : Int) + 1)] (wr.drewN d) fun e w' => e = .returned (.int .i64 z) ∧ w' = wr.drewN d) := fun d => by
                  have h := lMod T (r + 1) z (wr.drewN d) (by omega) (by omega) HZ.out
                  rw [show ((r + 1 : Nat) : Int) = (r : Int) + 1 by omega] at h
                  exact h.mono fun _ _ ⟨h1, h2⟩ => ⟨h1, h2.symm⟩
                go_wp2_with fail
                go_quiet ((go_at_call 26; exact Calls.quiet_of_same (HQ.out _)))
                go_wp2
                (try simp only [Exit.inBlock, Exit.then])
                refine bodyPost_ret (results_tmp4 rfl _ _ _) rfl ?_
                exact made_post HK2.out HK4.out HC4.out HSD.out HK5.out HPH.out HK6.out HPG.out HPR.out HLT.out HINJ.out n1 n3 hs1 (by omega) (by omega)
            · have i1 : ¬ (i : Int) < (t : Int) := by omega
              clear hK hpg hlt hinj
              have HQ : Hid (∀ d, Calls Tryz.prog 26 #[.int .i64 T, .int .i64 ((r : Int) + 1)] (wr.drewN d) fun e w' => e = .returned (.int .i64 z) ∧ w' = wr.drewN d) := fun d => by
                have h := lMod T (r + 1) z (wr.drewN d) (by omega) (by omega) HZ.out
                rw [show ((r + 1 : Nat) : Int) = (r : Int) + 1 by omega] at h
                exact h.mono fun _ _ ⟨h1, h2⟩ => ⟨h1, h2.symm⟩
              go_wp2_with fail
              go_quiet ((go_at_call 26; exact Calls.quiet_of_same (HQ.out _)))
              go_wp2
              (try simp only [Exit.inBlock, Exit.then])
              refine bodyPost_ret (results_tmp4 rfl _ _ _) rfl ?_
              exact made_post HK2.out HK4.out HC4.out HSD.out HK5.out HPH.out HK6.out HPG.out HPR.out HLT.out HINJ.out n1 n3 hs1 (by omega) (by omega)

end Go.Proofs.YtgnmebgjfagjmaaGreat
