/- What a world keeps, and how lists of bytes, rows and numbers lie in it. No condition. -/
import Derived.Test.YtgnmebgjfagjmaaGreatLin
import Derived.WalkKit
import Derived.WalkSpells
import Derived.WalkLawsBesides
import Derived.Maps.AppendAt
import Derived.Laws.AppendOwnNone
import Derived.Deep.AppendLies
namespace Go.Proofs.YtgnmebgjfagjmaaGreat
open Go.RowKit
open M (F Row ge gr)

/-- w' is w with new blocks, and with turns in blocks of S alone -/
structure Keep (S : Nat → Prop) (w w' : World) : Prop where
  os : w'.os = w.os
  tape : w'.tape = w.tape
  output : w'.output = w.output
  size : w.heap.size ≤ w'.heap.size
  block : ∀ k, k < w.heap.size → ¬ S k → w'.heap[k]? = w.heap[k]?
def nob : Nat → Prop := fun _ => False
theorem Keep.refl (S : Nat → Prop) (w : World) : Keep S w w := ⟨rfl, rfl, rfl, Nat.le_refl _, fun _ _ _ => rfl⟩
theorem Keep.trans {S : Nat → Prop} {a b c : World} (h : Keep S a b) (k : Keep S b c) : Keep S a c :=
  ⟨k.os.trans h.os, k.tape.trans h.tape, k.output.trans h.output, Nat.le_trans h.size k.size, fun i hi hs => (k.block i (Nat.lt_of_lt_of_le hi h.size) hs).trans (h.block i hi hs)⟩
theorem Keep.mono {S T : Nat → Prop} {a b : World} (h : Keep S a b) (hs : ∀ k, k < a.heap.size → S k → T k) : Keep T a b :=
  ⟨h.os, h.tape, h.output, h.size, fun i hi hn => h.block i hi fun x => hn (hs i hi x)⟩
theorem Keep.of_nob {T : Nat → Prop} {a b : World} (h : Keep nob a b) : Keep T a b := h.mono fun _ _ x => x.elim
theorem Keep.step {S T : Nat → Prop} {a b c : World} (h : Keep S a b) (k : Keep T b c) (hs : ∀ i, i < a.heap.size → T i → S i) : Keep S a c :=
  ⟨k.os.trans h.os, k.tape.trans h.tape, k.output.trans h.output, Nat.le_trans h.size k.size, fun i hi hn =>
    (k.block i (Nat.lt_of_lt_of_le hi h.size) fun x => hn (hs i hi x)).trans (h.block i hi hn)⟩
theorem Keep.drew {S : Nat → Prop} {a w : World} (h : Keep S a w) : Keep S a w.drew := ⟨h.os, h.tape, h.output, h.size, h.block⟩
theorem Keep.drewN {S : Nat → Prop} {a w : World} (h : Keep S a w) (n : Nat) : Keep S a (w.drewN n) := ⟨h.os, h.tape, h.output, h.size, h.block⟩
theorem Keep.alloc {S : Nat → Prop} {a w : World} (h : Keep S a w) (o : Obj) : Keep S a (w.alloc o) :=
  ⟨h.os, h.tape, h.output, Nat.le_trans h.size (by simp), fun k hk hn => (Below.heap_alloc w o k (Nat.lt_of_lt_of_le hk h.size)).trans (h.block k hk hn)⟩
theorem Keep.setCell {S : Nat → Prop} {a w : World} (h : Keep S a w) {p : Addr} (hp : p.block < a.heap.size → S p.block) (u : Value) : Keep S a (w.setCell p u) :=
  ⟨h.os, h.tape, h.output, by show _ ≤ (w.heap.modify _ _).size; rw [Array.size_modify]; exact h.size, fun k hk hn =>
    (Below.heap_setCell w p u k fun e => hn (e ▸ hp (e ▸ hk))).trans (h.block k hk hn)⟩
theorem Keep.grown {S : Nat → Prop} {a w w' : World} {row : Option Nat} (h : Keep S a w) (hg : w.grownBy w' row) (hr : ∀ k, row = some k → k < a.heap.size → S k) : Keep S a w' :=
  ⟨hg.os.trans h.os, hg.tape.trans h.tape, hg.output.trans h.output, Nat.le_trans h.size hg.size, fun k hk hn =>
    (hg.block k (Nat.lt_of_lt_of_le hk h.size) fun e => hn (hr k e.symm hk)).trans (h.block k hk hn)⟩
theorem Keep.cell {S : Nat → Prop} {w w' : World} (h : Keep S w w') {p : Addr} (hp : p.block < w.heap.size) (hn : ¬ S p.block) : w'.cell? p = w.cell? p :=
  World.cell?_of_block (w := w) (h.block p.block hp hn)
theorem Keep.frozen {S : Nat → Prop} {w w' : World} (h : Keep S w w') {p : Addr} (hp : p.block < w.heap.size) (hn : ¬ S p.block) : w'.frozen? p = w.frozen? p :=
  World.frozen?_of_block (w := w) (h.block p.block hp hn)
theorem Keep.some {S : Nat → Prop} {w w' : World} (h : Keep S w w') {b : Nat} {o : Obj} (hb : w.heap[b]? = some o) (hn : ¬ S b) : w'.heap[b]? = some o :=
  (h.block b (lt_of_block hb) hn).trans hb
theorem Keep.cellS {S : Nat → Prop} {w w' : World} (h : Keep S w w') {p : Addr} {v : Value} (hp : w.cell? p = Option.some v) (hn : ¬ S p.block) : w'.cell? p = Option.some v :=
  (h.cell (World.block_lt_of_cell? w p hp) hn).trans hp
theorem Keep.below {S : Nat → Prop} {a w : World} (h : Keep S a w) (hs : ∀ k, k < a.heap.size → ¬ S k) : Below a.heap.size a w :=
  ⟨h.os, h.tape, h.output, h.size, fun k hk => h.block k hk (hs k hk)⟩

theorem i64_xor_nat (a b : Nat) (ha : a < 65536) (hb : b < 65536) : bits .xor .i64 (a : Int) (b : Int) = ((a ^^^ b : Nat) : Int) := by
  have hx : a ^^^ b < 2 ^ 16 := Nat.xor_lt_two_pow (by omega) (by omega)
  show IntKind.i64.wrap ((BitVec.ofInt 64 (a : Int) ^^^ BitVec.ofInt 64 (b : Int)).toNat : Int) = _
  rw [BitVec.toNat_xor, ofInt_u64 a (by omega), ofInt_u64 b (by omega)]
  simp [IntKind.wrap, IntKind.bits, IntKind.signed]
  omega

/-- a byte in its cell -/
def bc (x : F) : Value := .int .u8 (x.toNat : Int)
def bcs (l : Row) : List Value := l.map bc
theorem bcs_length (l : Row) : (bcs l).length = l.length := by simp [bcs]
theorem bcs_get (l : Row) (i : Nat) (h : i < l.length) : (bcs l)[i]? = some (bc (ge l i)) := by
  simp [bcs, ge, h, List.getD_eq_getElem?_getD]
/-- a slice of these n bytes (anywhere) -/
def Bytes (w : World) (v : Value) (n : Nat) (l : Row) : Prop :=
  l.length = n ∧ ∃ ao cap, v = .slice ao n cap ∧ (ao = none → cap = 0) ∧ (0 < n → ∃ b o, ao = some ⟨b, o, none⟩ ∧ b < w.heap.size ∧ ∀ i, i < n → w.cell? ⟨b, o + i, none⟩ = some (bc (ge l i)))
theorem Bytes.keep {S : Nat → Prop} {w w' : World} {v : Value} {n : Nat} {l : Row} (h : Bytes w v n l) (k : Keep S w w') (hn : ∀ b, v.ownBlock = some b → b < w.heap.size → ¬ S b) : Bytes w' v n l := by
  obtain ⟨hl, ao, cap, rfl, hz, hh⟩ := h
  refine ⟨hl, ao, cap, rfl, hz, fun h0 => ?_⟩
  obtain ⟨b, o, rfl, hb, hc⟩ := hh h0
  have hs : ¬ S b := hn b rfl hb
  exact ⟨b, o, rfl, Nat.lt_of_lt_of_le hb k.size, fun i hi => (k.cell (p := ⟨b, o + i, none⟩) hb hs).trans (hc i hi)⟩
theorem Bytes.cells {w : World} {ao : Option Addr} {n m cap : Nat} {l : Row} (h : Bytes w (.slice ao m cap) n l) {k : Nat} (hk : k < n) :
    ∃ b o, ao = some ⟨b, o, none⟩ ∧ b < w.heap.size ∧ ∀ i, i < n → w.cell? ⟨b, o + i, none⟩ = some (.int .u8 (ge l i).toNat) := by
  obtain ⟨hl, ao', cap', e, hz, hh⟩ := h
  simp only [Value.slice.injEq] at e
  obtain ⟨rfl, rfl, rfl⟩ := e
  exact hh (by omega)
theorem Bytes.keep0 {w w' : World} {v : Value} {n : Nat} {l : Row} (h : Bytes w v n l) (k : Keep nob w w') : Bytes w' v n l := h.keep k fun _ _ _ x => x
theorem Bytes.form {w : World} {v : Value} {n : Nat} {l : Row} (h : Bytes w v n l) : ∃ ao cap, v = .slice ao n cap := by
  obtain ⟨_, ao, cap, e, _⟩ := h
  exact ⟨ao, cap, e⟩
theorem Bytes.of_owns {w : World} {base : Nat} {v : Value} {l : Row} {n : Nat} (h : w.ownsRow base 5 1 v n (bcs l)) : Bytes w v n l := by
  have hl : l.length = n := by have := h.1; rw [bcs_length] at this; omega
  refine ⟨hl, ?_⟩
  rcases h.2 with ⟨rfl, h0⟩ | ⟨g, cap, cur, rfl, _, hg, _⟩
  · exact ⟨none, 0, by rw [h0], fun _ => rfl, fun h1 => by omega⟩
  · refine ⟨_, cap, rfl, fun e => (by cases e), fun h1 => ⟨g, 0, rfl, lt_of_block hg, fun i hi => ?_⟩⟩
    have := h.cellAt i (by omega)
    rw [Nat.zero_add, this, bcs_get _ _ (by omega)]
theorem owns_block {w : World} {base : Nat} {e : TypeId} {size : Nat} {v : Value} {n : Nat} {xs : List Value} (h : w.ownsRow base e size v n xs) : ∀ b, v.ownBlock = some b → base ≤ b := fun b hb => (h.lt b hb).1

/-- what is appended: m elements of these cells, wherever they lie -/
def Src (w : World) (x : Value) (m : Nat) (news : List Value) : Prop :=
  ∃ ao c, x = .slice ao m c ∧ (ao = none → c = 0) ∧ (0 < m → ∃ b o, ao = some ⟨b, o, none⟩ ∧ b < w.heap.size ∧ ∀ j u, news[j]? = some u → w.cell? ⟨b, o + j, none⟩ = some u)
theorem Bytes.src {w : World} {v : Value} {n : Nat} {l : Row} (h : Bytes w v n l) : Src w v n (bcs l) := by
  obtain ⟨hl, ao, cap, rfl, hz, hh⟩ := h
  refine ⟨ao, cap, rfl, hz, fun h0 => ?_⟩
  obtain ⟨b, o, rfl, hb, hc⟩ := hh h0
  refine ⟨b, o, rfl, hb, fun j u hu => ?_⟩
  have hj : j < l.length := by
    have := (List.getElem?_eq_some_iff.1 hu).1
    rwa [bcs_length] at this
  rw [bcs_get _ _ hj] at hu
  rw [← hu]; exact hc j (by omega)
theorem bcs_one (l : Row) : ∀ u ∈ bcs l, u.oneCell' = true := by
  intro u hu
  simp only [bcs, List.mem_map] at hu
  obtain ⟨x, _, rfl⟩ := hu
  rfl
theorem addr_add (b o j : Nat) : (⟨b, o, none⟩ : Addr).add j = ⟨b, o + j, none⟩ := by
  unfold Addr.add; split <;> simp_all

/-- append onto what the call itself owns, from wherever: one more fact: where it lies -/
theorem wpList_append_src {P : Program} {w : World} {ops : Array Oper} {rest : List Oper} {o : Oper} {a : Act} {Q : Exit → Act → World → Prop} (hgd : o.guard = none) (s x : Operand) (t : TypeId)
    (ho : o.op = .call { callee := .builtin .append, args := #[s, x], argTypes := #[t, t] })
    (base : Nat) (e : TypeId) (z : Value) (size bytes : Nat) (ht : P.underlying t = some (.slice e)) (hinfo : (P.info? e).map (fun i => (i.zero, i.size, i.bytes)) = some (some z, size, bytes))
    (hzs : z.cells.size = size) (hsz : 0 < size)
    (v : Value) (n : Nat) (xs : List Value) (hs : a.eval s = v) (hown : w.ownsRow base e size v n xs)
    (m : Nat) (news : List Value) (xv : Value) (hx : a.eval x = xv) (hsrc : Src w xv m news) (hl : news.length = m * size) (h1 : ∀ u ∈ news, u.oneCell' = true)
    (h63 : n + m ≤ maxLen) (hbytes : (n + m) * bytes ≤ 140737488355328) (hbase : base ≤ w.heap.size)
    (h : ∀ v' w', w'.ownsRow base e size v' (n + m) (xs ++ news) → w.grownBy w' v.ownBlock → (v'.ownBlock = v.ownBlock ∨ v'.ownBlock = some w.heap.size) → (v' = .slice none 0 0 ↔ v = .slice none 0 0 ∧ m = 0) → wpList P ops Q rest (a.put o.dst v') w') :
    wpList P ops Q (o :: rest) a w := by
  obtain ⟨i, hi, hz, hsize, hby⟩ := info_parts hinfo
  obtain ⟨ao, c, rfl, hc0, hcells⟩ := hsrc
  by_cases hm : m = 0
  · subst hm
    have hnews : news = [] := List.eq_nil_of_length_eq_zero (by simpa using hl)
    subst hnews
    cases ao with
    | none =>
      have := hc0 rfl
      subst this
      exact wpList_append_own_none hgd s x t ho base e i size ht hi v n xs hs hown hx (h v w (by simpa using hown) ⟨rfl, rfl, rfl, Nat.le_refl _, fun _ _ _ => rfl⟩ (.inl rfl) (by simp))
    | some ad =>
      refine wpList_append_own_at w hgd s x t ho base e i z size bytes ht hi hz hsize hby hzs hsz v n xs hs hown ad 0 c [] hx hl (by intro j u hu; simp at hu) h1 h63 hbytes hbase ?_
      intro v' w' h2 h3 h4 h5
      exact h v' w' h2 h3 h5 h4
  · obtain ⟨b, o', rfl, _, hcc⟩ := hcells (by omega)
    refine wpList_append_own_at w hgd s x t ho base e i z size bytes ht hi hz hsize hby hzs hsz v n xs hs hown ⟨b, o', none⟩ m c news hx hl (by intro j u hu; rw [addr_add]; exact hcc j u hu) h1 h63 hbytes hbase ?_
    intro v' w' h2 h3 h4 h5
    exact h v' w' h2 h3 h5 h4

end Go.Proofs.YtgnmebgjfagjmaaGreat
