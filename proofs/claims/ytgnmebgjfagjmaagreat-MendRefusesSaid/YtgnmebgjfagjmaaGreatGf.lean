/- The field of 256 elements as the program's tables have it: products by logarithms; a product is the one that is reckoned bit by bit, so it distributes. No condition. -/
import Derived.KernelRfl
namespace Go.Proofs.YtgnmebgjfagjmaaGreat
namespace M

/-- twice an element -/
def gstep (x : Nat) : Nat := if 2 * x > 255 then (2 * x) ^^^ 285 else 2 * x
/-- the powers of 2 -/
def xs : Nat → Nat
  | 0 => 1
  | i + 1 => gstep (xs i)
def expP : Nat := 0x8e47add86c361b83cfe9fa7db0582c160b8bcbebfbf3f7f5f47a3d90482412098a45ac562b9bc3eff9f279b259a251a653a7dde070381c0e078dc86432198241ae57a5dc6e3795c46231964babdbe3fff1f67bb3d7e5fc7e3f91c663bfd1e673b7d5e472399249aa55a452299a4da8542a158442219e4fa9da6db85c2e1785cc663397c5ec763b93c7edf87c3e1f81ce67bdd068341a0d884422118643afd9e271b65ba3dfe1fe7fb1d66bbbd3e7fdf0783c1e0f89ca65bc5e2f99c261be5fa1de6fb9d269ba5da05028140a058c46239fc1ee77b5d46a35944a259c4e279dc06030180c06038fc9ea75b45a2d984c261387cde8743a1d8040201008040201
def logP : Nat := 0xaf5850a8eaf4d674e8ade7e6e9d5ae4fd72c757aeb16f50b51a0a99cb05f59cb5a3eccbbb18660fbaa559d29523ba16cf66f0c7fec4917c476a47bb7d8432d1fa2416d4753393c849e5d2a14abd356f261befcdcb2978790cdcfbc955bd13f372e892023d99244117cb4b8267799a5e318fec531edde4a670d63808cf7c0700757a7f373ace5d44e2b79150a9f9b5eca3dba85fa54283a6b6e7e48c3a3b6421e404638835c13d2f1bddb968fce94d03688229110b32598e2fd30dd66628bbf06a672e44d78099ac9b9f9276a7dc2b51d458212f0da8e9335210f24e12f658a05714c08c8f869c11c81ef8d340ee064044bc7681bee33df03c61a320219010000
/-- the i-th byte of a number -/
def byt (n i : Nat) : Nat := (n >>> (8 * i)) % 256
def ex (i : Nat) : Nat := byt expP (i % 255)
def lg (a : Nat) : Nat := byt logP a
/-- the product by the tables -/
def gm (a b : Nat) : Nat := if a = 0 then 0 else if b = 0 then 0 else ex (lg a + lg b)
/-- n times twice -/
def gs (a : Nat) : Nat → Nat
  | 0 => a
  | n + 1 => gstep (gs a n)
/-- the product bit by bit -/
def tm (a b : Nat) : Nat → Nat
  | 0 => 0
  | n + 1 => tm a b n ^^^ (if b.testBit n then gs a n else 0)
/-- does a test hold below n? -/
def upto (n : Nat) (p : Nat → Bool) : Bool := Nat.rec (motive := fun _ => Bool) true (fun i r => p i && r) n
theorem upto_at {n : Nat} {p : Nat → Bool} (h : upto n p = true) : ∀ i, i < n → p i = true := by
  induction n with
  | zero => intro i hi; omega
  | succ n ih =>
    intro i hi
    have h' : (p n && upto n p) = true := h
    rw [Bool.and_eq_true] at h'
    by_cases e : i = n
    · rw [e]; exact h'.1
    · exact ih h'.2 i (by omega)

theorem byt_lt (n i : Nat) : byt n i < 256 := Nat.mod_lt _ (by omega)
theorem ex_lt (i : Nat) : ex i < 256 := byt_lt _ _
theorem lg_lt (a : Nat) : lg a < 255 := by
  by_cases ha : a < 256
  · have h : upto 256 (fun j => Nat.ble (byt logP j) 254) = true := by kernel_rfl
    have := Nat.le_of_ble_eq_true (upto_at h a ha)
    exact Nat.lt_succ_of_le this
  · have h0 : logP >>> 2048 = 0 := by kernel_rfl
    have : logP >>> (8 * a) = 0 := by
      have e : 8 * a = 2048 + (8 * a - 2048) := by omega
      rw [e, Nat.shiftRight_add, h0, Nat.zero_shiftRight]
    unfold lg byt; rw [this]; omega
theorem ex_mod (i : Nat) : ex (i % 255) = ex i := by unfold ex; rw [Nat.mod_mod]
theorem lg_ex (i : Nat) : lg (ex i) = i % 255 := by
  have h : upto 255 (fun j => Nat.beq (byt logP (byt expP j)) j) = true := by kernel_rfl
  exact Nat.eq_of_beq_eq_true (upto_at h _ (Nat.mod_lt i (by omega)))
theorem ex_lg (a : Nat) (h0 : a ≠ 0) (h : a < 256) : ex (lg a) = a := by
  have hh : upto 255 (fun j => Nat.beq (byt expP (byt logP (j + 1) % 255)) (j + 1)) = true := by kernel_rfl
  have := Nat.eq_of_beq_eq_true (upto_at hh (a - 1) (by omega))
  have e : a - 1 + 1 = a := by omega
  rw [e] at this
  exact this
theorem ex_ne (i : Nat) : ex i ≠ 0 := by
  have h : upto 255 (fun j => Nat.ble 1 (byt expP j)) = true := by kernel_rfl
  have := Nat.le_of_ble_eq_true (upto_at h _ (Nat.mod_lt i (by omega)))
  unfold ex; omega
theorem ex_zero : ex 0 = 1 := by kernel_rfl
theorem lg_one : lg 1 = 0 := by kernel_rfl
theorem xs_ex (i : Nat) (h : i < 255) : xs i = ex i := by
  have hh : upto 254 (fun j => Nat.beq (gstep (byt expP j)) (byt expP (j + 1))) = true := by kernel_rfl
  induction i with
  | zero => exact ex_zero.symm
  | succ i ih =>
    have := ih (by omega)
    show gstep (xs i) = _
    rw [this]
    unfold ex
    rw [Nat.mod_eq_of_lt (by omega), Nat.mod_eq_of_lt h]
    exact Nat.eq_of_beq_eq_true (upto_at hh i (by omega))

theorem gm_lt (a b : Nat) : gm a b < 256 := by
  unfold gm; split
  · omega
  · split
    · omega
    · exact ex_lt _
theorem gm_comm (a b : Nat) : gm a b = gm b a := by
  unfold gm
  by_cases h : a = 0 <;> by_cases h' : b = 0 <;> simp [h, h', Nat.add_comm]
theorem gm_zero (a : Nat) : gm a 0 = 0 := by unfold gm; split <;> rfl
theorem zero_gm (a : Nat) : gm 0 a = 0 := by unfold gm; simp
theorem gm_one (a : Nat) (h : a < 256) : gm a 1 = a := by
  unfold gm
  by_cases h0 : a = 0
  · simp [h0]
  · simp only [h0, if_false, Nat.one_ne_zero, lg_one, Nat.add_zero]; exact ex_lg a h0 h
theorem gm_ne {a b : Nat} (ha : a ≠ 0) (hb : b ≠ 0) : gm a b ≠ 0 := by
  unfold gm; rw [if_neg ha, if_neg hb]; exact ex_ne _
theorem gm_nz {a b : Nat} (ha : a ≠ 0) (hb : b ≠ 0) : gm a b = ex (lg a + lg b) := by unfold gm; rw [if_neg ha, if_neg hb]
theorem gm_assoc (a b c : Nat) : gm (gm a b) c = gm a (gm b c) := by
  by_cases ha : a = 0
  · simp [ha, zero_gm]
  by_cases hb : b = 0
  · simp [hb, zero_gm, gm_zero]
  by_cases hc : c = 0
  · simp [hc, gm_zero]
  have h1 := gm_ne ha hb
  have h2 := gm_ne hb hc
  have e1 : gm a b = ex (lg a + lg b) := by unfold gm; rw [if_neg ha, if_neg hb]
  have e2 : gm b c = ex (lg b + lg c) := by unfold gm; rw [if_neg hb, if_neg hc]
  have e3 : gm (gm a b) c = ex (lg (gm a b) + lg c) := gm_nz h1 hc
  have e4 : gm a (gm b c) = ex (lg a + lg (gm b c)) := gm_nz ha h2
  rw [e3, e4, e1, e2, lg_ex, lg_ex]
  rw [← ex_mod, ← ex_mod (lg a + _)]
  congr 1
  omega
/-- the inverse by the tables -/
def gi (a : Nat) : Nat := ex (255 - lg a)
theorem gm_gi (a : Nat) (h0 : a ≠ 0) : gm a (gi a) = 1 := by
  unfold gi
  have e : gm a (ex (255 - lg a)) = ex (lg a + lg (ex (255 - lg a))) := by unfold gm; rw [if_neg h0, if_neg (ex_ne _)]
  rw [e, lg_ex, ← ex_mod]
  have hl := lg_lt a
  have : (lg a + (255 - lg a) % 255) % 255 = 0 := by omega
  rw [this, ex_zero]

/-- the table's product is the product bit by bit -/
theorem gm_tm (a : Nat) (ha : a < 256) (b : Nat) (hb : b < 256) : gm a b = tm a b 8 := by
  have h : upto 256 (fun a => upto 256 fun b => Nat.beq (gm a b) (tm a b 8)) = true := by kernel_rfl
  exact Nat.eq_of_beq_eq_true (upto_at (upto_at h a ha) b hb)

theorem tm_xor (a b c : Nat) (n : Nat) : tm a (b ^^^ c) n = tm a b n ^^^ tm a c n := by
  induction n with
  | zero => simp [tm]
  | succ n ih =>
    simp only [tm, ih, Nat.testBit_xor]
    generalize gs a n = y
    cases b.testBit n <;> cases c.testBit n <;> simp <;> apply Nat.eq_of_testBit_eq <;> intro i <;> simp only [Nat.testBit_xor] <;> cases (tm a b n).testBit i <;> cases (tm a c n).testBit i <;> cases y.testBit i <;> rfl
theorem gm_xor (a b c : Nat) (ha : a < 256) (hb : b < 256) (hc : c < 256) : gm a (b ^^^ c) = gm a b ^^^ gm a c := by
  rw [gm_tm a ha b hb, gm_tm a ha c hc, gm_tm a ha _ (Nat.xor_lt_two_pow (n := 8) hb hc), tm_xor]

/-- an element of the field -/
abbrev F := UInt8
def mul (a b : F) : F := UInt8.ofNat (gm a.toNat b.toNat)
def inv (a : F) : F := UInt8.ofNat (gi a.toNat)
theorem mul_toNat (a b : F) : (mul a b).toNat = gm a.toNat b.toNat := by
  unfold mul; rw [UInt8.toNat_ofNat']; exact Nat.mod_eq_of_lt (gm_lt _ _)
theorem inv_toNat (a : F) : (inv a).toNat = gi a.toNat := by
  unfold inv; rw [UInt8.toNat_ofNat']; exact Nat.mod_eq_of_lt (ex_lt _)
theorem F.ext {a b : F} (h : a.toNat = b.toNat) : a = b := UInt8.toNat_inj.1 h
theorem F.lt (a : F) : a.toNat < 256 := a.toNat_lt
theorem mul_comm (a b : F) : mul a b = mul b a := F.ext (by rw [mul_toNat, mul_toNat, gm_comm])
theorem mul_assoc (a b c : F) : mul (mul a b) c = mul a (mul b c) := F.ext (by simp only [mul_toNat, gm_assoc])
theorem mul_zero (a : F) : mul a 0 = 0 := F.ext (by rw [mul_toNat]; exact gm_zero _)
theorem zero_mul (a : F) : mul 0 a = 0 := F.ext (by rw [mul_toNat]; exact zero_gm _)
theorem mul_one (a : F) : mul a 1 = a := F.ext (by rw [mul_toNat]; exact gm_one _ (F.lt a))
theorem one_mul (a : F) : mul 1 a = a := by rw [mul_comm, mul_one]
theorem mul_add (a b c : F) : mul a (b ^^^ c) = mul a b ^^^ mul a c := F.ext (by
  simp only [mul_toNat, UInt8.toNat_xor]; exact gm_xor _ _ _ (F.lt a) (F.lt b) (F.lt c))
theorem add_mul (a b c : F) : mul (a ^^^ b) c = mul a c ^^^ mul b c := by rw [mul_comm, mul_add, mul_comm c a, mul_comm c b]
theorem ne_toNat {a : F} (h : a ≠ 0) : a.toNat ≠ 0 := fun e => h (F.ext e)
theorem mul_inv {a : F} (h : a ≠ 0) : mul a (inv a) = 1 := F.ext (by rw [mul_toNat, inv_toNat, gm_gi _ (ne_toNat h)]; rfl)
theorem inv_mul {a : F} (h : a ≠ 0) : mul (inv a) a = 1 := by rw [mul_comm, mul_inv h]
theorem mul_ne {a b : F} (ha : a ≠ 0) (hb : b ≠ 0) : mul a b ≠ 0 := by
  intro e
  have := gm_ne (ne_toNat ha) (ne_toNat hb)
  rw [← mul_toNat, e] at this
  exact this rfl
theorem mul_eq_zero {a b : F} (h : mul a b = 0) : a = 0 ∨ b = 0 := by
  by_cases ha : a = 0
  · exact .inl ha
  · by_cases hb : b = 0
    · exact .inr hb
    · exact absurd h (mul_ne ha hb)
theorem add_self (a : F) : a ^^^ a = 0 := UInt8.xor_self
theorem add_zero (a : F) : a ^^^ 0 = a := UInt8.xor_zero
theorem zero_add (a : F) : 0 ^^^ a = a := UInt8.zero_xor
theorem add_comm (a b : F) : a ^^^ b = b ^^^ a := UInt8.xor_comm a b
theorem add_assoc (a b c : F) : a ^^^ b ^^^ c = a ^^^ (b ^^^ c) := UInt8.xor_assoc a b c
theorem add_eq_zero {a b : F} (h : a ^^^ b = 0) : a = b := by
  have : a ^^^ b ^^^ b = b := by rw [h, zero_add]
  rwa [add_assoc, add_self, add_zero] at this
end M
end Go.Proofs.YtgnmebgjfagjmaaGreat
