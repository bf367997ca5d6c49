/- mend.Decode of what is refused; of no code; mend.Most of no code. No condition. -/
import Derived.Test.YtgnmebgjfagjmaaGreatRef
namespace Go.Proofs.YtgnmebgjfagjmaaGreat
open Go.RowKit
open M (F Row ge gr)

set_option maxRecDepth 100000 in
set_option maxHeartbeats 2000000 in
theorem mDecodeBad (B pc f n k m : Nat) (want : Int) (v pv : Value) (I : Nat → Int) (A : Nat → Option Addr) (L C : Nat → Nat) (w : World) (h : CodeW w B pc f n k v) (hp : PV w pv m I A L C) (hm : m ≤ 65536) (hn : n ≤ 255) (h0 : want ≠ 0) (hw : ∀ x, Why n k m I L x → x = want) :
    Calls Tryz.prog 14 #[.pointer (some ⟨pc, 0, none⟩), pv] w fun e w' => e = .returned (.tuple #[.slice none 0 0, .slice none 0 0, .int .i64 want]) ∧ Keep nob w w' := by
  have e1 : (want != 0) = true := by simp [h0]
  have H := Lib.hid h
  have HP := Lib.hid hp
  have HW := Lib.hid hw
  clear h hp hw h0
  go_enter Tryz.func14, Tryz.ntmps14
  go_wp2_with fail
  refine (mRefused B pc f n k m v pv I A L C w H.out HP.out hm hn).mono ?_
  rintro e w' ⟨⟨x, rfl, hx⟩, hk⟩
  obtain rfl := HW.out x hx
  have HK := Lib.hid hk
  clear hk hx
  go_wp2
  go_ret3
  exact ⟨rfl, HK.out⟩

set_option maxRecDepth 100000 in
theorem mRefusedNil (pv : Value) (w : World) :
    Calls Tryz.prog 33 #[.pointer none, pv] w fun e w' => e = .returned (.int .i64 1) ∧ w = w' := by
  go_enter Tryz.func33, Tryz.ntmps33
  go_wp2
  go_ret
  exact ⟨rfl, rfl⟩
set_option maxRecDepth 100000 in
theorem mDecodeNil (pv : Value) (w : World) :
    Calls Tryz.prog 14 #[.pointer none, pv] w fun e w' => e = .returned (.tuple #[.slice none 0 0, .slice none 0 0, .int .i64 1]) ∧ w = w' := by
  go_enter Tryz.func14, Tryz.ntmps14
  go_wp2_with fail
  refine (mRefusedNil pv w).mono ?_
  rintro e w' ⟨rfl, rfl⟩
  go_wp2
  go_ret3
  exact ⟨rfl, rfl⟩
set_option maxRecDepth 100000 in
theorem mMostNil (m : Int) (w : World) :
    Calls Tryz.prog 9 #[.pointer none, .int .i64 m] w fun e w' => e = .returned (.int .i64 0) ∧ w = w' := by
  go_enter Tryz.func9, Tryz.ntmps9
  go_wp2
  go_ret
  exact ⟨rfl, rfl⟩

/-! ### the ways in which parts are refused -/
theorem why_index {n k m : Nat} {I : Nat → Int} {L : Nat → Nat} {i : Nat} (hi : i < m) (h : I i < 0 ∨ (n : Int) ≤ I i) (x : Int) (hx : Why n k m I L x) : x = 22 := by
  rcases hx with ⟨rfl, _⟩ | ⟨h1, _⟩
  · rfl
  · have := h1 i hi; omega
theorem why_twice {n k m : Nat} {I : Nat → Int} {L : Nat → Nat} {i j : Nat} (h0 : ∀ i, i < m → 0 ≤ I i ∧ I i < (n : Int)) (hi : i < j) (hj : j < m) (h : I i = I j) (x : Int) (hx : Why n k m I L x) : x = 21 := by
  rcases hx with ⟨_, a, ha, hb⟩ | ⟨_, ⟨rfl, _⟩ | ⟨h2, _⟩⟩
  · have := h0 a ha; omega
  · rfl
  · exact absurd h (h2 i j hi hj)
theorem why_size {n k m : Nat} {I : Nat → Int} {L : Nat → Nat} {i : Nat} (h0 : ∀ i, i < m → 0 ≤ I i ∧ I i < (n : Int)) (h1 : ∀ i j, i < j → j < m → I i ≠ I j) (hi : i < m) (h : L i ≠ L 0) (x : Int) (hx : Why n k m I L x) : x = 23 := by
  rcases hx with ⟨_, a, ha, hb⟩ | ⟨_, ⟨_, a, b, ha, hb, hab⟩ | ⟨_, ⟨rfl, _⟩ | ⟨h3, _⟩⟩⟩
  · have := h0 a ha; omega
  · exact absurd hab (h1 a b ha hb)
  · rfl
  · exact absurd (h3 i hi) h
theorem why_few {n k m : Nat} {I : Nat → Int} {L : Nat → Nat} (h0 : ∀ i, i < m → 0 ≤ I i ∧ I i < (n : Int)) (h1 : ∀ i j, i < j → j < m → I i ≠ I j) (h2 : ∀ i, i < m → L i = L 0) (h : m < k) (x : Int) (hx : Why n k m I L x) : x = 20 := by
  rcases hx with ⟨_, a, ha, hb⟩ | ⟨_, ⟨_, a, b, ha, hb, hab⟩ | ⟨_, ⟨_, a, ha, hb⟩ | ⟨_, ⟨rfl, _⟩ | ⟨_, h4⟩⟩⟩⟩
  · have := h0 a ha; omega
  · exact absurd hab (h1 a b ha hb)
  · exact absurd (h2 a ha) hb
  · rfl
  · omega

end Go.Proofs.YtgnmebgjfagjmaaGreat
