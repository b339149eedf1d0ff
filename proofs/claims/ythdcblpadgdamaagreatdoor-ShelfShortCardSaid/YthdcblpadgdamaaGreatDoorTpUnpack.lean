/- Own work: what is read as a number is written so. -/
import Derived.Test.YthdcblpadgdamaaGreatDoorTpParse2
import Derived.Test.YthdcblpadgdamaaGreatDoorTpPen
set_option linter.all false
namespace Go.Proofs
open Go Go.Trw
set_option maxRecDepth 100000 in
theorem u8and : ∀ m : Fin 256, iand .u8 (m.val : Int) 127 = ((m.val % 128 : Nat) : Int) := by decide
theorem ofIntNat {k : Nat} (h : k ≤ 18446744073709551615) : (BitVec.ofInt 64 (k : Int)).toNat = k := by
  rw [BitVec.ofInt_natCast, BitVec.toNat_ofNat]; omega
theorem and1 {k : Nat} (h : k ≤ 18446744073709551615) : iand .u64 (k : Int) 1 = ((k % 2 : Nat) : Int) := by
  have e : iand .u64 (k : Int) 1 = IntKind.u64.wrap (((BitVec.ofInt 64 (k : Int)) &&& (BitVec.ofInt 64 ((1 : Nat) : Int))).toNat : Int) := rfl
  rw [e, BitVec.toNat_and, ofIntNat h, ofIntNat (by omega), Nat.and_one_is_mod, wrapu64 (by omega) (by omega)]
theorem orJoin {w c j : Nat} (hw : w < 128 ^ j) (hj : j ≤ 9) (hc : w + 128 ^ j * c ≤ 18446744073709551615) : ior .u64 (w : Int) (ishl .u64 (c : Int) (IntKind.i64.wrap (7 * (j : Int)))) = ((w + 128 ^ j * c : Nat) : Int) := by
  have hp : 128 ^ j = 2 ^ (7 * j) := by rw [Nat.pow_mul]
  have e1 : ishl .u64 (c : Int) (IntKind.i64.wrap (7 * (j : Int))) = ((128 ^ j * c : Nat) : Int) := by
    unfold ishl
    rw [wrap64 (n := 7 * (j : Int)) (by omega) (by omega)]
    have em : min (7 * (j : Int)).toNat IntKind.u64.bits = 7 * j := by
      show min _ 64 = _
      omega
    rw [em]
    have ec : (c : Int) * 2 ^ (7 * j) = ((128 ^ j * c : Nat) : Int) := by
      rw [hp, Int.natCast_mul, Int.natCast_pow]; exact Int.mul_comm _ _
    rw [ec, wrapu64 (by omega) (by omega)]
  have e2 : ior .u64 (w : Int) ((128 ^ j * c : Nat) : Int) = IntKind.u64.wrap (((BitVec.ofInt 64 (w : Int)) ||| (BitVec.ofInt 64 ((128 ^ j * c : Nat) : Int))).toNat : Int) := rfl
  have e3 : w ||| 128 ^ j * c = w + 128 ^ j * c := by
    rw [hp] at hw ⊢
    rw [Nat.or_comm, ← Nat.two_pow_add_eq_or_of_lt hw, Nat.add_comm]
  rw [e1, e2, BitVec.toNat_or, ofIntNat (by omega), ofIntNat (by omega), e3, wrapu64 (by omega) (by omega)]
theorem unfoldFold {k : Nat} (h : k ≤ 18446744073709551615) : foldN (num_Unfold (k : Int)) = k := by
  have hs : ishr .u64 (k : Int) 1 = ((k / 2 : Nat) : Int) := by
    unfold ishr
    rw [show (2 : Int) ^ (min (1 : Int).toNat IntKind.u64.bits) = 2 from rfl, Int.fdiv_eq_ediv_of_nonneg _ (by omega)]
    omega
  unfold num_Unfold
  rw [and1 h, hs, wrap64 (n := ((k / 2 : Nat) : Int)) (by omega) (by omega)]
  split
  · rename_i c
    simp at c
    unfold foldN; rw [if_pos (by omega)]; omega
  · rename_i c
    simp at c
    rw [wrap64 (n := 0 - ((k / 2 : Nat) : Int)) (by omega) (by omega), wrap64 (by omega) (by omega)]
    unfold foldN; rw [if_neg (by omega)]; omega
theorem pow128 {j : Nat} (h : j ≤ 8) : 128 ^ j * 128 ≤ 9223372036854775808 := by
  have : 128 ^ j ≤ 128 ^ 8 := Nat.pow_le_pow_right (by omega) h
  omega
theorem numUnpack2 {s : Str} (h : s.length ≤ 16777216) : Tot (num_Unpack s) (fun r => r.2.2 = 0 → s = packN r.1.toNat ++ s.drop r.2.1.toNat) := by
  unfold num_Unpack
  refine Tot.cut (fun e => ∀ r, e = Sum.inl r → r.2.2 = 0 → s = packN r.1.toNat ++ s.drop r.2.1.toNat) (Tot.loop (fun (v, i) => ∃ j : Nat, i = (j : Int) ∧ j ≤ 10 ∧ j ≤ s.length ∧ (j ≤ 9 → ∃ w : Nat, v = (w : Int) ∧ w < 128 ^ j ∧ ∀ x, (j = 0 ∨ 1 ≤ x) → packN (w + 128 ^ j * x) = s.take j ++ packN x)) (fun (v, i) => (10 - i).toNat) ?_ ?_) ?_
  · exact ⟨0, rfl, by omega, by omega, fun _ => ⟨0, rfl, by simp, fun x _ => by simp⟩⟩
  · rintro ⟨v, i⟩ ⟨j, rfl, h1, h2, h3⟩
    dsimp only
    refine Tot.ite (fun c => ?_) (fun c => Tot.brk (fun r k => by cases k))
    have hc : j < s.length ∧ j < 10 := by simp at c; omega
    obtain ⟨w, rfl, hw, hx⟩ := h3 (by omega)
    have hb : sAt s (j : Int) = ((s.getD j 0).toNat : Int) := rfl
    generalize hbe : s.getD j 0 = b at hb
    have hb256 : b.toNat < 256 := b.toNat_lt
    have hand : IntKind.u64.wrap (iand .u8 (sAt s (j : Int)) 127) = ((b.toNat % 128 : Nat) : Int) := by
      rw [hb]
      have := u8and ⟨b.toNat, hb256⟩
      dsimp only at this
      rw [this, wrapu64 (by omega) (by omega)]
    have hw7 : IntKind.i64.wrap (7 * (j : Int)) = 7 * (j : Int) := wrap64 (by omega) (by omega)
    have w1 : IntKind.i64.wrap ((j : Int) + 1) = ((j + 1 : Nat) : Int) := by rw [wrap64 (by omega) (by omega)]; omega
    have ht := take_snoc hc.1
    rw [hbe] at ht
    refine Tot.gd (by omega) fun _ => Tot.gd (by rw [hw7]; omega) fun _ => ?_
    rw [hand, w1]
    refine Tot.ite (fun c2 => ?_) (fun c2 => ?_)
    · have h128 : 128 ≤ b.toNat := by rw [hb] at c2; simp at c2; omega
      refine Tot.next ⟨j + 1, rfl, by omega, by omega, fun k => ?_⟩ (by show ((10 : Int) - ((j + 1 : Nat) : Int)).toNat < ((10 : Int) - (j : Int)).toNat; omega)
      have hp := pow128 (j := j) (by omega)
      have hm : 128 ^ j * (b.toNat % 128) ≤ 128 ^ j * 127 := Nat.mul_le_mul_left _ (by omega)
      refine ⟨w + 128 ^ j * (b.toNat % 128), orJoin hw (by omega) (by omega), ?_, fun x hx1 => ?_⟩
      · rw [Nat.pow_succ]; omega
      · have e : w + 128 ^ j * (b.toNat % 128) + 128 ^ (j + 1) * x = w + 128 ^ j * (b.toNat % 128 + 128 * x) := by
          rw [Nat.pow_succ, Nat.mul_add, ← Nat.mul_assoc]; omega
        have hx1 : 1 ≤ x := by rcases hx1 with k | k <;> omega
        rw [e, hx _ (.inr (by omega)), packN_ge (by omega), ht, show (b.toNat % 128 + 128 * x) % 128 + 128 = b.toNat by omega, show (b.toNat % 128 + 128 * x) / 128 = x by omega]
        simp
    · have h128 : b.toNat < 128 := by rw [hb] at c2; simp at c2; omega
      have hmod : b.toNat % 128 = b.toNat := by omega
      refine Tot.ite (fun c3 => Tot.brk ?_) (fun c3 => Tot.brk ?_)
      · rintro r ⟨⟩ k; cases k
      · rintro r ⟨⟩ _
        dsimp only
        have c4 : (b.toNat = 0 → j = 0) ∧ (j = 9 → b.toNat ≤ 1) := by
          rw [hb] at c3
          have c5 : ((((b.toNat : Int) == 0) && decide ((j : Int) > 0)) || (((j : Int) == 9) && decide ((b.toNat : Int) > 1))) = false := by simpa only [Bool.not_eq_true] using c3
          simp at c5
          omega
        have hfit : w + 128 ^ j * (b.toNat % 128) ≤ 18446744073709551615 := by
          rcases Nat.lt_or_ge j 9 with k | k
          · have hp := pow128 (j := j) (by omega)
            have hm : 128 ^ j * (b.toNat % 128) ≤ 128 ^ j * 127 := Nat.mul_le_mul_left _ (by omega)
            omega
          · have : j = 9 := by omega
            subst this
            have := c4.2 rfl
            have hm : 128 ^ 9 * (b.toNat % 128) ≤ 128 ^ 9 * 1 := Nat.mul_le_mul_left _ (by omega)
            omega
        rw [orJoin hw (by omega) hfit, Int.toNat_natCast, Int.toNat_natCast, hx _ (by omega), packN_lt (by omega), hmod]
        have e : [UInt8.ofNat b.toNat] = [b] := by simp
        rw [e, ← ht, List.take_append_drop]
  · rintro (v | v) hv
    · exact Tot.ret (hv v rfl)
    · exact Tot.ite (fun _ => Tot.ret (fun k => by cases k)) (fun _ => Tot.ret (fun k => by cases k))
end Go.Proofs
