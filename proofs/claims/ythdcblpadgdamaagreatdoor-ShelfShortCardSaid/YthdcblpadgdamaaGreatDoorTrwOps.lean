/- Own work: the rules of the calculus, one for each kind of operation. -/
import Derived.Test.YthdcblpadgdamaaGreatDoorTrwRT
import Derived.Laws.Strings
set_option linter.all false
namespace Go.Trw
open Go
theorem run_value {P : Program} {w : World} {s : Sem Value} : ((do pure (Next.value (← s))) : Sem Next).run P w = match s.run P w with | .ok x w' => .ok (.value x) w' | .halt h w' => .halt h w' := by
  rw [run_bind]; cases s.run P w <;> rfl
variable {X : Ctx} {Γ : Gam} {Ω : Omg}
theorem lt_of_blt {d n : Nat} (h : Nat.blt d n = true) : d < n := by simpa [Nat.blt_eq] using h
/-! ### 1. Moves -/
theorem qa {x : Operand} {e : Ent} {d ty : Nat} {pos : String} {af : Array Edge} {g : Option (Nat × Bool)} (hx : Opd Γ x e) (hd : Nat.blt d X.n = true := by rfl) :
    ST X Γ Ω ⟨some d, .move x, ty, pos, af, g⟩ ((d, e) :: Γ) Ω :=
  ST.val0 rfl hd fun a w gs own hs => ⟨_, rfl, hx.sat hs⟩
theorem qb {x : Operand} {e : Ent} {d ty : Nat} {pos : String} {af : Array Edge} {g : Option (Nat × Bool)} (hx : Opd Γ x e) (hd : Nat.blt d X.n = true := by rfl) :
    ST X Γ Ω ⟨some d, .assign x, ty, pos, af, g⟩ ((d, e) :: Γ) Ω :=
  ST.val0 rfl hd fun a w gs own hs => ⟨_, rfl, hx.sat hs⟩
/-! ### 2. Constants -/
theorem Opd.int {k : IntKind} {n : Int} (h : inK k n) : Opd Γ (.const (.int k n)) (D (RInt k) n) := Opd.const fun _ _ _ => RInt.val_iff.2 ⟨rfl, h⟩
theorem Opd.bool {b : Bool} : Opd Γ (.const (.bool b)) (D RBool b) := Opd.const fun _ _ _ => RBool.val_iff.2 rfl
theorem Opd.str {s : List UInt8} (h : s.length ≤ maxS) : Opd Γ (.const (.string ⟨s.toArray⟩)) (D RStr s) := Opd.const fun _ _ _ => RStr.val_iff.2 ⟨rfl, h⟩
theorem Opd.nil {α : Type} {R : RT α} : Opd Γ (.const (.slice none 0 0)) (D (RSlice R) []) := Opd.const fun _ _ _ => RSlice.val_iff.2 ⟨none, 0, 0, rfl, rfl, Nat.le_refl _, Nat.zero_le _, .inl rfl⟩
theorem Opd.raw {v : Value} : Opd Γ (.const v) (Ent.raw v) := Opd.const fun _ _ _ => rfl
theorem Opd.get {x : Operand} {α : Type} {R : RT α} {m : α} (hx : Opd Γ x (D R m)) {a : Act} {w : World} {gs own} (hs : SatD X Γ Ω a w gs own) : R.val (X.S own) w (a.eval x) m := hx.sat hs
/-! ### 3. Arithmetic -/
theorem ro_int {S w} {gs : Nat → Option Value} {k : IntKind} {n : Int} (h : inK k n) : (D (RInt k) n).sem gs S w (.int k n) := RInt.val_iff.2 ⟨rfl, h⟩
theorem ro_bool {S w} {gs : Nat → Option Value} {b : Bool} : (D RBool b).sem gs S w (.bool b) := RBool.val_iff.2 rfl
theorem ro_str {S w} {gs : Nat → Option Value} {s : Str} (h : s.length ≤ maxS) : (D RStr s).sem gs S w (.string ⟨s.toArray⟩) := RStr.val_iff.2 ⟨rfl, h⟩
section
variable {x y : Operand} {k : IntKind} {m n : Int} {d t t2 ty : Nat} {pos : String} {af : Array Edge} {g : Option (Nat × Bool)}
theorem run_eqGuard_int {P : Program} {w : World} {op : BinOp} {t : TypeId} {x y : Operand} {k k' : IntKind} {m n : Int} :
    (eqGuard op t x y (.int k m) (.int k' n)).run P w = .ok () w := by
  unfold eqGuard; split <;> rfl
theorem run_eqGuard_bool {P : Program} {w : World} {op : BinOp} {t : TypeId} {x y : Operand} {m n : Bool} :
    (eqGuard op t x y (.bool m) (.bool n)).run P w = .ok () w := by
  unfold eqGuard; split <;> rfl
theorem run_eqGuard_str {P : Program} {w : World} {op : BinOp} {t : TypeId} {x y : Operand} {m n : ByteArray} :
    (eqGuard op t x y (.string m) (.string n)).run P w = .ok () w := by
  unfold eqGuard; split <;> rfl
theorem run_binOp_int {P : Program} {w : World} {op : BinOp} {a : Act} {o : Oper} (ho : o.op = .binOp op t x y t2) (hx : a.eval x = .int k m) (hy : a.eval y = .int k n) :
    (execOp a.eval o).run P w = match (binOp op t (.int k m) (.int k n)).run P w with | .ok x w' => .ok (.value x) w' | .halt h w' => .halt h w' := by
  simp only [execOp, ho, hx, hy]
  rw [run_value, run_bind, run_eqGuard_int]
theorem op_int {op : BinOp} {e : Ent} (hx : Opd Γ x (D (RInt k) m)) (hy : Opd Γ y (D (RInt k) n)) (hd : Nat.blt d X.n = true)
    (H : inK k m → inK k n → ∀ w gs S, ∃ v, (binOp op t (.int k m) (.int k n)).run X.P w = .ok v w ∧ e.sem gs S w v) :
    ST X Γ Ω ⟨some d, .binOp op t x y t2, ty, pos, af, g⟩ ((d, e) :: Γ) Ω :=
  ST.val0 rfl hd fun a w gs own hs => by
    obtain ⟨h1, h2⟩ := RInt.val_iff.1 (hx.get hs)
    obtain ⟨h3, h4⟩ := RInt.val_iff.1 (hy.get hs)
    obtain ⟨v, hr, hv⟩ := H h2 h4 w gs (X.S own)
    refine ⟨v, ?_, hv⟩
    rw [run_binOp_int rfl h1 h3, hr]
theorem qk (hx : Opd Γ x (D (RInt k) m)) (hy : Opd Γ y (D (RInt k) n)) (hd : Nat.blt d X.n = true := by rfl) :
    ST X Γ Ω ⟨some d, .binOp .add t x y t2, ty, pos, af, g⟩ ((d, D (RInt k) (k.wrap (m + n))) :: Γ) Ω :=
  op_int hx hy hd fun _ _ w gs S => ⟨_, by simp [binOp, Op.intArith, pure, Sem.run], ro_int (inK_wrap _ _)⟩
theorem qE (hx : Opd Γ x (D (RInt k) m)) (hy : Opd Γ y (D (RInt k) n)) (hd : Nat.blt d X.n = true := by rfl) :
    ST X Γ Ω ⟨some d, .binOp .sub t x y t2, ty, pos, af, g⟩ ((d, D (RInt k) (k.wrap (m - n))) :: Γ) Ω :=
  op_int hx hy hd fun _ _ w gs S => ⟨_, by simp [binOp, Op.intArith, pure, Sem.run], ro_int (inK_wrap _ _)⟩
theorem vK (hx : Opd Γ x (D (RInt k) m)) (hy : Opd Γ y (D (RInt k) n)) (hd : Nat.blt d X.n = true := by rfl) :
    ST X Γ Ω ⟨some d, .binOp .mul t x y t2, ty, pos, af, g⟩ ((d, D (RInt k) (k.wrap (m * n))) :: Γ) Ω :=
  op_int hx hy hd fun _ _ w gs S => ⟨_, by simp [binOp, Op.intArith, pure, Sem.run], ro_int (inK_wrap _ _)⟩
theorem vR (hx : Opd Γ x (D (RInt k) m)) (hy : Opd Γ y (D (RInt k) n)) (h0 : n ≠ 0) (hd : Nat.blt d X.n = true := by rfl) :
    ST X Γ Ω ⟨some d, .binOp .quo t x y t2, ty, pos, af, g⟩ ((d, D (RInt k) (k.wrap (m.tdiv n))) :: Γ) Ω :=
  op_int hx hy hd fun _ _ w gs S => ⟨_, by simp [binOp, Op.intDiv, h0, pure, Sem.run], ro_int (inK_wrap _ _)⟩
theorem tmod_le_self {a b : Int} (h : 0 ≤ a) : a.tmod b ≤ a := by
  have h1 := Int.natAbs_tmod a b
  have h2 := Nat.mod_le a.natAbs b.natAbs
  have h3 := Int.tmod_nonneg b h
  omega
theorem inK_tmod {k : IntKind} {m n : Int} (h1 : inK k m) (h2 : inK k n) (h0 : n ≠ 0) : inK k (m.tmod n) := by
  have a1 := Int.tmod_lt_of_pos m (Int.natAbs_pos.2 h0 |> fun h => (by exact_mod_cast h : (0 : Int) < (n.natAbs : Int)))
  have hab : m.tmod n = m.tmod (n.natAbs : Int) := by
    rcases Int.natAbs_eq n with h | h
    · rw [← h]
    · conv => lhs; rw [h, Int.tmod_neg]
  rw [hab]
  have hpos : (0 : Int) < (n.natAbs : Int) := by omega
  rcases Int.lt_or_le m 0 with hm | hm
  · have e : m.tmod (n.natAbs : Int) = -((-m).tmod (n.natAbs : Int)) := by rw [Int.neg_tmod]; omega
    have b0 := Int.tmod_nonneg (n.natAbs : Int) (show 0 ≤ -m by omega)
    have b1 : (-m).tmod (n.natAbs : Int) ≤ -m := by
      exact tmod_le_self (by omega)
    unfold inK at *
    cases k <;> simp [IntKind.min, IntKind.max, IntKind.signed, IntKind.bits] at * <;> omega
  · have b0 := Int.tmod_nonneg (n.natAbs : Int) hm
    have b1 : m.tmod (n.natAbs : Int) ≤ m := by
      exact tmod_le_self hm
    unfold inK at *
    cases k <;> simp [IntKind.min, IntKind.max, IntKind.signed, IntKind.bits] at * <;> omega
theorem vS (hx : Opd Γ x (D (RInt k) m)) (hy : Opd Γ y (D (RInt k) n)) (h0 : n ≠ 0) (hd : Nat.blt d X.n = true := by rfl) :
    ST X Γ Ω ⟨some d, .binOp .rem t x y t2, ty, pos, af, g⟩ ((d, D (RInt k) (m.tmod n)) :: Γ) Ω :=
  op_int hx hy hd fun h1 h2 w gs S => ⟨_, by simp [binOp, Op.intDiv, h0, pure, Sem.run], ro_int (inK_tmod h1 h2 h0)⟩
def iand (k : IntKind) (m n : Int) : Int := k.wrap ((BitVec.ofInt k.bits m &&& BitVec.ofInt k.bits n).toNat : Int)
def ior (k : IntKind) (m n : Int) : Int := k.wrap ((BitVec.ofInt k.bits m ||| BitVec.ofInt k.bits n).toNat : Int)
def ixor (k : IntKind) (m n : Int) : Int := k.wrap ((BitVec.ofInt k.bits m ^^^ BitVec.ofInt k.bits n).toNat : Int)
def iandNot (k : IntKind) (m n : Int) : Int := k.wrap ((BitVec.ofInt k.bits m &&& ~~~BitVec.ofInt k.bits n).toNat : Int)
def ishl (k : IntKind) (m n : Int) : Int := k.wrap (m * 2 ^ min n.toNat k.bits)
def ishr (k : IntKind) (m n : Int) : Int := m.fdiv (2 ^ min n.toNat k.bits)
theorem vm (hx : Opd Γ x (D (RInt k) m)) (hy : Opd Γ y (D (RInt k) n)) (hd : Nat.blt d X.n = true := by rfl) :
    ST X Γ Ω ⟨some d, .binOp .and t x y t2, ty, pos, af, g⟩ ((d, D (RInt k) (iand k m n)) :: Γ) Ω :=
  op_int hx hy hd fun _ _ w gs S => ⟨_, by simp [binOp, Op.intBits, pure, Sem.run, iand], ro_int (inK_wrap _ _)⟩
theorem vz (hx : Opd Γ x (D (RInt k) m)) (hy : Opd Γ y (D (RInt k) n)) (hd : Nat.blt d X.n = true := by rfl) :
    ST X Γ Ω ⟨some d, .binOp .or t x y t2, ty, pos, af, g⟩ ((d, D (RInt k) (ior k m n)) :: Γ) Ω :=
  op_int hx hy hd fun _ _ w gs S => ⟨_, by simp [binOp, Op.intBits, pure, Sem.run, ior], ro_int (inK_wrap _ _)⟩
theorem vZ (hx : Opd Γ x (D (RInt k) m)) (hy : Opd Γ y (D (RInt k) n)) (hd : Nat.blt d X.n = true := by rfl) :
    ST X Γ Ω ⟨some d, .binOp .xor t x y t2, ty, pos, af, g⟩ ((d, D (RInt k) (ixor k m n)) :: Γ) Ω :=
  op_int hx hy hd fun _ _ w gs S => ⟨_, by simp [binOp, Op.intBits, pure, Sem.run, ixor], ro_int (inK_wrap _ _)⟩
theorem vO (hx : Opd Γ x (D (RInt k) m)) (hy : Opd Γ y (D (RInt k) n)) (hd : Nat.blt d X.n = true := by rfl) :
    ST X Γ Ω ⟨some d, .binOp .andNot t x y t2, ty, pos, af, g⟩ ((d, D (RInt k) (iandNot k m n)) :: Γ) Ω :=
  op_int hx hy hd fun _ _ w gs S => ⟨_, by simp [binOp, Op.intBits, pure, Sem.run, iandNot], ro_int (inK_wrap _ _)⟩
theorem inK_shr {k : IntKind} {m : Int} {j : Nat} (h : inK k m) : inK k (m.fdiv (2 ^ j)) := by
  have hp : (0 : Int) < 2 ^ j := Int.pow_pos (by decide)
  rw [Int.fdiv_eq_ediv_of_nonneg _ (by omega)]
  have h1 : (1 : Int) ≤ 2 ^ j := by omega
  rcases Int.lt_or_le m 0 with hm | hm
  · have a : m / 2 ^ j < 0 := Int.ediv_neg_of_neg_of_pos hm hp
    have b : m ≤ m / 2 ^ j := by
      rw [Int.le_ediv_iff_mul_le hp]
      have := Int.mul_le_mul_of_nonneg_left h1 (show 0 ≤ -m by omega)
      simp only [Int.neg_mul, Int.mul_one] at this
      omega
    unfold inK at *
    cases k <;> simp [IntKind.min, IntKind.max, IntKind.signed, IntKind.bits] at * <;> omega
  · have a : 0 ≤ m / 2 ^ j := Int.ediv_nonneg hm (by omega)
    have b : m / 2 ^ j ≤ m := Int.ediv_le_self _ hm
    unfold inK at *
    cases k <;> simp [IntKind.min, IntKind.max, IntKind.signed, IntKind.bits] at * <;> omega
theorem run_shift {P : Program} {w : World} {op : BinOp} {k k2 : IntKind} (hop : op = .shl ∨ op = .shr) :
    (binOp op t (.int k m) (.int k2 n)) = Op.shift op k m k2 n := by
  rcases hop with rfl | rfl <;> rfl
theorem op_sh {op : BinOp} {k2 : IntKind} {e : Ent} (hx : Opd Γ x (D (RInt k) m)) (hy : Opd Γ y (D (RInt k2) n)) (hd : Nat.blt d X.n = true)
    (H : inK k m → inK k2 n → ∀ w gs S, ∃ v, (binOp op t (.int k m) (.int k2 n)).run X.P w = .ok v w ∧ e.sem gs S w v) :
    ST X Γ Ω ⟨some d, .binOp op t x y t2, ty, pos, af, g⟩ ((d, e) :: Γ) Ω :=
  ST.val0 rfl hd fun a w gs own hs => by
    obtain ⟨h1, h2⟩ := RInt.val_iff.1 (hx.get hs)
    obtain ⟨h3, h4⟩ := RInt.val_iff.1 (hy.get hs)
    obtain ⟨v, hr, hv⟩ := H h2 h4 w gs (X.S own)
    refine ⟨v, ?_, hv⟩
    simp only [execOp, h1, h3]
    rw [run_value, run_bind, run_eqGuard_int]
    simp only []
    rw [hr]
theorem vi {k2 : IntKind} (hx : Opd Γ x (D (RInt k) m)) (hy : Opd Γ y (D (RInt k2) n)) (h0 : 0 ≤ n) (hd : Nat.blt d X.n = true := by rfl) :
    ST X Γ Ω ⟨some d, .binOp .shl t x y t2, ty, pos, af, g⟩ ((d, D (RInt k) (ishl k m n)) :: Γ) Ω :=
  op_sh hx hy hd fun _ _ w gs S => ⟨.int k (ishl k m n), by simp [binOp, Op.shift, Int.not_lt.2 h0, pure, Sem.run, ishl], ro_int (inK_wrap _ _)⟩
theorem vk {k2 : IntKind} (hx : Opd Γ x (D (RInt k) m)) (hy : Opd Γ y (D (RInt k2) n)) (hd : Nat.blt d X.n = true := by rfl) (h0 : 0 ≤ n := by decide) :
    ST X Γ Ω ⟨some d, .binOp .shr t x y t2, ty, pos, af, g⟩ ((d, D (RInt k) (ishr k m n)) :: Γ) Ω :=
  op_sh hx hy hd fun h1 _ w gs S => ⟨.int k (ishr k m n), by simp [binOp, Op.shift, Int.not_lt.2 h0, pure, Sem.run, ishr], ro_int (inK_shr h1)⟩
theorem qy (hx : Opd Γ x (D (RInt k) m)) (hy : Opd Γ y (D (RInt k) n)) (hd : Nat.blt d X.n = true := by rfl) :
    ST X Γ Ω ⟨some d, .binOp .eql t x y t2, ty, pos, af, g⟩ ((d, D RBool (m == n)) :: Γ) Ω :=
  op_int hx hy hd fun _ _ w gs S => ⟨_, by simp [binOp, Op.intCmp, pure, Sem.run], ro_bool⟩
theorem qw (hx : Opd Γ x (D (RInt k) m)) (hy : Opd Γ y (D (RInt k) n)) (hd : Nat.blt d X.n = true := by rfl) :
    ST X Γ Ω ⟨some d, .binOp .neq t x y t2, ty, pos, af, g⟩ ((d, D RBool (m != n)) :: Γ) Ω :=
  op_int hx hy hd fun _ _ w gs S => ⟨_, by simp [binOp, Op.intCmp, pure, Sem.run], ro_bool⟩
theorem qh (hx : Opd Γ x (D (RInt k) m)) (hy : Opd Γ y (D (RInt k) n)) (hd : Nat.blt d X.n = true := by rfl) :
    ST X Γ Ω ⟨some d, .binOp .lss t x y t2, ty, pos, af, g⟩ ((d, D RBool (decide (m < n))) :: Γ) Ω :=
  op_int hx hy hd fun _ _ w gs S => ⟨_, by simp [binOp, Op.intCmp, pure, Sem.run], ro_bool⟩
theorem qN (hx : Opd Γ x (D (RInt k) m)) (hy : Opd Γ y (D (RInt k) n)) (hd : Nat.blt d X.n = true := by rfl) :
    ST X Γ Ω ⟨some d, .binOp .leq t x y t2, ty, pos, af, g⟩ ((d, D RBool (decide (m ≤ n))) :: Γ) Ω :=
  op_int hx hy hd fun _ _ w gs S => ⟨_, by simp [binOp, Op.intCmp, pure, Sem.run], ro_bool⟩
theorem qs (hx : Opd Γ x (D (RInt k) m)) (hy : Opd Γ y (D (RInt k) n)) (hd : Nat.blt d X.n = true := by rfl) :
    ST X Γ Ω ⟨some d, .binOp .gtr t x y t2, ty, pos, af, g⟩ ((d, D RBool (decide (m > n))) :: Γ) Ω :=
  op_int hx hy hd fun _ _ w gs S => ⟨_, by simp [binOp, Op.intCmp, pure, Sem.run], ro_bool⟩
theorem qI (hx : Opd Γ x (D (RInt k) m)) (hy : Opd Γ y (D (RInt k) n)) (hd : Nat.blt d X.n = true := by rfl) :
    ST X Γ Ω ⟨some d, .binOp .geq t x y t2, ty, pos, af, g⟩ ((d, D RBool (decide (m ≥ n))) :: Γ) Ω :=
  op_int hx hy hd fun _ _ w gs S => ⟨_, by simp [binOp, Op.intCmp, pure, Sem.run], ro_bool⟩
end
/-! ### 4. Strings and truths -/
section
variable {x y : Operand} {s u : Str} {p q : Bool} {d t t2 ty : Nat} {pos : String} {af : Array Edge} {g : Option (Nat × Bool)}
theorem ba_toList (b : ByteArray) : b.toList = b.data.toList := Go.ByteArray.toList_eq b
theorem op_strop {op : BinOp} {e : Ent} (hx : Opd Γ x (D RStr s)) (hy : Opd Γ y (D RStr u)) (hd : Nat.blt d X.n = true)
    (H : s.length ≤ maxS → u.length ≤ maxS → ∀ w gs S, ∃ v, (binOp op t (.string ⟨s.toArray⟩) (.string ⟨u.toArray⟩)).run X.P w = .ok v w ∧ e.sem gs S w v) :
    ST X Γ Ω ⟨some d, .binOp op t x y t2, ty, pos, af, g⟩ ((d, e) :: Γ) Ω :=
  ST.val0 rfl hd fun a w gs own hs => by
    obtain ⟨h1, h2⟩ := RStr.val_iff.1 (hx.get hs)
    obtain ⟨h3, h4⟩ := RStr.val_iff.1 (hy.get hs)
    obtain ⟨v, hr, hv⟩ := H h2 h4 w gs (X.S own)
    refine ⟨v, ?_, hv⟩
    simp only [execOp, h1, h3]
    rw [run_value, run_bind, run_eqGuard_str]
    simp only []
    rw [hr]
theorem qM (hx : Opd Γ x (D RStr s)) (hy : Opd Γ y (D RStr u)) (hl : s.length + u.length ≤ maxS) (hd : Nat.blt d X.n = true := by rfl) :
    ST X Γ Ω ⟨some d, .binOp .add t x y t2, ty, pos, af, g⟩ ((d, D RStr (s ++ u)) :: Γ) Ω :=
  op_strop hx hy hd fun _ _ w gs S => ⟨.string ⟨(s ++ u).toArray⟩, by
    have hn : ¬ ((s.length + u.length : Nat) : Int) > IntKind.i64.max := by
      unfold maxS at hl; simp [IntKind.max, IntKind.signed, IntKind.bits]; omega
    have e : (⟨s.toArray⟩ : ByteArray) ++ ⟨u.toArray⟩ = ⟨(s ++ u).toArray⟩ := by
      apply ByteArray.ext; simp
    simp only [binOp, Op.stringOp, ByteArray.size, List.size_toArray]
    rw [if_neg hn, e]; rfl, ro_str (by simpa using hl)⟩
theorem qz (hx : Opd Γ x (D RStr s)) (hy : Opd Γ y (D RStr u)) (hd : Nat.blt d X.n = true := by rfl) :
    ST X Γ Ω ⟨some d, .binOp .eql t x y t2, ty, pos, af, g⟩ ((d, D RBool (s == u)) :: Γ) Ω :=
  op_strop hx hy hd fun _ _ w gs S => ⟨.bool (s == u), by simp [binOp, Op.stringOp, ba_toList, pure, Sem.run], ro_bool⟩
theorem qQ (hx : Opd Γ x (D RStr s)) (hy : Opd Γ y (D RStr u)) (hd : Nat.blt d X.n = true := by rfl) :
    ST X Γ Ω ⟨some d, .binOp .neq t x y t2, ty, pos, af, g⟩ ((d, D RBool (s != u)) :: Γ) Ω :=
  op_strop hx hy hd fun _ _ w gs S => ⟨.bool (s != u), by simp [binOp, Op.stringOp, ba_toList, pure, Sem.run, bne], ro_bool⟩
/-- Is one text less than another? -/
def sLt (s u : Str) : Bool := Op.bytesLess s u
theorem vX (hx : Opd Γ x (D RStr s)) (hy : Opd Γ y (D RStr u)) (hd : Nat.blt d X.n = true := by rfl) :
    ST X Γ Ω ⟨some d, .binOp .lss t x y t2, ty, pos, af, g⟩ ((d, D RBool (sLt s u)) :: Γ) Ω :=
  op_strop hx hy hd fun _ _ w gs S => ⟨.bool (sLt s u), by simp [binOp, Op.stringOp, ba_toList, pure, Sem.run, sLt], ro_bool⟩
theorem vU (hx : Opd Γ x (D RStr s)) (hy : Opd Γ y (D RStr u)) (hd : Nat.blt d X.n = true := by rfl) :
    ST X Γ Ω ⟨some d, .binOp .leq t x y t2, ty, pos, af, g⟩ ((d, D RBool (sLt s u || s == u)) :: Γ) Ω :=
  op_strop hx hy hd fun _ _ w gs S => ⟨.bool (sLt s u || s == u), by simp [binOp, Op.stringOp, ba_toList, pure, Sem.run, sLt], ro_bool⟩
theorem vT (hx : Opd Γ x (D RStr s)) (hy : Opd Γ y (D RStr u)) (hd : Nat.blt d X.n = true := by rfl) :
    ST X Γ Ω ⟨some d, .binOp .gtr t x y t2, ty, pos, af, g⟩ ((d, D RBool (!(sLt s u || s == u))) :: Γ) Ω :=
  op_strop hx hy hd fun _ _ w gs S => ⟨.bool (!(sLt s u || s == u)), by simp [binOp, Op.stringOp, ba_toList, pure, Sem.run, sLt], ro_bool⟩
theorem qY (hx : Opd Γ x (D RStr s)) (hy : Opd Γ y (D RStr u)) (hd : Nat.blt d X.n = true := by rfl) :
    ST X Γ Ω ⟨some d, .binOp .geq t x y t2, ty, pos, af, g⟩ ((d, D RBool (!(sLt s u))) :: Γ) Ω :=
  op_strop hx hy hd fun _ _ w gs S => ⟨.bool (!(sLt s u)), by simp [binOp, Op.stringOp, ba_toList, pure, Sem.run, sLt], ro_bool⟩
theorem qr {e : Operand} (hx : Opd Γ e (D RBool p)) (hd : Nat.blt d X.n = true := by rfl) :
    ST X Γ Ω ⟨some d, .unOp .not t e, ty, pos, af, g⟩ ((d, D RBool (!p)) :: Γ) Ω :=
  ST.val0 rfl hd fun a w gs own hs => by
    have h1 := RBool.val_iff.1 (hx.get hs)
    refine ⟨.bool (!p), ?_, ro_bool⟩
    simp only [execOp, h1]
    rw [run_value]
    simp [Op.unary, pure, Sem.run]
end
end Go.Trw
