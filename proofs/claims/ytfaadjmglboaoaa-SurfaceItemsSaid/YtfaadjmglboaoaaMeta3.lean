/-
  WHICH OF THE MODEL's OPERATIONS ARE CALM, ON: the operators, the conversions, what 'unsafe' offers; and one operation whole.
-/
import Derived.Test.YtfaadjmglboaoaaMeta2
namespace Go.Proofs.Ytfaadjmglboaoaa

section
variable {P : Program}

theorem c_backFromNumber {a : Addr} : Calm P Any (backFromNumber a) := by
  unfold backFromNumber
  repeat' first | exact cpa | exact c_behindNumber | exact c_unsafe | refine cb ?_ (fun _ => ?_) | refine ci ?_ ?_ | split | dsimp only
theorem c_unsafeAdd {ts : Array TypeId} {t : TypeId} {vs : Array Value} : Calm P Any (Builtin.unsafeAdd_ ts t vs) := by
  obtain ⟨l⟩ := vs
  unfold Builtin.unsafeAdd_
  rcases l with _ | ⟨a, _ | ⟨b, _ | ⟨c, l⟩⟩⟩
  · exact c_stuck
  · exact c_stuck
  · cases a with
    | pointer ptr =>
      refine cb c_asInt fun n => ?_
      dsimp only
      repeat' first | exact cpa | exact c_viewAt | exact c_unsafe | exact c_stuck | exact c_program | exact c_shape | refine cb ?_ (fun _ => ?_) | refine ci ?_ ?_ | split | dsimp only
    | _ => exact c_stuck
  · exact c_stuck
theorem c_movedNumber {t : TypeId} {x y : Value} : Calm P Any (movedNumber t x y) := by
  unfold movedNumber
  repeat' first | exact cpa | exact c_underlying | exact c_unsafeAdd | exact c_behindNumber | exact c_asNumber | exact c_unsafe | refine cb ?_ (fun _ => ?_) | refine ci ?_ ?_ | split | dsimp only
theorem c_movedPointer {t : TypeId} {x y : Value} : Calm P Any (movedPointer t x y) := by
  unfold movedPointer
  repeat' first | exact cpa | exact c_numberAt | exact c_unsafeAdd | exact c_observed | refine cb ?_ (fun _ => ?_) | refine ci ?_ ?_ | split | dsimp only
theorem c_intArith {op : BinOp} {k : IntKind} {x y : Int} : Calm P Any (Op.intArith op k x y) := by
  unfold Op.intArith
  repeat' first | exact cpa | exact c_stuck | split
theorem c_intBits {op : BinOp} {k : IntKind} {x y : Int} : Calm P Any (Op.intBits op k x y) := by
  unfold Op.intBits
  repeat' first | exact cpa | exact c_stuck | split | dsimp only
theorem c_intCmp {op : BinOp} {x y : Int} : Calm P Any (Op.intCmp op x y) := by
  unfold Op.intCmp
  repeat' first | exact cpa | exact c_stuck | split
theorem c_intDiv {op : BinOp} {k : IntKind} {x y : Int} : Calm P Any (Op.intDiv op k x y) := by
  unfold Op.intDiv
  repeat' first | exact cpa | exact c_stuck | exact c_runtimePanic | refine ci ?_ ?_ | split
theorem c_shift {op : BinOp} {k k' : IntKind} {x y : Int} : Calm P Any (Op.shift op k x k' y) := by
  unfold Op.shift
  repeat' first | exact cpa | exact c_stuck | exact c_runtimePanic | refine ci ?_ ?_ | split | dsimp only
theorem c_floatArith {op : BinOp} {k : FloatKind} {x y : Nat} : Calm P Any (Op.floatArith op k x y) := by
  unfold Op.floatArith
  repeat' first | exact cpa | exact c_stuck | exact c_choose | refine cb ?_ (fun _ => ?_) | refine ci ?_ ?_ | split | dsimp only
theorem c_floatCmp {op : BinOp} {k : FloatKind} {x y : Nat} : Calm P Any (Op.floatCmp op k x y) := by
  unfold Op.floatCmp
  repeat' first | exact cpa | exact c_stuck | split | dsimp only
theorem c_complexOp {op : BinOp} {k : FloatKind} {a b c d : Nat} : Calm P Any (Op.complexOp op k a b c d) := by
  unfold Op.complexOp
  repeat' first | exact cpa | exact c_stuck | exact c_choose | refine cb ?_ (fun _ => ?_) | refine ci ?_ ?_ | split | dsimp only
theorem c_twoPlaces {a b : Addr} : Calm P Any (Op.twoPlaces a b) := by
  unfold Op.twoPlaces
  repeat' first | exact cpa | exact c_program | exact c_byteOf | exact c_observed | refine cb ?_ (fun _ => ?_) | refine ci ?_ ?_ | split | dsimp only
theorem c_addrSub {k : IntKind} {a b : Addr} : Calm P Any (Op.addrSub k a b) := cb c_twoPlaces fun _ => cpa
theorem c_addrCmp {op : BinOp} {a b : Addr} : Calm P Any (Op.addrCmp op a b) := by
  unfold Op.addrCmp
  repeat' first | exact cpa | exact c_twoPlaces | exact c_observed | refine cb ?_ (fun _ => ?_) | refine ci ?_ ?_ | split | dsimp only
theorem c_addrMod {k : IntKind} {a : Addr} {n : Int} : Calm P Any (Op.addrMod k a n) := by
  unfold Op.addrMod
  repeat' first | exact cpa | exact c_shape | exact c_typeInfo | exact c_byteOf | exact c_observed | refine cb ?_ (fun _ => ?_) | refine ci ?_ ?_ | split | dsimp only
set_option maxHeartbeats 4000000 in
theorem c_equalIn : ∀ {d : Nat} {t : TypeId} {x y : Value}, Calm P Any (Op.equalIn d t x y) := by
  intro d
  induction d with
  | zero => intro t x y; exact c_limit
  | succ d ih =>
    intro t x y
    unfold Op.equalIn
    refine cb c_underlying fun u => ?_
    repeat' first | exact cpa | exact c_stuck | exact c_behindNumber | exact c_program | exact c_byteOf | exact c_typeInfo | exact c_observed | exact c_sizeOf | exact c_sameAddr | exact c_samePointer | exact c_choose | exact c_noEntry | exact c_typeStr | exact c_runtimePanic | exact ih | exact c_part | (refine c_forIn (fun _ _ => ?_) _ _) | (refine c_forIn_range (fun _ _ => ?_) _ _) | refine cb ?_ (fun _ => ?_) | refine ci ?_ ?_ | split | dsimp only
theorem c_equal {t : TypeId} {x y : Value} : Calm P Any (Op.equal t x y) := c_equalIn
theorem c_eqGuardIn : ∀ {d : Nat} {t : TypeId} {x y : Value}, Calm P Any (Op.eqGuardIn d t x y) := by
  intro d
  induction d with
  | zero => intro t x y; exact c_limit
  | succ d ih =>
    intro t x y
    unfold Op.eqGuardIn
    refine cb c_underlying fun u => ?_
    repeat' first | exact cpa | exact c_sizeOf | exact ih | exact c_part | (refine c_forIn (fun _ _ => ?_) _ _) | (refine c_forIn_range (fun _ _ => ?_) _ _) | refine cb ?_ (fun _ => ?_) | refine ci ?_ ?_ | split | dsimp only
theorem c_eqGuard {op : BinOp} {t : TypeId} {x y : Operand} {a b : Value} : Calm P Any (eqGuard op t x y a b) := by
  unfold eqGuard
  repeat' first | exact cpa | exact c_eqGuardIn | exact c_program | exact c_noEntry | refine cb ?_ (fun _ => ?_) | refine ci ?_ ?_ | split | dsimp only
set_option maxHeartbeats 4000000 in
theorem c_binOp {op : BinOp} {t : TypeId} {x y : Value} : Calm P Any (binOp op t x y) := by
  unfold binOp
  repeat' first | exact cpa | exact c_shift | exact c_stuck | exact c_intArith | exact c_intDiv | exact c_intBits | exact c_intCmp | exact c_floatArith | exact c_floatCmp | exact c_complexOp | exact c_stringOp | exact c_equal | exact c_underlying | exact c_movedPointer | exact c_movedNumber | exact c_addrSub | exact c_addrCmp | exact c_addrMod | exact c_behindNumber | exact c_observed | refine cb ?_ (fun _ => ?_) | refine ci ?_ ?_ | split | dsimp only
theorem c_unary {op : UnOp} {x : Value} : Calm P Any (Op.unary op x) := by
  unfold Op.unary
  repeat' first | exact cpa | exact c_intArith | exact c_intBits | exact c_observed | exact c_stuck | split | dsimp only
end
end Go.Proofs.Ytfaadjmglboaoaa
