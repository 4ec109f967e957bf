/-
  WHICH OF THE MODEL's OPERATIONS ARE CALM, ON: conversions, 'unsafe', ranges over strings, a few entries without a Go body; one operation whole.
-/
import Derived.Test.YtfaadjmglboaoaaMeta3
namespace Go.Proofs.Ytfaadjmglboaoaa

section
variable {P : Program}

theorem c_markStringish {a : Addr} : Calm P Any (markStringish a) := by
  unfold markStringish
  repeat' first | exact cpa | exact c_shape | exact c_freeze | refine cb ?_ (fun _ => ?_) | refine ci ?_ ?_ | split | dsimp only
theorem c_cellsIn {r : Nat} : Calm P Any (cellsIn r) := by
  unfold cellsIn
  repeat' first | exact cpa | exact c_shape | exact c_getObj | exact c_stuck | refine cb ?_ (fun _ => ?_) | refine ci ?_ ?_ | split | dsimp only
theorem c_variablesAt {a : Addr} {u : TypeId} {n : Nat} : Calm P Any (variablesAt a u n) := by
  unfold variablesAt
  repeat' first | exact cpa | exact c_shape | exact c_program | refine cb ?_ (fun _ => ?_) | refine ci ?_ ?_ | split | dsimp only
theorem c_loadBytes {n : Nat} : ∀ {a : Addr} {acc : ByteArray}, Calm P Any (loadBytes a acc n) := by
  induction n with
  | zero => intro a acc; exact cpa
  | succ n ih =>
    intro a acc
    unfold loadBytes
    refine cb c_load fun v => ?_
    split
    · exact ih
    · exact c_stuck
theorem c_unsafeString {ts : Array TypeId} {t : TypeId} {vs : Array Value} : Calm P Any (Builtin.unsafeString_ ts t vs) := by
  obtain ⟨l⟩ := vs
  unfold Builtin.unsafeString_
  rcases l with _ | ⟨a, _ | ⟨b, _ | ⟨c, l⟩⟩⟩
  · exact c_stuck
  · exact c_stuck
  · cases a with
    | pointer ptr =>
      refine cb c_asInt fun n => ?_
      dsimp only
      repeat' first | exact cpa | exact c_unsafe | exact c_stuck | exact c_program | exact c_shape | exact c_runtimePanic | exact c_variablesAt | exact c_elemOf | exact c_loadBytes | exact c_freeze | refine cb ?_ (fun _ => ?_) | refine ci ?_ ?_ | split | dsimp only
    | _ => exact c_stuck
  · exact c_stuck
theorem c_unsafeStringData {ts : Array TypeId} {t : TypeId} {vs : Array Value} : Calm P Any (Builtin.unsafeStringData_ ts t vs) := by
  obtain ⟨l⟩ := vs
  unfold Builtin.unsafeStringData_
  rcases l with _ | ⟨a, _ | ⟨b, l⟩⟩
  · exact c_stuck
  · cases a with
    | string s =>
      repeat' first | exact cpa | exact c_choose | exact c_newRow | exact c_elemOf | exact c_markStringish | exact c_freeze | refine cb ?_ (fun _ => ?_) | refine ci ?_ ?_ | split | dsimp only
    | _ => exact c_stuck
  · exact c_stuck
theorem c_unsafeSliceData {ts : Array TypeId} {t : TypeId} {vs : Array Value} : Calm P Any (Builtin.unsafeSliceData_ ts t vs) := by
  obtain ⟨l⟩ := vs
  unfold Builtin.unsafeSliceData_
  rcases l with _ | ⟨a, _ | ⟨b, l⟩⟩
  · exact c_stuck
  · cases a with
    | slice o x y =>
      cases o with
      | none => exact cpa
      | some a =>
        repeat' first | exact cpa | exact c_viewAt | exact c_newObj | exact c_elemOf | refine cb ?_ (fun _ => ?_) | refine ci ?_ ?_ | split | dsimp only
    | _ => exact c_stuck
  · cases a with
    | slice o x y => cases o <;> exact c_stuck
    | _ => exact c_stuck
theorem c_floatToFloat {a : FloatKind} {b : Nat} {c : FloatKind} : Calm P Any (Conv.floatToFloat a b c) := by
  unfold Conv.floatToFloat
  repeat' first | exact cpa | exact c_choose | refine cb ?_ (fun _ => ?_) | refine ci ?_ ?_ | split | dsimp only
theorem c_floatToInt {a : FloatKind} {b : Nat} {c : IntKind} : Calm P Any (Conv.floatToInt a b c) := by
  unfold Conv.floatToInt
  repeat' first | exact cpa | exact c_choose | refine cb ?_ (fun _ => ?_) | refine ci ?_ ?_ | split | dsimp only
theorem c_complexToComplex {a : FloatKind} {x y : Nat} {b : FloatKind} : Calm P Any (Conv.complexToComplex a x y b) := by
  unfold Conv.complexToComplex
  repeat' first | exact cpa | exact c_floatToFloat | exact c_stuck | refine cb ?_ (fun _ => ?_) | refine ci ?_ ?_ | split | dsimp only
theorem c_stringToBytes {t : TypeId} {s : ByteArray} : Calm P Any (Conv.stringToBytes t s) := by
  unfold Conv.stringToBytes
  repeat' first | exact cpa | exact c_choose | exact c_newRow | exact c_markStringish | refine cb ?_ (fun _ => ?_) | refine ci ?_ ?_ | split | dsimp only
theorem c_bytesToString {v : Value} : Calm P Any (Conv.bytesToString v) := by
  unfold Conv.bytesToString
  repeat' first | exact cpa | exact c_loadCells | exact c_stuck | (refine c_forIn (fun _ _ => ?_) _ _) | refine cb ?_ (fun _ => ?_) | refine ci ?_ ?_ | split | dsimp only
theorem c_stringToRunes {t : TypeId} {s : ByteArray} : Calm P Any (Conv.stringToRunes t s) := by
  unfold Conv.stringToRunes
  repeat' first | exact cpa | exact c_choose | exact c_newRow | refine cb ?_ (fun _ => ?_) | refine ci ?_ ?_ | split | dsimp only
theorem c_runesToString {v : Value} : Calm P Any (Conv.runesToString v) := by
  unfold Conv.runesToString
  repeat' first | exact cpa | exact c_loadCells | exact c_stuck | (refine c_forIn (fun _ _ => ?_) _ _) | refine cb ?_ (fun _ => ?_) | refine ci ?_ ?_ | split | dsimp only
theorem c_seenAt {a : Addr} : Calm P Any (Conv.seenAt a) := by
  unfold Conv.seenAt
  repeat' first | exact cpa | exact c_viewAt | exact c_unsafe | exact c_program | exact c_shape | refine cb ?_ (fun _ => ?_) | refine ci ?_ ?_ | split | dsimp only
theorem c_unsafePointer {s d : TypeId} {x : Value} : Calm P Any (Conv.unsafePointer s d x) := by
  unfold Conv.unsafePointer
  repeat' first | exact cpa | exact c_underlying | exact c_seenAt | exact c_cellsIn | exact c_sizeOf | exact c_variablesAt | exact c_newObj | exact c_asNumber | exact c_unsafe | exact c_program | exact c_shape | exact c_stuck | refine cb ?_ (fun _ => ?_) | refine ci ?_ ?_ | split | dsimp only
theorem c_convert {s d : TypeId} {x : Value} : Calm P Any (convert s d x) := by
  unfold convert
  repeat' first | exact cpa | exact c_underlying | exact c_floatToInt | exact c_floatToFloat | exact c_complexToComplex | exact c_stringToBytes | exact c_stringToRunes | exact c_bytesToString | exact c_runesToString | exact c_unsafePointer | exact c_markStringish | exact c_stuck | exact c_noEntry | exact c_observed | refine cb ?_ (fun _ => ?_) | refine ci ?_ ?_ | split | dsimp only
theorem c_range {t : TypeId} {x : Value} : Calm P Any (Instr.range t x) := by
  unfold Instr.range
  repeat' first | exact cpa | exact c_underlying | exact c_getObj | exact c_newObj | exact c_stuck | refine cb ?_ (fun _ => ?_) | refine ci ?_ ?_ | split | dsimp only
theorem c_next {v : Value} {b : Bool} {t : TypeId} : Calm P Any (Instr.next v b t) := by
  unfold Instr.next
  repeat' first | exact cpa | exact c_getObj | exact c_setObj | exact c_choose | exact c_stuck | exact c_noEntry | refine cb ?_ (fun _ => ?_) | refine ci ?_ ?_ | split | dsimp only
theorem c_followBlind : ∀ {l : List FieldStep} {t : TypeId} {x : Option Value}, Calm P Any (followBlind l t x) := by
  intro l
  induction l with
  | nil => intro t x; exact cpa
  | cons s l ih =>
    intro t x
    unfold followBlind
    repeat' first | exact cpa | exact ih | exact c_underlying | exact c_part | exact c_stuck | refine cb ?_ (fun _ => ?_) | refine ci ?_ ?_ | split | dsimp only
theorem c_nilAhead {n : Nat} : ∀ {t : TypeId} {v : Value} {s : String}, Calm P Any (nilAhead n t v s) := by
  induction n with
  | zero => intro t v s; exact cpa
  | succ n ih =>
    intro t v s
    unfold nilAhead
    repeat' first | exact cpa | exact ih | exact c_typeInfo | exact c_followBlind | exact c_underlying | exact c_stuck | refine cb ?_ (fun _ => ?_) | refine ci ?_ ?_ | split | dsimp only
end
end Go.Proofs.Ytfaadjmglboaoaa
