/-
  WHICH OF THE MODEL's OPERATIONS ARE CALM: all but those that talk to the outside, start or meet goroutines, defer or recover.
-/
import Derived.Test.YtfaadjmglboaoaaMeta1
import Derived.Laws.Sem
namespace Go.Proofs.Ytfaadjmglboaoaa

section
variable {α β : Type} {P : Program} {A : α → Prop} {B : β → Prop}

theorem Calm.bind {x : Sem α} {f : α → Sem β} (hx : Calm P A x) (hf : ∀ a, A a → Calm P B (f a)) : Calm P B (x.bind f) := by
  induction hx with
  | pure h => exact hf _ h
  | load _ ih => exact .load fun v => ih v
  | store _ ih => exact .store ih
  | new _ ih => exact .new fun n => ih n
  | shape _ ih => exact .shape fun n => ih n
  | freeze _ ih => exact .freeze ih
  | frozen _ ih => exact .frozen fun n => ih n
  | getObj _ ih => exact .getObj fun n => ih n
  | setObj _ ih => exact .setObj ih
  | choose _ ih => exact .choose fun n => ih n
  | program _ ih => exact .program ih
  | mark h1 h2 _ ih => exact .mark h1 h2 ih
  | halt h => exact .halt h

/-- Nothing is asked of what is handed back. -/
abbrev Any (_ : α) : Prop := True

theorem cb {x : Sem α} {f : α → Sem β} (hx : Calm P Any x) (hf : ∀ a, Calm P B (f a)) : Calm P B (x >>= f) := Calm.bind hx fun a _ => hf a
theorem ci {c : Prop} [Decidable c] {x y : Sem α} (h1 : Calm P A x) (h2 : Calm P A y) : Calm P A (if c then x else y) := by
  by_cases h : c
  · rw [if_pos h]; exact h1
  · rw [if_neg h]; exact h2
theorem cp {a : α} (h : A a) : Calm P A (pure a) := .pure h
theorem cpa {a : α} : Calm P Any (pure a : Sem α) := .pure trivial
theorem ch {h : Halt} (hh : CalmHalt h) : Calm P A (.halt h) := .halt hh
theorem c_stuck {s : String} : Calm P A (stuck s) := .halt trivial
theorem c_panic {v : Value} : Calm P A (goPanic v) := .halt trivial
theorem c_noEntry {s : String} : Calm P A (unsupported (.noEntry s)) := .halt trivial
theorem c_unsafe {s : String} : Calm P A (unsupported (.unsafePointer s)) := .halt trivial
theorem c_limit {s : String} : Calm P A (unsupported (.resourceLimit s)) := .halt trivial
theorem c_extern {s : String} : Calm P A (unsupported (.extern s)) := .halt trivial
theorem c_observed : Calm P A (unsupported .addressObserved) := .halt trivial
theorem c_load {a : Addr} {m : Mode} : Calm P Any (load a m) := .load fun _ => .pure trivial
theorem c_store {a : Addr} {v : Value} {m : Mode} : Calm P Any (store a v m) := .store (.pure trivial)
theorem c_newObj {o : Obj} : Calm P Any (newObj o) := .new fun _ => .pure trivial
theorem c_shape {r : Nat} : Calm P Any (shape r) := .shape fun _ => .pure trivial
theorem c_freeze {a : Addr} {n : Nat} : Calm P Any (freeze a n) := .freeze (.pure trivial)
theorem c_frozen {a : Addr} : Calm P Any (frozen a) := .frozen fun _ => .pure trivial
theorem c_getObj {r : Nat} : Calm P Any (getObj r) := .getObj fun _ => .pure trivial
theorem c_setObj {r : Nat} {o : Obj} : Calm P Any (setObj r o) := .setObj (.pure trivial)
theorem c_choose {q : Question} : Calm P Any (choose q) := .choose fun _ => .pure trivial
theorem c_program : Calm P Any program := .program (.pure trivial)
theorem c_noRoom : Calm P Any (mark .noRoom) := .mark (by simp) (by simp) (.pure trivial)
end

section
variable {P : Program}
theorem c_askRoom {n : Nat} : Calm P Any (askRoom n) := by
  unfold askRoom; split
  · exact c_noRoom
  · exact cpa

theorem c_viewAt {r : Nat} : Calm P Any (viewAt r) := by
  unfold viewAt
  repeat' first | exact cpa | exact c_shape | exact c_getObj | exact c_stuck | refine cb ?_ (fun _ => ?_) | refine ci ?_ ?_ | split
theorem c_numberAt {r : Nat} : Calm P Any (numberAt r) := by
  unfold numberAt
  repeat' first | exact cpa | exact c_shape | exact c_getObj | exact c_stuck | refine cb ?_ (fun _ => ?_) | refine ci ?_ ?_ | split
theorem c_asNumber {a : Addr} {b : Bool} : Calm P Any (asNumber a b) := by
  unfold asNumber
  repeat' first | exact cpa | exact c_newObj | refine cb ?_ (fun _ => ?_) | refine ci ?_ ?_ | split
theorem c_behindNumber {a : Addr} : Calm P Any (behindNumber a) := by
  unfold behindNumber
  repeat' first | exact cpa | exact c_numberAt | refine cb ?_ (fun _ => ?_) | refine ci ?_ ?_ | split
theorem c_noView {a : Addr} : Calm P Any (noView a) := by
  unfold noView
  repeat' first | exact cpa | exact c_viewAt | exact c_unsafe | refine cb ?_ (fun _ => ?_) | refine ci ?_ ?_ | split
theorem c_stringish {a : Addr} : Calm P Any (stringish a) := by
  unfold stringish
  repeat' first | exact cpa | exact c_frozen | exact c_shape | refine cb ?_ (fun _ => ?_) | refine ci ?_ ?_ | split
theorem c_mayBeOne {a b : Addr} : Calm P Any (mayBeOne a b) := by
  unfold mayBeOne
  repeat' first | exact cpa | exact c_shape | exact c_stringish | refine cb ?_ (fun _ => ?_) | refine ci ?_ ?_ | split
theorem c_sameAddr {a b : Addr} : Calm P Any (sameAddr a b) := by
  unfold sameAddr
  repeat' first | exact cpa | exact c_frozen | exact c_noView | exact c_mayBeOne | exact c_choose | exact c_observed | refine cb ?_ (fun _ => ?_) | refine ci ?_ ?_ | split
theorem c_samePointer {a b : Option Addr} : Calm P Any (samePointer a b) := by
  unfold samePointer
  repeat' first | exact cpa | exact c_sameAddr | split
theorem c_typeInfo {t : TypeId} : Calm P Any (typeInfo t) := by
  unfold typeInfo
  repeat' first | exact cpa | exact c_program | exact c_stuck | refine cb ?_ (fun _ => ?_) | refine ci ?_ ?_ | split
theorem c_underlying {t : TypeId} : Calm P Any (underlying t) := by
  unfold underlying
  repeat' first | exact cpa | exact c_program | exact c_stuck | refine cb ?_ (fun _ => ?_) | refine ci ?_ ?_ | split
theorem c_typeStr {t : TypeId} : Calm P Any (typeStr t) := by
  unfold typeStr
  repeat' first | exact cpa | exact c_typeInfo | exact c_noEntry | refine cb ?_ (fun _ => ?_) | refine ci ?_ ?_ | split | dsimp only
theorem c_zeroValue {t : TypeId} : Calm P Any (zeroValue t) := by
  unfold zeroValue
  repeat' first | exact cpa | exact c_typeInfo | exact c_limit | refine cb ?_ (fun _ => ?_) | refine ci ?_ ?_ | split
theorem c_sizeOf {t : TypeId} : Calm P Any (sizeOf t) := by
  unfold sizeOf
  repeat' first | exact cpa | exact c_typeInfo | refine cb ?_ (fun _ => ?_) | refine ci ?_ ?_ | split
theorem c_isAgg {t : TypeId} : Calm P Any (isAgg t) := by
  unfold isAgg
  repeat' first | exact cpa | exact c_underlying | refine cb ?_ (fun _ => ?_) | refine ci ?_ ?_ | split
theorem c_loadCellsFrom {a : Addr} : ∀ {n i : Nat} {acc : Array Value}, Calm P Any (loadCellsFrom a i n acc) := by
  intro n
  induction n with
  | zero => intro i acc; exact cpa
  | succ n ih => intro i acc; exact cb c_load fun v => ih
theorem c_loadCells {a : Addr} {n : Nat} : Calm P Any (loadCells a n) := c_loadCellsFrom
theorem c_storeCells {a : Addr} : ∀ {vs : List Value} {i : Nat}, Calm P Any (storeCells a vs i) := by
  intro vs
  induction vs with
  | nil => intro i; exact cpa
  | cons v vs ih => intro i; exact cb c_store fun _ => ih
theorem c_loadVar {t : TypeId} {a : Addr} : Calm P Any (loadVar t a) := by
  unfold loadVar
  repeat' first | exact cpa | exact c_isAgg | exact c_sizeOf | exact c_loadCells | exact c_load | refine cb ?_ (fun _ => ?_) | refine ci ?_ ?_ | split
theorem c_storeVar {t : TypeId} {a : Addr} {v : Value} : Calm P Any (storeVar t a v) := by
  unfold storeVar
  repeat' first | exact cpa | exact c_sizeOf | exact c_stuck | exact c_storeCells | refine cb ?_ (fun _ => ?_) | refine ci ?_ ?_ | split
theorem c_newRow {t : TypeId} {c : Array Value} : Calm P Any (newRow t c) := by
  unfold newRow
  repeat' first | exact cpa | exact c_newObj | refine cb ?_ (fun _ => ?_) | refine ci ?_ ?_ | split
theorem c_newVar {t : TypeId} {v : Value} : Calm P Any (newVar t v) := c_newRow
theorem c_elemOf {t : TypeId} : Calm P Any (elemOf t) := by
  unfold elemOf
  repeat' first | exact cpa | exact c_underlying | exact c_stuck | refine cb ?_ (fun _ => ?_) | refine ci ?_ ?_ | split
theorem c_part {t : TypeId} {cs : Array Value} {off : Nat} : Calm P Any (part t cs off) := by
  unfold part
  repeat' first | exact cpa | exact c_isAgg | exact c_sizeOf | exact c_stuck | refine cb ?_ (fun _ => ?_) | refine ci ?_ ?_ | split
theorem c_runtimePanic {α : Type} {A : α → Prop} {e : RuntimeError} : Calm P A (runtimePanic e) := by
  unfold runtimePanic
  repeat' first | exact c_program | exact c_panic | exact c_newVar | exact c_elemOf | refine cb ?_ (fun _ => ?_) | refine ci ?_ ?_ | split
theorem c_boundsPanic {α : Type} {A : α → Prop} {k : IntKind} {x y : Int} {c : BoundsCode} : Calm P A (boundsPanic k x y c) := by
  unfold boundsPanic
  dsimp only
  split
  · exact cb (cb c_choose fun _ => cpa) fun _ => c_runtimePanic
  · exact cb cpa fun _ => c_runtimePanic
theorem c_asIntOf {v : Value} : Calm P Any (asIntOf v) := by
  unfold asIntOf
  repeat' first | exact cpa | exact c_observed | exact c_stuck | split
theorem c_asInt {v : Value} : Calm P Any (asInt v) := cb c_asIntOf fun _ => cpa
theorem c_asBool {v : Value} : Calm P Any (asBool v) := by
  unfold asBool
  repeat' first | exact cpa | exact c_stuck | split
theorem c_asAgg {v : Value} : Calm P Any (asAgg v) := by
  unfold asAgg
  repeat' first | exact cpa | exact c_stuck | split
theorem c_asAddr {v : Value} : Calm P Any (asAddr v) := by
  unfold asAddr
  repeat' first | exact cpa | exact c_stuck | exact c_runtimePanic | split
theorem c_asString {v : Value} : Calm P Any (asString v) := by
  unfold asString
  repeat' first | exact cpa | exact c_stuck | split
end

section
variable {P : Program}
theorem c_mapM {α β : Type} {f : α → Sem β} (h : ∀ a, Calm P Any (f a)) (xs : Array α) : Calm P Any (xs.mapM f) := by
  rw [Array.mapM_eq_mapM_toList]
  refine cb ?_ fun _ => cpa
  induction xs.toList with
  | nil => exact cpa
  | cons a l ih => rw [List.mapM_cons]; exact cb (h a) fun _ => cb ih fun _ => cpa
theorem c_foldlM {α β : Type} {f : β → α → Sem β} (h : ∀ b a, Calm P Any (f b a)) : ∀ (l : List α) (b : β), Calm P Any (l.foldlM f b)
  | [], _ => cpa
  | a :: l, b => cb (h b a) fun _ => c_foldlM h l _
theorem c_forIn_list {α β : Type} {f : α → β → Sem (ForInStep β)} (h : ∀ a b, Calm P Any (f a b)) : ∀ (l : List α) (b : β), Calm P Any (forIn l b f)
  | [], _ => cpa
  | a :: l, b => by
    rw [List.forIn_cons]
    refine cb (h a b) fun x => ?_
    split
    · exact cpa
    · exact c_forIn_list h l _
theorem c_forIn {α β : Type} {f : α → β → Sem (ForInStep β)} (h : ∀ a b, Calm P Any (f a b)) (xs : Array α) (b : β) : Calm P Any (forIn xs b f) := by
  rw [← Array.forIn_toList]; exact c_forIn_list h _ _
theorem c_forIn_range {β : Type} {f : Nat → β → Sem (ForInStep β)} (h : ∀ a b, Calm P Any (f a b)) (n : Nat) (b : β) : Calm P Any (forIn [0:n] b f) := by
  rw [Std.Legacy.Range.forIn_eq_forIn_range']; exact c_forIn_list h _ _

open Go.Instr Go.Builtin Go.Op in
theorem c_sureAddr {v : Value} : Calm P Any (Instr.sureAddr v) := by
  unfold Instr.sureAddr
  repeat' first | exact cpa | exact c_stuck | split
theorem c_loadAt {t : TypeId} {v : Value} : Calm P Any (Instr.loadAt t v) := cb c_sureAddr fun _ => c_loadVar
theorem c_storeAt {t : TypeId} {a v : Value} : Calm P Any (Instr.storeAt t a v) := cb c_sureAddr fun _ => c_storeVar
theorem c_byteOf {a : Addr} : Calm P Any (byteOf a) := by
  unfold byteOf
  repeat' first | exact cpa | exact c_program | exact c_noView | exact c_shape | exact c_stuck | refine cb ?_ (fun _ => ?_) | refine ci ?_ ?_ | split | dsimp only
theorem c_partAt {a : Addr} {o b : Nat} : Calm P Any (partAt a o b) := by
  unfold partAt
  repeat' first | exact cpa | exact c_program | exact c_byteOf | exact c_noView | exact c_shape | exact c_stuck | refine cb ?_ (fun _ => ?_) | refine ci ?_ ?_ | split | dsimp only
theorem c_fieldPlace {a : Addr} {f : Field} : Calm P Any (fieldPlace a f) := by
  unfold fieldPlace
  repeat' first | exact cpa | exact c_sizeOf | exact c_partAt | exact c_stuck | refine cb ?_ (fun _ => ?_) | refine ci ?_ ?_ | split | dsimp only
theorem c_fieldAt {t : TypeId} {v : Value} {n : Nat} : Calm P Any (Instr.fieldAt t v n) := by
  unfold Instr.fieldAt
  repeat' first | exact cpa | exact c_underlying | exact c_stuck | exact c_sureAddr | exact c_fieldPlace | refine cb ?_ (fun _ => ?_) | refine ci ?_ ?_ | split | dsimp only
theorem c_indexAt {t : TypeId} {x i : Value} : Calm P Any (Instr.indexAt t x i) := by
  unfold Instr.indexAt
  repeat' first | exact cpa | exact c_underlying | exact c_stuck | exact c_sureAddr | exact c_asIntOf | exact c_sizeOf | exact c_noEntry | exact c_boundsPanic | refine cb ?_ (fun _ => ?_) | refine ci ?_ ?_ | split | dsimp only
theorem c_alloc {t : TypeId} {b : Bool} {v : Value} : Calm P Any (Instr.alloc t b v) := by
  unfold Instr.alloc
  repeat' first | exact cpa | exact c_zeroValue | exact c_storeVar | exact c_newVar | refine cb ?_ (fun _ => ?_) | refine ci ?_ ?_ | split | dsimp only
theorem c_box {t : TypeId} {v : Value} : Calm P Any (Instr.box t v) := cb c_newVar fun _ => cpa
theorem c_build {t : TypeId} {ps : Array (Nat × Value)} : Calm P Any (Instr.build t ps) := by
  unfold Instr.build
  repeat' first | exact cpa | exact c_zeroValue | exact c_underlying | exact c_sizeOf | exact c_stuck | exact c_mapM (fun _ => cb c_sizeOf fun _ => cpa) _ | refine cb ?_ (fun _ => ?_) | refine ci ?_ ?_ | split | dsimp only
theorem c_buildSlice {t : TypeId} {n : Nat} {ps : Array (Nat × Value)} : Calm P Any (Instr.buildSlice t n ps) := by
  unfold Instr.buildSlice
  repeat' first | exact cpa | exact c_zeroValue | exact c_underlying | exact c_sizeOf | exact c_stuck | exact c_limit | exact c_newRow | refine cb ?_ (fun _ => ?_) | refine ci ?_ ?_ | split | dsimp only
theorem c_extract {v : Value} {n : Nat} : Calm P Any (Instr.extract v n) := by
  unfold Instr.extract
  repeat' first | exact cpa | exact c_stuck | split
theorem c_field {t : TypeId} {v : Value} {n : Nat} : Calm P Any (Instr.field t v n) := by
  unfold Instr.field
  repeat' first | exact cpa | exact c_underlying | exact c_stuck | exact c_part | exact c_asAgg | refine cb ?_ (fun _ => ?_) | refine ci ?_ ?_ | split | dsimp only
theorem c_index {t : TypeId} {x i : Value} : Calm P Any (Instr.index t x i) := by
  unfold Instr.index
  repeat' first | exact cpa | exact c_underlying | exact c_stuck | exact c_asIntOf | exact c_part | exact c_sizeOf | exact c_boundsPanic | refine cb ?_ (fun _ => ?_) | refine ci ?_ ?_ | split | dsimp only
theorem c_makeInterface {t : TypeId} {x : Value} : Calm P Any (Instr.makeInterface t x) := by
  unfold Instr.makeInterface
  repeat' first | exact cpa | exact c_underlying | exact c_stuck | refine cb ?_ (fun _ => ?_) | refine ci ?_ ?_ | split | dsimp only
theorem c_makeFunc {f : Fn} {a b : Array Value} : Calm P Any (Instr.makeFunc f a b) := cpa
theorem c_sliceBound {v : Value} {n : Nat} {c : BoundsCode} : Calm P Any (Instr.sliceBound v n c) := by
  unfold Instr.sliceBound
  repeat' first | exact cpa | exact c_asIntOf | exact c_boundsPanic | refine cb ?_ (fun _ => ?_) | refine ci ?_ ?_ | split | dsimp only
theorem c_sliceBounds {b : Bool} {n m : Nat} {x y z : Option Value} : Calm P Any (Instr.sliceBounds b n m x y z) := by
  unfold Instr.sliceBounds
  repeat' first | exact cpa | exact c_sliceBound | exact c_stuck | refine cb ?_ (fun _ => ?_) | refine ci ?_ ?_ | split | dsimp only
theorem c_slice {t : TypeId} {v : Value} {x y z : Option Value} : Calm P Any (Instr.slice t v x y z) := by
  unfold Instr.slice
  repeat' first | exact cpa | exact c_sliceBounds | exact c_underlying | exact c_stuck | exact c_sizeOf | exact c_asAddr | refine cb ?_ (fun _ => ?_) | refine ci ?_ ?_ | split | dsimp only
theorem c_sliceAt {t : TypeId} {v : Value} {x y z : Option Value} : Calm P Any (Instr.sliceAt t v x y z) := by
  unfold Instr.sliceAt
  repeat' first | exact cpa | exact c_slice | exact c_sliceBounds | exact c_underlying | exact c_stuck | exact c_sizeOf | exact c_sureAddr | refine cb ?_ (fun _ => ?_) | refine ci ?_ ?_ | split | dsimp only
theorem c_holdsCells {a : Addr} {n : Nat} : Calm P Any (Builtin.holdsCells a n) := by
  unfold Builtin.holdsCells
  repeat' first | exact cpa | exact c_shape | refine cb ?_ (fun _ => ?_) | refine ci ?_ ?_ | split | dsimp only
theorem c_mayShare {a b c : Nat} {o : Option Addr} {x : Value} : Calm P Any (Builtin.mayShare a b c o x) := by
  unfold Builtin.mayShare
  repeat' first | exact cpa | exact c_holdsCells | exact c_frozen | refine cb ?_ (fun _ => ?_) | refine ci ?_ ?_ | split | dsimp only
theorem c_lenOf {v : Value} : Calm P Any (Builtin.lenOf v) := by
  unfold Builtin.lenOf
  repeat' first | exact cpa | exact c_stuck | split
theorem c_firstCells {a b : Nat} {v : Value} : Calm P Any (Builtin.firstCells a b v) := by
  unfold Builtin.firstCells
  repeat' first | exact cpa | exact c_stuck | exact c_loadCells | split
set_option maxHeartbeats 4000000 in
theorem c_append {ts : Array TypeId} {t : TypeId} {vs : Array Value} : Calm P Any (Builtin.append_ ts t vs) := by
  unfold Builtin.append_
  repeat' first | exact cpa | exact c_underlying | exact c_sizeOf | exact c_asInt | exact c_typeInfo | exact c_runtimePanic | exact c_choose | exact c_lenOf | exact c_firstCells | exact c_zeroValue | exact c_storeCells | exact c_mayShare | exact c_noRoom | exact c_limit | exact c_askRoom | exact c_newRow | exact c_stuck | refine cb ?_ (fun _ => ?_) | refine ci ?_ ?_ | split | dsimp only
theorem c_copy {ts : Array TypeId} {t : TypeId} {vs : Array Value} : Calm P Any (Builtin.copy_ ts t vs) := by
  unfold Builtin.copy_
  repeat' first | exact cpa | exact c_underlying | exact c_sizeOf | exact c_lenOf | exact c_firstCells | exact c_storeCells | exact c_stuck | refine cb ?_ (fun _ => ?_) | refine ci ?_ ?_ | split | dsimp only
theorem c_len {ts : Array TypeId} {t : TypeId} {vs : Array Value} : Calm P Any (Builtin.len_ ts t vs) := by
  unfold Builtin.len_
  repeat' first | exact cpa | exact c_underlying | exact c_getObj | exact c_stuck | refine cb ?_ (fun _ => ?_) | refine ci ?_ ?_ | split | dsimp only
theorem c_cap {ts : Array TypeId} {t : TypeId} {vs : Array Value} : Calm P Any (Builtin.cap_ ts t vs) := by
  unfold Builtin.cap_
  repeat' first | exact cpa | exact c_underlying | exact c_getObj | exact c_stuck | refine cb ?_ (fun _ => ?_) | refine ci ?_ ?_ | split | dsimp only
theorem c_stringOp {op : BinOp} {x y : ByteArray} : Calm P Any (Op.stringOp op x y) := by
  unfold Op.stringOp
  dsimp only
  repeat' first | exact cpa | exact c_limit | exact c_stuck | split
theorem c_max {ts : Array TypeId} {t : TypeId} {vs : Array Value} : Calm P Any (Builtin.max_ ts t vs) := by
  have h2 : ∀ a b, Calm P Any (Builtin.max2 a b) := by
    intro a b
    unfold Builtin.max2
    repeat' first | exact cpa | exact c_choose | exact c_asBool | exact c_stringOp | exact c_observed | exact c_stuck | refine cb ?_ (fun _ => ?_) | refine ci ?_ ?_ | split | dsimp only
  unfold Builtin.max_
  split
  · exact c_stuck
  · exact c_foldlM h2 _ _
theorem c_min {ts : Array TypeId} {t : TypeId} {vs : Array Value} : Calm P Any (Builtin.min_ ts t vs) := by
  have h2 : ∀ a b, Calm P Any (Builtin.min2 a b) := by
    intro a b
    unfold Builtin.min2
    repeat' first | exact cpa | exact c_choose | exact c_asBool | exact c_stringOp | exact c_observed | exact c_stuck | refine cb ?_ (fun _ => ?_) | refine ci ?_ ?_ | split | dsimp only
  unfold Builtin.min_
  split
  · exact c_stuck
  · exact c_foldlM h2 _ _
end
end Go.Proofs.Ytfaadjmglboaoaa
