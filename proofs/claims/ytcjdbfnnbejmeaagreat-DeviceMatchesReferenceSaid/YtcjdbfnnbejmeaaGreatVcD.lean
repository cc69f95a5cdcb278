/- Plain definitions and lemmas of our own, no statement of the seat: the program's operations, looked up in its tables; those that only read. -/
import Derived.Test.YtcjdbfnnbejmeaaGreatVcC
import Derived.ChangeKeysEq
namespace Go.Proofs.YtcjdbfnnbejmeaaGreat.Vc
set_option linter.unusedSimpArgs false
set_option linter.unusedVariables false
open Go.RowKit

def plainField (P : Program) (f : Field) : Option Nat :=
  match P.info? f.type with
  | some i => if i.size = 0 then none else some i.size
  | none => none
def partsS (fs : Array Field) (P : Program) : List (Nat × Operand) → Option (List (Nat × Nat × Operand))
  | [] => some []
  | (i, x) :: ps => match fs[i]? with
    | some f => match P.info? f.type, partsS fs P ps with
      | some inf, some r => some ((f.offset, inf.size, x) :: r)
      | _, _ => none
    | none => none
def partsA (sz : Nat) (ps : List (Nat × Operand)) : List (Nat × Nat × Operand) := ps.map fun p => (p.1 * sz, sz, p.2)
def aggDesc : TypeDesc → Bool
  | .struct _ | .array .. => true
  | _ => false
/-- The size of what is loaded: none: one cell. -/
def sizeOfAgg (P : Program) (t : TypeId) : Option (Option Nat) :=
  match P.underlying t, P.info? t with
  | some d, some i => if aggDesc d then some (some i.size) else some none
  | _, _ => none
/-- The kinds of a struct's fields, each of one cell, one behind the other. -/
def eqKinds (P : Program) : Nat → List Field → Option (List Nat)
  | _, [] => some []
  | i, f :: fs => if f.offset = i ∧ (f.name == "_") = false then
      match P.underlying f.type, eqKinds P (i + 1) fs with
      | some (.int _), some ks => some (0 :: ks)
      | some .bool, some ks => some (1 :: ks)
      | some .string, some ks => some (2 :: ks)
      | _, _ => none
    else none
/-- The kinds of a struct's cells where a field may be a struct of fields of one cell each. -/
def eqKindsN (P : Program) : Nat → List Field → Option (List Nat)
  | _, [] => some []
  | i, f :: fs => if f.offset = i ∧ (f.name == "_") = false then
      match P.underlying f.type with
      | some (.int _) => (eqKindsN P (i + 1) fs).map (0 :: ·)
      | some (.struct gs) => if P.stoodInHeld f.type = false then
          match eqKinds P 0 gs.toList, P.info? f.type with
          | some ks, some inf => if inf.size = ks.length then (eqKindsN P (i + ks.length) fs).map (ks ++ ·) else none
          | _, _ => none
        else none
      | _ => none
    else none
def eqK (P : Program) (fs : List Field) : Option (List Nat) := match eqKinds P 0 fs with
  | some ks => some ks
  | none => eqKindsN P 0 fs
/-- How a map's keys compare. -/
def keyKinds (P : Program) (kt : TypeId) : Option (Option (List Nat)) :=
  match P.underlying kt with
  | some (.int _) => some none
  | some (.struct fs) => if P.stoodInHeld kt = false then
      match eqKinds P 0 fs.toList with
      | some ks => if (ks.all fun k => k == 0) = true then some (some ks) else none
      | none => none
    else none
  | _ => none
def compOp (P : Program) (m : Bool) (o : Oper) : Option VOp :=
  match o.op with
  | .move x | .assign x => some (.mov x)
  | .pick c a b => some (.pick c a b)
  | .binOp op t x y _ => if op = .shl ∨ op = .shr then some (.shift (decide (op = .shl)) x y) else
      match P.underlying t with
      | some (.int _) | some .string => some (.bin op x y)
      | some .bool => if op = .eql then some (.eqB false x y) else if op = .neq then some (.eqB true x y) else none
      | some (.struct fs) => if P.stoodInHeld t = false ∧ P.eqGuardType P.depth t = false then
          match eqK P fs.toList with
          | some ks => if op = .eql then some (.eqS false ks x y) else if op = .neq then some (.eqS true ks x y) else none
          | none => none
        else none
      | some (.array n e) => match P.underlying e, P.info? e with
        | some (.int _), some inf => if inf.size = 1 ∧ P.eqGuardType P.depth t = false then
            if op = .eql then some (.eqS false (List.replicate n 0) x y) else if op = .neq then some (.eqS true (List.replicate n 0) x y) else none
          else none
        | _, _ => none
      | some (.slice _) => match y with
        | .const (.slice none 0 0) => if op = .eql then some (.isnil false x) else if op = .neq then some (.isnil true x) else none
        | _ => none
      | some (.pointer _) => match y with
        | .const (.pointer none) => if op = .eql then some (.isnilP false x) else if op = .neq then some (.isnilP true x) else none
        | _ => none
      | _ => none
  | .makeMap _ none => some .mmake
  | .lookup t x y ok => match P.underlying t with
    | some (.map kt et) => match keyKinds P kt, P.info? et with
      | some ks, some inf => inf.zero.map fun z => .mget ks z ok x y
      | _, _ => none
    | _ => none
  | .mapUpdate t x y v => match P.underlying t with
    | some (.map kt _) => (keyKinds P kt).map fun ks => .mput ks x y v
    | _ => none
  | .range t x => match P.underlying t with
    | some (.map _ _) => some (.mrange x)
    | _ => none
  | .next x false => some (.mnext x)
  | .entry x => some (.mentry x)
  | .unOp op _ x => some (.un op x)
  | .extract x i => some (.extr x i)
  | .nilCheck x => some (.nilchk x)
  | .fieldAddr t x f => match P.underlying t with
    | some (.struct fs) => match fs[f]? with
      | some fd => if (plainField P fd).isSome then some (.faddr x fd.offset) else none
      | none => none
    | _ => none
  | .indexAddr t x i => match P.underlying t with
    | some (.slice e) => (P.info? e).map fun inf => .iaddr x i inf.size
    | some (.array n e) => (P.info? e).map fun inf => .iaddrA x i n inf.size
    | _ => none
  | .load t x => (sizeOfAgg P t).map fun n => .load n x
  | .build t parts => match P.info? t with
    | some inf => match inf.zero, P.underlying t with
      | some z, some (.struct fs) => if fs.all fun f => (P.info? f.type).isSome then (partsS fs P parts.toList).map fun ps => .build z.cells.toList ps else none
      | some z, some (.array _ e) => (P.info? e).map fun inf => .build z.cells.toList (partsA inf.size parts.toList)
      | _, _ => none
    | none => none
  | .call c => match c.callee with
    | .value (.func f) => if hasBody P f then some (.call m f c.args.toList) else none
    | .value (.tmp t) => some (.callv true (.tmp t) c.args.toList)
    | .builtin .min => match c.args.toList, c.argTypes.toList with
      | [x, y], t :: _ => match P.underlying t with
        | some (.int _) => some (.minmax false x y)
        | _ => none
      | [x, y, z], t :: _ => match P.underlying t with
        | some (.int _) => some (.minmax3 false x y z)
        | _ => none
      | _, _ => none
    | .builtin .max => match c.args.toList, c.argTypes.toList with
      | [x, y], t :: _ => match P.underlying t with
        | some (.int _) => some (.minmax true x y)
        | _ => none
      | _, _ => none
    | .builtin .len => match c.args.toList, c.argTypes.toList with
      | [x], [t] => match P.underlying t with
        | some (.slice _) => some (.len x)
        | some .string => some (.slen x)
        | _ => none
      | _, _ => none
    | .builtin .append => match c.args.toList, c.argTypes.toList with
      | [x, y], [t, t'] => if t = t' then match P.underlying t with
        | some (.slice e) => match P.info? e with
          | some inf => match inf.zero with
            | some z => if z.cells.size = inf.size ∧ 0 < inf.size ∧ 0 < inf.bytes then some (.append e inf.size inf.bytes x y) else none
            | none => none
          | none => none
        | _ => none else none
      | _, _ => none
    | .builtin .delete => match c.args.toList, c.argTypes.toList with
      | [x, y], [t, _] => match P.underlying t with
        | some (.map kt _) => (keyKinds P kt).map fun ks => .mdel ks x y
        | _ => none
      | _, _ => none
    | _ => none
  | .convert src dst x => match P.underlying src, P.underlying dst with
    | some (.int _), some (.int k) => some (.conv k x)
    | _, _ => none
  | .slice t x lo hi none => match P.underlying t with
    | some (.slice e) => (P.info? e).map fun inf => .slice inf.size x lo hi
    | some (.array n e) => match lo, hi with
      | none, none => (P.info? e).map fun _ => .sliceA n x
      | _, _ => none
    | _ => none
  | .slice t x lo (some hi) (some mx) => match P.underlying t with
    | some (.slice e) => (P.info? e).map fun inf => .slice3 inf.size x lo hi mx
    | _ => none
  | .makeFunc (.func f) first caps => if first.size = 0 then some (.mkfn f caps.toList) else match first.toList, caps.toList with
    | [x], [] => some (.mkbm f x)
    | _, _ => none
  | .field t x f => match P.underlying t with
    | some (.struct fs) => match fs[f]? with
      | some fd => (sizeOfAgg P fd.type).map fun n => .field fd.offset n x
      | none => none
    | _ => none
  | .index t x i => match P.underlying t with
    | some (.array n e) => match P.info? e with
      | some inf => (sizeOfAgg P e).map fun m => .index n inf.size m x i
      | none => none
    | _ => none
  | .alloc t => match P.info? t with
    | some inf => inf.zero.map fun z => .alloc z.cells.toList
    | none => none
  | .box _ x => some (.box x)
  | .buildSlice t n parts => match P.underlying t with
    | some (.slice e) => match P.info? e with
      | some inf => match inf.zero with
        | some z => if n * inf.size ≤ 16777216 ∧ z.cells.size = inf.size ∧ n ≤ 16777216 then
            some (.bslice e inf.size n (repCells z.cells.toList n) (partsA inf.size parts.toList)) else none
        | none => none
      | none => none
    | _ => none
  | .makeSlice t l c => match P.underlying t with
    | some (.slice e) => match P.info? e with
      | some inf => match inf.zero with
        | some z => if z.cells.size = inf.size ∧ 0 < inf.size ∧ 0 < inf.bytes then some (.mkslice e inf.size inf.bytes z.cells.toList l c) else none
        | none => none
      | none => none
    | _ => none
  | .store t x v => (P.info? t).map fun inf => .store inf.size x v
  | _ => none

section
variable {P : Program} {X : Ctx} {β κ : Nat → Nat} {s : St} {tm : Array Value} {w : World}

theorem run_typeInfo' {t : TypeId} {i : TypeInfo} (h : P.info? t = some i) (w : World) : (typeInfo t).run P w = .ok i w := by simp [typeInfo, h]
theorem run_sizeOf' {t : TypeId} {i : TypeInfo} (h : P.info? t = some i) (w : World) : (sizeOf t).run P w = .ok i.size w := by simp [sizeOf, typeInfo, h]
theorem run_isAgg' {t : TypeId} {d : TypeDesc} (h : P.underlying t = some d) (w : World) : (isAgg t).run P w = .ok (aggDesc d) w := by
  cases d <;> simp [isAgg, run_underlying h, aggDesc]

theorem beq_int (a b : Int) : (a == b) = decide (a = b) := by
  by_cases h : a = b <;> simp [h]
theorem bne_int (a b : Int) : (a != b) = decide (a ≠ b) := by
  by_cases h : a = b <;> simp [h]
theorem bin_run (op : BinOp) (t : TypeId) (x y : Operand) (u v : Value) (k : Value → Prop) (h : vcBin op u v k) :
    ∃ r, k r ∧ ∀ w, (do eqGuard op t x y u v; binOp op t u v : Sem Value).run P w = .ok r w := by
  cases u <;> simp only [vcBin] at h <;> cases v <;> simp only [] at h
  case int.int i a j b =>
    obtain ⟨rfl, h⟩ := h
    cases op <;> simp only [vcBinI] at h
    case add => obtain ⟨r, rfl, h⟩ := h; exact ⟨_, h, fun w => by simp [go_sem]⟩
    case sub => obtain ⟨r, rfl, h⟩ := h; exact ⟨_, h, fun w => by simp [go_sem]⟩
    case mul => obtain ⟨r, rfl, h⟩ := h; exact ⟨_, h, fun w => by simp [go_sem]⟩
    case quo => obtain ⟨hb, r, rfl, h⟩ := h; exact ⟨_, h, fun w => by simp [go_sem, hb]⟩
    case rem => obtain ⟨hb, h⟩ := h; exact ⟨_, h, fun w => by simp [go_sem, hb]⟩
    case eql => exact ⟨_, h, fun w => by simp [go_sem, beq_int]⟩
    case neq => exact ⟨_, h, fun w => by simp [go_sem, bne_int]⟩
    case lss => exact ⟨_, h, fun w => by simp [go_sem]⟩
    case leq => exact ⟨_, h, fun w => by simp [go_sem]⟩
    case gtr => exact ⟨_, h, fun w => by simp [go_sem]⟩
    case geq => exact ⟨_, h, fun w => by simp [go_sem]⟩
    case and => exact ⟨_, h, fun w => by simp [go_sem]⟩
    case or => exact ⟨_, h, fun w => by simp [go_sem]⟩
    case xor => exact ⟨_, h, fun w => by simp [go_sem]⟩
  case string.string a b =>
    cases op <;> simp only [] at h
    case eql => exact ⟨_, h, fun w => by simp [go_sem, beq_toListBytes]⟩
    case neq => exact ⟨_, h, fun w => by simp [go_sem, bne, beq_toListBytes, binOp, Op.stringOp]⟩
theorem un_run (op : UnOp) (u : Value) (k : Value → Prop) (h : vcUn op u k) : ∃ r, k r ∧ ∀ w, (Op.unary op u).run P w = .ok r w := by
  cases op <;> simp only [vcUn] at h <;> cases u <;> simp only [] at h
  case neg.int i n => obtain ⟨r, rfl, h⟩ := h; exact ⟨_, h, fun w => by simp [go_sem]⟩
  case not.bool b => exact ⟨_, h, fun w => by simp [go_sem]⟩
  case xor.int i n => exact ⟨_, h, fun w => by simp [go_sem]⟩
theorem eqFields_run (w : World) : ∀ (fs : List Field) (i d : Nat) (ks : List Nat) (us vs : List Value) (pre pre' : List Value) (t : Bool), eqKinds P i fs = some ks → eqCells ks us vs = some t →
    pre.length = i → pre'.length = i → (Op.eqFields (d + 1) (pre ++ us).toArray (pre' ++ vs).toArray fs).run P w = .ok t w
  | [], i, d, ks, us, vs, pre, pre', t, hk, he, _, _ => by
    simp only [eqKinds, Option.some.injEq] at hk
    subst hk
    cases us <;> cases vs <;> simp only [eqCells, Option.some.injEq, reduceCtorEq] at he
    subst he
    simp [Op.eqFields]
  | f :: fs, i, d, ks, us, vs, pre, pre', t, hk, he, hp, hp' => by
    simp only [eqKinds] at hk
    split at hk
    · rename_i hf
      obtain ⟨hoff, hname⟩ := hf
      have hname' : f.name ≠ "_" := by simpa using hname
      split at hk
      · rename_i kd ks' hu hks
        simp only [Option.some.injEq] at hk
        subst hk
        cases us with
        | nil => simp [eqCells] at he
        | cons u us =>
        cases vs with
        | nil => cases u <;> simp [eqCells] at he
        | cons v vs =>
        cases u <;> cases v <;> simp only [eqCells, reduceCtorEq] at he
        rename_i ia a ib b
        split at he
        · rename_i hij
          subst hij
          obtain ⟨t', ht', rfl⟩ := Option.map_eq_some_iff.1 he
          have ih := eqFields_run w fs (i + 1) d ks' us vs (pre ++ [.int ia a]) (pre' ++ [.int ia b]) t' hks ht' (by simp [hp]) (by simp [hp'])
          simp only [List.append_assoc, List.singleton_append] at ih
          simp only [Op.eqFields, if_pos hname', Sem.run_bind, part, run_isAgg' hu, aggDesc, Result.andThen_ok, hoff]
          subst hp
          by_cases hab : a = b
          · subst hab; simp [hp', go_sem, run_equalIn_int w d f.type ia kd a a hu, ih]
          · simp [hp', go_sem, run_equalIn_int w d f.type ia kd a b hu, hab]
        · cases he
      · rename_i ks' hu hks
        simp only [Option.some.injEq] at hk
        subst hk
        cases us with
        | nil => simp [eqCells] at he
        | cons u us =>
        cases vs with
        | nil => cases u <;> simp [eqCells] at he
        | cons v vs =>
        cases u <;> cases v <;> simp only [eqCells, reduceCtorEq] at he
        rename_i a b
        obtain ⟨t', ht', rfl⟩ := Option.map_eq_some_iff.1 he
        have ih := eqFields_run w fs (i + 1) d ks' us vs (pre ++ [.bool a]) (pre' ++ [.bool b]) t' hks ht' (by simp [hp]) (by simp [hp'])
        simp only [List.append_assoc, List.singleton_append] at ih
        simp only [Op.eqFields, if_pos hname', Sem.run_bind, part, run_isAgg' hu, aggDesc, Result.andThen_ok, hoff]
        subst hp
        cases hab : (a == b) <;> simp [hp', go_sem, run_equalIn_bool' w d f.type a b hu, hab, ih]
      · rename_i ks' hu hks
        simp only [Option.some.injEq] at hk
        subst hk
        cases us with
        | nil => simp [eqCells] at he
        | cons u us =>
        cases vs with
        | nil => cases u <;> simp [eqCells] at he
        | cons v vs =>
        cases u <;> cases v <;> simp only [eqCells, reduceCtorEq] at he
        rename_i a b
        obtain ⟨t', ht', rfl⟩ := Option.map_eq_some_iff.1 he
        have ih := eqFields_run w fs (i + 1) d ks' us vs (pre ++ [.string a]) (pre' ++ [.string b]) t' hks ht' (by simp [hp]) (by simp [hp'])
        simp only [List.append_assoc, List.singleton_append] at ih
        simp only [Op.eqFields, if_pos hname', Sem.run_bind, part, run_isAgg' hu, aggDesc, Result.andThen_ok, hoff]
        subst hp
        rw [beq_toListBytes]
        cases hab : (a.toList == b.toList) <;> simp [hp', go_sem, run_equalIn_string w d f.type a b hu, hab, ih]
      · cases hk
    · cases hk
theorem eqCells_append : ∀ (k1 k2 : List Nat) (us vs : List Value) (t : Bool), eqCells (k1 ++ k2) us vs = some t →
    ∃ us1 us2 vs1 vs2 t1 t2, us = us1 ++ us2 ∧ vs = vs1 ++ vs2 ∧ us1.length = k1.length ∧ vs1.length = k1.length ∧ eqCells k1 us1 vs1 = some t1 ∧ eqCells k2 us2 vs2 = some t2 ∧ t = (t1 && t2)
  | [], k2, us, vs, t, h => ⟨[], us, [], vs, true, t, rfl, rfl, rfl, rfl, rfl, h, rfl⟩
  | k :: k1, k2, [], vs, t, h => by simp [eqCells] at h
  | k :: k1, k2, u :: us, [], t, h => by cases u <;> simp [eqCells] at h
  | k :: k1, k2, u :: us, v :: vs, t, h => by
    rw [List.cons_append] at h
    have go : ∀ (c t' : Bool), eqCells (k1 ++ k2) us vs = some t' → t = (c && t') → (∀ r r' : List Value, ∀ x : Bool, eqCells k1 r r' = some x → eqCells (k :: k1) (u :: r) (v :: r') = some (c && x)) →
        ∃ us1 us2 vs1 vs2 t1 t2, u :: us = us1 ++ us2 ∧ v :: vs = vs1 ++ vs2 ∧ us1.length = (k :: k1).length ∧ vs1.length = (k :: k1).length ∧ eqCells (k :: k1) us1 vs1 = some t1 ∧ eqCells k2 us2 vs2 = some t2 ∧ t = (t1 && t2) := by
      intro c t' ht' ht hr
      obtain ⟨us1, us2, vs1, vs2, t1, t2, rfl, rfl, h3, h4, h5, h6, rfl⟩ := eqCells_append k1 k2 us vs t' ht'
      exact ⟨u :: us1, us2, v :: vs1, vs2, c && t1, t2, rfl, rfl, by simp [h3], by simp [h4], hr us1 vs1 t1 h5, h6, by rw [ht, Bool.and_assoc]⟩
    match k, u, v, h with
    | 0, .int i a, .int j b, h =>
      simp only [eqCells] at h
      split at h
      · rename_i hij
        obtain ⟨t', ht', rfl⟩ := Option.map_eq_some_iff.1 h
        exact go (decide (a = b)) t' ht' rfl fun r r' x hx => by simp [eqCells, hij, hx]
      · cases h
    | 1, .bool a, .bool b, h =>
      simp only [eqCells] at h
      obtain ⟨t', ht', rfl⟩ := Option.map_eq_some_iff.1 h
      exact go (a == b) t' ht' rfl fun r r' x hx => by simp [eqCells, hx]
    | 2, .string a, .string b, h =>
      simp only [eqCells] at h
      obtain ⟨t', ht', rfl⟩ := Option.map_eq_some_iff.1 h
      exact go (a == b) t' ht' rfl fun r r' x hx => by simp [eqCells, hx]
theorem eqFieldsN_run (w : World) : ∀ (fs : List Field) (i d : Nat) (ks : List Nat) (us vs : List Value) (pre pre' : List Value) (t : Bool), eqKindsN P i fs = some ks → eqCells ks us vs = some t →
    pre.length = i → pre'.length = i → (Op.eqFields (d + 2) (pre ++ us).toArray (pre' ++ vs).toArray fs).run P w = .ok t w
  | [], i, d, ks, us, vs, pre, pre', t, hk, he, _, _ => by
    simp only [eqKindsN, Option.some.injEq] at hk
    subst hk
    cases us <;> cases vs <;> simp only [eqCells, Option.some.injEq, reduceCtorEq] at he
    subst he
    simp [Op.eqFields]
  | f :: fs, i, d, ks, us, vs, pre, pre', t, hk, he, hp, hp' => by
    simp only [eqKindsN] at hk
    split at hk
    · rename_i hf
      obtain ⟨hoff, hname⟩ := hf
      have hname' : f.name ≠ "_" := by simpa using hname
      split at hk
      · rename_i kd hu
        obtain ⟨ks', hks, rfl⟩ := Option.map_eq_some_iff.1 hk
        cases us with
        | nil => simp [eqCells] at he
        | cons u us =>
        cases vs with
        | nil => cases u <;> simp [eqCells] at he
        | cons v vs =>
        cases u <;> cases v <;> simp only [eqCells, reduceCtorEq] at he
        rename_i ia a ib b
        split at he
        · rename_i hij
          subst hij
          obtain ⟨t', ht', rfl⟩ := Option.map_eq_some_iff.1 he
          have ih := eqFieldsN_run w fs (i + 1) d ks' us vs (pre ++ [.int ia a]) (pre' ++ [.int ia b]) t' hks ht' (by simp [hp]) (by simp [hp'])
          simp only [List.append_assoc, List.singleton_append] at ih
          simp only [Op.eqFields, if_pos hname', Sem.run_bind, part, run_isAgg' hu, aggDesc, Result.andThen_ok, hoff]
          subst hp
          by_cases hab : a = b
          · subst hab; simp [hp', go_sem, run_equalIn_int w (d + 1) f.type ia kd a a hu, ih]
          · simp [hp', go_sem, run_equalIn_int w (d + 1) f.type ia kd a b hu, hab]
        · cases he
      · rename_i gs hu
        split at hk
        · rename_i hst
          split at hk
          · rename_i k1 inf hk1 hinf
            split at hk
            · rename_i hsz
              obtain ⟨ks', hks, rfl⟩ := Option.map_eq_some_iff.1 hk
              obtain ⟨us1, us2, vs1, vs2, t1, t2, rfl, rfl, h3, h4, h5, h6, rfl⟩ := eqCells_append k1 ks' us vs t he
              have ih := eqFieldsN_run w fs (i + k1.length) d ks' us2 vs2 (pre ++ us1) (pre' ++ vs1) t2 hks h6 (by simp [hp, h3]) (by simp [hp', h4])
              simp only [List.append_assoc] at ih
              have hfo : P.underlying f.type = some (.struct (P.fieldsOf f.type)) := by simp [Program.fieldsOf, hu]
              have hff : P.fieldsOf f.type = gs := by simp [Program.fieldsOf, hu]
              have h7 := eqFields_run w gs.toList 0 d k1 us1 vs1 [] [] t1 hk1 h5 rfl rfl
              simp only [List.nil_append] at h7
              have h8 := run_equalIn_struct w (d + 1) f.type us1.toArray vs1.toArray hfo hst
              rw [hff, h7] at h8
              have e1 : (pre ++ (us1 ++ us2)).toArray.extract i (i + inf.size) = us1.toArray := by
                rw [hsz, ← h3, ← hp]; simp
              have e2 : (pre' ++ (vs1 ++ vs2)).toArray.extract i (i + inf.size) = vs1.toArray := by
                rw [hsz, ← h4, ← hp']; simp
              simp only [Op.eqFields, if_pos hname', Sem.run_bind, part, run_isAgg' hu, aggDesc, Result.andThen_ok, hoff, if_true, run_sizeOf' hinf, Sem.run_pure, e1, e2, h8]
              cases t1 <;> simp [ih]
            · cases hk
          · cases hk
        · cases hk
      · cases hk
    · cases hk
theorem eqK_run (w : World) (fs : List Field) (d : Nat) (ks : List Nat) (us vs : List Value) (t : Bool) (hk : eqK P fs = some ks) (he : eqCells ks us vs = some t) : (Op.eqFields (d + 2) us.toArray vs.toArray fs).run P w = .ok t w := by
  unfold eqK at hk
  split at hk
  · rename_i ks' hks
    simp only [Option.some.injEq] at hk; subst hk
    exact eqFields_run w fs 0 (d + 1) ks' us vs [] [] t hks he rfl rfl
  · exact eqFieldsN_run w fs 0 d ks us vs [] [] t hk he rfl rfl
theorem run_equalIn_nil (w : World) (d : Nat) {t e : TypeId} (a : Option Addr) (l c : Nat) (h : P.underlying t = some (.slice e)) : (Op.equalIn (d + 1) t (.slice a l c) (.slice none 0 0)).run P w = .ok a.isNone w := by
  cases a <;> simp [Op.equalIn, run_underlying h]
theorem run_eql_nil (w : World) {t e : TypeId} (a : Option Addr) (l c : Nat) (h : P.underlying t = some (.slice e)) : (binOp .eql t (.slice a l c) (.slice none 0 0)).run P w = .ok (.bool a.isNone) w := by
  have := run_equalIn_nil w 9999 a l c h
  simp only [binOp, Op.equal, Op.maxDepth, Sem.run_bind, this, Result.andThen_ok, Sem.run_map, Sem.run_pure]
theorem run_neq_nil (w : World) {t e : TypeId} (a : Option Addr) (l c : Nat) (h : P.underlying t = some (.slice e)) : (binOp .neq t (.slice a l c) (.slice none 0 0)).run P w = .ok (.bool (!a.isNone)) w := by
  have := run_equalIn_nil w 9999 a l c h
  simp only [binOp, Op.equal, Op.maxDepth, Sem.run_bind, this, Result.andThen_ok, Sem.run_map, Sem.run_pure]
theorem run_equalIn_nilP (w : World) {t e : TypeId} (d : Nat) (a : Option Addr) (h : P.underlying t = some (.pointer e)) : (Op.equalIn (d + 1) t (.pointer a) (.pointer none)).run P w = .ok a.isNone w := by
  cases a <;> simp [Op.equalIn, run_underlying h]
theorem run_eql_nilP (w : World) {t e : TypeId} (a : Option Addr) (h : P.underlying t = some (.pointer e)) : (binOp .eql t (.pointer a) (.pointer none)).run P w = .ok (.bool a.isNone) w := by
  have := run_equalIn_nilP w 9999 a h
  simp only [binOp, Op.equal, Op.maxDepth, Sem.run_bind, this, Result.andThen_ok, Sem.run_map, Sem.run_pure]
theorem run_neq_nilP (w : World) {t e : TypeId} (a : Option Addr) (h : P.underlying t = some (.pointer e)) : (binOp .neq t (.pointer a) (.pointer none)).run P w = .ok (.bool (!a.isNone)) w := by
  have := run_equalIn_nilP w 9999 a h
  simp only [binOp, Op.equal, Op.maxDepth, Sem.run_bind, this, Result.andThen_ok, Sem.run_map, Sem.run_pure]
theorem run_guard_ptr (w : World) (op : BinOp) (t : TypeId) (x y : Operand) (a b : Option Addr) : (eqGuard op t x y (.pointer a) (.pointer b)).run P w = .ok () w := by
  cases op <;> simp [eqGuard]
theorem run_guard_slice (w : World) (op : BinOp) (t : TypeId) (x y : Operand) (a b : Option Addr) (l c l' c' : Nat) : (eqGuard op t x y (.slice a l c) (.slice b l' c')).run P w = .ok () w := by
  cases op <;> simp [eqGuard]
theorem eqItems_run (w : World) {e : TypeId} {kd : IntKind} (hu : P.underlying e = some (.int kd)) (d : Nat) : ∀ (n i : Nat) (us vs : List Value) (pre pre' : List Value) (t : Bool), eqCells (List.replicate n 0) us vs = some t →
    pre.length = i → pre'.length = i → (Op.eqItems (d + 1) e 1 (pre ++ us).toArray (pre' ++ vs).toArray (List.range' i n)).run P w = .ok t w
  | 0, i, us, vs, pre, pre', t, he, _, _ => by
    cases us <;> cases vs <;> simp only [List.replicate_zero, eqCells, Option.some.injEq, reduceCtorEq] at he
    subst he
    simp [Op.eqItems]
  | n + 1, i, us, vs, pre, pre', t, he, hp, hp' => by
    rw [List.replicate_succ] at he
    cases us with
    | nil => simp [eqCells] at he
    | cons u us =>
    cases vs with
    | nil => cases u <;> simp [eqCells] at he
    | cons v vs =>
    cases u <;> cases v <;> simp only [eqCells, reduceCtorEq] at he
    rename_i ia a ib b
    split at he
    · rename_i hij
      subst hij
      obtain ⟨t', ht', rfl⟩ := Option.map_eq_some_iff.1 he
      have ih := eqItems_run w hu d n (i + 1) us vs (pre ++ [.int ia a]) (pre' ++ [.int ia b]) t' ht' (by simp [hp]) (by simp [hp'])
      simp only [List.append_assoc, List.singleton_append] at ih
      simp only [List.range'_succ, Op.eqItems, Sem.run_bind, part, run_isAgg' hu, aggDesc, Result.andThen_ok]
      subst hp
      by_cases hab : a = b
      · subst hab; simp [hp', go_sem, run_equalIn_int w d e ia kd a a hu, ih]
      · simp [hp', go_sem, run_equalIn_int w d e ia kd a b hu, hab]
    · cases he
theorem eqArray_run (w : World) {t e : TypeId} {kd : IntKind} {n : Nat} {inf : TypeInfo} (ht : P.underlying t = some (.array n e)) (hu : P.underlying e = some (.int kd)) (hi : P.info? e = some inf) (hs : inf.size = 1) (us vs : Array Value) (tt : Bool) (he : eqCells (List.replicate n 0) us.toList vs.toList = some tt) :
    (Op.equalIn 10000 t (.agg us) (.agg vs)).run P w = .ok tt w := by
  have hc : P.cellsOf e = 1 := by simp [Program.cellsOf, hi, hs]
  rw [run_equalIn_array w 9999 us vs ht hi, hc, List.range_eq_range']
  have := eqItems_run w hu 9998 n 0 us.toList vs.toList [] [] tt he rfl rfl
  simpa using this
end
end Go.Proofs.YtcjdbfnnbejmeaaGreat.Vc
