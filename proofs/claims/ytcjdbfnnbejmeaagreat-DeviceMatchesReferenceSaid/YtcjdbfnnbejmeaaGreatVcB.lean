/- Plain definitions of our own, no statement of the seat: a calculus of conditions over the program's code in which memory is seen through a set of facts that never change and a list of blocks of the call's own. -/
import Derived.Test.YtcjdbfnnbejmeaaGreatVcA
namespace Go.Proofs.YtcjdbfnnbejmeaaGreat.Vc
set_option linter.unusedSimpArgs false
set_option linter.unusedVariables false
open Go.RowKit

/-- What a closure has captured: a value, or the address of a block of the call's own. -/
inductive Cap where
  | v (x : Value)
  | l (k off : Nat)
/-- What a slot holds: a value; the address of a block of the call's own; a slice over a row of the call's own, or over a part of one; a closure; a map of the call's own. -/
inductive SV where
  | val (v : Value)
  | loc (k off : Nat)
  | sl (k len : Nat)
  | sw (k sz e len : Nat)
  | fn (f : FuncId) (cs : List Cap)
  | mp (k : Nat)
abbrev RO := Addr → Value → Prop
inductive Blk where
  | dead
  | box (cs : List SV)
  | row (T sz : Nat) (cs : List Value)
  | shr (b cap T sz : Nat) (cs : List Value)
  | mp (es : List MapEntry) (clock : Nat)
  | it (m since : Nat) (seen : List Nat) (last : Nat)
  | own (F : RO)
structure St where
  env : Nat → SV
  blk : List Blk
  R : RO

def upd (e : Nat → SV) (t : Nat) (v : SV) : Nat → SV := fun i => if i = t then v else e i
def St.put (s : St) : Option Nat → SV → St
  | none, _ => s
  | some d, v => { s with env := upd s.env d v }
def St.ev (s : St) : Operand → SV
  | .tmp t => s.env t
  | .const v => .val v
  | .global g => .val (.pointer (some ⟨g, 0, none⟩))
  | .func f => .val (.func (.func f) #[] #[])
def Cap.ok (n : Nat) : Cap → Bool
  | .v _ => true
  | .l k _ => decide (k < n)
def SV.ok (n : Nat) : SV → Bool
  | .val _ => true
  | .loc k _ => decide (k < n)
  | .sl k _ => decide (k < n)
  | .sw k _ _ _ => decide (k < n)
  | .fn _ cs => cs.all (Cap.ok n)
  | .mp k => decide (k < n)
def Blk.live : Blk → Bool
  | .dead => false
  | .shr .. => false
  | .own _ => false
  | _ => true

def capV (β : Nat → Nat) : Cap → Value
  | .v x => x
  | .l k off => .pointer (some ⟨β k, off, none⟩)
def den (β κ : Nat → Nat) : SV → Value
  | .val v => v
  | .loc k off => .pointer (some ⟨β k, off, none⟩)
  | .sl k len => .slice (some ⟨β k, 0, none⟩) len (κ k)
  | .sw k sz e len => .slice (some ⟨β k, if κ k = e then 0 else e * sz, none⟩) len (κ k - e)
  | .fn f cs => .func (.func f) #[] (cs.map (capV β)).toArray
  | .mp k => .map (some (β k))

/-! ### A row of the call's own becomes a set of facts -/
def unsl (k b cap : Nat) : SV → SV
  | .sl k' n => if k' = k then .val (.slice (some ⟨b, 0, none⟩) n cap) else .sl k' n
  | .sw k' sz e n => if k' = k then .val (.slice (some ⟨b, if cap = e then 0 else e * sz, none⟩) n (cap - e)) else .sw k' sz e n
  | x => x
def unslB (k b cap : Nat) : Blk → Blk
  | .box cs => .box (cs.map (unsl k b cap))
  | x => x
def frz (s : St) (k b cap : Nat) (R : RO) (T sz : Nat) (cs : List Value) : St :=
  { env := fun t => unsl k b cap (s.env t), blk := (s.blk.map (unslB k b cap)).set k (.shr b cap T sz cs), R := R }
/-- A box of the call's own becomes a set of facts: its places are pointers. -/
def unlocC (k b : Nat) : Cap → Cap
  | .l k' o => if k' = k then .v (.pointer (some ⟨b, o, none⟩)) else .l k' o
  | x => x
def unloc (k b : Nat) : SV → SV
  | .loc k' o => if k' = k then .val (.pointer (some ⟨b, o, none⟩)) else .loc k' o
  | .fn f cs => .fn f (cs.map (unlocC k b))
  | x => x
def unlocB (k b : Nat) : Blk → Blk
  | .box cs => .box (cs.map (unloc k b))
  | x => x
def frzB (s : St) (k b : Nat) (R : RO) : St :=
  { env := fun t => unloc k b (s.env t), blk := (s.blk.map (unlocB k b)).set k .dead, R := R }
def RO.le (R R' : RO) : Prop := ∀ a v, R a v → R' a v
/-- The facts that a row gives. -/
def RowIn (R : RO) (b : Nat) (cs : List Value) : Prop := ∀ i v, cs[i]? = some v → R ⟨b, i, none⟩ v
/-- No fact is about the block. -/
def Fresh (R : RO) (b : Nat) : Prop := ∀ a v, R a v → a.block ≠ b
def capVals : List Cap → Option (List Value)
  | [] => some []
  | .v x :: r => (capVals r).map (x :: ·)
  | .l .. :: _ => none
/-- A slot's content as a value; no place of a box. -/
def leaf1 (x : SV) (s : St) (k : Value → St → Prop) : Prop :=
  match x with
  | .val v => k v s
  | .sl j n => match s.blk[j]? with
    | some (.row T sz cs) => ∀ (b cap : Nat) (R' : RO), RO.le s.R R' → RowIn R' b cs → cs.length ≤ cap * sz → Fresh s.R b → k (.slice (some ⟨b, 0, none⟩) n cap) (frz s j b cap R' T sz cs)
    | _ => False
  | .sw j z e n => match s.blk[j]? with
    | some (.row T sz cs) => ∀ (b cap : Nat) (R' : RO), RO.le s.R R' → RowIn R' b cs → cs.length ≤ cap * sz → Fresh s.R b → k (.slice (some ⟨b, if cap = e then 0 else e * z, none⟩) n (cap - e)) (frz s j b cap R' T sz cs)
    | _ => False
  | .fn f cs => match capVals cs with
    | some vs => k (.func (.func f) #[] vs.toArray) s
    | none => False
  | _ => False
/-- The cells 'off, .., off + n - 1' of block j, as values. -/
def cellsAt (s : St) (j off : Nat) : Nat → (List Value → St → Prop) → Prop
  | 0, k => k [] s
  | n + 1, k => match s.blk[j]? with
    | some (.box cs) => match cs[off]? with
      | some c => leaf1 c s fun v s' => cellsAt s' j (off + 1) n fun vs s'' => k (v :: vs) s''
      | none => False
    | some (.row _ _ cs) => ∃ v, cs[off]? = some v ∧ cellsAt s j (off + 1) n fun vs s'' => k (v :: vs) s''
    | _ => False
/-- A slot's content as a value. -/
def leaf (x : SV) (s : St) (k : Value → St → Prop) : Prop :=
  match x with
  | .loc j off => match s.blk[j]? with
    | some (.box cs) => cellsAt s j 0 cs.length fun vs s' => match s'.blk[j]? with
      | some (.box _) => ∀ (b : Nat) (R' : RO), RO.le s'.R R' → RowIn R' b vs → Fresh s'.R b → k (.pointer (some ⟨b, off, none⟩)) (frzB s' j b R')
      | _ => False
    | _ => False
  | x => leaf1 x s k
def evs (s : St) : List Operand → List SV
  | [] => []
  | x :: xs => s.ev x :: evs s xs
def leaves (s : St) : List Operand → (List Value → St → Prop) → Prop
  | [], k => k [] s
  | x :: xs, k => leaf (s.ev x) s fun v s' => leaves s' xs fun vs s'' => k (v :: vs) s''

/-! ### Integers -/
/-- 'r'' is r as the kind holds it. -/
def W (i : IntKind) (r r' : Int) : Prop := r' = i.wrap r
theorem W.mk (i : IntKind) (r : Int) : W i r (i.wrap r) := rfl
theorem W.in64 {r : Int} (h : -9223372036854775808 ≤ r ∧ r ≤ 9223372036854775807) : W .i64 r r := by
  unfold W; rw [IntKind.wrap_i64]; omega
def vcBinI (op : BinOp) (i : IntKind) (a b : Int) (k : Value → Prop) : Prop :=
  match op with
  | .add => ∃ r, W i (a + b) r ∧ k (.int i r)
  | .sub => ∃ r, W i (a - b) r ∧ k (.int i r)
  | .mul => ∃ r, W i (a * b) r ∧ k (.int i r)
  | .quo => b ≠ 0 ∧ ∃ r, W i (a.tdiv b) r ∧ k (.int i r)
  | .rem => b ≠ 0 ∧ k (.int i (a.tmod b))
  | .eql => k (.bool (decide (a = b)))
  | .neq => k (.bool (decide (a ≠ b)))
  | .lss => k (.bool (decide (a < b)))
  | .leq => k (.bool (decide (a ≤ b)))
  | .gtr => k (.bool (decide (b < a)))
  | .geq => k (.bool (decide (b ≤ a)))
  | .and => k (.int i (bits .and i a b))
  | .or => k (.int i (bits .or i a b))
  | .xor => k (.int i (bits .xor i a b))
  | _ => False
def vcBin (op : BinOp) (x y : Value) (k : Value → Prop) : Prop :=
  match x, y with
  | .int i a, .int j b => i = j ∧ vcBinI op i a b k
  | .string a, .string b => match op with
    | .eql => k (.bool (a == b))
    | .neq => k (.bool (a != b))
    | _ => False
  | _, _ => False
def vcUn (op : UnOp) (x : Value) (k : Value → Prop) : Prop :=
  match op, x with
  | .not, .bool b => k (.bool !b)
  | .neg, .int i n => ∃ r, W i (0 - n) r ∧ k (.int i r)
  | .xor, .int i n => k (.int i (bits .xor i (if i.signed then -1 else i.max) n))
  | _, _ => False
def eqCells : List Nat → List Value → List Value → Option Bool
  | [], [], [] => some true
  | 0 :: ks, .int i a :: xs, .int j b :: ys => if i = j then (eqCells ks xs ys).map (decide (a = b) && ·) else none
  | 1 :: ks, .bool a :: xs, .bool b :: ys => (eqCells ks xs ys).map ((a == b) && ·)
  | 2 :: ks, .string a :: xs, .string b :: ys => (eqCells ks xs ys).map ((a == b) && ·)
  | _, _, _ => none

/-! ### Maps -/
/-- Keys of ints, or of structs of ints. -/
def mEq (ks : Option (List Nat)) (a b : Value) : Option Bool :=
  match ks, a, b with
  | none, .int i a, .int j b => if i = j then some (decide (a = b)) else none
  | some ks, .agg us, .agg vs => eqCells ks us.toList vs.toList
  | _, _, _ => none
def mfind (ks : Option (List Nat)) (k : Value) : List MapEntry → Nat → Option (Option (Nat × Value))
  | [], _ => some none
  | e :: es, i => match mEq ks k e.key with
    | some true => some (some (i, e.val))
    | some false => mfind ks k es (i + 1)
    | none => none
def mres (zero : Value) (ok : Bool) : Option (Nat × Value) → Value
  | some (_, v) => if ok = true then .tuple #[v, .bool true] else v
  | none => if ok = true then .tuple #[zero, .bool false] else zero
def mset (k v : Value) (es : List MapEntry) (clock : Nat) : Option (Nat × Value) → Blk
  | some (i, _) => .mp (es.modify i fun e => { e with key := k, val := v }) clock
  | none => .mp (es ++ [⟨k, v, clock⟩]) (clock + 1)

def mdrop (es : List MapEntry) (clock : Nat) : Option (Nat × Value) → Blk
  | some (i, _) => .mp (es.eraseIdx i) clock
  | none => .mp es clock
/-! ### The operations, with the types' sizes looked up -/
inductive VOp where
  | mov (x : Operand)
  | pick (c a b : Operand)
  | bin (op : BinOp) (x y : Operand)
  | un (op : UnOp) (x : Operand)
  | shift (left : Bool) (x y : Operand)
  | eqB (neg : Bool) (x y : Operand)
  | eqS (neg : Bool) (kinds : List Nat) (x y : Operand)
  | extr (x : Operand) (i : Nat)
  | faddr (x : Operand) (off : Nat)
  | iaddr (x i : Operand) (sz : Nat)
  | iaddrA (x i : Operand) (len sz : Nat)
  | load (n : Option Nat) (x : Operand)
  | build (zero : List Value) (parts : List (Nat × Nat × Operand))
  | len (x : Operand)
  | slen (x : Operand)
  | conv (i : IntKind) (x : Operand)
  | alloc (zero : List Value)
  | box (x : Operand)
  | bslice (T sz len : Nat) (zero : List Value) (parts : List (Nat × Nat × Operand))
  | call (m : Bool) (f : FuncId) (args : List Operand)
  | callv (m : Bool) (x : Operand) (args : List Operand)
  | mkfn (f : FuncId) (caps : List Operand)
  | minmax (mx : Bool) (x y : Operand)
  | minmax3 (mx : Bool) (x y z : Operand)
  | slice3 (sz : Nat) (x : Operand) (lo : Option Operand) (hi mx : Operand)
  | store (n : Nat) (x v : Operand)
  | append (T sz bytes : Nat) (x y : Operand)
  | mkslice (T sz bytes : Nat) (zero : List Value) (l c : Operand)
  | slice (sz : Nat) (x : Operand) (lo hi : Option Operand)
  | field (off : Nat) (n : Option Nat) (x : Operand)
  | index (len sz : Nat) (n : Option Nat) (x i : Operand)
  | isnil (neg : Bool) (x : Operand)
  | mmake
  | mget (ks : Option (List Nat)) (zero : Value) (ok : Bool) (x y : Operand)
  | mput (ks : Option (List Nat)) (x y v : Operand)
  | mdel (ks : Option (List Nat)) (x y : Operand)
  | mrange (x : Operand)
  | mnext (x : Operand)
  | mentry (x : Operand)
  | nilchk (x : Operand)
  | isnilP (neg : Bool) (x : Operand)
  | mkbm (f : FuncId) (x : Operand)
  | sliceA (len : Nat) (x : Operand)
structure VStep where
  dst : Option Nat
  grd : Option (Nat × Bool)
  op : VOp

def VOp.quiet : VOp → Bool
  | .alloc .. | .box .. | .bslice .. | .call .. | .callv .. | .store .. | .append .. | .mkslice .. | .mmake | .mput .. | .mdel .. | .mrange .. | .mnext .. => false
  | _ => true
/-- What reads no memory. -/
def VOp.pure : VOp → Bool
  | .load .. | .mget .. | .mentry .. => false
  | o => o.quiet
def VOp.tail : VOp → Bool
  | .store .. | .append .. | .mput .. | .mdel .. | .mnext .. => true
  | .call m _ _ => m
  | .callv m _ _ => m
  | _ => false

/-- A block of cells that may be written. -/
def Loose (w : World) (b : Nat) : Prop := ∃ arr T, w.heap[b]? = some (.cells arr T (0, 0))
/-- A contract: at whatever world in which the facts R hold. -/
def CallsR (P : Program) (f : FuncId) (args : List Value) (R : RO) (Post : RO → Value → Prop) : Prop :=
  ∀ w : World, (∀ a v, R a v → w.cell? a = some v) → Calls P f args.toArray w fun e w' => ∃ v R', e = .returned v ∧ RO.le R R' ∧
    (∀ a v, R' a v → w'.cell? a = some v ∧ (R a v ∨ (w.heap.size ≤ a.block ∧ Loose w' a.block))) ∧ Ext w w' ∧ Post R' v
/-- A call: by some contract. -/
def VCall (P : Program) (f : FuncId) (args : List Value) (R : RO) (k : RO → Value → Prop) : Prop :=
  ∃ Post, CallsR P f args R Post ∧ ∀ R' v, RO.le R R' → Post R' v → k R' v

/-! ### Blocks in memory; calls to which the caller's own blocks are lent, or handed -/
/-- A block lies in memory. -/
def BlkOK (β κ : Nat → Nat) (w : World) (own : Nat → Prop) (L j : Nat) : Blk → Prop
  | .dead => True
  | .shr .. => True
  | .box cs => own (β j) ∧ (∀ c ∈ cs, SV.ok L c = true) ∧ ∃ T, w.heap[β j]? = some (.cells (cs.map (den β κ)).toArray T (0, 0))
  | .row T sz cs => own (β j) ∧ ∃ arr, w.heap[β j]? = some (.cells arr T (0, 0)) ∧ cs <+: arr.toList ∧ κ j * sz = arr.size ∧ cs.length ≤ κ j * sz ∧ κ j ≤ maxLen
  | .mp es clock => own (β j) ∧ w.heap[β j]? = some (.map es.toArray clock)
  | .own _ => True
  | .it m since seen last => own (β j) ∧ m < L ∧ w.heap[β j]? = some (.mapIter (some (β m)) since seen.toArray last)
/-- The blocks lie in memory, apart from what the facts speak of. -/
structure Granted (w : World) (β κ : Nat → Nat) (bs : List Blk) (R : RO) : Prop where
  blk : ∀ j b, bs[j]? = some b → BlkOK β κ w (fun _ => True) bs.length j b
  inj : ∀ i j b b', bs[i]? = some b → bs[j]? = some b' → b.live = true → b'.live = true → β i = β j → i = j
  ro : ∀ a v, R a v → w.cell? a = some v ∧ ∀ j b, bs[j]? = some b → b.live = true → a.block ≠ β j
def Gset (β : Nat → Nat) (bs : List Blk) (k : Nat) : Prop := ∃ i b, bs[i]? = some b ∧ b.live = true ∧ k = β i
def Blk.noShr : Blk → Bool
  | .shr .. => false
  | .own _ => false
  | _ => true
/-- A contract to which the blocks 'bs' are handed; it may write them. -/
def CallsS (P : Program) (f : FuncId) (xs : List SV) (bs : List Blk) (R : RO) (Post : RO → List Blk → SV → Prop) : Prop :=
  ∀ (w : World) (β κ : Nat → Nat), Granted w β κ bs R → Calls P f (xs.map (den β κ)).toArray w fun e w' => ∃ β' κ' bs' r R', e = .returned (den β' κ' r) ∧ RO.le R R' ∧ Granted w' β' κ' bs' R' ∧
    SV.ok bs'.length r = true ∧ bs.length ≤ bs'.length ∧ (∀ b ∈ bs', b.noShr = true) ∧ (∀ i, i < bs.length → β' i = β i ∧ κ' i = κ i) ∧
    (∀ j b, bs'[j]? = some b → b.live = true → w.heap.size ≤ β' j ∨ Gset β bs (β' j)) ∧ (∀ a v, R' a v → R a v ∨ ((w.heap.size ≤ a.block ∨ Gset β bs a.block) ∧ Loose w' a.block)) ∧ KeptG (Gset β bs) w w' ∧ Post R' bs' r
/-- The caller's own blocks, seen as facts. -/
def lendB (β κ : Nat → Nat) (R' : RO) (j : Nat) : Blk → Prop
  | .row _ sz cs => RowIn R' (β j) cs ∧ cs.length ≤ κ j * sz
  | .box cs => RowIn R' (β j) (cs.map (den β κ))
  | .own F => RO.le F R'
  | _ => True
def LendR (s : St) (β κ : Nat → Nat) (R' : RO) : Prop := RO.le s.R R' ∧ ∀ j b, s.blk[j]? = some b → lendB β κ R' j b
/-- The blocks are lent for a call's time. -/
def Lend (P : Program) (f : FuncId) (xs : List SV) (s : St) (k : SV → St → Prop) : Prop :=
  ∀ β κ R', LendR s β κ R' → ∃ Post, CallsR P f (xs.map (den β κ)) R' Post ∧ ∀ R'' v R3, RO.le R' R'' → Post R'' v → RO.le s.R R3 → (∀ a u, R'' a u → Fresh R' a.block → R3 a u) → k (.val v) { s with R := R3 }
/-- The same, and what the call has made becomes the caller's own: it may be written. -/
def LendA (P : Program) (f : FuncId) (xs : List SV) (s : St) (k : SV → St → Prop) : Prop :=
  ∀ β κ R', LendR s β κ R' → ∃ Post, CallsR P f (xs.map (den β κ)) R' Post ∧ ∀ R'' v F, RO.le R' R'' → Post R'' v → (∀ a u, R'' a u → Fresh R' a.block → F a u) → k (.val v) { s with blk := s.blk ++ [.own F] }
/-- What is known of memory: the facts, and what lies in blocks of facts of one's own. -/
def allR (b : List Blk) (R : RO) : RO := fun a v => R a v ∨ ∃ (j : Nat) (F : RO), b[j]? = some (.own F) ∧ F a v
/-- The facts that are new. -/
def newR (R R' : RO) : RO := fun a v => R' a v ∧ Fresh R a.block
/-- The facts after a store. -/
def putF (F : RO) (a : Addr) (us : List Value) : RO := fun x u =>
  (∃ i, x = a.add i ∧ us[i]? = some u) ∨ (¬ (x.block = a.block ∧ a.off ≤ x.off ∧ x.off < a.off + us.length) ∧ F x u)
/-- Numbers of blocks, changed: i becomes ρ[i]; behind the list's end they stay. -/
def rn (ρ : List Nat) (k : Nat) : Nat := ρ.getD k k
def renC (ρ : List Nat) : Cap → Cap
  | .v x => .v x
  | .l k off => .l (rn ρ k) off
def ren (ρ : List Nat) : SV → SV
  | .val v => .val v
  | .loc k off => .loc (rn ρ k) off
  | .sl k n => .sl (rn ρ k) n
  | .sw k sz e n => .sw (rn ρ k) sz e n
  | .fn f cs => .fn f (cs.map (renC ρ))
  | .mp k => .mp (rn ρ k)
def renB (ρ : List Nat) : Blk → Blk
  | .box cs => .box (cs.map (ren ρ))
  | .it m a b c => .it (rn ρ m) a b c
  | x => x
/-- The blocks 'bs' are those of 'sb' with the numbers ρ; a dead one may be anything. -/
def blkM (ρ : List Nat) (sb : List Blk) : Nat → List Blk → Prop
  | _, [] => True
  | i, .dead :: r => blkM ρ sb (i + 1) r
  | i, .own F :: r => (∃ G, sb[rn ρ i]? = some (.own G) ∧ RO.le F G) ∧ blkM ρ sb (i + 1) r
  | i, b :: r => sb[rn ρ i]? = some (renB ρ b) ∧ blkM ρ sb (i + 1) r
def scB (n : Nat) : Blk → Bool
  | .box cs => cs.all (SV.ok n)
  | .it m _ _ _ => decide (m < n)
  | _ => true
def rnInj (ρ : List Nat) (n : Nat) : Bool := (List.range n).all fun i => (List.range i).all fun j => rn ρ i != rn ρ j
def setG : List Blk → List Nat → List Blk → List Blk
  | sb, i :: g, b :: bs => setG (sb.set i b) g bs
  | sb, _, bs => sb ++ bs
/-- Some blocks are handed to the call. -/
def Hand (P : Program) (f : FuncId) (ys : List SV) (s : St) (k : SV → St → Prop) : Prop :=
  ∃ (g : List Nat) (xs : List SV) (bs : List Blk) (Post : RO → List Blk → SV → Prop), CallsS P f xs bs s.R Post ∧ ys = xs.map (ren g) ∧ g.length = bs.length ∧ rnInj g bs.length = true ∧ blkM g s.blk 0 bs ∧
    (∀ i ∈ g, i < s.blk.length) ∧ (xs.all (SV.ok bs.length)) = true ∧ (bs.all fun b => scB bs.length b && b.noShr) = true ∧
    ∀ R' bs' r, RO.le s.R R' → Post R' bs' r → bs.length ≤ bs'.length →
      k (ren (g ++ List.range' s.blk.length (bs'.length - bs.length)) r) { s with blk := setG s.blk g (bs'.map (renB (g ++ List.range' s.blk.length (bs'.length - bs.length)))), R := R' }
def Blk.isMp : Blk → Bool
  | .mp .. => true
  | _ => false
/-- The same; where nothing may be written the blocks are maps, and come back as they were. -/
def HandM (m : Bool) (P : Program) (f : FuncId) (ys : List SV) (s : St) (k : SV → St → Prop) : Prop :=
  ∃ (g : List Nat) (xs : List SV) (bs : List Blk) (Post : RO → List Blk → SV → Prop), (m = true ∨ (bs.all Blk.isMp = true ∧ ∀ R' bs' r, Post R' bs' r → bs'.take bs.length = bs)) ∧ CallsS P f xs bs s.R Post ∧ ys = xs.map (ren g) ∧ g.length = bs.length ∧ rnInj g bs.length = true ∧ blkM g s.blk 0 bs ∧
    (∀ i ∈ g, i < s.blk.length) ∧ (xs.all (SV.ok bs.length)) = true ∧ (bs.all fun b => scB bs.length b && b.noShr) = true ∧
    ∀ R' bs' r, RO.le s.R R' → Post R' bs' r → bs.length ≤ bs'.length →
      k (ren (g ++ List.range' s.blk.length (bs'.length - bs.length)) r) { s with blk := setG s.blk g (bs'.map (renB (g ++ List.range' s.blk.length (bs'.length - bs.length)))), R := R' }
def allVal : List SV → Bool
  | [] => true
  | .val _ :: r => allVal r
  | _ => false
def valsOf : List SV → List Value
  | [] => []
  | .val v :: r => v :: valsOf r
  | _ :: r => undef :: valsOf r
def hasBody (P : Program) (f : FuncId) : Bool :=
  match P.funcs[f]? with
  | some fn => fn.body.isSome && !(fn.name == "runtime.NumGoroutine")
  | none => false
def capSV : Cap → SV
  | .v x => .val x
  | .l k off => .loc k off
def capsOf : List SV → Option (List Cap)
  | [] => some []
  | .val v :: r => (capsOf r).map (.v v :: ·)
  | .loc k o :: r => (capsOf r).map (.l k o :: ·)
  | _ => none
/-- The program, and how many blocks the caller has handed over. -/
structure PG where
  P : Program
  ng : Nat

def cellsOf : SV → List SV
  | .val (.agg cs) => cs.toList.map .val
  | x => [x]
def putAt (off : Nat) : List Value → List Value → List Value
  | cs, [] => cs
  | cs, v :: vs => putAt (off + 1) (cs.set off v) vs
def putAtS (off : Nat) : List SV → List SV → List SV
  | cs, [] => cs
  | cs, v :: vs => putAtS (off + 1) (cs.set off v) vs
/-- The parts of a literal, one by one, into its cells. -/
def fillV (s : St) (cs : List Value) : List (Nat × Nat × Operand) → (List Value → St → Prop) → Prop
  | [], k => k cs s
  | (off, sz, x) :: ps, k => leaf (s.ev x) s fun v s' => v.cells.size = sz ∧ off + sz ≤ cs.length ∧ fillV s' (putAt off cs v.cells.toList) ps k
def repCells (zero : List Value) : Nat → List Value
  | 0 => []
  | n + 1 => zero ++ repCells zero n

/-- What is appended: how many elements, and their cells. -/
def srcCells (s : St) (T sz : Nat) (x : SV) (k : Nat → List Value → Prop) : Prop :=
  match x with
  | .val (.slice a m _) => ∃ vs : List Value, vs.length = m * sz ∧ (∀ u ∈ vs, u.oneCell' = true) ∧ (vs ≠ [] → ∃ ad, a = some ad ∧ ∀ i v, vs[i]? = some v → allR s.blk s.R (ad.add i) v) ∧ k m vs
  | .sl j m => ∃ cs, s.blk[j]? = some (.row T sz cs) ∧ m * sz ≤ cs.length ∧ (∀ u ∈ cs, u.oneCell' = true) ∧ k m (cs.take (m * sz))
  | .sw j z e m => ∃ cs, s.blk[j]? = some (.row T sz cs) ∧ z = sz ∧ 0 < sz ∧ (e + m) * sz ≤ cs.length ∧ (∀ u ∈ cs, u.oneCell' = true) ∧ k m ((cs.drop (e * sz)).take (m * sz))
  | _ => False
/-- A bound of a slice expression. -/
def bnd (s : St) (x : Option Operand) (d r : Nat) : Prop :=
  match x with
  | none => r = d
  | some x => match s.ev x with
    | .val (.int _ n) => n = r
    | _ => False
/-- A slice with three bounds, of a value. -/
def slc3 (s : St) (sz : Nat) (v : Value) (lo : Option Operand) (hi mx : Operand) (k : Value → Prop) : Prop := match v with
  | .slice a len cap => ∃ l h m : Nat, bnd s lo 0 l ∧ bnd s (some hi) len h ∧ bnd s (some mx) cap m ∧ l ≤ h ∧ h ≤ m ∧ m ≤ cap ∧
        k (.slice (if m = l then a else a.map (·.add (l * sz))) (h - l) (m - l))
  | _ => False
def partOf (cs : List Value) (off : Nat) (n : Option Nat) (k : Value → Prop) : Prop :=
  match n with
  | none => match cs[off]? with
    | some v => k v
    | none => False
  | some n => off + n ≤ cs.length ∧ k (.agg ((cs.drop off).take n).toArray)

def vcOp (P : PG) (o : VOp) (s : St) (k : SV → St → Prop) : Prop :=
  match o with
  | .mov x => k (s.ev x) s
  | .pick c a b => match s.ev c with
    | .val (.bool t) => (t = true → k (s.ev a) s) ∧ (t = false → k (s.ev b) s)
    | _ => False
  | .eqB neg x y => match s.ev x, s.ev y with
    | .val (.bool a), .val (.bool b) => k (.val (.bool (if neg then a != b else a == b))) s
    | _, _ => False
  | .eqS neg kinds x y => match s.ev x, s.ev y with
    | .val (.agg us), .val (.agg vs) => match eqCells kinds us.toList vs.toList with
      | some t => k (.val (.bool (if neg then !t else t))) s
      | none => False
    | _, _ => False
  | .bin op x y => match s.ev x, s.ev y with
    | .val u, .val v => vcBin op u v fun r => k (.val r) s
    | _, _ => False
  | .un op x => match s.ev x with
    | .val u => vcUn op u fun r => k (.val r) s
    | _ => False
  | .shift left x y => match s.ev x, s.ev y with
    | .val (.int i a), .val (.int _ b) => 0 ≤ b ∧ ∃ n : Nat, n = min b.toNat i.bits ∧ if left = true then ∃ r, W i (a * 2 ^ n) r ∧ k (.val (.int i r)) s else k (.val (.int i (a.fdiv (2 ^ n)))) s
    | _, _ => False
  | .nilchk x => match s.ev x with
    | .loc j o => k (.loc j o) s
    | .val (.pointer (some a)) => k (.val (.pointer (some a))) s
    | _ => False
  | .isnilP neg x => match s.ev x with
    | .loc _ _ => k (.val (.bool neg)) s
    | .val (.pointer a) => k (.val (.bool (if neg then !a.isNone else a.isNone))) s
    | _ => False
  | .mkbm f x => match s.ev x with
    | .val v => k (.val (.func (.func f) #[v] #[])) s
    | _ => False
  | .sliceA len x => leaf (s.ev x) s fun v s' => match v with
    | .pointer (some a) => k (.val (.slice (some a) len len)) s'
    | _ => False
  | .extr x i => match s.ev x with
    | .val (.tuple vs) => match vs[i]? with
      | some v => k (.val v) s
      | none => False
    | _ => False
  | .faddr x off => match s.ev x with
    | .loc j o => k (.loc j (o + off)) s
    | .val (.pointer (some a)) => k (.val (.pointer (some (a.add off)))) s
    | _ => False
  | .iaddr x i sz => match s.ev x, s.ev i with
    | .val (.slice a len _), .val (.int _ n) => 0 ≤ n ∧ n < len ∧ ∃ ad, a = some ad ∧ k (.val (.pointer (some (ad.add (n.toNat * sz))))) s
    | .sl j len, .val (.int _ n) => 0 ≤ n ∧ n < len ∧ k (.loc j (n.toNat * sz)) s
    | .sw j z e len, .val (.int _ n) => 0 ≤ n ∧ n < len ∧ z = sz ∧ 0 < sz ∧ (∃ T cs, s.blk[j]? = some (.row T sz cs) ∧ (e + len) * sz ≤ cs.length) ∧ k (.loc j ((e + n.toNat) * sz)) s
    | _, _ => False
  | .iaddrA x i len sz => match s.ev x, s.ev i with
    | .loc j o, .val (.int _ n) => 0 ≤ n ∧ n < len ∧ k (.loc j (o + n.toNat * sz)) s
    | .val (.pointer (some a)), .val (.int _ n) => 0 ≤ n ∧ n < len ∧ k (.val (.pointer (some (a.add (n.toNat * sz))))) s
    | _, _ => False
  | .load none x => match s.ev x with
    | .loc j o => match s.blk[j]? with
      | some (.box cs) => match cs[o]? with
        | some c => k c s
        | none => False
      | some (.row _ _ cs) => ∃ c, cs[o]? = some c ∧ k (.val c) s
      | _ => False
    | .val (.pointer (some a)) => ∃ v, allR s.blk s.R a v ∧ k (.val v) s
    | _ => False
  | .load (some n) x => match s.ev x with
    | .loc j o => cellsAt s j o n fun vs s' => k (.val (.agg vs.toArray)) s'
    | .val (.pointer (some a)) => ∃ vs : List Value, vs.length = n ∧ (∀ j v, vs[j]? = some v → allR s.blk s.R (a.add j) v) ∧ k (.val (.agg vs.toArray)) s
    | _ => False
  | .build zero parts => fillV s zero parts fun cs s' => k (.val (.agg cs.toArray)) s'
  | .len x => match s.ev x with
    | .val (.slice _ n _) => k (.val (.int .i64 n)) s
    | .sl _ n => k (.val (.int .i64 n)) s
    | .sw _ _ _ n => k (.val (.int .i64 n)) s
    | _ => False
  | .slen x => match s.ev x with
    | .val (.string b) => k (.val (.int .i64 b.size)) s
    | _ => False
  | .conv i x => match s.ev x with
    | .val (.int _ n) => ∃ r, W i n r ∧ k (.val (.int i r)) s
    | _ => False
  | .alloc zero => k (.loc s.blk.length 0) { s with blk := s.blk ++ [.box (zero.map .val)] }
  | .box x => k (.loc s.blk.length 0) { s with blk := s.blk ++ [.box (cellsOf (s.ev x))] }
  | .bslice T sz len zero parts => fillV s zero parts fun cs s' => k (.sl s'.blk.length len) { s' with blk := s'.blk ++ [.row T sz cs] }
  | .call m f args => if allVal (evs s args) = true then (VCall P.P f (valsOf (evs s args)) s.R fun R' v => k (.val v) { s with R := R' }) ∨ HandM m P.P f (evs s args) s k ∨ Lend P.P f (evs s args) s k ∨ LendA P.P f (evs s args) s k
      else (leaves s args fun vs s' => VCall P.P f vs s'.R fun R' v => k (.val v) { s' with R := R' }) ∨ Lend P.P f (evs s args) s k ∨ HandM m P.P f (evs s args) s k ∨ LendA P.P f (evs s args) s k
  | .callv m x args => match s.ev x with
    | .val (.func (.func f) first caps) => hasBody P.P f = true ∧ if allVal (evs s args) = true then VCall P.P f (first.toList ++ valsOf (evs s args) ++ caps.toList) s.R fun R' v => k (.val v) { s with R := R' }
        else Lend P.P f (first.toList.map .val ++ evs s args ++ caps.toList.map .val) s k
    | .fn f cs => hasBody P.P f = true ∧ (Lend P.P f (evs s args ++ cs.map capSV) s k ∨ HandM m P.P f (evs s args ++ cs.map capSV) s k)
    | _ => False
  | .mkfn f caps => match capsOf (evs s caps) with
    | some cs => k (.fn f cs) s
    | none => False
  | .minmax mx x y => match s.ev x, s.ev y with
    | .val (.int i a), .val (.int _ b) => k (.val (.int i (if mx = true then max a b else min a b))) s
    | _, _ => False
  | .store n x v => match s.ev x with
    | .loc j o => match s.blk[j]? with
      | some (.box cs) => (cellsOf (s.ev v)).length = n ∧ o + n ≤ cs.length ∧ (∀ c ∈ cellsOf (s.ev v), match c with | .val u => u.oneCell' = true | _ => True) ∧
          k (.val undef) { s with blk := s.blk.set j (.box (putAtS o cs (cellsOf (s.ev v)))) }
      | some (.row T sz cs) => leaf (s.ev v) s fun u s' => u.cells.size = n ∧ o + n ≤ cs.length ∧ (∀ c ∈ u.cells.toList, c.oneCell' = true) ∧
          s'.blk[j]? = some (.row T sz cs) ∧ k (.val undef) { s' with blk := s'.blk.set j (.row T sz (putAt o cs u.cells.toList)) }
      | _ => False
    | .val (.pointer (some a)) => ∃ (j : Nat) (F : RO), s.blk[j]? = some (.own F) ∧ leaf (s.ev v) s fun u s' => u.cells.size = n ∧ 0 < n ∧ (∀ i, i < n → ∃ old, F (a.add i) old) ∧ (∀ c ∈ u.cells.toList, c.oneCell' = true) ∧
        s'.blk[j]? = some (.own F) ∧ k (.val undef) { s' with blk := s'.blk.set j (.own (putF F a u.cells.toList)) }
    | _ => False
  | .append T sz bytes x y => srcCells s T sz (s.ev y) fun m ys => match s.ev x with
    | .val (.slice none 0 0) => (m = 0 → k (.val (.slice none 0 0)) s) ∧
        (m ≠ 0 → m * bytes ≤ 140737488355328 ∧ k (.sl s.blk.length m) { s with blk := s.blk ++ [.row T sz ys] })
    | .val (.slice (some a) 0 0) => (m = 0 → k (.val (.slice (some a) 0 0)) s) ∧
        (m ≠ 0 → m * bytes ≤ 140737488355328 ∧ k (.sl s.blk.length m) { s with blk := s.blk ++ [.row T sz ys] })
    | .val (.slice (some a) n cap) => ∃ j cs, s.blk[j]? = some (.shr a.block cap T sz cs) ∧ a.off = 0 ∧ a.spot = none ∧ cs.length = n * sz ∧ (n + m) * bytes ≤ 140737488355328 ∧
        ∀ (b' cap' : Nat) (R' : RO), RO.le s.R R' → RowIn R' b' (cs ++ ys) → (cs ++ ys).length ≤ cap' * sz → (b' = a.block ∨ Fresh s.R b') → k (.val (.slice (some ⟨b', 0, none⟩) (n + m) cap')) { s with blk := s.blk.set j (.shr b' cap' T sz (cs ++ ys)), R := R' }
    | .sl j n => ∃ cs0 cs, s.blk[j]? = some (.row T sz cs) ∧ cs0 <+: cs ∧ cs0.length = n * sz ∧ (n + m) * bytes ≤ 140737488355328 ∧
        k (.sl s.blk.length (n + m)) { s with blk := s.blk.set j .dead ++ [.row T sz (cs0 ++ ys)] }
    | _ => False
  | .mkslice T sz bytes zero l c => match s.ev l, s.ev c with
    | .val (.int _ n), .val (.int _ m) => 0 ≤ n ∧ n ≤ m ∧ m * bytes ≤ 140737488355328 ∧
        k (.sl s.blk.length n.toNat) { s with blk := s.blk ++ [.row T sz (repCells zero n.toNat)] }
    | _, _ => False
  | .slice sz x lo hi => match s.ev x with
    | .val (.slice a len cap) => ∃ l h : Nat, bnd s lo 0 l ∧ bnd s hi len h ∧ l ≤ h ∧ h ≤ cap ∧
        k (.val (.slice (if cap = l then a else a.map (·.add (l * sz))) (h - l) (cap - l))) s
    | .sl j len => ∃ l h : Nat, bnd s lo 0 l ∧ bnd s hi len h ∧ l ≤ h ∧ 0 < sz ∧ (∃ T cs, s.blk[j]? = some (.row T sz cs) ∧ h * sz ≤ cs.length) ∧ k (if l = 0 then .sl j h else .sw j sz l (h - l)) s
    | _ => False
  | .isnil neg x => match s.ev x with
    | .val (.slice a _ _) => k (.val (.bool (if neg then !a.isNone else a.isNone))) s
    | .sl _ _ => k (.val (.bool neg)) s
    | .sw _ _ _ _ => k (.val (.bool neg)) s
    | _ => False
  | .mmake => k (.mp s.blk.length) { s with blk := s.blk ++ [.mp [] 0] }
  | .mget ks zero ok x y => match s.ev x, s.ev y with
    | .mp j, .val kv => mEq ks kv kv = some true ∧ ∃ es clock r, s.blk[j]? = some (.mp es clock) ∧ mfind ks kv es 0 = some r ∧ k (.val (mres zero ok r)) s
    | _, _ => False
  | .mput ks x y v => match s.ev x, s.ev y with
    | .mp j, .val kv => mEq ks kv kv = some true ∧ leaf (s.ev v) s fun u s' => ∃ es clock r, s'.blk[j]? = some (.mp es clock) ∧ mfind ks kv es 0 = some r ∧ k (.val undef) { s' with blk := s'.blk.set j (mset kv u es clock r) }
    | _, _ => False
  | .mdel ks x y => match s.ev x, s.ev y with
    | .mp j, .val kv => mEq ks kv kv = some true ∧ ∃ es clock r, s.blk[j]? = some (.mp es clock) ∧ mfind ks kv es 0 = some r ∧ k (.val (.tuple #[])) { s with blk := s.blk.set j (mdrop es clock r) }
    | _, _ => False
  | .mrange x => match s.ev x with
    | .mp m => ∃ es clock, s.blk[m]? = some (.mp es clock) ∧ k (.loc s.blk.length 0) { s with blk := s.blk ++ [.it m clock [] clock] }
    | _ => False
  | .mnext x => match s.ev x with
    | .loc j 0 => ∃ m since seen last es clock, s.blk[j]? = some (.it m since seen last) ∧ s.blk[m]? = some (.mp es clock) ∧ (∀ e ∈ es, e.born < since) ∧ since ≤ last ∧
        ((∀ e ∈ es, seen.contains e.born = true) → k (.val (.tuple #[.bool false])) s) ∧
        ∀ e ∈ es, seen.contains e.born = false → k (.val (.tuple #[.bool true, e.key, e.val])) { s with blk := s.blk.set j (.it m since (seen ++ [e.born]) clock) }
    | _ => False
  | .mentry x => match s.ev x with
    | .loc j 0 => ∃ m since seen es clock e, s.blk[j]? = some (.it m since (seen ++ [MapEntry.born e]) clock) ∧ s.blk[m]? = some (.mp es clock) ∧ e ∈ es ∧ (es.map (·.born)).Nodup ∧ k (.val (.tuple #[e.key, e.val])) s
    | _ => False
  | .minmax3 mx x y z => match s.ev x, s.ev y, s.ev z with
    | .val (.int i a), .val (.int _ b), .val (.int _ c) => k (.val (.int i (if mx = true then max (max a b) c else min (min a b) c))) s
    | _, _, _ => False
  | .slice3 sz x lo hi mx => match s.ev x with
    | .val (.slice a len cap) => ∃ l h m : Nat, bnd s lo 0 l ∧ bnd s (some hi) len h ∧ bnd s (some mx) cap m ∧ l ≤ h ∧ h ≤ m ∧ m ≤ cap ∧
        k (.val (.slice (if m = l then a else a.map (·.add (l * sz))) (h - l) (m - l))) s
    | .sl j n => leaf (.sl j n) s fun v s' => slc3 s sz v lo hi mx fun u => k (.val u) s'
    | _ => False
  | .field off n x => match s.ev x with
    | .val (.agg cs) => partOf cs.toList off n fun v => k (.val v) s
    | _ => False
  | .index len sz n x i => match s.ev x, s.ev i with
    | .val (.agg cs), .val (.int _ j) => 0 ≤ j ∧ j < len ∧ partOf cs.toList (j.toNat * sz) n fun v => k (.val v) s
    | _, _ => False

def vcSteps (P : PG) : List VStep → St → (St → Prop) → Prop
  | [], s, K => K s
  | ⟨d, none, o⟩ :: r, s, K => vcOp P o s fun v s' => vcSteps P r (s'.put d v) K
  | ⟨d, some (t, b), o⟩ :: r, s, K => match s.env t with
    | .val (.bool c) => (c = b → vcOp P o (s.put (some t) (.val (.bool b))) fun v s' => vcSteps P r (s'.put d v) K) ∧
        (c = !b → vcSteps P r ((s.put (some t) (.val (.bool !b))).put d (.val undef)) K)
    | _ => vcSteps P r (s.put d (.val undef)) K

/-- Steps in one of several orders: each has to do. 'pre n x': what a store will ask of x. -/
inductive VT where
  | nil
  | step (x : VStep) (r : VT)
  | pre (n : Nat) (x : Operand) (r : VT)
  | alt (x : VStep) (l r : VT)
def vcVT (P : PG) : VT → St → (St → Prop) → Prop
  | .nil, s, K => K s
  | .step x r, s, K => vcSteps P [x] s fun s' => vcVT P r s' K
  | .pre n x r, s, K => (cellsOf (s.ev x)).length = n ∧ (∀ c ∈ cellsOf (s.ev x), match c with | .val u => u.oneCell' = true | _ => True) ∧ vcVT P r s K
  | .alt x l r, s, K => vcSteps P [x] s (fun s' => vcVT P l s' K) ∧ vcVT P r s K
inductive VCode where
  | skip
  | ops (l : List VStep)
  | tree (t : VT)
  | seq (a b : VCode)
  | cond (c : Operand) (thn els : VCode)
  | block (id : Nat) (body : VCode)
  | loop (body : VCode)
  | exit (id : Nat)
  | ret
  | bad

/-- What a loop's rounds start from: some slots, the blocks, the facts; ρ tells where a block has lain before. -/
def Matches (ρ : List Nat) (vals : List (Nat × SV)) (blks : List Blk) (s : St) : Prop :=
  (∀ p ∈ vals, s.env p.1 = ren ρ p.2) ∧ blkM ρ s.blk 0 blks
def keysOK : List (Nat × SV) → Bool
  | [] => true
  | p :: r => (r.all fun q => q.1 != p.1) && keysOK r
def inScope (ng : Nat) (ρ : List Nat) (vals : List (Nat × SV)) (blks : List Blk) : Bool :=
  keysOK vals && (vals.all fun p => p.2.ok blks.length) && (blks.all (scB blks.length)) && rnInj ρ blks.length && decide (ng ≤ blks.length) && ((List.range ng).all fun i => rn ρ i == i)
def vcCode (P : PG) : VCode → St → (St → Prop) → (Nat → St → Prop) → (St → Prop) → Prop
  | .skip, s, kn, _, _ => kn s
  | .ops l, s, kn, _, _ => vcSteps P l s kn
  | .tree t, s, kn, _, _ => vcVT P t s kn
  | .seq a b, s, kn, ke, kr => vcCode P a s (fun s' => vcCode P b s' kn ke kr) ke kr
  | .cond c a b, s, kn, ke, kr => match s.ev c with
    | .val (.bool t) => (t = true → vcCode P a s kn ke kr) ∧ (t = false → vcCode P b s kn ke kr)
    | _ => False
  | .block id b, s, kn, ke, kr => vcCode P b s kn (fun i s' => (i = id → kn s') ∧ (i ≠ id → ke i s')) kr
  | .exit id, s, _, ke, _ => ke id s
  | .ret, s, _, _, kr => kr s
  | .bad, _, _, _, _ => False
  | .loop b, s, _, ke, kr => ∃ (X : Type) (vals : X → List (Nat × SV)) (blks : X → List Blk) (Φ : X → RO → Prop) (μ : X → Nat),
      (∃ x ρ, Matches ρ (vals x) (blks x) s ∧ inScope P.ng ρ (vals x) (blks x) = true ∧ Φ x s.R) ∧
      ∀ x env' R', RO.le s.R R' → (∀ p ∈ vals x, env' p.1 = p.2) → Φ x R' → vcCode P b ⟨env', blks x, R'⟩
        (fun s' => ∃ x' ρ, μ x' < μ x ∧ Matches ρ (vals x') (blks x') s' ∧ inScope P.ng ρ (vals x') (blks x') = true ∧ Φ x' s'.R) ke kr
end Go.Proofs.YtcjdbfnnbejmeaaGreat.Vc
