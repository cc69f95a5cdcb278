/- Plain lemmas of our own, no statement of the seat: the rewriting set of the calculus; how values read. -/
import Derived.Test.YtcjdbfnnbejmeaaGreatVcH
namespace Go.Proofs.YtcjdbfnnbejmeaaGreat.Vc
set_option linter.unusedSimpArgs false
set_option linter.unusedVariables false
open Go.RowKit

/-- A mark that keeps what it marks from being looked at. -/
inductive Tok.{u} {α : Sort u} (a : α) : Type where
  | mk

section
variable (P : PG)
def CodeT (c : VCode) (s : St) (kn : St → Prop) (ke : Nat → St → Prop) (kr : St → Prop) (_ : Tok kn) (_ : Tok ke) (_ : Tok kr) : Prop := vcCode P c s kn ke kr
def TreeT (t : VT) (s : St) (K : St → Prop) (_ : Tok K) : Prop := vcVT P t s K
def StepsT (l : List VStep) (s : St) (K : St → Prop) (_ : Tok K) : Prop := vcSteps P l s K
def OpT (o : VOp) (s : St) (k : SV → St → Prop) (_ : Tok k) : Prop := vcOp P o s k
def VLoop (b : VCode) (s : St) (kn : St → Prop) (ke : Nat → St → Prop) (kr : St → Prop) (_ : Tok kn) (_ : Tok ke) (_ : Tok kr) (_ : Tok b) : Prop := vcCode P (.loop b) s kn ke kr
end
/-- A call, by a contract over facts; H is what else would do. -/
def VCallT (P : Program) (f : FuncId) (args : List Value) (R : RO) (k : RO → Value → Prop) (_ : Tok k) (H : Prop) (_ : Tok H) : Prop := VCall P f args R k ∨ H
/-- A call whose arguments hold memory of the caller's own: it is made facts for good ('vfreeze'), lent ('vlend'), or handed over ('vhand'). -/
def CallT (P : PG) (b : Bool) (xs : List SV) (m : Bool) (f : FuncId) (args : List Operand) (s : St) (k : SV → St → Prop) (_ : Tok k) : Prop :=
  if b = true then (VCall P.P f (valsOf xs) s.R fun R' v => k (.val v) { s with R := R' }) ∨ HandM m P.P f xs s k ∨ Lend P.P f xs s k ∨ LendA P.P f xs s k
      else (leaves s args fun vs s' => VCall P.P f vs s'.R fun R' v => k (.val v) { s' with R := R' }) ∨ Lend P.P f xs s k ∨ HandM m P.P f xs s k ∨ LendA P.P f xs s k
def CallFT (m : Bool) (P : Program) (f : FuncId) (xs : List SV) (s : St) (k : SV → St → Prop) (_ : Tok k) : Prop := Lend P f xs s k ∨ HandM m P f xs s k
def CallvT (m : Bool) (P : PG) (x : SV) (xs : List SV) (s : St) (k : SV → St → Prop) (_ : Tok k) : Prop := match x with
    | .val (.func (.func f) first caps) => hasBody P.P f = true ∧ if allVal xs = true then VCall P.P f (first.toList ++ valsOf xs ++ caps.toList) s.R fun R' v => k (.val v) { s with R := R' }
        else Lend P.P f (first.toList.map .val ++ xs ++ caps.toList.map .val) s k
    | .fn f cs => hasBody P.P f = true ∧ (Lend P.P f (xs ++ cs.map capSV) s k ∨ HandM m P.P f (xs ++ cs.map capSV) s k)
    | _ => False
def CallvV (P : Program) (b : Bool) (f : FuncId) (first : List Value) (xs : List SV) (caps : List Value) (s : St) (k : SV → St → Prop) (_ : Tok k) : Prop :=
  if b = true then VCall P f (first ++ valsOf xs ++ caps) s.R fun R' v => k (.val v) { s with R := R' } else Lend P f (first.map .val ++ xs ++ caps.map .val) s k
def MkfnT (cs : Option (List Cap)) (f : FuncId) (k : SV → Prop) (_ : Tok k) : Prop := match cs with
  | some cs => k (.fn f cs)
  | none => False
def MinmaxT (mx : Bool) (x y : SV) (k : Value → Prop) (_ : Tok k) : Prop := match x, y with
  | .val (.int i a), .val (.int _ b) => k (.int i (if mx = true then max a b else min a b))
  | _, _ => False
def Minmax3T (mx : Bool) (x y z : SV) (k : Value → Prop) (_ : Tok k) : Prop := match x, y, z with
  | .val (.int i a), .val (.int _ b), .val (.int _ c) => k (.int i (if mx = true then max (max a b) c else min (min a b) c))
  | _, _, _ => False
def IsnilPT (neg : Bool) (x : SV) (k : Value → Prop) (_ : Tok k) : Prop := match x with
  | .loc _ _ => k (.bool neg)
  | .val (.pointer a) => k (.bool (if neg then !a.isNone else a.isNone))
  | _ => False
def MkbmT (f : FuncId) (x : SV) (k : Value → Prop) (_ : Tok k) : Prop := match x with
  | .val v => k (.func (.func f) #[v] #[])
  | _ => False
def SliceAT (len : Nat) (v : Value) (k : Value → Prop) (_ : Tok k) : Prop := match v with
  | .pointer (some a) => k (.slice (some a) len len)
  | _ => False
def IsnilT (neg : Bool) (x : SV) (k : Value → Prop) (_ : Tok k) : Prop := match x with
  | .val (.slice a _ _) => k (.bool (if neg then !a.isNone else a.isNone))
  | .sl _ _ => k (.bool neg)
  | .sw _ _ _ _ => k (.bool neg)
  | _ => False
def MgetB (b : List Blk) (j : Nat) (ks : Option (List Nat)) (z : Value) (ok : Bool) (a : Value) (k : Value → Prop) (_ : Tok k) : Prop :=
  mEq ks a a = some true ∧ ∃ es clock r, b[j]? = some (.mp es clock) ∧ mfind ks a es 0 = some r ∧ k (mres z ok r)
def MgetT (ks : Option (List Nat)) (z : Value) (ok : Bool) (x y : SV) (s : St) (k : Value → Prop) (_ : Tok k) : Prop := match x, y with
  | .mp j, .val a => MgetB s.blk j ks z ok a k .mk
  | _, _ => False
def MputB (e : Nat → SV) (b : List Blk) (R : RO) (j : Nat) (ks : Option (List Nat)) (a u : Value) (k : SV → St → Prop) (_ : Tok k) : Prop :=
  ∃ es clock r, b[j]? = some (.mp es clock) ∧ mfind ks a es 0 = some r ∧ k (.val undef) ⟨e, b.set j (mset a u es clock r), R⟩
def MputT (ks : Option (List Nat)) (x y v : SV) (s : St) (k : SV → St → Prop) (_ : Tok k) : Prop := match x, y with
  | .mp j, .val a => mEq ks a a = some true ∧ leaf v s fun u s' => MputB s'.env s'.blk s'.R j ks a u k .mk
  | _, _ => False
def MdelB (e : Nat → SV) (b : List Blk) (R : RO) (j : Nat) (ks : Option (List Nat)) (a : Value) (k : SV → St → Prop) (_ : Tok k) : Prop :=
  ∃ es clock r, b[j]? = some (.mp es clock) ∧ mfind ks a es 0 = some r ∧ k (.val (.tuple #[])) ⟨e, b.set j (mdrop es clock r), R⟩
def MdelT (ks : Option (List Nat)) (x y : SV) (s : St) (k : SV → St → Prop) (_ : Tok k) : Prop := match x, y with
  | .mp j, .val a => mEq ks a a = some true ∧ MdelB s.env s.blk s.R j ks a k .mk
  | _, _ => False
def MrangeB (ob : Option Blk) (m : Nat) (s : St) (k : SV → St → Prop) (_ : Tok k) : Prop := match ob with
  | some (.mp _ clock) => k (.loc s.blk.length 0) ⟨s.env, s.blk ++ [.it m clock [] clock], s.R⟩
  | _ => False
def MrangeT (x : SV) (s : St) (k : SV → St → Prop) (_ : Tok k) : Prop := match x with
  | .mp m => MrangeB s.blk[m]? m s k .mk
  | _ => False
def MnextM (om : Option Blk) (j m since : Nat) (seen : List Nat) (last : Nat) (s : St) (k : SV → St → Prop) (_ : Tok k) : Prop := match om with
  | some (.mp es clock) => (∀ e ∈ es, e.born < since) ∧ since ≤ last ∧ ((∀ e ∈ es, seen.contains e.born = true) → k (.val (.tuple #[.bool false])) s) ∧
      ∀ e ∈ es, seen.contains e.born = false → k (.val (.tuple #[.bool true, e.key, e.val])) ⟨s.env, s.blk.set j (.it m since (seen ++ [e.born]) clock), s.R⟩
  | _ => False
def MnextI (ob : Option Blk) (j : Nat) (s : St) (k : SV → St → Prop) (_ : Tok k) : Prop := match ob with
  | some (.it m since seen last) => MnextM s.blk[m]? j m since seen last s k .mk
  | _ => False
def MnextT (x : SV) (s : St) (k : SV → St → Prop) (_ : Tok k) : Prop := match x with
  | .loc j 0 => MnextI s.blk[j]? j s k .mk
  | _ => False
def MentryM (om : Option Blk) (seen : List Nat) (last : Nat) (s : St) (k : SV → St → Prop) (_ : Tok k) : Prop := match om with
  | some (.mp es clock) => ∃ seen' e, seen = seen' ++ [MapEntry.born e] ∧ last = clock ∧ e ∈ es ∧ (es.map (·.born)).Nodup ∧ k (.val (.tuple #[e.key, e.val])) s
  | _ => False
def MentryI (ob : Option Blk) (s : St) (k : SV → St → Prop) (_ : Tok k) : Prop := match ob with
  | some (.it m _ seen last) => MentryM s.blk[m]? seen last s k .mk
  | _ => False
def MentryT (x : SV) (s : St) (k : SV → St → Prop) (_ : Tok k) : Prop := match x with
  | .loc j 0 => MentryI s.blk[j]? s k .mk
  | _ => False
def Slice3V (sz : Nat) (v : Value) (lo : Option Operand) (hi mx : Operand) (s s' : St) (k : SV → St → Prop) (_ : Tok k) : Prop := slc3 s sz v lo hi mx fun u => k (.val u) s'
def Slice3T (sz : Nat) (x : SV) (lo : Option Operand) (hi mx : Operand) (s : St) (k : SV → St → Prop) (_ : Tok k) : Prop := match x with
  | .val (.slice a len cap) => ∃ l h m : Nat, bnd s lo 0 l ∧ bnd s (some hi) len h ∧ bnd s (some mx) cap m ∧ l ≤ h ∧ h ≤ m ∧ m ≤ cap ∧
        k (.val (.slice (if m = l then a else a.map (·.add (l * sz))) (h - l) (m - l))) s
  | .sl j n => leaf (.sl j n) s fun v s' => slc3 s sz v lo hi mx fun u => k (.val u) s'
  | _ => False
def IfT (x : SV) (A B : Prop) (_ : Tok A) (_ : Tok B) : Prop := match x with
  | .val (.bool t) => (t = true → A) ∧ (t = false → B)
  | _ => False
def GrdT (x : SV) (b : Bool) (A B C : Prop) (_ : Tok A) (_ : Tok B) (_ : Tok C) : Prop := match x with
  | .val (.bool c) => (c = b → A) ∧ (c = !b → B)
  | _ => C
def BinT (op : BinOp) (x y : SV) (k : Value → Prop) (_ : Tok k) : Prop := match x, y with
  | .val u, .val v => vcBin op u v k
  | _, _ => False
def UnT (op : UnOp) (x : SV) (k : Value → Prop) (_ : Tok k) : Prop := match x with
  | .val u => vcUn op u k
  | _ => False
def ShiftT (left : Bool) (x y : SV) (k : Value → Prop) (_ : Tok k) : Prop := match x, y with
  | .val (.int i a), .val (.int _ b) => 0 ≤ b ∧ ∃ n : Nat, n = min b.toNat i.bits ∧ if left = true then ∃ r, W i (a * 2 ^ n) r ∧ k (.int i r) else k (.int i (a.fdiv (2 ^ n)))
  | _, _ => False
def EqBT (neg : Bool) (x y : SV) (k : Value → Prop) (_ : Tok k) : Prop := match x, y with
  | .val (.bool a), .val (.bool b) => k (.bool (if neg then a != b else a == b))
  | _, _ => False
def EqST (neg : Bool) (kinds : List Nat) (x y : SV) (k : Value → Prop) (_ : Tok k) : Prop := match x, y with
  | .val (.agg us), .val (.agg vs) => match eqCells kinds us.toList vs.toList with
    | some t => k (.bool (if neg then !t else t))
    | none => False
  | _, _ => False
def EqOT (neg : Bool) (o : Option Bool) (k : Value → Prop) (_ : Tok k) : Prop := match o with
  | some t => k (.bool (if neg then !t else t))
  | none => False
def NilT (x : SV) (k : SV → Prop) (_ : Tok k) : Prop := match x with
  | .loc j o => k (.loc j o)
  | .val (.pointer (some a)) => k (.val (.pointer (some a)))
  | _ => False
def ExtrT (x : SV) (i : Nat) (k : Value → Prop) (_ : Tok k) : Prop := match x with
  | .val (.tuple vs) => match vs[i]? with
    | some v => k v
    | none => False
  | _ => False
def OptT (o : Option Value) (k : Value → Prop) (_ : Tok k) : Prop := match o with
  | some v => k v
  | none => False
def FaddrT (x : SV) (off : Nat) (k : SV → Prop) (_ : Tok k) : Prop := match x with
  | .loc j o => k (.loc j (o + off))
  | .val (.pointer (some a)) => k (.val (.pointer (some (a.add off))))
  | _ => False
def IaddrT (s : St) (x i : SV) (sz : Nat) (k : SV → Prop) (_ : Tok k) : Prop := match x, i with
  | .val (.slice a len _), .val (.int _ n) => 0 ≤ n ∧ n < len ∧ ∃ ad, a = some ad ∧ k (.val (.pointer (some (ad.add (n.toNat * sz)))))
  | .sl j len, .val (.int _ n) => 0 ≤ n ∧ n < len ∧ k (.loc j (n.toNat * sz))
  | .sw j z e len, .val (.int _ n) => 0 ≤ n ∧ n < len ∧ z = sz ∧ 0 < sz ∧ (∃ T cs, s.blk[j]? = some (.row T sz cs) ∧ (e + len) * sz ≤ cs.length) ∧ k (.loc j ((e + n.toNat) * sz))
  | _, _ => False
def IaddrAT (x i : SV) (len sz : Nat) (k : SV → Prop) (_ : Tok k) : Prop := match x, i with
  | .loc j o, .val (.int _ n) => 0 ≤ n ∧ n < len ∧ k (.loc j (o + n.toNat * sz))
  | .val (.pointer (some a)), .val (.int _ n) => 0 ≤ n ∧ n < len ∧ k (.val (.pointer (some (a.add (n.toNat * sz)))))
  | _, _ => False
def Load1T (b : Option Blk) (o : Nat) (k : SV → Prop) (_ : Tok k) : Prop := match b with
  | some (.box cs) => match cs[o]? with
    | some c => k c
    | none => False
  | some (.row _ _ cs) => ∃ c, cs[o]? = some c ∧ k (.val c)
  | _ => False
def OptST (o : Option SV) (k : SV → Prop) (_ : Tok k) : Prop := match o with
  | some v => k v
  | none => False
def LoadT (n : Option Nat) (x : SV) (s : St) (k : SV → St → Prop) (_ : Tok k) : Prop := match n with
  | none => match x with
    | .loc j o => match s.blk[j]? with
      | some (.box cs) => match cs[o]? with
        | some c => k c s
        | none => False
      | some (.row _ _ cs) => ∃ c, cs[o]? = some c ∧ k (.val c) s
      | _ => False
    | .val (.pointer (some a)) => ∃ v, allR s.blk s.R a v ∧ k (.val v) s
    | _ => False
  | some n => match x with
    | .loc j o => cellsAt s j o n fun vs s' => k (.val (.agg vs.toArray)) s'
    | .val (.pointer (some a)) => ∃ vs : List Value, vs.length = n ∧ (∀ j v, vs[j]? = some v → allR s.blk s.R (a.add j) v) ∧ k (.val (.agg vs.toArray)) s
    | _ => False
def CellsT (s : St) (j off n : Nat) (k : List Value → St → Prop) (_ : Tok k) : Prop := cellsAt s j off n k
def CellT (b : Option Blk) (s : St) (j off n : Nat) (k : List Value → St → Prop) (_ : Tok k) : Prop := match b with
  | some (.box cs) => match cs[off]? with
    | some c => leaf1 c s fun v s' => cellsAt s' j (off + 1) n fun vs s'' => k (v :: vs) s''
    | none => False
  | some (.row _ _ cs) => ∃ v, cs[off]? = some v ∧ cellsAt s j (off + 1) n fun vs s'' => k (v :: vs) s''
  | _ => False
def LeafT (x : SV) (s : St) (k : Value → St → Prop) (_ : Tok k) : Prop := leaf x s k
def Leaf1T (x : SV) (s : St) (k : Value → St → Prop) (_ : Tok k) : Prop := leaf1 x s k
def FrzLT (b0 : Option Blk) (j off : Nat) (vs : List Value) (s : St) (k : Value → St → Prop) (_ : Tok k) : Prop := match b0 with
  | some (.box _) => ∀ (b : Nat) (R' : RO), RO.le s.R R' → RowIn R' b vs → Fresh s.R b → k (.pointer (some ⟨b, off, none⟩)) (frzB s j b R')
  | _ => False
def LeafLT (b0 : Option Blk) (j off : Nat) (s : St) (k : Value → St → Prop) (_ : Tok k) : Prop := match b0 with
  | some (.box cs) => cellsAt s j 0 cs.length fun vs s' => FrzLT s'.blk[j]? j off vs s' k .mk
  | _ => False
def LeafBT (b : Option Blk) (j n : Nat) (s : St) (k : Value → St → Prop) (_ : Tok k) : Prop := match b with
  | some (.row T sz cs) => ∀ (b cap : Nat) (R' : RO), RO.le s.R R' → RowIn R' b cs → cs.length ≤ cap * sz → Fresh s.R b → k (.slice (some ⟨b, 0, none⟩) n cap) (frz s j b cap R' T sz cs)
  | _ => False
def LeafWT (b : Option Blk) (j z e n : Nat) (s : St) (k : Value → St → Prop) (_ : Tok k) : Prop := match b with
  | some (.row T sz cs) => ∀ (b cap : Nat) (R' : RO), RO.le s.R R' → RowIn R' b cs → cs.length ≤ cap * sz → Fresh s.R b → k (.slice (some ⟨b, if cap = e then 0 else e * z, none⟩) n (cap - e)) (frz s j b cap R' T sz cs)
  | _ => False
def LeafFT (vs : Option (List Value)) (f : FuncId) (s : St) (k : Value → St → Prop) (_ : Tok k) : Prop := match vs with
  | some vs => k (.func (.func f) #[] vs.toArray) s
  | none => False
def LeavesT (s : St) (xs : List Operand) (k : List Value → St → Prop) (_ : Tok k) : Prop := leaves s xs k
def FillT (s : St) (cs : List Value) (ps : List (Nat × Nat × Operand)) (k : List Value → St → Prop) (_ : Tok k) : Prop := fillV s cs ps k
def LenT (x : SV) (k : Value → Prop) (_ : Tok k) : Prop := match x with
  | .val (.slice _ n _) => k (.int .i64 n)
  | .sl _ n => k (.int .i64 n)
  | .sw _ _ _ n => k (.int .i64 n)
  | _ => False
def SlenT (x : SV) (k : Value → Prop) (_ : Tok k) : Prop := match x with
  | .val (.string b) => k (.int .i64 b.size)
  | _ => False
def ConvT (i : IntKind) (x : SV) (k : Value → Prop) (_ : Tok k) : Prop := match x with
  | .val (.int _ n) => ∃ r, W i n r ∧ k (.int i r)
  | _ => False
def StoreOT (n : Nat) (a : Addr) (v : SV) (s : St) (k : SV → St → Prop) (_ : Tok k) : Prop :=
  ∃ (j : Nat) (F : RO), s.blk[j]? = some (.own F) ∧ leaf v s fun u s' => u.cells.size = n ∧ 0 < n ∧ (∀ i, i < n → ∃ old, F (a.add i) old) ∧ (∀ c ∈ u.cells.toList, c.oneCell' = true) ∧
        s'.blk[j]? = some (.own F) ∧ k (.val undef) { s' with blk := s'.blk.set j (.own (putF F a u.cells.toList)) }
def StoreT (n : Nat) (x v : SV) (s : St) (k : SV → St → Prop) (_ : Tok k) : Prop := match x with
  | .loc j o => match s.blk[j]? with
    | some (.box cs) => (cellsOf v).length = n ∧ o + n ≤ cs.length ∧ (∀ c ∈ cellsOf v, match c with | .val u => u.oneCell' = true | _ => True) ∧
        k (.val undef) { s with blk := s.blk.set j (.box (putAtS o cs (cellsOf v))) }
    | some (.row T sz cs) => leaf v s fun u s' => u.cells.size = n ∧ o + n ≤ cs.length ∧ (∀ c ∈ u.cells.toList, c.oneCell' = true) ∧
        s'.blk[j]? = some (.row T sz cs) ∧ k (.val undef) { s' with blk := s'.blk.set j (.row T sz (putAt o cs u.cells.toList)) }
    | _ => False
  | .val (.pointer (some a)) => StoreOT n a v s k .mk
  | _ => False
def StoreBT (b : Option Blk) (n j o : Nat) (v : SV) (s : St) (k : SV → St → Prop) (_ : Tok k) : Prop := match b with
  | some (.box cs) => (cellsOf v).length = n ∧ o + n ≤ cs.length ∧ (∀ c ∈ cellsOf v, match c with | .val u => u.oneCell' = true | _ => True) ∧
      k (.val undef) { s with blk := s.blk.set j (.box (putAtS o cs (cellsOf v))) }
  | some (.row T sz cs) => leaf v s fun u s' => u.cells.size = n ∧ o + n ≤ cs.length ∧ (∀ c ∈ u.cells.toList, c.oneCell' = true) ∧
      s'.blk[j]? = some (.row T sz cs) ∧ k (.val undef) { s' with blk := s'.blk.set j (.row T sz (putAt o cs u.cells.toList)) }
  | _ => False
def one' : SV → Bool
  | .val u => u.oneCell'
  | _ => true
def SrcT (s : St) (T sz : Nat) (x : SV) (k : Nat → List Value → Prop) (_ : Tok k) : Prop := srcCells s T sz x k
def AppT (T sz bytes : Nat) (x : SV) (m : Nat) (ys : List Value) (s : St) (k : SV → St → Prop) (_ : Tok k) : Prop := match x with
  | .val (.slice none 0 0) => (m = 0 → k (.val (.slice none 0 0)) s) ∧
      (m ≠ 0 → m * bytes ≤ 140737488355328 ∧ k (.sl s.blk.length m) { s with blk := s.blk ++ [.row T sz ys] })
  | .val (.slice (some a) 0 0) => (m = 0 → k (.val (.slice (some a) 0 0)) s) ∧
      (m ≠ 0 → m * bytes ≤ 140737488355328 ∧ k (.sl s.blk.length m) { s with blk := s.blk ++ [.row T sz ys] })
  | .val (.slice (some a) n cap) => ∃ j cs, s.blk[j]? = some (.shr a.block cap T sz cs) ∧ a.off = 0 ∧ a.spot = none ∧ cs.length = n * sz ∧ (n + m) * bytes ≤ 140737488355328 ∧
      ∀ (b' cap' : Nat) (R' : RO), RO.le s.R R' → RowIn R' b' (cs ++ ys) → (cs ++ ys).length ≤ cap' * sz → (b' = a.block ∨ Fresh s.R b') → k (.val (.slice (some ⟨b', 0, none⟩) (n + m) cap')) { s with blk := s.blk.set j (.shr b' cap' T sz (cs ++ ys)), R := R' }
  | .sl j n => ∃ cs0 cs, s.blk[j]? = some (.row T sz cs) ∧ cs0 <+: cs ∧ cs0.length = n * sz ∧ (n + m) * bytes ≤ 140737488355328 ∧
      k (.sl s.blk.length (n + m)) { s with blk := s.blk.set j .dead ++ [.row T sz (cs0 ++ ys)] }
  | _ => False
def MkT (T sz bytes : Nat) (zero : List Value) (l c : SV) (s : St) (k : SV → St → Prop) (_ : Tok k) : Prop := match l, c with
  | .val (.int _ n), .val (.int _ m) => 0 ≤ n ∧ n ≤ m ∧ m * bytes ≤ 140737488355328 ∧
      k (.sl s.blk.length n.toNat) { s with blk := s.blk ++ [.row T sz (repCells zero n.toNat)] }
  | _, _ => False
def SliceT (sz : Nat) (x : SV) (lo hi : Option Operand) (s : St) (k : SV → St → Prop) (_ : Tok k) : Prop := match x with
  | .val (.slice a len cap) => ∃ l h : Nat, bnd s lo 0 l ∧ bnd s hi len h ∧ l ≤ h ∧ h ≤ cap ∧
      k (.val (.slice (if cap = l then a else a.map (·.add (l * sz))) (h - l) (cap - l))) s
  | .sl j len => ∃ l h : Nat, bnd s lo 0 l ∧ bnd s hi len h ∧ l ≤ h ∧ 0 < sz ∧ (∃ T cs, s.blk[j]? = some (.row T sz cs) ∧ h * sz ≤ cs.length) ∧ k (if l = 0 then .sl j h else .sw j sz l (h - l)) s
  | _ => False
def FieldT (off : Nat) (n : Option Nat) (x : SV) (k : Value → Prop) (_ : Tok k) : Prop := match x with
  | .val (.agg cs) => partOf cs.toList off n k
  | _ => False
def IndexT (len sz : Nat) (n : Option Nat) (x i : SV) (k : Value → Prop) (_ : Tok k) : Prop := match x, i with
  | .val (.agg cs), .val (.int _ j) => 0 ≤ j ∧ j < len ∧ partOf cs.toList (j.toNat * sz) n k
  | _, _ => False
def LoadP (R : RO) (a : Addr) (ks : SV → Prop) (_ : Tok ks) : Prop := ∃ v, R a v ∧ ks (.val v)
def LoadPn (R : RO) (a : Addr) (n : Nat) (kv : Value → Prop) (_ : Tok kv) : Prop := ∃ vs : List Value, vs.length = n ∧ (∀ j v, vs[j]? = some v → R (a.add j) v) ∧ kv (.agg vs.toArray)
def AtT (a : Option Addr) (o : Nat) (ks : SV → Prop) (_ : Tok ks) : Prop := ∃ ad, a = some ad ∧ ks (.val (.pointer (some (ad.add o))))
def SrcP (R : RO) (sz : Nat) (a : Option Addr) (m : Nat) (kk : List Value → Prop) (_ : Tok kk) : Prop :=
  ∃ vs : List Value, vs.length = m * sz ∧ (∀ u ∈ vs, u.oneCell' = true) ∧ (vs ≠ [] → ∃ ad, a = some ad ∧ ∀ i v, vs[i]? = some v → R (ad.add i) v) ∧ kk vs
/-- An append to a row of the call's own, whose first cells are cs0. -/
def AppO (b : List Blk) (j T sz by' n m : Nat) (ys : List Value) (k : List Value → Prop) (_ : Tok k) : Prop :=
  ∃ cs0 cs, b[j]? = some (.row T sz cs) ∧ cs0 <+: cs ∧ cs0.length = n * sz ∧ (n + m) * by' ≤ 140737488355328 ∧ k (cs0 ++ ys)
def AppS (b : List Blk) (ad : Addr) (T sz by' n cap m : Nat) (ys : List Value) (R : RO) (k : Nat → Nat → Nat → RO → List Value → Prop) (_ : Tok k) : Prop :=
  ∃ j cs, b[j]? = some (.shr ad.block cap T sz cs) ∧ ad.off = 0 ∧ ad.spot = none ∧ cs.length = n * sz ∧ (n + m) * by' ≤ 140737488355328 ∧
      ∀ (b' cap' : Nat) (R' : RO), RO.le R R' → RowIn R' b' (cs ++ ys) → (cs ++ ys).length ≤ cap' * sz → (b' = ad.block ∨ Fresh R b') → k j b' cap' R' (cs ++ ys)
def RetT (rs : List RV) (s : St) (k : List Value → St → Prop) (_ : Tok k) : Prop := vcRes s rs k
def frzE (e : Nat → SV) (k b cap : Nat) : Nat → SV := fun t => unsl k b cap (e t)

theorem renC_nil (c : Cap) : renC [] c = c := by cases c <;> rfl
theorem ren_nil (x : SV) : ren [] x = x := by
  cases x with
  | fn f cs =>
    simp only [ren]
    congr 1
    conv => rhs; rw [← List.map_id cs]
    exact List.map_congr_left fun c _ => renC_nil c
  | _ => rfl
theorem renB_nil (b : Blk) : renB [] b = b := by
  cases b with
  | box cs =>
    simp only [renB]
    congr 1
    conv => rhs; rw [← List.map_id cs]
    exact List.map_congr_left fun c _ => ren_nil c
  | _ => rfl
theorem rn_nil (k : Nat) : rn [] k = k := rfl
section
variable (P : PG) {kn : St → Prop} {ke : Nat → St → Prop} {kr : St → Prop} {tn : Tok kn} {te : Tok ke} {tr : Tok kr} {s : St} {K : St → Prop} {tK : Tok K} {k : SV → St → Prop} {tk : Tok k} {kv : Value → Prop} {tv : Tok kv} {ks : SV → Prop} {ts : Tok ks}
  {kl : Value → St → Prop} {tl : Tok kl} {kls : List Value → St → Prop} {tls : Tok kls}
theorem tCode_skip : CodeT P .skip s kn ke kr tn te tr = kn s := Eq.trans rfl rfl
theorem tCode_ops (l) : CodeT P (.ops l) s kn ke kr tn te tr = StepsT P l s kn .mk := Eq.trans rfl rfl
theorem tCode_tree (t) : CodeT P (.tree t) s kn ke kr tn te tr = TreeT P t s kn .mk := Eq.trans rfl rfl
theorem tCode_seq (a b) : CodeT P (.seq a b) s kn ke kr tn te tr = CodeT P a s (fun s' => CodeT P b s' kn ke kr .mk .mk .mk) ke kr .mk .mk .mk := Eq.trans rfl rfl
theorem tCode_block (id b) : CodeT P (.block id b) s kn ke kr tn te tr = CodeT P b s kn (fun i s' => if i = id then kn s' else ke i s') kr .mk .mk .mk := by
  simp only [CodeT, vcCode]
  congr 1
  funext i s'
  by_cases h : i = id <;> simp [h]
theorem tCode_exit (id) : CodeT P (.exit id) s kn ke kr tn te tr = ke id s := Eq.trans rfl rfl
theorem tCode_ret : CodeT P .ret s kn ke kr tn te tr = kr s := Eq.trans rfl rfl
theorem tCode_bad : CodeT P .bad s kn ke kr tn te tr = False := Eq.trans rfl rfl
theorem tCode_loop (b) : CodeT P (.loop b) s kn ke kr tn te tr = VLoop P b s kn ke kr .mk .mk .mk .mk := Eq.trans rfl rfl
theorem tCode_cond (c a b) : CodeT P (.cond c a b) s kn ke kr tn te tr = IfT (s.ev c) (CodeT P a s kn ke kr .mk .mk .mk) (CodeT P b s kn ke kr .mk .mk .mk) .mk .mk := Eq.trans rfl rfl
theorem put_same (t : Nat) (v : SV) (h : s.env t = v) : s.put (some t) v = s := by
  have : upd s.env t v = s.env := by
    funext i
    simp only [upd]
    split
    · rename_i e; rw [e, h]
    · rfl
  simp only [St.put, this]
theorem tCode_condt (t a b) : CodeT P (.cond (.tmp t) a b) s kn ke kr tn te tr = IfT (s.ev (.tmp t)) (CodeT P a (s.put (some t) (.val (.bool true))) kn ke kr .mk .mk .mk) (CodeT P b (s.put (some t) (.val (.bool false))) kn ke kr .mk .mk .mk) .mk .mk := by
  rw [tCode_cond]
  simp only [IfT, St.ev]
  cases hs : s.env t with
  | val v =>
    cases v <;> try rfl
    rename_i c
    cases c
    · simp [put_same t _ hs]
    · simp [put_same t _ hs]
  | _ => rfl
theorem tCode_condv (v a b) : CodeT P (.cond (.const v) a b) s kn ke kr tn te tr = IfT (.val v) (CodeT P a s kn ke kr .mk .mk .mk) (CodeT P b s kn ke kr .mk .mk .mk) .mk .mk := Eq.trans rfl rfl
theorem tIf (t : Bool) (A B : Prop) (ta tb) : IfT (.val (.bool t)) A B ta tb = ((t = true → A) ∧ (t = false → B)) := Eq.trans rfl rfl
theorem tIf_true (A B : Prop) (ta tb) : IfT (.val (.bool true)) A B ta tb = A := by simp [IfT]
theorem tIf_false (A B : Prop) (ta tb) : IfT (.val (.bool false)) A B ta tb = B := by simp [IfT]
theorem tIf_dec (p : Prop) [Decidable p] (A B : Prop) (ta tb) : IfT (.val (.bool (decide p))) A B ta tb = ((p → A) ∧ (¬p → B)) := by simp [IfT]
theorem tGrd (c b : Bool) (A B C : Prop) (ta tb tc) : GrdT (.val (.bool c)) b A B C ta tb tc = ((c = b → A) ∧ (c = !b → B)) := Eq.trans rfl rfl
theorem tGrd_tt (A B C : Prop) (ta tb tc) : GrdT (.val (.bool true)) true A B C ta tb tc = A := by simp [GrdT]
theorem tGrd_tf (A B C : Prop) (ta tb tc) : GrdT (.val (.bool true)) false A B C ta tb tc = B := by simp [GrdT]
theorem tGrd_ft (A B C : Prop) (ta tb tc) : GrdT (.val (.bool false)) true A B C ta tb tc = B := by simp [GrdT]
theorem tGrd_ff (A B C : Prop) (ta tb tc) : GrdT (.val (.bool false)) false A B C ta tb tc = A := by simp [GrdT]
theorem tGrd_dt (p : Prop) [Decidable p] (A B C : Prop) (ta tb tc) : GrdT (.val (.bool (decide p))) true A B C ta tb tc = ((p → A) ∧ (¬p → B)) := by simp [GrdT]
theorem tGrd_df (p : Prop) [Decidable p] (A B C : Prop) (ta tb tc) : GrdT (.val (.bool (decide p))) false A B C ta tb tc = ((¬p → A) ∧ (p → B)) := by simp [GrdT]
theorem tGrd_undef (b : Bool) (A B C : Prop) (ta tb tc) : GrdT (.val undef) b A B C ta tb tc = C := Eq.trans rfl rfl
theorem tSteps_nil : StepsT P [] s K tK = K s := Eq.trans rfl rfl
theorem tSteps_none (d o r) : StepsT P (⟨d, none, o⟩ :: r) s K tK = OpT P o s (fun v s' => StepsT P r (s'.put d v) K .mk) .mk := Eq.trans rfl rfl
theorem tSteps_some (d t b o r) : StepsT P (⟨d, some (t, b), o⟩ :: r) s K tK = GrdT (s.env t) b (OpT P o (s.put (some t) (.val (.bool b))) (fun v s' => StepsT P r (s'.put d v) K .mk) .mk)
    (StepsT P r ((s.put (some t) (.val (.bool !b))).put d (.val undef)) K .mk) (StepsT P r (s.put d (.val undef)) K .mk) .mk .mk .mk := Eq.trans rfl rfl
theorem tTree_nil : TreeT P .nil s K tK = K s := Eq.trans rfl rfl
theorem tTree_step (x r) : TreeT P (.step x r) s K tK = StepsT P [x] s (fun s' => TreeT P r s' K .mk) .mk := Eq.trans rfl rfl
theorem tTree_pre (n x r) : TreeT P (.pre n x r) s K tK = ((cellsOf (s.ev x)).length = n ∧ (cellsOf (s.ev x)).all one' = true ∧ TreeT P r s K .mk) := by
  have : ((cellsOf (s.ev x)).all one' = true) = (∀ c ∈ cellsOf (s.ev x), match c with | .val u => u.oneCell' = true | _ => True) := by
    simp only [List.all_eq_true]
    refine propext ⟨fun h c hc => ?_, fun h c hc => ?_⟩
    · have := h c hc; cases c <;> first | exact this | rfl | trivial
    · have := h c hc; cases c <;> first | exact this | rfl | trivial
  rw [this]
  exact Eq.trans rfl rfl
theorem tTree_alt (x l r) : TreeT P (.alt x l r) s K tK = (StepsT P [x] s (fun s' => TreeT P l s' K .mk) .mk ∧ TreeT P r s K .mk) := Eq.trans rfl rfl
theorem tPut_none (e b R v) : St.put ⟨e, b, R⟩ none v = ⟨e, b, R⟩ := Eq.trans rfl rfl
theorem tPut_some (e b R d v) : St.put ⟨e, b, R⟩ (some d) v = ⟨upd e d v, b, R⟩ := Eq.trans rfl rfl
theorem tEv_tmp (e b R t) : St.ev ⟨e, b, R⟩ (.tmp t) = e t := Eq.trans rfl rfl
theorem tEv_const (v) : St.ev s (.const v) = .val v := Eq.trans rfl rfl
theorem tEv_global (g) : St.ev s (.global g) = .val (.pointer (some ⟨g, 0, none⟩)) := Eq.trans rfl rfl
theorem tEv_func (f) : St.ev s (.func f) = .val (.func (.func f) #[] #[]) := Eq.trans rfl rfl
theorem tFrz (e b R j b' cap R' T sz cs) : frz ⟨e, b, R⟩ j b' cap R' T sz cs = ⟨frzE e j b' cap, (b.map (unslB j b' cap)).set j (.shr b' cap T sz cs), R'⟩ := Eq.trans rfl rfl
theorem tFrzE (e : Nat → SV) (k b cap t) : frzE e k b cap t = unsl k b cap (e t) := Eq.trans rfl rfl
theorem tUnsl_sl (k b cap j n) : unsl k b cap (.sl j n) = if j = k then .val (.slice (some ⟨b, 0, none⟩) n cap) else .sl j n := Eq.trans rfl rfl
def frzBE (e : Nat → SV) (k b : Nat) : Nat → SV := fun t => unloc k b (e t)
theorem tFrzB (e b R j b' R') : frzB ⟨e, b, R⟩ j b' R' = ⟨frzBE e j b', (b.map (unlocB j b')).set j .dead, R'⟩ := Eq.trans rfl rfl
theorem tFrzBE (e : Nat → SV) (k b t) : frzBE e k b t = unloc k b (e t) := Eq.trans rfl rfl
theorem tUnloc_loc (k b j o) : unloc k b (.loc j o) = if j = k then .val (.pointer (some ⟨b, o, none⟩)) else .loc j o := Eq.trans rfl rfl
theorem tUnloc_val (k b v) : unloc k b (.val v) = .val v := rfl
theorem tUnloc_sl (k b j n) : unloc k b (.sl j n) = .sl j n := rfl
theorem tUnloc_sw (k b j z e n) : unloc k b (.sw j z e n) = .sw j z e n := rfl
theorem tUnloc_mp (k b j) : unloc k b (.mp j) = .mp j := rfl
theorem tUnloc_fn (k b f cs) : unloc k b (.fn f cs) = .fn f (cs.map (unlocC k b)) := rfl
theorem tUnlocC_v (k b x) : unlocC k b (.v x) = .v x := rfl
theorem tUnlocC_l (k b j o) : unlocC k b (.l j o) = if j = k then .v (.pointer (some ⟨b, o, none⟩)) else .l j o := Eq.trans rfl rfl
theorem tUnlocB_dead (k b) : unlocB k b .dead = .dead := rfl
theorem tUnlocB_own (k b F) : unlocB k b (.own F) = .own F := rfl
theorem tUnlocB_box (k b cs) : unlocB k b (.box cs) = .box (cs.map (unloc k b)) := rfl
theorem tUnlocB_row (k b T sz cs) : unlocB k b (.row T sz cs) = .row T sz cs := rfl
theorem tUnlocB_shr (k b b' c T sz cs) : unlocB k b (.shr b' c T sz cs) = .shr b' c T sz cs := rfl
theorem tUnlocB_it (k b m x y z) : unlocB k b (.it m x y z) = .it m x y z := rfl
theorem tUnlocB_mp (k b es c) : unlocB k b (.mp es c) = .mp es c := rfl
theorem tUnsl_val (k b cap v) : unsl k b cap (.val v) = .val v := Eq.trans rfl rfl
theorem tUnsl_loc (k b cap j o) : unsl k b cap (.loc j o) = .loc j o := Eq.trans rfl rfl
theorem tOp_mov (x) : OpT P (.mov x) s k tk = k (s.ev x) s := Eq.trans rfl rfl
theorem tOp_pick (c a b) : OpT P (.pick c a b) s k tk = IfT (s.ev c) (k (s.ev a) s) (k (s.ev b) s) .mk .mk := Eq.trans rfl rfl
theorem tOp_bin (op x y) : OpT P (.bin op x y) s k tk = BinT op (s.ev x) (s.ev y) (fun r => k (.val r) s) .mk := Eq.trans rfl rfl
theorem tOp_un (op x) : OpT P (.un op x) s k tk = UnT op (s.ev x) (fun r => k (.val r) s) .mk := Eq.trans rfl rfl
theorem tOp_shift (l x y) : OpT P (.shift l x y) s k tk = ShiftT l (s.ev x) (s.ev y) (fun r => k (.val r) s) .mk := Eq.trans rfl rfl
theorem tOp_eqB (n x y) : OpT P (.eqB n x y) s k tk = EqBT n (s.ev x) (s.ev y) (fun r => k (.val r) s) .mk := Eq.trans rfl rfl
theorem tOp_eqS (n ks' x y) : OpT P (.eqS n ks' x y) s k tk = EqST n ks' (s.ev x) (s.ev y) (fun r => k (.val r) s) .mk := Eq.trans rfl rfl
theorem tOp_nilchk (x) : OpT P (.nilchk x) s k tk = NilT (s.ev x) (fun v => k v s) .mk := Eq.trans rfl rfl
theorem tOp_isnilP (n x) : OpT P (.isnilP n x) s k tk = IsnilPT n (s.ev x) (fun r => k (.val r) s) .mk := by
  simp only [OpT, vcOp, IsnilPT]
  split <;> rename_i h <;> first
    | (simp only [h]; done)
    | (rename_i h1 h2; split <;> rename_i h' <;> first | exact absurd h' (h1 _ _) | exact absurd h' (h2 _) | rfl)
theorem tIsnilP_loc (n j o) : IsnilPT n (.loc j o) kv tv = kv (.bool n) := rfl
theorem tIsnilP_f (a) : IsnilPT false (.val (.pointer a)) kv tv = kv (.bool a.isNone) := rfl
theorem tIsnilP_t (a) : IsnilPT true (.val (.pointer a)) kv tv = kv (.bool (!a.isNone)) := rfl
theorem tOp_mkbm (f x) : OpT P (.mkbm f x) s k tk = MkbmT f (s.ev x) (fun r => k (.val r) s) .mk := by
  simp only [OpT, vcOp, MkbmT]
  split <;> rename_i h <;> first
    | (simp only [h]; done)
    | (rename_i h1; split <;> rename_i h' <;> first | exact absurd h' (h1 _) | rfl)
theorem tMkbm (f v) : MkbmT f (.val v) kv tv = kv (.func (.func f) #[v] #[]) := rfl
theorem tOp_sliceA (len x) : OpT P (.sliceA len x) s k tk = LeafT (s.ev x) s (fun v s' => SliceAT len v (fun r => k (.val r) s') .mk) .mk := rfl
theorem tSliceA (len a) : SliceAT len (.pointer (some a)) kv tv = kv (.slice (some a) len len) := rfl
theorem tOp_extr (x i) : OpT P (.extr x i) s k tk = ExtrT (s.ev x) i (fun r => k (.val r) s) .mk := Eq.trans rfl rfl
theorem tOp_faddr (x o) : OpT P (.faddr x o) s k tk = FaddrT (s.ev x) o (fun r => k r s) .mk := Eq.trans rfl rfl
theorem tOp_iaddr (x i sz) : OpT P (.iaddr x i sz) s k tk = IaddrT s (s.ev x) (s.ev i) sz (fun r => k r s) .mk := Eq.trans rfl rfl
theorem tOp_iaddrA (x i l sz) : OpT P (.iaddrA x i l sz) s k tk = IaddrAT (s.ev x) (s.ev i) l sz (fun r => k r s) .mk := Eq.trans rfl rfl
theorem tOp_load (n x) : OpT P (.load n x) s k tk = LoadT n (s.ev x) s k .mk := by cases n <;> rfl
theorem tOp_build (z ps) : OpT P (.build z ps) s k tk = FillT s z ps (fun cs s' => k (.val (.agg cs.toArray)) s') .mk := Eq.trans rfl rfl
theorem tOp_len (x) : OpT P (.len x) s k tk = LenT (s.ev x) (fun r => k (.val r) s) .mk := Eq.trans rfl rfl
theorem tOp_slen (x) : OpT P (.slen x) s k tk = SlenT (s.ev x) (fun r => k (.val r) s) .mk := Eq.trans rfl rfl
theorem tOp_conv (i x) : OpT P (.conv i x) s k tk = ConvT i (s.ev x) (fun r => k (.val r) s) .mk := Eq.trans rfl rfl
theorem tOp_alloc (z e b R) : OpT P (.alloc z) ⟨e, b, R⟩ k tk = k (.loc b.length 0) ⟨e, b ++ [.box (z.map .val)], R⟩ := Eq.trans rfl rfl
theorem tOp_box (x e b R) : OpT P (.box x) ⟨e, b, R⟩ k tk = k (.loc b.length 0) ⟨e, b ++ [.box (cellsOf (St.ev ⟨e, b, R⟩ x))], R⟩ := Eq.trans rfl rfl
theorem tOp_bslice (T sz len z ps) : OpT P (.bslice T sz len z ps) s k tk = FillT s z ps (fun cs s' => k (.sl s'.blk.length len) ⟨s'.env, s'.blk ++ [.row T sz cs], s'.R⟩) .mk := Eq.trans rfl rfl
theorem tOp_call (m f args) : OpT P (.call m f args) s k tk = CallT P (allVal (evs s args)) (evs s args) m f args s k .mk := Eq.trans rfl rfl
theorem tCall_val (xs : List SV) (m f args) : CallT P true xs m f args s k tk = VCallT P.P f (valsOf xs) s.R (fun R' v => k (.val v) ⟨s.env, s.blk, R'⟩) .mk (HandM m P.P f xs s k ∨ Lend P.P f xs s k ∨ LendA P.P f xs s k) .mk := Eq.trans rfl rfl
theorem tEvs_nil : evs s [] = [] := rfl
theorem tEvs_cons (x xs) : evs s (x :: xs) = s.ev x :: evs s xs := rfl
theorem tAllVal_nil : allVal [] = true := rfl
theorem tAllVal_val (v r) : allVal (.val v :: r) = allVal r := rfl
theorem tAllVal_loc (a b r) : allVal (.loc a b :: r) = false := rfl
theorem tAllVal_sl (a b r) : allVal (.sl a b :: r) = false := rfl
theorem tAllVal_sw (a b c d r) : allVal (.sw a b c d :: r) = false := rfl
theorem tAllVal_fn (a b r) : allVal (.fn a b :: r) = false := rfl
theorem tAllVal_mp (a r) : allVal (.mp a :: r) = false := rfl
theorem tValsOf_nil : valsOf [] = [] := rfl
theorem tValsOf_val (v r) : valsOf (.val v :: r) = v :: valsOf r := rfl
theorem tOp_callv (m x args) : OpT P (.callv m x args) s k tk = CallvT m P (s.ev x) (evs s args) s k .mk := Eq.trans rfl rfl
theorem tCallv_v (m f first caps) (xs : List SV) : CallvT m P (.val (.func (.func f) first caps)) xs s k tk = (hasBody P.P f = true ∧ CallvV P.P (allVal xs) f first.toList xs caps.toList s k .mk) := Eq.trans rfl rfl
theorem tCallvV (Q : Program) (f first caps) (xs : List SV) : CallvV Q true f first xs caps s k tk = VCallT Q f (first ++ valsOf xs ++ caps) s.R (fun R' v => k (.val v) ⟨s.env, s.blk, R'⟩) .mk False .mk := by
  simp [CallvV, VCallT]
theorem tCallv_fn (m f cs) (xs : List SV) : CallvT m P (.fn f cs) xs s k tk = (hasBody P.P f = true ∧ CallFT m P.P f (xs ++ cs.map capSV) s k .mk) := Eq.trans rfl rfl
theorem tOp_mkfn (f caps) : OpT P (.mkfn f caps) s k tk = MkfnT (capsOf (evs s caps)) f (fun r => k r s) .mk := Eq.trans rfl rfl
theorem tMkfn (f cs) : MkfnT (some cs) f ks ts = ks (.fn f cs) := rfl
theorem tOp_minmax (m x y) : OpT P (.minmax m x y) s k tk = MinmaxT m (s.ev x) (s.ev y) (fun r => k (.val r) s) .mk := Eq.trans rfl rfl
theorem tMin (i a j b) : MinmaxT false (.val (.int i a)) (.val (.int j b)) kv tv = kv (.int i (min a b)) := by simp [MinmaxT]
theorem tMax (i a j b) : MinmaxT true (.val (.int i a)) (.val (.int j b)) kv tv = kv (.int i (max a b)) := by simp [MinmaxT]
theorem tOp_minmax3 (m x y z) : OpT P (.minmax3 m x y z) s k tk = Minmax3T m (s.ev x) (s.ev y) (s.ev z) (fun r => k (.val r) s) .mk := Eq.trans rfl rfl
theorem tMin3 (i a j b l c) : Minmax3T false (.val (.int i a)) (.val (.int j b)) (.val (.int l c)) kv tv = kv (.int i (min (min a b) c)) := by simp [Minmax3T]
theorem tMax3 (i a j b l c) : Minmax3T true (.val (.int i a)) (.val (.int j b)) (.val (.int l c)) kv tv = kv (.int i (max (max a b) c)) := by simp [Minmax3T]
theorem tOp_isnil (n x) : OpT P (.isnil n x) s k tk = IsnilT n (s.ev x) (fun r => k (.val r) s) .mk := by
  simp only [OpT, vcOp, IsnilT]
  split <;> rename_i h <;> first
    | (simp only [h]; done)
    | (rename_i h1 h2 h3; split <;> rename_i h' <;> first | exact absurd h' (h1 _ _ _) | exact absurd h' (h2 _ _) | exact absurd h' (h3 _ _ _ _) | rfl)
theorem tIsnil_f (a n c) : IsnilT false (.val (.slice a n c)) kv tv = kv (.bool a.isNone) := rfl
theorem tIsnil_t (a n c) : IsnilT true (.val (.slice a n c)) kv tv = kv (.bool (!a.isNone)) := rfl
theorem tIsnil_sl (g j n) : IsnilT g (.sl j n) kv tv = kv (.bool g) := rfl
theorem tIsnil_sw (g j z e n) : IsnilT g (.sw j z e n) kv tv = kv (.bool g) := rfl
theorem tOp_mmake (e b R) : OpT P .mmake ⟨e, b, R⟩ k tk = k (.mp b.length) ⟨e, b ++ [.mp [] 0], R⟩ := Eq.trans rfl rfl
theorem tOp_mget (ks' z ok x y) : OpT P (.mget ks' z ok x y) s k tk = MgetT ks' z ok (s.ev x) (s.ev y) s (fun r => k (.val r) s) .mk := Eq.trans rfl rfl
theorem tMget (ks' z ok j a e b R) : MgetT ks' z ok (.mp j) (.val a) ⟨e, b, R⟩ kv tv = MgetB b j ks' z ok a kv .mk := Eq.trans rfl rfl
theorem tOp_mput (ks' x y v) : OpT P (.mput ks' x y v) s k tk = MputT ks' (s.ev x) (s.ev y) (s.ev v) s k .mk := Eq.trans rfl rfl
theorem tMput (ks' j a v) : MputT ks' (.mp j) (.val a) v s k tk = (mEq ks' a a = some true ∧ LeafT v s (fun u s' => MputB s'.env s'.blk s'.R j ks' a u k .mk) .mk) := Eq.trans rfl rfl
theorem tOp_mdel (ks' x y) : OpT P (.mdel ks' x y) s k tk = MdelT ks' (s.ev x) (s.ev y) s k .mk := Eq.trans rfl rfl
theorem tMdel (ks' j a e b R) : MdelT ks' (.mp j) (.val a) ⟨e, b, R⟩ k tk = (mEq ks' a a = some true ∧ MdelB e b R j ks' a k .mk) := rfl
theorem tOp_mrange (x) : OpT P (.mrange x) s k tk = MrangeT (s.ev x) s k .mk := by
  unfold OpT
  simp only [vcOp, MrangeT, MrangeB]
  generalize s.ev x = v
  cases v with
  | mp m =>
    simp only
    cases hm : s.blk[m]? with
    | none => simp
    | some b => cases b with
      | mp es c =>
        simp only [Option.some.injEq, Blk.mp.injEq, eq_iff_iff]
        exact ⟨fun ⟨es', c', ⟨h1, h2⟩, h3⟩ => by subst h1 h2; exact h3, fun h => ⟨es, c, ⟨rfl, rfl⟩, h⟩⟩
      | _ => simp
  | _ => rfl
theorem tMrange (m e b R) : MrangeT (.mp m) ⟨e, b, R⟩ k tk = MrangeB b[m]? m ⟨e, b, R⟩ k .mk := rfl
theorem tMrangeB (m es c e b R) : MrangeB (some (.mp es c)) m ⟨e, b, R⟩ k tk = k (.loc b.length 0) ⟨e, b ++ [.it m c [] c], R⟩ := rfl
theorem tOp_mnext (x) : OpT P (.mnext x) s k tk = MnextT (s.ev x) s k .mk := by
  unfold OpT
  simp only [vcOp, MnextT, MnextI, MnextM]
  generalize s.ev x = v
  cases v with
  | loc j o =>
    cases o with
    | succ o => rfl
    | zero =>
      simp only
      cases hj : s.blk[j]? with
      | none => simp
      | some b => cases b with
        | it m since seen last =>
          simp only [Option.some.injEq, Blk.it.injEq, eq_iff_iff]
          cases hm : s.blk[m]? with
          | none =>
            simp only [iff_false]
            rintro ⟨m', since', seen', last', es, clock, ⟨rfl, _⟩, h2, _⟩
            rw [hm] at h2; cases h2
          | some b => cases b with
            | mp es c =>
              simp only
              constructor
              · rintro ⟨m', since', seen', last', es', clock, ⟨rfl, rfl, rfl, rfl⟩, h2, h3⟩
                rw [hm] at h2
                simp only [Option.some.injEq, Blk.mp.injEq] at h2
                obtain ⟨rfl, rfl⟩ := h2
                exact h3
              · exact fun h3 => ⟨m, since, seen, last, es, c, ⟨rfl, rfl, rfl, rfl⟩, hm, h3⟩
            | _ =>
              simp only [iff_false]
              rintro ⟨m', since', seen', last', es, clock, ⟨rfl, _⟩, h2, _⟩
              rw [hm] at h2; simp at h2
        | _ => simp
  | _ => rfl
theorem tMnext (j e b R) : MnextT (.loc j 0) ⟨e, b, R⟩ k tk = MnextI b[j]? j ⟨e, b, R⟩ k .mk := rfl
theorem tMnextI (j m since seen last e b R) : MnextI (some (.it m since seen last)) j ⟨e, b, R⟩ k tk = MnextM b[m]? j m since seen last ⟨e, b, R⟩ k .mk := rfl
theorem tMnextM (j m since seen last es clock e b R) : MnextM (some (.mp es clock)) j m since seen last ⟨e, b, R⟩ k tk = ((∀ e ∈ es, e.born < since) ∧ since ≤ last ∧ ((∀ e ∈ es, seen.contains e.born = true) → k (.val (.tuple #[.bool false])) ⟨e, b, R⟩) ∧
      ∀ e' ∈ es, seen.contains e'.born = false → k (.val (.tuple #[.bool true, e'.key, e'.val])) ⟨e, b.set j (.it m since (seen ++ [e'.born]) clock), R⟩) := rfl
theorem tOp_mentry (x) : OpT P (.mentry x) s k tk = MentryT (s.ev x) s k .mk := by
  unfold OpT
  simp only [vcOp, MentryT, MentryI, MentryM]
  generalize s.ev x = v
  cases v with
  | loc j o =>
    cases o with
    | succ o => rfl
    | zero =>
      simp only
      cases hj : s.blk[j]? with
      | none => simp
      | some b => cases b with
        | it m since seen last =>
          simp only [Option.some.injEq, Blk.it.injEq, eq_iff_iff]
          cases hm : s.blk[m]? with
          | none =>
            simp only [iff_false]
            rintro ⟨m', since', seen', es, clock, e, ⟨rfl, _⟩, h2, _⟩
            rw [hm] at h2; cases h2
          | some b => cases b with
            | mp es c =>
              simp only
              constructor
              · rintro ⟨m', since', seen', es', clock, e, ⟨rfl, rfl, rfl, rfl⟩, h2, h3, h4, h5⟩
                rw [hm] at h2
                simp only [Option.some.injEq, Blk.mp.injEq] at h2
                obtain ⟨rfl, rfl⟩ := h2
                exact ⟨seen', e, rfl, rfl, h3, h4, h5⟩
              · rintro ⟨seen', e, rfl, rfl, h3, h4, h5⟩
                exact ⟨m, since, seen', es, last, e, ⟨rfl, rfl, rfl, rfl⟩, hm, h3, h4, h5⟩
            | _ =>
              simp only [iff_false]
              rintro ⟨m', since', seen', es, clock, e, ⟨rfl, _⟩, h2, _⟩
              rw [hm] at h2; simp at h2
        | _ => simp
  | _ => rfl
theorem tMentry (j e b R) : MentryT (.loc j 0) ⟨e, b, R⟩ k tk = MentryI b[j]? ⟨e, b, R⟩ k .mk := rfl
theorem tMentryI (m since seen last e b R) : MentryI (some (.it m since seen last)) ⟨e, b, R⟩ k tk = MentryM b[m]? seen last ⟨e, b, R⟩ k .mk := rfl
theorem tOp_slice3 (sz x lo hi mx) : OpT P (.slice3 sz x lo hi mx) s k tk = Slice3T sz (s.ev x) lo hi mx s k .mk := Eq.trans rfl rfl
theorem tSlice3 (sz a len cap lo hi mx) : Slice3T sz (.val (.slice a len cap)) lo hi mx s k tk = ∃ l h m : Nat, bnd s lo 0 l ∧ bnd s (some hi) len h ∧ bnd s (some mx) cap m ∧ l ≤ h ∧ h ≤ m ∧ m ≤ cap ∧
        k (.val (.slice (if m = l then a else a.map (·.add (l * sz))) (h - l) (m - l))) s := Eq.trans rfl rfl
theorem tSlice3_sl (sz j n lo hi mx) : Slice3T sz (.sl j n) lo hi mx s k tk = LeafT (.sl j n) s (fun v s' => Slice3V sz v lo hi mx s s' k .mk) .mk := Eq.trans rfl rfl
theorem tSlice3V (sz a len cap lo hi mx s') : Slice3V sz (.slice a len cap) lo hi mx s s' k tk = ∃ l h m : Nat, bnd s lo 0 l ∧ bnd s (some hi) len h ∧ bnd s (some mx) cap m ∧ l ≤ h ∧ h ≤ m ∧ m ≤ cap ∧
        k (.val (.slice (if m = l then a else a.map (·.add (l * sz))) (h - l) (m - l))) s' := Eq.trans rfl rfl
theorem tOp_store (n x v) : OpT P (.store n x v) s k tk = StoreT n (s.ev x) (s.ev v) s k .mk := Eq.trans rfl rfl
theorem tOp_append (T sz by' x y) : OpT P (.append T sz by' x y) s k tk = SrcT s T sz (s.ev y) (fun m ys => AppT T sz by' (s.ev x) m ys s k .mk) .mk := Eq.trans rfl rfl
theorem tOp_mkslice (T sz by' z l c) : OpT P (.mkslice T sz by' z l c) s k tk = MkT T sz by' z (s.ev l) (s.ev c) s k .mk := Eq.trans rfl rfl
theorem tOp_slice (sz x lo hi) : OpT P (.slice sz x lo hi) s k tk = SliceT sz (s.ev x) lo hi s k .mk := Eq.trans rfl rfl
theorem tOp_field (o n x) : OpT P (.field o n x) s k tk = FieldT o n (s.ev x) (fun r => k (.val r) s) .mk := Eq.trans rfl rfl
theorem tOp_index (l sz n x i) : OpT P (.index l sz n x i) s k tk = IndexT l sz n (s.ev x) (s.ev i) (fun r => k (.val r) s) .mk := Eq.trans rfl rfl
theorem tBin_add (i a b) : BinT .add (.val (.int i a)) (.val (.int i b)) kv tv = ∃ r, W i (a + b) r ∧ kv (.int i r) := by simp [BinT, vcBin, vcBinI]
theorem tBin_sub (i a b) : BinT .sub (.val (.int i a)) (.val (.int i b)) kv tv = ∃ r, W i (a - b) r ∧ kv (.int i r) := by simp [BinT, vcBin, vcBinI]
theorem tBin_mul (i a b) : BinT .mul (.val (.int i a)) (.val (.int i b)) kv tv = ∃ r, W i (a * b) r ∧ kv (.int i r) := by simp [BinT, vcBin, vcBinI]
theorem tBin_quo (i a b) : BinT .quo (.val (.int i a)) (.val (.int i b)) kv tv = (b ≠ 0 ∧ ∃ r, W i (a.tdiv b) r ∧ kv (.int i r)) := by simp [BinT, vcBin, vcBinI]
theorem tBin_rem (i a b) : BinT .rem (.val (.int i a)) (.val (.int i b)) kv tv = (b ≠ 0 ∧ kv (.int i (a.tmod b))) := by simp [BinT, vcBin, vcBinI]
theorem tBin_eql (i a b) : BinT .eql (.val (.int i a)) (.val (.int i b)) kv tv = kv (.bool (decide (a = b))) := by simp [BinT, vcBin, vcBinI]
theorem tBin_neq (i a b) : BinT .neq (.val (.int i a)) (.val (.int i b)) kv tv = kv (.bool (decide (a ≠ b))) := by simp [BinT, vcBin, vcBinI]
theorem tBin_lss (i a b) : BinT .lss (.val (.int i a)) (.val (.int i b)) kv tv = kv (.bool (decide (a < b))) := by simp [BinT, vcBin, vcBinI]
theorem tBin_leq (i a b) : BinT .leq (.val (.int i a)) (.val (.int i b)) kv tv = kv (.bool (decide (a ≤ b))) := by simp [BinT, vcBin, vcBinI]
theorem tBin_gtr (i a b) : BinT .gtr (.val (.int i a)) (.val (.int i b)) kv tv = kv (.bool (decide (b < a))) := by simp [BinT, vcBin, vcBinI]
theorem tBin_geq (i a b) : BinT .geq (.val (.int i a)) (.val (.int i b)) kv tv = kv (.bool (decide (b ≤ a))) := by simp [BinT, vcBin, vcBinI]
theorem tBin_and (i a b) : BinT .and (.val (.int i a)) (.val (.int i b)) kv tv = kv (.int i (bits .and i a b)) := by simp [BinT, vcBin, vcBinI]
theorem tBin_or (i a b) : BinT .or (.val (.int i a)) (.val (.int i b)) kv tv = kv (.int i (bits .or i a b)) := by simp [BinT, vcBin, vcBinI]
theorem tBin_xor (i a b) : BinT .xor (.val (.int i a)) (.val (.int i b)) kv tv = kv (.int i (bits .xor i a b)) := by simp [BinT, vcBin, vcBinI]
theorem tBin_seq (a b) : BinT .eql (.val (.string a)) (.val (.string b)) kv tv = kv (.bool (a == b)) := Eq.trans rfl rfl
theorem tBin_sne (a b) : BinT .neq (.val (.string a)) (.val (.string b)) kv tv = kv (.bool (a != b)) := Eq.trans rfl rfl
theorem tUn_not (b) : UnT .not (.val (.bool b)) kv tv = kv (.bool !b) := Eq.trans rfl rfl
theorem tUn_xor (i n) : UnT .xor (.val (.int i n)) kv tv = kv (.int i (bits .xor i (if i.signed then -1 else i.max) n)) := Eq.trans rfl rfl
theorem tUn_neg (i n) : UnT .neg (.val (.int i n)) kv tv = ∃ r, W i (0 - n) r ∧ kv (.int i r) := Eq.trans rfl rfl
theorem tShl (i a j b) : ShiftT true (.val (.int i a)) (.val (.int j b)) kv tv = (0 ≤ b ∧ ∃ r, W i (a * 2 ^ (min b.toNat i.bits)) r ∧ kv (.int i r)) := by simp [ShiftT]
theorem tShr (i a j b) : ShiftT false (.val (.int i a)) (.val (.int j b)) kv tv = (0 ≤ b ∧ kv (.int i (a.fdiv (2 ^ (min b.toNat i.bits))))) := by simp [ShiftT]
theorem tEqB_f (a b) : EqBT false (.val (.bool a)) (.val (.bool b)) kv tv = kv (.bool (a == b)) := Eq.trans rfl rfl
theorem tEqB_t (a b) : EqBT true (.val (.bool a)) (.val (.bool b)) kv tv = kv (.bool (a != b)) := Eq.trans rfl rfl
theorem tEqS (n ks' us vs) : EqST n ks' (.val (.agg us)) (.val (.agg vs)) kv tv = EqOT n (eqCells ks' us.toList vs.toList) kv .mk := Eq.trans rfl rfl
theorem tEqO_f (t) : EqOT false (some t) kv tv = kv (.bool t) := Eq.trans rfl rfl
theorem tEqO_t (t) : EqOT true (some t) kv tv = kv (.bool !t) := Eq.trans rfl rfl
theorem tNil_loc (j o) {k : SV → Prop} {t : Tok k} : NilT (.loc j o) k t = k (.loc j o) := Eq.trans rfl rfl
theorem tNil_ptr (a) {k : SV → Prop} {t : Tok k} : NilT (.val (.pointer (some a))) k t = k (.val (.pointer (some a))) := Eq.trans rfl rfl
theorem tExtr (vs i) : ExtrT (.val (.tuple vs)) i kv tv = OptT vs[i]? kv .mk := Eq.trans rfl rfl
theorem tOpt (v) : OptT (some v) kv tv = kv v := Eq.trans rfl rfl
theorem tFaddr_loc (j o f) : FaddrT (.loc j o) f ks ts = ks (.loc j (o + f)) := Eq.trans rfl rfl
theorem tFaddr_ptr (a f) : FaddrT (.val (.pointer (some a))) f ks ts = ks (.val (.pointer (some (a.add f)))) := Eq.trans rfl rfl
theorem tIaddr_v (a len c q n sz) : IaddrT s (.val (.slice a len c)) (.val (.int q n)) sz ks ts = (0 ≤ n ∧ n < len ∧ AtT a (n.toNat * sz) ks .mk) := Eq.trans rfl rfl
theorem tIaddr_sl (j len q n sz) : IaddrT s (.sl j len) (.val (.int q n)) sz ks ts = (0 ≤ n ∧ n < len ∧ ks (.loc j (n.toNat * sz))) := Eq.trans rfl rfl
theorem tIaddr_sw (j z e len q n sz) : IaddrT s (.sw j z e len) (.val (.int q n)) sz ks ts = (0 ≤ n ∧ n < len ∧ z = sz ∧ 0 < sz ∧ (∃ T cs, s.blk[j]? = some (.row T sz cs) ∧ (e + len) * sz ≤ cs.length) ∧ ks (.loc j ((e + n.toNat) * sz))) := Eq.trans rfl rfl
theorem tIaddrA_loc (j o q n len sz) : IaddrAT (.loc j o) (.val (.int q n)) len sz ks ts = (0 ≤ n ∧ n < len ∧ ks (.loc j (o + n.toNat * sz))) := Eq.trans rfl rfl
theorem tIaddrA_ptr (a q n len sz) : IaddrAT (.val (.pointer (some a))) (.val (.int q n)) len sz ks ts = (0 ≤ n ∧ n < len ∧ ks (.val (.pointer (some (a.add (n.toNat * sz)))))) := Eq.trans rfl rfl
theorem tLoad1_loc (j o) : LoadT none (.loc j o) s k tk = Load1T s.blk[j]? o (fun c => k c s) .mk := Eq.trans rfl rfl
theorem tLoad1_box (cs : List SV) (o) : Load1T (some (.box cs)) o ks ts = OptST cs[o]? ks .mk := Eq.trans rfl rfl
theorem tLoad1_row (T sz) (cs : List Value) (o) : Load1T (some (.row T sz cs)) o ks ts = ∃ c, cs[o]? = some c ∧ ks (.val c) := Eq.trans rfl rfl
theorem tOptS (v) : OptST (some v) ks ts = ks v := Eq.trans rfl rfl
theorem tLoad1_ptr (a) : LoadT none (.val (.pointer (some a))) s k tk = LoadP (allR s.blk s.R) a (fun c => k c s) .mk := Eq.trans rfl rfl
theorem tLoadn_loc (n j o) : LoadT (some n) (.loc j o) s k tk = CellsT s j o n (fun vs s' => k (.val (.agg vs.toArray)) s') .mk := Eq.trans rfl rfl
theorem tLoadn_ptr (n a) : LoadT (some n) (.val (.pointer (some a))) s k tk = LoadPn (allR s.blk s.R) a n (fun v => k (.val v) s) .mk := Eq.trans rfl rfl
theorem tCells_zero (j off) : CellsT s j off 0 kls tls = kls [] s := Eq.trans rfl rfl
theorem tCells_succ (j off n) : CellsT s j off (n + 1) kls tls = CellT s.blk[j]? s j off n kls .mk := Eq.trans rfl rfl
theorem tCell_box (cs : List SV) (j off n) : CellT (some (.box cs)) s j off n kls tls = OptST cs[off]? (fun c => Leaf1T c s (fun v s' => CellsT s' j (off + 1) n (fun vs s'' => kls (v :: vs) s'') .mk) .mk) .mk := Eq.trans rfl rfl
theorem tCell_row (T sz) (cs : List Value) (j off n) : CellT (some (.row T sz cs)) s j off n kls tls = ∃ v, cs[off]? = some v ∧ CellsT s j (off + 1) n (fun vs s'' => kls (v :: vs) s'') .mk := Eq.trans rfl rfl
theorem tLeaf_val (v) : LeafT (.val v) s kl tl = kl v s := Eq.trans rfl rfl
theorem tLeaf1_val (v) : Leaf1T (.val v) s kl tl = kl v s := Eq.trans rfl rfl
theorem tLeaf1_sl (j n) : Leaf1T (.sl j n) s kl tl = LeafBT s.blk[j]? j n s kl .mk := Eq.trans rfl rfl
theorem tLeaf1_sw (j z e n) : Leaf1T (.sw j z e n) s kl tl = LeafWT s.blk[j]? j z e n s kl .mk := Eq.trans rfl rfl
theorem tLeaf1_fn (f cs) : Leaf1T (.fn f cs) s kl tl = LeafFT (capVals cs) f s kl .mk := Eq.trans rfl rfl
theorem tLeaf_loc (j o) : LeafT (.loc j o) s kl tl = LeafLT s.blk[j]? j o s kl .mk := Eq.trans rfl rfl
theorem tLeafL (cs : List SV) (j o) : LeafLT (some (.box cs)) j o s kl tl = CellsT s j 0 cs.length (fun vs s' => FrzLT s'.blk[j]? j o vs s' kl .mk) .mk := Eq.trans rfl rfl
theorem tFrzL (cs : List SV) (j o) (vs : List Value) : FrzLT (some (.box cs)) j o vs s kl tl = ∀ (b : Nat) (R' : RO), RO.le s.R R' → RowIn R' b vs → Fresh s.R b → kl (.pointer (some ⟨b, o, none⟩)) (frzB s j b R') := Eq.trans rfl rfl
theorem tLeaf_sl (j n) : LeafT (.sl j n) s kl tl = LeafBT s.blk[j]? j n s kl .mk := Eq.trans rfl rfl
theorem tLeafB (T sz) (cs : List Value) (j n) : LeafBT (some (.row T sz cs)) j n s kl tl = ∀ (b cap : Nat) (R' : RO), RO.le s.R R' → RowIn R' b cs → cs.length ≤ cap * sz → Fresh s.R b → kl (.slice (some ⟨b, 0, none⟩) n cap) (frz s j b cap R' T sz cs) := Eq.trans rfl rfl
theorem tLeaf_sw (j z e n) : LeafT (.sw j z e n) s kl tl = LeafWT s.blk[j]? j z e n s kl .mk := Eq.trans rfl rfl
theorem tLeafW (T sz) (cs : List Value) (j z e n) : LeafWT (some (.row T sz cs)) j z e n s kl tl = ∀ (b cap : Nat) (R' : RO), RO.le s.R R' → RowIn R' b cs → cs.length ≤ cap * sz → Fresh s.R b → kl (.slice (some ⟨b, if cap = e then 0 else e * z, none⟩) n (cap - e)) (frz s j b cap R' T sz cs) := Eq.trans rfl rfl
theorem tLeaf_fn (f cs) : LeafT (.fn f cs) s kl tl = LeafFT (capVals cs) f s kl .mk := Eq.trans rfl rfl
theorem tLeafF (f vs) : LeafFT (some vs) f s kl tl = kl (.func (.func f) #[] vs.toArray) s := Eq.trans rfl rfl
theorem tLeaves_nil : LeavesT s [] kls tls = kls [] s := Eq.trans rfl rfl
theorem tLeaves_cons (x xs) : LeavesT s (x :: xs) kls tls = LeafT (s.ev x) s (fun v s' => LeavesT s' xs (fun vs s'' => kls (v :: vs) s'') .mk) .mk := Eq.trans rfl rfl
theorem tFill_nil (cs) : FillT s cs [] kls tls = kls cs s := Eq.trans rfl rfl
theorem tFill_cons (cs off sz x ps) : FillT s cs ((off, sz, x) :: ps) kls tls = LeafT (s.ev x) s (fun v s' => v.cells.size = sz ∧ off + sz ≤ cs.length ∧ FillT s' (putAt off cs v.cells.toList) ps kls .mk) .mk := Eq.trans rfl rfl
theorem tLen_v (a n c) : LenT (.val (.slice a n c)) kv tv = kv (.int .i64 n) := Eq.trans rfl rfl
theorem tLen_sl (j n) : LenT (.sl j n) kv tv = kv (.int .i64 n) := Eq.trans rfl rfl
theorem tLen_sw (j z e n) : LenT (.sw j z e n) kv tv = kv (.int .i64 n) := Eq.trans rfl rfl
theorem tSlen (b) : SlenT (.val (.string b)) kv tv = kv (.int .i64 b.size) := Eq.trans rfl rfl
theorem tConv (i q n) : ConvT i (.val (.int q n)) kv tv = ∃ r, W i n r ∧ kv (.int i r) := Eq.trans rfl rfl
theorem tStore (n j o v) : StoreT n (.loc j o) v s k tk = StoreBT s.blk[j]? n j o v s k .mk := Eq.trans rfl rfl
theorem tStore_ptr (n a v) : StoreT n (.val (.pointer (some a))) v s k tk = StoreOT n a v s k .mk := Eq.trans rfl rfl
theorem tStore_box (cs : List SV) (n j o v e b R) : StoreBT (some (.box cs)) n j o v ⟨e, b, R⟩ k tk = ((cellsOf v).length = n ∧ o + n ≤ cs.length ∧ (cellsOf v).all one' = true ∧ k (.val undef) ⟨e, b.set j (.box (putAtS o cs (cellsOf v))), R⟩) := by
  have : ((cellsOf v).all one' = true) = (∀ c ∈ cellsOf v, match c with | .val u => u.oneCell' = true | _ => True) := by
    simp only [List.all_eq_true]
    refine propext ⟨fun h c hc => ?_, fun h c hc => ?_⟩
    · have := h c hc; cases c <;> first | exact this | rfl | trivial
    · have := h c hc; cases c <;> first | exact this | rfl | trivial
  simp only [StoreBT, this]
theorem tStore_row (T sz) (cs : List Value) (n j o v) : StoreBT (some (.row T sz cs)) n j o v s k tk = LeafT v s (fun u s' => u.cells.size = n ∧ o + n ≤ cs.length ∧ (∀ c ∈ u.cells.toList, c.oneCell' = true) ∧
      s'.blk[j]? = some (.row T sz cs) ∧ k (.val undef) ⟨s'.env, s'.blk.set j (.row T sz (putAt o cs u.cells.toList)), s'.R⟩) .mk := Eq.trans rfl rfl
theorem tSrc_v {kk : Nat → List Value → Prop} {tt : Tok kk} (T sz a m c) : SrcT s T sz (.val (.slice a m c)) kk tt = SrcP (allR s.blk s.R) sz a m (kk m) .mk := Eq.trans rfl rfl
theorem tSrc_sl {kk : Nat → List Value → Prop} {tt : Tok kk} (T sz j m) : SrcT s T sz (.sl j m) kk tt = ∃ cs, s.blk[j]? = some (.row T sz cs) ∧ m * sz ≤ cs.length ∧ (∀ u ∈ cs, u.oneCell' = true) ∧ kk m (cs.take (m * sz)) := Eq.trans rfl rfl
theorem tSrc_sw {kk : Nat → List Value → Prop} {tt : Tok kk} (T sz j z e m) : SrcT s T sz (.sw j z e m) kk tt = ∃ cs, s.blk[j]? = some (.row T sz cs) ∧ z = sz ∧ 0 < sz ∧ (e + m) * sz ≤ cs.length ∧ (∀ u ∈ cs, u.oneCell' = true) ∧ kk m ((cs.drop (e * sz)).take (m * sz)) := Eq.trans rfl rfl
theorem tApp_nil (T sz by' m ys e b R) : AppT T sz by' (.val (.slice none 0 0)) m ys ⟨e, b, R⟩ k tk = ((m = 0 → k (.val (.slice none 0 0)) ⟨e, b, R⟩) ∧ (m ≠ 0 → m * by' ≤ 140737488355328 ∧ k (.sl b.length m) ⟨e, b ++ [.row T sz ys], R⟩)) := Eq.trans rfl rfl
theorem tApp_zero (T sz by' a m ys e b R) : AppT T sz by' (.val (.slice (some a) 0 0)) m ys ⟨e, b, R⟩ k tk = ((m = 0 → k (.val (.slice (some a) 0 0)) ⟨e, b, R⟩) ∧ (m ≠ 0 → m * by' ≤ 140737488355328 ∧ k (.sl b.length m) ⟨e, b ++ [.row T sz ys], R⟩)) := Eq.trans rfl rfl
theorem tApp_shr (T sz by' a n cap m ys e b R) : AppT T sz by' (.val (.slice (some a) (n + 1) cap)) m ys ⟨e, b, R⟩ k tk = AppS b a T sz by' (n + 1) cap m ys R (fun j b' cap' R' cs => k (.val (.slice (some ⟨b', 0, none⟩) (n + 1 + m) cap')) ⟨e, b.set j (.shr b' cap' T sz cs), R'⟩) .mk := Eq.trans rfl rfl
theorem tAt (ad o) : AtT (some ad) o ks ts = ks (.val (.pointer (some (ad.add o)))) := by simp [AtT]
theorem tApp_sl (T sz by' j n m ys e b R) : AppT T sz by' (.sl j n) m ys ⟨e, b, R⟩ k tk = AppO b j T sz by' n m ys (fun cs => k (.sl b.length (n + m)) ⟨e, b.set j .dead ++ [.row T sz cs], R⟩) .mk := Eq.trans rfl rfl
theorem tMk (T sz by' z q n q' m e b R) : MkT T sz by' z (.val (.int q n)) (.val (.int q' m)) ⟨e, b, R⟩ k tk = (0 ≤ n ∧ n ≤ m ∧ m * by' ≤ 140737488355328 ∧ k (.sl b.length n.toNat) ⟨e, b ++ [.row T sz (repCells z n.toNat)], R⟩) := Eq.trans rfl rfl
theorem tSlice_v (sz a len cap lo hi) : SliceT sz (.val (.slice a len cap)) lo hi s k tk = ∃ l h : Nat, bnd s lo 0 l ∧ bnd s hi len h ∧ l ≤ h ∧ h ≤ cap ∧
      k (.val (.slice (if cap = l then a else a.map (·.add (l * sz))) (h - l) (cap - l))) s := Eq.trans rfl rfl
theorem tSlice_sl (sz j len lo hi) : SliceT sz (.sl j len) lo hi s k tk = ∃ l h : Nat, bnd s lo 0 l ∧ bnd s hi len h ∧ l ≤ h ∧ 0 < sz ∧ (∃ T cs, s.blk[j]? = some (.row T sz cs) ∧ h * sz ≤ cs.length) ∧ k (if l = 0 then .sl j h else .sw j sz l (h - l)) s := Eq.trans rfl rfl
theorem tField1 (o cs) : FieldT o none (.val (.agg cs)) kv tv = OptT cs.toList[o]? kv .mk := Eq.trans rfl rfl
theorem tFieldn (o n cs) : FieldT o (some n) (.val (.agg cs)) kv tv = (o + n ≤ cs.toList.length ∧ kv (.agg ((cs.toList.drop o).take n).toArray)) := Eq.trans rfl rfl
theorem tIndex1 (len sz cs q j) : IndexT len sz none (.val (.agg cs)) (.val (.int q j)) kv tv = (0 ≤ j ∧ j < len ∧ OptT cs.toList[j.toNat * sz]? kv .mk) := Eq.trans rfl rfl
theorem tIndexn (len sz n cs q j) : IndexT len sz (some n) (.val (.agg cs)) (.val (.int q j)) kv tv = (0 ≤ j ∧ j < len ∧ j.toNat * sz + n ≤ cs.toList.length ∧ kv (.agg ((cs.toList.drop (j.toNat * sz)).take n).toArray)) := Eq.trans rfl rfl
theorem tRet_nil : RetT [] s kls tls = kls [] s := Eq.trans rfl rfl
theorem tRet_tmp (t r) : RetT (.tmp t :: r) s kls tls = LeafT (s.env t) s (fun v s' => RetT r s' (fun vs s'' => kls (v :: vs) s'') .mk) .mk := Eq.trans rfl rfl
def RetCT (x : SV) (n : Option Nat) (s : St) (r : List RV) (k : List Value → St → Prop) (_ : Tok k) : Prop := match x with
  | .loc j o => match n with
    | none => cellsAt s j o 1 fun us s' => vcRes s' r fun vs s'' => k (us.headD undef :: vs) s''
    | some n => cellsAt s j o n fun us s' => vcRes s' r fun vs s'' => k (.agg us.toArray :: vs) s''
  | _ => False
theorem tRet_cell (t n r) : RetT (.cell t n :: r) s kls tls = RetCT (s.env t) n s r kls .mk := Eq.trans rfl rfl
theorem tRetC_1 (j o r) : RetCT (.loc j o) none s r kls tls = CellsT s j o 1 (fun us s' => RetT r s' (fun vs s'' => kls (us.headD undef :: vs) s'') .mk) .mk := Eq.trans rfl rfl
theorem tRetC_n (j o n r) : RetCT (.loc j o) (some n) s r kls tls = CellsT s j o n (fun us s' => RetT r s' (fun vs s'' => kls (.agg us.toArray :: vs) s'') .mk) .mk := Eq.trans rfl rfl
theorem tEnvS (l t) : envS l t = l.getD t (.val undef) := Eq.trans rfl rfl
def RetST (rs : List RV) (s : St) (k : SV → St → Prop) (_ : Tok k) : Prop := vcResS s rs k
theorem tRetS_tmp (t) : RetST [.tmp t] s k tk = k (s.env t) s := Eq.trans rfl rfl
theorem tRetS_nil : RetST [] s k tk = k (.val (.tuple #[])) s := Eq.trans rfl rfl
theorem tRetS_cons (a b r) : RetST (a :: b :: r) s k tk = RetT (a :: b :: r) s (fun vs s' => k (.val (resVal vs)) s') .mk := by
  cases a <;> rfl
theorem tRetS_cell (t n) : RetST [.cell t n] s k tk = RetT [.cell t n] s (fun vs s' => k (.val (resVal vs)) s') .mk := Eq.trans rfl rfl
theorem tBlkM_nil (ρ sb i) : blkM ρ sb i [] = True := rfl
theorem tBlkM_dead (ρ sb i r) : blkM ρ sb i (.dead :: r) = blkM ρ sb (i + 1) r := rfl
theorem tBlkM_own (ρ sb i F r) : blkM ρ sb i (.own F :: r) = ((∃ G, sb[rn ρ i]? = some (.own G) ∧ RO.le F G) ∧ blkM ρ sb (i + 1) r) := rfl
theorem tBlkM_box (ρ sb i cs r) : blkM ρ sb i (.box cs :: r) = (sb[rn ρ i]? = some (.box (cs.map (ren ρ))) ∧ blkM ρ sb (i + 1) r) := rfl
theorem tBlkM_row (ρ sb i T sz cs r) : blkM ρ sb i (.row T sz cs :: r) = (sb[rn ρ i]? = some (.row T sz cs) ∧ blkM ρ sb (i + 1) r) := rfl
theorem tBlkM_shr (ρ sb i b c T sz cs r) : blkM ρ sb i (.shr b c T sz cs :: r) = (sb[rn ρ i]? = some (.shr b c T sz cs) ∧ blkM ρ sb (i + 1) r) := rfl
theorem tBlkM_it (ρ sb i m a b c r) : blkM ρ sb i (.it m a b c :: r) = (sb[rn ρ i]? = some (.it (rn ρ m) a b c) ∧ blkM ρ sb (i + 1) r) := rfl
theorem tBlkM_mp (ρ sb i es c r) : blkM ρ sb i (.mp es c :: r) = (sb[rn ρ i]? = some (.mp es c) ∧ blkM ρ sb (i + 1) r) := rfl
theorem rnInj_nil (n : Nat) : rnInj [] n = true := by
  simp only [rnInj, List.all_eq_true, List.mem_range, bne_iff_ne, ne_eq, rn_nil]
  intro i _ j hj e
  omega
theorem inScope_nil (vals : List (Nat × SV)) (blks : List Blk) : inScope 0 [] vals blks = (keysOK vals && (vals.all fun p => p.2.ok blks.length) && blks.all (scB blks.length)) := by
  simp [inScope, rnInj_nil]
theorem inScope_zero (ρ : List Nat) (vals : List (Nat × SV)) (blks : List Blk) : inScope 0 ρ vals blks = (keysOK vals && (vals.all fun p => p.2.ok blks.length) && blks.all (scB blks.length) && rnInj ρ blks.length) := by
  simp [inScope]
theorem tOk_val (n v) : SV.ok n (.val v) = true := rfl
theorem tOk_loc (n k o) : SV.ok n (.loc k o) = decide (k < n) := rfl
theorem tOk_sl (n k o) : SV.ok n (.sl k o) = decide (k < n) := rfl
theorem tOk_sw (n k a b c) : SV.ok n (.sw k a b c) = decide (k < n) := rfl
theorem tOk_mp (n k) : SV.ok n (.mp k) = decide (k < n) := rfl
theorem tOk_fn (n f cs) : SV.ok n (.fn f cs) = cs.all (Cap.ok n) := rfl
theorem tScB_dead (n) : scB n .dead = true := rfl
theorem tScB_own (n F) : scB n (.own F) = true := rfl
theorem tScB_box (n cs) : scB n (.box cs) = cs.all (SV.ok n) := rfl
theorem tScB_row (n T sz cs) : scB n (.row T sz cs) = true := rfl
theorem tScB_shr (n b c T sz cs) : scB n (.shr b c T sz cs) = true := rfl
theorem tScB_it (n m a b c) : scB n (.it m a b c) = decide (m < n) := rfl
theorem tScB_mp (n es c) : scB n (.mp es c) = true := rfl
theorem tUnslB_dead (k b cap) : unslB k b cap .dead = .dead := rfl
theorem tUnslB_own (k b cap F) : unslB k b cap (.own F) = .own F := rfl
theorem tUnslB_box (k b cap cs) : unslB k b cap (.box cs) = .box (cs.map (unsl k b cap)) := rfl
theorem tUnslB_row (k b cap T sz cs) : unslB k b cap (.row T sz cs) = .row T sz cs := rfl
theorem tUnslB_shr (k b cap b' c T sz cs) : unslB k b cap (.shr b' c T sz cs) = .shr b' c T sz cs := rfl
theorem tUnslB_it (k b cap m x y z) : unslB k b cap (.it m x y z) = .it m x y z := rfl
theorem tUnslB_mp (k b cap es c) : unslB k b cap (.mp es c) = .mp es c := rfl
theorem tUnsl_fn (k b cap f cs) : unsl k b cap (.fn f cs) = .fn f cs := rfl
theorem tUnsl_mp (k b cap j) : unsl k b cap (.mp j) = .mp j := rfl
theorem tRen_val (ρ v) : ren ρ (.val v) = .val v := rfl
theorem tRen_loc (ρ k o) : ren ρ (.loc k o) = .loc (rn ρ k) o := rfl
theorem tRen_sl (ρ k n) : ren ρ (.sl k n) = .sl (rn ρ k) n := rfl
theorem tRen_mp (ρ k) : ren ρ (.mp k) = .mp (rn ρ k) := rfl
theorem tUpd (e t v i) : upd e t v i = if i = t then v else e i := Eq.trans rfl rfl
theorem tEnvOf (l t) : envOf l t = .val (l.getD t undef) := Eq.trans rfl rfl
end
attribute [go_sem low] inScope_zero Bool.and_eq_true
attribute [go_sem high] inScope_nil ren_nil renB_nil rn_nil tIf_true tIf_false tGrd_tt tGrd_tf tGrd_ft tGrd_ff tGrd_undef
attribute [go_sem] tBlkM_it tScB_it tUnslB_it tBlkM_own tScB_own tUnslB_own tStore_ptr Blk.own.injEq
attribute [go_sem] tOp_mdel tMdel tOp_mrange tMrange tMrangeB tOp_mnext tMnext tMnextI tMnextM tOp_mentry tMentry tMentryI
attribute [go_sem] tOp_isnilP tIsnilP_loc tIsnilP_f tIsnilP_t tOp_mkbm tMkbm tOp_sliceA tSliceA tUn_xor Option.isNone_none Option.isNone_some
attribute [go_sem] tOp_isnil tIsnil_f tIsnil_t tIsnil_sl tIsnil_sw tOp_mmake tOp_mget tMget tOp_mput tMput
attribute [go_sem] tCode_skip tCode_ops tCode_tree tTree_nil tTree_step tTree_pre tTree_alt tOp_minmax3 tMin3 tMax3 tCode_seq tCode_block tCode_exit tCode_ret tCode_bad tCode_loop tCode_condt tCode_condv tIf tIf_dec tGrd tGrd_dt tGrd_df tSteps_nil tSteps_none tSteps_some tPut_none tPut_some tEv_tmp tEv_const tEv_global tEv_func tFrz tFrzE tUnsl_sl tUnsl_val tUnsl_loc
  tOp_mov tOp_pick tOp_bin tOp_un tOp_shift tOp_eqB tOp_eqS tOp_extr tOp_faddr tOp_iaddr tOp_iaddrA tOp_load tOp_build tOp_len tOp_slen tOp_conv tOp_alloc tOp_box tOp_bslice tOp_call tCall_val tEvs_nil tEvs_cons tAllVal_nil tAllVal_val tAllVal_loc tAllVal_sl tAllVal_sw tAllVal_fn tAllVal_mp tValsOf_nil tValsOf_val tOp_callv tCallv_v tCallvV tCallv_fn tOp_mkfn tMkfn tOp_minmax tMin tMax tOp_slice3 tSlice3 tSlice3_sl tSlice3V tIaddr_sw tOp_nilchk tNil_loc tNil_ptr tLeaf1_val tLeaf1_sl tLeaf1_sw tLeaf1_fn tLeaf_loc tLeafL tFrzL tFrzB tFrzBE tUnloc_loc tUnloc_val tUnloc_sl tUnloc_sw tUnloc_mp tUnloc_fn tUnlocC_v tUnlocC_l tUnlocB_dead tUnlocB_own tUnlocB_box tUnlocB_row tUnlocB_shr tUnlocB_it tUnlocB_mp tLeaf_sw tLeafW tLeaf_fn tLeafF tLen_sw tSrc_sw tApp_zero tEnvS tRetS_tmp tRetS_nil tRetS_cons tRetS_cell tBlkM_nil tBlkM_dead tBlkM_box tBlkM_row tBlkM_shr tBlkM_mp tUnsl_fn tUnsl_mp tRen_val tRen_loc tRen_sl tRen_mp capsOf capVals capSV tOp_store tOp_append tOp_mkslice tOp_slice tOp_field tOp_index
  tBin_add tBin_sub tBin_mul tBin_quo tBin_rem tBin_eql tBin_neq tBin_lss tBin_leq tBin_gtr tBin_geq tBin_and tBin_or tBin_xor tBin_seq tBin_sne tUn_not tUn_neg tShl tShr tEqB_f tEqB_t tEqS tEqO_f tEqO_t tExtr tOpt tFaddr_loc tFaddr_ptr tIaddr_v tIaddr_sl tIaddrA_loc tIaddrA_ptr
  tLoad1_loc tLoad1_box tLoad1_row tOptS tLoad1_ptr tLoadn_loc tLoadn_ptr tCells_zero tCells_succ tCell_box tCell_row tLeaf_val tLeaf_sl tLeafB tLeaves_nil tLeaves_cons tFill_nil tFill_cons tLen_v tLen_sl tSlen tConv tStore tStore_box tStore_row tSrc_v tSrc_sl tApp_nil tApp_shr tApp_sl tAt tMk tSlice_v tSlice_sl
  tField1 tFieldn tIndex1 tIndexn tRet_nil tRet_tmp tRet_cell tRetC_1 tRetC_n one'
attribute [go_sem] tUpd tEnvOf putAt putAtS cellsOf repCells bnd tUnslB_dead tUnslB_box tUnslB_row tUnslB_shr tUnslB_mp eqCells resVal Matches keysOK tOk_val tOk_loc tOk_sl tOk_sw tOk_mp tOk_fn tScB_dead tScB_box tScB_row tScB_shr tScB_mp rn Value.oneCell' Value.cells
attribute [go_sem] Int.toNat_natCast Nat.mul_one Nat.zero_mul Nat.zero_add Nat.add_zero Int.natCast_nonneg Nat.le_refl
attribute [go_sem] List.getD_cons_zero List.getD_cons_succ List.getD_nil List.getElem?_cons_zero List.getElem?_cons_succ List.getElem?_nil List.getElem?_toArray List.length_cons List.length_nil List.length_append List.length_set List.set_cons_zero List.set_cons_succ List.nil_append List.cons_append List.append_nil
  List.map_cons List.map_nil List.take_succ_cons List.take_zero List.headD_cons List.mem_cons List.not_mem_nil or_false forall_eq forall_eq_or_imp List.all_cons List.all_nil Bool.and_true Bool.and_self List.size_toArray List.toList_toArray List.drop_zero List.drop_succ_cons
  decide_eq_true_eq decide_eq_false_iff_not true_and and_true if_true if_false forall_const true_implies false_implies implies_true and_self not_true_eq_false not_false_eq_true Bool.not_true Bool.not_false Bool.false_eq_true Bool.true_eq_false ne_eq Option.map_some Option.map_none Option.some.injEq exists_eq_left' exists_eq_left
  Blk.row.injEq Blk.shr.injEq Blk.box.injEq List.cons.injEq IntKind.bits Bool.not_eq_true' Bool.not_eq_false' Bool.not_eq_true Bool.not_eq_false eq_self Classical.not_not Bool.true_and Bool.false_and decide_true decide_false

theorem vload {b : List Blk} {R : RO} {a : Addr} {ks : SV → Prop} {t : Tok ks} (v : Value) (h : R a v) (hk : ks (.val v)) : LoadP (allR b R) a ks t := ⟨v, .inl h, hk⟩
/-- A read of facts of one's own. -/
theorem vloadO {b : List Blk} {R : RO} {a : Addr} {ks : SV → Prop} {t : Tok ks} (j : Nat) (F : RO) (hj : b[j]? = some (.own F)) (v : Value) (h : F a v) (hk : ks (.val v)) : LoadP (allR b R) a ks t := ⟨v, .inr ⟨j, F, hj, h⟩, hk⟩
theorem vloadn {b : List Blk} {R : RO} {a : Addr} {n : Nat} {kv : Value → Prop} {t : Tok kv} (vs : List Value) (hl : vs.length = n) (h : ∀ j v, vs[j]? = some v → R (a.add j) v) (hk : kv (.agg vs.toArray)) : LoadPn (allR b R) a n kv t := ⟨vs, hl, fun j v hj => .inl (h j v hj), hk⟩
theorem vloadnO {b : List Blk} {R : RO} {a : Addr} {n : Nat} {kv : Value → Prop} {t : Tok kv} (i : Nat) (F : RO) (hi : b[i]? = some (.own F)) (vs : List Value) (hl : vs.length = n) (h : ∀ j v, vs[j]? = some v → F (a.add j) v) (hk : kv (.agg vs.toArray)) : LoadPn (allR b R) a n kv t := ⟨vs, hl, fun j v hj => .inr ⟨i, F, hi, h j v hj⟩, hk⟩
theorem vstoreO {e : Nat → SV} {b : List Blk} {R : RO} {n : Nat} {a : Addr} {u : Value} {k : SV → St → Prop} {t : Tok k} (j : Nat) (F : RO) (hj : b[j]? = some (.own F)) (h1 : u.cells.size = n) (h2 : 0 < n) (h3 : ∀ i, i < n → ∃ old, F (a.add i) old) (h4 : ∀ c ∈ u.cells.toList, c.oneCell' = true)
    (hk : k (.val undef) ⟨e, b.set j (.own (putF F a u.cells.toList)), R⟩) : StoreOT n a (.val u) ⟨e, b, R⟩ k t := ⟨j, F, hj, h1, h2, h3, h4, hj, hk⟩
theorem vat {a : Option Addr} {o : Nat} {ks : SV → Prop} {t : Tok ks} (ad : Addr) (h : a = some ad) (hk : ks (.val (.pointer (some (ad.add o))))) : AtT a o ks t := ⟨ad, h, hk⟩
theorem vsrc {b : List Blk} {R : RO} {sz m : Nat} {a : Option Addr} {kk : List Value → Prop} {t : Tok kk} (vs : List Value) (hl : vs.length = m * sz) (h1 : ∀ u ∈ vs, u.oneCell' = true) (h : vs ≠ [] → ∃ ad, a = some ad ∧ ∀ i v, vs[i]? = some v → R (ad.add i) v) (hk : kk vs) : SrcP (allR b R) sz a m kk t := ⟨vs, hl, h1, fun hn => by obtain ⟨ad, h1, h2⟩ := h hn; exact ⟨ad, h1, fun i v hi => .inl (h2 i v hi)⟩, hk⟩
theorem vsrcO {b : List Blk} {R : RO} {sz m : Nat} {a : Option Addr} {kk : List Value → Prop} {t : Tok kk} (j : Nat) (F : RO) (hj : b[j]? = some (.own F)) (vs : List Value) (hl : vs.length = m * sz) (h1 : ∀ u ∈ vs, u.oneCell' = true) (h : vs ≠ [] → ∃ ad, a = some ad ∧ ∀ i v, vs[i]? = some v → F (ad.add i) v) (hk : kk vs) : SrcP (allR b R) sz a m kk t :=
  ⟨vs, hl, h1, fun hn => by obtain ⟨ad, h1, h2⟩ := h hn; exact ⟨ad, h1, fun i v hi => .inr ⟨j, F, hj, h2 i v hi⟩⟩, hk⟩
theorem vapp {b : List Blk} {ad : Addr} {T sz by' n cap m : Nat} {ys : List Value} {R : RO} {k : Nat → Nat → Nat → RO → List Value → Prop} {t : Tok k} (j : Nat) (cs : List Value) (hj : b[j]? = some (.shr ad.block cap T sz cs)) (h0 : ad.off = 0) (h1 : ad.spot = none)
    (hl : cs.length = n * sz) (hb : (n + m) * by' ≤ 140737488355328) (hk : ∀ (b' cap' : Nat) (R' : RO), RO.le R R' → RowIn R' b' (cs ++ ys) → (cs ++ ys).length ≤ cap' * sz → k j b' cap' R' (cs ++ ys)) : AppS b ad T sz by' n cap m ys R k t := ⟨j, cs, hj, h0, h1, hl, hb, fun b' cap' R' g1 g2 g3 _ => hk b' cap' R' g1 g2 g3⟩
/-- The same; a new block has no facts. -/
theorem vappF {b : List Blk} {ad : Addr} {T sz by' n cap m : Nat} {ys : List Value} {R : RO} {k : Nat → Nat → Nat → RO → List Value → Prop} {t : Tok k} (j : Nat) (cs : List Value) (hj : b[j]? = some (.shr ad.block cap T sz cs)) (h0 : ad.off = 0) (h1 : ad.spot = none)
    (hl : cs.length = n * sz) (hb : (n + m) * by' ≤ 140737488355328) (hk : ∀ (b' cap' : Nat) (R' : RO), RO.le R R' → RowIn R' b' (cs ++ ys) → (cs ++ ys).length ≤ cap' * sz → (b' = ad.block ∨ Fresh R b') → k j b' cap' R' (cs ++ ys)) : AppS b ad T sz by' n cap m ys R k t := ⟨j, cs, hj, h0, h1, hl, hb, hk⟩
/-- What a map answers. -/
theorem vmget {b : List Blk} {j : Nat} {ks : Option (List Nat)} {z : Value} {ok : Bool} {a : Value} {k : Value → Prop} {t : Tok k} (es : List MapEntry) (clock : Nat) (r : Option (Nat × Value)) (h0 : mEq ks a a = some true) (hj : b[j]? = some (.mp es clock)) (hr : mfind ks a es 0 = some r) (hk : k (mres z ok r)) : MgetB b j ks z ok a k t := ⟨h0, es, clock, r, hj, hr, hk⟩
/-- A map gets an entry. -/
theorem vmput {e : Nat → SV} {b : List Blk} {R : RO} {j : Nat} {ks : Option (List Nat)} {a u : Value} {k : SV → St → Prop} {t : Tok k} (es : List MapEntry) (clock : Nat) (r : Option (Nat × Value)) (hj : b[j]? = some (.mp es clock)) (hr : mfind ks a es 0 = some r)
    (hk : k (.val undef) ⟨e, b.set j (mset a u es clock r), R⟩) : MputB e b R j ks a u k t := ⟨es, clock, r, hj, hr, hk⟩
/-- A map loses an entry. -/
theorem vmdel {e : Nat → SV} {b : List Blk} {R : RO} {j : Nat} {ks : Option (List Nat)} {a : Value} {k : SV → St → Prop} {t : Tok k} (es : List MapEntry) (clock : Nat) (r : Option (Nat × Value)) (hj : b[j]? = some (.mp es clock)) (hr : mfind ks a es 0 = some r)
    (hk : k (.val (.tuple #[])) ⟨e, b.set j (mdrop es clock r), R⟩) : MdelB e b R j ks a k t := ⟨es, clock, r, hj, hr, hk⟩
/-- The entry of the round. -/
theorem vmentry {es : List MapEntry} {clock last : Nat} {seen : List Nat} {s : St} {k : SV → St → Prop} {t : Tok k} (seen' : List Nat) (e : MapEntry) (h0 : seen = seen' ++ [e.born]) (hl : last = clock) (he : e ∈ es) (hn : (es.map (·.born)).Nodup) (hk : k (.val (.tuple #[e.key, e.val])) s) : MentryM (some (.mp es clock)) seen last s k t := ⟨seen', e, h0, hl, he, hn, hk⟩
theorem vcall {P : Program} {f : FuncId} {args : List Value} {R : RO} {k : RO → Value → Prop} {t : Tok k} {H : Prop} {tH : Tok H} {Post : RO → Value → Prop} (h : CallsR P f args R Post) (hk : ∀ R' v, RO.le R R' → Post R' v → k R' v) : VCallT P f args R k t H tH := .inl ⟨Post, h, hk⟩
/-- The same call, by a contract that hands back blocks of its own. -/
theorem vhand0 {P : Program} {f : FuncId} {args : List Value} {e : Nat → SV} {b : List Blk} {R : RO} {kk : RO → Value → Prop} {t : Tok kk} {k : SV → St → Prop} {ys : List SV} {tH : Tok (HandM true P f ys ⟨e, b, R⟩ k ∨ Lend P f ys ⟨e, b, R⟩ k ∨ LendA P f ys ⟨e, b, R⟩ k)} (g : List Nat) (xs : List SV) (bs : List Blk) {Post : RO → List Blk → SV → Prop} (hc : CallsS P f xs bs R Post) (h1 : ys = xs.map (ren g))
    (h2 : g.length = bs.length) (h3 : rnInj g bs.length = true) (h4 : blkM g b 0 bs) (h5 : ∀ i ∈ g, i < b.length) (h6 : (xs.all (SV.ok bs.length)) = true) (h7 : (bs.all fun b => scB bs.length b && b.noShr) = true)
    (hk : ∀ R' bs' r, RO.le R R' → Post R' bs' r → bs.length ≤ bs'.length →
      k (ren (g ++ List.range' b.length (bs'.length - bs.length)) r) ⟨e, setG b g (bs'.map (renB (g ++ List.range' b.length (bs'.length - bs.length)))), R'⟩) : VCallT P f args R kk t (HandM true P f ys ⟨e, b, R⟩ k ∨ Lend P f ys ⟨e, b, R⟩ k ∨ LendA P f ys ⟨e, b, R⟩ k) tH :=
  .inr <| .inl ⟨g, xs, bs, Post, .inl rfl, hc, h1, h2, h3, h4, h5, h6, h7, hk⟩
theorem renNil (x : SV) : ren [] x = x := by
  cases x with
  | fn f cs =>
    simp only [ren]
    congr 1
    conv => rhs; rw [← List.map_id cs]
    exact List.map_congr_left fun c _ => by cases c <;> rfl
  | _ => rfl
theorem mapRenNil (ys : List SV) : ys.map (ren []) = ys := (List.map_congr_left fun x _ => renNil x).trans (List.map_id ys)
/-- A call with values alone that hands back blocks of its own, wherever it is made. -/
theorem vhandE {m : Bool} {P : Program} {f : FuncId} {args : List Value} {e : Nat → SV} {b : List Blk} {R : RO} {kk : RO → Value → Prop} {t : Tok kk} {k : SV → St → Prop} {ys : List SV} {tH : Tok (HandM m P f ys ⟨e, b, R⟩ k ∨ Lend P f ys ⟨e, b, R⟩ k ∨ LendA P f ys ⟨e, b, R⟩ k)} {Post : RO → List Blk → SV → Prop} (hc : CallsS P f ys [] R Post)
    (h6 : (ys.all (SV.ok 0)) = true) (hk : ∀ R' bs' r, RO.le R R' → Post R' bs' r → k (ren (List.range' b.length bs'.length) r) ⟨e, b ++ bs'.map (renB (List.range' b.length bs'.length)), R'⟩) : VCallT P f args R kk t (HandM m P f ys ⟨e, b, R⟩ k ∨ Lend P f ys ⟨e, b, R⟩ k ∨ LendA P f ys ⟨e, b, R⟩ k) tH :=
  .inr <| .inl ⟨[], ys, [], Post, .inr ⟨rfl, fun _ _ _ _ => rfl⟩, hc, (by rw [mapRenNil]), rfl, rfl, trivial, (by simp), h6, rfl, fun R' bs' r h1 h2 _ => by
    have := hk R' bs' r h1 h2
    have h3 : setG b [] (bs'.map (renB (List.range' b.length bs'.length))) = b ++ bs'.map (renB (List.range' b.length bs'.length)) := by
      cases bs'.map (renB (List.range' b.length bs'.length)) <;> rfl
    simpa [h3] using this⟩
theorem map_val_den (args : List Value) (β κ : Nat → Nat) : (args.map SV.val).map (den β κ) = args := by
  rw [List.map_map]
  conv => rhs; rw [← List.map_id args]
  exact List.map_congr_left fun _ _ => rfl
theorem lendR_own {s : St} {β κ : Nat → Nat} {R' : RO} (h : LendR s β κ R') {F : RO} (hF : Blk.own F ∈ s.blk) : RO.le F R' := by
  obtain ⟨j, hj⟩ := List.mem_iff_getElem?.1 hF
  exact h.2 j _ hj
/-- A call with values alone that also reads facts of one's own. -/
theorem vlendV {P : Program} {f : FuncId} {args : List Value} {e : Nat → SV} {b : List Blk} {R : RO} {kk : RO → Value → Prop} {t : Tok kk} {k : SV → St → Prop} {H : Prop} {ys : List SV} {tH : Tok (H ∨ Lend P f ys ⟨e, b, R⟩ k ∨ LendA P f ys ⟨e, b, R⟩ k)} {Post : RO → RO → Value → Prop} (hys : ys = args.map .val)
    (hc : ∀ R', RO.le R R' → (∀ F, Blk.own F ∈ b → RO.le F R') → CallsR P f args R' (Post R')) (hk : ∀ R' R'' v R3, RO.le R R' → RO.le R' R'' → Post R' R'' v → RO.le R R3 → RO.le (newR R' R'') R3 → k (.val v) ⟨e, b, R3⟩) : VCallT P f args R kk t (H ∨ Lend P f ys ⟨e, b, R⟩ k ∨ LendA P f ys ⟨e, b, R⟩ k) tH :=
  .inr <| .inr <| .inl fun β κ R' h => ⟨Post R', by rw [hys, map_val_den]; exact hc R' h.1 fun F hF => lendR_own h hF, fun R'' v R3 h1 h2 h3 h4 => hk R' R'' v R3 h.1 h1 h2 h3 fun a u hn => h4 a u hn.1 hn.2⟩
/-- A call with values alone whose result becomes the caller's own. -/
theorem vadoptV {P : Program} {f : FuncId} {args : List Value} {e : Nat → SV} {b : List Blk} {R : RO} {kk : RO → Value → Prop} {t : Tok kk} {k : SV → St → Prop} {H : Prop} {ys : List SV} {tH : Tok (H ∨ Lend P f ys ⟨e, b, R⟩ k ∨ LendA P f ys ⟨e, b, R⟩ k)} {Post : RO → RO → Value → Prop} (hys : ys = args.map .val)
    (hc : ∀ R', RO.le R R' → (∀ F, Blk.own F ∈ b → RO.le F R') → CallsR P f args R' (Post R')) (hk : ∀ R' R'' v F, RO.le R R' → RO.le R' R'' → Post R' R'' v → RO.le (newR R' R'') F → k (.val v) ⟨e, b ++ [.own F], R⟩) : VCallT P f args R kk t (H ∨ Lend P f ys ⟨e, b, R⟩ k ∨ LendA P f ys ⟨e, b, R⟩ k) tH :=
  .inr <| .inr <| .inr fun β κ R' h => ⟨Post R', by rw [hys, map_val_den]; exact hc R' h.1 fun F hF => lendR_own h hF, fun R'' v F h1 h2 h3 => hk R' R'' v F h.1 h1 h2 fun a u hn => h3 a u hn.1 hn.2⟩
/-- A loop: its rounds start from 'vals x', 'blks x', for some x with 'Φ x'; ρ tells where a block has lain before. -/
theorem vcLoopR {P : PG} {b : VCode} {s : St} {kn : St → Prop} {ke : Nat → St → Prop} {kr : St → Prop} {t1 : Tok kn} {t2 : Tok ke} {t3 : Tok kr} {t4 : Tok b} (X : Type) (vals : X → List (Nat × SV)) (blks : X → List Blk) (Φ : X → RO → Prop) (μ : X → Nat) (x0 : X) (ρ0 : List Nat)
    (h0 : Matches ρ0 (vals x0) (blks x0) s) (h1 : inScope P.ng ρ0 (vals x0) (blks x0) = true) (h2 : Φ x0 s.R)
    (hr : ∀ x env R', RO.le s.R R' → (∀ p ∈ vals x, env p.1 = p.2) → Φ x R' → CodeT P b ⟨env, blks x, R'⟩
        (fun s' => ∃ x' ρ, μ x' < μ x ∧ Matches ρ (vals x') (blks x') s' ∧ inScope P.ng ρ (vals x') (blks x') = true ∧ Φ x' s'.R) ke kr .mk .mk .mk) : VLoop P b s kn ke kr t1 t2 t3 t4 :=
  ⟨X, vals, blks, Φ, μ, ⟨x0, ρ0, h0, h1, h2⟩, hr⟩
theorem vcLoop {P : PG} {b : VCode} {s : St} {kn : St → Prop} {ke : Nat → St → Prop} {kr : St → Prop} {t1 : Tok kn} {t2 : Tok ke} {t3 : Tok kr} {t4 : Tok b} (X : Type) (vals : X → List (Nat × SV)) (blks : X → List Blk) (Φ : X → RO → Prop) (μ : X → Nat) (x0 : X)
    (h0 : Matches [] (vals x0) (blks x0) s) (h1 : inScope P.ng [] (vals x0) (blks x0) = true) (h2 : Φ x0 s.R)
    (hr : ∀ x env R', RO.le s.R R' → (∀ p ∈ vals x, env p.1 = p.2) → Φ x R' → CodeT P b ⟨env, blks x, R'⟩
        (fun s' => ∃ x', μ x' < μ x ∧ Matches [] (vals x') (blks x') s' ∧ inScope P.ng [] (vals x') (blks x') = true ∧ Φ x' s'.R) ke kr .mk .mk .mk) : VLoop P b s kn ke kr t1 t2 t3 t4 :=
  vcLoopR X vals blks Φ μ x0 [] h0 h1 h2 fun x env R' g1 g2 g3 => vcCode_mono b (fun s' ⟨x', h⟩ => ⟨x', [], h⟩) (fun _ _ h => h) (fun _ h => h) (hr x env R' g1 g2 g3)
theorem callsT {P : Program} (hmix : P.follows .mixedOrders = true) {f : FuncId} {fn : Func} {vc : VCode} {rs : List RV} (hf : P.funcs[f]? = some fn) (hc : compFn P fn = some (vc, rs)) {args : List Value} {R : RO} {Post : RO → Value → Prop}
    (hlen : args.length ≤ fn.ntmps) (h : CodeT ⟨P, 0⟩ vc ⟨envOf args, [], R⟩ (fun s => RetT rs s (fun vs s' => Post s'.R (resVal vs)) .mk) (fun _ _ => False) (fun s => RetT rs s (fun vs s' => Post s'.R (resVal vs)) .mk) .mk .mk .mk) : CallsR P f args R Post :=
  callsR hmix hf hc hlen h
theorem callsTS {P : Program} (hmix : P.follows .mixedOrders = true) {f : FuncId} {fn : Func} {vc : VCode} {rs : List RV} (hf : P.funcs[f]? = some fn) (hc : compFn P fn = some (vc, rs)) {xs : List SV} {bs : List Blk} {R : RO} {Post : RO → List Blk → SV → Prop}
    (hlen : xs.length ≤ fn.ntmps) (hxs : (xs.all (SV.ok bs.length)) = true) (hns : (bs.all Blk.noShr) = true)
    (h : CodeT ⟨P, bs.length⟩ vc ⟨envS xs, bs, R⟩ (fun s => RetST rs s (fun r s' => Post s'.R (s'.blk.map Blk.out) r) .mk) (fun _ _ => False) (fun s => RetST rs s (fun r s' => Post s'.R (s'.blk.map Blk.out) r) .mk) .mk .mk .mk) : CallsS P f xs bs R Post :=
  callsS hmix hf hc hlen hxs hns h
/-- Own memory becomes facts for good. -/
theorem vfreeze {P : PG} {xs : List SV} {m : Bool} {f : FuncId} {args : List Operand} {s : St} {k : SV → St → Prop} {t : Tok k} (h : LeavesT s args (fun vs s' => VCallT P.P f vs s'.R (fun R' v => k (.val v) ⟨s'.env, s'.blk, R'⟩) .mk False .mk) .mk) : CallT P false xs m f args s k t := by
  simp only [CallT, Bool.false_eq_true, if_false]
  exact .inl (leaves_mono _ (fun vs s' h' => h'.resolve_right id) h)
/-- Own memory is lent. -/
theorem vlend {P : PG} {xs : List SV} {m : Bool} {f : FuncId} {args : List Operand} {s : St} {k : SV → St → Prop} {t : Tok k} 
    (h : ∀ β κ R', LendR s β κ R' → ∃ Post, CallsR P.P f (xs.map (den β κ)) R' Post ∧ ∀ R'' v R3, RO.le R' R'' → Post R'' v → RO.le s.R R3 → (∀ a u, R'' a u → Fresh R' a.block → R3 a u) → k (.val v) ⟨s.env, s.blk, R3⟩) : CallT P false xs m f args s k t := by
  simp only [CallT, Bool.false_eq_true, if_false]
  exact .inr (.inl h)
theorem vlendT {m : Bool} {P : Program} {xs : List SV} {f : FuncId} {s : St} {k : SV → St → Prop} {t : Tok k}
    (h : ∀ β κ R', LendR s β κ R' → ∃ Post, CallsR P f (xs.map (den β κ)) R' Post ∧ ∀ R'' v R3, RO.le R' R'' → Post R'' v → RO.le s.R R3 → (∀ a u, R'' a u → Fresh R' a.block → R3 a u) → k (.val v) ⟨s.env, s.blk, R3⟩) : CallFT m P f xs s k t := .inl h
/-- A closure's own blocks are handed to it. -/
theorem vhandT {P : Program} {ys : List SV} {f : FuncId} {s : St} {k : SV → St → Prop} {t : Tok k} (g : List Nat) (xs : List SV) (bs : List Blk) {Post : RO → List Blk → SV → Prop} (hc : CallsS P f xs bs s.R Post) (h1 : ys = xs.map (ren g))
    (h2 : g.length = bs.length) (h3 : rnInj g bs.length = true) (h4 : blkM g s.blk 0 bs) (h5 : ∀ i ∈ g, i < s.blk.length) (h6 : (xs.all (SV.ok bs.length)) = true) (h7 : (bs.all fun b => scB bs.length b && b.noShr) = true)
    (hk : ∀ R' bs' r, RO.le s.R R' → Post R' bs' r → bs.length ≤ bs'.length →
      k (ren (g ++ List.range' s.blk.length (bs'.length - bs.length)) r) ⟨s.env, setG s.blk g (bs'.map (renB (g ++ List.range' s.blk.length (bs'.length - bs.length)))), R'⟩) : CallFT true P f ys s k t :=
  .inr ⟨g, xs, bs, Post, .inl rfl, hc, h1, h2, h3, h4, h5, h6, h7, hk⟩
/-- Own blocks are handed over. -/
theorem vhand {P : PG} {ys : List SV} {f : FuncId} {args : List Operand} {s : St} {k : SV → St → Prop} {t : Tok k} (g : List Nat) (xs : List SV) (bs : List Blk) {Post : RO → List Blk → SV → Prop} (hc : CallsS P.P f xs bs s.R Post) (h1 : ys = xs.map (ren g))
    (h2 : g.length = bs.length) (h3 : rnInj g bs.length = true) (h4 : blkM g s.blk 0 bs) (h5 : ∀ i ∈ g, i < s.blk.length) (h6 : (xs.all (SV.ok bs.length)) = true) (h7 : (bs.all fun b => scB bs.length b && b.noShr) = true)
    (hk : ∀ R' bs' r, RO.le s.R R' → Post R' bs' r → bs.length ≤ bs'.length →
      k (ren (g ++ List.range' s.blk.length (bs'.length - bs.length)) r) ⟨s.env, setG s.blk g (bs'.map (renB (g ++ List.range' s.blk.length (bs'.length - bs.length)))), R'⟩) : CallT P false ys true f args s k t := by
  simp only [CallT, Bool.false_eq_true, if_false]
  exact .inr (.inr (.inl ⟨g, xs, bs, Post, .inl rfl, hc, h1, h2, h3, h4, h5, h6, h7, hk⟩))
/-- Own maps are shown to a call that leaves them as they are. -/
theorem vshow {P : PG} {m : Bool} {ys : List SV} {f : FuncId} {args : List Operand} {s : St} {k : SV → St → Prop} {t : Tok k} (g : List Nat) (xs : List SV) (bs : List Blk) {Post : RO → List Blk → SV → Prop} (hc : CallsS P.P f xs bs s.R Post) (h1 : ys = xs.map (ren g))
    (h2 : g.length = bs.length) (h3 : rnInj g bs.length = true) (h4 : blkM g s.blk 0 bs) (h5 : ∀ i ∈ g, i < s.blk.length) (h6 : (xs.all (SV.ok bs.length)) = true) (h7 : bs.all Blk.isMp = true) (h8 : ∀ R' bs' r, Post R' bs' r → bs'.take bs.length = bs)
    (hk : ∀ R' bs' r, RO.le s.R R' → Post R' bs' r → bs.length ≤ bs'.length →
      k (ren (g ++ List.range' s.blk.length (bs'.length - bs.length)) r) ⟨s.env, setG s.blk g (bs'.map (renB (g ++ List.range' s.blk.length (bs'.length - bs.length)))), R'⟩) : CallT P false ys m f args s k t := by
  simp only [CallT, Bool.false_eq_true, if_false]
  refine .inr (.inr (.inl ⟨g, xs, bs, Post, .inr ⟨h7, h8⟩, hc, h1, h2, h3, h4, h5, h6, ?_, hk⟩))
  rw [List.all_eq_true] at h7 ⊢
  intro b hb
  have := h7 b hb
  cases b <;> first | rfl | cases this
/-- Own memory is lent, and the result becomes the caller's own. -/
theorem vadopt {P : PG} {xs : List SV} {m : Bool} {f : FuncId} {args : List Operand} {s : St} {k : SV → St → Prop} {t : Tok k}
    (h : ∀ β κ R', LendR s β κ R' → ∃ Post, CallsR P.P f (xs.map (den β κ)) R' Post ∧ ∀ R'' v F, RO.le R' R'' → Post R'' v → (∀ a u, R'' a u → Fresh R' a.block → F a u) → k (.val v) ⟨s.env, s.blk ++ [.own F], s.R⟩) : CallT P false xs m f args s k t := by
  simp only [CallT, Bool.false_eq_true, if_false]
  exact .inr (.inr (.inr h))
theorem newR_le {R R' : RO} : RO.le (newR R R') R' := fun _ _ h => h.1
theorem newR_mono {R R' R'' : RO} (h : RO.le R' R'') : RO.le (newR R R') (newR R R'') := fun a u hn => ⟨h a u hn.1, hn.2⟩
theorem newR_sub {R0 R R' : RO} (h : RO.le R0 R) : RO.le (newR R R') (newR R0 R') := fun a u hn => ⟨hn.1, fun x y hx => hn.2 x y (h x y hx)⟩
theorem RowIn.new {R0 R R' : RO} {b : Nat} {cs : List Value} (h : RowIn R' b cs) (hf : Fresh R b) (hle : RO.le R0 R) : RowIn (newR R0 R') b cs := fun i v hi => ⟨h i v hi, fun x y hx => hf x y (hle x y hx)⟩
theorem putF_at {F : RO} {a : Addr} {us : List Value} {i : Nat} {u : Value} (h : us[i]? = some u) : putF F a us (a.add i) u := .inl ⟨i, rfl, h⟩
theorem putF_ne {F : RO} {a x : Addr} {us : List Value} {u : Value} (h : F x u) (hn : ¬ (x.block = a.block ∧ a.off ≤ x.off ∧ x.off < a.off + us.length)) : putF F a us x u := .inr ⟨hn, h⟩
/-- An append to a whole row of the call's own. -/
theorem vappO {b : List Blk} {j T sz by' n m : Nat} {ys : List Value} {k : List Value → Prop} {t : Tok k} (cs : List Value) (hj : b[j]? = some (.row T sz cs)) (hl : cs.length = n * sz) (hb : (n + m) * by' ≤ 140737488355328) (hk : k (cs ++ ys)) : AppO b j T sz by' n m ys k t :=
  ⟨cs, cs, hj, List.prefix_rfl, hl, hb, hk⟩
/-- An append to the first cells of a row of the call's own. -/
theorem vappP {b : List Blk} {j T sz by' n m : Nat} {ys : List Value} {k : List Value → Prop} {t : Tok k} (cs0 cs : List Value) (hj : b[j]? = some (.row T sz cs)) (h0 : cs0 <+: cs) (hl : cs0.length = n * sz) (hb : (n + m) * by' ≤ 140737488355328) (hk : k (cs0 ++ ys)) : AppO b j T sz by' n m ys k t :=
  ⟨cs0, cs, hj, h0, hl, hb, hk⟩

/-! ### A slice that grows from nil on -/
def gs (j n : Nat) : SV := if n = 0 then .val (.slice none 0 0) else .sl j n
def gb (T sz : Nat) (cs : List Value) : Blk := if cs = [] then .dead else .row T sz cs
theorem gs_zero (j : Nat) : gs j 0 = .val (.slice none 0 0) := rfl
theorem gs_succ (j n : Nat) : gs j (n + 1) = .sl j (n + 1) := rfl
theorem gs_pos {j n : Nat} (h : n ≠ 0) : gs j n = .sl j n := if_neg h
theorem gb_nil (T sz : Nat) : gb T sz [] = .dead := rfl
theorem gb_cons (T sz : Nat) (c : Value) (cs : List Value) : gb T sz (c :: cs) = .row T sz (c :: cs) := rfl
theorem gb_ne {T sz : Nat} {cs : List Value} (h : cs ≠ []) : gb T sz cs = .row T sz cs := if_neg h
theorem ren_gs (ρ : List Nat) (j n : Nat) : ren ρ (gs j n) = gs (rn ρ j) n := by unfold gs; split <;> rfl
theorem renB_gb (ρ : List Nat) (T sz : Nat) (cs : List Value) : renB ρ (gb T sz cs) = gb T sz cs := by unfold gb; split <;> rfl
theorem ok_gs {L j n : Nat} (h : j < L) : SV.ok L (gs j n) = true := by unfold gs; split <;> simp [SV.ok, h]
theorem scB_gb (n T sz : Nat) (cs : List Value) : scB n (gb T sz cs) = true := by unfold gb; split <;> rfl
theorem blkM_gb (ρ sb i T sz cs r) : blkM ρ sb i (gb T sz cs :: r) = ((cs ≠ [] → sb[rn ρ i]? = some (.row T sz cs)) ∧ blkM ρ sb (i + 1) r) := by
  unfold gb
  split
  · rename_i h; simp [h, tBlkM_dead]
  · rename_i h; simp [h, tBlkM_row]
theorem len_gs {j n : Nat} {kv : Value → Prop} {tv : Tok kv} : LenT (gs j n) kv tv = kv (.int .i64 n) := by
  unfold gs
  split
  · rename_i h; subst h; rfl
  · rfl
/-- One or more elements are appended to a slice that grows from nil on. -/
theorem vgrow {T sz by' j n m : Nat} {ys : List Value} {e : Nat → SV} {b : List Blk} {R : RO} {k : SV → St → Prop} {t : Tok k} (cs : List Value) (hj : cs ≠ [] → b[j]? = some (gb T sz cs)) (hd : cs = [] → b.set j .dead = b) (hl : cs.length = n * sz) (hsz : 0 < sz) (hm : m ≠ 0) (hb : (n + m) * by' ≤ 140737488355328)
    (hk : k (.sl b.length (n + m)) ⟨e, b.set j .dead ++ [.row T sz (cs ++ ys)], R⟩) : AppT T sz by' (gs j n) m ys ⟨e, b, R⟩ k t := by
  by_cases hn : n = 0
  · subst hn
    have : cs = [] := List.eq_nil_of_length_eq_zero (by rw [hl]; simp)
    subst this
    rw [hd rfl] at hk
    rw [gs_zero, tApp_nil]
    refine ⟨fun e => absurd e hm, fun _ => ⟨by simpa using hb, ?_⟩⟩
    simpa using hk
  · have hne : cs ≠ [] := by
      intro e; subst e
      have := Nat.mul_pos (Nat.pos_of_ne_zero hn) hsz
      simp at hl; omega
    rw [gs_pos hn, tApp_sl]
    exact vappO cs (by rw [hj hne, gb_ne hne]) hl hb hk
theorem ok_gs_eq (L j n : Nat) : SV.ok L (gs j n) = (decide (n = 0) || decide (j < L)) := by
  unfold gs
  split
  · rename_i h; simp [h, tOk_val]
  · rename_i h; simp [h, tOk_sl]
theorem unslB_gb (k b cap T sz : Nat) (cs : List Value) : unslB k b cap (gb T sz cs) = gb T sz cs := by unfold gb; split <;> rfl
theorem unsl_gs (k b cap j n : Nat) : unsl k b cap (gs j n) = if j = k then (if n = 0 then .val (.slice none 0 0) else .val (.slice (some ⟨b, 0, none⟩) n cap)) else gs j n := by
  unfold gs
  by_cases h0 : n = 0
  · simp [h0, unsl]
  · by_cases hj : j = k <;> simp [h0, hj, unsl]
/-- The dead ones of a list of blocks stay as they are. -/
theorem set_dead_gb {b : List Blk} {j : Nat} (h : b[j]? = some .dead) : b.set j .dead = b := by
  apply List.ext_getElem?
  intro i
  rw [List.getElem?_set]
  split
  · rename_i e; subst e; rw [if_pos (List.getElem?_eq_some_iff.1 h).1, h]
  · rfl
attribute [go_sem] gs_zero gs_succ ren_gs blkM_gb unslB_gb unsl_gs len_gs gb_nil gb_cons scB_gb ok_gs_eq Bool.or_true
theorem vgrow0 {T sz by' j n : Nat} {e : Nat → SV} {b : List Blk} {R : RO} {k : SV → St → Prop} {t : Tok k} (hn : n = 0) (hk : k (.val (.slice none 0 0)) ⟨e, b, R⟩) : AppT T sz by' (gs j n) 0 [] ⟨e, b, R⟩ k t := by
  subst hn
  rw [gs_zero, tApp_nil]
  exact ⟨fun _ => hk, fun e => absurd rfl e⟩
theorem W.u64 {r : Int} (h : 0 ≤ r ∧ r ≤ 18446744073709551615) : W .u64 r r := by
  unfold W; rw [IntKind.wrap_u64]; omega
theorem W.mod64 (r : Int) : W .u64 r (r % 18446744073709551616) := by
  unfold W; rw [IntKind.wrap_u64]

/-! ### How values read, in the facts R -/
/-- A slice of one-cell elements. -/
def Sl (R : RO) (v : Value) (xs : List Value) : Prop :=
  ∃ a cap, v = .slice a xs.length cap ∧ xs.length ≤ cap ∧ ∀ i u, xs[i]? = some u → ∃ ad, a = some ad ∧ R (ad.add i) u
theorem Sl.mono {R R' : RO} {v : Value} {xs : List Value} (h : Sl R v xs) (hle : RO.le R R') : Sl R' v xs := by
  obtain ⟨a, cap, e, hc, h⟩ := h
  exact ⟨a, cap, e, hc, fun i u hi => by obtain ⟨ad, e, hr⟩ := h i u hi; exact ⟨ad, e, hle _ _ hr⟩⟩
/-- A slice of integers. -/
def Ints (R : RO) (v : Value) (xs : List Int) : Prop := Sl R v (xs.map (.int .i64))
theorem Ints.mono {R R' : RO} {v : Value} {xs : List Int} (h : Ints R v xs) (hle : RO.le R R') : Ints R' v xs := Sl.mono h hle
theorem Ints.form {R : RO} {v : Value} {xs : List Int} (h : Ints R v xs) : ∃ a cap, v = .slice a xs.length cap ∧ xs.length ≤ cap ∧ ∀ i (hi : i < xs.length), ∃ ad, a = some ad ∧ R (ad.add i) (.int .i64 xs[i]) := by
  obtain ⟨a, cap, e, hc, h⟩ := h
  rw [List.length_map] at e hc
  exact ⟨a, cap, e, hc, fun i hi => h i _ (by simp [hi])⟩
/-- A slice of elements of k cells each. -/
def SlK (R : RO) (v : Value) (k : Nat) (xs : List (List Value)) : Prop :=
  ∃ a cap, v = .slice a xs.length cap ∧ xs.length ≤ cap ∧ ∀ i us, xs[i]? = some us → us.length = k ∧ ∃ ad, a = some ad ∧ ∀ j u, us[j]? = some u → R ((ad.add (i * k)).add j) u
theorem SlK.mono {R R' : RO} {v : Value} {k : Nat} {xs : List (List Value)} (h : SlK R v k xs) (hle : RO.le R R') : SlK R' v k xs := by
  obtain ⟨a, cap, e, hc, h⟩ := h
  exact ⟨a, cap, e, hc, fun i us hi => by obtain ⟨h1, ad, e, hr⟩ := h i us hi; exact ⟨h1, ad, e, fun j u hj => hle _ _ (hr j u hj)⟩⟩
theorem add_add (a : Addr) (i j : Nat) : (a.add i).add j = a.add (i + j) := by
  unfold Addr.add
  by_cases hi : i = 0 <;> by_cases hj : j = 0 <;> simp [hi, hj, Nat.add_assoc]
/-- A row of the call's own, frozen, is a slice of one-cell elements. -/
theorem RowIn.sl {R : RO} {b cap : Nat} {cs : List Value} (h : RowIn R b cs) (hc : cs.length ≤ cap * 1) : Sl R (.slice (some ⟨b, 0, none⟩) cs.length cap) cs :=
  ⟨_, cap, rfl, by omega, fun i u hi => ⟨_, rfl, by rw [Addr.add_lit, Nat.zero_add]; exact h i u hi⟩⟩
theorem RowIn.ints {R : RO} {b cap : Nat} {xs : List Int} (h : RowIn R b (xs.map (.int .i64))) (hc : xs.length ≤ cap * 1) : Ints R (.slice (some ⟨b, 0, none⟩) xs.length cap) xs := by
  have := h.sl (cap := cap) (by simpa using hc)
  simpa [Ints] using this
theorem getElem?_flatten {α : Type} {k : Nat} : ∀ {xs : List (List α)}, (∀ us ∈ xs, us.length = k) → ∀ (i j : Nat) (us : List α), xs[i]? = some us → j < k → xs.flatten[i * k + j]? = us[j]?
  | [], _, i, j, us, h, _ => by simp at h
  | x :: xs, hx, 0, j, us, h, hj => by
    simp only [List.getElem?_cons_zero, Option.some.injEq] at h
    subst h
    simp only [List.flatten_cons, Nat.zero_mul, Nat.zero_add]
    rw [List.getElem?_append_left (by rw [hx x (by simp)]; exact hj)]
  | x :: xs, hx, i + 1, j, us, h, hj => by
    simp only [List.getElem?_cons_succ] at h
    simp only [List.flatten_cons]
    have hl := hx x (by simp)
    rw [List.getElem?_append_right (by rw [hl, Nat.add_mul]; omega), hl]
    have := getElem?_flatten (fun us hus => hx us (by simp [hus])) i j us h hj
    rw [← this]
    congr 1
    rw [Nat.add_mul]; omega
theorem length_flattenK {α : Type} {k : Nat} : ∀ {xs : List (List α)}, (∀ us ∈ xs, us.length = k) → xs.flatten.length = xs.length * k
  | [], _ => by simp
  | x :: xs, hx => by
    simp only [List.flatten_cons, List.length_append, List.length_cons, Nat.add_mul]
    rw [length_flattenK (fun us hus => hx us (by simp [hus])), hx x (by simp)]
    omega
/-- A row of the call's own, frozen, is a slice of elements of k cells each. -/
theorem RowIn.slK {R : RO} {b cap k : Nat} {xs : List (List Value)} (h : RowIn R b xs.flatten) (hk : ∀ us ∈ xs, us.length = k) (h0 : 0 < k) (hc : xs.flatten.length ≤ cap * k) : SlK R (.slice (some ⟨b, 0, none⟩) xs.length cap) k xs := by
  rw [length_flattenK hk] at hc
  refine ⟨_, cap, rfl, Nat.le_of_mul_le_mul_right hc h0, fun i us hi => ⟨hk us (List.mem_of_getElem? hi), _, rfl, fun j u hj => ?_⟩⟩
  rw [add_add, Addr.add_lit, Nat.zero_add]
  refine h _ u ?_
  have hj' := (List.getElem?_eq_some_iff.1 hj).1
  rw [getElem?_flatten hk i j us hi (by rw [← hk us (List.mem_of_getElem? hi)]; exact hj')]
  exact hj
theorem RowIn.mono {R R' : RO} {b : Nat} {cs : List Value} (h : RowIn R b cs) (hle : RO.le R R') : RowIn R' b cs := fun i v hi => hle _ _ (h i v hi)
theorem RO.le_refl (R : RO) : RO.le R R := fun _ _ h => h
theorem RO.le_trans {a b c : RO} (h : RO.le a b) (k : RO.le b c) : RO.le a c := fun x v hx => k x v (h x v hx)
theorem Ints.nil (R : RO) : Ints R (.slice none 0 0) [] := ⟨none, 0, rfl, Nat.le_refl _, by simp⟩

/-! ### Go's division -/
theorem tmod_nonneg' {a b : Int} (h : 0 ≤ a) : a.tmod b = a % b := Int.tmod_eq_emod_of_nonneg h
theorem tdiv_nonneg' {a b : Int} (h : 0 ≤ a) (_hb : 0 ≤ b) : a.tdiv b = a / b := Int.tdiv_eq_ediv_of_nonneg h
theorem tmod_fix (a b : Int) (hb : 1 ≤ b) : (if a.tmod b < 0 then a.tmod b + b else a.tmod b) = a % b := by
  have h1 := Int.emod_nonneg a (show b ≠ 0 by omega)
  have h2 := Int.emod_lt_of_pos a (show 0 < b by omega)
  have h3 := Int.tmod_eq_emod (a := a) (b := b)
  have h4 : (b.natAbs : Int) = b := by omega
  split at h3
  · rw [if_neg (by omega)]; omega
  · rename_i hn
    rw [h4] at h3
    by_cases h0 : a % b = 0
    · exfalso
      exact hn (.inr (Int.dvd_of_emod_eq_zero h0))
    · rw [if_pos (by omega)]; omega
theorem tmod_bd (a b : Int) (hb : 1 ≤ b) : -b < a.tmod b ∧ a.tmod b < b := by
  have h1 := Int.emod_nonneg a (show b ≠ 0 by omega)
  have h2 := Int.emod_lt_of_pos a (show 0 < b by omega)
  have h3 := Int.tmod_eq_emod (a := a) (b := b)
  have h4 : (b.natAbs : Int) = b := by omega
  split at h3 <;> omega
theorem tdiv_fix (a b : Int) (hb : 1 ≤ b) : (if a.tmod b < 0 then a.tdiv b - 1 else a.tdiv b) = a / b := by
  have h1 := Int.mul_tdiv_add_tmod a b
  have h2 := Int.mul_ediv_add_emod a b
  have h3 := tmod_fix a b hb
  split at h3
  · rename_i h
    rw [if_pos h]
    have : b * (a.tdiv b - 1) = b * (a / b) := by rw [Int.mul_sub]; omega
    exact Int.eq_of_mul_eq_mul_left (by omega) this
  · rename_i h
    rw [if_neg h]
    have : b * (a.tdiv b) = b * (a / b) := by omega
    exact Int.eq_of_mul_eq_mul_left (by omega) this
theorem ediv_bd (a b : Int) (hb : 1 ≤ b) : (0 ≤ a → 0 ≤ a / b ∧ a / b ≤ a) ∧ (a < 0 → a ≤ a / b ∧ a / b < 0) := by
  refine ⟨fun h => ⟨Int.ediv_nonneg h (by omega), Int.ediv_le_self b h⟩, fun h => ⟨?_, Int.ediv_neg_of_neg_of_pos h (by omega)⟩⟩
  have h1 : a * b ≤ a * 1 := Int.mul_le_mul_of_nonpos_left (by omega) (by omega)
  exact (Int.le_ediv_iff_mul_le (by omega)).2 (by omega)
theorem tdiv_bd (a b : Int) (hb : 1 ≤ b) : (0 ≤ a → 0 ≤ a.tdiv b ∧ a.tdiv b ≤ a) ∧ (a < 0 → a ≤ a.tdiv b ∧ a.tdiv b ≤ 0) := by
  have h1 := tdiv_fix a b hb
  have h2 := ediv_bd a b hb
  have h3 : 0 ≤ a → a.tmod b = a % b := fun h => tmod_nonneg' h
  have h4 := Int.emod_nonneg a (show b ≠ 0 by omega)
  split at h1 <;> constructor <;> intro h <;> omega
end Go.Proofs.YtcjdbfnnbejmeaaGreat.Vc
