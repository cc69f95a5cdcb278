import Derived.Test.YtpnhiknfcpkfbaaEk
namespace Go.Proofs.Ytpnhiknfcpkfbaa
set_option linter.unusedSimpArgs false
set_option linter.unusedVariables false
open Go.Proofs.Ytpnhiknfcpkfbaa.Vc
def lessD (a b : De) : Bool := decide (a.seq < b.seq ∨ a.seq = b.seq ∧ a.device < b.device)
def overD (a b : De) : Bool := overE (a.ed none 0 0) (b.ed none 0 0)
def validD (d : De) : Bool := validE (d.ed none d.rule.length 0)
def keyEq (a b : De) : Bool := decide (a.device = b.device ∧ a.seq = b.seq)
def addD (out : List De) (d : De) : Option (List De) :=
  if validD d = true then
    match out.find? (keyEq d) with
    | some old => if old = d then some out else none
    | none => some (out ++ [d])
  else none
def distD : List De → List De → Option (List De)
  | out, [] => some out
  | out, d :: r => match addD out d with
    | some o => distD o r
    | none => none
def sortD (l : List De) : List De := l.mergeSort fun a b => !lessD b a
/-- The different edits of a list in canonical order; or an error. -/
def okD : Option (List De) → Except Int (List De)
  | none => .error 1
  | some o => .ok (sortD o)
def allD (l : List De) : Except Int (List De) := if 4096 < l.length then .error 2 else okD (distD [] l)
def KeysD (l : List De) : Prop := l.Pairwise fun a b => keyEq a b = false
def SortedD (l : List De) : Prop := l.Pairwise fun a b => lessD a b = true
theorem keyEq_iff (a b : De) : keyEq a b = true ↔ a.device = b.device ∧ a.seq = b.seq := by simp [keyEq]
theorem keyEq_symm (a b : De) : keyEq a b = keyEq b a := by
  unfold keyEq; congr 1; apply propext; constructor <;> rintro ⟨h, k⟩ <;> exact ⟨h.symm, k.symm⟩
theorem lessD_iff (a b : De) : lessD a b = true ↔ a.seq < b.seq ∨ a.seq = b.seq ∧ a.device < b.device := by simp [lessD]
theorem lessD_false (a b : De) : lessD a b = false ↔ ¬ (a.seq < b.seq ∨ a.seq = b.seq ∧ a.device < b.device) := by simp [lessD]
theorem lessD_irrefl (a : De) : lessD a a = false := by rw [lessD_false]; omega
theorem lessD_trans {a b c : De} (h : lessD a b = true) (k : lessD b c = true) : lessD a c = true := by
  rw [lessD_iff] at *; omega
theorem lessD_total {a b : De} (h : lessD a b = false) (k : lessD b a = false) : keyEq a b = true := by
  rw [lessD_false] at *; rw [keyEq_iff]; omega
theorem lessD_asymm {a b : De} (h : lessD a b = true) : lessD b a = false := by
  rw [lessD_false]; rw [lessD_iff] at h; omega
theorem lessD_key {a b : De} (h : lessD a b = true) : keyEq a b = false := by
  rw [lessD_iff] at h
  cases hk : keyEq a b with
  | false => rfl
  | true => rw [keyEq_iff] at hk; omega
/-- A strictly sorted list is told by its members. -/
theorem SortedD.ext : ∀ {a b : List De}, SortedD a → SortedD b → (∀ d, d ∈ a ↔ d ∈ b) → a = b
  | [], [], _, _, _ => rfl
  | [], y :: b, _, _, h => by have := (h y).2 (by simp); simp at this
  | x :: a, [], _, _, h => by have := (h x).1 (by simp); simp at this
  | x :: a, y :: b, ha, hb, h => by
    have ha' := List.pairwise_cons.1 ha
    have hb' := List.pairwise_cons.1 hb
    have hxy : x = y := by
      have h1 := (h x).1 (by simp)
      have h2 := (h y).2 (by simp)
      rcases List.mem_cons.1 h1 with e | h1
      · exact e
      rcases List.mem_cons.1 h2 with e | h2
      · exact e.symm
      have l1 := hb'.1 x h1
      have l2 := ha'.1 y h2
      rw [lessD_asymm l1] at l2; cases l2
    subst hxy
    congr 1
    refine SortedD.ext ha'.2 hb'.2 fun d => ⟨fun hd => ?_, fun hd => ?_⟩
    · rcases List.mem_cons.1 ((h d).1 (by simp [hd])) with e | hd'
      · subst e; have := ha'.1 d hd; rw [lessD_irrefl] at this; cases this
      · exact hd'
    · rcases List.mem_cons.1 ((h d).2 (by simp [hd])) with e | hd'
      · subst e; have := hb'.1 d hd; rw [lessD_irrefl] at this; cases this
      · exact hd'
theorem keysD_perm {a b : List De} (h : a.Perm b) (hk : KeysD a) : KeysD b := List.Perm.pairwise h hk fun {x y} hxy => by rw [keyEq_symm]; exact hxy
theorem sortedD_of {ys : List De} (hk : KeysD ys) (hs : ys.Pairwise fun x y => lessD y x = false) : SortedD ys := by
  refine List.Pairwise.imp₂ (fun x y h1 h2 => ?_) hk hs
  cases hl : lessD x y with
  | true => rfl
  | false => rw [lessD_total hl h2] at h1; cases h1
theorem sortD_perm (l : List De) : (sortD l).Perm l := List.mergeSort_perm _ _
theorem sortD_sorted {l : List De} (hk : KeysD l) : SortedD (sortD l) := by
  refine sortedD_of (keysD_perm (sortD_perm l).symm hk) ?_
  have := List.pairwise_mergeSort (le := fun a b : De => !lessD b a) (fun a b c h1 h2 => ?_) (fun a b => ?_) l
  · exact this.imp fun h => by simpa using h
  · simp only [Bool.not_eq_true'] at *
    rw [lessD_false] at *; omega
  · cases h : lessD b a with
    | false => simp
    | true => simp [lessD_asymm h]
/-- What is sorted somehow is what we sort. -/
theorem sortD_eq {l ys : List De} (hk : KeysD l) (hp : ys.Perm l) (hs : ys.Pairwise fun x y => lessD y x = false) : ys = sortD l :=
  SortedD.ext (sortedD_of (keysD_perm hp.symm hk) hs) (sortD_sorted hk) fun d => (hp.mem_iff).trans (sortD_perm l).mem_iff.symm
theorem addD_keys {out o : List De} {d : De} (h : addD out d = some o) (hk : KeysD out) : KeysD o := by
  unfold addD at h
  split at h
  · split at h
    · split at h
      · cases h; exact hk
      · cases h
    · rename_i hf
      cases h
      refine List.pairwise_append.2 ⟨hk, by simp, fun x hx y hy => ?_⟩
      simp only [List.mem_cons, List.not_mem_nil, or_false] at hy
      subst hy
      have := List.find?_eq_none.1 hf x hx
      rw [keyEq_symm]; simpa using this
  · cases h
theorem distD_keys : ∀ {l out o : List De}, distD out l = some o → KeysD out → KeysD o
  | [], out, o, h, hk => by simp only [distD, Option.some.injEq] at h; subst h; exact hk
  | d :: r, out, o, h, hk => by
    unfold distD at h
    split at h
    · rename_i o' ho'
      exact distD_keys h (addD_keys ho' hk)
    · cases h
theorem distD_snoc : ∀ (l out : List De) (d : De), distD out (l ++ [d]) = (distD out l).bind fun o => addD o d
  | [], out, d => by
    simp only [List.nil_append, distD, Option.bind_some]
    cases addD out d <;> rfl
  | x :: l, out, d => by
    simp only [List.cons_append, distD]
    cases addD out x with
    | none => rfl
    | some o => exact distD_snoc l o d
theorem distD_none_append : ∀ (l out r : List De), distD out l = none → distD out (l ++ r) = none
  | [], out, r, h => by simp [distD] at h
  | x :: l, out, r, h => by
    simp only [List.cons_append, distD] at h ⊢
    cases hx : addD out x with
    | none => rfl
    | some o => rw [hx] at h; exact distD_none_append l o r h
/-- An edit, and where its rule lies. -/
abbrev Pl := De × Option Addr × Nat × Nat
def Pl.ed (p : Pl) : Ed := p.1.ed p.2.1 p.2.2.1 p.2.2.2
def PlOK (R : RO) (p : Pl) : Prop := RuleV R (.slice p.2.1 p.2.2.1 p.2.2.2) p.1.rule
theorem PlOK.mono {R R' : RO} {p : Pl} (h : PlOK R p) (hle : RO.le R R') : PlOK R' p := RuleV.mono h hle
theorem PlOK.edV {R : RO} {p : Pl} (h : PlOK R p) : EdV R p.ed.cells p.1 := ⟨_, _, _, rfl, h⟩
instance : Inhabited Pl := ⟨(⟨0, 0, 0, 0, ⟨0, false, 0, 0, 0⟩, 0, 0, [], ⟨#[]⟩⟩, none, 0, 0)⟩
theorem edcells_one (e : Ed) : ∀ v ∈ e.cells, v.oneCell' = true := by
  intro v hv
  simp only [Ed.cells, List.mem_cons, List.not_mem_nil, or_false] at hv
  rcases hv with rfl | rfl | rfl | rfl | rfl | rfl | rfl | rfl | rfl | rfl | rfl | rfl | rfl <;> rfl
def keyV (d : De) : Value := .agg #[.int .i64 d.device, .int .i64 d.seq]
/-- The entries of the map of the known edits. -/
def ents : Nat → List Pl → List MapEntry
  | _, [] => []
  | i, q :: r => ⟨keyV q.1, q.ed.val, i⟩ :: ents (i + 1) r
theorem ents_snoc : ∀ (l : List Pl) (i : Nat) (q : Pl), ents i (l ++ [q]) = ents i l ++ [⟨keyV q.1, q.ed.val, i + l.length⟩]
  | [], i, q => rfl
  | x :: l, i, q => by
    simp only [List.cons_append, ents, ents_snoc l (i + 1) q, List.length_cons]
    rw [show i + 1 + l.length = i + (l.length + 1) by omega]
theorem mEq_key (a b : De) : mEq (some [0, 0]) (keyV a) (keyV b) = some (keyEq a b) := by
  simp [mEq, keyV, eqCells, keyEq]
theorem mfind_none (d : De) : ∀ (l : List Pl) (c i : Nat), (∀ q ∈ l, keyEq d q.1 = false) → mfind (some [0, 0]) (keyV d) (ents c l) i = some none
  | [], c, i, _ => rfl
  | q :: l, c, i, h => by
    rw [ents, mfind, mEq_key, h q (by simp)]
    exact mfind_none d l (c + 1) (i + 1) fun q hq => h q (by simp [hq])
theorem mfind_some (d : De) (q : Pl) : ∀ (l : List Pl) (c i : Nat), l.find? (fun q => keyEq d q.1) = some q → ∃ j, mfind (some [0, 0]) (keyV d) (ents c l) i = some (some (j, q.ed.val))
  | [], c, i, h => by simp at h
  | x :: l, c, i, h => by
    rw [ents, mfind, mEq_key]
    rw [List.find?_cons] at h
    cases hx : keyEq d x.1 with
    | true => rw [hx] at h; simp only [Option.some.injEq] at h; subst h; exact ⟨i, rfl⟩
    | false => rw [hx] at h; exact mfind_some d q l (c + 1) (i + 1) h
theorem distD_bad {ds o : List De} {i : Nat} (hi : i < ds.length) (h : distD [] (ds.take i) = some o) (hb : addD o ds[i] = none) : distD [] ds = none := by
  have h1 : distD [] (ds.take (i + 1)) = none := by
    rw [List.take_succ_eq_append_getElem hi, distD_snoc, h]; exact hb
  have := distD_none_append _ _ (ds.drop (i + 1)) h1
  rwa [List.take_append_drop] at this
theorem distD_step {ds o : List De} {i : Nat} (hi : i < ds.length) (h : distD [] (ds.take i) = some o) : distD [] (ds.take (i + 1)) = addD o ds[i] := by
  rw [List.take_succ_eq_append_getElem hi, distD_snoc, h]; rfl
theorem find_fst (qs : List Pl) (d : De) : (qs.map (·.1)).find? (keyEq d) = (qs.find? fun q => keyEq d q.1).map (·.1) := by
  rw [List.find?_map]; rfl
theorem addD_invalid {o : List De} {d : De} (h : validD d = false) : addD o d = none := by unfold addD; simp [h]
theorem addD_new {o : List De} {d : De} (h : validD d = true) (k : o.find? (keyEq d) = none) : addD o d = some (o ++ [d]) := by unfold addD; simp [h, k]
theorem addD_old {o : List De} {d x : De} (h : validD d = true) (k : o.find? (keyEq d) = some x) : addD o d = if x = d then some o else none := by unfold addD; simp [h, k]
/-- The cells of a row of edits. -/
def rowP (ps : List Pl) : List Value := (ps.map fun p => p.ed.cells).flatten
theorem rowP_nil : rowP [] = [] := rfl
theorem rowP_snoc (ps : List Pl) (q : Pl) : rowP (ps ++ [q]) = rowP ps ++ q.ed.cells := by simp [rowP]
theorem cellsP_len (ps : List Pl) : ∀ c ∈ ps.map fun p => p.ed.cells, c.length = 13 := fun c hc => by
  obtain ⟨p, _, rfl⟩ := List.mem_map.1 hc
  rfl
theorem rowP_get (ps : List Pl) (i j : Nat) (hi : i < ps.length) (hj : j < 13) : (rowP ps)[i * 13 + j]? = (ps[i].ed.cells)[j]? :=
  getElem?_flatten (cellsP_len ps) i j _ (by rw [List.getElem?_map, List.getElem?_eq_getElem hi]; rfl) hj
theorem rowP_len (ps : List Pl) : (rowP ps).length = ps.length * 13 := by
  unfold rowP
  rw [length_flattenK (cellsP_len ps)]
  simp
theorem rowP_take (ps : List Pl) (n : Nat) : (rowP ps).take (n * 13) = rowP (ps.take n) := by
  induction ps generalizing n with
  | nil => simp [rowP]
  | cons p ps ih =>
    cases n with
    | zero => simp [rowP]
    | succ n =>
      have h1 : rowP (p :: ps) = p.ed.cells ++ rowP ps := by simp [rowP]
      have h2 : rowP ((p :: ps).take (n + 1)) = p.ed.cells ++ rowP (ps.take n) := by simp [rowP]
      have hl : p.ed.cells.length = 13 := rfl
      rw [h1, h2, ← ih n, show (n + 1) * 13 = p.ed.cells.length + n * 13 by rw [hl]; omega, List.take_append, List.take_of_length_le (by omega)]
      congr 2; omega
theorem rowP_drop (ps : List Pl) (n : Nat) : (rowP ps).drop (n * 13) = rowP (ps.drop n) := by
  induction ps generalizing n with
  | nil => simp [rowP]
  | cons p ps ih =>
    cases n with
    | zero => simp
    | succ n =>
      have h1 : rowP (p :: ps) = p.ed.cells ++ rowP ps := by simp [rowP]
      have hl : p.ed.cells.length = 13 := rfl
      rw [h1, List.drop_succ_cons, ← ih n, List.drop_append, List.drop_of_length_le (by rw [hl]; omega), List.nil_append, hl]
      congr 1; omega
theorem rowP_app (ps qs : List Pl) : rowP (ps ++ qs) = rowP ps ++ rowP qs := by simp [rowP]
theorem rowP_one (ps : List Pl) : ∀ u ∈ rowP ps, u.oneCell' = true := fun u hu => by
  obtain ⟨c, hc, hu⟩ := List.mem_flatten.1 hu
  obtain ⟨p, _, rfl⟩ := List.mem_map.1 hc
  exact edcells_one _ u hu
theorem allD_error {l : List De} {k : Int} (h : allD l = .error k) : k = 2 ∨ k = 1 := by
  unfold allD at h
  split at h
  · simp only [Except.error.injEq] at h; exact .inl h.symm
  · cases hd : distD [] l with
    | none => rw [hd] at h; simp only [okD, Except.error.injEq] at h; exact .inr h.symm
    | some o => rw [hd] at h; simp [okD] at h
end Go.Proofs.Ytpnhiknfcpkfbaa
