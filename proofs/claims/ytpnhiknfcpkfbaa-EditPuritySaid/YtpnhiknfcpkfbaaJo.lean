/- Plain lemmas of our own, no statement of the seat: how a law's row follows from a contract of its function, whatever the arguments. -/
import Derived.Test.YtpnhiknfcpkfbaaRows
import Derived.Test.YtpnhiknfcpkfbaaVcI
import Derived.ProofKit
import Derived.SizedLaws
import Derived.Deep.Slices
import Derived.Deep.Fields
import Derived.Lib.SmallJoins
namespace Go.Proofs.Ytpnhiknfcpkfbaa
set_option linter.unusedSimpArgs false
set_option linter.unusedVariables false
open Go.ChangeShapes Go.WideShapes Go.ChangeAt Go.RowKit Go.Joins Go.Proofs.Ytpnhiknfcpkfbaa.Vc

theorem Try.own : ownKnob Try.prog.godebug = none := by kernel_rfl
theorem Try.laidOut : laidOutB Try.prog = true := by kernel_rfl
section
variable {H : Type} {enc : TypeId × Value → H} {P : Program}
/-- Below the heap's old size nothing has turned: the arguments read as they did. -/
theorem trodAll_stay (hl : laidOutB P = true) {W W' : World} {sp : Nat → Bool} (hb : Ext W W') : ∀ {ts : List TypeId} {vs : List Value} {ds : List (DataW H)} {ps : List MemPlace},
    (∀ t ∈ ts, P.readableRec t = true ∧ t < P.types.size) → DataW.TrodAll enc P W 0 (fun _ => true) true ts vs ds ps → (∀ x ∈ ps, x.block < W.heap.size) → (∀ x ∈ ps, sp x.block = true) → DataW.TrodAll enc P W' 0 sp true ts vs ds ps
  | [], [], [], ps, _, h, _, _ => h
  | t :: ts, v :: vs, d :: ds, ps, ht, ⟨p, q, h1, h2, he⟩, hlt, hsp => by
    subst he
    refine ⟨p, q, WideElems.Trod_stays hl (ht t (by simp)).1 (ht t (by simp)).2 h1 (fun x hx => hb.below.same (hlt x (by simp [hx]))) (fun x hx => hsp x (by simp [hx])), ?_, rfl⟩
    exact trodAll_stay hl hb (fun t h => ht t (by simp [h])) h2 (fun x hx => hlt x (by simp [hx])) (fun x hx => hsp x (by simp [hx]))
theorem trodAll_len {w : World} {base : Nat} {sp : Nat → Bool} {held : Bool} : ∀ {ts : List TypeId} {vs : List Value} {ds : List (DataW H)} {ps : List MemPlace}, DataW.TrodAll enc P w base sp held ts vs ds ps → ds.length = ts.length
  | [], [], [], ps, _ => rfl
  | t :: ts, v :: vs, d :: ds, ps, ⟨p, q, _, h2, _⟩ => by simp [trodAll_len h2]
/-- What a law's row asks behind the call: 'true', and the arguments as they were, through the places that they lay at. -/
theorem law_post {f : Func} {s : ChangeSpec} {W W' : World} {args : Array Value} {ds : List (DataW H)} {ps : List MemPlace} {tb : TypeId} (hl : laidOutB P = true) (hvars : s.vars = []) (hfres : f.resultTypes = #[tb]) (hb : P.underlying tb = some .bool)
    (hread : ∀ t ∈ f.params.toList, P.readableRec t = true ∧ t < P.types.size) (hs : s.fn H ds = { results := [.lit (.bool true)], args := ds })
    (hW : DataW.Whole enc P f.params.toList s.vars false W args.toList ds [] ps) (hA : DataW.TrodAll enc P W 0 (fun _ => true) true f.params.toList args.toList ds ps) (hext : Ext W W') : s.post enc P f false true false false W args (.bool true) W' := by
  have hlt : ∀ x ∈ ps, x.block < W.heap.size := fun x hx => hW.lt x hx
  have hds : s.fn H (ds ++ []) = { results := [.lit (.bool true)], args := ds } := by rw [List.append_nil]; exact hs
  have hbool : ∀ (b : Nat) (sp : Nat → Bool) (hd : Bool), DataW.TrodAll enc P W' b sp hd f.resultTypes.toList ((Value.bool true).resultList f.resultTypes.size) [.lit (.bool true)] [] := fun b sp hd => by
    rw [hfres]
    exact trodAll_mk1 ⟨1, by simp [DataW.trod, Value.cells, hb]⟩
  have hargs := fun (sp : Nat → Bool) (hsp : ∀ x ∈ ps, sp x.block = true) => trodAll_stay (enc := enc) hl hext hread hA hlt hsp
  have hnoV : ∀ sp : Nat → Bool, DataW.TrodVars enc P W' sp s.vars ([] : List (DataW H)) [] := fun sp => by rw [hvars]; rfl
  have hfrozen : W'.noneFrozen ps := by
    obtain ⟨_, _, _, _, _, hz, _⟩ := hW
    intro b off hp
    rw [hext.below.frozen (hlt _ hp)]
    exact hz b off hp
  refine ⟨ds, [], ps, [], ps, [], hW, by rw [hds]; exact hbool _ _ _, by rw [hds]; exact hargs (fun b => decide (b < W.heap.size)) (fun x hx => by simpa using hlt x hx), by rw [hds]; exact hnoV _, World.keptBut_mono (fun x hx => ⟨hx, .inr (by simpa using hx)⟩) (hext.below.frame (· ∈ ps)), fun _ => ⟨fun j t r hj hr => ?_, [.lit (.bool true)] ++ ds, [], ps, ⟨ps, [], ?_, hnoV _, by simp, hfrozen, fun e => by cases e⟩, fun p hp _ => by simpa using hp⟩⟩
  · rw [hfres] at hj hr
    match j with
    | 0 =>
      simp only [List.getElem?_toArray, List.getElem?_cons_zero, Option.some.injEq] at hj
      subst hj
      have : r = .bool true := by simpa [Value.resultList] using hr.symm
      subst this
      simp [Value.okWide, hb, Cell.okWide, Cell.ok]
    | j + 1 => simp at hj
  · have := trodAll_append (hargs (fun _ => true) (fun _ _ => rfl)) (hbool 0 (fun _ => true) true)
    simpa using this
end
/-- The facts of a whole world. -/
def factsOf (W : World) : RO := fun a v => W.cell? a = some v
set_option maxRecDepth 100000 in
/-- A law's row, from a contract of its function. -/
theorem lawLifted {os : Os} (started : os.Started) {H : Type} {enc : TypeId × Value → H} {n : Nat} {fn : Func} {s : ChangeSpec} {tb : TypeId} (noInit : Try.checked.prog.inits.idxOf? n = none) (hfn : Try.checked.prog.funcs[n]? = some fn)
    (hvars : s.vars = []) (hres : fn.resultTypes = #[tb]) (hbool : Try.checked.prog.underlying tb = some .bool) (hread : ∀ t ∈ fn.params.toList, Try.prog.readableRec t = true ∧ t < Try.prog.types.size)
    (hs : ∀ ds : List (DataW H), ds.length = fn.params.toList.length → s.fn H ds = { results := [.lit (.bool true)], args := ds })
    (witness : ∃ (w : World) (tape : Tape) (i : Input), w.os = os ∧ (w.forCall tape i).Shaped Try.checked.prog ∧ i.vars = [] ∧ Input.okWide Try.checked.prog (w.forCall tape i) .any w.heap.size n i ∧
      s.pre6 enc Try.checked.prog fn [] false (w.forCall tape i).memory i.args ∧ Assume.holds {} Try.checked.prog (lone (Frame.enter Try.checked.prog n i.args .normal) [] (w.forCall tape i)))
    (hlaw : ∀ (W : World) (base : Nat) (args : Array Value) (ds : List (DataW H)) (ps : List MemPlace), (∀ (j : Nat) t v, fn.params[j]? = some t → args[j]? = some v → Value.okWide Try.prog W .any base t v) →
      DataW.TrodAll enc Try.prog W 0 (fun _ => true) true fn.params.toList args.toList ds ps → (DataW.weightsEach Try.prog fn.params.toList ds).all (· ≤ reachBytes) = true →
      CallsR Try.prog n args.toList (factsOf W) fun _ v => v = .bool true) :
    ReturnsInHanded {} Try.checked os n .any (s.pre6 enc Try.prog fn [] false) (s.post enc Try.prog fn false true false false) := by
  refine returnsInHanded_of_change_sized (C := Try.checked) Try.own started noInit hfn witness ?_
  intro W base args ds gs before hval hW hcnd hwt _
  have hW0 := hW
  obtain ⟨p, q, hA, hV, rfl, hfz, hnd⟩ := hW0
  rw [hvars] at hV
  obtain ⟨rfl, rfl⟩ := trodVars_none hV
  have hvt : s.plain.varTypes Try.checked.prog = [] := by simp [ChangeSpec.plain, DataSpec.varTypes, hvars]
  rw [hvt, List.append_nil, List.append_nil] at hwt
  have hlt : ∀ x ∈ p ++ [], x.block < W.heap.size := fun x hx => hW.lt x hx
  rw [List.append_nil] at hlt
  refine (hlaw W base args ds p hval hA hwt W (fun a v h => h)).mono ?_
  rintro e W' ⟨v, R', rfl, -, -, hext, rfl⟩
  rw [List.append_nil] at hW
  exact ⟨_, rfl, law_post Try.laidOut hvars hres hbool hread (hs ds (trodAll_len hA)) hW hA hext⟩
/-! ### Arguments, opened: what they hold, as facts -/
section
variable {H : Type} {enc : TypeId × Value → H} {W : World} {base fuel : Nat} {spare : Nat → Bool} {held : Bool}
theorem wf_i64 {n : Int} (h : (Lit.int .i64 n).wf = true) : -9223372036854775808 ≤ n ∧ n ≤ 9223372036854775807 := by
  have h1 : IntKind.i64.min = -9223372036854775808 := by decide
  have h2 : IntKind.i64.max = 9223372036854775807 := by decide
  simp only [Lit.wf, Bool.and_eq_true, decide_eq_true_eq] at h
  omega
theorem open_ints_in {t e : TypeId} {cs : List Value} {x : DataW H × List MemPlace} (ht : Try.prog.underlying t = some (.slice e)) (he : Try.prog.underlying e = some (.int .i64)) (hc : Try.prog.cellsOf e = 1) (hb : Try.prog.bytesOf e = 8)
    (h : DataW.trod enc Try.prog W base spare held fuel t cs = some x) (hw : ∀ n ∈ x.1.weights Try.prog t, n ≤ reachBytes) :
    ∃ v xs, cs = [v] ∧ Ints (factsOf W) v xs ∧ (∀ m ∈ xs, -9223372036854775808 ≤ m ∧ m ≤ 9223372036854775807) ∧ xs.length ≤ 17592186044416 := by
  rcases open_ints ht he hc h with ⟨rfl, rfl⟩ | ⟨a, len, cap, zs, rfl, -, hl, hm, hz, rfl, hcell, hwf⟩
  · exact ⟨_, [], rfl, Ints.nil _, by simp, by simp⟩
  · have hlen : len ≤ zs.length := by rw [hz]; split <;> omega
    refine ⟨_, zs.take len, rfl, ⟨some a, cap, by simp [List.length_take, Nat.min_eq_left hlen], by simp [List.length_take]; omega, fun i u hi => ⟨a, rfl, ?_⟩⟩, fun m hmem => wf_i64 (hwf m (List.mem_of_mem_take hmem)), ?_⟩
    · rw [List.getElem?_map] at hi
      obtain ⟨z, hz', rfl⟩ := Option.map_eq_some_iff.1 hi
      rw [List.getElem?_take] at hz'
      split at hz'
      · rename_i hil
        have := hcell i (by omega)
        rw [List.getD_eq_getElem?_getD, hz', Option.getD_some] at this
        exact this
      · cases hz'
    · have := hw ((lits .i64 (zs.take len) : List (DataW H)).length * 8 + (lits .i64 (zs.drop len) : List (DataW H)).length * 8) (by
        simp only [DataW.weights, ht, hb, Nat.add_mul]
        exact List.mem_cons_self)
      simp only [lits, List.length_map, List.length_take, List.length_drop, Nat.min_eq_left hlen] at this
      unfold reachBytes at this
      rw [List.length_take, Nat.min_eq_left hlen]
      omega
end
end Go.Proofs.Ytpnhiknfcpkfbaa
