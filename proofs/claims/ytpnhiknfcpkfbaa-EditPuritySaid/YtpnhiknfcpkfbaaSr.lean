/- Plain lemmas of our own, no statement of the seat: contracts of the library's sorts at a row of the caller's own. -/
import Derived.Test.YtpnhiknfcpkfbaaVcI
import Derived.Test.YtpnhiknfcpkfbaaSo
import Derived.Sort.OwnSortedInts
import Derived.Shelf.SlSortCmp.WholeK
import Derived.Shelf.SlSortCmp.NoneTotal
import Derived.Shelf.SortM.Plain
import Derived.Shelf.SlicesG.CompactI
namespace Go.Proofs.Ytpnhiknfcpkfbaa.Vc
set_option linter.unusedSimpArgs false
set_option linter.unusedVariables false
open Go.RowKit Go.Shelf Go.Sort

theorem putCells_map {α : Type} [Inhabited α] (enc : α → Value) (off : Nat) (d : Array α) (c : Array Value) : putCells enc off d c = putCells id off (d.map enc) c := by
  apply Array.ext_getElem?
  intro k
  simp only [putCells, Array.getElem?_mapIdx, Array.size_map, id_eq]
  cases c[k]? with
  | none => rfl
  | some x =>
    simp only [Option.map_some]
    split
    · rename_i h
      have h1 : k - off < d.size := by omega
      rw [getElem!_pos d (k - off) h1, getElem!_pos (d.map enc) (k - off) (by simpa using h1), Array.getElem_map]
    · rfl
theorem putRow_map {α : Type} [Inhabited α] (enc : α → Value) (w : World) (b off : Nat) (d : Array α) : putRow enc w b off d = putRow id w b off (d.map enc) := by
  unfold putRow
  congr 1
  funext c
  exact putCells_map enc off d c
theorem putCells_toList {cs' : List Value} {arr : Array Value} (h : cs'.length ≤ arr.size) : cs' <+: (putCells id 0 cs'.toArray arr).toList := by
  rw [List.prefix_iff_eq_take]
  apply List.ext_getElem?
  intro i
  rw [List.getElem?_take]
  by_cases hi : i < cs'.length
  · rw [if_pos hi, Array.getElem?_toList]
    simp [putCells, hi, show i < arr.size by omega]
  · rw [if_neg hi, List.getElem?_eq_none (by omega)]
theorem flatK_toList {α : Type} [Inhabited α] (enc : α → List Value) (k : Nat) (hk : ∀ x, (enc x).length = k) (d : Array α) : flatK enc k d = ((d.toList.map enc).flatten).toArray := by
  have hl : ∀ us ∈ d.toList.map enc, us.length = k := fun us hus => by
    obtain ⟨x, _, rfl⟩ := List.mem_map.1 hus
    exact hk x
  apply Array.ext_getElem?
  intro t
  by_cases ht : t < d.size * k
  · have h1 : t < (flatK enc k d).size := by rw [size_flatK]; exact ht
    have hk0 : 0 < k := by
      rcases Nat.eq_zero_or_pos k with h | h
      · subst h; simp at ht
      · exact h
    have hq : t / k < d.size := (Nat.div_lt_iff_lt_mul hk0).2 ht
    rw [Array.getElem?_eq_getElem h1, ← getElem!_pos (flatK enc k d) t h1, get_flatK _ _ _ t ht, List.getElem?_toArray]
    have h2 := getElem?_flatten hl (t / k) (t % k) (enc d[t / k]) (by simp [hq]) (Nat.mod_lt _ hk0)
    rw [Nat.mul_comm, Nat.div_add_mod] at h2
    rw [h2, getElem!_pos d (t / k) hq]
    have h3 : t % k < (enc d[t / k]).length := by rw [hk]; exact Nat.mod_lt _ hk0
    rw [getElem!_pos (enc d[t / k]) (t % k) h3, List.getElem?_eq_getElem h3]
  · rw [Array.getElem?_eq_none (by rw [size_flatK]; omega), List.getElem?_toArray, List.getElem?_eq_none (by rw [length_flattenK hl]; simp; omega)]

/-- A call that turns the cells of one row. -/
theorem rowS {P : Program} {f : FuncId} {vs : List Value} {n T sz : Nat} {cs : List Value} {R : RO} {Q : List Value → SV → Prop}
    (h : ∀ (w : World) (β κ : Nat → Nat) (arr : Array Value), w.heap[β 0]? = some (.cells arr T (0, 0)) → cs <+: arr.toList → κ 0 * sz = arr.size → κ 0 ≤ maxLen →
      Calls P f (Value.slice (some ⟨β 0, 0, none⟩) n (κ 0) :: vs).toArray w fun e w' => ∃ r cs' m os, e = .returned (den β κ r) ∧ SV.ok 1 r = true ∧ cs'.length = cs.length ∧ Q cs' r ∧ w' = grow (putRow id (Sort.ahead w m) (β 0) 0 cs'.toArray) os) :
    CallsS P f (.sl 0 n :: vs.map .val) [.row T sz cs] R fun R' bs r => R' = R ∧ ∃ cs', bs = [.row T sz cs'] ∧ cs'.length = cs.length ∧ Q cs' r := by
  intro w β κ hG
  obtain ⟨_, arr, hb, hp, hs, hcl, hm⟩ := hG.blk 0 _ rfl
  have hv : (vs.map SV.val).map (den β κ) = vs := by
    rw [List.map_map]
    conv => rhs; rw [← List.map_id vs]
    exact List.map_congr_left fun _ _ => rfl
  simp only [List.map_cons, hv, den]
  refine (h w β κ arr hb hp hs hm).mono ?_
  rintro e w' ⟨r, cs', m, os, rfl, hr, hl, hQ, rfl⟩
  have hlt : β 0 < w.heap.size := (Array.getElem?_eq_some_iff.1 hb).1
  have hb' : (grow (putRow id (Sort.ahead w m) (β 0) 0 cs'.toArray) os).heap[β 0]? = some (.cells (putCells id 0 cs'.toArray arr) T (0, 0)) := by
    rw [heap_grow_old _ _ (by simpa [putRow, mapBlock, Sort.ahead] using hlt)]
    simp [putRow, mapBlock, Sort.ahead, Array.getElem?_modify, hb, onCells]
  have ho : ∀ k, k < w.heap.size → k ≠ β 0 → (grow (putRow id (Sort.ahead w m) (β 0) 0 cs'.toArray) os).heap[k]? = w.heap[k]? := fun k hk hne => by
    rw [heap_grow_old _ _ (by simpa [putRow, mapBlock, Sort.ahead] using hk)]
    simp [putRow, mapBlock, Sort.ahead, Array.getElem?_modify, Ne.symm hne]
  have harr : cs'.length ≤ arr.size := by rw [hl, ← hs]; exact hcl
  refine ⟨β, κ, [.row T sz cs'], r, R, rfl, fun _ _ h => h, ⟨?_, ?_, ?_⟩, hr, by simp, by simp [Blk.noShr], fun _ _ => ⟨rfl, rfl⟩, ?_, fun a v h => .inl h, ⟨rfl, rfl, rfl, ?_, ?_, ?_⟩, rfl, cs', rfl, hl, hQ⟩
  · intro j b hj
    cases j with
    | zero =>
      simp only [List.getElem?_cons_zero, Option.some.injEq] at hj
      subst hj
      exact ⟨trivial, _, hb', putCells_toList harr, by rw [hs]; simp [putCells], by rw [hl]; exact hcl, hm⟩
    | succ j => simp at hj
  · intro i j b b' hi hj _ _ _
    have h1 := (List.getElem?_eq_some_iff.1 hi).1
    have h2 := (List.getElem?_eq_some_iff.1 hj).1
    simp only [List.length_cons, List.length_nil] at h1 h2
    omega
  · intro a v ha
    obtain ⟨h1, h2⟩ := hG.ro a v ha
    have h3 := h2 0 _ rfl rfl
    refine ⟨?_, ?_⟩
    · rw [World.cell?_of_block (ho a.block (World.block_lt_of_cell? w a h1) h3)]
      exact h1
    · intro j b hj hb
      cases j with
      | zero => exact h3
      | succ j => simp at hj
  · intro j b hj hb
    cases j with
    | zero => exact .inr ⟨0, _, rfl, rfl, rfl⟩
    | succ j => simp at hj
  · simp [putRow, mapBlock, Sort.ahead]
  · intro k hk hg
    refine ho k hk fun e => hg ⟨0, _, rfl, rfl, e⟩
  · simp [grow, putRow, mapBlock, Sort.ahead]

variable {P : Program} {ρ : Ren} {α : Type} [Inhabited α]
theorem pairwise_sortedIn {lt : α → α → Bool} {d : Array α} (h : SortedIn lt 0 d.size d) : d.toList.Pairwise fun x y => lt y x = false := by
  rw [List.pairwise_iff_getElem]
  intro i j hi hj hij
  have := h i j (Nat.zero_le _) hij (by simpa using hj)
  rw [getElem!_pos d i (by simpa using hi), getElem!_pos d j (by simpa using hj)] at this
  simpa using this
theorem permIn_perm {d d' : Array α} (h : PermIn 0 d.size d d') : d'.toList.Perm d.toList := by
  have h3 := h.2.2
  have e1 : d.extract 0 d.size = d := by simp
  have e2 : d'.extract 0 d.size = d' := by rw [← h.1]; simp
  rw [e1, e2] at h3
  exact h3
/-- slices.SortFunc at structs, at a row of the caller's own. -/
theorem sortFuncS (L : SlLaysF0.n6 P ρ) (k : Nat) (aE : ∀ w, (isAgg (ρ.t 24)).run P w = .ok true w) (zE : ∀ w, (Go.sizeOf (ρ.t 24)).run P w = .ok k w) (enc : α → List Value) (hk : ∀ x, (enc x).length = k) (h1 : ∀ x, ∀ v ∈ enc x, v.oneCell' = true) (cf : α → α → Int) (hO : SWO (ltOf cf)) (g : Nat) (T : Nat)
    (eg : ∀ args w, (callFunc g args).run P w = .ok (.enter g args) w) (hg : ∀ x y, CallsR P g [.agg (enc x).toArray, .agg (enc y).toArray] (fun _ _ => False) fun _ v => v = .int .i64 (cf x y)) (xs : List α) (hl : xs.length < 4611686018427387904) (R : RO) :
    CallsS P (ρ.f 6) [.sl 0 xs.length, .val (.func (.func g) #[] #[])] [.row T k (xs.map enc).flatten] R fun R' bs r => R' = R ∧ ∃ ys : List α, ys.Perm xs ∧ (ys.Pairwise fun x y => ltOf cf y x = false) ∧ bs = [.row T k (ys.map enc).flatten] ∧ r = .val (.tuple #[]) := by
  have hfl : ∀ zs : List α, (zs.map enc).flatten.length = zs.length * k := fun zs => by
    rw [length_flattenK (k := k) (fun us hus => by obtain ⟨x, _, rfl⟩ := List.mem_map.1 hus; exact hk x)]
    simp
  have key := rowS (P := P) (f := ρ.f 6) (vs := [.func (.func g) #[] #[]]) (n := xs.length) (T := T) (sz := k) (cs := (xs.map enc).flatten) (R := R)
    (Q := fun cs' r => ∃ ys : List α, ys.Perm xs ∧ (ys.Pairwise fun x y => ltOf cf y x = false) ∧ cs' = (ys.map enc).flatten ∧ r = .val (.tuple #[])) ?_
  · intro w β κ hG
    refine (key w β κ hG).mono ?_
    rintro e w' ⟨β', κ', bs', r, R', h1, h2, h3, h4, h5, h6, h7, h8, h9, h10, h11, cs', h12, _, ys, h13, h14, h15, h16⟩
    exact ⟨β', κ', bs', r, R', h1, h2, h3, h4, h5, h6, h7, h8, h9, h10, h11, ys, h13, h14, by rw [h12, h15], h16⟩
  · intro w β κ arr hb hp hs hm
    have hlt : β 0 < w.heap.size := (Array.getElem?_eq_some_iff.1 hb).1
    have hH : HoldsK enc k w (β 0) 0 xs.toArray := by
      intro j hj
      have hj' : j < (xs.map enc).flatten.length := by rw [hfl]; simpa using hj
      have hget : (flatK enc k xs.toArray)[j]! = (xs.map enc).flatten[j] := by
        rw [flatK_toList enc k hk]
        rw [getElem!_pos _ j (by simpa using hj')]
        simp
      refine ⟨?_, by simp [World.frozen?, hb]⟩
      rw [hget]
      simp only [World.cell?, hb, Nat.zero_add, Option.isSome_none, Bool.false_eq_true, if_false]
      rw [← Array.getElem?_toList, id_eq]
      obtain ⟨tl, ht⟩ := hp
      rw [← ht, List.getElem?_append_left hj', List.getElem?_eq_getElem hj']
    have hcmp : CmpLays P g #[] enc k cf (β 0) 0 xs.toArray.size w := by
      intro m os dk _ x y
      refine (hg x y (sortWorldK enc k w (β 0) 0 m dk os) (fun _ _ h => h.elim)).mono ?_
      rintro e w' ⟨v, R', rfl, _, _, hext, rfl⟩
      exact ⟨rfl, ext_grow hext⟩
    have := AnyQ.slices_SortFunc L k aE zE enc hk h1 cf hO g #[] (β 0) 0 (κ 0) xs.toArray w eg hcmp hH hlt (by simpa using hl)
    simp only [List.size_toArray] at this
    refine this.mono ?_
    rintro e w' ⟨rfl, d', n, os, hperm, hsort, rfl⟩
    have hsz : d'.size = xs.length := by simpa using hperm.1
    refine ⟨.val (.tuple #[]), (d'.toList.map enc).flatten, n, os, rfl, rfl, by rw [hfl, hfl]; simp [hsz], ⟨d'.toList, ?_, ?_, rfl, rfl⟩, ?_⟩
    · have := permIn_perm (d := xs.toArray) (d' := d') hperm
      simpa using this
    · exact pairwise_sortedIn (by rw [hsz]; exact hsort)
    · unfold sortWorldK putRowK
      rw [flatK_toList enc k hk]
theorem callsR_still {f : FuncId} {args : List Value} {r : Value} (h : ∀ w, Calls P f args.toArray w fun e w' => e = .returned r ∧ w' = w) (R : RO) : CallsR P f args R fun _ v => v = r := by
  intro w hR
  refine (h w).mono ?_
  rintro e w' ⟨rfl, rfl⟩
  exact ⟨_, R, rfl, fun _ _ h => h, fun a v ha => ⟨hR a v ha, .inl ha⟩, Ext.refl _, rfl⟩
theorem sortFuncNil (L : SlLaysF0.n6 P ρ) (fv : Value) (R : RO) : CallsR P (ρ.f 6) [.slice none 0 0, fv] R fun _ v => v = .tuple #[] :=
  callsR_still (fun w => AnyF.slices_SortFunc_none L none 0 fv w) R
/-- slices.Sort at integers, at a row of the caller's own. -/
theorem sortIntsS (L : SlLaysM.n5 P ρ) (T : Nat) (xs : List Int) (hl : xs.length < 4611686018427387904) (R : RO) :
    CallsS P (ρ.f 5) [.sl 0 xs.length] [.row T 1 (xs.map (.int .i64))] R fun R' bs r => R' = R ∧ bs = [.row T 1 ((xs.mergeSort fun x y => decide (x ≤ y)).map (.int .i64))] ∧ r = .val (.tuple #[]) := by
  have key := rowS (P := P) (f := ρ.f 5) (vs := []) (n := xs.length) (T := T) (sz := 1) (cs := xs.map (.int .i64)) (R := R)
    (Q := fun cs' r => cs' = (xs.mergeSort fun x y => decide (x ≤ y)).map (.int .i64) ∧ r = .val (.tuple #[])) ?_
  · intro w β κ hG
    refine (key w β κ hG).mono ?_
    rintro e w' ⟨β', κ', bs', r, R', h1, h2, h3, h4, h5, h6, h7, h8, h9, h10, h11, cs', h12, _, h13, h14⟩
    exact ⟨β', κ', bs', r, R', h1, h2, h3, h4, h5, h6, h7, h8, h9, h10, h11, by rw [h12, h13], h14⟩
  · intro w β κ arr hb hp hs hm
    have hlt : β 0 < w.heap.size := (Array.getElem?_eq_some_iff.1 hb).1
    have hH : Holds (Value.int .i64) w (β 0) 0 xs.toArray := holds_of_blockI hb (by
      rw [List.prefix_iff_eq_take] at hp
      rw [List.length_map] at hp
      exact hp.symm)
    refine (AnyM.slices_Sort_int L (β 0) 0 (κ 0) xs w hH hlt hl).mono ?_
    rintro e w' ⟨rfl, n, os, rfl⟩
    refine ⟨.val (.tuple #[]), (xs.mergeSort fun x y => decide (x ≤ y)).map (.int .i64), n, os, rfl, rfl, by simp, ⟨rfl, rfl⟩, ?_⟩
    rw [putRow_map]
    simp
theorem compactIntsS (L : SlLaysN.n43 P ρ) (T : Nat) (xs : List Int) (hl : xs.length ≤ 9223372036854775807) (R : RO) :
    CallsS P (ρ.f 43) [.sl 0 xs.length] [.row T 1 (xs.map (.int .i64))] R fun R' bs r => R' = R ∧ bs = [.row T 1 ((Lib.compact xs ++ List.replicate (xs.length - (Lib.compact xs).length) 0).map (.int .i64))] ∧ r = .sl 0 (Lib.compact xs).length := by
  have key := rowS (P := P) (f := ρ.f 43) (vs := []) (n := xs.length) (T := T) (sz := 1) (cs := xs.map (.int .i64)) (R := R)
    (Q := fun cs' r => cs' = (Lib.compact xs ++ List.replicate (xs.length - (Lib.compact xs).length) 0).map (.int .i64) ∧ r = .sl 0 (Lib.compact xs).length) ?_
  · intro w β κ hG
    refine (key w β κ hG).mono ?_
    rintro e w' ⟨β', κ', bs', r, R', h1, h2, h3, h4, h5, h6, h7, h8, h9, h10, h11, cs', h12, _, h13, h14⟩
    exact ⟨β', κ', bs', r, R', h1, h2, h3, h4, h5, h6, h7, h8, h9, h10, h11, by rw [h12, h13], h14⟩
  · intro w β κ arr hb hp hs hm
    have hH : Holds (Value.int .i64) w (β 0) 0 xs.toArray := holds_of_blockI hb (by
      rw [List.prefix_iff_eq_take] at hp
      rw [List.length_map] at hp
      exact hp.symm)
    have hcap : xs.length ≤ κ 0 := by
      have := hp.length_le
      simp at this
      omega
    have hle : (Lib.compact xs).length ≤ xs.length := by
      unfold Lib.compact
      unfold Lib.compactUpTo
      rw [List.length_map]
      refine Nat.le_trans (List.length_filter_le _ _) ?_
      simp
    refine (AnyG.slices_Compact_int L (β 0) 0 (κ 0) xs w hH hl hcap).mono ?_
    rintro e w' ⟨rfl, q, rfl⟩
    refine ⟨.sl 0 (Lib.compact xs).length, (Lib.compact xs ++ List.replicate (xs.length - (Lib.compact xs).length) 0).map (.int .i64), q, #[], rfl, rfl, by simp; omega, ⟨rfl, rfl⟩, ?_⟩
    rw [putRow_map, grow_empty]
    simp
end Go.Proofs.Ytpnhiknfcpkfbaa.Vc
