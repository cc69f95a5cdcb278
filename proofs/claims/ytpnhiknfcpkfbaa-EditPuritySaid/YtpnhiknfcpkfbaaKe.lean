/- Plain lemmas of our own, no statement of the seat: writing into results. -/
import Derived.Test.YtpnhiknfcpkfbaaKc
namespace Go.Proofs.Ytpnhiknfcpkfbaa
set_option linter.unusedSimpArgs false
set_option linter.unusedVariables false
open Go.Proofs.Ytpnhiknfcpkfbaa.Vc
theorem add_off (a : Addr) (n : Nat) : (a.add n).off = a.off + n := by unfold Addr.add; split <;> simp_all
theorem add_blk (a : Addr) (n : Nat) : (a.add n).block = a.block := by unfold Addr.add; split <;> rfl
/-- Facts that hold together: one value at a place. -/
def Func (R : RO) : Prop := ∀ x u y v, R x u → R y v → x.block = y.block → x.off = y.off → x = y ∧ u = v
theorem Func.sub {R R' : RO} (h : Func R') (hle : RO.le R R') : Func R := fun x u y v h1 h2 => h x u y v (hle _ _ h1) (hle _ _ h2)
theorem cell_spot {w : World} {a : Addr} {v : Value} (h : w.cell? a = some v) : a.spot = none := by
  unfold World.cell? at h
  split at h
  · split at h
    · exact absurd h (by simp)
    · rename_i h'
      cases hs : a.spot with
      | none => rfl
      | some x => rw [hs] at h'; exact absurd rfl h'
  · exact absurd h (by simp)
/-- A contract's facts hold together. -/
theorem callsR_func {P : Program} {f : FuncId} {args : List Value} {R : RO} {Post : RO → Value → Prop} (h : CallsR P f args R Post) : CallsR P f args R fun R' v => Post R' v ∧ Func R' := by
  intro w hR
  refine (h w hR).mono ?_
  rintro e w' ⟨v, R', h1, h2, h3, h4, h5⟩
  refine ⟨v, R', h1, h2, h3, h4, h5, fun x u y u' hx hy hb ho => ?_⟩
  have e1 := (h3 x u hx).1
  have e2 := (h3 y u' hy).1
  have s1 := cell_spot e1
  have s2 := cell_spot e2
  have hxy : x = y := by
    obtain ⟨b, o, s⟩ := x
    obtain ⟨b', o', s'⟩ := y
    simp only at hb ho s1 s2
    subst hb ho s1 s2
    rfl
  refine ⟨hxy, ?_⟩
  rw [hxy, e2] at e1
  exact (Option.some.inj e1).symm
/-- What was known of new memory stays as it was but for its integers. -/
structure Keep (P F : RO) : Prop where
  fn : Func P
  hard : ∀ x u, P x u → (∀ z, u ≠ .int .i64 z) → F x u
  soft : ∀ x z, P x (.int .i64 z) → ∃ z', F x (.int .i64 z')
theorem Keep.of {P F : RO} (h : Func P) (hle : RO.le P F) : Keep P F := ⟨h, fun x u hx _ => hle x u hx, fun x z hx => ⟨z, hle x _ hx⟩⟩
theorem Keep.put {P F : RO} (h : Keep P F) {a : Addr} {zs : List Int} (ha : ∀ i, i < zs.length → ∃ z, P (a.add i) (.int .i64 z)) : Keep P (putF F a (zs.map (.int .i64))) := by
  have hit : ∀ x u, P x u → (x.block = a.block ∧ a.off ≤ x.off ∧ x.off < a.off + (zs.map (Value.int .i64)).length) → ∃ i z, i < zs.length ∧ x = a.add i ∧ u = .int .i64 z := fun x u hx ⟨h1, h2, h3⟩ => by
    rw [List.length_map] at h3
    obtain ⟨z, hz⟩ := ha (x.off - a.off) (by omega)
    obtain ⟨e1, e2⟩ := h.fn x u _ _ hx hz (by rw [add_blk]; exact h1) (by rw [add_off]; omega)
    exact ⟨x.off - a.off, z, by omega, e1, e2⟩
  refine ⟨h.fn, fun x u hx hu => ?_, fun x z hx => ?_⟩
  · refine putF_ne (h.hard x u hx hu) fun q => ?_
    obtain ⟨i, z, _, _, e⟩ := hit x u hx q
    exact hu z e
  · by_cases q : x.block = a.block ∧ a.off ≤ x.off ∧ x.off < a.off + (zs.map (Value.int .i64)).length
    · obtain ⟨i, _, hi, e, _⟩ := hit x _ hx q
      rw [e]
      exact ⟨zs[i], putF_at (by rw [List.getElem?_map, List.getElem?_eq_getElem hi]; rfl)⟩
    · obtain ⟨z', hz'⟩ := h.soft x z hx
      exact ⟨z', putF_ne hz' q⟩
/-- An integer is stored into new memory. -/
theorem vput {e : Nat → SV} {b : List Blk} {R P : RO} {a : Addr} {x z : Int} {k : SV → St → Prop} {t : Tok k} (j : Nat) (F : RO) (hj : b[j]? = some (.own F)) (hK : Keep P F) (hz : P a (.int .i64 z))
    (hk : ∀ F', Keep P F' → k (.val undef) ⟨e, b.set j (.own F'), R⟩) : StoreOT 1 a (.val (.int .i64 x)) ⟨e, b, R⟩ k t := by
  have ha : ∀ i, i < 1 → ∃ z, P (a.add i) (.int .i64 z) := fun i hi => by
    obtain rfl : i = 0 := by omega
    exact ⟨z, by rw [Addr.add_zero']; exact hz⟩
  refine vstoreO j F hj rfl (by omega) (fun i hi => ?_) (by simp [Value.cells, Value.oneCell']) (hk _ ?_)
  · obtain ⟨z, hz⟩ := ha i hi
    obtain ⟨z', h⟩ := hK.soft _ _ hz
    exact ⟨_, h⟩
  · exact Keep.put (zs := [x]) hK (by simpa using ha)
theorem RuleV.node {R : RO} {a : Option Addr} {n c : Nat} {xs : List Nd} (h : RuleV R (.slice a n c) xs) : ∀ k, k < n → ∃ ad z, a = some ad ∧ R ((ad.add (k * 8)).add 4) (.int .i64 z) := by
  intro k hk
  have hn := h.len
  obtain ⟨cs, h1, h2, h3, _⟩ := h
  obtain ⟨a', cap, e, _, hf⟩ := SlK.form h1
  simp only [Value.slice.injEq] at e
  obtain ⟨rfl, rfl, rfl⟩ := e
  obtain ⟨_, ad, rfl, hR⟩ := hf k (by omega)
  obtain ⟨lv, e, _⟩ := h3 k _ _ (List.getElem?_eq_getElem (by omega)) (List.getElem?_eq_getElem (by omega))
  exact ⟨ad, xs[k].n, rfl, hR 4 _ (by rw [e]; rfl)⟩
end Go.Proofs.Ytpnhiknfcpkfbaa
