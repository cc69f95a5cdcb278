/- Plain lemmas of our own, no statement of the seat: cutting what follows a piece of code. -/
import Derived.Test.YtpnhiknfcpkfbaaVcI
namespace Go.Proofs.Ytpnhiknfcpkfbaa
set_option linter.unusedSimpArgs false
set_option linter.unusedVariables false
open Go.Proofs.Ytpnhiknfcpkfbaa.Vc
/-- What comes behind a piece of code starts from what is known there. -/
theorem cutT {P : PG} {c : VCode} {s : St} {kn : St → Prop} {ke : Nat → St → Prop} {kr : St → Prop} {tn : Tok kn} {te : Tok ke} {tr : Tok kr} (Q : St → Prop) (h : CodeT P c s Q ke kr .mk .mk .mk) (hk : ∀ s', Q s' → kn s') : CodeT P c s kn ke kr tn te tr :=
  vcCode_mono c hk (fun _ _ h => h) (fun _ h => h) h
/-- The same for some steps. -/
theorem cutS {P : PG} {l : List VStep} {s : St} {K : St → Prop} {t : Tok K} (Q : St → Prop) (h : StepsT P l s Q .mk) (hk : ∀ s', Q s' → K s') : StepsT P l s K t := vcSteps_mono l hk h
/-- A piece of code that runs to one state. -/
theorem cutR {P : PG} {a b : VCode} {s : St} {kn : St → Prop} {ke : Nat → St → Prop} {kr : St → Prop} {tn : Tok kn} {te : Tok ke} {tr : Tok kr} (s1 : St) (h : CodeT P a s (fun s' => s' = s1) ke kr .mk .mk .mk) (hk : CodeT P b s1 kn ke kr .mk .mk .mk) : CodeT P (.seq a b) s kn ke kr tn te tr :=
  vcCode_mono a (fun s' e => by subst e; exact hk) (fun _ _ h => h) (fun _ h => h) h
/-- The same for what comes behind a loop. -/
theorem cutL {P : PG} {b : VCode} {s : St} {kn kn1 : St → Prop} {ke0 : Nat → St → Prop} {kr : St → Prop} {n : Nat} {t1 : Tok kn} {t2 : Tok (fun (i : Nat) (s' : St) => if i = n then kn1 s' else ke0 i s')} {t3 : Tok kr} {t4 : Tok b} (Q : St → Prop)
    (h : VLoop P b s kn (fun i s' => if i = n then Q s' else ke0 i s') kr .mk .mk .mk .mk) (hk : ∀ s', Q s' → kn1 s') : VLoop P b s kn (fun i s' => if i = n then kn1 s' else ke0 i s') kr t1 t2 t3 t4 :=
  vcCode_mono (.loop b) (fun _ h => h) (fun i s' h => by
    revert h
    by_cases e : i = n
    · rw [if_pos e, if_pos e]; exact hk s'
    · rw [if_neg e, if_neg e]; exact id) (fun _ h => h) h
theorem inScope_one (ρ : List Nat) (vals : List (Nat × SV)) (blks : List Blk) : inScope 1 ρ vals blks = (keysOK vals && (vals.all fun p => p.2.ok blks.length) && blks.all (scB blks.length) && rnInj ρ blks.length && decide (1 ≤ blks.length) && (rn ρ 0 == 0)) := by
  simp [inScope, List.range_succ]
theorem setG_no (l x : List Blk) : setG l [] x = l ++ x := by cases x <;> rfl
end Go.Proofs.Ytpnhiknfcpkfbaa
