/- Plain lemmas for the law CivilResidues: the calendar of one month, and which days the two congruences name. -/
import Derived.Test.YtpbnjoopgignoaaLe
import Derived.Test.YtpbnjoopgignoaaNd
namespace Go.Proofs.Ytpbnjoopgignoaa
set_option linter.unusedSimpArgs false
set_option linter.unusedVariables false
open Go.RowKit Go.Proofs.Ytpbnjoopgignoaa.Vc

def oneCal (E L : Int) : Cal := ⟨E, [L], -1, []⟩
theorem oneCal_per (E L : Int) : (oneCal E L).per = 1 := rfl
theorem oneCal_mlen (E L y : Int) : (oneCal E L).mlen y 0 = L := by
  simp [Cal.mlen, oneCal]
theorem oneCal_ylen (E L y : Int) : (oneCal E L).ylen y = L := by
  show 0 + (oneCal E L).mlen y 0 = L
  rw [oneCal_mlen]; omega
theorem oneCal_first (E L y : Int) : (oneCal E L).first y = E + (y - 1) * L := by
  have hS : (oneCal E L).days = L := by
    show 0 + (oneCal E L).ylen ((0 : Nat) + 1) = L
    rw [oneCal_ylen]; omega
  unfold Cal.first
  rw [oneCal_per, hS, Int.ediv_one, Int.emod_one]
  show E + (y - 1) * L + 0 = _
  omega
theorem hit_iff {w E j L x i : Int} (hw : 0 ≤ w ∧ w < 7) (hj : 0 ≤ j ∧ j < L) (h7 : (7 : Int) ∣ x - w) (hL : L ∣ x - (E + j)) :
    (i % L = j ∧ (E + i) % 7 = w) ↔ (Int.lcm 7 L : Int) ∣ E + i - x := by
  constructor
  · rintro ⟨rfl, rfl⟩
    refine Int.coe_lcm_dvd ?_ ?_
    · have h1 := dvd_sub_emod (E + i) 7
      have e : E + i - x = (E + i - (E + i) % 7) - (x - (E + i) % 7) := by omega
      rw [e]; exact Int.dvd_sub h1 h7
    · have h1 := dvd_sub_emod i L
      have e : E + i - x = (i - i % L) - (x - (E + i % L)) := by omega
      rw [e]; exact Int.dvd_sub h1 hL
  · intro h
    have h1 : (7 : Int) ∣ E + i - x := Int.dvd_trans (Int.dvd_lcm_left 7 L) h
    have h2 : L ∣ E + i - x := Int.dvd_trans (Int.dvd_lcm_right 7 L) h
    have h3 := Int.dvd_add h2 hL
    have e : E + i - x + (x - (E + j)) = i - j := by omega
    rw [e] at h3
    refine ⟨?_, by omega⟩
    have h4 := Int.emod_emod_of_dvd i (Int.dvd_refl L)
    rw [Int.emod_eq_emod_iff_emod_sub_eq_zero.2 (Int.emod_eq_zero_of_dvd h3), Int.emod_eq_of_lt hj.1 hj.2]
theorem no_hit {w E j L i : Int} (h : ¬ (Int.gcd 7 L : Int) ∣ E + j - w) : ¬ (i % L = j ∧ (E + i) % 7 = w) := by
  rintro ⟨rfl, rfl⟩
  apply h
  have h1 := Int.dvd_trans (Int.gcd_dvd_left 7 L) (dvd_sub_emod (E + i) 7)
  have h2 := Int.dvd_trans (Int.gcd_dvd_right 7 L) (dvd_sub_emod i L)
  have e : E + i % L - (E + i) % 7 = (E + i - (E + i) % 7) - (i - i % L) := by omega
  rw [e]
  exact Int.dvd_sub h1 h2
theorem oneCal_valid {E L : Int} (hE : 0 ≤ E ∧ E < 1000) (hL : 1 ≤ L ∧ L ≤ 12) : (oneCal E L).valid := by
  unfold Cal.valid
  simp [oneCal, perFrom]
  omega
theorem oneCal_day {E L : Int} (hL : 1 ≤ L ∧ L ≤ 12) {i : Int} (hi : 0 ≤ i ∧ i < 400) : (oneCal E L).IsDay (i / L + 1) 0 (i % L + 1) (E + i) := by
  have h1 := Int.emod_nonneg i (show L ≠ 0 by omega)
  have h2 := Int.emod_lt_of_pos i (show 0 < L by omega)
  have h3 := Int.ediv_nonneg hi.1 (show 0 ≤ L by omega)
  have h4 := Int.ediv_le_self L hi.1
  have h5 := Int.mul_ediv_add_emod i L
  refine ⟨by omega, by omega, by show 0 < 1; omega, by omega, by rw [oneCal_mlen]; omega, ?_⟩
  rw [Cal.beg_zero, oneCal_first, Int.add_sub_cancel, Int.mul_comm]
  omega
theorem oneCal_range {E L : Int} (hL : 1 ≤ L ∧ L ≤ 12) {i : Int} (hi : 0 ≤ i ∧ i < 400) : (oneCal E L).epoch ≤ E + i ∧ E + i < (oneCal E L).first 10000 := by
  rw [oneCal_first]
  show E ≤ E + i ∧ _
  omega
theorem lcm_bd {L : Int} (hL : 1 ≤ L ∧ L ≤ 12) : 1 ≤ (Int.lcm 7 L : Int) ∧ (Int.lcm 7 L : Int) ≤ 84 := by
  have h1 : (Int.lcm 7 L : Int) ∣ 7 * L := Int.coe_lcm_dvd (Int.dvd_mul_right 7 L) (Int.dvd_mul_left 7 L)
  have h2 := Int.le_of_dvd (by omega) h1
  have h3 := lcm_pos (a := 7) (b := L) (by omega) hL.1
  omega
theorem any_step {i : Nat} {an b : Bool} {H : Nat → Prop} (han : an = true ↔ ∃ k : Nat, k < i ∧ H k) (hb : b = true ↔ H i) : ((an || b) = true ↔ ∃ k : Nat, k < i + 1 ∧ H k) := by
  rw [Bool.or_eq_true, han, hb]
  constructor
  · rintro (⟨k, h1, h2⟩ | h)
    · exact ⟨k, by omega, h2⟩
    · exact ⟨i, by omega, h⟩
  · rintro ⟨k, h1, h2⟩
    by_cases hk : k = i
    · subst hk; exact .inr h2
    · exact .inl ⟨k, by omega, h2⟩
end Go.Proofs.Ytpbnjoopgignoaa
