/- Proved here: what functions of the given program come to, for the statements of this chapter; no condition but those in the theorems. -/
import Derived.Test.YtnmijdmpbpnjhaaL05b
namespace Go.Proofs
open Go.Abs
set_option linter.unusedSimpArgs false
theorem rcGo_asc : ∀ (l : List Pt) (q : Option Pt), rcGo q l = 0 → (∀ a, q = some a → ∀ p ∈ l, a.1 < p.1) ∧ l.Pairwise (·.1 < ·.1)
  | [], _, _ => ⟨fun _ _ p h => (by simp at h), .nil⟩
  | p :: r, q, h => by
    rw [rcGo_cons] at h
    split at h
    · cases q with
      | none =>
        obtain ⟨h1, h2⟩ := rcGo_asc r _ h
        exact ⟨fun a ha => (by cases ha), List.pairwise_cons.2 ⟨fun b hb => h1 p rfl b hb, h2⟩⟩
      | some q =>
        simp only at h
        split at h
        · cases h
        · rename_i hlt
          obtain ⟨h1, h2⟩ := rcGo_asc r _ h
          refine ⟨fun a ha b hb => ?_, List.pairwise_cons.2 ⟨fun b hb => h1 p rfl b hb, h2⟩⟩
          cases ha
          rcases List.mem_cons.1 hb with rfl | hb
          · omega
          · have := h1 p rfl b hb; omega
    · cases h
def rcValid (l : List Pt) : Prop := rcCheck l = 0
theorem rcGo_valid : ∀ (l : List Pt) (q : Option Pt), rcGo q l = 0 → ∀ p ∈ l, (0 ≤ p.1 ∧ p.1 ≤ 364) ∧ (0 ≤ p.2 ∧ p.2 ≤ 16777216)
  | [], _, _, p, h => by simp at h
  | p :: r, q, h, x, hx => by
    rw [rcGo_cons] at h
    split at h
    · rename_i hp
      rcases List.mem_cons.1 hx with rfl | hx
      · exact hp
      · cases q with
        | none => exact rcGo_valid r _ h x hx
        | some q =>
          simp only at h
          split at h
          · cases h
          · exact rcGo_valid r _ h x hx
    · cases h
theorem rcValid_pts {l : List Pt} (h : rcValid l) : l.length ≤ 100 ∧ ∀ p ∈ l, (0 ≤ p.1 ∧ p.1 ≤ 364) ∧ (0 ≤ p.2 ∧ p.2 ≤ 16777216) := by
  unfold rcValid rcCheck at h
  split at h
  · cases h
  · split at h
    · cases h
    · exact ⟨by omega, rcGo_valid _ _ h⟩

theorem ring_facts {p : Pt} {r : List Pt} (hv : rcValid (p :: r)) {rs : List Pt} (hrs : p :: r ++ [(p.1 + 365, p.2)] = rs) :
    (∀ x ∈ rs, (0 ≤ x.1 ∧ x.1 ≤ 729) ∧ (0 ≤ x.2 ∧ x.2 ≤ 16777216)) ∧ rs.Pairwise (·.1 < ·.1) := by
  have hp := (rcValid_pts hv).2
  have hv' : rcGo none (p :: r) = 0 := by
    have := hv
    unfold rcValid rcCheck at this
    split at this
    · cases this
    · split at this
      · cases this
      · exact this
  have ha := (rcGo_asc _ _ hv').2
  subst hrs
  refine ⟨fun x hx => ?_, ?_⟩
  · rcases List.mem_append.1 hx with hx | hx
    · have := hp x hx; omega
    · have := hp p (by simp)
      simp at hx
      subst hx
      simp only; omega
  · refine List.pairwise_append.2 ⟨ha, by simp, fun a ha b hb => ?_⟩
    simp at hb
    subst hb
    have h1 := hp a ha
    have h2 := hp p (by simp)
    simp only; omega
theorem mul_in {a b A B : Int} (h1 : -A ≤ a) (h2 : a ≤ A) (h3 : -B ≤ b) (h4 : b ≤ B) : -(A * B) ≤ a * b ∧ a * b ≤ A * B := by
  have h : (a * b).natAbs ≤ A.natAbs * B.natAbs := by rw [Int.natAbs_mul]; exact Nat.mul_le_mul (by omega) (by omega)
  have hA : (A * B).natAbs = A.natAbs * B.natAbs := Int.natAbs_mul _ _
  have hp : 0 ≤ A * B := Int.mul_nonneg (by omega) (by omega)
  omega
end Go.Proofs
