/- The abstract evaluator is right: more operations that change nothing. -/
import Derived.Test.YtdibnpagbafadaaAbsD
namespace Go.Abs
open Go.RowKit

section
variable {P : Program} {B : Base} {g : G} {m : Mem} {w : World}

theorem isBool {g : G} {w : World} {b : Bool} {v : Value} (h : RepA g w (.c (.sc (.bool b))) v) : v = .bool b := (isSc h).1

theorem intBeq (a b : Int) : (a == b) = decide (a = b) := by rw [Bool.eq_iff_iff]; simp

theorem binI_ok {op : BinOp} {t : TypeId} {k : IntKind} {a b : Int} {v : Value} (h : binI op k a b = some v) : (binOp op t (.int k a) (.int k b)).run P w = .ok v w ∧ scalar v = true := by
  cases op <;> simp only [binI] at h
  case quo =>
    split at h
    · cases h
    · rename_i hb
      simp at h; subst h
      simp [binOp_quo, Op.intDiv, hb, scalar]
  case rem =>
    split at h
    · cases h
    · rename_i hb
      simp at h; subst h
      simp [binOp_rem, Op.intDiv, hb, scalar]
  all_goals first
    | contradiction
    | (simp only [Option.some.injEq] at h; subst h; refine ⟨?_, rfl⟩; simp [binOp, Op.intArith, Op.intCmp, intBeq, bne]; done)
    | skip

theorem binB_ok {op : BinOp} {t : TypeId} (ht : P.underlying t = some .bool) {a b : Bool} {v : Value} (h : binB op a b = some v) : (binOp op t (.bool a) (.bool b)).run P w = .ok v w ∧ scalar v = true := by
  have key : (Op.equal t (.bool a) (.bool b)).run P w = .ok (a == b) w := by
    have hd : ∀ d : Nat, (Op.equalIn (d + 1) t (.bool a) (.bool b)).run P w = .ok (a == b) w := fun d => by
      simp [Op.equalIn, run_underlying ht]
    exact hd 9999
  cases op <;> simp only [binB] at h <;> first
    | (cases h; done)
    | (simp at h; subst h; simp [binOp, key, scalar])

theorem unV_ok {op : UnOp} {x v : Value} (h : unV op x = some v) : (Op.unary op x).run P w = .ok v w ∧ scalar v = true := by
  unfold unV at h
  split at h <;> first
    | (cases h; done)
    | (simp at h; subst h; simp [Op.unary, Op.intArith, scalar])

theorem run_part_cut {t : TypeId} {ti : TI} (hti : tiOf P t = some ti) {off : Nat} {cs : List Cell} {x : AV} {us : List Value} (hl : us.length = cs.length)
    (hr : ∀ (j : Nat) c u, cs[j]? = some c → us[j]? = some u → RepC g w c u) (h : cut ti cs off = some x) :
    ∃ v, (part t us.toArray off).run P w = .ok v w ∧ RepA g w x v := by
  obtain ⟨i, d, z, hi, hd, hz, rfl⟩ := tiOf_spec hti
  unfold cut at h
  simp only at h
  unfold part
  simp only [Sem.run_bind, run_isAgg hd, Result.andThen_ok]
  by_cases ha : isAggD d = true
  · rw [if_pos ha] at h
    rw [if_pos ha]
    split at h
    · rename_i hle
      simp only [Option.some.injEq] at h
      subst h
      refine ⟨.agg ((us.drop off).take i.size).toArray, ?_, .agg _ (by simp; omega) fun j c v h1 h2 => ?_⟩
      · simp only [Sem.run_bind, run_sizeOf hi, Result.andThen_ok, Sem.run_pure]
        congr 2
        apply Array.ext'
        simp
      · rw [List.getElem?_take] at h1 h2
        split at h1
        · rename_i hj
          rw [if_pos hj] at h2
          rw [List.getElem?_drop] at h1 h2
          exact hr _ c v h1 h2
        · cases h1
    · cases h
  · rw [if_neg ha] at h
    rw [if_neg ha]
    split at h
    · rename_i c hcs
      simp only [Option.some.injEq] at h
      subst h
      have hj : off < us.length := by rw [hl]; exact (List.getElem?_eq_some_iff.1 hcs).1
      refine ⟨us[off], ?_, .c (hr _ c _ hcs (List.getElem?_eq_getElem hj))⟩
      simp [hj]
    · cases h

theorem fieldV_ok {s f : Nat} {p x : AV} {v : Value} (hp : RepA g w p v) (h : fieldV P s f p = some x) :
    ∃ u, (Instr.field s v f).run P w = .ok u w ∧ RepA g w x u := by
  unfold fieldV at h
  split at h
  · rename_i fs cs hti
    obtain ⟨i, d, z, hi, hd, hz, he⟩ := tiOf_spec hti
    simp only [TI.mk.injEq] at he
    obtain ⟨_, _, _, _, hds⟩ := he
    obtain ⟨F, rfl, hfs⟩ := descOf_struct hds.symm
    subst hfs
    split at h
    · rename_i off t hf
      rw [List.getElem?_map] at hf
      cases hF : F.toList[f]? with
      | none => simp [hF] at hf
      | some fd =>
        simp [hF] at hf
        obtain ⟨rfl, rfl⟩ := hf
        have hF' : F[f]? = some fd := by simpa using hF
        split at h
        · rename_i ti hti'
          cases hp with
          | agg us hl hc =>
            obtain ⟨u, hu, hr⟩ := run_part_cut (g := g) (w := w) hti' hl hc h
            refine ⟨u, ?_, hr⟩
            simp [Instr.field, run_underlying hd, hF', asAgg, hu]
        · cases h
    · cases h
  · cases h

theorem indexV_ok {t : Nat} {p ix x : AV} {v iv : Value} (hp : RepA g w p v) (hi : RepA g w ix iv) (h : indexV P t p ix = some x) :
    ∃ u, (Instr.index t v iv).run P w = .ok u w ∧ RepA g w x u := by
  unfold indexV at h
  split at h
  · rename_i len e cs k n hti
    obtain ⟨i, d, z, hi0, hd, hz, he⟩ := tiOf_spec hti
    simp only [TI.mk.injEq] at he
    obtain ⟨_, _, _, _, hds⟩ := he
    obtain rfl := descOf_array hds.symm
    obtain rfl := isInt hi
    split at h
    · rename_i hn
      split at h
      · rename_i te hte
        cases hp with
        | agg us hl hc =>
          obtain ⟨u, hu, hr⟩ := run_part_cut (g := g) (w := w) hte hl hc h
          obtain ⟨i', d', z', hi', hd', hz', rfl⟩ := tiOf_spec hte
          refine ⟨u, ?_, hr⟩
          simp [Instr.index, run_underlying hd, asIntOf, hn, run_sizeOf hi', hu]
      · cases h
    · cases h
  · cases h

end
end Go.Abs
