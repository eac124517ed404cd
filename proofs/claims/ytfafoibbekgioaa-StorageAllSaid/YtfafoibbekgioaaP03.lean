/- Proved here: what functions of the given program come to, for the statements of this chapter; no condition but those in the theorems. -/
import Derived.Test.YtfafoibbekgioaaO03
namespace Go.Proofs
open Go Go.Abs
set_option linter.unusedSimpArgs false
set_option linter.unusedVariables false
set_option maxRecDepth 4000
def R_all03 : RT := fun args k => match args with
  | [.agg [.lst es, .sc (.int .i64 a), .sc (.int .i64 b), .sc (.int .i64 c), .sc (.int .i64 d), .sc (.int .i64 e)], .c (.lst ls), .c (.sc (.int .i64 x)), .c (.sc (.int .i64 y))] => (∃ st : List Pt, es = eP st ∧ st.length ≤ 9223372036854775807) ∧ (∃ l : Ls, ls = eL l ∧ l.length ≤ 9223372036854775807) ∧ k (Bo true)
  | _ => False
theorem all_ok : FunR Try.prog 7 R_all03 := by
  intro args k h
  unfold R_all03 at h
  split at h
  case h_2 => exact h.elim
  rename_i a b cc dd e _ x y
  obtain ⟨⟨c, rfl, hcl⟩, ⟨l, rfl, hl⟩, hk⟩ := h
  refine does_ex (qc := qc1) (np := [(3, [(0, 4), (1, 4)])]) (CK := ckK [(9, cN R_new), (8, cB R_resv), (17, cB R_odd), (20, cB R_next), (18, cSc (R_rs ckS)), (19, cSc (R_rs ckS)), (11, cSc (R_rs1 volS)), (21, cSc (R_rs1 volS)), (12, cSc (R_rs1 levS)), (22, cSc (R_rs1 levS)), (16, cSc (R_rs1 zonS)), (23, cSc (R_rs1 zonS)), (14, cSc (R_rs2 roomS)), (24, cSc (R_rs2 roomS)), (15, cSc (R_rs1 usS)), (25, cSc (R_rs1 usS)), (13, cSc R_true)]) mixed Try.func7 rfl rfl Try.ntmps7 Try.results7 τ_ok (by kernel_rfl) (ckK_ok ⟨cN_ok new_ok rfl, cB_ok resv_ok rfl, cB_ok odd_ok rfl, cB_ok next_ok rfl, cSc_ok ckS_ok', cSc_ok rckS_ok, cSc_ok volS_ok, cSc_ok rvolS_ok, cSc_ok levS_ok, cSc_ok rlevS_ok, cSc_ok zonS_ok, cSc_ok rzonS_ok, cSc_ok roomS_ok, cSc_ok rroomS_ok, cSc_ok usS_ok, cSc_ok rusS_ok, cSc_ok awake_ok, trivial⟩) (by simp) ?_
  conv => whnf
  refine ⟨l, rfl, ?_⟩
  conv => whnf
  refine ⟨⟨l, 0⟩, rfl, ⟨Nat.zero_le _, hl⟩, fun r d hd hm hst => ?_⟩
  conv => whnf
  have hst2 := (ckS_ok hm.ck).2.1
  refine ⟨d, r.st, rfl, rfl, hd, ⟨by omega, by omega⟩, fun r2 d hd h2 => ?_⟩
  conv => whnf
  obtain ⟨rs, hrs, hrl⟩ : ∃ rs : List Rs, rs = [r, ⟨c, a, b, cc, dd, e⟩, r2] ∧ ∀ z ∈ rs, z.st.length ≤ 9223372036854775807 := ⟨_, rfl, fun z hz => by
    simp at hz
    rcases hz with rfl | rfl | rfl
    · omega
    · exact hcl
    · omega⟩
  refine ⟨Nat × Dk, fun s => ([(2, I x), (3, I y), (9, .c (.ptr (.l 36 9) 0)), (44, .c (.view (.l 44 9) 0 3)), (45, I 3), (46, I s.1)], ⟨[(.l 36 9, .blk (dkC s.2)), (.l 44 9, .arr 25 6 (rs.map rsC) false)], 20, []⟩),
    fun s => s.2.ok ∧ s.1 ≤ 3, fun s => 3 - s.1, (0, d), ⟨hd, by omega⟩, ?_, fun s hs => ?_⟩
  · subst hrs
    exact Shift.rename [(.l 36 9, .l 36 1), (.l 44 9, .l 44 3)] ⟨rfl, rfl, rfl, rfl, rfl, rfl, trivial⟩ ⟨rfl, rfl, trivial⟩ rfl rfl rfl
  have hrn : rs.length = 3 := by rw [hrs]; rfl
  clear hrs
  obtain ⟨i, d⟩ := s
  obtain ⟨hd, hi⟩ := hs
  dsimp only at hd hi ⊢
  conv => whnf
  refine Fork.mk (fun h => ?_) (fun h => ?_)
  · have hi : i < 3 := by simp at h; omega
    clear h
    have hci := List.getElem?_eq_getElem (show i < rs.length by omega)
    have hz := hrl _ (List.getElem_mem (show i < rs.length by omega))
    generalize rs[i] = z at hci hz
    obtain ⟨zs, za, zb, zc, zd, ze⟩ := z
    dsimp only at hz
    have hw1 := wr_succ (i := i) (by omega)
    conv => whnf
    refine ⟨by omega, rfl, ?_⟩
    conv => whnf
    refine ⟨rsC ⟨zs, za, zb, zc, zd, ze⟩, by rw [Nat.zero_add, Int.toNat_natCast, List.getElem?_map, hci]; rfl, ?_⟩
    conv => whnf
    refine ⟨zs, rfl, hz, ?_⟩
    conv => whnf
    refine ⟨zs, rfl, hz, ?_⟩
    conv => whnf
    refine Fork.mk (fun h => (by simp at h)) (fun h => ?_)
    clear h
    conv => whnf
    refine ⟨d, rfl, hd, by omega, fun u d hd hu1 hu2 => ?_⟩
    conv => whnf
    rw [show IntKind.i64.wrap (90 + u) = 90 + u from wrap_in (by omega) (by omega)]
    refine ⟨d, rfl, hd, by omega, fun v d hd hv1 hv2 => ?_⟩
    conv => whnf
    generalize hpp : ([(x, y), (90 + u, v)] : List Pt) = pp
    refine ⟨Nat, fun j => ([(2, I x), (3, I y), (9, .c (.ptr (.l 36 9) 0)), (44, .c (.view (.l 44 9) 0 3)), (45, I 3), (46, I i), (12, .c (.ptr (.l 12 20) 0)), (64, .c (.view (.l 64 99) 0 2)), (65, I 2), (66, I j)],
        ⟨[(.l 36 9, .blk (dkC d)), (.l 44 9, .arr 25 6 (rs.map rsC) false), (.l 12 20, .blk (rsC ⟨zs, za, zb, zc, zd, ze⟩)), (.l 64 99, .arr 42 2 (eP pp) false)], 100, []⟩),
      fun j => j ≤ 2, fun j => 2 - j, 0, Nat.zero_le _, ?_, fun j hj => ?_⟩
    · subst hpp
      exact Shift.rename [(.l 64 99, .l 64 21)] ⟨rfl, rfl, rfl, rfl, rfl, rfl, rfl, rfl, rfl, rfl, trivial⟩ ⟨rfl, rfl, rfl, rfl, trivial⟩ rfl rfl rfl
    have hpl : pp.length = 2 := by rw [← hpp]; rfl
    clear hpp
    dsimp only at hj ⊢
    conv => whnf
    refine Fork.mk (fun h => ?_) (fun h => ?_)
    · have hj : j < 2 := by simp at h; omega
      clear h
      have hcj := List.getElem?_eq_getElem (show j < pp.length by omega)
      generalize pp[j] = q at hcj
      obtain ⟨qx, qy⟩ := q
      have hw2 := wr_succ (i := j) (by omega)
      conv => whnf
      refine ⟨by omega, rfl, ?_⟩
      conv => whnf
      refine ⟨ePt (qx, qy), by rw [Nat.zero_add, Int.toNat_natCast]; exact eP_at pp hcj, ?_⟩
      conv => whnf
      refine ⟨by omega, ?_⟩
      conv => whnf
      refine ⟨zs, rfl, hz, ?_⟩
      conv => whnf
      refine ⟨by omega, ?_⟩
      conv => whnf
      refine ⟨zs, rfl, hz, ?_⟩
      conv => whnf
      refine ⟨by omega, ?_⟩
      conv => whnf
      refine ⟨zs, rfl, hz, ?_⟩
      conv => whnf
      refine ⟨by omega, ?_⟩
      conv => whnf
      refine ⟨zs, rfl, hz, ?_⟩
      conv => whnf
      refine ⟨by omega, ?_⟩
      conv => whnf
      refine ⟨zs, rfl, hz, ?_⟩
      conv => whnf
      refine ⟨by omega, ?_⟩
      conv => whnf
      refine ⟨zs, rfl, hz, ?_⟩
      conv => whnf
      refine ⟨by omega, ?_⟩
      conv => whnf
      refine ⟨by omega, ?_⟩
      conv => whnf
      refine ⟨zs, rfl, hz, ?_⟩
      conv => whnf
      refine ⟨by omega, ?_⟩
      conv => whnf
      refine ⟨by omega, ?_⟩
      conv => whnf
      refine ⟨zs, rfl, hz, ?_⟩
      conv => whnf
      refine ⟨by omega, ?_⟩
      conv => whnf
      refine ⟨zs, rfl, hz, ?_⟩
      conv => whnf
      refine ⟨by omega, ?_⟩
      conv => whnf
      refine ⟨zs, rfl, hz, ?_⟩
      conv => whnf
      refine Fork.mk (fun h => (by simp at h)) (fun h => ?_)
      clear h
      conv => whnf
      refine Fork.mk (fun h => (by simp at h)) (fun h => ?_)
      clear h
      conv => whnf
      refine Fork.mk (fun h => (by simp at h)) (fun h => ?_)
      clear h
      conv => whnf
      refine Fork.mk (fun h => (by simp at h)) (fun h => ?_)
      clear h
      conv => whnf
      refine Fork.mk (fun h => (by simp at h)) (fun h => ?_)
      clear h
      conv => whnf
      refine Fork.mk (fun h => (by simp at h)) (fun h => ?_)
      clear h
      conv => whnf
      refine Fork.mk (fun h => (by simp at h)) (fun h => ?_)
      clear h
      conv => whnf
      refine Fork.mk (fun h => (by simp at h)) (fun h => ?_)
      clear h
      conv => whnf
      refine Fork.mk (fun h => (by simp at h)) (fun h => ?_)
      clear h
      conv => whnf
      refine Fork.mk (fun h => (by simp at h)) (fun h => ?_)
      clear h
      conv => whnf
      rw [hw2]
      refine ⟨j + 1, hj, Shift.reset ⟨rfl, rfl, rfl, rfl, rfl, rfl, rfl, rfl, rfl, rfl, trivial⟩ ⟨rfl, rfl, rfl, rfl, trivial⟩ rfl rfl, ?_⟩
      show 2 - (j + 1) < 2 - j
      omega
    · conv => whnf
      rw [hw1]
      refine ⟨(i + 1, d), ⟨hd, hi⟩, Shift.reset ⟨rfl, rfl, rfl, rfl, rfl, rfl, trivial⟩ ⟨rfl, rfl, trivial⟩ rfl rfl, ?_⟩
      show 3 - (i + 1) < 3 - i
      omega
  · conv => whnf
    exact hk
end Go.Proofs
