/- Proved here: what functions of the given program come to, for the statements of this chapter; no condition but those in the theorems. -/
import Derived.Test.YthkimpoeiighoaaL17
import Derived.Test.YthkimpoeiighoaaPRiver5
namespace Go.Proofs
open Go Go.Abs
set_option linter.unusedSimpArgs false
set_option linter.unusedVariables false
set_option maxRecDepth 4000
theorem zip3_len : ∀ {a b c : Ls}, b.length = a.length → c.length = a.length → (zip3 a b c).length = a.length
  | [], b, c, _, _ => by cases b <;> simp [zip3]
  | x :: a, [], c, h, _ => by simp at h
  | x :: a, y :: b, [], _, h => by simp at h
  | x :: a, y :: b, z :: c, h1, h2 => by rw [zip3, List.length_cons, zip3_len (by simpa using h1) (by simpa using h2)]; rfl
theorem zip3_get : ∀ {a b c : Ls} {i : Nat} {x y z : Int}, a[i]? = some x → b[i]? = some y → c[i]? = some z → (zip3 a b c)[i]? = some [x, y, z]
  | [], _, _, i, _, _, _, h, _, _ => by simp at h
  | _ :: _, [], _, i, _, _, _, _, h, _ => by simp at h
  | _ :: _, _ :: _, [], i, _, _, _, _, _, h => by simp at h
  | p :: a, q :: b, r :: c, 0, x, y, z, h1, h2, h3 => by simp at h1 h2 h3; subst h1; subst h2; subst h3; rfl
  | p :: a, q :: b, r :: c, i + 1, x, y, z, h1, h2, h3 => by
    rw [zip3, List.getElem?_cons_succ]
    exact zip3_get (by simpa using h1) (by simpa using h2) (by simpa using h3)
theorem chain17_ok : FunR Try.prog 4 R_l17 := by
  intro args k h
  obtain ⟨l, rfl, hl, hk⟩ := h
  refine does_ex (qc := qc1) (np := [(20, [(2, 16), (3, 16)])]) (CK := ckK [(9, cN R_new), (18, cB R_reach), (19, cPu R_empS), (12, cB R_flows), (20, cPu R_runJ), (21, cPu R_run), (22, cSc R_wsame), (16, cSc R_same), (17, cSc R_tt)]) mixed Try.func4 rfl rfl Try.ntmps4 Try.results4 τ_ok (by kernel_rfl) (ckK_ok ⟨cN_ok new_ok rfl, cB_ok reach_ok rfl, cPu_ok empS_ok rfl, cB_ok flows_ok rfl, cPu_ok runJ_ok rfl, cPu_ok rrun_ok rfl, cSc_ok wsame_ok, cSc_ok same_ok, cSc_ok awake_ok, trivial⟩) (by simp) ?_
  conv => whnf
  refine ⟨l, rfl, ?_⟩
  conv => whnf
  refine ⟨⟨l, 0⟩, rfl, ⟨Nat.zero_le _, hl⟩, fun wa da d hd ha ha5 _ => ?_⟩
  conv => whnf
  refine ⟨d, rfl, hd, fun wb db d hd hb hb5 _ => ?_⟩
  have hok := chR_ok ha hb
  have hfin := hok.fin
  obtain ⟨a1, a2, a3, a4, a5, a6, _⟩ := rk_facts ha
  obtain ⟨b1, b2, b3, b4, b5, b6, _⟩ := rk_facts hb
  have hre : rvE (chR wa da wb db) = 0 := rvE_of hok
  have hemp : empS (chR wa da wb db) = ([[], []], 0) := by rw [empS, if_neg (by simp [hre])]; rfl
  conv => whnf
  (repeat (refine ⟨by first | exact Nat.le_refl _ | (simp; done), ?_⟩; (conv => whnf)))
  refine ⟨chR wa da wb db, rfl, hfin, ?_⟩
  rw [hemp]
  conv => whnf
  refine ⟨d, 9, rfl, hd, rfl, by omega, by omega, fun qs d hd hql hq => ?_⟩
  have hmq := eL_len qs
  have hqs := sum_in (l := qs) (a := 50) (by omega) (fun x hx => by have := hq x hx; omega)
  have hdq : da * qs.sum ≤ 240000 * 450 := Int.mul_le_mul a5 (by omega) (by omega) (by omega)
  obtain ⟨p', f, r1, r2, r3, r4, r5⟩ := runGo_ok ha qs [] (fits_nil _) (fun q h => by have := hq q h; omega) (by simp; omega)
  have hfs := sum_nn r5
  have hps := fits_sum r3
  have hfle : f.sum ≤ 450 := by
    rcases Int.lt_or_le 450 f.sum with h | h
    · have h1 : da * (f.sum - qs.sum) ≥ da * 1 := Int.mul_le_mul_of_nonneg_left (by omega) (by omega)
      rw [Int.mul_sub] at h1
      simp at r4
      omega
    · exact h
  have hdf : db * f.sum ≤ 240000 * 450 := Int.mul_le_mul b5 (by omega) (by omega) (by omega)
  obtain ⟨q', s, t1, t2, t3, t4, t5⟩ := runGo_ok hb f [] (fits_nil _) (fun q h => by have h1 := r5 q h; have h2 := hfs.2 q h; omega) (by simp; omega)
  have e1 := rkRun_ok (ps := []) ha (fits_nil _) (by omega) r1
  have e2 := rkRun_ok (ps := []) hb (fits_nil _) (by omega) t1
  have hch := ch_run r1 t1
  have hrun : runJ (chR wa da wb db) [[], []] (qs.map fun x => [x, 0, 0]) = .ok ([p', q'], zip3 qs f s) := by
    rw [runJ, if_neg, if_neg (by simp; omega), hch]
    rw [wvE_of hok ⟨rfl, fun i l p h1 h2 => by
      have hp : p = [] := by
        rcases i with _ | _ | i
        · simpa using h2
        · simpa using h2
        · simp at h2
      subst hp
      exact fits_nil _⟩]
    simp
  have hzl := zip3_len (a := qs) (b := f) (c := s) (by omega) (by omega)
  conv => whnf
  refine ⟨Nat, fun i => ([(4, .c (.ptr (.l 4 1) 0)), (5, .c (.ptr (.l 5 2) 0)), (6, .c (.ptr (.l 6 4) 0)), (7, .c (.lst (eV [[], []]))), (8, I 0), (9, .c (.lst (eL qs))), (10, .c (.view (.l 52 5) 0 i)), (42, .c (.lst (eL qs))), (43, I (eL qs).length), (44, I i)], ⟨[(.l 4 1, .blk [.lst (eL wa), IC da]), (.l 5 2, .blk [.lst (eL wb), IC db]), (.l 6 4, .blk (rvC (chR wa da wb db))), (.l 52 5, .arr 22 1 (eV ((qs.take i).map fun x => [x, 0, 0])) false)], 6, []⟩),
    fun i => i ≤ qs.length, fun i => qs.length - i, 0, Nat.zero_le _, Shift.trans (Shift.rename [] ⟨rfl, rfl, rfl, rfl, rfl, rfl, rfl, rfl, rfl, rfl, trivial⟩ ⟨rfl, rfl, rfl, rfl, trivial⟩ rfl rfl rfl) (Shift.trans (Shift.purCell (i := .l 6 4) (cs := [IC 3, .view (.l 33 3) 0 2]) (j := 1) (c' := .lst (eK (chR wa da wb db).ls)) rfl rfl rfl) (Shift.nilArr (t := 10) rfl 52 22 1)), fun i hi => ?_⟩
  dsimp only
  conv => whnf
  refine Fork.mk (fun h => ?_) (fun h => ?_)
  · have hil : i < qs.length := by simp at h; omega
    clear h
    have hci := List.getElem?_eq_getElem hil
    generalize qs[i] = x at hci
    have hw1 := wr_succ (i := i) (by omega)
    have hmi : (eV ((qs.take i).map fun x => [x, 0, 0])).length = i := by rw [eV_len, List.length_map, List.length_take]; omega
    conv => whnf
    refine ⟨by omega, eI x, by rw [Int.toNat_natCast, List.getElem?_map, hci]; rfl, rfl, ?_⟩
    conv => whnf
    refine ⟨by simp, ?_⟩
    conv => whnf
    refine ⟨by simp, ?_⟩
    conv => whnf
    refine ⟨rfl, ?_⟩
    conv => whnf
    refine ⟨⟨rfl, rfl, rfl, hmi.symm, by rw [hmi]; simp; omega⟩, ?_⟩
    conv => whnf
    rw [hw1]
    refine ⟨i + 1, hil, Shift.rename [(.l 52 5, .l 52 8)] ⟨rfl, rfl, rfl, rfl, rfl, rfl, ?_, rfl, rfl, rfl, trivial⟩ ⟨rfl, rfl, rfl, ?_, trivial⟩ rfl rfl rfl, by omega⟩
    · dsimp only; rw [hmi]; rfl
    · dsimp only; rw [take_snoc hci, List.map_append, show eV ((qs.take i).map (fun x => [x, 0, 0]) ++ List.map (fun x => [x, 0, 0]) [x]) = eV ((qs.take i).map fun x => [x, 0, 0]) ++ [wvC [x, 0, 0]] from List.map_append]; rfl
  have hie : i = qs.length := by simp at h; omega
  subst hie
  clear h
  conv => whnf
  refine ⟨by rw [eV_len, List.length_map, List.length_take]; omega, ?_⟩
  conv => whnf
  refine ⟨chR wa da wb db, [[], []], qs.map fun x => [x, 0, 0], ?_, hfin, ⟨by simp, fun p hp => by simp at hp; subst hp; simp⟩, ⟨by rw [List.length_map]; omega, fun p hp => by
    obtain ⟨x, _, rfl⟩ := List.mem_map.1 hp
    simp⟩, ?_⟩
  · rw [List.take_length, List.drop_zero, List.take_of_length_le (by rw [eV_len, List.length_map]; exact Nat.le_refl _)]; rfl
  rw [hrun]
  conv => whnf
  refine ⟨wa, [], qs, rfl, rfl, rfl, by omega, by simp, by omega, ?_⟩
  rw [e1]
  conv => whnf
  refine ⟨wb, [], f, rfl, rfl, rfl, by omega, by simp, by omega, ?_⟩
  rw [e2]
  have hmz := eV_len (zip3 qs f s)
  conv => whnf
  (repeat ((first | refine fork_t ?_ | refine fork_f ?_); (conv => whnf)))
  refine Fork.mk (fun h => ?_) (fun h => ?_)
  · exfalso; simp at h; omega
  clear h
  conv => whnf
  (repeat ((first | refine fork_t ?_ | refine fork_f ?_); (conv => whnf)))
  have hp24 := (fits_facts r3).1
  have hq24 := (fits_facts t3).1
  refine ⟨by omega, wvC p', rfl, rfl, ?_⟩
  conv => whnf
  refine ⟨p', p', rfl, rfl, by omega, ?_⟩
  conv => whnf
  repeat' ((first | refine fork_t ?_ | refine fork_f ?_ | (refine Fork.mk (fun h => ?_) (fun h => ?_); focus (simp at h; done)) | fail) <;> (conv => whnf))
  refine ⟨by omega, wvC q', rfl, rfl, ?_⟩
  conv => whnf
  refine ⟨q', q', rfl, rfl, by omega, ?_⟩
  conv => whnf
  repeat' ((first | refine fork_t ?_ | refine fork_f ?_ | (refine Fork.mk (fun h => ?_) (fun h => ?_); focus (simp at h; done)) | fail) <;> (conv => whnf))
  refine ⟨Nat, fun i => ([(9, .c (.lst (eL qs))), (14, .c (.lst (eV (zip3 qs f s)))), (17, .c (.lst (eL f))), (20, .c (.lst (eL s))), (115, I (eV (zip3 qs f s)).length), (116, I i)], ⟨[], 9, []⟩),
    fun i => i ≤ qs.length, fun i => qs.length - i, 0, Nat.zero_le _, Shift.rename [] ⟨rfl, rfl, rfl, rfl, rfl, rfl, trivial⟩ trivial rfl rfl rfl, fun i hi => ?_⟩
  dsimp only
  conv => whnf
  refine Fork.mk (fun h => ?_) (fun h => ?_)
  rotate_left
  · conv => whnf
    refine ⟨rfl, ?_⟩
    conv => whnf
    exact hk
  have hil : i < qs.length := by simp at h; omega
  clear h
  have hc1 := List.getElem?_eq_getElem hil
  have hc2 := List.getElem?_eq_getElem (show i < f.length by omega)
  have hc3 := List.getElem?_eq_getElem (show i < s.length by omega)
  generalize qs[i] = x at hc1
  generalize f[i] = y at hc2
  generalize s[i] = z at hc3
  have hc0 := zip3_get hc1 hc2 hc3
  have hw1 := wr_succ (i := i) (by omega)
  conv => whnf
  refine ⟨by omega, wvC [x, y, z], by rw [Int.toNat_natCast, List.getElem?_map, hc0]; rfl, rfl, ?_⟩
  conv => whnf
  refine ⟨by omega, eI x, by rw [Int.toNat_natCast, List.getElem?_map, hc1]; rfl, rfl, ?_⟩
  conv => whnf
  refine ⟨by omega, eI y, by rw [Int.toNat_natCast, List.getElem?_map, hc2]; rfl, rfl, ?_⟩
  conv => whnf
  refine ⟨by omega, eI z, by rw [Int.toNat_natCast, List.getElem?_map, hc3]; rfl, rfl, ?_⟩
  conv => whnf
  refine ⟨by first | exact Nat.le_refl _ | (simp; done), ?_⟩
  conv => whnf
  refine ⟨[x, y, z], [x, y, z], rfl, rfl, by simp, ?_⟩
  conv => whnf
  repeat' ((first | refine fork_t ?_ | refine fork_f ?_ | (refine Fork.mk (fun h => ?_) (fun h => ?_); focus (simp at h; done)) | fail) <;> (conv => whnf))
  rw [hw1]
  exact ⟨i + 1, hil, Shift.rename [] ⟨rfl, rfl, rfl, rfl, rfl, rfl, trivial⟩ trivial rfl rfl rfl, by omega⟩
end Go.Proofs
