/- Proved here: what functions of the given program come to, for the statements of this chapter; no condition but those in the theorems. -/
import Derived.Test.YthkimpoeiighoaaM17
namespace Go.Proofs
open Go Go.Abs
set_option linter.unusedSimpArgs false
set_option linter.unusedVariables false
set_option maxRecDepth 4000
def stW : Except Int (List Ls × Ls) → List Ls
  | .ok x => x.1
  | .error _ => []
def stL : Except Int (List Ls × Ls) → Ls
  | .ok x => x.2
  | .error _ => []
def stE : Except Int (List Ls × Ls) → Int
  | .ok _ => 0
  | .error e => e
theorem stpA_eq (x : Except Int (List Ls × Ls)) : stpA x = .tup [.c (.lst (eV (stW x))), .c (.lst (eL (stL x))), I (stE x)] := by cases x <;> rfl
def ruW : Except Int (List Ls × List Ls) → List Ls
  | .ok x => x.1
  | .error _ => []
def ruL : Except Int (List Ls × List Ls) → List Ls
  | .ok x => x.2
  | .error _ => []
def ruE : Except Int (List Ls × List Ls) → Int
  | .ok _ => 0
  | .error e => e
theorem runA_eq (x : Except Int (List Ls × List Ls)) : runA x = .tup [.c (.lst (eV (ruW x))), .c (.lst (eV (ruL x))), I (ruE x)] := by cases x <;> rfl
theorem vfin_nil : vfin [] := ⟨by simp, fun p h => by simp at h⟩
theorem stepJ_ok {r : Rv} {w : List Ls} {l : Ls} {x : List Ls × Ls} (h : stepJ r w l = .ok x) : RvOk r ∧ WvOk r w ∧ passX r w l = .ok x := by
  unfold stepJ at h
  split at h
  · cases h
  · rename_i e
    obtain ⟨h1, h2⟩ := wvE_ok (show wvE r w = 0 by omega)
    exact ⟨h1, h2, h⟩
theorem st_fin {r : Rv} {w : List Ls} {l : Ls} : vfin (stW (stepJ r w l)) ∧ (stL (stepJ r w l)).length ≤ 40 := by
  cases h : stepJ r w l with
  | error e => exact ⟨vfin_nil, by simp [stL]⟩
  | ok x =>
    obtain ⟨h1, h2, h3⟩ := stepJ_ok h
    obtain ⟨f1, f2, f3, _⟩ := passX_fit h1 h2 h3
    refine ⟨(f1.fin h1).1, ?_⟩
    have := h1.n
    show x.2.length ≤ 40
    omega
theorem runX_fin {r : Rv} (hr : RvOk r) : ∀ {ls w : List Ls} {x : List Ls × List Ls}, WvOk r w → runX r w ls = .ok x → WvOk r x.1 ∧ x.2.length = ls.length ∧ ∀ o ∈ x.2, (o.length : Int) = r.n
  | [], w, x, hw, h => by
    simp [runX] at h
    subst h
    exact ⟨hw, rfl, fun o h => by simp at h⟩
  | l :: ls, w, x, hw, h => by
    cases hp : passX r w l with
    | error e => rw [runX_err hp] at h; cases h
    | ok y =>
      rw [runX_ok hp] at h
      obtain ⟨f1, f2, f3, _⟩ := passX_fit hr hw hp
      cases hz : runX r y.1 ls with
      | error e => rw [hz] at h; cases h
      | ok z =>
        rw [hz] at h
        simp [preX] at h
        subst h
        obtain ⟨i1, i2, i3⟩ := runX_fin hr f1 hz
        refine ⟨i1, by simp [i2], fun o ho => ?_⟩
        rcases List.mem_cons.1 ho with rfl | ho
        · omega
        · exact i3 o ho
theorem runJ_ok' {r : Rv} {w ls : List Ls} {x : List Ls × List Ls} (h : runJ r w ls = .ok x) : RvOk r ∧ WvOk r w ∧ ls.length ≤ 4096 ∧ runX r w ls = .ok x := by
  unfold runJ at h
  split at h
  · cases h
  rename_i e
  split at h
  · cases h
  obtain ⟨h1, h2⟩ := wvE_ok (show wvE r w = 0 by omega)
  exact ⟨h1, h2, by omega, h⟩
theorem ru_fin {r : Rv} {w ls : List Ls} : vfin (ruW (runJ r w ls)) ∧ vfin (ruL (runJ r w ls)) := by
  cases h : runJ r w ls with
  | error e => exact ⟨vfin_nil, vfin_nil⟩
  | ok x =>
    obtain ⟨h1, h2, h3, h4⟩ := runJ_ok' h
    obtain ⟨i1, i2, i3⟩ := runX_fin h1 h2 h4
    have := h1.n
    exact ⟨(i1.fin h1).1, by show x.2.length ≤ _; omega, fun o ho => by have := i3 o ho; omega⟩
theorem emp_fin {r : Rv} : vfin (empS r).1 := by
  unfold empS
  split
  · exact vfin_nil
  · rename_i h
    have := (rvE_ok (show rvE r = 0 by omega)).len
    exact ⟨by dsimp only; rw [List.length_replicate]; omega, fun p hp => by rw [List.eq_of_mem_replicate hp]; simp⟩
theorem who_fin {r : Rv} {w : List Ls} : (whoS r w).1.length ≤ 40 := by
  unfold whoS
  split
  · simp
  · rename_i h
    have := (wvE_ok (show wvE r w = 0 by omega)).1.len
    have := whoL_len (l := r.ls) (w := w)
    dsimp only
    omega
def vvC (w : List Ls) : List Cell := [.lst (eV w)]
abbrev eVV (l : List (List Ls)) : List (List Cell) := l.map vvC
def R_steps17 : RT := fun args k => ∃ (raw : Rv) (rw_ : List Ls) (rl l : Ls), args = [.agg (rvC raw), .c (.lst (eV rw_)), .c (.lst (eL rl)), .c (.lst (eL l))] ∧ raw.fin ∧ vfin rw_ ∧ rl.length ≤ 9223372036854775807 ∧ l.length ≤ 9223372036854775807 ∧ k (Bo true)
theorem steps17_ok : FunR Try.prog 5 R_steps17 := by
  intro args k h
  obtain ⟨raw, rw_, rl, l, rfl, hraw, hrw, hrl, hl, hk⟩ := h
  have hm1 := eK_len raw.ls
  have hm2 := eV_len rw_
  have hm3 := eL_len rl
  refine does_ex (qc := qc1) (np := [(13, [(0, 4), (1, 4)])]) (CK := ckK [(17, cSc R_tt), (9, cN R_new), (10, cB R_river), (11, cB R_waves), (12, cB R_flows), (23, cB R_next), (24, cB R_odd17), (19, cPu R_empS), (25, cPu R_empS), (26, cSc R_sameV), (27, cSc R_rvE), (28, cSc R_rvE), (13, cPu R_stpJ), (29, cPu R_stpJ), (16, cSc R_same), (20, cPu R_runJ), (30, cPu R_runJ), (31, cPu R_whoS), (32, cPu R_whoS), (33, cSc R_sameV)]) mixed Try.func5 rfl rfl Try.ntmps5 Try.results5 τ_ok (by kernel_rfl) (ckK_ok ⟨cSc_ok awake_ok, cN_ok new_ok rfl, cB_ok river_ok rfl, cB_ok waves_ok rfl, cB_ok flows_ok rfl, cB_ok next_ok rfl, cB_ok odd_ok rfl, cPu_ok empS_ok rfl, cPu_ok rempS_ok rfl, cSc_ok sameV_ok, cSc_ok rvE_ok', cSc_ok rrvE_ok, cPu_ok stpJ_ok rfl, cPu_ok rstpJ_ok rfl, cSc_ok same_ok, cPu_ok runJ_ok rfl, cPu_ok rrunJ_ok rfl, cPu_ok whoS_ok rfl, cPu_ok rwhoS_ok rfl, cSc_ok sameAll_ok, trivial⟩) (by simp) ?_
  conv => whnf
  refine Fork.mk (fun h => ?_) (fun h => ?_)
  · conv => whnf
    repeat' ((first | refine fork_t ?_ | refine fork_f ?_ | (refine Fork.mk (fun h => ?_) (fun h => ?_); focus (simp at h; done)) | refine ⟨rfl, ?_⟩ | fail) <;> (conv => whnf))
    exact hk
  clear h
  conv => whnf
  refine Fork.mk (fun h => ?_) (fun h => ?_)
  · conv => whnf
    repeat' ((first | refine fork_t ?_ | refine fork_f ?_ | (refine Fork.mk (fun h => ?_) (fun h => ?_); focus (simp at h; done)) | refine ⟨rfl, ?_⟩ | fail) <;> (conv => whnf))
    exact hk
  clear h
  conv => whnf
  refine Fork.mk (fun h => ?_) (fun h => ?_)
  · conv => whnf
    repeat' ((first | refine fork_t ?_ | refine fork_f ?_ | (refine Fork.mk (fun h => ?_) (fun h => ?_); focus (simp at h; done)) | refine ⟨rfl, ?_⟩ | fail) <;> (conv => whnf))
    exact hk
  clear h
  conv => whnf
  refine ⟨l, rfl, ?_⟩
  conv => whnf
  refine ⟨⟨l, 0⟩, rfl, rfl, ⟨Nat.zero_le _, hl⟩, fun r d hd hr => ?_⟩
  conv => whnf
  refine ⟨d, r, rfl, rfl, hd, hr.ok, fun w d hd hw => ?_⟩
  have hn := hr.n
  have hok := hr.ok
  have hwf := (hw.ok.fin hok).1
  conv => whnf
  refine ⟨d, rfl, hd, by omega, fun k0 d hd hk1 hk2 => ?_⟩
  conv => whnf
  refine ⟨List Ls × Dk × Int, fun s => ([(1, .c (.lst (eV rw_))), (2, .c (.lst (eL rl))), (4, .c (.ptr (.l 4 0) 0)), (9, .c (.ptr (.l 56 1) 0)), (10, .c (.ptr (.l 10 2) 0)), (11, .c (.lst (eV w))), (12, .c (.view (.l 74 3) 0 s.1.length)), (13, I s.2.2)], ⟨[(.l 4 0, .blk (rvC raw)), (.l 56 1, .blk (dkC s.2.1)), (.l 10 2, .blk (rvC r)), (.l 74 3, .arr 22 1 (eV s.1) false)], 4, []⟩),
    fun s => s.2.1.ok ∧ (0 ≤ s.2.2 ∧ s.1.length + s.2.2 ≤ 5) ∧ (∀ o ∈ s.1, o.length ≤ 6), fun s => s.2.2.toNat, ([], d, k0), ⟨hd, by dsimp only; simp; omega, fun o h => by simp at h⟩,
    Shift.trans (Shift.rename [] ⟨rfl, rfl, rfl, rfl, rfl, rfl, rfl, rfl, trivial⟩ ⟨rfl, rfl, rfl, rfl, trivial⟩ rfl rfl rfl) (Shift.nilArr (t := 12) rfl 74 22 1), fun s hs => ?_⟩
  obtain ⟨o, d, kk⟩ := s
  obtain ⟨hd, ⟨hk3, hk4⟩, ho⟩ := hs
  dsimp only at hd hk3 hk4 ho ⊢
  have hmo := eV_len o
  conv => whnf
  refine Fork.mk (fun h => ?_) (fun h => ?_)
  · have hkk : 0 < kk := by simpa using h
    conv => whnf
    refine ⟨d, r.n.toNat, rfl, hd, by omega, by omega, by omega, fun z d hd hz1 hz2 => ?_⟩
    conv => whnf
    refine ⟨by simp, ?_⟩
    conv => whnf
    refine ⟨rfl, ?_⟩
    conv => whnf
    refine ⟨⟨rfl, rfl, rfl, hmo.symm, by rw [hmo]; simp; omega⟩, ?_⟩
    conv => whnf
    rw [show IntKind.i64.wrap (kk - 1) = kk - 1 from wrap_in (by omega) (by omega)]
    refine ⟨(o ++ [z], d, kk - 1), ⟨hd, by dsimp only; simp; omega, fun y hy => ?_⟩, Shift.rename [(.l 74 3, .l 74 5)] ⟨rfl, rfl, rfl, rfl, rfl, rfl, ?_, rfl, trivial⟩ ⟨rfl, rfl, rfl, ?_, trivial⟩ rfl rfl rfl, by dsimp only; omega⟩
    · rcases List.mem_append.1 hy with hy | hy
      · exact ho y hy
      · simp at hy; subst hy; omega
    · dsimp only; rw [List.length_append, ← hmo]; rfl
    · dsimp only; rw [show eV (o ++ [z]) = eV o ++ [wvC z] from List.map_append]; rfl
  clear h
  conv => whnf
  refine ⟨d, rfl, hd, by omega, fun u d hd hu1 hu2 => ?_⟩
  conv => whnf
  refine Fork.mk (fun h => ?_) (fun h => ?_)
  · conv => whnf
    refine ⟨by simp, ?_⟩
    conv => whnf
    refine ⟨rfl, ?_⟩
    conv => whnf
    refine ⟨⟨rfl, rfl, rfl, hmo.symm, by rw [hmo]; simp; omega⟩, ?_⟩
    conv => whnf
    obtain ⟨os, hos, hvo⟩ : ∃ os : List Ls, os = o ++ [rl] ∧ vfin os := ⟨_, rfl, by simp; omega, fun y hy => by
      rcases List.mem_append.1 hy with hy | hy
      · have := ho y hy; omega
      · simp at hy; subst hy; exact hrl⟩
    have hvw : AV.c (.view (.l 81 5) 0 ((eV o).length + (List.take 1 (List.drop 0 [[Cell.lst (eL rl)]])).length)) = .c (.view (.l 81 5) 0 os.length) := by rw [hos, List.length_append, hmo]; rfl
    have hva : MObj.arr 22 1 (eV o ++ List.take 1 (List.drop 0 [[Cell.lst (eL rl)]])) false = .arr 22 1 (eV os) false := by rw [hos, show eV (o ++ [rl]) = eV o ++ [wvC rl] from List.map_append]; rfl
    refine ⟨d, r, rfl, rfl, hd, hok.fin, by have := hr.l; omega, fun od d hd hod => ?_⟩
    conv => whnf
    obtain ⟨rs, hrs, hrf⟩ : ∃ rs : List Rv, rs = [r, raw, od] ∧ ∀ g ∈ rs, g.fin := ⟨_, rfl, fun g hg => by
      simp at hg
      rcases hg with rfl | rfl | rfl
      · exact hok.fin
      · exact hraw
      · exact hod⟩
    refine ⟨Nat × Dk, fun s => ([(1, .c (.lst (eV rw_))), (2, .c (.lst (eL rl))), (9, .c (.ptr (.l 56 1) 0)), (10, .c (.ptr (.l 10 2) 0)), (11, .c (.lst (eV w))), (12, .c (.lst (eV os))), (87, .c (.view (.l 87 7) 0 3)), (88, I 3), (89, I s.1)], ⟨[(.l 56 1, .blk (dkC s.2)), (.l 10 2, .blk (rvC r)), (.l 87 7, .arr 27 2 (rs.map rvC) false)], 8, []⟩),
      fun s => s.2.ok ∧ s.1 ≤ 3, fun s => 3 - s.1, (0, d), ⟨hd, by omega⟩, Shift.trans (Shift.rename [(.l 87 7, .l 87 6)] ⟨rfl, rfl, rfl, rfl, rfl, ?_, rfl, rfl, rfl, trivial⟩ ⟨rfl, rfl, ?_, trivial⟩ rfl rfl rfl) (Shift.purV (t := 12) (i := .l 81 5) (n := (eV o).length + (List.take 1 (List.drop 0 [[Cell.lst (eL rl)]])).length) (es := eV o ++ List.take 1 (List.drop 0 [[Cell.lst (eL rl)]])) rfl rfl (by rw [List.length_append])), fun s hs => ?_⟩
    · dsimp only; rw [hos]; rw [show eV (o ++ [rl]) = eV o ++ [wvC rl] from List.map_append]; rfl
    · rw [hrs]; rfl
    have hrn : rs.length = 3 := by rw [hrs]; rfl
    clear hrs hos
    obtain ⟨i, d⟩ := s
    obtain ⟨hd, hi⟩ := hs
    dsimp only at hd hi ⊢
    conv => whnf
    refine Fork.mk (fun h => ?_) (fun h => ?_)
    rotate_left
    · conv => whnf
      refine ⟨rfl, ?_⟩
      conv => whnf
      exact hk
    have hi3 : i < 3 := by simp at h; omega
    clear h
    have hci := List.getElem?_eq_getElem (show i < rs.length by omega)
    have hg := hrf _ (List.getElem_mem (show i < rs.length by omega))
    generalize rs[i] = g at hci hg
    have hwi := wr_succ (i := i) (by omega)
    conv => whnf
    refine ⟨by omega, rfl, ?_⟩
    conv => whnf
    refine ⟨rvC g, by rw [Nat.zero_add, Int.toNat_natCast, List.getElem?_map, hci]; rfl, ?_⟩
    conv => whnf
    refine ⟨g, rfl, hg, ?_⟩
    conv => whnf
    refine ⟨g, rfl, hg, ?_⟩
    conv => whnf
    repeat' ((first | refine fork_t ?_ | refine fork_f ?_ | (refine Fork.mk (fun h => ?_) (fun h => ?_); focus (simp at h; done)) | fail) <;> (conv => whnf))
    refine ⟨(empS g).1, (empS g).1, rfl, emp_fin, ?_⟩
    conv => whnf
    repeat' ((first | refine fork_t ?_ | refine fork_f ?_ | (refine Fork.mk (fun h => ?_) (fun h => ?_); focus (simp at h; done)) | fail) <;> (conv => whnf))
    refine ⟨g, rfl, hg, ?_⟩
    conv => whnf
    refine ⟨g, rfl, hg, ?_⟩
    conv => whnf
    repeat' ((first | refine fork_t ?_ | refine fork_f ?_ | (refine Fork.mk (fun h => ?_) (fun h => ?_); focus (simp at h; done)) | fail) <;> (conv => whnf))
    obtain ⟨ws, hws, hwsf⟩ : ∃ ws : List (List Ls), ws = [w, rw_, (empS g).1] ∧ ∀ y ∈ ws, vfin y := ⟨_, rfl, fun y hy => by
      simp at hy
      rcases hy with rfl | rfl | rfl
      · exact hwf
      · exact hrw
      · exact emp_fin⟩
    refine ⟨Nat × Dk, fun s => ([(1, .c (.lst (eV rw_))), (2, .c (.lst (eL rl))), (9, .c (.ptr (.l 56 1) 0)), (10, .c (.ptr (.l 10 2) 0)), (11, .c (.lst (eV w))), (12, .c (.lst (eV os))), (15, .c (.ptr (.l 15 8) 0)), (87, .c (.view (.l 87 7) 0 3)), (88, I 3), (89, I i), (122, .c (.view (.l 122 9) 0 3)), (123, I 3), (124, I s.1)], ⟨[(.l 56 1, .blk (dkC s.2)), (.l 10 2, .blk (rvC r)), (.l 87 7, .arr 27 2 (rs.map rvC) false), (.l 15 8, .blk (rvC g)), (.l 122 9, .arr 29 1 (eVV ws) false)], 10, []⟩),
      fun s => s.2.ok ∧ s.1 ≤ 3, fun s => 3 - s.1, (0, d), ⟨hd, by omega⟩, Shift.rename [] ⟨rfl, rfl, rfl, rfl, rfl, rfl, rfl, rfl, rfl, rfl, rfl, rfl, rfl, trivial⟩ ⟨rfl, rfl, rfl, rfl, ?_, trivial⟩ rfl rfl rfl, fun s hs => ?_⟩
    · rw [hws]; rfl
    have hwn : ws.length = 3 := by rw [hws]; rfl
    clear hws
    obtain ⟨j, d⟩ := s
    obtain ⟨hd, hj⟩ := hs
    dsimp only at hd hj ⊢
    conv => whnf
    refine Fork.mk (fun h => ?_) (fun h => ?_)
    rotate_left
    · conv => whnf
      rw [hwi]
      exact ⟨(i + 1, d), ⟨hd, by dsimp only; omega⟩, Shift.rename [] ⟨rfl, rfl, rfl, rfl, rfl, rfl, rfl, rfl, rfl, trivial⟩ ⟨rfl, rfl, rfl, trivial⟩ rfl rfl rfl, by dsimp only; omega⟩
    have hj3 : j < 3 := by simp at h; omega
    clear h
    have hcj := List.getElem?_eq_getElem (show j < ws.length by omega)
    have hyf := hwsf _ (List.getElem_mem (show j < ws.length by omega))
    generalize ws[j] = y at hcj hyf
    have hwj := wr_succ (i := j) (by omega)
    conv => whnf
    refine ⟨by omega, rfl, ?_⟩
    conv => whnf
    refine ⟨vvC y, by rw [Nat.zero_add, Int.toNat_natCast, List.getElem?_map, hcj]; rfl, ?_⟩
    conv => whnf
    refine ⟨d, r.n.toNat, rfl, hd, by omega, by omega, by omega, fun z d hd hz1 hz2 => ?_⟩
    conv => whnf
    obtain ⟨zs, hzs, hzsf⟩ : ∃ zs : List Ls, zs = [rl, z] ∧ ∀ y ∈ zs, y.length ≤ 9223372036854775807 := ⟨_, rfl, fun y hy => by
      simp at hy
      rcases hy with rfl | rfl
      · exact hrl
      · omega⟩
    refine ⟨Nat, fun q => ([(1, .c (.lst (eV rw_))), (2, .c (.lst (eL rl))), (9, .c (.ptr (.l 56 1) 0)), (10, .c (.ptr (.l 10 2) 0)), (11, .c (.lst (eV w))), (12, .c (.lst (eV os))), (15, .c (.ptr (.l 15 8) 0)), (21, .c (.lst (eV y))), (87, .c (.view (.l 87 7) 0 3)), (88, I 3), (89, I i), (122, .c (.view (.l 122 9) 0 3)), (123, I 3), (124, I j), (133, .c (.view (.l 133 10) 0 2)), (134, I 2), (135, I q)], ⟨[(.l 56 1, .blk (dkC d)), (.l 10 2, .blk (rvC r)), (.l 87 7, .arr 27 2 (rs.map rvC) false), (.l 15 8, .blk (rvC g)), (.l 122 9, .arr 29 1 (eVV ws) false), (.l 133 10, .arr 22 1 (eV zs) false)], 11, []⟩),
      fun q => q ≤ 2, fun q => 2 - q, 0, by omega, Shift.rename [] ⟨rfl, rfl, rfl, rfl, rfl, rfl, rfl, rfl, rfl, rfl, rfl, rfl, rfl, rfl, rfl, rfl, rfl, trivial⟩ ⟨rfl, rfl, rfl, rfl, rfl, ?_, trivial⟩ rfl rfl rfl, fun q hq => ?_⟩
    · rw [hzs]; rfl
    have hzn : zs.length = 2 := by rw [hzs]; rfl
    clear hzs
    dsimp only
    conv => whnf
    refine Fork.mk (fun h => ?_) (fun h => ?_)
    · have hq2 : q < 2 := by simp at h; omega
      clear h
      have hcq := List.getElem?_eq_getElem (show q < zs.length by omega)
      have hzl := hzsf _ (List.getElem_mem (show q < zs.length by omega))
      generalize zs[q] = z at hcq hzl
      have hwq := wr_succ (i := q) (by omega)
      conv => whnf
      refine ⟨by omega, rfl, ?_⟩
      conv => whnf
      refine ⟨wvC z, by rw [Nat.zero_add, Int.toNat_natCast, List.getElem?_map, hcq]; rfl, ?_⟩
      conv => whnf
      obtain ⟨f1, f2⟩ := st_fin (r := g) (w := y) (l := z)
      refine ⟨g, y, z, rfl, hg, hyf, hzl, ?_⟩
      rw [stpA_eq]
      conv => whnf
      refine ⟨g, y, z, rfl, hg, hyf, hzl, ?_⟩
      rw [stpA_eq]
      conv => whnf
      repeat' ((first | refine fork_t ?_ | refine fork_f ?_ | (refine Fork.mk (fun h => ?_) (fun h => ?_); focus (simp at h; done)) | fail) <;> (conv => whnf))
      refine ⟨stW (stepJ g y z), stW (stepJ g y z), rfl, f1, ?_⟩
      conv => whnf
      repeat' ((first | refine fork_t ?_ | refine fork_f ?_ | (refine Fork.mk (fun h => ?_) (fun h => ?_); focus (simp at h; done)) | fail) <;> (conv => whnf))
      refine ⟨stL (stepJ g y z), stL (stepJ g y z), rfl, rfl, by omega, ?_⟩
      conv => whnf
      repeat' ((first | refine fork_t ?_ | refine fork_f ?_ | (refine Fork.mk (fun h => ?_) (fun h => ?_); focus (simp at h; done)) | fail) <;> (conv => whnf))
      rw [hwq]
      exact ⟨q + 1, by omega, Shift.rename [] ⟨rfl, rfl, rfl, rfl, rfl, rfl, rfl, rfl, rfl, rfl, rfl, rfl, rfl, rfl, rfl, rfl, rfl, trivial⟩ ⟨rfl, rfl, rfl, rfl, rfl, rfl, trivial⟩ rfl rfl rfl, by omega⟩
    clear h
    obtain ⟨f1, f2⟩ := ru_fin (r := g) (w := y) (ls := os)
    have f3 := who_fin (r := g) (w := y)
    conv => whnf
    refine ⟨g, y, os, rfl, hg, hyf, hvo, ?_⟩
    rw [runA_eq]
    conv => whnf
    refine ⟨g, y, os, rfl, hg, hyf, hvo, ?_⟩
    rw [runA_eq]
    conv => whnf
    refine ⟨g, y, rfl, hg, hyf, ?_⟩
    conv => whnf
    refine ⟨g, y, rfl, hg, hyf, ?_⟩
    conv => whnf
    repeat' ((first | refine fork_t ?_ | refine fork_f ?_ | (refine Fork.mk (fun h => ?_) (fun h => ?_); focus (simp at h; done)) | fail) <;> (conv => whnf))
    refine ⟨ruW (runJ g y os), ruW (runJ g y os), rfl, f1, ?_⟩
    conv => whnf
    repeat' ((first | refine fork_t ?_ | refine fork_f ?_ | (refine Fork.mk (fun h => ?_) (fun h => ?_); focus (simp at h; done)) | fail) <;> (conv => whnf))
    refine ⟨ruL (runJ g y os), ruL (runJ g y os), rfl, f2, ?_⟩
    conv => whnf
    repeat' ((first | refine fork_t ?_ | refine fork_f ?_ | (refine Fork.mk (fun h => ?_) (fun h => ?_); focus (simp at h; done)) | fail) <;> (conv => whnf))
    refine ⟨(whoS g y).1, (whoS g y).1, rfl, rfl, by omega, ?_⟩
    conv => whnf
    repeat' ((first | refine fork_t ?_ | refine fork_f ?_ | (refine Fork.mk (fun h => ?_) (fun h => ?_); focus (simp at h; done)) | fail) <;> (conv => whnf))
    rw [hwj]
    exact ⟨(j + 1, d), ⟨hd, by dsimp only; omega⟩, Shift.rename [] ⟨rfl, rfl, rfl, rfl, rfl, rfl, rfl, rfl, rfl, rfl, rfl, rfl, rfl, trivial⟩ ⟨rfl, rfl, rfl, rfl, rfl, trivial⟩ rfl rfl rfl, by dsimp only; omega⟩
  clear h
  conv => whnf
  obtain ⟨os, hos, hvo⟩ : ∃ os : List Ls, os = o ∧ vfin os := ⟨_, rfl, by omega, fun y hy => by have := ho y hy; omega⟩
  refine ⟨d, r, rfl, rfl, hd, hok.fin, by have := hr.l; omega, fun od d hd hod => ?_⟩
  conv => whnf
  obtain ⟨rs, hrs, hrf⟩ : ∃ rs : List Rv, rs = [r, raw, od] ∧ ∀ g ∈ rs, g.fin := ⟨_, rfl, fun g hg => by
    simp at hg
    rcases hg with rfl | rfl | rfl
    · exact hok.fin
    · exact hraw
    · exact hod⟩
  refine ⟨Nat × Dk, fun s => ([(1, .c (.lst (eV rw_))), (2, .c (.lst (eL rl))), (9, .c (.ptr (.l 56 1) 0)), (10, .c (.ptr (.l 10 2) 0)), (11, .c (.lst (eV w))), (12, .c (.lst (eV os))), (87, .c (.view (.l 87 7) 0 3)), (88, I 3), (89, I s.1)], ⟨[(.l 56 1, .blk (dkC s.2)), (.l 10 2, .blk (rvC r)), (.l 87 7, .arr 27 2 (rs.map rvC) false)], 8, []⟩),
    fun s => s.2.ok ∧ s.1 ≤ 3, fun s => 3 - s.1, (0, d), ⟨hd, by omega⟩, Shift.trans (Shift.rename [(.l 87 7, .l 87 4)] ⟨rfl, rfl, rfl, rfl, rfl, ?_, rfl, rfl, rfl, trivial⟩ ⟨rfl, rfl, ?_, trivial⟩ rfl rfl rfl) (Shift.purV (t := 12) (i := .l 74 3) (n := o.length) (es := eV o) rfl rfl (hmo.symm)), fun s hs => ?_⟩
  · dsimp only; rw [hos]; rfl
  · rw [hrs]; rfl
  have hrn : rs.length = 3 := by rw [hrs]; rfl
  clear hrs hos
  obtain ⟨i, d⟩ := s
  obtain ⟨hd, hi⟩ := hs
  dsimp only at hd hi ⊢
  conv => whnf
  refine Fork.mk (fun h => ?_) (fun h => ?_)
  rotate_left
  · conv => whnf
    refine ⟨rfl, ?_⟩
    conv => whnf
    exact hk
  have hi3 : i < 3 := by simp at h; omega
  clear h
  have hci := List.getElem?_eq_getElem (show i < rs.length by omega)
  have hg := hrf _ (List.getElem_mem (show i < rs.length by omega))
  generalize rs[i] = g at hci hg
  have hwi := wr_succ (i := i) (by omega)
  conv => whnf
  refine ⟨by omega, rfl, ?_⟩
  conv => whnf
  refine ⟨rvC g, by rw [Nat.zero_add, Int.toNat_natCast, List.getElem?_map, hci]; rfl, ?_⟩
  conv => whnf
  refine ⟨g, rfl, hg, ?_⟩
  conv => whnf
  refine ⟨g, rfl, hg, ?_⟩
  conv => whnf
  repeat' ((first | refine fork_t ?_ | refine fork_f ?_ | (refine Fork.mk (fun h => ?_) (fun h => ?_); focus (simp at h; done)) | fail) <;> (conv => whnf))
  refine ⟨(empS g).1, (empS g).1, rfl, emp_fin, ?_⟩
  conv => whnf
  repeat' ((first | refine fork_t ?_ | refine fork_f ?_ | (refine Fork.mk (fun h => ?_) (fun h => ?_); focus (simp at h; done)) | fail) <;> (conv => whnf))
  refine ⟨g, rfl, hg, ?_⟩
  conv => whnf
  refine ⟨g, rfl, hg, ?_⟩
  conv => whnf
  repeat' ((first | refine fork_t ?_ | refine fork_f ?_ | (refine Fork.mk (fun h => ?_) (fun h => ?_); focus (simp at h; done)) | fail) <;> (conv => whnf))
  obtain ⟨ws, hws, hwsf⟩ : ∃ ws : List (List Ls), ws = [w, rw_, (empS g).1] ∧ ∀ y ∈ ws, vfin y := ⟨_, rfl, fun y hy => by
    simp at hy
    rcases hy with rfl | rfl | rfl
    · exact hwf
    · exact hrw
    · exact emp_fin⟩
  refine ⟨Nat × Dk, fun s => ([(1, .c (.lst (eV rw_))), (2, .c (.lst (eL rl))), (9, .c (.ptr (.l 56 1) 0)), (10, .c (.ptr (.l 10 2) 0)), (11, .c (.lst (eV w))), (12, .c (.lst (eV os))), (15, .c (.ptr (.l 15 8) 0)), (87, .c (.view (.l 87 7) 0 3)), (88, I 3), (89, I i), (122, .c (.view (.l 122 9) 0 3)), (123, I 3), (124, I s.1)], ⟨[(.l 56 1, .blk (dkC s.2)), (.l 10 2, .blk (rvC r)), (.l 87 7, .arr 27 2 (rs.map rvC) false), (.l 15 8, .blk (rvC g)), (.l 122 9, .arr 29 1 (eVV ws) false)], 10, []⟩),
    fun s => s.2.ok ∧ s.1 ≤ 3, fun s => 3 - s.1, (0, d), ⟨hd, by omega⟩, Shift.rename [] ⟨rfl, rfl, rfl, rfl, rfl, rfl, rfl, rfl, rfl, rfl, rfl, rfl, rfl, trivial⟩ ⟨rfl, rfl, rfl, rfl, ?_, trivial⟩ rfl rfl rfl, fun s hs => ?_⟩
  · rw [hws]; rfl
  have hwn : ws.length = 3 := by rw [hws]; rfl
  clear hws
  obtain ⟨j, d⟩ := s
  obtain ⟨hd, hj⟩ := hs
  dsimp only at hd hj ⊢
  conv => whnf
  refine Fork.mk (fun h => ?_) (fun h => ?_)
  rotate_left
  · conv => whnf
    rw [hwi]
    exact ⟨(i + 1, d), ⟨hd, by dsimp only; omega⟩, Shift.rename [] ⟨rfl, rfl, rfl, rfl, rfl, rfl, rfl, rfl, rfl, trivial⟩ ⟨rfl, rfl, rfl, trivial⟩ rfl rfl rfl, by dsimp only; omega⟩
  have hj3 : j < 3 := by simp at h; omega
  clear h
  have hcj := List.getElem?_eq_getElem (show j < ws.length by omega)
  have hyf := hwsf _ (List.getElem_mem (show j < ws.length by omega))
  generalize ws[j] = y at hcj hyf
  have hwj := wr_succ (i := j) (by omega)
  conv => whnf
  refine ⟨by omega, rfl, ?_⟩
  conv => whnf
  refine ⟨vvC y, by rw [Nat.zero_add, Int.toNat_natCast, List.getElem?_map, hcj]; rfl, ?_⟩
  conv => whnf
  refine ⟨d, r.n.toNat, rfl, hd, by omega, by omega, by omega, fun z d hd hz1 hz2 => ?_⟩
  conv => whnf
  obtain ⟨zs, hzs, hzsf⟩ : ∃ zs : List Ls, zs = [rl, z] ∧ ∀ y ∈ zs, y.length ≤ 9223372036854775807 := ⟨_, rfl, fun y hy => by
    simp at hy
    rcases hy with rfl | rfl
    · exact hrl
    · omega⟩
  refine ⟨Nat, fun q => ([(1, .c (.lst (eV rw_))), (2, .c (.lst (eL rl))), (9, .c (.ptr (.l 56 1) 0)), (10, .c (.ptr (.l 10 2) 0)), (11, .c (.lst (eV w))), (12, .c (.lst (eV os))), (15, .c (.ptr (.l 15 8) 0)), (21, .c (.lst (eV y))), (87, .c (.view (.l 87 7) 0 3)), (88, I 3), (89, I i), (122, .c (.view (.l 122 9) 0 3)), (123, I 3), (124, I j), (133, .c (.view (.l 133 10) 0 2)), (134, I 2), (135, I q)], ⟨[(.l 56 1, .blk (dkC d)), (.l 10 2, .blk (rvC r)), (.l 87 7, .arr 27 2 (rs.map rvC) false), (.l 15 8, .blk (rvC g)), (.l 122 9, .arr 29 1 (eVV ws) false), (.l 133 10, .arr 22 1 (eV zs) false)], 11, []⟩),
    fun q => q ≤ 2, fun q => 2 - q, 0, by omega, Shift.rename [] ⟨rfl, rfl, rfl, rfl, rfl, rfl, rfl, rfl, rfl, rfl, rfl, rfl, rfl, rfl, rfl, rfl, rfl, trivial⟩ ⟨rfl, rfl, rfl, rfl, rfl, ?_, trivial⟩ rfl rfl rfl, fun q hq => ?_⟩
  · rw [hzs]; rfl
  have hzn : zs.length = 2 := by rw [hzs]; rfl
  clear hzs
  dsimp only
  conv => whnf
  refine Fork.mk (fun h => ?_) (fun h => ?_)
  · have hq2 : q < 2 := by simp at h; omega
    clear h
    have hcq := List.getElem?_eq_getElem (show q < zs.length by omega)
    have hzl := hzsf _ (List.getElem_mem (show q < zs.length by omega))
    generalize zs[q] = z at hcq hzl
    have hwq := wr_succ (i := q) (by omega)
    conv => whnf
    refine ⟨by omega, rfl, ?_⟩
    conv => whnf
    refine ⟨wvC z, by rw [Nat.zero_add, Int.toNat_natCast, List.getElem?_map, hcq]; rfl, ?_⟩
    conv => whnf
    obtain ⟨f1, f2⟩ := st_fin (r := g) (w := y) (l := z)
    refine ⟨g, y, z, rfl, hg, hyf, hzl, ?_⟩
    rw [stpA_eq]
    conv => whnf
    refine ⟨g, y, z, rfl, hg, hyf, hzl, ?_⟩
    rw [stpA_eq]
    conv => whnf
    repeat' ((first | refine fork_t ?_ | refine fork_f ?_ | (refine Fork.mk (fun h => ?_) (fun h => ?_); focus (simp at h; done)) | fail) <;> (conv => whnf))
    refine ⟨stW (stepJ g y z), stW (stepJ g y z), rfl, f1, ?_⟩
    conv => whnf
    repeat' ((first | refine fork_t ?_ | refine fork_f ?_ | (refine Fork.mk (fun h => ?_) (fun h => ?_); focus (simp at h; done)) | fail) <;> (conv => whnf))
    refine ⟨stL (stepJ g y z), stL (stepJ g y z), rfl, rfl, by omega, ?_⟩
    conv => whnf
    repeat' ((first | refine fork_t ?_ | refine fork_f ?_ | (refine Fork.mk (fun h => ?_) (fun h => ?_); focus (simp at h; done)) | fail) <;> (conv => whnf))
    rw [hwq]
    exact ⟨q + 1, by omega, Shift.rename [] ⟨rfl, rfl, rfl, rfl, rfl, rfl, rfl, rfl, rfl, rfl, rfl, rfl, rfl, rfl, rfl, rfl, rfl, trivial⟩ ⟨rfl, rfl, rfl, rfl, rfl, rfl, trivial⟩ rfl rfl rfl, by omega⟩
  clear h
  obtain ⟨f1, f2⟩ := ru_fin (r := g) (w := y) (ls := os)
  have f3 := who_fin (r := g) (w := y)
  conv => whnf
  refine ⟨g, y, os, rfl, hg, hyf, hvo, ?_⟩
  rw [runA_eq]
  conv => whnf
  refine ⟨g, y, os, rfl, hg, hyf, hvo, ?_⟩
  rw [runA_eq]
  conv => whnf
  refine ⟨g, y, rfl, hg, hyf, ?_⟩
  conv => whnf
  refine ⟨g, y, rfl, hg, hyf, ?_⟩
  conv => whnf
  repeat' ((first | refine fork_t ?_ | refine fork_f ?_ | (refine Fork.mk (fun h => ?_) (fun h => ?_); focus (simp at h; done)) | fail) <;> (conv => whnf))
  refine ⟨ruW (runJ g y os), ruW (runJ g y os), rfl, f1, ?_⟩
  conv => whnf
  repeat' ((first | refine fork_t ?_ | refine fork_f ?_ | (refine Fork.mk (fun h => ?_) (fun h => ?_); focus (simp at h; done)) | fail) <;> (conv => whnf))
  refine ⟨ruL (runJ g y os), ruL (runJ g y os), rfl, f2, ?_⟩
  conv => whnf
  repeat' ((first | refine fork_t ?_ | refine fork_f ?_ | (refine Fork.mk (fun h => ?_) (fun h => ?_); focus (simp at h; done)) | fail) <;> (conv => whnf))
  refine ⟨(whoS g y).1, (whoS g y).1, rfl, rfl, by omega, ?_⟩
  conv => whnf
  repeat' ((first | refine fork_t ?_ | refine fork_f ?_ | (refine Fork.mk (fun h => ?_) (fun h => ?_); focus (simp at h; done)) | fail) <;> (conv => whnf))
  rw [hwj]
  exact ⟨(j + 1, d), ⟨hd, by dsimp only; omega⟩, Shift.rename [] ⟨rfl, rfl, rfl, rfl, rfl, rfl, rfl, rfl, rfl, rfl, rfl, rfl, rfl, trivial⟩ ⟨rfl, rfl, rfl, rfl, rfl, trivial⟩ rfl rfl rfl, by dsimp only; omega⟩
end Go.Proofs
