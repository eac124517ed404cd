/- Proved here: what functions of the given program come to, for the statements of this chapter; no condition but those in the theorems. -/
import Derived.Test.YthkimpoeiighoaaQ17
namespace Go.Proofs
open Go Go.Abs
set_option linter.unusedSimpArgs false
set_option linter.unusedVariables false
set_option maxRecDepth 4000
structure apI (N n0 : Nat) (a b : List Ls) : Prop where
  l : a.length = b.length
  A : ∀ l ∈ a, l.length = N ∧ (∀ q ∈ l, 0 ≤ q) ∧ l.sum ≤ 1000
  B : ∀ l ∈ b, l.length = N ∧ (∀ q ∈ l, 0 ≤ q) ∧ l.sum ≤ 1000
  E : ∀ (t : Nat) l l', a[t]? = some l → b[t]? = some l' → ∀ j : Nat, j ≠ n0 → gN l j = gN l' j
theorem apI.nil (N n0 : Nat) : apI N n0 [] [] := ⟨rfl, fun l h => by simp at h, fun l h => by simp at h, fun t l l' h => by simp at h⟩
theorem apI.snoc {N n0 : Nat} {a b : List Ls} {x : Ls} {m : Int} (h : apI N n0 a b) (hN : N ≤ 6) (hn : n0 < N) (hx : x.length = N) (hq : ∀ q ∈ x, 0 ≤ q ∧ q < 30) (hm : 0 ≤ m ∧ m < 40) : apI N n0 (a ++ [x]) (b ++ [x.set n0 (gN x n0 + m)]) := by
  have h1 := sum_in (l := x) (a := 30) (by omega) (fun q hq' => by have := hq q hq'; omega)
  have h2 : (x.set n0 (gN x n0 + m)).sum = x.sum + m := by
    have := tail_set (a := x) (t := n0) (v := m) (by omega) 0
    unfold tailS at this
    rw [List.drop_zero, List.drop_zero, if_pos (Nat.zero_le _)] at this
    exact this
  have hnn := gN_nn (a := x) (fun q hq' => (hq q hq').1) n0
  refine ⟨by simp [h.l], fun l hl => ?_, fun l hl => ?_, fun t l l' hl hl' j hj => ?_⟩
  · rcases List.mem_append.1 hl with hl | hl
    · exact h.A l hl
    · simp at hl; subst hl; exact ⟨hx, fun q hq' => (hq q hq').1, by omega⟩
  · rcases List.mem_append.1 hl with hl | hl
    · exact h.B l hl
    · simp at hl
      subst hl
      refine ⟨by rw [List.length_set]; exact hx, fun q hq' => ?_, by omega⟩
      rcases List.mem_or_eq_of_mem_set hq' with hq' | rfl
      · exact (hq q hq').1
      · omega
  · rcases Nat.lt_or_ge t a.length with e | e
    · rw [List.getElem?_append_left e] at hl
      rw [List.getElem?_append_left (by have := h.l; omega)] at hl'
      exact h.E t l l' hl hl' j hj
    · rw [List.getElem?_append_right e] at hl
      rw [List.getElem?_append_right (by have := h.l; omega), ← h.l] at hl'
      rcases Nat.eq_zero_or_pos (t - a.length) with e2 | e2
      · rw [e2] at hl hl'
        simp at hl hl'
        subst hl; subst hl'
        rw [gN_set (by omega), if_neg hj]
      · rw [List.getElem?_eq_none (by simp; omega)] at hl
        cases hl
def eB (b : Bool) : List Cell := [BC b]
def onL (N : Nat) (S : Ls) : List Bool := (List.range N).map fun (j : Nat) => decide ((j : Int) ∈ S)
theorem runX_fin' {r : Rv} (hr : RvOk r) : ∀ {ls w : List Ls} {x : List Ls × List Ls}, WvOk r w → runX r w ls = .ok x → WvOk r x.1 ∧ x.2.length = ls.length ∧ ∀ o ∈ x.2, (o.length : Int) = r.n
  | [], w, x, hw, h => by
    simp [runX] at h
    subst h
    exact ⟨hw, rfl, fun o h => by simp at h⟩
  | l :: ls, w, x, hw, h => by
    cases hp : passX r w l with
    | error e => rw [runX_err hp] at h; cases h
    | ok y =>
      rw [runX_ok hp] at h
      obtain ⟨f1, f2, f3, _⟩ := passX_fit hr hw hp
      cases hz : runX r y.1 ls with
      | error e => rw [hz] at h; cases h
      | ok z =>
        rw [hz] at h
        simp [preX] at h
        subst h
        obtain ⟨i1, i2, i3⟩ := runX_fin' hr f1 hz
        refine ⟨i1, by simp [i2], fun o ho => ?_⟩
        rcases List.mem_cons.1 ho with rfl | ho
        · omega
        · exact i3 o ho
theorem onL_len (N : Nat) (S : Ls) : (onL N S).length = N := by simp [onL]
theorem onL_get {N : Nat} {S : Ls} {j : Nat} (h : j < N) : (onL N S)[j]? = some (decide ((j : Int) ∈ S)) := by simp [onL, h]
theorem onL_nil (N : Nat) : onL N [] = List.replicate N false := by
  apply List.ext_getElem?
  intro j
  by_cases h : j < N
  · rw [onL_get h, List.getElem?_replicate, if_pos h]; simp
  · rw [List.getElem?_eq_none (by rw [onL_len]; omega), List.getElem?_eq_none (by simp; omega)]
theorem onL_set {N : Nat} {S : Ls} {p : Nat} : (onL N S).set p true = onL N (S ++ [(p : Int)]) := by
  apply List.ext_getElem?
  intro j
  rw [List.getElem?_set, onL_len]
  by_cases h : j < N
  · rw [onL_get h, onL_get h]
    by_cases e : p = j
    · subst e; rw [if_pos rfl, if_pos h]; simp
    · rw [if_neg e]; simp [show ¬ (j : Int) = (p : Int) by omega]
  · rw [List.getElem?_eq_none (by rw [onL_len]; omega), List.getElem?_eq_none (by rw [onL_len]; omega)]
    split
    · split
      · omega
      · rfl
    · rfl
def R_ap17 : RT := fun args k => ∃ (l : Ls) (x y : Int), args = [.c (.lst (eL l)), I x, I y] ∧ l.length ≤ 9223372036854775807 ∧ k (Bo true)
theorem apart17_ok : FunR Try.prog 7 R_ap17 := by
  intro args k h
  obtain ⟨l, node, by_, rfl, hl, hk⟩ := h
  refine does_ex (qc := qc1) (np := []) (CK := ckK [(9, cN R_new), (10, cB R_river), (11, cB R_waves), (34, cSc R_mod), (35, cPu R_pth), (12, cB R_flows), (20, cPu R_runJ), (17, cSc R_tt)]) mixed Try.func7 rfl rfl Try.ntmps7 Try.results7 τ_ok (by kernel_rfl) (ckK_ok ⟨cN_ok new_ok rfl, cB_ok river_ok rfl, cB_ok waves_ok rfl, cSc_ok mod_ok, cPu_ok pth_ok rfl, cB_ok flows_ok rfl, cPu_ok runJ_ok rfl, cSc_ok awake_ok, trivial⟩) (by simp) ?_
  conv => whnf
  refine ⟨l, rfl, ?_⟩
  conv => whnf
  refine ⟨⟨l, 0⟩, rfl, rfl, ⟨Nat.zero_le _, hl⟩, fun r d hd hr => ?_⟩
  conv => whnf
  refine ⟨d, r, rfl, rfl, hd, hr.ok, fun w d hd hw => ?_⟩
  have hn := hr.n
  have hrl := hr.l
  have hok := hr.ok
  have hfin := hok.fin
  conv => whnf
  refine ⟨by omega, ?_⟩
  have hx1 := Int.emod_nonneg node (show r.n ≠ 0 by omega)
  have hx2 := Int.emod_lt_of_pos node (show 0 < r.n by omega)
  obtain ⟨n0, hn0⟩ : ∃ n0 : Nat, node % r.n = n0 := ⟨(node % r.n).toNat, by omega⟩
  rw [hn0] at hx1 hx2 ⊢
  obtain ⟨N, hN⟩ : ∃ N : Nat, r.n = N := ⟨r.n.toNat, by omega⟩
  have hpth : pthS r n0 = (pathR r n0, 0) := by rw [pthS, if_neg (by simp [rvE_of hok]), if_neg (by simp [inN]; omega)]
  obtain ⟨pf1, pf2, pf3⟩ := path_facts hok (r.n - n0).toNat n0 (Nat.le_refl _) ⟨hx1, hx2⟩
  have hp0 : ((n0 : Nat) : Int) ∈ pathR r n0 := by unfold pathR; exact List.mem_cons_self
  have hpl : (pathR r n0).length ≤ 41 := by rw [pathR, List.length_cons, List.length_map]; have := path_len hok (k := n0) ⟨hx1, hx2⟩; omega
  conv => whnf
  refine ⟨r, n0, rfl, hfin, ?_⟩
  rw [hpth]
  generalize pathR r n0 = P at pf1 pf2 hp0 hpl
  have hmP := eL_len P
  conv => whnf
  refine ⟨List Ls × List Ls × Dk × Nat, fun s => ([(2, I by_), (7, .c (.ptr (.l 29 0) 0)), (8, .c (.ptr (.l 8 1) 0)), (9, .c (.lst (eV w))), (10, I n0), (11, .c (.lst (eL P))), (12, I 0), (13, .c (.view (.l 64 2) 0 s.1.length)), (14, .c (.view (.l 68 3) 0 s.2.1.length)), (45, I s.2.2.2)], ⟨[(.l 29 0, .blk (dkC s.2.2.1)), (.l 8 1, .blk (rvC r)), (.l 64 2, .arr 22 1 (eV s.1) false), (.l 68 3, .arr 22 1 (eV s.2.1) false)], 4, []⟩),
    fun s => s.2.2.1.ok ∧ apI N n0 s.1 s.2.1 ∧ s.1.length = s.2.2.2 ∧ s.2.2.2 ≤ 6, fun s => 6 - s.2.2.2, ([], [], d, 0), ⟨hd, .nil _ _, rfl, by dsimp only; omega⟩,
    Shift.trans (Shift.rename [] ⟨rfl, rfl, rfl, rfl, rfl, rfl, rfl, rfl, rfl, rfl, trivial⟩ ⟨rfl, rfl, rfl, rfl, trivial⟩ rfl rfl rfl) (Shift.trans (Shift.nilArr (t := 14) rfl 68 22 1) (Shift.nilArr (t := 13) rfl 64 22 1)), fun s hs => ?_⟩
  obtain ⟨a, b, d, i⟩ := s
  obtain ⟨hd, hI, hai, hi6⟩ := hs
  dsimp only at hd hI hai hi6 ⊢
  have hma := eV_len a
  have hmb := eV_len b
  have hab := hI.l
  conv => whnf
  refine Fork.mk (fun h => ?_) (fun h => ?_)
  · have hi : i < 6 := by simp at h; omega
    clear h
    have hw1 := wr_succ (i := i) (by omega)
    conv => whnf
    refine ⟨d, N, rfl, hd, hN, by omega, by omega, fun x d hd hxl hxq => ?_⟩
    have hmx := eL_len x
    have hgx := gN_get (a := x) (j := n0) (by omega)
    have hqb := hxq _ (List.mem_of_getElem? hgx)
    conv => whnf
    refine ⟨eL_all _, ?_⟩
    conv => whnf
    refine ⟨by show (eL x).length * 8 ≤ _; omega, ?_⟩
    conv => whnf
    refine ⟨by omega, rfl, ?_⟩
    conv => whnf
    refine ⟨eI (gN x n0), by rw [Int.toNat_natCast, Nat.zero_add, List.getElem?_map, hgx]; rfl, ?_⟩
    conv => whnf
    refine ⟨by omega, ?_⟩
    have hm1 := Int.emod_nonneg by_ (show (40 : Int) ≠ 0 by omega)
    have hm2 := Int.emod_lt_of_pos by_ (show (0 : Int) < 40 by omega)
    generalize by_ % 40 = m at hm1 hm2
    have e1 : IntKind.i64.wrap (gN x n0 + m) = gN x n0 + m := wrap_in (by omega) (by omega)
    conv => whnf
    rw [e1]
    refine ⟨by omega, rfl, ?_⟩
    conv => whnf
    refine ⟨eI (gN x n0), by rw [Int.toNat_natCast, Nat.zero_add, List.getElem?_map, hgx]; rfl, by show 0 + 1 ≤ 1; omega, ?_⟩
    conv => whnf
    have hset : (eL x).set (0 + (n0 : Int).toNat) [nrm (Value.int IntKind.i64 (gN x n0 + m))] = eL (x.set n0 (gN x n0 + m)) := by
      rw [Nat.zero_add, Int.toNat_natCast, show [nrm (Value.int IntKind.i64 (gN x n0 + m))] = eI (gN x n0 + m) from rfl, eL_set]
    refine ⟨by first | exact Nat.le_refl _ | (simp; done), ?_⟩
    conv => whnf
    refine ⟨rfl, ?_⟩
    conv => whnf
    refine ⟨⟨rfl, rfl, rfl, hma.symm, by rw [hma]; simp; omega⟩, ?_⟩
    conv => whnf
    refine ⟨by simp, ?_⟩
    conv => whnf
    refine ⟨by first | exact Nat.le_refl _ | (simp; done), ?_⟩
    conv => whnf
    refine ⟨rfl, ?_⟩
    conv => whnf
    refine ⟨⟨rfl, rfl, rfl, hmb.symm, by rw [hmb]; simp; omega⟩, ?_⟩
    conv => whnf
    rw [hw1]
    have htk : List.take (eL x).length (List.drop 0 (eL (x.set n0 (gN x n0 + m)))) = eL (x.set n0 (gN x n0 + m)) := by rw [List.drop_zero, List.take_of_length_le (by rw [eL_len, List.length_set, eL_len]; exact Nat.le_refl _)]
    refine ⟨(a ++ [x], b ++ [x.set n0 (gN x n0 + m)], d, i + 1), ⟨hd, hI.snoc (by omega) (by omega) hxl hxq ⟨hm1, hm2⟩, by dsimp only; simp; omega, hi⟩, Shift.rename [(.l 64 2, .l 64 6), (.l 68 3, .l 68 8)] ⟨rfl, rfl, rfl, rfl, rfl, rfl, rfl, ?_, ?_, rfl, trivial⟩ ⟨rfl, rfl, ?_, ?_, trivial⟩ rfl rfl rfl, by dsimp only; omega⟩
    · dsimp only; rw [List.length_append, ← hma]; rfl
    · dsimp only; rw [List.length_append, ← hmb]; rfl
    · dsimp only; rw [show eV (a ++ [x]) = eV a ++ [wvC x] from List.map_append]; rfl
    · dsimp only; rw [hset, htk, show eV (b ++ [x.set n0 (gN x n0 + m)]) = eV b ++ [wvC (x.set n0 (gN x n0 + m))] from List.map_append]; rfl
  have hi : i = 6 := by simp at h; omega
  subst hi
  clear h
  have hv := hw.vol hok
  have hv0 : (List.replicate r.ls.length (24000000 : Int)).sum ≤ 144000000 ∧ 0 ≤ (List.replicate r.ls.length (24000000 : Int)).sum := by rw [rep_sum]; omega
  obtain ⟨xa, ra1, ra2⟩ := run_small (ls := a) (K := 150000000) (c := 1000) hok hw.ok hv (fun l hl => by have := hI.A l hl; exact ⟨by omega, this.2⟩) (by omega) (by omega) (by omega) hv0.2
  obtain ⟨xb, rb1, rb2⟩ := run_small (ls := b) (K := 150000000) (c := 1000) hok hw.ok hv (fun l hl => by have := hI.B l hl; exact ⟨by omega, this.2⟩) (by omega) (by omega) (by omega) hv0.2
  have hwv := wvE_of hok hw.ok
  have hra : runJ r w a = .ok xa := by rw [runJ, if_neg (by simp [hwv]), if_neg (by omega)]; exact ra1
  have hrb : runJ r w b = .ok xb := by rw [runJ, if_neg (by simp [hwv]), if_neg (by omega)]; exact rb1
  obtain ⟨_, _, fa⟩ := runX_fin' hok hw.ok ra1
  obtain ⟨_, _, fb⟩ := runX_fin' hok hw.ok rb1
  have hoff := run_off (S := fun x => x ∈ P) hok (fun l hl hf => by
    obtain ⟨i, hi⟩ := List.getElem?_of_mem hl
    exact pf2 i l hi hf) (ls := a) (ls' := b) hab hw.ok hw.ok (fun t l l' h1 h2 j hj => hI.E t l l' h1 h2 j (fun e => hj (by rw [e]; exact hp0))) (fun _ _ _ _ => rfl) ra1 rb1
  have hta : List.take a.length (List.drop 0 (eV a)) = eV a := by rw [List.drop_zero, List.take_of_length_le (by rw [hma]; exact Nat.le_refl _)]
  have htb : List.take b.length (List.drop 0 (eV b)) = eV b := by rw [List.drop_zero, List.take_of_length_le (by rw [hmb]; exact Nat.le_refl _)]
  have hvw := (hw.ok.fin hok).1
  have hva : vfin a := ⟨by omega, fun l hl => by have := (hI.A l hl).1; omega⟩
  have hvb : vfin b := ⟨by omega, fun l hl => by have := (hI.B l hl).1; omega⟩
  have hmxa := eV_len xa.2
  have hmxb := eV_len xb.2
  conv => whnf
  refine ⟨by rw [hma]; omega, ?_⟩
  conv => whnf
  rw [hta]
  refine ⟨r, w, a, rfl, hfin, hvw, hva, ?_⟩
  rw [hra]
  conv => whnf
  refine ⟨by rw [hmb]; omega, ?_⟩
  conv => whnf
  rw [htb]
  refine ⟨r, w, b, rfl, hfin, hvw, hvb, ?_⟩
  rw [hrb]
  conv => whnf
  (repeat ((first | refine fork_t ?_ | refine fork_f ?_); (conv => whnf)))
  refine Fork.mk (fun h => ?_) (fun h => ?_)
  · exfalso; simp at h; omega
  clear h
  conv => whnf
  refine Fork.mk (fun h => ?_) (fun h => ?_)
  · exfalso; simp at h; omega
  clear h
  conv => whnf
  refine ⟨⟨rfl, by omega, by show r.n * 1 ≤ _; omega⟩, ?_⟩
  conv => whnf
  refine ⟨Nat, fun i => ([(8, .c (.ptr (.l 8 1) 0)), (10, I n0), (18, .c (.lst (eV xa.2))), (21, .c (.lst (eV xb.2))), (23, .c (.view (.l 108 4) 0 N)), (109, .c (.lst (eL P))), (110, I (eL P).length), (111, I i)], ⟨[(.l 8 1, .blk (rvC r)), (.l 108 4, .arr 4 1 ((onL N (P.take i)).map eB) false)], 9, []⟩),
    fun i => i ≤ P.length, fun i => P.length - i, 0, Nat.zero_le _, Shift.rename [] ⟨rfl, rfl, rfl, rfl, ?_, rfl, rfl, rfl, trivial⟩ ⟨rfl, ?_, trivial⟩ rfl rfl rfl, fun i hi => ?_⟩
  · dsimp only; show some (AV.c (.view (.l 108 4) 0 r.n.toNat)) = _; rw [hN]; rfl
  · show some (MObj.arr 4 1 (List.replicate r.n.toNat (eB false)) false) = some (MObj.arr 4 1 ((onL N []).map eB) false)
    rw [onL_nil, List.map_replicate, hN]; rfl
  dsimp only
  have hmon : ∀ S, ((onL N S).map eB).length = N := fun S => by rw [List.length_map, onL_len]
  conv => whnf
  refine Fork.mk (fun h => ?_) (fun h => ?_)
  · have hil : i < P.length := by simp at h; omega
    clear h
    have hci := List.getElem?_eq_getElem hil
    have hpb := pf1 _ (List.getElem_mem hil)
    generalize P[i] = p at hci hpb
    obtain ⟨pn, rfl⟩ : ∃ pn : Nat, p = pn := ⟨p.toNat, by omega⟩
    have hw1 := wr_succ (i := i) (by omega)
    conv => whnf
    refine ⟨by omega, eI (pn : Int), by rw [Int.toNat_natCast, List.getElem?_map, hci]; rfl, rfl, ?_⟩
    conv => whnf
    refine Fork.mk (fun h => ?_) (fun h => ?_)
    · exfalso; simp at h; try omega
    clear h
    conv => whnf
    refine Fork.mk (fun h => ?_) (fun h => ?_)
    · exfalso; simp at h; omega
    clear h
    have hgo : ((onL N (P.take i)).map eB)[0 + (pn : Int).toNat]? = some (eB (decide ((pn : Int) ∈ P.take i))) := by
      rw [Nat.zero_add, Int.toNat_natCast, List.getElem?_map, onL_get (by omega)]; rfl
    have hso : ((onL N (P.take i)).map eB).set (0 + (pn : Int).toNat) [nrm (Value.bool true)] = (onL N (P.take (i + 1))).map eB := by
      rw [Nat.zero_add, Int.toNat_natCast, show [nrm (Value.bool true)] = eB true from rfl, ← List.map_set, onL_set, take_snoc hci]
    conv => whnf
    refine ⟨by omega, rfl, ?_⟩
    conv => whnf
    refine ⟨_, hgo, by show 0 + 1 ≤ 1; omega, ?_⟩
    conv => whnf
    rw [hw1]
    refine ⟨i + 1, hil, Shift.rename [] ⟨rfl, rfl, rfl, rfl, rfl, rfl, rfl, rfl, trivial⟩ ⟨rfl, ?_, trivial⟩ rfl rfl rfl, by omega⟩
    dsimp only; rw [← hso]; rfl
  have hie : i = P.length := by simp at h; omega
  subst hie
  clear h
  rw [List.take_length]
  have hgo : ∀ j : Nat, j < N → ((onL N P).map eB)[0 + (j : Int).toNat]? = some (eB (decide ((j : Int) ∈ P))) := fun j hj => by
    rw [Nat.zero_add, Int.toNat_natCast, List.getElem?_map, onL_get hj]; rfl
  conv => whnf
  refine ⟨Nat, fun t => ([(8, .c (.ptr (.l 8 1) 0)), (10, I n0), (18, .c (.lst (eV xa.2))), (21, .c (.lst (eV xb.2))), (23, .c (.view (.l 108 4) 0 N)), (128, I (eV xa.2).length), (129, I t)], ⟨[(.l 8 1, .blk (rvC r)), (.l 108 4, .arr 4 1 ((onL N P).map eB) false)], 9, []⟩),
    fun t => t ≤ a.length, fun t => a.length - t, 0, Nat.zero_le _, Shift.rename [] ⟨rfl, rfl, rfl, rfl, rfl, rfl, rfl, trivial⟩ ⟨rfl, rfl, trivial⟩ rfl rfl rfl, fun t ht => ?_⟩
  dsimp only
  conv => whnf
  refine Fork.mk (fun h => ?_) (fun h => ?_)
  rotate_left
  · conv => whnf
    refine ⟨by omega, rfl, ?_⟩
    conv => whnf
    refine ⟨_, hgo n0 (by omega), ?_⟩
    rw [show decide ((n0 : Int) ∈ P) = true by simp [hp0]]
    conv => whnf
    repeat' ((first | refine fork_t ?_ | refine fork_f ?_ | (refine Fork.mk (fun h => ?_) (fun h => ?_); focus (simp at h; done)) | refine ⟨rfl, ?_⟩ | fail) <;> (conv => whnf))
    exact hk
  have htl : t < a.length := by simp at h; omega
  clear h
  have hca := List.getElem?_eq_getElem (show t < xa.2.length by omega)
  have hfa := fa _ (List.getElem_mem (show t < xa.2.length by omega))
  generalize xa.2[t] = o at hca hfa
  have hcb := List.getElem?_eq_getElem (show t < xb.2.length by omega)
  have hfb := fb _ (List.getElem_mem (show t < xb.2.length by omega))
  generalize xb.2[t] = o' at hcb hfb
  have heq := hoff t o o' hca hcb
  have hwt := wr_succ (i := t) (by omega)
  have hmo := eL_len o
  have hmo' := eL_len o'
  conv => whnf
  refine ⟨by omega, wvC o, by rw [Int.toNat_natCast, List.getElem?_map, hca]; rfl, rfl, ?_⟩
  conv => whnf
  refine Fork.mk (fun h => ?_) (fun h => ?_)
  · exfalso; simp at h; omega
  clear h
  conv => whnf
  refine ⟨by omega, wvC o', by rw [Int.toNat_natCast, List.getElem?_map, hcb]; rfl, rfl, ?_⟩
  conv => whnf
  refine Fork.mk (fun h => ?_) (fun h => ?_)
  · exfalso; simp at h; omega
  clear h
  conv => whnf
  refine ⟨Nat, fun j => ([(8, .c (.ptr (.l 8 1) 0)), (10, I n0), (18, .c (.lst (eV xa.2))), (21, .c (.lst (eV xb.2))), (23, .c (.view (.l 108 4) 0 N)), (26, I t), (128, I (eV xa.2).length), (129, I t), (151, I r.n), (152, I j)], ⟨[(.l 8 1, .blk (rvC r)), (.l 108 4, .arr 4 1 ((onL N P).map eB) false)], 9, []⟩),
    fun j => j ≤ N, fun j => N - j, 0, Nat.zero_le _, Shift.rename [] ⟨rfl, rfl, rfl, rfl, rfl, rfl, rfl, rfl, rfl, rfl, trivial⟩ ⟨rfl, rfl, trivial⟩ rfl rfl rfl, fun j hj => ?_⟩
  dsimp only
  conv => whnf
  refine Fork.mk (fun h => ?_) (fun h => ?_)
  rotate_left
  · conv => whnf
    rw [hwt]
    exact ⟨t + 1, htl, Shift.rename [] ⟨rfl, rfl, rfl, rfl, rfl, rfl, rfl, trivial⟩ ⟨rfl, rfl, trivial⟩ rfl rfl rfl, by omega⟩
  have hjl : j < N := by simp at h; omega
  clear h
  have hwj := wr_succ (i := j) (by omega)
  have hgj := hgo j hjl
  have hoj := gN_get (a := o) (j := j) (by omega)
  have hoj' := gN_get (a := o') (j := j) (by omega)
  conv => whnf
  refine ⟨by omega, rfl, ?_⟩
  conv => whnf
  refine ⟨_, hgj, ?_⟩
  by_cases hjP : (j : Int) ∈ P
  · rw [show decide ((j : Int) ∈ P) = true by simp [hjP]]
    conv => whnf
    repeat' ((first | refine fork_t ?_ | refine fork_f ?_ | (refine Fork.mk (fun h => ?_) (fun h => ?_); focus (simp at h; done)) | fail) <;> (conv => whnf))
    rw [hwj]
    exact ⟨j + 1, hjl, Shift.rename [] ⟨rfl, rfl, rfl, rfl, rfl, rfl, rfl, rfl, rfl, rfl, trivial⟩ ⟨rfl, rfl, trivial⟩ rfl rfl rfl, by omega⟩
  · have hE := heq j hjP
    rw [← hE] at hoj'
    rw [show decide ((j : Int) ∈ P) = false by simp [hjP]]
    conv => whnf
    (repeat ((first | refine fork_t ?_ | refine fork_f ?_); (conv => whnf)))
    refine ⟨by omega, wvC o, by rw [Int.toNat_natCast, List.getElem?_map, hca]; rfl, rfl, ?_⟩
    conv => whnf
    refine ⟨by omega, eI (gN o j), by rw [Int.toNat_natCast, List.getElem?_map, hoj]; rfl, rfl, ?_⟩
    conv => whnf
    refine ⟨by omega, wvC o', by rw [Int.toNat_natCast, List.getElem?_map, hcb]; rfl, rfl, ?_⟩
    conv => whnf
    refine ⟨by omega, eI (gN o j), by rw [Int.toNat_natCast, List.getElem?_map, hoj']; rfl, rfl, ?_⟩
    conv => whnf
    repeat' ((first | refine fork_t ?_ | refine fork_f ?_ | (refine Fork.mk (fun h => ?_) (fun h => ?_); focus (simp at h; done)) | fail) <;> (conv => whnf))
    rw [hwj]
    exact ⟨j + 1, hjl, Shift.rename [] ⟨rfl, rfl, rfl, rfl, rfl, rfl, rfl, rfl, rfl, rfl, trivial⟩ ⟨rfl, rfl, trivial⟩ rfl rfl rfl, by omega⟩
end Go.Proofs
