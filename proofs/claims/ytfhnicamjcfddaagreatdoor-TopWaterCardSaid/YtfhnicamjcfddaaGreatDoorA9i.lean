/- Proved here: what functions of the given program come to, for the statements of this chapter; no condition but those in the theorems. -/
import Derived.Test.YtfhnicamjcfddaaGreatDoorA9h
import Derived.Test.YtfhnicamjcfddaaGreatDoorPWork
namespace Go.Proofs
open Go Go.Abs
set_option linter.unusedSimpArgs false
set_option linter.unusedVariables false
set_option maxRecDepth 20000
theorem free_ok : FunG Tryz.prog 64 R_free := by
  intro args os k h
  obtain ⟨x, cu, cg, rfl, rfl, hcu, hcg, hd, hl, hk⟩ := h
  obtain ⟨k1, k2, k3, k4, k5⟩ := ckS_ok (ckD_ok hd).s
  have hvd := valC_in k1 x.d.r.dead
  have e1 : IntKind.i64.wrap (x.left - valC x.d.r.st x.d.r.dead) = x.left - valC x.d.r.st x.d.r.dead := wrap_in (by omega) (by omega)
  have hno : xsOs 1 [.blk (wkC x cu cg)] = true := by cases cu <;> cases cg <;> first | rfl | (exfalso; simp [noC] at hcu; done) | (exfalso; simp [noC] at hcg; done)
  refine doesG_ex (qc := qc1) (np := []) (CK := ckK [(86, cSc R_val)]) mixed Tryz.func64 rfl rfl Tryz.ntmps64 Tryz.results64 τ_ok (by kernel_rfl) (ckK_ok ⟨cSc_ok val_ok, trivial⟩) (by simp) rfl hno ?_
  conv => whnf

  refine ⟨x.d.r.st, rfl, k1, ?_⟩
  conv => whnf
  rw [e1]
  exact ⟨rfl, hno, hk⟩
theorem over_ok : FunD Tryz.prog 41 R_over := by
  intro cs k h
  obtain ⟨x, us', gs', rfl, hin, ⟨h1, h2, h3⟩, hk⟩ := h
  obtain ⟨hck, hvol, hrl, hun, hgn, hub, hgb⟩ := validD_at hin.v
  obtain ⟨k1, k2, k3, k4, k5⟩ := ckS_ok (ckD_ok hck).s
  have hvd := valC_in k1 x.d.r.crest
  have hl := hin.left
  have e1 : IntKind.i64.wrap (x.r.tur + x.r.spi) = x.r.tur + x.r.spi := wrap_in (by omega) (by omega)
  have e2 : IntKind.i64.wrap (x.left - (x.r.tur + x.r.spi)) = x.left - (x.r.tur + x.r.spi) := wrap_in (by omega) (by omega)
  have e3 : IntKind.i64.wrap (x.left - (x.r.tur + x.r.spi) - valC x.d.r.st x.d.r.crest) = x.left - (x.r.tur + x.r.spi) - valC x.d.r.st x.d.r.crest := wrap_in (by omega) (by omega)
  have hov : 0 ≤ ovW x.d (x.left - (x.r.tur + x.r.spi)) ∧ ovW x.d (x.left - (x.r.tur + x.r.spi)) ≤ x.left - (x.r.tur + x.r.spi) := by unfold ovW; split <;> omega
  have e4 : IntKind.i64.wrap (x.left - (x.r.tur + x.r.spi) - ovW x.d (x.left - (x.r.tur + x.r.spi))) = x.left - (x.r.tur + x.r.spi) - ovW x.d (x.left - (x.r.tur + x.r.spi)) := wrap_in (by omega) (by omega)
  refine doesD_ex (qc := qc1) (np := []) (CK := ckK [(62, cSc R_crst)]) mixed Tryz.func41 rfl rfl Tryz.ntmps41 Tryz.results41 τ_ok (by kernel_rfl) (ckK_ok ⟨cSc_ok crst_ok, trivial⟩) (by simp) rfl ?_
  conv => whnf
  refine ⟨x.d, rfl, hck, ?_⟩
  conv => whnf
  rw [e1, e2, e3]
  refine ⟨_, _, Shift.refl _, ?_⟩
  conv => whnf
  rw [show (if x.left - (x.r.tur + x.r.spi) - valC x.d.r.st x.d.r.crest < 0 then 0 else x.left - (x.r.tur + x.r.spi) - valC x.d.r.st x.d.r.crest) = ovW x.d (x.left - (x.r.tur + x.r.spi)) from rfl, e4]
  exact ⟨rfl, hk⟩
theorem gates_ok : FunD Tryz.prog 42 R_gates := by
  intro cs k h
  obtain ⟨x, us', rfl, hin, hsf, ⟨h1, h2⟩, hk⟩ := h
  obtain ⟨hck, hvol, hrl, hun, hgn, hub, hgb⟩ := validD_at hin.v
  obtain ⟨k1, k2, k3, k4, k5⟩ := ckS_ok (ckD_ok hck).s
  have hvd := valC_in k1 x.d.r.dead
  have hl := hin.left
  have hre := hin.rel
  have hf := hin.f
  have hfi := fre_in (d := x.d) (left := x.left) (by omega) hl.1
  have e1 : IntKind.i64.wrap ((if fre x.d x.left < x.rel then fre x.d x.left else x.rel) - x.r.tur) = gtW x := wrap_in (by split <;> omega) (by split <;> omega)
  have e2 : IntKind.i64.wrap (fre x.d x.left - x.r.tur) = fre x.d x.left - x.r.tur := wrap_in (by omega) (by omega)
  refine doesD_ex (qc := qc1) (np := []) (CK := ckK [(64, cGr R_free), (63, cPu R_setS)]) mixed Tryz.func42 rfl rfl Tryz.ntmps42 Tryz.results42 τ_ok (by kernel_rfl) (ckK_ok ⟨cGr_ok free_ok, cPu_ok set_ok rfl, trivial⟩) (by simp) rfl ?_
  conv => whnf
  refine ⟨[.x 0], rfl, ?_⟩
  conv => whnf
  refine ⟨rfl, ?_⟩
  conv => whnf
  refine ⟨rfl, ?_⟩
  conv => whnf
  refine ⟨x, .lst (eQ us'), cNil, rfl, rfl, rfl, rfl, hck, hl, ?_⟩
  conv => whnf
  refine ⟨rfl, ?_⟩
  conv => whnf
  rw [e1]
  refine ⟨x.d.gs, x.s.gs, x.lv, gtW x, rfl, ⟨hf.g, hsf.g, hf.fg⟩, ?_⟩
  conv => whnf
  refine ⟨[.x 0], rfl, ?_⟩
  conv => whnf
  refine ⟨rfl, ?_⟩
  conv => whnf
  refine ⟨rfl, ?_⟩
  conv => whnf
  refine ⟨x, .lst (eQ us'), .lst (eS (gtQ x).1), rfl, rfl, rfl, rfl, hck, hl, ?_⟩
  conv => whnf
  refine ⟨rfl, ?_⟩
  conv => whnf
  rw [show IntKind.i64.wrap (fre x.d (x.left) - x.r.tur) = fre x.d x.left - x.r.tur from e2]
  refine ⟨_, _, Shift.refl _, ?_⟩
  conv => whnf
  exact ⟨rfl, hk⟩
theorem turb_ok : FunD Tryz.prog 43 R_turb := by
  intro cs k h
  obtain ⟨x, rfl, hin, hk⟩ := h
  obtain ⟨hck, hvol, hrl, hun, hgn, hub, hgb⟩ := validD_at hin.v
  have ok := ckD_ok hck
  obtain ⟨k1, k2, k3, k4, k5⟩ := ckS_ok ok.s
  have hvd := valC_in k1 x.d.r.dead
  have hl := hin.left
  have hre := hin.rel
  have hf := hin.f
  have hn6 := ok.n
  have hgr := ok.gr
  have hmu := eU_len x.d.us
  have hfi := fre_in (d := x.d) (left := x.left) (by omega) hl.1
  have e1 : IntKind.i64.wrap (200 * x.d.gr) = 200 * x.d.gr := wrap_in (by omega) (by omega)
  have htw : 0 ≤ tuW x ∧ tuW x ≤ 1073741824 ∧ tuW x ≤ 200 * x.d.gr := by unfold tuW; split <;> split <;> omega
  refine doesD_ex (qc := qc1) (np := [(8, [(0, 15), (5, 15), (7, 15), (8, 15), (10, 15)]), (15, [(5, 7)])]) (CK := ckK [(64, cGr R_free), (65, cPq R_bstD), (66, cSc R_nextS), (67, cSc (R_unQ2 powS))]) mixed Tryz.func43 rfl rfl Tryz.ntmps43 Tryz.results43 τ_ok (by kernel_rfl) (ckK_ok ⟨cGr_ok free_ok, cPq_ok bstD_ok, cSc_ok next_ok', cSc_ok power_ok, trivial⟩) (by simp) rfl ?_
  conv => whnf
  refine ⟨[.x 0], rfl, ?_⟩
  conv => whnf
  refine ⟨rfl, ?_⟩
  conv => whnf
  refine ⟨rfl, ?_⟩
  conv => whnf
  refine ⟨x.run 0 0 0, cNil, cNil, rfl, rfl, rfl, rfl, hck, hl, ?_⟩
  conv => whnf
  refine ⟨rfl, ?_⟩
  conv => whnf
  rw [e1]
  refine ⟨x.d.us, x.s.us, x.d.gr, tuW x, rfl, ⟨by omega, hun.symm, hub, hf.fu, hgr, by omega, htw.2.2⟩, fun qs e hq0 hq1 => ?_⟩
  conv => whnf
  refine ⟨Nat × List Us × Int × Int × Int, fun y => ([(0, .c (.ptr (.x 0) 0)), (3, .c (.lst (eL qs))), (4, I e), (50, .c (.lst (eU x.d.us))), (51, I (eU x.d.us).length), (52, I y.1)],
      ⟨[(.x 0, .blk (wkC (x.run y.2.2.1 y.2.2.2.1 y.2.2.2.2) (.view (.l 136 0) 0 y.2.1.length) cNil)), (.l 136 0, .arr 102 3 (eQ y.2.1) false)], 20, []⟩),
    fun y => tuAt x e qs y.1 y.2.1 y.2.2.1 y.2.2.2.1 y.2.2.2.2, fun y => x.d.us.length - y.1, (0, [], 0, 0, 0), tuAt.zero, Shift.trans (Shift.rename [] ⟨rfl, rfl, rfl, rfl, rfl, rfl, trivial⟩ ⟨rfl, rfl, trivial⟩ rfl rfl rfl) (Shift.nilCell (i := .x 0) (cs := wkC (x.run 0 0 0) cNil cNil) (j := 15) rfl rfl 136 102 3), fun y hy => ?_⟩
  obtain ⟨i, O, q, p, c⟩ := y
  dsimp only at hy ⊢
  have hi := hy.hi
  have hOl := hy.l
  have hmO := eQ_len O
  have hqs := hy.le htw.1 hq0
  have hq00 := hy.q0
  conv => whnf
  refine Fork.mk (fun h => ?_) (fun h => ?_)
  rotate_left
  · have hie : i = x.d.us.length := by simp at h; omega
    conv => whnf
    refine ⟨_, _, Shift.purCell (i := .x 0) (cs := wkC (x.run q p c) (.view (.l 136 0) 0 O.length) cNil) (j := 15) rfl rfl (purCV (i := .l 136 0) (e := 102) (sz := 3) (es := eQ O) (f := false) rfl hmO.symm), ?_⟩
    conv => whnf
    exact ⟨rfl, hk O q p c (by omega) (usB_of hy.v) ⟨hq00, hqs⟩ fun hn => hy.z (by rw [hie, hn]; rfl)⟩
  have hi2 : i < x.d.us.length := by simp at h; omega
  clear h
  have hci := List.getElem?_eq_getElem hi2
  have hcz := List.getElem?_eq_getElem (show i < x.s.us.length by omega)
  have hvu := usB_at hub hci hcz
  have hfu := hf.fu _ (List.getElem_mem hi2)
  generalize x.d.us[i] = u at hci hfu hvu
  generalize x.s.us[i] = z at hcz hvu
  have hw1 := wr_succ (i := i) (by omega)
  conv => whnf
  refine ⟨by omega, unC u, by rw [Int.toNat_natCast, List.getElem?_map, hci]; rfl, rfl, ?_⟩
  conv => whnf
  refine Fork.mk (fun h => ?_) (fun h => ?_)
  · have he : e = 0 := by simpa using h
    clear h
    obtain ⟨hmay, hsum⟩ := hq0 he
    have hlen := (mayL_len hmay)
    obtain ⟨f, hff⟩ : ∃ f, qs[i]? = some f := ⟨_, List.getElem?_eq_getElem (by omega)⟩
    have hst := fun a b v hv => hy.step (p' := a) (c' := b) (z := v) htw.1 hq0 hci (show if e = 0 then qs[i]? = some f else f = 0 by rw [if_pos he]; exact hff) hv
    conv => whnf
    refine ⟨by have := (List.getElem?_eq_some_iff.1 hff).1; omega, eI f, by rw [Int.toNat_natCast, List.getElem?_map, hff]; rfl, rfl, ?_⟩
    conv => whnf
    have hno := next_or (q := f) hvu
    have hb := hst 0 0 _ hno
    have hqf : 0 ≤ q + f ∧ q + f ≤ tuW x := ⟨hb.1.q0, hb.2⟩
    clear hb
    refine ⟨by omega, usC z, by rw [Int.toNat_natCast, List.getElem?_map, hcz]; rfl, rfl, ?_⟩
    conv => whnf
    refine ⟨u, z, f, rfl, hfu, ?_⟩
    generalize (nextS u z f).2.1 = b1
    generalize (nextS u z f).2.2 = b2 at hno
    generalize (nextS u z f).1 = n at hno
    have hw2 : IntKind.i64.wrap (q + f) = q + f := wrap_in (by omega) (by omega)
    conv => whnf
    refine Fork.mk (fun h => ?_) (fun h => ?_)
    · rw [if_neg (by simpa using h)] at hno
      clear h
      conv => whnf
      refine ⟨by omega, usC z, by rw [Int.toNat_natCast, List.getElem?_map, hcz]; rfl, rfl, ?_⟩
      conv => whnf
      refine ⟨u, f, rfl, hfu, ?_⟩
      conv => whnf
      rw [hw2]
      generalize IntKind.i64.wrap (p + (powS u f).1) = p2
      refine Fork.mk (fun h => ?_) (fun h => ?_)
      · clear h
        conv => whnf
        generalize IntKind.i64.wrap ((x.run q p c).r.sta + 1) = c2
        refine ⟨by simp, ?_⟩
        conv => whnf
        refine ⟨rfl, ?_⟩
        conv => whnf
        refine ⟨⟨rfl, rfl, rfl, hmO.symm, by rw [hmO]; simp; omega⟩, ?_⟩
        conv => whnf
        rw [hw1]
        refine ⟨(i + 1, O ++ [(⟨0, 1, z.ot⟩ : Us)], q + f, p2, c2), (hst p2 c2 (⟨0, 1, z.ot⟩ : Us) hno).1, Shift.rename [(.l 136 0, .l 136 22)] ⟨rfl, rfl, rfl, rfl, rfl, rfl, trivial⟩ ⟨?_, ?_, trivial⟩ rfl rfl rfl, by dsimp only; omega⟩
        · dsimp only; rw [show (O ++ [(⟨0, 1, z.ot⟩ : Us)]).length = (eQ O).length + 1 by rw [hmO]; simp]; rfl
        · dsimp only; rw [show eQ (O ++ [(⟨0, 1, z.ot⟩ : Us)]) = eQ O ++ [usC ((⟨0, 1, z.ot⟩ : Us))] from List.map_append]; rfl
      clear h
      conv => whnf
      refine ⟨by simp, ?_⟩
      conv => whnf
      refine ⟨rfl, ?_⟩
      conv => whnf
      refine ⟨⟨rfl, rfl, rfl, hmO.symm, by rw [hmO]; simp; omega⟩, ?_⟩
      conv => whnf
      rw [hw1]
      refine ⟨(i + 1, O ++ [(⟨0, 1, z.ot⟩ : Us)], q + f, p2, c), (hst p2 c (⟨0, 1, z.ot⟩ : Us) hno).1, Shift.rename [(.l 136 0, .l 136 22)] ⟨rfl, rfl, rfl, rfl, rfl, rfl, trivial⟩ ⟨?_, ?_, trivial⟩ rfl rfl rfl, by dsimp only; omega⟩
      · dsimp only; rw [show (O ++ [(⟨0, 1, z.ot⟩ : Us)]).length = (eQ O).length + 1 by rw [hmO]; simp]; rfl
      · dsimp only; rw [show eQ (O ++ [(⟨0, 1, z.ot⟩ : Us)]) = eQ O ++ [usC ((⟨0, 1, z.ot⟩ : Us))] from List.map_append]; rfl
    rw [if_pos (by simpa using h)] at hno
    clear h
    conv => whnf
    refine ⟨u, f, rfl, hfu, ?_⟩
    conv => whnf
    rw [hw2]
    generalize IntKind.i64.wrap (p + (powS u f).1) = p2
    refine Fork.mk (fun h => ?_) (fun h => ?_)
    · clear h
      conv => whnf
      generalize IntKind.i64.wrap ((x.run q p c).r.sta + 1) = c2
      refine ⟨by simp, ?_⟩
      conv => whnf
      refine ⟨rfl, ?_⟩
      conv => whnf
      refine ⟨⟨rfl, rfl, rfl, hmO.symm, by rw [hmO]; simp; omega⟩, ?_⟩
      conv => whnf
      rw [hw1]
      refine ⟨(i + 1, O ++ [n], q + f, p2, c2), (hst p2 c2 n hno).1, Shift.rename [(.l 136 0, .l 136 22)] ⟨rfl, rfl, rfl, rfl, rfl, rfl, trivial⟩ ⟨?_, ?_, trivial⟩ rfl rfl rfl, by dsimp only; omega⟩
      · dsimp only; rw [show (O ++ [n]).length = (eQ O).length + 1 by rw [hmO]; simp]; rfl
      · dsimp only; rw [show eQ (O ++ [n]) = eQ O ++ [usC (n)] from List.map_append]; rfl
    clear h
    conv => whnf
    refine ⟨by simp, ?_⟩
    conv => whnf
    refine ⟨rfl, ?_⟩
    conv => whnf
    refine ⟨⟨rfl, rfl, rfl, hmO.symm, by rw [hmO]; simp; omega⟩, ?_⟩
    conv => whnf
    rw [hw1]
    refine ⟨(i + 1, O ++ [n], q + f, p2, c), (hst p2 c n hno).1, Shift.rename [(.l 136 0, .l 136 22)] ⟨rfl, rfl, rfl, rfl, rfl, rfl, trivial⟩ ⟨?_, ?_, trivial⟩ rfl rfl rfl, by dsimp only; omega⟩
    · dsimp only; rw [show (O ++ [n]).length = (eQ O).length + 1 by rw [hmO]; simp]; rfl
    · dsimp only; rw [show eQ (O ++ [n]) = eQ O ++ [usC (n)] from List.map_append]; rfl
  have he : e ≠ 0 := by simpa using h
  clear h
  have hst := fun a b v hv => hy.step (p' := a) (c' := b) (z := v) (f := 0) htw.1 hq0 hci (by rw [if_neg he]) hv
  conv => whnf
  have hno := next_or (q := 0) hvu
  have hb := hst 0 0 _ hno
  have hqf : 0 ≤ q + 0 ∧ q + 0 ≤ tuW x := ⟨hb.1.q0, hb.2⟩
  clear hb
  refine ⟨by omega, usC z, by rw [Int.toNat_natCast, List.getElem?_map, hcz]; rfl, rfl, ?_⟩
  conv => whnf
  refine ⟨u, z, 0, rfl, hfu, ?_⟩
  generalize (nextS u z 0).2.1 = b1
  generalize (nextS u z 0).2.2 = b2 at hno
  generalize (nextS u z 0).1 = n at hno
  have hw2 : IntKind.i64.wrap (q + 0) = q + 0 := wrap_in (by omega) (by omega)
  conv => whnf
  refine Fork.mk (fun h => ?_) (fun h => ?_)
  · rw [if_neg (by simpa using h)] at hno
    clear h
    conv => whnf
    refine ⟨by omega, usC z, by rw [Int.toNat_natCast, List.getElem?_map, hcz]; rfl, rfl, ?_⟩
    conv => whnf
    refine ⟨u, 0, rfl, hfu, ?_⟩
    conv => whnf
    rw [hw2]
    generalize IntKind.i64.wrap (p + (powS u 0).1) = p2
    refine Fork.mk (fun h => ?_) (fun h => ?_)
    · clear h
      conv => whnf
      generalize IntKind.i64.wrap ((x.run q p c).r.sta + 1) = c2
      refine ⟨by simp, ?_⟩
      conv => whnf
      refine ⟨rfl, ?_⟩
      conv => whnf
      refine ⟨⟨rfl, rfl, rfl, hmO.symm, by rw [hmO]; simp; omega⟩, ?_⟩
      conv => whnf
      rw [hw1]
      refine ⟨(i + 1, O ++ [(⟨0, 1, z.ot⟩ : Us)], q + 0, p2, c2), (hst p2 c2 (⟨0, 1, z.ot⟩ : Us) hno).1, Shift.rename [(.l 136 0, .l 136 22)] ⟨rfl, rfl, rfl, rfl, rfl, rfl, trivial⟩ ⟨?_, ?_, trivial⟩ rfl rfl rfl, by dsimp only; omega⟩
      · dsimp only; rw [show (O ++ [(⟨0, 1, z.ot⟩ : Us)]).length = (eQ O).length + 1 by rw [hmO]; simp]; rfl
      · dsimp only; rw [show eQ (O ++ [(⟨0, 1, z.ot⟩ : Us)]) = eQ O ++ [usC ((⟨0, 1, z.ot⟩ : Us))] from List.map_append]; rfl
    clear h
    conv => whnf
    refine ⟨by simp, ?_⟩
    conv => whnf
    refine ⟨rfl, ?_⟩
    conv => whnf
    refine ⟨⟨rfl, rfl, rfl, hmO.symm, by rw [hmO]; simp; omega⟩, ?_⟩
    conv => whnf
    rw [hw1]
    refine ⟨(i + 1, O ++ [(⟨0, 1, z.ot⟩ : Us)], q + 0, p2, c), (hst p2 c (⟨0, 1, z.ot⟩ : Us) hno).1, Shift.rename [(.l 136 0, .l 136 22)] ⟨rfl, rfl, rfl, rfl, rfl, rfl, trivial⟩ ⟨?_, ?_, trivial⟩ rfl rfl rfl, by dsimp only; omega⟩
    · dsimp only; rw [show (O ++ [(⟨0, 1, z.ot⟩ : Us)]).length = (eQ O).length + 1 by rw [hmO]; simp]; rfl
    · dsimp only; rw [show eQ (O ++ [(⟨0, 1, z.ot⟩ : Us)]) = eQ O ++ [usC ((⟨0, 1, z.ot⟩ : Us))] from List.map_append]; rfl
  rw [if_pos (by simpa using h)] at hno
  clear h
  conv => whnf
  refine ⟨u, 0, rfl, hfu, ?_⟩
  conv => whnf
  rw [hw2]
  generalize IntKind.i64.wrap (p + (powS u 0).1) = p2
  refine Fork.mk (fun h => ?_) (fun h => ?_)
  · clear h
    conv => whnf
    generalize IntKind.i64.wrap ((x.run q p c).r.sta + 1) = c2
    refine ⟨by simp, ?_⟩
    conv => whnf
    refine ⟨rfl, ?_⟩
    conv => whnf
    refine ⟨⟨rfl, rfl, rfl, hmO.symm, by rw [hmO]; simp; omega⟩, ?_⟩
    conv => whnf
    rw [hw1]
    refine ⟨(i + 1, O ++ [n], q + 0, p2, c2), (hst p2 c2 n hno).1, Shift.rename [(.l 136 0, .l 136 22)] ⟨rfl, rfl, rfl, rfl, rfl, rfl, trivial⟩ ⟨?_, ?_, trivial⟩ rfl rfl rfl, by dsimp only; omega⟩
    · dsimp only; rw [show (O ++ [n]).length = (eQ O).length + 1 by rw [hmO]; simp]; rfl
    · dsimp only; rw [show eQ (O ++ [n]) = eQ O ++ [usC (n)] from List.map_append]; rfl
  clear h
  conv => whnf
  refine ⟨by simp, ?_⟩
  conv => whnf
  refine ⟨rfl, ?_⟩
  conv => whnf
  refine ⟨⟨rfl, rfl, rfl, hmO.symm, by rw [hmO]; simp; omega⟩, ?_⟩
  conv => whnf
  rw [hw1]
  refine ⟨(i + 1, O ++ [n], q + 0, p2, c), (hst p2 c n hno).1, Shift.rename [(.l 136 0, .l 136 22)] ⟨rfl, rfl, rfl, rfl, rfl, rfl, trivial⟩ ⟨?_, ?_, trivial⟩ rfl rfl rfl, by dsimp only; omega⟩
  · dsimp only; rw [show (O ++ [n]).length = (eQ O).length + 1 by rw [hmO]; simp]; rfl
  · dsimp only; rw [show eQ (O ++ [n]) = eQ O ++ [usC (n)] from List.map_append]; rfl
end Go.Proofs
