/- Proved here: what functions of the given program come to, for the statements of this chapter; no condition but those in the theorems. -/
import Derived.Test.YtgehodhbcckcoaaO20
import Derived.Test.YtgehodhbcckcoaaPGate2
import Derived.Test.YtgehodhbcckcoaaAbsSh
namespace Go.Proofs
open Go Go.Abs
set_option linter.unusedSimpArgs false
set_option linter.unusedVariables false
set_option maxRecDepth 4000
set_option maxHeartbeats 4000000 in
theorem all_ok : FunR Try.prog 7 R_gall := by
  intro args k h
  obtain ⟨raw, rs, l, op, lv, rfl, hraw, hrs, hl, hk⟩ := h
  have hm : (raw.rt.map rtC).length = raw.rt.length := List.length_map _
  have hmr := eS_len rs
  refine does_ex (qc := qc1) (np := [(6, [(1, 2), (1, 3)]), (8, [(0, 4), (1, 4)])]) (CK := ckK [(10, cN R_new), (11, cB R_mkGs), (17, cB R_mkG), (13, cSc R_mod), (18, cB R_oddG), (12, cB R_next), (22, cSc (R_gI ckG)), (23, cSc (R_gI ckG)), (21, cSc R_flowS), (24, cSc R_flowS), (25, cSc R_totS), (26, cSc R_totS), (27, cSc R_rngS), (28, cSc R_rngS), (9, cSc R_tt)]) mixed Try.func7 rfl rfl Try.ntmps7 Try.results7 τ_ok (by kernel_rfl) (ckK_ok ⟨cN_ok new_ok rfl, cB_ok mkGs_ok rfl, cB_ok mkG_ok rfl, cSc_ok mod_ok, cB_ok odd_ok rfl, cB_ok next_ok rfl, cSc_ok ckG_prog, cSc_ok rckG_ok, cSc_ok flow_ok, cSc_ok rFlow_ok, cSc_ok tot_ok, cSc_ok rtot_ok, cSc_ok rng_ok, cSc_ok rrng_ok, cSc_ok awake_ok, trivial⟩) (by simp) ?_
  conv => whnf
  refine Fork.mk (fun h => ?_) (fun h => ?_)
  · conv => whnf
    (repeat (refine fork_t ?_; (conv => whnf)))
    refine ⟨rfl, ?_⟩
    conv => whnf
    exact hk
  have hrl : raw.rt.length ≤ 20 := by simp at h; omega
  clear h
  conv => whnf
  refine Fork.mk (fun h => ?_) (fun h => ?_)
  · conv => whnf
    refine ⟨rfl, ?_⟩
    conv => whnf
    exact hk
  have hrsl : rs.length ≤ 12 := by simp at h; omega
  clear h
  conv => whnf
  refine ⟨l, rfl, ?_⟩
  conv => whnf
  refine ⟨⟨l, 0⟩, 4, rfl, rfl, ⟨Nat.zero_le _, hl⟩, by omega, fun gs ss d hd hgl hgs => ?_⟩
  have hsl := hgs.l
  have hmg := eG_len gs
  have hms := eS_len ss
  conv => whnf
  refine ⟨d, rfl, rfl, hd, fun g d hd hg => ?_⟩
  conv => whnf
  refine ⟨by simp [gtC], ?_⟩
  conv => whnf
  refine ⟨by rw [hmg]; show _ * 40 ≤ _; omega, ?_⟩
  conv => whnf
  refine ⟨by simp, ?_⟩
  conv => whnf
  refine ⟨rfl, ?_⟩
  conv => whnf
  refine ⟨⟨rfl, rfl, rfl, rfl, by simp; omega⟩, ?_⟩
  conv => whnf
  refine ⟨by simp [gsC], ?_⟩
  conv => whnf
  refine ⟨by rw [hms]; show _ * 16 ≤ _; omega, ?_⟩
  conv => whnf
  refine ⟨d, rfl, hd, by omega, fun z d hd hz1 hz2 => ?_⟩
  conv => whnf
  refine ⟨by simp, ?_⟩
  conv => whnf
  refine ⟨rfl, ?_⟩
  conv => whnf
  refine ⟨⟨rfl, rfl, rfl, rfl, by simp; omega⟩, ?_⟩
  conv => whnf
  refine ⟨d, g, rfl, rfl, hd, hg.fin, ⟨hg.ok.n0, by have := hg.ok.n; omega⟩, fun o d hd ho => ?_⟩
  have hbad : eG gs ++ [gtC raw] = eG (gs ++ [raw]) := by rw [show eG (gs ++ [raw]) = eG gs ++ eG [raw] from List.map_append]; rfl
  have hsome : eS ss ++ [gsC ⟨z, false⟩] = eS (ss ++ [⟨z, false⟩]) := by rw [show eS (ss ++ [⟨z, false⟩]) = eS ss ++ eS [⟨z, false⟩] from List.map_append]; rfl
  conv => whnf
  refine ⟨Nat × Dk, fun s => ([(1, .c (.lst (eS rs))), (3, I op), (4, I lv), (11, .c (.ptr (.l 50 1) 0)), (12, .c (.lst (eG gs))), (13, .c (.lst (eS ss))), (15, .c (.lst (eG (gs ++ [raw])))), (16, .c (.lst (eS (ss ++ [⟨z, false⟩])))), (75, .c (.view (.l 75 7) 0 3)), (76, I ((3 : Nat) : Int)), (77, I s.1)], ⟨[(.l 50 1, .blk (dkC s.2)), (.l 75 7, .arr 24 3 [gtC g, gtC raw, gtC o] false)], 20, []⟩),
    fun s => s.1 ≤ 3 ∧ s.2.ok, fun s => 3 - s.1, (0, d), ⟨Nat.zero_le _, hd⟩,
    Shift.trans (Shift.reset ⟨rfl, rfl, rfl, rfl, rfl, rfl, (by (show some (AV.c (.lst (eG gs ++ [gtC raw]))) = some (AV.c (.lst (eG (gs ++ [raw]))))); rw [hbad]), (by (show some (AV.c (.lst (eS ss ++ [gsC ⟨z, false⟩]))) = some (AV.c (.lst (eS (ss ++ [⟨z, false⟩]))))); rw [hsome]), rfl, rfl, rfl, trivial⟩ ⟨rfl, rfl, trivial⟩ rfl rfl)
      (Shift.trans (Shift.purV (t := 16) (i := .l 69 6) (es := eS ss ++ [gsC ⟨z, false⟩]) (n := (eS ss).length + 1) (e := 35) (sz := 2) (f := false) rfl rfl (by simp)) (Shift.purV (t := 15) (i := .l 62 3) (es := eG gs ++ [gtC raw]) (n := (eG gs).length + 1) (e := 24) (sz := 3) (f := false) rfl rfl (by simp))), fun s hs => ?_⟩
  obtain ⟨i, d⟩ := s
  obtain ⟨hi1, hd⟩ := hs
  dsimp only at hi1 hd ⊢
  conv => whnf
  refine Fork.mk (fun h => ?_) (fun h => ?_)
  · have hi : i < 3 := by simp at h; omega
    clear h
    obtain ⟨x, hx, hxf⟩ := triG g raw o hi hg.fin hraw ho
    have hw1 := wr_succ (i := i) (by omega)
    conv => whnf
    refine ⟨by omega, rfl, ?_⟩
    conv => whnf
    refine ⟨gtC x, hx, ?_⟩
    conv => whnf
    refine ⟨x, rfl, hxf, ?_⟩
    conv => whnf
    refine ⟨x, rfl, hxf, ?_⟩
    conv => whnf
    (refine Fork.mk (fun h => ?_) (fun h => ?_); focus (exfalso; simp at h)); clear h; (conv => whnf)
    refine ⟨d, rfl, hd, by omega, fun a d hd ha1 ha2 => ?_⟩
    conv => whnf
    refine ⟨d, rfl, hd, by omega, fun b d hd hb1 hb2 => ?_⟩
    conv => whnf
    rw [show IntKind.i64.wrap (80 + b) = 80 + b from wrap_in (by omega) (by omega)]
    refine ⟨Nat, fun j => ([(1, .c (.lst (eS rs))), (3, I op), (4, I lv), (11, .c (.ptr (.l 50 1) 0)), (12, .c (.lst (eG gs))), (13, .c (.lst (eS ss))), (15, .c (.lst (eG (gs ++ [raw])))), (16, .c (.lst (eS (ss ++ [⟨z, false⟩])))), (18, .c (.ptr (.l 18 20) 0)), (75, .c (.view (.l 75 7) 0 3)), (76, I ((3 : Nat) : Int)), (77, I i), (95, .c (.view (.l 95 21) 0 2)), (96, I ((2 : Nat) : Int)), (97, I j)], ⟨[(.l 50 1, .blk (dkC d)), (.l 75 7, .arr 24 3 [gtC g, gtC raw, gtC o] false), (.l 18 20, .blk (gtC x)), (.l 95 21, .arr 37 2 [[IC op, IC lv], [IC a, IC (80 + b)]] false)], 40, []⟩),
      fun j => j ≤ 2, fun j => 2 - j, 0, Nat.zero_le _, Shift.reset ⟨rfl, rfl, rfl, rfl, rfl, rfl, rfl, rfl, rfl, rfl, rfl, rfl, rfl, rfl, rfl, trivial⟩ ⟨rfl, rfl, rfl, rfl, trivial⟩ rfl rfl, fun j hj => ?_⟩
    dsimp only at hj ⊢
    conv => whnf
    refine Fork.mk (fun h => ?_) (fun h => ?_)
    · have hj : j < 2 := by simp at h; omega
      clear h
      obtain ⟨u, v, hy⟩ := duoI op lv a (80 + b) hj
      have hw4 := wr_succ (i := j) (by omega)
      conv => whnf
      refine ⟨by omega, rfl, ?_⟩
      conv => whnf
      refine ⟨[IC u, IC v], hy, ?_⟩
      conv => whnf
      refine ⟨by omega, ?_⟩
      conv => whnf
      refine ⟨by omega, ?_⟩
      conv => whnf
      refine ⟨x, u, v, rfl, hxf, ?_⟩
      conv => whnf
      refine ⟨by omega, ?_⟩
      conv => whnf
      refine ⟨by omega, ?_⟩
      conv => whnf
      refine ⟨x, u, v, rfl, hxf, ?_⟩
      conv => whnf
      (refine Fork.mk (fun h => ?_) (fun h => ?_); focus (exfalso; simp at h)); clear h; (conv => whnf)
      (refine Fork.mk (fun h => ?_) (fun h => ?_); focus (exfalso; simp at h)); clear h; (conv => whnf)
      rw [hw4]
      exact ⟨j + 1, hj, Shift.reset ⟨rfl, rfl, rfl, rfl, rfl, rfl, rfl, rfl, rfl, rfl, rfl, rfl, rfl, rfl, rfl, trivial⟩ ⟨rfl, rfl, rfl, rfl, trivial⟩ rfl rfl, by omega⟩
    conv => whnf
    rw [hw1]
    exact ⟨(i + 1, d), ⟨hi, hd⟩, Shift.reset ⟨rfl, rfl, rfl, rfl, rfl, rfl, rfl, rfl, rfl, rfl, rfl, trivial⟩ ⟨rfl, rfl, trivial⟩ rfl rfl, by dsimp only; omega⟩
  clear h hi1
  conv => whnf
  refine ⟨Nat × Dk, fun s => ([(1, .c (.lst (eS rs))), (4, I lv), (11, .c (.ptr (.l 50 1) 0)), (13, .c (.lst (eS ss))), (16, .c (.lst (eS (ss ++ [⟨z, false⟩])))), (131, .c (.view (.l 131 20) 0 2)), (132, I ((2 : Nat) : Int)), (133, I s.1)], ⟨[(.l 50 1, .blk (dkC s.2)), (.l 131 20, .arr 30 1 [[.lst (eG gs)], [.lst (eG (gs ++ [raw]))]] false)], 40, []⟩),
    fun s => s.1 ≤ 2 ∧ s.2.ok, fun s => 2 - s.1, (0, d), ⟨Nat.zero_le _, hd⟩, Shift.reset ⟨rfl, rfl, rfl, rfl, rfl, rfl, rfl, rfl, trivial⟩ ⟨rfl, rfl, trivial⟩ rfl rfl, fun s hs => ?_⟩
  obtain ⟨i, d⟩ := s
  obtain ⟨hi1, hd⟩ := hs
  dsimp only at hi1 hd ⊢
  conv => whnf
  refine Fork.mk (fun h => ?_) (fun h => ?_)
  · have hi : i < 2 := by simp at h; omega
    clear h
    obtain ⟨x, hx, hxx⟩ := duoG gs (gs ++ [raw]) hi
    have hxl : x.length ≤ 100 ∧ ∀ g ∈ x, g.fin := by
      rcases hxx with rfl | rfl
      · exact ⟨by omega, fun g h => (hgs.g g h).fin⟩
      · exact ⟨by simp; omega, fun q h => (List.mem_append.1 h).elim (fun h => (hgs.g q h).fin) fun h => by simp at h; subst h; exact hraw⟩
    have hw1 := wr_succ (i := i) (by omega)
    conv => whnf
    refine ⟨by omega, rfl, ?_⟩
    conv => whnf
    refine ⟨[.lst (eG x)], hx, ?_⟩
    conv => whnf
    refine ⟨Nat × Dk, fun s => ([(1, .c (.lst (eS rs))), (4, I lv), (11, .c (.ptr (.l 50 1) 0)), (13, .c (.lst (eS ss))), (16, .c (.lst (eS (ss ++ [⟨z, false⟩])))), (26, .c (.lst (eG x))), (131, .c (.view (.l 131 20) 0 2)), (132, I ((2 : Nat) : Int)), (133, I i), (140, .c (.view (.l 140 40) 0 3)), (141, I ((3 : Nat) : Int)), (142, I s.1)], ⟨[(.l 50 1, .blk (dkC s.2)), (.l 131 20, .arr 30 1 [[.lst (eG gs)], [.lst (eG (gs ++ [raw]))]] false), (.l 140 40, .arr 25 1 [[.lst (eS ss)], [.lst (eS (ss ++ [⟨z, false⟩]))], [.lst (eS rs)]] false)], 60, []⟩),
      fun s => s.1 ≤ 3 ∧ s.2.ok, fun s => 3 - s.1, (0, d), ⟨Nat.zero_le _, hd⟩, Shift.reset ⟨rfl, rfl, rfl, rfl, rfl, rfl, rfl, rfl, rfl, rfl, rfl, rfl, trivial⟩ ⟨rfl, rfl, rfl, trivial⟩ rfl rfl, fun s hs => ?_⟩
    obtain ⟨j, d⟩ := s
    obtain ⟨hj1, hd⟩ := hs
    dsimp only at hj1 hd ⊢
    conv => whnf
    refine Fork.mk (fun h => ?_) (fun h => ?_)
    · have hj : j < 3 := by simp at h; omega
      clear h
      obtain ⟨y, hy, hyy⟩ := triS ss (ss ++ [⟨z, false⟩]) rs hj
      have hyl : y.length ≤ 100 := by
        rcases hyy with rfl | rfl | rfl
        · omega
        · simp; omega
        · omega
      have hf : fins x y := ⟨by omega, by omega, hxl.2⟩
      have hw2 := wr_succ (i := j) (by omega)
      conv => whnf
      refine ⟨by omega, rfl, ?_⟩
      conv => whnf
      refine ⟨[.lst (eS y)], hy, ?_⟩
      conv => whnf
      refine ⟨d, rfl, hd, by omega, fun u d hd hu1 hu2 => ?_⟩
      conv => whnf
      rw [show IntKind.i64.wrap (80 + u) = 80 + u from wrap_in (by omega) (by omega)]
      refine ⟨Nat, fun k => ([(1, .c (.lst (eS rs))), (4, I lv), (11, .c (.ptr (.l 50 1) 0)), (13, .c (.lst (eS ss))), (16, .c (.lst (eS (ss ++ [⟨z, false⟩])))), (26, .c (.lst (eG x))), (28, .c (.lst (eS y))), (131, .c (.view (.l 131 20) 0 2)), (132, I ((2 : Nat) : Int)), (133, I i), (140, .c (.view (.l 140 40) 0 3)), (141, I ((3 : Nat) : Int)), (142, I j), (150, .c (.view (.l 150 60) 0 2)), (151, I ((2 : Nat) : Int)), (152, I k)], ⟨[(.l 50 1, .blk (dkC d)), (.l 131 20, .arr 30 1 [[.lst (eG gs)], [.lst (eG (gs ++ [raw]))]] false), (.l 140 40, .arr 25 1 [[.lst (eS ss)], [.lst (eS (ss ++ [⟨z, false⟩]))], [.lst (eS rs)]] false), (.l 150 60, .arr 3 1 [[IC lv], [IC (80 + u)]] false)], 80, []⟩),
        fun k => k ≤ 2, fun k => 2 - k, 0, Nat.zero_le _, Shift.reset ⟨rfl, rfl, rfl, rfl, rfl, rfl, rfl, rfl, rfl, rfl, rfl, rfl, rfl, rfl, rfl, rfl, trivial⟩ ⟨rfl, rfl, rfl, rfl, trivial⟩ rfl rfl, fun k hk1 => ?_⟩
      dsimp only at hk1 ⊢
      conv => whnf
      refine Fork.mk (fun h => ?_) (fun h => ?_)
      · have hk1 : k < 2 := by simp at h; omega
        clear h
        obtain ⟨n, hn⟩ := duoI1 lv (80 + u) hk1
        have hw3 := wr_succ (i := k) (by omega)
        conv => whnf
        refine ⟨by omega, rfl, ?_⟩
        conv => whnf
        refine ⟨[IC n], hn, ?_⟩
        conv => whnf
        refine ⟨x, y, n, rfl, hf, ?_⟩
        conv => whnf
        refine ⟨x, y, n, rfl, hf, ?_⟩
        conv => whnf
        refine ⟨x, y, n, rfl, hf, ?_⟩
        conv => whnf
        refine ⟨x, y, n, rfl, hf, ?_⟩
        conv => whnf
        (refine Fork.mk (fun h => ?_) (fun h => ?_); focus (exfalso; simp at h)); clear h; (conv => whnf)
        (refine Fork.mk (fun h => ?_) (fun h => ?_); focus (exfalso; simp at h)); clear h; (conv => whnf)
        (refine Fork.mk (fun h => ?_) (fun h => ?_); focus (exfalso; simp at h)); clear h; (conv => whnf)
        (refine Fork.mk (fun h => ?_) (fun h => ?_); focus (exfalso; simp at h)); clear h; (conv => whnf)
        rw [hw3]
        exact ⟨k + 1, hk1, Shift.reset ⟨rfl, rfl, rfl, rfl, rfl, rfl, rfl, rfl, rfl, rfl, rfl, rfl, rfl, rfl, rfl, rfl, trivial⟩ ⟨rfl, rfl, rfl, rfl, trivial⟩ rfl rfl, by omega⟩
      conv => whnf
      rw [hw2]
      exact ⟨(j + 1, d), ⟨hj, hd⟩, Shift.reset ⟨rfl, rfl, rfl, rfl, rfl, rfl, rfl, rfl, rfl, rfl, rfl, rfl, trivial⟩ ⟨rfl, rfl, rfl, trivial⟩ rfl rfl, by dsimp only; omega⟩
    conv => whnf
    rw [hw1]
    exact ⟨(i + 1, d), ⟨hi, hd⟩, Shift.reset ⟨rfl, rfl, rfl, rfl, rfl, rfl, rfl, rfl, trivial⟩ ⟨rfl, rfl, trivial⟩ rfl rfl, by dsimp only; omega⟩
  conv => whnf
  refine ⟨rfl, ?_⟩
  conv => whnf
  exact hk
end Go.Proofs
