/- Proved here: what functions of the given program come to, and the plain laws of it; no condition but those in the theorems. -/
import Derived.Test.YtgehodhbcckcoaaAbsS
import Derived.Test.YtgehodhbcckcoaaQ20
import Derived.Test.YtgehodhbcckcoaaPGate3
/- A slice of one's own becomes data ahead of a loop. -/
namespace Go.Abs
open Go.RowKit
set_option linter.unusedVariables false
theorem Shift.purT {b : St} {t : Nat} {c c' : Cell} {m' : Mem} (ht : tget b.t t = some (.c c)) (hp : pur b.m c = some (c', m')) : Shift ⟨tset b.t t (.c c'), m'⟩ b := fun B act w hR => by
  obtain ⟨⟨g, hs, hI⟩, hd, hz⟩ := hR
  obtain ⟨v, h1, h2⟩ := hs t _ ht
  cases h2 with
  | c h2 =>
    obtain ⟨g', he, hI', hP⟩ := pur_ok hI h2 hp
    refine ⟨⟨g', fun k x hx => ?_, hI'⟩, hd, hz⟩
    simp only [tget_tset] at hx
    split at hx
    · rename_i hk
      simp at hx
      subst hx
      rw [hk]
      exact ⟨v, h1, .c (.pure hP)⟩
    · obtain ⟨u, q1, q2⟩ := hs k x hx
      exact ⟨u, q1, q2.ext he⟩
theorem Shift.purV {b : St} {t : Nat} {i : Id} {e sz n : Nat} {es : List (List Cell)} {f : Bool} (ht : tget b.t t = some (.c (.view i 0 n))) (hm : mget b.m.o i = some (.arr e sz es f)) (hn : n = es.length) :
    Shift ⟨tset b.t t (.c (.lst es)), { b.m with o := mset b.m.o i (.arr e sz es true) }⟩ b := Shift.purT ht (by simp [pur, hm, hn])
end Go.Abs

namespace Go.Proofs
open Go Go.Abs
set_option linter.unusedSimpArgs false
set_option linter.unusedVariables false
set_option maxRecDepth 4000
set_option maxHeartbeats 4000000 in
theorem sets_ok : FunR Try.prog 3 R_gall := by
  intro args k h
  obtain ⟨raw, rs, l, lv, w, rfl, hraw, hrs, hl, hk⟩ := h
  have hm : (raw.rt.map rtC).length = raw.rt.length := List.length_map _
  have hmr := eS_len rs
  refine does_ex (qc := qc1) (np := [(5, [(1, 2), (1, 3)])]) (CK := ckK [(10, cN R_new), (11, cB R_mkGs), (13, cSc R_mod), (12, cB R_next), (14, cPu R_setS), (15, cPu R_setS), (16, cSc R_sameS), (9, cSc R_tt)]) mixed Try.func3 rfl rfl Try.ntmps3 Try.results3 τ_ok (by kernel_rfl) (ckK_ok ⟨cN_ok new_ok rfl, cB_ok mkGs_ok rfl, cSc_ok mod_ok, cB_ok next_ok rfl, cPu_ok set_ok rfl, cPu_ok rset_ok rfl, cSc_ok same_ok, cSc_ok awake_ok, trivial⟩) (by simp) ?_
  conv => whnf
  refine Fork.mk (fun h => ?_) (fun h => ?_)
  · conv => whnf
    (repeat (refine fork_t ?_; (conv => whnf)))
    refine ⟨rfl, ?_⟩
    conv => whnf
    exact hk
  have hrl : raw.rt.length ≤ 20 := by simp at h; omega
  clear h
  conv => whnf
  refine Fork.mk (fun h => ?_) (fun h => ?_)
  · conv => whnf
    refine ⟨rfl, ?_⟩
    conv => whnf
    exact hk
  have hrsl : rs.length ≤ 12 := by simp at h; omega
  clear h
  conv => whnf
  refine ⟨l, rfl, ?_⟩
  conv => whnf
  refine ⟨⟨l, 0⟩, 4, rfl, rfl, ⟨Nat.zero_le _, hl⟩, by omega, fun gs ss d hd hgl hgs => ?_⟩
  have hsl := hgs.l
  have hmg := eG_len gs
  have hms := eS_len ss
  have hbad : List.take ((eG gs).length + 1) (List.drop 0 (eG gs ++ [gtC raw])) = eG (gs ++ [raw]) := by
    rw [List.drop_zero, List.take_of_length_le (by simp), show eG (gs ++ [raw]) = eG gs ++ eG [raw] from List.map_append]; rfl
  have hsome : List.take ((eS ss).length + 1) (List.drop 0 (eS ss ++ [gsC ⟨1, false⟩])) = eS (ss ++ [⟨1, false⟩]) := by
    rw [List.drop_zero, List.take_of_length_le (by simp), show eS (ss ++ [⟨1, false⟩]) = eS ss ++ eS [⟨1, false⟩] from List.map_append]; rfl
  conv => whnf
  refine ⟨by simp [gtC], ?_⟩
  conv => whnf
  refine ⟨by rw [hmg]; show _ * 40 ≤ _; omega, ?_⟩
  conv => whnf
  refine ⟨by simp, ?_⟩
  conv => whnf
  refine ⟨rfl, ?_⟩
  conv => whnf
  refine ⟨⟨rfl, rfl, rfl, rfl, by simp; omega⟩, ?_⟩
  conv => whnf
  refine ⟨by simp, ?_⟩
  conv => whnf
  refine ⟨Nat × Dk, fun s => ([(1, .c (.lst (eS rs))), (3, I lv), (4, I w), (11, .c (.ptr (.l 38 1) 0)), (13, .c (.lst (eS ss))), (51, .c (.view (.l 51 3) 0 2)), (52, I ((2 : Nat) : Int)), (53, I s.1)], ⟨[(.l 38 1, .blk (dkC s.2)), (.l 51 3, .arr 30 1 [[.lst (eG gs)], [.lst (eG (gs ++ [raw]))]] false)], 20, []⟩),
    fun s => s.1 ≤ 2 ∧ s.2.ok, fun s => 2 - s.1, (0, d), ⟨Nat.zero_le _, hd⟩, Shift.reset ⟨rfl, rfl, rfl, rfl, rfl, rfl, rfl, rfl, trivial⟩ ⟨rfl, by (show some (MObj.arr 30 1 [[.lst (eG gs)], [.lst (List.take ((eG gs).length + 1) (List.drop 0 (eG gs ++ [gtC raw])))]] false) = some (MObj.arr 30 1 [[.lst (eG gs)], [.lst (eG (gs ++ [raw]))]] false)); rw [hbad], trivial⟩ rfl rfl, fun s hs => ?_⟩
  obtain ⟨i, d⟩ := s
  obtain ⟨hi1, hd⟩ := hs
  dsimp only at hi1 hd ⊢
  conv => whnf
  refine Fork.mk (fun h => ?_) (fun h => ?_)
  · have hi : i < 2 := by simp at h; omega
    clear h
    obtain ⟨x, hx, hxx⟩ := duoG gs (gs ++ [raw]) hi
    have hxl : x.length ≤ 100 ∧ ∀ g ∈ x, g.fin := by
      rcases hxx with rfl | rfl
      · exact ⟨by omega, fun g h => (hgs.g g h).fin⟩
      · exact ⟨by simp; omega, fun q h => (List.mem_append.1 h).elim (fun h => (hgs.g q h).fin) fun h => by simp at h; subst h; exact hraw⟩
    have hw1 := wr_succ (i := i) (by omega)
    conv => whnf
    refine ⟨by omega, rfl, ?_⟩
    conv => whnf
    refine ⟨[.lst (eG x)], hx, ?_⟩
    conv => whnf
    refine ⟨by simp [gsC], ?_⟩
    conv => whnf
    refine ⟨by rw [hms]; show _ * 16 ≤ _; omega, ?_⟩
    conv => whnf
    refine ⟨by simp, ?_⟩
    conv => whnf
    refine ⟨rfl, ?_⟩
    conv => whnf
    refine ⟨⟨rfl, rfl, rfl, rfl, by simp; omega⟩, ?_⟩
    conv => whnf
    refine ⟨by simp, ?_⟩
    conv => whnf
    refine ⟨Nat × Dk, fun s => ([(1, .c (.lst (eS rs))), (3, I lv), (4, I w), (11, .c (.ptr (.l 38 1) 0)), (13, .c (.lst (eS ss))), (16, .c (.lst (eG x))), (51, .c (.view (.l 51 3) 0 2)), (52, I ((2 : Nat) : Int)), (53, I i), (64, .c (.view (.l 64 23) 0 3)), (65, I ((3 : Nat) : Int)), (66, I s.1)], ⟨[(.l 38 1, .blk (dkC s.2)), (.l 51 3, .arr 30 1 [[.lst (eG gs)], [.lst (eG (gs ++ [raw]))]] false), (.l 64 23, .arr 25 1 [[.lst (eS ss)], [.lst (eS rs)], [.lst (eS (ss ++ [⟨1, false⟩]))]] false)], 40, []⟩),
      fun s => s.1 ≤ 3 ∧ s.2.ok, fun s => 3 - s.1, (0, d), ⟨Nat.zero_le _, hd⟩, Shift.reset ⟨rfl, rfl, rfl, rfl, rfl, rfl, rfl, rfl, rfl, rfl, rfl, rfl, trivial⟩ ⟨rfl, rfl, by (show some (MObj.arr 25 1 [[.lst (eS ss)], [.lst (eS rs)], [.lst (List.take ((eS ss).length + 1) (List.drop 0 (eS ss ++ [gsC ⟨1, false⟩])))]] false) = some (MObj.arr 25 1 [[.lst (eS ss)], [.lst (eS rs)], [.lst (eS (ss ++ [⟨1, false⟩]))]] false)); rw [hsome], trivial⟩ rfl rfl, fun s hs => ?_⟩
    obtain ⟨j, d⟩ := s
    obtain ⟨hj1, hd⟩ := hs
    dsimp only at hj1 hd ⊢
    conv => whnf
    refine Fork.mk (fun h => ?_) (fun h => ?_)
    · have hj : j < 3 := by simp at h; omega
      clear h
      obtain ⟨y, hy, hyy⟩ := triS ss rs (ss ++ [⟨1, false⟩]) hj
      have hyl : y.length ≤ 100 := by
        rcases hyy with rfl | rfl | rfl
        · omega
        · omega
        · simp; omega
      have hf : fins x y := ⟨by omega, by omega, hxl.2⟩
      have hw2 := wr_succ (i := j) (by omega)
      conv => whnf
      refine ⟨by omega, rfl, ?_⟩
      conv => whnf
      refine ⟨[.lst (eS y)], hy, ?_⟩
      conv => whnf
      refine ⟨d, rfl, hd, by omega, fun a d hd ha1 ha2 => ?_⟩
      conv => whnf
      refine ⟨d, rfl, hd, by omega, fun b d hd hb1 hb2 => ?_⟩
      conv => whnf
      refine ⟨d, rfl, hd, by omega, fun c d hd hc1 hc2 => ?_⟩
      conv => whnf
      refine ⟨by omega, ?_⟩
      conv => whnf
      rw [show IntKind.i64.wrap (80 + a) = 80 + a from wrap_in (by omega) (by omega), show IntKind.i64.wrap (100 + c) = 100 + c from wrap_in (by omega) (by omega)]
      refine ⟨Nat, fun k => ([(1, .c (.lst (eS rs))), (3, I lv), (4, I w), (11, .c (.ptr (.l 38 1) 0)), (13, .c (.lst (eS ss))), (16, .c (.lst (eG x))), (18, .c (.lst (eS y))), (51, .c (.view (.l 51 3) 0 2)), (52, I ((2 : Nat) : Int)), (53, I i), (64, .c (.view (.l 64 23) 0 3)), (65, I ((3 : Nat) : Int)), (66, I j), (85, .c (.view (.l 85 40) 0 3)), (86, I ((3 : Nat) : Int)), (87, I k)], ⟨[(.l 38 1, .blk (dkC d)), (.l 51 3, .arr 30 1 [[.lst (eG gs)], [.lst (eG (gs ++ [raw]))]] false), (.l 64 23, .arr 25 1 [[.lst (eS ss)], [.lst (eS rs)], [.lst (eS (ss ++ [⟨1, false⟩]))]] false), (.l 85 40, .arr 37 2 [[IC lv, IC w], [IC (80 + a), IC b], [IC (100 + c), IC (w % 80)]] false)], 60, []⟩),
        fun k => k ≤ 3, fun k => 3 - k, 0, Nat.zero_le _, Shift.reset ⟨rfl, rfl, rfl, rfl, rfl, rfl, rfl, rfl, rfl, rfl, rfl, rfl, rfl, rfl, rfl, rfl, trivial⟩ ⟨rfl, rfl, rfl, rfl, trivial⟩ rfl rfl, fun k hk1 => ?_⟩
      dsimp only at hk1 ⊢
      conv => whnf
      refine Fork.mk (fun h => ?_) (fun h => ?_)
      · have hk1 : k < 3 := by simp at h; omega
        clear h
        obtain ⟨n, u, hn⟩ := triI2 lv w (80 + a) b (100 + c) (w % 80) hk1
        have hw3 := wr_succ (i := k) (by omega)
        have hle := setS_le (gs := x) (ss := y) (lv := n) (w := u)
        conv => whnf
        refine ⟨by omega, rfl, ?_⟩
        conv => whnf
        refine ⟨[IC n, IC u], hn, ?_⟩
        conv => whnf
        refine ⟨by omega, ?_⟩
        conv => whnf
        refine ⟨by omega, ?_⟩
        conv => whnf
        refine ⟨x, y, n, u, rfl, hf, ?_⟩
        conv => whnf
        refine ⟨by omega, ?_⟩
        conv => whnf
        refine ⟨by omega, ?_⟩
        conv => whnf
        refine ⟨x, y, n, u, rfl, hf, ?_⟩
        conv => whnf
        (refine Fork.mk (fun h => ?_) (fun h => ?_); focus (exfalso; simp at h)); clear h; (conv => whnf)
        (refine Fork.mk (fun h => ?_) (fun h => ?_); focus (exfalso; simp at h)); clear h; (conv => whnf)
        refine ⟨(setS x y n u).1, (setS x y n u).1, rfl, ⟨by omega, by omega⟩, ?_⟩
        conv => whnf
        (refine Fork.mk (fun h => ?_) (fun h => ?_); focus (exfalso; simp at h)); clear h; (conv => whnf)
        rw [hw3]
        exact ⟨k + 1, hk1, Shift.reset ⟨rfl, rfl, rfl, rfl, rfl, rfl, rfl, rfl, rfl, rfl, rfl, rfl, rfl, rfl, rfl, rfl, trivial⟩ ⟨rfl, rfl, rfl, rfl, trivial⟩ rfl rfl, by omega⟩
      conv => whnf
      rw [hw2]
      exact ⟨(j + 1, d), ⟨hj, hd⟩, Shift.reset ⟨rfl, rfl, rfl, rfl, rfl, rfl, rfl, rfl, rfl, rfl, rfl, rfl, trivial⟩ ⟨rfl, rfl, rfl, trivial⟩ rfl rfl, by dsimp only; omega⟩
    conv => whnf
    rw [hw1]
    exact ⟨(i + 1, d), ⟨hi, hd⟩, Shift.reset ⟨rfl, rfl, rfl, rfl, rfl, rfl, rfl, rfl, trivial⟩ ⟨rfl, rfl, trivial⟩ rfl rfl, by dsimp only; omega⟩
  conv => whnf
  refine ⟨rfl, ?_⟩
  conv => whnf
  exact hk
end Go.Proofs
