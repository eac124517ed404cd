/- Proved here: what functions of the given program come to, and the plain laws of it; no condition but those in the theorems. -/
import Derived.Test.YtfhnicamjcfddaaGreatDoorPTop4
import Derived.Test.YtfhnicamjcfddaaGreatDoorRows
import Derived.Test.YtfhnicamjcfddaaGreatDoorAbsA
import Derived.FnData
import Derived.OpenShut
import Derived.ChangeArms
import Derived.ChangeSame
import Derived.LaidHandle
import Derived.Shelf.Vars
import Derived.Lay
import Derived.Handed
import Derived.Test.YtfhnicamjcfddaaGreatDoorCards
import Derived.Test.YtfhnicamjcfddaaGreatDoorTie
import Derived.Test.YtfhnicamjcfddaaGreatDoorAbsQ
import Derived.Test.YtfhnicamjcfddaaGreatDoorAbsP
import Derived.WalkKit
import Derived.ProofKit
import Derived.ChangeOld
import Derived.Below
import Derived.JoinedOf
import Derived.SevenTiedAt
namespace Go.Proofs
open Go Go.Abs
set_option linter.unusedSimpArgs false
set_option linter.unusedVariables false
set_option maxRecDepth 20000
def R_top : RT := fun args k => ∃ l : Ls, args = [.c (.lst (eL l))] ∧ l.length ≤ 9223372036854775807 ∧ k (Bo true)
theorem water_ok : FunR Tryz.prog 3 R_top := by
  intro args k h
  obtain ⟨l, rfl, hl, hk⟩ := h
  have hml := eL_len l
  refine does_ex (qc := qc1) (np := [(11, [(0, 9), (1, 9), (2, 9), (3, 9), (4, 9)]), (14, [(1, 2)])]) (CK := ckK [(4, cN R_new), (5, cB R_mkDm), (6, cB R_reach), (7, cB R_wave), (8, cSc R_held), (9, cB R_next), (10, cPu R_dst10), (12, cSc R_dfl), (11, cPu R_rst10), (13, cSc R_bal9), (14, cSc R_true)]) mixed Tryz.func3 rfl rfl Tryz.ntmps3 Tryz.results3 τ_ok (by kernel_rfl) (ckK_ok ⟨cN_ok new_ok rfl, cB_ok mkDm_ok rfl, cB_ok reach_ok rfl, cB_ok wave_ok rfl, cSc_ok held_ok, cB_ok next_ok rfl, cPu_ok (fun args k h => step9_ok args k (dst10 h)) rfl, cSc_ok flow9_ok, cPu_ok (fun args k h => stepA_ok args k (rst10 h)) rfl, cSc_ok bal9_ok, cSc_ok awake_ok, trivial⟩) (by simp) ?_
  conv => whnf
  refine ⟨l, rfl, ?_⟩
  conv => whnf
  refine ⟨⟨l, 0⟩, rfl, rfl, ⟨Nat.zero_le _, hl⟩, fun x s0 d hd hmk => ?_⟩
  conv => whnf
  refine ⟨d, rfl, hd, fun ws den d hd hr hwl hww => ?_⟩
  conv => whnf
  refine ⟨d, ws, rfl, rfl, hd, hr, fun ps0 d hd hf0 hb0 => ?_⟩
  conv => whnf
  have hrk := rk_facts hr
  have hfx0 := fits_facts hf0
  have hin0 : ∀ p ∈ ps0, inH p := fun p hp => by have := hfx0.2.2.1 p hp; exact ⟨by omega, by omega⟩
  refine ⟨ps0, rfl, by omega, hin0, ?_⟩
  conv => whnf
  have hw0 : wtAt x ws den s0.vol ps0.sum 0 s0 ps0 0 0 0 := ⟨by omega, hmk.v, hf0, by simpa using hb0, by simp, by simp, by simp, by simp⟩
  refine ⟨Nat × Dt × Ls × Int × Int × Int × Dk, fun y => ([(3, .c (.ptr (.l 23 0) 0)), (4, .c (.ptr (.l 4 1) 0)), (5, .c (.ptr (.l 5 2) 0)), (6, .c (.ptr (.l 6 3) 0)), (7, .c (.ptr (.l 7 4) 0)), (8, I s0.vol), (9, I ps0.sum), (10, I y.2.2.2.1), (11, I y.2.2.2.2.1), (12, I y.2.2.2.2.2.1), (38, I y.1)],
      ⟨[(.l 23 0, .blk (dkC y.2.2.2.2.2.2)), (.l 4 1, .blk (dmC x)), (.l 5 2, .blk (dtC y.2.1)), (.l 6 3, .blk [.lst (eL ws), IC den]), (.l 7 4, .blk [.lst (eL y.2.2.1)])], 10, []⟩),
    fun y => y.2.2.2.2.2.2.ok ∧ wtAt x ws den s0.vol ps0.sum y.1 y.2.1 y.2.2.1 y.2.2.2.1 y.2.2.2.2.1 y.2.2.2.2.2.1, fun y => 8 - y.1, (0, s0, ps0, 0, 0, 0, d), ⟨hd, hw0⟩, Shift.reset ⟨rfl, rfl, rfl, rfl, rfl, rfl, rfl, rfl, rfl, rfl, rfl, trivial⟩ ⟨rfl, rfl, rfl, rfl, rfl, trivial⟩ rfl rfl, fun y hy => ?_⟩
  obtain ⟨i, s, ps, came, lost, gone, d⟩ := y
  obtain ⟨hd, hy⟩ := hy
  dsimp only at hd hy ⊢
  have hi8 := hy.hi
  conv => whnf
  refine Fork.mk (fun h => ?_) (fun h => ?_)
  rotate_left
  · have hie : i = 8 := by simp at h; omega
    clear h
    have hfx := fits_facts hy.f
    have hin : ∀ p ∈ ps, inH p := fun p hp => by have := hfx.2.2.1 p hp; exact ⟨by omega, by omega⟩
    obtain ⟨z1, z2, _, z4, z5, z6, _⟩ := hrk
    have y1 := hy.c
    have y2 := hy.lo
    have y3 := hy.g
    have y4 := hy.b
    have y5 := fits_sum hy.f
    have y6 := (validD_at hy.v).2.1
    have y7 := (validD_at hmk.v).2.1
    have y8 := hmk.c
    have y9 := hy.fin
    have yA := fits_sum hf0
    have m1 := mul_bd (a := den) (b := s.vol - s0.vol) (A := 240000) (B := 1000) (by omega) z5 (by omega) (by omega)
    have m2 := mul_bd (a := den) (b := came - lost - gone) (A := 240000) (B := 30000000000) (by omega) z5 (by omega) (by omega)
    have e1 : IntKind.i64.wrap (s.vol - s0.vol) = s.vol - s0.vol := wrap_in (by omega) (by omega)
    have e2 : IntKind.i64.wrap (den * (s.vol - s0.vol)) = den * (s.vol - s0.vol) := wrap_in (by omega) (by omega)
    have e3 : IntKind.i64.wrap (den * (s.vol - s0.vol) + ps.sum) = den * (s.vol - s0.vol) + ps.sum := wrap_in (by omega) (by omega)
    have e4 : IntKind.i64.wrap (den * (s.vol - s0.vol) + ps.sum - ps0.sum) = den * (s.vol - s0.vol) + ps.sum - ps0.sum := wrap_in (by omega) (by omega)
    have e5 : IntKind.i64.wrap (came - lost) = came - lost := wrap_in (by omega) (by omega)
    have e6 : IntKind.i64.wrap (came - lost - gone) = came - lost - gone := wrap_in (by omega) (by omega)
    have e7 : IntKind.i64.wrap (den * (came - lost - gone)) = den * (came - lost - gone) := wrap_in (by omega) (by omega)
    conv => whnf
    refine ⟨ps, rfl, by omega, hin, ?_⟩
    conv => whnf
    rw [e1, e2, e3, e4, e5, e6, e7, y9]
    refine fork_t' (by simp) ?_
    conv => whnf
    exact hk
  have hi2 : i < 8 := by simp at h; omega
  clear h
  conv => whnf
  refine ⟨d, rfl, hd, by omega, fun a d hd a0 a1 => ?_⟩
  conv => whnf
  refine ⟨d, rfl, hd, by omega, fun b d hd b0 b1 => ?_⟩
  conv => whnf
  refine ⟨d, rfl, hd, by omega, fun c d hd c0 c1 => ?_⟩
  conv => whnf
  refine ⟨x, s, a, b, c, rfl, ⟨hy.v, hmk.f, validD_fin hy.v, by omega, by omega, by omega⟩, fun s' r hs => ?_⟩
  have a2 : a < 120 := by omega
  have b2 : b < 20 := by omega
  have hfl := hy.flow hmk.c ⟨a0, a2⟩ ⟨b0, b2⟩ hs
  have hsm := hy.small hr hi2 ⟨hfl.1, hfl.2.1⟩
  have hst := fun ps' o h1 h2 h3 => hy.step hr hi2 hmk.c ⟨a0, a2⟩ ⟨b0, b2⟩ hs (ps' := ps') (o := o) h1 h2 h3
  have q1 := hs.t
  have q2 := hs.sp
  have q3 := hs.o
  have q4 := hs.l
  conv => whnf
  refine ⟨r, rfl, ⟨q1, q2, q3⟩, by omega, ?_⟩
  conv => whnf
  refine ⟨ws, ps, den, floR r, rfl, hr, hy.f, by omega, by omega, fun ps' o h1 h2 h3 => ?_⟩
  obtain ⟨hst, hob⟩ := hst ps' o h1 h2 h3
  conv => whnf
  refine fork_f' rfl ?_
  conv => whnf
  refine fork_f' rfl ?_
  conv => whnf
  have hfv := hs.w
  have hfr : floR r = r.tur + r.spi + r.ovr := rfl
  have hbal : balD s s' r = true := by
    unfold balD
    rw [decide_eq_true_iff, hs.i]
    omega
  refine ⟨s, s', r, rfl, ⟨by omega, by omega, by rw [hs.i]; omega, by omega, by omega, by omega, by omega⟩, ?_⟩
  rw [hbal]
  conv => whnf
  refine fork_f' rfl ?_
  conv => whnf
  have y1 := hst.c
  have y2 := hst.lo
  have y3 := hst.g
  rw [show IntKind.i64.wrap (came + a) = came + a from wrap_in (by omega) (by omega), show IntKind.i64.wrap (lost + r.los) = lost + r.los from wrap_in (by omega) (by omega), show IntKind.i64.wrap (gone + o) = gone + o from wrap_in (by omega) (by omega), wr_succ (i := i) (by omega)]
  exact ⟨(i + 1, s', ps', came + a, lost + r.los, gone + o, d), ⟨hd, hst⟩, Shift.reset ⟨rfl, rfl, rfl, rfl, rfl, rfl, rfl, rfl, rfl, rfl, rfl, trivial⟩ ⟨rfl, rfl, rfl, rfl, rfl, trivial⟩ rfl rfl, by dsimp only; omega⟩
end Go.Proofs

/- What the listed package variables hold, as the walk wants it. -/
namespace Go.Proofs.YtfhnicamjcfddaaGreatDoor
open Go.ChangeShapes Go.WideShapes
set_option linter.unusedVariables false
set_option maxRecDepth 100000
abbrev theLaid : List (String × DataW Unit) := Rows.topWaterRow.laid
theorem laid_plain {W : World} (h : laidMetH Tryz.prog theLaid W) : laidMet Tryz.prog theLaid W := by
  unfold laidMetH at h
  have e : (theLaid.filter fun x => x.2.handleName?.isSome) = [] := by kernel_rfl
  rw [e] at h
  exact h
theorem laid_at {P : Program} {w : World} : ∀ {l : List (String × DataW Unit)} {ps : List MemPlace}, DataW.LaidVars P w l ps → ∀ n d, (n, d) ∈ l →
    ∃ g t cs fuel p, P.globalNamed n = some g ∧ (P.globals[g]?).map (·.type) = some t ∧ w.var? P n = some cs ∧ DataW.trod (fun _ => ()) P w 0 (fun _ => true) false fuel t cs.toList = some (d, p)
  | [], _, _, n, d, hm => by cases hm
  | (n0, d0) :: r, ps, h, n, d, hm => by
    obtain ⟨g, t, cs, fuel, p, q, h1, h2, h3, h4, h5, _⟩ := h
    rcases List.mem_cons.1 hm with e | hm
    · cases e; exact ⟨g, t, cs, fuel, p, h1, h2, h3, h4⟩
    · exact laid_at h5 n d hm
theorem nWords : Tryz.prog.globalNamed "hydrocascade/rules.words" = some 0 := by kernel_rfl
theorem nKinds : Tryz.prog.globalNamed "hydrocascade/licence.kinds" = some 1 := by kernel_rfl
theorem tWords : (Tryz.prog.globals[0]?).map (·.type) = some 155 := by kernel_rfl
theorem tKinds : (Tryz.prog.globals[1]?).map (·.type) = some 230 := by kernel_rfl
theorem c155 : Tryz.prog.cellsOf 155 = 5 := by kernel_rfl
theorem c9 : Tryz.prog.cellsOf 9 = 1 := by kernel_rfl
theorem c230 : Tryz.prog.cellsOf 230 = 10 := by kernel_rfl
theorem c229 : Tryz.prog.cellsOf 229 = 2 := by kernel_rfl
theorem c4 : Tryz.prog.cellsOf 4 = 1 := by kernel_rfl
theorem str_of {fuel : Nat} {W : World} {cs : List Value} {y : DataW Unit × List MemPlace} {l : List UInt8} (h : DataW.trod (fun _ => ()) Tryz.prog W 0 (fun _ => true) false fuel 9 cs = some y) (e : y.1 = .lit (.string l)) : cs = [.string ⟨l.toArray⟩] := by
  obtain ⟨s, rfl, rfl, _⟩ := DataW.trod_string Tryz.underlying9 h
  simp at e
  subst e
  rfl
theorem words_of {fuel : Nat} {W : World} {cs : List Value} {p : List MemPlace} (h : DataW.trod (fun _ => ()) Tryz.prog W 0 (fun _ => true) false fuel 155 cs = some (Rows.laid_hydrocascade_rules_words, p)) :
    cs = [.string ⟨#[]⟩, .string ⟨#[108, 101, 97, 115, 116]⟩, .string ⟨#[109, 111, 115, 116]⟩, .string ⟨#[117, 112]⟩, .string ⟨#[100, 111, 119, 110]⟩] := by
  obtain ⟨xs, m, _, hx, hl, hn, hi⟩ := DataW.trod_array Tryz.underlying155 h
  rw [c155] at hl
  rw [c9] at hi
  obtain ⟨a, b, c, d, e, rfl⟩ : ∃ a b c d e, cs = [a, b, c, d, e] := by
    match cs, hl with
    | [a, b, c, d, e], _ => exact ⟨a, b, c, d, e, rfl⟩
  obtain ⟨x0, x1, x2, x3, x4, rfl⟩ : ∃ a b c d e, xs = [a, b, c, d, e] := by
    match xs, hn with
    | [a, b, c, d, e], _ => exact ⟨a, b, c, d, e, rfl⟩
  have hd := (Prod.mk.injEq .. ▸ hx).1
  unfold Rows.laid_hydrocascade_rules_words at hd
  simp only [List.map_cons, List.map_nil, DataW.agg.injEq, List.cons.injEq, and_true] at hd
  obtain ⟨e0, e1, e2, e3, e4⟩ := hd
  have k0 := str_of (show DataW.trod (fun _ => ()) Tryz.prog W 0 (fun _ => true) false m 9 [a] = some x0 from hi 0 (by decide)) e0.symm
  have k1 := str_of (show DataW.trod (fun _ => ()) Tryz.prog W 0 (fun _ => true) false m 9 [b] = some x1 from hi 1 (by decide)) e1.symm
  have k2 := str_of (show DataW.trod (fun _ => ()) Tryz.prog W 0 (fun _ => true) false m 9 [c] = some x2 from hi 2 (by decide)) e2.symm
  have k3 := str_of (show DataW.trod (fun _ => ()) Tryz.prog W 0 (fun _ => true) false m 9 [d] = some x3 from hi 3 (by decide)) e3.symm
  have k4 := str_of (show DataW.trod (fun _ => ()) Tryz.prog W 0 (fun _ => true) false m 9 [e] = some x4 from hi 4 (by decide)) e4.symm
  simp only [List.cons.injEq, and_true] at k0 k1 k2 k3 k4
  rw [k0, k1, k2, k3, k4]
theorem kind_of {fuel : Nat} {W : World} {cs : List Value} {y : DataW Unit × List MemPlace} {u v : Bool} (h : DataW.trod (fun _ => ()) Tryz.prog W 0 (fun _ => true) false fuel 229 cs = some y) (e : y.1 = .agg [.lit (.bool u), .lit (.bool v)]) : cs = [.bool u, .bool v] := by
  obtain ⟨y0, y1, n, rfl, hl, h0, h1⟩ := trod_struct2 Tryz.underlying229 h
  rw [c229] at hl
  obtain ⟨a, b, rfl⟩ : ∃ a b, cs = [a, b] := by
    match cs, hl with
    | [a, b], _ => exact ⟨a, b, rfl⟩
  simp only [DataW.agg.injEq, List.cons.injEq, and_true] at e
  rw [c4] at h0 h1
  obtain ⟨p, hp, rfl⟩ := DataW.trod_bool Tryz.underlying4 h0
  obtain ⟨q, hq, rfl⟩ := DataW.trod_bool Tryz.underlying4 h1
  simp only [DataW.lit.injEq, Lit.bool.injEq] at e
  obtain ⟨rfl, rfl⟩ := e
  have hp : [a] = [Value.bool p] := hp
  have hq : [b] = [Value.bool q] := hq
  simp only [List.cons.injEq, and_true] at hp hq
  rw [hp, hq]
theorem kinds_of {fuel : Nat} {W : World} {cs : List Value} {p : List MemPlace} (h : DataW.trod (fun _ => ()) Tryz.prog W 0 (fun _ => true) false fuel 230 cs = some (Rows.laid_hydrocascade_licence_kinds, p)) :
    cs = [.bool false, .bool false, .bool true, .bool false, .bool false, .bool false, .bool false, .bool true, .bool true, .bool true] := by
  obtain ⟨xs, m, _, hx, hl, hn, hi⟩ := DataW.trod_array Tryz.underlying230 h
  rw [c230] at hl
  rw [c229] at hi
  obtain ⟨a0, a1, b0, b1, c0, c1, d0, d1, f0, f1, rfl⟩ : ∃ a0 a1 b0 b1 c0 c1 d0 d1 f0 f1, cs = [a0, a1, b0, b1, c0, c1, d0, d1, f0, f1] := by
    match cs, hl with
    | [a0, a1, b0, b1, c0, c1, d0, d1, f0, f1], _ => exact ⟨a0, a1, b0, b1, c0, c1, d0, d1, f0, f1, rfl⟩
  obtain ⟨x0, x1, x2, x3, x4, rfl⟩ : ∃ a b c d e, xs = [a, b, c, d, e] := by
    match xs, hn with
    | [a, b, c, d, e], _ => exact ⟨a, b, c, d, e, rfl⟩
  have hd := (Prod.mk.injEq .. ▸ hx).1
  unfold Rows.laid_hydrocascade_licence_kinds at hd
  simp only [List.map_cons, List.map_nil, DataW.agg.injEq, List.cons.injEq, and_true] at hd
  obtain ⟨e0, e1, e2, e3, e4⟩ := hd
  have k0 := kind_of (show DataW.trod (fun _ => ()) Tryz.prog W 0 (fun _ => true) false m 229 [a0, a1] = some x0 from hi 0 (by decide)) e0.symm
  have k1 := kind_of (show DataW.trod (fun _ => ()) Tryz.prog W 0 (fun _ => true) false m 229 [b0, b1] = some x1 from hi 1 (by decide)) e1.symm
  have k2 := kind_of (show DataW.trod (fun _ => ()) Tryz.prog W 0 (fun _ => true) false m 229 [c0, c1] = some x2 from hi 2 (by decide)) e2.symm
  have k3 := kind_of (show DataW.trod (fun _ => ()) Tryz.prog W 0 (fun _ => true) false m 229 [d0, d1] = some x3 from hi 3 (by decide)) e3.symm
  have k4 := kind_of (show DataW.trod (fun _ => ()) Tryz.prog W 0 (fun _ => true) false m 229 [f0, f1] = some x4 from hi 4 (by decide)) e4.symm
  simp only [List.cons.injEq, and_true] at k0 k1 k2 k3 k4
  obtain ⟨rfl, rfl⟩ := k0
  obtain ⟨rfl, rfl⟩ := k1
  obtain ⟨rfl, rfl⟩ := k2
  obtain ⟨rfl, rfl⟩ := k3
  obtain ⟨rfl, rfl⟩ := k4
  rfl
theorem maxLen_of {W : World} (hsh : W.ShapedOpen Tryz.prog) : ∃ m, W.cell? ⟨2, 0, none⟩ = some (.int .i64 m) :=
  cell_of_shapedOpen_int (zero := #[.int .i64 0]) hsh (of_decide_eq_true (by kernel_rfl)) (by kernel_rfl) rfl (by kernel_rfl) (by kernel_rfl) Tryz.underlying3
theorem cell_lt {W : World} {n j : Nat} {v : Value} (h : W.cell? ⟨n, j, none⟩ = some v) : n < W.heap.size := by
  unfold World.cell? at h
  by_cases hn : n < W.heap.size
  · exact hn
  · rw [show W.heap[(⟨n, j, none⟩ : Addr).block]? = none from Array.getElem?_eq_none (by show W.heap.size ≤ n; omega)] at h
    simp at h
theorem laid_of {W : World} (h : laidMetH Tryz.prog theLaid W) (hsh : W.ShapedOpen Tryz.prog) : Go.Abs.Laid (fun b _ => b < W.heap.size) W := by
  obtain ⟨ps, hv, _⟩ := laid_plain h
  obtain ⟨g, t, cs, fuel, p, h1, h2, h3, h4⟩ := laid_at hv "hydrocascade/rules.words" Rows.laid_hydrocascade_rules_words (by simp [theLaid, Rows.topWaterRow])
  obtain rfl := Option.some.inj (nWords.symm.trans h1)
  obtain rfl := Option.some.inj (tWords.symm.trans h2)
  have hw := words_of h4
  have w3 := fun i => (World.var?_cell nWords h3 i).trans (by rw [← Array.getElem?_toList, hw])
  obtain ⟨g, t, cs', fuel, p, h1, h2, h3', h4⟩ := laid_at hv "hydrocascade/licence.kinds" Rows.laid_hydrocascade_licence_kinds (by simp [theLaid, Rows.topWaterRow])
  obtain rfl := Option.some.inj (nKinds.symm.trans h1)
  obtain rfl := Option.some.inj (tKinds.symm.trans h2)
  have hk := kinds_of h4
  have k3 := fun i => (World.var?_cell nKinds h3' i).trans (by rw [← Array.getElem?_toList, hk])
  refine ⟨fun n vs hn j v hj => ?_, fun n hn => ?_⟩
  · match n, hn with
    | 0, hn =>
      obtain rfl := Option.some.inj (show some _ = some vs from hn)
      have := (w3 j).trans hj
      exact ⟨cell_lt this, this⟩
    | 1, hn =>
      obtain rfl := Option.some.inj (show some _ = some vs from hn)
      have := (k3 j).trans hj
      exact ⟨cell_lt this, this⟩
    | n + 2, hn => cases (show none = some vs from hn)
  · simp only [Go.Abs.gints, List.mem_singleton] at hn
    subst hn
    obtain ⟨m, hm⟩ := maxLen_of hsh
    exact ⟨cell_lt hm, m, hm⟩
end Go.Proofs.YtfhnicamjcfddaaGreatDoor

/- A world that meets the row's condition. -/
namespace Go.Proofs.YtfhnicamjcfddaaGreatDoor
open Go.ChangeShapes Go.WideShapes
set_option linter.unusedVariables false
set_option maxRecDepth 100000
noncomputable def theWorld (os : Os) : World := World.laidAll Tryz.prog os theLaid
theorem wit_met (os : Os) (args : Array Value) : laidMetH Tryz.prog theLaid ((theWorld os).forCall (fun _ _ => 0) ⟨#[], args, []⟩).memory := by
  unfold laidMetH
  have e : (theLaid.filter fun x => x.2.handleName?.isSome) = [] := by kernel_rfl
  rw [e]
  exact laidMet_laidAll args (by kernel_rfl) (by kernel_rfl)
theorem wit_vars (os : Os) : ((theWorld os).forCall (fun _ _ => 0) ⟨#[], #[.slice none 0 0], []⟩).variablesZipB Tryz.prog = true := by kernel_rfl
theorem wit_rest (os : Os) : (((theWorld os).forCall (fun _ _ => 0) ⟨#[], #[.slice none 0 0], []⟩).heap.toList.drop Tryz.prog.globals.size).take ((begin Tryz.prog (fun _ _ => 0) default).world.heap.size - Tryz.prog.globals.size) =
      (begin Tryz.prog (fun _ _ => 0) default).world.heap.toList.drop Tryz.prog.globals.size := by kernel_rfl
theorem wit_ok (os : Os) : Input.okWideB Tryz.prog ((theWorld os).forCall (fun _ _ => 0) ⟨#[], #[.slice none 0 0], []⟩) 3 ⟨#[], #[.slice none 0 0], []⟩ = true := by kernel_rfl
theorem wit_pre {H : Type} (enc : TypeId × Value → H) (os : Os) : Rows.topWaterSpec.preB enc Tryz.prog Tryz.f3 [] false ((theWorld os).forCall (fun _ _ => 0) ⟨#[], #[.slice none 0 0], []⟩).memory #[.slice none 0 0] 8 = true := by kernel_rfl
theorem wit_sz {H : Type} (enc : TypeId × Value → H) (os : Os) : Rows.topWaterSpec.sizedB enc Tryz.prog Tryz.f3 false ((theWorld os).forCall (fun _ _ => 0) ⟨#[], #[.slice none 0 0], []⟩).memory #[.slice none 0 0] 8 = true := by kernel_rfl
end Go.Proofs.YtfhnicamjcfddaaGreatDoor

/- The statement TopWater of the seat's Rows, proved, and its tied card. -/
namespace Go.Proofs.YtfhnicamjcfddaaGreatDoor
open Go.ChangeShapes Go.WideShapes Go.ChangeAt Go.RowKit
set_option linter.unusedVariables false
theorem own : ownKnob Tryz.prog.godebug = none := by kernel_rfl
theorem laidOut : laidOutB Tryz.prog = true := by kernel_rfl
set_option maxRecDepth 100000 in
theorem lifted (os : Os) (started : os.Started) (H : Type) (enc : TypeId × Value → H) :
    ReturnsInHanded {} Tryz.checked os 3 .any (fun w args => (Rows.topWaterSpec.pre enc Tryz.prog Tryz.f3 [] false w args ∧ laidMetH Tryz.prog theLaid w) ∧ sizedMet enc Tryz.prog Tryz.f3 (OpenSpec.ofChange Rows.topWaterSpec) false w args)
      (Rows.topWaterSpec.post enc Tryz.prog Tryz.f3 false true false false) := by
  refine returnsInHanded_of_calls own started (by kernel_rfl) ?_ ?_
  · exact ⟨theWorld os, fun _ _ => 0, ⟨#[], #[.slice none 0 0], []⟩, World.laidAll_os _ _ _, World.shaped_of_ZipB (wit_vars os) (wit_rest os), (Input.okWide_of_okWideB (base := 0) (wit_ok os)).1, (Input.okWide_of_okWideB (wit_ok os)).2,
      ⟨⟨ChangeSpec.pre_of_preB (wit_pre enc os), wit_met os _⟩, sizedMet_of_sizedB (wit_sz enc os)⟩, by
      simp only [Assume.holds]
      exact ⟨by simp, by simp, fun _ => Modest.zero, by simp, by simp⟩⟩
  intro w tape i _ hsh _ hok hpre hholds
  obtain ⟨_, _, _, fn', hfn', _, _, _, _, hval1⟩ := hok
  have e : fn' = Tryz.f3 := Option.some.inj (hfn'.symm.trans Tryz.func3)
  subst e
  obtain ⟨⟨⟨ds, gs, before, hw, hc⟩, hx⟩, hz⟩ := hpre
  have hw' := DataW.Whole.of_heap (w' := w.forCall tape i) (by rfl) hw
  have hL : laidMetH Tryz.prog theLaid (w.forCall tape i) := hx.of_heap (by rfl)
  have key : ∀ (W : World) (base : Nat) (args : Array Value) (ds gs : List (DataW H)) (before : List MemPlace), (∀ (j : Nat) t v, Tryz.f3.params[j]? = some t → args[j]? = some v → Value.okWide Tryz.prog W .any base t v) →
      DataW.Whole enc Tryz.prog Tryz.f3.params.toList [] false W args.toList ds gs before → laidMetH Tryz.prog theLaid W → W.ShapedOpen Tryz.prog →
      Calls Tryz.prog 3 args W fun e W' => ∃ v, e = .returned v ∧ Rows.topWaterSpec.post enc Tryz.prog Tryz.f3 false true false false W args v W' := by
    intro W base args ds gs before hval0 hW hLm hsh
    have hval : ∀ (j : Nat) t v, Tryz.f3.params[j]? = some t → args[j]? = some v → Value.okWide Tryz.prog W .any base t v := hval0
    have hLd : Go.Abs.Laid (Go.Abs.FIn W) W := laid_of hLm hsh
    have hW' := hW
    obtain ⟨p, q, hA0, hV, rfl, hfz, hnd⟩ := hW
    have hA : DataW.TrodAll enc Tryz.prog W 0 (fun _ => true) true Tryz.f3.params.toList args.toList ds p := hA0
    rw [Tryz.params3] at hA hval
    obtain ⟨v0, vs0, d0, ds0, p0, q0, hargs, rfl, rfl, h0, r0⟩ := trodAll_cons hA
    obtain ⟨rfl, rfl, rfl⟩ := trodAll_nil r0
    obtain rfl : args = #[v0] := by cases args; simp_all
    obtain ⟨rfl, rfl⟩ := trodVars_none hV
    have hvv0 := hval 0 22 v0 rfl rfl
    obtain ⟨a0, len0, cap0, rfl⟩ := okWide_slice Tryz.underlying22 (hval 0 22 v0 rfl rfl)
    have k0 := h0
    have lt0 : ∀ x ∈ p0, x.block < W.heap.size := by obtain ⟨m, hm⟩ := k0; exact DataW.trod_lt m _ _ _ hm
    obtain ⟨z0, w0⟩ : ∃ zs, Go.Abs.RowIn .i64 W a0 len0 cap0 zs := by
      obtain ⟨fuel, hf⟩ := h0
      rcases open_ints Tryz.underlying22 Tryz.underlying3 (by kernel_rfl) hf with ⟨hcs, _⟩ | ⟨x, l, c, zs, hcs, _, hl, hm, hz, _, hcell, hwz⟩
      · simp [Value.cells] at hcs
        obtain ⟨rfl, rfl, rfl⟩ := hcs
        exact ⟨[], .inl ⟨rfl, rfl, rfl, rfl⟩⟩
      · simp [Value.cells] at hcs
        obtain ⟨rfl, rfl, rfl⟩ := hcs
        exact ⟨zs, .inr ⟨_, rfl, Go.Abs.okWide_spot Tryz.underlying22 hvv0, hl, hm, by simpa using hz, hcell⟩⟩
    have hlen0 := Go.Abs.row_len w0
    simp only [maxLen] at hlen0
    clear hA0 hval0
    refine (Go.Abs.calls_true (args := [_]) (vals := [_]) (water_ok) hLd ⟨Go.Abs.rep_row w0, trivial⟩ ⟨_, rfl, by omega, rfl⟩).mono fun e W' ⟨he, bel⟩ => ?_
    subst he
    exact ⟨_, rfl, _, _, _, [], _, [], hW', trodAll_mk1 (shut_bool Tryz.underlying4 _), (trodAll_cons_mk (Below.trod laidOut (by kernel_rfl) (of_decide_eq_true (by kernel_rfl)) k0 bel lt0) trodAll_mk0), rfl, bel.frame _, fun h => by cases h⟩
  refine (key (w.forCall tape i) w.heap.size i.args ds gs before hval1 hw' hL hsh).mono fun e W' ⟨v, he, hp⟩ => ?_
  subst he
  exact ChangeSpec.post_blind hp
theorem over : Rows.topWaterRow.holds Tryz.pinned (OpenSpec.ofChange Rows.topWaterSpec) :=
  OpenClaim.holds_of_wide 3 Tryz.f3 rfl rfl rfl rfl rfl rfl rfl ⟨rfl, rfl, rfl, rfl, rfl⟩ rfl rfl rfl rfl rfl (by kernel_rfl) Tryz.func3 (by kernel_rfl)
    (of_decide_eq_true (by kernel_rfl)) (by unfold Func.isWrapper; first | (rw [if_pos (by decide +kernel)]; kernel_rfl) | (rw [if_neg (by decide +kernel)]; exact ⟨rfl, rfl⟩))
    (fun os started H enc _ => lifted os started H enc)
#print axioms over
end Go.Proofs.YtfhnicamjcfddaaGreatDoor
