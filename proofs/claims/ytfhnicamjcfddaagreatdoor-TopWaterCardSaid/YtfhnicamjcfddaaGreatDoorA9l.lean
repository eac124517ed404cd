/- Proved here: what functions of the given program come to, and the plain laws of it; no condition but those in the theorems. -/
import Derived.Test.YtfhnicamjcfddaaGreatDoorA9i
import Derived.Test.YtfhnicamjcfddaaGreatDoorAbsDg
import Derived.Test.YtfhnicamjcfddaaGreatDoorPWork
import Derived.Test.YtfhnicamjcfddaaGreatDoorA9c
import Derived.Test.YtfhnicamjcfddaaGreatDoorAbsQ
namespace Go.Proofs
open Go Go.Abs
set_option linter.unusedSimpArgs false
set_option linter.unusedVariables false
set_option maxRecDepth 20000
theorem wrun_ok : FunB Tryz.prog 26 R_wrun := by
  intro cs args k h
  obtain ⟨d, s, inf, los, rel, lv, rfl, rfl, hin, hlv, hk⟩ := h
  have hv := hin.vol
  have hi := hin.i
  have hl := hin.los
  have e1 : IntKind.i64.wrap (s.vol + inf) = s.vol + inf := wrap_in (by omega) (by omega)
  have e2 : IntKind.i64.wrap (s.vol + inf - losW s inf los) = s.vol + inf - losW s inf los := wrap_in (by omega) (by omega)
  refine doesB_defer3 (qc := qc1) (np := []) (CK := ckK []) mixed Tryz.func26 rfl rfl Tryz.ntmps26 Tryz.results26 τ_ok (by kernel_rfl) (ckK_ok trivial) ⟨⟨_, _, _, rfl, rfl, rfl, rfl, rfl, rfl, rfl⟩⟩ ⟨⟨_, _, _, rfl, rfl, rfl, rfl, rfl, rfl, rfl⟩⟩ ⟨⟨_, _, _, rfl, rfl, rfl, rfl, rfl, rfl, rfl⟩⟩ ⟨by decide, by decide, by decide⟩ over_ok gates_ok turb_ok rfl ?_
  conv => whnf
  dsimp only [wk0]
  rw [e1, show (if s.vol + inf < los then s.vol + inf else los) = losW s inf los from rfl, e2]
  refine ⟨rfl, wk1 d s inf los rel lv, rfl, hin.wk, fun us' q p c h1 h2 h3 h4 => ?_⟩
  have hu : stUs (wk1 d s inf los rel lv) us' q p c := ⟨h1, h2, h3, h4⟩
  have ho := hin.ok hlv hu
  have hwk := hin.wk (lv := lv)
  refine ⟨(wk1 d s inf los rel lv).run q p c, us', rfl, ⟨hwk.v, hwk.f, hwk.rel, hwk.left⟩, hin.sf, ho.tur, ?_⟩
  refine ⟨((wk1 d s inf los rel lv).run q p c).ga, us', _, rfl, ⟨hwk.v, hwk.f, hwk.rel, hwk.left⟩, ⟨ho.tur.1, ho.spi.1, ho.spi.2⟩, ?_⟩
  exact hk us' q p c hu
end Go.Proofs

/- Numbers that are out of range; the first of them in a list. No program. -/
namespace Go.Proofs
open Go Go.Abs
set_option linter.unusedSimpArgs false
set_option linter.unusedVariables false
def badN (x : Int) : Bool := !inB 0 1073741824 x
def ixN : Nat → Ls → Int
  | _, [] => -1
  | i, x :: r => if badN x = true then i else ixN (i + 1) r
theorem ixN_any : ∀ {l : Ls} {i : Nat}, (0 ≤ ixN i l ↔ l.any badN = true)
  | [], i => by simp [ixN]
  | x :: r, i => by
    rw [ixN, List.any_cons]
    split
    · rename_i h; simp [h]
    · rename_i h; rw [ixN_any (l := r)]; simp [h]
def R_bdN : RT := fun args k => ∃ x : Int, args = [I x] ∧ k (Bo (badN x))
def R_ixN (a b : Nat) : RT := fun args k => ∃ (l : Ls) (f : Nat), args = [.c (.lst (eL l)), .c (.fn f [])] ∧ (f = a ∨ f = b) ∧ l.length ≤ 9223372036854775807 ∧ k (I (ixN 0 l))
def R_cnN (a b : Nat) : RT := fun args k => ∃ (l : Ls) (f : Nat), args = [.c (.lst (eL l)), .c (.fn f [])] ∧ (f = a ∨ f = b) ∧ l.length ≤ 9223372036854775807 ∧ k (Bo (l.any badN))
theorem any3 {a b c : Int} (ha : 0 ≤ a ∧ a ≤ 1073741824) (hb : 0 ≤ b ∧ b ≤ 1073741824) (hc : 0 ≤ c ∧ c ≤ 1073741824) : [a, b, c].any badN = false := by simp [badN, inB, ha, hb, hc]
/-- A step of a dam, for what it takes. -/
def stS (x : Wk) (us' : List Us) (q p c : Int) : Dt := ⟨(x.run q p c).ga.ov.v, (x.run q p c).ga.ov.rl, us', (gtQ (x.run q p c)).1⟩
def stR (x : Wk) (q p c : Int) : Rc := (x.run q p c).ga.ov.r
def R_dst9 : RT := fun args k => ∃ (d : Dm) (s : Dt) (inf los rel : Int), args = [.agg (dmC d), .agg (dtC s), I inf, I los, I rel] ∧ stIn d s inf los rel ∧
  ∀ (us' : List Us) (q p c : Int), stUs (wk1 d s inf los rel (hgt d.r.st s.vol)) us' q p c → k (.tup [.agg (dtC (stS (wk1 d s inf los rel (hgt d.r.st s.vol)) us' q p c)), .agg (rcC (stR (wk1 d s inf los rel (hgt d.r.st s.vol)) q p c)), I 0])
theorem wrongD_of {d : Dm} {s : Dt} (h : validD d s = true) : wrongD d s = 0 := by
  have := (validD_at h).1
  unfold wrongD
  rw [if_neg (by simp [this]), if_neg (by simp [h])]
theorem levD_in {d : Dm} {s : Dt} (h : validD d s = true) : 0 ≤ hgt d.r.st s.vol ∧ hgt d.r.st s.vol ≤ 16777216 := by
  obtain ⟨hck, hvol, _⟩ := validD_at h
  obtain ⟨k1, k2, k3, k4, k5⟩ := ckS_ok (ckD_ok hck).s
  have hin := hgt_in k1 k4 s.vol
  have h0 : 0 ≤ (d.r.st.headD (0, 0)).1 := by
    cases hst : d.r.st with
    | nil => simp
    | cons p r =>
      have := okPt_in (ckC_ok k1 p (by rw [hst]; simp))
      simp; omega
  omega
/-- The balance of a step. -/
def balD (a b : Dt) (r : Rc) : Bool := decide (b.vol = a.vol + r.inf - r.los - r.tur - r.spi - r.ovr)
structure balIn (a b : Dt) (r : Rc) : Prop where
  a : 0 ≤ a.vol ∧ a.vol ≤ 274877906944
  b : 0 ≤ b.vol ∧ b.vol ≤ 274877906944
  i : 0 ≤ r.inf ∧ r.inf ≤ 274877906944
  l : 0 ≤ r.los ∧ r.los ≤ 274877906944
  t : 0 ≤ r.tur ∧ r.tur ≤ 274877906944
  s : 0 ≤ r.spi ∧ r.spi ≤ 274877906944
  o : 0 ≤ r.ovr ∧ r.ovr ≤ 274877906944
def R_bal9 : RT := fun args k => ∃ (a b : Dt) (r : Rc), args = [.agg (dtC a), .agg (dtC b), .agg (rcC r)] ∧ balIn a b r ∧ k (Bo (balD a b r))
end Go.Proofs

namespace Go.Proofs
open Go Go.Abs
set_option linter.unusedSimpArgs false
set_option linter.unusedVariables false
set_option maxRecDepth 20000
theorem bdN24_ok : FunR Tryz.prog 24 R_bdN := by
  intro args k h
  obtain ⟨x, rfl, hk⟩ := h
  refine does_ex (qc := qc1) (np := []) (CK := ckK [(25, cSc R_within)]) mixed Tryz.func24 rfl rfl Tryz.ntmps24 Tryz.results24 τ_ok (by kernel_rfl) (ckK_ok ⟨cSc_ok within_ok, trivial⟩) (by simp) ?_
  conv => whnf
  exact hk
theorem bdN107_ok : FunR Tryz.prog 107 R_bdN := by
  intro args k h
  obtain ⟨x, rfl, hk⟩ := h
  refine does_ex (qc := qc1) (np := []) (CK := ckK [(25, cSc R_within)]) mixed Tryz.func107 rfl rfl Tryz.ntmps107 Tryz.results107 τ_ok (by kernel_rfl) (ckK_ok ⟨cSc_ok within_ok, trivial⟩) (by simp) ?_
  conv => whnf
  exact hk
theorem ixN_ok : FunR Tryz.prog 40 (R_ixN 24 107) := by
  intro args k h
  obtain ⟨l, f, rfl, hf, hl, hk⟩ := h
  have hm := eL_len l
  rcases hf with rfl | rfl
  · refine does_ex (qc := qc1) (np := []) (CK := ckK [(24, cSc R_bdN), (107, cSc R_bdN)]) mixed Tryz.func40 rfl rfl Tryz.ntmps40 Tryz.results40 τ_ok (by kernel_rfl) (ckK_ok ⟨cSc_ok bdN24_ok, cSc_ok bdN107_ok, trivial⟩) (by simp) ?_
    conv => whnf
    refine ⟨Nat, fun i => ([(0, .c (.lst (eL l))), (1, .c (.fn 24 [])), (7, I (eL l).length), (8, I i)], ⟨[], 9, []⟩),
      fun i => i ≤ l.length ∧ ixN 0 l = ixN i (l.drop i), fun i => l.length - i, 0, ⟨Nat.zero_le _, rfl⟩, Shift.reset ⟨rfl, rfl, rfl, rfl, trivial⟩ trivial rfl rfl, fun i hi => ?_⟩
    obtain ⟨hi1, hi2⟩ := hi
    dsimp only
    conv => whnf
    refine Fork.mk (fun h => ?_) (fun h => ?_)
    rotate_left
    · have hie : i = l.length := by simp at h; omega
      rw [hie, List.drop_length] at hi2
      rw [hi2] at hk
      conv => whnf
      exact hk
    have hi : i < l.length := by simp at h; omega
    clear h
    have hci := List.getElem?_eq_getElem hi
    generalize l[i] = x at hci
    rw [drop_of hci, ixN] at hi2
    have hw1 := wr_succ (i := i) (by omega)
    conv => whnf
    refine ⟨by omega, eI x, by rw [Int.toNat_natCast, List.getElem?_map, hci]; rfl, rfl, ?_⟩
    conv => whnf
    refine ⟨x, rfl, ?_⟩
    conv => whnf
    refine Fork.mk (fun h => ?_) (fun h => ?_)
    · rw [if_pos h] at hi2
      rw [hi2] at hk
      conv => whnf
      exact hk
    rw [if_neg (by simp [h])] at hi2
    conv => whnf
    rw [hw1]
    exact ⟨i + 1, ⟨hi, hi2⟩, Shift.reset ⟨rfl, rfl, rfl, rfl, trivial⟩ trivial rfl rfl, by omega⟩
  · refine does_ex (qc := qc1) (np := []) (CK := ckK [(24, cSc R_bdN), (107, cSc R_bdN)]) mixed Tryz.func40 rfl rfl Tryz.ntmps40 Tryz.results40 τ_ok (by kernel_rfl) (ckK_ok ⟨cSc_ok bdN24_ok, cSc_ok bdN107_ok, trivial⟩) (by simp) ?_
    conv => whnf
    refine ⟨Nat, fun i => ([(0, .c (.lst (eL l))), (1, .c (.fn 107 [])), (7, I (eL l).length), (8, I i)], ⟨[], 9, []⟩),
      fun i => i ≤ l.length ∧ ixN 0 l = ixN i (l.drop i), fun i => l.length - i, 0, ⟨Nat.zero_le _, rfl⟩, Shift.reset ⟨rfl, rfl, rfl, rfl, trivial⟩ trivial rfl rfl, fun i hi => ?_⟩
    obtain ⟨hi1, hi2⟩ := hi
    dsimp only
    conv => whnf
    refine Fork.mk (fun h => ?_) (fun h => ?_)
    rotate_left
    · have hie : i = l.length := by simp at h; omega
      rw [hie, List.drop_length] at hi2
      rw [hi2] at hk
      conv => whnf
      exact hk
    have hi : i < l.length := by simp at h; omega
    clear h
    have hci := List.getElem?_eq_getElem hi
    generalize l[i] = x at hci
    rw [drop_of hci, ixN] at hi2
    have hw1 := wr_succ (i := i) (by omega)
    conv => whnf
    refine ⟨by omega, eI x, by rw [Int.toNat_natCast, List.getElem?_map, hci]; rfl, rfl, ?_⟩
    conv => whnf
    refine ⟨x, rfl, ?_⟩
    conv => whnf
    refine Fork.mk (fun h => ?_) (fun h => ?_)
    · rw [if_pos h] at hi2
      rw [hi2] at hk
      conv => whnf
      exact hk
    rw [if_neg (by simp [h])] at hi2
    conv => whnf
    rw [hw1]
    exact ⟨i + 1, ⟨hi, hi2⟩, Shift.reset ⟨rfl, rfl, rfl, rfl, trivial⟩ trivial rfl rfl, by omega⟩
theorem cnN_ok : FunR Tryz.prog 23 (R_cnN 24 107) := by
  intro args k h
  obtain ⟨l, f, rfl, hf, hl, hk⟩ := h
  refine does_ex (qc := qc1) (np := []) (CK := ckK [(40, cSc (R_ixN 24 107))]) mixed Tryz.func23 rfl rfl Tryz.ntmps23 Tryz.results23 τ_ok (by kernel_rfl) (ckK_ok ⟨cSc_ok ixN_ok, trivial⟩) (by simp) ?_
  conv => whnf
  refine ⟨l, f, rfl, hf, hl, ?_⟩
  conv => whnf
  have e : l.any badN = decide (0 ≤ ixN 0 l) := by
    have := ixN_any (l := l) (i := 0)
    cases h : l.any badN <;> simp_all
  rw [e] at hk
  exact hk
theorem dask_ok : FunR Tryz.prog 38 (R_dsI wrongD) := by
  intro args k h
  obtain ⟨d, s, rfl, hd, hs, hk⟩ := h
  refine does_ex (qc := qc1) (np := []) (CK := ckK [(59, cSc (R_dmI ckD)), (60, cSc R_dfit)]) mixed Tryz.func38 rfl rfl Tryz.ntmps38 Tryz.results38 τ_ok (by kernel_rfl) (ckK_ok ⟨cSc_ok ckD_prog, cSc_ok dfit_ok, trivial⟩) (by simp) ?_
  conv => whnf
  refine ⟨d, rfl, hd, ?_⟩
  conv => whnf
  refine Fork.mk (fun h => ?_) (fun h => ?_)
  · have h1 : ckD d ≠ 0 := by simpa using h
    conv => whnf
    exact kI hk (by rw [wrongD, if_pos h1])
  have h1 : ckD d = 0 := by simpa using h
  clear h
  conv => whnf
  refine ⟨d, s, rfl, h1, hd, hs, ?_⟩
  have e : validD d s = fitD d s := by simp [validD, h1]
  conv => whnf
  refine Fork.mk (fun h => ?_) (fun h => ?_)
  · conv => whnf
    exact kI hk (by rw [wrongD, if_neg (by simp [h1]), if_pos (by rw [e]; simpa using h)])
  conv => whnf
  exact kI hk (by rw [wrongD, if_neg (by simp [h1]), if_neg (by rw [e]; simpa using h)])
def R_lev9 : RT := fun args k => ∃ (d : Dm) (s : Dt), args = [.agg (dmC d), .agg (dtC s)] ∧ d.fin ∧ s.fin ∧ validD d s = true ∧ k (.tup [I (hgt d.r.st s.vol), I 0])
theorem lev9_ok : FunR Tryz.prog 22 R_lev9 := by
  intro args k h
  obtain ⟨d, s, rfl, hd, hs, hv, hk⟩ := h
  obtain ⟨k1, k2, k3, k4, k5⟩ := ckS_ok (ckD_ok (validD_at hv).1).s
  refine does_ex (qc := qc1) (np := []) (CK := ckK [(38, cSc (R_dsI wrongD)), (39, cSc R_hgt)]) mixed Tryz.func22 rfl rfl Tryz.ntmps22 Tryz.results22 τ_ok (by kernel_rfl) (ckK_ok ⟨cSc_ok dask_ok, cSc_ok hgt_ok, trivial⟩) (by simp) ?_
  conv => whnf
  refine ⟨d, s, rfl, hd, hs, ?_⟩
  rw [wrongD_of hv]
  conv => whnf
  refine fork_f' rfl ?_
  conv => whnf
  refine ⟨d.r.st, rfl, hd.r, ⟨k1, k4⟩, ?_⟩
  conv => whnf
  exact hk
theorem flow9_ok : FunR Tryz.prog 12 R_dfl := by
  intro args k h
  obtain ⟨r, rfl, hr, hb, hk⟩ := h
  have e1 : IntKind.i64.wrap (r.tur + r.spi) = r.tur + r.spi := wrap_in (by unfold floR at hb; omega) (by unfold floR at hb; omega)
  have e2 : IntKind.i64.wrap (r.tur + r.spi + r.ovr) = floR r := wrap_in (by unfold floR at hb; omega) (by unfold floR at hb; omega)
  refine does_ex (qc := qc1) (np := []) (CK := ckK []) mixed Tryz.func12 rfl rfl Tryz.ntmps12 Tryz.results12 τ_ok (by kernel_rfl) (ckK_ok trivial) (by simp) ?_
  conv => whnf
  rw [e1, e2]
  exact hk
theorem bal9_ok : FunR Tryz.prog 13 R_bal9 := by
  intro args k h
  obtain ⟨a, b, r, rfl, ⟨ha, hb, h1, h2, h3, h4, h5⟩, hk⟩ := h
  have e1 : IntKind.i64.wrap (a.vol + r.inf) = a.vol + r.inf := wrap_in (by omega) (by omega)
  have e2 : IntKind.i64.wrap (a.vol + r.inf - r.los) = a.vol + r.inf - r.los := wrap_in (by omega) (by omega)
  have e3 : IntKind.i64.wrap (a.vol + r.inf - r.los - r.tur) = a.vol + r.inf - r.los - r.tur := wrap_in (by omega) (by omega)
  have e4 : IntKind.i64.wrap (a.vol + r.inf - r.los - r.tur - r.spi) = a.vol + r.inf - r.los - r.tur - r.spi := wrap_in (by omega) (by omega)
  have e5 : IntKind.i64.wrap (a.vol + r.inf - r.los - r.tur - r.spi - r.ovr) = a.vol + r.inf - r.los - r.tur - r.spi - r.ovr := wrap_in (by omega) (by omega)
  refine does_ex (qc := qc1) (np := []) (CK := ckK [(25, cSc R_within)]) mixed Tryz.func13 rfl rfl Tryz.ntmps13 Tryz.results13 τ_ok (by kernel_rfl) (ckK_ok ⟨cSc_ok within_ok, trivial⟩) (by simp) ?_
  conv => whnf
  refine ⟨Nat, fun i => ([(3, .c (.ptr (.l 3 0) 0)), (4, .c (.ptr (.l 4 1) 0)), (5, .c (.ptr (.l 5 2) 0)), (23, .agg [IC a.vol, IC b.vol, IC r.inf, IC r.los, IC r.tur, IC r.spi, IC r.ovr]), (24, I i)], ⟨[(.l 3 0, .blk (dtC a)), (.l 4 1, .blk (dtC b)), (.l 5 2, .blk (rcC r))], 9, []⟩),
    fun i => i ≤ 7, fun i => 7 - i, 0, Nat.zero_le _, Shift.reset ⟨rfl, rfl, rfl, rfl, rfl, trivial⟩ ⟨rfl, rfl, rfl, trivial⟩ rfl rfl, fun i hi => ?_⟩
  dsimp only
  conv => whnf
  refine Fork.mk (fun h => ?_) (fun h => ?_)
  rotate_left
  · clear h
    conv => whnf
    rw [e1, e2, e3, e4, e5]
    exact hk
  have hi2 : i < 7 := by simp at h; omega
  clear h
  have hs : i = 0 ∨ i = 1 ∨ i = 2 ∨ i = 3 ∨ i = 4 ∨ i = 5 ∨ i = 6 := by omega
  clear hi hi2
  rcases hs with rfl | rfl | rfl | rfl | rfl | rfl | rfl <;> (conv => whnf)
  all_goals (
    refine ⟨⟨by decide, by decide⟩, ?_⟩
    conv => whnf
    refine fork_f' (by simp; omega) ?_
    conv => whnf
    exact ⟨_, (show _ ≤ 7 by decide), Shift.reset ⟨rfl, rfl, rfl, rfl, rfl, trivial⟩ ⟨rfl, rfl, rfl, trivial⟩ rfl rfl, by decide⟩)
theorem step9_ok : FunR Tryz.prog 10 R_dst9 := by
  intro args k h
  obtain ⟨d, s, inf, los, rel, rfl, hin, hk⟩ := h
  have hlv := levD_in hin.v
  refine does_ex (qc := qc1) (np := [(8, [(7, 8)])]) (CK := ckK [(22, cSc R_lev9), (23, cSc (R_cnN 24 107)), (26, cB R_wrun)]) mixed Tryz.func10 rfl rfl Tryz.ntmps10 Tryz.results10 τ_ok (by kernel_rfl) (ckK_ok ⟨cSc_ok lev9_ok, cSc_ok cnN_ok, cB_ok wrun_ok rfl, trivial⟩) (by simp) ?_
  conv => whnf
  refine ⟨d, s, rfl, hin.f, hin.sf, hin.v, ?_⟩
  conv => whnf
  refine fork_f' rfl ?_
  conv => whnf
  refine ⟨by simp, ?_⟩
  conv => whnf
  refine ⟨[inf, los, rel], _, rfl, .inl rfl, by simp, ?_⟩
  rw [any3 hin.i hin.l hin.r]
  conv => whnf
  refine fork_f' rfl ?_
  conv => whnf
  refine ⟨d, s, inf, los, rel, hgt d.r.st s.vol, rfl, rfl, hin, hlv, fun us' q p c hu => ?_⟩
  conv => whnf
  exact hk us' q p c hu
end Go.Proofs

/- A text of two rules, and what is made of it. No program. -/
namespace Go.Proofs
open Go Go.Abs Go.RowKit
set_option linter.unusedSimpArgs false
set_option linter.unusedVariables false
set_option maxRecDepth 100000
def txt : ByteArray := ⟨#[114, 97, 110, 107, 32, 49, 32, 109, 111, 115, 116, 32, 51, 48, 10, 114, 97, 110, 107, 32, 50, 32, 108, 101, 97, 115, 116, 32, 53, 48, 10]⟩
def ln1 : ByteArray := ⟨#[114, 97, 110, 107, 32, 49, 32, 109, 111, 115, 116, 32, 51, 48]⟩
def ln2 : ByteArray := ⟨#[114, 97, 110, 107, 32, 50, 32, 108, 101, 97, 115, 116, 32, 53, 48]⟩
def ln3 : ByteArray := ⟨#[]⟩
abbrev wNil : ByteArray := ⟨#[]⟩
abbrev wRank : ByteArray := ⟨#[114, 97, 110, 107]⟩
abbrev wMost : ByteArray := ⟨#[109, 111, 115, 116]⟩
abbrev wLeast : ByteArray := ⟨#[108, 101, 97, 115, 116]⟩
abbrev w1 : ByteArray := ⟨#[49]⟩
abbrev w2 : ByteArray := ⟨#[50]⟩
abbrev w30 : ByteArray := ⟨#[51, 48]⟩
abbrev w50 : ByteArray := ⟨#[53, 48]⟩
theorem sp1 : Lib.splitB ⟨#[10]⟩ 0 (Lib.countB txt ⟨#[10]⟩) txt = [ln1, ln2, ln3] := by kernel_rfl
theorem fl1 : Lib.goFieldsP isGap ln1 = [wRank, w1, wMost, w30] := by kernel_rfl
theorem fl2 : Lib.goFieldsP isGap ln2 = [wRank, w2, wLeast, w50] := by kernel_rfl
theorem fl3 : Lib.goFieldsP isGap ln3 = [] := by kernel_rfl
/-- A number's digits, and the number. -/
def isNum (w : ByteArray) (n : Int) : Prop := (w = w1 ∧ n = 1) ∨ (w = w2 ∧ n = 2) ∨ (w = w30 ∧ n = 30) ∨ (w = w50 ∧ n = 50)
def digs : ByteArray := ⟨#[48, 49, 50, 51, 52, 53, 54, 55, 56, 57]⟩
theorem num_trim {w : ByteArray} {n : Int} (h : isNum w n) : (⟨(Lib.trimS w.data.toList digs.data.toList).toArray⟩ : ByteArray) = wNil ∧ Lib.atoi w.data.toList = some n ∧ w.size ≤ 2 ∧ 1 ≤ w.size := by
  rcases h with ⟨rfl, rfl⟩ | ⟨rfl, rfl⟩ | ⟨rfl, rfl⟩ | ⟨rfl, rfl⟩ <;> exact ⟨by kernel_rfl, by kernel_rfl, by decide, by decide⟩
def cnC (r k v : Int) : List Cell := [IC r, IC k, IC v, IC 0, IC 364, IC 0, IC 16777216]
abbrev cnds : List (List Cell) := [cnC 1 2 30, cnC 2 1 50]
def rwC (ws : List ByteArray) (b : Bool) : List Cell := [.lst (eSt ws), BC b]
def R_spl9 : RT := fun args k => ∃ s : ByteArray, args = [St s] ∧ s.size ≤ 4294967296 ∧ (Lib.goFieldsP isGap s).length ≤ maxLen ∧ k (.c (.lst (eSt (Lib.goFieldsP isGap s))))
def R_lines : RT := fun args k => args = [St txt] ∧ k (.c (.lst [[IC 1, .lst (eSt [wRank, w1, wMost, w30])], [IC 2, .lst (eSt [wRank, w2, wLeast, w50])]]))
def R_rnext : RB := fun cs args k => ∃ (w : ByteArray) (r : List ByteArray) (b : Bool), args = [] ∧ cs = rwC (w :: r) b ∧ r.length ≤ 1000 ∧ k (St w) (rwC r b)
def R_rnum : RB := fun cs args k => ∃ (w : ByteArray) (r : List ByteArray) (b : Bool) (n : Int), args = [] ∧ cs = rwC (w :: r) b ∧ r.length ≤ 1000 ∧ isNum w n ∧ k (I n) (rwC r b)
def R_cond : RT := fun args k => (args = [.c (.lst (eSt [wRank, w1, wMost, w30]))] ∧ k (.tup [.agg (cnC 1 2 30), Bo true])) ∨ (args = [.c (.lst (eSt [wRank, w2, wLeast, w50]))] ∧ k (.tup [.agg (cnC 2 1 50), Bo true]))
def isCn (c : List Cell) : Prop := c = cnC 1 2 30 ∨ c = cnC 2 1 50
def R_w24 : RT := fun args k => ∃ x : Int, args = [I x] ∧ k (Bo (decide (0 ≤ x) && decide (x ≤ 16777216)))
def R_cn0 : RT := fun args k => ∃ c, args = [.agg c] ∧ isCn c ∧ k (I 0)
def R_parse : RT := fun args k => args = [St txt] ∧ k (.tup [.c (.lst cnds), I 0, I 0])
def R_lck : RT := fun args k => args = [.c (.lst cnds)] ∧ k (I 0)
end Go.Proofs

namespace Go.Proofs
open Go Go.Abs
set_option linter.unusedSimpArgs false
set_option linter.unusedVariables false
set_option maxRecDepth 20000
theorem kQ {k : AV → Prop} {a b : AV} (h : k a) (e : a = b) : k b := e ▸ h
theorem kQB {k : AV → List Cell → Prop} {a b : AV} {c d : List Cell} (h : k a c) (e : a = b) (f : c = d) : k b d := e ▸ f ▸ h
theorem kQG {k : AV → List MObj → Prop} {a b : AV} {c d : List MObj} (h : k a c) (e : a = b) (f : c = d) : k b d := e ▸ f ▸ h
theorem spl9_ok : FunR Tryz.prog 69 R_spl9 := by
  intro args k h
  obtain ⟨x, rfl, h1, h2, hk⟩ := h
  refine does_ex (qc := qc1) (np := []) (CK := ckK [(101, cPu R_fields)]) mixed Tryz.func69 rfl rfl Tryz.ntmps69 Tryz.results69 τ_ok (by kernel_rfl) (ckK_ok ⟨cPu_ok fields_ok rfl, trivial⟩) (by simp) ?_
  conv => whnf
  refine ⟨x, rfl, h1, h2, ?_⟩
  conv => whnf
  exact hk
theorem lines_ok : FunR Tryz.prog 47 R_lines := by
  intro args k h
  obtain ⟨rfl, hk⟩ := h
  refine doesU_ex (n := 4) (qc := qc1) (np := []) (CK := ckK [(68, cPu R_split), (69, cPu R_spl9)]) mixed Tryz.func47 rfl rfl Tryz.ntmps47 Tryz.results47 τ_ok (by kernel_rfl) (ckK_ok ⟨cPu_ok split_ok rfl, cPu_ok spl9_ok rfl, trivial⟩) (by simp) ?_
  conv => whnf
  refine ⟨txt, ⟨#[10]⟩, rfl, by decide, by decide, ?_⟩
  rw [sp1]
  conv => whnf
  refine ⟨[(3, .c (.view (.l 33 0) 0 0)), (8, .c (.lst (eSt [ln1, ln2, ln3]))), (9, I 3), (10, I 0)], ⟨[(.l 33 0, .arr 121 2 [] false)], 1, []⟩, Shift.trans (Shift.rename [] ⟨rfl, rfl, rfl, rfl, trivial⟩ ⟨rfl, trivial⟩ rfl rfl rfl) (Shift.nilArr (t := 3) rfl 33 121 2), ?_⟩
  conv => whnf
  repeat ((first | refine fork_t' rfl ?_ | refine fork_f' rfl ?_ | refine ⟨by decide, _, rfl, rfl, ?_⟩ | refine ⟨by decide, ?_⟩ | refine ⟨rfl, ?_⟩ | refine ⟨⟨rfl, rfl, rfl, rfl, by decide⟩, ?_⟩ | refine ⟨.inl rfl, ?_⟩ | refine ⟨.inr rfl, ?_⟩ | refine .inl ⟨rfl, ?_⟩ | refine .inr ⟨rfl, ?_⟩ | refine ⟨_, _, Shift.refl _, ?_⟩ | refine ⟨_, _, _, rfl, rfl, by decide, ?_⟩ | refine ⟨_, rfl, ?_⟩); (conv => whnf))
  exact kQ hk (by kernel_rfl)
theorem rnext_ok : FunB Tryz.prog 70 R_rnext := by
  intro cs args k h
  obtain ⟨w, r, b, rfl, rfl, hr, hk⟩ := h
  refine doesBU_ex (n := 4) (qc := qc1) (np := []) (CK := ckK []) mixed Tryz.func70 rfl rfl Tryz.ntmps70 Tryz.results70 τ_ok (by kernel_rfl) (ckK_ok trivial) (by simp) rfl rfl ?_
  conv => whnf
  refine fork_f' (by simp [eSt]; omega) ?_
  conv => whnf
  repeat ((first | refine fork_t' rfl ?_ | refine fork_f' rfl ?_ | refine ⟨by decide, _, rfl, rfl, ?_⟩ | refine ⟨by decide, ?_⟩ | refine ⟨rfl, ?_⟩ | refine ⟨⟨rfl, rfl, rfl, rfl, by decide⟩, ?_⟩ | refine ⟨.inl rfl, ?_⟩ | refine ⟨.inr rfl, ?_⟩ | refine .inl ⟨rfl, ?_⟩ | refine .inr ⟨rfl, ?_⟩ | refine ⟨_, _, Shift.refl _, ?_⟩ | refine ⟨_, _, _, rfl, rfl, by decide, ?_⟩ | refine ⟨_, rfl, ?_⟩); (conv => whnf))
  refine ⟨⟨by decide, by simp [eSt]; omega, Int.le_refl _⟩, ?_⟩
  conv => whnf
  refine ⟨by simp [eSt], ?_⟩
  conv => whnf
  rw [show List.drop (Int.toNat 1) (List.take (↑(eSt (w :: r)).length : Int).toNat (eSt (w :: r))) = eSt r by rw [Int.toNat_natCast, List.take_length]; rfl]
  exact ⟨rfl, rfl, hk⟩
theorem rnum_ok : FunB Tryz.prog 71 R_rnum := by
  intro cs args k h
  obtain ⟨w, r, b, n, rfl, rfl, hr, hw, hk⟩ := h
  obtain ⟨t1, t2, t3, t4⟩ := num_trim hw
  have hsz : ¬ ((w.data.size : Nat) : Int) = 0 ∧ ¬ 10 < ((w.data.size : Nat) : Int) := by have e : w.data.size = w.size := rfl; omega
  refine doesBU_ex (n := 4) (qc := qc1) (np := []) (CK := ckK [(70, cB R_rnext), (103, cPu R_trim), (104, cPu R_atoi)]) mixed Tryz.func71 rfl rfl Tryz.ntmps71 Tryz.results71 τ_ok (by kernel_rfl) (ckK_ok ⟨cB_ok rnext_ok rfl, cPu_ok trim_ok rfl, cPu_ok atoi_ok rfl, trivial⟩) (by simp) rfl rfl ?_
  conv => whnf
  refine ⟨w, r, b, rfl, rfl, hr, ?_⟩
  conv => whnf
  refine fork_f' (by simpa using hsz.1) ?_
  conv => whnf
  repeat ((first | refine fork_f' (by simpa using hsz.1) ?_ | refine fork_f' (by simpa using hsz.2) ?_ | refine fork_f' rfl ?_ | refine fork_t' rfl ?_); (conv => whnf))
  refine ⟨w, digs, rfl, by omega, by decide, by decide, ?_⟩
  rw [t1]
  conv => whnf
  repeat ((first | refine fork_f' (by simpa using hsz.1) ?_ | refine fork_f' (by simpa using hsz.2) ?_ | refine fork_f' rfl ?_ | refine fork_t' rfl ?_); (conv => whnf))
  refine ⟨w, n, rfl, by omega, t2, ?_⟩
  conv => whnf
  exact ⟨rfl, rfl, hk⟩
theorem cond1_ok {k : AV → Prop} (hk : k (.tup [.agg (cnC 1 2 30), Bo true])) : ∃ r, Does Tryz.prog 48 [.c (.lst (eSt [wRank, w1, wMost, w30]))] r ∧ k r := by
  refine doesU_ex (n := 6) (qc := qc1) (np := [(16, [(4, 6)])]) (CK := ckK [(70, cB R_rnext), (71, cB R_rnum)]) mixed Tryz.func48 rfl rfl Tryz.ntmps48 Tryz.results48 τ_ok (by kernel_rfl) (ckK_ok ⟨cB_ok rnext_ok rfl, cB_ok rnum_ok rfl, trivial⟩) (by simp) ?_
  conv => whnf
  repeat ((first | refine fork_t' rfl ?_ | refine fork_f' rfl ?_ | refine ⟨by decide, _, rfl, rfl, ?_⟩ | refine ⟨by decide, ?_⟩ | refine ⟨rfl, ?_⟩ | refine ⟨⟨rfl, rfl, rfl, rfl, by decide⟩, ?_⟩ | refine ⟨.inl rfl, ?_⟩ | refine ⟨.inr rfl, ?_⟩ | refine .inl ⟨rfl, ?_⟩ | refine .inr ⟨rfl, ?_⟩ | refine ⟨_, _, Shift.refl _, ?_⟩ | refine ⟨_, _, _, rfl, rfl, by decide, ?_⟩ | refine ⟨_, rfl, ?_⟩); (conv => whnf))
  refine ⟨w1, [wMost, w30], false, 1, rfl, rfl, by decide, .inl ⟨rfl, rfl⟩, ?_⟩
  conv => whnf
  refine ⟨wMost, [w30], false, rfl, rfl, by decide, ?_⟩
  conv => whnf
  repeat ((first | refine fork_t' rfl ?_ | refine fork_f' rfl ?_ | refine ⟨by decide, _, rfl, rfl, ?_⟩ | refine ⟨by decide, ?_⟩ | refine ⟨rfl, ?_⟩ | refine ⟨⟨rfl, rfl, rfl, rfl, by decide⟩, ?_⟩ | refine ⟨.inl rfl, ?_⟩ | refine ⟨.inr rfl, ?_⟩ | refine .inl ⟨rfl, ?_⟩ | refine .inr ⟨rfl, ?_⟩ | refine ⟨_, _, Shift.refl _, ?_⟩ | refine ⟨_, _, _, rfl, rfl, by decide, ?_⟩ | refine ⟨_, rfl, ?_⟩); (conv => whnf))
  refine ⟨w30, [], false, 30, rfl, rfl, by decide, .inr (.inr (.inl ⟨rfl, rfl⟩)), ?_⟩
  conv => whnf
  repeat ((first | refine fork_t' rfl ?_ | refine fork_f' rfl ?_ | refine ⟨by decide, _, rfl, rfl, ?_⟩ | refine ⟨by decide, ?_⟩ | refine ⟨rfl, ?_⟩ | refine ⟨⟨rfl, rfl, rfl, rfl, by decide⟩, ?_⟩ | refine ⟨.inl rfl, ?_⟩ | refine ⟨.inr rfl, ?_⟩ | refine .inl ⟨rfl, ?_⟩ | refine .inr ⟨rfl, ?_⟩ | refine ⟨_, _, Shift.refl _, ?_⟩ | refine ⟨_, _, _, rfl, rfl, by decide, ?_⟩ | refine ⟨_, rfl, ?_⟩); (conv => whnf))
  exact kQ hk (by kernel_rfl)
theorem cond2_ok {k : AV → Prop} (hk : k (.tup [.agg (cnC 2 1 50), Bo true])) : ∃ r, Does Tryz.prog 48 [.c (.lst (eSt [wRank, w2, wLeast, w50]))] r ∧ k r := by
  refine doesU_ex (n := 6) (qc := qc1) (np := [(16, [(4, 6)])]) (CK := ckK [(70, cB R_rnext), (71, cB R_rnum)]) mixed Tryz.func48 rfl rfl Tryz.ntmps48 Tryz.results48 τ_ok (by kernel_rfl) (ckK_ok ⟨cB_ok rnext_ok rfl, cB_ok rnum_ok rfl, trivial⟩) (by simp) ?_
  conv => whnf
  repeat ((first | refine fork_t' rfl ?_ | refine fork_f' rfl ?_ | refine ⟨by decide, _, rfl, rfl, ?_⟩ | refine ⟨by decide, ?_⟩ | refine ⟨rfl, ?_⟩ | refine ⟨⟨rfl, rfl, rfl, rfl, by decide⟩, ?_⟩ | refine ⟨.inl rfl, ?_⟩ | refine ⟨.inr rfl, ?_⟩ | refine .inl ⟨rfl, ?_⟩ | refine .inr ⟨rfl, ?_⟩ | refine ⟨_, _, Shift.refl _, ?_⟩ | refine ⟨_, _, _, rfl, rfl, by decide, ?_⟩ | refine ⟨_, rfl, ?_⟩); (conv => whnf))
  refine ⟨w2, [wLeast, w50], false, 2, rfl, rfl, by decide, .inr (.inl ⟨rfl, rfl⟩), ?_⟩
  conv => whnf
  refine ⟨wLeast, [w50], false, rfl, rfl, by decide, ?_⟩
  conv => whnf
  repeat ((first | refine fork_t' rfl ?_ | refine fork_f' rfl ?_ | refine ⟨by decide, _, rfl, rfl, ?_⟩ | refine ⟨by decide, ?_⟩ | refine ⟨rfl, ?_⟩ | refine ⟨⟨rfl, rfl, rfl, rfl, by decide⟩, ?_⟩ | refine ⟨.inl rfl, ?_⟩ | refine ⟨.inr rfl, ?_⟩ | refine .inl ⟨rfl, ?_⟩ | refine .inr ⟨rfl, ?_⟩ | refine ⟨_, _, Shift.refl _, ?_⟩ | refine ⟨_, _, _, rfl, rfl, by decide, ?_⟩ | refine ⟨_, rfl, ?_⟩); (conv => whnf))
  refine ⟨w50, [], false, 50, rfl, rfl, by decide, .inr (.inr (.inr ⟨rfl, rfl⟩)), ?_⟩
  conv => whnf
  repeat ((first | refine fork_t' rfl ?_ | refine fork_f' rfl ?_ | refine ⟨by decide, _, rfl, rfl, ?_⟩ | refine ⟨by decide, ?_⟩ | refine ⟨rfl, ?_⟩ | refine ⟨⟨rfl, rfl, rfl, rfl, by decide⟩, ?_⟩ | refine ⟨.inl rfl, ?_⟩ | refine ⟨.inr rfl, ?_⟩ | refine .inl ⟨rfl, ?_⟩ | refine .inr ⟨rfl, ?_⟩ | refine ⟨_, _, Shift.refl _, ?_⟩ | refine ⟨_, _, _, rfl, rfl, by decide, ?_⟩ | refine ⟨_, rfl, ?_⟩); (conv => whnf))
  exact kQ hk (by kernel_rfl)
theorem cond_ok : FunR Tryz.prog 48 R_cond := by
  intro args k h
  rcases h with ⟨rfl, hk⟩ | ⟨rfl, hk⟩
  · exact cond1_ok hk
  · exact cond2_ok hk
end Go.Proofs
