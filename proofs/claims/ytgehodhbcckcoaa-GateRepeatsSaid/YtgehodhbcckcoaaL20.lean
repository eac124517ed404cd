/- Proved here: what functions of the given program come to, for the statements of this chapter; no condition but those in the theorems. -/
import Derived.Test.YtgehodhbcckcoaaK20
namespace Go.Proofs
open Go Go.Abs
set_option linter.unusedSimpArgs false
set_option linter.unusedVariables false
set_option maxRecDepth 4000
def sG : Gt := ⟨[(0, [(0, 0), (10, 100)])], 10, 3⟩
theorem sG_set : setS [sG] [⟨0, false⟩] 5 25 = ([⟨3, false⟩], 30, 0) := by decide
theorem sG_ok : ckG sG = 0 := by decide
theorem awake_ok : FunR Try.prog 9 R_tt := by
  intro args k h
  obtain ⟨rfl, hk⟩ := h
  refine does_ex (qc := qc1) (np := [(2, [(0, 2), (1, 2)])]) (CK := ckK [(14, cPu R_setS)]) mixed Try.func9 rfl rfl Try.ntmps9 Try.results9 τ_ok (by kernel_rfl) (ckK_ok ⟨cPu_ok set_ok rfl, trivial⟩) (by simp) ?_
  conv => whnf
  (repeat (refine ⟨by simp, ?_⟩; (conv => whnf)))
  refine ⟨[sG], [⟨0, false⟩], 5, 25, rfl, ⟨by simp, by simp, fun g h => by simp at h; subst h; exact (ckG_ok sG_ok).fin⟩, ?_⟩
  rw [show (setS [sG] [⟨0, false⟩] 5 25).1 = [⟨3, false⟩] by rw [sG_set], show (setS [sG] [⟨0, false⟩] 5 25).2.1 = 30 by rw [sG_set], show (setS [sG] [⟨0, false⟩] 5 25).2.2 = 0 by rw [sG_set]]
  conv => whnf
  (repeat ((first | refine fork_t ?_ | refine ⟨by simp, ?_⟩); (conv => whnf)))
  refine ⟨gsC ⟨3, false⟩, rfl, rfl, ?_⟩
  conv => whnf
  (repeat (refine fork_t ?_; (conv => whnf)))
  exact hk
structure lvI (l : List Rt) (n : Int) (i : Nat) (o : Option (Nat × Rt)) : Prop where
  a : i ≤ l.length
  b : atL [] l n = atL (match o with | none => [] | some p => p.2.2) (l.drop i) n
  c : ∀ j r, o = some (j, r) → l[j]? = some r ∧ r.1 ≤ n
def atI (o : Option (Nat × Rt)) : Int := match o with | none => -1 | some p => p.1
theorem levels_ok : FunR Try.prog 6 (R_law1 2) := by
  intro args k h
  unfold R_law1 at h
  split at h
  case h_2 => exact h.elim
  obtain ⟨⟨l, rfl, hl⟩, ⟨xs, rfl, hx⟩, hk⟩ := h
  obtain ⟨v0, v1, rfl⟩ : ∃ v0 v1, xs = [v0, v1] := by
    match xs, hx with
    | [v0, v1], _ => exact ⟨v0, v1, rfl⟩

  refine does_ex (qc := qc1) (np := []) (CK := ckK [(10, cN R_new), (17, cB R_mkG), (13, cSc R_mod), (21, cSc R_flowS), (9, cSc R_tt)]) mixed Try.func6 rfl rfl Try.ntmps6 Try.results6 τ_ok (by kernel_rfl) (ckK_ok ⟨cN_ok new_ok rfl, cB_ok mkG_ok rfl, cSc_ok mod_ok, cSc_ok flow_ok, cSc_ok awake_ok, trivial⟩) (by simp) ?_
  conv => whnf
  refine ⟨l, rfl, ?_⟩
  conv => whnf
  refine ⟨⟨l, 0⟩, rfl, rfl, ⟨Nat.zero_le _, hl⟩, fun g d hd hg => ?_⟩
  have hc := ckG_of hg.ok
  have hmo := hg.ok.o
  have hmm := hg.m
  have hn0 := Int.emod_nonneg v1 (show (160 : Int) ≠ 0 by omega)
  have hn1 := Int.emod_lt_of_pos v1 (show (0 : Int) < 160 by omega)
  have hx0 := Int.emod_nonneg v0 (show g.mo + 1 ≠ 0 by omega)
  have hx1 := Int.emod_lt_of_pos v0 (show 0 < g.mo + 1 by omega)
  have e1 : IntKind.i64.wrap (80 + v1 % 160) = 80 + v1 % 160 := wrap_in (by omega) (by omega)
  have e2 : IntKind.i64.wrap (g.mo + 1) = g.mo + 1 := wrap_in (by omega) (by omega)
  conv => whnf
  refine ⟨by omega, ?_⟩
  conv => whnf
  rw [e1, e2]
  refine ⟨by omega, ?_⟩
  conv => whnf
  obtain ⟨n, hn⟩ : ∃ n, 80 + v1 % 160 = n := ⟨_, rfl⟩
  obtain ⟨x, hx⟩ : ∃ x, v0 % (g.mo + 1) = x := ⟨_, rfl⟩
  rw [hn, hx]
  replace hn : 80 ≤ n ∧ n ≤ 239 := by omega
  replace hx : 0 ≤ x ∧ x ≤ g.mo := by omega
  clear hn0 hn1 hx0 hx1 e1 e2
  have hf : ∀ y, 0 ≤ y → y ≤ g.mo → flowS g y n = (gfl (atG g n) y, 0) := fun y h1 h2 => by
    rw [flowS, if_neg (by simp [hc]), if_neg (by simp [inB]; omega)]
  have hok := atG_ok hc n
  refine ⟨g, x, n, rfl, hg.fin, ?_⟩
  rw [show (flowS g x n).1 = gfl (atG g n) x by rw [hf x hx.1 hx.2], show (flowS g x n).2 = 0 by rw [hf x hx.1 hx.2]]
  conv => whnf
  refine ⟨g, g.mo, n, rfl, hg.fin, ?_⟩
  rw [show (flowS g g.mo n).1 = gfl (atG g n) g.mo by rw [hf g.mo hmo.1 (Int.le_refl _)], show (flowS g g.mo n).2 = 0 by rw [hf g.mo hmo.1 (Int.le_refl _)]]
  conv => whnf
  refine ⟨g, 0, n, rfl, hg.fin, ?_⟩
  rw [show (flowS g 0 n).1 = 0 by rw [hf 0 (Int.le_refl _) hmo.1, gfl_0 hok], show (flowS g 0 n).2 = 0 by rw [hf 0 (Int.le_refl _) hmo.1]]
  conv => whnf
  have hm : (g.rt.map rtC).length = g.rt.length := List.length_map _
  have hmono := gfl_mono hok hx.2
  refine ⟨Nat × Option (Nat × Rt), fun s => ([(8, .c (.ptr (.l 8 1) 0)), (9, I n), (10, I x), (11, I (gfl (atG g n) x)), (12, I 0), (13, I (gfl (atG g n) g.mo)), (14, I 0), (15, I 0), (16, I 0), (17, I (atI s.2)), (56, .c (.lst (g.rt.map rtC))), (57, I (g.rt.map rtC).length), (58, I s.1)], ⟨[(.l 8 1, .blk (gtC g))], 5, []⟩),
    fun s => lvI g.rt n s.1 s.2, fun s => g.rt.length - s.1, (0, none), ⟨Nat.zero_le _, rfl, fun j r h => by cases h⟩, Shift.reset ⟨rfl, rfl, rfl, rfl, rfl, rfl, rfl, rfl, rfl, rfl, rfl, rfl, rfl, trivial⟩ ⟨rfl, trivial⟩ rfl rfl, fun s hi => ?_⟩
  obtain ⟨i, o⟩ := s
  obtain ⟨hi1, hi2, hi3⟩ := hi
  dsimp only at hi1 hi2 hi3 ⊢
  conv => whnf
  refine Fork.mk (fun h => ?_) (fun h => ?_)
  · have hi : i < g.rt.length := by simp at h; omega
    clear h
    have hci := List.getElem?_eq_getElem hi
    generalize g.rt[i] = r at hci
    rw [drop_of hci] at hi2
    have hw1 := wr_succ (i := i) (by have := hg.ok.n; omega)
    conv => whnf
    refine ⟨by omega, rtC r, by rw [Int.toNat_natCast, List.getElem?_map, hci]; rfl, rfl, ?_⟩
    conv => whnf
    refine Fork.mk (fun h => ?_) (fun h => ?_)
    · have h1 : r.1 ≤ n := by simpa using h
      conv => whnf
      rw [hw1]
      exact ⟨(i + 1, some (i, r)), ⟨hi, by rw [hi2]; exact congrArg (fun z => atL z _ _) (if_pos h1), fun j r' e => by cases e; exact ⟨hci, h1⟩⟩, Shift.reset ⟨rfl, rfl, rfl, rfl, rfl, rfl, rfl, rfl, rfl, rfl, rfl, rfl, rfl, trivial⟩ ⟨rfl, trivial⟩ rfl rfl, by dsimp only; omega⟩
    have h1 : ¬ r.1 ≤ n := by simpa using h
    conv => whnf
    rw [hw1]
    exact ⟨(i + 1, o), ⟨hi, by rw [hi2]; exact congrArg (fun z => atL z _ _) (if_neg h1), hi3⟩, Shift.reset ⟨rfl, rfl, rfl, rfl, rfl, rfl, rfl, rfl, rfl, rfl, rfl, rfl, rfl, trivial⟩ ⟨rfl, trivial⟩ rfl rfl, by dsimp only; omega⟩
  have hie : i = g.rt.length := by simp at h; omega
  rw [hie, List.drop_length] at hi2
  clear h hi1 hie
  conv => whnf
  repeat (first | refine fork_f ?_ | refine fork_t ?_); (conv => whnf)
  refine Fork.mk (fun h => ?_) (fun h => ?_)
  · exfalso; simp at h; omega
  clear h
  conv => whnf
  (repeat (refine fork_f ?_; (conv => whnf)))
  cases o with
  | none =>
    have e0 : ∀ y, gfl (atG g n) y = 0 := fun y => by show gfl (atL [] g.rt n) y = 0; rw [hi2]; rfl
    rw [e0, e0]
    conv => whnf
    (repeat ((first | refine fork_t ?_ | refine ⟨rfl, ?_⟩); (conv => whnf)))
    exact hk
  | some p =>
    obtain ⟨j, r⟩ := p
    obtain ⟨hj, hrn⟩ := hi3 j r rfl
    have e0 : atG g n = r.2 := hi2
    conv => whnf
    rw [show atI (some (j, r)) = (j : Int) from rfl]
    have hjl : j < g.rt.length := (List.getElem?_eq_some_iff.1 hj).1
    have hwj : IntKind.i64.wrap ((j : Int) + 1) = (j : Int) + 1 := wrap_in (by have := hg.ok.n; omega) (by have := hg.ok.n; omega)
    refine Fork.mk (fun h => ?_) (fun h => ?_)
    · exfalso; simp at h; omega
    clear h
    conv => whnf
    rw [hwj]
    have hsl : List.drop (j : Int).toNat (List.take ((j : Int) + 1).toNat (g.rt.map rtC)) = [rtC r] := by
      rw [show ((j : Int) + 1).toNat = j + 1 by omega, Int.toNat_natCast, List.take_add_one, List.drop_append_of_le_length (by rw [List.length_take]; omega), List.drop_eq_nil_of_le (by rw [List.length_take]; omega), List.getElem?_map, hj]
      rfl
    have hr := hg.ok.r r (List.mem_of_getElem? hj)
    have hg' : GOk ⟨[r], g.mo, g.mv⟩ := ⟨by simp, by simp, fun q hq => by simp at hq; subst hq; exact hr, by simp, hg.ok.o, hg.ok.v⟩
    have hc' := ckG_of hg'
    have hq : flowS ⟨[r], g.mo, g.mv⟩ x n = (gfl r.2 x, 0) := by
      rw [flowS, if_neg (by simp [hc']), if_neg (by simp [inB]; omega)]
      show (gfl (atL [] [r] n) x, (0 : Int)) = _
      rw [atL, if_pos hrn]; rfl
    refine ⟨by omega, ?_⟩
    conv => whnf
    refine ⟨by simp [rtC], ?_⟩
    conv => whnf
    rw [hsl]
    refine ⟨⟨[r], g.mo, g.mv⟩, x, n, rfl, hg'.fin, ?_⟩
    rw [show (flowS ⟨[r], g.mo, g.mv⟩ x n).1 = gfl r.2 x by rw [hq], show (flowS ⟨[r], g.mo, g.mv⟩ x n).2 = 0 by rw [hq], e0]
    conv => whnf
    (repeat ((first | refine fork_t ?_ | refine ⟨rfl, ?_⟩); (conv => whnf)))
    refine Fork.mk (fun h => ?_) (fun h => ?_)
    rotate_left
    · exfalso; simp at h
    conv => whnf
    (repeat ((first | refine fork_t ?_ | refine ⟨rfl, ?_⟩); (conv => whnf)))
    exact hk
end Go.Proofs
