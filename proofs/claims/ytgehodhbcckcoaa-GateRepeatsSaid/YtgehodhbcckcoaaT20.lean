/- Proved here: what functions of the given program come to, for the statements of this chapter; no condition but those in the theorems. -/
import Derived.Test.YtgehodhbcckcoaaS20
namespace Go.Proofs
open Go Go.Abs
set_option linter.unusedSimpArgs false
set_option linter.unusedVariables false
set_option maxRecDepth 4000
def upL {α : Type} (f : α → α) (l : List α) (i : Nat) : List α := (l.take i).map f ++ l.drop i
theorem upL_get {α : Type} {f : α → α} : ∀ {l : List α} {i : Nat} {a : α}, l[i]? = some a → (upL f l i)[i]? = some a
  | [], _, _, h => by simp at h
  | x :: l, 0, a, h => h
  | x :: l, i + 1, a, h => upL_get (l := l) (i := i) (by simpa using h)
theorem upL_set {α : Type} {f : α → α} : ∀ {l : List α} {i : Nat} {a : α}, l[i]? = some a → (upL f l i).set i (f a) = upL f l (i + 1)
  | [], _, _, h => by simp at h
  | x :: l, 0, a, h => by simp at h; subst h; rfl
  | x :: l, i + 1, a, h => congrArg (f x :: ·) (upL_set (l := l) (i := i) (by simpa using h))
theorem upL_all {α : Type} {f : α → α} {l : List α} : upL f l l.length = l.map f := by simp [upL]
abbrev upG (gs : List Gt) (i : Nat) : List Gt := upL frG gs i
abbrev upS (ss : List Gs) (i : Nat) : List Gs := upL unJ ss i
set_option maxHeartbeats 4000000 in
theorem repeats_ok : FunR Try.prog 4 (R_law1 1) := by
  intro args k h
  unfold R_law1 at h
  split at h
  case h_2 => exact h.elim
  obtain ⟨⟨l, rfl, hl⟩, ⟨xs, rfl, hx⟩, hk⟩ := h
  obtain ⟨v0, rfl⟩ : ∃ v0, xs = [v0] := by
    match xs, hx with
    | [v0], _ => exact ⟨v0, rfl⟩

  refine does_ex (qc := qc1) (np := []) (CK := ckK [(10, cN R_new), (11, cBA R_mkGs2), (12, cB R_next), (13, cSc R_mod), (14, cPu R_setS), (16, cSc R_sameS), (9, cSc R_tt)]) mixed Try.func4 rfl rfl Try.ntmps4 Try.results4 τ_ok (by kernel_rfl) (ckK_ok ⟨cN_ok new_ok rfl, cBA_ok mkGs2_ok rfl, cB_ok next_ok rfl, cSc_ok mod_ok, cPu_ok set_ok rfl, cSc_ok same_ok, cSc_ok awake_ok, trivial⟩) (by simp) ?_
  conv => whnf
  refine ⟨l, rfl, ?_⟩
  conv => whnf
  refine ⟨⟨l, 0⟩, 4, rfl, rfl, ⟨Nat.zero_le _, hl⟩, by omega, fun gs ss d hd hgl hgs => ?_⟩
  have hsl := hgs.l
  have hmg := eG_len gs
  have hms := eS_len ss
  conv => whnf
  refine ⟨d, rfl, hd, by omega, fun a d hd ha1 ha2 => ?_⟩
  conv => whnf
  refine ⟨by omega, ?_⟩
  conv => whnf
  rw [show IntKind.i64.wrap (100 + a) = 100 + a from wrap_in (by omega) (by omega)]
  refine ⟨Nat, fun i => ([(6, .c (.view (.l 24 1) 0 gs.length)), (7, .c (.view (.l 2072 1) 0 ss.length)), (8, I (100 + a)), (9, I (v0 % 120)), (33, I gs.length), (34, I i)], ⟨[(.l 24 1, .arr 24 3 (eG (upG gs i)) false), (.l 2072 1, .arr 35 2 (eS (upS ss i)) false)], 10, []⟩),
    fun i => i ≤ gs.length, fun i => gs.length - i, 0, Nat.zero_le _, Shift.reset ⟨rfl, rfl, rfl, rfl, rfl, rfl, trivial⟩ ⟨rfl, rfl, trivial⟩ rfl rfl, fun i hi1 => ?_⟩
  dsimp only at hi1 ⊢
  conv => whnf
  refine Fork.mk (fun h => ?_) (fun h => ?_)
  · have hi : i < gs.length := by simp at h; omega
    clear h
    have hw1 := wr_succ (i := i) (by omega)
    conv => whnf
    obtain ⟨g, hg⟩ : ∃ g, gs[i]? = some g := ⟨_, List.getElem?_eq_getElem hi⟩
    obtain ⟨z, hz⟩ : ∃ z, ss[i]? = some z := ⟨_, List.getElem?_eq_getElem (by omega)⟩
    have hgc : (eG (upG gs i))[0 + (i : Int).toNat]? = some (gtC g) := by rw [Nat.zero_add, Int.toNat_natCast, List.getElem?_map, upL_get hg]; rfl
    have hzc : (eS (upS ss i))[0 + (i : Int).toNat]? = some (gsC z) := by rw [Nat.zero_add, Int.toNat_natCast, List.getElem?_map, upL_get hz]; rfl
    have hgn : (eG (upG gs i)).set (0 + (i : Int).toNat) (gtC (frG g)) = eG (upG gs (i + 1)) := by rw [Nat.zero_add, Int.toNat_natCast]; exact List.map_set.symm.trans (congrArg (List.map gtC) (upL_set hg))
    have hzn : (eS (upS ss i)).set (0 + (i : Int).toNat) (gsC (unJ z)) = eS (upS ss (i + 1)) := by rw [Nat.zero_add, Int.toNat_natCast]; exact List.map_set.symm.trans (congrArg (List.map gsC) (upL_set hz))
    refine ⟨⟨by omega, by omega⟩, rfl, ?_⟩
    conv => whnf
    refine ⟨gtC g, hgc, by show 3 ≤ 3; omega, ?_⟩
    conv => whnf
    refine ⟨⟨by omega, by omega⟩, rfl, ?_⟩
    conv => whnf
    refine ⟨gsC z, hzc, by show 2 ≤ 2; omega, ?_⟩
    conv => whnf
    rw [hw1]
    exact ⟨i + 1, hi, Shift.reset ⟨rfl, rfl, rfl, rfl, rfl, rfl, trivial⟩ ⟨congrArg (fun x => some (MObj.arr 24 3 x false)) hgn, congrArg (fun x => some (MObj.arr 35 2 x false)) hzn, trivial⟩ rfl rfl, by omega⟩
  have hie : i = gs.length := by simp at h; omega
  have hm0 := Int.emod_nonneg v0 (show (120 : Int) ≠ 0 by omega)
  have hm1 := Int.emod_lt_of_pos v0 (show (0 : Int) < 120 by omega)
  obtain ⟨w, hw⟩ : ∃ w, v0 % 120 = w := ⟨_, rfl⟩
  obtain ⟨lv, hlv⟩ : ∃ lv, 100 + a = lv := ⟨_, rfl⟩
  have hF := fr_mk hgs.l hgs.g hgs.s
  have hS := sm_fr hgs.g
  have hZ := fr_zero hgs.g
  have hGl : (gs.map frG).length = gs.length := List.length_map _
  rw [hie, show upG gs gs.length = gs.map frG from upL_all, show upS ss gs.length = ss.map unJ by rw [hsl]; exact upL_all, hw, hlv, ← hsl, ← hGl]
  generalize gs.map frG = G at *
  generalize ss.map unJ = S at *
  have hR := g_rep (lv := lv) (w := w) hF hS (by omega) (by omega) (by omega)
  have hRp := hR.p
  have hlS := fr_len hF
  have hnG := eG_len G
  have hnS := eS_len S
  have hfi : ∀ S', FrL G S' → fins G S' := fun S' h' => ⟨by omega, by have := fr_len h'; omega, fun g hg => (ckG_ok (fr_ck hF g hg)).fin⟩
  have htG : List.take G.length (List.drop 0 (eG G)) = eG G := by rw [List.drop_zero, List.take_of_length_le (by omega)]
  have htS : List.take G.length (List.drop 0 (eS S)) = eS S := by rw [List.drop_zero, List.take_of_length_le (by omega)]
  clear h hie
  conv => whnf
  refine ⟨by omega, ?_⟩
  conv => whnf
  refine ⟨by omega, ?_⟩
  conv => whnf
  rw [htG, htS]
  refine ⟨G, S, lv, w, rfl, hfi S hF, ?_⟩
  rw [show (setS G S lv w).1 = (setL w lv 0 G S).1 by rw [hR.s1], show (setS G S lv w).2.1 = (setL w lv 0 G S).2 by rw [hR.s1], show (setS G S lv w).2.2 = 0 by rw [hR.s1]]
  conv => whnf
  refine ⟨⟨rfl, by omega, by show (G.length : Int) * 16 ≤ _; omega⟩, ?_⟩
  rw [show List.replicate ((G.length : Nat) : Int).toNat [Cell.sc (Value.int IntKind.i64 0), Cell.sc (Value.bool false)] = eS (List.replicate G.length ⟨0, false⟩) by rw [Int.toNat_natCast]; show _ = List.map gsC (List.replicate G.length ⟨0, false⟩); rw [List.map_replicate]; rfl]
  have htZ : List.take ((G.length : Nat) : Int).toNat (List.drop 0 (eS (List.replicate G.length ⟨0, false⟩))) = eS (List.replicate G.length ⟨0, false⟩) := by rw [List.drop_zero, List.take_of_length_le (by rw [eS_len, List.length_replicate]; omega)]
  have hnZ : (eS (List.replicate G.length ⟨0, false⟩)).length = G.length := by rw [eS_len, List.length_replicate]
  rw [← hGl] at hZ
  generalize List.replicate G.length (⟨0, false⟩ : Gs) = Z at *
  have hX := fr_out (w := w) (lv := lv) (s := 0) hF
  conv => whnf
  refine ⟨by omega, ?_⟩
  conv => whnf
  refine ⟨by omega, ?_⟩
  conv => whnf
  rw [htG, htZ]
  refine ⟨G, Z, lv, w, rfl, hfi Z hZ, ?_⟩
  rw [show (setS G Z lv w).1 = (setL w lv 0 G S).1 by rw [hR.s2 Z hZ], show (setS G Z lv w).2.1 = (setL w lv 0 G S).2 by rw [hR.s2 Z hZ], show (setS G Z lv w).2.2 = 0 by rw [hR.s2 Z hZ]]
  conv => whnf
  refine ⟨by omega, ?_⟩
  conv => whnf
  rw [htG]
  have hs3 := hR.s3
  have hen := hR.en
  obtain ⟨P, hP⟩ : ∃ P, (setL w lv 0 G S).2 = P := ⟨_, rfl⟩
  obtain ⟨X, hXe⟩ : ∃ X, (setL w lv 0 G S).1 = X := ⟨_, rfl⟩
  obtain ⟨Y, hYe⟩ : ∃ Y, (setL P lv 0 G S).1 = Y := ⟨_, rfl⟩
  rw [hP, hXe] at hs3 hen
  rw [hP] at hRp
  rw [hYe] at hs3 hen
  rw [hP, hXe]
  rw [hXe] at hX
  refine ⟨G, X, lv, P, rfl, hfi X hX, ?_⟩
  rw [show (setS G X lv P).1 = Y by rw [hs3], show (setS G X lv P).2.1 = P by rw [hs3], show (setS G X lv P).2.2 = 0 by rw [hs3]]
  have hxl := fr_len hX
  have hYX : w ≤ P → X = Y := fun e => (hen e).symm
  have hYl : Y.length ≤ G.length := by rw [← hYe]; exact setL_le
  conv => whnf
  refine fork_t ?_
  conv => whnf
  (refine Fork.mk (fun h => ?_) (fun h => ?_); rotate_left; focus (exfalso; simp at h; done)); clear h; (conv => whnf)
  (refine Fork.mk (fun h => ?_) (fun h => ?_); rotate_left; focus (exfalso; simp at h; done)); clear h; (conv => whnf)
  refine ⟨X, X, rfl, ⟨by omega, by omega⟩, ?_⟩
  conv => whnf
  (refine Fork.mk (fun h => ?_) (fun h => ?_); rotate_left; focus (exfalso; simp at h; done)); clear h; (conv => whnf)
  refine Fork.mk (fun h => ?_) (fun h => ?_)
  · conv => whnf
    (refine Fork.mk (fun h => ?_) (fun h => ?_); rotate_left; focus (exfalso; simp at h; done)); clear h; (conv => whnf)
    refine ⟨rfl, ?_⟩
    conv => whnf
    exact hk
  have hPw : w ≤ P := by simp at h; omega
  conv => whnf
  refine ⟨X, Y, rfl, ⟨by omega, by omega⟩, ?_⟩
  rw [hYX hPw]
  conv => whnf
  (refine Fork.mk (fun h => ?_) (fun h => ?_); rotate_left; focus (exfalso; simp at h; done)); clear h; (conv => whnf)
  refine ⟨rfl, ?_⟩
  conv => whnf
  exact hk
end Go.Proofs
