/- Proved here: what functions of the given program come to, and the plain laws of it; no condition but those in the theorems. -/
import Derived.Test.YtfhnicamjcfddaaGreatDoorPGate2
/- How the reference sets gates: opening by opening. No program. -/
namespace Go.Proofs
open Go Go.Abs
set_option linter.unusedSimpArgs false
set_option linter.unusedVariables false
theorem losL_cons (g : Gt) (gs : List Gt) (z : Gs) (zs : List Gs) : losL (g :: gs) (z :: zs) = (rch g z).1 :: losL gs zs := rfl
theorem opsL_cons (w lv s : Int) (g : Gt) (gs : List Gt) (z : Gs) (zs : List Gs) : opsL (setL w lv s (g :: gs) (z :: zs)).1 = opO (atG g lv) w s (rch g z).1 (rch g z).2 :: opsL (setL w lv (sNx w lv s g z) gs zs).1 := rfl
theorem tot_mix {w lv : Int} : ∀ {gs : List Gt} {ss : List Gs} {s : Int} {i : Nat}, gs.length = ss.length → i ≤ gs.length →
    totL gs ((opsL (setL w lv s gs ss).1).take i ++ (losL gs ss).drop i) lv = sAt w lv s gs ss i + (totL gs (losL gs ss) lv - s)
  | gs, ss, s, 0, _, _ => by rw [List.take_zero, List.nil_append, List.drop_zero, sAt_0]; omega
  | [], _, _, _ + 1, _, h => by simp at h
  | _ :: _, [], _, _ + 1, h, _ => by simp at h
  | g :: gs, z :: zs, s, i + 1, hl, hi => by
    have ih := tot_mix (w := w) (lv := lv) (gs := gs) (ss := zs) (s := sNx w lv s g z) (i := i) (by simpa using hl) (by simpa using hi)
    rw [opsL_cons, losL_cons, List.take_succ_cons, List.drop_succ_cons, List.cons_append]
    have e1 : ∀ (o : Int) (os : Ls), totL (g :: gs) (o :: os) lv = gfl (atG g lv) o + totL gs os lv := fun _ _ => rfl
    rw [e1, e1, ih, show sAt w lv s (g :: gs) (z :: zs) (i + 1) = sAt w lv (sNx w lv s g z) gs zs i from rfl]
    unfold sNx
    omega
theorem set_enough {w lv : Int} : ∀ {gs : List Gt} {ss : List Gs} {s : Int}, gs.length = ss.length → w ≤ s → opsL (setL w lv s gs ss).1 = losL gs ss
  | [], [], _, _, _ => rfl
  | [], _ :: _, _, h, _ => by simp at h
  | _ :: _, [], _, h, _ => by simp at h
  | g :: gs, z :: zs, s, hl, h => by
    have e : opO (atG g lv) w s (rch g z).1 (rch g z).2 = (rch g z).1 := by rw [opO, if_neg (by omega)]
    rw [opsL_cons, losL_cons, nx_same e, e, set_enough (by simpa using hl) h]
theorem drop_enough {w lv : Int} : ∀ {gs : List Gt} {ss : List Gs} {s : Int} {i : Nat}, gs.length = ss.length → i ≤ gs.length → w ≤ sAt w lv s gs ss i → (opsL (setL w lv s gs ss).1).drop i = (losL gs ss).drop i
  | gs, ss, s, 0, hl, _, h => by rw [List.drop_zero, List.drop_zero]; rw [sAt_0] at h; exact set_enough hl h
  | [], _, _, _ + 1, _, h, _ => by simp at h
  | _ :: _, [], _, _ + 1, h, _, _ => by simp at h
  | g :: gs, z :: zs, s, i + 1, hl, hi, h => by
    rw [opsL_cons, losL_cons, List.drop_succ_cons, List.drop_succ_cons]
    exact drop_enough (by simpa using hl) (by simpa using hi) h
theorem set_mid {l m : Ls} {i : Nat} {v : Int} (h1 : i ≤ l.length) (h2 : i < m.length) : (l.take i ++ m.drop i).set i v = l.take i ++ v :: m.drop (i + 1) := by
  rw [List.set_append, if_neg (by rw [List.length_take]; omega), List.length_take, show i - min i l.length = 0 by omega, List.drop_eq_getElem_cons h2, List.set_cons_zero]
/-- The openings while gate i stands at v. -/
def mixL (w lv T : Int) (gs : List Gt) (ss : List Gs) (i : Nat) (v : Int) : Ls := ((opsL (setL w lv T gs ss).1).take i ++ (losL gs ss).drop i).set i v
structure mixI (w lv T : Int) (gs : List Gt) (ss : List Gs) (i : Nat) (v : Int) : Prop where
  n : i ≤ gs.length
  v : ∀ g z, gs[i]? = some g → ss[i]? = some z → (rch g z).1 ≤ v ∧ v ≤ opO (atG g lv) w (sAt w lv T gs ss i) (rch g z).1 (rch g z).2
section
variable {w lv : Int} {gs : List Gt} {ss : List Gs} (hl : gs.length = ss.length) (hA : ∀ g ∈ gs, ckG g = 0) (hb : badS gs ss = false)
include hl hA hb
theorem mix_len {i : Nat} {v : Int} (hi : i ≤ gs.length) : (mixL w lv (totL gs (losL gs ss) lv) gs ss i v).length = gs.length := by
  have h1 := (setF (w := w) (lv := lv) (s := totL gs (losL gs ss) lv) hl hA hb).len
  have h2 := (losL_len hl).1
  have h3 : (opsL (setL w lv (totL gs (losL gs ss) lv) gs ss).1).length = gs.length := by rw [opsL, List.length_map]; exact h1
  rw [mixL, List.length_set, List.length_append, List.length_take, List.length_drop]
  omega
theorem mix_low {i : Nat} {g : Gt} {z : Gs} (h1 : gs[i]? = some g) (h2 : ss[i]? = some z) :
    ((opsL (setL w lv (totL gs (losL gs ss) lv) gs ss).1).take i ++ (losL gs ss).drop i)[i]? = some (rch g z).1 ∧ (hisL gs ss)[i]? = some (rch g z).2 := by
  have hi := (List.getElem?_eq_some_iff.1 h1).1
  have q1 := (setF (w := w) (lv := lv) (s := totL gs (losL gs ss) lv) hl hA hb).len
  have q3 : (opsL (setL w lv (totL gs (losL gs ss) lv) gs ss).1).length = gs.length := by rw [opsL, List.length_map]; exact q1
  obtain ⟨q4, q5⟩ := losL_len hl
  obtain ⟨t1, t2⟩ := losL_take h1 h2
  constructor
  · rw [List.getElem?_append_right (by rw [List.length_take]; omega), List.getElem?_drop, List.length_take, show i + (i - min i (opsL (setL w lv (totL gs (losL gs ss) lv) gs ss).1).length) = i by omega]
    have : ((losL gs ss).take (i + 1))[i]? = (losL gs ss)[i]? := by rw [List.getElem?_take, if_pos (by omega)]
    rw [← this, t1, List.getElem?_append_right (by rw [List.length_take]; omega), List.length_take, show i - min i (losL gs ss).length = 0 by omega]
    rfl
  · have : ((hisL gs ss).take (i + 1))[i]? = (hisL gs ss)[i]? := by rw [List.getElem?_take, if_pos (by omega)]
    rw [← this, t2, List.getElem?_append_right (by rw [List.length_take]; omega), List.length_take, show i - min i (hisL gs ss).length = 0 by omega]
    rfl
theorem mix_get {i : Nat} {v : Int} {g : Gt} {z : Gs} (h1 : gs[i]? = some g) (h2 : ss[i]? = some z) : (mixL w lv (totL gs (losL gs ss) lv) gs ss i v)[i]? = some v := by
  have hi := (List.getElem?_eq_some_iff.1 (mix_low (w := w) (lv := lv) hl hA hb h1 h2).1).1
  rw [mixL, List.getElem?_set_self hi]
theorem mix_tot {i : Nat} {v : Int} {g : Gt} {z : Gs} (h1 : gs[i]? = some g) (h2 : ss[i]? = some z) :
    totL gs (mixL w lv (totL gs (losL gs ss) lv) gs ss i v) lv = sAt w lv (totL gs (losL gs ss) lv) gs ss i - gfl (atG g lv) (rch g z).1 + gfl (atG g lv) v := by
  have hi := (List.getElem?_eq_some_iff.1 h1).1
  rw [mixL, totL_set h1 (mix_low (w := w) (lv := lv) hl hA hb h1 h2).1, tot_mix hl (by omega)]
  omega
/-- The next gate. -/
theorem mix_next {i : Nat} {v : Int} {g : Gt} {z : Gs} (h : mixI w lv (totL gs (losL gs ss) lv) gs ss i v) (h1 : gs[i]? = some g) (h2 : ss[i]? = some z) (hv : v = (rch g z).2) :
    ∃ v', mixI w lv (totL gs (losL gs ss) lv) gs ss (i + 1) v' ∧ mixL w lv (totL gs (losL gs ss) lv) gs ss i v = mixL w lv (totL gs (losL gs ss) lv) gs ss (i + 1) v' := by
  have hi := (List.getElem?_eq_some_iff.1 h1).1
  have hg := hA g (List.mem_of_getElem? h1)
  have hr := rch_in hg (badS_at hb h1 h2)
  have hin := opO_in (c := atG g lv) (w := w) (s := sAt w lv (totL gs (losL gs ss) lv) gs ss i) hr.1.2
  have hv2 := h.v g z h1 h2
  have q1 := (setF (w := w) (lv := lv) (s := totL gs (losL gs ss) lv) hl hA hb).len
  have q3 : (opsL (setL w lv (totL gs (losL gs ss) lv) gs ss).1).length = gs.length := by rw [opsL, List.length_map]; exact q1
  have q4 := (losL_len hl).1
  have hF : (opsL (setL w lv (totL gs (losL gs ss) lv) gs ss).1)[i]? = some v := by
    rw [opsL, List.getElem?_map, (set_at h1 h2).1]
    show some _ = some v
    congr 1
    show opO (atG g lv) w (sAt w lv (totL gs (losL gs ss) lv) gs ss i) (rch g z).1 (rch g z).2 = v
    omega
  have e : mixL w lv (totL gs (losL gs ss) lv) gs ss i v = (opsL (setL w lv (totL gs (losL gs ss) lv) gs ss).1).take (i + 1) ++ (losL gs ss).drop (i + 1) := by
    have hlo := (mix_low (w := w) (lv := lv) hl hA hb h1 h2).1
    rw [List.take_add_one, hF, mixL, set_mid (by omega) (by omega), List.append_assoc]
    rfl
  by_cases hn : i + 1 < gs.length
  · have c1 := List.getElem?_eq_getElem hn
    have c2 := List.getElem?_eq_getElem (show i + 1 < ss.length by omega)
    have hr' := rch_in (hA _ (List.mem_of_getElem? c1)) (badS_at hb c1 c2)
    refine ⟨(rch gs[i + 1] ss[i + 1]).1, ⟨by omega, fun g' z' d1 d2 => ?_⟩, ?_⟩
    · rw [c1] at d1; rw [c2] at d2; cases d1; cases d2
      exact ⟨Int.le_refl _, (opO_in hr'.1.2).1⟩
    · have hlo := (mix_low (w := w) (lv := lv) hl hA hb c1 c2).1
      rw [e, mixL]
      exact (List.ext_getElem? fun k => by
        by_cases hk : k = i + 1
        · subst hk; rw [hlo, List.getElem?_set_self (List.getElem?_eq_some_iff.1 hlo).1]
        · rw [List.getElem?_set_ne (by omega)])
  · refine ⟨0, ⟨by omega, fun g' z' d1 _ => ?_⟩, ?_⟩
    · have := (List.getElem?_eq_some_iff.1 d1).1; omega
    · rw [e, mixL, List.set_eq_of_length_le (by rw [List.length_append, List.length_take, List.length_drop]; omega)]
/-- One more opening. -/
theorem mix_up {i : Nat} {v : Int} {g : Gt} {z : Gs} (h : mixI w lv (totL gs (losL gs ss) lv) gs ss i v) (h1 : gs[i]? = some g) (h2 : ss[i]? = some z) (hv : v < (rch g z).2)
    (hw : totL gs (mixL w lv (totL gs (losL gs ss) lv) gs ss i v) lv < w) : mixI w lv (totL gs (losL gs ss) lv) gs ss i (v + 1) := by
  have hi := (List.getElem?_eq_some_iff.1 h1).1
  have hg := hA g (List.mem_of_getElem? h1)
  have hr := rch_in hg (badS_at hb h1 h2)
  have hv2 := h.v g z h1 h2
  rw [mix_tot hl hA hb h1 h2] at hw
  have hm := gfl_mono (atG_ok hg lv) hv2.1
  refine ⟨h.n, fun g' z' d1 d2 => ?_⟩
  rw [h1] at d1; rw [h2] at d2; cases d1; cases d2
  obtain ⟨_, _, c⟩ := opO_is (c := atG g lv) (w := w) (s := sAt w lv (totL gs (losL gs ss) lv) gs ss i) hr.1.2 (by omega)
  refine ⟨by omega, ?_⟩
  rcases c with c | c
  · omega
  · by_cases e : v = opO (atG g lv) w (sAt w lv (totL gs (losL gs ss) lv) gs ss i) (rch g z).1 (rch g z).2
    · rw [← e] at c; omega
    · omega
theorem mix_start : ∃ v, mixI w lv (totL gs (losL gs ss) lv) gs ss 0 v ∧ losL gs ss = mixL w lv (totL gs (losL gs ss) lv) gs ss 0 v := by
  by_cases hn : 0 < gs.length
  · have c1 := List.getElem?_eq_getElem hn
    have c2 := List.getElem?_eq_getElem (show 0 < ss.length by omega)
    have hr := rch_in (hA _ (List.mem_of_getElem? c1)) (badS_at hb c1 c2)
    have hlo := (mix_low (w := w) (lv := lv) hl hA hb c1 c2).1
    rw [List.take_zero, List.nil_append, List.drop_zero] at hlo
    refine ⟨(rch gs[0] ss[0]).1, ⟨Nat.zero_le _, fun g' z' d1 d2 => ?_⟩, ?_⟩
    · rw [c1] at d1; rw [c2] at d2; cases d1; cases d2
      exact ⟨Int.le_refl _, (opO_in hr.1.2).1⟩
    · rw [mixL, List.take_zero, List.nil_append, List.drop_zero]
      exact List.ext_getElem? fun k => by
        by_cases hk : k = 0
        · subst hk; rw [hlo, List.getElem?_set_self (List.getElem?_eq_some_iff.1 hlo).1]
        · rw [List.getElem?_set_ne (by omega)]
  · refine ⟨0, ⟨Nat.zero_le _, fun g' z' d1 _ => ?_⟩, ?_⟩
    · have := (List.getElem?_eq_some_iff.1 d1).1; omega
    · rw [mixL, List.set_eq_of_length_le (by rw [List.length_append, List.length_take, List.length_drop, (losL_len hl).1]; omega), List.take_zero, List.nil_append, List.drop_zero]
/-- The end. -/
theorem mix_end {i : Nat} {v : Int} (h : mixI w lv (totL gs (losL gs ss) lv) gs ss i v) (he : i = gs.length ∨ w ≤ totL gs (mixL w lv (totL gs (losL gs ss) lv) gs ss i v) lv) :
    mixL w lv (totL gs (losL gs ss) lv) gs ss i v = opsL (setL w lv (totL gs (losL gs ss) lv) gs ss).1 := by
  have q1 := (setF (w := w) (lv := lv) (s := totL gs (losL gs ss) lv) hl hA hb).len
  have q3 : (opsL (setL w lv (totL gs (losL gs ss) lv) gs ss).1).length = gs.length := by rw [opsL, List.length_map]; exact q1
  have q4 := (losL_len hl).1
  by_cases hn : i = gs.length
  · subst hn
    rw [mixL, List.set_eq_of_length_le (by rw [List.length_append, List.length_take, List.length_drop]; omega), List.take_of_length_le (by omega), List.drop_eq_nil_of_le (by omega), List.append_nil]
  have hi : i < gs.length := by have := h.n; omega
  have he := he.resolve_left hn
  have c1 := List.getElem?_eq_getElem hi
  have c2 := List.getElem?_eq_getElem (show i < ss.length by omega)
  generalize gs[i] = g at c1
  generalize ss[i] = z at c2
  have hg := hA g (List.mem_of_getElem? c1)
  have hr := rch_in hg (badS_at hb c1 c2)
  have hv2 := h.v g z c1 c2
  rw [mix_tot hl hA hb c1 c2] at he
  have hF := set_at (w := w) (lv := lv) (s := totL gs (losL gs ss) lv) c1 c2
  have hin := opO_in (c := atG g lv) (w := w) (s := sAt w lv (totL gs (losL gs ss) lv) gs ss i) hr.1.2
  have hvF : v = opO (atG g lv) w (sAt w lv (totL gs (losL gs ss) lv) gs ss i) (rch g z).1 (rch g z).2 := by
    by_cases hs : sAt w lv (totL gs (losL gs ss) lv) gs ss i < w
    · obtain ⟨_, b, _⟩ := opO_is (c := atG g lv) hr.1.2 hs
      have := b v hv2.1
      omega
    · have : opO (atG g lv) w (sAt w lv (totL gs (losL gs ss) lv) gs ss i) (rch g z).1 (rch g z).2 = (rch g z).1 := by rw [opO, if_neg hs]
      omega
  have hs2 : w ≤ sAt w lv (totL gs (losL gs ss) lv) gs ss (i + 1) := by
    rw [hF.2]; unfold sNx; rw [← hvF]; exact he
  have hd := drop_enough hl (show i + 1 ≤ gs.length by omega) hs2
  have hFi : (opsL (setL w lv (totL gs (losL gs ss) lv) gs ss).1)[i]? = some v := by
    rw [opsL, List.getElem?_map, hF.1, hvF]; rfl
  rw [mixL, set_mid (by omega) (by omega), ← hd]
  have : (opsL (setL w lv (totL gs (losL gs ss) lv) gs ss).1).take (i + 1) = (opsL (setL w lv (totL gs (losL gs ss) lv) gs ss).1).take i ++ [v] := by rw [List.take_add_one, hFi]; rfl
  rw [← List.singleton_append, ← List.append_assoc, ← this, List.take_append_drop]
end
theorem set_zip {w lv : Int} {gs : List Gt} {ss : List Gs} {i : Nat} {g : Gt} {z : Gs} {T : Int} (h1 : gs[i]? = some g) (h2 : ss[i]? = some z) : ∃ o, (opsL (setL w lv T gs ss).1)[i]? = some o ∧ (setL w lv T gs ss).1.take (i + 1) = (setL w lv T gs ss).1.take i ++ [⟨o, z.jm⟩] := by
  have hF := (set_at (w := w) (lv := lv) (s := T) h1 h2).1
  exact ⟨_, by rw [opsL, List.getElem?_map, hF]; rfl, by rw [List.take_add_one, hF]; rfl⟩
theorem mix_set {w lv : Int} {gs : List Gt} {ss : List Gs} {i : Nat} {v v' : Int} : (mixL w lv (totL gs (losL gs ss) lv) gs ss i v).set i v' = mixL w lv (totL gs (losL gs ss) lv) gs ss i v' := by
  rw [mixL, mixL, List.set_set]
def muG (gs : List Gt) (ss : List Gs) (i : Nat) (v : Int) : Nat := (gs.length - i) * 2000 + (if i < gs.length then ((hisL gs ss).getD i 0 - v).toNat else 0)
theorem mu_next {w lv : Int} {gs : List Gt} {ss : List Gs} {i : Nat} {v v' : Int} (hl : gs.length = ss.length) (hA : ∀ g ∈ gs, ckG g = 0) (hb : badS gs ss = false) (h : mixI w lv (totL gs (losL gs ss) lv) gs ss (i + 1) v') (hi : i < gs.length) : muG gs ss (i + 1) v' < muG gs ss i v := by
  have key : (if i + 1 < gs.length then ((hisL gs ss).getD (i + 1) 0 - v').toNat else 0) ≤ 1000 := by
    split
    · rename_i hn
      have c1 := List.getElem?_eq_getElem hn
      have c2 := List.getElem?_eq_getElem (show i + 1 < ss.length by omega)
      have hr := rch_in (hA _ (List.mem_of_getElem? c1)) (badS_at hb c1 c2)
      have hv := (h.v _ _ c1 c2).1
      have hh := (mix_low (w := w) (lv := lv) hl hA hb c1 c2).2
      rw [List.getD_eq_getElem?_getD, hh]
      show ((rch gs[i + 1] ss[i + 1]).2 - v').toNat ≤ 1000
      omega
    · omega
  unfold muG
  omega
theorem mu_up {gs : List Gt} {ss : List Gs} {i : Nat} {v v' hi : Int} (hi' : i < gs.length) (hh : (hisL gs ss)[i]? = some hi) (h1 : v < v') (h2 : v' ≤ hi) : muG gs ss i v' < muG gs ss i v := by
  unfold muG
  rw [if_pos hi', if_pos hi', List.getD_eq_getElem?_getD, hh]
  show _ + (hi - v').toNat < _ + (hi - v).toNat
  omega
theorem triI2 (a b c d e f : Int) {i : Nat} (h : i < 3) : ∃ x y : Int, ([[IC a, IC b], [IC c, IC d], [IC e, IC f]] : List (List Cell))[0 + (i : Int).toNat]? = some [IC x, IC y] := by
  obtain rfl | rfl | rfl : i = 0 ∨ i = 1 ∨ i = 2 := by omega
  · exact ⟨a, b, rfl⟩
  · exact ⟨c, d, rfl⟩
  · exact ⟨e, f, rfl⟩
theorem setL_le {w lv : Int} : ∀ {gs : List Gt} {ss : List Gs} {s : Int}, (setL w lv s gs ss).1.length ≤ gs.length
  | [], ss, s => by rw [setL_nil]; simp
  | _ :: _, [], _ => by simp [setL]
  | g :: gs, z :: zs, s => by
    have := setL_le (w := w) (lv := lv) (gs := gs) (ss := zs) (s := sNx w lv s g z)
    rw [setL_cons]
    simp only [List.length_cons]
    omega
theorem setS_le {gs : List Gt} {ss : List Gs} {lv w : Int} : (setS gs ss lv w).1.length ≤ gs.length := by
  unfold setS
  split
  · simp
  · split
    · simp
    · exact setL_le
end Go.Proofs

/- Dams and their states: what the functions answer. No program. -/
namespace Go.Proofs
open Go Go.Abs
set_option linter.unusedSimpArgs false
set_option linter.unusedVariables false
abbrev eU (l : List Un) : List (List Cell) := l.map unC
abbrev eQ (l : List Us) : List (List Cell) := l.map usC
theorem eU_len (l : List Un) : (eU l).length = l.length := List.length_map _
theorem eQ_len (l : List Us) : (eQ l).length = l.length := List.length_map _
structure Dm where
  r : Rs
  us : List Un
  gs : List Gt
  gr : Int
def dmC (d : Dm) : List Cell := [.lst (eP d.r.st), IC d.r.dead, IC d.r.low, IC d.r.full, IC d.r.sur, IC d.r.crest, .lst (eU d.us), .lst (eG d.gs), IC d.gr]
structure Dt where
  vol : Int
  rel : Int
  us : List Us
  gs : List Gs
def dtC (s : Dt) : List Cell := [IC s.vol, IC s.rel, .lst (eQ s.us), .lst (eS s.gs)]
structure Dm.fin (d : Dm) : Prop where
  r : d.r.st.length ≤ 9223372036854775807
  u : d.us.length ≤ 9223372036854775807
  g : d.gs.length ≤ 9223372036854775807
  fu : ∀ u ∈ d.us, u.fin
  fg : ∀ g ∈ d.gs, g.fin
structure Dt.fin (s : Dt) : Prop where
  u : s.us.length ≤ 9223372036854775807
  g : s.gs.length ≤ 9223372036854775807
def unE : List Un → Int
  | [] => 0
  | u :: l => if ckU u ≠ 0 then ckU u else unE l
def gtE : List Gt → Int
  | [] => 0
  | g :: l => if ckG g ≠ 0 then ckG g else gtE l
def ckD (d : Dm) : Int := if ckS d.r ≠ 0 then ckS d.r else if 6 < d.us.length ∨ 8 < d.gs.length then 10 else if unE d.us ≠ 0 then unE d.us else if gtE d.gs ≠ 0 then gtE d.gs else if d.gr < 1 ∨ 1073741824 < d.gr then 1 else 0
def usB : List Un → List Us → Bool
  | u :: us, s :: ss => validB u s && usB us ss
  | _, _ => true
def gsB : List Gt → List Gs → Bool
  | g :: gs, s :: ss => okS g s && gsB gs ss
  | _, _ => true
def fitD (d : Dm) (s : Dt) : Bool := inB 0 (valC d.r.st d.r.crest) s.vol && inB 0 1073741824 s.rel && decide (s.us.length = d.us.length) && decide (s.gs.length = d.gs.length) && usB d.us s.us && gsB d.gs s.gs
def validD (d : Dm) (s : Dt) : Bool := decide (ckD d = 0) && fitD d s
def wrongD (d : Dm) (s : Dt) : Int := if ckD d ≠ 0 then ckD d else if validD d s = false then 3 else 0
def levD (d : Dm) (s : Dt) : Int × Int := if wrongD d s ≠ 0 then (0, wrongD d s) else levS d.r s.vol
theorem unE_ok : ∀ {l : List Un}, unE l = 0 → ∀ u ∈ l, ckU u = 0
  | [], _, u, h => by simp at h
  | a :: l, h, u, hu => by
    rw [unE] at h
    split at h
    · rename_i e; exact absurd h e
    rename_i e
    rcases List.mem_cons.1 hu with rfl | hu
    · omega
    · exact unE_ok h u hu
theorem gtE_ok : ∀ {l : List Gt}, gtE l = 0 → ∀ g ∈ l, ckG g = 0
  | [], _, u, h => by simp at h
  | a :: l, h, u, hu => by
    rw [gtE] at h
    split at h
    · rename_i e; exact absurd h e
    rename_i e
    rcases List.mem_cons.1 hu with rfl | hu
    · omega
    · exact gtE_ok h u hu
theorem unE_of : ∀ {l : List Un}, (∀ u ∈ l, ckU u = 0) → unE l = 0
  | [], _ => rfl
  | a :: l, h => by rw [unE, if_neg (by simp [h a (by simp)])]; exact unE_of fun u hu => h u (by simp [hu])
theorem gtE_of : ∀ {l : List Gt}, (∀ g ∈ l, ckG g = 0) → gtE l = 0
  | [], _ => rfl
  | a :: l, h => by rw [gtE, if_neg (by simp [h a (by simp)])]; exact gtE_of fun u hu => h u (by simp [hu])
structure DOk (d : Dm) : Prop where
  s : ckS d.r = 0
  n : d.us.length ≤ 6
  m : d.gs.length ≤ 8
  u : ∀ u ∈ d.us, ckU u = 0
  g : ∀ g ∈ d.gs, ckG g = 0
  gr : 1 ≤ d.gr ∧ d.gr ≤ 1073741824
theorem ckD_ok {d : Dm} (h : ckD d = 0) : DOk d := by
  unfold ckD at h
  split at h
  · rename_i e; exact absurd h e
  split at h
  · omega
  split at h
  · rename_i e; exact absurd h e
  split at h
  · rename_i e; exact absurd h e
  split at h
  · omega
  exact ⟨by omega, by omega, by omega, unE_ok (by omega), gtE_ok (by omega), by omega⟩
theorem ckD_of {d : Dm} (h : DOk d) : ckD d = 0 := by
  have a := h.n
  have b := h.m
  have c := h.gr
  unfold ckD
  rw [if_neg (by simp [h.s]), if_neg (by omega), if_neg (by simp [unE_of h.u]), if_neg (by simp [gtE_of h.g]), if_neg (by omega)]
theorem crest_in {r : Rs} (h : ckS r = 0) : 0 ≤ r.crest ∧ r.crest ≤ 16777216 := by
  have a := srt_lv h
  have b := dead_in h
  obtain ⟨_, _, h3, _, _⟩ := ckS_ok h
  omega
/-! What the functions are given. -/
def R_dmI (f : Dm → Int) : RT := fun args k => ∃ d : Dm, args = [.agg (dmC d)] ∧ d.fin ∧ k (I (f d))
def R_dsB (f : Dm → Dt → Bool) : RT := fun args k => ∃ (d : Dm) (s : Dt), args = [.agg (dmC d), .agg (dtC s)] ∧ d.fin ∧ s.fin ∧ k (Bo (f d s))
def R_dsI (f : Dm → Dt → Int) : RT := fun args k => ∃ (d : Dm) (s : Dt), args = [.agg (dmC d), .agg (dtC s)] ∧ d.fin ∧ s.fin ∧ k (I (f d s))
def R_dfit : RT := fun args k => ∃ (d : Dm) (s : Dt), args = [.agg (dmC d), .agg (dtC s)] ∧ ckD d = 0 ∧ d.fin ∧ s.fin ∧ k (Bo (fitD d s))
def R_crst : RT := fun args k => ∃ d : Dm, args = [.agg (dmC d)] ∧ ckD d = 0 ∧ k (I (valC d.r.st d.r.crest))
def R_levD : RT := fun args k => ∃ (d : Dm) (s : Dt), args = [.agg (dmC d), .agg (dtC s)] ∧ d.fin ∧ s.fin ∧ k (.tup [I (levD d s).1, I (levD d s).2])
end Go.Proofs

/- Flows of units: what the reference's functions answer. No program. -/
namespace Go.Proofs
open Go Go.Abs
set_option linter.unusedSimpArgs false
set_option linter.unusedVariables false
def w19 (us : List Un) (ss : List Us) (g : Int) : Int := if 6 < us.length then 10 else if us.length ≠ ss.length then 3 else if usB us ss = false then 3 else if g < 1 ∨ 1073741824 < g then 1 else 0
def R_w19 : RT := fun args k => ∃ (us : List Un) (ss : List Us) (g : Int), args = [.c (.lst (eU us)), .c (.lst (eQ ss)), I g] ∧ us.length ≤ 9223372036854775807 ∧ ss.length ≤ 9223372036854775807 ∧ (∀ u ∈ us, u.fin) ∧ k (I (w19 us ss g))
def optL (u : Un) (z : Us) (g : Int) : Ls := (0 :: z.fl :: (flS u g).1).filter (mayV u z)
def optF (u : Un) (z : Us) (g : Int) : Ls × Int := if (flS u g).2 ≠ 0 then ([], (flS u g).2) else (optL u z g, 0)
def R_opt : RT := fun args k => ∃ (u : Un) (z : Us) (g : Int), args = [.agg (unC u), .agg (usC z), I g] ∧ u.fin ∧ k (.tup [.c (.lst (eL (optF u z g).1)), I (optF u z g).2])
def lwC (l : Ls) : List Cell := [.lst (eL l)]
abbrev eLw (l : List Ls) : List (List Cell) := l.map lwC
theorem eLw_len (l : List Ls) : (eLw l).length = l.length := List.length_map _
def allG : List Un → List Us → Int → Option (List Ls)
  | u :: us, z :: ss, g => if (flS u g).2 ≠ 0 then none else match allG us ss g with
    | none => none
    | some l => some (optL u z g :: l)
  | _, _, _ => some []
def allF (us : List Un) (ss : List Us) (g : Int) : List Ls × Int := match allG us ss g with
  | none => ([], 10)
  | some l => (l, 0)
def R_all : RT := fun args k => ∃ (us : List Un) (ss : List Us) (g : Int), args = [.c (.lst (eU us)), .c (.lst (eQ ss)), I g] ∧ us.length ≤ 6 ∧ us.length = ss.length ∧ (∀ u ∈ us, u.fin) ∧ k (.tup [.c (.lst (eLw (allF us ss g).1)), I (allF us ss g).2])
def R_bef : RT := fun args k => ∃ a b : Ls, args = [.c (.lst (eL a)), .c (.lst (eL b))] ∧ a.length ≤ 1000 ∧ b.length ≤ 1000 ∧ ∀ c : Bool, k (Bo c)
def R_bet : RT := fun args k => ∃ (x1 x2 y1 y2 : Int) (a b : Ls), args = [.agg [IC x1, IC x2], .agg [IC y1, IC y2], .c (.lst (eL a)), .c (.lst (eL b))] ∧ a.length ≤ 1000 ∧ b.length ≤ 1000 ∧ ∀ c : Bool, k (Bo c)
/-- Flows that all units may have. -/
def mayL : List Un → List Us → Ls → Bool
  | u :: us, z :: ss, q :: qs => mayV u z q && mayL us ss qs
  | [], [], [] => true
  | _, _, _ => false
def R_val19 : RT := fun args k => ∃ (us : List Un) (ss : List Us) (qs : Ls), args = [.c (.lst (eU us)), .c (.lst (eQ ss)), .c (.lst (eL qs))] ∧ us.length ≤ 6 ∧ mayL us ss qs = true ∧ (∀ u ∈ us, u.fin) ∧ ∀ p c : Int, k (.tup [I qs.sum, I p, I c, Bo true])
theorem mayL_len : ∀ {us : List Un} {ss : List Us} {qs : Ls}, mayL us ss qs = true → us.length = qs.length ∧ ss.length = qs.length
  | [], [], [], _ => ⟨rfl, rfl⟩
  | u :: us, z :: ss, q :: qs, h => by
    simp only [mayL, Bool.and_eq_true] at h
    obtain ⟨h1, h2⟩ := mayL_len h.2
    simp [h1, h2]
  | [], [], _ :: _, h => by simp [mayL] at h
  | [], _ :: _, _, h => by simp [mayL] at h
  | _ :: _, [], _, h => by simp [mayL] at h
  | _ :: _, _ :: _, [], h => by simp [mayL] at h
theorem mayL_at : ∀ {us : List Un} {ss : List Us} {qs : Ls}, mayL us ss qs = true → ∀ {i : Nat} {u : Un} {z : Us} {q : Int}, us[i]? = some u → ss[i]? = some z → qs[i]? = some q → mayV u z q = true
  | u :: us, z :: ss, q :: qs, h, 0, u', z', q', h1, h2, h3 => by
    simp only [mayL, Bool.and_eq_true] at h
    simp at h1 h2 h3
    subst h1 h2 h3
    exact h.1
  | u :: us, z :: ss, q :: qs, h, i + 1, u', z', q', h1, h2, h3 => by
    simp only [mayL, Bool.and_eq_true] at h
    exact mayL_at h.2 (by simpa using h1) (by simpa using h2) (by simpa using h3)
  | [], _, _, _, i, _, _, _, h1, _, _ => by simp at h1
  | _ :: _, [], _, _, i, _, _, _, _, h2, _ => by simp at h2
  | _ :: _, _ :: _, [], _, i, _, _, _, _, _, h3 => by simp at h3
theorem mayL_of : ∀ {us : List Un} {ss : List Us} {qs : Ls}, us.length = qs.length → ss.length = qs.length → (∀ (i : Nat) u z q, us[i]? = some u → ss[i]? = some z → qs[i]? = some q → mayV u z q = true) → mayL us ss qs = true
  | [], [], [], _, _, _ => rfl
  | u :: us, z :: ss, q :: qs, h1, h2, h => by
    simp only [mayL, Bool.and_eq_true]
    exact ⟨h 0 u z q rfl rfl rfl, mayL_of (by simpa using h1) (by simpa using h2) fun i a b c ha hb hc => h (i + 1) a b c (by simpa using ha) (by simpa using hb) (by simpa using hc)⟩
  | [], [], _ :: _, h1, _, _ => by simp at h1
  | [], _ :: _, [], _, h2, _ => by simp at h2
  | [], _ :: _, _ :: _, h1, _, _ => by simp at h1
  | _ :: _, [], [], h1, _, _ => by simp at h1
  | _ :: _, [], _ :: _, _, h2, _ => by simp at h2
  | _ :: _, _ :: _, [], h1, _, _ => by simp at h1
theorem mayV_in {u : Un} {z : Us} {q : Int} (h : mayV u z q = true) : validB u z = true ∧ mayB u z q = true := by
  simpa [mayV] using h
theorem mayV_q {u : Un} {z : Us} {q : Int} (h : mayV u z q = true) : 0 ≤ q ∧ q ≤ 1073741824 := by
  obtain ⟨h1, h2⟩ := mayV_in h
  have hok := ckU_ok (by simp [validB] at h1; exact h1.1)
  unfold mayB at h2
  split at h2
  · omega
  · split at h2
    · cases h2
    · simp [runB] at h2
      have := hok.l1
      have := hok.m
      omega
/-- There is a flow that a unit may have. -/
theorem optL_pos {u : Un} {z : Us} {g : Int} (h : validB u z = true) : 1 ≤ (optL u z g).length := by
  have hv := h
  simp [validB, fitB] at h
  obtain ⟨h1, h2, h3⟩ := h
  have key : ∃ q, (q = 0 ∨ q = z.fl) ∧ mayV u z q = true := by
    rcases h3 with h3 | ⟨h3, h4⟩
    · exact ⟨0, .inl rfl, by simp [mayV, hv, mayB, h3]⟩
    · have hlo := (ckU_ok h1).l1
      have h4' := h4
      simp [runB] at h4'
      refine ⟨z.fl, .inr rfl, ?_⟩
      simp only [mayV, hv, Bool.true_and, mayB]
      rw [if_neg (by omega), if_neg (by simp [h3]; omega)]
      exact h4
  obtain ⟨q, hq, hm⟩ := key
  have : q ∈ optL u z g := List.mem_filter.2 ⟨by rcases hq with rfl | rfl <;> simp, hm⟩
  exact List.length_pos_of_mem this
end Go.Proofs
