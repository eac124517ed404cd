/- How the reference sets gates: opening by opening. No program. -/
import Derived.Test.YtgehodhbcckcoaaPGate2
namespace Go.Proofs
open Go Go.Abs
set_option linter.unusedSimpArgs false
set_option linter.unusedVariables false
theorem losL_cons (g : Gt) (gs : List Gt) (z : Gs) (zs : List Gs) : losL (g :: gs) (z :: zs) = (rch g z).1 :: losL gs zs := rfl
theorem opsL_cons (w lv s : Int) (g : Gt) (gs : List Gt) (z : Gs) (zs : List Gs) : opsL (setL w lv s (g :: gs) (z :: zs)).1 = opO (atG g lv) w s (rch g z).1 (rch g z).2 :: opsL (setL w lv (sNx w lv s g z) gs zs).1 := rfl
theorem tot_mix {w lv : Int} : ∀ {gs : List Gt} {ss : List Gs} {s : Int} {i : Nat}, gs.length = ss.length → i ≤ gs.length →
    totL gs ((opsL (setL w lv s gs ss).1).take i ++ (losL gs ss).drop i) lv = sAt w lv s gs ss i + (totL gs (losL gs ss) lv - s)
  | gs, ss, s, 0, _, _ => by rw [List.take_zero, List.nil_append, List.drop_zero, sAt_0]; omega
  | [], _, _, _ + 1, _, h => by simp at h
  | _ :: _, [], _, _ + 1, h, _ => by simp at h
  | g :: gs, z :: zs, s, i + 1, hl, hi => by
    have ih := tot_mix (w := w) (lv := lv) (gs := gs) (ss := zs) (s := sNx w lv s g z) (i := i) (by simpa using hl) (by simpa using hi)
    rw [opsL_cons, losL_cons, List.take_succ_cons, List.drop_succ_cons, List.cons_append]
    have e1 : ∀ (o : Int) (os : Ls), totL (g :: gs) (o :: os) lv = gfl (atG g lv) o + totL gs os lv := fun _ _ => rfl
    rw [e1, e1, ih, show sAt w lv s (g :: gs) (z :: zs) (i + 1) = sAt w lv (sNx w lv s g z) gs zs i from rfl]
    unfold sNx
    omega
theorem set_enough {w lv : Int} : ∀ {gs : List Gt} {ss : List Gs} {s : Int}, gs.length = ss.length → w ≤ s → opsL (setL w lv s gs ss).1 = losL gs ss
  | [], [], _, _, _ => rfl
  | [], _ :: _, _, h, _ => by simp at h
  | _ :: _, [], _, h, _ => by simp at h
  | g :: gs, z :: zs, s, hl, h => by
    have e : opO (atG g lv) w s (rch g z).1 (rch g z).2 = (rch g z).1 := by rw [opO, if_neg (by omega)]
    rw [opsL_cons, losL_cons, nx_same e, e, set_enough (by simpa using hl) h]
theorem drop_enough {w lv : Int} : ∀ {gs : List Gt} {ss : List Gs} {s : Int} {i : Nat}, gs.length = ss.length → i ≤ gs.length → w ≤ sAt w lv s gs ss i → (opsL (setL w lv s gs ss).1).drop i = (losL gs ss).drop i
  | gs, ss, s, 0, hl, _, h => by rw [List.drop_zero, List.drop_zero]; rw [sAt_0] at h; exact set_enough hl h
  | [], _, _, _ + 1, _, h, _ => by simp at h
  | _ :: _, [], _, _ + 1, h, _, _ => by simp at h
  | g :: gs, z :: zs, s, i + 1, hl, hi, h => by
    rw [opsL_cons, losL_cons, List.drop_succ_cons, List.drop_succ_cons]
    exact drop_enough (by simpa using hl) (by simpa using hi) h
theorem set_mid {l m : Ls} {i : Nat} {v : Int} (h1 : i ≤ l.length) (h2 : i < m.length) : (l.take i ++ m.drop i).set i v = l.take i ++ v :: m.drop (i + 1) := by
  rw [List.set_append, if_neg (by rw [List.length_take]; omega), List.length_take, show i - min i l.length = 0 by omega, List.drop_eq_getElem_cons h2, List.set_cons_zero]
/-- The openings while gate i stands at v. -/
def mixL (w lv T : Int) (gs : List Gt) (ss : List Gs) (i : Nat) (v : Int) : Ls := ((opsL (setL w lv T gs ss).1).take i ++ (losL gs ss).drop i).set i v
structure mixI (w lv T : Int) (gs : List Gt) (ss : List Gs) (i : Nat) (v : Int) : Prop where
  n : i ≤ gs.length
  v : ∀ g z, gs[i]? = some g → ss[i]? = some z → (rch g z).1 ≤ v ∧ v ≤ opO (atG g lv) w (sAt w lv T gs ss i) (rch g z).1 (rch g z).2
section
variable {w lv : Int} {gs : List Gt} {ss : List Gs} (hl : gs.length = ss.length) (hA : ∀ g ∈ gs, ckG g = 0) (hb : badS gs ss = false)
include hl hA hb
theorem mix_len {i : Nat} {v : Int} (hi : i ≤ gs.length) : (mixL w lv (totL gs (losL gs ss) lv) gs ss i v).length = gs.length := by
  have h1 := (setF (w := w) (lv := lv) (s := totL gs (losL gs ss) lv) hl hA hb).len
  have h2 := (losL_len hl).1
  have h3 : (opsL (setL w lv (totL gs (losL gs ss) lv) gs ss).1).length = gs.length := by rw [opsL, List.length_map]; exact h1
  rw [mixL, List.length_set, List.length_append, List.length_take, List.length_drop]
  omega
theorem mix_low {i : Nat} {g : Gt} {z : Gs} (h1 : gs[i]? = some g) (h2 : ss[i]? = some z) :
    ((opsL (setL w lv (totL gs (losL gs ss) lv) gs ss).1).take i ++ (losL gs ss).drop i)[i]? = some (rch g z).1 ∧ (hisL gs ss)[i]? = some (rch g z).2 := by
  have hi := (List.getElem?_eq_some_iff.1 h1).1
  have q1 := (setF (w := w) (lv := lv) (s := totL gs (losL gs ss) lv) hl hA hb).len
  have q3 : (opsL (setL w lv (totL gs (losL gs ss) lv) gs ss).1).length = gs.length := by rw [opsL, List.length_map]; exact q1
  obtain ⟨q4, q5⟩ := losL_len hl
  obtain ⟨t1, t2⟩ := losL_take h1 h2
  constructor
  · rw [List.getElem?_append_right (by rw [List.length_take]; omega), List.getElem?_drop, List.length_take, show i + (i - min i (opsL (setL w lv (totL gs (losL gs ss) lv) gs ss).1).length) = i by omega]
    have : ((losL gs ss).take (i + 1))[i]? = (losL gs ss)[i]? := by rw [List.getElem?_take, if_pos (by omega)]
    rw [← this, t1, List.getElem?_append_right (by rw [List.length_take]; omega), List.length_take, show i - min i (losL gs ss).length = 0 by omega]
    rfl
  · have : ((hisL gs ss).take (i + 1))[i]? = (hisL gs ss)[i]? := by rw [List.getElem?_take, if_pos (by omega)]
    rw [← this, t2, List.getElem?_append_right (by rw [List.length_take]; omega), List.length_take, show i - min i (hisL gs ss).length = 0 by omega]
    rfl
theorem mix_get {i : Nat} {v : Int} {g : Gt} {z : Gs} (h1 : gs[i]? = some g) (h2 : ss[i]? = some z) : (mixL w lv (totL gs (losL gs ss) lv) gs ss i v)[i]? = some v := by
  have hi := (List.getElem?_eq_some_iff.1 (mix_low (w := w) (lv := lv) hl hA hb h1 h2).1).1
  rw [mixL, List.getElem?_set_self hi]
theorem mix_tot {i : Nat} {v : Int} {g : Gt} {z : Gs} (h1 : gs[i]? = some g) (h2 : ss[i]? = some z) :
    totL gs (mixL w lv (totL gs (losL gs ss) lv) gs ss i v) lv = sAt w lv (totL gs (losL gs ss) lv) gs ss i - gfl (atG g lv) (rch g z).1 + gfl (atG g lv) v := by
  have hi := (List.getElem?_eq_some_iff.1 h1).1
  rw [mixL, totL_set h1 (mix_low (w := w) (lv := lv) hl hA hb h1 h2).1, tot_mix hl (by omega)]
  omega
/-- The next gate. -/
theorem mix_next {i : Nat} {v : Int} {g : Gt} {z : Gs} (h : mixI w lv (totL gs (losL gs ss) lv) gs ss i v) (h1 : gs[i]? = some g) (h2 : ss[i]? = some z) (hv : v = (rch g z).2) :
    ∃ v', mixI w lv (totL gs (losL gs ss) lv) gs ss (i + 1) v' ∧ mixL w lv (totL gs (losL gs ss) lv) gs ss i v = mixL w lv (totL gs (losL gs ss) lv) gs ss (i + 1) v' := by
  have hi := (List.getElem?_eq_some_iff.1 h1).1
  have hg := hA g (List.mem_of_getElem? h1)
  have hr := rch_in hg (badS_at hb h1 h2)
  have hin := opO_in (c := atG g lv) (w := w) (s := sAt w lv (totL gs (losL gs ss) lv) gs ss i) hr.1.2
  have hv2 := h.v g z h1 h2
  have q1 := (setF (w := w) (lv := lv) (s := totL gs (losL gs ss) lv) hl hA hb).len
  have q3 : (opsL (setL w lv (totL gs (losL gs ss) lv) gs ss).1).length = gs.length := by rw [opsL, List.length_map]; exact q1
  have q4 := (losL_len hl).1
  have hF : (opsL (setL w lv (totL gs (losL gs ss) lv) gs ss).1)[i]? = some v := by
    rw [opsL, List.getElem?_map, (set_at h1 h2).1]
    show some _ = some v
    congr 1
    show opO (atG g lv) w (sAt w lv (totL gs (losL gs ss) lv) gs ss i) (rch g z).1 (rch g z).2 = v
    omega
  have e : mixL w lv (totL gs (losL gs ss) lv) gs ss i v = (opsL (setL w lv (totL gs (losL gs ss) lv) gs ss).1).take (i + 1) ++ (losL gs ss).drop (i + 1) := by
    have hlo := (mix_low (w := w) (lv := lv) hl hA hb h1 h2).1
    rw [List.take_add_one, hF, mixL, set_mid (by omega) (by omega), List.append_assoc]
    rfl
  by_cases hn : i + 1 < gs.length
  · have c1 := List.getElem?_eq_getElem hn
    have c2 := List.getElem?_eq_getElem (show i + 1 < ss.length by omega)
    have hr' := rch_in (hA _ (List.mem_of_getElem? c1)) (badS_at hb c1 c2)
    refine ⟨(rch gs[i + 1] ss[i + 1]).1, ⟨by omega, fun g' z' d1 d2 => ?_⟩, ?_⟩
    · rw [c1] at d1; rw [c2] at d2; cases d1; cases d2
      exact ⟨Int.le_refl _, (opO_in hr'.1.2).1⟩
    · have hlo := (mix_low (w := w) (lv := lv) hl hA hb c1 c2).1
      rw [e, mixL]
      exact (List.ext_getElem? fun k => by
        by_cases hk : k = i + 1
        · subst hk; rw [hlo, List.getElem?_set_self (List.getElem?_eq_some_iff.1 hlo).1]
        · rw [List.getElem?_set_ne (by omega)])
  · refine ⟨0, ⟨by omega, fun g' z' d1 _ => ?_⟩, ?_⟩
    · have := (List.getElem?_eq_some_iff.1 d1).1; omega
    · rw [e, mixL, List.set_eq_of_length_le (by rw [List.length_append, List.length_take, List.length_drop]; omega)]
/-- One more opening. -/
theorem mix_up {i : Nat} {v : Int} {g : Gt} {z : Gs} (h : mixI w lv (totL gs (losL gs ss) lv) gs ss i v) (h1 : gs[i]? = some g) (h2 : ss[i]? = some z) (hv : v < (rch g z).2)
    (hw : totL gs (mixL w lv (totL gs (losL gs ss) lv) gs ss i v) lv < w) : mixI w lv (totL gs (losL gs ss) lv) gs ss i (v + 1) := by
  have hi := (List.getElem?_eq_some_iff.1 h1).1
  have hg := hA g (List.mem_of_getElem? h1)
  have hr := rch_in hg (badS_at hb h1 h2)
  have hv2 := h.v g z h1 h2
  rw [mix_tot hl hA hb h1 h2] at hw
  have hm := gfl_mono (atG_ok hg lv) hv2.1
  refine ⟨h.n, fun g' z' d1 d2 => ?_⟩
  rw [h1] at d1; rw [h2] at d2; cases d1; cases d2
  obtain ⟨_, _, c⟩ := opO_is (c := atG g lv) (w := w) (s := sAt w lv (totL gs (losL gs ss) lv) gs ss i) hr.1.2 (by omega)
  refine ⟨by omega, ?_⟩
  rcases c with c | c
  · omega
  · by_cases e : v = opO (atG g lv) w (sAt w lv (totL gs (losL gs ss) lv) gs ss i) (rch g z).1 (rch g z).2
    · rw [← e] at c; omega
    · omega
theorem mix_start : ∃ v, mixI w lv (totL gs (losL gs ss) lv) gs ss 0 v ∧ losL gs ss = mixL w lv (totL gs (losL gs ss) lv) gs ss 0 v := by
  by_cases hn : 0 < gs.length
  · have c1 := List.getElem?_eq_getElem hn
    have c2 := List.getElem?_eq_getElem (show 0 < ss.length by omega)
    have hr := rch_in (hA _ (List.mem_of_getElem? c1)) (badS_at hb c1 c2)
    have hlo := (mix_low (w := w) (lv := lv) hl hA hb c1 c2).1
    rw [List.take_zero, List.nil_append, List.drop_zero] at hlo
    refine ⟨(rch gs[0] ss[0]).1, ⟨Nat.zero_le _, fun g' z' d1 d2 => ?_⟩, ?_⟩
    · rw [c1] at d1; rw [c2] at d2; cases d1; cases d2
      exact ⟨Int.le_refl _, (opO_in hr.1.2).1⟩
    · rw [mixL, List.take_zero, List.nil_append, List.drop_zero]
      exact List.ext_getElem? fun k => by
        by_cases hk : k = 0
        · subst hk; rw [hlo, List.getElem?_set_self (List.getElem?_eq_some_iff.1 hlo).1]
        · rw [List.getElem?_set_ne (by omega)]
  · refine ⟨0, ⟨Nat.zero_le _, fun g' z' d1 _ => ?_⟩, ?_⟩
    · have := (List.getElem?_eq_some_iff.1 d1).1; omega
    · rw [mixL, List.set_eq_of_length_le (by rw [List.length_append, List.length_take, List.length_drop, (losL_len hl).1]; omega), List.take_zero, List.nil_append, List.drop_zero]
/-- The end. -/
theorem mix_end {i : Nat} {v : Int} (h : mixI w lv (totL gs (losL gs ss) lv) gs ss i v) (he : i = gs.length ∨ w ≤ totL gs (mixL w lv (totL gs (losL gs ss) lv) gs ss i v) lv) :
    mixL w lv (totL gs (losL gs ss) lv) gs ss i v = opsL (setL w lv (totL gs (losL gs ss) lv) gs ss).1 := by
  have q1 := (setF (w := w) (lv := lv) (s := totL gs (losL gs ss) lv) hl hA hb).len
  have q3 : (opsL (setL w lv (totL gs (losL gs ss) lv) gs ss).1).length = gs.length := by rw [opsL, List.length_map]; exact q1
  have q4 := (losL_len hl).1
  by_cases hn : i = gs.length
  · subst hn
    rw [mixL, List.set_eq_of_length_le (by rw [List.length_append, List.length_take, List.length_drop]; omega), List.take_of_length_le (by omega), List.drop_eq_nil_of_le (by omega), List.append_nil]
  have hi : i < gs.length := by have := h.n; omega
  have he := he.resolve_left hn
  have c1 := List.getElem?_eq_getElem hi
  have c2 := List.getElem?_eq_getElem (show i < ss.length by omega)
  generalize gs[i] = g at c1
  generalize ss[i] = z at c2
  have hg := hA g (List.mem_of_getElem? c1)
  have hr := rch_in hg (badS_at hb c1 c2)
  have hv2 := h.v g z c1 c2
  rw [mix_tot hl hA hb c1 c2] at he
  have hF := set_at (w := w) (lv := lv) (s := totL gs (losL gs ss) lv) c1 c2
  have hin := opO_in (c := atG g lv) (w := w) (s := sAt w lv (totL gs (losL gs ss) lv) gs ss i) hr.1.2
  have hvF : v = opO (atG g lv) w (sAt w lv (totL gs (losL gs ss) lv) gs ss i) (rch g z).1 (rch g z).2 := by
    by_cases hs : sAt w lv (totL gs (losL gs ss) lv) gs ss i < w
    · obtain ⟨_, b, _⟩ := opO_is (c := atG g lv) hr.1.2 hs
      have := b v hv2.1
      omega
    · have : opO (atG g lv) w (sAt w lv (totL gs (losL gs ss) lv) gs ss i) (rch g z).1 (rch g z).2 = (rch g z).1 := by rw [opO, if_neg hs]
      omega
  have hs2 : w ≤ sAt w lv (totL gs (losL gs ss) lv) gs ss (i + 1) := by
    rw [hF.2]; unfold sNx; rw [← hvF]; exact he
  have hd := drop_enough hl (show i + 1 ≤ gs.length by omega) hs2
  have hFi : (opsL (setL w lv (totL gs (losL gs ss) lv) gs ss).1)[i]? = some v := by
    rw [opsL, List.getElem?_map, hF.1, hvF]; rfl
  rw [mixL, set_mid (by omega) (by omega), ← hd]
  have : (opsL (setL w lv (totL gs (losL gs ss) lv) gs ss).1).take (i + 1) = (opsL (setL w lv (totL gs (losL gs ss) lv) gs ss).1).take i ++ [v] := by rw [List.take_add_one, hFi]; rfl
  rw [← List.singleton_append, ← List.append_assoc, ← this, List.take_append_drop]
end
theorem set_zip {w lv : Int} {gs : List Gt} {ss : List Gs} {i : Nat} {g : Gt} {z : Gs} {T : Int} (h1 : gs[i]? = some g) (h2 : ss[i]? = some z) : ∃ o, (opsL (setL w lv T gs ss).1)[i]? = some o ∧ (setL w lv T gs ss).1.take (i + 1) = (setL w lv T gs ss).1.take i ++ [⟨o, z.jm⟩] := by
  have hF := (set_at (w := w) (lv := lv) (s := T) h1 h2).1
  exact ⟨_, by rw [opsL, List.getElem?_map, hF]; rfl, by rw [List.take_add_one, hF]; rfl⟩
theorem mix_set {w lv : Int} {gs : List Gt} {ss : List Gs} {i : Nat} {v v' : Int} : (mixL w lv (totL gs (losL gs ss) lv) gs ss i v).set i v' = mixL w lv (totL gs (losL gs ss) lv) gs ss i v' := by
  rw [mixL, mixL, List.set_set]
def muG (gs : List Gt) (ss : List Gs) (i : Nat) (v : Int) : Nat := (gs.length - i) * 2000 + (if i < gs.length then ((hisL gs ss).getD i 0 - v).toNat else 0)
theorem mu_next {w lv : Int} {gs : List Gt} {ss : List Gs} {i : Nat} {v v' : Int} (hl : gs.length = ss.length) (hA : ∀ g ∈ gs, ckG g = 0) (hb : badS gs ss = false) (h : mixI w lv (totL gs (losL gs ss) lv) gs ss (i + 1) v') (hi : i < gs.length) : muG gs ss (i + 1) v' < muG gs ss i v := by
  have key : (if i + 1 < gs.length then ((hisL gs ss).getD (i + 1) 0 - v').toNat else 0) ≤ 1000 := by
    split
    · rename_i hn
      have c1 := List.getElem?_eq_getElem hn
      have c2 := List.getElem?_eq_getElem (show i + 1 < ss.length by omega)
      have hr := rch_in (hA _ (List.mem_of_getElem? c1)) (badS_at hb c1 c2)
      have hv := (h.v _ _ c1 c2).1
      have hh := (mix_low (w := w) (lv := lv) hl hA hb c1 c2).2
      rw [List.getD_eq_getElem?_getD, hh]
      show ((rch gs[i + 1] ss[i + 1]).2 - v').toNat ≤ 1000
      omega
    · omega
  unfold muG
  omega
theorem mu_up {gs : List Gt} {ss : List Gs} {i : Nat} {v v' hi : Int} (hi' : i < gs.length) (hh : (hisL gs ss)[i]? = some hi) (h1 : v < v') (h2 : v' ≤ hi) : muG gs ss i v' < muG gs ss i v := by
  unfold muG
  rw [if_pos hi', if_pos hi', List.getD_eq_getElem?_getD, hh]
  show _ + (hi - v').toNat < _ + (hi - v).toNat
  omega
theorem triI2 (a b c d e f : Int) {i : Nat} (h : i < 3) : ∃ x y : Int, ([[IC a, IC b], [IC c, IC d], [IC e, IC f]] : List (List Cell))[0 + (i : Int).toNat]? = some [IC x, IC y] := by
  obtain rfl | rfl | rfl : i = 0 ∨ i = 1 ∨ i = 2 := by omega
  · exact ⟨a, b, rfl⟩
  · exact ⟨c, d, rfl⟩
  · exact ⟨e, f, rfl⟩
theorem setL_le {w lv : Int} : ∀ {gs : List Gt} {ss : List Gs} {s : Int}, (setL w lv s gs ss).1.length ≤ gs.length
  | [], ss, s => by rw [setL_nil]; simp
  | _ :: _, [], _ => by simp [setL]
  | g :: gs, z :: zs, s => by
    have := setL_le (w := w) (lv := lv) (gs := gs) (ss := zs) (s := sNx w lv s g z)
    rw [setL_cons]
    simp only [List.length_cons]
    omega
theorem setS_le {gs : List Gt} {ss : List Gs} {lv w : Int} : (setS gs ss lv w).1.length ≤ gs.length := by
  unfold setS
  split
  · simp
  · split
    · simp
    · exact setL_le
end Go.Proofs
