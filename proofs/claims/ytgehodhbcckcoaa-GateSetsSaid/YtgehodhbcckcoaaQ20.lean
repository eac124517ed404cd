/- Proved here: what functions of the given program come to, for the statements of this chapter; no condition but those in the theorems. -/
import Derived.Test.YtgehodhbcckcoaaO20
import Derived.Test.YtgehodhbcckcoaaPGate3
namespace Go.Proofs
open Go Go.Abs
set_option linter.unusedSimpArgs false
set_option linter.unusedVariables false
set_option maxRecDepth 4000
set_option maxHeartbeats 4000000 in
theorem rset_ok : FunR Try.prog 15 R_setS := by
  intro args k h
  obtain ⟨gs, ss, lv, w, rfl, hf, hk⟩ := h
  have hm := eG_len gs
  have hn := eS_len ss
  refine does_ex (qc := qc1) (np := []) (CK := ckK [(36, cSc R_askG), (37, cSc R_within), (38, cA (R_ends 3)), (39, cSc R_rtot)]) mixed Try.func15 rfl rfl Try.ntmps15 Try.results15 τ_ok (by kernel_rfl) (ckK_ok ⟨cSc_ok wrong_ok, cSc_ok rIn_ok, cA_ok ends_ok rfl, cSc_ok rtotal_ok, trivial⟩) (by simp) ?_
  conv => whnf
  refine ⟨gs, ss, lv, rfl, hf, ?_⟩
  conv => whnf
  refine Fork.mk (fun h => ?_) (fun h => ?_)
  · have h1 : askG gs ss lv ≠ 0 := by simpa using h
    conv => whnf
    exact kS hk (by rw [setS, if_pos h1])
  have h1 : askG gs ss lv = 0 := by simpa using h
  have hA := askG_ok h1
  have hAn := hA.n
  have hAl := hA.l
  have hAv := hA.lv
  have hAg := hA.g
  clear h
  conv => whnf
  refine Fork.mk (fun h => ?_) (fun h => ?_)
  · conv => whnf
    exact kS hk (by rw [setS, if_neg (by simp [h1]), if_pos (by simp [inB] at h ⊢; omega)])
  have hw : 0 ≤ w ∧ w ≤ 1073741824 := by simp at h; omega
  have e1 : setS gs ss lv w = ((setL w lv (totL gs (losL gs ss) lv) gs ss).1, (setL w lv (totL gs (losL gs ss) lv) gs ss).2, 0) := by
    rw [setS, if_neg (by simp [h1]), if_neg (by simp [inB, hw])]
  clear h
  have hAb := hA.s
  have F := setF (w := w) (lv := lv) (s := totL gs (losL gs ss) lv) hAl hAg hAb
  have ftot : totL gs (opsL (setL w lv (totL gs (losL gs ss) lv) gs ss).1) lv = (setL w lv (totL gs (losL gs ss) lv) gs ss).2 := by rw [F.tot]; omega
  have flen := F.len
  clear F
  obtain ⟨hl1, hl2⟩ := losL_len hAl
  have hq1 := eL_len (losL gs ss)
  have hq2 := eL_len (hisL gs ss)
  have hq3 := eS_len (setL w lv (totL gs (losL gs ss) lv) gs ss).1
  have hq4 : (opsL (setL w lv (totL gs (losL gs ss) lv) gs ss).1).length = (setL w lv (totL gs (losL gs ss) lv) gs ss).1.length := List.length_map _
  have hq5 := eL_len (opsL (setL w lv (totL gs (losL gs ss) lv) gs ss).1)
  obtain ⟨v0, hv0, hv1⟩ := mix_start (w := w) (lv := lv) hAl hAg hAb
  have hml := fun i v h => mix_len (w := w) (lv := lv) hAl hAg hAb (i := i) (v := v) h
  conv => whnf
  refine ⟨gs, ss, rfl, ⟨hAn, hAl, hAb⟩, hAg, ?_⟩
  conv => whnf
  refine ⟨Nat × Int, (fun s : Nat × Int => ([(0, .c (.lst (eG gs))), (1, .c (.lst (eS ss))), (2, I lv), (3, I w), (12, .c (.view (.l 31 0) 0 (losL gs ss).length)), (13, .c (.lst (eL (hisL gs ss)))), (14, I s.1)], ⟨[(.l 31 0, .arr 3 1 (eL (mixL w lv (totL gs (losL gs ss) lv) gs ss s.1 s.2)) false)], 50, []⟩)), fun s => mixI w lv (totL gs (losL gs ss) lv) gs ss s.1 s.2, fun s => muG gs ss s.1 s.2, (0, v0), hv0,
    Shift.rename [] ⟨rfl, rfl, rfl, rfl, rfl, rfl, rfl, trivial⟩ ⟨by (show some (MObj.arr 3 1 (eL (losL gs ss)) false) = some (MObj.arr 3 1 (eL (mixL w lv (totL gs (losL gs ss) lv) gs ss 0 v0)) false)); rw [← hv1], trivial⟩ rfl rfl rfl, fun s hs => ?_⟩
  obtain ⟨i, v⟩ := s
  dsimp only at hs ⊢
  have hlen := hml i v hs.n
  have hle := eL_len (mixL w lv (totL gs (losL gs ss) lv) gs ss i v)
  have htl : List.take (losL gs ss).length (List.drop 0 (eL (mixL w lv (totL gs (losL gs ss) lv) gs ss i v))) = eL (mixL w lv (totL gs (losL gs ss) lv) gs ss i v) := by rw [List.drop_zero, List.take_of_length_le (by omega)]
  conv => whnf
  refine Fork.mk (fun h => ?_) (fun h => ?_)
  rotate_left
  · have hie : i = gs.length := by simp at h; have := hs.n; omega
    have hL := mix_end hAl hAg hAb hs (.inl hie)
    conv => whnf
    refine fork_f ?_
    rw [hL]
    conv => whnf
    refine ⟨Nat, fun i => ([(0, .c (.lst (eG gs))), (2, I lv), (12, .c (.view (.l 31 0) 0 (losL gs ss).length)), (15, .c (.view (.l 96 50) 0 ((setL w lv (totL gs (losL gs ss) lv) gs ss).1.take i).length)), (80, .c (.lst (eS ss))), (81, I (eS ss).length), (82, I i)], ⟨[(.l 31 0, .arr 3 1 (eL (opsL (setL w lv (totL gs (losL gs ss) lv) gs ss).1)) false), (.l 96 50, .arr 35 2 (eS ((setL w lv (totL gs (losL gs ss) lv) gs ss).1.take i)) false)], 51, []⟩),
      fun i => i ≤ ss.length, fun i => ss.length - i, 0, Nat.zero_le _, Shift.trans (Shift.rename [] ⟨rfl, rfl, rfl, rfl, rfl, rfl, rfl, trivial⟩ ⟨rfl, rfl, trivial⟩ rfl rfl rfl) (Shift.nilArr (t := 15) rfl 96 35 2), fun i hi => ?_⟩
    dsimp only at hi ⊢
    conv => whnf
    refine Fork.mk (fun h => ?_) (fun h => ?_)
    · have hi : i < ss.length := by simp at h; omega
      clear h
      have hci := List.getElem?_eq_getElem (show i < gs.length by omega)
      have hdi := List.getElem?_eq_getElem hi
      generalize gs[i] = g at hci
      generalize ss[i] = z at hdi
      obtain ⟨o, ho, htk⟩ := set_zip (w := w) (lv := lv) (T := totL gs (losL gs ss) lv) hci hdi
      have hlt : ((setL w lv (totL gs (losL gs ss) lv) gs ss).1.take i).length = i := by rw [List.length_take]; omega
      have hlo : (eL (opsL (setL w lv (totL gs (losL gs ss) lv) gs ss).1))[0 + (i : Int).toNat]? = some (eI o) := by rw [Nat.zero_add, Int.toNat_natCast, List.getElem?_map, ho]; rfl
      have hw1 := wr_succ (i := i) (by omega)
      conv => whnf
      refine ⟨by omega, gsC z, by rw [Int.toNat_natCast, List.getElem?_map, hdi]; rfl, rfl, ?_⟩
      conv => whnf
      refine ⟨by omega, rfl, ?_⟩
      conv => whnf
      refine ⟨eI o, hlo, ?_⟩
      conv => whnf
      refine ⟨by simp, ?_⟩
      conv => whnf
      refine ⟨rfl, ?_⟩
      conv => whnf
      refine ⟨⟨rfl, rfl, rfl, by simp, by simp; omega⟩, ?_⟩
      conv => whnf
      rw [hw1]
      refine ⟨i + 1, hi, Shift.rename [(.l 96 50, .l 96 52)] ⟨rfl, rfl, rfl, ?_, rfl, rfl, rfl, trivial⟩ ⟨rfl, ?_, trivial⟩ rfl rfl rfl, by omega⟩
      · dsimp only; rw [htk]; simp; rfl
      · dsimp only; rw [htk, show ∀ (a : List Gs) b, eS (a ++ [b]) = eS a ++ [gsC b] from fun a b => by rw [show eS (a ++ [b]) = eS a ++ eS [b] from List.map_append]; rfl]; rfl
    have hie : i = ss.length := by simp at h; omega
    subst hie
    rw [show (setL w lv (totL gs (losL gs ss) lv) gs ss).1.take ss.length = (setL w lv (totL gs (losL gs ss) lv) gs ss).1 from List.take_of_length_le (by omega)]
    have htl : List.take (losL gs ss).length (List.drop 0 (eL (opsL (setL w lv (totL gs (losL gs ss) lv) gs ss).1))) = eL (opsL (setL w lv (totL gs (losL gs ss) lv) gs ss).1) := by rw [List.drop_zero, List.take_of_length_le (by omega)]
    have htl2 : List.take (setL w lv (totL gs (losL gs ss) lv) gs ss).1.length (List.drop 0 (eS (setL w lv (totL gs (losL gs ss) lv) gs ss).1)) = eS (setL w lv (totL gs (losL gs ss) lv) gs ss).1 := by rw [List.drop_zero, List.take_of_length_le (by omega)]
    conv => whnf
    refine ⟨by omega, ?_⟩
    conv => whnf
    refine ⟨gs, opsL (setL w lv (totL gs (losL gs ss) lv) gs ss).1, lv, by rw [htl]; rfl, by omega, hAn, hAg, ?_⟩
    rw [ftot]
    conv => whnf
    refine ⟨by omega, ?_⟩
    conv => whnf
    rw [htl2]
    exact kS hk e1
  have hi : i < gs.length := by simp at h; omega
  clear h
  have hci := List.getElem?_eq_getElem hi
  have hdi := List.getElem?_eq_getElem (show i < ss.length by omega)
  generalize gs[i] = g at hci
  generalize ss[i] = z at hdi
  have hgt := mix_get (w := w) (lv := lv) hAl hAg hAb (v := v) hci hdi
  have hhi := (mix_low (w := w) (lv := lv) hAl hAg hAb hci hdi).2
  conv => whnf
  refine ⟨by omega, ?_⟩
  conv => whnf
  refine ⟨gs, mixL w lv (totL gs (losL gs ss) lv) gs ss i v, lv, by rw [htl]; rfl, by omega, hAn, hAg, ?_⟩
  conv => whnf
  refine Fork.mk (fun h => ?_) (fun h => ?_)
  rotate_left
  · have hL := mix_end hAl hAg hAb hs (.inr (by simpa using h))
    conv => whnf
    rw [hL]
    conv => whnf
    refine ⟨Nat, fun i => ([(0, .c (.lst (eG gs))), (2, I lv), (12, .c (.view (.l 31 0) 0 (losL gs ss).length)), (15, .c (.view (.l 96 50) 0 ((setL w lv (totL gs (losL gs ss) lv) gs ss).1.take i).length)), (80, .c (.lst (eS ss))), (81, I (eS ss).length), (82, I i)], ⟨[(.l 31 0, .arr 3 1 (eL (opsL (setL w lv (totL gs (losL gs ss) lv) gs ss).1)) false), (.l 96 50, .arr 35 2 (eS ((setL w lv (totL gs (losL gs ss) lv) gs ss).1.take i)) false)], 51, []⟩),
      fun i => i ≤ ss.length, fun i => ss.length - i, 0, Nat.zero_le _, Shift.trans (Shift.rename [] ⟨rfl, rfl, rfl, rfl, rfl, rfl, rfl, trivial⟩ ⟨rfl, rfl, trivial⟩ rfl rfl rfl) (Shift.nilArr (t := 15) rfl 96 35 2), fun i hi => ?_⟩
    dsimp only at hi ⊢
    conv => whnf
    refine Fork.mk (fun h => ?_) (fun h => ?_)
    · have hi : i < ss.length := by simp at h; omega
      clear h
      have hci := List.getElem?_eq_getElem (show i < gs.length by omega)
      have hdi := List.getElem?_eq_getElem hi
      generalize gs[i] = g at hci
      generalize ss[i] = z at hdi
      obtain ⟨o, ho, htk⟩ := set_zip (w := w) (lv := lv) (T := totL gs (losL gs ss) lv) hci hdi
      have hlt : ((setL w lv (totL gs (losL gs ss) lv) gs ss).1.take i).length = i := by rw [List.length_take]; omega
      have hlo : (eL (opsL (setL w lv (totL gs (losL gs ss) lv) gs ss).1))[0 + (i : Int).toNat]? = some (eI o) := by rw [Nat.zero_add, Int.toNat_natCast, List.getElem?_map, ho]; rfl
      have hw1 := wr_succ (i := i) (by omega)
      conv => whnf
      refine ⟨by omega, gsC z, by rw [Int.toNat_natCast, List.getElem?_map, hdi]; rfl, rfl, ?_⟩
      conv => whnf
      refine ⟨by omega, rfl, ?_⟩
      conv => whnf
      refine ⟨eI o, hlo, ?_⟩
      conv => whnf
      refine ⟨by simp, ?_⟩
      conv => whnf
      refine ⟨rfl, ?_⟩
      conv => whnf
      refine ⟨⟨rfl, rfl, rfl, by simp, by simp; omega⟩, ?_⟩
      conv => whnf
      rw [hw1]
      refine ⟨i + 1, hi, Shift.rename [(.l 96 50, .l 96 52)] ⟨rfl, rfl, rfl, ?_, rfl, rfl, rfl, trivial⟩ ⟨rfl, ?_, trivial⟩ rfl rfl rfl, by omega⟩
      · dsimp only; rw [htk]; simp; rfl
      · dsimp only; rw [htk, show ∀ (a : List Gs) b, eS (a ++ [b]) = eS a ++ [gsC b] from fun a b => by rw [show eS (a ++ [b]) = eS a ++ eS [b] from List.map_append]; rfl]; rfl
    have hie : i = ss.length := by simp at h; omega
    subst hie
    rw [show (setL w lv (totL gs (losL gs ss) lv) gs ss).1.take ss.length = (setL w lv (totL gs (losL gs ss) lv) gs ss).1 from List.take_of_length_le (by omega)]
    have htl : List.take (losL gs ss).length (List.drop 0 (eL (opsL (setL w lv (totL gs (losL gs ss) lv) gs ss).1))) = eL (opsL (setL w lv (totL gs (losL gs ss) lv) gs ss).1) := by rw [List.drop_zero, List.take_of_length_le (by omega)]
    have htl2 : List.take (setL w lv (totL gs (losL gs ss) lv) gs ss).1.length (List.drop 0 (eS (setL w lv (totL gs (losL gs ss) lv) gs ss).1)) = eS (setL w lv (totL gs (losL gs ss) lv) gs ss).1 := by rw [List.drop_zero, List.take_of_length_le (by omega)]
    conv => whnf
    refine ⟨by omega, ?_⟩
    conv => whnf
    refine ⟨gs, opsL (setL w lv (totL gs (losL gs ss) lv) gs ss).1, lv, by rw [htl]; rfl, by omega, hAn, hAg, ?_⟩
    rw [ftot]
    conv => whnf
    refine ⟨by omega, ?_⟩
    conv => whnf
    rw [htl2]
    exact kS hk e1
  have hlt : totL gs (mixL w lv (totL gs (losL gs ss) lv) gs ss i v) lv < w := by simpa using h
  clear h
  have hgc : (eL (mixL w lv (totL gs (losL gs ss) lv) gs ss i v))[0 + (i : Int).toNat]? = some (eI v) := by rw [Nat.zero_add, Int.toNat_natCast, List.getElem?_map, hgt]; rfl
  have hhc : (eL (hisL gs ss))[(i : Int).toNat]? = some (eI (rch g z).2) := by rw [Int.toNat_natCast, List.getElem?_map, hhi]; rfl
  have hrc := rch_in (hAg g (List.mem_of_getElem? hci)) (badS_at hAb hci hdi)
  have hvb := hs.v g z hci hdi
  have hob := opO_in (c := atG g lv) (w := w) (s := sAt w lv (totL gs (losL gs ss) lv) gs ss i) hrc.1.2
  conv => whnf
  refine ⟨by omega, rfl, ?_⟩
  conv => whnf
  refine ⟨eI v, hgc, ?_⟩
  conv => whnf
  refine ⟨by omega, eI (rch g z).2, hhc, rfl, ?_⟩
  conv => whnf
  refine Fork.mk (fun h => ?_) (fun h => ?_)
  · obtain ⟨v', hn', he⟩ := mix_next hAl hAg hAb hs hci hdi (by simpa using h)
    have hw1 := wr_succ (i := i) (by omega)
    conv => whnf
    rw [hw1]
    exact ⟨(i + 1, v'), hn', Shift.reset ⟨rfl, rfl, rfl, rfl, rfl, rfl, rfl, trivial⟩ ⟨by (show some (MObj.arr 3 1 (eL (mixL w lv (totL gs (losL gs ss) lv) gs ss i v)) false) = some (MObj.arr 3 1 (eL (mixL w lv (totL gs (losL gs ss) lv) gs ss (i + 1) v')) false)); rw [he], trivial⟩ rfl rfl, mu_next hAl hAg hAb hn' hi⟩
  have hne : v ≠ (rch g z).2 := by simpa using h
  clear h
  conv => whnf
  refine ⟨Int, fun u => (fun s : Nat × Int => ([(0, .c (.lst (eG gs))), (1, .c (.lst (eS ss))), (2, I lv), (3, I w), (12, .c (.view (.l 31 0) 0 (losL gs ss).length)), (13, .c (.lst (eL (hisL gs ss)))), (14, I s.1)], ⟨[(.l 31 0, .arr 3 1 (eL (mixL w lv (totL gs (losL gs ss) lv) gs ss s.1 s.2)) false)], 50, []⟩)) (i, u), fun u => mixI w lv (totL gs (losL gs ss) lv) gs ss i u ∧ v ≤ u, fun u => ((rch g z).2 - u).toNat, v, ⟨hs, Int.le_refl _⟩, Shift.reset ⟨rfl, rfl, rfl, rfl, rfl, rfl, rfl, trivial⟩ ⟨rfl, trivial⟩ rfl rfl, fun u hu => ?_⟩
  obtain ⟨hu, huv⟩ := hu
  dsimp only
  have hub := hu.v g z hci hdi
  have hgu := mix_get (w := w) (lv := lv) hAl hAg hAb (v := u) hci hdi
  have hgc : (eL (mixL w lv (totL gs (losL gs ss) lv) gs ss i u))[0 + (i : Int).toNat]? = some (eI u) := by rw [Nat.zero_add, Int.toNat_natCast, List.getElem?_map, hgu]; rfl
  have hlenu := hml i u hu.n
  have hleu := eL_len (mixL w lv (totL gs (losL gs ss) lv) gs ss i u)
  have htlu : List.take (losL gs ss).length (List.drop 0 (eL (mixL w lv (totL gs (losL gs ss) lv) gs ss i u))) = eL (mixL w lv (totL gs (losL gs ss) lv) gs ss i u) := by rw [List.drop_zero, List.take_of_length_le (by omega)]
  conv => whnf
  refine ⟨by omega, rfl, ?_⟩
  conv => whnf
  refine ⟨eI u, hgc, ?_⟩
  conv => whnf
  refine ⟨by omega, eI (rch g z).2, hhc, rfl, ?_⟩
  conv => whnf
  refine Fork.mk (fun h => ?_) (fun h => ?_)
  rotate_left
  · have hge : ¬ u < (rch g z).2 := by simpa using h
    conv => whnf
    refine fork_f ?_
    conv => whnf
    exact ⟨(i, u), hu, Shift.reset ⟨rfl, rfl, rfl, rfl, rfl, rfl, rfl, trivial⟩ ⟨rfl, trivial⟩ rfl rfl, mu_up hi hhi (by omega) (by omega)⟩
  have hul : u < (rch g z).2 := by simpa using h
  clear h
  conv => whnf
  refine ⟨by omega, ?_⟩
  conv => whnf
  refine ⟨gs, mixL w lv (totL gs (losL gs ss) lv) gs ss i u, lv, by rw [htlu]; rfl, by omega, hAn, hAg, ?_⟩
  conv => whnf
  refine Fork.mk (fun h => ?_) (fun h => ?_)
  rotate_left
  · have hge : ¬ totL gs (mixL w lv (totL gs (losL gs ss) lv) gs ss i u) lv < w := by simpa using h
    have huv' : v ≠ u := fun e => by subst e; exact hge hlt
    conv => whnf
    exact ⟨(i, u), hu, Shift.reset ⟨rfl, rfl, rfl, rfl, rfl, rfl, rfl, trivial⟩ ⟨rfl, trivial⟩ rfl rfl, mu_up hi hhi (by omega) (by omega)⟩
  have htu : totL gs (mixL w lv (totL gs (losL gs ss) lv) gs ss i u) lv < w := by simpa using h
  clear h
  have hup := mix_up hAl hAg hAb hu hci hdi hul htu
  have hwu : IntKind.i64.wrap (u + 1) = u + 1 := wrap_in (by omega) (by omega)
  have hset : (eL (mixL w lv (totL gs (losL gs ss) lv) gs ss i u)).set (0 + (i : Int).toNat) (eI (u + 1)) = eL (mixL w lv (totL gs (losL gs ss) lv) gs ss i (u + 1)) := by rw [Nat.zero_add, Int.toNat_natCast, eL_set, mix_set]
  conv => whnf
  refine ⟨by omega, rfl, ?_⟩
  conv => whnf
  refine ⟨eI u, hgc, ?_⟩
  conv => whnf
  rw [hwu]
  refine ⟨by omega, rfl, ?_⟩
  conv => whnf
  refine ⟨eI u, hgc, by simp [eI], ?_⟩
  conv => whnf
  exact ⟨u + 1, ⟨hup, by omega⟩, Shift.reset ⟨rfl, rfl, rfl, rfl, rfl, rfl, rfl, trivial⟩ ⟨by (show some (MObj.arr 3 1 ((eL (mixL w lv (totL gs (losL gs ss) lv) gs ss i u)).set (0 + (i : Int).toNat) (eI (u + 1))) false) = some (MObj.arr 3 1 (eL (mixL w lv (totL gs (losL gs ss) lv) gs ss i (u + 1))) false)); rw [hset], trivial⟩ rfl rfl, by omega⟩
end Go.Proofs
