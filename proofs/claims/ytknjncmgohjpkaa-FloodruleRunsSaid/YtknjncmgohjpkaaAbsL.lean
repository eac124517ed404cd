/- The abstract evaluator is right: every operation. -/
import Derived.Test.YtknjncmgohjpkaaAbsK
namespace Go.Abs
open Go.RowKit

section
variable {P : Program} {B : Base} {g g' : G} {m m' : Mem} {w w' : World}

theorem map_pair {α : Type} {o : Option α} {m m' : Mem} {x : α} (h : o.map (·, m) = some (x, m')) : o = some x ∧ m' = m := by
  cases o with
  | none => cases h
  | some y => simp at h; exact ⟨by rw [h.1], h.2.symm⟩

theorem mapM_cells : ∀ {l : List AV} {cs : List Cell}, plainCells l = some cs → l = cs.map AV.c
  | [], cs, h => by simp [plainCells] at h; subst h; rfl
  | x :: l, cs, h => by
    cases x with
    | c x =>
      simp [plainCells] at h
      obtain ⟨cs', h1, rfl⟩ := h
      simp [mapM_cells h1]
    | agg _ => simp [plainCells] at h
    | tup _ => simp [plainCells] at h

theorem opF_ok (hI : Inv B g m w) {φ : Nat → Option AV} {a : Act} (hs : Slots g w φ a) (o : Oper) {d : Nat} (hfd : memU d m.us = false) {x : AV} (h : opF P o.op d φ m = some (x, m')) :
    ∃ v w' g', (execOp a.eval o).run P w = .ok (.value v) w' ∧ Ext g w g' w' ∧ RepA g' w' x v ∧ Inv B g' m' w' := by
  obtain ⟨dst, op, ty, pos, af, gd⟩ := o
  have quiet : ∀ {v : Value}, (execOp a.eval ⟨dst, op, ty, pos, af, gd⟩).run P w = .ok (.value v) w → RepA g w x v → m' = m →
      ∃ v w' g', (execOp a.eval ⟨dst, op, ty, pos, af, gd⟩).run P w = .ok (.value v) w' ∧ Ext g w g' w' ∧ RepA g' w' x v ∧ Inv B g' m' w' := fun h1 h2 h3 => ⟨_, w, g, h1, .refl g w, h2, h3 ▸ hI⟩
  unfold opF at h
  simp only at h
  split at h
  · rename_i y
    obtain ⟨h1, h2⟩ := map_pair h
    exact quiet (by simp [execOp]) (ev_rep hs h1) h2
  · rename_i y
    obtain ⟨h1, h2⟩ := map_pair h
    exact quiet (by simp [execOp]) (ev_rep hs h1) h2
  · rename_i c y z
    split at h
    · rename_i hc
      obtain ⟨h1, h2⟩ := map_pair h
      have := isBool (ev_rep hs hc)
      exact quiet (by simp [execOp, asBool, this]) (ev_rep hs h1) h2
    · rename_i hc
      obtain ⟨h1, h2⟩ := map_pair h
      have := isBool (ev_rep hs hc)
      exact quiet (by simp [execOp, asBool, this]) (ev_rep hs h1) h2
    · cases h
  · rename_i T
    split at h
    · rename_i ti hti
      split at h
      · rename_i cs hcs
        simp at h
        obtain ⟨rfl, rfl⟩ := h
        obtain ⟨v, w', g', r1, r2, r3, r4⟩ := alloc_ok hI d hfd hti hcs
        exact ⟨v, w', g', by simp [execOp, r1], r2, r3, r4⟩
      · cases h
    · cases h
  · rename_i T y
    split at h
    · rename_i av hav
      split at h
      · rename_i cs hcs
        simp at h
        obtain ⟨rfl, rfl⟩ := h
        obtain ⟨v, w', g', r1, r2, r3, r4⟩ := box_ok hI d hfd (T := T) hcs (ev_rep hs hav)
        exact ⟨v, w', g', by simp only [execOp, Sem.run_bind]; rw [r1]; rfl, r2, r3, r4⟩
      · cases h
    · cases h
  · rename_i T ps
    split at h
    · rename_i ti hti
      split at h
      · rename_i fs z hd hz
        split at h
        · rename_i hall
          cases hb : buildF φ P fs z ps.toList with
          | none => simp [hb] at h
          | some cs =>
            simp [hb] at h
            obtain ⟨rfl, rfl⟩ := h
            obtain ⟨v, r1, r2⟩ := build_ok (a := a) hs hti hd hz hall hb
            exact quiet (by simp only [execOp, Sem.run_bind, r1]; rfl) r2 rfl
        · cases h
      · rename_i n e z hd hz
        split at h
        · rename_i te hte
          cases hb : buildF φ P (arrFs te.size e n 0) z ps.toList with
          | none => simp [hb] at h
          | some cs =>
            simp [hb] at h
            obtain ⟨rfl, rfl⟩ := h
            obtain ⟨v, r1, r2⟩ := buildArr_ok (a := a) hs hti hd hz hte hb
            exact quiet (by simp only [execOp, Sem.run_bind, r1]; rfl) r2 rfl
        · cases h
      · cases h
    · cases h
  · rename_i T n ps
    split at h
    · rename_i e _ hti
      split at h
      · rename_i te hte
        split at h
        · cases h
        · rename_i h0
          split at h
          · rename_i es m1 hp
            split at h
            · rename_i hn
              simp at h
              obtain ⟨rfl, rfl⟩ := h
              obtain ⟨v, w', g', r1, r2, r3, r4⟩ := buildSlice_ok (a := a) hs hI d hfd hti rfl hte h0 hp hn
              exact ⟨v, w', g', by simp only [execOp, Sem.run_bind, r1]; rfl, r2, r3, r4⟩
            · cases h
          · cases h
      · cases h
    · cases h
  · rename_i T y y'
    split at h
    · rename_i e _ _ n _ n' hti hy hy'
      split at h
      · rename_i te hte
        split at h
        · rename_i z hz
          split at h
          · rename_i hcond
            obtain ⟨rfl, hn, hs0, hb0, hzl, hb⟩ := hcond
            simp at h
            obtain ⟨rfl, rfl⟩ := h
            obtain ⟨n, rfl⟩ := Int.eq_ofNat_of_zero_le hn
            obtain ⟨v, w', g', r1, r2, r3, r4⟩ := makeSlice_ok hI d hfd hti rfl hte hz hzl hs0 hb0 (n := n) (by rw [← Int.natCast_mul] at hb; omega) _ _
            refine ⟨v, w', g', ?_, r2, r3, r4⟩
            simp only [execOp, Sem.run_bind]
            rw [isInt (ev_rep hs hy), isInt (ev_rep hs hy'), r1]
            rfl
          · cases h
        · cases h
      · cases h
    · cases h
  · rename_i t y
    split at h
    · rename_i ti p hti hp
      obtain ⟨h1, h2⟩ := map_pair h
      obtain ⟨u, r1, r2⟩ := loadF_ok hI hti (ev_rep hs hp) h1
      exact quiet (by simp [execOp, r1]) r2 h2
    · cases h
  · rename_i y
    split at h
    · rename_i i o hy
      simp at h; obtain ⟨rfl, rfl⟩ := h
      have hr := ev_rep hs hy
      have hv : ∃ ad, a.eval y = .pointer (some ad) := by
        generalize a.eval y = v at hr
        cases hr with
        | c hr => cases hr with
          | pure hr => cases hr
          | ptr _ _ => exact ⟨_, rfl⟩
      obtain ⟨ad, hv⟩ := hv
      exact quiet (by simp [execOp, hv]; rfl) (by rw [hv] at hr; exact hr) rfl
    · rename_i o i k hy
      simp at h; obtain ⟨rfl, rfl⟩ := h
      have hr := ev_rep hs hy
      have hv : ∃ ad, a.eval y = .pointer (some ad) := by
        generalize a.eval y = v at hr
        cases hr with
        | c hr => cases hr with
          | pure hr => cases hr
          | aptr _ _ => exact ⟨_, rfl⟩
      obtain ⟨ad, hv⟩ := hv
      exact quiet (by simp [execOp, hv]; rfl) (by rw [hv] at hr; exact hr) rfl
    · rename_i cs hy
      simp at h; obtain ⟨rfl, rfl⟩ := h
      have hr := ev_rep hs hy
      have hv : ∃ ad, a.eval y = .pointer (some ad) := by
        generalize a.eval y = v at hr
        cases hr with
        | c hr => cases hr with
          | pure hr => cases hr
          | pel _ _ _ => exact ⟨_, rfl⟩
      obtain ⟨ad, hv⟩ := hv
      exact quiet (by simp [execOp, hv]; rfl) (by rw [hv] at hr; exact hr) rfl
    · rename_i f cs hy
      simp at h; obtain ⟨rfl, rfl⟩ := h
      have hr := ev_rep hs hy
      have hv : ∃ us : Array Value, a.eval y = .func (.func f) #[] us := by
        generalize a.eval y = v at hr
        cases hr with
        | c hr => cases hr with
          | pure hr => cases hr
          | fn us _ _ => exact ⟨_, rfl⟩
      obtain ⟨us, hv⟩ := hv
      exact quiet (by simp [execOp, hv]; rfl) (by rw [hv] at hr; exact hr) rfl
    · cases h
  · rename_i op t y z ty'
    split at h
    · rename_i k p k' q hy hz
      split at h
      · rename_i hk
        subst hk
        cases hb : binI op k p q with
        | none => simp [hb] at h
        | some v =>
          simp [hb] at h
          obtain ⟨rfl, rfl⟩ := h
          have e1 := isInt (ev_rep hs hy)
          have e2 := isInt (ev_rep hs hz)
          obtain ⟨r1, r2⟩ := binI_ok (P := P) (w := w) (t := t) hb
          refine quiet (v := v) ?_ (.c (repC_sc r2)) rfl
          simp [execOp, e1, e2, eqGuard_at_int, r1]
      · cases h
    · rename_i p q hy hz
      split at h
      · rename_i hti
        cases hb : binB op p q with
        | none => simp [hb] at h
        | some v =>
          simp [hb] at h
          obtain ⟨rfl, rfl⟩ := h
          have e1 := isBool (ev_rep hs hy)
          have e2 := isBool (ev_rep hs hz)
          obtain ⟨i, dd, z, hi, hd, hz', he⟩ := tiOf_spec hti
          simp only [TI.mk.injEq] at he
          obtain ⟨_, _, _, _, hds, _⟩ := he
          obtain rfl := descOf_bool hds.symm
          obtain ⟨r1, r2⟩ := binB_ok (P := P) (w := w) (t := t) hd hb
          refine quiet (v := v) ?_ (.c (repC_sc r2)) rfl
          simp [execOp, e1, e2, eqGuard_at_bool, r1]
      · cases h
    · rename_i xs ys hy hz
      split at h
      · rename_i ti hti
        split at h
        · rename_i q ks hq
          cases hb : binE op (q :: ks) xs ys with
          | none => simp [hb] at h
          | some r =>
            simp [hb] at h
            obtain ⟨rfl, rfl⟩ := h
            have r1 := binE_ok (P := P) hti hq (ev_rep hs hy) (ev_rep hs hz) hb y z
            exact quiet (v := .bool r) (by simp only [execOp]; rw [Sem.run_bind, r1]; rfl) (.c (repC_sc rfl)) rfl
        · cases h
      · cases h
    · rename_i x hy hz
      split at h
      · rename_i hti
        cases hb : nilB op x with
        | none => simp [hb] at h
        | some r =>
          simp [hb] at h
          obtain ⟨rfl, rfl⟩ := h
          obtain ⟨e2, _⟩ := isSc (ev_rep hs hz)
          obtain ⟨i, dd, z', hi, hd, hz', he⟩ := tiOf_spec hti
          simp only [TI.mk.injEq] at he
          obtain ⟨_, _, _, _, hds, _⟩ := he
          obtain rfl := descOf_slice hds.symm
          have r1 := nilB_ok (P := P) (w := w) (t := t) hd (ev_rep hs hy) hb y z
          refine quiet (v := .bool r) ?_ (.c (repC_sc rfl)) rfl
          simp only [execOp, e2]
          rw [Sem.run_bind, r1]
          rfl
      · cases h
    · cases h
  · rename_i op t y
    split at h
    · rename_i v hy
      cases hu : unV op v with
      | none => simp [hu] at h
      | some u =>
        simp [hu] at h
        obtain ⟨rfl, rfl⟩ := h
        obtain ⟨e1, _⟩ := isSc (ev_rep hs hy)
        obtain ⟨r1, r2⟩ := unV_ok (P := P) (w := w) hu
        refine quiet (v := u) ?_ (.c (repC_sc r2)) rfl
        simp [execOp, e1, r1]
    · cases h
  · rename_i src t y
    split at h
    · rename_i ts k _ k' n hts hti hy
      simp at h
      obtain ⟨rfl, rfl⟩ := h
      have e1 := isInt (ev_rep hs hy)
      obtain ⟨i, dd, z, hi, hd, hz', he⟩ := tiOf_spec hti
      simp only [TI.mk.injEq] at he
      obtain ⟨_, _, _, _, hds, _⟩ := he
      obtain rfl := descOf_int hds.symm
      obtain ⟨i', dd', z', hi', hd', hz'', _⟩ := tiOf_spec hts
      refine quiet (v := .int k (k.wrap n)) ?_ (.c (repC_sc rfl)) rfl
      simp [execOp, e1, convert, run_underlying hd, run_underlying hd', Conv.intToInt]
    · cases h
  · rename_i s y f
    split at h
    · rename_i p hp
      obtain ⟨h1, h2⟩ := map_pair h
      obtain ⟨u, r1, r2⟩ := fieldF_ok (ev_rep hs hp) h1
      exact quiet (by simp [execOp, r1]) r2 h2
    · cases h
  · rename_i s y f
    split at h
    · rename_i p hp
      obtain ⟨h1, h2⟩ := map_pair h
      obtain ⟨u, r1, r2⟩ := fieldV_ok (ev_rep hs hp) h1
      exact quiet (by simp [execOp, r1]) r2 h2
    · cases h
  · rename_i t y z
    split at h
    · rename_i p i hp hi
      obtain ⟨h1, h2⟩ := map_pair h
      obtain ⟨u, r1, r2⟩ := indexF_ok hI (ev_rep hs hp) (ev_rep hs hi) h1
      exact quiet (by simp [execOp, r1]) r2 h2
    · cases h
  · rename_i t y z
    split at h
    · rename_i p i hp hi
      obtain ⟨h1, h2⟩ := map_pair h
      obtain ⟨u, r1, r2⟩ := indexV_ok (ev_rep hs hp) (ev_rep hs hi) h1
      exact quiet (by simp [execOp, r1]) r2 h2
    · cases h
  · rename_i t y lo hi mx
    split at h
    · rename_i p hp
      obtain ⟨h1, h2⟩ := map_pair h
      obtain ⟨u, r1, r2⟩ := sliceF_ok hI hs (ev_rep hs hp) h1
      exact quiet (by simp [execOp, r1]) r2 h2
    · cases h
  · rename_i y i
    split at h
    · rename_i l hy
      obtain ⟨h1, h2⟩ := map_pair h
      have hr := ev_rep hs hy
      generalize hv : a.eval y = v at hr
      cases hr with
      | tup us hl hc =>
        have hi : i < us.length := by rw [hl]; exact (List.getElem?_eq_some_iff.1 h1).1
        refine quiet (v := us[i]) ?_ (hc i x _ h1 (List.getElem?_eq_getElem hi)) h2
        simp [execOp, hv, Instr.extract, hi]
    · cases h
  · rename_i f first caps
    split at h
    · rename_i hf
      split at h
      · rename_i l hl
        split at h
        · rename_i cs hcs
          simp at h
          obtain ⟨rfl, rfl⟩ := h
          have hfe : first = #[] := Array.eq_empty_of_size_eq_zero hf
          subst hfe
          obtain ⟨hll, hr⟩ := evs_rep hs hl
          have hlc := mapM_cells hcs
          subst hlc
          refine quiet (v := .func (.func f) #[] (caps.toList.map a.eval).toArray) ?_ (.c (.fn _ (by simpa using hll.symm) fun j c u h1 h2 => ?_)) rfl
          · have e : (caps.toList.map a.eval).toArray = caps.map a.eval := by apply Array.ext'; simp
            rw [e]
            simp [execOp, Instr.makeFunc]
          · have := hr j (.c c) u (by rw [List.getElem?_map, h1]; rfl) h2
            cases this with
            | c h => exact h
        · cases h
      · cases h
    · cases h
  · rename_i b args argTypes
    split at h
    · rename_i l hl
      obtain ⟨hll, hr⟩ := evs_rep hs hl
      obtain ⟨v, w', g', r1, r2, r3, r4⟩ := callB_ok hI hfd (vals := args.toList.map a.eval) ty (args.map fun | .const _ => true | _ => false) (by simpa using hll) (fun j x v h1 h2 => hr j x v h1 h2) h
      refine ⟨v, w', g', ?_, r2, r3, r4⟩
      have e : (args.toList.map a.eval).toArray = args.map a.eval := by apply Array.ext'; simp
      rw [e] at r1
      simp only [execOp, resolve, invoke, Sem.run_bind, Sem.run_pure, Result.andThen_ok]
      exact r1
    · cases h
  · cases h

theorem storeOp_ok (hI : Inv B g m w) {φ : Nat → Option AV} {a : Act} (hs : Slots g w φ a) (o : Oper) {t : Nat} {p v : Operand} (ho : o.op = .store t p v) {ti : TI} (hti : tiOf P t = some ti) {pa va : AV} (hp : ev φ p = some pa) (hv : ev φ v = some va)
    (h : storeF ti m pa va = some m') : ∃ w' g', (execOp a.eval o).run P w = .ok .skip w' ∧ Ext g w g' w' ∧ Inv B g' m' w' := by
  obtain ⟨w', g', r1, r2, r3⟩ := storeF_ok hI hti (ev_rep hs hp) (ev_rep hs hv) h
  refine ⟨w', g', ?_, r2, r3⟩
  simp [execOp, ho, r1]

end
end Go.Abs
