/- The abstract evaluator is right: slicing, lengths. -/
import Derived.Test.YtknjncmgohjpkaaAbsE
namespace Go.Abs
open Go.RowKit

section
variable {P : Program} {B : Base} {g : G} {m : Mem} {w : World}

def BoundIs (d : Int) (v : Option Value) (n : Int) : Prop := (v = none ∧ n = d) ∨ ∃ k, v = some (.int k n)

theorem run_bounds {len cap : Nat} {low high : Option Value} {l h : Int} (hl : BoundIs 0 low l) (hh : BoundIs len high h) (h0 : 0 ≤ l) (h1 : l ≤ h) (h2 : h ≤ len) (h3 : len ≤ cap) :
    (Instr.sliceBounds true len cap low high none).run P w = .ok (l.toNat, h.toNat, cap) w := by
  have e1 : h ≤ cap := by omega
  have e2 : 0 ≤ h := by omega
  have e3 : (h.toNat : Int) = h := by omega
  rcases hl with ⟨rfl, rfl⟩ | ⟨kl, rfl⟩ <;> rcases hh with ⟨rfl, rfl⟩ | ⟨kh, rfl⟩ <;>
    simp [Instr.sliceBounds, Instr.sliceBound, asIntOf, h0, h1, e1, e2, e3]

theorem run_bounds3 {len cap : Nat} {low : Option Value} {l h : Int} {k kh : IntKind} (hl : BoundIs 0 low l) (h0 : 0 ≤ l) (h1 : l ≤ h) (h2 : h ≤ len) (h3 : len ≤ cap) :
    (Instr.sliceBounds true len cap low (some (.int kh h)) (some (.int k h))).run P w = .ok (l.toNat, h.toNat, h.toNat) w := by
  have e1 : h ≤ cap := by omega
  have e2 : 0 ≤ h := by omega
  have e3 : (h.toNat : Int) = h := by omega
  rcases hl with ⟨rfl, rfl⟩ | ⟨kl, rfl⟩ <;>
    simp [Instr.sliceBounds, Instr.sliceBound, asIntOf, h0, h1, e1, e2, e3]

theorem bound_ok {φ : Nat → Option AV} {a : Act} (hs : Slots g w φ a) {d : Nat} {x : Option Operand} {n : Int} (h : bound d (x.map (ev φ)) = some n) : BoundIs d (x.map a.eval) n := by
  cases x with
  | none =>
    simp [bound] at h
    exact .inl ⟨rfl, h.symm⟩
  | some x =>
    simp only [Option.map_some] at h ⊢
    unfold bound at h
    split at h
    · rename_i hq; cases hq
    · rename_i k n' he
      simp at he h
      subst h
      exact .inr ⟨k, by rw [isInt (ev_rep hs he)]⟩
    · cases h

theorem lenC_sc {v : Value} {n : Nat} (h : lenC (.sc v) = some n) : v = .slice none 0 0 ∧ n = 0 := by
  unfold lenC at h
  split at h
  · rename_i hq
    simp at hq h
    exact ⟨hq, h.symm⟩
  · rename_i hq; cases hq
  · rename_i hq; cases hq
  · rename_i hq; cases hq
  · cases h

theorem lenC_ok {x : Cell} {v : Value} {n : Nat} (hr : RepC g w x v) (h : lenC x = some n) : ∃ a cap, v = .slice a n cap ∧ n ≤ cap := by
  unfold lenC at h
  split at h
  · simp at h; subst h
    cases hr with
    | pure hr => cases hr with
      | sc _ => exact ⟨none, 0, rfl, by omega⟩
  · simp at h; subst h
    cases hr with
    | pure hr =>
      obtain ⟨a, cap, rfl, h1, _⟩ := repP_lst hr
      exact ⟨a, cap, rfl, h1⟩
  · simp at h; subst h
    cases hr with
    | pure hr => cases hr
    | full hr => exact ⟨_, _, rfl, by omega⟩
  · simp at h; subst h
    cases hr with
    | pure hr => cases hr
    | view hk hv hle ha hsp => exact ⟨_, _, rfl, by omega⟩
  · cases h

/-- A slice of a slice that nobody writes. -/
theorem repP_slice {F : Nat → Nat → Prop} {es : List (List Cell)} {a : Option Addr} {len cap s : Nat} (hr : RepP F w (.lst es) (.slice a len cap)) (hs : ∀ (k : Nat) x, es[k]? = some x → x.length = s) {l h M : Nat} (h1 : l ≤ h) (h2 : h ≤ es.length) (hM : h ≤ M) (hMc : M ≤ cap) :
    RepP F w (.lst ((es.take h).drop l)) (.slice (if M = l then a else a.map (·.add (l * s))) (h - l) (M - l)) := by
  have hlen : ((es.take h).drop l).length = h - l := by simp; omega
  cases hr with
  | emp hcap hn =>
    simp at h2
    obtain rfl : h = 0 := by omega
    obtain rfl : l = 0 := by omega
    refine .emp (by omega) fun e => ?_
    split at e
    · omega
    · cases a with
      | none => have := hn rfl; omega
      | some a => cases e
  | lst u hs' hc hr' hl hcap =>
    rename_i b off sz
    by_cases hml : M = l
    · have hhl : h = l := by omega
      subst hhl
      have he : (es.take h).drop h = [] := by
        apply List.eq_nil_of_length_eq_zero; rw [hlen]; omega
      rw [he, if_pos hml]
      have := RepP.lst (F := F) (w := w) (es := []) (b := b) (off := off) (cap := M - h) (sz := 0) (fun _ _ => undef) (fun i e h => by simp at h) (fun i e h => by simp at h) (fun i e h => by simp at h) (by simp) (by omega)
      simpa using this
    · rw [if_neg hml]
      simp only [Option.map_some]
      by_cases hhl : h = l
      · subst hhl
        have he : (es.take h).drop h = [] := by
          apply List.eq_nil_of_length_eq_zero; rw [hlen]; omega
        rw [he, Addr.add_lit]
        have := RepP.lst (F := F) (w := w) (es := []) (b := b) (off := off + h * s) (cap := M - h) (sz := 0) (fun _ _ => undef) (fun i e h => by simp at h) (fun i e h => by simp at h) (fun i e h => by simp at h) (by simp) (by omega)
        simpa using this
      · have hsz : sz = s := by
          have hlt : l < es.length := by omega
          exact sz_of hs' (List.getElem?_eq_getElem hlt) (hs l _ (List.getElem?_eq_getElem hlt))
        subst hsz
        have hsub : ∀ (i : Nat) e, ((es.take h).drop l)[i]? = some e → es[l + i]? = some e := fun i e he => by
          rw [List.getElem?_drop, List.getElem?_take] at he
          split at he
          · exact he
          · cases he
        rw [Addr.add_lit, ← hlen]
        refine .lst (fun i j => u (l + i) j) (fun i e he => hs' _ e (hsub i e he)) (fun i e he j c hj => ?_) (fun i e he j c hj => hr' _ e (hsub i e he) j c hj) (by omega) (by omega)
        have := hc _ e (hsub i e he) j c hj
        rw [show off + l * sz + i * sz + j = off + (l + i) * sz + j by rw [Nat.add_mul]; omega]
        exact this

theorem all_len {es : List (List Cell)} {s : Nat} (h : es.all (fun e => e.length == s) = true) : ∀ (k : Nat) x, es[k]? = some x → x.length = s := fun k x hx => by
  have := List.all_eq_true.1 h x (List.mem_of_getElem? hx)
  simpa using this

theorem sliceAt_slice {t e : TypeId} (hu : P.underlying t = some (.slice e)) {te : TypeInfo} (hte : P.info? e = some te) {a : Option Addr} {len cap : Nat} {lo hi mx : Option Value} {l h M : Nat}
    (hb : (Instr.sliceBounds true len cap lo hi mx).run P w = .ok (l, h, M) w) :
    (Instr.sliceAt t (.slice a len cap) lo hi mx).run P w = .ok (.slice (if M = l then a else a.map (·.add (l * te.size))) (h - l) (M - l)) w := by
  simp [Instr.sliceAt, Instr.slice, run_underlying hu, hb, run_sizeOf hte]

theorem sliceF_ok (hI : Inv B g m w) {φ : Nat → Option AV} {a : Act} (hs : Slots g w φ a) {t : Nat} {p x : AV} {v : Value} (hp : RepA g w p v) {lo hi mx : Option Operand}
    (h : sliceF P m t p (lo.map (ev φ)) (hi.map (ev φ)) (mx.map (ev φ)) = some x) :
    ∃ u, (Instr.sliceAt t v (lo.map a.eval) (hi.map a.eval) (mx.map a.eval)).run P w = .ok u w ∧ RepA g w x u := by
  unfold sliceF at h
  split at h
  · rename_i e xc hti
    obtain ⟨i, d, z, hi0, hd, hz, he⟩ := tiOf_spec hti
    simp only [TI.mk.injEq] at he
    obtain ⟨_, _, _, _, hds, _⟩ := he
    obtain rfl := descOf_slice hds.symm
    cases hp with
    | c hp =>
    split at h
    · rename_i n te hn hte
      obtain ⟨i', d', z', hi', hd', hz', rfl⟩ := tiOf_spec hte
      split at h
      · rename_i l k hl hk
        have bl := bound_ok hs hl
        have bk := bound_ok hs hk
        obtain ⟨av, cap, rfl, hle⟩ := lenC_ok hp hn
        split at h
        · rename_i hb
          obtain ⟨b0, b1, b2⟩ := hb
          have e2 : (k.toNat : Int) = k := by omega
          have e3 : (l.toNat : Int) = l := by omega
          split at h
          · rename_i hmx
            obtain rfl : mx = none := by cases mx <;> simp_all
            have hrun := sliceAt_slice (w := w) hd hi' (a := av) (run_bounds (P := P) (w := w) bl bk b0 b1 b2 hle)
            simp only [Option.map_none] at hrun ⊢
            rw [hrun]
            refine ⟨_, rfl, ?_⟩
            split at h
            · rename_i sv
              simp at h; subst h
              cases hp with
              | pure hp => cases hp with
                | sc hs' =>
                  obtain ⟨hq, rfl⟩ := lenC_sc hn
                  simp at hq
                  obtain ⟨rfl, rfl⟩ := hq
                  obtain rfl : l = 0 := by omega
                  obtain rfl : k = 0 := by omega
                  simp
                  exact .c (repC_sc rfl)
            · rename_i es
              split at h
              · rename_i hall
                simp at h; subst h
                cases hp with
                | pure hp =>
                  have hn' : n = es.length := by simpa [lenC] using hn.symm
                  exact .c (.pure (repP_slice hp (all_len hall) (by omega) (by omega) (by omega) (Nat.le_refl _)))
              · cases h
            · rename_i es
              split at h
              · rename_i hall
                simp at h; subst h
                cases hp with
                | pure hp => cases hp
                | full hp => exact .c (.pure (repP_slice hp (all_len hall) (by omega) (by omega) (by omega) (Nat.le_refl _)))
              · cases h
            · rename_i o lo' n'
              split at h
              · rename_i e' sz es fr hm
                split at h
                · rename_i hsz
                  simp at h; subst h
                  obtain ⟨_, ho⟩ := hI.ok o _ hm
                  cases ho with
                  | arr us hz' ho' hs' hr' h1' hf' =>
                  cases hp with
                  | pure hp => cases hp
                  | view hk' hv hle' ha hsp =>
                    rename_i len' cap' a0
                    rw [show cap' - lo' - l.toNat = cap' - (lo' + l.toNat) by omega]
                    have hspot : ∀ (c : Prop) [Decidable c] ad, (if c then av else av.map (·.add (l.toNat * i'.size))) = some ad → ad.spot = none := fun c _ ad h => by
                      split at h
                      · exact hsp ad h
                      · cases av with
                        | none => cases h
                        | some a1 =>
                          simp at h
                          subst h
                          unfold Addr.add
                          split
                          · exact hsp a1 rfl
                          · rfl
                    refine .c (.view hk' hv (by omega) (fun hlt => ?_) (hspot _))
                    by_cases hl0 : l.toNat = 0
                    · have hav : (if cap' - lo' = l.toNat then av else av.map (·.add (l.toNat * i'.size))) = av := by
                        rw [hl0]
                        split
                        · rfl
                        · cases av <;> simp [Addr.add]
                      rw [hav, hl0, Nat.add_zero]
                      exact ha (by omega)
                    · have hlt : lo' + l.toNat < cap' := by omega
                      rw [if_neg (by omega), ha (by omega), hz', hsz]
                      cases a0 with
                      | none => rfl
                      | some a0 =>
                        rcases ho'.2 with ⟨hnil, _⟩ | ⟨gb, cap2, cur, hb', _⟩
                        · rw [hv] at hnil; simp at hnil
                        · rw [hv] at hb'
                          simp at hb'
                          obtain ⟨rfl, _, rfl⟩ := hb'
                          simp [Addr.add_lit, Nat.add_mul]
                · cases h
              · cases h
            · cases h
          · rename_i mk hmx
            split at h
            · rename_i k' hk' hb' hbe
              split at h
              · rename_i hkk
                subst hkk
                obtain ⟨mo, rfl, hmo⟩ : ∃ mo, mx = some mo ∧ ev φ mo = mk := by cases mx <;> simp_all
                have bm := bound_ok (a := a) hs (d := 0) (x := some mo) (n := k') (by simpa [hmo] using hb')
                obtain ⟨ho, rfl⟩ : ∃ ho, hi = some ho := by cases hi <;> simp_all
                rcases bm with ⟨hc, _⟩ | ⟨km, hkm⟩
                · simp at hc
                rcases bk with ⟨hc, _⟩ | ⟨kk, hkk⟩
                · simp at hc
                simp only [Option.map_some] at hkm hkk ⊢
                rw [hkm, hkk]
                have hrun := sliceAt_slice (w := w) hd hi' (a := av) (run_bounds3 (P := P) (w := w) (k := km) (kh := kk) bl b0 b1 b2 hle)
                rw [hrun]
                refine ⟨_, rfl, ?_⟩
                split at h
                · simp at h; subst h
                  cases hp with
                  | pure hp => cases hp with
                    | sc hs' =>
                      obtain ⟨hq, rfl⟩ := lenC_sc hn
                      simp at hq
                      obtain ⟨rfl, rfl⟩ := hq
                      obtain rfl : l = 0 := by omega
                      obtain rfl : k' = 0 := by omega
                      simp
                      exact .c (repC_sc rfl)
                · rename_i es
                  split at h
                  · rename_i hall
                    simp at h; subst h
                    cases hp with
                    | pure hp =>
                      have hn' : n = es.length := by simpa [lenC] using hn.symm
                      have hlen : ((es.take k'.toNat).drop l.toNat).length = k'.toNat - l.toNat := by simp; omega
                      have := repP_slice hp (all_len hall) (l := l.toNat) (h := k'.toNat) (M := k'.toNat) (by omega) (by omega) (by omega) (by omega)
                      rw [← hlen] at this ⊢
                      exact .c (.full this)
                  · cases h
                · rename_i es
                  split at h
                  · rename_i hall
                    simp at h; subst h
                    cases hp with
                    | pure hp => cases hp
                    | full hp =>
                      have hlen : ((es.take k'.toNat).drop l.toNat).length = k'.toNat - l.toNat := by simp; omega
                      have := repP_slice hp (all_len hall) (l := l.toNat) (h := k'.toNat) (M := k'.toNat) (by omega) (by omega) (by omega) (by omega)
                      rw [← hlen] at this ⊢
                      exact .c (.full this)
                  · cases h
                · cases h
              · cases h
            · cases h
        · cases h
      · cases h
    · cases h
  · cases h

end
end Go.Abs
