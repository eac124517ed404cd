/- Proved here: what functions of the given program come to, and the plain laws of it; no condition but those in the theorems. -/
import Derived.Test.YtfhnicamjcfddaaGreatDoorAbsE
/- The abstract evaluator is right: slicing, lengths. -/
namespace Go.Abs
open Go.RowKit

section
variable {P : Program} {B : Base} {g : G} {m : Mem} {w : World}

def BoundIs (d : Int) (v : Option Value) (n : Int) : Prop := (v = none ∧ n = d) ∨ ∃ k, v = some (.int k n)

theorem run_bounds {len cap : Nat} {low high : Option Value} {l h : Int} (hl : BoundIs 0 low l) (hh : BoundIs len high h) (h0 : 0 ≤ l) (h1 : l ≤ h) (h2 : h ≤ len) (h3 : len ≤ cap) :
    (Instr.sliceBounds true len cap low high none).run P w = .ok (l.toNat, h.toNat, cap) w := by
  have e1 : h ≤ cap := by omega
  have e2 : 0 ≤ h := by omega
  have e3 : (h.toNat : Int) = h := by omega
  rcases hl with ⟨rfl, rfl⟩ | ⟨kl, rfl⟩ <;> rcases hh with ⟨rfl, rfl⟩ | ⟨kh, rfl⟩ <;>
    simp [Instr.sliceBounds, Instr.sliceBound, asIntOf, h0, h1, e1, e2, e3]

theorem run_bounds3 {len cap : Nat} {low : Option Value} {l h : Int} {k kh : IntKind} (hl : BoundIs 0 low l) (h0 : 0 ≤ l) (h1 : l ≤ h) (h2 : h ≤ len) (h3 : len ≤ cap) :
    (Instr.sliceBounds true len cap low (some (.int kh h)) (some (.int k h))).run P w = .ok (l.toNat, h.toNat, h.toNat) w := by
  have e1 : h ≤ cap := by omega
  have e2 : 0 ≤ h := by omega
  have e3 : (h.toNat : Int) = h := by omega
  rcases hl with ⟨rfl, rfl⟩ | ⟨kl, rfl⟩ <;>
    simp [Instr.sliceBounds, Instr.sliceBound, asIntOf, h0, h1, e1, e2, e3]

theorem bound_ok {φ : Nat → Option AV} {a : Act} (hL : Laid g.F w) (hs : Slots g w φ a) {d : Nat} {x : Option Operand} {n : Int} (h : bound d (x.map (ev φ)) = some n) : BoundIs d (x.map a.eval) n := by
  cases x with
  | none =>
    simp [bound] at h
    exact .inl ⟨rfl, h.symm⟩
  | some x =>
    simp only [Option.map_some] at h ⊢
    unfold bound at h
    split at h
    · rename_i hq; cases hq
    · rename_i k n' he
      simp at he h
      subst h
      exact .inr ⟨k, by rw [isInt (ev_rep hL hs he)]⟩
    · cases h

theorem lenC_sc {v : Value} {n : Nat} (h : lenC (.sc v) = some n) : v = .slice none 0 0 ∧ n = 0 := by
  unfold lenC at h
  split at h
  · rename_i hq
    simp at hq h
    exact ⟨hq, h.symm⟩
  · rename_i hq; cases hq
  · rename_i hq; cases hq
  · rename_i hq; cases hq
  · cases h

theorem lenC_ok {x : Cell} {v : Value} {n : Nat} (hr : RepC g w x v) (h : lenC x = some n) : ∃ a cap, v = .slice a n cap ∧ n ≤ cap := by
  unfold lenC at h
  split at h
  · simp at h; subst h
    cases hr with
    | pure hr => cases hr with
      | sc _ => exact ⟨none, 0, rfl, by omega⟩
  · simp at h; subst h
    cases hr with
    | pure hr =>
      obtain ⟨a, cap, rfl, h1, _⟩ := repP_lst hr
      exact ⟨a, cap, rfl, h1⟩
  · simp at h; subst h
    cases hr with
    | pure hr => cases hr
    | full hr => exact ⟨_, _, rfl, by omega⟩
  · simp at h; subst h
    cases hr with
    | pure hr => cases hr
    | view hk hv hle ha hsp => exact ⟨_, _, rfl, by omega⟩
  · cases h

/-- A slice of a slice that nobody writes. -/
theorem repP_slice {F : Nat → Nat → Prop} {es : List (List Cell)} {a : Option Addr} {len cap s : Nat} (hr : RepP F w (.lst es) (.slice a len cap)) (hs : ∀ (k : Nat) x, es[k]? = some x → x.length = s) {l h M : Nat} (h1 : l ≤ h) (h2 : h ≤ es.length) (hM : h ≤ M) (hMc : M ≤ cap) :
    RepP F w (.lst ((es.take h).drop l)) (.slice (if M = l then a else a.map (·.add (l * s))) (h - l) (M - l)) := by
  have hlen : ((es.take h).drop l).length = h - l := by simp; omega
  cases hr with
  | emp hcap hn =>
    simp at h2
    obtain rfl : h = 0 := by omega
    obtain rfl : l = 0 := by omega
    refine .emp (by omega) fun e => ?_
    split at e
    · omega
    · cases a with
      | none => have := hn rfl; omega
      | some a => cases e
  | lst u hs' hc hr' hl hcap =>
    rename_i b off sz
    by_cases hml : M = l
    · have hhl : h = l := by omega
      subst hhl
      have he : (es.take h).drop h = [] := by
        apply List.eq_nil_of_length_eq_zero; rw [hlen]; omega
      rw [he, if_pos hml]
      have := RepP.lst (F := F) (w := w) (es := []) (b := b) (off := off) (cap := M - h) (sz := 0) (fun _ _ => undef) (fun i e h => by simp at h) (fun i e h => by simp at h) (fun i e h => by simp at h) (by simp) (by omega)
      simpa using this
    · rw [if_neg hml]
      simp only [Option.map_some]
      by_cases hhl : h = l
      · subst hhl
        have he : (es.take h).drop h = [] := by
          apply List.eq_nil_of_length_eq_zero; rw [hlen]; omega
        rw [he, Addr.add_lit]
        have := RepP.lst (F := F) (w := w) (es := []) (b := b) (off := off + h * s) (cap := M - h) (sz := 0) (fun _ _ => undef) (fun i e h => by simp at h) (fun i e h => by simp at h) (fun i e h => by simp at h) (by simp) (by omega)
        simpa using this
      · have hsz : sz = s := by
          have hlt : l < es.length := by omega
          exact sz_of hs' (List.getElem?_eq_getElem hlt) (hs l _ (List.getElem?_eq_getElem hlt))
        subst hsz
        have hsub : ∀ (i : Nat) e, ((es.take h).drop l)[i]? = some e → es[l + i]? = some e := fun i e he => by
          rw [List.getElem?_drop, List.getElem?_take] at he
          split at he
          · exact he
          · cases he
        rw [Addr.add_lit, ← hlen]
        refine .lst (fun i j => u (l + i) j) (fun i e he => hs' _ e (hsub i e he)) (fun i e he j c hj => ?_) (fun i e he j c hj => hr' _ e (hsub i e he) j c hj) (by omega) (by omega)
        have := hc _ e (hsub i e he) j c hj
        rw [show off + l * sz + i * sz + j = off + (l + i) * sz + j by rw [Nat.add_mul]; omega]
        exact this

theorem all_len {es : List (List Cell)} {s : Nat} (h : es.all (fun e => e.length == s) = true) : ∀ (k : Nat) x, es[k]? = some x → x.length = s := fun k x hx => by
  have := List.all_eq_true.1 h x (List.mem_of_getElem? hx)
  simpa using this

theorem sliceAt_slice {t e : TypeId} (hu : P.underlying t = some (.slice e)) {te : TypeInfo} (hte : P.info? e = some te) {a : Option Addr} {len cap : Nat} {lo hi mx : Option Value} {l h M : Nat}
    (hb : (Instr.sliceBounds true len cap lo hi mx).run P w = .ok (l, h, M) w) :
    (Instr.sliceAt t (.slice a len cap) lo hi mx).run P w = .ok (.slice (if M = l then a else a.map (·.add (l * te.size))) (h - l) (M - l)) w := by
  simp [Instr.sliceAt, Instr.slice, run_underlying hu, hb, run_sizeOf hte]

theorem sliceF_ok (hI : Inv B g m w) {φ : Nat → Option AV} {a : Act} (hs : Slots g w φ a) {t : Nat} {p x : AV} {v : Value} (hp : RepA g w p v) {lo hi mx : Option Operand}
    (h : sliceF P m t p (lo.map (ev φ)) (hi.map (ev φ)) (mx.map (ev φ)) = some x) :
    ∃ u, (Instr.sliceAt t v (lo.map a.eval) (hi.map a.eval) (mx.map a.eval)).run P w = .ok u w ∧ RepA g w x u := by
  unfold sliceF at h
  split at h
  · rename_i e xc hti
    obtain ⟨i, d, z, hi0, hd, hz, he⟩ := tiOf_spec hti
    simp only [TI.mk.injEq] at he
    obtain ⟨_, _, _, _, hds, _⟩ := he
    obtain rfl := descOf_slice hds.symm
    cases hp with
    | c hp =>
    split at h
    · rename_i n te hn hte
      obtain ⟨i', d', z', hi', hd', hz', rfl⟩ := tiOf_spec hte
      split at h
      · rename_i l k hl hk
        have bl := bound_ok hI.laid hs hl
        have bk := bound_ok hI.laid hs hk
        obtain ⟨av, cap, rfl, hle⟩ := lenC_ok hp hn
        split at h
        · rename_i hb
          obtain ⟨b0, b1, b2⟩ := hb
          have e2 : (k.toNat : Int) = k := by omega
          have e3 : (l.toNat : Int) = l := by omega
          split at h
          · rename_i hmx
            obtain rfl : mx = none := by cases mx <;> simp_all
            have hrun := sliceAt_slice (w := w) hd hi' (a := av) (run_bounds (P := P) (w := w) bl bk b0 b1 b2 hle)
            simp only [Option.map_none] at hrun ⊢
            rw [hrun]
            refine ⟨_, rfl, ?_⟩
            split at h
            · rename_i sv
              simp at h; subst h
              cases hp with
              | pure hp => cases hp with
                | sc hs' =>
                  obtain ⟨hq, rfl⟩ := lenC_sc hn
                  simp at hq
                  obtain ⟨rfl, rfl⟩ := hq
                  obtain rfl : l = 0 := by omega
                  obtain rfl : k = 0 := by omega
                  simp
                  exact .c (repC_sc rfl)
            · rename_i es
              split at h
              · rename_i hall
                simp at h; subst h
                cases hp with
                | pure hp =>
                  have hn' : n = es.length := by simpa [lenC] using hn.symm
                  exact .c (.pure (repP_slice hp (all_len hall) (by omega) (by omega) (by omega) (Nat.le_refl _)))
              · cases h
            · rename_i es
              split at h
              · rename_i hall
                simp at h; subst h
                cases hp with
                | pure hp => cases hp
                | full hp => exact .c (.pure (repP_slice hp (all_len hall) (by omega) (by omega) (by omega) (Nat.le_refl _)))
              · cases h
            · rename_i o lo' n'
              split at h
              · rename_i e' sz es fr hm
                split at h
                · rename_i hsz
                  simp at h; subst h
                  obtain ⟨_, ho⟩ := hI.ok o _ hm
                  cases ho with
                  | arr us hz' ho' hs' hr' h1' hf' =>
                  cases hp with
                  | pure hp => cases hp
                  | view hk' hv hle' ha hsp =>
                    rename_i len' cap' a0
                    rw [show cap' - lo' - l.toNat = cap' - (lo' + l.toNat) by omega]
                    have hspot : ∀ (c : Prop) [Decidable c] ad, (if c then av else av.map (·.add (l.toNat * i'.size))) = some ad → ad.spot = none := fun c _ ad h => by
                      split at h
                      · exact hsp ad h
                      · cases av with
                        | none => cases h
                        | some a1 =>
                          simp at h
                          subst h
                          unfold Addr.add
                          split
                          · exact hsp a1 rfl
                          · rfl
                    refine .c (.view hk' hv (by omega) (fun hlt => ?_) (hspot _))
                    by_cases hl0 : l.toNat = 0
                    · have hav : (if cap' - lo' = l.toNat then av else av.map (·.add (l.toNat * i'.size))) = av := by
                        rw [hl0]
                        split
                        · rfl
                        · cases av <;> simp [Addr.add]
                      rw [hav, hl0, Nat.add_zero]
                      exact ha (by omega)
                    · have hlt : lo' + l.toNat < cap' := by omega
                      rw [if_neg (by omega), ha (by omega), hz', hsz]
                      cases a0 with
                      | none => rfl
                      | some a0 =>
                        rcases ho'.2 with ⟨hnil, _⟩ | ⟨gb, cap2, cur, hb', _⟩
                        · rw [hv] at hnil; simp at hnil
                        · rw [hv] at hb'
                          simp at hb'
                          obtain ⟨rfl, _, rfl⟩ := hb'
                          simp [Addr.add_lit, Nat.add_mul]
                · cases h
              · cases h
            · cases h
          · rename_i mk hmx
            split at h
            · rename_i k' hk' hb' hbe
              split at h
              · rename_i hkk
                subst hkk
                obtain ⟨mo, rfl, hmo⟩ : ∃ mo, mx = some mo ∧ ev φ mo = mk := by cases mx <;> simp_all
                have bm := bound_ok (a := a) hI.laid hs (d := 0) (x := some mo) (n := k') (by simpa [hmo] using hb')
                obtain ⟨ho, rfl⟩ : ∃ ho, hi = some ho := by cases hi <;> simp_all
                rcases bm with ⟨hc, _⟩ | ⟨km, hkm⟩
                · simp at hc
                rcases bk with ⟨hc, _⟩ | ⟨kk, hkk⟩
                · simp at hc
                simp only [Option.map_some] at hkm hkk ⊢
                rw [hkm, hkk]
                have hrun := sliceAt_slice (w := w) hd hi' (a := av) (run_bounds3 (P := P) (w := w) (k := km) (kh := kk) bl b0 b1 b2 hle)
                rw [hrun]
                refine ⟨_, rfl, ?_⟩
                split at h
                · simp at h; subst h
                  cases hp with
                  | pure hp => cases hp with
                    | sc hs' =>
                      obtain ⟨hq, rfl⟩ := lenC_sc hn
                      simp at hq
                      obtain ⟨rfl, rfl⟩ := hq
                      obtain rfl : l = 0 := by omega
                      obtain rfl : k' = 0 := by omega
                      simp
                      exact .c (repC_sc rfl)
                · rename_i es
                  split at h
                  · rename_i hall
                    simp at h; subst h
                    cases hp with
                    | pure hp =>
                      have hn' : n = es.length := by simpa [lenC] using hn.symm
                      have hlen : ((es.take k'.toNat).drop l.toNat).length = k'.toNat - l.toNat := by simp; omega
                      have := repP_slice hp (all_len hall) (l := l.toNat) (h := k'.toNat) (M := k'.toNat) (by omega) (by omega) (by omega) (by omega)
                      rw [← hlen] at this ⊢
                      exact .c (.full this)
                  · cases h
                · rename_i es
                  split at h
                  · rename_i hall
                    simp at h; subst h
                    cases hp with
                    | pure hp => cases hp
                    | full hp =>
                      have hlen : ((es.take k'.toNat).drop l.toNat).length = k'.toNat - l.toNat := by simp; omega
                      have := repP_slice hp (all_len hall) (l := l.toNat) (h := k'.toNat) (M := k'.toNat) (by omega) (by omega) (by omega) (by omega)
                      rw [← hlen] at this ⊢
                      exact .c (.full this)
                  · cases h
                · cases h
              · cases h
            · cases h
        · cases h
      · cases h
    · cases h
  · cases h

end
end Go.Abs

/- How the small memory stays right: a new object, a written object, an array that is written no more. -/
namespace Go.Abs
open Go.RowKit

section
variable {P : Program} {B : Base} {g g' : G} {m : Mem} {w w' : World}

theorem ObjOk.lt {i : Id} {o : MObj} (h : ObjOk g w i o) {b : Nat} (hb : blockOf (g.β i) = some b) : b < w.heap.size := by
  cases h with
  | blk us hv hh hl hr h1 hf =>
    rw [hv] at hb
    simp [blockOf] at hb
    subst hb
    exact (Array.getElem?_eq_some_iff.1 hh).1
  | arr us hz ho hs hr h1 hf =>
    have : (g.β i).ownBlock = some b := by
      revert hb
      rcases ho.2 with ⟨hv, _⟩ | ⟨gb, cap, cur, hv, _⟩ <;> rw [hv] <;> simp [blockOf, Value.ownBlock]
    exact (ho.lt b this).2
  | map ents hv hh hr hs hf =>
    rw [hv] at hb
    simp [blockOf] at hb
    subst hb
    exact (Array.getElem?_eq_some_iff.1 hh).1

/-- An object whose block has not been touched stays right. -/
theorem ObjOk.keep {i : Id} {o : MObj} (h : ObjOk g w i o) (hk : g.K i) (he : Ext g w g' w') (hb : ∀ b, blockOf (g.β i) = some b → w'.heap[b]? = w.heap[b]? ∧ ∀ o, g'.F b o → g.F b o) : ObjOk g' w' i o := by
  cases h with
  | blk us hv hh hl hr h1 hf =>
    rename_i cs b T
    obtain ⟨e1, e2⟩ := hb b (by rw [hv]; rfl)
    exact .blk us ((he.β i hk).trans hv) (e1.trans hh) hl (fun j c u hc hu => (hr j c u hc hu).ext he) h1 (fun o ho => hf o (e2 o ho))
  | arr us hz ho hs hr h1 hf =>
    refine .arr us ((he.sz i hk).trans hz) ?_ hs (fun k x hx j c hj => ?_) h1 (fun b o hb' hF => ?_)
    · rw [he.β i hk]
      refine ⟨ho.1, ?_⟩
      rcases ho.2 with hn | ⟨gb, cap, cur, hv, h0, hh, rest⟩
      · exact .inl hn
      · exact .inr ⟨gb, cap, cur, hv, h0, ((hb gb (by rw [hv]; rfl)).1).trans hh, rest⟩
    · obtain ⟨u, hu, hc⟩ := hr k x hx j c hj
      exact ⟨u, hu, hc.ext he.F he.cell⟩
    · rw [he.β i hk] at hb'
      exact hf b o hb' ((hb b hb').2 o hF)
  | map ents hv hh hr hs hf =>
    obtain ⟨e1, e2⟩ := hb _ (by rw [hv]; rfl)
    exact .map ents ((he.β i hk).trans hv) (e1.trans hh) hr hs (fun o ho => hf o (e2 o ho))

def addId (g : G) (i : Id) (V : Value) (s : Nat) : G := { K := fun j => j = i ∨ g.K j, β := fun j => if j = i then V else g.β j, sz := fun j => if j = i then s else g.sz j, F := g.F }

theorem ext_addId {i : Id} {V : Value} {s : Nat} (hi : ¬ g.K i) (hc : ∀ b o, g.F b o → w'.cell? ⟨b, o, none⟩ = w.cell? ⟨b, o, none⟩) : Ext g w (addId g i V s) w' :=
  ⟨fun _ h => .inr h, fun j hj => if_neg (by rintro rfl; exact hi hj), fun j hj => if_neg (by rintro rfl; exact hi hj), fun _ _ h => h, hc⟩

theorem mget_snoc (i : Id) (o : MObj) (j : Id) : ∀ l : List (Id × MObj), mget (l ++ [(i, o)]) j = match mget l j with
    | some x => some x
    | none => if j = i then some o else none
  | [] => by simp [mget]
  | (k, q) :: r => by
    by_cases h : j = k
    · simp [mget, h]
    · simp only [List.cons_append, mget, if_neg h]; exact mget_snoc i o j r

/-- A NEW OBJECT: 'row' is the one old block that may have been written (it belongs to the new object). -/
theorem inv_add (hI : Inv B g m w) (d : Nat) {m1 : Mem} (hsub : ∀ i o, mget m1.o i = some o → mget m.o i = some o) (hnx : m1.nx = m.nx ∧ m1.us = m.us) (hd : memU d m.us = false) {row : Option Nat} (hg : w.grownBy w' row)
    (hrow : ∀ b, row = some b → (∀ i o, mget m1.o i = some o → blockOf (g.β i) ≠ some b) ∧ (B.w0.heap.size ≤ b ∨ B.X b) ∧ ∀ o, g.F b o → w'.cell? ⟨b, o, none⟩ = w.cell? ⟨b, o, none⟩)
    {V : Value} {s : Nat} {obj : MObj} (hV : ∀ b, blockOf V = some b → w.heap.size ≤ b ∨ row = some b)
    (hobj : Ext g w (addId g (newId d m) V s) w' → ObjOk (addId g (newId d m) V s) w' (newId d m) obj) :
    Ext g w (addId g (newId d m) V s) w' ∧ Inv B (addId g (newId d m) V s) (addObj d m1 obj) w' := by
  have hnew : ¬ g.K (newId d m) := hI.fresh d m.nx (not_used hd)
  have hid : newId d m1 = newId d m := by simp [newId, hnx.1]
  have he : Ext g w (addId g (newId d m) V s) w' := ext_addId hnew fun b o hF => by
    by_cases hr : row = some b
    · exact (hrow b hr).2.2 o hF
    · exact World.cell?_of_block (w := w) (a := ⟨b, o, none⟩) (hg.block b (hI.flt b o hF) (fun e => hr e.symm))
  refine ⟨he, ?_⟩
  have hne : ∀ i o, mget m1.o i = some o → i ≠ newId d m := fun i o hi e => hnew (e ▸ (hI.ok i o (hsub i o hi)).1)
  have hadd : ∀ j, mget (addObj d m1 obj).o j = if j = newId d m then some obj else mget m1.o j := fun j => by
    simp only [addObj, mget_snoc, hid]
    by_cases h : j = newId d m
    · rw [if_pos h]
      cases hj : mget m1.o j with
      | none => simp [h]
      | some x => exact absurd h (hne j x hj)
    · rw [if_neg h, if_neg h]
      cases mget m1.o j <;> rfl
  have hold : ∀ i o b, mget m1.o i = some o → blockOf (g.β i) = some b → b < w.heap.size ∧ row ≠ some b := fun i o b hi hb =>
    ⟨(hI.ok i o (hsub i o hi)).2.lt hb, fun e => (hrow b e).1 i o hi hb⟩
  refine { ok := ?_, apart := ?_, fresh := ?_, flt := ?_, ext := hI.ext.trans he, fnew := hI.fnew, own := ?_, os := hg.os.trans hI.os, tape := hg.tape.trans hI.tape, output := hg.output.trans hI.output,
           size := Nat.le_trans hI.size hg.size, block := ?_ }
  · intro i o hi
    rw [hadd] at hi
    by_cases h : i = newId d m
    · rw [if_pos h] at hi
      simp at hi
      subst hi
      subst h
      exact ⟨.inl rfl, hobj he⟩
    · rw [if_neg h] at hi
      obtain ⟨hk, ho⟩ := hI.ok i o (hsub i o hi)
      refine ⟨.inr hk, ho.keep hk he fun b hb => ⟨?_, fun o h => h⟩⟩
      obtain ⟨h1, h2⟩ := hold i o b hi hb
      exact hg.block b h1 (fun e => h2 e.symm)
  · intro i j oi oj b hi hj hij hb hb'
    rw [hadd] at hi hj
    have key : ∀ k ok, mget m1.o k = some ok → (addId g (newId d m) V s).β k = g.β k := fun k ok hk => if_neg (hne k ok hk)
    by_cases h : i = newId d m
    · subst h
      rw [if_neg (Ne.symm hij)] at hj
      rw [key j oj hj] at hb'
      simp only [addId, if_true] at hb
      obtain ⟨h1, h2⟩ := hold j oj b hj hb'
      rcases hV b hb with h3 | h3
      · omega
      · exact h2 h3
    · rw [if_neg h] at hi
      by_cases h' : j = newId d m
      · subst h'
        rw [key i oi hi] at hb
        simp only [addId, if_true] at hb'
        obtain ⟨h1, h2⟩ := hold i oi b hi hb
        rcases hV b hb' with h3 | h3
        · omega
        · exact h2 h3
      · rw [if_neg h'] at hj
        rw [key i oi hi] at hb
        rw [key j oj hj] at hb'
        exact hI.apart i j oi oj b (hsub i oi hi) (hsub j oj hj) hij hb hb'
  · intro s' k hk hK
    have hk' : ¬ Used m s' k ∧ ¬ (s' = d ∧ k = m.nx) := by
      refine ⟨fun h => hk ?_, fun h => hk (.inr ⟨by simp only [addObj, hnx.1]; exact h.2, by simp only [addObj, hnx.2, h.1]; exact usd_self hd⟩)⟩
      rcases h with h | ⟨h1, h2⟩
      · exact .inl (by simpa only [addObj, hnx.1] using h)
      · refine .inr ⟨by simp only [addObj, hnx.1]; exact h1, ?_⟩
        simp only [addObj, hnx.2]
        exact usd_cons h2
    rcases hK with hK | hK
    · simp [newId] at hK; exact hk'.2 hK
    · exact hI.fresh s' k hk'.1 hK
  · intro b o hF
    exact Nat.lt_of_lt_of_le (hI.flt b o hF) hg.size
  · intro i o b hi hb
    rw [hadd] at hi
    by_cases h : i = newId d m
    · subst h
      simp only [addId, if_true] at hb
      rcases hV b hb with h3 | h3
      · exact .inl (Nat.le_trans hI.size h3)
      · exact (hrow b h3).2.1
    · rw [if_neg h] at hi
      have : (addId g (newId d m) V s).β i = g.β i := if_neg h
      rw [this] at hb
      exact hI.own i o b (hsub i o hi) hb
  · intro b hb hX
    rw [hg.block b (Nat.lt_of_lt_of_le hb hI.size) (fun e => ?_)]
    · exact hI.block b hb hX
    · rcases (hrow b e.symm).2.1 with h | h
      · omega
      · exact hX h

/-- A WRITTEN OBJECT. -/
theorem inv_upd (hI : Inv B g m w) {i : Id} {o o' : MObj} (hi : mget m.o i = some o) {row : Option Nat} (hg : w.grownBy w' row) (hb : ∀ b, row = some b → blockOf (g.β i) = some b)
    (hF : ∀ b x, row = some b → g.F b x → w'.cell? ⟨b, x, none⟩ = w.cell? ⟨b, x, none⟩) (hobj : Ext g w g w' → ObjOk g w' i o') :
    Ext g w g w' ∧ Inv B g { m with o := mset m.o i o' } w' := by
  have he : Ext g w g w' := ⟨fun _ h => h, fun _ _ => rfl, fun _ _ => rfl, fun _ _ h => h, fun b x h => by
    by_cases hr : row = some b
    · exact hF b x hr h
    · exact World.cell?_of_block (w := w) (a := ⟨b, x, none⟩) (hg.block b (hI.flt b x h) (fun e => hr e.symm))⟩
  refine ⟨he, ?_⟩
  refine { ok := ?_, apart := ?_, fresh := hI.fresh, flt := fun b x h => Nat.lt_of_lt_of_le (hI.flt b x h) hg.size, ext := hI.ext.trans he, fnew := hI.fnew, own := ?_, os := hg.os.trans hI.os,
           tape := hg.tape.trans hI.tape, output := hg.output.trans hI.output, size := Nat.le_trans hI.size hg.size, block := ?_ }
  · intro j oj hj
    simp only [mget_mset] at hj
    by_cases h : j = i
    · subst h
      rw [if_pos rfl] at hj
      simp at hj
      subst hj
      exact ⟨(hI.ok _ _ hi).1, hobj he⟩
    · rw [if_neg h] at hj
      obtain ⟨hk, ho⟩ := hI.ok j oj hj
      refine ⟨hk, ho.keep hk he fun b hb' => ⟨?_, fun _ h => h⟩⟩
      exact hg.block b (ho.lt hb') (fun e => hI.apart j i oj o b hj hi h hb' (hb b e.symm))
  · intro j k oj ok b hj hk hjk
    have : ∀ j oj, mget (mset m.o i o') j = some oj → ∃ oj', mget m.o j = some oj' := fun j oj hj => by
      rw [mget_mset] at hj
      by_cases h : j = i
      · subst h; exact ⟨_, hi⟩
      · rw [if_neg h] at hj; exact ⟨_, hj⟩
    obtain ⟨oj', hj'⟩ := this j oj hj
    obtain ⟨ok', hk'⟩ := this k ok hk
    exact hI.apart j k oj' ok' b hj' hk' hjk
  · intro j oj b hj hb'
    simp only [mget_mset] at hj
    by_cases h : j = i
    · subst h; exact hI.own j o b hi hb'
    · rw [if_neg h] at hj; exact hI.own j oj b hj hb'
  · intro b hb' hX
    rw [hg.block b (Nat.lt_of_lt_of_le hb' hI.size) (fun e => ?_)]
    · exact hI.block b hb' hX
    · rcases hI.own i o b hi (hb b e.symm) with h | h
      · omega
      · exact hX h

theorem grownBy_refl (w : World) (row : Option Nat) : w.grownBy w row := ⟨rfl, rfl, rfl, Nat.le_refl _, fun _ _ _ => rfl⟩
theorem grownBy_drew (w : World) (row : Option Nat) : w.grownBy w.drew row := ⟨rfl, rfl, rfl, Nat.le_refl _, fun _ _ _ => rfl⟩

def frozenG (g : G) (i : Id) (n : Nat) : G := { g with F := fun b o => g.F b o ∨ (blockOf (g.β i) = some b ∧ o < n) }

/-- AN ARRAY THAT IS WRITTEN NO MORE. -/
theorem inv_freeze (hI : Inv B g m w) {i : Id} {e : TypeId} {sz : Nat} {es : List (List Cell)} {fr : Bool} (hi : mget m.o i = some (.arr e sz es fr)) :
    Ext g w (frozenG g i (es.length * sz)) w ∧ Inv B (frozenG g i (es.length * sz)) { m with o := mset m.o i (.arr e sz es true) } w := by
  have he : Ext g w (frozenG g i (es.length * sz)) w := ⟨fun _ h => h, fun _ _ => rfl, fun _ _ => rfl, fun _ _ h => .inl h, fun _ _ _ => rfl⟩
  refine ⟨he, ?_⟩
  obtain ⟨hki, hoi⟩ := hI.ok i _ hi
  refine { ok := ?_, apart := ?_, fresh := hI.fresh, flt := ?_, ext := hI.ext.trans he, fnew := ?_, own := ?_, os := hI.os, tape := hI.tape, output := hI.output, size := hI.size, block := hI.block }
  · intro j oj hj
    simp only [mget_mset] at hj
    by_cases h : j = i
    · subst h
      rw [if_pos rfl] at hj
      simp at hj
      subst hj
      refine ⟨hki, ?_⟩
      cases hoi with
      | arr us hz ho hs hr h1 hf =>
        refine .arr us hz ho hs (fun k x hx j' c hj' => ?_) h1 (fun b o hb hF => ⟨rfl, ?_⟩)
        · obtain ⟨u, hu, hc⟩ := hr k x hx j' c hj'
          exact ⟨u, hu, hc.ext he.F he.cell⟩
        · rcases hF with hF | ⟨_, hlt⟩
          · exact (hf b o hb hF).2
          · exact hlt
    · rw [if_neg h] at hj
      obtain ⟨hk, ho⟩ := hI.ok j oj hj
      refine ⟨hk, ho.keep hk he fun b hb => ⟨rfl, fun o hF => ?_⟩⟩
      rcases hF with hF | ⟨hb', _⟩
      · exact hF
      · exact (hI.apart j i oj _ b hj hi h hb hb').elim
  · intro j k oj ok b hj hk hjk
    have : ∀ j oj, mget (mset m.o i (.arr e sz es true)) j = some oj → ∃ oj', mget m.o j = some oj' := fun j oj hj => by
      rw [mget_mset] at hj
      by_cases h : j = i
      · subst h; exact ⟨_, hi⟩
      · rw [if_neg h] at hj; exact ⟨_, hj⟩
    obtain ⟨oj', hj'⟩ := this j oj hj
    obtain ⟨ok', hk'⟩ := this k ok hk
    exact hI.apart j k oj' ok' b hj' hk' hjk
  · intro b o hF
    rcases hF with hF | ⟨hb, _⟩
    · exact hI.flt b o hF
    · exact hoi.lt hb
  · intro b o hF
    rcases hF with hF | ⟨hb, _⟩
    · exact hI.fnew b o hF
    · exact .inr (hI.own i _ b hi hb)
  · intro j oj b hj hb
    simp only [mget_mset] at hj
    by_cases h : j = i
    · subst h; exact hI.own j _ b hi hb
    · rw [if_neg h] at hj; exact hI.own j oj b hj hb

/-- A draw, or whatever leaves the old blocks alone. -/
theorem inv_quiet (hI : Inv B g m w) (hg : w.grownBy w' none) : Ext g w g w' ∧ Inv B g m w' := by
  have he : Ext g w g w' := ⟨fun _ h => h, fun _ _ => rfl, fun _ _ => rfl, fun _ _ h => h, fun b x h => World.cell?_of_block (w := w) (a := ⟨b, x, none⟩) (hg.block b (hI.flt b x h) (by simp))⟩
  refine ⟨he, ?_⟩
  refine { ok := ?_, apart := hI.apart, fresh := hI.fresh, flt := fun b x h => Nat.lt_of_lt_of_le (hI.flt b x h) hg.size, ext := hI.ext.trans he, fnew := hI.fnew, own := hI.own, os := hg.os.trans hI.os,
           tape := hg.tape.trans hI.tape, output := hg.output.trans hI.output, size := Nat.le_trans hI.size hg.size, block := ?_ }
  · intro j oj hj
    obtain ⟨hk, ho⟩ := hI.ok j oj hj
    exact ⟨hk, ho.keep hk he fun b hb => ⟨hg.block b (ho.lt hb) (by simp), fun _ h => h⟩⟩
  · intro b hb hX
    rw [hg.block b (Nat.lt_of_lt_of_le hb hI.size) (by simp)]
    exact hI.block b hb hX

end
end Go.Abs
