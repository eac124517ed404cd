/- The evaluator where slices are put into a slice of one's own and written through it. -/
import Derived.Test.YthkimpoeiighoaaAbsSa
namespace Go.Abs
open Go.RowKit
set_option linter.unusedVariables false
set_option linter.unusedSimpArgs false
/-- A place in a region: kd 0 an element is stored, 1 an element is loaded, 2 the slice in slot d becomes data. -/
structure Cut where
  id : Nat
  i : Nat
  kd : Nat
  d : Nat
def ctF : List Cut → Nat → Option Cut
  | [], _ => none
  | c :: r, j => match Nat.beq c.id j with
    | true => some c
    | false => ctF r j
def mkO (o : Oper) : Option (Nat × Nat × Nat × Nat) := match o.op, o.dst, o.guard with
  | .makeSlice T (.tmp a) (.tmp b), some d, none => some (T, a, b, d)
  | _, _, _ => none
theorem mkO_ok {o : Oper} {T a b d : Nat} (h : mkO o = some (T, a, b, d)) : o.op = .makeSlice T (.tmp a) (.tmp b) ∧ o.dst = some d ∧ o.guard = none := by
  unfold mkO at h
  split at h
  · rename_i h1 h2 h3; cases h; exact ⟨h1, h2, h3⟩
  · cases h
section
variable {P : Program} {B : Base} {τ : List (Nat × TI)} {N : Nat} {qc : Nat → Bool} {CK : Nat → KT} {np : NPT}
def stE (τ : List (Nat × TI)) (o : Oper) (K : TK) : TK := fun t m => match stO o with
  | some (T, p, v) => tyK T (fun ti => (ti.size = 1 ∧ ti.agg = false) ∧ evK t (.tmp p) fun xp => evK t (.tmp v) fun xv => ∃ (k : Nat) (cv : Cell) (cs : List Cell), (xp = .c (.ptr (.x 0) k) ∧ xv = .c cv ∧ k < cs.length ∧ mget m.o (.x 0) = some (.blk cs)) ∧
      ((msetK (.x 0) (.blk (cs.set k cv)) m.o fun o' => setOK m o' fun m' => K t m') ∨
       ∃ cv' m1, pur m cv = some (cv', m1) ∧ mget m1.o (.x 0) = some (.blk cs) ∧ msetK (.x 0) (.blk (cs.set k cv')) m1.o fun o' => setOK m1 o' fun m' => K t m')) τ
  | none => False
theorem wr_one {cs : List Cell} {k : Nat} {c : Cell} (h : k < cs.length) : wr cs k [c] = cs.set k c := by
  rw [List.set_eq_take_append_cons_drop, if_pos h]
  rfl
theorem stE_ok (hτ : TyOk P τ) (hG : GhB B) {o : Oper} {K : TK} {t : List (Nat × AV)} {m : Mem} {a : Act} {w : World} (hR : RS B (tget t) m a w) (h : stE τ o K t m) :
    (o.guard = none ∧ o.dst = none) ∧ ∃ w', (execOp a.eval o).run P w = .ok .skip w' ∧ ∃ t' m', RS B (tget t') m' a w' ∧ K t' m' := by
  unfold stE at h
  split at h
  · rename_i T p v ho
    obtain ⟨g1, g2, g3⟩ := stO_ok ho
    obtain ⟨ti, h1, ⟨s1, a1⟩, h⟩ := tyK_ok hτ h
    obtain ⟨xp, v1, h⟩ := evK_ok h
    obtain ⟨xv, v2, k, cv, cs, ⟨rfl, rfl, hk, hm⟩, h9⟩ := evK_ok h
    replace h := h9; clear h9
    obtain ⟨⟨g, hs, hI⟩, hds, hsz⟩ := hR
    have q1 := ev_rep hs v1
    have q2 := ev_rep hs v2
    refine ⟨⟨g3, g2⟩, ?_⟩
    rcases h with h | ⟨cv', m1, hp, hm1, h⟩
    · have h := setOK_ok (msetK_ok h)
      obtain ⟨w', g', r1, r2, r3⟩ := storeF_ok (m' := { m with o := mset m.o (.x 0) (.blk (cs.set k cv)) }) hI h1 q1 q2 (by
        simp [storeF, avCells, s1, hm, Nat.succ_le_of_lt hk, wr_one hk])
      exact ⟨w', by simp [execOp, g1, r1], t, _, ⟨⟨g', fun s x hx => by obtain ⟨u, hu, hr⟩ := hs s x hx; exact ⟨u, hu, hr.ext r2⟩, r3⟩, hds, hsz⟩, h⟩
    · have h := setOK_ok (msetK_ok h)
      obtain ⟨g1', hE1, hI1, hP1⟩ := pur_ok hI (by cases q2 with | c h => exact h) hp
      obtain ⟨w', g', r1, r2, r3⟩ := storeF_ok (x := .c cv') (m' := { m1 with o := mset m1.o (.x 0) (.blk (cs.set k cv')) }) hI1 h1 (q1.ext hE1) (.c (.pure hP1)) (by
        simp [storeF, avCells, s1, hm1, Nat.succ_le_of_lt hk, wr_one hk])
      exact ⟨w', by simp [execOp, g1, r1], t, _, ⟨⟨g', fun s x hx => by obtain ⟨u, hu, hr⟩ := hs s x hx; exact ⟨u, hu, (hr.ext hE1).ext r2⟩, r3⟩, hds, hsz⟩, h⟩
  · exact h.elim
def ldE (τ : List (Nat × TI)) (N : Nat) (o : Oper) (K : TK) : TK := fun t m => match ldO o with
  | some (T, p, d) => tyK T (fun ti => (ti.size = 1 ∧ ti.agg = false ∧ d < N) ∧ evK t (.tmp p) fun xp => ∃ (k : Nat) (c : Cell) (cs : List Cell), (xp = .c (.ptr (.x 0) k) ∧ mget m.o (.x 0) = some (.blk cs) ∧ cs[k]? = some c) ∧ tsetK d (.c c) t fun t' => K t' m) τ
  | none => False
theorem slots_tset {g : G} {w : World} {t : List (Nat × AV)} {a : Act} (hs : Slots g w (tget t) a) {d : Nat} {x : AV} {v : Value} (hd : d < a.tmps.size) (hv : RepA g w x v) : Slots g w (tget (tset t d x)) (a.put (some d) v) := by
  have := slots_put hs (d := some d) (x := some x) (v := v) (fun k y hk hy => by cases hk; cases hy; exact ⟨hd, hv⟩)
  have e : tget (tset t d x) = put (some d) (some x) (tget t) := by funext k; simp [put, tget_tset]
  rw [e]
  exact this
theorem ldE_ok (hτ : TyOk P τ) (hG : GhB B) (hN : B.N = N) {o : Oper} {K : TK} {t : List (Nat × AV)} {m : Mem} {a : Act} {w : World} (hR : RS B (tget t) m a w) (h : ldE τ N o K t m) :
    o.guard = none ∧ ∃ v d, o.dst = some d ∧ (execOp a.eval o).run P w = .ok (.value v) w ∧ ∃ t' m', RS B (tget t') m' (a.put (some d) v) w ∧ K t' m' := by
  unfold ldE at h
  split at h
  · rename_i T p d ho
    obtain ⟨g1, g2, g3⟩ := ldO_ok ho
    obtain ⟨ti, h1, ⟨s1, a1, hd⟩, h⟩ := tyK_ok hτ h
    obtain ⟨xp, v1, k, c, cs, ⟨rfl, hm, hc⟩, h⟩ := evK_ok h
    have h := tsetK_ok h
    obtain ⟨⟨g, hs, hI⟩, hds, hsz⟩ := hR
    have q1 := ev_rep hs v1
    obtain ⟨u, r1, r2⟩ := loadF_ok (x := .c c) hI h1 q1 (by simp [loadF, hm, cut, a1, hc])
    exact ⟨g3, u, d, g2, by simp [execOp, g1, r1], _, m, ⟨⟨g, slots_tset hs (by rw [hsz, hN]; exact hd) r2, hI⟩, by rw [defers_put]; exact hds, by rw [size_put]; exact hsz⟩, h⟩
  · exact h.elim
/-- The address of an element. -/
def ixO (o : Oper) : Option (Nat × Nat × Operand × Nat) := match o.op, o.dst, o.guard with
  | .indexAddr T (.tmp a) b, some d, none => some (T, a, b, d)
  | _, _, _ => none
theorem ixO_ok {o : Oper} {T a d : Nat} {b : Operand} (h : ixO o = some (T, a, b, d)) : o.op = .indexAddr T (.tmp a) b ∧ o.dst = some d ∧ o.guard = none := by
  unfold ixO at h
  split at h
  · rename_i h1 h2 h3; cases h; exact ⟨h1, h2, h3⟩
  · cases h
def ixE (τ : List (Nat × TI)) (N : Nat) (o : Oper) (K : TK) : TK := fun t m => match ixO o with
  | some (T, a, b, d) => tyK T (fun ti => match ti.d with
    | .slice e => tyK e (fun te => (te.size = 1 ∧ d < N) ∧ evK t (.tmp a) fun xa => evK t b fun xb => ∃ (n k : Nat), (xa = .c (.view (.x 1) 0 n) ∧ xb = .c (.sc (.int .i64 k)) ∧ k < n) ∧ tsetK d (.c (.ptr (.x 0) k)) t fun t' => K t' m) τ
    | _ => False) τ
  | none => False
theorem ixE_ok (hτ : TyOk P τ) (hG : GhB B) (hN : B.N = N) {o : Oper} {K : TK} {t : List (Nat × AV)} {m : Mem} {a : Act} {w : World} (hR : RS B (tget t) m a w) (h : ixE τ N o K t m) :
    o.guard = none ∧ ∃ v d, o.dst = some d ∧ (execOp a.eval o).run P w = .ok (.value v) w ∧ ∃ t' m', RS B (tget t') m' (a.put (some d) v) w ∧ K t' m' := by
  unfold ixE at h
  split at h
  · rename_i T x y d ho
    obtain ⟨g1, g2, g3⟩ := ixO_ok ho
    obtain ⟨ti, hti, h⟩ := tyK_ok hτ h
    split at h
    · rename_i e hd'
      obtain ⟨te, hte, ⟨⟨hs1, hdN⟩, h⟩⟩ := tyK_ok hτ h
      obtain ⟨xa, va, h⟩ := evK_ok h
      obtain ⟨xb, vb, n, k, ⟨rfl, rfl, hkn⟩, h9⟩ := evK_ok h
      replace h := tsetK_ok h9; clear h9
      obtain ⟨⟨g, hs, hI⟩, hds, hsz⟩ := hR
      obtain ⟨i, dd, zv, hi, hd, hz', rfl⟩ := tiOf_spec hti
      obtain rfl := descOf_slice hd'
      obtain ⟨i', dd', zv', hi', hd'', hz'', rfl⟩ := tiOf_spec hte
      have q1 := ev_rep hs va
      have q2 := isInt (ev_rep hs vb)
      obtain ⟨b, cap, h1, h2, h3, h4, h5, h6⟩ := gh_at hG hI
      have hv : ∃ cp, a.eval (.tmp x) = .slice (some ⟨b, 0, none⟩) n cp := by
        generalize a.eval (.tmp x) = V at q1
        cases q1 with
        | c q1 => cases q1 with
          | pure h => cases h
          | view hk' hv hle ha hsp =>
            rw [h4] at hv
            simp at hv
            obtain ⟨rfl, rfl, rfl⟩ := hv
            have := ha (.inr rfl)
            subst this
            exact ⟨_, by simp [Addr.add_lit]; rfl⟩
      obtain ⟨cp, hv⟩ := hv
      have hrun := run_at (P := P) hd hi' hs1 (b := b) (len := n) (cap := cp) (k := k) hkn w
      refine ⟨g3, _, d, g2, by simp [execOp, g1, hv, q2, hrun], _, m, ⟨⟨g, slots_tset hs (by rw [hsz, hN]; exact hdN) (.c (.ptr h1 h3)), hI⟩, by rw [defers_put]; exact hds, by rw [size_put]; exact hsz⟩, h⟩
    · exact h.elim
  · exact h.elim
def puE (d : Nat) (K : TK) : TK := fun t m => evK t (.tmp d) fun x => ∃ (cs cs' : List Cell) (m1 : Mem), (x = .c (.view (.x 1) 0 cs.length) ∧ mget m.o (.x 0) = some (.blk cs) ∧ purL m cs = some (cs', m1)) ∧
  mdelK (.x 0) m1.o fun o' => setOK m1 o' fun m' => tsetK d (.c (.lst (cs'.map fun c => [c]))) t fun t' => K t' m'
theorem puE_ok (hG : GhB B) {d : Nat} {K : TK} {t : List (Nat × AV)} {m : Mem} {a : Act} {w : World} (hR : RS B (tget t) m a w) (h : puE d K t m) : ∃ t' m', RS B (tget t') m' a w ∧ K t' m' := by
  unfold puE at h
  obtain ⟨x, v1, cs, cs', m1, ⟨rfl, hm, hp⟩, h⟩ := evK_ok h
  have h := tsetK_ok (setOK_ok (mdelK_ok h))
  obtain ⟨⟨g, hs, hI⟩, hds, hsz⟩ := hR
  obtain ⟨u, hu, hv⟩ := hs d _ (by simpa [ev] using v1)
  obtain ⟨g', r1, r2, r3⟩ := gh_out hG hI hm hp hv
  refine ⟨_, _, ⟨⟨g', fun s x hx => ?_, r2⟩, hds, hsz⟩, h⟩
  rw [tget_tset] at hx
  split at hx
  · rename_i e
    cases hx
    subst e
    exact ⟨u, hu, r3⟩
  · obtain ⟨u', hu', hr⟩ := hs s x hx
    exact ⟨u', hu', hr.ext r1⟩
def mkE (τ : List (Nat × TI)) (N : Nat) (o : Oper) (K : TK) : TK := fun t m => match mkO o with
  | some (T, x, y, d) => tyK T (fun ti => match ti.d with
    | .slice e => tyK e (fun te => (tyGood te = true ∧ te.size = 1 ∧ d < N ∧ memU d [] = false ∧ lT t = true ∧ lO m.o = true) ∧ constCellsNK te.zero fun z => evK t (.tmp x) fun a => evK t (.tmp y) fun b => ∃ n : Nat, (a = .c (.sc (.int .i64 n)) ∧ b = .c (.sc (.int .i64 n)) ∧ n * te.bytes ≤ 140737488355328) ∧
        tsetK d (.c (.view (.x 1) 0 n)) t fun t' => K t' ⟨(.x 0, .blk (List.replicate n z).flatten) :: m.o, m.nx + 2, []⟩) τ
    | _ => False) τ
  | none => False
theorem mkE_ok (hτ : TyOk P τ) (hN : B.N = N) {o : Oper} {K : TK} {t : List (Nat × AV)} {m : Mem} {a : Act} {w : World} (hR : RS B (tget t) m a w) (h : mkE τ N o K t m) :
    o.guard = none ∧ ∃ v d w', o.dst = some d ∧ (execOp a.eval o).run P w = .ok (.value v) w' ∧ ∃ B', GhB B' ∧ Under B B' ∧ ∃ t' m', RS B' (tget t') m' (a.put (some d) v) w' ∧ K t' m' := by
  unfold mkE at h
  split at h
  · rename_i T x y d ho
    obtain ⟨g1, g2, g3⟩ := mkO_ok ho
    obtain ⟨ti, hti, h⟩ := tyK_ok hτ h
    split at h
    · rename_i e hd'
      obtain ⟨te, hte, ⟨⟨hgood, hs1, hdN, hmU, hlT, hlO⟩, h⟩⟩ := tyK_ok hτ h
      obtain ⟨z, hz, h⟩ := constCellsNK_ok h
      obtain ⟨xa, va, h⟩ := evK_ok h
      obtain ⟨xb, vb, n, ⟨rfl, rfl, hbn⟩, h9⟩ := evK_ok h
      replace h := h9; clear h9
      have h := tsetK_ok h
      obtain ⟨hs0, hb0, hzl⟩ := tyGood_ok hgood
      obtain ⟨⟨g, hs, hI⟩, hds, hsz⟩ := hR.bump
      have hus : (bump m).us = [] := bump_us m
      obtain ⟨v, w', gn, r1, r2, r3, r4⟩ := makeSlice_ok hI d (by rw [hus]; exact hmU) hti hd' hte hz hzl hs0 hb0 hbn .i64 .i64
      have hv : v = .slice (some ⟨w.heap.size, 0, none⟩) n n := by
        obtain ⟨i, dd, zv, hi, hd, hz', rfl⟩ := tiOf_spec hti
        obtain rfl := descOf_slice hd'
        obtain ⟨i', dd', zv', hi', hd'', hz'', rfl⟩ := tiOf_spec hte
        simp only at hbn hb0
        have hn48 : n ≤ 140737488355328 := Nat.le_trans (Nat.le_mul_of_pos_right n (by omega)) hbn
        have hbn' : (i'.bytes : Int) * (n : Int) ≤ 281474976710656 := by
          have h : ((n * i'.bytes : Nat) : Int) ≤ 140737488355328 := by omega
          rw [Nat.mul_comm] at h
          rw [Int.natCast_mul] at h
          omega
        have hr := run_make (P := P) w T e i' zv' hd hi' hz'' .i64 .i64 n n (by omega) (Int.le_refl _) hbn' (by omega)
        simp only [Int.toNat_natCast] at hr
        rw [hr] at r1
        cases r1
        rfl
      subst hv
      have hfr : ∀ i ob, mget m.o i = some ob → i ≠ newId d (bump m) := fun i ob hi e => by
        obtain ⟨hk, _⟩ := hI.ok i ob (by rw [bump_o]; exact hi)
        subst e
        exact hI.fresh _ _ (not_used (by rw [hus]; exact hmU)) hk
      have hadd : (addObj d (bump m) (.arr e te.size (List.replicate n z) false)).o = m.o ++ [(newId d (bump m), .arr e te.size (List.replicate n z) false)] := by simp [addObj, bump_o]
      have hio : mget (addObj d (bump m) (.arr e te.size (List.replicate n z) false)).o (newId d (bump m)) = some (.arr e 1 (List.replicate n z) false) := by
        rw [hadd, mget_snoc]
        split
        · rename_i ob hob; exact absurd rfl (hfr _ _ hob)
        · rw [if_pos rfl, hs1]
      obtain ⟨c1, c2, c3, c4⟩ := to_gh (b := w.heap.size) r4 hio (by rw [List.length_replicate]; exact r3) (o' := m.o) (fun i ob hi => ⟨by rw [hadd, mget_snoc, hi], hfr i ob hi⟩) hlO
      rw [List.length_replicate] at c1 c2 c3 c4
      have e2 := isInt (ev_rep hs va)
      have e3 := isInt (ev_rep hs vb)
      refine ⟨g3, _, d, w', g2, by simp [execOp, g1, e2, e3, r1], _, c1, gh_under r4, _, _, ⟨⟨_, slots_tset (fun s x hx => ?_) (by rw [hsz, hN]; exact hdN) c4, ?_⟩, by rw [defers_put]; exact hds, by rw [size_put]; exact hsz⟩, h⟩
      · obtain ⟨u, hu, hr⟩ := hs s x hx
        refine ⟨u, hu, c3 x u ?_ (hr.ext r2)⟩
        exact lT_get hlT hx
      · exact { ok := c2.ok, apart := c2.apart, fresh := fun s k hu => c2.fresh s k fun hU => hu (by
                  have hb : (bump m).nx ≤ m.nx + 1 := by unfold bump; split <;> simp
                  rcases hU with h | ⟨h, _⟩
                  · exact .inl (by have h : k < (bump m).nx := h; show k < m.nx + 2; omega)
                  · exact .inl (by have h : k = (bump m).nx := h; show k < m.nx + 2; omega)), flt := c2.flt, ext := c2.ext, fnew := c2.fnew, own := c2.own, os := c2.os, tape := c2.tape, output := c2.output, size := c2.size, block := c2.block }
    · exact h.elim
  · exact h.elim
end
end Go.Abs
