/- One step of a dam, part by part. No program. -/
import Derived.Test.YtfhnicamjcfddaaGreatDoorShlf99
import Derived.Test.YtfhnicamjcfddaaGreatDoorAbsDg
namespace Go.Proofs
open Go Go.Abs
set_option linter.unusedSimpArgs false
set_option linter.unusedVariables false
abbrev cNil : Cell := .sc (.slice none 0 0)
/-- What the step works on. -/
structure Wk where
  d : Dm
  s : Dt
  v : Int
  rl : Int
  r : Rc
  rel : Int
  left : Int
  lv : Int
def wkC (x : Wk) (cu cg : Cell) : List Cell := [.lst (eP x.d.r.st), IC x.d.r.dead, IC x.d.r.low, IC x.d.r.full, IC x.d.r.sur, IC x.d.r.crest, .lst (eU x.d.us), .lst (eG x.d.gs), IC x.d.gr, IC x.s.vol, IC x.s.rel, .lst (eQ x.s.us), .lst (eS x.s.gs), IC x.v, IC x.rl, cu, cg,
  IC x.r.inf, IC x.r.los, IC x.r.tur, IC x.r.spi, IC x.r.ovr, IC x.r.pow, IC x.r.sta, IC x.rel, IC x.left, IC x.lv]
def fre (d : Dm) (left : Int) : Int := if left - valC d.r.st d.r.dead < 0 then 0 else left - valC d.r.st d.r.dead
theorem fre_in {d : Dm} {left : Int} (h : 0 ≤ valC d.r.st d.r.dead) (hl : 0 ≤ left) : 0 ≤ fre d left ∧ fre d left ≤ left := by
  unfold fre
  split <;> omega
def R_free : RG := fun args os k => ∃ (x : Wk) (cu cg : Cell), args = [.c (.ptr (.x 0) 0)] ∧ os = [.blk (wkC x cu cg)] ∧ noC cu = true ∧ noC cg = true ∧ ckD x.d = 0 ∧ (0 ≤ x.left ∧ x.left ≤ 4611686018427387904) ∧ k (I (fre x.d x.left)) [.blk (wkC x cu cg)]
/-- The units' part: how they stand, the flow, the power, the starts. -/
def tuW (x : Wk) : Int := if 200 * x.d.gr < (if fre x.d x.left < x.rel then fre x.d x.left else x.rel) then 200 * x.d.gr else (if fre x.d x.left < x.rel then fre x.d x.left else x.rel)
structure WkIn (x : Wk) : Prop where
  v : validD x.d x.s = true
  f : x.d.fin
  rel : 0 ≤ x.rel ∧ x.rel ≤ 1073741824
  left : 0 ≤ x.left ∧ x.left ≤ 4611686018427387904
abbrev Wk.run (x : Wk) (q p c : Int) : Wk := ⟨x.d, x.s, x.v, x.rl, ⟨x.r.inf, x.r.los, q, x.r.spi, x.r.ovr, p, c⟩, x.rel, x.left, x.lv⟩
def tuF (e : Int) (qs : Ls) (i : Nat) : Int := if e = 0 then qs.getD i 0 else 0
theorem sum_nng : ∀ {l : Ls}, (∀ v ∈ l, 0 ≤ v) → 0 ≤ l.sum
  | [], _ => by simp
  | a :: l, h => by
    have h1 := h a (by simp)
    have h2 := sum_nng (l := l) fun v hv => h v (by simp [hv])
    rw [List.sum_cons]
    omega
theorem mayL_nn {us : List Un} {ss : List Us} {qs : Ls} (h : mayL us ss qs = true) : ∀ v ∈ qs, 0 ≤ v := fun v hv => by
  obtain ⟨h1, h2⟩ := mayL_len h
  obtain ⟨i, hi, rfl⟩ := List.getElem_of_mem hv
  exact (mayV_q (mayL_at h (List.getElem?_eq_getElem (show i < us.length by omega)) (List.getElem?_eq_getElem (show i < ss.length by omega)) (List.getElem?_eq_getElem hi))).1
theorem sum_drop {l : Ls} {i : Nat} {v : Int} (h : l[i]? = some v) : (l.drop i).sum = v + (l.drop (i + 1)).sum := by rw [drop_of h, List.sum_cons]
/-- Where the units' loop is. -/
structure tuAt (x : Wk) (e : Int) (qs : Ls) (i : Nat) (O : List Us) (q p c : Int) : Prop where
  hi : i ≤ x.d.us.length
  l : O.length = i
  v : ∀ (j : Nat) u z, x.d.us[j]? = some u → O[j]? = some z → validB u z = true
  q0 : 0 ≤ q
  s : if e = 0 then q + (qs.drop i).sum = qs.sum else q = 0
  z : i = 0 → q = 0 ∧ p = 0 ∧ c = 0
theorem tuAt.zero {x : Wk} {e : Int} {qs : Ls} : tuAt x e qs 0 [] 0 0 0 := ⟨Nat.zero_le _, rfl, fun j u z _ h => by simp at h, Int.le_refl _, by split <;> simp, fun _ => ⟨rfl, rfl, rfl⟩⟩
theorem tuAt.le {x : Wk} {e : Int} {qs : Ls} {i : Nat} {O : List Us} {q p c w : Int} (h : tuAt x e qs i O q p c) (hw : 0 ≤ w) (hq : e = 0 → mayL x.d.us x.s.us qs = true ∧ qs.sum ≤ w) : q ≤ w := by
  have hs := h.s
  split at hs
  · rename_i he
    obtain ⟨h1, h2⟩ := hq he
    have := sum_nng (l := qs.drop i) fun v hv => mayL_nn h1 v (List.mem_of_mem_drop hv)
    omega
  · omega
theorem tuAt.step {x : Wk} {e : Int} {qs : Ls} {i : Nat} {O : List Us} {q p c w f p' c' : Int} {u : Un} {z : Us} (h : tuAt x e qs i O q p c) (hw : 0 ≤ w) (hq : e = 0 → mayL x.d.us x.s.us qs = true ∧ qs.sum ≤ w) (hu : x.d.us[i]? = some u)
    (hf : if e = 0 then qs[i]? = some f else f = 0) (hz : validB u z = true) : tuAt x e qs (i + 1) (O ++ [z]) (q + f) p' c' ∧ q + f ≤ w := by
  have hi := (List.getElem?_eq_some_iff.1 hu).1
  have key : tuAt x e qs (i + 1) (O ++ [z]) (q + f) p' c' := by
    refine ⟨hi, by simp [h.l], fun j u' z' h1 h2 => ?_, ?_, ?_, fun hh => by omega⟩
    · rcases Nat.lt_or_ge j O.length with hj | hj
      · rw [List.getElem?_append_left hj] at h2
        exact h.v j u' z' h1 h2
      · rw [List.getElem?_append_right hj] at h2
        have hj2 : j = i := by
          have := (List.getElem?_eq_some_iff.1 h2).1
          have := h.l
          simp only [List.length_singleton] at *
          omega
        subst hj2
        rw [h.l, Nat.sub_self] at h2
        rw [hu] at h1
        cases h1
        cases h2
        exact hz
    · have := h.q0
      split at hf
      · rename_i he
        have := mayL_nn (hq he).1 f (List.mem_of_getElem? hf)
        omega
      · omega
    · have hs := h.s
      split
      · rename_i he
        rw [if_pos he] at hf hs
        rw [sum_drop hf] at hs
        omega
      · rename_i he
        rw [if_neg he] at hf hs
        omega
  exact ⟨key, key.le hw hq⟩
theorem next_or {u : Un} {z : Us} {q : Int} (h : validB u z = true) : validB u (if (nextS u z q).2.2 = 0 then (nextS u z q).1 else ⟨0, 1, z.ot⟩) = true := by
  split
  · rename_i e
    refine may_next ?_
    unfold nextS at e
    unfold mayV
    split at e
    · rename_i h1; exact absurd e h1
    · split at e
      · cases e
      · split at e
        · cases e
        · rename_i h1; simp [h]; simpa using h1
  · simp only [validB, Bool.and_eq_true, decide_eq_true_eq] at h ⊢
    exact ⟨h.1, by simp [fitB, inB]⟩
theorem purCV {m : Mem} {i : Abs.Id} {e sz n : Nat} {es : List (List Cell)} {f : Bool} (hm : mget m.o i = some (.arr e sz es f)) (hn : n = es.length) : pur m (.view i 0 n) = some (.lst es, { m with o := mset m.o i (.arr e sz es true) }) := by simp [pur, hm, hn]
def R_turb : RD := fun cs k => ∃ x : Wk, cs = wkC (x.run 0 0 0) cNil cNil ∧ WkIn x ∧
  ∀ (us' : List Us) (q p c : Int), us'.length = x.d.us.length → usB x.d.us us' = true → (0 ≤ q ∧ q ≤ tuW x) → (x.d.us = [] → q = 0 ∧ p = 0 ∧ c = 0) →
    k (wkC (x.run q p c) (.lst (eQ us')) cNil)
def gtW (x : Wk) : Int := (if fre x.d x.left < x.rel then fre x.d x.left else x.rel) - x.r.tur
def gtQ (x : Wk) : List Gs × Int × Int := setS x.d.gs x.s.gs x.lv (gtW x)
def spW (x : Wk) : Int := if fre x.d x.left - x.r.tur < (gtQ x).2.1 then fre x.d x.left - x.r.tur else (gtQ x).2.1
def R_gates : RD := fun cs k => ∃ (x : Wk) (us' : List Us), cs = wkC x (.lst (eQ us')) cNil ∧ WkIn x ∧ x.s.fin ∧ (0 ≤ x.r.tur ∧ x.r.tur ≤ fre x.d x.left) ∧
  k (wkC { x with r := ⟨x.r.inf, x.r.los, x.r.tur, spW x, x.r.ovr, x.r.pow, x.r.sta⟩ } (.lst (eQ us')) (.lst (eS (gtQ x).1)))
def ovW (d : Dm) (l : Int) : Int := if l - valC d.r.st d.r.crest < 0 then 0 else l - valC d.r.st d.r.crest
def rlW (n : Int) : Int := if 1073741824 < n then 1073741824 else n
def R_over : RD := fun cs k => ∃ (x : Wk) (us' : List Us) (gs' : List Gs), cs = wkC x (.lst (eQ us')) (.lst (eS gs')) ∧ WkIn x ∧ (0 ≤ x.r.tur ∧ 0 ≤ x.r.spi ∧ x.r.tur + x.r.spi ≤ x.left) ∧
  k (wkC { x with v := x.left - (x.r.tur + x.r.spi) - ovW x.d (x.left - (x.r.tur + x.r.spi)), rl := rlW (x.r.tur + x.r.spi), left := x.left - (x.r.tur + x.r.spi), r := ⟨x.r.inf, x.r.los, x.r.tur, x.r.spi, ovW x.d (x.left - (x.r.tur + x.r.spi)), x.r.pow, x.r.sta⟩ } (.lst (eQ us')) (.lst (eS gs')))
theorem setS_ok {d : Dm} {s : Dt} {lv w : Int} (hv : validD d s = true) (hl : 0 ≤ lv ∧ lv ≤ 16777216) (hw : 0 ≤ w ∧ w ≤ 1073741824) :
    (setS d.gs s.gs lv w).1.length = d.gs.length ∧ gsB d.gs (setS d.gs s.gs lv w).1 = true ∧ 0 ≤ (setS d.gs s.gs lv w).2.1 := by
  obtain ⟨hck, _, _, _, hgl, _, hgb⟩ := validD_at hv
  have ok := ckD_ok hck
  have hb := gsB_bad hgb
  have ha := askG_of ok.m hgl.symm hb ok.g hl
  have e : setS d.gs s.gs lv w = ((setL w lv (totL d.gs (losL d.gs s.gs) lv) d.gs s.gs).1, (setL w lv (totL d.gs (losL d.gs s.gs) lv) d.gs s.gs).2, 0) := by
    rw [setS, if_neg (by simp [ha]), if_neg (by simp [inB]; omega)]
  rw [e]
  have F := setF (w := w) (lv := lv) (s := totL d.gs (losL d.gs s.gs) lv) hgl.symm ok.g hb
  have ht := totL_in (os := losL d.gs s.gs) (lv := lv) ok.g
  exact ⟨F.len, gsB_of F.bad, by have := F.lo; dsimp only; omega⟩
abbrev Wk.ga (x : Wk) : Wk := ⟨x.d, x.s, x.v, x.rl, ⟨x.r.inf, x.r.los, x.r.tur, spW x, x.r.ovr, x.r.pow, x.r.sta⟩, x.rel, x.left, x.lv⟩
abbrev Wk.ov (x : Wk) : Wk := ⟨x.d, x.s, x.left - (x.r.tur + x.r.spi) - ovW x.d (x.left - (x.r.tur + x.r.spi)), rlW (x.r.tur + x.r.spi), ⟨x.r.inf, x.r.los, x.r.tur, x.r.spi, ovW x.d (x.left - (x.r.tur + x.r.spi)), x.r.pow, x.r.sta⟩, x.rel, x.left - (x.r.tur + x.r.spi), x.lv⟩
/-- The losses that a step takes. -/
def losW (s : Dt) (inf los : Int) : Int := if s.vol + inf < los then s.vol + inf else los
abbrev wk0 (d : Dm) (s : Dt) (inf los rel lv : Int) : Wk := ⟨d, s, 0, 0, ⟨inf, los, 0, 0, 0, 0, 0⟩, rel, 0, lv⟩
abbrev wk1 (d : Dm) (s : Dt) (inf los rel lv : Int) : Wk := ⟨d, s, 0, 0, ⟨inf, losW s inf los, 0, 0, 0, 0, 0⟩, rel, s.vol + inf - losW s inf los, lv⟩
structure stIn (d : Dm) (s : Dt) (inf los rel : Int) : Prop where
  v : validD d s = true
  f : d.fin
  sf : s.fin
  i : 0 ≤ inf ∧ inf ≤ 1073741824
  l : 0 ≤ los ∧ los ≤ 1073741824
  r : 0 ≤ rel ∧ rel ≤ 1073741824
structure stUs (x : Wk) (us' : List Us) (q p c : Int) : Prop where
  l : us'.length = x.d.us.length
  v : usB x.d.us us' = true
  qi : 0 ≤ q ∧ q ≤ tuW x
  z : x.d.us = [] → q = 0 ∧ p = 0 ∧ c = 0
theorem stIn.vol {d : Dm} {s : Dt} {inf los rel : Int} (h : stIn d s inf los rel) : 0 ≤ s.vol ∧ s.vol ≤ 274877906944 := by
  obtain ⟨hck, hvol, _⟩ := validD_at h.v
  have := valC_in (ckS_ok (ckD_ok hck).s).1 d.r.crest
  omega
theorem stIn.los {d : Dm} {s : Dt} {inf los rel : Int} (h : stIn d s inf los rel) : 0 ≤ losW s inf los ∧ losW s inf los ≤ s.vol + inf ∧ losW s inf los ≤ los := by
  have := h.vol
  have := h.i
  have := h.l
  unfold losW
  split <;> omega
theorem stIn.wk {d : Dm} {s : Dt} {inf los rel lv : Int} (h : stIn d s inf los rel) : WkIn (wk1 d s inf los rel lv) :=
  ⟨h.v, h.f, h.r, by have := h.vol; have := h.i; have := h.los; dsimp only; omega⟩
theorem stIn.fr {d : Dm} {s : Dt} {inf los rel lv : Int} (h : stIn d s inf los rel) : 0 ≤ fre d (wk1 d s inf los rel lv).left ∧ fre d (wk1 d s inf los rel lv).left ≤ (wk1 d s inf los rel lv).left := by
  obtain ⟨hck, _⟩ := validD_at h.v
  have := valC_in (ckS_ok (ckD_ok hck).s).1 d.r.dead
  exact fre_in (by omega) (h.wk (lv := lv)).left.1
theorem tuW_le (x : Wk) (h : 0 ≤ fre x.d x.left) : tuW x ≤ (if fre x.d x.left < x.rel then fre x.d x.left else x.rel) := by
  unfold tuW
  split <;> omega
/-- What the parts of a step give. -/
structure stOk (d : Dm) (s : Dt) (inf los rel lv : Int) (us' : List Us) (q p c : Int) : Prop where
  tur : 0 ≤ q ∧ q ≤ fre d (wk1 d s inf los rel lv).left
  spi : 0 ≤ spW ((wk1 d s inf los rel lv).run q p c) ∧ q + spW ((wk1 d s inf los rel lv).run q p c) ≤ (wk1 d s inf los rel lv).left
  v : validD d ⟨((wk1 d s inf los rel lv).run q p c).ga.ov.v, ((wk1 d s inf los rel lv).run q p c).ga.ov.rl, us', (gtQ ((wk1 d s inf los rel lv).run q p c)).1⟩ = true
  o : 0 ≤ ((wk1 d s inf los rel lv).run q p c).ga.ov.r.ovr
  w : ((wk1 d s inf los rel lv).run q p c).ga.ov.v = s.vol + inf - losW s inf los - (q + spW ((wk1 d s inf los rel lv).run q p c) + ((wk1 d s inf los rel lv).run q p c).ga.ov.r.ovr)
theorem stIn.ok {d : Dm} {s : Dt} {inf los rel lv : Int} (h : stIn d s inf los rel) (hl : 0 ≤ lv ∧ lv ≤ 16777216) {us' : List Us} {q p c : Int} (hu : stUs (wk1 d s inf los rel lv) us' q p c) : stOk d s inf los rel lv us' q p c := by
  obtain ⟨hck, hvol, hrl, hun, hgn, hub, hgb⟩ := validD_at h.v
  have hf := h.fr (lv := lv)
  have hre := h.r
  have hq := hu.qi
  have ht := tuW_le (wk1 d s inf los rel lv) hf.1
  have hlos := h.los
  have hw : 0 ≤ gtW ((wk1 d s inf los rel lv).run q p c) ∧ gtW ((wk1 d s inf los rel lv).run q p c) ≤ 1073741824 := by
    unfold gtW
    dsimp only at *
    split at ht <;> rename_i hh <;> simp only [hh, if_true, if_false] <;> omega
  obtain ⟨g1, g2, g3⟩ := setS_ok (lv := lv) h.v hl hw
  have hqf : q ≤ fre d (wk1 d s inf los rel lv).left := by
    dsimp only at *
    split at ht <;> omega
  have hsp : 0 ≤ spW ((wk1 d s inf los rel lv).run q p c) ∧ q + spW ((wk1 d s inf los rel lv).run q p c) ≤ fre d (wk1 d s inf los rel lv).left := by
    unfold spW
    unfold gtQ
    dsimp only at *
    split <;> omega
  have hov : ∀ l, 0 ≤ l → 0 ≤ ovW d l ∧ ovW d l ≤ l ∧ l - ovW d l ≤ valC d.r.st d.r.crest := fun l hl => by
    have := valC_in (ckS_ok (ckD_ok hck).s).1 d.r.crest
    unfold ovW
    split <;> omega
  have hrw : ∀ n, 0 ≤ n → 0 ≤ rlW n ∧ rlW n ≤ 1073741824 := fun n hn => by
    unfold rlW
    split <;> omega
  have ho := hov ((wk1 d s inf los rel lv).left - (q + spW ((wk1 d s inf los rel lv).run q p c))) (by dsimp only at *; omega)
  have hr := hrw (q + spW ((wk1 d s inf los rel lv).run q p c)) (by omega)
  refine ⟨⟨hq.1, hqf⟩, ⟨hsp.1, by omega⟩, validD_of hck ⟨by dsimp only at *; omega, by dsimp only at *; omega⟩ hr hu.l g1 hu.v g2, ho.1, by dsimp only at *; omega⟩
def R_wrun : RB := fun cs args k => ∃ (d : Dm) (s : Dt) (inf los rel lv : Int), args = [] ∧ cs = wkC (wk0 d s inf los rel lv) cNil cNil ∧ stIn d s inf los rel ∧ (0 ≤ lv ∧ lv ≤ 16777216) ∧
  ∀ (us' : List Us) (q p c : Int), stUs (wk1 d s inf los rel lv) us' q p c → k (.tup []) (wkC ((wk1 d s inf los rel lv).run q p c).ga.ov (.lst (eQ us')) (.lst (eS (gtQ ((wk1 d s inf los rel lv).run q p c)).1)))
end Go.Proofs
