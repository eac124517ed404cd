/- Proved here: what functions of the given program come to, and the plain laws of it; no condition but those in the theorems. -/
import Derived.Test.YtfhnicamjcfddaaGreatDoorPCurve2
/- Reservoirs: volumes of levels and levels of volumes. No program. -/
namespace Go.Proofs
open Go Go.Abs
set_option linter.unusedSimpArgs false
set_option linter.unusedVariables false
def lGo : Pt → List Pt → Int → Int
  | q, [], _ => q.1
  | q, p :: r, y => if y < p.2 then q.1 + ((y - q.2 + 1) * (p.1 - q.1) - 1) / (p.2 - q.2) else lGo p r y
def lastV (c : List Pt) (y : Int) : Int × Bool × Int := if ckC c ≠ 0 then (0, false, ckC c) else match c with
  | [] => (0, false, 0)
  | p :: r => if y < p.2 then (0, false, 0) else (lGo p r y, true, 0)
def hgt (c : List Pt) (y : Int) : Int := match c with
  | [] => 0
  | p :: r => if y < p.2 then p.1 else lGo p r y
def lastP (c : List Pt) : Pt := match c with
  | [] => (0, 0)
  | p :: r => endP p r
def riseB : List Pt → Bool
  | p :: q :: r => decide (p.2 < q.2) && riseB (q :: r)
  | _ => true
def srt : List Int → Bool
  | a :: b :: r => decide (a ≤ b) && srt (b :: r)
  | _ => true
structure Rs where
  st : List Pt
  dead : Int
  low : Int
  full : Int
  sur : Int
  crest : Int
def Rs.lv (r : Rs) : List Int := [(r.st.headD (0, 0)).1, r.dead, r.low, r.full, r.sur, r.crest, (lastP r.st).1]
def rsC (r : Rs) : List Cell := [.lst (eP r.st), IC r.dead, IC r.low, IC r.full, IC r.sur, IC r.crest]
def ckS (r : Rs) : Int := if ckC r.st ≠ 0 then ckC r.st else if r.st.length < 2 then 3 else if 16777216 < (lastP r.st).1 then 1 else if riseB r.st = false then 4 else if srt r.lv = false then 4 else 0
def askS (r : Rs) (v l : Int) : Int := if ckS r ≠ 0 then ckS r else if inB 0 274877906944 v = true ∧ inB 0 16777216 l = true then 0 else 1
def volS (r : Rs) (x : Int) : Int × Int := if askS r 0 x ≠ 0 then (0, askS r 0 x) else (valC r.st x, 0)
def levS (r : Rs) (v : Int) : Int × Int := if askS r v 0 ≠ 0 then (0, askS r v 0) else (hgt r.st v, 0)
def zonV (r : Rs) (x : Int) : Int := if x < r.dead then 0 else if x < r.low then 1 else if x < r.full then 2 else if x ≤ r.sur then 3 else if x ≤ r.crest then 4 else 5
def zonS (r : Rs) (x : Int) : Int × Int := if askS r 0 x ≠ 0 then (0, askS r 0 x) else (zonV r x, 0)
def mx (a b : Int) : Int := if a < b then b else a
def roomS (r : Rs) (v x : Int) : Int × Int := if askS r v x ≠ 0 then (0, askS r v x) else (mx (valC r.st x - v) 0, 0)
def usS (r : Rs) (v : Int) : Int × Int := if askS r v 0 ≠ 0 then (0, askS r v 0) else (mx (v - valC r.st r.dead) 0, 0)
theorem riseB_cons {p q : Pt} {r : List Pt} : riseB (p :: q :: r) = true ↔ p.2 < q.2 ∧ riseB (q :: r) = true := by simp [riseB]
theorem srt_cons {a b : Int} {r : List Int} : srt (a :: b :: r) = true ↔ a ≤ b ∧ srt (b :: r) = true := by simp [srt]
theorem srt_bad {a b : Int} {r : List Int} (h : b < a) : srt (a :: b :: r) = false := by simp [srt]; omega
theorem srt_good {a b : Int} {r : List Int} (h : ¬ b < a) : srt (a :: b :: r) = srt (b :: r) := by simp [srt]; omega
theorem rise_bad {p q : Pt} {r : List Pt} (h : q.2 ≤ p.2) : riseB (p :: q :: r) = false := by simp [riseB]; omega
theorem rise_good {p q : Pt} {r : List Pt} (h : ¬ q.2 ≤ p.2) : riseB (p :: q :: r) = riseB (q :: r) := by simp [riseB]; omega
theorem seg_l {p q : Pt} {y : Int} (h1 : p.1 < q.1) (h2 : p.2 < q.2) (hy : p.2 ≤ y) (hy2 : y < q.2) :
    0 ≤ (y - p.2 + 1) * (q.1 - p.1) - 1 ∧ (y - p.2 + 1) * (q.1 - p.1) ≤ (q.2 - p.2) * (q.1 - p.1) ∧ 0 ≤ ((y - p.2 + 1) * (q.1 - p.1) - 1) / (q.2 - p.2) ∧ ((y - p.2 + 1) * (q.1 - p.1) - 1) / (q.2 - p.2) < q.1 - p.1 := by
  have e1 : 0 < (y - p.2 + 1) * (q.1 - p.1) := Int.mul_pos (by omega) (by omega)
  have e2 : (y - p.2 + 1) * (q.1 - p.1) ≤ (q.2 - p.2) * (q.1 - p.1) := Int.mul_le_mul_of_nonneg_right (by omega) (by omega)
  refine ⟨by omega, e2, Int.ediv_nonneg (by omega) (by omega), ?_⟩
  refine Int.ediv_lt_of_lt_mul (by omega) ?_
  rw [Int.mul_comm (q.1 - p.1)]
  omega
theorem lGo_in : ∀ {r : List Pt} {p : Pt} {y : Int}, ckGo p r = 0 → riseB (p :: r) = true → p.2 ≤ y → p.1 ≤ lGo p r y ∧ lGo p r y ≤ (endP p r).1
  | [], p, y, _, _, _ => ⟨Int.le_refl _, Int.le_refl _⟩
  | q :: r, p, y, h, hr, hy => by
    obtain ⟨_, h2, h3, _, h5⟩ := ckGo_cons.1 h
    obtain ⟨g1, g2⟩ := riseB_cons.1 hr
    have hq : q.1 ≤ (endP q r).1 := (by
      have := lGo_in (y := q.2) h5 g2 (Int.le_refl _)
      omega)
    show p.1 ≤ lGo p (q :: r) y ∧ lGo p (q :: r) y ≤ (endP q r).1
    unfold lGo
    split
    · rename_i h6
      have := seg_l h2 g1 hy h6
      omega
    · have := lGo_in (y := y) h5 g2 (by omega)
      omega
theorem gal_go : ∀ {r : List Pt} {p : Pt} {x y : Int}, ckGo p r = 0 → riseB (p :: r) = true → p.2 ≤ y → p.1 ≤ x → x ≤ (endP p r).1 → (x ≤ lGo p r y ↔ vGo p r x ≤ y)
  | [], p, x, y, _, _, hy, hx, hx2 => by
    have : x ≤ p.1 := hx2
    unfold lGo vGo
    omega
  | q :: r, p, x, y, h, hr, hy, hx, hx2 => by
    obtain ⟨_, h2, h3, _, h5⟩ := ckGo_cons.1 h
    obtain ⟨g1, g2⟩ := riseB_cons.1 hr
    have hx2 : x ≤ (endP q r).1 := hx2
    unfold lGo vGo
    by_cases h6 : y < q.2
    · rw [if_pos h6]
      have hs := seg_l h2 g1 hy h6
      by_cases h7 : x ≤ q.1
      · rw [if_pos h7]
        have a1 : (q.2 - p.2) * (x - p.1) / (q.1 - p.1) < y - p.2 + 1 ↔ (q.2 - p.2) * (x - p.1) < (y - p.2 + 1) * (q.1 - p.1) := Int.ediv_lt_iff_lt_mul (by omega)
        have a2 : x - p.1 ≤ ((y - p.2 + 1) * (q.1 - p.1) - 1) / (q.2 - p.2) ↔ (x - p.1) * (q.2 - p.2) ≤ (y - p.2 + 1) * (q.1 - p.1) - 1 := Int.le_ediv_iff_mul_le (by omega)
        rw [Int.mul_comm (x - p.1)] at a2
        omega
      · rw [if_neg h7]
        have := vGo_ge (x := x) h5 (by omega)
        omega
    · rw [if_neg h6]
      have := (lGo_in (y := y) h5 g2 (by omega)).1
      by_cases h7 : x ≤ q.1
      · rw [if_pos h7]
        have := seg_in h2 h3 hx h7
        omega
      · rw [if_neg h7]
        exact gal_go h5 g2 (by omega) (by omega) hx2
/-- A curve's level of a volume and volume of a level. -/
theorem hgt_in {c : List Pt} (h : ckC c = 0) (hr : riseB c = true) (y : Int) : (c.headD (0, 0)).1 ≤ hgt c y ∧ hgt c y ≤ (lastP c).1 := by
  cases c with
  | nil => simp [ckC] at h
  | cons p r =>
    have hc := (ckC_cons.1 h).2.2
    show p.1 ≤ hgt (p :: r) y ∧ hgt (p :: r) y ≤ (endP p r).1
    unfold hgt
    dsimp only
    split
    · have := lGo_in (y := p.2) hc hr (Int.le_refl _)
      omega
    · exact lGo_in hc hr (by omega)
theorem hgt_gal {c : List Pt} (h : ckC c = 0) (hr : riseB c = true) {x y : Int} (hy : (c.headD (0, 0)).2 ≤ y) (hx : (c.headD (0, 0)).1 ≤ x) (hx2 : x ≤ (lastP c).1) : x ≤ hgt c y ↔ valC c x ≤ y := by
  cases c with
  | nil => simp [ckC] at h
  | cons p r =>
    have hc := (ckC_cons.1 h).2.2
    have hy : p.2 ≤ y := hy
    have hx : p.1 ≤ x := hx
    rw [valC_eq, show hgt (p :: r) y = lGo p r y from if_neg (by omega), gal_go hc hr hy hx hx2]
    by_cases h1 : x ≤ p.1
    · rw [if_pos h1]
      have e : x = p.1 := by omega
      have := (gal_go hc hr hy hx hx2).1 (by have := lGo_in hc hr hy; omega)
      constructor <;> intro <;> assumption
    · rw [if_neg h1]
theorem valC_lo {c : List Pt} (h : ckC c = 0) (x : Int) : (c.headD (0, 0)).2 ≤ valC c x := by
  cases c with
  | nil => simp [ckC] at h
  | cons p r =>
    rw [valC_eq]
    show p.2 ≤ _
    split
    · exact Int.le_refl _
    · exact vGo_ge (ckC_cons.1 h).2.2 (by omega)
theorem hgt_lo {c : List Pt} {y : Int} (hy : y < (c.headD (0, 0)).2) : hgt c y = (c.headD (0, 0)).1 := by
  cases c with
  | nil => rfl
  | cons p r => exact if_pos hy
theorem hgt_mono {c : List Pt} (h : ckC c = 0) (hr : riseB c = true) {x y : Int} (hxy : x ≤ y) : hgt c x ≤ hgt c y := by
  have a := hgt_in h hr x
  have b := hgt_in h hr y
  by_cases h1 : x < (c.headD (0, 0)).2
  · rw [hgt_lo h1]; exact b.1
  · refine (hgt_gal h hr (by omega) a.1 a.2).2 ?_
    have := (hgt_gal h hr (y := x) (by omega) a.1 a.2).1 (Int.le_refl _)
    omega
theorem hgt_val {c : List Pt} (h : ckC c = 0) (hr : riseB c = true) {y : Int} (hy : (c.headD (0, 0)).2 ≤ y) : valC c (hgt c y) ≤ y :=
  (hgt_gal h hr hy (hgt_in h hr y).1 (hgt_in h hr y).2).1 (Int.le_refl _)
theorem val_hgt {c : List Pt} (h : ckC c = 0) (hr : riseB c = true) {x : Int} (hx : (c.headD (0, 0)).1 ≤ x) (hx2 : x ≤ (lastP c).1) : x ≤ hgt c (valC c x) :=
  (hgt_gal h hr (valC_lo h x) hx hx2).2 (Int.le_refl _)
theorem hgt_next {c : List Pt} (h : ckC c = 0) (hr : riseB c = true) {y : Int} (hy : (c.headD (0, 0)).2 ≤ y) : hgt c y = (lastP c).1 ∨ y < valC c (hgt c y + 1) := by
  have a := hgt_in h hr y
  by_cases e : hgt c y = (lastP c).1
  · exact .inl e
  · refine .inr ?_
    have := hgt_gal h hr hy (x := hgt c y + 1) (by omega) (by omega)
    omega
theorem lastV_ok {c : List Pt} (h : ckC c = 0) (y : Int) : lastV c y = if y < (c.headD (0, 0)).2 then (0, false, 0) else (hgt c y, true, 0) := by
  cases c with
  | nil => simp [ckC] at h
  | cons p r =>
    unfold lastV
    rw [if_neg (by rw [h]; simp)]
    show (if y < p.2 then _ else _) = if y < p.2 then _ else _
    split
    · rfl
    · rename_i h1
      rw [show hgt (p :: r) y = lGo p r y from if_neg h1]
theorem ckS_ok {r : Rs} (h : ckS r = 0) : ckC r.st = 0 ∧ 2 ≤ r.st.length ∧ (lastP r.st).1 ≤ 16777216 ∧ riseB r.st = true ∧ srt r.lv = true := by
  unfold ckS at h
  split at h
  · rename_i h1; exact absurd h h1
  · rename_i h1
    split at h
    · cases h
    · split at h
      · cases h
      · split at h
        · cases h
        · split at h
          · cases h
          · rename_i h2 h3 h4 h5
            exact ⟨by simpa using h1, by omega, by omega, by simpa using h4, by simpa using h5⟩
theorem ckS_of {r : Rs} (h1 : ckC r.st = 0) (h2 : 2 ≤ r.st.length) (h3 : (lastP r.st).1 ≤ 16777216) (h4 : riseB r.st = true) (h5 : srt r.lv = true) : ckS r = 0 := by
  unfold ckS
  rw [if_neg (by rw [h1]; simp), if_neg (by omega), if_neg (by omega), if_neg (by rw [h4]; simp), if_neg (by rw [h5]; simp)]
theorem askS_of {r : Rs} {v l : Int} (h : ckS r = 0) (hv : 0 ≤ v ∧ v ≤ 274877906944) (hl : 0 ≤ l ∧ l ≤ 16777216) : askS r v l = 0 := by
  unfold askS
  rw [if_neg (by rw [h]; simp), if_pos (by simp [inB]; omega)]
theorem askS_ok {r : Rs} {v l : Int} (h : askS r v l = 0) : ckS r = 0 ∧ (0 ≤ v ∧ v ≤ 274877906944) ∧ (0 ≤ l ∧ l ≤ 16777216) := by
  unfold askS at h
  split at h
  · rename_i h1; exact absurd h h1
  · rename_i h1
    split at h
    · rename_i h2; simp [inB] at h2; exact ⟨by simpa using h1, by omega, by omega⟩
    · cases h
theorem volS_of {r : Rs} {x : Int} (h : ckS r = 0) (hl : 0 ≤ x ∧ x ≤ 16777216) : volS r x = (valC r.st x, 0) := by
  unfold volS
  rw [if_neg (by rw [askS_of h (by omega) hl]; simp)]
theorem levS_of {r : Rs} {v : Int} (h : ckS r = 0) (hv : 0 ≤ v ∧ v ≤ 274877906944) : levS r v = (hgt r.st v, 0) := by
  unfold levS
  rw [if_neg (by rw [askS_of h hv (by omega)]; simp)]
theorem zonS_of {r : Rs} {x : Int} (h : ckS r = 0) (hl : 0 ≤ x ∧ x ≤ 16777216) : zonS r x = (zonV r x, 0) := by
  unfold zonS
  rw [if_neg (by rw [askS_of h (by omega) hl]; simp)]
theorem roomS_of {r : Rs} {v x : Int} (h : ckS r = 0) (hv : 0 ≤ v ∧ v ≤ 274877906944) (hl : 0 ≤ x ∧ x ≤ 16777216) : roomS r v x = (mx (valC r.st x - v) 0, 0) := by
  unfold roomS
  rw [if_neg (by rw [askS_of h hv hl]; simp)]
theorem usS_of {r : Rs} {v : Int} (h : ckS r = 0) (hv : 0 ≤ v ∧ v ≤ 274877906944) : usS r v = (mx (v - valC r.st r.dead) 0, 0) := by
  unfold usS
  rw [if_neg (by rw [askS_of h hv (by omega)]; simp)]
theorem zonV_mono {r : Rs} {x y : Int} (hxy : x ≤ y) : zonV r x ≤ zonV r y := by
  unfold zonV
  repeat' split
  all_goals omega
theorem endP_lastP (p : Pt) (r : List Pt) : lastP (p :: r) = endP p r := rfl
theorem lastP_at {c : List Pt} (h : c ≠ []) : c[c.length - 1]? = some (lastP c) := by
  cases c with
  | nil => exact absurd rfl h
  | cons p r => exact endP_at p r
theorem head_at {c : List Pt} (h : c ≠ []) : c[0]? = some (c.headD (0, 0)) := by
  cases c with
  | nil => exact absurd rfl h
  | cons p r => rfl
/-! What the functions are given. -/
def R_last : RT := fun args k => match args with
  | [.c (.lst es), .c (.sc (.int .i64 y))] => ∃ c : List Pt, es = eP c ∧ c.length ≤ 9223372036854775807 ∧ k (.tup [I (lastV c y).1, Bo (lastV c y).2.1, I (lastV c y).2.2])
  | _ => False
def R_rs (f : Rs → Int) : RT := fun args k => match args with
  | [.agg [.lst es, .sc (.int .i64 a), .sc (.int .i64 b), .sc (.int .i64 c), .sc (.int .i64 d), .sc (.int .i64 e)]] => ∃ st : List Pt, es = eP st ∧ st.length ≤ 9223372036854775807 ∧ k (I (f ⟨st, a, b, c, d, e⟩))
  | _ => False
def R_rs1 (f : Rs → Int → Int × Int) : RT := fun args k => match args with
  | [.agg [.lst es, .sc (.int .i64 a), .sc (.int .i64 b), .sc (.int .i64 c), .sc (.int .i64 d), .sc (.int .i64 e)], .c (.sc (.int .i64 x))] => ∃ st : List Pt, es = eP st ∧ st.length ≤ 9223372036854775807 ∧ k (.tup [I (f ⟨st, a, b, c, d, e⟩ x).1, I (f ⟨st, a, b, c, d, e⟩ x).2])
  | _ => False
def R_rs2 (f : Rs → Int → Int → Int × Int) : RT := fun args k => match args with
  | [.agg [.lst es, .sc (.int .i64 a), .sc (.int .i64 b), .sc (.int .i64 c), .sc (.int .i64 d), .sc (.int .i64 e)], .c (.sc (.int .i64 x)), .c (.sc (.int .i64 y))] => ∃ st : List Pt, es = eP st ∧ st.length ≤ 9223372036854775807 ∧ k (.tup [I (f ⟨st, a, b, c, d, e⟩ x y).1, I (f ⟨st, a, b, c, d, e⟩ x y).2])
  | _ => False
def R_asked : RT := fun args k => match args with
  | [.agg [.lst es, .sc (.int .i64 a), .sc (.int .i64 b), .sc (.int .i64 c), .sc (.int .i64 d), .sc (.int .i64 e)], .c (.sc (.int .i64 x)), .c (.sc (.int .i64 y))] => ∃ st : List Pt, es = eP st ∧ st.length ≤ 9223372036854775807 ∧ k (I (askS ⟨st, a, b, c, d, e⟩ x y))
  | _ => False
def R_hgt : RT := fun args k => match args with
  | [.agg [.lst es, .sc (.int .i64 a), .sc (.int .i64 b), .sc (.int .i64 c), .sc (.int .i64 d), .sc (.int .i64 e)], .c (.sc (.int .i64 y))] => ∃ st : List Pt, es = eP st ∧ st.length ≤ 9223372036854775807 ∧ (ckC st = 0 ∧ riseB st = true) ∧ k (I (hgt st y))
  | _ => False
/-- A reservoir, made of a deck. -/
structure Rs.made (r : Rs) : Prop where
  ck : ckS r = 0
  lo : 100 ≤ (r.st.headD (0, 0)).1 ∧ (r.st.headD (0, 0)).1 < 110
  hi : (lastP r.st).1 < 270
  vlo : 0 ≤ (r.st.headD (0, 0)).2 ∧ (r.st.headD (0, 0)).2 < 20
  lv : (r.st.headD (0, 0)).1 ≤ r.dead ∧ r.dead ≤ r.low ∧ r.low ≤ r.full ∧ r.full ≤ r.sur ∧ r.sur ≤ r.crest ∧ r.crest ≤ (lastP r.st).1
  vhi : ∀ q ∈ r.st, q.2 ≤ 1000
def R_resv : RB := fun cs args k => match args with
  | [] => ∃ d : Dk, cs = dkC d ∧ d.ok ∧ ∀ (r : Rs) d', Dk.ok d' → r.made → r.st.length ≤ 5 → k (.agg (rsC r)) (dkC d')
  | _ => False
theorem chain_rise {dx lo hi : Int} (h0 : 0 < lo) : ∀ {r : List Pt} {p : Pt}, chainP dx lo hi p r → riseB (p :: r) = true
  | [], _, _ => rfl
  | q :: r, p, h => riseB_cons.2 ⟨by have := h.2.1; omega, chain_rise h0 h.2.2⟩
theorem made_of {p : Pt} {r : List Pt} {a b c d e : Int} (h1 : 100 ≤ p.1 ∧ p.1 < 110) (h2 : 0 ≤ p.2 ∧ p.2 < 20) (h3 : 1 ≤ r.length ∧ r.length ≤ 4) (h4 : chainP 40 1 200 p r)
    (h5 : p.1 ≤ a ∧ a ≤ b ∧ b ≤ c ∧ c ≤ d ∧ d ≤ e ∧ e ≤ (endP p r).1) : Rs.made ⟨p :: r, a, b, c, d, e⟩ := by
  have hin := chain_in (by omega) (by omega) (by omega) h4
  have hen := end_in (by omega) (by omega) (by omega) h4
  have hok : ∀ q ∈ r, okPt q = true := fun q hq => okPt_of (by have := hin q hq; omega)
  have hck : ckC (p :: r) = 0 := ckC_cons.2 ⟨by omega, okPt_of (by omega), chain_ck (by omega) (by omega) h4 hok⟩
  have hend : (endP p r).1 < 270 := by omega
  refine ⟨ckS_of hck (by simp; omega) (by show (endP p r).1 ≤ _; omega) (chain_rise (by omega) h4) ?_, h1, hend, h2, h5, fun q hq => by
    rcases List.mem_cons.1 hq with rfl | hq
    · omega
    · have := hin q hq; omega⟩
  show srt [p.1, a, b, c, d, e, (endP p r).1] = true
  simp only [srt_cons]
  exact ⟨h5.1, h5.2.1, h5.2.2.1, h5.2.2.2.1, h5.2.2.2.2.1, h5.2.2.2.2.2, rfl⟩
end Go.Proofs

/- More of curves and reservoirs: what the document's answer needs. No program. -/
namespace Go.Proofs
open Go Go.Abs
set_option linter.unusedSimpArgs false
set_option linter.unusedVariables false
theorem ck_end : ∀ {r : List Pt} {q : Pt}, ckGo q r = 0 → q.1 ≤ (endP q r).1
  | [], _, _ => Int.le_refl _
  | a :: r, q, h => by
    obtain ⟨_, h2, _, _, h5⟩ := ckGo_cons.1 h
    have := ck_end h5
    show q.1 ≤ (endP a r).1
    omega
theorem lGo_in' : ∀ {r : List Pt} {p : Pt} {y : Int}, ckGo p r = 0 → p.2 ≤ y → p.1 ≤ lGo p r y ∧ lGo p r y ≤ (endP p r).1
  | [], p, y, _, _ => ⟨Int.le_refl _, Int.le_refl _⟩
  | q :: r, p, y, h, hy => by
    obtain ⟨_, h2, h3, _, h5⟩ := ckGo_cons.1 h
    have hq := ck_end h5
    show p.1 ≤ lGo p (q :: r) y ∧ lGo p (q :: r) y ≤ (endP q r).1
    unfold lGo
    split
    · rename_i h6
      have := seg_l h2 (by omega) hy h6
      omega
    · have := lGo_in' (y := y) h5 (by omega)
      omega
theorem gal_go' : ∀ {r : List Pt} {p : Pt} {x y : Int}, ckGo p r = 0 → p.2 ≤ y → p.1 ≤ x → x ≤ (endP p r).1 → (x ≤ lGo p r y ↔ vGo p r x ≤ y)
  | [], p, x, y, _, hy, hx, hx2 => by
    have : x ≤ p.1 := hx2
    unfold lGo vGo
    omega
  | q :: r, p, x, y, h, hy, hx, hx2 => by
    obtain ⟨_, h2, h3, _, h5⟩ := ckGo_cons.1 h
    have hx2 : x ≤ (endP q r).1 := hx2
    unfold lGo vGo
    by_cases h6 : y < q.2
    · rw [if_pos h6]
      have hs := seg_l h2 (by omega) hy h6
      by_cases h7 : x ≤ q.1
      · rw [if_pos h7]
        have a1 : (q.2 - p.2) * (x - p.1) / (q.1 - p.1) < y - p.2 + 1 ↔ (q.2 - p.2) * (x - p.1) < (y - p.2 + 1) * (q.1 - p.1) := Int.ediv_lt_iff_lt_mul (by omega)
        have a2 : x - p.1 ≤ ((y - p.2 + 1) * (q.1 - p.1) - 1) / (q.2 - p.2) ↔ (x - p.1) * (q.2 - p.2) ≤ (y - p.2 + 1) * (q.1 - p.1) - 1 := Int.le_ediv_iff_mul_le (by omega)
        rw [Int.mul_comm (x - p.1)] at a2
        omega
      · rw [if_neg h7]
        have := vGo_ge (x := x) h5 (by omega)
        omega
    · rw [if_neg h6]
      have := (lGo_in' (y := y) h5 (by omega)).1
      by_cases h7 : x ≤ q.1
      · rw [if_pos h7]
        have := seg_in h2 h3 hx h7
        omega
      · rw [if_neg h7]
        exact gal_go' h5 (by omega) (by omega) hx2
theorem hgt_in' {c : List Pt} (h : ckC c = 0) (y : Int) : (c.headD (0, 0)).1 ≤ hgt c y ∧ hgt c y ≤ (lastP c).1 := by
  cases c with
  | nil => simp [ckC] at h
  | cons p r =>
    have hc := (ckC_cons.1 h).2.2
    show p.1 ≤ hgt (p :: r) y ∧ hgt (p :: r) y ≤ (endP p r).1
    unfold hgt
    dsimp only
    split
    · have := ck_end hc
      omega
    · exact lGo_in' hc (by omega)
theorem hgt_gal' {c : List Pt} (h : ckC c = 0) {x y : Int} (hy : (c.headD (0, 0)).2 ≤ y) (hx : (c.headD (0, 0)).1 ≤ x) (hx2 : x ≤ (lastP c).1) : x ≤ hgt c y ↔ valC c x ≤ y := by
  cases c with
  | nil => simp [ckC] at h
  | cons p r =>
    have hc := (ckC_cons.1 h).2.2
    have hy : p.2 ≤ y := hy
    have hx : p.1 ≤ x := hx
    rw [valC_eq, show hgt (p :: r) y = lGo p r y from if_neg (by omega), gal_go' hc hy hx hx2]
    by_cases h1 : x ≤ p.1
    · rw [if_pos h1]
      have e : x = p.1 := by omega
      have := (gal_go' hc hy hx hx2).1 (by have := lGo_in' hc hy; omega)
      constructor <;> intro <;> assumption
    · rw [if_neg h1]
/-- The value at a point. -/
theorem vGo_at {r : List Pt} {q : Pt} (h : ckGo q r = 0) : vGo q r q.1 = q.2 := by
  cases r with
  | nil => rfl
  | cons a r =>
    obtain ⟨_, h2, _, _, _⟩ := ckGo_cons.1 h
    unfold vGo
    rw [if_pos (by omega), Int.sub_self, Int.mul_zero, Int.zero_ediv, Int.add_zero]
theorem vGo_next {r : List Pt} {q p : Pt} {x : Int} (h : ckGo q (p :: r) = 0) (hx : ¬ x < p.1) : vGo q (p :: r) x = vGo p r x := by
  obtain ⟨_, h2, _, _, h5⟩ := ckGo_cons.1 h
  by_cases e : x = p.1
  · subst e
    rw [vGo_at h5]
    unfold vGo
    rw [if_pos (Int.le_refl _), Int.mul_ediv_cancel _ (by omega)]
    omega
  · show (if x ≤ p.1 then _ else _) = _
    rw [if_neg (by omega)]
def atV (c : List Pt) (x : Int) : Int × Int := if ckC c ≠ 0 then (0, ckC c) else (valC c x, 0)
def R_at : RT := fun args k => match args with
  | [.c (.lst es), .c (.sc (.int .i64 x))] => ∃ c : List Pt, es = eP c ∧ c.length ≤ 9223372036854775807 ∧ k (.tup [I (atV c x).1, I (atV c x).2])
  | _ => False
def rAt (c : List Pt) (x : Int) (i : Nat) : Prop := ∃ q, c[i - 1]? = some q ∧ q.1 ≤ x ∧ valC c x = vGo q (c.drop i) x ∧ ckGo q (c.drop i) = 0 ∧ okPt q = true
def R_rsI (f : Rs → Int → Int) : RT := fun args k => match args with
  | [.agg [.lst es, .sc (.int .i64 a), .sc (.int .i64 b), .sc (.int .i64 c), .sc (.int .i64 d), .sc (.int .i64 e)], .c (.sc (.int .i64 x))] => ∃ st : List Pt, es = eP st ∧ st.length ≤ 9223372036854775807 ∧ k (I (f ⟨st, a, b, c, d, e⟩ x))
  | _ => False
/-- All points of a curve lie up to the last one. -/
theorem ck_le_end : ∀ {r : List Pt} {q : Pt}, ckGo q r = 0 → ∀ a ∈ q :: r, a.1 ≤ (endP q r).1
  | [], q, _, a, ha => by simp at ha; subst ha; exact Int.le_refl _
  | b :: r, q, h, a, ha => by
    rcases List.mem_cons.1 ha with rfl | ha
    · exact ck_end h
    · exact ck_le_end (ckGo_cons.1 h).2.2.2.2 a ha
theorem le_last {c : List Pt} (h : ckC c = 0) : ∀ a ∈ c, a.1 ≤ (lastP c).1 := by
  cases c with
  | nil => simp [ckC] at h
  | cons p r => exact ck_le_end (ckC_cons.1 h).2.2
theorem last_mem {c : List Pt} (h : c ≠ []) : lastP c ∈ c := List.mem_of_getElem? (lastP_at h)
theorem srt_lv {r : Rs} (h : ckS r = 0) : (r.st.headD (0, 0)).1 ≤ r.dead ∧ r.dead ≤ r.low ∧ r.low ≤ r.full ∧ r.full ≤ r.sur ∧ r.sur ≤ r.crest ∧ r.crest ≤ (lastP r.st).1 := by
  have := (ckS_ok h).2.2.2.2
  unfold Rs.lv at this
  simp only [srt_cons] at this
  obtain ⟨a, b, c, d, e, f, _⟩ := this
  exact ⟨a, b, c, d, e, f⟩
theorem dead_in {r : Rs} (h : ckS r = 0) : 0 ≤ r.dead ∧ r.dead ≤ 16777216 := by
  have a := srt_lv h
  obtain ⟨h1, _, h3, _, _⟩ := ckS_ok h
  have hc0 := (ckC_ne h1).1
  have := okPt_in (ckC_ok h1 _ (List.mem_of_getElem? (head_at hc0)))
  omega
end Go.Proofs
