/- Proved here: what functions of the given program come to, and the plain laws of it; no condition but those in the theorems. -/
import Derived.Test.YtfhnicamjcfddaaGreatDoorAbsZ
/- A loop's head: what is not named any more is forgotten, and names are counted from a number of one's choice. -/
namespace Go.Abs
open Go.RowKit

/-- The names that stay. -/
def hasI : List (Id × MObj) → Id → Bool
  | _, .x _ => true
  | [], _ => false
  | (j, _) :: r, i => match beqI i j with
    | true => true
    | false => hasI r i
mutual
def hasC (o : List (Id × MObj)) : Cell → Bool
  | .sc _ => true
  | .lst _ => true
  | .full _ => true
  | .view i _ _ => hasI o i
  | .ptr i _ => hasI o i
  | .aptr i _ _ => hasI o i
  | .pel _ => true
  | .mp i => hasI o i
  | .fn _ caps => hasCs o caps
def hasCs (o : List (Id × MObj)) : List Cell → Bool
  | [] => true
  | c :: r => match hasC o c with
    | true => hasCs o r
    | false => false
end
mutual
def hasA (o : List (Id × MObj)) : AV → Bool
  | .c x => hasC o x
  | .agg cs => hasCs o cs
  | .tup l => hasAs o l
def hasAs (o : List (Id × MObj)) : List AV → Bool
  | [] => true
  | c :: r => match hasA o c with
    | true => hasAs o r
    | false => false
end
def hasT (o : List (Id × MObj)) : List (Nat × AV) → Bool
  | [] => true
  | (_, x) :: r => match hasA o x with
    | true => hasT o r
    | false => false
def hasO (o : List (Id × MObj)) (nx : Nat) : List (Id × MObj) → Bool
  | [] => true
  | (i, x) :: r => match (match i with
      | .x _ => true
      | .l _ k => Nat.blt k nx), (match x with
      | .blk cs => hasCs o cs
      | .arr .. => true
      | .map _ => true) with
    | true, true => hasO o nx r
    | _, _ => false

section
variable {o : List (Id × MObj)}
theorem hasI_key : ∀ {o : List (Id × MObj)} {i : Id}, hasI o i = true → (∃ n, i = .x n) ∨ keys o i
  | [], .x n, _ => .inl ⟨n, rfl⟩
  | [], .l _ _, h => by cases h
  | (j, p) :: r, .x n, _ => .inl ⟨n, rfl⟩
  | (j, p) :: r, .l s k, h => by
    simp only [hasI] at h
    split at h
    · rename_i e; exact .inr ⟨p, by simp [mget, beqI_t e]⟩
    · rename_i e
      rcases hasI_key h with h | ⟨q, h⟩
      · exact .inl h
      · exact .inr ⟨q, by simp [mget, beqI_f e, h]⟩
abbrev DI (o : List (Id × MObj)) : Id → Prop := fun i => (∃ n, i = .x n) ∨ keys o i
mutual
theorem hasC_in : ∀ {c : Cell}, hasC o c = true → inC (DI o) c
  | .sc _, _ => trivial
  | .lst _, _ => trivial
  | .full _, _ => trivial
  | .view _ _ _, h => hasI_key h
  | .ptr _ _, h => hasI_key h
  | .aptr _ _ _, h => hasI_key h
  | .pel _, _ => trivial
  | .mp _, h => hasI_key h
  | .fn _ caps, h => hasCs_in (l := caps) h
theorem hasCs_in : ∀ {l : List Cell}, hasCs o l = true → inCs (DI o) l
  | [], _ => trivial
  | c :: r, h => by
    simp only [hasCs] at h
    split at h
    · rename_i e; exact ⟨hasC_in e, hasCs_in h⟩
    · cases h
end
mutual
theorem hasA_in : ∀ {x : AV}, hasA o x = true → inA (DI o) x
  | .c _, h => hasC_in h
  | .agg _, h => hasCs_in h
  | .tup l, h => hasAs_in (l := l) h
theorem hasAs_in : ∀ {l : List AV}, hasAs o l = true → inAs (DI o) l
  | [], _ => trivial
  | c :: r, h => by
    simp only [hasAs] at h
    split at h
    · rename_i e; exact ⟨hasA_in e, hasAs_in h⟩
    · cases h
end
theorem hasT_in : ∀ {t : List (Nat × AV)}, hasT o t = true → ∀ {d : Nat} {x : AV}, tget t d = some x → inA (DI o) x
  | [], _, _, _, h => by cases h
  | (s, y) :: r, h, d, x, hx => by
    simp only [hasT] at h
    split at h
    · rename_i e
      simp only [tget] at hx
      split at hx
      · simp at hx; subst hx; exact hasA_in e
      · exact hasT_in h hx
    · cases h
theorem hasO_in {nx : Nat} : ∀ {l : List (Id × MObj)}, hasO o nx l = true → ∀ {i : Id} {x : MObj}, mget l i = some x → inO (DI o) x ∧ ∀ s k, i = .l s k → k < nx
  | [], _, _, _, h => by cases h
  | (j, y) :: r, h, i, x, hx => by
    simp only [hasO] at h
    split at h
    · rename_i e1 e2
      simp only [mget] at hx
      split at hx
      · rename_i hij
        simp at hx; subst hx; subst hij
        refine ⟨?_, fun s k hi => ?_⟩
        · cases y with
          | blk cs => exact hasCs_in e2
          | arr _ _ _ _ => trivial
          | map _ => trivial
        · subst hi
          simp only at e1
          exact Nat.le_of_ble_eq_true (by simpa [Nat.blt] using e1)
      · exact hasO_in h hx
    · cases h
end

theorem Shift.reset {a b : St} (h1 : SubT a.t b.t) (h2 : SubO a.m.o b.m.o) (h3 : hasT a.m.o a.t = true) (h4 : hasO a.m.o a.m.nx a.m.o = true) : Shift a b := fun B act w hR => by
  obtain ⟨⟨g, hs, hI⟩, hd, hz⟩ := hR
  let D := DI a.m.o
  let g' : G := { g with K := fun i => g.K i ∧ D i }
  have hl : Link id D g' g := ⟨fun i hi => ⟨fun h => h.1, fun h => ⟨h, hi⟩⟩, fun _ _ _ => rfl, fun _ _ _ => rfl, rfl⟩
  refine ⟨⟨g', fun t x hx => ?_, ?_⟩, hd, hz⟩
  · obtain ⟨v, e1, e2⟩ := hs t x (h1.get hx)
    exact ⟨v, e1, hl.pullA e2 x (renA_id x) (hasT_in h3 hx)⟩
  · refine { ok := fun i o hi => ?_, apart := fun i j oi oj b hi hj => hI.apart i j oi oj b (h2.get hi) (h2.get hj), fresh := fun s k hk hK => ?_, flt := hI.flt, ext := ?_, fnew := hI.fnew, own := fun i o b hi => hI.own i o b (h2.get hi), os := hI.os, tape := hI.tape, output := hI.output, size := hI.size, block := hI.block }
    · obtain ⟨k1, k2⟩ := hI.ok i o (h2.get hi)
      have hDi : D i := .inr ⟨o, hi⟩
      have hk : g'.K i := ⟨k1, hDi⟩
      exact ⟨hk, hl.pullO hDi hk (by rw [renO_id]; exact k2) (hasO_in h4 hi).1⟩
    · rcases hK.2 with ⟨n, hn⟩ | ⟨o, ho⟩
      · cases hn
      · exact hk (.inl ((hasO_in h4 ho).2 s k rfl))
    · exact ⟨fun i hi => ⟨hI.ext.K i hi, .inl (B.gx i hi)⟩, hI.ext.β, hI.ext.sz, hI.ext.F, hI.ext.cell⟩

/-! Names changed as well. -/
def rho : List (Id × Id) → Id → Id
  | _, .x n => .x n
  | [], i => i
  | (a, b) :: r, i => match beqI i a with
    | true => b
    | false => rho r i
theorem rho_x (rs : List (Id × Id)) (n : Nat) : rho rs (.x n) = .x n := by cases rs <;> rfl
def RSubT (rs : List (Id × Id)) : List (Nat × AV) → List (Nat × AV) → Prop
  | [], _ => True
  | (t, x) :: r, b => tget b t = some (renA (rho rs) x) ∧ RSubT rs r b
def RSubO (rs : List (Id × Id)) : List (Id × MObj) → List (Id × MObj) → Prop
  | [], _ => True
  | (i, o) :: r, b => mget b (rho rs i) = some (renO (rho rs) o) ∧ RSubO rs r b
theorem RSubT.get {rs : List (Id × Id)} : ∀ {a b : List (Nat × AV)}, RSubT rs a b → ∀ {t : Nat} {x : AV}, tget a t = some x → tget b t = some (renA (rho rs) x)
  | [], _, _, _, _, h => by cases h
  | (s, y) :: r, b, h, t, x, hx => by
    simp only [tget] at hx
    split at hx
    · rename_i hts; simp at hx; subst hx; rw [hts]; exact h.1
    · exact RSubT.get h.2 hx
theorem RSubO.get {rs : List (Id × Id)} : ∀ {a b : List (Id × MObj)}, RSubO rs a b → ∀ {t : Id} {x : MObj}, mget a t = some x → mget b (rho rs t) = some (renO (rho rs) x)
  | [], _, _, _, _, h => by cases h
  | (s, y) :: r, b, h, t, x, hx => by
    simp only [mget] at hx
    split at hx
    · rename_i hts; simp at hx; subst hx; rw [hts]; exact h.1
    · exact RSubO.get h.2 hx
def notK (rs : List (Id × Id)) (i : Id) : List (Id × MObj) → Bool
  | [] => true
  | (j, _) :: r => match beqI (rho rs i) (rho rs j) with
    | true => false
    | false => notK rs i r
def injO (rs : List (Id × Id)) : List (Id × MObj) → Bool
  | [] => true
  | (i, _) :: r => match notK rs i r with
    | true => injO rs r
    | false => false
theorem notK_ne {rs : List (Id × Id)} {i : Id} : ∀ {l : List (Id × MObj)}, notK rs i l = true → ∀ {j : Id} {o : MObj}, mget l j = some o → rho rs i ≠ rho rs j
  | [], _, _, _, h => by cases h
  | (s, y) :: r, h, j, o, ho => by
    simp only [notK] at h
    split at h
    · cases h
    · rename_i e
      simp only [mget] at ho
      split at ho
      · rename_i hj; subst hj; exact fun e' => beqI_f e e'
      · exact notK_ne h ho
theorem injO_ne {rs : List (Id × Id)} : ∀ {l : List (Id × MObj)}, injO rs l = true → ∀ {i j : Id} {oi oj : MObj}, mget l i = some oi → mget l j = some oj → i ≠ j → rho rs i ≠ rho rs j
  | [], _, _, _, _, _, h, _, _ => by cases h
  | (s, y) :: r, h, i, j, oi, oj, hi, hj, hij => by
    simp only [injO] at h
    split at h
    · rename_i e
      simp only [mget] at hi hj
      split at hi
      · rename_i h1
        split at hj
        · rename_i h2; exact absurd (h1.trans h2.symm) hij
        · subst h1; exact notK_ne e hj
      · split at hj
        · rename_i h1 h2; subst h2; exact fun e' => notK_ne e hi e'.symm
        · exact injO_ne h hi hj hij
    · cases h

theorem Shift.rename (rs : List (Id × Id)) {a b : St} (h1 : RSubT rs a.t b.t) (h2 : RSubO rs a.m.o b.m.o) (h3 : hasT a.m.o a.t = true) (h4 : hasO a.m.o a.m.nx a.m.o = true) (h5 : injO rs a.m.o = true) : Shift a b := fun B act w hR => by
  obtain ⟨⟨g, hs, hI⟩, hd, hz⟩ := hR
  let D := DI a.m.o
  let ρ := rho rs
  let g' : G := { K := fun i => g.K (ρ i) ∧ D i, β := fun i => g.β (ρ i), sz := fun i => g.sz (ρ i), F := g.F }
  have hl : Link ρ D g' g := ⟨fun i hi => ⟨fun h => h.1, fun h => ⟨h, hi⟩⟩, fun _ _ _ => rfl, fun _ _ _ => rfl, rfl⟩
  refine ⟨⟨g', fun t x hx => ?_, ?_⟩, hd, hz⟩
  · obtain ⟨v, e1, e2⟩ := hs t _ (h1.get hx)
    exact ⟨v, e1, hl.pullA e2 x rfl (hasT_in h3 hx)⟩
  · refine { ok := fun i o hi => ?_, apart := fun i j oi oj b hi hj hij => hI.apart (ρ i) (ρ j) _ _ b (h2.get hi) (h2.get hj) (injO_ne h5 hi hj hij), fresh := fun s k hk hK => ?_, flt := hI.flt, ext := ?_, fnew := hI.fnew, own := fun i o b hi => hI.own (ρ i) _ b (h2.get hi), os := hI.os, tape := hI.tape, output := hI.output, size := hI.size, block := hI.block }
    · obtain ⟨k1, k2⟩ := hI.ok (ρ i) _ (h2.get hi)
      have hDi : D i := .inr ⟨o, hi⟩
      have hk : g'.K i := ⟨k1, hDi⟩
      exact ⟨hk, hl.pullO hDi hk k2 (hasO_in h4 hi).1⟩
    · rcases hK.2 with ⟨n, hn⟩ | ⟨o, ho⟩
      · cases hn
      · exact hk (.inl ((hasO_in h4 ho).2 s k rfl))
    · refine ⟨fun i hi => ?_, fun i hi => ?_, fun i hi => ?_, hI.ext.F, hI.ext.cell⟩ <;> obtain ⟨n, rfl⟩ := B.gx i hi
      · exact ⟨by show g.K (rho rs (.x n)); rw [rho_x]; exact hI.ext.K _ hi, .inl ⟨n, rfl⟩⟩
      · show g.β (rho rs (.x n)) = _; rw [rho_x]; exact hI.ext.β _ hi
      · show g.sz (rho rs (.x n)) = _; rw [rho_x]; exact hI.ext.sz _ hi

/-- A nil slice in a block is an array of one's own, of no elements. -/
theorem Shift.nilCell {b : St} {i : Id} {cs : List Cell} {j : Nat} (hm : mget b.m.o i = some (.blk cs)) (hc : cs[j]? = some (.sc (.slice none 0 0))) (s e sz : Nat) (hlow : lowS s = true := by rfl) :
    Shift ⟨b.t, bump { o := mset ((bump b.m).o ++ [(.l s (bump b.m).nx, .arr e sz [] false)]) i (.blk (cs.set j (.view (.l s (bump b.m).nx) 0 0))), nx := (bump b.m).nx, us := s :: (bump b.m).us }⟩ b := Shift.trans (fun B act w hR => hR.bump) (b := ⟨b.t, { o := mset ((bump b.m).o ++ [(.l s (bump b.m).nx, .arr e sz [] false)]) i (.blk (cs.set j (.view (.l s (bump b.m).nx) 0 0))), nx := (bump b.m).nx, us := s :: (bump b.m).us }⟩) fun B act w hR => by
  obtain ⟨⟨g, hs, hI⟩, hd, hz⟩ := hR.bump
  have hβ : (addId g (newId s (bump b.m)) (.slice none 0 0) sz).β (newId s (bump b.m)) = .slice none 0 0 := if_pos rfl
  have h1 := inv_add (w' := w) hI s (m1 := bump b.m) (fun _ _ h => h) ⟨rfl, rfl⟩ (by rw [bump_us]; simp only [memU, hlow]) (row := none) (grownBy_refl w none) (fun b h => by cases h) (V := .slice none 0 0) (s := sz) (obj := .arr e sz [] false) (fun b hb => by simp [blockOf] at hb)
    (fun he => .arr [] (if_pos rfl) (by
      rw [hβ]; exact World.ownsRow_nil w 0 e sz) (fun k x h => by simp at h) (fun k x h => by simp at h) (fun u h => by simp at h) (fun bb o hb => by
      rw [hβ] at hb; simp [blockOf] at hb))
  have hm2 : mget (addObj s (bump b.m) (.arr e sz [] false)).o i = some (.blk cs) := by
    simp only [addObj]
    rw [mget_snoc, bump_o, hm]
  have h2 := inv_upd (w' := w) h1.2 hm2 (row := none) (grownBy_refl w none) (fun b h => by cases h) (fun b x h => by cases h) (o' := .blk (cs.set j (.view (.l s (bump b.m).nx) 0 0))) (fun _ => by
    obtain ⟨_, ho⟩ := h1.2.ok i _ hm2
    cases ho with
    | blk us hv hh hl hr h1' hf =>
      refine .blk us hv hh (by rw [List.length_set]; exact hl) (fun k c u hk hu => ?_) h1' hf
      rcases set_get hk with ⟨rfl, rfl⟩ | ⟨_, hk⟩
      · have := hr k _ u hc hu
        obtain ⟨rfl, _⟩ := isSc (.c this)
        exact owns_view (World.ownsRow_nil w 0 e sz) (.inl rfl) hβ
      · exact hr k c u hk hu)
  exact ⟨⟨_, fun k x hx => by
    obtain ⟨v, q1, q2⟩ := hs k x hx
    exact ⟨v, q1, q2.ext h1.1⟩, h2.2⟩, hd, hz⟩

theorem pur_blk {m m' : Mem} {c c' : Cell} (h : pur m c = some (c', m')) {i : Id} {cs : List Cell} (hi : mget m.o i = some (.blk cs)) : mget m'.o i = some (.blk cs) := by
  unfold pur at h
  split at h
  · simp at h; rw [← h.2]; exact hi
  · simp at h; rw [← h.2]; exact hi
  · simp at h; rw [← h.2]; exact hi
  · split at h
    · split at h
      · rename_i o lo n _ e sz es fr ho hl
        simp at h
        rw [← h.2]
        simp only [mget_mset]
        rw [if_neg (fun e => by rw [e, ho] at hi; cases hi)]
        exact hi
      · cases h
    · cases h
  · cases h
/-- A cell of a block becomes data (an array of one's own is written no more). -/
theorem Shift.purCell {b : St} {i : Id} {cs : List Cell} {j : Nat} {c c' : Cell} {m' : Mem} (hm : mget b.m.o i = some (.blk cs)) (hc : cs[j]? = some c) (hp : pur b.m c = some (c', m')) :
    Shift ⟨b.t, { m' with o := mset m'.o i (.blk (cs.set j c')) }⟩ b := fun B act w hR => by
  obtain ⟨⟨g, hs, hI⟩, hd, hz⟩ := hR
  obtain ⟨_, ho⟩ := hI.ok i _ hm
  cases ho with
  | blk us hv hh hl hr h1 hf =>
    rename_i bb T
    have hj : j < us.length := by rw [hl]; exact (List.getElem?_eq_some_iff.1 hc).1
    obtain ⟨g', he, hI', hP⟩ := pur_ok hI (hr j c us[j] hc (List.getElem?_eq_getElem hj)) hp
    have hm' : mget m'.o i = some (.blk cs) := pur_blk hp hm
    have h2 := inv_upd (w' := w) hI' hm' (row := none) (grownBy_refl w none) (fun b h => by cases h) (fun b x h => by cases h) (o' := .blk (cs.set j c')) (fun _ => by
      obtain ⟨hk', ho'⟩ := hI'.ok i _ hm'
      cases ho' with
      | blk us' hv' hh' hl' hr' h1' hf' =>
        rw [he.β i (hI.ok i _ hm).1, hv] at hv'
        simp at hv'
        subst hv'
        rw [hh] at hh'
        simp at hh'
        obtain ⟨rfl, rfl⟩ := hh'
        refine .blk us ((he.β i (hI.ok i _ hm).1).trans hv) hh (by rw [List.length_set]; exact hl) (fun k x u hk hu => ?_) h1 hf'
        rcases set_get hk with ⟨rfl, rfl⟩ | ⟨_, hk⟩
        · rw [List.getElem?_eq_getElem hj] at hu
          simp at hu
          subst hu
          exact .pure hP
        · exact hr' k x u hk hu)
    exact ⟨⟨g', fun k x hx => by
      obtain ⟨v, q1, q2⟩ := hs k x hx
      exact ⟨v, q1, q2.ext he⟩, h2.2⟩, hd, hz⟩

theorem fork_t {A B : Prop} (h : A) : Fork true A B := ⟨fun _ => h, fun h => by cases h⟩
theorem fork_f {A B : Prop} (h : B) : Fork false A B := ⟨fun h => (by cases h), fun _ => h⟩

end Go.Abs

/- From what is proved of a function to the call itself: arguments that come in. -/
namespace Go.Abs
open Go.RowKit

/-- Integers that came in as a slice. -/
def RowIn (k : IntKind) (w : World) (a : Option Addr) (len cap : Nat) (zs : List Int) : Prop :=
  (a = none ∧ len = 0 ∧ cap = 0 ∧ zs = []) ∨
  ∃ x, a = some x ∧ x.spot = none ∧ len ≤ cap ∧ cap ≤ maxLen ∧ zs.length = cap ∧ (∀ i, i < zs.length → w.cell? (x.add i) = some (.int k (zs.getD i 0)))

abbrev FIn (w : World) : Nat → Nat → Prop := fun b _ => b < w.heap.size

theorem cell_lt {w : World} {a : Addr} {v : Value} (h : w.cell? a = some v) : a.block < w.heap.size := by
  unfold World.cell? at h
  split at h
  · rename_i hb; exact (Array.getElem?_eq_some_iff.1 hb).1
  · cases h

theorem addr_add {x : Addr} (h : x.spot = none) (n : Nat) : x.add n = ⟨x.block, x.off + n, none⟩ := by
  unfold Addr.add
  split
  · rename_i hn; subst hn; cases x; simp only at h; subst h; rfl
  · rfl

theorem rep_rowP {k : IntKind} {w : World} {a : Option Addr} {len cap : Nat} {zs : List Int} (h : RowIn k w a len cap zs) :
    RepP (FIn w) w (.lst ((zs.take len).map fun x => [.sc (.int k x)])) (.slice a len cap) := by
  rcases h with ⟨rfl, rfl, rfl, rfl⟩ | ⟨x, rfl, hx, hl, hc, hz, hcell⟩
  · exact .nil
  · have hlen : ((zs.take len).map fun x => [Cell.sc (.int k x)]).length = len := by rw [List.length_map, List.length_take]; omega
    have key := RepP.lst (F := FIn w) (w := w) (es := (zs.take len).map fun x => [Cell.sc (.int k x)]) (b := x.block) (off := x.off) (cap := cap) (sz := 1) (fun i _ => .int k (zs.getD i 0))
      (fun i e he => by
        rw [List.getElem?_map] at he
        cases h' : (zs.take len)[i]? with
        | none => rw [h'] at he; cases he
        | some y => rw [h'] at he; simp at he; subst he; rfl)
      (fun i e he j c hj => by
        have hi : i < len := by rw [← hlen]; exact (List.getElem?_eq_some_iff.1 he).1
        rw [List.getElem?_map] at he
        cases h' : (zs.take len)[i]? with
        | none => rw [h'] at he; cases he
        | some y =>
          rw [h'] at he; simp at he; subst he
          have hj0 : j = 0 := by
            cases j with
            | zero => rfl
            | succ j => simp at hj
          subst hj0
          have := hcell i (by omega)
          rw [addr_add hx] at this
          rw [Nat.mul_one, Nat.add_zero]
          exact ⟨cell_lt (a := ⟨x.block, x.off + i, none⟩) this, this⟩)
      (fun i e he j c hj => by
        rw [List.getElem?_map] at he
        cases h' : (zs.take len)[i]? with
        | none => rw [h'] at he; cases he
        | some y =>
          rw [h'] at he; simp at he; subst he
          have hj0 : j = 0 := by
            cases j with
            | zero => rfl
            | succ j => simp at hj
          subst hj0
          simp at hj
          subst hj
          rw [List.getElem?_take] at h'
          split at h'
          · rw [List.getD_eq_getElem?_getD, h']; exact .sc rfl
          · cases h') (by omega) hc
    rw [hlen] at key
    have hxe : x = ⟨x.block, x.off, none⟩ := by cases x; simp only at hx; subst hx; rfl
    rw [hxe]
    exact key

theorem rep_row {k : IntKind} {w : World} {a : Option Addr} {len cap : Nat} {zs : List Int} (h : RowIn k w a len cap zs) :
    RepA (g0 (FIn w)) w (.c (.lst ((zs.take len).map fun x => [.sc (.int k x)]))) (.slice a len cap) := .c (.pure (rep_rowP h))
theorem rep_int {k : IntKind} {w : World} {n : Int} : RepA (g0 (FIn w)) w (.c (.sc (.int k n))) (.int k n) := .c (.pure (.sc rfl))

theorem row_len {k : IntKind} {w : World} {a : Option Addr} {len cap : Nat} {zs : List Int} (h : RowIn k w a len cap zs) : (zs.take len).length ≤ maxLen := by
  rw [List.length_take]
  rcases h with ⟨rfl, rfl, rfl, rfl⟩ | ⟨x, rfl, hx, hl, hc, hz, _⟩
  · exact Nat.zero_le _
  · omega

/-- The arguments, one by one. -/
def RepL (w : World) : List AV → List Value → Prop
  | [], [] => True
  | a :: r, v :: s => RepA (g0 (FIn w)) w a v ∧ RepL w r s
  | _, _ => False
theorem RepL.spec {w : World} : ∀ {l : List AV} {vs : List Value}, RepL w l vs → vs.length = l.length ∧ ∀ (j : Nat) a v, l[j]? = some a → vs[j]? = some v → RepA (g0 (FIn w)) w a v
  | [], [], _ => ⟨rfl, fun j a v h => by simp at h⟩
  | a :: r, v :: s, h => by
    obtain ⟨h1, h2⟩ := RepL.spec h.2
    refine ⟨by simp [h1], fun j x y hx hy => ?_⟩
    cases j with
    | zero => simp at hx hy; subst hx; subst hy; exact h.1
    | succ j => simp at hx hy; exact h2 j x y hx hy
  | [], _ :: _, h => h.elim
  | _ :: _, [], h => h.elim

theorem calls_true {P : Program} {f : Nat} {R : RT} (h : FunR P f R) {args : List AV} {vals : List Value} {w : World} (hL : Laid (FIn w) w) (hrep : RepL w args vals) (hR : R args (fun r => r = .c (.sc (.bool true)))) :
    Calls P f vals.toArray w fun e w' => e = .returned (.bool true) ∧ Below w.heap.size w w' := by
  obtain ⟨r, hd, rfl⟩ := h _ _ hR
  obtain ⟨h1, h2⟩ := hrep.spec
  refine (hd.2 (FIn w) w vals (fun _ _ h => h) hL h1 h2).mono fun e w' ⟨v, F', he, _, _, _, hr, hb⟩ => ?_
  obtain ⟨rfl, _⟩ := isSc hr
  exact ⟨he, hb⟩
theorem okWide_spot {P : Program} {w : World} {r : Reach} {base : Nat} {t e : TypeId} {x : Addr} {len cap : Nat} (ht : P.underlying t = some (.slice e)) (h : Value.okWide P w r base t (.slice (some x) len cap)) : x.spot = none := by
  simp only [Value.okWide, ht, Cell.okWide, Cell.ok] at h
  exact h.2.2.2.1
end Go.Abs
