/- Turbines: what the functions answer. No program. -/
import Derived.Test.YtfhnicamjcfddaaGreatDoorPStorage2
namespace Go.Proofs
open Go Go.Abs
set_option linter.unusedSimpArgs false
set_option linter.unusedVariables false
structure Un where
  tb : List Pt
  lo : Int
  mo : Int
  rg : List Pt
  up : Int
  dn : Int
def unC (u : Un) : List Cell := [.lst (eP u.tb), IC u.lo, IC u.mo, .lst (eP u.rg), IC u.up, IC u.dn]
structure Un.fin (u : Un) : Prop where
  tb : u.tb.length ≤ 9223372036854775807
  rg : u.rg.length ≤ 9223372036854775807
structure Us where
  fl : Int
  si : Int
  ot : Bool
def usC (s : Us) : List Cell := [IC s.fl, IC s.si, BC s.ot]
def zE : List Pt → Int
  | [] => 0
  | z :: r => if (inB 0 1073741824 z.1 && inB 0 1073741824 z.2) = false then 1 else if z.2 ≤ z.1 then 4 else zE r
def ckU (u : Un) : Int := if ckC u.tb ≠ 0 then ckC u.tb else if 1073741824 < (lastP u.tb).2 then 1 else if u.lo < 1 ∨ u.mo < u.lo ∨ 1073741824 < u.mo then 1 else if 10 < u.rg.length then 10 else if zE u.rg ≠ 0 then zE u.rg else if (inB 0 1000 u.up && inB 0 1000 u.dn) = false then 1 else 0
theorem zE_cons (z : Pt) (r : List Pt) : zE (z :: r) = if (inB 0 1073741824 z.1 && inB 0 1073741824 z.2) = false then 1 else if z.2 ≤ z.1 then 4 else zE r := rfl
theorem zE_ok : ∀ {l : List Pt}, zE l = 0 ↔ ∀ z ∈ l, (0 ≤ z.1 ∧ z.1 ≤ 1073741824) ∧ (0 ≤ z.2 ∧ z.2 ≤ 1073741824) ∧ z.1 < z.2
  | [] => by simp [zE]
  | z :: r => by
    have ih := zE_ok (l := r)
    rw [List.forall_mem_cons, ← ih, zE_cons]
    split
    · rename_i h
      simp [inB] at h
      refine ⟨fun e => by omega, fun ⟨a, _⟩ => ?_⟩
      exact absurd a.2.1.2 (by have := h (by omega) (by omega) (by omega); omega)
    · rename_i h
      simp [inB] at h
      split
      · exact ⟨fun e => by omega, fun ⟨a, _⟩ => by omega⟩
      · exact ⟨fun e => ⟨⟨⟨by omega, by omega⟩, ⟨by omega, by omega⟩, by omega⟩, e⟩, fun ⟨_, b⟩ => b⟩
structure UOk (u : Un) : Prop where
  c : ckC u.tb = 0
  y : (lastP u.tb).2 ≤ 1073741824
  l1 : 1 ≤ u.lo
  lm : u.lo ≤ u.mo
  m : u.mo ≤ 1073741824
  n : u.rg.length ≤ 10
  z : ∀ z ∈ u.rg, (0 ≤ z.1 ∧ z.1 ≤ 1073741824) ∧ (0 ≤ z.2 ∧ z.2 ≤ 1073741824) ∧ z.1 < z.2
  hup : 0 ≤ u.up ∧ u.up ≤ 1000
  hdn : 0 ≤ u.dn ∧ u.dn ≤ 1000
theorem ckU_ok {u : Un} (h : ckU u = 0) : UOk u := by
  unfold ckU at h
  split at h
  · rename_i e; exact absurd h e
  rename_i h1
  split at h
  · omega
  split at h
  · omega
  split at h
  · omega
  split at h
  · rename_i e; exact absurd h e
  rename_i h5
  split at h
  · omega
  rename_i h6
  simp [inB] at h6
  exact ⟨by omega, by omega, by omega, by omega, by omega, by omega, zE_ok.1 (by omega), by omega, by omega⟩
theorem ckU_of {u : Un} (h : UOk u) : ckU u = 0 := by
  have hz := zE_ok.2 h.z
  obtain ⟨h1, h2, h3, h4, h5, h6, _, ⟨h7, h8⟩, h9, h10⟩ := h
  unfold ckU
  rw [if_neg (by simp [h1]), if_neg (by omega), if_neg (by omega), if_neg (by omega), if_neg (by simp [hz]), if_neg (by simp [inB, h7, h8, h9, h10])]
def outZ (l : List Pt) (q : Int) : Bool := l.all fun z => !(decide (z.1 < q) && decide (q < z.2))
def runB (u : Un) (q : Int) : Bool := (decide (u.lo ≤ q) && decide (q ≤ u.mo)) && outZ u.rg q
theorem outZ_iff {l : List Pt} {q : Int} : outZ l q = true ↔ ∀ z ∈ l, ¬ (z.1 < q ∧ q < z.2) := by
  simp only [outZ, List.all_eq_true]
  refine forall_congr' fun z => forall_congr' fun _ => ?_
  simp; omega
theorem runB_iff {u : Un} {q : Int} : runB u q = true ↔ (u.lo ≤ q ∧ q ≤ u.mo) ∧ outZ u.rg q = true := by simp [runB]
def runS (u : Un) (q : Int) : Bool := decide (ckU u = 0) && runB u q
def fitB (u : Un) (s : Us) : Bool := inB 0 1000 s.si && (decide (s.fl = 0) || (!s.ot && runB u s.fl))
def validB (u : Un) (s : Us) : Bool := decide (ckU u = 0) && fitB u s
def mayB (u : Un) (s : Us) (q : Int) : Bool := if q = 0 then (if 0 < s.fl then decide (u.up ≤ s.si) else true) else if s.ot = true ∨ (s.fl = 0 ∧ s.si < u.dn) then false else runB u q
def mayV (u : Un) (s : Us) (q : Int) : Bool := validB u s && mayB u s q
def us0 : Us := ⟨0, 0, false⟩
def mn (a b : Int) : Int := if b < a then b else a
def nextS (u : Un) (s : Us) (q : Int) : Us × Bool × Int :=
  if ckU u ≠ 0 then (us0, false, ckU u) else if fitB u s = false then (us0, false, 3) else if mayB u s q = false then (us0, false, 15)
  else (⟨q, if decide (0 < q) = decide (0 < s.fl) then mn (s.si + 1) 1000 else 1, s.ot⟩, decide (0 < q) && decide (s.fl = 0), 0)
/-- The least flow from one on that is in no zone. -/
def isBey (l : List Pt) (f r : Int) : Prop := f ≤ r ∧ outZ l r = true ∧ (∀ x, f ≤ x → x < r → outZ l x = false) ∧ (r = f ∨ ∃ z ∈ l, r = z.2)
theorem isBey_eq {l : List Pt} {f r : Int} (h : isBey l f r) : decide (r = f) = outZ l f := by
  obtain ⟨h1, h2, h3, _⟩ := h
  by_cases e : r = f
  · subst e; simp [h2]
  · rw [h3 f (Int.le_refl _) (by omega)]; simp [e]
def insZ : List Pt → Int → Int × Bool
  | [], _ => (0, false)
  | z :: r, q => if z.1 < q ∧ q < z.2 then (z.2, true) else insZ r q
theorem insZ_iff : ∀ {l : List Pt} {q : Int}, (insZ l q).2 = !outZ l q
  | [], q => rfl
  | z :: r, q => by
    have ih := insZ_iff (l := r) (q := q)
    unfold insZ
    by_cases h : z.1 < q ∧ q < z.2
    · rw [if_pos h]; simp [outZ, h]
    · rw [if_neg h, ih]
      have : (decide (z.1 < q) && decide (q < z.2)) = false := by simp; omega
      simp [outZ, this]
theorem insZ_mem : ∀ {l : List Pt} {q : Int}, (insZ l q).2 = true → ∃ z ∈ l, z.1 < q ∧ q < z.2 ∧ (insZ l q).1 = z.2
  | [], q, h => by cases h
  | z :: r, q, h => by
    unfold insZ at h ⊢
    by_cases e : z.1 < q ∧ q < z.2
    · rw [if_pos e]; exact ⟨z, by simp, e.1, e.2, rfl⟩
    · rw [if_neg e] at h ⊢
      obtain ⟨y, h1, h2⟩ := insZ_mem h
      exact ⟨y, List.mem_cons_of_mem _ h1, h2⟩
theorem outZ_f {l : List Pt} {q : Int} {z : Pt} (h : z ∈ l) (h1 : z.1 < q) (h2 : q < z.2) : outZ l q = false := by
  cases h0 : outZ l q with
  | false => rfl
  | true => exact absurd ⟨h1, h2⟩ (outZ_iff.1 h0 z h)
/-- How many zones end above a flow. -/
def zAb (l : List Pt) (f : Int) : Nat := (l.filter fun z => decide (f < z.2)).length
theorem zAb_le : ∀ {l : List Pt} {f g : Int}, f ≤ g → zAb l g ≤ zAb l f
  | [], _, _, _ => Nat.le_refl _
  | z :: r, f, g, h => by
    have ih := zAb_le (l := r) h
    unfold zAb at *
    simp only [List.filter_cons]
    split <;> split <;> simp at * <;> omega
theorem zAb_lt : ∀ {l : List Pt} {f : Int} {z : Pt}, z ∈ l → f < z.2 → zAb l z.2 < zAb l f
  | [], _, _, h, _ => by cases h
  | y :: r, f, z, h, hf => by
    rcases List.mem_cons.1 h with rfl | h
    · have := zAb_le (l := r) (Int.le_of_lt hf)
      unfold zAb at *
      simp only [List.filter_cons]
      split <;> split <;> simp at * <;> omega
    · have ih := zAb_lt h hf
      unfold zAb at *
      simp only [List.filter_cons]
      split <;> split <;> simp at * <;> omega
/-! Multiples of a grain at which a unit runs. -/
def okQ (u : Un) (g q : Int) : Bool := decide (q % g = 0) && outZ u.rg q
def flN (u : Un) (g : Int) : Nat → Ls
  | 0 => []
  | n + 1 => flN u g n ++ (if okQ u g (u.lo + n) = true then [u.lo + n] else [])
theorem flN_succ (u : Un) (g : Int) (n : Nat) : flN u g (n + 1) = flN u g n ++ (if okQ u g (u.lo + n) = true then [u.lo + n] else []) := rfl
/-- Those below a number. -/
def flT (u : Un) (g x : Int) : Ls := flN u g (x - u.lo).toNat
theorem flT_one {u : Un} {g x : Int} (h : u.lo ≤ x) : flT u g (x + 1) = flT u g x ++ (if okQ u g x = true then [x] else []) := by
  unfold flT
  rw [show (x + 1 - u.lo).toNat = (x - u.lo).toNat + 1 by omega]
  rw [flN_succ, show u.lo + ((x - u.lo).toNat : Int) = x by omega]
theorem flT_lo {u : Un} {g x : Int} (h : x ≤ u.lo) : flT u g x = [] := by
  unfold flT
  rw [show (x - u.lo).toNat = 0 by omega]
  rfl
theorem flT_skip {u : Un} {g : Int} : ∀ (n : Nat) {a : Int}, (∀ x, a ≤ x → x < a + n → okQ u g x = false) → flT u g (a + n) = flT u g a
  | 0, a, _ => by simp
  | n + 1, a, h => by
    have ih := flT_skip n (a := a) fun x h1 h2 => h x h1 (by omega)
    by_cases hl : u.lo ≤ a + n
    · rw [show a + ((n + 1 : Nat) : Int) = a + n + 1 by omega, flT_one hl, ih, h (a + n) (by omega) (by omega)]; simp
    · rw [flT_lo (by omega), flT_lo (by omega)]
theorem flT_to {u : Un} {g a b : Int} (hab : a ≤ b) (h : ∀ x, a ≤ x → x < b → okQ u g x = false) : flT u g b = flT u g a := by
  have := flT_skip (b - a).toNat (u := u) (g := g) (a := a) fun x h1 h2 => h x h1 (by omega)
  rwa [show a + ((b - a).toNat : Int) = b by omega] at this
theorem flN_mem {u : Un} {g : Int} : ∀ {n : Nat} {x : Int}, x ∈ flN u g n ↔ (u.lo ≤ x ∧ x < u.lo + n) ∧ okQ u g x = true
  | 0, x => by simp [flN]; omega
  | n + 1, x => by
    unfold flN
    rw [List.mem_append, flN_mem (n := n)]
    constructor
    · rintro (h | h)
      · exact ⟨by omega, h.2⟩
      · split at h
        · rename_i e; simp at h; subst h; exact ⟨by omega, e⟩
        · simp at h
    · rintro ⟨h1, h2⟩
      by_cases e : x = u.lo + n
      · subst e; right; rw [if_pos h2]; simp
      · left; exact ⟨by omega, h2⟩
theorem flT_mem {u : Un} {g t x : Int} : x ∈ flT u g t ↔ (u.lo ≤ x ∧ x < t) ∧ okQ u g x = true := by
  unfold flT
  rw [flN_mem]
  constructor
  · rintro ⟨h1, h2⟩; exact ⟨by omega, h2⟩
  · rintro ⟨h1, h2⟩; exact ⟨by omega, h2⟩
theorem flN_len {u : Un} {g : Int} : ∀ {n : Nat}, (flN u g n).length ≤ n
  | 0 => Nat.le_refl _
  | n + 1 => by
    have := flN_len (u := u) (g := g) (n := n)
    unfold flN
    rw [List.length_append]
    split <;> simp <;> omega
theorem flN_mono {u : Un} {g : Int} {n : Nat} : ∀ {m : Nat}, n ≤ m → (flN u g n).length ≤ (flN u g m).length
  | 0, h => by rw [show n = 0 by omega]; exact Nat.le_refl _
  | m + 1, h => by
    by_cases e : n = m + 1
    · rw [e]; exact Nat.le_refl _
    · have := flN_mono (u := u) (g := g) (m := m) (n := n) (by omega)
      rw [show flN u g (m + 1) = flN u g m ++ (if okQ u g (u.lo + m) = true then [u.lo + m] else []) from rfl, List.length_append]
      omega
theorem flT_mono {u : Un} {g a b : Int} (h : a ≤ b) : (flT u g a).length ≤ (flT u g b).length := flN_mono (by omega)
def flS (u : Un) (g : Int) : Ls × Int := if ckU u ≠ 0 then ([], ckU u) else if g < 1 ∨ 1073741824 < g then ([], 1) else if 200 < (flT u g (u.mo + 1)).length then ([], 10) else (flT u g (u.mo + 1), 0)
theorem up_mul {f g : Int} (hf : 0 ≤ f) (hg : 0 < g) : (f + g - 1) / g * g % g = 0 ∧ f ≤ (f + g - 1) / g * g ∧ (f + g - 1) / g * g < f + g ∧ ∀ x, f ≤ x → x < (f + g - 1) / g * g → x % g ≠ 0 := by
  have h1 := Int.mul_ediv_add_emod (f + g - 1) g
  have h2 := Int.emod_nonneg (f + g - 1) (show g ≠ 0 by omega)
  have h3 := Int.emod_lt_of_pos (f + g - 1) hg
  rw [Int.mul_comm] at h1
  refine ⟨Int.mul_emod_left _ _, by omega, by omega, fun x hx hx2 hm => ?_⟩
  have h4 := Int.mul_ediv_add_emod x g
  rw [hm, Int.mul_comm] at h4
  have h5 : x / g < (f + g - 1) / g := Int.lt_of_mul_lt_mul_right (a := g) (by omega) (by omega)
  have h6 : (x / g + 1) * g ≤ (f + g - 1) / g * g := Int.mul_le_mul_of_nonneg_right (by omega) (by omega)
  rw [Int.add_mul] at h6
  omega
/-! What is asked of the functions. -/
def R_unI (f : Un → Int) : RT := fun args k => ∃ u : Un, args = [.agg (unC u)] ∧ u.fin ∧ k (I (f u))
def R_unQB (f : Un → Int → Bool) : RT := fun args k => ∃ (u : Un) (q : Int), args = [.agg (unC u), I q] ∧ u.fin ∧ k (Bo (f u q))
def R_bey : RT := fun args k => ∃ (u : Un) (q : Int), args = [.agg (unC u), I q] ∧ u.fin ∧ ∀ r, isBey u.rg q r → k (I r)
def R_ins : RT := fun args k => ∃ (u : Un) (q : Int), args = [.agg (unC u), I q] ∧ u.fin ∧ k (.tup [I (insZ u.rg q).1, Bo (insZ u.rg q).2])
def R_unQ2 (f : Un → Int → Int × Int) : RT := fun args k => ∃ (u : Un) (q : Int), args = [.agg (unC u), I q] ∧ u.fin ∧ k (.tup [I (f u q).1, I (f u q).2])
def R_flS : RT := fun args k => ∃ (u : Un) (q : Int), args = [.agg (unC u), I q] ∧ u.fin ∧ k (.tup [.c (.lst (eL (flS u q).1)), I (flS u q).2])
def R_usB (f : Un → Us → Bool) : RT := fun args k => ∃ (u : Un) (s : Us), args = [.agg (unC u), .agg (usC s)] ∧ u.fin ∧ k (Bo (f u s))
def R_usQB (f : Un → Us → Int → Bool) : RT := fun args k => ∃ (u : Un) (s : Us) (q : Int), args = [.agg (unC u), .agg (usC s), I q] ∧ u.fin ∧ k (Bo (f u s q))
def R_nextS : RT := fun args k => ∃ (u : Un) (s : Us) (q : Int), args = [.agg (unC u), .agg (usC s), I q] ∧ u.fin ∧ k (.tup [.agg (usC (nextS u s q).1), Bo (nextS u s q).2.1, I (nextS u s q).2.2])
def powS (u : Un) (q : Int) : Int × Int := if ckU u ≠ 0 then (0, ckU u) else if q = 0 then (0, 0) else if runB u q = false then (0, 1) else (valC u.tb q, 0)
/-- What a deck makes. -/
structure mkU (u : Un) : Prop where
  ok : UOk u
  m : u.mo ≤ 19
  hup : u.up ≤ 2
  hdn : u.dn ≤ 2
theorem mkU.fin {u : Un} (h : mkU u) : u.fin := ⟨by have := (ckC_ne h.ok.c).2; omega, by have := h.ok.n; omega⟩
def R_mkU : RB := fun cs args k => ∃ d : Dk, args = [] ∧ cs = dkC d ∧ d.ok ∧ ∀ (u : Un) d', Dk.ok d' → mkU u → k (.agg (unC u)) (dkC d')
structure mkS (u : Un) (s : Us) : Prop where
  f : fitB u s = true
  s : 0 ≤ s.si ∧ s.si ≤ 4
def R_mkS : RB := fun cs args k => ∃ (d : Dk) (u : Un), args = [.agg (unC u)] ∧ cs = dkC d ∧ d.ok ∧ mkU u ∧ ∀ (s : Us) d', Dk.ok d' → mkS u s → k (.agg (usC s)) (dkC d')
/-! Ends of walks. -/
theorem kB {k : AV → Prop} {a b : Bool} (h : k (Bo a)) (e : a = b) : k (Bo b) := e ▸ h
theorem kI {k : AV → Prop} {a b : Int} (h : k (I a)) (e : a = b) : k (I b) := e ▸ h
theorem kI2 {k : AV → Prop} {r : Int × Int} {a b : Int} (h : k (.tup [I r.1, I r.2])) (e : r = (a, b)) : k (.tup [I a, I b]) := by subst e; exact h
theorem kN {k : AV → Prop} {r : Us × Bool × Int} {a b e : Int} {c d : Bool} (h : k (.tup [.agg (usC r.1), Bo r.2.1, I r.2.2])) (h2 : r = (⟨a, b, c⟩, d, e)) : k (.tup [.agg [IC a, IC b, BC c], Bo d, I e]) := by subst h2; exact h
theorem kL {k : AV → Prop} {l : Ls} {e : Int} {n : Nat} {r : Ls × Int} (h : k (.tup [.c (.lst (eL r.1)), I r.2])) (h1 : n = l.length) (h2 : r = (l, e)) : k (.tup [.c (.lst (List.take n (List.drop 0 (eL l)))), I e]) := by
  subst h2; subst h1
  rw [List.drop_zero, List.take_of_length_le (by rw [eL_len]; exact Nat.le_refl _)]
  exact h
theorem valC_last {c : List Pt} (h : ckC c = 0) (x : Int) : valC c x ≤ (lastP c).2 := by
  have h1 : valC c x ≤ valC c (mx x (lastP c).1) := valC_mono h (by unfold mx; split <;> omega)
  cases c with
  | nil => exact absurd rfl (ckC_ne h).1
  | cons p r =>
    have h2 := (ckC_cons.1 h).2.2
    have h3 : (endP p r).1 ≤ mx x (lastP (p :: r)).1 := by show (lastP (p :: r)).1 ≤ _; unfold mx; split <;> omega
    have h4 := ck_end h2
    have h5 : valC (p :: r) (mx x (lastP (p :: r)).1) = (endP p r).2 := by
      rw [valC_eq]
      split
      · rename_i h6
        have h9 : (endP p r).1 ≤ p.1 := by omega
        cases r with
        | nil => rfl
        | cons q r =>
          have h7 := (ckGo_cons.1 h2).2.1
          have h8 := ck_end (ckGo_cons.1 h2).2.2.2.2
          change (endP q r).1 ≤ p.1 at h9
          omega
      · exact vGo_end h2 h3
    rw [h5] at h1
    exact h1
/-- The first flow with the greatest power for its water. -/
def bestG (tb : List Pt) : Int → Ls → Int
  | b, [] => b
  | b, q :: r => bestG tb (if valC tb b * q < valC tb q * b then q else b) r
def bestS (u : Un) (g : Int) : Int × Int := if (flS u g).2 ≠ 0 then (0, (flS u g).2) else match (flS u g).1 with
  | [] => (0, 9)
  | q :: r => (bestG u.tb q r, 0)
theorem flS_ok {u : Un} {g : Int} (h : (flS u g).2 = 0) : ckU u = 0 ∧ (1 ≤ g ∧ g ≤ 1073741824) ∧ (flS u g).1 = flT u g (u.mo + 1) ∧ (flT u g (u.mo + 1)).length ≤ 200 := by
  unfold flS at h ⊢
  split at h
  · rename_i e; exact absurd h e
  rename_i h1
  split at h
  · simp at h
  rename_i h2
  split at h
  · simp at h
  rename_i h3
  rw [if_neg h1, if_neg h2, if_neg h3]
  exact ⟨by omega, by omega, rfl, by omega⟩
theorem flS_mem {u : Un} {g q : Int} (h : (flS u g).2 = 0) (hq : q ∈ (flS u g).1) : (1 ≤ q ∧ q ≤ 1073741824) ∧ runB u q = true ∧ q % g = 0 := by
  obtain ⟨h1, h2, h3, _⟩ := flS_ok h
  have ho := ckU_ok h1
  rw [h3, flT_mem] at hq
  have h4 := ho.l1
  have h5 := ho.m
  obtain ⟨h6, h7⟩ := hq
  simp [okQ] at h7
  exact ⟨by omega, runB_iff.2 ⟨by omega, h7.2⟩, h7.1⟩
/-- Whether two lists are equal. -/
def R_same : RT := fun args k => ∃ a b : Ls, args = [.c (.lst (eL a)), .c (.lst (eL b))] ∧ (a.length ≤ 9223372036854775807 ∧ b.length ≤ 9223372036854775807) ∧ k (Bo (decide (a = b)))
def R_mul64 : RT := fun args k => ∃ a b : Int, args = [.c (.sc (.int .u64 a)), .c (.sc (.int .u64 b))] ∧ (0 ≤ a ∧ a ≤ 1073741824) ∧ (0 ≤ b ∧ b ≤ 1073741824) ∧ k (.tup [.c (.sc (.int .u64 0)), .c (.sc (.int .u64 (a * b)))])
def R_better : RT := fun args k => ∃ a b c d : Int, args = [I a, I b, I c, I d] ∧ ((0 ≤ a ∧ a ≤ 1073741824) ∧ (0 ≤ b ∧ b ≤ 1073741824) ∧ (0 ≤ c ∧ c ≤ 1073741824) ∧ (0 ≤ d ∧ d ≤ 1073741824)) ∧ k (Bo (decide (c * b < a * d)))
theorem u64_in {z : Int} (h1 : 0 ≤ z) (h2 : z < 18446744073709551616) : IntKind.u64.wrap z = z := by simp [IntKind.wrap, IntKind.bits, IntKind.signed]; omega
theorem and32 {a : Int} (h1 : 0 ≤ a) (h2 : a < 4294967296) : andI .u64 a 4294967295 = a := by
  obtain ⟨n, rfl⟩ : ∃ n : Nat, a = n := ⟨a.toNat, by omega⟩
  have e : (BitVec.ofInt (IntKind.u64).bits (n : Int) &&& BitVec.ofInt (IntKind.u64).bits 4294967295).toNat = n := by
    show (BitVec.ofInt 64 (n : Int) &&& BitVec.ofInt 64 4294967295).toNat = n
    rw [BitVec.toNat_and, BitVec.toNat_ofInt, BitVec.toNat_ofInt, show ((n : Int) % ((2 ^ 64 : Nat) : Int)).toNat = n by omega, show ((4294967295 : Int) % ((2 ^ 64 : Nat) : Int)).toNat = 2 ^ 32 - 1 by omega, Nat.and_two_pow_sub_one_eq_mod]
    omega
  unfold andI
  rw [e]
  exact u64_in (by omega) (by omega)
theorem shr32 (a : Int) (h : 0 ≤ a) : shrI .u64 a 32 = a / 4294967296 := by
  unfold shrI
  show a.fdiv 4294967296 = _
  rw [Int.fdiv_eq_ediv_of_nonneg _ (by omega)]
theorem mul_le {a b : Int} (h1 : 0 ≤ a ∧ a ≤ 1073741824) (h2 : 0 ≤ b ∧ b ≤ 1073741824) : 0 ≤ a * b ∧ a * b ≤ 1152921504606846976 := by
  have h3 := Int.mul_nonneg h1.1 h2.1
  have h4 : a * b ≤ 1073741824 * 1073741824 := Int.mul_le_mul h1.2 h2.2 h2.1 (by omega)
  omega
theorem mkU_of {r : List Pt} {lo mo up dn : Int} {rg : List Pt} (h3 : 1 ≤ r.length) (h3' : r.length ≤ 4) (h4 : chainP 10 0 29 (0, 0) r) (hl : 1 ≤ lo ∧ lo ≤ 8) (hm : lo ≤ mo ∧ mo ≤ lo + 11) (hn : rg.length ≤ 2) (hz : ∀ z ∈ rg, 0 ≤ z.1 ∧ z.1 < z.2 ∧ z.2 ≤ 20) (hu : 0 ≤ up ∧ up ≤ 2) (hd : 0 ≤ dn ∧ dn ≤ 2) : mkU ⟨(0, 0) :: r, lo, mo, rg, up, dn⟩ := by
  have hin := chain_in (by omega) (by omega) (by omega) h4
  have hok : ∀ q ∈ r, okPt q = true := fun q hq => okPt_of (by have := hin q hq; omega)
  have hck := chain_ck (by omega) (by omega) h4 hok
  have he := end_in (by omega) (by omega) (by omega) h4
  refine ⟨⟨ckC_cons.2 ⟨by omega, okPt_of (by simp), hck⟩, ?_, hl.1, hm.1, by dsimp only; omega, by dsimp only; omega, fun z hz' => by have := hz z hz'; omega, by dsimp only; omega, by dsimp only; omega⟩, by dsimp only; omega, hu.2, hd.2⟩
  show (endP (0, 0) r).2 ≤ _
  dsimp only at he
  omega
theorem flT_mk {u : Un} {g : Int} (h : mkU u) : (flT u g (u.mo + 1)).length ≤ 20 := by
  have := flN_len (u := u) (g := g) (n := (u.mo + 1 - u.lo).toNat)
  have h1 := h.m
  have h2 := h.ok.l1
  unfold flT
  omega
theorem flS_mk {u : Un} {g : Int} (h : mkU u) (h1 : 1 ≤ g) (h2 : g ≤ 1073741824) : flS u g = (flT u g (u.mo + 1), 0) := by
  have := flT_mk (g := g) h
  rw [flS, if_neg (by simp [ckU_of h.ok]), if_neg (by omega), if_neg (by omega)]
def R_tt : RT := fun args k => args = [] ∧ k (Bo true)
theorem mayB_same {u : Un} {s : Us} (hf : fitB u s = true) : mayB u s s.fl = true := by
  simp [fitB] at hf
  unfold mayB
  rcases hf.2 with h | ⟨h1, h2⟩
  · rw [if_pos h, if_neg (by omega)]
  · by_cases h0 : s.fl = 0
    · rw [if_pos h0, if_neg (by omega)]
    · rw [if_neg h0, if_neg (by simp [h1, h0])]; exact h2
theorem nextU_ok {u : Un} {s : Us} {q : Int} (h : ckU u = 0) (hf : fitB u s = true) (hm : mayB u s q = true) : nextS u s q = (⟨q, if decide (0 < q) = decide (0 < s.fl) then mn (s.si + 1) 1000 else 1, s.ot⟩, decide (0 < q) && decide (s.fl = 0), 0) := by
  rw [nextS, if_neg (by simp [h]), if_neg (by simp [hf]), if_neg (by simp [hm])]
theorem nextU_no {u : Un} {s : Us} {q : Int} (h : ckU u = 0) (hf : fitB u s = true) (hm : mayB u s q = false) : nextS u s q = (us0, false, 15) := by
  rw [nextS, if_neg (by simp [h]), if_neg (by simp [hf]), if_pos hm]
theorem nextU_same {u : Un} {s : Us} (h : ckU u = 0) (hf : fitB u s = true) (hs : s.si < 1000) : nextS u s s.fl = (⟨s.fl, s.si + 1, s.ot⟩, false, 0) := by
  rw [nextU_ok h hf (mayB_same hf), if_pos rfl]
  have : mn (s.si + 1) 1000 = s.si + 1 := by unfold mn; rw [if_neg (by omega)]
  rw [this]
  by_cases h0 : s.fl = 0 <;> simp [h0]
theorem mayV_of {u : Un} {s : Us} {q : Int} (h : ckU u = 0) (hf : fitB u s = true) : mayV u s q = mayB u s q := by simp [mayV, validB, h, hf]
theorem fit_si {u : Un} {s : Us} (hf : fitB u s = true) : 0 ≤ s.si ∧ s.si ≤ 1000 := by simp [fitB, inB] at hf; omega
theorem fit_next {u : Un} {s : Us} {q : Int} (h : ckU u = 0) (hf : fitB u s = true) (hm : mayB u s q = true) : fitB u (nextS u s q).1 = true := by
  have := fit_si hf
  rw [nextU_ok h hf hm]
  have h1 : inB 0 1000 (if decide (0 < q) = decide (0 < s.fl) then mn (s.si + 1) 1000 else 1) = true := by
    unfold mn inB
    split
    · split <;> simp <;> omega
    · simp
  unfold fitB
  dsimp only
  rw [h1]
  unfold mayB at hm
  by_cases h0 : q = 0
  · simp [h0]
  · rw [if_neg h0] at hm
    split at hm
    · cases hm
    · rename_i h2
      simp [hm]
      right
      cases ho : s.ot with
      | false => rfl
      | true => exact absurd (.inl ho) h2
theorem flN_sorted {u : Un} {g : Int} : ∀ (n : Nat), (flN u g n).Pairwise (· < ·)
  | 0 => List.Pairwise.nil
  | n + 1 => by
    rw [flN_succ, List.pairwise_append]
    refine ⟨flN_sorted n, by split <;> simp, fun a ha b hb => ?_⟩
    have h1 := (flN_mem.1 ha).1
    split at hb
    · simp at hb; omega
    · simp at hb
theorem flT_pre {u : Un} {g a b : Int} (h : a ≤ b) : ∃ t, flT u g b = flT u g a ++ t := by
  have key : ∀ (n : Nat), ∃ t, flT u g (a + n) = flT u g a ++ t := by
    intro n
    induction n with
    | zero => exact ⟨[], by simp⟩
    | succ n ih =>
      obtain ⟨t, ht⟩ := ih
      by_cases hl : u.lo ≤ a + n
      · exact ⟨_, by rw [show a + ((n + 1 : Nat) : Int) = a + n + 1 by omega, flT_one hl, ht, List.append_assoc]⟩
      · exact ⟨[], by rw [flT_lo (by omega), flT_lo (by omega)]; rfl⟩
  obtain ⟨t, ht⟩ := key (b - a).toNat
  exact ⟨t, by rw [← ht, show a + ((b - a).toNat : Int) = b by omega]⟩
/-- The chosen flow is the best. -/
theorem bestG_ok {tb : List Pt} (hv : ∀ x, 0 ≤ valC tb x) : ∀ {r : Ls} {b : Int} (P : Int → Prop), 0 < b → (∀ x ∈ r, 0 < x) → P b → (∀ x, P x → 0 < x) → (∀ x ∈ r, ∀ y, P y → y < x) → r.Pairwise (· < ·) →
    (∀ x, P x → valC tb x * b ≤ valC tb b * x ∧ (valC tb x * b = valC tb b * x → b ≤ x)) →
    (P (bestG tb b r) ∨ bestG tb b r ∈ r) ∧ ∀ x, P x ∨ x ∈ r → valC tb x * bestG tb b r ≤ valC tb (bestG tb b r) * x ∧ (valC tb x * bestG tb b r = valC tb (bestG tb b r) * x → bestG tb b r ≤ x)
  | [], b, P, hb, _, hp, _, _, _, h => ⟨.inl hp, fun x hx => h x (hx.resolve_right (by simp))⟩
  | q :: r, b, P, hb, hr, hp, hpp, hlt, hs, h => by
    have hq := hr q (by simp)
    have hs' := List.pairwise_cons.1 hs
    have step : ∀ b', 0 < b' → (P b' ∨ b' = q) → (∀ x, P x ∨ x = q → valC tb x * b' ≤ valC tb b' * x ∧ (valC tb x * b' = valC tb b' * x → b' ≤ x)) →
        (P (bestG tb b' r) ∨ bestG tb b' r ∈ q :: r) ∧ ∀ x, P x ∨ x ∈ q :: r → valC tb x * bestG tb b' r ≤ valC tb (bestG tb b' r) * x ∧ (valC tb x * bestG tb b' r = valC tb (bestG tb b' r) * x → bestG tb b' r ≤ x) := fun b' h0 h1 h2 => by
      obtain ⟨k1, k2⟩ := bestG_ok hv (r := r) (b := b') (fun x => P x ∨ x = q) h0 (fun x hx => hr x (List.mem_cons_of_mem _ hx)) h1 (fun x hx => by rcases hx with hx | rfl; exact hpp x hx; exact hq) (fun x hx y hy => by
        rcases hy with hy | rfl
        · have := hlt q (by simp) y hy; have := hs'.1 x hx; omega
        · exact hs'.1 x hx) hs'.2 h2
      refine ⟨?_, fun x hx => k2 x ?_⟩
      · rcases k1 with (k1 | k1) | k1
        · exact .inl k1
        · right; rw [k1]; simp
        · exact .inr (List.mem_cons_of_mem _ k1)
      · rcases hx with hx | hx
        · exact .inl (.inl hx)
        · rcases List.mem_cons.1 hx with rfl | hx
          · exact .inl (.inr rfl)
          · exact .inr hx
    show (P (bestG tb (if valC tb b * q < valC tb q * b then q else b) r) ∨ _) ∧ _
    by_cases hc : valC tb b * q < valC tb q * b
    · have e : (if valC tb b * q < valC tb q * b then q else b) = q := if_pos hc
      have e2 : bestG tb b (q :: r) = bestG tb q r := by show bestG tb (if valC tb b * q < valC tb q * b then q else b) r = _; rw [e]
      rw [e2, e]
      refine step q hq (.inr rfl) fun x hx => ?_
      rcases hx with hx | rfl
      · have h1 := (h x hx).1
        have h2 := hpp x hx
        have h3 : valC tb x * q < valC tb q * x := by
          have m1 : valC tb x * b * q ≤ valC tb b * x * q := Int.mul_le_mul_of_nonneg_right h1 (by omega)
          have m2 : valC tb b * q * x < valC tb q * b * x := Int.mul_lt_mul_of_pos_right hc h2
          have m3 : valC tb x * q * b < valC tb q * x * b := by
            rw [Int.mul_right_comm (valC tb x) q b, Int.mul_right_comm (valC tb q) x b]
            rw [Int.mul_right_comm (valC tb b) x q] at m1
            omega
          exact Int.lt_of_mul_lt_mul_right m3 (by omega)
        exact ⟨by omega, fun e => by omega⟩
      · exact ⟨Int.le_refl _, fun _ => Int.le_refl _⟩
    · have e : (if valC tb b * q < valC tb q * b then q else b) = b := if_neg hc
      have e2 : bestG tb b (q :: r) = bestG tb b r := by show bestG tb (if valC tb b * q < valC tb q * b then q else b) r = _; rw [e]
      rw [e2, e]
      refine step b hb (.inl hp) fun x hx => ?_
      rcases hx with hx | rfl
      · exact h x hx
      · have := hlt x (by simp) b hp
        exact ⟨by omega, fun _ => by omega⟩
end Go.Proofs
