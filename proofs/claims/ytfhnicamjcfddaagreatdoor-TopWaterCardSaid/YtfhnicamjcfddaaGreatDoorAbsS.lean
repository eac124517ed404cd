/- Contracts with a small memory of any size: the caller lists the names that the callee may reach; all other arguments are data. -/
import Derived.Test.YtfhnicamjcfddaaGreatDoorAbsP
namespace Go.Abs
open Go.RowKit
set_option linter.unusedVariables false
set_option linter.unusedSimpArgs false

/-! ### Names by their place in a list -/

def posI : List Id → Id → Nat → Option Nat
  | [], _, _ => none
  | j :: r, i, n => match beqI i j with
    | true => some n
    | false => posI r i (n + 1)
def toX (ns : List Id) (i : Id) : Id := match posI ns i 0 with
  | some n => .x n
  | none => i
def ofX (ns : List Id) : Id → Id
  | .x n => match ns[n]? with
    | some i => i
    | none => .x n
  | i => i
def nodupI : List Id → Bool
  | [] => true
  | i :: r => match inI i r with
    | true => false
    | false => nodupI r
theorem posI_spec : ∀ {ns : List Id} {i : Id} {n k : Nat}, posI ns i n = some k → n ≤ k ∧ ns[k - n]? = some i
  | [], _, _, _, h => by cases h
  | j :: r, i, n, k, h => by
    simp only [posI] at h
    split at h
    · rename_i e
      simp at h; subst h
      exact ⟨Nat.le_refl _, by rw [Nat.sub_self, beqI_t e]; rfl⟩
    · obtain ⟨h1, h2⟩ := posI_spec h
      exact ⟨by omega, by rw [show k - n = (k - (n + 1)) + 1 by omega]; simpa using h2⟩
theorem posI_in : ∀ {ns : List Id} {i : Id} {n : Nat}, inI i ns = true → ∃ k, posI ns i n = some k
  | [], _, _, h => by cases h
  | j :: r, i, n, h => by
    simp only [posI]
    cases e : beqI i j with
    | true => exact ⟨n, rfl⟩
    | false => exact posI_in ((inI_cons.1 h).resolve_left (beqI_f e))
theorem inI_get : ∀ {ns : List Id} {k : Nat} {i : Id}, ns[k]? = some i → inI i ns = true
  | [], _, _, h => by simp at h
  | j :: r, 0, i, h => by simp at h; subst h; exact inI_cons.2 (.inl rfl)
  | j :: r, k + 1, i, h => inI_cons.2 (.inr (inI_get (by simpa using h)))
theorem nodup_get : ∀ {ns : List Id}, nodupI ns = true → ∀ {a b : Nat} {i : Id}, ns[a]? = some i → ns[b]? = some i → a = b
  | [], _, _, _, _, h, _ => by simp at h
  | j :: r, h, a, b, i, ha, hb => by
    simp only [nodupI] at h
    split at h
    · cases h
    · rename_i e
      cases a <;> cases b
      · rfl
      · simp at ha hb; subst ha; rw [inI_get hb] at e; cases e
      · simp at ha hb; subst hb; rw [inI_get ha] at e; cases e
      · simp at ha hb; rw [nodup_get h ha hb]
/-- The names that a contract uses. -/
abbrev KX (n : Nat) : Id → Prop := fun i => ∃ k, k < n ∧ i = .x k
theorem toX_in {ns : List Id} {i : Id} (h : inI i ns = true) : KX ns.length (toX ns i) ∧ ofX ns (toX ns i) = i := by
  obtain ⟨k, hk⟩ := posI_in (n := 0) h
  obtain ⟨_, h2⟩ := posI_spec hk
  rw [Nat.sub_zero] at h2
  have hl : k < ns.length := (List.getElem?_eq_some_iff.1 h2).1
  unfold toX
  rw [hk]
  exact ⟨⟨k, hl, rfl⟩, by simp only [ofX, h2]⟩
theorem ofX_x {ns : List Id} {k : Nat} {i : Id} (h : ns[k]? = some i) : ofX ns (.x k) = i := by simp only [ofX, h]

mutual
def lsC (ns : List Id) : Cell → Bool
  | .sc _ => true
  | .lst _ => true
  | .full _ => true
  | .view o _ _ => inI o ns
  | .ptr i _ => inI i ns
  | .aptr o _ _ => inI o ns
  | .pel _ => true
  | .mp i => inI i ns
  | .fn _ caps => lsCs ns caps
def lsCs (ns : List Id) : List Cell → Bool
  | [] => true
  | c :: r => match lsC ns c with
    | true => lsCs ns r
    | false => false
end
mutual
def lsA (ns : List Id) : AV → Bool
  | .c x => lsC ns x
  | .agg cs => lsCs ns cs
  | .tup l => lsAs ns l
def lsAs (ns : List Id) : List AV → Bool
  | [] => true
  | c :: r => match lsA ns c with
    | true => lsAs ns r
    | false => false
end
def lsO (ns : List Id) : MObj → Bool
  | .blk cs => lsCs ns cs
  | .arr .. => true
  | .map _ => true
def lsOs (ns : List Id) : List MObj → Bool
  | [] => true
  | c :: r => match lsO ns c with
    | true => lsOs ns r
    | false => false
mutual
theorem lsC_ok {ns : List Id} : ∀ {c : Cell}, lsC ns c = true → renC (ofX ns) (renC (toX ns) c) = c ∧ inC (KX ns.length) (renC (toX ns) c)
  | .sc _, _ => ⟨rfl, trivial⟩
  | .lst _, _ => ⟨rfl, trivial⟩
  | .full _, _ => ⟨rfl, trivial⟩
  | .view o lo n, h => by
    obtain ⟨h1, h2⟩ := toX_in (show inI o ns = true from h)
    exact ⟨by simp only [renC, h2], h1⟩
  | .ptr o lo, h => by
    obtain ⟨h1, h2⟩ := toX_in (show inI o ns = true from h)
    exact ⟨by simp only [renC, h2], h1⟩
  | .aptr o lo n, h => by
    obtain ⟨h1, h2⟩ := toX_in (show inI o ns = true from h)
    exact ⟨by simp only [renC, h2], h1⟩
  | .pel _, _ => ⟨rfl, trivial⟩
  | .mp o, h => by
    obtain ⟨h1, h2⟩ := toX_in (show inI o ns = true from h)
    exact ⟨by simp only [renC, h2], h1⟩
  | .fn f caps, h => by
    obtain ⟨h1, h2⟩ := lsCs_ok (l := caps) h
    exact ⟨by simp only [renC, h1], h2⟩
theorem lsCs_ok {ns : List Id} : ∀ {l : List Cell}, lsCs ns l = true → renCs (ofX ns) (renCs (toX ns) l) = l ∧ inCs (KX ns.length) (renCs (toX ns) l)
  | [], _ => ⟨rfl, trivial⟩
  | c :: r, h => by
    simp only [lsCs] at h
    split at h
    · rename_i e
      obtain ⟨h1, h2⟩ := lsC_ok e
      obtain ⟨h3, h4⟩ := lsCs_ok h
      exact ⟨by simp only [renCs, h1, h3], h2, h4⟩
    · cases h
end
mutual
theorem lsA_ok {ns : List Id} : ∀ {x : AV}, lsA ns x = true → renA (ofX ns) (renA (toX ns) x) = x ∧ inA (KX ns.length) (renA (toX ns) x)
  | .c x, h => by
    obtain ⟨h1, h2⟩ := lsC_ok (c := x) h
    exact ⟨by simp only [renA, h1], h2⟩
  | .agg cs, h => by
    obtain ⟨h1, h2⟩ := lsCs_ok (l := cs) h
    exact ⟨by simp only [renA, h1], h2⟩
  | .tup l, h => by
    obtain ⟨h1, h2⟩ := lsAs_ok (l := l) h
    exact ⟨by simp only [renA, h1], h2⟩
theorem lsAs_ok {ns : List Id} : ∀ {l : List AV}, lsAs ns l = true → renAs (ofX ns) (renAs (toX ns) l) = l ∧ inAs (KX ns.length) (renAs (toX ns) l)
  | [], _ => ⟨rfl, trivial⟩
  | c :: r, h => by
    simp only [lsAs] at h
    split at h
    · rename_i e
      obtain ⟨h1, h2⟩ := lsA_ok e
      obtain ⟨h3, h4⟩ := lsAs_ok h
      exact ⟨by simp only [renAs, h1, h3], h2, h4⟩
    · cases h
end
theorem lsO_ok {ns : List Id} {o : MObj} (h : lsO ns o = true) : renO (ofX ns) (renO (toX ns) o) = o ∧ inO (KX ns.length) (renO (toX ns) o) := by
  cases o with
  | blk cs =>
    obtain ⟨h1, h2⟩ := lsCs_ok (l := cs) h
    exact ⟨by simp only [renO, h1], h2⟩
  | arr _ _ _ _ => exact ⟨rfl, trivial⟩
  | map _ => exact ⟨rfl, trivial⟩
theorem lsOs_get {ns : List Id} : ∀ {l : List MObj}, lsOs ns l = true → ∀ {k : Nat} {o : MObj}, l[k]? = some o → lsO ns o = true
  | [], _, _, _, h => by simp at h
  | c :: r, h, k, o, hk => by
    simp only [lsOs] at h
    split at h
    · rename_i e
      cases k with
      | zero => simp at hk; subst hk; exact e
      | succ k => exact lsOs_get h (by simpa using hk)
    · cases h

/-! ### Names of a contract -/

def xI (n : Nat) : Id → Bool
  | .x k => Nat.blt k n
  | .l _ _ => false
theorem xI_ok {n : Nat} {i : Id} (h : xI n i = true) : KX n i := by
  cases i with
  | x k => exact ⟨k, Nat.le_of_ble_eq_true (by simpa [xI, Nat.blt] using h), rfl⟩
  | l _ _ => cases h
mutual
def xsC (n : Nat) : Cell → Bool
  | .sc _ => true
  | .lst _ => true
  | .full _ => true
  | .view o _ _ => xI n o
  | .ptr i _ => xI n i
  | .aptr o _ _ => xI n o
  | .pel _ => true
  | .mp i => xI n i
  | .fn _ caps => xsCs n caps
def xsCs (n : Nat) : List Cell → Bool
  | [] => true
  | c :: r => match xsC n c with
    | true => xsCs n r
    | false => false
end
mutual
def xsA (n : Nat) : AV → Bool
  | .c x => xsC n x
  | .agg cs => xsCs n cs
  | .tup l => xsAs n l
def xsAs (n : Nat) : List AV → Bool
  | [] => true
  | c :: r => match xsA n c with
    | true => xsAs n r
    | false => false
end
def xsO (n : Nat) : MObj → Bool
  | .blk cs => xsCs n cs
  | .arr .. => true
  | .map _ => true
def xsOs (n : Nat) : List MObj → Bool
  | [] => true
  | c :: r => match xsO n c with
    | true => xsOs n r
    | false => false
mutual
theorem xsC_ok {n : Nat} : ∀ {c : Cell}, xsC n c = true → inC (KX n) c
  | .sc _, _ => trivial
  | .lst _, _ => trivial
  | .full _, _ => trivial
  | .view _ _ _, h => xI_ok h
  | .ptr _ _, h => xI_ok h
  | .aptr _ _ _, h => xI_ok h
  | .pel _, _ => trivial
  | .mp _, h => xI_ok h
  | .fn _ caps, h => xsCs_ok (l := caps) h
theorem xsCs_ok {n : Nat} : ∀ {l : List Cell}, xsCs n l = true → inCs (KX n) l
  | [], _ => trivial
  | c :: r, h => by
    simp only [xsCs] at h
    split at h
    · rename_i e; exact ⟨xsC_ok e, xsCs_ok h⟩
    · cases h
end
mutual
theorem xsA_ok {n : Nat} : ∀ {x : AV}, xsA n x = true → inA (KX n) x
  | .c x, h => xsC_ok (c := x) h
  | .agg cs, h => xsCs_ok (l := cs) h
  | .tup l, h => xsAs_ok (l := l) h
theorem xsAs_ok {n : Nat} : ∀ {l : List AV}, xsAs n l = true → inAs (KX n) l
  | [], _ => trivial
  | c :: r, h => by
    simp only [xsAs] at h
    split at h
    · rename_i e; exact ⟨xsA_ok e, xsAs_ok h⟩
    · cases h
end
theorem xsO_ok {n : Nat} {o : MObj} (h : xsO n o = true) : inO (KX n) o := by
  cases o with
  | blk cs => exact xsCs_ok (l := cs) h
  | arr _ _ _ _ => trivial
  | map _ => trivial
theorem xsOs_get {n : Nat} : ∀ {l : List MObj}, xsOs n l = true → ∀ {k : Nat} {o : MObj}, l[k]? = some o → xsO n o = true
  | [], _, _, _, h => by simp at h
  | c :: r, h, k, o, hk => by
    simp only [xsOs] at h
    split at h
    · rename_i e
      cases k with
      | zero => simp at hk; subst hk; exact e
      | succ k => exact xsOs_get h (by simpa using hk)
    · cases h

def nameX : Nat → List MObj → List (Id × MObj)
  | _, [] => []
  | n, o :: r => (.x n, o) :: nameX (n + 1) r
theorem mget_nameX : ∀ {l : List MObj} {n : Nat} {i : Id} {o : MObj}, mget (nameX n l) i = some o ↔ ∃ k, i = .x (n + k) ∧ l[k]? = some o
  | [], n, i, o => by simp [nameX, mget]
  | a :: r, n, i, o => by
    simp only [nameX, mget]
    split
    · rename_i e
      subst e
      constructor
      · intro h; exact ⟨0, rfl, by simpa using h⟩
      · rintro ⟨k, h1, h2⟩
        have : k = 0 := by simp at h1; omega
        subst this
        simpa using h2
    · rename_i e
      rw [mget_nameX (l := r)]
      constructor
      · rintro ⟨k, rfl, h⟩; exact ⟨k + 1, by congr 1; omega, by simpa using h⟩
      · rintro ⟨k, rfl, h⟩
        cases k with
        | zero => exact absurd rfl e
        | succ k => exact ⟨k, by congr 1; omega, by simpa using h⟩
abbrev mX (os : List MObj) : List (Id × MObj) := nameX 0 os
theorem keys_mX {os : List MObj} {i : Id} : keys (mX os) i ↔ KX os.length i := by
  constructor
  · rintro ⟨o, h⟩
    obtain ⟨k, h1, h2⟩ := mget_nameX.1 h
    exact ⟨k, (List.getElem?_eq_some_iff.1 h2).1, by rw [h1]; congr 1; omega⟩
  · rintro ⟨k, hk, rfl⟩
    exact ⟨os[k], mget_nameX.2 ⟨k, by congr 1; omega, List.getElem?_eq_getElem hk⟩⟩

/-! ### Functions with a small memory -/

structure WfG (args : List AV) (os : List MObj) (r : AV) (os' : List MObj) : Prop where
  a : xsAs os.length args = true
  o : xsOs os.length os = true
  r : xsA os.length r = true
  o' : xsOs os.length os' = true
  len : os'.length = os.length
def DoesG (P : Program) (f : Nat) (args : List AV) (os : List MObj) (r : AV) (os' : List MObj) : Prop := WfG args os r os' ∧ DoesM P f args (mX os) r (mX os')
abbrev RG := List AV → List MObj → (AV → List MObj → Prop) → Prop
def FunG (P : Program) (f : Nat) (R : RG) : Prop := ∀ args os k, R args os k → ∃ r os', DoesG P f args os r os' ∧ k r os'

def getsK : List Id → List (Id × MObj) → (List MObj → Prop) → Prop
  | [], _, k => k []
  | i :: r, o, k => mgetK i (fun x => getsK r o fun l => k (x :: l)) o
theorem getsK_ok : ∀ {ns : List Id} {o : List (Id × MObj)} {k : List MObj → Prop}, getsK ns o k → ∃ l, l.length = ns.length ∧ (∀ (j : Nat) i, ns[j]? = some i → ∃ x, l[j]? = some x ∧ mget o i = some x) ∧ k l
  | [], o, k, h => ⟨[], rfl, fun j i h => by simp at h, h⟩
  | i :: r, o, k, h => by
    obtain ⟨x, h1, h2⟩ := mgetK_ok h
    obtain ⟨l, h3, h4, h5⟩ := getsK_ok h2
    refine ⟨x :: l, by simp [h3], fun j i' hj => ?_, h5⟩
    cases j with
    | zero => simp at hj; subst hj; exact ⟨x, rfl, h1⟩
    | succ j => obtain ⟨y, e1, e2⟩ := h4 j i' (by simpa using hj); exact ⟨y, by simpa using e1, e2⟩
def sets : List Id → List MObj → List (Id × MObj) → List (Id × MObj)
  | i :: r, x :: l, o => sets r l (mset o i x)
  | _, _, o => o
def setsK : List Id → List MObj → List (Id × MObj) → (List (Id × MObj) → Prop) → Prop
  | i :: r, x :: l, o, k => msetK i x o fun o' => setsK r l o' k
  | [], [], o, k => k o
  | _, _, _, _ => False
theorem setsK_ok : ∀ {ns : List Id} {l : List MObj} {o : List (Id × MObj)} {k : List (Id × MObj) → Prop}, setsK ns l o k → k (sets ns l o)
  | [], [], o, k, h => h
  | i :: r, x :: l, o, k, h => setsK_ok (ns := r) (msetK_ok h)
  | [], _ :: _, _, _, h => h.elim
  | _ :: _, [], _, _, h => h.elim
theorem mget_sets : ∀ {ns : List Id} {l : List MObj} {o : List (Id × MObj)} {j : Id}, l.length = ns.length → nodupI ns = true →
    (∀ k : Nat, ns[k]? = some j → mget (sets ns l o) j = l[k]?) ∧ (inI j ns = false → mget (sets ns l o) j = mget o j)
  | [], [], o, j, _, _ => ⟨fun k h => by simp at h, fun _ => rfl⟩
  | i :: r, x :: l, o, j, hl, hn => by
    have hn0 := hn
    simp only [nodupI] at hn
    split at hn
    · cases hn
    rename_i e
    obtain ⟨h1, h2⟩ := mget_sets (ns := r) (l := l) (o := mset o i x) (j := j) (by simpa using hl) hn
    refine ⟨fun k hk => ?_, fun hj => ?_⟩
    · cases k with
      | zero =>
        simp at hk
        subst hk
        rw [sets, h2 e, mget_mset, if_pos rfl]
        rfl
      | succ k => rw [sets, h1 k (by simpa using hk)]; rfl
    · have hj' : j ≠ i ∧ inI j r = false := by
        cases e2 : inI j r with
        | true => rw [inI_cons.2 (.inr e2)] at hj; cases hj
        | false => exact ⟨fun e3 => (by rw [inI_cons.2 (.inl e3)] at hj; cases hj), rfl⟩
      rw [sets, h2 hj'.2, mget_mset, if_neg hj'.1]
  | [], _ :: _, _, _, h, _ => by simp at h
  | _ :: _, [], _, _, h, _ => by simp at h
theorem updW_sets {W : List Id} : ∀ {ns : List Id} {l : List MObj} {m2 M M2 : Mem}, l.length = ns.length → UpdW W m2 M M2 → UpdW (ns ++ W) { m2 with o := sets ns l m2.o } M { M2 with o := sets ns l M2.o }
  | [], [], m2, M, M2, _, u => u
  | [], _ :: _, _, _, _, h, _ => by simp at h
  | _ :: _, [], _, _, _, h, _ => by simp at h
  | i :: r, x :: l, m2, M, M2, hl, u => by
    have h := updW_sets (ns := r) (l := l) (by simpa using hl) (updW_then (i := i) (o := x) u)
    refine ⟨fun j => ?_, h.nx, h.us⟩
    have := h.o j
    have e : inI j (r ++ i :: W) = inI j (i :: r ++ W) := by
      rw [Bool.eq_iff_iff, inI_append, inI_cons, List.cons_append, inI_cons, inI_append]
      constructor <;> (intro h; rcases h with h | h | h <;> simp [h])
    rw [e] at this
    exact this

/-! ### Arguments: those whose names are listed as they are, others as data -/

def selA (ns : List Id) (m : Mem) (x : AV) : Option (AV × Mem) := match lsA ns x with
  | true => some (x, m)
  | false => purA1 m x
def selAs (ns : List Id) (m : Mem) : List AV → Option (List AV × Mem)
  | [] => some ([], m)
  | x :: r => match selA ns m x with
    | some (y, m1) => match selAs ns m1 r with
      | some (l, m2) => some (y :: l, m2)
      | none => none
    | none => none
def selAK (ns : List Id) (m : Mem) (x : AV) (k : AV → Mem → Prop) : Prop := match lsA ns x with
  | true => k x m
  | false => purA1K m x k
theorem selAK_ok {ns : List Id} {m : Mem} {x : AV} {k : AV → Mem → Prop} (h : selAK ns m x k) : ∃ y m', selA ns m x = some (y, m') ∧ k y m' := by
  unfold selAK at h
  unfold selA
  split at h
  · exact ⟨_, _, rfl, h⟩
  · obtain ⟨y, m', h1, h2⟩ := purA1K_ok h
    exact ⟨y, m', h1, h2⟩
def selAsK (ns : List Id) (m : Mem) : List AV → (List AV → Mem → Prop) → Prop
  | [], k => k [] m
  | x :: r, k => selAK ns m x fun y m1 => selAsK ns m1 r fun l m2 => k (y :: l) m2
theorem selAsK_ok {ns : List Id} : ∀ {l : List AV} {m : Mem} {k : List AV → Mem → Prop}, selAsK ns m l k → ∃ l' m', selAs ns m l = some (l', m') ∧ k l' m'
  | [], m, k, h => ⟨[], m, rfl, h⟩
  | x :: r, m, k, h => by
    obtain ⟨y, m1, h1, h2⟩ := selAK_ok h
    obtain ⟨l, m2, h3, h4⟩ := selAsK_ok h2
    exact ⟨_, _, by simp only [selAs, h1, h3], h4⟩
theorem selA_loc {ns : List Id} {m m' : Mem} {x y : AV} (h : selA ns m x = some (y, m')) : Loc (idsA x) m m' y (selA ns · x) := by
  unfold selA at h
  cases e : lsA ns x with
  | true =>
    simp only [e] at h
    simp at h
    obtain ⟨rfl, rfl⟩ := h
    exact (Loc.refl fun M => by unfold selA; rw [e]).mono (fun i hi => by cases hi)
  | false =>
    simp only [e] at h
    exact (purA1_loc (m := m) h).map fun M M1 g => by unfold selA; rw [e]; exact g
theorem selAs_loc {ns : List Id} : ∀ {l l' : List AV} {m m' : Mem}, selAs ns m l = some (l', m') → Loc (idsAs l) m m' l' (selAs ns · l)
  | [], _, m, m', h => by simp [selAs] at h; obtain ⟨rfl, rfl⟩ := h; exact .refl fun _ => rfl
  | x :: r, l', m, m', h => by
    unfold selAs at h
    split at h
    · rename_i e1
      split at h
      · rename_i e2
        simp at h
        obtain ⟨rfl, rfl⟩ := h
        exact (selA_loc e1).bind (selAs_loc e2) fun M M1 M2 h1 h2 => by simp only [selAs, h1, h2]
      · cases h
    · cases h
theorem selA_ok {B : Base} {g : G} {ns : List Id} {m m' : Mem} {w : World} (hI : Inv B g m w) {x y : AV} {v : Value} (hr : RepA g w x v) (h : selA ns m x = some (y, m')) : ∃ g', Ext g w g' w ∧ Inv B g' m' w ∧ RepA g' w y v := by
  unfold selA at h
  split at h
  · simp at h
    obtain ⟨rfl, rfl⟩ := h
    exact ⟨g, .refl _ _, hI, hr⟩
  · obtain ⟨g', h1, h2, h3⟩ := purA1_ok hI hr h
    have : Ext (g0 g'.F) w g' w := ⟨fun _ h => h.elim, fun _ h => h.elim, fun _ h => h.elim, fun _ _ h => h, fun _ _ _ => rfl⟩
    exact ⟨g', h1, h2, h3.ext this⟩
theorem selAs_ok {B : Base} {ns : List Id} : ∀ {l l' : List AV} {g : G} {m m' : Mem} {w : World} {vs : List Value} (_ : Inv B g m w) (_ : vs.length = l.length) (_ : ∀ (j : Nat) x v, l[j]? = some x → vs[j]? = some v → RepA g w x v) (_ : selAs ns m l = some (l', m')),
    l'.length = l.length ∧ ∃ g', Ext g w g' w ∧ Inv B g' m' w ∧ ∀ (j : Nat) x v, l'[j]? = some x → vs[j]? = some v → RepA g' w x v := by
  intro l
  induction l with
  | nil =>
    intro l' g m m' w vs hI hl hr h
    simp [selAs] at h
    obtain ⟨rfl, rfl⟩ := h
    exact ⟨rfl, g, .refl g w, hI, fun j x v h => by simp at h⟩
  | cons x r ih =>
    intro l' g m m' w vs hI hl hr h
    unfold selAs at h
    split at h
    · rename_i y m1 hx
      split at h
      · rename_i l2 m2 hr2
        simp at h
        obtain ⟨rfl, rfl⟩ := h
        match vs, hl with
        | v :: vs, hl =>
          obtain ⟨g1, e1, i1, p1⟩ := selA_ok hI (hr 0 x v rfl rfl) hx
          obtain ⟨hl', g2, e2, i2, p2⟩ := ih i1 (vs := vs) (by simpa using hl) (fun j x' v' h1 h2 => (hr (j + 1) x' v' (by simpa using h1) (by simpa using h2)).ext e1) hr2
          refine ⟨by simp [hl'], g2, e1.trans e2, i2, fun j x' v' h1 h2 => ?_⟩
          cases j with
          | zero => simp at h1 h2; subst h1; subst h2; exact p1.ext e2
          | succ j => simp at h1 h2; exact p2 j x' v' h1 h2
      · cases h
    · cases h
section
variable {P : Program} {τ : List (Nat × TI)}
theorem callSem_sel {f : Nat} {ns : List Id} {args args' : List AV} {m m1 m2 : Mem} {r : AV} (hp : selAs ns m args = some (args', m1)) (h : CallSem P f args' m1 r m2) : CallSem P f args m r m2 := by
  refine ⟨h.1, fun B g w vals hI hl hrep => ?_⟩
  obtain ⟨hl', g1, e1, i1, p1⟩ := selAs_ok hI hl hrep hp
  refine (h.2 B g1 w vals i1 (by omega) p1).mono fun e w' ⟨v, g', he, h1, h2, h3⟩ => ⟨v, g', he, e1.trans h1, h2, h3⟩

def mapO (ρ : Id → Id) : List MObj → List MObj
  | [] => []
  | o :: r => renO ρ o :: mapO ρ r
theorem mapO_len {ρ : Id → Id} : ∀ {l : List MObj}, (mapO ρ l).length = l.length
  | [] => rfl
  | _ :: r => by simp only [mapO, List.length_cons, mapO_len (l := r)]
theorem mapO_get {ρ : Id → Id} : ∀ {l : List MObj} {k : Nat}, (mapO ρ l)[k]? = (l[k]?).map (renO ρ)
  | [], k => by simp [mapO]
  | o :: r, 0 => by simp [mapO]
  | o :: r, k + 1 => by simpa [mapO] using mapO_get (l := r) (k := k)

/-- A call of a function that is given the listed names. -/
def cG (R : RG) : KT := fun args _ m k => ∃ ns : List Id, nodupI ns = true ∧ selAsK ns m args fun args' m1 => lsAs ns args' = true ∧ getsK ns m1.o fun os => lsOs ns os = true ∧
  R (renAs (toX ns) args') (mapO (toX ns) os) fun r os' => setsK ns (mapO (ofX ns) os') m1.o fun o' => setOK m1 o' fun m' => k (renA (ofX ns) r) m' ⟨[], ns ++ idsAs args, false⟩

theorem getD_len {os : List MObj} {ns : List Id} (h : os.length = ns.length) : (mapO (toX ns) os).length = ns.length := by rw [mapO_len, h]
theorem cG_ok {f : Nat} {qc : Nat → Bool} {R : RG} (h : FunG P f R) (hq : qc f = false) : KOk P qc f (cG R) := fun args d m k hk => by
  obtain ⟨ns, hn, hk⟩ := hk
  obtain ⟨args', m2, h1, hla, hk⟩ := selAsK_ok hk
  obtain ⟨os, hl1, hg, hlo, hk⟩ := getsK_ok hk
  obtain ⟨r, os', ⟨wf, hd⟩, hk⟩ := h _ _ _ hk
  have hk := setOK_ok (setsK_ok hk)
  have hlx : (mapO (toX ns) os).length = ns.length := getD_len hl1
  have hl' : os'.length = ns.length := wf.len.trans hlx
  have hlm : (mapO (ofX ns) os').length = ns.length := by rw [mapO_len, hl']
  have hl := selAs_loc h1
  have hu := updW_sets (ns := ns) (l := mapO (ofX ns) os') hlm hl.self
  refine ⟨_, _, _, ⟨fm_updW hu, fun M hM _ => ?_⟩, (fun e => by rw [hq] at e; cases e), hk⟩
  obtain ⟨M2, g1, g2⟩ := hl.all M fun j hj => hM.1 j (.inr (inI_append.2 (.inr hj)))
  have hg2 : ∀ (j : Nat) i, ns[j]? = some i → ∃ x, os[j]? = some x ∧ mget M2.o i = some x := fun j i hj => by
    obtain ⟨x, e1, e2⟩ := hg j i hj
    refine ⟨x, e1, ?_⟩
    rw [g2.o i, ← e2]
    by_cases e : inI i (idsAs args) = true
    · rw [if_pos e]
    · rw [if_neg e, hl.self.o i, if_neg e]; exact hM.1 i (.inr (inI_append.2 (.inl (inI_get hj))))
  refine ⟨{ M2 with o := sets ns (mapO (ofX ns) os') M2.o }, ?_, fm_updW (updW_sets hlm g2)⟩
  refine callSem_sel g1 ?_
  obtain ⟨ha1, ha2⟩ := lsAs_ok hla
  have kx : ∀ i, keys (mX (mapO (toX ns) os)) i ↔ KX ns.length i := fun i => by rw [keys_mX, hlx]
  have kx' : ∀ i, keys (mX os') i ↔ KX ns.length i := fun i => by rw [keys_mX, hl']
  have inK : ∀ {n : Nat}, n = ns.length → KX n = keys (mX (mapO (toX ns) os)) := fun e => by subst e; exact funext fun i => propext (kx i).symm
  have hof : ∀ i, KX ns.length i → ∃ n, i = .x n ∧ n < ns.length ∧ ns[n]? = some (ofX ns i) := fun i ⟨n, hn, e⟩ => by
    subst e
    exact ⟨n, rfl, hn, by rw [ofX_x (List.getElem?_eq_getElem hn)]; exact List.getElem?_eq_getElem hn⟩
  have hD : (fun i => keys (mX (mapO (toX ns) os)) i ∨ keys (mX os') i) = KX ns.length := funext fun i => propext ⟨fun h => h.elim (kx i).1 (kx' i).1, fun h => .inl ((kx i).2 h)⟩
  have hc := callM (ρ := ofX ns) (M := M2) (M' := { M2 with o := sets ns (mapO (ofX ns) os') M2.o }) hd ⟨fun i o hi => ?_, fun j o hj => ?_, fun i a b => ?_, fun a b ha hb e => ?_, fun _ _ h => h⟩ (by rw [← inK rfl]; exact ha2) (by rw [hD, ← hlx]; exact xsA_ok wf.r)
  · rw [ha1] at hc
    exact hc
  · obtain ⟨n, e1, e2⟩ := mget_nameX.1 hi
    rw [mapO_get] at e2
    obtain ⟨x, e3, rfl⟩ := Option.map_eq_some_iff.1 e2
    have hnl : n < ns.length := by rw [← hl1]; exact (List.getElem?_eq_some_iff.1 e3).1
    obtain ⟨y, e4, e5⟩ := hg2 n ns[n] (List.getElem?_eq_getElem hnl)
    rw [e3] at e4
    cases e4
    obtain ⟨q1, q2⟩ := lsO_ok (lsOs_get hlo e3)
    refine ⟨?_, by rw [← inK rfl]; exact q2⟩
    rw [q1, e1, Nat.zero_add, ofX_x (List.getElem?_eq_getElem hnl)]
    exact e5
  · obtain ⟨s1, s2⟩ := mget_sets (ns := ns) (l := mapO (ofX ns) os') (o := M2.o) (j := j) hlm hn
    cases e : inI j ns with
    | true =>
      obtain ⟨n, hp⟩ := posI_in (n := 0) e
      obtain ⟨_, hp⟩ := posI_spec hp
      rw [Nat.sub_zero] at hp
      have hj' := s1 n hp
      rw [show mget (sets ns (mapO (ofX ns) os') M2.o) j = some o from hj, mapO_get] at hj'
      obtain ⟨x, e3, e4⟩ := Option.map_eq_some_iff.1 hj'.symm
      exact .inl ⟨.x n, x, mget_nameX.2 ⟨n, by congr 1; omega, e3⟩, ofX_x hp, e4.symm, by rw [hD, ← hlx]; exact xsO_ok (xsOs_get wf.o' e3)⟩
    | false =>
      refine .inr ⟨by rw [← s2 e]; exact hj, fun i hi e' => ?_⟩
      obtain ⟨n, _, _, h3⟩ := hof i ((kx i).1 hi)
      rw [e'] at h3
      rw [inI_get h3] at e
      cases e
  · exact absurd ((kx i).2 ((kx' i).1 a)) b
  · have ha' : KX ns.length a := ha.elim (kx a).1 (kx' a).1
    have hb' : KX ns.length b := hb.elim (kx b).1 (kx' b).1
    obtain ⟨n, rfl, _, h3⟩ := hof a ha'
    obtain ⟨n', rfl, _, h4⟩ := hof b hb'
    rw [← e] at h4
    rw [nodup_get hn h3 h4]

def xsN : Nat → Nat → List Id
  | _, 0 => []
  | i, n + 1 => .x i :: xsN (i + 1) n
theorem xsN_get : ∀ {n i k : Nat}, k < n → (xsN i n)[k]? = some (.x (i + k))
  | 0, _, _, h => by omega
  | n + 1, i, 0, _ => rfl
  | n + 1, i, k + 1, h => by
    have := xsN_get (n := n) (i := i + 1) (k := k) (by omega)
    simp only [xsN, List.getElem?_cons_succ, this]
    congr 2; omega
theorem xsN_len : ∀ {n i : Nat}, (xsN i n).length = n
  | 0, _ => rfl
  | n + 1, i => by simp [xsN, xsN_len (n := n)]

theorem doesG_ex {qc : Nat → Bool} {np : NPT} {f : Nat} {fn : Func} {c : Code} {rs : Array ResultVar} {CK : Nat → KT} (hm : P.follows .mixedOrders = true) (hf : P.funcs[f]? = some fn) (hname : (fn.name == "runtime.NumGoroutine") = false) (hb : fn.body = some c) {N : Nat} (hn : fn.ntmps = N) (hrs : fn.results = rs) (hτ : TyOk P τ)
    (hcode : codeOk qc np N c = true) {args : List AV} {os : List MObj} {k : AV → List MObj → Prop} (hCK : ∀ f args d m k, CK f args d m k → callK P qc f args d m k) (hsz : args.length ≤ N)
    (ha : xsAs os.length args = true) (ho : xsOs os.length os = true)
    (h : initK args fun t => awpC τ np CK c (fun e t mm => match e with
      | .normal => resK τ t mm rs.toList fun l => outAsK false mm l fun l mf => getsK (xsN 0 os.length) mf.o fun os' => xsA os.length (oneOf l) = true ∧ xsOs os.length os' = true ∧ k (oneOf l) os'
      | .ret => resK τ t mm rs.toList fun l => outAsK false mm l fun l mf => getsK (xsN 0 os.length) mf.o fun os' => xsA os.length (oneOf l) = true ∧ xsOs os.length os' = true ∧ k (oneOf l) os'
      | _ => False) t ⟨mX os, 0, []⟩) : ∃ r os', DoesG P f args os r os' ∧ k r os' := by
  obtain ⟨ef, σf, h1, h2⟩ := awp_det (awpC_ok hτ hCK hcode (initK_go h))
  have hef : (ef = .normal ∨ ef = .ret) ∧ resK τ σf.t σf.m rs.toList fun l => outAsK false σf.m l fun l mf => getsK (xsN 0 os.length) mf.o fun os' => xsA os.length (oneOf l) = true ∧ xsOs os.length os' = true ∧ k (oneOf l) os' := by
    cases ef with
    | normal => exact ⟨.inl rfl, h1⟩
    | ret => exact ⟨.inr rfl, h1⟩
    | _ => exact h1.elim
  obtain ⟨l, h3, h4⟩ := resK_ok hτ hef.2
  obtain ⟨l', m', h5, h6⟩ := outAsK_ok h4
  obtain ⟨os', g1, g2, g3, g4, hk⟩ := getsK_ok h6
  rw [xsN_len] at g1
  have hD : KX os.length = fun i => keys (mX os) i ∨ keys (mX os') i := funext fun i => propext ⟨fun h => .inl (keys_mX.2 h), fun h => h.elim keys_mX.1 (fun h => by have := keys_mX.1 h; rwa [g1] at this)⟩
  have hh : awp P qc np (callK P qc) N c (fun e σ => (match e with | .normal => True | .ret => True | _ => False) ∧ RetM P false fn σ (fun rf mf => ∃ ρ, LeafM ρ (mX os) (mX os') (oneOf l') mf.o rf)) ⟨initT args 0, ⟨mX os, 0, []⟩⟩ := by
    refine awp_mono ?_ h2
    rintro e σ ⟨rfl, rfl⟩
    refine ⟨?_, l, l', m', by rw [hrs]; exact h3, h5, id, ?_⟩
    · rcases hef.1 with rfl | rfl <;> trivial
    · refine ⟨renA_id _, by rw [← hD]; exact xsA_ok g3, fun i o hi => ?_, fun i j _ _ e => e, fun _ _ => rfl⟩
      obtain ⟨n, e1, e2⟩ := mget_nameX.1 hi
      have hnl : n < os.length := by rw [← g1]; exact (List.getElem?_eq_some_iff.1 e2).1
      obtain ⟨x, e3, e4⟩ := g2 n _ (xsN_get hnl)
      rw [e2] at e3
      cases e3
      rw [renO_id, e1]
      exact ⟨e4, by rw [← hD]; exact xsO_ok (xsOs_get g4 e2)⟩
  exact ⟨oneOf l', os', ⟨⟨ha, ho, g3, g4, g1⟩, spec_ofM (qc := qc) (np := np) (CK := callK P qc) (own := false) hm hf hname hb hn (fun i hi => by obtain ⟨n, _, e⟩ := keys_mX.1 hi; exact ⟨n, e⟩) (fun _ _ _ _ _ h => h) hsz hh⟩, hk⟩

/-! ### Results with names that are listed -/

def RetS (P : Program) (ns : List Id) (fn : Func) (σ : St) (Q : AV → Mem → Prop) : Prop := ∃ l l' m', resF P σ fn.results.toList = some l ∧ selAs ns σ.m l = some (l', m') ∧ Q (oneOf l') m'
theorem resultsS_ok {B : Base} {ns : List Id} {g : G} {σ : St} {a : Act} {w : World} (hs : Slots g w (tget σ.t) a) (hI : Inv B g σ.m w) {fn : Func} {Q : AV → Mem → Prop} (h : RetS P ns fn σ Q) :
    ∃ v r g' m', (results fn a.tmps).run P w = .ok v w ∧ Ext g w g' w ∧ Inv B g' m' w ∧ RepA g' w r v ∧ Q r m' := by
  obtain ⟨l, l', m', h1, h2, hQ⟩ := h
  obtain ⟨vs, r1, r2, r3⟩ := resF_ok hs hI (f := fun x => match x with | .tmp t => pure (a.tmps.getD t undef) | .cell c t => do loadVar t (← asAddr (a.tmps.getD c undef))) (fun _ => rfl) (fun _ _ => rfl) h1
  obtain ⟨hl, g', e1, i1, p1⟩ := selAs_ok hI r2 r3 h2
  have hrun : (results fn a.tmps).run P w = .ok (if h : vs.toArray.size = 1 then vs.toArray[0] else .tuple vs.toArray) w := by
    unfold results
    rw [Array.mapM_eq_mapM_toList]
    simp only [Sem.run_bind, Sem.run_map]
    erw [r1]
    rfl
  refine ⟨_, _, g', m', hrun, e1, i1, ?_, hQ⟩
  have hlv : vs.length = l'.length := by omega
  rcases l' with _ | ⟨x, _ | ⟨y, r⟩⟩
  · obtain rfl : vs = [] := List.eq_nil_of_length_eq_zero hlv
    exact .tup [] rfl (fun j x u h => by simp at h)
  · obtain ⟨v, rfl⟩ : ∃ v, vs = [v] := by
      match vs, hlv with
      | [v], _ => exact ⟨v, rfl⟩
    exact p1 0 x v rfl rfl
  · obtain ⟨v, u, vr, rfl⟩ : ∃ v u vr, vs = v :: u :: vr := by
      match vs, hlv with
      | v :: u :: vr, _ => exact ⟨v, u, vr, rfl⟩
    have : ¬ (v :: u :: vr).toArray.size = 1 := by simp
    rw [dif_neg this]
    exact .tup _ hlv p1

theorem spec_ofS {qc : Nat → Bool} {np : NPT} {CK : Nat → KT} {ns : List Id} {f : Nat} {fn : Func} {c : Code} (hm : P.follows .mixedOrders = true) (hf : P.funcs[f]? = some fn) (hname : (fn.name == "runtime.NumGoroutine") = false) (hb : fn.body = some c) {N : Nat} (hn : fn.ntmps = N) {args : List AV} {r : AV} {m m' : List (Id × MObj)}
    (hx : ∀ i, keys m i → ∃ n, i = .x n)
    (hCK : ∀ f args d m k, CK f args d m k → callK P qc f args d m k) (hsz : args.length ≤ N)
    (h : awp P qc np CK N c (fun e σ => (match e with | .normal => True | .ret => True | _ => False) ∧ RetS P ns fn σ (fun rf mf => ∃ ρ, LeafM ρ m m' r mf.o rf)) ⟨initT args 0, ⟨m, 0, []⟩⟩) : DoesM P f args m r m' := by
  subst hn
  refine ⟨callable hf hname hb, fun g w vals hK hLd hM hl hr => ?_⟩
  refine calls_of_wp hf hb ?_
  let B : Base := { w0 := w, X := touches g m, g0 := g, N := fn.ntmps, gx := fun i hi => hx i (hK i hi), gl := hLd }
  have hI : Inv B g ⟨m, 0, []⟩ w := { ok := hM.ok, apart := hM.apart, fresh := fun s k _ hk => (by obtain ⟨n, hn⟩ := hx _ (hK _ hk); cases hn), flt := hM.flt, ext := .refl _ _, fnew := fun b o h => .inl h, own := fun i o b hi hb => .inr ⟨i, o, hi, hb⟩, os := rfl, tape := rfl, output := rfl, size := Nat.le_refl _, block := fun _ _ _ => rfl }
  have hR : RS B (tget (initT args 0)) ⟨m, 0, []⟩ { tmps := vals.toArray ++ Array.replicate (fn.ntmps - vals.toArray.size) undef, defers := [] } w := by
    refine ⟨⟨g, fun t x hx => ?_, hI⟩, rfl, by simp [B]; omega⟩
    obtain ⟨_, h2⟩ := initT_get args 0 t hx
    rw [Nat.sub_zero] at h2
    have ht : t < vals.length := by rw [hl]; exact (List.getElem?_eq_some_iff.1 h2).1
    refine ⟨vals[t], ?_, hr t x _ h2 (List.getElem?_eq_getElem ht)⟩
    rw [Array.getElem?_append, if_pos (by simpa using ht)]
    simp [ht]
  refine wp_mono (awp_ok hCK (B := B) (N := fn.ntmps) hm rfl c _ _ _ _ hR h) fun e a w' hq => ?_
  obtain ⟨σ, hR', he, hret⟩ := hq
  obtain ⟨⟨g1, hs, hI'⟩, hd, _⟩ := hR'
  obtain ⟨v, rf, g2, mf, q1, q2, q3, q4, ρ, hL⟩ := resultsS_ok hs hI' hret
  let D : Id → Prop := fun i => keys m i ∨ keys m' i
  let g' := pull ρ D g2
  have hlink : Link ρ D g' g2 := pull_link
  have hext : Ext g w g2 w' := q3.ext
  have hext' : Ext g w g' w' := ⟨fun i hi => ⟨.inl (hK i hi), by rw [hL.same i (hK i hi)]; exact hext.K i hi⟩, fun i hi => by show g2.β (ρ i) = _; rw [hL.same i (hK i hi)]; exact hext.β i hi,
    fun i hi => by show g2.sz (ρ i) = _; rw [hL.same i (hK i hi)]; exact hext.sz i hi, hext.F, hext.cell⟩
  have fin : ∃ v', (results fn a.tmps).run P w' = .ok v' w' ∧ ∃ v g', (Ending.returned v') = .returned v ∧ Ext g w g' w' ∧ RepA g' w' r v ∧ MInv g' m' w' ∧ (∀ i, g'.K i → keys m i ∨ keys m' i) ∧ Frame g m w g' m' w' := by
    refine ⟨v, q1, v, g', rfl, hext', hlink.pullA q4 r hL.res hL.resIn, ⟨fun i o hi => ?_, fun i j oi oj b hi hj hij hbi hbj => ?_, q3.flt⟩, fun i hi => hi.1, ⟨q3.os, q3.tape, q3.output, q3.size, fun b hb hX => q3.block b hb hX, fun b o hF => q3.fnew b o hF, fun i o b hi hb => ?_⟩⟩
    · obtain ⟨h1, h2⟩ := hL.mem i o hi
      obtain ⟨h3, h4⟩ := q3.ok _ _ h1
      have hk : g'.K i := ⟨.inr ⟨o, hi⟩, h3⟩
      exact ⟨hk, hlink.pullO (.inr ⟨o, hi⟩) hk h4 h2⟩
    · exact q3.apart (ρ i) (ρ j) _ _ b (hL.mem i oi hi).1 (hL.mem j oj hj).1 (fun e => hij (hL.inj i j ⟨oi, hi⟩ ⟨oj, hj⟩ e)) hbi hbj
    · exact q3.own (ρ i) _ b (hL.mem i o hi).1 hb
  cases e <;> first | exact he.elim | exact ⟨hd, fin⟩

/-! ### A new array (or block) handed back, among data -/

def noO : MObj → Bool
  | .blk cs => noCs cs
  | .arr .. => true
  | .map _ => true
theorem noO_ren {ρ : Id → Id} {o : MObj} (h : noO o = true) : renO ρ o = o := by
  cases o with
  | blk cs => simp only [renO, noCs_ren (l := cs) h]
  | arr _ _ _ _ => rfl
  | map _ => rfl
theorem noO_in {D : Id → Prop} {o : MObj} (h : noO o = true) : inO D o := by
  cases o with
  | blk cs => exact noCs_in (l := cs) h
  | arr _ _ _ _ => trivial
  | map _ => trivial
abbrev m1o (o : MObj) : List (Id × MObj) := [(.x 0, o)]
theorem keys_m1o {o : MObj} {i : Id} : keys (m1o o) i ↔ i = .x 0 := by
  constructor
  · rintro ⟨o, h⟩
    simp only [m1o, mget] at h
    split at h
    · assumption
    · cases h
  · rintro rfl; exact ⟨o, by simp [m1o, mget]⟩
theorem keys_KX {o : MObj} : keys (m1o o) = KX 1 := funext fun i => propext ⟨fun h => ⟨0, by omega, keys_m1o.1 h⟩, fun ⟨k, hk, e⟩ => keys_m1o.2 (by rw [e]; congr 1; omega)⟩
def DoesA (P : Program) (f : Nat) (args : List AV) (r : AV) (o : MObj) : Prop := (noAs args = true ∧ xsA 1 r = true ∧ noO o = true) ∧ DoesM P f args [] r (m1o o)
abbrev RA := List AV → (AV → MObj → Prop) → Prop
def FunA (P : Program) (f : Nat) (R : RA) : Prop := ∀ args k, R args k → ∃ r o, DoesA P f args r o ∧ k r o
def cA (R : RA) : KT := fun args d m k => match d with
  | none => False
  | some d => outAsK false m args fun args' m1 => R args' fun r o => addK d m1 o fun i m' => k (renA (ofX [i]) r) m' ⟨[], i :: idsAs args, true⟩
theorem cA_ok {f : Nat} {qc : Nat → Bool} {R : RA} (h : FunA P f R) (hq : qc f = false) : KOk P qc f (cA R) := fun args d m k hk => by
  unfold cA at hk
  split at hk
  · exact hk.elim
  rename_i d
  obtain ⟨args', m2, h1, h2⟩ := outAsK_ok hk
  obtain ⟨r, o, ⟨hno, hd⟩, h3⟩ := h _ _ h2
  have h4 := addK_ok h3
  have hl := outAs_loc h1
  have hn0 : m2.nx = m.nx := hl.self.nx
  rw [show newId d m2 = .l d m.nx by simp [newId, hn0]] at h4
  refine ⟨_, addObj d m2 o, _, ⟨fm_add hl.self hl.self rfl rfl, fun M hM hf => ?_⟩, (fun e => by rw [hq] at e; cases e), h4⟩
  obtain ⟨M2, g1, g2⟩ := hl.all M fun j hj => hM.1 j (.inr (inI_cons.2 (.inr hj)))
  have hM2 : M2.nx = m.nx := g2.nx.trans hM.2
  refine ⟨addObj d M2 o, ?_, fm_add hl.self g2 hM.2 (hM.1 _ (.inr (inI_cons.2 (.inl rfl))))⟩
  refine callSem_out (own := false) g1 ?_
  have hus : memU d M2.us = false := by rw [g2.us]; exact hf
  have hU : Used (addObj d M2 o) d m.nx := .inr ⟨by simp [addObj, hM2], by simp only [addObj]; exact usd_self hus⟩
  have hN : ∀ s k, Used M2 s k → Used (addObj d M2 o) s k := fun s k hh => by
    rcases hh with h | ⟨h, h'⟩
    · exact .inl h
    · refine .inr ⟨h, ?_⟩
      simp only [addObj]
      exact usd_cons h'
  have hD : (fun i => keys ([] : List (Id × MObj)) i ∨ keys (m1o o) i) = KX 1 := funext fun i => propext ⟨fun h => h.elim (fun ⟨_, h⟩ => by cases h) (fun h => by rw [← keys_KX (o := o)]; exact h), fun h => .inr (by rw [keys_KX]; exact h)⟩
  have key : ∀ M' : Mem, (∀ j, mget M'.o j = if j = .l d m.nx then some o else mget M2.o j) → (∀ s k, Used M2 s k → Used M' s k) → Used M' d m.nx → CallSem P f args' M2 (renA (ofX [.l d m.nx]) r) M' := fun M' hM' hN hU => by
    have hc := callM (ρ := ofX [.l d m.nx]) (M := M2) (M' := M') hd ⟨fun j o hj => (by cases hj), fun j o' hj => ?_, fun j h1 h2 => ⟨d, m.nx, by rw [keys_m1o.1 h1]; rfl, by rw [← hM2]; exact not_used hus, hU⟩, fun a b ha hb _ => ?_, hN⟩ (noAs_in hno.1) (by rw [hD]; exact xsA_ok hno.2.1)
    · simp only [noAs_ren hno.1] at hc
      exact hc
    · rw [hM'] at hj
      split at hj
      · rename_i e
        simp at hj
        subst hj
        exact .inl ⟨.x 0, o, by simp [m1o, mget], e.symm, (noO_ren hno.2.2).symm, noO_in hno.2.2⟩
      · rename_i e
        exact .inr ⟨hj, fun _ ⟨o, hi⟩ => by cases hi⟩
    · rcases ha with ⟨o, ha⟩ | ha
      · cases ha
      · rcases hb with ⟨o, hb⟩ | hb
        · cases hb
        · rw [keys_m1o.1 ha, keys_m1o.1 hb]
  refine ⟨hd.1, fun B g w vals hI => ?_⟩
  have hnone : mget M2.o (.l d m.nx) = none := by
    cases e : mget M2.o (.l d m.nx) with
    | none => rfl
    | some o => exact absurd (hI.ok _ _ e).1 (hI.fresh d m.nx (by rw [← hM2]; exact not_used hus))
  refine (key (addObj d M2 o) (fun j => ?_) hN hU).2 B g w vals hI
  have hid : newId d M2 = .l d m.nx := by simp [newId, hM2]
  simp only [addObj, mget_snoc, hid]
  by_cases e : j = .l d m.nx
  · rw [e, hnone]
  · rw [if_neg e, if_neg e]
    cases mget M2.o j <;> rfl

theorem doesA_ex {qc : Nat → Bool} {np : NPT} {f : Nat} {fn : Func} {c : Code} {rs : Array ResultVar} {CK : Nat → KT} (hm : P.follows .mixedOrders = true) (hf : P.funcs[f]? = some fn) (hname : (fn.name == "runtime.NumGoroutine") = false) (hb : fn.body = some c) {N : Nat} (hn : fn.ntmps = N) (hrs : fn.results = rs) (hτ : TyOk P τ)
    (hcode : codeOk qc np N c = true) {args : List AV} {k : AV → MObj → Prop} (hCK : ∀ f args d m k, CK f args d m k → callK P qc f args d m k) (hsz : args.length ≤ N)
    (ha : noAs args = true)
    (h : initK args fun t => awpC τ np CK c (fun e t mm => match e with
      | .normal => resK τ t mm rs.toList fun l => ∃ i, selAsK [i] mm l fun l mf => lsAs [i] l = true ∧ mgetK i (fun o => noO o = true ∧ xsA 1 (renA (toX [i]) (oneOf l)) = true ∧ k (renA (toX [i]) (oneOf l)) o) mf.o
      | .ret => resK τ t mm rs.toList fun l => ∃ i, selAsK [i] mm l fun l mf => lsAs [i] l = true ∧ mgetK i (fun o => noO o = true ∧ xsA 1 (renA (toX [i]) (oneOf l)) = true ∧ k (renA (toX [i]) (oneOf l)) o) mf.o
      | _ => False) t ⟨[], 0, []⟩) : ∃ r o, DoesA P f args r o ∧ k r o := by
  obtain ⟨ef, σf, h1, h2⟩ := awp_det (awpC_ok hτ hCK hcode (initK_go h))
  have hef : (ef = .normal ∨ ef = .ret) ∧ resK τ σf.t σf.m rs.toList fun l => ∃ i, selAsK [i] σf.m l fun l mf => lsAs [i] l = true ∧ mgetK i (fun o => noO o = true ∧ xsA 1 (renA (toX [i]) (oneOf l)) = true ∧ k (renA (toX [i]) (oneOf l)) o) mf.o := by
    cases ef with
    | normal => exact ⟨.inl rfl, h1⟩
    | ret => exact ⟨.inr rfl, h1⟩
    | _ => exact h1.elim
  obtain ⟨l, h3, i, h4⟩ := resK_ok hτ hef.2
  obtain ⟨l', m', h5, hls, h6⟩ := selAsK_ok h4
  obtain ⟨o, g1, g2, g3, hk⟩ := mgetK_ok h6
  have hone : ∀ {l : List AV}, lsAs [i] l = true → lsA [i] (oneOf l) = true := fun {l} h => by
    match l, h with
    | [], _ => rfl
    | [x], h =>
      simp only [lsAs] at h
      split at h
      · rename_i e; exact e
      · cases h
    | x :: y :: r, h => exact h
  obtain ⟨q1, q2⟩ := lsA_ok (hone hls)
  have hD : KX 1 = fun i => keys ([] : List (Id × MObj)) i ∨ keys (m1o o) i := funext fun i => propext ⟨fun h => .inr (by rw [keys_KX]; exact h), fun h => h.elim (fun ⟨_, h⟩ => by cases h) (fun h => by rw [← keys_KX (o := o)]; exact h)⟩
  have hh : awp P qc np (callK P qc) N c (fun e σ => (match e with | .normal => True | .ret => True | _ => False) ∧ RetS P [i] fn σ (fun rf mf => ∃ ρ, LeafM ρ [] (m1o o) (renA (toX [i]) (oneOf l')) mf.o rf)) ⟨initT args 0, ⟨[], 0, []⟩⟩ := by
    refine awp_mono ?_ h2
    rintro e σ ⟨rfl, rfl⟩
    refine ⟨?_, l, l', m', by rw [hrs]; exact h3, h5, ofX [i], ?_⟩
    · rcases hef.1 with rfl | rfl <;> trivial
    · refine ⟨q1, by rw [← hD]; exact q2, fun j o' hj => ?_, fun a b ha hb _ => by rw [keys_m1o.1 ha, keys_m1o.1 hb], fun j ⟨_, hj⟩ => by cases hj⟩
      have hj0 := keys_m1o.1 ⟨o', hj⟩
      subst hj0
      simp [m1o, mget] at hj
      subst hj
      rw [noO_ren g2]
      exact ⟨g1, noO_in g2⟩
  exact ⟨_, o, ⟨⟨ha, g3, g2⟩, spec_ofS (qc := qc) (np := np) (CK := callK P qc) hm hf hname hb hn (fun i ⟨_, hi⟩ => by cases hi) (fun _ _ _ _ _ h => h) hsz hh⟩, hk⟩
/-! ### A function that only looks at what it is given -/

theorem mset_same : ∀ {o : List (Id × MObj)} {i : Id} {x : MObj}, mget o i = some x → mset o i x = o
  | [], _, _, h => by cases h
  | (j, p) :: r, i, x, h => by
    simp only [mget] at h
    simp only [mset]
    split
    · rename_i e
      subst e
      simp at h
      rw [h]
    · rename_i e
      rw [if_neg e] at h
      rw [mset_same h]
theorem sets_same : ∀ {ns : List Id} {l : List MObj} {o : List (Id × MObj)}, (∀ (j : Nat) i, ns[j]? = some i → ∃ x, l[j]? = some x ∧ mget o i = some x) → sets ns l o = o
  | [], [], _, _ => rfl
  | [], _ :: _, _, _ => rfl
  | _ :: _, [], _, _ => rfl
  | i :: r, x :: l, o, h => by
    obtain ⟨y, e1, e2⟩ := h 0 i rfl
    simp at e1
    subst e1
    show sets r l (mset o i x) = o
    rw [mset_same e2]
    exact sets_same fun j i hj => by
      obtain ⟨y, e3, e4⟩ := h (j + 1) i (by simpa using hj)
      exact ⟨y, by simpa using e3, e4⟩
theorem sels_ls {ns : List Id} : ∀ {l : List AV} {m : Mem}, lsAs ns l = true → selAs ns m l = some (l, m)
  | [], _, _ => rfl
  | x :: r, m, h => by
    simp only [lsAs] at h
    split at h
    · rename_i e
      simp only [selAs, selA, e, sels_ls h]
    · cases h
def cGr (R : RG) : KT := fun args _ m k => ∃ ns : List Id, nodupI ns = true ∧ lsAs ns args = true ∧ getsK ns m.o fun os => lsOs ns os = true ∧
  R (renAs (toX ns) args) (mapO (toX ns) os) fun r os' => mapO (ofX ns) os' = os ∧ k (renA (ofX ns) r) m ⟨ns, [], false⟩
theorem cGr_ok {f : Nat} {qc : Nat → Bool} {R : RG} (h : FunG P f R) : KOk P qc f (cGr R) := fun args d m k hk => by
  obtain ⟨ns, hn, hla, hk⟩ := hk
  obtain ⟨os, hl1, hg, hlo, hk⟩ := getsK_ok hk
  obtain ⟨r, os', ⟨wf, hd⟩, hos, hk⟩ := h _ _ _ hk
  have hlx : (mapO (toX ns) os).length = ns.length := getD_len hl1
  have hl' : os'.length = ns.length := wf.len.trans hlx
  have hlm : (mapO (ofX ns) os').length = ns.length := by rw [mapO_len, hl']
  refine ⟨_, m, _, ⟨fm_updW (W := []) (m' := m) ⟨fun i => by simp [inI], rfl, rfl⟩, fun M hM _ => ?_⟩, (fun e => rfl), hk⟩
  have hg2 : ∀ (j : Nat) i, ns[j]? = some i → ∃ x, os[j]? = some x ∧ mget M.o i = some x := fun j i hj => by
    obtain ⟨x, e1, e2⟩ := hg j i hj
    exact ⟨x, e1, by rw [← e2]; exact hM.1 i (.inl (inI_get hj))⟩
  refine ⟨M, ?_, fm_updW (W := []) (m' := m) ⟨fun i => by simp [inI], rfl, rfl⟩⟩
  obtain ⟨ha1, ha2⟩ := lsAs_ok hla
  have kx : ∀ i, keys (mX (mapO (toX ns) os)) i ↔ KX ns.length i := fun i => by rw [keys_mX, hlx]
  have kx' : ∀ i, keys (mX os') i ↔ KX ns.length i := fun i => by rw [keys_mX, hl']
  have inK : ∀ {n : Nat}, n = ns.length → KX n = keys (mX (mapO (toX ns) os)) := fun e => by subst e; exact funext fun i => propext (kx i).symm
  have hof : ∀ i, KX ns.length i → ∃ n, i = .x n ∧ n < ns.length ∧ ns[n]? = some (ofX ns i) := fun i ⟨n, hn, e⟩ => by
    subst e
    exact ⟨n, rfl, hn, by rw [ofX_x (List.getElem?_eq_getElem hn)]; exact List.getElem?_eq_getElem hn⟩
  have hD : (fun i => keys (mX (mapO (toX ns) os)) i ∨ keys (mX os') i) = KX ns.length := funext fun i => propext ⟨fun h => h.elim (kx i).1 (kx' i).1, fun h => .inl ((kx i).2 h)⟩
  have hss : sets ns (mapO (ofX ns) os') M.o = M.o := sets_same (by rw [hos]; exact hg2)
  have hc := callM (ρ := ofX ns) (M := M) (M' := { M with o := sets ns (mapO (ofX ns) os') M.o }) hd ⟨fun i o hi => ?_, fun j o hj => ?_, fun i a b => ?_, fun a b ha hb e => ?_, fun _ _ h => h⟩ (by rw [← inK rfl]; exact ha2) (by rw [hD, ← hlx]; exact xsA_ok wf.r)
  · rw [ha1, hss] at hc
    exact hc
  · obtain ⟨n, e1, e2⟩ := mget_nameX.1 hi
    rw [mapO_get] at e2
    obtain ⟨x, e3, rfl⟩ := Option.map_eq_some_iff.1 e2
    have hnl : n < ns.length := by rw [← hl1]; exact (List.getElem?_eq_some_iff.1 e3).1
    obtain ⟨y, e4, e5⟩ := hg2 n ns[n] (List.getElem?_eq_getElem hnl)
    rw [e3] at e4
    cases e4
    obtain ⟨q1, q2⟩ := lsO_ok (lsOs_get hlo e3)
    refine ⟨?_, by rw [← inK rfl]; exact q2⟩
    rw [q1, e1, Nat.zero_add, ofX_x (List.getElem?_eq_getElem hnl)]
    exact e5
  · obtain ⟨s1, s2⟩ := mget_sets (ns := ns) (l := mapO (ofX ns) os') (o := M.o) (j := j) hlm hn
    cases e : inI j ns with
    | true =>
      obtain ⟨n, hp⟩ := posI_in (n := 0) e
      obtain ⟨_, hp⟩ := posI_spec hp
      rw [Nat.sub_zero] at hp
      have hj' := s1 n hp
      rw [show mget (sets ns (mapO (ofX ns) os') M.o) j = some o from hj, mapO_get] at hj'
      obtain ⟨x, e3, e4⟩ := Option.map_eq_some_iff.1 hj'.symm
      exact .inl ⟨.x n, x, mget_nameX.2 ⟨n, by congr 1; omega, e3⟩, ofX_x hp, e4.symm, by rw [hD, ← hlx]; exact xsO_ok (xsOs_get wf.o' e3)⟩
    | false =>
      refine .inr ⟨by rw [← s2 e]; exact hj, fun i hi e' => ?_⟩
      obtain ⟨n, _, _, h3⟩ := hof i ((kx i).1 hi)
      rw [e'] at h3
      rw [inI_get h3] at e
      cases e
  · exact absurd ((kx i).2 ((kx' i).1 a)) b
  · have ha' : KX ns.length a := ha.elim (kx a).1 (kx' a).1
    have hb' : KX ns.length b := hb.elim (kx b).1 (kx' b).1
    obtain ⟨n, rfl, _, h3⟩ := hof a ha'
    obtain ⟨n', rfl, _, h4⟩ := hof b hb'
    rw [← e] at h4
    rw [nodup_get hn h3 h4]
end
end Go.Abs
