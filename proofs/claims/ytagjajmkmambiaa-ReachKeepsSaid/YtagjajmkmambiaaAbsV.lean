/- The strict evaluator: operations one by one, code, functions. -/
import Derived.Test.YtagjajmkmambiaaAbsU
namespace Go.Abs
open Go.RowKit

section
variable {P : Program} {τ : List (Nat × TI)}

def sameK : IntKind → IntKind → Bool
  | .i8, .i8 => true
  | .i16, .i16 => true
  | .i32, .i32 => true
  | .i64, .i64 => true
  | .u8, .u8 => true
  | .u16, .u16 => true
  | .u32, .u32 => true
  | .u64, .u64 => true
  | _, _ => false
theorem sameK_ok {a b : IntKind} (h : sameK a b = true) : a = b := by cases a <;> cases b <;> first | rfl | cases h

def intK (n : Int) (k : IntKind) (kk : Value → Prop) : Prop := kk (.int k n)

def binIK (op : BinOp) (kd : IntKind) (a b : Int) (k : Value → Prop) : Prop :=
  match op with
  | .add => k (.int kd (kd.wrap (a + b)))
  | .sub => k (.int kd (kd.wrap (a - b)))
  | .mul => k (.int kd (kd.wrap (a * b)))
  | .quo => b ≠ 0 ∧ k (.int kd (kd.wrap (a.tdiv b)))
  | .rem => b ≠ 0 ∧ k (.int kd (a.tmod b))
  | .eql => k (.bool (decide (a = b)))
  | .neq => k (.bool (!decide (a = b)))
  | .lss => k (.bool (decide (a < b)))
  | .leq => k (.bool (decide (a ≤ b)))
  | .gtr => k (.bool (decide (b < a)))
  | .geq => k (.bool (decide (b ≤ a)))
  | _ => False
theorem binIK_ok {op : BinOp} {kd : IntKind} {a b : Int} {k : Value → Prop} (h : binIK op kd a b k) : ∃ v, binI op kd a b = some v ∧ k v := by
  cases op <;> simp only [binIK] at h <;> first
    | exact ⟨_, rfl, h⟩
    | exact ⟨_, by simp only [binI, if_neg h.1], h.2⟩
    | exact h.elim

def binBK (op : BinOp) (a b : Bool) (k : Value → Prop) : Prop :=
  match op with
  | .eql => k (.bool (a == b))
  | .neq => k (.bool (!(a == b)))
  | _ => False
theorem binBK_ok {op : BinOp} {a b : Bool} {k : Value → Prop} (h : binBK op a b k) : ∃ v, binB op a b = some v ∧ k v := by
  cases op <;> simp only [binBK] at h <;> first
    | exact ⟨_, rfl, h⟩
    | exact h.elim

def plainK : List AV → (List Cell → Prop) → Prop
  | [], k => k []
  | .c x :: r, k => plainK r fun l => k (x :: l)
  | _ :: _, _ => False
theorem plainK_ok : ∀ {l : List AV} {k : List Cell → Prop}, plainK l k → ∃ cs, plainCells l = some cs ∧ k cs
  | [], k, h => ⟨[], rfl, h⟩
  | .c x :: r, k, h => by
    obtain ⟨cs, h1, h2⟩ := plainK_ok (l := r) h
    exact ⟨_, by simp [plainCells, h1], h2⟩
  | .agg _ :: _, k, h => h.elim
  | .tup _ :: _, k, h => h.elim

def forceA : List AV → (List AV → Prop) → Prop
  | [], k => k []
  | c :: r, k => forceA r fun r' => k (c :: r')
theorem forceA_ok : ∀ {l : List AV} {k : List AV → Prop}, forceA l k → k l
  | [], _, h => h
  | c :: r, k, h => forceA_ok (l := r) (k := fun r' => k (c :: r')) h

/-- Two ways on. -/
structure Fork (b : Bool) (A B : Prop) : Prop where
  yes : b = true → A
  no : b = false → B

/-- Slots that a guard has settled. -/
def decOf (d : Nat) : List (Nat × Bool) → Option Bool
  | [] => none
  | (s, b) :: r => match Nat.beq d s with
    | true => some b
    | false => decOf d r
def dec1 (ds : List (Nat × Bool)) : Operand → Option Bool
  | .tmp d => decOf d ds
  | _ => none
/-- Two ways on, or one where it is settled. -/
def forkK (ds : Option Bool) (b : Bool) (A B : Prop) : Prop :=
  match ds with
  | none => Fork b A B
  | some true => (match b with
    | true => A
    | false => False)
  | some false => (match b with
    | true => False
    | false => B)
theorem forkK_t {ds : Option Bool} {b : Bool} {A B : Prop} (h : forkK ds b A B) (hb : b = true) : A := by
  subst hb
  unfold forkK at h
  split at h
  · exact h.yes rfl
  · exact h
  · exact h.elim
theorem forkK_f {ds : Option Bool} {b : Bool} {A B : Prop} (h : forkK ds b A B) (hb : b = false) : B := by
  subst hb
  unfold forkK at h
  split at h
  · exact h.no rfl
  · exact h.elim
  · exact h

def opK (ds : List (Nat × Bool)) (τ : List (Nat × TI)) (op : Op) (d : Nat) (L : List (Nat × AV)) (m : Mem) (k : AV → Mem → Prop) : Prop :=
  match op with
  | .move x => evK L x fun a => k a m
  | .assign x => evK L x fun a => k a m
  | .pick c a b => evK L c fun v => match v with
    | .c (.sc (.bool z)) => forkK (dec1 ds c) z (evK L a fun a => k a m) (evK L b fun b => k b m)
    | _ => False
  | .alloc T => tyK T (fun ti => constCellsK ti.zero fun cs => addK d m (.blk cs) fun m' => k (.c (.ptr (.l d m.nx) 0)) m') τ
  | .box _ x => evK L x fun a => avK a fun cs => addK d m (.blk cs) fun m' => k (.c (.ptr (.l d m.nx) 0)) m'
  | .build T ps => tyK T (fun ti => match ti.d with
    | .struct fs => constCellsK ti.zero fun z => allTyK τ fs (buildK τ L fs z ps.toList fun cs => k (.agg cs) m)
    | _ => False) τ
  | .buildSlice T n ps => tyK T (fun ti => match ti.d with
    | .slice e => tyK e (fun te => match Nat.beq te.size 0, Nat.ble (n * te.size) 16777216 with
      | false, true => partsK L te.size 0 ps.toList m fun es m1 => match Nat.beq es.length n with
        | true => addK d m1 (.arr e te.size es false) fun m' => k (.c (.view (.l d m1.nx) 0 n)) m'
        | false => False
      | _, _ => False) τ
    | _ => False) τ
  | .makeSlice T x y => tyK T (fun ti => match ti.d with
    | .slice e => tyK e (fun te => match tyGood te with
      | false => False
      | true => constCellsK te.zero fun z => evK L x fun a => evK L y fun b => match a, b with
        | .c (.sc (.int _ n)), .c (.sc (.int _ n')) => (n = n' ∧ 0 ≤ n ∧ n * te.bytes ≤ 140737488355328) ∧ addK d m (.arr e te.size (List.replicate n.toNat z) false) fun m' => k (.c (.view (.l d m.nx) 0 n.toNat)) m'
        | _, _ => False) τ
    | _ => False) τ
  | .load t a => tyK t (fun ti => evK L a fun p => loadK ti m p fun x => k x m) τ
  | .nilCheck x => evK L x fun a => match a with
    | .c (.ptr i o) => k (.c (.ptr i o)) m
    | .c (.aptr o i kk) => k (.c (.aptr o i kk)) m
    | .c (.pel cs) => k (.c (.pel cs)) m
    | .c (.fn f cs) => k (.c (.fn f cs)) m
    | _ => False
  | .binOp op t x y _ => evK L x fun a => evK L y fun b => match a, b with
    | .c (.sc (.int kd a)), .c (.sc (.int k' b)) => (match sameK kd k' with
      | true => binIK op kd a b fun v => k (.c (.sc v)) m
      | false => False)
    | .c (.sc (.bool a)), .c (.sc (.bool b)) => tyK t (fun ti => match ti.d with
      | .bool => binBK op a b fun v => k (.c (.sc v)) m
      | _ => False) τ
    | _, _ => False
  | .unOp op _ x => evK L x fun a => match op, a with
    | .not, .c (.sc (.bool b)) => k (.c (.sc (.bool (!b)))) m
    | .neg, .c (.sc (.int kd n)) => k (.c (.sc (.int kd (kd.wrap (0 - n))))) m
    | _, _ => False
  | .convert src t x => tyK src (fun _ => tyK t (fun ti => evK L x fun a => match ti.d, a with
    | .int kd, .c (.sc (.int _ n)) => k (.c (.sc (.int kd (kd.wrap n)))) m
    | _, _ => False) τ) τ
  | .fieldAddr s x f => evK L x fun p => fieldK τ s f p fun x => k x m
  | .field s x f => evK L x fun p => fieldVK τ s f p fun x => k x m
  | .indexAddr t x i => evK L x fun x => evK L i fun i => indexK τ m t x i fun x => k x m
  | .index t x i => evK L x fun x => evK L i fun i => indexVK τ t x i fun x => k x m
  | .slice t x lo hi mx => evK L x fun x => sliceK τ L m t x lo hi mx fun x => k x m
  | .extract x i => evK L x fun a => match a with
    | .tup l => optK l[i]? fun x => k x m
    | _ => False
  | .makeFunc (.func f) first caps => match Nat.beq first.size 0 with
    | true => evsK L caps.toList fun l => plainK l fun cs => k (.c (.fn f cs)) m
    | false => False
  | .call { callee := .builtin b, args, argTypes } => evsK L args.toList fun l => callBK τ b argTypes.toList d m l k
  | _ => False

theorem opK_ok (hτ : TyOk P τ) {ds : List (Nat × Bool)} {op : Op} {d : Nat} {L : List (Nat × AV)} {m : Mem} {k : AV → Mem → Prop} (h : opK ds τ op d L m k) : ∃ x m', opF P op d (tget L) m = some (x, m') ∧ k x m' := by
  unfold opK at h
  unfold opF
  split at h
  · obtain ⟨a, h1, h2⟩ := evK_ok h
    exact ⟨a, m, by simp [h1], h2⟩
  · obtain ⟨a, h1, h2⟩ := evK_ok h
    exact ⟨a, m, by simp [h1], h2⟩
  · obtain ⟨a, h1, h2⟩ := evK_ok h
    split at h2
    · rename_i z
      cases z
      · obtain ⟨b, h3, h4⟩ := evK_ok (forkK_f h2 rfl)
        exact ⟨b, m, by simp [h1, h3], h4⟩
      · obtain ⟨b, h3, h4⟩ := evK_ok (forkK_t h2 rfl)
        exact ⟨b, m, by simp [h1, h3], h4⟩
    · exact h2.elim
  · obtain ⟨ti, h1, h2⟩ := tyK_ok hτ h
    obtain ⟨cs, h3, h4⟩ := constCellsK_ok h2
    exact ⟨_, _, by simp only [h1, h3]; rfl, addK_ok h4⟩
  · obtain ⟨a, h1, h2⟩ := evK_ok h
    obtain ⟨cs, h3, h4⟩ := avK_ok h2
    exact ⟨_, _, by simp only [h1, h3]; rfl, addK_ok h4⟩
  · obtain ⟨ti, h1, h2⟩ := tyK_ok hτ h
    split at h2
    · rename_i hd
      obtain ⟨z, h3, h4⟩ := constCellsK_ok h2
      obtain ⟨h5, h6⟩ := allTyK_ok hτ h4
      obtain ⟨cs, h7, h8⟩ := buildK_ok hτ h6
      exact ⟨_, _, by simp only [h1, hd, h3, h5, h7, if_true, Option.map_some], h8⟩
    · exact h2.elim
  · rename_i T n ps
    obtain ⟨ti, h1, h2⟩ := tyK_ok hτ h
    obtain ⟨ag, sz, by_, ze, dd⟩ := ti
    simp only at h2
    split at h2
    · obtain ⟨te, h3, h4⟩ := tyK_ok hτ h2
      split at h4
      · rename_i e1 e2
        obtain ⟨es, m1, h5, h6⟩ := partsK_ok h4
        split at h6
        · rename_i e3
          have hn : ¬ (te.size = 0 ∨ 16777216 < n * te.size) := by
            rintro (h | h)
            · exact natBeqF e1 h
            · exact absurd (Nat.le_of_ble_eq_true e2) (by omega)
          exact ⟨_, _, by simp only [h1, h3, if_neg hn, h5, if_pos (natBeq e3)]; rfl, addK_ok h6⟩
        · exact h6.elim
      · exact h4.elim
    · exact h2.elim
  · obtain ⟨ti, h1, h2⟩ := tyK_ok hτ h
    obtain ⟨ag, sz, by_, ze, dd⟩ := ti
    simp only at h2
    split at h2
    · obtain ⟨te, h3, h4⟩ := tyK_ok hτ h2
      split at h4
      · exact h4.elim
      · rename_i hg
        obtain ⟨g1, g2, g3⟩ := tyGood_ok hg
        obtain ⟨z, h5, h6⟩ := constCellsK_ok h4
        obtain ⟨a, h7, h8⟩ := evK_ok h6
        obtain ⟨b, h9, h10⟩ := evK_ok h8
        split at h10
        · obtain ⟨⟨c1, c2, c3⟩, h11⟩ := h10
          exact ⟨_, _, by simp only [h1, h3, h5, h7, h9, if_pos (⟨c1, c2, g1, g2, g3, c3⟩ : _ ∧ _ ∧ _ ∧ _ ∧ _ ∧ _)]; rfl, addK_ok h11⟩
        · exact h10.elim
    · exact h2.elim
  · obtain ⟨ti, h1, h2⟩ := tyK_ok hτ h
    obtain ⟨a, h3, h4⟩ := evK_ok h2
    obtain ⟨x, h5, h6⟩ := loadK_ok h4
    exact ⟨_, _, by simp only [h1, h3, h5, Option.map_some], h6⟩
  · obtain ⟨a, h1, h2⟩ := evK_ok h
    split at h2
    · exact ⟨_, _, by simp only [h1], h2⟩
    · exact ⟨_, _, by simp only [h1], h2⟩
    · exact ⟨_, _, by simp only [h1], h2⟩
    · exact ⟨_, _, by simp only [h1], h2⟩
    · exact h2.elim
  · obtain ⟨a, h1, h2⟩ := evK_ok h
    obtain ⟨b, h3, h4⟩ := evK_ok h2
    split at h4
    · split at h4
      · rename_i e
        obtain ⟨v, h5, h6⟩ := binIK_ok h4
        exact ⟨_, _, by simp only [h1, h3, if_pos (sameK_ok e), h5, Option.map_some], h6⟩
      · exact h4.elim
    · obtain ⟨ti, h5, h6⟩ := tyK_ok hτ h4
      obtain ⟨ag, sz, by_, ze, dd⟩ := ti
      simp only at h6
      split at h6
      · obtain ⟨v, h7, h8⟩ := binBK_ok h6
        exact ⟨_, _, by simp only [h1, h3, h5, h7, Option.map_some], h8⟩
      · exact h6.elim
    · exact h4.elim
  · obtain ⟨a, h1, h2⟩ := evK_ok h
    split at h2
    · exact ⟨_, _, by simp only [h1, unV, Option.map_some], h2⟩
    · exact ⟨_, _, by simp only [h1, unV, Option.map_some], h2⟩
    · exact h2.elim
  · obtain ⟨ts, h1, h2⟩ := tyK_ok hτ h
    obtain ⟨ti, h3, h4⟩ := tyK_ok hτ h2
    obtain ⟨a, h5, h6⟩ := evK_ok h4
    obtain ⟨ag, sz, by_, ze, dd⟩ := ti
    simp only at h6
    split at h6
    · exact ⟨_, _, by simp only [h1, h3, h5], h6⟩
    · exact h6.elim
  · obtain ⟨a, h1, h2⟩ := evK_ok h
    obtain ⟨x, h3, h4⟩ := fieldK_ok hτ h2
    exact ⟨_, _, by simp only [h1, h3, Option.map_some], h4⟩
  · obtain ⟨a, h1, h2⟩ := evK_ok h
    obtain ⟨x, h3, h4⟩ := fieldVK_ok hτ h2
    exact ⟨_, _, by simp only [h1, h3, Option.map_some], h4⟩
  · obtain ⟨a, h1, h2⟩ := evK_ok h
    obtain ⟨b, h3, h4⟩ := evK_ok h2
    obtain ⟨x, h5, h6⟩ := indexK_ok hτ h4
    exact ⟨_, _, by simp only [h1, h3, h5, Option.map_some], h6⟩
  · obtain ⟨a, h1, h2⟩ := evK_ok h
    obtain ⟨b, h3, h4⟩ := evK_ok h2
    obtain ⟨x, h5, h6⟩ := indexVK_ok hτ h4
    exact ⟨_, _, by simp only [h1, h3, h5, Option.map_some], h6⟩
  · obtain ⟨a, h1, h2⟩ := evK_ok h
    obtain ⟨x, h3, h4⟩ := sliceK_ok hτ h2
    exact ⟨_, _, by simp only [h1, h3, Option.map_some], h4⟩
  · obtain ⟨a, h1, h2⟩ := evK_ok h
    split at h2
    · obtain ⟨x, h3, h4⟩ := optK_ok h2
      exact ⟨_, _, by simp only [h1, h3, Option.map_some], h4⟩
    · exact h2.elim
  · split at h
    · rename_i e
      obtain ⟨l, h1, h2⟩ := evsK_ok h
      obtain ⟨cs, h3, h4⟩ := plainK_ok h2
      exact ⟨_, _, by simp only [natBeq e, if_true, h1, h3], h4⟩
    · exact h.elim
  · obtain ⟨l, h1, h2⟩ := evsK_ok h
    obtain ⟨x, m', h3, h4⟩ := callBK_ok hτ h2
    exact ⟨_, _, by simp only [h1, h3], h4⟩
  · exact h.elim

/-! ### Calls with the results handed on -/

def putK (d : Option Nat) (x : AV) (t : List (Nat × AV)) (k : List (Nat × AV) → Prop) : Prop :=
  match d with
  | none => k t
  | some d => tsetK d x t k
theorem putK_ok {d : Option Nat} {x : AV} {t : List (Nat × AV)} {k : List (Nat × AV) → Prop} (h : putK d x t k) : k (putO d x t) := by
  cases d with
  | none => exact h
  | some d => exact tsetK_ok h
def dropK (d : Option Nat) (t : List (Nat × AV)) (k : List (Nat × AV) → Prop) : Prop :=
  match d with
  | none => k t
  | some d => tsetK d (.tup []) t k
theorem dropK_ok {d : Option Nat} {t : List (Nat × AV)} {k : List (Nat × AV) → Prop} (h : dropK d t k) : k (delO d t) := by
  cases d with
  | none => exact h
  | some d => exact tsetK_ok h

def stepC (ds : List (Nat × Bool)) (τ : List (Nat × TI)) (CK : Nat → KT) (o : Oper) (t : List (Nat × AV)) (m : Mem) (k : List (Nat × AV) → Mem → Prop) : Prop :=
  match o.op with
  | .store ty p v => match o.dst with
    | none => tyK ty (fun ti => evK t p fun pa => evK t v fun va => storeK ti m pa va fun m' => k t m') τ
    | some _ => False
  | .call { callee := .value f, args, .. } => evK t f fun a => match a with
    | .c (.fn fid caps) => evsK t args.toList fun l => forceA (l ++ caps.map .c) fun l => CK fid l m fun r m' => putK o.dst r t fun t' => k t' m'
    | _ => False
  | op => match o.dst with
    | some d => opK ds τ op d t m fun x m' => tsetK d x t fun t' => k t' m'
    | none => False

theorem callK_mono {qc : Nat → Bool} {f : Nat} {args : List AV} {m : Mem} {k k' : AV → Mem → Prop} (hk : ∀ r m, k r m → k' r m) (h : callK P qc f args m k) : callK P qc f args m k' := by
  obtain ⟨r, m', h1, h2, h3⟩ := h
  exact ⟨r, m', h1, h2, hk _ _ h3⟩

theorem stepC_ok (hτ : TyOk P τ) {qc : Nat → Bool} {CK : Nat → KT} (hCK : ∀ f args m k, CK f args m k → callK P qc f args m k) {N : Nat} {ds : List (Nat × Bool)} {o : Oper} (hd : okO o.dst N = true) {t : List (Nat × AV)} {m : Mem} {k : List (Nat × AV) → Mem → Prop} (h : stepC ds τ CK o t m k) : stepK P (callK P qc) N o ⟨t, m⟩ (fun σ => k σ.t σ.m) := by
  unfold stepC at h
  unfold stepK
  split at h
  · rename_i ty p v ho
    split at h
    · rename_i hd'
      obtain ⟨ti, h1, h2⟩ := tyK_ok hτ h
      obtain ⟨pa, h3, h4⟩ := evK_ok h2
      obtain ⟨va, h5, h6⟩ := evK_ok h4
      obtain ⟨m', h7, h8⟩ := storeK_ok h6
      simp only [ho, hd', h1, h3, h5, h7]
      exact h8
    · exact h.elim
  · rename_i f args ats ho
    obtain ⟨a, h1, h2⟩ := evK_ok h
    split at h2
    · obtain ⟨l, h3, h4⟩ := evsK_ok h2
      simp only [ho, h1, h3]
      exact ⟨hd, callK_mono (fun r m h => putK_ok h) (hCK _ _ _ _ (forceA_ok h4))⟩
    · exact h2.elim
  · rename_i op h1 h2
    split at h
    · rename_i d hd'
      obtain ⟨x, m', h3, h4⟩ := opK_ok hτ h
      rw [hd'] at hd
      simp only [okO] at hd
      split
      · rename_i ho; exact absurd ho (h1 _ _ _)
      · rename_i ho; exact absurd ho (h2 _ _ _)
      · simp only [hd', hd, h3]
        exact tsetK_ok h4
    · exact h.elim

def guardC (ds : List (Nat × Bool)) (ops : Array Oper) (o : Oper) (t : List (Nat × AV)) (kT kF : List (Nat × Bool) → List (Nat × AV) → Prop) : Prop :=
  match o.guard with
  | none => kT ds t
  | some (j, want) => match (ops[j]?).bind (·.dst) with
    | some d => tgetK d (fun x => match x with
      | .c (.sc (.bool b)) => match decOf d ds with
        | none => (match want with
          | true => Fork b (tsetK d (.c (.sc (.bool true))) t (kT ((d, true) :: ds))) (tsetK d (.c (.sc (.bool false))) t (kF ((d, false) :: ds)))
          | false => Fork b (tsetK d (.c (.sc (.bool true))) t (kF ((d, true) :: ds))) (tsetK d (.c (.sc (.bool false))) t (kT ((d, false) :: ds))))
        | some true => (match b with
          | true => (match want with
            | true => kT ds t
            | false => kF ds t)
          | false => False)
        | some false => (match b with
          | false => (match want with
            | true => kF ds t
            | false => kT ds t)
          | true => False)
      | .tup [] => kF ds t
      | _ => False) t
    | none => False

theorem tset_same : ∀ {t : List (Nat × AV)} {d : Nat} {x : AV}, tget t d = some x → tset t d x = t
  | [], _, _, h => by cases h
  | (s, y) :: r, d, x, h => by
    simp only [tget] at h
    simp only [tset]
    split at h
    · rename_i e; simp at h; rw [if_pos e, h, e]
    · rename_i e; rw [if_neg e, tset_same h]

theorem guardC_ok {ds : List (Nat × Bool)} {ops : Array Oper} {o : Oper} {t : List (Nat × AV)} {m : Mem} {kT kF : List (Nat × Bool) → List (Nat × AV) → Prop} {kT' kF' : St → Prop} (h : guardC ds ops o t kT kF) (hT : ∀ ds t, kT ds t → kT' ⟨t, m⟩) (hF : ∀ ds t, kF ds t → kF' ⟨t, m⟩) : guardK ops o ⟨t, m⟩ kT' kF' := by
  unfold guardC at h
  unfold guardK
  split at h
  · rename_i hg; simp only [hg]; exact hT _ _ h
  · rename_i j want hg
    simp only [hg]
    split at h
    · rename_i d hd
      simp only [hd]
      obtain ⟨x, h1, h2⟩ := tgetK_ok h
      split at h2
      · rename_i b
        simp only [h1]
        split at h2
        · split at h2
          · exact ⟨fun e => hT _ _ (tsetK_ok (h2.yes e)), fun e => hF _ _ (tsetK_ok (h2.no e))⟩
          · exact ⟨fun e => hT _ _ (tsetK_ok (h2.no e)), fun e => hF _ _ (tsetK_ok (h2.yes e))⟩
        · split at h2
          · have e := tset_same h1
            split at h2
            · exact ⟨fun _ => by rw [e]; exact hT _ _ h2, fun e => by simp at e⟩
            · exact ⟨fun e => by simp at e, fun _ => by rw [show (!false) = true from rfl, e]; exact hF _ _ h2⟩
          · exact h2.elim
        · split at h2
          · have e := tset_same h1
            split at h2
            · exact ⟨fun e => by simp at e, fun _ => by rw [show (!true) = false from rfl, e]; exact hF _ _ h2⟩
            · exact ⟨fun _ => by rw [e]; exact hT _ _ h2, fun e => by simp at e⟩
          · exact h2.elim
      · simp only [h1]
        exact hF _ _ h2
      · exact h2.elim
    · exact h.elim

abbrev RK := List (Nat × Bool) → List (Nat × AV) → Mem → Prop
/-! What comes behind is handed on as one closed term: so the kernel compares it once. -/
def ptrK (t : List (Nat × AV)) (o : Oper) (k : Prop) : Prop :=
  match o.op with
  | .load _ a => evK t a fun x => match x with
    | .c (.ptr _ _) => k
    | .c (.pel _) => k
    | _ => False
  | _ => False
theorem ptrK_ok {t : List (Nat × AV)} {o : Oper} {k : Prop} (h : ptrK t o k) : byPtr (tget t) o ∧ k := by
  unfold ptrK at h
  unfold byPtr
  split at h
  · rename_i ty a ho
    simp only [ho]
    obtain ⟨x, h1, h2⟩ := evK_ok h
    split at h2
    · exact ⟨.inl ⟨_, _, h1⟩, h2⟩
    · exact ⟨.inr ⟨_, h1⟩, h2⟩
    · exact h2.elim
  · exact h.elim
abbrev TK0 := List (Nat × AV) → Mem → Prop
def dataK (t : List (Nat × AV)) (o : Oper) (k : Prop) : Prop :=
  match o.op with
  | .load _ a => evK t a fun x => match x with
    | .c (.pel _) => k
    | _ => False
  | .indexAddr _ a _ => evK t a fun x => match x with
    | .c (.lst _) => k
    | _ => False
  | _ => False
theorem dataK_ok {t : List (Nat × AV)} {o : Oper} {k : Prop} (h : dataK t o k) : byData (tget t) o ∧ k := by
  unfold dataK at h
  unfold byData
  split at h
  · rename_i ty a ho
    simp only [ho]
    obtain ⟨x, h1, h2⟩ := evK_ok h
    split at h2
    · exact ⟨⟨_, h1⟩, h2⟩
    · exact h2.elim
  · rename_i ty a b ho
    simp only [ho]
    obtain ⟨x, h1, h2⟩ := evK_ok h
    split at h2
    · exact ⟨⟨_, h1⟩, h2⟩
    · exact h2.elim
  · exact h.elim
/-- What comes behind a call that may change places with a new block. -/
def tameK (l : List AV) (m : Mem) (rest : TK0) (t' : List (Nat × AV)) (m' : Mem) : Prop := match tameB m m' l with
  | true => rest t' m'
  | false => False
def goE (τ : List (Nat × TI)) (CK : Nat → KT) (ops : Array Oper) (o : Oper) (m : Mem) (rest : RK) (ds : List (Nat × Bool)) (t : List (Nat × AV)) : Prop :=
  match flagC ops o with
  | false => stepC ds τ CK o t m (rest ds)
  | true => match o.op with
    | .call { callee := .value (.func _), args, .. } => evsK t args.toList fun l => stepC ds τ CK o t m (tameK l m (rest ds))
    | _ => False
def noK (t : List (Nat × AV)) (o : Oper) (k : Prop) : Prop :=
  match o.op with
  | .call { callee := .value (.func _), args, .. } => evsK t args.toList fun l => match notOwnA l with
    | true => k
    | false => False
  | _ => False
theorem noK_ok {t : List (Nat × AV)} {o : Oper} {k : Prop} (h : noK t o k) : byNo (tget t) o ∧ k := by
  unfold noK at h
  unfold byNo
  split at h
  · rename_i f args ats ho
    simp only [ho]
    obtain ⟨l, h1, h2⟩ := evsK_ok h
    split at h2
    · rename_i e; exact ⟨⟨l, h1, e⟩, h2⟩
    · exact h2.elim
  · exact h.elim
def ownK (t : List (Nat × AV)) (o : Oper) (k : Prop) : Prop :=
  match o.op with
  | .load _ a => evK t a fun x => match x with
    | .c (.ptr i _) => (match isOwn i with
      | true => k
      | false => False)
    | .c (.pel _) => k
    | _ => False
  | _ => False
theorem ownK_ok {t : List (Nat × AV)} {o : Oper} {k : Prop} (h : ownK t o k) : byOwn (tget t) o ∧ k := by
  unfold ownK at h
  unfold byOwn
  split at h
  · rename_i ty a ho
    simp only [ho]
    obtain ⟨x, h1, h2⟩ := evK_ok h
    split at h2
    · split at h2
      · rename_i e; exact ⟨.inl ⟨_, _, h1, e⟩, h2⟩
      · exact h2.elim
    · exact ⟨.inr ⟨_, h1⟩, h2⟩
    · exact h2.elim
  · exact h.elim
def goF (τ : List (Nat × TI)) (CK : Nat → KT) (ops : Array Oper) (o : Oper) (m : Mem) (rest : RK) (ds : List (Nat × Bool)) (t : List (Nat × AV)) : Prop :=
  match flagB ops o with
  | false => goE τ CK ops o m rest ds t
  | true => noK t o (goE τ CK ops o m rest ds t)
def goM (τ : List (Nat × TI)) (CK : Nat → KT) (ops : Array Oper) (o : Oper) (m : Mem) (rest : RK) (ds : List (Nat × Bool)) (t : List (Nat × AV)) : Prop :=
  match flagM ops o with
  | false => goF τ CK ops o m rest ds t
  | true => ownK t o (goF τ CK ops o m rest ds t)
theorem goM_ok {τ : List (Nat × TI)} {CK : Nat → KT} {ops : Array Oper} {o : Oper} {m : Mem} {rest : RK} {ds : List (Nat × Bool)} {t : List (Nat × AV)} (h : goM τ CK ops o m rest ds t) :
    ((flagM ops o = true → byOwn (tget t) o) ∧ (flagB ops o = true → byNo (tget t) o)) ∧ goE τ CK ops o m rest ds t := by
  have k2 : goF τ CK ops o m rest ds t → (flagB ops o = true → byNo (tget t) o) ∧ goE τ CK ops o m rest ds t := fun h => by
    unfold goF at h
    cases hf : flagB ops o with
    | false => rw [hf] at h; exact ⟨fun e => (by cases e), h⟩
    | true => rw [hf] at h; exact ⟨fun _ => (noK_ok h).1, (noK_ok h).2⟩
  unfold goM at h
  cases hf : flagM ops o with
  | false => rw [hf] at h; exact ⟨⟨fun e => (by cases e), (k2 h).1⟩, (k2 h).2⟩
  | true =>
    rw [hf] at h
    obtain ⟨h1, h2⟩ := ownK_ok h
    exact ⟨⟨fun _ => h1, (k2 h2).1⟩, (k2 h2).2⟩
def goD (τ : List (Nat × TI)) (CK : Nat → KT) (ops : Array Oper) (o : Oper) (m : Mem) (rest : RK) (ds : List (Nat × Bool)) (t : List (Nat × AV)) : Prop :=
  match flagD ops o with
  | false => goM τ CK ops o m rest ds t
  | true => dataK t o (goM τ CK ops o m rest ds t)
def goC (τ : List (Nat × TI)) (CK : Nat → KT) (ops : Array Oper) (o : Oper) (m : Mem) (rest : RK) (ds : List (Nat × Bool)) (t : List (Nat × AV)) : Prop :=
  match flagL ops o with
  | false => goD τ CK ops o m rest ds t
  | true => ptrK t o (goD τ CK ops o m rest ds t)
theorem goD_ok {τ : List (Nat × TI)} {CK : Nat → KT} {ops : Array Oper} {o : Oper} {m : Mem} {rest : RK} {ds : List (Nat × Bool)} {t : List (Nat × AV)} (h : goD τ CK ops o m rest ds t) :
    (flagD ops o = true → byData (tget t) o) ∧ goM τ CK ops o m rest ds t := by
  unfold goD at h
  cases hf : flagD ops o with
  | false => rw [hf] at h; exact ⟨fun e => (by cases e), h⟩
  | true => rw [hf] at h; exact ⟨fun _ => (dataK_ok h).1, (dataK_ok h).2⟩
theorem goC_ok {τ : List (Nat × TI)} {CK : Nat → KT} {ops : Array Oper} {o : Oper} {m : Mem} {rest : RK} {ds : List (Nat × Bool)} {t : List (Nat × AV)} (h : goC τ CK ops o m rest ds t) :
    Reads ops o (tget t) ∧ goE τ CK ops o m rest ds t := by
  unfold goC at h
  cases hf : flagL ops o with
  | false =>
    rw [hf] at h
    obtain ⟨a, b⟩ := goD_ok h
    obtain ⟨c, d⟩ := goM_ok b
    exact ⟨⟨⟨fun e => (by rw [hf] at e; cases e), a⟩, c⟩, d⟩
  | true =>
    rw [hf] at h
    obtain ⟨h1, h2⟩ := ptrK_ok h
    obtain ⟨a, b⟩ := goD_ok h2
    obtain ⟨c, d⟩ := goM_ok b
    exact ⟨⟨⟨fun _ => h1, a⟩, c⟩, d⟩
def skC (o : Oper) (m : Mem) (rest : RK) (ds : List (Nat × Bool)) (t : List (Nat × AV)) : Prop := dropK o.dst t fun t => rest ds t m
def runC (τ : List (Nat × TI)) (CK : Nat → KT) (ops : Array Oper) (k : List (Nat × AV) → Mem → Prop) : List Oper → RK
  | [] => fun _ t m => k t m
  | o :: l => fun ds t m => guardC ds ops o t (goC τ CK ops o m (runC τ CK ops k l)) (skC o m (runC τ CK ops k l))

theorem stepK_mono {qc : Nat → Bool} {N : Nat} {o : Oper} {σ : St} {k k' : St → Prop} (hk : ∀ σ, k σ → k' σ) (h : stepK P (callK P qc) N o σ k) : stepK P (callK P qc) N o σ k' := by
  unfold stepK at h ⊢
  split at h
  · rename_i ho
    split at h
    · rename_i hd
      split at h
      · rename_i h1 h2 h3
        split at h
        · rename_i h4
          exact hk _ h
        · exact h.elim
      · exact h.elim
    · exact h.elim
  · split at h
    · exact ⟨h.1, callK_mono (fun r m h => hk _ h) h.2⟩
    · exact h.elim
  · split at h
    · split at h
      · exact hk _ h
      · exact h.elim
    · exact h.elim

theorem runC_ok (hτ : TyOk P τ) {qc : Nat → Bool} {CK : Nat → KT} (hCK : ∀ f args m k, CK f args m k → callK P qc f args m k) {N : Nat} {ops : Array Oper} : ∀ {l : List Oper} (_ : ∀ o ∈ l, okO o.dst N = true) {ds : List (Nat × Bool)} {t : List (Nat × AV)} {m : Mem} {k : List (Nat × AV) → Mem → Prop}, runC τ CK ops k l ds t m → evalOps P (callK P qc) N ops l ⟨t, m⟩ (fun σ => k σ.t σ.m)
  | [], _, ds, t, m, k, h => h
  | o :: l, hd, ds, t, m, k, h => by
    unfold runC at h
    unfold evalOps
    refine guardC_ok h (fun ds t h => ?_) (fun ds t h => ?_)
    · obtain ⟨hb, h⟩ := goC_ok h
      refine ⟨hb, ?_⟩
      unfold goE at h
      cases hf : flagC ops o with
      | false =>
        rw [hf] at h
        exact stepK_mono (fun σ h => ⟨fun e => (by cases e), runC_ok hτ hCK (fun o ho => hd o (by simp [ho])) h⟩) (stepC_ok hτ hCK (hd o (by simp)) h)
      | true =>
        rw [hf] at h
        simp only at h
        split at h
        · rename_i fid args ats ho
          obtain ⟨l', h1, h2⟩ := evsK_ok h
          refine stepK_mono (fun σ h => ?_) (stepC_ok hτ hCK (hd o (by simp)) h2)
          unfold tameK at h
          split at h
          · rename_i ht
            refine ⟨fun _ => ?_, runC_ok hτ hCK (fun o ho => hd o (by simp [ho])) h⟩
            unfold TameO
            simp only [ho]
            exact ⟨l', h1, ht⟩
          · exact h.elim
        · exact h.elim
    · exact ⟨hd o (by simp), runC_ok hτ hCK (fun o ho => hd o (by simp [ho])) (dropK_ok h)⟩

/-! ### Code -/

abbrev TK := List (Nat × AV) → Mem → Prop
def seqQ (B : TK) (Q : Exit → TK) : Exit → TK
  | .normal => B
  | e => Q e
def blockQ (id : Nat) (Q : Exit → TK) : Exit → TK
  | .exit i => (match Nat.beq i id with
    | true => Q .normal
    | false => Q (.exit i))
  | e => Q e
def condK (c : Operand) (A B : TK) : TK := fun t m => evK t c fun x => match x with
  | .c (.sc (.bool z)) => Fork z (A t m) (B t m)
  | _ => False
def awpC (τ : List (Nat × TI)) (CK : Nat → KT) : Code → (Exit → TK) → TK
  | .skip, Q => Q .normal
  | .label _, Q => Q .normal
  | .region _ ops _, Q => runC τ CK ops (Q .normal) ops.toList []
  | .seq a b, Q => awpC τ CK a (seqQ (awpC τ CK b Q) Q)
  | .cond c a b, Q => condK c (awpC τ CK a Q) (awpC τ CK b Q)
  | .block id c, Q => awpC τ CK c (blockQ id Q)
  | .loop c, Q => fun t m => ∃ (X : Type) (I : X → List (Nat × AV) × Mem) (inv : X → Prop) (μ : X → Nat) (x0 : X), inv x0 ∧ Shift ⟨(I x0).1, (I x0).2⟩ ⟨t, m⟩ ∧
      ∀ x, inv x → awpC τ CK c (fun e t m => match e with | .normal => ∃ x', inv x' ∧ Shift ⟨(I x').1, (I x').2⟩ ⟨t, m⟩ ∧ μ x' < μ x | e => Q e t m) (I x).1 (I x).2
  | .exit id, Q => Q (.exit id)
  | .ret, Q => Q .ret
  | _, _ => fun _ _ => False

def codeOk (qc : Nat → Bool) (N : Nat) : Code → Bool
  | .region _ ops draw => (match draw with | true => lexS qc ops | false => true) && ops.toList.all (fun o => okO o.dst N)
  | .seq a b => codeOk qc N a && codeOk qc N b
  | .cond _ a b => codeOk qc N a && codeOk qc N b
  | .block _ c => codeOk qc N c
  | .loop c => codeOk qc N c
  | _ => true

theorem awp_mono {qc : Nat → Bool} {N : Nat} : ∀ {c : Code} {Q Q' : Exit → St → Prop} {σ : St}, (∀ e σ, Q e σ → Q' e σ) → awp P qc (callK P qc) N c Q σ → awp P qc (callK P qc) N c Q' σ := by
  have ev_mono : ∀ {ops : Array Oper} (l : List Oper) {σ : St} {k k' : St → Prop}, (∀ σ, k σ → k' σ) → evalOps P (callK P qc) N ops l σ k → evalOps P (callK P qc) N ops l σ k' := by
    intro ops l
    induction l with
    | nil => intro σ k k' hk h; exact hk _ h
    | cons o l ih =>
      intro σ k k' hk h
      unfold evalOps at h ⊢
      unfold guardK at h ⊢
      split at h
      · exact ⟨h.1, stepK_mono (fun σ h => ⟨h.1, ih hk h.2⟩) h.2⟩
      · split at h
        · split at h
          · exact ⟨fun e => ⟨(h.1 e).1, stepK_mono (fun σ h => ⟨h.1, ih hk h.2⟩) (h.1 e).2⟩, fun e => ⟨(h.2 e).1, ih hk (h.2 e).2⟩⟩
          · exact ⟨h.1, ih hk h.2⟩
          · exact h.elim
        · exact h.elim
  intro c
  induction c with
  | skip => intro Q Q' σ hk h; exact hk _ _ h
  | label l => intro Q Q' σ hk h; exact hk _ _ h
  | exit id => intro Q Q' σ hk h; exact hk _ _ h
  | ret => intro Q Q' σ hk h; exact hk _ _ h
  | region id ops draw => intro Q Q' σ hk h; exact ⟨h.1, ev_mono _ (hk .normal) h.2⟩
  | seq x y ihx ihy =>
    intro Q Q' σ hk h
    refine ihx (fun e σ h => ?_) h
    cases e with
    | normal => exact ihy hk h
    | _ => exact hk _ _ h
  | cond c t e iht ihe =>
    intro Q Q' σ hk h
    unfold awp at h ⊢
    split at h
    · exact ⟨fun e => iht hk (h.1 e), fun e => ihe hk (h.2 e)⟩
    · exact h.elim
  | block id c ih =>
    intro Q Q' σ hk h
    refine ih (fun e σ h => ?_) h
    cases e with
    | exit i =>
      simp only at h ⊢
      split at h
      · rename_i hi; rw [if_pos hi]; exact hk _ _ h
      · rename_i hi; rw [if_neg hi]; exact hk _ _ h
    | _ => exact hk _ _ h
  | loop c ih =>
    intro Q Q' σ hk h
    obtain ⟨X, I, inv, μ, x0, h0, hs, hround⟩ := h
    refine ⟨X, I, inv, μ, x0, h0, hs, fun x hx => ih (fun e σ h => ?_) (hround x hx)⟩
    cases e with
    | normal => exact h
    | _ => exact hk _ _ h
  | rangeFunc f p a b _ _ => intro Q Q' σ hk h; exact h.elim
  | scope b _ => intro Q Q' σ hk h; exact h.elim
  | goto l => intro Q Q' σ hk h; exact h.elim
  | refuse s => intro Q Q' σ hk h; exact h.elim

theorem awpC_ok (hτ : TyOk P τ) {qc : Nat → Bool} {CK : Nat → KT} (hCK : ∀ f args m k, CK f args m k → callK P qc f args m k) {N : Nat} : ∀ {c : Code} (_ : codeOk qc N c = true) {Q : Exit → List (Nat × AV) → Mem → Prop} {t : List (Nat × AV)} {m : Mem}, awpC τ CK c Q t m → awp P qc (callK P qc) N c (fun e σ => Q e σ.t σ.m) ⟨t, m⟩ := by
  intro c
  induction c with
  | skip => intro _ Q t m h; exact h
  | label l => intro _ Q t m h; exact h
  | exit id => intro _ Q t m h; exact h
  | ret => intro _ Q t m h; exact h
  | region id ops draw =>
    intro hc Q t m h
    simp only [codeOk, Bool.and_eq_true, List.all_eq_true] at hc
    exact ⟨fun hd => by have := hc.1; rw [hd] at this; exact this, runC_ok hτ hCK hc.2 h⟩
  | seq x y ihx ihy =>
    intro hc Q t m h
    simp only [codeOk, Bool.and_eq_true] at hc
    show awp P qc (callK P qc) N x _ _
    refine awp_mono (fun e σ h => ?_) (ihx hc.1 h)
    cases e with
    | normal => exact ihy hc.2 h
    | _ => exact h
  | cond c a b iha ihb =>
    intro hc Q t m h
    simp only [codeOk, Bool.and_eq_true] at hc
    unfold awpC condK at h
    unfold awp
    obtain ⟨x, h1, h2⟩ := evK_ok h
    split at h2
    · simp only [h1]
      exact ⟨fun e => iha hc.1 (h2.yes e), fun e => ihb hc.2 (h2.no e)⟩
    · exact h2.elim
  | block id c ih =>
    intro hc Q t m h
    show awp P qc (callK P qc) N c _ _
    refine awp_mono (fun e σ h => ?_) (ih hc h)
    cases e with
    | exit i =>
      simp only [blockQ] at h ⊢
      cases hi : Nat.beq i id with
      | true => rw [hi] at h; rw [if_pos (natBeq hi)]; exact h
      | false => rw [hi] at h; rw [if_neg (natBeqF hi)]; exact h
    | _ => exact h
  | loop c ih =>
    intro hc Q t m h
    obtain ⟨X, I, inv, μ, x0, h0, hs, hround⟩ := h
    refine ⟨X, fun x => ⟨(I x).1, (I x).2⟩, inv, μ, x0, h0, hs, fun x hx => awp_mono (fun e σ h => ?_) (ih hc (hround x hx))⟩
    cases e with
    | normal => exact h
    | _ => exact h
  | rangeFunc f p a b _ _ => intro _ Q t m h; exact h.elim
  | scope b _ => intro _ Q t m h; exact h.elim
  | goto l => intro _ Q t m h; exact h.elim
  | refuse s => intro _ Q t m h; exact h.elim

/-! ### Results -/

def resK (τ : List (Nat × TI)) (t : List (Nat × AV)) (m : Mem) : List ResultVar → (List AV → Prop) → Prop
  | [], k => k []
  | .tmp a :: r, k => tgetK a (fun x => resK τ t m r fun l => k (x :: l)) t
  | .cell a T :: r, k => tgetK a (fun p => tyK T (fun ti => loadK ti m p fun x => resK τ t m r fun l => k (x :: l)) τ) t
theorem resK_ok (hτ : TyOk P τ) {t : List (Nat × AV)} {m : Mem} : ∀ {rs : List ResultVar} {k : List AV → Prop}, resK τ t m rs k → ∃ l, resF P ⟨t, m⟩ rs = some l ∧ k l
  | [], k, h => ⟨[], rfl, h⟩
  | .tmp a :: r, k, h => by
    obtain ⟨x, h1, h2⟩ := tgetK_ok h
    obtain ⟨l, h3, h4⟩ := resK_ok hτ h2
    exact ⟨_, by simp only [resF, h1, h3], h4⟩
  | .cell a T :: r, k, h => by
    obtain ⟨p, h1, h2⟩ := tgetK_ok h
    obtain ⟨ti, h3, h4⟩ := tyK_ok hτ h2
    obtain ⟨x, h5, h6⟩ := loadK_ok h4
    obtain ⟨l, h7, h8⟩ := resK_ok hτ h6
    exact ⟨_, by simp only [resF, h1, h3, h5, h7], h8⟩

def purA1K (m : Mem) : AV → (AV → Mem → Prop) → Prop
  | .c (.fn f caps), k => purLK m caps fun l m' => k (.c (.fn f l)) m'
  | .c (.sc v), k => k (.c (nrm v)) m
  | .c (.lst es), k => k (.c (.lst es)) m
  | .c (.full es), k => k (.c (.lst es)) m
  | .c (.view o lo n), k => purK m (.view o lo n) fun c m' => k (.c c) m'
  | .agg cs, k => purLK m cs fun l m' => k (.agg l) m'
  | _, _ => False
theorem purA1K_ok {m : Mem} {x : AV} {k : AV → Mem → Prop} (h : purA1K m x k) : ∃ y m', purA1 m x = some (y, m') ∧ k y m' := by
  unfold purA1K at h
  split at h
  · obtain ⟨l, m', h1, h2⟩ := purLK_ok h
    exact ⟨_, _, by simp only [purA1, h1], h2⟩
  · exact ⟨_, _, rfl, h⟩
  · exact ⟨_, _, rfl, h⟩
  · exact ⟨_, _, rfl, h⟩
  · obtain ⟨c, m', h1, h2⟩ := purK_ok h
    exact ⟨_, _, by simp only [purA1, h1], h2⟩
  · obtain ⟨l, m', h1, h2⟩ := purLK_ok h
    exact ⟨_, _, by simp only [purA1, h1], h2⟩
  · exact h.elim
def purAsK (m : Mem) : List AV → (List AV → Mem → Prop) → Prop
  | [], k => k [] m
  | x :: r, k => purA1K m x fun y m1 => purAsK m1 r fun l m2 => k (y :: l) m2
theorem purAsK_ok : ∀ {l : List AV} {m : Mem} {k : List AV → Mem → Prop}, purAsK m l k → ∃ l' m', purAs m l = some (l', m') ∧ k l' m'
  | [], m, k, h => ⟨[], m, rfl, h⟩
  | x :: r, m, k, h => by
    obtain ⟨y, m1, h1, h2⟩ := purA1K_ok h
    obtain ⟨l, m2, h3, h4⟩ := purAsK_ok h2
    exact ⟨_, _, by simp only [purAs, h1, h3], h4⟩

def initK (l : List AV) (k : List (Nat × AV) → Prop) : Prop := go l 0 k
where go : List AV → Nat → (List (Nat × AV) → Prop) → Prop
  | [], _, k => k []
  | x :: r, i, k => go r (i + 1) fun l => k ((i, x) :: l)
theorem initK_go : ∀ {l : List AV} {i : Nat} {k : List (Nat × AV) → Prop}, initK.go l i k → k (initT l i)
  | [], _, _, h => h
  | x :: r, i, k, h => initK_go (l := r) (i := i + 1) (k := fun l => k ((i, x) :: l)) h

/-- A FUNCTION IS RIGHT if its code is, in the strict evaluator. -/
theorem does_of {f : Nat} {fn : Func} {c : Code} {rs : Array ResultVar} {qc : Nat → Bool} {CK : Nat → KT} (hm : P.follows .mixedOrders = true) (hf : P.funcs[f]? = some fn) (hname : (fn.name == "runtime.NumGoroutine") = false) (hb : fn.body = some c) {N : Nat} (hn : fn.ntmps = N) (hrs : fn.results = rs) (hτ : TyOk P τ)
    (hcode : codeOk qc N c = true) {args : List AV} {r : AV} (hCK : ∀ f args m k, CK f args m k → callK P qc f args m k) (hsz : args.length ≤ N)
    (h : initK args fun t => awpC τ CK c (fun e t m => match e with
      | .normal => resK τ t m rs.toList fun l => purAsK m l fun l _ => r = oneOf l
      | .ret => resK τ t m rs.toList fun l => purAsK m l fun l _ => r = oneOf l
      | _ => False) t ⟨[], 0⟩) : Does P f args r := by
  refine spec_of (qc := qc) (CK := callK P qc) hm hf hname hb hn (fun _ _ _ _ h => h) hsz ?_
  refine awp_mono (fun e σ h => ?_) (awpC_ok hτ hCK hcode (initK_go h))
  subst hrs
  cases e with
  | normal =>
    obtain ⟨l, h1, h2⟩ := resK_ok hτ h
    obtain ⟨l', m', h3, h4⟩ := purAsK_ok h2
    exact ⟨trivial, l, l', m', h1, h3, h4⟩
  | ret =>
    obtain ⟨l, h1, h2⟩ := resK_ok hτ h
    obtain ⟨l', m', h3, h4⟩ := purAsK_ok h2
    exact ⟨trivial, l, l', m', h1, h3, h4⟩
  | _ => exact h.elim

/-! ### What is known of callees -/

/-- What a function comes to, told as what has to hold for what comes after. -/
abbrev RT := List AV → (AV → Prop) → Prop
def FunR (P : Program) (f : Nat) (R : RT) : Prop := ∀ args k, R args k → ∃ r, Does P f args r ∧ k r

def cSc (R : RT) : KT := fun args m k => purAsK m args fun args' _ => R args' fun r => match scal r with
  | true => k r m
  | false => False
def cPu (R : RT) : KT := fun args m k => purAsK m args fun args' m' => R args' fun r => k r m'

theorem cSc_ok {f : Nat} {qc : Nat → Bool} {R : RT} (h : FunR P f R) : KOk P qc f (cSc R) := fun args m k hk => by
  obtain ⟨l, m', h1, h2⟩ := purAsK_ok hk
  obtain ⟨r, h3, h4⟩ := h _ _ h2
  split at h4
  · rename_i e; exact callK_sc h3 ⟨_, h1⟩ e h4
  · exact h4.elim
theorem cPu_ok {f : Nat} {qc : Nat → Bool} {R : RT} (h : FunR P f R) (hq : qc f = false) : KOk P qc f (cPu R) := fun args m k hk => by
  obtain ⟨l, m', h1, h2⟩ := purAsK_ok hk
  obtain ⟨r, h3, h4⟩ := h _ _ h2
  exact callK_pure h3 h1 (fun e => by rw [hq] at e; cases e) h4

/-- Lists out, of arguments that hold no array of one's own. -/
def frozenC : Cell → Bool
  | .sc _ => true
  | .lst _ => true
  | .full _ => true
  | _ => false
def frozenA : AV → Bool
  | .c x => frozenC x
  | .agg cs => cs.all frozenC
  | .tup _ => false
def frozenL : List AV → Bool
  | [] => true
  | x :: r => match frozenA x with
    | true => frozenL r
    | false => false
theorem purL_frozen {m : Mem} : ∀ {l : List Cell} {l' : List Cell} {m' : Mem}, l.all frozenC = true → purL m l = some (l', m') → m' = m
  | [], _, _, _, h => by simp [purL] at h; exact h.2.symm
  | c :: r, l', m', hf, h => by
    simp only [List.all_cons, Bool.and_eq_true] at hf
    obtain ⟨hc, hr⟩ := hf
    have : ∃ c', pur m c = some (c', m) := by cases c <;> first | exact ⟨_, rfl⟩ | cases hc
    obtain ⟨c', e⟩ := this
    simp only [purL, e] at h
    split at h
    · rename_i e2
      simp at h
      rw [← h.2]
      exact purL_frozen hr e2
    · cases h
theorem purA1_frozen {m : Mem} {x y : AV} {m' : Mem} (hf : frozenA x = true) (h : purA1 m x = some (y, m')) : m' = m := by
  cases x with
  | c x =>
    cases x <;> first | (cases hf; done) | (simp [purA1, pur] at h; exact h.2.symm)
  | agg cs =>
    simp only [purA1] at h
    split at h
    · rename_i e
      simp at h
      rw [← h.2]
      exact purL_frozen hf e
    · cases h
  | tup _ => cases hf
theorem purAs_frozen {m : Mem} : ∀ {l l' : List AV} {m' : Mem}, frozenL l = true → purAs m l = some (l', m') → m' = m
  | [], _, _, _, h => by simp [purAs] at h; exact h.2.symm
  | x :: r, l', m', hf, h => by
    unfold frozenL at hf
    split at hf
    · rename_i hx
      unfold purAs at h
      split at h
      · rename_i e1
        have := purA1_frozen hx e1
        subst this
        split at h
        · rename_i e2
          simp at h
          rw [← h.2]
          exact purAs_frozen hf e2
        · cases h
      · cases h
    · cases hf
def cPq (R : RT) : KT := fun args m k => match frozenL args with
  | true => purAsK m args fun args' _ => R args' fun r => k r m
  | false => False
theorem cPq_ok {f : Nat} {qc : Nat → Bool} {R : RT} (h : FunR P f R) : KOk P qc f (cPq R) := fun args m k hk => by
  unfold cPq at hk
  split at hk
  · rename_i e
    obtain ⟨l, m', h1, h2⟩ := purAsK_ok hk
    obtain ⟨r, h3, h4⟩ := h _ _ h2
    have := purAs_frozen e h1
    subst this
    exact callK_pure h3 h1 (fun _ => rfl) h4
  · exact hk.elim

/-- A table of callees. -/
def ckK : List (Nat × KT) → Nat → KT
  | [], _ => fun _ _ _ => False
  | (g, K) :: r, f => match Nat.beq f g with
    | true => K
    | false => ckK r f
theorem ckK_ok {qc : Nat → Bool} : ∀ {l : List (Nat × KT)}, KsOk P qc l → ∀ f args m k, ckK l f args m k → callK P qc f args m k
  | [], _, _, _, _, _, h => h.elim
  | (g, K) :: r, ⟨h1, h2⟩, f, args, m, k, h => by
    cases hf : Nat.beq f g with
    | true =>
      have e : ckK ((g, K) :: r) f = K := by simp only [ckK, hf]
      rw [e] at h
      rw [natBeq hf]; exact h1 _ _ _ h
    | false =>
      have e : ckK ((g, K) :: r) f = ckK r f := by simp only [ckK, hf]
      rw [e] at h
      exact ckK_ok h2 f args m k h

end
end Go.Abs
