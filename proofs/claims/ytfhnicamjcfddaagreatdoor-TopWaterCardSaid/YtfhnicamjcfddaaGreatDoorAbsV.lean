/- The strict evaluator: operations one by one, code, functions. -/
import Derived.Test.YtfhnicamjcfddaaGreatDoorAbsU
namespace Go.Abs
open Go.RowKit

section
variable {P : Program} {τ : List (Nat × TI)}

def sameK : IntKind → IntKind → Bool
  | .i8, .i8 => true
  | .i16, .i16 => true
  | .i32, .i32 => true
  | .i64, .i64 => true
  | .u8, .u8 => true
  | .u16, .u16 => true
  | .u32, .u32 => true
  | .u64, .u64 => true
  | _, _ => false
theorem sameK_ok {a b : IntKind} (h : sameK a b = true) : a = b := by cases a <;> cases b <;> first | rfl | cases h

def intK (n : Int) (k : IntKind) (kk : Value → Prop) : Prop := kk (.int k n)

def binIK (op : BinOp) (kd : IntKind) (a b : Int) (k : Value → Prop) : Prop :=
  match op with
  | .add => k (.int kd (kd.wrap (a + b)))
  | .sub => k (.int kd (kd.wrap (a - b)))
  | .mul => k (.int kd (kd.wrap (a * b)))
  | .quo => b ≠ 0 ∧ k (.int kd (kd.wrap (a.tdiv b)))
  | .rem => b ≠ 0 ∧ k (.int kd (a.tmod b))
  | .eql => k (.bool (decide (a = b)))
  | .neq => k (.bool (!decide (a = b)))
  | .lss => k (.bool (decide (a < b)))
  | .leq => k (.bool (decide (a ≤ b)))
  | .gtr => k (.bool (decide (b < a)))
  | .geq => k (.bool (decide (b ≤ a)))
  | .and => k (.int kd (andI kd a b))
  | .shr => ¬ b < 0 ∧ k (.int kd (shrI kd a b))
  | _ => False
theorem binIK_ok {op : BinOp} {kd : IntKind} {a b : Int} {k : Value → Prop} (h : binIK op kd a b k) : ∃ v, binI op kd a b = some v ∧ k v := by
  cases op <;> simp only [binIK] at h <;> first
    | exact ⟨_, rfl, h⟩
    | exact ⟨_, by simp only [binI, if_neg h.1], h.2⟩
    | exact h.elim

def binBK (op : BinOp) (a b : Bool) (k : Value → Prop) : Prop :=
  match op with
  | .eql => k (.bool (a == b))
  | .neq => k (.bool (!(a == b)))
  | _ => False
theorem binBK_ok {op : BinOp} {a b : Bool} {k : Value → Prop} (h : binBK op a b k) : ∃ v, binB op a b = some v ∧ k v := by
  cases op <;> simp only [binBK] at h <;> first
    | exact ⟨_, rfl, h⟩
    | exact h.elim

def eqCK : List Bool → List Cell → List Cell → (Bool → Prop) → Prop
  | [], [], [], k => k true
  | true :: ks, .sc (.int q a) :: r, .sc (.int q' b) :: s, k => match sameK q q' with
    | true => eqCK ks r s fun e => k (decide (a = b) && e)
    | false => False
  | false :: ks, .sc (.bool a) :: r, .sc (.bool b) :: s, k => eqCK ks r s fun e => k ((a == b) && e)
  | _, _, _, _ => False
theorem eqCK_ok : ∀ {ks : List Bool} {xs ys : List Cell} {k : Bool → Prop}, eqCK ks xs ys k → ∃ b, eqC ks xs ys = some b ∧ k b := by
  intro ks
  induction ks with
  | nil =>
    intro xs ys k h
    unfold eqCK at h
    split at h
    · exact ⟨true, rfl, h⟩
    · contradiction
    · contradiction
    · exact h.elim
  | cons q ks ih =>
    intro xs ys k h
    unfold eqCK at h
    split at h
    · contradiction
    · rename_i heq
      simp only [List.cons.injEq] at heq
      obtain ⟨rfl, rfl⟩ := heq
      split at h
      · rename_i e
        obtain ⟨b, h1, h2⟩ := ih h
        exact ⟨_, by simp only [eqC, if_pos (sameK_ok e), h1, Option.map_some], h2⟩
      · exact h.elim
    · rename_i heq
      simp only [List.cons.injEq] at heq
      obtain ⟨rfl, rfl⟩ := heq
      obtain ⟨b, h1, h2⟩ := ih h
      exact ⟨_, by simp only [eqC, h1, Option.map_some], h2⟩
    · exact h.elim
def nilBK (op : BinOp) (x : Cell) (k : Bool → Prop) : Prop := match op, x with
  | .eql, .sc (.slice none 0 0) => k true
  | .eql, .lst (_ :: _) => k false
  | .neq, .sc (.slice none 0 0) => k false
  | .neq, .lst (_ :: _) => k true
  | _, _ => False
theorem nilBK_ok {op : BinOp} {x : Cell} {k : Bool → Prop} (h : nilBK op x k) : ∃ b, nilB op x = some b ∧ k b := by
  unfold nilBK at h
  split at h
  · exact ⟨_, rfl, h⟩
  · exact ⟨_, rfl, h⟩
  · exact ⟨_, rfl, h⟩
  · exact ⟨_, rfl, h⟩
  · exact h.elim
def binEK (op : BinOp) (ks : List Bool) (xs ys : List Cell) (k : Bool → Prop) : Prop := match op with
  | .eql => eqCK ks xs ys k
  | .neq => eqCK ks xs ys fun b => k (!b)
  | _ => False
theorem binEK_ok {op : BinOp} {ks : List Bool} {xs ys : List Cell} {k : Bool → Prop} (h : binEK op ks xs ys k) : ∃ b, binE op ks xs ys = some b ∧ k b := by
  cases op <;> simp only [binEK] at h <;> first
    | exact eqCK_ok h
    | (obtain ⟨b, h1, h2⟩ := eqCK_ok h; exact ⟨_, by simp only [binE, h1, Option.map_some], h2⟩)
    | exact h.elim

def plainK : List AV → (List Cell → Prop) → Prop
  | [], k => k []
  | .c x :: r, k => plainK r fun l => k (x :: l)
  | _ :: _, _ => False
theorem plainK_ok : ∀ {l : List AV} {k : List Cell → Prop}, plainK l k → ∃ cs, plainCells l = some cs ∧ k cs
  | [], k, h => ⟨[], rfl, h⟩
  | .c x :: r, k, h => by
    obtain ⟨cs, h1, h2⟩ := plainK_ok (l := r) h
    exact ⟨_, by simp [plainCells, h1], h2⟩
  | .agg _ :: _, k, h => h.elim
  | .tup _ :: _, k, h => h.elim

def forceA : List AV → (List AV → Prop) → Prop
  | [], k => k []
  | c :: r, k => forceA r fun r' => k (c :: r')
theorem forceA_ok : ∀ {l : List AV} {k : List AV → Prop}, forceA l k → k l
  | [], _, h => h
  | c :: r, k, h => forceA_ok (l := r) (k := fun r' => k (c :: r')) h

/-- Two ways on. -/
structure Fork (b : Bool) (A B : Prop) : Prop where
  yes : b = true → A
  no : b = false → B

/-- Slots that a guard has settled. -/
def decOf (d : Nat) : List (Nat × Bool) → Option Bool
  | [] => none
  | (s, b) :: r => match Nat.beq d s with
    | true => some b
    | false => decOf d r
def dec1 (ds : List (Nat × Bool)) : Operand → Option Bool
  | .tmp d => decOf d ds
  | _ => none
/-- Two ways on, or one where it is settled. -/
def forkK (ds : Option Bool) (b : Bool) (A B : Prop) : Prop :=
  match ds with
  | none => Fork b A B
  | some true => (match b with
    | true => A
    | false => False)
  | some false => (match b with
    | true => False
    | false => B)
theorem forkK_t {ds : Option Bool} {b : Bool} {A B : Prop} (h : forkK ds b A B) (hb : b = true) : A := by
  subst hb
  unfold forkK at h
  split at h
  · exact h.yes rfl
  · exact h
  · exact h.elim
theorem forkK_f {ds : Option Bool} {b : Bool} {A B : Prop} (h : forkK ds b A B) (hb : b = false) : B := by
  subst hb
  unfold forkK at h
  split at h
  · exact h.no rfl
  · exact h.elim
  · exact h

def opK (ds : List (Nat × Bool)) (τ : List (Nat × TI)) (op : Op) (d : Nat) (L : List (Nat × AV)) (m : Mem) (k : AV → Mem → Prop) : Prop :=
  match op with
  | .move x => evK L x fun a => k a m
  | .assign x => evK L x fun a => k a m
  | .pick c a b => evK L c fun v => match v with
    | .c (.sc (.bool z)) => forkK (dec1 ds c) z (evK L a fun a => k a m) (evK L b fun b => k b m)
    | _ => False
  | .alloc T => tyK T (fun ti => constCellsK ti.zero fun cs => addK d m (.blk cs) fun i m' => k (.c (.ptr i 0)) m') τ
  | .box _ x => evK L x fun a => avK a fun cs => addK d m (.blk cs) fun i m' => k (.c (.ptr i 0)) m'
  | .build T ps => tyK T (fun ti => match ti.d with
    | .struct fs => constCellsK ti.zero fun z => allTyK τ fs (buildK τ L fs z ps.toList fun cs => k (.agg cs) m)
    | .array n e => constCellsK ti.zero fun z => tyK e (fun te => buildK τ L (arrFs te.size e n 0) z ps.toList fun cs => k (.agg cs) m) τ
    | _ => False) τ
  | .buildSlice T n ps => tyK T (fun ti => match ti.d with
    | .slice e => tyK e (fun te => match Nat.beq te.size 0, Nat.ble (n * te.size) 16777216 with
      | false, true => partsK L te.size 0 ps.toList m fun es m1 => match Nat.beq es.length n with
        | true => addK d m1 (.arr e te.size es false) fun i m' => k (.c (.view i 0 n)) m'
        | false => False
      | _, _ => False) τ
    | _ => False) τ
  | .makeSlice T x y => tyK T (fun ti => match ti.d with
    | .slice e => tyK e (fun te => match tyGood te with
      | false => False
      | true => constCellsNK te.zero fun z => evK L x fun a => evK L y fun b => match a, b with
        | .c (.sc (.int _ n)), .c (.sc (.int _ n')) => (n = n' ∧ 0 ≤ n ∧ n * te.bytes ≤ 140737488355328) ∧ addK d m (.arr e te.size (List.replicate n.toNat z) false) fun i m' => k (.c (.view i 0 n.toNat)) m'
        | _, _ => False) τ
    | _ => False) τ
  | .load t a => tyK t (fun ti => evK L a fun p => loadK ti m p fun x => k x m) τ
  | .nilCheck x => evK L x fun a => match a with
    | .c (.ptr i o) => k (.c (.ptr i o)) m
    | .c (.aptr o i kk) => k (.c (.aptr o i kk)) m
    | .c (.pel cs) => k (.c (.pel cs)) m
    | .c (.fn f cs) => k (.c (.fn f cs)) m
    | _ => False
  | .binOp op t x y _ => evK L x fun a => evK L y fun b => match a, b with
    | .c (.sc (.int kd a)), .c (.sc (.int k' b)) => (match sameK kd k' with
      | true => binIK op kd a b fun v => k (.c (.sc v)) m
      | false => False)
    | .c (.sc (.bool a)), .c (.sc (.bool b)) => tyK t (fun ti => match ti.d with
      | .bool => binBK op a b fun v => k (.c (.sc v)) m
      | _ => False) τ
    | .agg xs, .agg ys => tyK t (fun ti => match ti.eq with
      | q :: ks => binEK op (q :: ks) xs ys fun b => k (.c (.sc (.bool b))) m
      | [] => False) τ
    | .c x, .c (.sc (.slice none 0 0)) => tyK t (fun ti => match ti.d with
      | .slice _ => nilBK op x fun b => k (.c (.sc (.bool b))) m
      | _ => False) τ
    | .c (.sc (.string a)), .c (.sc (.string b)) => optK (binS op a b) fun v => k (.c (.sc v)) m
    | _, _ => False
  | .unOp op _ x => evK L x fun a => match op, a with
    | .not, .c (.sc (.bool b)) => k (.c (.sc (.bool (!b)))) m
    | .neg, .c (.sc (.int kd n)) => k (.c (.sc (.int kd (kd.wrap (0 - n))))) m
    | _, _ => False
  | .convert src t x => tyK src (fun _ => tyK t (fun ti => evK L x fun a => match ti.d, a with
    | .int kd, .c (.sc (.int _ n)) => k (.c (.sc (.int kd (kd.wrap n)))) m
    | _, _ => False) τ) τ
  | .fieldAddr s x f => evK L x fun p => fieldK τ s f p fun x => k x m
  | .field s x f => evK L x fun p => fieldVK τ s f p fun x => k x m
  | .indexAddr t x i => evK L x fun x => evK L i fun i => indexK τ m t x i fun x => k x m
  | .index t x i => evK L x fun x => evK L i fun i => indexVK τ t x i fun x => k x m
  | .slice t x lo hi mx => evK L x fun x => sliceK τ L m t x lo hi mx fun x => k x m
  | .makeMap T r => match r with
    | none => tyK T (fun ti => match ti.d with
      | .map _ _ => addK d m (.map []) fun i m' => k (.c (.mp i)) m'
      | _ => False) τ
    | some _ => False
  | .lookup T x ix ok => match ok with
    | true => evK L x fun a => evK L ix fun b => mapK τ T m a b fun x => k x m
    | false => False
  | .extract x i => evK L x fun a => match a with
    | .tup l => optK l[i]? fun x => k x m
    | _ => False
  | .makeFunc (.func f) first caps => match Nat.beq first.size 0 with
    | true => evsK L caps.toList fun l => plainK l fun cs => k (.c (.fn f cs)) m
    | false => False
  | .call { callee := .builtin b, args, argTypes } => evsK L args.toList fun l => callBK τ b argTypes.toList d m l k
  | _ => False

theorem opK_ok (hτ : TyOk P τ) {ds : List (Nat × Bool)} {op : Op} {d : Nat} {L : List (Nat × AV)} {m : Mem} {k : AV → Mem → Prop} (h : opK ds τ op d L m k) : ∃ x m', opF P op d (tget L) m = some (x, m') ∧ k x m' := by
  unfold opK at h
  unfold opF
  split at h
  · obtain ⟨a, h1, h2⟩ := evK_ok h
    exact ⟨a, m, by simp [h1], h2⟩
  · obtain ⟨a, h1, h2⟩ := evK_ok h
    exact ⟨a, m, by simp [h1], h2⟩
  · obtain ⟨a, h1, h2⟩ := evK_ok h
    split at h2
    · rename_i z
      cases z
      · obtain ⟨b, h3, h4⟩ := evK_ok (forkK_f h2 rfl)
        exact ⟨b, m, by simp [h1, h3], h4⟩
      · obtain ⟨b, h3, h4⟩ := evK_ok (forkK_t h2 rfl)
        exact ⟨b, m, by simp [h1, h3], h4⟩
    · exact h2.elim
  · obtain ⟨ti, h1, h2⟩ := tyK_ok hτ h
    obtain ⟨cs, h3, h4⟩ := constCellsK_ok h2
    exact ⟨_, _, by simp only [h1, h3], addK_ok h4⟩
  · obtain ⟨a, h1, h2⟩ := evK_ok h
    obtain ⟨cs, h3, h4⟩ := avK_ok h2
    exact ⟨_, _, by simp only [h1, h3], addK_ok h4⟩
  · obtain ⟨ti, h1, h2⟩ := tyK_ok hτ h
    split at h2
    · rename_i hd
      obtain ⟨z, h3, h4⟩ := constCellsK_ok h2
      obtain ⟨h5, h6⟩ := allTyK_ok hτ h4
      obtain ⟨cs, h7, h8⟩ := buildK_ok hτ h6
      exact ⟨_, _, by simp only [h1, hd, h3, h5, h7, if_true, Option.map_some], h8⟩
    · rename_i hd
      obtain ⟨z, h3, h4⟩ := constCellsK_ok h2
      obtain ⟨te, h5, h6⟩ := tyK_ok hτ h4
      obtain ⟨cs, h7, h8⟩ := buildK_ok hτ h6
      exact ⟨_, _, by simp only [h1, hd, h3, h5, h7, Option.map_some], h8⟩
    · exact h2.elim
  · rename_i T n ps
    obtain ⟨ti, h1, h2⟩ := tyK_ok hτ h
    obtain ⟨ag, sz, by_, ze, dd⟩ := ti
    simp only at h2
    split at h2
    · obtain ⟨te, h3, h4⟩ := tyK_ok hτ h2
      split at h4
      · rename_i e1 e2
        obtain ⟨es, m1, h5, h6⟩ := partsK_ok h4
        split at h6
        · rename_i e3
          have hn : ¬ (te.size = 0 ∨ 16777216 < n * te.size) := by
            rintro (h | h)
            · exact natBeqF e1 h
            · exact absurd (Nat.le_of_ble_eq_true e2) (by omega)
          exact ⟨_, _, by simp only [h1, h3, if_neg hn, h5, if_pos (natBeq e3)], addK_ok h6⟩
        · exact h6.elim
      · exact h4.elim
    · exact h2.elim
  · obtain ⟨ti, h1, h2⟩ := tyK_ok hτ h
    obtain ⟨ag, sz, by_, ze, dd⟩ := ti
    simp only at h2
    split at h2
    · obtain ⟨te, h3, h4⟩ := tyK_ok hτ h2
      split at h4
      · exact h4.elim
      · rename_i hg
        obtain ⟨g1, g2, g3⟩ := tyGood_ok hg
        obtain ⟨z, h5, h6⟩ := constCellsNK_ok h4
        obtain ⟨a, h7, h8⟩ := evK_ok h6
        obtain ⟨b, h9, h10⟩ := evK_ok h8
        split at h10
        · obtain ⟨⟨c1, c2, c3⟩, h11⟩ := h10
          exact ⟨_, _, by simp only [h1, h3, h5, h7, h9, if_pos (⟨c1, c2, g1, g2, g3, c3⟩ : _ ∧ _ ∧ _ ∧ _ ∧ _ ∧ _)], addK_ok h11⟩
        · exact h10.elim
    · exact h2.elim
  · obtain ⟨ti, h1, h2⟩ := tyK_ok hτ h
    obtain ⟨a, h3, h4⟩ := evK_ok h2
    obtain ⟨x, h5, h6⟩ := loadK_ok h4
    exact ⟨_, _, by simp only [h1, h3, h5, Option.map_some], h6⟩
  · obtain ⟨a, h1, h2⟩ := evK_ok h
    split at h2
    · exact ⟨_, _, by simp only [h1], h2⟩
    · exact ⟨_, _, by simp only [h1], h2⟩
    · exact ⟨_, _, by simp only [h1], h2⟩
    · exact ⟨_, _, by simp only [h1], h2⟩
    · exact h2.elim
  · obtain ⟨a, h1, h2⟩ := evK_ok h
    obtain ⟨b, h3, h4⟩ := evK_ok h2
    split at h4
    · split at h4
      · rename_i e
        obtain ⟨v, h5, h6⟩ := binIK_ok h4
        exact ⟨_, _, by simp only [h1, h3, if_pos (sameK_ok e), h5, Option.map_some], h6⟩
      · exact h4.elim
    · obtain ⟨ti, h5, h6⟩ := tyK_ok hτ h4
      obtain ⟨ag, sz, by_, ze, dd⟩ := ti
      simp only at h6
      split at h6
      · obtain ⟨v, h7, h8⟩ := binBK_ok h6
        exact ⟨_, _, by simp only [h1, h3, h5, h7, Option.map_some], h8⟩
      · exact h6.elim
    · obtain ⟨ti, h5, h6⟩ := tyK_ok hτ h4
      split at h6
      · rename_i q ks hq
        obtain ⟨b, h7, h8⟩ := binEK_ok h6
        exact ⟨_, _, by simp only [h1, h3, h5, hq, h7, Option.map_some], h8⟩
      · exact h6.elim
    · obtain ⟨ti, h5, h6⟩ := tyK_ok hτ h4
      obtain ⟨ag, sz, by_, ze, dd⟩ := ti
      simp only at h6
      split at h6
      · obtain ⟨b, h7, h8⟩ := nilBK_ok h6
        exact ⟨_, _, by simp only [h1, h3, h5, h7, Option.map_some], h8⟩
      · exact h6.elim
    · obtain ⟨v, h5, h6⟩ := optK_ok h4
      exact ⟨_, _, by simp only [h1, h3, binSO, h5, Option.map_some], h6⟩
    · exact h4.elim
  · obtain ⟨a, h1, h2⟩ := evK_ok h
    split at h2
    · exact ⟨_, _, by simp only [h1, unV, Option.map_some], h2⟩
    · exact ⟨_, _, by simp only [h1, unV, Option.map_some], h2⟩
    · exact h2.elim
  · obtain ⟨ts, h1, h2⟩ := tyK_ok hτ h
    obtain ⟨ti, h3, h4⟩ := tyK_ok hτ h2
    obtain ⟨a, h5, h6⟩ := evK_ok h4
    obtain ⟨ag, sz, by_, ze, dd⟩ := ti
    simp only at h6
    split at h6
    · exact ⟨_, _, by simp only [h1, h3, h5], h6⟩
    · exact h6.elim
  · obtain ⟨a, h1, h2⟩ := evK_ok h
    obtain ⟨x, h3, h4⟩ := fieldK_ok hτ h2
    exact ⟨_, _, by simp only [h1, h3, Option.map_some], h4⟩
  · obtain ⟨a, h1, h2⟩ := evK_ok h
    obtain ⟨x, h3, h4⟩ := fieldVK_ok hτ h2
    exact ⟨_, _, by simp only [h1, h3, Option.map_some], h4⟩
  · obtain ⟨a, h1, h2⟩ := evK_ok h
    obtain ⟨b, h3, h4⟩ := evK_ok h2
    obtain ⟨x, h5, h6⟩ := indexK_ok hτ h4
    exact ⟨_, _, by simp only [h1, h3, h5, Option.map_some], h6⟩
  · obtain ⟨a, h1, h2⟩ := evK_ok h
    obtain ⟨b, h3, h4⟩ := evK_ok h2
    obtain ⟨x, h5, h6⟩ := indexVK_ok hτ h4
    exact ⟨_, _, by simp only [h1, h3, h5, Option.map_some], h6⟩
  · obtain ⟨a, h1, h2⟩ := evK_ok h
    obtain ⟨x, h3, h4⟩ := sliceK_ok hτ h2
    exact ⟨_, _, by simp only [h1, h3, Option.map_some], h4⟩
  · split at h
    · obtain ⟨ti, h1, h2⟩ := tyK_ok hτ h
      obtain ⟨ag, sz, by_, ze, dd⟩ := ti
      simp only at h2
      split at h2
      · exact ⟨_, _, by simp only [h1], addK_ok h2⟩
      · exact h2.elim
    · exact h.elim
  · split at h
    · obtain ⟨a, h1, h2⟩ := evK_ok h
      obtain ⟨b, h3, h4⟩ := evK_ok h2
      obtain ⟨x, h5, h6⟩ := mapK_ok hτ h4
      exact ⟨_, _, by simp only [h1, h3, h5, Option.map_some], h6⟩
    · exact h.elim
  · obtain ⟨a, h1, h2⟩ := evK_ok h
    split at h2
    · obtain ⟨x, h3, h4⟩ := optK_ok h2
      exact ⟨_, _, by simp only [h1, h3, Option.map_some], h4⟩
    · exact h2.elim
  · split at h
    · rename_i e
      obtain ⟨l, h1, h2⟩ := evsK_ok h
      obtain ⟨cs, h3, h4⟩ := plainK_ok h2
      exact ⟨_, _, by simp only [natBeq e, if_true, h1, h3], h4⟩
    · exact h.elim
  · obtain ⟨l, h1, h2⟩ := evsK_ok h
    obtain ⟨x, m', h3, h4⟩ := callBK_ok hτ h2
    exact ⟨_, _, by simp only [h1, h3], h4⟩
  · exact h.elim

/-! ### Calls with the results handed on -/

def putK (d : Option Nat) (x : AV) (t : List (Nat × AV)) (k : List (Nat × AV) → Prop) : Prop :=
  match d with
  | none => k t
  | some d => tsetK d x t k
theorem putK_ok {d : Option Nat} {x : AV} {t : List (Nat × AV)} {k : List (Nat × AV) → Prop} (h : putK d x t k) : k (putO d x t) := by
  cases d with
  | none => exact h
  | some d => exact tsetK_ok h
def dropK (d : Option Nat) (t : List (Nat × AV)) (k : List (Nat × AV) → Prop) : Prop :=
  match d with
  | none => k t
  | some d => tsetK d (.tup []) t k
theorem dropK_ok {d : Option Nat} {t : List (Nat × AV)} {k : List (Nat × AV) → Prop} (h : dropK d t k) : k (delO d t) := by
  cases d with
  | none => exact h
  | some d => exact tsetK_ok h

def forceI : List Id → (List Id → Prop) → Prop
  | [], k => k []
  | .x n :: r, k => forceI r fun l => k (.x n :: l)
  | .l s n :: r, k => forceI r fun l => k (.l s n :: l)
theorem forceI_ok : ∀ {l : List Id} {k : List Id → Prop}, forceI l k → k l
  | [], _, h => h
  | .x n :: r, k, h => forceI_ok (l := r) (k := fun l => k (.x n :: l)) h
  | .l s n :: r, k, h => forceI_ok (l := r) (k := fun l => k (.l s n :: l)) h
def forceB : Bool → (Bool → Prop) → Prop
  | true, k => k true
  | false, k => k false
theorem forceB_ok {b : Bool} {k : Bool → Prop} (h : forceB b k) : k b := by cases b <;> exact h
def forceLab (ℓ : Lab) (k : Lab → Prop) : Prop := forceI ℓ.R fun r => forceI ℓ.W fun w => forceB ℓ.A fun a => k ⟨r, w, a⟩
theorem forceLab_ok {ℓ : Lab} {k : Lab → Prop} (h : forceLab ℓ k) : k ℓ := forceB_ok (forceI_ok (forceI_ok h))

abbrev LK := List (Nat × AV) → Mem → Lab → Prop
def stepC (ds : List (Nat × Bool)) (τ : List (Nat × TI)) (CK : Nat → KT) (o : Oper) (t : List (Nat × AV)) (m : Mem) (k : LK) : Prop :=
  match o.op with
  | .store ty p v => match o.dst with
    | none => tyK ty (fun ti => evK t p fun pa => evK t v fun va => storeK ti m pa va fun m' => k t m' ⟨[], labStore pa va, false⟩) τ
    | some _ => False
  | .call { callee := .value f, args, .. } => evK t f fun a => match a with
    | .c (.fn fid caps) => evsK t args.toList fun l => forceA (l ++ caps.map .c) fun l => CK fid l o.dst m fun r m' ℓ => putK o.dst r t fun t' => k t' m' ℓ
    | _ => False
  | .mapUpdate ty p q v => match o.dst with
    | none => evK t p fun pa => evK t q fun qa => evK t v fun va => updK τ ty m pa qa va fun m' => k t m' ⟨[], labUpd pa, false⟩
    | some _ => False
  | op => match o.dst with
    | some d => opK ds τ op d t m fun x m' => tsetK d x t fun t' => k t' m' (labOp op d m.nx (tget t))
    | none => False

def idsPK (L : List (Nat × AV)) : List (Nat × Operand) → (List Id → Prop) → Prop
  | [], k => k []
  | (_, x) :: r, k => evK L x fun a => idsPK L r fun l => k (idsA a ++ l)
theorem idsPK_ok {L : List (Nat × AV)} : ∀ {ps : List (Nat × Operand)} {k : List Id → Prop}, idsPK L ps k → k (idsP (tget L) ps)
  | [], _, h => h
  | (i, x) :: r, k, h => by
    obtain ⟨a, h1, h2⟩ := evK_ok h
    have := idsPK_ok h2
    simp only [idsP, idsO, h1]
    exact this
def labOpK (op : Op) (d nx : Nat) (L : List (Nat × AV)) (k : Lab → Prop) : Prop :=
  match op with
  | .alloc _ => k ⟨[], [.l d nx], true⟩
  | .box _ _ => k ⟨[], [.l d nx], true⟩
  | .makeSlice .. => k ⟨[], [.l d nx], true⟩
  | .buildSlice _ _ ps => idsPK L ps.toList fun l => forceI l fun l => k ⟨[], .l d nx :: l, true⟩
  | .load _ a => evK L a fun x => forceI (idsA x) fun l => k ⟨l, [], false⟩
  | .makeMap _ _ => k ⟨[], [.l d nx], true⟩
  | .lookup _ x _ _ => evK L x fun x => forceI (idsA x) fun l => k ⟨l, [], false⟩
  | .indexAddr _ x _ => evK L x fun x => forceI (idsA x) fun l => k ⟨l, [], false⟩
  | .slice _ x _ _ _ => evK L x fun x => forceI (idsA x) fun l => k ⟨l, [], false⟩
  | .call { callee := .builtin b, args, .. } => evsK L args.toList fun l => k (labBI b l (.l d nx))
  | op => k (labOp op d nx (tget L))
theorem labOpK_ok {op : Op} {d nx : Nat} {L : List (Nat × AV)} {k : Lab → Prop} (h : labOpK op d nx L k) : k (labOp op d nx (tget L)) := by
  unfold labOpK at h
  split at h
  · exact h
  · exact h
  · exact h
  · exact forceI_ok (k := fun l => k ⟨[], .l d nx :: l, true⟩) (idsPK_ok h)
  · obtain ⟨a, h1, h2⟩ := evK_ok h
    simp only [labOp, idsO, h1]
    exact forceI_ok (k := fun l => k ⟨l, [], false⟩) h2
  · exact h
  · obtain ⟨a, h1, h2⟩ := evK_ok h
    simp only [labOp, idsO, h1]
    exact forceI_ok (k := fun l => k ⟨l, [], false⟩) h2
  · obtain ⟨a, h1, h2⟩ := evK_ok h
    simp only [labOp, idsO, h1]
    exact forceI_ok (k := fun l => k ⟨l, [], false⟩) h2
  · obtain ⟨a, h1, h2⟩ := evK_ok h
    simp only [labOp, idsO, h1]
    exact forceI_ok (k := fun l => k ⟨l, [], false⟩) h2
  · obtain ⟨l, h1, h2⟩ := evsK_ok h
    simp only [labOp, h1]
    exact h2
  · exact h
def nxK (m : Mem) (k : Nat → Prop) : Prop := match m with
  | ⟨_, nx, _⟩ => k nx
def stepS (ds : List (Nat × Bool)) (τ : List (Nat × TI)) (CK : Nat → KT) (o : Oper) (t : List (Nat × AV)) (m : Mem) (k : LK) : Prop :=
  match o.op with
  | .store .. => stepC ds τ CK o t m k
  | .mapUpdate .. => stepC ds τ CK o t m k
  | .call { callee := .value _, .. } => stepC ds τ CK o t m k
  | op => match o.dst with
    | some d => nxK m fun n => labOpK op d n t fun ℓ => opK ds τ op d t m fun x m' => tsetK d x t fun t' => k t' m' ℓ
    | none => False
theorem stepS_C {ds : List (Nat × Bool)} {τ : List (Nat × TI)} {CK : Nat → KT} {o : Oper} {t : List (Nat × AV)} {m : Mem} {k : LK} (h : stepS ds τ CK o t m k) : stepC ds τ CK o t m k := by
  unfold stepS at h
  split at h
  · exact h
  · exact h
  · exact h
  · rename_i op h1 h3 h2
    split at h
    · rename_i d hd
      unfold stepC
      split
      · rename_i ho; exact absurd ho (h1 _ _ _)
      · rename_i ho; exact absurd ho (h2 _ _ _)
      · rename_i ho; exact absurd ho (h3 _ _ _ _)
      · simp only [hd]
        exact labOpK_ok (k := fun ℓ => opK ds τ o.op d t m fun x m' => tsetK d x t fun t' => k t' m' ℓ) h
    · exact h.elim

theorem callK_mono {qc : Nat → Bool} {f : Nat} {args : List AV} {d : Option Nat} {m : Mem} {k k' : AV → Mem → Lab → Prop} (hk : ∀ r m ℓ, k r m ℓ → k' r m ℓ) (h : callK P qc f args d m k) : callK P qc f args d m k' := by
  obtain ⟨r, m', ℓ, h1, h2, h3⟩ := h
  exact ⟨r, m', ℓ, h1, h2, hk _ _ _ h3⟩

theorem stepC_ok (hτ : TyOk P τ) {qc : Nat → Bool} {CK : Nat → KT} (hCK : ∀ f args d m k, CK f args d m k → callK P qc f args d m k) {N : Nat} {ds : List (Nat × Bool)} {o : Oper} (hd : okO o.dst N = true) {t : List (Nat × AV)} {m : Mem} {k : LK} (h : stepC ds τ CK o t m k) : stepK P (callK P qc) N o ⟨t, m⟩ (fun σ ℓ => k σ.t σ.m ℓ) := by
  unfold stepC at h
  unfold stepK
  split at h
  · rename_i ty p v ho
    split at h
    · rename_i hd'
      obtain ⟨ti, h1, h2⟩ := tyK_ok hτ h
      obtain ⟨pa, h3, h4⟩ := evK_ok h2
      obtain ⟨va, h5, h6⟩ := evK_ok h4
      obtain ⟨m', h7, h8⟩ := storeK_ok h6
      simp only [ho, hd', h1, h3, h5, h7]
      exact h8
    · exact h.elim
  · rename_i f args ats ho
    obtain ⟨a, h1, h2⟩ := evK_ok h
    split at h2
    · obtain ⟨l, h3, h4⟩ := evsK_ok h2
      simp only [ho, h1, h3]
      exact ⟨hd, callK_mono (fun r m ℓ h => putK_ok h) (hCK _ _ _ _ _ (forceA_ok h4))⟩
    · exact h2.elim
  · rename_i ty p q v ho
    split at h
    · rename_i hd'
      obtain ⟨pa, h1, h2⟩ := evK_ok h
      obtain ⟨qa, h3, h4⟩ := evK_ok h2
      obtain ⟨va, h5, h6⟩ := evK_ok h4
      obtain ⟨m', h7, h8⟩ := updK_ok hτ h6
      simp only [ho, hd', h1, h3, h5, h7]
      exact h8
    · exact h.elim
  · rename_i op h1 h2 h3'
    split at h
    · rename_i d hd'
      obtain ⟨x, m', h3, h4⟩ := opK_ok hτ h
      rw [hd'] at hd
      simp only [okO] at hd
      split
      · rename_i ho; exact absurd ho (h1 _ _ _)
      · rename_i ho; exact absurd ho (h2 _ _ _)
      · rename_i ho; exact absurd ho (h3' _ _ _ _)
      · simp only [hd', hd, h3]
        exact tsetK_ok h4
    · exact h.elim

def guardC (ds : List (Nat × Bool)) (ops : Array Oper) (o : Oper) (t : List (Nat × AV)) (kT kF : List (Nat × Bool) → List (Nat × AV) → Prop) : Prop :=
  match o.guard with
  | none => kT ds t
  | some (j, want) => match (ops[j]?).bind (·.dst) with
    | some d => tgetK d (fun x => match x with
      | .c (.sc (.bool b)) => match decOf d ds with
        | none => (match want with
          | true => Fork b (tsetK d (.c (.sc (.bool true))) t (kT ((d, true) :: ds))) (tsetK d (.c (.sc (.bool false))) t (kF ((d, false) :: ds)))
          | false => Fork b (tsetK d (.c (.sc (.bool true))) t (kF ((d, true) :: ds))) (tsetK d (.c (.sc (.bool false))) t (kT ((d, false) :: ds))))
        | some true => (match b with
          | true => (match want with
            | true => kT ds t
            | false => kF ds t)
          | false => False)
        | some false => (match b with
          | false => (match want with
            | true => kF ds t
            | false => kT ds t)
          | true => False)
      | .tup [] => kF ds t
      | _ => False) t
    | none => False

theorem tset_same : ∀ {t : List (Nat × AV)} {d : Nat} {x : AV}, tget t d = some x → tset t d x = t
  | [], _, _, h => by cases h
  | (s, y) :: r, d, x, h => by
    simp only [tget] at h
    simp only [tset]
    split at h
    · rename_i e; simp at h; rw [if_pos e, h, e]
    · rename_i e; rw [if_neg e, tset_same h]

theorem guardC_ok {ds : List (Nat × Bool)} {ops : Array Oper} {o : Oper} {t : List (Nat × AV)} {m : Mem} {kT kF : List (Nat × Bool) → List (Nat × AV) → Prop} {kT' kF' : St → Prop} (h : guardC ds ops o t kT kF) (hT : ∀ ds t, kT ds t → kT' ⟨t, m⟩) (hF : ∀ ds t, kF ds t → kF' ⟨t, m⟩) : guardK ops o ⟨t, m⟩ kT' kF' := by
  unfold guardC at h
  unfold guardK
  split at h
  · rename_i hg; simp only [hg]; exact hT _ _ h
  · rename_i j want hg
    simp only [hg]
    split at h
    · rename_i d hd
      simp only [hd]
      obtain ⟨x, h1, h2⟩ := tgetK_ok h
      split at h2
      · rename_i b
        simp only [h1]
        split at h2
        · split at h2
          · exact ⟨fun e => hT _ _ (tsetK_ok (h2.yes e)), fun e => hF _ _ (tsetK_ok (h2.no e))⟩
          · exact ⟨fun e => hT _ _ (tsetK_ok (h2.no e)), fun e => hF _ _ (tsetK_ok (h2.yes e))⟩
        · split at h2
          · have e := tset_same h1
            split at h2
            · exact ⟨fun _ => by rw [e]; exact hT _ _ h2, fun e => by simp at e⟩
            · exact ⟨fun e => by simp at e, fun _ => by rw [show (!false) = true from rfl, e]; exact hF _ _ h2⟩
          · exact h2.elim
        · split at h2
          · have e := tset_same h1
            split at h2
            · exact ⟨fun e => by simp at e, fun _ => by rw [show (!true) = false from rfl, e]; exact hF _ _ h2⟩
            · exact ⟨fun _ => by rw [e]; exact hT _ _ h2, fun e => by simp at e⟩
          · exact h2.elim
      · simp only [h1]
        exact hF _ _ h2
      · exact h2.elim
    · exact h.elim

abbrev RK := List (Nat × Bool) → List (Nat × AV) → Mem → Prop
abbrev RL := List (Nat × Bool) → List (Nat × AV) → Mem → List (Nat × Lab) → Prop
/-! What comes behind is handed on as one closed term: so the kernel compares it once. -/
def bumpK (m : Mem) (k : Mem → Prop) : Prop := match m with
  | ⟨o, nx, []⟩ => k ⟨o, nx, []⟩
  | ⟨o, nx, _ :: _⟩ => k ⟨o, nx + 1, []⟩
theorem bumpK_ok {m : Mem} {k : Mem → Prop} (h : bumpK m k) : k (bump m) := by
  obtain ⟨o, nx, us⟩ := m
  cases us <;> exact h
def freshK (d : Option Nat) (m : Mem) (k : Prop) : Prop := match memO d m.us with
  | false => k
  | true => False
theorem freshK_ok {d : Option Nat} {m : Mem} {k : Prop} (h : freshK d m k) : memO d m.us = false ∧ k := by
  unfold freshK at h
  split at h
  · rename_i e; exact ⟨e, h⟩
  · exact h.elim
def dropL (k : List (Nat × AV) → Mem → Prop) : LK := fun t m _ => k t m
def goC (τ : List (Nat × TI)) (CK : Nat → KT) (o : Oper) (m : Mem) (rest : RK) (ds : List (Nat × Bool)) (t : List (Nat × AV)) : Prop := freshK o.dst m (stepC ds τ CK o t m (dropL (rest ds)))
def skC (o : Oper) (m : Mem) (rest : RK) (ds : List (Nat × Bool)) (t : List (Nat × AV)) : Prop := dropK o.dst t fun t => rest ds t m
def runB (dr : Bool) (ops : Array Oper) (o : Oper) (kT kF : Mem → List (Nat × Bool) → List (Nat × AV) → Prop) (ds : List (Nat × Bool)) (t : List (Nat × AV)) (m : Mem) : Prop := match dr with
  | true => guardC ds ops o t (kT m) (kF m)
  | false => bumpK m fun m => guardC ds ops o t (kT m) (kF m)
def runC (τ : List (Nat × TI)) (CK : Nat → KT) (ops : Array Oper) (dr : Bool) (k : List (Nat × AV) → Mem → Prop) : List Oper → RK
  | [] => fun _ t m => k t m
  | o :: l => runB dr ops o (fun m => goC τ CK o m (runC τ CK ops dr k l)) (fun m => skC o m (runC τ CK ops dr k l))

def recK (i : Nat) (ls : List (Nat × Lab)) (k : List (Nat × AV) → Mem → List (Nat × Lab) → Prop) : LK := fun t m ℓ => forceLab ℓ fun ℓ => match isNo ℓ with
  | true => k t m ls
  | false => k t m ((i, ℓ) :: ls)
def goL (τ : List (Nat × TI)) (CK : Nat → KT) (i : Nat) (o : Oper) (m : Mem) (ls : List (Nat × Lab)) (rest : RL) (ds : List (Nat × Bool)) (t : List (Nat × AV)) : Prop := freshK o.dst m (stepS ds τ CK o t m (recK i ls (rest ds)))
def skL (o : Oper) (m : Mem) (ls : List (Nat × Lab)) (rest : RL) (ds : List (Nat × Bool)) (t : List (Nat × AV)) : Prop := dropK o.dst t fun t => rest ds t m ls
def runL (τ : List (Nat × TI)) (CK : Nat → KT) (ops : Array Oper) (np : List (Nat × Nat)) (k : List (Nat × AV) → Mem → Prop) : Nat → List Oper → RL
  | _, [] => fun _ t m ls => match npOk ls np with
    | true => k t m
    | false => False
  | i, o :: l => fun ds t m ls => guardC ds ops o t (goL τ CK i o m ls (runL τ CK ops np k (i + 1) l)) (skL o m ls (runL τ CK ops np k (i + 1) l))

theorem stepK_mono {qc : Nat → Bool} {N : Nat} {o : Oper} {σ : St} {k k' : St → Lab → Prop} (hk : ∀ σ ℓ, k σ ℓ → k' σ ℓ) (h : stepK P (callK P qc) N o σ k) : stepK P (callK P qc) N o σ k' := by
  unfold stepK at h ⊢
  split at h
  · rename_i ho
    split at h
    · rename_i hd
      split at h
      · rename_i h1 h2 h3
        split at h
        · rename_i h4
          exact hk _ _ h
        · exact h.elim
      · exact h.elim
    · exact h.elim
  · split at h
    · exact ⟨h.1, callK_mono (fun r m ℓ h => hk _ _ h) h.2⟩
    · exact h.elim
  · split at h
    · split at h
      · split at h
        · exact hk _ _ h
        · exact h.elim
      · exact h.elim
    · exact h.elim
  · split at h
    · split at h
      · exact hk _ _ h
      · exact h.elim
    · exact h.elim
theorem guardK_mono {ops : Array Oper} {o : Oper} {σ : St} {kT kF kT' kF' : St → Prop} (h1 : ∀ σ, kT σ → kT' σ) (h2 : ∀ σ, kF σ → kF' σ) (h : guardK ops o σ kT kF) : guardK ops o σ kT' kF' := by
  unfold guardK at h ⊢
  split at h
  · exact h1 _ h
  · split at h
    · split at h
      · exact ⟨fun e => h1 _ (h.1 e), fun e => h2 _ (h.2 e)⟩
      · exact h2 _ h
      · exact h.elim
    · exact h.elim
theorem evalOps_mono {qc : Nat → Bool} {N : Nat} {ops : Array Oper} {dr : Bool} : ∀ (l : List Oper) {n : Nat} {ls : List (Nat × Lab)} {σ : St} {k k' : List (Nat × Lab) → St → Prop}, (∀ ls σ, k ls σ → k' ls σ) → evalOps P (callK P qc) N ops dr n l ls σ k → evalOps P (callK P qc) N ops dr n l ls σ k'
  | [], _, _, _, _, _, hk, h => hk _ _ h
  | o :: l, n, ls, σ, k, k', hk, h => by
    unfold evalOps at h ⊢
    exact guardK_mono (fun σ h => ⟨h.1, stepK_mono (fun σ ℓ h => evalOps_mono l hk h) h.2⟩) (fun σ h => ⟨h.1, evalOps_mono l hk h.2⟩) h

theorem runC_ok (hτ : TyOk P τ) {qc : Nat → Bool} {CK : Nat → KT} (hCK : ∀ f args d m k, CK f args d m k → callK P qc f args d m k) {N : Nat} {ops : Array Oper} {dr : Bool} : ∀ {l : List Oper} (_ : ∀ o ∈ l, okO o.dst N = true) {n : Nat} {ls : List (Nat × Lab)} {ds : List (Nat × Bool)} {t : List (Nat × AV)} {m : Mem} {k : List (Nat × AV) → Mem → Prop}, runC τ CK ops dr k l ds t m → evalOps P (callK P qc) N ops dr n l ls ⟨t, m⟩ (fun _ σ => k σ.t σ.m)
  | [], hd, n, ls, ds, t, m, k, h => h
  | o :: l, hd, n, ls, ds, t, m, k, h => by
    have key : ∀ m, guardC ds ops o t (goC τ CK o m (runC τ CK ops dr k l)) (skC o m (runC τ CK ops dr k l)) → guardK ops o ⟨t, m⟩ (fun σ => memO o.dst σ.m.us = false ∧ stepK P (callK P qc) N o σ fun σ' ℓ => evalOps P (callK P qc) N ops dr (n + 1) l (recL n ℓ ls) σ' fun _ σ => k σ.t σ.m)
      (fun σ => okO o.dst N = true ∧ evalOps P (callK P qc) N ops dr (n + 1) l ls ⟨delO o.dst σ.t, σ.m⟩ fun _ σ => k σ.t σ.m) := fun m h => by
      refine guardC_ok h (fun ds t h => ?_) (fun ds t h => ?_)
      · obtain ⟨h1, h2⟩ := freshK_ok h
        exact ⟨h1, stepK_mono (fun σ ℓ h => runC_ok hτ hCK (fun o ho => hd o (by simp [ho])) h) (stepC_ok hτ hCK (hd o (by simp)) h2)⟩
      · exact ⟨hd o (by simp), runC_ok hτ hCK (fun o ho => hd o (by simp [ho])) (dropK_ok h)⟩
    unfold runC runB at h
    unfold evalOps
    cases dr with
    | true => exact key _ h
    | false => exact key _ (bumpK_ok h)

theorem runL_ok (hτ : TyOk P τ) {qc : Nat → Bool} {CK : Nat → KT} (hCK : ∀ f args d m k, CK f args d m k → callK P qc f args d m k) {N : Nat} {ops : Array Oper} {np : List (Nat × Nat)} : ∀ {l : List Oper} (_ : ∀ o ∈ l, okO o.dst N = true) {n : Nat} {ls : List (Nat × Lab)} {ds : List (Nat × Bool)} {t : List (Nat × AV)} {m : Mem} {k : List (Nat × AV) → Mem → Prop}, runL τ CK ops np k n l ds t m ls → evalOps P (callK P qc) N ops true n l ls ⟨t, m⟩ (fun ls σ => npOk ls np = true ∧ k σ.t σ.m)
  | [], hd, n, ls, ds, t, m, k, h => by
    unfold runL at h
    split at h
    · rename_i e; exact ⟨e, h⟩
    · exact h.elim
  | o :: l, hd, n, ls, ds, t, m, k, h => by
    unfold runL at h
    unfold evalOps
    refine guardC_ok h (fun ds t h => ?_) (fun ds t h => ?_)
    · obtain ⟨h1, h2⟩ := freshK_ok h
      refine ⟨h1, stepK_mono (fun σ ℓ h => runL_ok hτ hCK (ds := ds) (fun o ho => hd o (by simp [ho])) ?_) (stepC_ok hτ hCK (hd o (by simp)) (stepS_C h2))⟩
      have h := forceLab_ok h
      unfold recL
      split at h
      · rename_i e; simp only [e]; exact h
      · rename_i e; simp only [e]; exact h
    · exact ⟨hd o (by simp), runL_ok hτ hCK (fun o ho => hd o (by simp [ho])) (dropK_ok h)⟩

/-! ### Code -/

abbrev TK := List (Nat × AV) → Mem → Prop
def seqQ (B : TK) (Q : Exit → TK) : Exit → TK
  | .normal => B
  | e => Q e
def blockQ (id : Nat) (Q : Exit → TK) : Exit → TK
  | .exit i => (match Nat.beq i id with
    | true => Q .normal
    | false => Q (.exit i))
  | e => Q e
def scopeQ (Q : Exit → TK) : Exit → TK
  | .goto _ => fun _ _ => False
  | e => Q e
def condK (c : Operand) (A B : TK) : TK := fun t m => evK t c fun x => match x with
  | .c (.sc (.bool z)) => Fork z (A t m) (B t m)
  | _ => False
def drawC (τ : List (Nat × TI)) (CK : Nat → KT) (ops : Array Oper) (l : List (Nat × Nat)) (Q : TK) : TK := match l with
  | [] => fun t m => bumpK m fun m => runC τ CK ops true Q ops.toList [] t m
  | a :: r => fun t m => bumpK m fun m => runL τ CK ops (a :: r) Q 0 ops.toList [] t m []
def awpC (τ : List (Nat × TI)) (np : NPT) (CK : Nat → KT) : Code → (Exit → TK) → TK
  | .skip, Q => Q .normal
  | .label _, Q => Q .normal
  | .region id ops draw, Q => (match draw with
    | true => drawC τ CK ops (npF np id) (Q .normal)
    | false => runC τ CK ops false (Q .normal) ops.toList [])
  | .seq a b, Q => awpC τ np CK a (seqQ (awpC τ np CK b Q) Q)
  | .cond c a b, Q => condK c (awpC τ np CK a Q) (awpC τ np CK b Q)
  | .block id c, Q => awpC τ np CK c (blockQ id Q)
  | .loop c, Q => fun t m => ∃ (X : Type) (I : X → List (Nat × AV) × Mem) (inv : X → Prop) (μ : X → Nat) (x0 : X), inv x0 ∧ Shift ⟨(I x0).1, (I x0).2⟩ ⟨t, m⟩ ∧
      ∀ x, inv x → awpC τ np CK c (fun e t m => match e with | .normal => ∃ x', inv x' ∧ Shift ⟨(I x').1, (I x').2⟩ ⟨t, m⟩ ∧ μ x' < μ x | e => Q e t m) (I x).1 (I x).2
  | .exit id, Q => Q (.exit id)
  | .ret, Q => Q .ret
  | .scope c, Q => awpC τ np CK c (scopeQ Q)
  | _, _ => fun _ _ => False

def codeOk (qc : Nat → Bool) (np : NPT) (N : Nat) : Code → Bool
  | .region id ops draw => (match draw with | true => lexS qc (npF np id) ops | false => true) && ops.toList.all (fun o => okO o.dst N)
  | .seq a b => codeOk qc np N a && codeOk qc np N b
  | .cond _ a b => codeOk qc np N a && codeOk qc np N b
  | .block _ c => codeOk qc np N c
  | .loop c => codeOk qc np N c
  | .scope c => codeOk qc np N c
  | _ => true

theorem awp_mono {qc : Nat → Bool} {np : NPT} {N : Nat} : ∀ {c : Code} {Q Q' : Exit → St → Prop} {σ : St}, (∀ e σ, Q e σ → Q' e σ) → awp P qc np (callK P qc) N c Q σ → awp P qc np (callK P qc) N c Q' σ := by
  intro c
  induction c with
  | skip => intro Q Q' σ hk h; exact hk _ _ h
  | label l => intro Q Q' σ hk h; exact hk _ _ h
  | exit id => intro Q Q' σ hk h; exact hk _ _ h
  | ret => intro Q Q' σ hk h; exact hk _ _ h
  | region id ops draw =>
    intro Q Q' σ hk h
    cases draw with
    | true => exact ⟨h.1, evalOps_mono _ (fun ls σ h => ⟨h.1, hk _ _ h.2⟩) h.2⟩
    | false => exact evalOps_mono _ (fun ls σ h => hk _ _ h) h
  | seq x y ihx ihy =>
    intro Q Q' σ hk h
    refine ihx (fun e σ h => ?_) h
    cases e with
    | normal => exact ihy hk h
    | _ => exact hk _ _ h
  | cond c t e iht ihe =>
    intro Q Q' σ hk h
    unfold awp at h ⊢
    split at h
    · exact ⟨fun e => iht hk (h.1 e), fun e => ihe hk (h.2 e)⟩
    · exact h.elim
  | block id c ih =>
    intro Q Q' σ hk h
    refine ih (fun e σ h => ?_) h
    cases e with
    | exit i =>
      simp only at h ⊢
      split at h
      · rename_i hi; rw [if_pos hi]; exact hk _ _ h
      · rename_i hi; rw [if_neg hi]; exact hk _ _ h
    | _ => exact hk _ _ h
  | loop c ih =>
    intro Q Q' σ hk h
    obtain ⟨X, I, inv, μ, x0, h0, hs, hround⟩ := h
    refine ⟨X, I, inv, μ, x0, h0, hs, fun x hx => ih (fun e σ h => ?_) (hround x hx)⟩
    cases e with
    | normal => exact h
    | _ => exact hk _ _ h
  | rangeFunc f p a b _ _ => intro Q Q' σ hk h; exact h.elim
  | scope c ih =>
    intro Q Q' σ hk h
    refine ih (fun e σ h => ?_) h
    cases e with
    | goto l => exact h
    | _ => exact hk _ _ h
  | goto l => intro Q Q' σ hk h; exact h.elim
  | refuse s => intro Q Q' σ hk h; exact h.elim

theorem awpC_ok (hτ : TyOk P τ) {qc : Nat → Bool} {np : NPT} {CK : Nat → KT} (hCK : ∀ f args d m k, CK f args d m k → callK P qc f args d m k) {N : Nat} : ∀ {c : Code} (_ : codeOk qc np N c = true) {Q : Exit → List (Nat × AV) → Mem → Prop} {t : List (Nat × AV)} {m : Mem}, awpC τ np CK c Q t m → awp P qc np (callK P qc) N c (fun e σ => Q e σ.t σ.m) ⟨t, m⟩ := by
  intro c
  induction c with
  | skip => intro _ Q t m h; exact h
  | label l => intro _ Q t m h; exact h
  | exit id => intro _ Q t m h; exact h
  | ret => intro _ Q t m h; exact h
  | region id ops draw =>
    intro hc Q t m h
    simp only [codeOk, Bool.and_eq_true, List.all_eq_true] at hc
    cases draw with
    | false => exact runC_ok hτ hCK hc.2 h
    | true =>
      refine ⟨hc.1, ?_⟩
      have h : drawC τ CK ops (npF np id) (Q .normal) t m := h
      have hlen : evalOps P (callK P qc) N ops true 0 ops.toList [] ⟨t, bump m⟩ (fun ls σ => npOk ls (npF np id) = true ∧ Q .normal σ.t σ.m) := by
        generalize npF np id = l at h
        cases l with
        | nil => exact evalOps_mono _ (fun ls σ h => ⟨rfl, h⟩) (runC_ok hτ hCK hc.2 (bumpK_ok h))
        | cons a r => exact runL_ok hτ hCK hc.2 (bumpK_ok (k := fun m => runL τ CK ops (a :: r) (Q .normal) 0 ops.toList [] t m []) h)
      exact hlen
  | seq x y ihx ihy =>
    intro hc Q t m h
    simp only [codeOk, Bool.and_eq_true] at hc
    show awp P qc np (callK P qc) N x _ _
    refine awp_mono (fun e σ h => ?_) (ihx hc.1 h)
    cases e with
    | normal => exact ihy hc.2 h
    | _ => exact h
  | cond c a b iha ihb =>
    intro hc Q t m h
    simp only [codeOk, Bool.and_eq_true] at hc
    unfold awpC condK at h
    unfold awp
    obtain ⟨x, h1, h2⟩ := evK_ok h
    split at h2
    · simp only [h1]
      exact ⟨fun e => iha hc.1 (h2.yes e), fun e => ihb hc.2 (h2.no e)⟩
    · exact h2.elim
  | block id c ih =>
    intro hc Q t m h
    show awp P qc np (callK P qc) N c _ _
    refine awp_mono (fun e σ h => ?_) (ih hc h)
    cases e with
    | exit i =>
      simp only [blockQ] at h ⊢
      cases hi : Nat.beq i id with
      | true => rw [hi] at h; rw [if_pos (natBeq hi)]; exact h
      | false => rw [hi] at h; rw [if_neg (natBeqF hi)]; exact h
    | _ => exact h
  | loop c ih =>
    intro hc Q t m h
    obtain ⟨X, I, inv, μ, x0, h0, hs, hround⟩ := h
    refine ⟨X, fun x => ⟨(I x).1, (I x).2⟩, inv, μ, x0, h0, hs, fun x hx => awp_mono (fun e σ h => ?_) (ih hc (hround x hx))⟩
    cases e with
    | normal => exact h
    | _ => exact h
  | rangeFunc f p a b _ _ => intro _ Q t m h; exact h.elim
  | scope c ih =>
    intro hc Q t m h
    show awp P qc np (callK P qc) N c _ _
    refine awp_mono (fun e σ h => ?_) (ih hc h)
    cases e with
    | goto l => exact h
    | _ => exact h
  | goto l => intro _ Q t m h; exact h.elim
  | refuse s => intro _ Q t m h; exact h.elim

/-! ### Results -/

def resK (τ : List (Nat × TI)) (t : List (Nat × AV)) (m : Mem) : List ResultVar → (List AV → Prop) → Prop
  | [], k => k []
  | .tmp a :: r, k => tgetK a (fun x => resK τ t m r fun l => k (x :: l)) t
  | .cell a T :: r, k => tgetK a (fun p => tyK T (fun ti => loadK ti m p fun x => resK τ t m r fun l => k (x :: l)) τ) t
theorem resK_ok (hτ : TyOk P τ) {t : List (Nat × AV)} {m : Mem} : ∀ {rs : List ResultVar} {k : List AV → Prop}, resK τ t m rs k → ∃ l, resF P ⟨t, m⟩ rs = some l ∧ k l
  | [], k, h => ⟨[], rfl, h⟩
  | .tmp a :: r, k, h => by
    obtain ⟨x, h1, h2⟩ := tgetK_ok h
    obtain ⟨l, h3, h4⟩ := resK_ok hτ h2
    exact ⟨_, by simp only [resF, h1, h3], h4⟩
  | .cell a T :: r, k, h => by
    obtain ⟨p, h1, h2⟩ := tgetK_ok h
    obtain ⟨ti, h3, h4⟩ := tyK_ok hτ h2
    obtain ⟨x, h5, h6⟩ := loadK_ok h4
    obtain ⟨l, h7, h8⟩ := resK_ok hτ h6
    exact ⟨_, by simp only [resF, h1, h3, h5, h7], h8⟩

def purA1K (m : Mem) : AV → (AV → Mem → Prop) → Prop
  | .c (.fn f caps), k => purLK m caps fun l m' => k (.c (.fn f l)) m'
  | .c (.sc v), k => k (.c (nrm v)) m
  | .c (.lst es), k => k (.c (.lst es)) m
  | .c (.full es), k => k (.c (.lst es)) m
  | .c (.view o lo n), k => purK m (.view o lo n) fun c m' => k (.c c) m'
  | .agg cs, k => purLK m cs fun l m' => k (.agg l) m'
  | _, _ => False
theorem purA1K_ok {m : Mem} {x : AV} {k : AV → Mem → Prop} (h : purA1K m x k) : ∃ y m', purA1 m x = some (y, m') ∧ k y m' := by
  unfold purA1K at h
  split at h
  · obtain ⟨l, m', h1, h2⟩ := purLK_ok h
    exact ⟨_, _, by simp only [purA1, h1], h2⟩
  · exact ⟨_, _, rfl, h⟩
  · exact ⟨_, _, rfl, h⟩
  · exact ⟨_, _, rfl, h⟩
  · obtain ⟨c, m', h1, h2⟩ := purK_ok h
    exact ⟨_, _, by simp only [purA1, h1], h2⟩
  · obtain ⟨l, m', h1, h2⟩ := purLK_ok h
    exact ⟨_, _, by simp only [purA1, h1], h2⟩
  · exact h.elim
def purAsK (m : Mem) : List AV → (List AV → Mem → Prop) → Prop
  | [], k => k [] m
  | x :: r, k => purA1K m x fun y m1 => purAsK m1 r fun l m2 => k (y :: l) m2
theorem purAsK_ok : ∀ {l : List AV} {m : Mem} {k : List AV → Mem → Prop}, purAsK m l k → ∃ l' m', purAs m l = some (l', m') ∧ k l' m'
  | [], m, k, h => ⟨[], m, rfl, h⟩
  | x :: r, m, k, h => by
    obtain ⟨y, m1, h1, h2⟩ := purA1K_ok h
    obtain ⟨l, m2, h3, h4⟩ := purAsK_ok h2
    exact ⟨_, _, by simp only [purAs, h1, h3], h4⟩

def initK (l : List AV) (k : List (Nat × AV) → Prop) : Prop := go l 0 k
where go : List AV → Nat → (List (Nat × AV) → Prop) → Prop
  | [], _, k => k []
  | x :: r, i, k => go r (i + 1) fun l => k ((i, x) :: l)
theorem initK_go : ∀ {l : List AV} {i : Nat} {k : List (Nat × AV) → Prop}, initK.go l i k → k (initT l i)
  | [], _, _, h => h
  | x :: r, i, k, h => initK_go (l := r) (i := i + 1) (k := fun l => k ((i, x) :: l)) h

/-- A FUNCTION IS RIGHT if its code is, in the strict evaluator. -/
theorem does_of {f : Nat} {fn : Func} {c : Code} {rs : Array ResultVar} {qc : Nat → Bool} {np : NPT} {CK : Nat → KT} (hm : P.follows .mixedOrders = true) (hf : P.funcs[f]? = some fn) (hname : (fn.name == "runtime.NumGoroutine") = false) (hb : fn.body = some c) {N : Nat} (hn : fn.ntmps = N) (hrs : fn.results = rs) (hτ : TyOk P τ)
    (hcode : codeOk qc np N c = true) {args : List AV} {r : AV} (hCK : ∀ f args d m k, CK f args d m k → callK P qc f args d m k) (hsz : args.length ≤ N)
    (h : initK args fun t => awpC τ np CK c (fun e t m => match e with
      | .normal => resK τ t m rs.toList fun l => purAsK m l fun l _ => r = oneOf l
      | .ret => resK τ t m rs.toList fun l => purAsK m l fun l _ => r = oneOf l
      | _ => False) t ⟨[], 0, []⟩) : Does P f args r := by
  refine spec_of (qc := qc) (np := np) (CK := callK P qc) hm hf hname hb hn (fun _ _ _ _ _ h => h) hsz ?_
  refine awp_mono (fun e σ h => ?_) (awpC_ok hτ hCK hcode (initK_go h))
  subst hrs
  cases e with
  | normal =>
    obtain ⟨l, h1, h2⟩ := resK_ok hτ h
    obtain ⟨l', m', h3, h4⟩ := purAsK_ok h2
    exact ⟨trivial, l, l', m', h1, h3, h4⟩
  | ret =>
    obtain ⟨l, h1, h2⟩ := resK_ok hτ h
    obtain ⟨l', m', h3, h4⟩ := purAsK_ok h2
    exact ⟨trivial, l, l', m', h1, h3, h4⟩
  | _ => exact h.elim

/-! ### What is known of callees -/

/-- What a function comes to, told as what has to hold for what comes after. -/
abbrev RT := List AV → (AV → Prop) → Prop
def FunR (P : Program) (f : Nat) (R : RT) : Prop := ∀ args k, R args k → ∃ r, Does P f args r ∧ k r

def cSc (R : RT) : KT := fun args _ m k => purAsK m args fun args' _ => R args' fun r => match scal r with
  | true => k r m ⟨idsAs args, [], false⟩
  | false => False
def cPu (R : RT) : KT := fun args _ m k => purAsK m args fun args' m' => R args' fun r => k r m' ⟨[], idsAs args, false⟩

theorem cSc_ok {f : Nat} {qc : Nat → Bool} {R : RT} (h : FunR P f R) : KOk P qc f (cSc R) := fun args d m k hk => by
  obtain ⟨l, m', h1, h2⟩ := purAsK_ok hk
  obtain ⟨r, h3, h4⟩ := h _ _ h2
  split at h4
  · rename_i e; exact callK_sc h3 ⟨_, h1⟩ e h4
  · exact h4.elim
theorem cPu_ok {f : Nat} {qc : Nat → Bool} {R : RT} (h : FunR P f R) (hq : qc f = false) : KOk P qc f (cPu R) := fun args d m k hk => by
  obtain ⟨l, m', h1, h2⟩ := purAsK_ok hk
  obtain ⟨r, h3, h4⟩ := h _ _ h2
  exact callK_pure h3 h1 hq h4

/-- Lists out, of arguments that hold no array of one's own. -/
def frozenC : Cell → Bool
  | .sc _ => true
  | .lst _ => true
  | .full _ => true
  | _ => false
def frozenA : AV → Bool
  | .c x => frozenC x
  | .agg cs => cs.all frozenC
  | .tup _ => false
def frozenL : List AV → Bool
  | [] => true
  | x :: r => match frozenA x with
    | true => frozenL r
    | false => false
theorem frozenC_ids {c : Cell} (h : frozenC c = true) : ids1 c = [] := by cases c <;> first | rfl | cases h
theorem frozenC_idsL : ∀ {l : List Cell}, l.all frozenC = true → idsL l = []
  | [], _ => rfl
  | c :: r, h => by
    simp only [List.all_cons, Bool.and_eq_true] at h
    simp only [idsL, frozenC_ids h.1, frozenC_idsL h.2, List.append_nil]
theorem frozenA_ids {x : AV} (h : frozenA x = true) : idsA x = [] := by
  cases x with
  | c x => cases x <;> first | rfl | cases h
  | agg cs => exact frozenC_idsL h
  | tup _ => rfl
theorem frozenL_ids : ∀ {l : List AV}, frozenL l = true → idsAs l = []
  | [], _ => rfl
  | x :: r, h => by
    unfold frozenL at h
    split at h
    · rename_i e; simp only [idsAs, frozenA_ids e, frozenL_ids h, List.append_nil]
    · cases h
def cPq (R : RT) : KT := fun args _ m k => match frozenL args with
  | true => purAsK m args fun args' m' => R args' fun r => k r m' noLab
  | false => False
theorem cPq_ok {f : Nat} {qc : Nat → Bool} {R : RT} (h : FunR P f R) : KOk P qc f (cPq R) := fun args d m k hk => by
  unfold cPq at hk
  split at hk
  · rename_i e
    obtain ⟨l, m', h1, h2⟩ := purAsK_ok hk
    obtain ⟨r, h3, h4⟩ := h _ _ h2
    have hl := purAs_loc h1
    rw [frozenL_ids e] at hl
    refine ⟨r, m', _, ⟨fm_updW hl.self, fun M hM _ => ?_⟩, fun _ => rfl, h4⟩
    obtain ⟨M', g, u⟩ := hl.all M fun i hi => by cases hi
    exact ⟨M', callSem_pure h3 g, fm_updW u⟩
  · exact hk.elim

/-- A table of callees. -/
def ckK : List (Nat × KT) → Nat → KT
  | [], _ => fun _ _ _ _ => False
  | (g, K) :: r, f => match Nat.beq f g with
    | true => K
    | false => ckK r f
theorem ckK_ok {qc : Nat → Bool} : ∀ {l : List (Nat × KT)}, KsOk P qc l → ∀ f args d m k, ckK l f args d m k → callK P qc f args d m k
  | [], _, _, _, _, _, _, h => h.elim
  | (g, K) :: r, ⟨h1, h2⟩, f, args, d, m, k, h => by
    cases hf : Nat.beq f g with
    | true =>
      have e : ckK ((g, K) :: r) f = K := by simp only [ckK, hf]
      rw [e] at h
      rw [natBeq hf]; exact h1 _ _ _ _ h
    | false =>
      have e : ckK ((g, K) :: r) f = ckK r f := by simp only [ckK, hf]
      rw [e] at h
      exact ckK_ok h2 f args d m k h

end
end Go.Abs
