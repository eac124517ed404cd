/- Proved here: what functions of the given program come to, and the plain laws of it; no condition but those in the theorems. -/
import Derived.Test.YtfhnicamjcfddaaGreatDoorPDisp
import Derived.Test.YtfhnicamjcfddaaGreatDoorPGate2
/- All plans of units, one after the other. No program. -/
namespace Go.Proofs
open Go Go.Abs
set_option linter.unusedSimpArgs false
set_option linter.unusedVariables false
abbrev nI (A : List Nat) : Ls := A.map Int.ofNat
def prodL : List Ls → Nat
  | [] => 1
  | l :: r => l.length * prodL r
def rk : List Ls → List Nat → Nat
  | l :: r, a :: az => (l.length - 1 - a) * prodL r + rk r az
  | _, _ => 0
def bumpA : Nat → List Nat → List Nat
  | 0, a :: az => (a + 1) :: List.replicate az.length 0
  | j + 1, a :: az => a :: bumpA j az
  | _, [] => []
theorem prodL_pos : ∀ {L : List Ls}, (∀ l ∈ L, 1 ≤ l.length) → 1 ≤ prodL L
  | [], _ => Nat.le_refl _
  | l :: r, h => Nat.mul_le_mul (h l (by simp)) (prodL_pos fun x hx => h x (by simp [hx]))
theorem rk_zero : ∀ {L : List Ls} {n : Nat}, (∀ l ∈ L, 1 ≤ l.length) → rk L (List.replicate n 0) + 1 ≤ prodL L
  | [], n, _ => by simp [rk, prodL]
  | l :: r, 0, h => by simpa [rk] using prodL_pos h
  | l :: r, n + 1, h => by
    have h1 := h l (by simp)
    have ih := rk_zero (L := r) (n := n) fun x hx => h x (by simp [hx])
    rw [List.replicate_succ, rk, prodL]
    obtain ⟨m, hm⟩ : ∃ m, l.length = m + 1 := ⟨l.length - 1, by omega⟩
    rw [hm, Nat.add_mul]
    simp
    omega
theorem rk_max : ∀ {L : List Ls} {A : List Nat}, (∀ (m : Nat) l a, L[m]? = some l → A[m]? = some a → a = l.length - 1) → rk L A = 0
  | [], _, _ => by simp [rk]
  | _ :: _, [], _ => by simp [rk]
  | l :: r, a :: az, h => by
    have h0 := h 0 l a rfl rfl
    rw [rk, rk_max fun m x y hx hy => h (m + 1) x y (by simpa using hx) (by simpa using hy), h0]
    simp
theorem rk_step : ∀ {j : Nat} {L : List Ls} {A : List Nat} {l : Ls} {a : Nat}, (∀ l ∈ L, 1 ≤ l.length) → L[j]? = some l → A[j]? = some a → a + 1 < l.length → (∀ (m : Nat) l a, j < m → L[m]? = some l → A[m]? = some a → a = l.length - 1) → rk L (bumpA j A) < rk L A
  | 0, l :: r, a :: az, l', a', h, h1, h2, h3, h4 => by
    simp at h1 h2
    subst h1 h2
    have hz := rk_zero (L := r) (n := az.length) fun x hx => h x (by simp [hx])
    have hm := rk_max (L := r) (A := az) fun m x y hx hy => h4 (m + 1) x y (by omega) (by simpa using hx) (by simpa using hy)
    rw [bumpA, rk, rk, hm]
    obtain ⟨m, hm⟩ : ∃ m, l.length - 1 - a = m + 1 := ⟨l.length - 1 - a - 1, by omega⟩
    rw [hm, show l.length - 1 - (a + 1) = m by omega, Nat.add_mul]
    omega
  | j + 1, l :: r, a :: az, l', a', h, h1, h2, h3, h4 => by
    have ih := rk_step (j := j) (L := r) (A := az) (fun x hx => h x (by simp [hx])) (by simpa using h1) (by simpa using h2) h3 fun m x y hm hx hy => h4 (m + 1) x y (by omega) (by simpa using hx) (by simpa using hy)
    rw [bumpA, rk, rk]
    omega
  | _, [], _, _, _, _, h1, _, _, _ => by simp at h1
  | _, _ :: _, [], _, _, _, _, h2, _, _ => by simp at h2
theorem bumpA_len : ∀ {j : Nat} {A : List Nat}, (bumpA j A).length = A.length
  | 0, a :: az => by simp [bumpA]
  | j + 1, a :: az => by simp [bumpA, bumpA_len (j := j)]
  | 0, [] => rfl
  | _ + 1, [] => rfl
theorem bumpA_set : ∀ {j : Nat} {A : List Nat} {a : Nat}, A[j]? = some a → (A.take (j + 1) ++ List.replicate (A.length - (j + 1)) 0).set j (a + 1) = bumpA j A
  | 0, a :: az, b, h => by simp at h; subst h; simp [bumpA]
  | j + 1, a :: az, b, h => by
    have := bumpA_set (j := j) (A := az) (a := b) (by simpa using h)
    rw [bumpA, ← this]
    simp
  | _, [], _, h => by simp at h
theorem set_zero : ∀ {j : Nat} {A : List Nat}, j < A.length → (A.take (j + 1) ++ List.replicate (A.length - (j + 1)) 0).set j 0 = A.take j ++ List.replicate (A.length - j) 0
  | 0, a :: az, _ => by simp [List.replicate_succ]
  | j + 1, a :: az, h => by
    have := set_zero (j := j) (A := az) (by simpa using h)
    simp only [List.take_succ_cons, List.length_cons, List.cons_append, List.set_cons_succ, Nat.add_sub_add_right]
    rw [this]
  | _, [], h => by simp at h
theorem nI_set (l : List Nat) (i v : Nat) : (nI l).set i (v : Int) = nI (l.set i v) := (List.map_set ..).symm
theorem bumpA_at : ∀ {j : Nat} {A : List Nat} {m b : Nat}, (bumpA j A)[m]? = some b → b = 0 ∨ (m < j ∧ A[m]? = some b) ∨ (m = j ∧ ∃ a, A[j]? = some a ∧ b = a + 1)
  | 0, a :: az, 0, b, h => by simp [bumpA] at h; subst h; exact .inr (.inr ⟨rfl, a, rfl, rfl⟩)
  | 0, a :: az, m + 1, b, h => by
    simp only [bumpA, List.getElem?_cons_succ] at h
    obtain ⟨h1, h2⟩ := List.getElem?_eq_some_iff.1 h
    rw [List.getElem_replicate] at h2
    exact .inl h2.symm
  | j + 1, a :: az, 0, b, h => by simp [bumpA] at h; subst h; exact .inr (.inl ⟨by omega, rfl⟩)
  | j + 1, a :: az, m + 1, b, h => by
    simp only [bumpA, List.getElem?_cons_succ] at h
    rcases bumpA_at h with h | ⟨h1, h2⟩ | ⟨h1, c, h2, h3⟩
    · exact .inl h
    · exact .inr (.inl ⟨by omega, by simpa using h2⟩)
    · exact .inr (.inr ⟨by omega, c, by simpa using h2, h3⟩)
  | 0, [], _, _, h => by simp [bumpA] at h
  | _ + 1, [], _, _, h => by simp [bumpA] at h
/-- The plan that is told by places. -/
def pkL : List Ls → List Nat → Ls
  | l :: r, a :: az => l.getD a 0 :: pkL r az
  | _, _ => []
theorem pkL_len : ∀ {L : List Ls} {A : List Nat}, A.length = L.length → (pkL L A).length = L.length
  | [], [], _ => rfl
  | l :: r, a :: az, h => by simp [pkL, pkL_len (L := r) (A := az) (by simpa using h)]
  | [], _ :: _, h => by simp at h
  | _ :: _, [], h => by simp at h
theorem pkL_at : ∀ {L : List Ls} {A : List Nat} {i : Nat} {l : Ls} {a : Nat}, L[i]? = some l → A[i]? = some a → (pkL L A)[i]? = some (l.getD a 0)
  | l :: r, a :: az, 0, l', a', h1, h2 => by simp at h1 h2; subst h1 h2; rfl
  | l :: r, a :: az, i + 1, l', a', h1, h2 => by
    rw [pkL, List.getElem?_cons_succ]
    exact pkL_at (by simpa using h1) (by simpa using h2)
  | [], _, _, _, _, h1, _ => by simp at h1
  | _ :: _, [], _, _, _, _, h2 => by simp at h2
theorem allG_at : ∀ {us : List Un} {ss : List Us} {g : Int} {L : List Ls}, allG us ss g = some L → us.length = ss.length → ∀ {i : Nat} {u : Un} {z : Us} {l : Ls}, us[i]? = some u → ss[i]? = some z → L[i]? = some l → l = optL u z g
  | u :: us, z :: ss, g, L, h, hn, i, u', z', l', h1, h2, h3 => by
    rw [allG] at h
    split at h
    · cases h
    split at h
    · cases h
    rename_i L' hL
    simp at h
    subst h
    cases i with
    | zero => simp at h1 h2 h3; subst h1 h2 h3; rfl
    | succ i => exact allG_at hL (by simpa using hn) (by simpa using h1) (by simpa using h2) (by simpa using h3)
  | [], _, _, _, _, _, _, _, _, _, h1, _, _ => by simp at h1
  | _ :: _, [], _, _, _, hn, _, _, _, _, _, _, _ => by simp at hn
theorem usB_at : ∀ {us : List Un} {ss : List Us}, usB us ss = true → ∀ {i : Nat} {u : Un} {z : Us}, us[i]? = some u → ss[i]? = some z → validB u z = true
  | u :: us, z :: ss, h, 0, u', z', h1, h2 => by
    simp only [usB, Bool.and_eq_true] at h
    simp at h1 h2; subst h1 h2; exact h.1
  | u :: us, z :: ss, h, i + 1, u', z', h1, h2 => by
    simp only [usB, Bool.and_eq_true] at h
    exact usB_at h.2 (by simpa using h1) (by simpa using h2)
  | [], _, _, _, _, _, h1, _ => by simp at h1
  | _ :: _, [], _, _, _, _, _, h2 => by simp at h2
/-- Places that are right. -/
structure okA (L : List Ls) (A : List Nat) : Prop where
  n : A.length = L.length
  a : ∀ (i : Nat) l a, L[i]? = some l → A[i]? = some a → a < l.length
theorem okA.zero {L : List Ls} (h : ∀ l ∈ L, 1 ≤ l.length) : okA L (List.replicate L.length 0) := ⟨by simp, fun i l a h1 h2 => by
  obtain ⟨h3, h4⟩ := List.getElem?_eq_some_iff.1 h2
  rw [List.getElem_replicate] at h4
  subst h4
  exact h l (List.mem_of_getElem? h1)⟩
theorem okA.bump {L : List Ls} {A : List Nat} {j : Nat} {l : Ls} {a : Nat} (h : okA L A) (hp : ∀ l ∈ L, 1 ≤ l.length) (h1 : L[j]? = some l) (h2 : A[j]? = some a) (h3 : a + 1 < l.length) : okA L (bumpA j A) := ⟨by rw [bumpA_len, h.n], fun i x b hx hb => by
  rcases bumpA_at hb with rfl | ⟨_, hb⟩ | ⟨rfl, c, hc, rfl⟩
  · exact hp x (List.mem_of_getElem? hx)
  · exact h.a i x b hx hb
  · rw [h1] at hx; rw [h2] at hc; cases hx; cases hc; exact h3⟩
theorem okA.may {us : List Un} {ss : List Us} {g : Int} {L : List Ls} {A : List Nat} (h : okA L A) (hL : allG us ss g = some L) (hn : us.length = ss.length) (hl : L.length = us.length) : mayL us ss (pkL L A) = true := by
  have hp := pkL_len h.n
  refine mayL_of (by omega) (by omega) fun i u z q hu hz hq => ?_
  have hi := (List.getElem?_eq_some_iff.1 hu).1
  have c1 := List.getElem?_eq_getElem (show i < L.length by omega)
  have c2 := List.getElem?_eq_getElem (show i < A.length by have := h.n; omega)
  have e := pkL_at c1 c2
  rw [hq] at e
  have ho := allG_at hL hn hu hz c1
  have hlt := h.a i _ _ c1 c2
  have : q ∈ L[i]'(by omega) := by
    rw [Option.some.inj e, List.getD_eq_getElem?_getD, List.getElem?_eq_getElem hlt]
    exact List.getElem_mem _
  rw [ho] at this
  exact (List.mem_filter.1 this).2
def R_best19 : RT := fun args k => ∃ (us : List Un) (ss : List Us) (g r : Int), args = [.c (.lst (eU us)), .c (.lst (eQ ss)), I g, I r] ∧ us.length ≤ 9223372036854775807 ∧ ss.length ≤ 9223372036854775807 ∧ (∀ u ∈ us, u.fin) ∧
  ∀ (p : Ls) (e : Int), (e = 0 → mayL us ss p = true ∧ p.sum ≤ r ∧ w19 us ss g = 0) → p.length ≤ 6 → k (.tup [.c (.lst (eL p)), I e])
end Go.Proofs

/- Steps of dams: what holds of them. No program. -/
namespace Go.Proofs
open Go Go.Abs
set_option linter.unusedSimpArgs false
set_option linter.unusedVariables false
structure Rc where
  inf : Int
  los : Int
  tur : Int
  spi : Int
  ovr : Int
  pow : Int
  sta : Int
def rcC (r : Rc) : List Cell := [IC r.inf, IC r.los, IC r.tur, IC r.spi, IC r.ovr, IC r.pow, IC r.sta]
def floR (r : Rc) : Int := r.tur + r.spi + r.ovr
theorem usB_of : ∀ {us : List Un} {ss : List Us}, (∀ (i : Nat) u z, us[i]? = some u → ss[i]? = some z → validB u z = true) → usB us ss = true
  | [], _, _ => rfl
  | _ :: _, [], _ => rfl
  | u :: us, z :: ss, h => by
    simp only [usB, Bool.and_eq_true]
    exact ⟨h 0 u z rfl rfl, usB_of fun i a b ha hb => h (i + 1) a b (by simpa using ha) (by simpa using hb)⟩
theorem gsB_of : ∀ {gs : List Gt} {ss : List Gs}, badS gs ss = false → gsB gs ss = true
  | [], _, _ => rfl
  | _ :: _, [], _ => rfl
  | g :: gs, z :: ss, h => by
    rw [badS] at h
    split at h
    · cases h
    rename_i e
    simp only [gsB, Bool.and_eq_true]
    exact ⟨by simpa using e, gsB_of h⟩
theorem gsB_bad : ∀ {gs : List Gt} {ss : List Gs}, gsB gs ss = true → badS gs ss = false
  | [], _, _ => rfl
  | _ :: _, [], _ => rfl
  | g :: gs, z :: ss, h => by
    simp only [gsB, Bool.and_eq_true] at h
    rw [badS, if_neg (by simp [h.1])]
    exact gsB_bad h.2
theorem mayL_sum : ∀ {us : List Un} {ss : List Us} {qs : Ls}, mayL us ss qs = true → 0 ≤ qs.sum
  | [], [], [], _ => by simp
  | u :: us, z :: ss, q :: qs, h => by
    simp only [mayL, Bool.and_eq_true] at h
    have a := mayV_q h.1
    have b := mayL_sum h.2
    rw [List.sum_cons]
    omega
  | [], [], _ :: _, h => by simp [mayL] at h
  | [], _ :: _, _, h => by simp [mayL] at h
  | _ :: _, [], _, h => by simp [mayL] at h
  | _ :: _, _ :: _, [], h => by simp [mayL] at h
theorem may_next {u : Un} {z : Us} {q : Int} (h : mayV u z q = true) : validB u (nextS u z q).1 = true := by
  simp only [mayV, validB, Bool.and_eq_true, decide_eq_true_eq] at h
  simp only [validB, Bool.and_eq_true, decide_eq_true_eq]
  exact ⟨h.1.1, fit_next h.1.1 h.1.2 h.2⟩
/-- What a step of a dam answers. -/
structure stepD (d : Dm) (s : Dt) (inf : Int) (s' : Dt) (r : Rc) : Prop where
  v0 : validD d s = true
  v : validD d s' = true
  i : 0 ≤ inf ∧ inf ≤ 1073741824
  q : 0 ≤ floR r
  w : s'.vol + floR r ≤ s.vol + inf
  fi : r.inf = inf
  rs : 0 ≤ r.tur ∧ 0 ≤ r.spi ∧ 0 ≤ r.ovr
theorem validD_at {d : Dm} {s : Dt} (h : validD d s = true) : ckD d = 0 ∧ (0 ≤ s.vol ∧ s.vol ≤ valC d.r.st d.r.crest) ∧ (0 ≤ s.rel ∧ s.rel ≤ 1073741824) ∧ s.us.length = d.us.length ∧ s.gs.length = d.gs.length ∧ usB d.us s.us = true ∧ gsB d.gs s.gs = true := by
  simp only [validD, fitD, inB, Bool.and_eq_true, decide_eq_true_eq] at h
  exact ⟨h.1, h.2.1.1.1.1.1, h.2.1.1.1.1.2, h.2.1.1.1.2, h.2.1.1.2, h.2.1.2, h.2.2⟩
theorem validD_of {d : Dm} {s : Dt} (h1 : ckD d = 0) (h2 : 0 ≤ s.vol ∧ s.vol ≤ valC d.r.st d.r.crest) (h3 : 0 ≤ s.rel ∧ s.rel ≤ 1073741824) (h4 : s.us.length = d.us.length) (h5 : s.gs.length = d.gs.length) (h6 : usB d.us s.us = true) (h7 : gsB d.gs s.gs = true) : validD d s = true := by
  simp only [validD, fitD, inB, Bool.and_eq_true, decide_eq_true_eq]
  exact ⟨h1, ⟨⟨⟨⟨h2, h3⟩, h4⟩, h5⟩, h6⟩, h7⟩
theorem validD_fin {d : Dm} {s : Dt} (h : validD d s = true) : s.fin := by
  obtain ⟨h1, _, _, h4, h5, _, _⟩ := validD_at h
  have a := (ckD_ok h1).n
  have b := (ckD_ok h1).m
  exact ⟨by omega, by omega⟩
def restU (z : Us) : Us := ⟨0, if 0 < z.fl then 1 else (if z.si + 1 < 1000 then z.si + 1 else 1000), z.ot⟩
theorem rest_ok {u : Un} {z : Us} (h : validB u z = true) : validB u (restU z) = true := by
  simp only [validB, Bool.and_eq_true, decide_eq_true_eq] at h ⊢
  have := fit_si h.2
  refine ⟨h.1, ?_⟩
  have hsi : 0 ≤ (restU z).si ∧ (restU z).si ≤ 1000 := by
    unfold restU
    dsimp only
    split
    · omega
    · split <;> omega
  have hfl : (restU z).fl = 0 := rfl
  unfold fitB
  rw [hfl]
  simp [inB, hsi]
def R_dun : RT := fun args k => ∃ (d : Dm) (s : Dt) (w : Int), args = [.agg (dmC d), .agg (dtC s), I w] ∧ validD d s = true ∧ d.fin ∧ 0 ≤ w ∧ ∀ (us' : List Us) (q p c : Int), us'.length = d.us.length → usB d.us us' = true → (0 ≤ q ∧ q ≤ w) → k (.tup [.c (.lst (eQ us')), I q, I p, I c])
def R_dst : RT := fun args k => ∃ (d : Dm) (s : Dt) (inf los rel : Int), args = [.agg (dmC d), .agg (dtC s), I inf, I los, I rel] ∧ d.fin ∧ s.fin ∧ ∀ (s' : Dt) (r : Rc) (e : Int), s'.fin → (e = 0 → stepD d s inf s' r) → k (.tup [.agg (dtC s'), .agg (rcC r), I e])
def R_dfl : RT := fun args k => ∃ r : Rc, args = [.agg (rcC r)] ∧ (0 ≤ r.tur ∧ 0 ≤ r.spi ∧ 0 ≤ r.ovr) ∧ floR r ≤ 1099511627776 ∧ k (I (floR r))
end Go.Proofs

/- Dams that decks make. No program. -/
namespace Go.Proofs
open Go Go.Abs
set_option linter.unusedSimpArgs false
set_option linter.unusedVariables false
theorem kBo {k : AV → Prop} {a b : Bool} (h : k (Bo a)) (e : a = b) : k (Bo b) := e ▸ h
structure mkUs (us : List Un) (ss : List Us) : Prop where
  l : us.length = ss.length
  u : ∀ u ∈ us, mkU u
  s : usB us ss = true
theorem usB_snoc : ∀ {us : List Un} {ss : List Us} {u : Un} {z : Us}, us.length = ss.length → usB us ss = true → validB u z = true → usB (us ++ [u]) (ss ++ [z]) = true
  | [], [], u, z, _, _, h => by simp [usB, h]
  | a :: us, b :: ss, u, z, hl, hb, h => by
    simp only [usB, Bool.and_eq_true] at hb
    simp only [List.cons_append, usB, Bool.and_eq_true]
    exact ⟨hb.1, usB_snoc (by simpa using hl) hb.2 h⟩
  | [], _ :: _, _, _, hl, _, _ => by simp at hl
  | _ :: _, [], _, _, hl, _, _ => by simp at hl
theorem mkUs.snoc {us : List Un} {ss : List Us} {u : Un} {z : Us} (h : mkUs us ss) (hu : mkU u) (hz : mkS u z) : mkUs (us ++ [u]) (ss ++ [z]) :=
  ⟨by simp [h.l], fun x hx => by
    rcases List.mem_append.1 hx with hx | hx
    · exact h.u x hx
    · simp at hx; subst hx; exact hu, usB_snoc h.l h.s (by simp [validB, ckU_of hu.ok, hz.f])⟩
theorem mkUs.fin {us : List Un} {ss : List Us} (h : mkUs us ss) : ∀ u ∈ us, u.fin := fun u hu => (h.u u hu).fin
def R_mkUs : RB := fun cs args k => ∃ (d : Dk) (n : Int), args = [I n] ∧ cs = dkC d ∧ d.ok ∧ (0 ≤ n ∧ n ≤ 6) ∧ ∀ (us : List Un) (ss : List Us) d', Dk.ok d' → us.length ≤ n → mkUs us ss → k (.tup [.c (.lst (eU us)), .c (.lst (eQ ss))]) (dkC d')
/-- A dam that a deck makes, with its state. -/
structure mkDm (d : Dm) (s : Dt) : Prop where
  v : validD d s = true
  f : d.fin
  c : valC d.r.st d.r.crest ≤ 1000
def R_mkDm : RB := fun cs args k => ∃ d : Dk, args = [] ∧ cs = dkC d ∧ d.ok ∧ ∀ (x : Dm) (s : Dt) d', Dk.ok d' → mkDm x s → k (.tup [.agg (dmC x), .agg (dtC s)]) (dkC d')
theorem mkDm.of {d : Dm} {s : Dt} (hr : d.r.made) (hrl : d.r.st.length ≤ 5) (hg : 1 ≤ d.gr ∧ d.gr ≤ 4) (hu : mkUs d.us s.us) (hul : (d.us.length : Int) ≤ 2) (hgs : mkGs d.gs s.gs) (hgl : (d.gs.length : Int) ≤ 2) (hv : 0 ≤ s.vol ∧ s.vol ≤ valC d.r.st d.r.crest) (hrr : 0 ≤ s.rel ∧ s.rel ≤ 30) : mkDm d s := by
  obtain ⟨k1, k2, k3, k4, k5⟩ := ckS_ok hr.ck
  refine ⟨validD_of (ckD_of ⟨hr.ck, by omega, by omega, fun u h => ckU_of (hu.u u h).ok, fun g h => ckG_of (hgs.g g h).ok, by omega⟩) hv (by omega) hu.l.symm hgs.l.symm hu.s (gsB_of hgs.s), ⟨by omega, by omega, by omega, fun u h => (hu.u u h).fin, fun g h => (hgs.g g h).fin⟩, ?_⟩
  have h1 := valC_last k1 d.r.crest
  have hne : d.r.st ≠ [] := by intro e; rw [e] at k2; simp at k2
  have h2 := hr.vhi _ (List.mem_of_getElem? (lastP_at hne))
  omega
end Go.Proofs
