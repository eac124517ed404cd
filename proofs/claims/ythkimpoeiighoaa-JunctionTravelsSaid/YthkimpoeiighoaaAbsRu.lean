/- The statement of a range over a function whose body replaces some of the named objects by new ones. -/
import Derived.Test.YthkimpoeiighoaaAbsRt
namespace Go.Abs
open Go.RowKit
set_option linter.unusedVariables false
set_option linter.unusedSimpArgs false
theorem nodup_right : ∀ {b c : List Id}, nodupI (b ++ c) = true → nodupI c = true
  | [], _, h => h
  | x :: b, c, h => by
    simp only [List.cons_append, nodupI] at h
    split at h
    · cases h
    · exact nodup_right h
theorem nodup_mid : ∀ {a b c : List Id}, nodupI ((a ++ b) ++ c) = true → nodupI (a ++ c) = true
  | [], b, c, h => nodup_right h
  | x :: a, b, c, h => by
    simp only [List.cons_append, nodupI] at h ⊢
    split at h
    · cases h
    · rename_i e
      cases e2 : inI x (a ++ c) with
      | true =>
        rcases inI_append.1 e2 with h2 | h2
        · rw [inI_append.2 (.inl (inI_append.2 (.inl h2)))] at e; cases e
        · rw [inI_append.2 (.inr h2)] at e; cases e
      | false => exact nodup_mid h
def jsW : List Nat → Nat → List Id
  | [], _ => []
  | s :: r, k => .l s k :: jsW r k
theorem jsW_len {k : Nat} : ∀ {l : List Nat}, (jsW l k).length = l.length
  | [] => rfl
  | _ :: r => by simp [jsW, jsW_len (l := r)]
theorem jsW_get {k : Nat} : ∀ {l : List Nat} {n : Nat}, (jsW l k)[n]? = (l[n]?).map fun s => Id.l s k
  | [], n => by simp [jsW]
  | s :: r, 0 => by simp [jsW]
  | s :: r, n + 1 => by simpa [jsW] using jsW_get (l := r) (n := n)
def dels : List Id → List (Id × MObj) → List (Id × MObj)
  | [], o => o
  | i :: r, o => dels r (mdel o i)
theorem mget_dels : ∀ {ns : List Id} {o : List (Id × MObj)} {j : Id}, mget (dels ns o) j = if inI j ns = true then none else mget o j
  | [], o, j => by simp [dels, inI]
  | i :: r, o, j => by
    rw [dels, mget_dels (ns := r), mget_mdel]
    by_cases e : j = i
    · simp [e, inI_cons.2 (.inl rfl)]
    · cases e2 : inI j r with
      | true => simp [inI_cons.2 (.inr e2)]
      | false =>
        have : inI j (i :: r) = false := by
          cases e3 : inI j (i :: r) with
          | false => rfl
          | true => rcases inI_cons.1 e3 with h | h; exact absurd h e; rw [h] at e2; cases e2
        simp [this, e]
def nameY (n : Nat) (a b : List MObj) : List (Id × MObj) := nameX 0 a ++ nameX n b
theorem mget_app : ∀ {a b : List (Id × MObj)} {i : Id}, mget (a ++ b) i = match mget a i with | some o => some o | none => mget b i
  | [], b, i => rfl
  | (j, p) :: r, b, i => by
    simp only [List.cons_append, mget]
    split
    · rfl
    · exact mget_app (a := r)
theorem mget_nameY {n : Nat} {a b : List MObj} (h : a.length ≤ n) {i : Id} {o : MObj} : mget (nameY n a b) i = some o ↔ (∃ k, i = .x k ∧ a[k]? = some o) ∨ ∃ k, i = .x (n + k) ∧ b[k]? = some o := by
  unfold nameY
  rw [mget_app]
  have h1 := @mget_nameX a 0 i
  have h2 := @mget_nameX b n i o
  constructor
  · intro hh
    split at hh
    · rename_i p e
      cases hh
      obtain ⟨k, q1, q2⟩ := h1.1 e
      exact .inl ⟨k, by rw [q1, Nat.zero_add], q2⟩
    · exact .inr (h2.1 hh)
  · rintro (⟨k, rfl, q⟩ | q)
    · have : mget (nameX 0 a) (.x k) = some o := mget_nameX.2 ⟨k, by rw [Nat.zero_add], q⟩
      rw [this]
    · obtain ⟨k, rfl, q⟩ := q
      have : mget (nameX 0 a) (.x (n + k)) = none := by
        cases e : mget (nameX 0 a) (.x (n + k)) with
        | none => rfl
        | some p =>
          obtain ⟨k', q1, q2⟩ := mget_nameX.1 e
          have := (List.getElem?_eq_some_iff.1 q2).1
          simp at q1
          omega
      rw [this]
      exact h2.2 ⟨k, rfl, q⟩
/-- Slots that are free now. -/
def freshS (us : List Nat) : List Nat → Bool
  | [] => true
  | s :: r => match memU s us with
    | false => freshS us r
    | true => false
theorem freshS_get {us : List Nat} : ∀ {l : List Nat}, freshS us l = true → ∀ s ∈ l, memU s us = false
  | [], _, s, hs => by cases hs
  | a :: r, h, s, hs => by
    simp only [freshS] at h
    split at h
    · rename_i e
      rcases List.mem_cons.1 hs with rfl | hs
      · exact e
      · exact freshS_get h s hs
    · cases h
theorem usd_app {s : Nat} {us : List Nat} : ∀ {l : List Nat}, usd s us = true → usd s (l ++ us) = true
  | [], h => h
  | a :: r, h => usd_cons (usd_app (l := r) h)
theorem usd_mem {s : Nat} {us : List Nat} (hs : lowS s = true) : ∀ {l : List Nat}, s ∈ l → usd s (l ++ us) = true
  | [], h => by cases h
  | a :: r, h => by
    rcases List.mem_cons.1 h with rfl | h
    · simp only [usd, hs, List.cons_append, memU_self]
    · exact usd_cons (usd_mem hs h)
/-- The whole's memory behind the statement. -/
def memN' (nk nd : List Id) (ss : List Nat) (os' : List MObj) (M : Mem) : Mem := { o := sets (nk ++ jsW ss M.nx) os' (dels nd M.o), nx := M.nx, us := ss ++ M.us }

section
variable {P : Program} {B : Base}
theorem link_new {nk nd : List Id} {ss : List Nat} {os ok on : List MObj} {M : Mem} (hn : nodupI ((nk ++ nd) ++ jsW ss M.nx) = true) (hf : freshS M.us ss = true) (hl1 : os.length = (nk ++ nd).length)
    (hg2 : ∀ (j : Nat) i, (nk ++ nd)[j]? = some i → ∃ x, os[j]? = some x ∧ mget M.o i = some x) (hlo : lsOs (nk ++ nd) os = true) (hok : ok.length = nk.length) (hon : on.length = ss.length)
    (hin : ∀ o, o ∈ ok ∨ o ∈ on → inO (KX ((nk ++ nd) ++ jsW ss M.nx).length) o) :
    LinkM (ofX ((nk ++ nd) ++ jsW ss M.nx)) (mX (mapO (toX (nk ++ nd)) os)) (nameY (nk ++ nd).length ok on) M (memN' nk nd ss (mapO (ofX ((nk ++ nd) ++ jsW ss M.nx)) (ok ++ on)) M) := by
  generalize hns : nk ++ nd = ns at *
  generalize hW : ns ++ jsW ss M.nx = nsW at *
  have hnk : nk.length ≤ ns.length := by rw [← hns]; simp
  have hnW : nsW.length = ns.length + ss.length := by rw [← hW]; simp [jsW_len]
  have hlx : (mapO (toX ns) os).length = ns.length := getD_len hl1
  have sub : ∀ {k : Nat} {i : Id}, ns[k]? = some i → nsW[k]? = some i := fun {k i} e => by
    rw [← hW, List.getElem?_append_left (List.getElem?_eq_some_iff.1 e).1]; exact e
  have ofs : ∀ i, KX ns.length i → ofX nsW i = ofX ns i := fun i ⟨k, hk, e⟩ => by
    subst e
    rw [ofX_x (sub (List.getElem?_eq_getElem hk)), ofX_x (List.getElem?_eq_getElem hk)]
  have kx : ∀ i, keys (mX (mapO (toX ns) os)) i ↔ KX ns.length i := fun i => by rw [keys_mX, hlx]
  have inK : KX ns.length = keys (mX (mapO (toX ns) os)) := funext fun i => propext (kx i).symm
  have kxW : ∀ i, keys (nameY ns.length ok on) i → KX nsW.length i ∧ (KX ns.length i ∨ ∃ k, k < ss.length ∧ i = .x (ns.length + k)) := fun i ⟨o, ho⟩ => by
    rcases (mget_nameY (by omega)).1 ho with ⟨k, rfl, q⟩ | ⟨k, rfl, q⟩
    · have := (List.getElem?_eq_some_iff.1 q).1
      exact ⟨⟨k, by omega, rfl⟩, .inl ⟨k, by omega, rfl⟩⟩
    · have := (List.getElem?_eq_some_iff.1 q).1
      exact ⟨⟨_, by omega, rfl⟩, .inr ⟨k, by omega, rfl⟩⟩
  have hof : ∀ i, KX nsW.length i → ∃ n, i = .x n ∧ n < nsW.length ∧ nsW[n]? = some (ofX nsW i) := fun i ⟨n, hn, e⟩ => by
    subst e
    exact ⟨n, rfl, hn, by rw [ofX_x (List.getElem?_eq_getElem hn)]; exact List.getElem?_eq_getElem hn⟩
  have inW : ∀ i, KX ns.length i → KX nsW.length i := fun i ⟨k, hk, e⟩ => ⟨k, by omega, e⟩
  have hlen : (mapO (ofX nsW) (ok ++ on)).length = (nk ++ jsW ss M.nx).length := by rw [mapO_len]; simp [jsW_len, hok, hon]
  have hkeep : ∀ i, KX nsW.length i → (keys (mX (mapO (toX ns) os)) i ∨ keys (nameY ns.length ok on) i) := fun i ⟨k, hk, e⟩ => by
    by_cases h : k < ns.length
    · exact .inl ((kx i).2 ⟨k, h, e⟩)
    · have hk2 : k - ns.length < on.length := by omega
      exact .inr ⟨on[k - ns.length], (mget_nameY (by omega)).2 (.inr ⟨k - ns.length, by rw [e]; congr 1; omega, List.getElem?_eq_getElem hk2⟩)⟩
  have hDW : KX nsW.length = fun i => keys (mX (mapO (toX ns) os)) i ∨ keys (nameY ns.length ok on) i := funext fun i => propext ⟨hkeep i, fun h => h.elim (fun h => inW i ((kx i).1 h)) fun h => (kxW i h).1⟩
  -- positions of the new list in nsW
  have posW : ∀ {k : Nat} {j : Id}, (nk ++ jsW ss M.nx)[k]? = some j → ∃ k', nsW[k']? = some j ∧ ((k < nk.length ∧ k' = k) ∨ (nk.length ≤ k ∧ k' = ns.length + (k - nk.length))) := fun {k j} h => by
    by_cases hk : k < nk.length
    · rw [List.getElem?_append_left hk] at h
      exact ⟨k, sub (by rw [← hns, List.getElem?_append_left hk]; exact h), .inl ⟨hk, rfl⟩⟩
    · rw [List.getElem?_append_right (by omega)] at h
      exact ⟨ns.length + (k - nk.length), by rw [← hW, List.getElem?_append_right (by omega), Nat.add_sub_cancel_left]; exact h, .inr ⟨by omega, rfl⟩⟩
  have hn' : nodupI (nk ++ jsW ss M.nx) = true := by
    rw [← hW, ← hns] at hn
    exact nodup_mid hn
  refine ⟨fun i o hi => ?_, fun j o hj => ?_, fun i a b => ?_, fun a b ha hb e => ?_, fun s k hh => ?_⟩
  · obtain ⟨n, e1, e2⟩ := mget_nameX.1 hi
    rw [mapO_get] at e2
    obtain ⟨x, e3, rfl⟩ := Option.map_eq_some_iff.1 e2
    have hnl : n < ns.length := by rw [← hl1]; exact (List.getElem?_eq_some_iff.1 e3).1
    obtain ⟨y, e4, e5⟩ := hg2 n ns[n] (List.getElem?_eq_getElem hnl)
    rw [e3] at e4
    cases e4
    obtain ⟨q1, q2⟩ := lsO_ok (lsOs_get hlo e3)
    refine ⟨?_, by rw [← inK]; exact q2⟩
    rw [renO_congr (D := KX ns.length) (ρ' := ofX ns) ofs q2, q1, e1, Nat.zero_add, ofX_x (sub (List.getElem?_eq_getElem hnl))]
    exact e5
  · obtain ⟨s1, s2⟩ := mget_sets (ns := nk ++ jsW ss M.nx) (l := mapO (ofX nsW) (ok ++ on)) (o := dels nd M.o) (j := j) hlen hn'
    have hj : mget (sets (nk ++ jsW ss M.nx) (mapO (ofX nsW) (ok ++ on)) (dels nd M.o)) j = some o := hj
    cases e : inI j (nk ++ jsW ss M.nx) with
    | true =>
      obtain ⟨n, hp⟩ := posI_in (n := 0) e
      obtain ⟨_, hp⟩ := posI_spec hp
      rw [Nat.sub_zero] at hp
      have hj' := s1 n hp
      rw [hj, mapO_get] at hj'
      obtain ⟨x, e3, e4⟩ := Option.map_eq_some_iff.1 hj'.symm
      obtain ⟨k', hk1, hk2⟩ := posW hp
      refine .inl ⟨.x k', x, (mget_nameY (by omega)).2 ?_, ofX_x hk1, e4.symm, ?_⟩
      · rcases hk2 with ⟨h1, rfl⟩ | ⟨h1, rfl⟩
        · exact .inl ⟨_, rfl, by rw [List.getElem?_append_left (by omega)] at e3; exact e3⟩
        · exact .inr ⟨_, rfl, by rw [List.getElem?_append_right (by omega), hok] at e3; exact e3⟩
      · rw [← hDW]
        exact hin x (by have := List.mem_of_getElem? e3; simpa using this)
    | false =>
      rw [s2 e, mget_dels] at hj
      split at hj
      · cases hj
      rename_i e2
      refine .inr ⟨hj, fun i hi e' => ?_⟩
      obtain ⟨n, h1, h2⟩ := (kx i).1 hi
      subst h2
      have h3 : ns[n]? = some j := by rw [← e', ofs _ ⟨n, h1, rfl⟩, ofX_x (List.getElem?_eq_getElem h1)]; exact List.getElem?_eq_getElem h1
      rw [← hns] at h3
      rcases inI_append.1 (inI_get h3) with h4 | h4
      · rw [inI_append.2 (.inl h4)] at e; cases e
      · exact e2 h4
  · obtain ⟨h1, h2⟩ := kxW i a
    rcases h2 with h2 | ⟨k, hk, rfl⟩
    · exact absurd ((kx i).2 h2) b
    · have h3 : nsW[ns.length + k]? = some (.l ss[k] M.nx) := by rw [← hW, List.getElem?_append_right (by omega), Nat.add_sub_cancel_left, jsW_get, List.getElem?_eq_getElem hk]; rfl
      have hm := freshS_get hf ss[k] (List.getElem_mem hk)
      exact ⟨ss[k], M.nx, ofX_x h3, not_used hm, .inr ⟨rfl, usd_mem (memU_big hm) (List.getElem_mem hk)⟩⟩
  · have ha' : KX nsW.length a := ha.elim (fun h => inW a ((kx a).1 h)) fun h => (kxW a h).1
    have hb' : KX nsW.length b := hb.elim (fun h => inW b ((kx b).1 h)) fun h => (kxW b h).1
    obtain ⟨n, rfl, _, h3⟩ := hof a ha'
    obtain ⟨n', rfl, _, h4⟩ := hof b hb'
    rw [← e] at h4
    rw [nodup_get hn h3 h4]
  · rcases hh with h | ⟨h, h'⟩
    · exact .inl h
    · exact .inr ⟨h, usd_app h'⟩
end
namespace Part
variable {p : Part} {N : Nat} {g' : G} {m' : Mem} {w' : World}
theorem part_new {os ok on : List MObj} {ids : List Id} (hm : p.m = mX os) (hK : ∀ i, p.g.K i → keys p.m i) (hI : Inv (p.qB p.w p.g.F N []) g' m' w') (hnd : nodupI (xsN 0 os.length ++ ids) = true) (hok : ok.length ≤ os.length) (hon : on.length = ids.length)
    (hgk : ∀ (j : Nat) o, ok[j]? = some o → mget m'.o (.x j) = some o) (hgn : ∀ (j : Nat) o, on[j]? = some o → ∃ i, ids[j]? = some i ∧ mget m'.o i = some o) (hls : lsOs (xsN 0 os.length ++ ids) ok = true) (hls2 : lsOs (xsN 0 os.length ++ ids) on = true) {nW : Nat} (hnW : nW = os.length + ids.length) :
    ∃ gx, gx.F = g'.F ∧ Ext p.g p.w gx w' ∧ MInv gx (nameY os.length (mapO (toX (xsN 0 os.length ++ ids)) ok) (mapO (toX (xsN 0 os.length ++ ids)) on)) w' ∧ (∀ i, gx.K i → keys p.m i ∨ keys (nameY os.length (mapO (toX (xsN 0 os.length ++ ids)) ok) (mapO (toX (xsN 0 os.length ++ ids)) on)) i) ∧
      Frame p.g p.m p.w gx (nameY os.length (mapO (toX (xsN 0 os.length ++ ids)) ok) (mapO (toX (xsN 0 os.length ++ ids)) on)) w' ∧ ∀ o, o ∈ mapO (toX (xsN 0 os.length ++ ids)) ok ∨ o ∈ mapO (toX (xsN 0 os.length ++ ids)) on → inO (KX nW) o := by
  subst hnW
  generalize hns : xsN 0 os.length ++ ids = nsP at *
  have hnP : nsP.length = os.length + ids.length := by rw [← hns]; simp [xsN_len]
  have hx : ∀ {k : Nat}, k < os.length → nsP[k]? = some (.x k) := fun {k} hk => by
    rw [← hns, List.getElem?_append_left (by rw [xsN_len]; exact hk), xsN_get hk, Nat.zero_add]
  have hi' : ∀ {k : Nat} {i : Id}, ids[k]? = some i → nsP[os.length + k]? = some i := fun {k i} h => by
    rw [← hns, List.getElem?_append_right (by rw [xsN_len]; omega), xsN_len, Nat.add_sub_cancel_left]; exact h
  have same : ∀ i, KX os.length i → ofX nsP i = i := fun i ⟨k, hk, e⟩ => by subst e; exact ofX_x (hx hk)
  have hlink : Link (ofX nsP) (KX nsP.length) (pull (ofX nsP) (KX nsP.length) g') g' := pull_link
  have kx : ∀ i, keys p.m i ↔ KX os.length i := fun i => by rw [hm, keys_mX]
  have hokl : (mapO (toX nsP) ok).length ≤ os.length := by rw [mapO_len]; exact hok
  have memb : ∀ {l : List MObj} {k : Nat} {o : MObj}, lsOs nsP l = true → (mapO (toX nsP) l)[k]? = some o → ∃ x, l[k]? = some x ∧ o = renO (toX nsP) x ∧ renO (ofX nsP) o = x ∧ inO (KX nsP.length) o := fun {l k o} hl h => by
    rw [mapO_get] at h
    obtain ⟨x, e3, rfl⟩ := Option.map_eq_some_iff.1 h
    obtain ⟨q1, q2⟩ := lsO_ok (lsOs_get hl e3)
    exact ⟨x, e3, rfl, q1, q2⟩
  have get : ∀ i o, mget (nameY os.length (mapO (toX nsP) ok) (mapO (toX nsP) on)) i = some o → KX nsP.length i ∧ mget m'.o (ofX nsP i) = some (renO (ofX nsP) o) ∧ inO (KX nsP.length) o := fun i o hi => by
    rcases (mget_nameY hokl).1 hi with ⟨k, rfl, h⟩ | ⟨k, rfl, h⟩
    · obtain ⟨x, e1, e2, e3, e4⟩ := memb hls h
      have hk := (List.getElem?_eq_some_iff.1 e1).1
      refine ⟨⟨k, by omega, rfl⟩, ?_, e4⟩
      rw [same _ ⟨k, by omega, rfl⟩, e3]
      exact hgk k x e1
    · obtain ⟨x, e1, e2, e3, e4⟩ := memb hls2 h
      have hk := (List.getElem?_eq_some_iff.1 e1).1
      obtain ⟨i, h1, h2⟩ := hgn k x e1
      refine ⟨⟨os.length + k, by omega, rfl⟩, ?_, e4⟩
      rw [ofX_x (hi' h1), e3]
      exact h2
  have key : ∀ i, KX nsP.length i → keys p.m i ∨ keys (nameY os.length (mapO (toX nsP) ok) (mapO (toX nsP) on)) i := fun i ⟨k, hk, e⟩ => by
    by_cases h : k < os.length
    · exact .inl ((kx i).2 ⟨k, h, e⟩)
    · have hk2 : k - os.length < (mapO (toX nsP) on).length := by rw [mapO_len]; omega
      exact .inr ⟨_, (mget_nameY hokl).2 (.inr ⟨k - os.length, by rw [e]; congr 1; omega, List.getElem?_eq_getElem hk2⟩)⟩
  refine ⟨pull (ofX nsP) (KX nsP.length) g', rfl, ⟨fun i hi => ?_, fun i hi => ?_, fun i hi => ?_, hI.ext.F, hI.ext.cell⟩, ⟨fun i o hi => ?_, fun i j oi oj b hi hj hij hbi hbj => ?_, hI.flt⟩, fun i hi => key i hi.1, ?_, ?_⟩
  · have h1 := (kx i).1 (hK i hi)
    exact ⟨by obtain ⟨k, h2, e⟩ := h1; exact ⟨k, by omega, e⟩, by rw [same i h1]; exact hI.ext.K i hi⟩
  · show g'.β (ofX nsP i) = _
    rw [same i ((kx i).1 (hK i hi))]; exact hI.ext.β i hi
  · show g'.sz (ofX nsP i) = _
    rw [same i ((kx i).1 (hK i hi))]; exact hI.ext.sz i hi
  · obtain ⟨h1, h2, h3⟩ := get i o hi
    obtain ⟨h4, h5⟩ := hI.ok _ _ h2
    have hk : (pull (ofX nsP) (KX nsP.length) g').K i := ⟨h1, h4⟩
    exact ⟨hk, hlink.pullO h1 hk h5 h3⟩
  · obtain ⟨h1, h2, _⟩ := get i oi hi
    obtain ⟨h3, h4, _⟩ := get j oj hj
    refine hI.apart _ _ _ _ b h2 h4 (fun e => hij ?_) hbi hbj
    obtain ⟨a, ha, rfl⟩ := h1
    obtain ⟨c, hc, rfl⟩ := h3
    rw [ofX_x (List.getElem?_eq_getElem ha), ofX_x (List.getElem?_eq_getElem hc)] at e
    rw [nodup_get hnd (List.getElem?_eq_getElem ha) (by rw [e]; exact List.getElem?_eq_getElem hc)]
  · exact ⟨hI.os, hI.tape, hI.output, hI.size, fun b hb ht => hI.block b hb fun hx => hx.elim ht fun h => by have : p.w.heap.size ≤ b := h; omega, fun b o hF => by
      rcases hI.fnew b o hF with h | h | h | h
      · exact .inl h
      · exact .inr (.inl h)
      · exact .inr (.inr h)
      · exact .inr (.inl h), fun i o b hi hb => by
      rcases hI.own _ _ b (get i o hi).2.1 hb with h | h | h
      · exact .inl h
      · exact .inr h
      · exact .inl h⟩
  · rw [← hnP]
    rintro o (ho | ho)
    · obtain ⟨k, hk⟩ := List.mem_iff_getElem?.1 ho
      exact (memb hls hk).choose_spec.2.2.2
    · obtain ⟨k, hk⟩ := List.mem_iff_getElem?.1 ho
      exact (memb hls2 hk).choose_spec.2.2.2
end Part
end Go.Abs
