/- The abstract evaluator is right: operations that change nothing. -/
import Derived.Test.YtgehodhbcckcoaaAbsC
import Derived.Laws.Slices
namespace Go.Abs
open Go.RowKit

section
variable {P : Program} {B : Base} {g : G} {m : Mem} {w : World}

theorem cell_of_block {b : Nat} {us : List Value} {T : TypeId} {fz : Nat × Nat} (h : w.heap[b]? = some (.cells us.toArray T fz)) (j : Nat) : w.cell? ⟨b, j, none⟩ = us[j]? := by
  simp [World.cell?, h]

theorem getD_of {α : Type} {l : List α} {j : Nat} {x d : α} (h : l[j]? = some x) : l.getD j d = x := by simp [List.getD, h]

/-- What an array's element reads as, cell by cell. -/
theorem arr_cells {i : Id} {e : TypeId} {sz : Nat} {es : List (List Cell)} {fr : Bool} (h : ObjOk g w i (.arr e sz es fr)) {b len cap : Nat} (hv : g.β i = .slice (some ⟨b, 0, none⟩) len cap) {k : Nat} {x : List Cell} (hk : es[k]? = some x) :
    ∃ u : Nat → Value, ∀ (j : Nat) c, x[j]? = some c → w.cell? ⟨b, k * g.sz i + j, none⟩ = some (u j) ∧ RepP g.F w c (u j) := by
  cases h with
  | arr us hz ho hs hr h1 hf =>
    subst hz
    refine ⟨fun j => (us[k * g.sz i + j]?).getD undef, fun j c hj => ?_⟩
    obtain ⟨u, hu, hc⟩ := hr k x hk j c hj
    rw [hv] at ho
    have := ho.cells (g := b) rfl _ u hu
    rw [Addr.add_lit, Nat.zero_add] at this
    simp [hu, this, hc]

theorem loadF_ok (hI : Inv B g m w) {t : TypeId} {ti : TI} (hti : tiOf P t = some ti) {p x : AV} {v : Value} (hp : RepA g w p v) (h : loadF ti m p = some x) :
    ∃ u, (Instr.loadAt t v).run P w = .ok u w ∧ RepA g w x u := by
  unfold loadF at h
  split at h
  · rename_i i off
    cases hp with
    | c hp =>
      cases hp with
      | pure hp => cases hp
      | ptr hk hv =>
        rename_i b
        split at h
        · rename_i cs hm
          obtain ⟨_, ho⟩ := hI.ok i _ hm
          cases ho with
          | blk us hv' hh hl hr h1 hf =>
            rw [hv] at hv'
            simp at hv'
            subst hv'
            have := run_loadVar_cut (g := g) (w := w) hti (b := b) (o := 0) (off := off) (fun j => us.getD j undef) (fun j c hj => by
              have hj' : j < us.length := by rw [hl]; exact (List.getElem?_eq_some_iff.1 hj).1
              rw [Nat.zero_add, cell_of_block hh, List.getElem?_eq_getElem hj']; simp [List.getD, List.getElem?_eq_getElem hj']) (fun j c hj => by
              have hj' : j < us.length := by rw [hl]; exact (List.getElem?_eq_some_iff.1 hj).1
              exact hr j c _ hj (by simp [List.getD, List.getElem?_eq_getElem hj'])) h
            simpa [Instr.loadAt, Instr.sureAddr] using this
        · cases h
  · rename_i o i k
    cases hp with
    | c hp =>
      cases hp with
      | pure hp => cases hp
      | aptr hk hv =>
        rename_i b len cap
        split at h
        · rename_i e sz es fr hm
          split at h
          · rename_i cs hcs
            obtain ⟨_, ho⟩ := hI.ok o _ hm
            obtain ⟨u, hu⟩ := arr_cells ho hv hcs
            have := run_loadVar_cut (g := g) (w := w) hti (b := b) (o := i * g.sz o) (off := k) u (fun j c hj => (hu j c hj).1) (fun j c hj => .pure (hu j c hj).2) h
            simpa [Instr.loadAt, Instr.sureAddr] using this
          · cases h
        · cases h
  · rename_i cs
    cases hp with
    | c hp =>
      cases hp with
      | pure hp => cases hp
      | pel u hc hr =>
        rename_i b off
        have := run_loadVar_cut (g := g) (w := w) hti (b := b) (o := off) (off := 0) u (fun j c hj => (hc j c hj).2) (fun j c hj => .pure (hr j c hj)) h
        simpa [Instr.loadAt, Instr.sureAddr] using this
  · cases h

theorem fieldPlace_ok {t : TypeId} {ti : TI} (hti : tiOf P t = some ti) (h0 : ti.size ≠ 0) (a : Addr) (f : Field) (hf : f.type = t) : (fieldPlace a f).run P w = .ok (a.add f.offset) w := by
  obtain ⟨i, d, z, hi, hd, hz, rfl⟩ := tiOf_spec hti
  subst hf
  simp only at h0
  simp [fieldPlace, run_sizeOf hi, h0]

theorem descOf_struct {d : TypeDesc} {fs : List (Nat × TypeId)} (h : descOf d = .struct fs) : ∃ F, d = .struct F ∧ fs = F.toList.map fun f => (f.offset, f.type) := by
  cases d <;> simp [descOf] at h
  exact ⟨_, rfl, h.symm⟩
theorem descOf_slice {d : TypeDesc} {e : TypeId} (h : descOf d = .slice e) : d = .slice e := by
  cases d <;> simp [descOf] at h
  rw [h]
theorem descOf_array {d : TypeDesc} {n : Nat} {e : TypeId} (h : descOf d = .array n e) : d = .array n e := by
  cases d <;> simp [descOf] at h
  rw [h.1, h.2]
theorem descOf_int {d : TypeDesc} {k : IntKind} (h : descOf d = .int k) : d = .int k := by
  cases d <;> simp [descOf] at h
  rw [h]
theorem descOf_bool {d : TypeDesc} (h : descOf d = .bool) : d = .bool := by
  cases d <;> simp [descOf] at h
  rfl

theorem fieldF_ok {s f : Nat} {p x : AV} {v : Value} (hp : RepA g w p v) (h : fieldF P s f p = some x) :
    ∃ u, (Instr.fieldAt s v f).run P w = .ok u w ∧ RepA g w x u := by
  unfold fieldF at h
  split at h
  · rename_i fs hti
    obtain ⟨i, d, z, hi, hd, hz, he⟩ := tiOf_spec hti
    simp only [TI.mk.injEq] at he
    obtain ⟨_, _, _, _, hds, _⟩ := he
    obtain ⟨F, rfl, hfs⟩ := descOf_struct hds.symm
    subst hfs
    split at h
    · rename_i off t hf
      rw [List.getElem?_map] at hf
      cases hF : F.toList[f]? with
      | none => simp [hF] at hf
      | some fd =>
        simp [hF] at hf
        obtain ⟨rfl, rfl⟩ := hf
        have hF' : F[f]? = some fd := by simpa using hF
        split at h
        · rename_i ti hti'
          split at h
          · cases h
          · rename_i h0
            have key : ∀ b o, (Instr.fieldAt s (.pointer (some ⟨b, o, none⟩)) f).run P w = .ok (.pointer (some ⟨b, o + fd.offset, none⟩)) w := fun b o => by
              simp [Instr.fieldAt, run_underlying hd, hF', Instr.sureAddr, fieldPlace_ok hti' h0 _ fd rfl, Addr.add_lit]
            split at h
            · simp at h
              subst h
              cases hp with
              | c hp =>
                cases hp with
                | pure hp => cases hp
                | ptr hk hv => exact ⟨_, key _ _, .c (.ptr hk hv)⟩
            · simp at h
              subst h
              cases hp with
              | c hp =>
                cases hp with
                | pure hp => cases hp
                | aptr hk hv => exact ⟨_, key _ _, .c (by rw [Nat.add_assoc]; exact .aptr hk hv)⟩
            · rename_i cs
              split at h
              · simp at h
                subst h
                cases hp with
                | c hp =>
                  cases hp with
                  | pure hp => cases hp
                  | pel u hc hr =>
                    rename_i b o
                    refine ⟨_, key _ _, .c (.pel (fun j => u (fd.offset + j)) (fun j c hj => ?_) (fun j c hj => ?_))⟩
                    · rw [List.getElem?_drop] at hj
                      rw [Nat.add_assoc]
                      exact hc _ c hj
                    · rw [List.getElem?_drop] at hj
                      exact hr _ c hj
              · cases h
            · cases h
        · cases h
    · cases h
  · cases h

theorem isInt {g : G} {w : World} {k : IntKind} {n : Int} {v : Value} (h : RepA g w (.c (.sc (.int k n))) v) : v = .int k n := by
  cases h with
  | c h => cases h with
    | pure h => cases h with
      | sc h => rfl
theorem isSc {g : G} {w : World} {x v : Value} (h : RepA g w (.c (.sc x)) v) : v = x ∧ scalar x = true := by
  cases h with
  | c h => cases h with
    | pure h => cases h with
      | sc h => exact ⟨rfl, h⟩

theorem repP_lst {F : Nat → Nat → Prop} {es : List (List Cell)} {v : Value} (h : RepP F w (.lst es) v) : ∃ a cap, v = .slice a es.length cap ∧ es.length ≤ cap ∧ cap ≤ maxLen ∧
    ∀ (i : Nat) e, es[i]? = some e → ∃ (b off sz : Nat) (u : Nat → Value), a = some ⟨b, off, none⟩ ∧ (∀ (k : Nat) x, es[k]? = some x → x.length = sz) ∧
      ∀ (j : Nat) c, e[j]? = some c → F b (off + i * sz + j) ∧ w.cell? ⟨b, off + i * sz + j, none⟩ = some (u j) ∧ RepP F w c (u j) := by
  cases h with
  | emp hcap _ => exact ⟨_, _, rfl, by simp, hcap, fun i e h => by simp at h⟩
  | lst u hs hc hr hl hcap =>
    rename_i b off cap sz
    exact ⟨_, cap, rfl, hl, hcap, fun i e he => ⟨b, off, sz, u i, rfl, hs, fun j c hj => ⟨(hc i e he j c hj).1, (hc i e he j c hj).2, hr i e he j c hj⟩⟩⟩

theorem sz_of {es : List (List Cell)} {n sz s : Nat} {x : List Cell} (hs : ∀ (k : Nat) x, es[k]? = some x → x.length = sz) (hx : es[n]? = some x) (hl : x.length = s) : sz = s := by rw [← hs n x hx, hl]

theorem index_lst {t e : TypeId} {te : TypeInfo} (hu : P.underlying t = some (.slice e)) (hte : P.info? e = some te) {es : List (List Cell)} {v : Value} (hp : RepP g.F w (.lst es) v) {k : IntKind} {n : Int} (hn : 0 ≤ n) {x : List Cell} (hx : es[n.toNat]? = some x)
    (hsz : x.length = te.size) : ∃ u, (Instr.indexAt t v (.int k n)).run P w = .ok u w ∧ RepA g w (.c (.pel x)) u := by
  obtain ⟨a, cap, rfl, hl, hcap, hcell⟩ := repP_lst hp
  obtain ⟨b, off, sz, u, rfl, hs, hc⟩ := hcell _ x hx
  have hlt : n.toNat < es.length := (List.getElem?_eq_some_iff.1 hx).1
  have hlt' : n < (es.length : Int) := by omega
  obtain rfl := sz_of hs hx hsz
  refine ⟨.pointer (some ⟨b, off + n.toNat * te.size, none⟩), ?_, .c (.pel u (fun j c hj => ⟨(hc j c hj).1, (hc j c hj).2.1⟩) fun j c hj => (hc j c hj).2.2)⟩
  simp [Instr.indexAt, run_underlying hu, asIntOf, hn, hlt', run_sizeOf hte, Addr.add_lit]

theorem indexF_ok (hI : Inv B g m w) {t : Nat} {p ix x : AV} {v iv : Value} (hp : RepA g w p v) (hi : RepA g w ix iv) (h : indexF P m t p ix = some x) :
    ∃ u, (Instr.indexAt t v iv).run P w = .ok u w ∧ RepA g w x u := by
  unfold indexF at h
  split at h
  · rename_i e _ n hti
    obtain ⟨i, d, z, hi0, hd, hz, he⟩ := tiOf_spec hti
    simp only [TI.mk.injEq] at he
    obtain ⟨_, _, _, _, hds, _⟩ := he
    obtain rfl := descOf_slice hds.symm
    obtain rfl := isInt hi
    split at h
    · cases h
    · rename_i te hte
      obtain ⟨i', d', z', hi', hd', hz', rfl⟩ := tiOf_spec hte
      split at h
      · rename_i hn
        split at h
        · split at h
          · rename_i el hel
            split at h
            · rename_i hsz
              simp at h; subst h
              cases hp with
              | c hp => cases hp with
                | pure hp => exact index_lst hd hi' hp hn hel hsz
            · cases h
          · cases h
        · split at h
          · rename_i el hel
            split at h
            · rename_i hsz
              simp at h; subst h
              cases hp with
              | c hp => cases hp with
                | pure hp => cases hp
                | full hp => exact index_lst hd hi' hp hn hel hsz
            · cases h
          · cases h
        · rename_i o lo len
          split at h
          · rename_i e' sz es fr hm
            split at h
            · rename_i hlt
              obtain ⟨hlt, rfl⟩ := hlt
              simp at h; subst h
              cases hp with
              | c hp => cases hp with
                | pure hp => cases hp
                | view hk hv hle ha hsp =>
                  rename_i len' cap a a'
                  obtain ⟨_, ho⟩ := hI.ok o _ hm
                  cases ho with
                  | arr us hz ho hs hr h1 hf =>
                    have hlo : lo < cap := by omega
                    rw [ha (.inl hlo)]
                    rcases ho.2 with ⟨hnil, _⟩ | ⟨gb, cap', cur, hb, _⟩
                    · rw [hv] at hnil; simp at hnil; omega
                    · rw [hv] at hb
                      simp at hb
                      obtain ⟨rfl, _, rfl⟩ := hb
                      refine ⟨.pointer (some ⟨gb, (lo + n.toNat) * g.sz o + 0, none⟩), ?_, .c (.aptr hk hv)⟩
                      simp [Instr.indexAt, run_underlying hd, asIntOf, hn, hlt, run_sizeOf hi', Addr.add_lit, hz, Nat.add_mul]
            · cases h
          · cases h
        · cases h
      · cases h
  · rename_i len e _ n hti
    obtain ⟨i, d, z, hi0, hd, hz, he⟩ := tiOf_spec hti
    simp only [TI.mk.injEq] at he
    obtain ⟨_, _, _, _, hds, _⟩ := he
    obtain rfl := descOf_array hds.symm
    obtain rfl := isInt hi
    split at h
    · cases h
    · rename_i te hte
      obtain ⟨i', d', z', hi', hd', hz', rfl⟩ := tiOf_spec hte
      split at h
      · rename_i hn
        split at h
        · simp at h; subst h
          cases hp with
          | c hp => cases hp with
            | pure hp => cases hp
            | ptr hk hv =>
              refine ⟨_, ?_, .c (.ptr hk hv)⟩
              simp [Instr.indexAt, run_underlying hd, asIntOf, hn, run_sizeOf hi', Addr.add_lit, Instr.sureAddr]
        · cases h
      · cases h
  · cases h

end
end Go.Abs
