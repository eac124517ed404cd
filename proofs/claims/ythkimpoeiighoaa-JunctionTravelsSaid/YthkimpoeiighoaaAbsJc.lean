/- Proved here: what functions of the given program come to, and the plain laws of it; no condition but those in the theorems. -/
import Derived.Test.YthkimpoeiighoaaAbsI
import Derived.Test.YthkimpoeiighoaaAbsJ
/- The abstract evaluator is right: make. -/
namespace Go.Abs
open Go.RowKit
section
variable {P : Program} {B : Base} {g : G} {m m' : Mem} {w : World}

theorem madeCells_get (z : Array Value) (n j : Nat) (h : j < n) (hz : 0 < z.size) : (madeCells z n).toList[j]? = z[j % z.size]? := by
  have hm : j % z.size < z.size := Nat.mod_lt _ hz
  simp only [madeCells, Array.toList_map, Array.toList_range, List.getElem?_map, List.getElem?_range h, Option.map_some]
  rw [Array.getElem?_eq_getElem hm]
  congr 1
  exact getElem!_pos z (j % z.size) hm

theorem makeSlice_ok (hI : Inv B g m w) (d : Nat) (hfd : memU d m.us = false) {T e : TypeId} {ti te : TI} (hti : tiOf P T = some ti) (hd' : ti.d = .slice e) (hte : tiOf P e = some te) {z : List Cell} (hz0 : constCellsN te.zero = some z)
    (hzl : te.zero.length = te.size) (hs0 : te.size ≠ 0) (hb0 : te.bytes ≠ 0) {n : Nat} (hb : n * te.bytes ≤ 140737488355328) (kl kc : IntKind) :
    ∃ v w' g', (Instr.makeSlice T (.int kl n) (.int kc n)).run P w = .ok v w' ∧ Ext g w g' w' ∧ RepA g' w' (.c (.view (newId d m) 0 n)) v ∧ Inv B g' (addObj d m (.arr e te.size (List.replicate n z) false)) w' := by
  obtain ⟨i, dd, zv, hi, hd, hz, rfl⟩ := tiOf_spec hti
  obtain rfl := descOf_slice hd'
  obtain ⟨i', dd', zv', hi', hd'', hz', rfl⟩ := tiOf_spec hte
  simp only at hz0 hzl hs0 hb0 hb ⊢
  obtain ⟨hcs, hsc⟩ := constCellsN_spec hz0
  have hzs : zv'.cells.size = i'.size := by simpa using hzl
  have hzlen : z.length = i'.size := by rw [hcs, List.length_map]; exact hzl
  have hpos : 0 < i'.size := by omega
  have hn48 : n ≤ 140737488355328 := Nat.le_trans (Nat.le_mul_of_pos_right n (by omega)) hb
  have hbn : (i'.bytes : Int) * (n : Int) ≤ 281474976710656 := by
    have h : ((n * i'.bytes : Nat) : Int) ≤ 140737488355328 := by omega
    rw [Nat.mul_comm] at h
    rw [Int.natCast_mul] at h
    omega
  have hr := run_make (P := P) w T e i' zv' hd hi' hz' kl kc n n (by omega) (Int.le_refl _) hbn (by omega)
  simp only [Int.toNat_natCast] at hr
  have hget : ∀ k j, k < n → j < i'.size → ∃ u, (madeCells zv'.cells (n * i'.size)).toList[k * i'.size + j]? = some u ∧ zv'.cells.toList[j]? = some u := fun k j hk hj => by
    have hlt : k * i'.size + j < n * i'.size := by
      have : (k + 1) * i'.size ≤ n * i'.size := Nat.mul_le_mul_right _ hk
      rw [Nat.add_mul, Nat.one_mul] at this
      omega
    have h1 := madeCells_get zv'.cells (n * i'.size) (k * i'.size + j) hlt (by omega)
    rw [hzs, Nat.mul_add_mod_self_right, Nat.mod_eq_of_lt hj] at h1
    exact ⟨zv'.cells[j]'(by omega), by rw [h1]; exact Array.getElem?_eq_getElem _, by simp [show j < zv'.cells.size by omega]⟩
  have hone : ∀ u ∈ (madeCells zv'.cells (n * i'.size)).toList, u.oneCell' = true := fun u hu => by
    obtain ⟨j, hj, rfl⟩ := List.getElem_of_mem hu
    have hj' : j < n * i'.size := by simpa [size_madeCells] using hj
    have h1 := madeCells_get zv'.cells (n * i'.size) j hj' (by omega)
    rw [List.getElem?_eq_getElem hj] at h1
    have hm : (madeCells zv'.cells (n * i'.size)).toList[j] ∈ zv'.cells.toList := by
      have := Array.mem_of_getElem? h1.symm
      simpa using this
    have := hsc _ hm
    generalize (madeCells zv'.cells (n * i'.size)).toList[j] = u at *
    cases u <;> simp_all [scalar, Value.oneCell']
  have hown : (w.alloc (.cells (madeCells zv'.cells (n * i'.size)) e)).ownsRow 0 e i'.size (.slice (some ⟨w.heap.size, 0, none⟩) n n) n (madeCells zv'.cells (n * i'.size)).toList :=
    ⟨by simp [size_madeCells], .inr ⟨w.heap.size, n, _, rfl, Nat.zero_le _, heap_new w _, Nat.le_refl _, by simp only [maxLen]; omega, size_madeCells _ _, by rw [List.take_of_length_le (by simp [size_madeCells])]⟩⟩
  have := inv_add (w' := w.alloc (.cells (madeCells zv'.cells (n * i'.size)) e)) hI d (m1 := m) (fun _ _ h => h) ⟨rfl, rfl⟩ hfd (row := none) (World.grownBy_alloc w _ none) (fun b h => by cases h) (V := .slice (some ⟨w.heap.size, 0, none⟩) n n) (s := i'.size) (obj := .arr e i'.size (List.replicate n z) false)
    (fun b hb => by simp [blockOf] at hb; exact .inl (by omega)) (fun he => .arr (madeCells zv'.cells (n * i'.size)).toList (if_pos rfl) (by
        have hβ : (addId g (newId d m) (.slice (some ⟨w.heap.size, 0, none⟩) n n) i'.size).β (newId d m) = .slice (some ⟨w.heap.size, 0, none⟩) n n := if_pos rfl
        rw [hβ, List.length_replicate]; exact hown) (fun k x hx => by
        rw [List.eq_of_mem_replicate (List.mem_of_getElem? hx)]; exact hzlen) (fun k x hx j c hj => by
        have hkn : k < n := by rw [← List.length_replicate (n := n) (a := z)]; exact (List.getElem?_eq_some_iff.1 hx).1
        rw [List.eq_of_mem_replicate (List.mem_of_getElem? hx)] at hj
        have hjs : j < i'.size := by rw [← hzlen]; exact (List.getElem?_eq_some_iff.1 hj).1
        obtain ⟨u, h1, h2⟩ := hget k j hkn hjs
        refine ⟨u, h1, ?_⟩
        rw [hcs, List.getElem?_map, h2] at hj
        simp at hj
        subst hj
        exact repP_nrm0 (hsc u (List.mem_of_getElem? h2))) hone (fun b o hb hF => by
        have hβ : (addId g (newId d m) (.slice (some ⟨w.heap.size, 0, none⟩) n n) i'.size).β (newId d m) = .slice (some ⟨w.heap.size, 0, none⟩) n n := if_pos rfl
        rw [hβ] at hb
        simp [blockOf] at hb
        have := hI.flt b o hF
        omega))
  refine ⟨.slice (some ⟨w.heap.size, 0, none⟩) n n, _, _, hr, this.1, .c ?_, this.2⟩
  have := RepC.view (g := addId g (newId d m) (.slice (some ⟨w.heap.size, 0, none⟩) n n) i'.size) (w := w.alloc (.cells (madeCells zv'.cells (n * i'.size)) e)) (o := newId d m) (lo := 0) (n := n) (len := n) (cap := n) (a := some ⟨w.heap.size, 0, none⟩) (a' := some ⟨w.heap.size, 0, none⟩) (.inl rfl) (if_pos rfl) (by omega)
    (fun _ => by simp [Addr.add]) (fun ad h => by simp at h; subst h; rfl)
  simpa using this
end
end Go.Abs

/- The abstract evaluator is right: copy. -/
namespace Go.Abs
open Go.RowKit
section
variable {P : Program} {B : Base} {g : G} {m m' : Mem} {w : World}

theorem copy_core (hI : Inv B g m w) {t t2 e : TypeId} {i : TypeInfo} (ht : P.underlying t = some (.slice e)) (hi : P.info? e = some i) (ty : TypeId)
    {o : Id} {lo n : Nat} {dv : Value} (hd : RepA g w (.c (.view o lo n)) dv) {es : List (List Cell)} (hm : mget m.o o = some (.arr e i.size es false)) (hfit : lo + n ≤ es.length)
    {c : Cell} {xv : Value} {es2 : List (List Cell)} (hc : RepC g w c xv) (hel : elems m c = some es2) (hs2 : es2.all (fun e => e.length == i.size) = true) {K : Nat} (hK : Nat.min es2.length n = K) :
    ∃ w' g', (Builtin.copy_ #[t, t2] ty #[dv, xv]).run P w = .ok (goInt K) w' ∧ Ext g w g' w' ∧ Inv B g' { m with o := mset m.o o (.arr e i.size (wrE es lo (es2.take K)) false) } w' := by
  obtain ⟨a2, cap2, news, rfl, hnl, hna, hnn, hnr, hn1⟩ := elems_ok hI hc hel hs2
  have hK1 : K ≤ es2.length := by rw [← hK]; exact Nat.min_le_left _ _
  have hK2 : K ≤ n := by rw [← hK]; exact Nat.min_le_right _ _
  have hmul : K * i.size ≤ es2.length * i.size := Nat.mul_le_mul_right _ hK1
  have hfc : (Builtin.firstCells i.size K (.slice a2 es2.length cap2)).run P w = .ok (news.take (K * i.size)).toArray w := by
    cases a2 with
    | none =>
      have h0 := hnn rfl
      simp at h0
      have hK0 : K = 0 := by rw [h0.1] at hK1; simpa using hK1
      subst hK0
      simp [Builtin.firstCells]
    | some ad =>
      refine run_firstCells_some (w := w) i.size K ad es2.length cap2 (news.take (K * i.size)) (by rw [List.length_take]; omega) (fun j v hv => ?_)
      rw [List.getElem?_take] at hv
      split at hv
      · rcases hna with h | ⟨ad', h, h'⟩
        · have : news = [] := List.eq_nil_of_length_eq_zero (by rw [hnl, h]; simp)
          rw [this] at hv; simp at hv
        · simp at h; subst h; exact h' j v hv
      · cases hv
  obtain ⟨_, ho⟩ := hI.ok o _ hm
  cases ho with
  | arr us hz hown hs hr h1 hf =>
  cases hd with
  | c hd => cases hd with
    | pure hd => cases hd
    | view hk hv hle ha hsp =>
    rename_i len cap a a'
    have hlt : (es2.take K).length = K := by rw [List.length_take]; omega
    by_cases hK0 : K = 0
    · subst hK0
      have hsame : wrE es lo (es2.take 0) = es := by simp [wrE]
      rw [hsame]
      have := inv_upd (w' := w) hI hm (row := none) (grownBy_refl w none) (fun b h => by cases h) (fun b x h => by cases h) (o' := .arr e i.size es false) (fun _ => .arr us hz hown hs hr h1 hf)
      refine ⟨w, g, ?_, this.1, this.2⟩
      have hmin : min es2.length n = 0 := hK
      have hfc' := hfc
      simp only [Nat.zero_mul, List.take_zero] at hfc'
      cases a' with
      | none => simp [Builtin.copy_, run_underlying ht, Builtin.lenOf, run_sizeOf hi, hmin, hfc']
      | some ad => simp [Builtin.copy_, run_underlying ht, Builtin.lenOf, run_sizeOf hi, hmin, hfc', storeCells]
    · rcases hown.2 with ⟨hnil, hz0⟩ | ⟨b, cap', cur, hb, _, hh, hnc, hcm, hcsz, htk⟩
      · omega
      · rw [hv] at hb; simp at hb; obtain ⟨rfl, rfl, rfl⟩ := hb
        have ha' := ha (.inl (by omega))
        rw [hz] at ha'
        simp only [Option.map_some, Addr.add_lit, Nat.zero_add] at ha'
        subst ha'
        have hcap : es.length * i.size ≤ cap * i.size := Nat.mul_le_mul_right _ hnc
        have hrow : lo * i.size + K * i.size ≤ es.length * i.size := by rw [← Nat.add_mul]; exact Nat.mul_le_mul_right _ (by omega)
        have husl : us.length = es.length * i.size := hown.1
        have hcur : cur.toList.length = cap * i.size := by simpa using hcsz
        have hcl : (news.take (K * i.size)).length = K * i.size := by rw [List.length_take]; omega
        have hone : ∀ u ∈ news.take (K * i.size), u.oneCell' = true := fun u hu => hn1 u (List.mem_of_mem_take hu)
        have hrun := run_storeCells_at (P := P) b (lo * i.size) e (news.take (K * i.size)) 0 cur w hh (by simp only [Nat.add_zero]; omega) hone
        simp only [Nat.add_zero, List.append_assoc] at hrun
        generalize hcells : news.take (K * i.size) = cl at *
        have hclg : ∀ j, j < K * i.size → cl[j]? = news[j]? := fun j hj => by rw [← hcells, List.getElem?_take, if_pos hj]
        have hnew : ∀ j, (us.take (lo * i.size) ++ (cl ++ us.drop (lo * i.size + cl.length)))[j]? = if lo * i.size ≤ j ∧ j < lo * i.size + cl.length then cl[j - lo * i.size]? else us[j]? := wr_get us _ _ (by omega)
        have hes : ∀ k, (wrE es lo (es2.take K))[k]? = if lo ≤ k ∧ k < lo + (es2.take K).length then (es2.take K)[k - lo]? else es[k]? := wr_get es _ _ (by omega)
        have heslen : (wrE es lo (es2.take K)).length = es.length := wr_len es lo (es2.take K) (by omega)
        have hw2 : ∀ (k : Nat) x, (wrE es lo (es2.take K))[k]? = some x → x.length = i.size := fun k x hx => by
          rw [hes] at hx
          split at hx
          · rw [List.getElem?_take] at hx
            split at hx
            · exact all_len hs2 _ x hx
            · cases hx
          · exact hs k x hx
        have := inv_upd (w' := w.setRow b (cur.toList.take (lo * i.size) ++ (cl ++ cur.toList.drop (lo * i.size + cl.length))).toArray) hI hm (setRow_grown w b _) (fun b'' hb => by simp at hb; subst hb; rw [hv]; rfl)
          (fun b'' x hb hF => by simp at hb; subst hb; have := (hf b x (by rw [hv]; rfl) hF).1; cases this) (o' := .arr e i.size (wrE es lo (es2.take K)) false)
          (fun he => .arr (us.take (lo * i.size) ++ (cl ++ us.drop (lo * i.size + cl.length))) hz ⟨by rw [wr_len _ _ _ (by omega), heslen]; exact husl, .inr ⟨b, cap, _, by rw [heslen]; exact hv, Nat.zero_le _, setRow_heap w b _ _ e _ hh, by rw [heslen]; exact hnc, hcm, by
              have := wr_len cur.toList (lo * i.size) cl (by omega)
              simp only [List.size_toArray]
              omega, by
              apply List.ext_getElem?
              intro j
              rw [hnew, List.getElem?_take, heslen]
              have hcg := wr_get cur.toList (lo * i.size) cl (by omega) j
              by_cases hj : j < es.length * i.size
              · rw [if_pos hj]
                simp only
                rw [hcg]
                have : us[j]? = cur.toList[j]? := by rw [← htk, List.getElem?_take, if_pos hj]
                rw [this]
              · rw [if_neg hj, if_neg (by omega)]
                exact (List.getElem?_eq_none (by omega)).symm⟩⟩ hw2 (fun k x hx j c hj => by
              have hjs : j < i.size := by rw [← hw2 k x hx]; exact (List.getElem?_eq_some_iff.1 hj).1
              rw [hes, hlt] at hx
              split at hx
              · rename_i hkk
                rw [List.getElem?_take] at hx
                split at hx
                · rename_i hkK
                  obtain ⟨u, hu, hcu⟩ := hnr (k - lo) x hx j c hj
                  have hsub : k * i.size = lo * i.size + (k - lo) * i.size := by rw [← Nat.add_mul]; congr 1; omega
                  have hin : (k - lo) * i.size + j < K * i.size := by
                    have : (k - lo + 1) * i.size ≤ K * i.size := Nat.mul_le_mul_right _ hkK
                    rw [Nat.add_mul, Nat.one_mul] at this
                    omega
                  refine ⟨u, ?_, hcu.ext he.F he.cell⟩
                  rw [hnew, if_pos (by omega), show k * i.size + j - lo * i.size = (k - lo) * i.size + j by omega, hclg _ hin]
                  exact hu
                · cases hx
              · rename_i hkk
                obtain ⟨u, hu, hcu⟩ := hr k x hx j c hj
                refine ⟨u, ?_, hcu.ext he.F he.cell⟩
                rw [hnew, if_neg, hu]
                intro hin
                rcases Nat.lt_or_ge k lo with hlt' | hge
                · have : (k + 1) * i.size ≤ lo * i.size := Nat.mul_le_mul_right _ hlt'
                  rw [Nat.add_mul, Nat.one_mul] at this
                  omega
                · have h4 : (lo + K) * i.size ≤ k * i.size := Nat.mul_le_mul_right _ (by omega)
                  rw [Nat.add_mul] at h4
                  omega) (fun u hu => by
              simp only [List.mem_append] at hu
              rcases hu with hu | hu | hu
              · exact h1 u (List.mem_of_mem_take hu)
              · exact hone u hu
              · exact h1 u (List.mem_of_mem_drop hu)) (fun b' o' hb' hF => by have := (hf b' o' hb' hF).1; cases this))
        refine ⟨_, g, ?_, this.1, this.2⟩
        have hmin : min es2.length n = K := hK
        simp [Builtin.copy_, run_underlying ht, Builtin.lenOf, run_sizeOf hi, hmin, hfc, hrun]
end
end Go.Abs
