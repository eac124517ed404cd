/- The abstract evaluator is right: make. -/
import Derived.Test.YtgehodhbcckcoaaAbsI
namespace Go.Abs
open Go.RowKit
section
variable {P : Program} {B : Base} {g : G} {m m' : Mem} {w : World}

theorem madeCells_get (z : Array Value) (n j : Nat) (h : j < n) (hz : 0 < z.size) : (madeCells z n).toList[j]? = z[j % z.size]? := by
  have hm : j % z.size < z.size := Nat.mod_lt _ hz
  simp only [madeCells, Array.toList_map, Array.toList_range, List.getElem?_map, List.getElem?_range h, Option.map_some]
  rw [Array.getElem?_eq_getElem hm]
  congr 1
  exact getElem!_pos z (j % z.size) hm

theorem makeSlice_ok (hI : Inv B g m w) (d : Nat) (hfd : memU d m.us = false) {T e : TypeId} {ti te : TI} (hti : tiOf P T = some ti) (hd' : ti.d = .slice e) (hte : tiOf P e = some te) {z : List Cell} (hz0 : constCellsN te.zero = some z)
    (hzl : te.zero.length = te.size) (hs0 : te.size ≠ 0) (hb0 : te.bytes ≠ 0) {n : Nat} (hb : n * te.bytes ≤ 140737488355328) (kl kc : IntKind) :
    ∃ v w' g', (Instr.makeSlice T (.int kl n) (.int kc n)).run P w = .ok v w' ∧ Ext g w g' w' ∧ RepA g' w' (.c (.view (newId d m) 0 n)) v ∧ Inv B g' (addObj d m (.arr e te.size (List.replicate n z) false)) w' := by
  obtain ⟨i, dd, zv, hi, hd, hz, rfl⟩ := tiOf_spec hti
  obtain rfl := descOf_slice hd'
  obtain ⟨i', dd', zv', hi', hd'', hz', rfl⟩ := tiOf_spec hte
  simp only at hz0 hzl hs0 hb0 hb ⊢
  obtain ⟨hcs, hsc⟩ := constCellsN_spec hz0
  have hzs : zv'.cells.size = i'.size := by simpa using hzl
  have hzlen : z.length = i'.size := by rw [hcs, List.length_map]; exact hzl
  have hpos : 0 < i'.size := by omega
  have hn48 : n ≤ 140737488355328 := Nat.le_trans (Nat.le_mul_of_pos_right n (by omega)) hb
  have hbn : (i'.bytes : Int) * (n : Int) ≤ 281474976710656 := by
    have h : ((n * i'.bytes : Nat) : Int) ≤ 140737488355328 := by omega
    rw [Nat.mul_comm] at h
    rw [Int.natCast_mul] at h
    omega
  have hr := run_make (P := P) w T e i' zv' hd hi' hz' kl kc n n (by omega) (Int.le_refl _) hbn (by omega)
  simp only [Int.toNat_natCast] at hr
  have hget : ∀ k j, k < n → j < i'.size → ∃ u, (madeCells zv'.cells (n * i'.size)).toList[k * i'.size + j]? = some u ∧ zv'.cells.toList[j]? = some u := fun k j hk hj => by
    have hlt : k * i'.size + j < n * i'.size := by
      have : (k + 1) * i'.size ≤ n * i'.size := Nat.mul_le_mul_right _ hk
      rw [Nat.add_mul, Nat.one_mul] at this
      omega
    have h1 := madeCells_get zv'.cells (n * i'.size) (k * i'.size + j) hlt (by omega)
    rw [hzs, Nat.mul_add_mod_self_right, Nat.mod_eq_of_lt hj] at h1
    exact ⟨zv'.cells[j]'(by omega), by rw [h1]; exact Array.getElem?_eq_getElem _, by simp [show j < zv'.cells.size by omega]⟩
  have hone : ∀ u ∈ (madeCells zv'.cells (n * i'.size)).toList, u.oneCell' = true := fun u hu => by
    obtain ⟨j, hj, rfl⟩ := List.getElem_of_mem hu
    have hj' : j < n * i'.size := by simpa [size_madeCells] using hj
    have h1 := madeCells_get zv'.cells (n * i'.size) j hj' (by omega)
    rw [List.getElem?_eq_getElem hj] at h1
    have hm : (madeCells zv'.cells (n * i'.size)).toList[j] ∈ zv'.cells.toList := by
      have := Array.mem_of_getElem? h1.symm
      simpa using this
    have := hsc _ hm
    generalize (madeCells zv'.cells (n * i'.size)).toList[j] = u at *
    cases u <;> simp_all [scalar, Value.oneCell']
  have hown : (w.alloc (.cells (madeCells zv'.cells (n * i'.size)) e)).ownsRow 0 e i'.size (.slice (some ⟨w.heap.size, 0, none⟩) n n) n (madeCells zv'.cells (n * i'.size)).toList :=
    ⟨by simp [size_madeCells], .inr ⟨w.heap.size, n, _, rfl, Nat.zero_le _, heap_new w _, Nat.le_refl _, by simp only [maxLen]; omega, size_madeCells _ _, by rw [List.take_of_length_le (by simp [size_madeCells])]⟩⟩
  have := inv_add (w' := w.alloc (.cells (madeCells zv'.cells (n * i'.size)) e)) hI d (m1 := m) (fun _ _ h => h) ⟨rfl, rfl⟩ hfd (row := none) (World.grownBy_alloc w _ none) (fun b h => by cases h) (V := .slice (some ⟨w.heap.size, 0, none⟩) n n) (s := i'.size) (obj := .arr e i'.size (List.replicate n z) false)
    (fun b hb => by simp [blockOf] at hb; exact .inl (by omega)) (fun he => .arr (madeCells zv'.cells (n * i'.size)).toList (if_pos rfl) (by
        have hβ : (addId g (newId d m) (.slice (some ⟨w.heap.size, 0, none⟩) n n) i'.size).β (newId d m) = .slice (some ⟨w.heap.size, 0, none⟩) n n := if_pos rfl
        rw [hβ, List.length_replicate]; exact hown) (fun k x hx => by
        rw [List.eq_of_mem_replicate (List.mem_of_getElem? hx)]; exact hzlen) (fun k x hx j c hj => by
        have hkn : k < n := by rw [← List.length_replicate (n := n) (a := z)]; exact (List.getElem?_eq_some_iff.1 hx).1
        rw [List.eq_of_mem_replicate (List.mem_of_getElem? hx)] at hj
        have hjs : j < i'.size := by rw [← hzlen]; exact (List.getElem?_eq_some_iff.1 hj).1
        obtain ⟨u, h1, h2⟩ := hget k j hkn hjs
        refine ⟨u, h1, ?_⟩
        rw [hcs, List.getElem?_map, h2] at hj
        simp at hj
        subst hj
        exact repP_nrm0 (hsc u (List.mem_of_getElem? h2))) hone (fun b o hb hF => by
        have hβ : (addId g (newId d m) (.slice (some ⟨w.heap.size, 0, none⟩) n n) i'.size).β (newId d m) = .slice (some ⟨w.heap.size, 0, none⟩) n n := if_pos rfl
        rw [hβ] at hb
        simp [blockOf] at hb
        have := hI.flt b o hF
        omega))
  refine ⟨.slice (some ⟨w.heap.size, 0, none⟩) n n, _, _, hr, this.1, .c ?_, this.2⟩
  have := RepC.view (g := addId g (newId d m) (.slice (some ⟨w.heap.size, 0, none⟩) n n) i'.size) (w := w.alloc (.cells (madeCells zv'.cells (n * i'.size)) e)) (o := newId d m) (lo := 0) (n := n) (len := n) (cap := n) (a := some ⟨w.heap.size, 0, none⟩) (a' := some ⟨w.heap.size, 0, none⟩) (.inl rfl) (if_pos rfl) (by omega)
    (fun _ => by simp [Addr.add]) (fun ad h => by simp at h; subst h; rfl)
  simpa using this
end
end Go.Abs
