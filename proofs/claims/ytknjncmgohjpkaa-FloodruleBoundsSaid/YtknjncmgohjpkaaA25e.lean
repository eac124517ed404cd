/- Proved here: what functions of the given program come to, for the statements of this chapter; no condition but those in the theorems. -/
import Derived.Test.YtknjncmgohjpkaaA25d
namespace Go.Proofs
open Go Go.Abs
set_option linter.unusedSimpArgs false
set_option linter.unusedVariables false
set_option maxRecDepth 20000
theorem runG_app {f : Fr} {r : Rs} : ∀ {l l2 : Ls} {s : Fs} {v : Int} {vs os : Ls} {e : Fs}, runG f r s v l = some (vs, os, e) → runG f r s v (l ++ l2) = (runG f r e ((v :: vs).getLast (by simp)) l2).map (fun z => (vs ++ z.1, os ++ z.2.1, z.2.2))
  | [], l2, s, v, vs, os, e, h => by
    simp [runG] at h
    obtain ⟨rfl, rfl, rfl⟩ := h
    exact optId _
  | x :: l, l2, s, v, vs, os, e, h => by
    rw [runG] at h
    rw [List.cons_append, runG]
    split at h
    · cases h
    rename_i h5
    rw [if_neg h5]
    split at h
    · cases h
    rename_i vs' os' e' h1
    simp at h
    obtain ⟨rfl, rfl, rfl⟩ := h
    rw [runG_app h1]
    have e1 : (v :: volN f r s v x :: vs').getLast (by simp) = (volN f r s v x :: vs').getLast (by simp) := List.getLast_cons (by simp)
    rw [e1]
    cases runG f r e' ((volN f r s v x :: vs').getLast (by simp)) l2 with
    | none => rfl
    | some z => obtain ⟨a, b, c⟩ := z; rfl
theorem runG_some {f : Fr} {r : Rs} {B : Int} : ∀ {l : Ls} {s : Fs} {v : Int}, 0 ≤ v → (∀ x ∈ l, 0 ≤ x ∧ x ≤ B) → v + B * l.length ≤ 274877906944 → ∃ vs os e, runG f r s v l = some (vs, os, e)
  | [], s, v, _, _, _ => ⟨_, _, _, rfl⟩
  | x :: l, s, v, hv, hx, hb => by
    have hx0 := hx x (by simp)
    have ho := outS_b (f := f) (r := r) (s := s) hv hx0.1
    have hn : 0 ≤ volN f r s v x ∧ volN f r s v x ≤ v + B := by unfold volN; omega
    have hm : B * ((l.length : Int) + 1) = B * l.length + B := by rw [Int.mul_add, Int.mul_one]
    have hp : 0 ≤ B * (l.length : Int) := Int.mul_nonneg (by omega) (by omega)
    rw [List.length_cons, Int.natCast_add, show ((1 : Nat) : Int) = 1 from rfl, hm] at hb
    obtain ⟨vs, os, e, h⟩ := runG_some (f := f) (r := r) (l := l) (s := stS f r s v) hn.1 (fun y hy => hx y (by simp [hy])) (by omega)
    exact ⟨_, _, _, by rw [runG, if_neg (by omega), h]⟩
theorem next_sound {f : Fr} {s : Fs} {x : Int} (h : soundF f s = true) (hc : 1 ≤ f.cm) : soundF f (nextF f s x) = true := by
  have h' := h
  simp [soundF] at h'
  unfold nextF
  split
  · simp [soundF]; omega
  split
  · simp [soundF]; omega
  split
  · simp [soundF]; omega
  split
  · simp [soundF]; omega
  · simp [soundF]; omega
theorem runG_sound {f : Fr} {r : Rs} (hc : 1 ≤ f.cm) : ∀ {l : Ls} {s : Fs} {v : Int} {vs os : Ls} {e : Fs}, runG f r s v l = some (vs, os, e) → soundF f s = true → soundF f e = true
  | [], s, v, vs, os, e, h, hs => by
    simp [runG] at h
    rw [← h.2.2]; exact hs
  | x :: l, s, v, vs, os, e, h, hs => by
    rw [runG] at h
    split at h
    · cases h
    split at h
    · cases h
    rename_i vs' os' e' h1
    simp at h
    rw [← h.2.2]
    exact runG_sound hc h1 (next_sound hs hc)
theorem runR_of {f : Fr} {r : Rs} {s : Fs} {v : Int} {l vs os : Ls} {e : Fs} (h1 : fckE f r = 0) (h2 : soundF f s = true) (h3 : 0 ≤ v ∧ v ≤ 274877906944) (h4 : ∀ x ∈ l, 0 ≤ x ∧ x ≤ 1073741824) (h5 : l.length ≤ 400) (h6 : runG f r s v l = some (vs, os, e)) : runR f r s v l = ((v :: vs, os), e, 0) := by
  have hb : l.any badX = false := by
    cases e : l.any badX with
    | false => rfl
    | true =>
      obtain ⟨x, hx, hx2⟩ := List.any_eq_true.1 e
      have := h4 x hx
      simp [badX] at hx2
      omega
  unfold runR
  rw [if_neg (by simp [h1]), if_neg (by simp [h2]), if_neg (by simp [hb]; omega), if_neg (by omega), runC', h6]
theorem keepsR_of {f : Fr} {r : Rs} {s : Fs} {v : Int} {l vs os : Ls} {e : Fs} (h : runR f r s v l = ((v :: vs, os), e, 0)) : keepsR f r s v l = (decide (mxG v vs ≤ (volS r r.sur).1), mxG v vs, 0) := by
  unfold keepsR
  rw [h, if_neg (by simp)]
  rfl
theorem mxG_le {c : Int} : ∀ {l : Ls} {m : Int}, mxG m l ≤ c ↔ m ≤ c ∧ ∀ x ∈ l, x ≤ c
  | [], m => by simp [mxG]
  | x :: l, m => by
    rw [mxG, mxG_le]
    constructor
    · intro ⟨h1, h2⟩
      refine ⟨by split at h1 <;> omega, fun y hy => ?_⟩
      rcases List.mem_cons.1 hy with rfl | hy
      · split at h1 <;> omega
      · exact h2 y hy
    · intro ⟨h1, h2⟩
      have := h2 x (by simp)
      exact ⟨by split <;> omega, fun y hy => h2 y (by simp [hy])⟩
theorem mk_fck {f : Fr} {r : Rs} (h : mkF f r) (hr : ckS r = 0) : fckE f r = 0 := by
  have a := h.t.e
  have b := h.s
  have c := h.e
  have d := h.c
  unfold fckE
  rw [if_neg (by simp [hr]), if_neg (by simp [a]), if_neg (by omega), if_neg (by omega)]
/-- Two runs, one behind the other. -/
theorem two_runs {f : Fr} {r : Rs} {s : Fs} {v : Int} {l : Ls} {k : Nat} (hf : mkF f r) (hr : ckS r = 0) (hs : soundF f s = true) (hv : 0 ≤ v ∧ v ≤ 299) (hx : ∀ x ∈ l, 0 ≤ x ∧ x < 30) (hl : l.length ≤ 12) (hk : k ≤ l.length) :
    ∃ (vs os : Ls) (e : Fs) (vs1 os1 : Ls) (e1 : Fs) (vs2 os2 : Ls) (w : Int), runR f r s v l = ((v :: vs, os), e, 0) ∧ runR f r s v (l.take k) = ((v :: vs1, os1), e1, 0) ∧ (v :: vs1)[k]? = some w ∧ runR f r e1 w (l.drop k) = ((w :: vs2, os2), e, 0) ∧
      v :: vs = (v :: vs1).take k ++ (w :: vs2) ∧ os = os1 ++ os2 ∧ vs.length = l.length ∧ vs1.length = k ∧ os1.length = k ∧ os2.length = l.length - k ∧ vs2.length = l.length - k ∧ mxG v vs = (if mxG v vs1 < mxG w vs2 then mxG w vs2 else mxG v vs1) := by
  have hck := mk_fck hf hr
  have hx' : ∀ x ∈ l, 0 ≤ x ∧ x ≤ 29 := fun x h => by have := hx x h; omega
  have hxt : ∀ x ∈ l.take k, 0 ≤ x ∧ x ≤ 29 := fun x h => hx' x (List.mem_of_mem_take h)
  have hxd : ∀ x ∈ l.drop k, 0 ≤ x ∧ x ≤ 29 := fun x h => hx' x (List.mem_of_mem_drop h)
  obtain ⟨vs1, os1, e1, h1⟩ := runG_some (f := f) (r := r) (s := s) hv.1 hxt (by rw [List.length_take]; omega)
  obtain ⟨vs, os, e, h⟩ := runG_some (f := f) (r := r) (s := s) hv.1 hx' (by omega)
  obtain ⟨n1, n2⟩ := runG_len h1
  obtain ⟨n3, n4⟩ := runG_len h
  rw [List.length_take, Nat.min_eq_left hk] at n1 n2
  have ha := runG_app (l2 := l.drop k) h1
  rw [List.take_append_drop, h] at ha
  have hw := List.getElem?_eq_getElem (show k < (v :: vs1).length by simp; omega)
  have hlast : (v :: vs1).getLast (by simp) = (v :: vs1)[k]'(by simp; omega) := by
    rw [List.getLast_eq_getElem]
    congr 1
  rw [hlast] at ha
  have hwb := runG_v h1 hv.1 (fun x h => by have := hxt x h; omega)
  have hwm : (v :: vs1)[k]'(by simp; omega) ∈ v :: vs1 := List.getElem_mem _
  have htk : (v :: vs1) = (v :: vs1).take k ++ [(v :: vs1)[k]'(by simp; omega)] := by
    rw [List.take_append_getElem]
    rw [List.take_of_length_le (by simp; omega)]
  generalize (v :: vs1)[k]'(by simp; omega) = w at ha hw hwm htk
  have hw0 : 0 ≤ w ∧ w ≤ 274877906944 := by
    rcases List.mem_cons.1 hwm with rfl | hm
    · omega
    · exact hwb w hm
  cases h2 : runG f r e1 w (l.drop k) with
  | none => rw [h2] at ha; cases ha
  | some z =>
    obtain ⟨vs2, os2, e2⟩ := z
    rw [h2] at ha
    simp only [Option.map_some, Option.some.injEq, Prod.mk.injEq] at ha
    obtain ⟨rfl, rfl, rfl⟩ := ha
    obtain ⟨n5, n6⟩ := runG_len h2
    rw [List.length_drop] at n5 n6
    refine ⟨_, _, _, vs1, os1, e1, vs2, os2, w, runR_of hck hs (by omega) (fun x h => by have := hx' x h; omega) (by omega) h, runR_of hck hs (by omega) (fun x h => by have := hxt x h; omega) (by rw [List.length_take]; omega) h1, hw,
      runR_of hck (runG_sound hf.c.1 h1 hs) hw0 (fun x h => by have := hxd x h; omega) (by rw [List.length_drop]; omega) h2, ?_, rfl, n3, n1, n2, n6, n5, ?_⟩
    · rw [show (w :: vs2) = [w] ++ vs2 from rfl, ← List.append_assoc, ← htk]
      rfl
    · have key : ∀ a b : Int, (∀ c, a ≤ c ↔ b ≤ c) → a = b := fun a b h => Int.le_antisymm ((h b).2 (Int.le_refl _)) ((h a).1 (Int.le_refl _))
      apply key
      intro c
      rw [mxG_le]
      have k1 := @mxG_le c vs1 v
      have k2 := @mxG_le c vs2 w
      have k3 : (if mxG v vs1 < mxG w vs2 then mxG w vs2 else mxG v vs1) ≤ c ↔ mxG v vs1 ≤ c ∧ mxG w vs2 ≤ c := by split <;> omega
      rw [k3, k1, k2]
      constructor
      · intro ⟨q1, q2⟩
        refine ⟨⟨q1, fun x hx => q2 x (by simp [hx])⟩, ?_, fun x hx => q2 x (by simp [hx])⟩
        rcases List.mem_cons.1 hwm with rfl | hm
        · exact q1
        · exact q2 w (by simp [hm])
      · intro ⟨⟨q1, q2⟩, q3, q4⟩
        refine ⟨q1, fun x hx => ?_⟩
        rcases List.mem_append.1 hx with hx | hx
        · exact q2 x hx
        · exact q4 x hx
def R_parts : RT := fun args k => ∃ (l : Ls) (c : Int), args = [.c (.lst (eL l)), .c (.sc (.int .u8 c))] ∧ (0 ≤ c ∧ c ≤ 255) ∧ l.length ≤ 9223372036854775807 ∧ k (Bo true)
set_option maxHeartbeats 2000000 in
theorem parts_ok : FunR Try.prog 7 R_parts := by
  intro args k h
  obtain ⟨l, c, rfl, hc, hl, hk⟩ := h
  refine does_ex (qc := qc1) (np := [(13, [(0, 13), (1, 13), (2, 13), (6, 13), (7, 13)]), (16, [(0, 16), (1, 16), (2, 16), (5, 16), (6, 16), (9, 16), (10, 16)])]) (CK := ckK [(8, cSc R_tt), (9, cSc R_few), (10, cN R_new), (12, cB R_resv), (11, cB R_mkF), (17, cB R_state), (23, cB R_next), (24, cB R_flw), (26, cH R_runH), (29, cSc R_keeps), (28, cSc R_ints)]) mixed Try.func7 rfl rfl Try.ntmps7 Try.results7 τ_ok (by kernel_rfl) (ckK_ok ⟨cSc_ok sane_ok, cSc_ok few_ok, cN_ok new_ok rfl, cB_ok resv_ok rfl, cB_ok rule_ok rfl, cB_ok state_ok rfl, cB_ok next_ok rfl, cB_ok flows_ok rfl, cH_ok runH_ok rfl, cSc_ok keeps_ok, cSc_ok ints_ok, trivial⟩) (by simp) ?_
  conv => whnf
  refine ⟨rfl, ?_⟩
  conv => whnf
  refine fork_f ?_
  conv => whnf
  refine ⟨l, rfl, ?_⟩
  conv => whnf
  refine Fork.mk (fun h => ?_) (fun h => ?_)
  · conv => whnf
    repeat' ((first | refine fork_t ?_ | refine fork_f ?_ | (refine Fork.mk (fun h => ?_) (fun h => ?_); focus (simp at h; done)) | fail) <;> (conv => whnf))
    exact hk
  clear h
  conv => whnf
  refine ⟨l, rfl, ?_⟩
  conv => whnf
  refine ⟨⟨l, 0⟩, rfl, ⟨Nat.zero_le _, hl⟩, fun res d hd hres hresl => ?_⟩
  have hrl := hres.lv
  have hrh := hres.hi
  have hrz := hres.lo
  conv => whnf
  refine ⟨d, res, rfl, rfl, hd, by omega, fun f d hd hf => ?_⟩
  have hfb := hf.b
  have hfe := hf.e
  have hfc := hf.c
  have hff := hf.t.fin
  have hr2 : res.st.length ≤ 9223372036854775807 := by omega
  conv => whnf
  refine ⟨d, f, rfl, rfl, hd, by omega, fun s d hd hs hs2 => ?_⟩
  conv => whnf
  refine ⟨d, rfl, hd, by omega, fun n d hd hn1 hn2 => ?_⟩
  obtain ⟨N, rfl⟩ := Int.eq_ofNat_of_zero_le hn1
  have e1 : IntKind.i64.wrap (1 + (N : Int)) = ((N + 1 : Nat) : Int) := by rw [wrap_in (by omega) (by omega)]; omega
  conv => whnf
  rw [e1]
  refine ⟨d, N + 1, 30, rfl, rfl, hd, by omega, by omega, fun made d hd hml hmb => ?_⟩
  conv => whnf
  refine ⟨d, rfl, hd, by omega, fun v d hd hv1 hv2 => ?_⟩
  have hmm := eL_len made
  have e2 : IntKind.i64.wrap c = c := wrap_in (by omega) (by omega)
  have e3 : IntKind.i64.wrap (((eL made).length : Int) + 1) = ((made.length + 1 : Nat) : Int) := by rw [hmm, wrap_in (by omega) (by omega)]; omega
  conv => whnf
  rw [e2, e3]
  refine ⟨by omega, ?_⟩
  obtain ⟨K, hK, hKl⟩ : ∃ K : Nat, c.tmod ((made.length + 1 : Nat) : Int) = K ∧ K ≤ made.length := by
    have h1 := Int.tmod_lt_of_pos c (show (0 : Int) < ((made.length + 1 : Nat) : Int) by omega)
    have h2 := Int.tmod_nonneg ((made.length + 1 : Nat) : Int) hc.1
    exact ⟨(c.tmod ((made.length + 1 : Nat) : Int)).toNat, by omega, by omega⟩
  have hss : soundF f s = true := by
    obtain ⟨on, cm⟩ := s
    dsimp only at hs hs2
    cases on <;> simp [soundF] <;> simp at hs2 <;> omega
  obtain ⟨vs, os, e, vs1, os1, e9, vs2, os2, w, r1, r2, r3, r4, r5, r6, n1, n2, n3, n4, n5, r7⟩ := two_runs (k := K) (l := made) (v := v) hf hres.ck hss (by omega) (fun x hx => by have := hmb x hx; omega) (by omega) hKl
  have k1 := keepsR_of r1
  have k2 := keepsR_of r2
  have k3 := keepsR_of r4
  have htk : List.drop (((0 : Nat) : Int)).toNat (List.take ((K : Int)).toNat (eL made)) = eL (made.take K) := by rw [Int.toNat_natCast, Int.toNat_natCast]; exact eL_take made K
  have hdk : List.drop ((K : Int)).toNat (List.take (((eL made).length : Int)).toNat (eL made)) = eL (made.drop K) := by rw [Int.toNat_natCast, Int.toNat_natCast, List.take_length]; exact eL_drop made K
  conv => whnf
  rw [hK]
  refine ⟨[], rfl, ?_⟩
  conv => whnf
  refine ⟨rfl, ?_⟩
  conv => whnf
  refine ⟨rfl, ?_⟩
  conv => whnf
  refine ⟨f, res, s, v, made, vs, os, e, rfl, rfl, hff, hr2, by omega, r1, ?_⟩
  conv => whnf
  refine ⟨by omega, ?_⟩
  conv => whnf
  refine ⟨eL_all made, ?_⟩
  rw [htk]
  conv => whnf
  refine ⟨[], rfl, ?_⟩
  conv => whnf
  refine ⟨rfl, ?_⟩
  conv => whnf
  refine ⟨rfl, ?_⟩
  conv => whnf
  refine ⟨f, res, s, v, made.take K, vs1, os1, e9, rfl, rfl, hff, hr2, by rw [List.length_take]; omega, r2, ?_⟩
  have hm1 := eL_len (v :: vs1)
  have hm0 := eL_len (v :: vs)
  rw [List.length_cons] at hm1 hm0
  conv => whnf
  repeat' ((first | refine fork_t ?_ | refine fork_f ?_ | (refine Fork.mk (fun h => ?_) (fun h => ?_); focus (simp at h; done)) | fail) <;> (conv => whnf))
  have hwk := wr_succ (i := K) (by omega)
  refine Fork.mk (fun h => ?_) (fun h => ?_)
  · exfalso; rw [hwk, hm1] at h; simp at h; omega
  clear h
  conv => whnf
  repeat' ((first | refine fork_t ?_ | refine fork_f ?_ | (refine Fork.mk (fun h => ?_) (fun h => ?_); focus (simp at h; done)) | fail) <;> (conv => whnf))
  refine Fork.mk (fun h => ?_) (fun h => ?_)
  · exfalso; rw [e3, hm0] at h; simp at h; omega
  clear h
  conv => whnf
  repeat' ((first | refine fork_t ?_ | refine fork_f ?_ | (refine Fork.mk (fun h => ?_) (fun h => ?_); focus (simp at h; done)) | fail) <;> (conv => whnf))
  refine ⟨by omega, eI w, by rw [Int.toNat_natCast, List.getElem?_map, r3]; rfl, rfl, ?_⟩
  conv => whnf
  refine ⟨by omega, ?_⟩
  conv => whnf
  refine ⟨eL_all made, ?_⟩
  rw [hdk]
  conv => whnf
  refine ⟨[], rfl, ?_⟩
  conv => whnf
  refine ⟨rfl, ?_⟩
  conv => whnf
  refine ⟨rfl, ?_⟩
  conv => whnf
  refine ⟨f, res, e9, w, made.drop K, vs2, os2, e, rfl, rfl, hff, hr2, by rw [List.length_drop]; omega, r4, ?_⟩
  conv => whnf
  refine ⟨f, res, s, v, made, rfl, hff, hr2, by omega, ?_⟩
  rw [k1]
  conv => whnf
  refine ⟨by omega, ?_⟩
  conv => whnf
  refine ⟨eL_all made, ?_⟩
  rw [htk]
  conv => whnf
  refine ⟨f, res, s, v, made.take K, rfl, hff, hr2, by rw [List.length_take]; omega, ?_⟩
  rw [k2]
  conv => whnf
  refine ⟨by omega, eI w, by rw [Int.toNat_natCast, List.getElem?_map, r3]; rfl, rfl, ?_⟩
  conv => whnf
  refine ⟨by omega, ?_⟩
  conv => whnf
  refine ⟨eL_all made, ?_⟩
  rw [hdk]
  conv => whnf
  refine ⟨f, res, e9, w, made.drop K, rfl, hff, hr2, by rw [List.length_drop]; omega, ?_⟩
  rw [k3]
  conv => whnf
  repeat' ((first | refine fork_t ?_ | refine fork_f ?_ | (refine Fork.mk (fun h => ?_) (fun h => ?_); focus (simp at h; done)) | fail) <;> (conv => whnf))
  have htb : List.drop (((0 : Nat) : Int)).toNat (List.take ((K : Int)).toNat (eL (v :: vs1))) = eL ((v :: vs1).take K) := by rw [Int.toNat_natCast, Int.toNat_natCast]; exact eL_take (v :: vs1) K
  have hm2 := eL_len (w :: vs2)
  have hm3 := eL_len ((v :: vs1).take K)
  rw [List.length_take, List.length_cons, n2, Nat.min_eq_left (by omega)] at hm3
  rw [List.length_cons] at hm2
  have hmo := eL_len os1
  have hmo2 := eL_len os2
  refine ⟨by omega, ?_⟩
  conv => whnf
  refine ⟨rfl, ?_⟩
  conv => whnf
  refine ⟨eL_all _, ?_⟩
  rw [htb]
  conv => whnf
  refine ⟨eL_all _, ?_⟩
  conv => whnf
  refine ⟨⟨eL_all _, by rw [hm3]; simp; omega⟩, ?_⟩
  conv => whnf
  refine ⟨by rw [List.length_append, Nat.zero_add]; exact Nat.le_refl _, ?_⟩
  have hA : List.take ((eL ((v :: vs1).take K)).length + (eI w :: vs2.map eI).length) (List.drop 0 (eL ((v :: vs1).take K) ++ eI w :: vs2.map eI)) = eL (v :: vs) := by
    rw [List.drop_zero, List.take_of_length_le (by rw [List.length_append]; exact Nat.le_refl _), r5]
    simp [eL]
  conv => whnf
  rw [hA]
  refine ⟨v :: vs, v :: vs, rfl, by simp; omega, ?_⟩
  rw [decide_eq_true (show v :: vs = v :: vs from rfl)]
  conv => whnf
  repeat' ((first | refine fork_t ?_ | refine fork_f ?_ | (refine Fork.mk (fun h => ?_) (fun h => ?_); focus (simp at h; done)) | fail) <;> (conv => whnf))
  have hB : List.take os2.length (List.drop 0 (eL os2)) = eL os2 := by rw [List.drop_zero, List.take_of_length_le (by rw [hmo2]; exact Nat.le_refl _)]
  have hC : List.take os.length (List.drop 0 (eL os)) = eL os := by rw [List.drop_zero, List.take_of_length_le (by rw [eL_len]; exact Nat.le_refl _)]
  have hD : List.take ((eL os1).length + (eL os2).length) (List.drop 0 (eL os1 ++ eL os2)) = eL os := by
    rw [List.drop_zero, List.take_of_length_le (by rw [List.length_append]; exact Nat.le_refl _), r6]
    simp [eL]
  refine ⟨by rw [hmo2, Nat.zero_add]; exact Nat.le_refl _, ?_⟩
  rw [hB]
  conv => whnf
  refine ⟨eL_all _, ?_⟩
  conv => whnf
  refine ⟨⟨rfl, rfl, rfl, hmo.symm, by rw [hmo, hmo2]; simp; omega⟩, ?_⟩
  conv => whnf
  refine ⟨by rw [eL_len, Nat.zero_add]; exact Nat.le_refl _, ?_⟩
  conv => whnf
  refine ⟨by rw [List.length_append, Nat.zero_add]; exact Nat.le_refl _, ?_⟩
  conv => whnf
  rw [hC, hD]
  refine ⟨os, os, rfl, by have := (runG_len (f := f) (r := res) (s := s) (v := v) (l := made) (vs := vs) (os := os) (e := e)); rw [r6, List.length_append]; omega, ?_⟩
  rw [decide_eq_true (show os = os from rfl)]
  conv => whnf
  repeat' ((first | refine fork_t ?_ | refine fork_f ?_ | (refine Fork.mk (fun h => ?_) (fun h => ?_); focus (simp at h; done)) | fail) <;> (conv => whnf))
  refine Fork.mk (fun h => ?_) (fun h => ?_)
  rotate_left
  · exfalso; simp at h
  clear h
  rw [r7]
  clear hA hB hC hD htk hdk htb r1 r2 r3 r4 r5 r6 r7 k1 k2 k3
  generalize mxG v vs1 = B
  generalize mxG w vs2 = C
  generalize (volS res res.sur).1 = L
  have key : decide ((if B < C then C else B) ≤ L) = (decide (B ≤ L) && decide (C ≤ L)) := by
    rw [← Bool.decide_and]
    apply decide_eq_decide.2
    split <;> omega
  rw [key]
  cases decide (B ≤ L) <;> cases decide (C ≤ L) <;> (conv => whnf) <;> (
    repeat' ((first | refine fork_t ?_ | refine fork_f ?_ | (refine Fork.mk (fun h => ?_) (fun h => ?_); focus (simp at h; done)) | fail) <;> (conv => whnf))
    exact kBo hk (by simp))
end Go.Proofs
