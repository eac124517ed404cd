/- Proved here: what functions of the given program come to, for the statements of this chapter; no condition but those in the theorems. -/
import Derived.Test.YthkimpoeiighoaaF17
import Derived.Test.YthkimpoeiighoaaPRiver3
namespace Go.Proofs
open Go Go.Abs
set_option linter.unusedSimpArgs false
set_option linter.unusedVariables false
set_option maxRecDepth 4000
theorem psJ_ok : FunG Try.prog 42 (R_psJ 41) := by
  intro args os k h
  obtain ⟨r, loc, w, rfl, rfl, hr, hw, hf, hv, hll, h1, h2⟩ := h
  have hml := eL_len loc
  have hmk := eK_len r.ls
  have hmw := eV_len w
  have hwl := hw.l
  have hrl := hr.len
  refine doesG_ex (qc := qc1) (np := []) (CK := ckK [(56, cG (R_vis 3 41))]) mixed Try.func42 rfl rfl Try.ntmps42 Try.results42 τ_ok (by kernel_rfl) (ckK_ok ⟨cG_ok vis_ok rfl, trivial⟩) (by simp) rfl rfl ?_
  conv => whnf
  refine Fork.mk (fun h => ?_) (fun h => ?_)
  · have e : passX r w loc = .error 3 := by rw [passX, if_pos (by simp at h; omega)]
    conv => whnf
    exact ⟨rfl, rfl, h2 3 e (by omega) w rfl⟩
  have hln : (loc.length : Int) = r.n := by simp at h; omega
  clear h
  have hn40 := hr.n
  obtain ⟨n, ls⟩ := r
  dsimp only at hln hn40 hmk hrl hwl
  subst hln
  conv => whnf
  refine ⟨⟨rfl, by show (0 : Int) ≤ (loc.length : Int); omega, by show ((loc.length : Nat) : Int) * 8 ≤ _; omega⟩, ?_⟩
  conv => whnf
  refine ⟨Ls × List Ls × Nat × Nat, fun s => ([(8, .c (.ptr (.l 8 4) 0)), (9, .c (.fn 56 [.ptr (.l 5 2) 0, .ptr (.l 8 4) 0, .ptr (.l 3 0) 0, .ptr (.l 4 1) 0])), (22, I loc.length), (23, I s.2.2.1)], ⟨[(.x 0, .arr 41 1 (eV s.2.1) false), (.l 3 0, .blk (rvC ⟨loc.length, ls⟩)), (.l 4 1, .blk [.view (.x 0) 0 w.length]), (.l 5 2, .blk [.lst (eL loc)]), (.l 19 3, .arr 3 1 (eL s.1) false), (.l 8 4, .blk [.view (.l 19 3) 0 loc.length])], 9, []⟩),
    fun s => passI ⟨loc.length, ls⟩ w loc s.1 s.2.1 s.2.2.1 s.2.2.2 ∧ s.2.2.1 ≤ loc.length ∧ vfin s.2.1, fun s => loc.length - s.2.2.1, (List.replicate loc.length 0, w, 0, 0), ⟨passI.zero hr hw rfl, Nat.zero_le _, hv⟩, Shift.reset ⟨rfl, rfl, rfl, rfl, trivial⟩ ⟨rfl, rfl, rfl, rfl, ?_, rfl, trivial⟩ rfl rfl, fun s hs => ?_⟩
  · show some (MObj.arr 3 1 (List.replicate (Int.toNat (loc.length : Int)) (eI 0)) false) = some (MObj.arr 3 1 (eL (List.replicate loc.length 0)) false)
    rw [Int.toNat_natCast, show eL (List.replicate loc.length 0) = List.replicate loc.length (eI 0) from List.map_replicate]
  obtain ⟨arr, w', k, i⟩ := s
  obtain ⟨hI, hk, hv'⟩ := hs
  dsimp only at hI hk hv' ⊢
  have hal := hI.len
  have hwl' := hI.wl
  conv => whnf
  refine Fork.mk (fun h => ?_) (fun h => ?_)
  rotate_left
  · have hke : k = loc.length := by simp at h; omega
    obtain ⟨d1, d2⟩ := hI.done hr hw (by show (arr.length : Int) = loc.length; omega) (by omega)
    have e := passX_ok (r := ⟨loc.length, ls⟩) rfl d2 d1
    conv => whnf
    have ht : List.take loc.length (List.drop 0 (eL arr)) = eL arr := by rw [List.drop_zero, List.take_of_length_le (by rw [eL_len]; omega)]
    refine ⟨by rw [eL_len]; omega, ?_⟩
    conv => whnf
    rw [ht]
    exact ⟨rfl, rfl, h1 _ e⟩
  have hkl : k < loc.length := by simp at h; omega
  clear h
  have hw1 := wr_succ (i := k) (by omega)
  conv => whnf
  refine ⟨[.l 5 2, .l 8 4, .l 3 0, .l 4 1, .l 19 3, .x 0], rfl, ?_⟩
  conv => whnf
  refine ⟨rfl, ?_⟩
  conv => whnf
  refine ⟨rfl, ?_⟩
  have ho : ∀ x y, visO 3 41 arr.length w'.length x loc arr y = visO 3 41 loc.length w.length x loc arr y := fun x y => by rw [hal, hwl']
  refine ⟨⟨loc.length, ls⟩, loc, arr, w', k, rfl, (ho _ _).symm, ⟨hr, hI.fit, hf, hv', by omega, hal.symm, by show (arr.length : Int) = loc.length; omega, hI.bound hr⟩, fun e => ?_, fun e1 e2 => ?_, fun e1 m l p e2 e3 e4 e5 => ?_⟩
  · have e := passX_bad (r := ⟨loc.length, ls⟩) (w := w) rfl (.inl (all_false hkl e))
    rw [hal, hwl']
    conv => whnf
    (repeat ((first | refine fork_t ?_ | refine fork_f ?_); (conv => whnf)))
    exact ⟨rfl, rfl, h2 1 e (by omega) w' hwl'⟩
  · have hI' := hI.nol (by omega) e1 e2
    rw [hal, hwl']
    conv => whnf
    (repeat ((first | refine fork_t ?_ | refine fork_f ?_); (conv => whnf)))
    rw [hw1]
    exact ⟨(_, w', k + 1, i), ⟨hI', hkl, hv'⟩, Shift.reset ⟨rfl, rfl, rfl, rfl, trivial⟩ ⟨rfl, rfl, rfl, rfl, rfl, rfl, trivial⟩ rfl rfl, by dsimp only; omega⟩
  · obtain ⟨q1, q2⟩ := passI.link hr hI (by show (arr.length : Int) = loc.length; omega) (by omega) e1 e4 e3 e5
    refine ⟨fun e => ?_, fun e => ?_⟩
    · have e := passX_bad (r := ⟨loc.length, ls⟩) (w := w) rfl (.inr (q1 e))
      rw [hal, hwl']
      conv => whnf
      (repeat ((first | refine fork_t ?_ | refine fork_f ?_); (conv => whnf)))
      exact ⟨rfl, rfl, h2 1 e (by omega) w' hwl'⟩
    · obtain ⟨_, hI'⟩ := q2 e
      have hv2 : vfin (w'.set m (stepF l.ws l.den p (gN arr k + gN loc k))) := by
        refine ⟨by rw [List.length_set]; exact hv'.1, fun x hx => ?_⟩
        rcases List.mem_or_eq_of_mem_set hx with hx | rfl
        · exact hv'.2 x hx
        · have := stepF_len l.ws l.den p (gN arr k + gN loc k)
          have := hf.2 l (List.mem_of_getElem? e4)
          omega
      rw [hal, hwl']
      conv => whnf
      (repeat ((first | refine fork_t ?_ | refine fork_f ?_); (conv => whnf)))
      rw [hw1]
      exact ⟨(_, _, k + 1, i + 1), ⟨hI', hkl, hv2⟩, Shift.reset ⟨rfl, rfl, rfl, rfl, trivial⟩ ⟨rfl, rfl, rfl, rfl, rfl, rfl, trivial⟩ rfl rfl, by dsimp only; omega⟩
end Go.Proofs
