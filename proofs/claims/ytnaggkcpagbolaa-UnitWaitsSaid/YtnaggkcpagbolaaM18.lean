/- Proved here: what functions of the given program come to, for the statements of this chapter; no condition but those in the theorems. -/
import Derived.Test.YtnaggkcpagbolaaL18
namespace Go.Proofs
open Go Go.Abs
set_option linter.unusedSimpArgs false
set_option linter.unusedVariables false
set_option maxRecDepth 4000
theorem waits_ok : FunR Try.prog 5 (R_law1 0) := by
  intro args k h
  unfold R_law1 at h
  split at h
  case h_2 => exact h.elim
  obtain ⟨⟨l, rfl, hl⟩, ⟨xs, rfl, hx⟩, hk⟩ := h
  obtain rfl : xs = [] := List.eq_nil_of_length_eq_zero hx
  refine does_ex (qc := qc1) (np := [(8, [(4, 8)])]) (CK := ckK [(9, cN R_new), (10, cB R_mkU), (11, cB R_mkS), (12, cB R_next), (21, cPq R_flS), (19, cSc (R_usQB mayV)), (17, cSc R_nextS), (8, cSc R_tt)]) mixed Try.func5 rfl rfl Try.ntmps5 Try.results5 τ_ok (by kernel_rfl) (ckK_ok ⟨cN_ok new_ok rfl, cB_ok mkU_ok rfl, cB_ok mkS_ok rfl, cB_ok next_ok rfl, cPq_ok flows_ok, cSc_ok May_ok, cSc_ok next_ok', cSc_ok awake_ok, trivial⟩) (by simp) ?_
  conv => whnf
  refine ⟨l, rfl, ?_⟩
  conv => whnf
  refine ⟨⟨l, 0⟩, rfl, rfl, ⟨Nat.zero_le _, hl⟩, fun u d hd hu => ?_⟩
  conv => whnf
  refine ⟨d, u, rfl, rfl, hd, hu, fun s0 d hd hs => ?_⟩
  conv => whnf
  refine ⟨u, 1, rfl, hu.fin, ?_⟩
  have hfs := flS_mk (g := 1) hu (by omega) (by omega)
  rw [show (flS u 1).1 = flT u 1 (u.mo + 1) by rw [hfs], show (flS u 1).2 = 0 by rw [hfs]]
  clear hfs
  have hc := ckU_of hu.ok
  have hln := flT_mk (g := 1) hu
  have hmem : ∀ q ∈ flT u 1 (u.mo + 1), runB u q = true := fun q hq => by
    obtain ⟨h1, h2⟩ := flT_mem.1 hq
    simp [okQ] at h2
    exact runB_iff.2 ⟨by omega, h2⟩
  generalize flT u 1 (u.mo + 1) = fl at hln hmem
  have hm := eL_len fl
  have hf0 : fitB u ⟨s0.fl, s0.si, false⟩ = true := by
    have := hs.f
    simp [fitB] at this ⊢
    exact ⟨this.1, this.2.imp id fun h => h.2⟩
  have hsi := hs.s
  have hpos := fit_pos hc hf0
  have hup := hu.hup
  have hdn := hu.hdn
  obtain ⟨fl0, si0, ot0⟩ := s0
  dsimp only at hf0 hsi hpos
  clear hs
  conv => whnf
  repeat (first | refine fork_f ?_ | refine fork_t ?_); (conv => whnf)
  refine Fork.mk (fun h => ?_) (fun h => ?_)
  · conv => whnf
    repeat' ((first | refine fork_t ?_ | refine fork_f ?_ | refine Fork.mk (fun h => ?_) (fun h => ?_) | refine ⟨rfl, ?_⟩ | fail) <;> (conv => whnf))
    exact hk
  have hne : 0 < fl.length := by simp at h; exact List.length_pos_iff.2 h
  conv => whnf
  refine ⟨d, rfl, hd, by omega, fun i d hd hi1 hi2 => ?_⟩
  obtain ⟨j, rfl⟩ : ∃ j : Nat, i = j := ⟨i.toNat, by omega⟩
  have hj : j < fl.length := by omega
  have hci := List.getElem?_eq_getElem hj
  have hq := hmem _ (List.getElem_mem hj)
  generalize fl[j] = q at hci hq
  have hqp := run_pos hc hq
  conv => whnf
  refine ⟨by omega, eI q, by rw [Int.toNat_natCast, List.getElem?_map, hci]; rfl, rfl, ?_⟩
  conv => whnf
  refine Fork.mk (fun h => ?_) (fun h => ?_)
  · have h0 : 0 < fl0 := by simpa using h
    conv => whnf
    refine ⟨Us, fun s => ([(4, .c (.ptr (.l 4 1) 0)), (5, .c (.ptr (.l 5 2) 0)), (8, I 0), (9, I u.up)], ⟨[(.l 4 1, .blk (unC u)), (.l 5 2, .blk (usC s))], 5, []⟩),
      fun s => s.ot = false ∧ fitB u s = true ∧ s.si ≤ 4 ∧ s.fl = fl0, fun s => (u.up - s.si).toNat, ⟨fl0, si0, false⟩, ⟨rfl, hf0, hsi.2, rfl⟩,
      Shift.reset ⟨rfl, rfl, rfl, rfl, trivial⟩ ⟨rfl, rfl, trivial⟩ rfl rfl, fun s hs => ?_⟩
    obtain ⟨s1, s2, s3, s4⟩ := hs
    have hsi := fit_si s2
    have hmb : mayB u s 0 = decide (u.up ≤ s.si) := by unfold mayB; rw [if_pos rfl, if_pos (by omega)]
    have hmv := mayV_of (q := 0) hc s2
    have hn := nextU_same hc s2 (by omega)
    dsimp only
    conv => whnf
    refine Fork.mk (fun h => ?_) (fun h => ?_)
    · have hlt : s.si < u.up := by simpa using h
      conv => whnf
      refine ⟨u, s, 0, rfl, hu.fin, ?_⟩
      rw [hmv, hmb, show decide (u.up ≤ s.si) = false by simp; omega]
      conv => whnf
      refine fork_f ?_
      conv => whnf
      refine ⟨u, s, s.fl, rfl, hu.fin, ?_⟩
      rw [show (nextS u s s.fl).1 = ⟨s.fl, s.si + 1, s.ot⟩ by rw [hn], show (nextS u s s.fl).2.1 = false by rw [hn], show (nextS u s s.fl).2.2 = 0 by rw [hn]]
      conv => whnf
      have hw2 : IntKind.i64.wrap (s.si + 1) = s.si + 1 := wrap_in (by omega) (by omega)
      repeat (first | rw [hw2] | (refine fork_f ?_; (conv => whnf)) | (refine fork_t ?_; (conv => whnf)) | (refine Fork.mk (fun h => absurd h (by simp; done)) (fun h => ?_); (conv => whnf)))
      refine ⟨⟨s.fl, s.si + 1, s.ot⟩, ⟨s1, by have := fit_next hc s2 (mayB_same s2); rw [hn] at this; exact this, by dsimp only; omega, s4⟩, Shift.reset ⟨rfl, rfl, rfl, rfl, trivial⟩ ⟨rfl, rfl, trivial⟩ rfl rfl, ?_⟩
      show (u.up - (s.si + 1)).toNat < (u.up - s.si).toNat
      omega
    have hge : u.up ≤ s.si := by simp at h; omega
    conv => whnf
    refine ⟨u, s, 0, rfl, hu.fin, ?_⟩
    rw [hmv, hmb, show decide (u.up ≤ s.si) = true by simp; omega]
    conv => whnf
    repeat' ((first | refine fork_t ?_ | refine fork_f ?_ | refine Fork.mk (fun h => ?_) (fun h => ?_) | refine ⟨rfl, ?_⟩ | fail) <;> (conv => whnf))
    exact hk
  · have h0 : fl0 = 0 := by simp at h; omega
    conv => whnf
    refine ⟨Us, fun s => ([(4, .c (.ptr (.l 4 1) 0)), (5, .c (.ptr (.l 5 2) 0)), (8, I q), (9, I u.dn)], ⟨[(.l 4 1, .blk (unC u)), (.l 5 2, .blk (usC s))], 5, []⟩),
      fun s => s.ot = false ∧ fitB u s = true ∧ s.si ≤ 4 ∧ s.fl = fl0, fun s => (u.dn - s.si).toNat, ⟨fl0, si0, false⟩, ⟨rfl, hf0, hsi.2, rfl⟩,
      Shift.reset ⟨rfl, rfl, rfl, rfl, trivial⟩ ⟨rfl, rfl, trivial⟩ rfl rfl, fun s hs => ?_⟩
    obtain ⟨s1, s2, s3, s4⟩ := hs
    have hsi := fit_si s2
    have hmb : mayB u s q = decide (u.dn ≤ s.si) := by unfold mayB; rw [if_neg (by omega)]; by_cases hx : s.si < u.dn <;> simp [s1, s4, h0, hx, hq] <;> omega
    have hmv := mayV_of (q := q) hc s2
    have hn := nextU_same hc s2 (by omega)
    dsimp only
    conv => whnf
    refine Fork.mk (fun h => ?_) (fun h => ?_)
    · have hlt : s.si < u.dn := by simpa using h
      conv => whnf
      refine ⟨u, s, q, rfl, hu.fin, ?_⟩
      rw [hmv, hmb, show decide (u.dn ≤ s.si) = false by simp; omega]
      conv => whnf
      refine fork_f ?_
      conv => whnf
      refine ⟨u, s, s.fl, rfl, hu.fin, ?_⟩
      rw [show (nextS u s s.fl).1 = ⟨s.fl, s.si + 1, s.ot⟩ by rw [hn], show (nextS u s s.fl).2.1 = false by rw [hn], show (nextS u s s.fl).2.2 = 0 by rw [hn]]
      conv => whnf
      have hw2 : IntKind.i64.wrap (s.si + 1) = s.si + 1 := wrap_in (by omega) (by omega)
      repeat (first | rw [hw2] | (refine fork_f ?_; (conv => whnf)) | (refine fork_t ?_; (conv => whnf)) | (refine Fork.mk (fun h => absurd h (by simp; done)) (fun h => ?_); (conv => whnf)))
      refine ⟨⟨s.fl, s.si + 1, s.ot⟩, ⟨s1, by have := fit_next hc s2 (mayB_same s2); rw [hn] at this; exact this, by dsimp only; omega, s4⟩, Shift.reset ⟨rfl, rfl, rfl, rfl, trivial⟩ ⟨rfl, rfl, trivial⟩ rfl rfl, ?_⟩
      show (u.dn - (s.si + 1)).toNat < (u.dn - s.si).toNat
      omega
    have hge : u.dn ≤ s.si := by simp at h; omega
    conv => whnf
    refine ⟨u, s, q, rfl, hu.fin, ?_⟩
    rw [hmv, hmb, show decide (u.dn ≤ s.si) = true by simp; omega]
    conv => whnf
    repeat' ((first | refine fork_t ?_ | refine fork_f ?_ | refine Fork.mk (fun h => ?_) (fun h => ?_) | refine ⟨rfl, ?_⟩ | fail) <;> (conv => whnf))
    exact hk
end Go.Proofs
