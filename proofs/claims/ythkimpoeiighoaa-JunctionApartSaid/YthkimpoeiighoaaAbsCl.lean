/- A function that begins by asking whether a slice without elements is nil: both answers are followed (slices.Clone). -/
import Derived.Test.YthkimpoeiighoaaAbsSh
namespace Go.Abs
open Go.RowKit
set_option linter.unusedVariables false
section
variable {P : Program} {τ : List (Nat × TI)} {qc : Nat → Bool} {np : NPT}
def postR (τ : List (Nat × TI)) (rs : List ResultVar) (r : AV) : Exit → List (Nat × AV) → Mem → Prop := fun e t m => match e with
  | .normal => resK τ t m rs fun l => purAsK m l fun l _ => oneOf l = r
  | .ret => resK τ t m rs fun l => purAsK m l fun l _ => oneOf l = r
  | _ => False
theorem does_nilcmp {f : Nat} {fn : Func} {i0 i1 : Nat} {ops0 : Array Oper} {c rest : Code} {rs : Array ResultVar} {CK : Nat → KT} {T T0 T1 T2 : TypeId} {p0 p1 : String} {a1 : Array Edge}
    (hm : P.follows .mixedOrders = true) (hf : P.funcs[f]? = some fn) (hname : (fn.name == "runtime.NumGoroutine") = false)
    (hb : fn.body = some ((Code.region i0 ops0 false).seq (((Code.region i1 #[{ dst := some 3, op := .move (.tmp 0), type := T0, pos := p0, after := #[], guard := none }, { dst := some 4, op := .binOp .eql T (.tmp 3) (.const (.slice none 0 0)) T2, type := T1, pos := p1, after := a1, guard := none }] false).seq c).seq rest)))
    {N : Nat} (hn : fn.ntmps = N) (hN : 5 ≤ N) (hrs : fn.results = rs) (hτ : TyOk P τ) {e : TypeId} (hT : P.underlying T = some (.slice e))
    (hc0 : codeOk qc np N (.region i0 ops0 false) = true) (hc1 : codeOk qc np N (c.seq rest) = true) (hCK : ∀ f args d m k, CK f args d m k → callK P qc f args d m k) {r : AV}
    (h : initK [.c (.lst [])] fun t => awpC τ np CK (.region i0 ops0 false) (fun e t m => e = .normal ∧ tget t 0 = some (.c (.lst [])) ∧
      awpC τ np CK (c.seq rest) (postR τ rs.toList r) (tset (tset t 3 (.c (.lst []))) 4 (.c (.sc (.bool true)))) m ∧ awpC τ np CK (c.seq rest) (postR τ rs.toList r) (tset (tset t 3 (.c (.lst []))) 4 (.c (.sc (.bool false)))) m) t ⟨[], 0, []⟩) : Does P f [.c (.lst [])] r := by
  subst hn
  refine ⟨callable hf hname hb, fun F w vals hF hl hr => ?_⟩
  refine calls_of_wp hf hb ?_
  let B : Base := { w0 := w, X := fun _ => False, g0 := g0 F, N := fn.ntmps, gx := fun _ h => h.elim }
  have hI : Inv B (g0 F) ⟨[], 0, []⟩ w := { ok := fun i o h => (by cases h), apart := fun i j oi oj b h => (by cases h), fresh := fun _ _ _ h => h.elim, flt := hF, ext := .refl _ _, fnew := fun b o h => .inl h, own := fun i o b h => (by cases h), os := rfl, tape := rfl, output := rfl, size := Nat.le_refl _, block := fun _ _ _ => rfl }
  have hR : RS B (tget (initT [.c (.lst [])] 0)) ⟨[], 0, []⟩ { tmps := vals.toArray ++ Array.replicate (fn.ntmps - vals.toArray.size) undef, defers := [] } w := by
    refine ⟨⟨g0 F, fun t x hx => ?_, hI⟩, rfl, by have : vals.length = 1 := hl; simp [B, this]; omega⟩
    obtain ⟨_, h2⟩ := initT_get _ 0 t hx
    rw [Nat.sub_zero] at h2
    have ht : t < vals.length := by rw [hl]; exact (List.getElem?_eq_some_iff.1 h2).1
    refine ⟨vals[t], ?_, hr t x _ h2 (List.getElem?_eq_getElem ht)⟩
    rw [Array.getElem?_append, if_pos (by simpa using ht)]
    simp [ht]
  have hCK' : ∀ f args d m k, callK P qc f args d m k → callK P qc f args d m k := fun _ _ _ _ _ h => h
  have fin : ∀ (e : Exit) (σ : St) (a : Act) (w' : World), RS B (tget σ.t) σ.m a w' → postR τ rs.toList r e σ.t σ.m →
      ((e = .normal ∨ e = .ret) ∧ a.defers = [] ∧ ∃ v', (results fn a.tmps).run P w' = .ok v' w' ∧ ∃ v F', (Ending.returned v') = .returned v ∧ (∀ b o, F b o → F' b o) ∧ (∀ b o, F' b o → F b o ∨ w.heap.size ≤ b) ∧ (∀ b o, F' b o → b < w'.heap.size) ∧ RepA (g0 F') w' r v ∧ Below w.heap.size w w') := by
    intro e σ a w' hR' hp
    have he : (e = .normal ∨ e = .ret) ∧ resK τ σ.t σ.m rs.toList fun l => purAsK σ.m l fun l _ => oneOf l = r := by
      cases e with
      | normal => exact ⟨.inl rfl, hp⟩
      | ret => exact ⟨.inr rfl, hp⟩
      | _ => exact hp.elim
    obtain ⟨l, h3, h4⟩ := resK_ok hτ he.2
    obtain ⟨l', m', h5, h6⟩ := purAsK_ok h4
    obtain ⟨⟨g, hs, hI'⟩, hd, _⟩ := hR'
    obtain ⟨v, g', m'', q1, q2, q3, q4⟩ := results_ok hs hI' (fn := fn) (r := r) ⟨l, l', m', by rw [hrs]; exact h3, h5, h6.symm⟩
    exact ⟨he.1, hd, v, q1, v, g'.F, rfl, q3.ext.F, fun b o hF' => by rcases q3.fnew b o hF' with h | h | h; exact .inl h; exact .inr h; exact h.elim, q3.flt, q4, ⟨q3.os, q3.tape, q3.output, q3.size, fun k hk => q3.block k hk (fun h => h)⟩⟩
  have h0 := awp_ok hCK' (B := B) (N := fn.ntmps) hm rfl _ _ _ _ _ hR (awpC_ok hτ hCK hc0 (initK_go h))
  refine wp_seq (wp_mono h0 fun e a w1 hq => ?_)
  obtain ⟨σ, hR1, rfl, ht0, hT1, hF1⟩ := hq
  obtain ⟨⟨g, hs, hI1⟩, hd1, hz1⟩ := hR1
  obtain ⟨v, hv, hrv⟩ := hs 0 _ ht0
  have hvs : ∃ ao cap, v = .slice ao 0 cap := by
    cases hrv with
    | c hx => cases hx with
      | pure hx => cases hx with
        | emp _ _ => exact ⟨_, _, rfl⟩
        | lst _ _ _ _ _ _ => exact ⟨_, _, rfl⟩
  obtain ⟨ao, cap, rfl⟩ := hvs
  have hk : awpC τ np CK (c.seq rest) (postR τ rs.toList r) (tset (tset σ.t 3 (.c (.lst []))) 4 (.c (.sc (.bool ao.isNone)))) σ.m := by
    cases ao with
    | none => exact hT1
    | some _ => exact hF1
  have hR2 : RS B (tget (tset (tset σ.t 3 (.c (.lst []))) 4 (.c (.sc (.bool ao.isNone))))) σ.m ((a.put (some 3) (.slice ao 0 cap)).put (some 4) (.bool ao.isNone)) w1 := by
    have s3 := slots_put hs (d := some 3) (x := some (.c (.lst []))) (v := .slice ao 0 cap) (fun k y hk hy => by simp at hk hy; subst hk; subst hy; exact ⟨by rw [hz1]; show 3 < fn.ntmps; omega, hrv⟩)
    have s4 := slots_put s3 (d := some 4) (x := some (.c (.sc (.bool ao.isNone)))) (v := .bool ao.isNone) (fun k y hk hy => by simp at hk hy; subst hk; subst hy; exact ⟨by rw [size_put, hz1]; show 4 < fn.ntmps; omega, .c (.pure (.sc rfl))⟩)
    refine ⟨⟨g, fun t x hx => s4 t x ?_, hI1⟩, by rw [defers_put, defers_put]; exact hd1, by rw [size_put, size_put]; exact hz1⟩
    simp only [tget_tset] at hx
    simp only [put]
    exact hx
  have h1 : awp P qc np (callK P qc) fn.ntmps (c.seq rest) (fun e σ => postR τ rs.toList r e σ.t σ.m) ⟨tset (tset σ.t 3 (.c (.lst []))) 4 (.c (.sc (.bool ao.isNone))), σ.m⟩ := awpC_ok hτ hCK hc1 hk
  refine wp_seq (wp_seq (wp_region_list (wpList_plain rfl fun K hK => ?_)))
  have x0 : a.eval (.tmp 0) = .slice ao 0 cap := by simp [Act.eval, hv]
  unfold Oper.wp
  simp only [execOp, Sem.run_map, Sem.run_pure, x0, Result.andThen_ok, Oper.upon_value]
  refine hK _ _ (wpList_plain rfl fun K' hK' => ?_)
  have x3 : (a.put (some 3) (.slice ao 0 cap)).eval (.tmp 3) = .slice ao 0 cap := by
    have : 3 < a.tmps.size := by rw [hz1]; show 3 < fn.ntmps; omega
    simp [Act.eval, Act.put, this]
  have xn : (a.put (some 3) (.slice ao 0 cap)).eval (.const (.slice none 0 0)) = .slice none 0 0 := rfl
  unfold Oper.wp
  simp only [execOp, x3, xn]
  have hr : (do eqGuard .eql T (.tmp 3) (.const (.slice none 0 0)) (.slice ao 0 cap) (.slice none 0 0); binOp .eql T (.slice ao 0 cap) (.slice none 0 0) : Sem Value).run P w1 = .ok (.bool ao.isNone) w1 := by
    simp [eqGuard, binOp, run_equal_slice_nil w1 T e ao 0 cap hT]
  rw [Sem.run_bind, hr]
  simp only [Result.andThen_ok, Sem.run_pure, Oper.upon_value]
  refine hK' _ _ ?_
  have done : ∀ (e : Exit) (a : Act) (w3 : World), conc B (fun e σ => postR τ rs.toList r e σ.t σ.m) e a w3 → bodyPost P fn (fun e w' => ∃ v F', e = .returned v ∧ (∀ b o, F b o → F' b o) ∧ (∀ b o, F' b o → F b o ∨ w.heap.size ≤ b) ∧ (∀ b o, F' b o → b < w'.heap.size) ∧ RepA (g0 F') w' r v ∧ Below w.heap.size w w') e a w3 := by
    rintro e a w3 ⟨σ3, hR3, hp⟩
    obtain ⟨he, hd, hfin⟩ := fin e σ3 a w3 hR3 hp
    rcases he with rfl | rfl <;> exact ⟨hd, hfin⟩
  show c.wp P _ _ _
  refine wp_mono (awp_ok hCK' (B := B) (N := fn.ntmps) hm rfl c _ _ _ _ hR2 h1) fun e a w2 hq => ?_
  obtain ⟨σ2, hR3, hq⟩ := hq
  cases e with
  | normal => exact wp_mono (awp_ok hCK' (B := B) (N := fn.ntmps) hm rfl rest _ _ _ _ hR3 hq) fun e a w3 hq => done e a w3 hq
  | _ => exact done _ _ _ ⟨σ2, hR3, hq⟩
end
end Go.Abs
