/- Proved here: what functions of the given program come to, for the statements of this chapter; no condition but those in the theorems. -/
import Derived.Test.YtgllikepncnpkaaGreatRows
import Derived.Test.YtgllikepncnpkaaGreatA35i
import Derived.Test.YtgllikepncnpkaaGreatAbsQ
import Derived.Test.YtgllikepncnpkaaGreatAbsP
import Derived.WalkKit
import Derived.ProofKit
import Derived.OpenShut
import Derived.ShutString
import Derived.ChangeOld
import Derived.Below
namespace Go.Proofs.YtgllikepncnpkaaGreat.travelLags
open Go.ChangeShapes Go.WideShapes Go.ChangeAt Go.RowKit
open Go.ChangeMaps (open_string shut_string)
set_option linter.unusedVariables false
theorem own:ownKnob Tryz.prog.godebug=none:=by kernel_rfl
theorem laidOut:laidOutB Tryz.prog=true:=by kernel_rfl
theorem u8_wf {a:Int} (h:(Lit.int .u8 a).wf=true):0≤a∧a≤255:=by
  have h:(decide (IntKind.u8.min≤a) && decide (a≤IntKind.u8.max))=true:=h
  simp only [Bool.and_eq_true,decide_eq_true_eq] at h
  have h1:IntKind.u8.min=0:=by decide
  have h2:IntKind.u8.max=255:=by decide
  omega
set_option maxRecDepth 100000 in
theorem lifted (os:Os) (started:os.Started) (H:Type) (enc:TypeId × Value→H) :
    ReturnsInHanded {} Tryz.checked os 7 .any (Rows.travelLagsSpec.pre6 enc Tryz.prog Tryz.f7 Rows.travelLagsRow.domain false) (Rows.travelLagsSpec.post enc Tryz.prog Tryz.f7 false true false false):=by
  refine returnsInHanded_of_change (C:=Tryz.checked) own started (by kernel_rfl) Tryz.func7
    (ChangeSpec.witness6 (enc:=enc) (C:=Tryz.checked) false ⟨#[],#[.slice none 0 0,.int .u8 0,.int .u8 0,.int .u8 0],[]⟩ 8 (by kernel_rfl) (by kernel_rfl) (by kernel_rfl) (by kernel_rfl)) ?_
  intro W base args ds gs before hval0 hW hcnd _
  have hval:∀ (j:Nat) t v,Tryz.f7.params[j]?=some t→args[j]?=some v→Value.okWide Tryz.prog W .any base t v:=hval0
  have hW':=hW
  obtain ⟨p,q,hA0,hV,rfl,hfz,hnd⟩:=hW
  have hA:DataW.TrodAll enc Tryz.prog W 0 (fun _=>true) true Tryz.f7.params.toList args.toList ds p:=hA0
  rw [Tryz.params7] at hA hval
  obtain ⟨v0,vs0,d0,ds0,p0,q0,hargs,rfl,rfl,h0,r0⟩:=trodAll_cons hA
  obtain ⟨v1,vs1,d1,ds1,p1,q1,rfl,rfl,rfl,h1,r1⟩:=trodAll_cons r0
  obtain ⟨v2,vs2,d2,ds2,p2,q2,rfl,rfl,rfl,h2,r2⟩:=trodAll_cons r1
  obtain ⟨v3,vs3,d3,ds3,p3,q3,rfl,rfl,rfl,h3,r3⟩:=trodAll_cons r2
  obtain ⟨rfl,rfl,rfl⟩:=trodAll_nil r3
  obtain rfl:args=#[v0,v1,v2,v3]:=by cases args;simp_all
  obtain ⟨rfl,rfl⟩:=trodVars_none hV
  have hvv0:=hval 0 22 v0 rfl rfl
  obtain ⟨a0,len0,cap0,rfl⟩:=okWide_slice Tryz.underlying22 (hval 0 22 v0 rfl rfl)
  have k0:=h0
  have lt0:∀ x ∈ p0,x.block < W.heap.size:=by obtain ⟨m,hm⟩:=k0;exact DataW.trod_lt m _ _ _ hm
  obtain ⟨z0,w0⟩:∃ zs,Go.Abs.RowIn .i64 W a0 len0 cap0 zs:=by
    obtain ⟨fuel,hf⟩:=h0
    rcases open_ints Tryz.underlying22 Tryz.underlying3 (by kernel_rfl) hf with ⟨hcs,_⟩ | ⟨x,l,c,zs,hcs,_,hl,hm,hz,_,hcell,hwz⟩
    · simp [Value.cells] at hcs
      obtain ⟨rfl,rfl,rfl⟩:=hcs
      exact ⟨[],.inl ⟨rfl,rfl,rfl,rfl⟩⟩
    · simp [Value.cells] at hcs
      obtain ⟨rfl,rfl,rfl⟩:=hcs
      exact ⟨zs,.inr ⟨_,rfl,Go.Abs.okWide_spot Tryz.underlying22 hvv0,hl,hm,by simpa using hz,hcell⟩⟩
  have hlen0:=Go.Abs.row_len w0
  simp only [maxLen] at hlen0
  obtain ⟨a1,rfl,rfl,rfl,w1⟩:=open_int Tryz.underlying5 (hval 1 5 v1 rfl rfl) h1
  have hu1:0≤a1∧a1≤255:=u8_wf w1
  obtain ⟨a2,rfl,rfl,rfl,w2⟩:=open_int Tryz.underlying5 (hval 2 5 v2 rfl rfl) h2
  have hu2:0≤a2∧a2≤255:=u8_wf w2
  obtain ⟨a3,rfl,rfl,rfl,w3⟩:=open_int Tryz.underlying5 (hval 3 5 v3 rfl rfl) h3
  have hu3:0≤a3∧a3≤255:=u8_wf w3
  clear hA0 hval0
  refine (Go.Abs.calls_true (args:=[_,_,_,_]) (vals:=[_,_,_,_]) (tlags_ok) ⟨Go.Abs.rep_row w0,Go.Abs.RepA.c (.pure (.sc rfl)),Go.Abs.RepA.c (.pure (.sc rfl)),Go.Abs.RepA.c (.pure (.sc rfl)),trivial⟩ ⟨_,_,_,_,rfl,hu1,hu2,hu3,by omega,rfl⟩).mono fun e W' ⟨he,bel⟩=>?_
  subst he
  exact ⟨_,rfl,_,_,_,[],_,[],hW',trodAll_mk1 (shut_bool Tryz.underlying4 _),(trodAll_cons_mk (Below.trod laidOut (by kernel_rfl) (of_decide_eq_true (by kernel_rfl)) k0 bel lt0) (trodAll_cons_mk (shut_int Tryz.underlying5 w1) (trodAll_cons_mk (shut_int Tryz.underlying5 w2) (trodAll_cons_mk (shut_int Tryz.underlying5 w3) trodAll_mk0)))),rfl,bel.frame _,fun h=>by cases h⟩
theorem over:Rows.travelLagsRow.holds Tryz.pinned (OpenSpec.ofChange Rows.travelLagsSpec) :=
  OpenClaim.holds_of_wide 7 Tryz.f7 rfl rfl rfl rfl rfl rfl rfl ⟨rfl,rfl,rfl,rfl,rfl⟩ rfl rfl rfl rfl rfl (by kernel_rfl) Tryz.func7 (by kernel_rfl)
    (of_decide_eq_true (by kernel_rfl)) (by unfold Func.isWrapper;first | (rw [if_pos (by decide +kernel)];kernel_rfl) | (rw [if_neg (by decide +kernel)];exact ⟨rfl,rfl⟩))
    (fun os started H enc _=>lifted os started H enc)
theorem proved:Rows.TravelLagsSaid:=over
#print axioms proved
end Go.Proofs.YtgllikepncnpkaaGreat.travelLags
