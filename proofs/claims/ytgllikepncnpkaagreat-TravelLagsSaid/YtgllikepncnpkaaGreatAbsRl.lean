/- Proved here: what functions of the given program come to, and the plain laws of it; no condition but those in the theorems. -/
import Derived.Test.YtgllikepncnpkaaGreatAbsRi
namespace Go.Abs
open Go.RowKit
set_option linter.unusedVariables false
set_option linter.unusedSimpArgs false
section
variable {P:Program} {B:Base}
theorem core_in {gC:G} {M:Mem} {w:World} (hI:Inv B gC M w) {m m':List (Id × MObj)} {ρ:Id→Id} {M':Mem} (hL:LinkM ρ m m' M M'):MInv (pull ρ (keys m) gC) m w :=
  have hlk:Link ρ (keys m) (pull ρ (keys m) gC) gC:=pull_link
  have hKi:∀ i o,mget m i=some o→(pull ρ (keys m) gC).K i:=fun i o hi=>⟨⟨o,hi⟩,(hI.ok _ _ (hL.mem i o hi).1).1⟩
  ⟨fun i o hi=>⟨hKi i o hi,hlk.pullO ⟨o,hi⟩ (hKi i o hi) (hI.ok _ _ (hL.mem i o hi).1).2 (hL.mem i o hi).2⟩,
    fun i j oi oj b hi hj hij=>hI.apart _ _ _ _ b (hL.mem i oi hi).1 (hL.mem j oj hj).1 (fun e=>hij (hL.inj i j (.inl ⟨oi,hi⟩) (.inl ⟨oj,hj⟩) e)),hI.flt⟩
open Classical in
theorem core_out {gC:G} {M M':Mem} {w w':World} (hI:Inv B gC M w) {m m':List (Id × MObj)} {ρ:Id→Id} (hL:LinkM ρ m m' M M') {g':G}
    (hext:Ext (pull ρ (keys m) gC) w g' w') (hMI':MInv g' m' w') (hK':∀ i,g'.K i→keys m i ∨ keys m' i) (hFr:Frame (pull ρ (keys m) gC) m w g' m' w') :
    ∃ gC',Ext gC w gC' w'∧Inv B gC' M' w'∧gC'.F=g'.F:=by
  let g:=pull ρ (keys m) gC
  -- the names after it
  let D:Id→Prop:=fun i=>keys m i ∨ keys m' i
  have newK:∀ i,keys m' i→¬ keys m i→¬ gC.K (ρ i):=fun i h1 h2 hk=>by
    obtain ⟨s,k,e1,e2,_⟩:=hL.new i h1 h2
    rw [e1] at hk
    exact hI.fresh s k e2 hk
  let inv:Id→Id:=fun j=>if hj:∃ i,D i∧ρ i=j then Classical.choose hj else j
  have inv_ρ:∀ i,D i→inv (ρ i)=i:=fun i hi=>by
    have hj:∃ i',D i'∧ρ i'=ρ i:=⟨i,hi,rfl⟩
    show (if hj:∃ i',D i'∧ρ i'=ρ i then Classical.choose hj else ρ i)=i
    rw [dif_pos hj]
    exact hL.inj _ _ (Classical.choose_spec hj).1 hi (Classical.choose_spec hj).2
  let gC':G:={ K:=fun j=>gC.K j ∨ ∃ i,D i∧ρ i=j∧g'.K i,β:=fun j=>if gC.K j then gC.β j else g'.β (inv j),sz:=fun j=>if gC.K j then gC.sz j else g'.sz (inv j),F:=g'.F }
  have hKin:∀ i,D i→gC.K (ρ i)→keys m i:=fun i hi hk=>by
    rcases hi with hi | hi
    · exact hi
    · by_cases h2:keys m i
      · exact h2
      · exact absurd hk (newK i hi h2)
  have hgK:∀ i,D i→gC.K (ρ i)→g.K i:=fun i hi hk=>⟨hKin i hi hk,hk⟩
  have hlk':Link ρ D g' gC':=by
    refine ⟨fun i hi=>⟨fun hk=>.inr ⟨i,hi,rfl,hk⟩,fun hk=>?_⟩,fun i hi hk=>?_,fun i hi hk=>?_,rfl⟩
    · rcases hk with hk | ⟨i',hi',e,hk⟩
      · exact hext.K i (hgK i hi hk)
      · rw [← hL.inj _ _ hi' hi e];exact hk
    · show g'.β i=if gC.K (ρ i) then gC.β (ρ i) else g'.β (inv (ρ i))
      split
      · rename_i hkk;exact hext.β i (hgK i hi hkk)
      · rw [inv_ρ i hi]
    · show g'.sz i=if gC.K (ρ i) then gC.sz (ρ i) else g'.sz (inv (ρ i))
      split
      · rename_i hkk;exact hext.sz i (hgK i hi hkk)
      · rw [inv_ρ i hi]
  have hextC:Ext gC w gC' w':=⟨fun j hj=>.inl hj,fun j hj=>if_pos hj,fun j hj=>if_pos hj,hext.F,hext.cell⟩
  have tch:∀ b,touches g m b→∃ i o,mget M.o (ρ i)=some o∧keys m i∧blockOf (gC.β (ρ i))=some b:=fun b ⟨i,o,hi,hb⟩=>⟨i,_,(hL.mem i o hi).1,⟨o,hi⟩,hb⟩
  have ntch:∀ j o b,mget M.o j=some o→(∀ i,keys m i→ρ i ≠ j)→blockOf (gC.β j)=some b→¬ touches g m b:=fun j o b hj hne hb ht=>by
    obtain ⟨i,o',h1,h2,h3⟩:=tch b ht
    exact hI.apart (ρ i) j _ _ b h1 hj (hne i h2) h3 hb
  refine ⟨gC',hextC,?_,rfl⟩
  refine { ok := fun j o hj => ?_, apart := fun j1 j2 o1 o2 b h1 h2 hne hb1 hb2 => ?_, fresh := fun s k hk hK => ?_, flt := hMI'.flt, ext := hI.ext.trans hextC, fnew := fun b o hF => ?_, own := fun j o b hj hb => ?_,
           os:=hFr.os.trans hI.os,tape:=hFr.tape.trans hI.tape,output:=hFr.output.trans hI.output,size:=Nat.le_trans hI.size hFr.size,block:=fun b hb hX=>?_ }
  · rcases hL.mem' j o hj with ⟨i,o',h1,h2,h3,h4⟩ | ⟨h1,h2⟩
    · obtain ⟨k1,k2⟩:=hMI'.ok i o' h1
      rw [← h2,h3]
      exact ⟨.inr ⟨i,.inr ⟨_,h1⟩,rfl,k1⟩,hlk'.pushO (.inr ⟨_,h1⟩) k1 k2 h4⟩
    · obtain ⟨k1,k2⟩:=hI.ok j o h1
      refine ⟨.inl k1,k2.keep k1 hextC fun b hb=>⟨hFr.block b (k2.lt hb) (ntch j o b h1 h2 hb),fun o' hF=>?_⟩⟩
      rcases hFr.fnew b o' hF with hf | hf | hf
      · exact hf
      · have:=k2.lt hb;omega
      · exact absurd hf (ntch j o b h1 h2 hb)
  · have hβ:∀ i,D i→g'.K i→gC'.β (ρ i)=g'.β i:=fun i hi hk=>(hlk'.β i hi hk).symm
    have hold:∀ j o,mget M.o j=some o→gC'.β j=gC.β j:=fun j o hj=>if_pos (hI.ok j o hj).1
    rcases hL.mem' j1 o1 h1 with ⟨i1,p1,a1,a2,a3,a4⟩ | ⟨a1,a2⟩ <;> rcases hL.mem' j2 o2 h2 with ⟨i2,p2,c1,c2,c3,c4⟩ | ⟨c1,c2⟩
    · have k1:=(hMI'.ok i1 p1 a1).1
      have k2:=(hMI'.ok i2 p2 c1).1
      rw [← a2,hβ i1 (.inr ⟨_,a1⟩) k1] at hb1
      rw [← c2,hβ i2 (.inr ⟨_,c1⟩) k2] at hb2
      exact hMI'.apart i1 i2 p1 p2 b a1 c1 (fun e=>hne (by rw [← a2,← c2,e])) hb1 hb2
    · have k1:=(hMI'.ok i1 p1 a1).1
      rw [← a2,hβ i1 (.inr ⟨_,a1⟩) k1] at hb1
      rw [hold j2 o2 c1] at hb2
      rcases hFr.own i1 p1 b a1 hb1 with hs | hs
      · have:=(hI.ok j2 o2 c1).2.lt hb2;omega
      · exact ntch j2 o2 b c1 c2 hb2 hs
    · have k2:=(hMI'.ok i2 p2 c1).1
      rw [← c2,hβ i2 (.inr ⟨_,c1⟩) k2] at hb2
      rw [hold j1 o1 a1] at hb1
      rcases hFr.own i2 p2 b c1 hb2 with hs | hs
      · have:=(hI.ok j1 o1 a1).2.lt hb1;omega
      · exact ntch j1 o1 b a1 a2 hb1 hs
    · rw [hold j1 o1 a1] at hb1
      rw [hold j2 o2 c1] at hb2
      exact hI.apart j1 j2 o1 o2 b a1 c1 hne hb1 hb2
  · rcases hK with hK | ⟨i,hi,e,hK⟩
    · exact hI.fresh s k (fun hU=>hk (hL.nx s k hU)) hK
    · by_cases h2:keys m i
      · obtain ⟨o,ho⟩:=h2
        have:=(hI.ok _ _ (hL.mem i o ho).1).1
        rw [e] at this
        exact hI.fresh s k (fun hU=>hk (hL.nx s k hU)) this
      · have h1:keys m' i:=by rcases hi with hi | hi;exact absurd hi h2;exact hi
        obtain ⟨s',k',e',_,h4⟩:=hL.new i h1 h2
        rw [e'] at e
        simp at e
        exact hk (e.1 ▸ e.2 ▸ h4)
  · rcases hFr.fnew b o hF with h1 | h1 | h1
    · exact hI.fnew b o h1
    · exact .inr (.inl (Nat.le_trans hI.size h1))
    · obtain ⟨i,o',h2,h3,h4⟩:=tch b h1
      exact .inr (hI.own _ _ b h2 h4)
  · rcases hL.mem' j o hj with ⟨i,o',h1,h2,h3,h4⟩ | ⟨h1,h2⟩
    · have k1:=(hMI'.ok i o' h1).1
      have:gC'.β j=g'.β i:=by rw [← h2];exact (hlk'.β i (.inr ⟨_,h1⟩) k1).symm
      rw [this] at hb
      rcases hFr.own i o' b h1 hb with hs | hs
      · exact .inl (Nat.le_trans hI.size hs)
      · obtain ⟨i',o'',h2,h3,h4⟩:=tch b hs
        exact hI.own _ _ b h2 h4
    · have:gC'.β j=gC.β j:=if_pos (hI.ok j o h1).1
      rw [this] at hb
      exact hI.own j o b h1 hb
  · have hb':b < w.heap.size:=Nat.lt_of_lt_of_le hb hI.size
    rw [hFr.block b hb' (fun ht=>?_)]
    · exact hI.block b hb hX
    · obtain ⟨i',o'',h2,h3,h4⟩:=tch b ht
      rcases hI.own _ _ b h2 h4 with hh | hh
      · omega
      · exact hX hh
theorem link_names {ns:List Id} {os os':List MObj} {M:Mem} (hn:nodupI ns=true) (hl1:os.length=ns.length) (hg2:∀ (j:Nat) i,ns[j]?=some i→∃ x,os[j]?=some x∧mget M.o i=some x) (hlo:lsOs ns os=true)
    (wfo:xsOs ns.length os'=true) (hl':os'.length=ns.length):LinkM (ofX ns) (mX (mapO (toX ns) os)) (mX os') M { M with o:=sets ns (mapO (ofX ns) os') M.o }:=by
  have hlx:(mapO (toX ns) os).length=ns.length:=getD_len hl1
  have hlm:(mapO (ofX ns) os').length=ns.length:=by rw [mapO_len,hl']
  have kx:∀ i,keys (mX (mapO (toX ns) os)) i ↔ KX ns.length i:=fun i=>by rw [keys_mX,hlx]
  have kx':∀ i,keys (mX os') i ↔ KX ns.length i:=fun i=>by rw [keys_mX,hl']
  have inK:∀ {n:Nat},n=ns.length→KX n=keys (mX (mapO (toX ns) os)):=fun e=>by subst e;exact funext fun i=>propext (kx i).symm
  have hof:∀ i,KX ns.length i→∃ n,i=.x n∧n < ns.length∧ns[n]?=some (ofX ns i):=fun i ⟨n,hn,e⟩=>by
    subst e
    exact ⟨n,rfl,hn,by rw [ofX_x (List.getElem?_eq_getElem hn)];exact List.getElem?_eq_getElem hn⟩
  have hD:(fun i=>keys (mX (mapO (toX ns) os)) i ∨ keys (mX os') i)=KX ns.length:=funext fun i=>propext ⟨fun h=>h.elim (kx i).1 (kx' i).1,fun h=>.inl ((kx i).2 h)⟩
  refine ⟨fun i o hi=>?_,fun j o hj=>?_,fun i a b=>?_,fun a b ha hb e=>?_,fun _ _ h=>h⟩
  · obtain ⟨n,e1,e2⟩:=mget_nameX.1 hi
    rw [mapO_get] at e2
    obtain ⟨x,e3,rfl⟩:=Option.map_eq_some_iff.1 e2
    have hnl:n < ns.length:=by rw [← hl1];exact (List.getElem?_eq_some_iff.1 e3).1
    obtain ⟨y,e4,e5⟩:=hg2 n ns[n] (List.getElem?_eq_getElem hnl)
    rw [e3] at e4
    cases e4
    obtain ⟨q1,q2⟩:=lsO_ok (lsOs_get hlo e3)
    refine ⟨?_,by rw [← inK rfl];exact q2⟩
    rw [q1,e1,Nat.zero_add,ofX_x (List.getElem?_eq_getElem hnl)]
    exact e5
  · obtain ⟨s1,s2⟩:=mget_sets (ns:=ns) (l:=mapO (ofX ns) os') (o:=M.o) (j:=j) hlm hn
    cases e:inI j ns with
    | true =>
      obtain ⟨n,hp⟩:=posI_in (n:=0) e
      obtain ⟨_,hp⟩:=posI_spec hp
      rw [Nat.sub_zero] at hp
      have hj':=s1 n hp
      rw [show mget (sets ns (mapO (ofX ns) os') M.o) j=some o from hj,mapO_get] at hj'
      obtain ⟨x,e3,e4⟩:=Option.map_eq_some_iff.1 hj'.symm
      exact .inl ⟨.x n,x,mget_nameX.2 ⟨n,by congr 1;omega,e3⟩,ofX_x hp,e4.symm,by rw [hD];exact xsO_ok (xsOs_get wfo e3)⟩
    | false =>
      refine .inr ⟨by rw [← s2 e];exact hj,fun i hi e'=>?_⟩
      obtain ⟨n,_,_,h3⟩:=hof i ((kx i).1 hi)
      rw [e'] at h3
      rw [inI_get h3] at e
      cases e
  · exact absurd ((kx i).2 ((kx' i).1 a)) b
  · have ha':KX ns.length a:=ha.elim (kx a).1 (kx' a).1
    have hb':KX ns.length b:=hb.elim (kx b).1 (kx' b).1
    obtain ⟨n,rfl,_,h3⟩:=hof a ha'
    obtain ⟨n',rfl,_,h4⟩:=hof b hb'
    rw [← e] at h4
    rw [nodup_get hn h3 h4]
end
end Go.Abs

namespace Go.Abs
open Go.RowKit
set_option linter.unusedVariables false
set_option linter.unusedSimpArgs false
structure Part where
  g:G
  m:List (Id × MObj)
  w:World
  gx:∀ i,g.K i→∃ n,i=.x n
  flt:∀ b o,g.F b o→b < w.heap.size
  tch:∀ b,touches g m b→b < w.heap.size
namespace Part
variable (p:Part)
def Z (b:Nat):Prop:=b=p.w.heap.size ∨ b=p.w.heap.size+1
def XP (b:Nat):Prop:=touches p.g p.m b ∨ p.w.heap.size≤b
def pB (W:World) (F:Nat→Nat→Prop) (N:Nat) (ds:List Deferred):Base:={ w0:=W,X:=fun b=>¬ p.Z b∧p.XP b,g0:={ p.g with F:=F },N:=N,gx:=p.gx,ds:=ds }
def qB (W:World) (F:Nat→Nat→Prop) (N:Nat) (ds:List Deferred):Base:={ w0:=W,X:=p.XP,g0:={ p.g with F:=F },N:=N,gx:=p.gx,ds:=ds }
variable {p} {W w w1 w':World} {F:Nat→Nat→Prop} {N N':Nat} {ds ds':List Deferred} {g g1 g':G} {m m1 m':Mem}
theorem Z_x {b:Nat} (h:p.Z b):p.XP b:=by rcases h with h | h <;> right <;> omega
theorem pq (h:Inv (p.pB W F N ds) g m w):Inv (p.qB W F N ds) g m w where
  ok:=h.ok
  apart:=h.apart
  fresh:=h.fresh
  flt:=h.flt
  ext:=h.ext
  fnew:=fun b o hf=>(h.fnew b o hf).imp_right fun h=>h.imp_right fun h=>h.2
  own:=fun i o b hi hb=>(h.own i o b hi hb).imp_right fun h=>h.2
  os:=h.os
  tape:=h.tape
  output:=h.output
  size:=h.size
  block:=fun b hb hX=>h.block b hb fun hx=>hX hx.2
structure NoZ (p:Part) (g:G) (m:Mem):Prop where
  F:∀ b o,g.F b o→¬ p.Z b
  own:∀ i o b,mget m.o i=some o→blockOf (g.β i)=some b→¬ p.Z b
theorem qp (h:Inv (p.qB W F N ds) g m w) (hn:NoZ p g m) (hz:∀ b,p.Z b→w.heap[b]?=W.heap[b]?):Inv (p.pB W F N ds) g m w where
  ok:=h.ok
  apart:=h.apart
  fresh:=h.fresh
  flt:=h.flt
  ext:=h.ext
  fnew:=fun b o hf=>(h.fnew b o hf).imp_right fun h=>h.imp_right fun h=>⟨hn.F b o hf,h⟩
  own:=fun i o b hi hb=>(h.own i o b hi hb).imp_right fun h=>⟨hn.own i o b hi hb,h⟩
  os:=h.os
  tape:=h.tape
  output:=h.output
  size:=h.size
  block:=fun b hb hX=>by
    by_cases hzb:p.Z b
    · exact hz b hzb
    · exact h.block b hb fun hx=>hX ⟨hzb,hx⟩
theorem noZ (h:Inv (p.pB W F N ds) g m w) (hW:∀ b,p.Z b→b < W.heap.size) (hF:∀ b o,F b o→¬ p.Z b):NoZ p g m where
  F:=fun b o hf hz=>by
    rcases h.fnew b o hf with h1 | h1 | h1
    · exact hF b o h1 hz
    · have:=hW b hz
      have h1:W.heap.size≤b:=h1
      omega
    · exact h1.1 hz
  own:=fun i o b hi hb hz=>by
    rcases h.own i o b hi hb with h1 | h1
    · have:=hW b hz
      have h1:W.heap.size≤b:=h1
      omega
    · exact h1.1 hz
theorem q_step (h:Inv (p.qB W F N ds) g1 m1 w1) (hW:p.w.heap.size≤W.heap.size):Inv (p.qB w1 g1.F N' ds') g1 m1 w1 where
  ok:=h.ok
  apart:=h.apart
  fresh:=h.fresh
  flt:=h.flt
  ext:=⟨h.ext.K,h.ext.β,h.ext.sz,fun _ _ h=>h,fun _ _ _=>rfl⟩
  fnew:=fun b o hf=>.inl hf
  own:=fun i o b hi hb=>.inr ((h.own i o b hi hb).elim (fun h1=>.inr (Nat.le_trans hW h1)) fun h1=>h1)
  os:=rfl
  tape:=rfl
  output:=rfl
  size:=Nat.le_refl _
  block:=fun _ _ _=>rfl
theorem q_join (h:Inv (p.qB W F N ds) g1 m1 w1) (k:Inv (p.qB w1 g1.F N' ds') g' m' w'):Inv (p.qB W F N ds) g' m' w' where
  ok:=k.ok
  apart:=k.apart
  fresh:=k.fresh
  flt:=k.flt
  ext:=⟨k.ext.K,k.ext.β,k.ext.sz,fun b o hf=>k.ext.F b o (h.ext.F b o hf),fun b o hf=>(k.ext.cell b o (h.ext.F b o hf)).trans (h.ext.cell b o hf)⟩
  fnew:=fun b o hf=>by
    rcases k.fnew b o hf with h1 | h1 | h1
    · exact h.fnew b o h1
    · exact .inr (.inl (Nat.le_trans h.size h1))
    · exact .inr (.inr h1)
  own:=fun i o b hi hb=>(k.own i o b hi hb).imp_left fun h1=>Nat.le_trans h.size h1
  os:=k.os.trans h.os
  tape:=k.tape.trans h.tape
  output:=k.output.trans h.output
  size:=Nat.le_trans h.size k.size
  block:=fun b hb hX=>(k.block b (Nat.lt_of_lt_of_le hb h.size) hX).trans (h.block b hb hX)
theorem q_turn (h:Inv (p.qB W F N ds) g m w) (hn:NoZ p g m) {l:Nat} (hz:p.Z l) (hg:w.grownBy w' (some l)):Ext g w g w'∧Inv (p.qB W F N ds) g m w' :=
  h.foreign hg (.inr (Z_x hz)) (fun o hf=>hn.F l o hf hz) fun i o hi hb=>hn.own i o l hi hb hz
end Part
end Go.Abs

namespace Go.Abs
open Go.RowKit
set_option linter.unusedVariables false
set_option linter.unusedSimpArgs false
def setPs:List Tmp→List AV→List (Nat × AV)→List (Nat × AV)
  | p :: ps,x :: xs,t=>setPs ps xs (tset t p x)
  | _,_,t=>t
theorem setPs_slots {g:G} {w:World}:∀ (ps:List Tmp) (xs:List AV) (vs:List Value) (t:List (Nat × AV)) (tm:Array Value),vs.length=xs.length→(∀ (j:Nat) x v,xs[j]?=some x→vs[j]?=some v→RepA g w x v)→(∀ p ∈ ps,p < tm.size) →
    Slots g w (tget t) { tmps:=tm,defers:=[] }→Slots g w (tget (setPs ps xs t)) { tmps:=(ps.zip vs).foldl (fun t (p,v)=>t.setIfInBounds p v) tm,defers:=[] }
  | [],xs,vs,t,tm,_,_,_,hs=>by simpa [setPs] using hs
  | p :: ps,[],vs,t,tm,hl,_,_,hs=>by
    obtain rfl:vs=[]:=List.eq_nil_of_length_eq_zero (by simpa using hl)
    simpa [setPs] using hs
  | p :: ps,x :: xs,[],t,tm,hl,_,_,hs=>by simp at hl
  | p :: ps,x :: xs,v :: vs,t,tm,hl,hr,hp,hs=>by
    refine setPs_slots ps xs vs (tset t p x) (tm.setIfInBounds p v) (by simpa using hl) (fun j y u h1 h2=>hr (j+1) y u (by simpa using h1) (by simpa using h2)) (fun q hq=>by rw [Array.size_setIfInBounds];exact hp q (by simp [hq])) fun k y hk=>?_
    rw [tget_tset] at hk
    split at hk
    · rename_i e
      simp at hk
      subst hk
      subst e
      exact ⟨v,by simp [hp k (by simp)],hr 0 x v rfl rfl⟩
    · rename_i e
      obtain ⟨u,h1,h2⟩:=hs k y hk
      refine ⟨u,?_,h2⟩
      rw [Array.getElem?_setIfInBounds_ne (fun h=>e h.symm)]
      exact h1
theorem fold_size:∀ (l:List (Tmp × Value)) (tm:Array Value),(l.foldl (fun (t:Array Value) (x:Tmp × Value)=>t.setIfInBounds x.1 x.2) tm).size=tm.size
  | [],tm=>rfl
  | x :: l,tm=>by rw [List.foldl_cons,fold_size l,Array.size_setIfInBounds]
abbrev lpRec (fn:FuncId) (tmps:Array Value) (ps:Array Tmp) (assign body:Code) (D:Nat) (st:LoopState) (pe:Option Code):Loop:={ state:=st,pending:=pe,fn,tmps,params:=ps,assign,body,defers:=D }
def jumpOf:Exit→Option Code
  | .ret=>some .ret
  | .exit i=>some (.exit i)
  | _=>none
def roundQ (QJ:Exit→Mem→Prop) (k:Mem→Prop):Exit→St→Prop
  | .normal,σ=>k σ.m
  | .ret,σ=>QJ .ret σ.m
  | .exit i,σ=>QJ (.exit i) σ.m
  | _,_=>False
namespace Part
variable {P:Program} {p:Part} {N Ng:Nat} {qc:Nat→Bool} {CK:Nat→KT}
structure Stop (p:Part) (rec:LoopState→Option Code→Loop) (W1:World) (Ng:Nat) (ds:List Deferred) (QJ:Exit→Mem→Prop) (w:World):Prop where
  ex:∃ e c g' m',jumpOf e=some c∧w.heap[p.w.heap.size+1]?=some (.loop (rec .done (some c)))∧w.heap[p.w.heap.size]?=some (.deferred (some []))∧Inv (p.qB W1 p.g.F Ng ds) g' m' w∧NoZ p g' m'∧QJ e m'
theorem round_ok {np:NPT} (hCK:∀ f args d m k,CK f args d m k→callK P qc f args d m k) (hm:P.follows .mixedOrders=true) {fn:FuncId} {tmps:Array Value} {ps:Array Tmp} {assign body:Code} {W1:World} {ds:List Deferred} (hN:tmps.size=N)
    (hpa:plainC assign=true) (hpb:plainC body=true) (hps:∀ q ∈ ps.toList,q < N) (hWs:W1.heap.size=p.w.heap.size+2) (hl1:W1.heap[p.w.heap.size+1]?=some (.loop (lpRec fn tmps ps assign body p.w.heap.size .ready none))) (hk1:W1.heap[p.w.heap.size]?=some (.deferred (some [])))
    (heW:Ext p.g p.w p.g W1) {t0:List (Nat × AV)} (hs0:Slots p.g p.w (tget t0) { tmps:=tmps,defers:=[] }) {QJ:Exit→Mem→Prop} :
    YOk P (p.pB W1 p.g.F Ng ds) (p.w.heap.size+1) (Stop p (lpRec fn tmps ps assign body p.w.heap.size) W1 Ng ds QJ)
      (fun args m k=>args.length=ps.size∧awp P qc np CK N assign (fun e σ=>match e with | .normal=>awp P qc np CK N body (roundQ QJ k) σ | _=>False) ⟨setPs ps.toList args t0,m⟩):=by
  rintro args m1 k ⟨hlen,hA⟩ g1 w1 vals hI hvl hrep
  have zD:p.Z p.w.heap.size:=.inl rfl
  have zl:p.Z (p.w.heap.size+1):=.inr rfl
  have zW:∀ b,p.Z b→b < W1.heap.size:=fun b h=>by rcases h with rfl | rfl <;> omega
  have keepZ:∀ {W:World} {F:Nat→Nat→Prop} {N ds g m w},Inv (p.pB W F N ds) g m w→p.w.heap.size+2≤W.heap.size→∀ b,p.Z b→w.heap[b]?=W.heap[b]?:=fun h hs b hz=>h.block b (by rcases hz with rfl | rfl <;> (show _ < _;dsimp only [pB];omega)) fun hx=>hx.1 hz
  have nz1:NoZ p g1 m1:=noZ hI zW fun b o hf hz=>by have:=p.flt b o hf;rcases hz with rfl | rfl <;> omega
  have hl:=(keepZ hI (by omega) _ zl).trans hl1
  have hk:=(keepZ hI (by omega) _ zD).trans hk1
  have q1:=pq hI
  have s1:Inv (p.qB w1 g1.F N []) g1 m1 w1:=q_step q1 (by omega)
  have a1:=qp s1 nz1 fun _ _=>rfl
  have hsz1:p.w.heap.size+2≤w1.heap.size:=by have:W1.heap.size≤w1.heap.size:=hI.size;omega
  have heg:Ext p.g p.w g1 w1:=heW.trans ⟨hI.ext.K,hI.ext.β,hI.ext.sz,hI.ext.F,hI.ext.cell⟩
  have hst:Slots g1 w1 (tget t0) { tmps:=tmps,defers:=[] }:=slots_ext hs0 heg
  have hy:=run_yield (P:=P) (args:=vals.toArray) hl (by rw [List.size_toArray,hvl];exact hlen)
  refine ⟨_,_,_,_,hy,roundIn_of_wpIn trivial ?_⟩
  have hsl:Slots g1 w1 (tget (setPs ps.toList args t0)) { tmps:=(ps.zip vals.toArray).foldl (fun t (p,v)=>t.setIfInBounds p v) tmps,defers:=[] }:=by
    have:=setPs_slots ps.toList args vals t0 tmps hvl hrep (by rw [hN];exact hps) hst
    rw [← Array.foldl_toList,Array.toList_zip]
    exact this
  have hfs:((ps.zip vals.toArray).foldl (fun (t:Array Value) (x:Tmp × Value)=>t.setIfInBounds x.1 x.2) tmps).size=N:=by
    rw [← Array.foldl_toList,fold_size,hN]
  refine wpIn_mono (awpIn_ok (B:=p.pB w1 g1.F N []) hCK hm rfl assign _ ⟨setPs ps.toList args t0,m1⟩ _ _ hpa ⟨⟨g1,hsl,a1⟩,rfl,hfs⟩ hA) ?_
  rintro e a2 w2 ⟨σ2,hR2,hq⟩
  cases e <;> try exact hq.elim
  obtain ⟨⟨g2,hs2,hI2⟩,hd2,hz2⟩:=hR2
  have zw1:∀ b,p.Z b→b < w1.heap.size:=fun b h=>by rcases h with rfl | rfl <;> omega
  have nz2:NoZ p g2 σ2.m:=noZ hI2 zw1 nz1.F
  have hl2:=(keepZ hI2 hsz1 _ zl).trans hl
  have hk2:=(keepZ hI2 hsz1 _ zD).trans hk
  refine ⟨_,run_beginRound hl2 rfl,?_⟩
  obtain ⟨w3,hw3⟩:∃ w3,w2.putObj (p.w.heap.size+1) (.loop (lpRec fn tmps ps assign body p.w.heap.size .busy none))=w3:=⟨_,rfl⟩
  have hsz2:p.w.heap.size+2≤w2.heap.size:=by have:w1.heap.size≤w2.heap.size:=hI2.size;omega
  have hg3:w2.grownBy w3 (some (p.w.heap.size+1)):=by rw [← hw3];exact grownBy_putObj' _ _ _
  have hl3:w3.heap[p.w.heap.size+1]?=some (.loop (lpRec fn tmps ps assign body p.w.heap.size .busy none)):=by rw [← hw3];exact World.putObj_heap_same (by omega)
  have hk3:w3.heap[p.w.heap.size]?=some (.deferred (some [])):=by rw [← hw3];exact (World.putObj_heap_other (by omega)).trans hk2
  rw [hw3]
  obtain ⟨e3,q3⟩:=q_turn (pq hI2) nz2 zl hg3
  have hsz3:p.w.heap.size+2≤w3.heap.size:=by have:=hg3.size;omega
  have a3:Inv (p.pB w3 g2.F N []) g2 σ2.m w3:=qp (q_step q3 (by omega)) nz2 fun _ _=>rfl
  refine wpIn_mono (awpIn_ok (B:=p.pB w3 g2.F N []) hCK hm rfl body _ σ2 _ _ hpb ⟨⟨g2,slots_ext hs2 e3,a3⟩,hd2,hz2⟩ hq) ?_
  rintro e a4 w4 ⟨σ4,hR4,hq4⟩
  obtain ⟨⟨g4,hs4,hI4⟩,hd4,hz4⟩:=hR4
  have nz4:NoZ p g4 σ4.m:=noZ hI4 (fun b h=>by rcases h with rfl | rfl <;> omega) nz2.F
  have hl4:=(keepZ hI4 hsz3 _ zl).trans hl3
  have hk4:=(keepZ hI4 hsz3 _ zD).trans hk3
  have hsz4:p.w.heap.size+2≤w4.heap.size:=by have:w3.heap.size≤w4.heap.size:=hI4.size;omega
  have fin:∀ jump:Option Code,∃ w5,(Instr.endRound (p.w.heap.size+1) jump).run P w4=.ok (.bool jump.isNone) w5∧w5.heap[p.w.heap.size+1]?=some (.loop (lpRec fn tmps ps assign body p.w.heap.size (if jump.isNone then .ready else .done) jump))∧w5.heap[p.w.heap.size]?=some (.deferred (some [])) ∧
      Inv (p.qB w1 g1.F N []) g4 σ4.m w5:=fun jump=>by
    refine ⟨_,run_endRound jump hl4,World.putObj_heap_same (by omega),(World.putObj_heap_other (by omega)).trans hk4,?_⟩
    exact q_join q3 (q_turn (pq hI4) nz4 zl (grownBy_putObj' _ _ _)).2
  have stop:∀ e c,jumpOf e=some c→QJ e σ4.m→∃ v w',(Instr.endRound (p.w.heap.size+1) (some c)).run P w4=.ok v w'∧((Ending.returned v=.returned (.bool true)∧∃ g' m',Ext { (p.pB W1 p.g.F Ng ds).g0 with F:=g1.F } w1 g' w'∧Inv (p.pB W1 p.g.F Ng ds) g' m' w'∧k m') ∨ (Ending.returned v=.returned (.bool false)∧Stop p (lpRec fn tmps ps assign body p.w.heap.size) W1 Ng ds QJ w')):=fun e c he hj=>by
    obtain ⟨w5,r1,r2,r3,r4⟩:=fin (some c)
    exact ⟨_,w5,r1,.inr ⟨rfl,⟨e,c,g4,σ4.m,he,r2,r3,q_join q1 r4,nz4,hj⟩⟩⟩
  cases e with
  | normal =>
    obtain ⟨w5,r1,r2,r3,r4⟩:=fin none
    refine ⟨_,w5,r1,.inl ⟨rfl,g4,σ4.m,⟨r4.ext.K,r4.ext.β,r4.ext.sz,r4.ext.F,r4.ext.cell⟩,qp (q_join q1 r4) nz4 fun b hz=>?_,hq4⟩⟩
    rcases hz with rfl | rfl
    · exact r3.trans hk1.symm
    · exact r2.trans hl1.symm
  | ret=>exact stop .ret .ret rfl hq4
  | exit i=>exact stop (.exit i) (.exit i) rfl hq4
  | goto t=>exact hq4.elim
  | panic c=>exact hq4.elim
  | outgrown=>exact hq4.elim
end Part
end Go.Abs
