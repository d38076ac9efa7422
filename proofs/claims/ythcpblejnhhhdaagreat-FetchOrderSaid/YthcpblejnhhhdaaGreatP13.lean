/-
  A part of the proof of the statement FetchOrderSaid, in Lean: RoFO. By an AI agent.
-/
import Derived.Test.YthcpblejnhhhdaaGreatP08
import Derived.Test.YthcpblejnhhhdaaGreatP12
import Derived.Test.YthcpblejnhhhdaaGreatRows
import Derived.MakeChecks
import Derived.Deep.DeepHandedRow
import Derived.Deep.DeepWitnessRowRef
set_option linter.unusedSimpArgs false
set_option linter.unusedVariables false
set_option maxRecDepth 1000000
namespace Go.Vc
open Go Go.ChangeShapes Go.WideShapes Go.ChangeAt Go.RowKit Go.Deep Go.Proofs Go.Proofs.YthcpblejnhhhdaaGreat
theorem pH_:PR.readableRec T.bH_=true:=by kernel_rfl
theorem qv_:PR.underlying T.bH_=some (.slice T.aq_):=by kernel_rfl
theorem sa_:PR.cellsOf T.aq_=2:=by kernel_rfl
theorem r8_:flds T.aq_=some [(T.int,0),(T.int,1)]:=by kernel_rfl
theorem pI_:PR.readableRec T.aQ_=true:=by kernel_rfl
theorem qw_:PR.underlying T.aQ_=some (.slice T.uint8):=by kernel_rfl
theorem sb_:PR.cellsOf T.uint8=1:=by kernel_rfl
theorem r0_:PR.underlying T.uint8=some (.int .u8):=by kernel_rfl
section
variable {H:Type} {enc:TypeId × Value→H} {w:World} {base:Nat} {spare:Nat→Bool} {held:Bool}
theorem q7_ {n:Nat} {cs:List Value} {x:DataW H × List MemPlace} (hx:DataW.trod enc PR w base spare held n T.aq_ cs=some x) (hlen:cs.length=2):∃e:Int × Int,cs=[.int .i64 e.1,.int .i64 e.2]:=by
 obtain ⟨m,hm⟩:=nJ_ r8_ hx
 obtain ⟨y0,h0⟩:=hm 0 _ rfl
 obtain ⟨y1,h1⟩:=hm 1 _ rfl
 match cs,hlen with
 | [v0,v1],_=>
  rw [show PR.cellsOf (T.int,0).1=1 from cInt] at h0
  rw [show PR.cellsOf (T.int,1).1=1 from cInt] at h1
  obtain ⟨n0,e0,_,_⟩:=DataW.trod_int uInt h0
  obtain ⟨n1,e1,_,_⟩:=DataW.trod_int uInt h1
  obtain rfl:v0=.int .i64 n0:=(List.cons.inj e0).1
  obtain rfl:v1=.int .i64 n1:=(List.cons.inj e1).1
  exact ⟨(n0,n1),rfl⟩
theorem qb_ {fuel:Nat} {v:Value} {x:DataW H × List MemPlace} (h:DataW.trod enc PR w base spare held fuel T.bH_ [v]=some x):∃(q:Option Addr) (l:List (Int × Int)) (c:Nat),v=.slice q l.length c∧Sl w q (encE l):=by
 obtain ⟨q,l,c,h1,h2,_,_⟩:=l9_ (α:=Int × Int) (s:=2) (f:=λe=>[.int .i64 e.1,.int .i64 e.2]) (λ_=>rfl) (by decide) qv_ sa_ (G:=λ_=>True) (λn cs x hx hlen=>by
  obtain ⟨e,he⟩:=q7_ hx hlen
  exact ⟨e,he,trivial⟩) h
 exact ⟨q,l,c,h1,h2⟩
theorem m4_ {n:Int} (h:(Lit.int .u8 n).wf=true):0≤n∧n≤255:=by
 simp [Lit.wf,IntKind.min,IntKind.max,IntKind.bits,IntKind.signed] at h;omega
theorem qj_ {fuel:Nat} {v:Value} {x:DataW H × List MemPlace} (h:DataW.trod enc PR w base spare held fuel T.aQ_ [v]=some x):∃(q:Option Addr) (l:List UInt8) (c:Nat),v=.slice q l.length c∧Sl w q (l.map bv):=by
 obtain ⟨q,l,c,h1,h2,_,_⟩:=l9_ (α:=UInt8) (s:=1) (f:=λn=>[bv n]) (λ_=>rfl) (by decide) qw_ sb_ (G:=λ_=>True) (λn cs x hx hlen=>by
  obtain ⟨n0,e0,_,hwf⟩:=DataW.trod_int r0_ hx
  have hr:=m4_ hwf
  refine ⟨UInt8.ofNat n0.toNat,?_,trivial⟩
  rw [e0]
  unfold bv
  have e1:((UInt8.ofNat n0.toNat).toNat:Int)=n0:=by
   rw [UInt8.toNat_ofNat',Nat.mod_eq_of_lt (a:=n0.toNat) (b:=2 ^ 8) (by omega)];omega
  rw [e1]) h
 rw [p8_] at h2
 exact ⟨q,l,c,h1,h2⟩
end
theorem n8_:Tryz.f4.params=#[T.bH_,T.aQ_]:=by kernel_rfl
theorem oU_ (H:Type) (enc:TypeId × Value→H) (W:World) (base:Nat) (args:Array Value) (ds gs:List (DataW H)) (before:List MemPlace)
  (hval:∀(j:Nat) t v,Tryz.f4.params[j]? = some t→args[j]? = some v→Value.okWide Tryz.prog W .any base t v)
  (hW:DataW.Whole enc Tryz.prog Tryz.f4.params.toList Rows.fetchOrderSpec.vars false W args.toList ds gs before) :
  Calls Tryz.prog 4 args W λe W'=>∃v,e=.returned v∧Rows.fetchOrderSpec.post enc Tryz.prog Tryz.f4 false true false false W args v W':=by
 have hW':=hW
 obtain ⟨p,q,hA0,hV,rfl,hfz,hnd⟩:=hW
 have hA:DataW.TrodAll enc Tryz.prog W 0 (λ_=>true) true Tryz.f4.params.toList args.toList ds p:=hA0
 rw [n8_] at hA hval
 obtain ⟨v0,v1,d0,d1,p0,p1,rfl,rfl,rfl,h0,h1⟩:=trodAll_two hA
 obtain ⟨rfl,rfl⟩:=trodVars_none hV
 have h0k:=h0
 have h1k:=h1
 obtain ⟨q1,l1,c1,rfl⟩:=okWide_slice qv_ (hval 0 _ _ rfl rfl)
 obtain ⟨q2,l2,c2,rfl⟩:=okWide_slice qw_ (hval 1 _ _ rfl rfl)
 obtain ⟨fuel1,hf1⟩:=h0
 obtain ⟨fuel2,hf2⟩:=h1
 obtain ⟨y,l,c,e,sl⟩:=qb_ (v:=.slice q1 l1 c1) hf1
 cases e
 obtain ⟨y2,os,cc,e,so⟩:=qj_ (v:=.slice q2 l2 c2) hf2
 cases e
 have hl0:∀x∈p0++p1,x.block<W.heap.size:=λx hx=>hW'.lt x (by simpa using hx)
 refine hZ_ sl so λW' g=>?_
 have hb:=jN_ g
 refine i__ (pa:=p0++(p1++[])) (pv:=[]) hW' (λ_ _ _=>trodAll_cons_mk (shut_bool rq_ _) trodAll_mk0)
  (λsp hsp=>?_) (λ_ _=>rfl) (by simp) hb (ok_one (by kernel_rfl) rfl (okWide_bool_mk rq_ _))
 rw [n8_]
 have stay:∀ {t:TypeId} {v:Value} {d:DataW H} {q:List MemPlace},PR.readableRec t=true→decide (t<PR.types.size)=true→(∀x∈q,x∈p0++p1)→DataW.Trod enc PR W 0 (λ_=>true) true t v d q→DataW.Trod enc PR W' 0 sp true t v d q:=λhr hz hq h=>
  WideElems.Trod_stays layG hr (of_decide_eq_true hz) h (λx hx=>hb.same (hl0 x (hq x hx))) (λx hx=>hsp x (by simpa using hq x hx))
 exact trodAll_cons_mk (stay pH_ (by kernel_rfl) (λx hx=>by simp [hx]) h0k) (trodAll_cons_mk (stay pI_ (by kernel_rfl) (λx hx=>by simp [hx]) h1k) trodAll_mk0)
def zInX:Array Value:=#[.slice none 0 0,.slice none 0 0]
theorem ry_ (os:Os) {H:Type} (enc:TypeId × Value→H):∃places,DataW.whole enc Tryz.prog ((World.settled Tryz.prog os).forCall (λ_ _=>0) ⟨#[],zInX,[]⟩).memory Tryz.f4.params.toList Rows.fetchOrderSpec.vars false zInX.toList 8 =
  some ([.nil,.nil],[],places):=⟨[],by kernel_rfl⟩
theorem qZ_ (os:Os) (started:os.Started) (H:Type) (enc:TypeId × Value→H) (F:Stop.Interp) :
  ReturnsInHanded {} Tryz.checked os 4 .any ((OpenSpec.ofChange Rows.fetchOrderSpec).preRow enc Tryz.prog Tryz.f4 Rows.fetchOrderRow.domain false Rows.fetchOrderRow.laid) (((OpenSpec.ofChange Rows.fetchOrderSpec).at F).post enc Tryz.prog Tryz.f4 false true false false):=by
 obtain ⟨places,hx⟩:=ry_ os enc
 refine returnsInHanded_of_row (C:=Tryz.checked) (s:=OpenSpec.ofChange Rows.fetchOrderSpec) ownG started (by kernel_rfl) Tryz.func4
  (witness_row_atRef (enc:=enc) (C:=Tryz.checked) false (World.settled Tryz.prog os) zInX rfl (by kernel_rfl) (by kernel_rfl) (by kernel_rfl)
   (OpenSpec.preRow_of_cond 8 hx (by kernel_rfl) (λk hk=>by cases hk) (by kernel_rfl) (show laidMetH _ [] _ from ⟨[],rfl,List.nodup_nil,λb off h=>by cases h⟩))) ?_
 intro W base args ds gs before hval hW _ _ _ hL hsh _
 exact oU_ H enc W base args ds gs before hval hW
set_option maxHeartbeats 4000000 in
theorem q__:joinedFacts Tryz.pinned.checked.prog 4 Tryz.f4 (OpenSpec.ofChange Rows.fetchOrderSpec).bare Rows.fetchOrderRow=true:=by
 unfold joinedFacts
 repeat' with_reducible refine Bool.and_eq_true_iff.2 ⟨?_,?_⟩
 all_goals (as_aux_lemma=>kernel_rfl)
theorem rC_:Tryz.pinned.checked.prog.funcNamed Rows.fetchOrderRow.func=some 4:=by kernel_rfl
theorem saidX:Rows.FetchOrderSaid:=
 OpenClaim.holds_of_cond 4 Tryz.f4 rfl rfl rfl rfl rfl rfl rfl ⟨rfl,rfl,rfl,rfl,rfl⟩ rfl rfl rfl rfl rfl rC_ Tryz.func4 q__
  (of_decide_eq_true (by kernel_rfl)) (by unfold Func.isWrapper;first | (rw [if_pos (by decide +kernel)];kernel_rfl) | (rw [if_neg (by decide +kernel)];exact ⟨rfl,rfl⟩))
  (λos started H enc _ F=>by rw [OpenClaim.pre_eq_preRow];exact qZ_ os started H enc F)
end Go.Vc
