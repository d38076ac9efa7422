/-
  A part of the proof of the statement HeadAgainCardSaid, in Lean: Mk3, Mm1, Mm2, Rp, Pb1, Pb2, Pb3, Rdn, RoG, Ns, As1, As2, As3, As4, As5, As6. By an AI agent.
-/
import Derived.Test.YtoopcoeonbkedaaGreatDoorP08
import Derived.Test.YtoopcoeonbkedaaGreatDoorP09
import Derived.Test.YtoopcoeonbkedaaGreatDoorP07
import Derived.OpenShut
import Derived.KernelRfl
import Derived.WalkKit
import Derived.ProofKit
import Derived.Below
import Derived.ChangeSame
import Derived.Carry
import Derived.Deep.SlicePairs
import Derived.Deep.Grids
import Derived.ChangeArms
import Derived.WideShapes
import Derived.Test.YtoopcoeonbkedaaGreatDoorP04
import Derived.MapKept
import Derived.WideKeyMaps
import Derived.WideKeyRuns
import Derived.LaidEql
import Derived.Stop.Asserts
import Derived.RowKitTokens
set_option linter.unusedSimpArgs false
set_option linter.unusedVariables false
set_option maxRecDepth 100000
namespace Go.Vc
open Go
theorem n6_ {q:Option Addr} {n c:Nat} {xs:List (List UInt8)} {w:World} (hs:Sl w q (xs.map sv8')) (hl:n=xs.length) (hn:n≤100000) (hx:∀x∈xs,x.length≤1000000) {K:Value→World→Prop}
  (hK:∀w' b q' c' m R,Grow w w'→dt_ w' b q' c' m (xs.map bp_) R→(xs≠[]→R (.agg #[.int .i64 0,.int .i64 xs.length]) (.string (str (bO_ cq_ (xs.map bp_) xs.length 0 xs.length))))→(xs≠[]→cP_ R 0 xs.length)→w.heap.size≤b→w.heap.size≤m→Off (λj=>j<w.heap.size) q'→K (.pointer (some ⟨b,0,none⟩)) w') :
  aa_ PR F.oq_ ⟨[.slice q n c]⟩ w K:=by
 subst hl
 have hlv:∀y∈xs.map bp_,y.length=32:=λy hy=>by obtain ⟨x,_,rfl⟩:=List.mem_map.1 hy;exact oa_ _
 refine mS_ q xs.length c S0 K w (mT_ (k:=T.aq_) λw0 m hm hm0 g0=>⟨_,rfl,(Fr.init _ w).after g0,λb hb w1 hF1=>?_⟩)
 have hbl:b<w1.heap.size:=hF1.lt _ List.mem_cons_self
 have hm1:=hm0.grow hF1.grow
 have hml:m<w0.heap.size:=hm0.lt
 refine ⟨λi q1 l1 c1 mm k w'=>∃j:Nat,i=j∧j≤xs.length∧k=xs.length - j∧Own T.string 1 w' q1 c1 (((xs.take j).map bp_).map sv8')∧j=l1∧l1≤c1∧Off (λx=>x<w1.heap.size) q1∧mm=some m∧MapP w' T.aq_ m 0 (λ_ _=>False)∧w1.heap.size≤w'.heap.size,⟨_,0,rfl,by omega,rfl,.nil _ _ _,rfl,Nat.le_refl _,.none _,rfl,hm1,Nat.le_refl _⟩,?_⟩
 rintro i q1 l1 c1 mm D k w2 ⟨j,rfl,hj,rfl,ho,rfl,hlc,hof,rfl,hmp,hsz⟩ hF2
 refine ⟨λhlt=>?_,λhge=>?_⟩
 ·have hj':j<xs.length:=by omega
  refine (hs.grow hF2.gr).rd (v:=sv8' xs[j]) (by simp) (by omega) (by simp [hj']) λa ha=>⟨_,ha,λw3 hF3=>?_⟩
  have g3:Grow w2 w3:=hF3.grow
  refine ⟨λx=>x.cell? ⟨b,0,none⟩=some (.slice q1 j c1),hF3.ld 0 0 rfl rfl rfl,ad_.2 ⟨_,_,_,λw4 h=>h,?_⟩⟩
  refine q6_ (hx _ (List.getElem_mem hj')) λw5 g5=>⟨_,rfl,hF3.after g5,(hF3.after g5).ld 0 0 rfl rfl rfl,λb7 hb7 w6 hF6=>⟨hF6.ld 0 0 rfl rfl rfl,?_⟩⟩
  have g6:Grow w5 w6:=hF6.grow
  have s3:=g3.size
  have s5:=g5.size
  have s6:=g6.size
  refine gA_ (((ho.grow g3).grow g5).grow g6) (by simp;omega) hlc (ys:=[bp_ xs[j]]) (hF6.sl 1 rfl) rfl (by omega) λq2 c2 w7 ho7 hc7 g7 hq7=>?_
  have hF7:=hF6.app2 g7 w1.heap.size w2.heap.size hof (λa ha=>ho.lt a ha) (λy hy=>by
   rcases List.mem_cons.1 hy with rfl | hy
   ·exact .inl hbl
   ·simp at hy;subst hy;exact .inr (by simp only [];omega)) hF1.chg.size
  refine ⟨_,_,_,rfl,hF7,hF7.ld 0 0 rfl rfl rfl,λw8 hF8=>?_⟩
  have g8:Chg (· = b) w7 w8:=hF8.stp.mono λx _ hx=>by simpa using hx
  have hof':Off (λx=>x<w1.heap.size) q2:=hof.next hq7 (by omega)
  refine ⟨xs.length - (j+1),by omega,j+1,wr1 (by omega),by omega,rfl,?_,rfl,hc7,hof',rfl,?_,by have:=g7.size;have:=g8.size;omega⟩
  ·rw [aV_ hj',List.map_append]
   exact ho7.keep g8 λa ha e=>by have:=hof'.le a ha;have e':a.block=b:=e;omega
  ·exact ((((hmp.grow g3).grow g5).grow g6).keep g7 (λ⟨a,ha,e⟩=>by have:=hof.le a ha;have:=hF1.grow.size;omega)).keep g8 (λe=>by omega)
 ·have e:j=xs.length:=by omega
  subst e
  rw [List.take_length] at ho
  have hlen:(xs.map bp_).length=xs.length:=List.length_map _
  have hT:dt_ w2 b q1 c1 m (xs.map bp_) (λ_ _=>False):=⟨by rw [hlen];exact hF2.blk 0 rfl,ho.sl,⟨0,hmp⟩,λkey v h=>h.elim⟩
  have hmb:m≠b:=by omega
  have hqo:Off (λj=>j<w.heap.size) q1:=hof.mono hF1.chg.size
  refine ⟨λh0=>?_,λh0=>?_⟩
  ·have h0':1≤xs.length:=by omega
   refine qq_ hlv (by rw [hlen];exact hn) xs.length 0 h0' (by rw [hlen];omega) hT λw9 R9 hT9 hR9 hin9 ha9 g9=>?_
   have hF9:Fs S0 w [⟨b,#[.slice q1 xs.length c1,.map (some m)],T.cH_,true⟩] w9:=hF2.step g9 (λx hx=>by simp at hx;subst hx;exact hmb.symm) λj hj e=>by have e':j=m:=e;omega
   exact ⟨_,rfl,_,_,_,_,hF9,hK w9 b q1 c1 m R9 hF9.chg hT9 (λ_=>hin9) (λ_=>ha9) (by have:=g0.size;omega) (by omega) hqo⟩
  ·have hxs:xs=[]:=List.eq_nil_of_length_eq_zero (by omega)
   exact hK w2 b q1 c1 m _ hF2.gr hT (λh=>absurd hxs h) (λh=>absurd hxs h) (by have:=g0.size;omega) (by omega) hqo
theorem nr_:∀w:World,(zeroValue T.string).run PR w=.ok (.string ⟨#[]⟩) w:=λw=>by
 obtain ⟨i,hi,_,_,hz⟩:=pf_
 simp [zeroValue,typeInfo,hi,hz]
theorem kW_ {xs:List (List UInt8)} (hn:xs.length≤100000) {w:World} {b:Nat} {q:Option Addr} {c m:Nat} {R:Value→Value→Prop} (hT:dt_ w b q c m (xs.map bp_) R)
  (hR:xs≠[]→R (.agg #[.int .i64 0,.int .i64 xs.length]) (.string (str (bO_ cq_ (xs.map bp_) xs.length 0 xs.length)))) {K:Value→World→Prop} (hK:∀w',Grow w w'→K (.string (str (gS_ Hs xs))) w') :
  aa_ PR F.fC_ ⟨[.pointer (some ⟨b,0,none⟩)]⟩ w K:=by
 obtain ⟨h1,h2,⟨n,h3⟩,h4⟩:=hT
 rw [List.length_map] at h1
 refine g9_ b q xs.length c (some m) (· = b) K w ((Fr.init _ w).entry h1 (λx h=>by cases h) λ_=>rfl) ⟨rfl,trivial⟩ ⟨λh0 b0 hb0 w0 hF0=>?_,λh0 w2 hF2=>?_⟩
 ·have hxs:xs=[]:=List.eq_nil_of_length_eq_zero (by omega)
  refine fp_ (xs:=[[2]]) (hF0.sl 1 rfl) rfl (by omega) (by simp) λw1 g1=>⟨_,rfl,hF0.after g1,?_⟩
  have e:gS_ Hs xs=Hs ([[2]]:List (List UInt8)).flatten:=by unfold gS_;rw [if_pos hxs];rfl
  rw [← e];exact hK w1 (hF0.grow.trans g1)
 ·have hxs:xs≠[]:=λe=>h0 (by rw [e];rfl)
  have g2:Grow w w2:=hF2.grow
  obtain ⟨kl,hkl⟩:=kA_ (a:=0) (k:=xs.length) ⟨by omega,by omega⟩ ⟨by omega,by omega⟩
  have e:gS_ Hs xs=bO_ cq_ (xs.map bp_) xs.length 0 xs.length:=by unfold gS_;rw [if_neg hxs];rfl
  refine ec_ qa_ sL_ (h3.grow g2) hkl false nr_ (λv hv=>?_) λhno=>absurd (hR hxs) (hno _)
  have:=h3.inj hv (hR hxs)
  subst this
  refine ⟨_,rfl,hF2.reset,?_⟩
  rw [← e];exact hK w2 g2
theorem md_ {q:Option Addr} {n c:Nat} {xs:List (List UInt8)} {w:World} (hs:Sl w q (xs.map sv8')) (hl:n=xs.length) (hn:n≤100000) (hx:∀x∈xs,x.length≤1000000) {K:Value→World→Prop}
  (hK:∀w',Grow w w'→K (.string (str (gS_ Hs xs))) w'):aa_ PR F.mR_ ⟨[.slice q n c]⟩ w K:=by
 refine lz_ q n c S0 K w ?_
 refine n6_ hs hl hn hx λw1 b q1 c1 m R g1 hT hR _ hb hm hq=>⟨_,rfl,(Fr.init _ w).after g1,?_⟩
 refine kW_ (by omega) hT hR λw2 g2=>⟨_,rfl,(Fr.init _ w).after (g1.trans g2),hK w2 (g1.trans g2)⟩
end Go.Vc
namespace Go.Vc
open Go
theorem qo_ {nodes v:Int} {l:List Int} (hn:nodes≤4096) (hv:0≤v) (hv':v<nodes) (h:e5_ nodes l):(gapL v l).length≤8+8*l.length:=by
 have h1:=fI_ h
 have h2:=fl_ (gapP v l) 8 l.length λi hi=>ho_ hn hv hv' h hi
 have h3:=al_ (n:=l.length) (by omega)
 simp only [gapL,List.length_append];omega
theorem pE_ {nodes:Nat} {B Tg:List Int} (hL:CsrL nodes B Tg) {v:Nat} (hv:v<nodes):((rowOf B Tg v).length:Int)=B.getD (v+1) 0 - B.getD v 0:=by
 have n1:=hL.nn v (by omega)
 have n2:=hL.nn (v+1) (by omega)
 have n3:=hL.mono v hv
 unfold rowOf;rw [List.length_take,List.length_drop];omega
theorem lj_ {nodes first:Nat} {B Tg:List Int} (hL:CsrL nodes B Tg) (hn:nodes≤4096):∀k,first+k≤nodes→((aW_ first (λj=>rowOf B Tg (first+j)) k).length:Int)≤8*k+8*(B.getD (first+k) 0 - B.getD first 0)
 | 0,_=>by simp [aW_,cat]
 | k+1,h=>by
  have ih:=lj_ hL hn (first:=first) k (by omega)
  have e:aW_ first (λj=>rowOf B Tg (first+j)) (k+1)=aW_ first (λj=>rowOf B Tg (first+j)) k++gapL ((first:Int)+k) (rowOf B Tg (first+k)):=rfl
  have hg:=qo_ (nodes:=nodes) (v:=(first:Int)+k) (by omega) (by omega) (by omega) (hL.row (first+k) (by omega))
  have hr:=pE_ hL (v:=first+k) (by omega)
  rw [e,List.length_append]
  rw [show first+(k+1)=first+k+1 by omega]
  omega
theorem ke_ {nodes each i:Nat} {B Tg:List Int} (hL:CsrL nodes B Tg) (hn:nodes≤4096) (he:1≤each) (hi:i*each<nodes) :
  ((eI_ B Tg each nodes i).length:Int)≤23+9*(aO_ each nodes i:Nat)+8*(B.getD (i*each+aO_ each nodes i) 0 - B.getD (i*each) 0)∧4≤(eI_ B Tg each nodes i).length:=by
 have hmo:i*each+aO_ each nodes i≤nodes:=by unfold aO_;omega
 have hm1:1≤aO_ each nodes i:=by unfold aO_;omega
 have a1:=al_ (n:=i*each) (by omega)
 have a2:=al_ (n:=aO_ each nodes i) (by omega)
 have b1:=bI_ (i*each)
 have b2:=bI_ (aO_ each nodes i)
 have hR:∀j,j<aO_ each nodes i→e5_ (nodes:Int) ((λj=>rowOf B Tg (i*each+j)) j):=λj hj=>hL.row _ (by omega)
 have a3:=fl_ (λj=>ac_ (aW_ (i*each:Nat) (λj=>rowOf B Tg (i*each+j)) (j*8)).length) 8 (az_ (aO_ each nodes i)) λj hj=>al_ (by
  have:=dh_ (nodes:=nodes) (first:=(i*each:Nat)) (many:=aO_ each nodes i) (k:=j*8) (by omega) (by omega) (by omega) hR (by unfold az_ at hj;omega);omega)
 have a4:=lj_ hL hn (first:=i*each) (aO_ each nodes i) hmo
 have b3:1≤(b0_ (i*each:Nat) (λj=>rowOf B Tg (i*each+j)) (az_ (aO_ each nodes i))).length:=by
  have hm:0<az_ (aO_ each nodes i):=by unfold az_;omega
  obtain ⟨r,hr⟩:=dr_ (λj=>ac_ (aW_ (i*each:Nat) (λj=>rowOf B Tg (i*each+j)) (j*8)).length) hm
  have:=bI_ (aW_ (i*each:Nat) (λj=>rowOf B Tg (i*each+j)) (0*8)).length
  unfold b0_;rw [hr];simp only [List.length_append];omega
 have b4:1≤(aW_ (i*each:Nat) (λj=>rowOf B Tg (i*each+j)) (aO_ each nodes i)).length:=by
  obtain ⟨r,hr⟩:=dr_ (λj=>gapL (((i*each:Nat):Int)+j) (rowOf B Tg (i*each+j))) hm1
  have:=r2_ (((i*each:Nat):Int)+(0:Nat)) (rowOf B Tg (i*each+0))
  unfold aW_;rw [hr];simp only [List.length_append];omega
 have hmk:8*az_ (aO_ each nodes i)≤aO_ each nodes i+7:=by unfold az_;omega
 unfold b0_ at b3
 simp only [eI_,gG_,List.length_append,Int.toNat_natCast,b0_]
 refine ⟨?_,?_⟩ <;> omega
theorem lu_ {nodes each:Nat} {B Tg:List Int} (hL:CsrL nodes B Tg) (hn:nodes≤4096) (he:1≤each):∀k,(∀i,i<k→i*each<nodes)→((bn_ B Tg each nodes k).flatten.length:Int)≤23*k+9*(min (k*each) nodes:Nat)+8*B.getD (min (k*each) nodes) 0 - 8*B.getD 0 0
 | 0,_=>by simp [bn_]
 | k+1,h=>by
  have ih:=lu_ hL hn he k λi hi=>h i (by omega)
  have hk:=h k (by omega)
  have hp:=(ke_ hL hn he hk).1
  have hm:min (k*each) nodes=k*each:=by omega
  have hm2:min ((k+1)*each) nodes=k*each+aO_ each nodes k:=by rw [Nat.succ_mul];unfold aO_;omega
  rw [e1_,List.flatten_append,List.length_append,hm2]
  rw [hm] at ih
  simp only [List.flatten_cons,List.flatten_nil,List.append_nil]
  omega
theorem mM_ {nodes each k:Nat} {B Tg:List Int} (hL:CsrL nodes B Tg) (hn:nodes≤4096) (he:1≤each) (hcov:∀i,i<k→i*each<nodes):(bn_ B Tg each nodes k).flatten.length≤23*k+9*nodes+8*Tg.length:=by
 have h:=lu_ hL hn he k hcov
 have n1:=hL.nn (min (k*each) nodes) (by omega)
 have n2:=hL.nn 0 (by omega)
 omega
theorem s3_ {nodes each k i:Nat} {B Tg:List Int} (hL:CsrL nodes B Tg) (hn:nodes≤4096) (he:1≤each) (hi:i*each<nodes):(eI_ B Tg each nodes i).length≤23+9*nodes+8*Tg.length:=by
 have h:=(ke_ hL hn he hi).1
 have hmo:i*each+aO_ each nodes i≤nodes:=by unfold aO_;omega
 have n1:=hL.nn (i*each+aO_ each nodes i) hmo
 have n2:=hL.nn (i*each) (by omega)
 omega
theorem k5_ (B Tg:List Int) (each nodes:Nat):∀k,((de_ B Tg each nodes k).map (·.2)).sum=((bn_ B Tg each nodes k).flatten.length:Int)
 | 0=>by simp [de_,bn_]
 | k+1=>by
  rw [hw_,e1_,List.map_append,List.sum_append,k5_ B Tg each nodes k,List.flatten_append,List.length_append]
  simp
theorem nx_ {nodes each:Nat} {B Tg:List Int} (hL:CsrL nodes B Tg) (hn:nodes≤4096) (he:1≤each) (hT:Tg.length≤100000):∀(n k:Nat),(∀i,i<k+n→i*each<nodes)→
  my_ nodes (if k=0 then none else some (((k - 1)*each:Nat):Int)) ((List.range n).map λi=>((((k+i)*each:Nat):Int),((eI_ B Tg each nodes (k+i)).length:Int)))
 | 0,k,_=>by simp [my_]
 | n+1,k,h=>by
  have hk:=h k (by omega)
  have hb:=s3_ (k:=k) hL hn he hk
  have hb2:=(ke_ hL hn he hk).2
  have ih:=nx_ hL hn he hT n (k+1) λi hi=>h i (by omega)
  rw [if_neg (by omega),Nat.add_sub_cancel] at ih
  have e:(List.range (n+1)).map (λi=>((((k+i)*each:Nat):Int),((eI_ B Tg each nodes (k+i)).length:Int)))=(((k*each:Nat):Int),((eI_ B Tg each nodes k).length:Int)) :: (List.range n).map (λi=>((((k+1+i)*each:Nat):Int),((eI_ B Tg each nodes (k+1+i)).length:Int))):=by
   rw [List.range_succ_eq_map,List.map_cons,List.map_map]
   simp only [Nat.add_zero,List.cons.injEq,true_and]
   apply List.map_congr_left
   intro i _
   simp only [Function.comp,show k+i.succ=k+1+i by omega]
  rw [e]
  by_cases h0:k=0
  ·subst h0
   rw [if_pos rfl]
   exact ⟨by simp,by omega,by omega,ih⟩
  ·rw [if_neg h0]
   have hm:k*each=(k - 1)*each+each:=by
    obtain ⟨j,rfl⟩:∃j,k=j+1:=⟨k - 1,by omega⟩
    rw [Nat.add_sub_cancel,Nat.succ_mul]
   exact ⟨by omega,by omega,by omega,by omega,ih⟩
end Go.Vc
namespace Go.Vc
open Go
def verC (m:Man) (q:Option Addr) (c:Nat) (list:List (List UInt8)) (ql:Option Addr) (cl:Nat):Array Value:=
 #[.int .i64 m.version,.int .i64 m.nodes,.int .i64 m.edges,.slice q m.shards.length c,.int .i64 m.blocks,.string (str m.root),.slice ql list.length cl]
structure VerL (m:Man) (list:List (List UInt8)):Prop where
 ok:m.ok
 blocks:m.blocks=list.length
 root:m.root=gS_ Hs list
 small:∀x∈list,x.length≤64
 cut:cutL list.flatten=list
def si_ (w:World) (b:Nat) (m:Man) (list:List (List UInt8)):Prop:=
 ∃q c ql cl,w.heap[b]? = some (.cells (verC m q c list ql cl) T.bu_ (0,0))∧Sl w q (encE m.shards)∧Sl w ql (list.map sv8')∧list.length≤cl
theorem si_.grow {w w':World} {b:Nat} {m:Man} {list:List (List UInt8)} (h:si_ w b m list) (g:Grow w w'):si_ w' b m list:=by
 obtain ⟨q,c,ql,cl,h1,h2,h3,h4⟩:=h
 exact ⟨q,c,ql,cl,Grow.get g h1,h2.grow g,h3.grow g,h4⟩
def SlO (D:Nat→Prop) (w:World) (q:Option Addr) (xs:List Value):Prop:=xs=[]∨∃b o,q=some ⟨b,o,none⟩∧je_ w b o xs∧¬D b
theorem SlO.sl {D:Nat→Prop} {w:World} {q:Option Addr} {xs:List Value} (h:SlO D w q xs):Sl w q xs:=h.elim .inl λ⟨b,o,h1,h2,_⟩=>.inr ⟨b,o,h1,h2⟩
theorem Sl.out {D:Nat→Prop} {w:World} {q:Option Addr} {xs:List Value} (h:Sl w q xs) (hD:Off D q):SlO D w q xs:=h.elim .inl λ⟨b,o,h1,h2⟩=>.inr ⟨b,o,h1,h2,hD _ h1⟩
theorem SlO.keep {D D' S:Nat→Prop} {w w':World} {q:Option Addr} {xs:List Value} (h:SlO D w q xs) (g:Chg S w w') (hS:∀k,k<w.heap.size→S k→D k) (hD:∀k,k<w.heap.size→D' k→D k):SlO D' w' q xs:=by
 rcases h with h | ⟨b,o,h1,h2,h3⟩
 ·exact .inl h
 ·exact .inr ⟨b,o,h1,h2.keep g (λe=>h3 (hS b h2.lt e)),λe=>h3 (hD b h2.lt e)⟩
def VerO (D:Nat→Prop) (w:World) (b:Nat) (m:Man) (list:List (List UInt8)):Prop:=
 ∃q c ql cl,w.heap[b]? = some (.cells (verC m q c list ql cl) T.bu_ (0,0))∧¬D b∧SlO D w q (encE m.shards)∧SlO D w ql (list.map sv8')∧list.length≤cl
theorem VerO.at {D:Nat→Prop} {w:World} {b:Nat} {m:Man} {list:List (List UInt8)} (h:VerO D w b m list):si_ w b m list:=by
 obtain ⟨q,c,ql,cl,h1,_,h2,h3,h4⟩:=h
 exact ⟨q,c,ql,cl,h1,h2.sl,h3.sl,h4⟩
theorem VerO.keep {D D' S:Nat→Prop} {w w':World} {b:Nat} {m:Man} {list:List (List UInt8)} (h:VerO D w b m list) (g:Chg S w w') (hS:∀k,k<w.heap.size→S k→D k) (hD:∀k,k<w.heap.size→D' k→D k):VerO D' w' b m list:=by
 obtain ⟨q,c,ql,cl,h1,h0,h2,h3,h4⟩:=h
 have hl:=aj_ h1
 exact ⟨q,c,ql,cl,g.get h1 (λe=>h0 (hS b hl e)),λe=>h0 (hD b hl e),h2.keep g hS hD,h3.keep g hS hD,h4⟩
theorem jL_ (l:List UInt8):∀x∈cutL l,x.length≤64:=by
 intro x hx
 obtain ⟨i,_,rfl⟩:=List.mem_map.1 hx
 rw [List.length_take];omega
def roomy (nodes:Int) (each:Nat) (l:List (Int × Int)):Prop:=fS_ nodes l∧nodes≤64*each∧1472+9*nodes+8*l.length≤131072
noncomputable def os_ (version:Int) (nn:Nat) (N:List (Int × Int)) (each k:Nat):Man × List (List UInt8):=
 (⟨version,nn,N.length,de_ (begL nn N) (N.map (·.2)) each nn k,(cutL (bn_ (begL nn N) (N.map (·.2)) each nn k).flatten).length,gS_ Hs (cutL (bn_ (begL nn N) (N.map (·.2)) each nn k).flatten)⟩,cutL (bn_ (begL nn N) (N.map (·.2)) each nn k).flatten)
def kY_ (version nodes:Int) (each:Nat) (l:List (Int × Int)) (m:Man) (list:List (List UInt8)):Prop:=
 ∃(nn:Nat) (N:List (Int × Int)) (k:Nat),nodes=nn∧mf_ nodes l N∧nn≤k*each∧(∀i,i<k→i*each<nn)∧(m,list)=os_ version nn N each k
theorem hB_:∀ {N N':List (Int × Int)},N.Pairwise ltE→N'.Pairwise ltE→(∀x,x∈N↔x∈N')→N=N'
 | [],[],_,_,_=>rfl
 | [],b :: N',_,_,h=>absurd ((h b).2 List.mem_cons_self) (by simp)
 | a :: N,[],_,_,h=>absurd ((h a).1 List.mem_cons_self) (by simp)
 | a :: N,b :: N',h1,h2,h=>by
  rw [List.pairwise_cons] at h1 h2
  have e:a=b:=by
   rcases List.mem_cons.1 ((h a).1 List.mem_cons_self) with e | e
   ·exact e
   ·rcases List.mem_cons.1 ((h b).2 List.mem_cons_self) with e' | e'
    ·exact e'.symm
    ·have x1:=h1.1 b e'
     have x2:=h2.1 a e
     unfold ltE at x1 x2
     omega
  subst e
  congr 1
  refine hB_ h1.2 h2.2 λx=>⟨λhx=>?_,λhx=>?_⟩
  ·rcases List.mem_cons.1 ((h x).1 (List.mem_cons_of_mem _ hx)) with e | e
   ·subst e;have:=h1.1 x hx;unfold ltE at this;omega
   ·exact e
  ·rcases List.mem_cons.1 ((h x).2 (List.mem_cons_of_mem _ hx)) with e | e
   ·subst e;have:=h2.1 x hx;unfold ltE at this;omega
   ·exact e
theorem kY_.uniq {version nodes:Int} {each:Nat} (he:1≤each) {l:List (Int × Int)} {m m':Man} {list list':List (List UInt8)} (h:kY_ version nodes each l m list) (h':kY_ version nodes each l m' list'):m=m'∧list=list':=by
 obtain ⟨nn,N,k,e1,hN,hk1,hk2,e2⟩:=h
 obtain ⟨nn',N',k',e1',hN',hk1',hk2',e2'⟩:=h'
 have:nn=nn':=by omega
 subst this
 have:=hB_ hN.lt hN'.lt λx=>(hN.mem x).trans (hN'.mem x).symm
 subst this
 have ek:k=k':=by
  rcases Nat.lt_trichotomy k k' with h | h | h
  ·have:=hk2' k h;omega
  ·exact h
  ·have:=hk2 k' h;omega
 subst ek
 rw [← e2'] at e2
 exact ⟨(Prod.mk.inj e2).1,(Prod.mk.inj e2).2⟩
def q3_ (nodes:Int) (each:Nat) (l:List (Int × Int)) (c:Int):Prop:=
 (c=10∧¬fS_ nodes l)∨(c=6∧fS_ nodes l∧64*(each:Int)<nodes)∨(c=7∧fS_ nodes l∧nodes≤64*(each:Int)∧∀version m list,kY_ version nodes each l m list→2048<list.length)
theorem q2_ {version nodes:Int} {each:Nat} (he:1≤each) (he2:each≤4096) {l:List (Int × Int)} {q:Option Addr} {n c:Nat} {w:World} (hs:Sl w q (encE l)) (hl:n=l.length) (hn:n≤100000) {K:Value→World→Prop}
  (h1:∀w' b m list,Grow w w'→w.heap.size≤b→VerO (λj=>j<w.heap.size) w' b m list→VerL m list→m.version=version→(list.flatten.length:Int)≤1472+9*nodes+8*l.length→fS_ nodes l→nodes≤64*(each:Int)→kY_ version nodes each l m list→list.length≤2048→K (.tuple #[.pointer (some ⟨b,0,none⟩),.nilIface]) w')
  (hv:1≤version∧version≤1099511627776) (h2:∀w' v c,Grow w w'→isEC c v→q3_ nodes each l c→¬roomy nodes each l→K (.tuple #[.pointer none,v]) w') :
  aa_ PR F.ks_ ⟨[.int .i64 version,.int .i64 nodes,.int .i64 each,.slice q n c]⟩ w K:=by
 have hfr:∀ {w':World},Grow w w'→Fs S0 w [] w':=λg=>(Fr.init _ w).after g
 refine i2_ version nodes each q n c S0 K w ⟨λh=>by omega,λhv1=>⟨λh=>by omega,λhv2=>?_⟩⟩
 refine o0_ hs hl hn (λhg w1 b N g1 hN hc hL=>⟨_,_,rfl,hfr g1,λ_=>?_,(λt x h=>by cases h),.inl rfl⟩) λhg w1 v g1 hv=>⟨_,_,rfl,hfr g1,(λh=>by obtain ⟨t,x,rfl⟩:=hv.err;cases h),λt x h=>h2 w1 v 10 g1 hv (.inl ⟨rfl,hg⟩) (λhh=>hg hh.1),.inr (by obtain ⟨t,x,h⟩:=hv.err;exact ⟨t,x,h⟩)⟩
 obtain ⟨nn,rfl⟩:=Int.eq_ofNat_of_zero_le hg.1
 have hnn:=hg.2.1
 rw [Int.toNat_natCast] at hc hL
 have hNl:=hN.len
 have hll:=hg.2.2.1
 have hTl:(N.map (·.2)).length=N.length:=List.length_map _
 refine oK_ hc hL (by omega) he he2 (λw2 q2 c2 k g2 hk1 hcov hk64 hs2 hkc=>⟨_,_,_,_,rfl,hfr (g1.trans g2),λ_=>?_,(λt x h=>by cases h),.inl rfl⟩) λhbig=>⟨_,_,_,_,rfl,hfr g1,(λh=>by cases h),λt x h=>h2 w1 _ 6 g1 (.inl rfl) (.inr (.inl ⟨rfl,hg,by omega⟩)) (λhh=>by have:=hh.2.1;omega),.inr ⟨_,_,rfl⟩⟩
 have h64:(nn:Int)≤64*(each:Int):=by
  have:k*each≤64*each:=Nat.mul_le_mul_right _ hk64
  omega
 have hmk:kY_ version nn each l (os_ version nn N each k).1 (os_ version nn N each k).2:=⟨nn,N,k,rfl,hN,hk1,hcov,rfl⟩
 have hmk2:(os_ version nn N each k).2=cutL (bn_ (begL nn N) (N.map (·.2)) each nn k).flatten:=rfl
 have htot:=mM_ (k:=k) hL (by omega) he hcov
 rw [hTl] at htot
 generalize hpd:bn_ (begL nn N) (N.map (·.2)) each nn k=parts at hs2 htot hmk2
 have hpl:parts.length=k:=by rw [← hpd,dj_]
 have g12:=g1.trans g2
 refine ob_ hs2 hpl.symm hkc (by omega) (by omega) λw3 q3 c3 g3 ho3 hc3 hof3=>⟨_,_,_,rfl,hfr (g12.trans g3),?_⟩
 have g13:=g12.trans g3
 have hcl:=qF_ parts.flatten
 refine ⟨λh=>h2 w3 _ 7 g13 (.inl rfl) (.inr (.inr ⟨rfl,hg,h64,λv' m' list' hm'=>?_⟩)) (λhh=>?_),λhbl=>?_⟩
 ·have hm2:kY_ v' nn each l (os_ v' nn N each k).1 (os_ v' nn N each k).2:=⟨nn,N,k,rfl,hN,hk1,hcov,rfl⟩
  rw [(hm'.uniq he hm2).2]
  show 2048<(cutL (bn_ (begL nn N) (N.map (·.2)) each nn k).flatten).length
  rw [hpd];omega
 ·have:=hh.2.2
  unfold bl_ at hcl
  omega
 ·have hs2':Sl w3 q2 ((bn_ (begL nn N) (N.map (·.2)) each nn k).map sv8'):=by rw [hpd];exact hs2.grow g3
  refine oJ_ hL (by omega) he hk64 hcov hs2' λw4 q4 c4 g4 ho4 hc4 hof4=>⟨_,_,_,_,rfl,hfr (g13.trans g4),λ_=>?_,(λt x h=>by cases h),.inl rfl⟩
  have g14:=g13.trans g4
  refine oT_ (hc.grow ((g2.trans g3).trans g4)) ⟨_,rfl,hfr g14,?_⟩
  refine md_ (ho3.sl.grow g4) rfl (by omega) (λx hx=>by have:=jL_ _ x hx;omega) λw5 g5=>⟨_,rfl,hfr (g14.trans g5),λb6 hb6 b7 hb7 w6 hF6=>?_⟩
  have g15:=g14.trans g5
  have hT7:=hF6.blk 0 rfl
  have g56:Chg (· = b6) w5 w6:=hF6.stp.mono λi _ hi=>by simpa using hi
  let m:Man:=⟨version,nn,N.length,de_ (begL nn N) (N.map (·.2)) each nn k,(cutL parts.flatten).length,gS_ Hs (cutL parts.flatten)⟩
  have htl:m.shards.length=k:=jk_ _ _ _ _ _
  have hmok:m.ok:=by
   have htab:=nx_ hL (by omega) he (by rw [hTl];omega) k 0 (λi hi=>hcov i (by omega))
   simp only [Nat.zero_add,if_true] at htab
   refine ⟨⟨by show 1≤version;omega,by show version≤_;omega⟩,⟨by show (0:Int)≤nn;omega,hnn⟩,⟨by show (0:Int)≤N.length;omega,by show ((N.length:Nat):Int)≤20000;omega⟩,⟨by omega,?_⟩,htab,⟨?_,by show (((cutL parts.flatten).length:Nat):Int)≤2048;omega⟩,pF_ oa_ _⟩
   ·constructor
    ·intro h
     have hk0:k=0:=by have:=congrArg List.length h;rw [htl] at this;simpa using this
     subst hk0
     show (nn:Int)=0
     omega
    ·intro h
     have hk0:k=0:=by
      have h':(nn:Int)=0:=h
      rcases Nat.eq_zero_or_pos k with e | e
      ·exact e
      ·have:=hcov 0 e;omega
     subst hk0
     rfl
   ·show (((cutL parts.flatten).length:Nat):Int)=jN_ ((de_ (begL nn N) (N.map (·.2)) each nn k).map (·.2)).sum
    rw [k5_,hpd,jM_,hcl]
  have s5:=g5.size
  have s4:=g4.size
  have s13:=g13.size
  have s12:=g12.size
  have s15:=g15.size
  refine h1 w6 b7 m (cutL parts.flatten) (hF6.chg) (by omega) ⟨q4,c4,q3,c3,?_,by omega,(?_:Sl w6 q4 _).out (hof4.mono (by omega)),(?_:Sl w6 q3 _).out (hof3.mono (by omega)),hc3⟩ ⟨hmok,rfl,rfl,jL_ _,by rw [nY_]⟩ rfl (by rw [nY_];omega) hg h64 ?_ (by omega)
  ·rw [verC,htl]
   show w6.heap[b7]? = some (.cells #[.int .i64 version,.int .i64 nn,.int .i64 N.length,.slice q4 k c4,.int .i64 (cutL parts.flatten).length,.string (str (gS_ Hs (cutL parts.flatten))),.slice q3 (cutL parts.flatten).length c3] T.bu_ (0,0))
   simp only [hTl] at hT7
   exact hT7
  ·exact (ho4.sl.grow g5).keep g56 λa ha e=>by have:=ho4.lt a ha;have e':a.block=b6:=e;omega
  ·exact ((ho3.sl.grow g4).grow g5).keep g56 λa ha e=>by have:=ho3.lt a ha;have e':a.block=b6:=e;omega
  ·exact ⟨nn,N,k,rfl,hN,hk1,hcov,by subst hpd;rfl⟩
end Go.Vc
namespace Go.Vc
open Go
def recV (mn:Man) (list:List (List UInt8)):List UInt8:=[86]++ao_ [aH_ mn]++list.flatten
def recC (n:Nat):List UInt8:=[67]++ac_ n
inductive RecO where
 | ver (mn:Man) (list:List (List UInt8))
 | com (n:Nat)
def RecO.bytes:RecO→List UInt8
 | .ver mn list=>recV mn list
 | .com n=>recC n
structure PSt where
 last:Nat
 com:Nat
 man:Nat→Man
def RecO.step (s:PSt):RecO→PSt
 | .ver mn _=>⟨s.last+1,s.com,λi=>if i=s.last+1 then mn else s.man i⟩
 | .com n=>⟨s.last,n,s.man⟩
def RecO.ok (s:PSt):RecO→Prop
 | .ver mn list=>VerL mn list∧mn.version=((s.last+1:Nat):Int)
 | .com n=>s.com<n∧n≤s.last∧s.last<n+3
def okR:PSt→List RecO→Prop
 | _,[]=>True
 | s,r :: rs=>r.ok s∧okR (r.step s) rs
def runR:PSt→List RecO→PSt
 | s,[]=>s
 | s,r :: rs=>runR (r.step s) rs
theorem nL_ (r:RecO):∀(rs:List RecO) (s:PSt),okR s (rs++[r])↔okR s rs∧r.ok (runR s rs)
 | [],s=>by simp [okR,runR]
 | a :: rs,s=>by
  have:=nL_ r rs (a.step s)
  simp only [List.cons_append,okR,runR,this,and_assoc]
theorem lh_ (r:RecO):∀(rs:List RecO) (s:PSt),runR s (rs++[r])=r.step (runR s rs)
 | [],s=>rfl
 | a :: rs,s=>lh_ r rs (a.step s)
def PSt.zero:PSt:=⟨0,0,λ_=>⟨0,0,0,[],0,[]⟩⟩
def Rep (recs:List (List UInt8)) (last com:Nat) (man:Nat→Man):Prop:=
 (∀s∈recs,s.length≤60000)∧∃rs,recs=rs.map RecO.bytes∧okR .zero rs∧runR .zero rs=⟨last,com,man⟩
theorem Rep.nil:Rep [] 0 0 (λ_=>⟨0,0,0,[],0,[]⟩):=⟨(λs h=>by cases h),[],rfl,trivial,rfl⟩
theorem Rep.snoc {recs:List (List UInt8)} {last com:Nat} {man:Nat→Man} (h:Rep recs last com man) (r:RecO) (hr:r.ok ⟨last,com,man⟩) (hl:r.bytes.length≤60000) {s':PSt} (hs:r.step ⟨last,com,man⟩=s'):Rep (recs++[r.bytes]) s'.last s'.com s'.man:=by
 obtain ⟨h0,rs,h1,h2,h3⟩:=h
 refine ⟨λs hs=>?_,rs++[r],by rw [h1,List.map_append];rfl,(nL_ r rs _).2 ⟨h2,by rw [h3];exact hr⟩,by rw [lh_,h3,hs]⟩
 rcases List.mem_append.1 hs with hs | hs
 ·exact h0 s hs
 ·rw [List.mem_singleton.1 hs];exact hl
end Go.Vc
namespace Go.Vc
open Go Go.MapKept
theorem co_ {w:World} {a b:Nat} {cs ds:Array Value} {T U:TypeId} {f g:Nat × Nat} (h1:w.heap[a]? = some (.cells cs T f)) (h2:w.heap[b]? = some (.cells ds U g)) (h:T≠U):a≠b:=by
 rintro rfl
 rw [h1] at h2
 cases h2
 exact h rfl
theorem Own.ty {e:TypeId} {k:Nat} {w:World} {q:Option Addr} {c:Nat} {xs:List Value} (h:Own e k w q c xs) {a:Addr} (ha:q=some a):∃cs,w.heap[a.block]? = some (.cells cs e (0,0)):=by
 rcases h with ⟨h,_⟩ | ⟨b,o,cs,h,hb,_⟩
 ·rw [h] at ha;cases ha
 ·rw [h] at ha;cases ha;exact ⟨cs,hb⟩
theorem cs_.lt {w:World} {bj bd:Nat} {q:Option Addr} {c:Nat} {recs:List (List UInt8)} (h:cs_ w bj bd q c recs):∀k,jrnS bj bd q k→k<w.heap.size:=by
 rintro k (rfl | rfl | ⟨a,ha,rfl⟩)
 ·exact aj_ h.blk
 ·obtain ⟨_,_,_,_,_,_,hh⟩:=h.dsk;exact aj_ hh
 ·exact h.own.lt a ha
theorem cs_.pub {w:World} {bj bd p:Nat} {q:Option Addr} {c:Nat} {recs:List (List UInt8)} {cs:Array Value} {f:Nat × Nat} (h:cs_ w bj bd q c recs) (hp:w.heap[p]? = some (.cells cs T.aR_ f)):¬jrnS bj bd q p:=by
 rintro (rfl | rfl | ⟨a,ha,rfl⟩)
 ·exact co_ hp h.blk (by decide) rfl
 ·obtain ⟨_,_,_,_,_,_,hh⟩:=h.dsk;exact co_ hp hh (by decide) rfl
 ·obtain ⟨cs,hh⟩:=h.own.ty ha
  exact co_ hp hh (by decide) rfl
theorem cs_.mapb {w:World} {bj bd m:Nat} {q:Option Addr} {c:Nat} {recs:List (List UInt8)} {k:TypeId} {n:Nat} {R:Value→Value→Prop} (h:cs_ w bj bd q c recs) (hm:MapP w k m n R):¬jrnS bj bd q m:=by
 rintro (rfl | rfl | ⟨a,ha,rfl⟩)
 ·exact gl_ h.blk hm rfl
 ·obtain ⟨_,_,_,_,_,_,hh⟩:=h.dsk;exact gl_ hh hm rfl
 ·obtain ⟨cs,hh⟩:=h.own.ty ha
  exact gl_ hh hm rfl
theorem tr_ {w:World} {p bj bd m:Nat} {each last com:Int} {q:Option Addr} {c:Nat} {recs:List (List UInt8)} (hb:w.heap[p]? = some (.cells (pubC bj each last com m) T.aR_ (0,0))) (hj:cs_ w bj bd q c recs) (hr:(logL recs).length≤200000) {K:Value→World→Prop} (hK:K (.int .i64 (200000 - (logL recs).length:Nat)) w):aa_ PR F.iV_ ⟨[.pointer (some ⟨p,0,none⟩)]⟩ w K:=by
 refine lp_ p (some ⟨bj,0,none⟩) each last com (some m) (· = p) K w ((Fr.init _ w).entry hb (λx h=>by cases h) λ_=>rfl) ⟨rfl,trivial⟩ ?_
 refine nm_ hj ⟨_,rfl,(Fr.init _ w).entry hb (λx h=>by cases h) (λ_=>rfl),?_⟩
 rw [w64 (by omega) (by omega)]
 have e:(200000:Int) - ((logL recs).length:Nat)=((200000 - (logL recs).length:Nat):Int):=by omega
 rw [e];exact hK
def RepE (recs:List (List UInt8)):Prop:=(∃last com man,Rep recs last com man)∧(logL recs).length≤200000
def nq_ (n:Nat) (w:World) (bd:Nat):Prop:=∃recs ws,DskD n w bd (str (logL recs)) ws∧RepE recs∧(ws=[]∨∃r,ws=[str (bg_ crcN r)]∧RepE (recs++[r]))
theorem nq_.keep {S:Nat→Prop} {n:Nat} {w w':World} {b:Nat} (h:nq_ n w b) (g:Chg S w w') (hn:¬S b) (hS:∀k,S k→k<n):nq_ n w' b:=by
 obtain ⟨recs,ws,h,h2⟩:=h;exact ⟨recs,ws,h.keep g hn hS,h2⟩
theorem ji_ {w:World} {p bj bd m:Nat} {each last com:Int} {q:Option Addr} {c:Nat} {recs:List (List UInt8)} {s:List UInt8} (hb:w.heap[p]? = some (.cells (pubC bj each last com m) T.aR_ (0,0))) (hj:cs_ w bj bd q c recs) (hr:(logL recs).length≤200000) (hrl:recs.length≤200000) (hs:s.length≤1000000) {K:Value→World→Prop}
  (h1:s.length≤60000→s.length+6+(logL recs).length≤200000→∀w' q' c',cs_ w' bj bd q' c' (recs++[s])→(NoF w bd→NoF w' bd)→Chg (jrnS bj bd q) w w'→(∀a,q'=some a→q=some a∨w.heap.size≤a.block)→K .nilIface w')
  (hE:s.length≤60000→s.length+6+(logL recs).length≤200000→∀w' n ws,¬NoF w bd→DskD n w' bd (str (logL recs)) ws→w.heap.size≤n→(ws=[]∨ws=[str (bg_ crcN s)])→Chg (jrnS bj bd q) w w'→K (.iface T.am_ (.int .i64 8)) w')
  (h2:¬(s.length≤60000∧s.length+6+(logL recs).length≤200000)→K (.iface T.am_ (.int .i64 7)) w):aa_ PR F.hV_ ⟨[.pointer (some ⟨p,0,none⟩),.string (str s)]⟩ w K:=by
 have hpj:=hj.pub hb
 have hpl:=aj_ hb
 have h0:Fs (λk=>k=p∨jrnS bj bd q k) w [⟨p,pubC bj each last com m,T.aR_,true⟩] w:=(Fr.init _ w).entry hb (λx h=>by cases h) λ_=>.inl rfl
 refine ka_ p (some ⟨bj,0,none⟩) each last com (some m) (str s) (λk=>k=p∨jrnS bj bd q k) K w h0 ⟨.inl rfl,trivial⟩ ⟨λh=>h2 (λhh=>?_),λh=>?_⟩
 ·rw [af_] at h;omega
 ·rw [af_] at h
  refine tr_ hb hj hr ⟨_,rfl,h0,λh'=>h2 (λhh=>?_),λh' l0 hl0 w1 hF1=>?_⟩
  ·rw [af_,w64 (by omega) (by omega)] at h';omega
  ·rw [af_,w64 (by omega) (by omega)] at h'
   have g1:Grow w w1:=hF1.grow
   have hjw:=hj.grow g1
   have hjl:=hj.lt
   refine nk_ (s:=s) (y:=some ⟨l0,0,none⟩) (cy:=1) hjw (.inr ⟨l0,0,rfl,?_⟩) (λa ha e=>by cases ha;have:=hjl _ e;simp only [] at this;omega) (by omega) (by omega) (by omega) (λw2 q' c' hj2 hn2 g2 hq'=>?_) λw2 n ws hn2 hd2 hsn hws g2=>?_
   ·refine ⟨_,_,_,hF1.blk 1 rfl,λi hi=>?_⟩
    have:i=0:=by simpa using hi
    subst this;rfl
   ·refine ⟨_,rfl,_,hF1.step g2 (λx hx=>?_) (λk _ e=>.inr e),h1 (by omega) (by omega) w2 q' c' hj2 (λhn=>hn2 (hn.keep g1 λe=>e)) (g1.then g2) λa ha=>(hq' a ha).imp id λh=>Nat.le_trans g1.size h⟩
    rcases List.mem_cons.1 hx with rfl | hx
    ·exact hpj
    ·simp at hx;subst hx
     exact λe=>by have:=hjl _ e;simp only [] at this;omega
   ·refine ⟨_,rfl,_,hF1.step g2 (λx hx=>?_) (λk _ e=>.inr e),hE (by omega) (by omega) w2 n ws (λh=>hn2 (h.keep g1 λe=>e)) hd2 (Nat.le_trans g1.size hsn) hws (g1.then g2)⟩
    rcases List.mem_cons.1 hx with rfl | hx
    ·exact hpj
    ·simp at hx;subst hx
     exact λe=>by have:=hjl _ e;simp only [] at this;omega
def iI_ (D:Nat→Prop) (w:World) (c:Nat) (list:List (List UInt8)):Prop:=
 ∃q cc m R n,w.heap[c]? = some (.cells #[.slice q list.length cc,.map (some m)] T.cH_ (0,0))∧¬D c∧SlO D w q ((list.map bp_).map sv8')∧MapP w T.aq_ m n R∧¬D m∧pU_ (list.map bp_) R∧(list≠[]→cP_ R 0 list.length)
theorem iI_.keep {D D' S:Nat→Prop} {w w':World} {c:Nat} {list:List (List UInt8)} (h:iI_ D w c list) (g:Chg S w w') (hS:∀k,k<w.heap.size→S k→D k) (hD:∀k,k<w.heap.size→D' k→D k):iI_ D' w' c list:=by
 obtain ⟨q,cc,m,R,n,h1,h2,h3,h4,h5,h6⟩:=h
 have l1:=aj_ h1
 have l4:=h4.lt
 exact ⟨q,cc,m,R,n,g.get h1 (λe=>h2 (hS _ l1 e)),λe=>h2 (hD _ l1 e),h3.keep g hS hD,h4.keep g (λe=>h5 (hS _ l4 e)),λe=>h5 (hD _ l4 e),h6⟩
theorem tq_ {D:Nat→Prop} {w:World} {b:Nat} {mn:Man} {list:List (List UInt8)} (hv:VerO D w b mn list) (hL:VerL mn list) {K:Value→World→Prop} (hK:∀w' c,Grow w w'→iI_ (λk=>k<w.heap.size) w' c list→K (.pointer (some ⟨c,0,none⟩)) w'):aa_ PR F.dA_ ⟨[.pointer (some ⟨b,0,none⟩)]⟩ w K:=by
 obtain ⟨q,c,ql,cl,h1,h0,h2,h3,h4⟩:=hv
 have hf:Fs S0 w [⟨b,verC mn q c list ql cl,T.bu_,false⟩] w:=(Fr.init _ w).entry h1 (λx h=>by cases h) (λh=>by cases h)
 have hbl:=hL.ok.blocks.2
 have hb2:=hL.blocks
 refine ea_ b mn.version mn.nodes mn.edges q mn.shards.length c mn.blocks (str mn.root) ql list.length cl S0 K w hf ?_
 refine n6_ h3.sl rfl (by omega) (λx hx=>by have:=hL.small x hx;omega) λw1 t q' c' m R g1 hT _ hA ht hm hq=>⟨_,rfl,hf.after g1,hK w1 t g1 ?_⟩
 obtain ⟨t1,t2,⟨n,t3⟩,t4⟩:=hT
 rw [List.length_map] at t1
 exact ⟨q',c',m,R,n,t1,(λe=>by omega),t2.out hq,t3,(λe=>by omega),t4,hA⟩
theorem lb_ {w:World} {p bj m n b:Nat} {each last com:Int} {ver:Nat} {R:Value→Value→Prop} {mn:Man} {list:List (List UInt8)} (hb:w.heap[p]? = some (.cells (pubC bj each last com m) T.aR_ (0,0))) (hm:MapP w T.int m n R) (hR:hF_ R) (hv:VerO (λk=>k=p∨k=m) w b mn list) (hL:VerL mn list) (he:mn.version=ver) (hver:ver≤1099511627776) {K:Value→World→Prop}
  (hK:∀w' c n',Chg (λk=>k=p∨k=m) w w'→w'.heap[p]? = some (.cells (pubC bj each ver com m) T.aR_ (0,0))→MapP w' T.int m n' (λk v=>updR R (.int .i64 (ver:Int)) (.agg #[.pointer (some ⟨b,0,none⟩),.pointer (some ⟨c,0,none⟩)]) k v∧¬delP ver com k)→iI_ (λk=>k<w.heap.size) w' c list→K (.tuple #[]) w') :
  aa_ PR F.iU_ ⟨[.pointer (some ⟨p,0,none⟩),.pointer (some ⟨b,0,none⟩)]⟩ w K:=by
 have hpm:=gl_ hb hm
 have hc:∀ {w':World},VerO (λk=>k=p∨k=m) w' b mn list→w'.cell? ⟨b,0,none⟩=some (.int .i64 (ver:Int)):=by
  rintro w' ⟨q,c,ql,cl,h1,_⟩
  rw [ap_ h1,← he];rfl
 refine lo_ p (some ⟨bj,0,none⟩) each last com (some m) (some ⟨b,0,none⟩) (λk=>k=p∨k=m) K w ((Fr.init _ w).entry hb (λx h=>by cases h) λ_=>.inl rfl) ⟨.inl rfl,trivial⟩ ?_
 refine ad_.2 (ad_.2 (ad_.2 (ad_.2 ⟨_,hc hv,λw0 hF0=>⟨λw'=>w'.cell? ⟨b,0,none⟩=some (.int .i64 (ver:Int)),?_,ad_.2 (ad_.2 (ad_.2 (ad_.2 ⟨_,λw1 h=>h,?_⟩)))⟩⟩)))
 ·exact hc (hv.keep hF0.chg (λ_ _ e=>e) (λ_ _ e=>e))
 ·have g0:Chg (· = p) w w0:=hF0.stp.mono λi _ hi=>by simpa using hi
  have hv0:=hv.keep (D':=λk=>k=p∨k=m) hF0.chg (λ_ _ e=>e) (λ_ _ e=>e)
  refine tq_ hv0 hL λw2 c g2 hT2=>?_
  have hv2:=hv0.keep (D':=λk=>k=p∨k=m) g2 (λ_ _ e=>e.elim) (λ_ _ e=>e)
  have hF2:=hF0.after g2
  have hm2:=(hm.keep g0 hpm.symm).grow g2
  refine ⟨_,rfl,hF2,hc hv2,?_⟩
  refine k1_ lG_ do_ hm2 (h__ (i:=(ver:Int)) (by omega) (by omega)) λw3 hm3 g3 _=>?_
  have hF3:=hF2.step g3 (λx hx=>by simp at hx;subst hx;exact hpm) λk _ e=>.inr e
  refine ⟨hF3,?_⟩
  have hR3:hF_ (updR R (.int .i64 (ver:Int)) (.agg #[.pointer (some ⟨b,0,none⟩),.pointer (some ⟨c,0,none⟩)])):=by
   rintro k v (⟨rfl,rfl⟩ | ⟨_,hr⟩)
   ·exact ⟨ver,b,c,hver,rfl,rfl⟩
   ·exact hR k v hr
  refine k3_ (hF3.blk 0 rfl) hm3 hR3 (by omega) λw4 g4 hm4=>?_
  have hF4:=hF3.step g4 (λx hx=>by simp at hx;subst hx;exact hpm) λk _ e=>.inr e
  refine ⟨rfl,_,_,_,_,_,hF4,hK w4 c _ hF4.chg (hF4.blk 0 rfl) hm4 ?_⟩
  have ml:=hm.lt
  have s0:=g0.size
  exact (hT2.keep g3 (λk _ e=>by have e':k=m:=e;omega) (λ_ _ e=>e)).keep g4 (λk _ e=>by have e':k=m:=e;omega) (λk _ e=>by omega)
end Go.Vc
namespace Go.Vc
open Go Go.MapKept
structure PubS where
 p:Nat
 bj:Nat
 bd:Nat
 m:Nat
 each:Nat
 q:Option Addr
 c:Nat
 last:Nat
 com:Nat
 recs:List (List UInt8)
 R:Value→Value→Prop
 man:Nat→Man
 ex:Nat→Prop
def PubS.reg (x:PubS):Nat→Prop:=λk=>k=x.p∨k=x.m∨jrnS x.bj x.bd x.q k
def PubS.dom (x:PubS):Nat→Prop:=λk=>x.reg k∨x.ex k
def PubS.room (x:PubS):Nat:=200000 - (logL x.recs).length
def KeptAt (D:Nat→Prop) (w:World) (recs:List (List UInt8)) (last:Nat) (man:Nat→Man) (k v:Value):Prop:=
 ∃(i b c:Nat) (mn:Man) (list:List (List UInt8)),1≤i∧i≤last∧k=.int .i64 (i:Int)∧v=.agg #[.pointer (some ⟨b,0,none⟩),.pointer (some ⟨c,0,none⟩)]∧VerO D w b mn list∧VerL mn list∧mn.version=i∧mn=man i∧iI_ D w c list∧recV mn list∈recs
structure aK_ (N:Nat) (w:World) (x:PubS):Prop where
 blk:w.heap[x.p]? = some (.cells (pubC x.bj x.each x.last x.com x.m) T.aR_ (0,0))
 jrn:cs_ w x.bj x.bd x.q x.c x.recs
 map:∃n,MapP w T.int x.m n x.R
 kept:∀k v,x.R k v→KeptAt x.dom w x.recs x.last x.man k v
 has:∀i:Nat,1≤i→i≤x.last→x.last<i+3∨i=x.com→∃v,x.R (.int .i64 (i:Int)) v
 com_le:x.com≤x.last
 last_le:x.last≤x.recs.length
 room:(logL x.recs).length≤200000
 each1:1≤x.each
 each2:x.each≤4096
 lo:∀k,x.reg k→N≤k
 exlt:∀k,x.ex k→k<w.heap.size
 only:∀(i:Nat) v,x.R (.int .i64 (i:Int)) v→x.last<i+3∨i=x.com
 rep:Rep x.recs x.last x.com x.man
theorem KeptAt.keep {D D' S:Nat→Prop} {w w':World} {recs recs':List (List UInt8)} {last last':Nat} {man:Nat→Man} {k v:Value} (h:KeptAt D w recs last man k v) (g:Chg S w w') (hS:∀k,k<w.heap.size→S k→D k) (hD:∀k,k<w.heap.size→D' k→D k) (hl:last≤last') (hr:∀r∈recs,r∈recs'):KeptAt D' w' recs' last' man k v:=by
 obtain ⟨i,b,c,mn,list,h1,h2,h3,h4,h5,h6,h7,h8,h9,h10⟩:=h
 exact ⟨i,b,c,mn,list,h1,by omega,h3,h4,h5.keep g hS hD,h6,h7,h8,h9.keep g hS hD,hr _ h10⟩
theorem aK_.lt {N:Nat} {w:World} {x:PubS} (h:aK_ N w x):∀k,x.reg k→k<w.heap.size:=by
 rintro k (rfl | rfl | hk)
 ·exact aj_ h.blk
 ·obtain ⟨n,hm⟩:=h.map;exact hm.lt
 ·exact h.jrn.lt k hk
theorem aK_.keep {S:Nat→Prop} {N:Nat} {w w':World} {x:PubS} (h:aK_ N w x) (g:Chg S w w') (hS:∀k,k<w.heap.size→¬S k):aK_ N w' x:=by
 have g':Grow w w':=g.mono λi hi hs=>hS i hi hs
 obtain ⟨n,hm⟩:=h.map
 exact ⟨Grow.get g' h.blk,h.jrn.grow g',⟨n,hm.grow g'⟩,λk v hr=>(h.kept k v hr).keep g' (λ_ _ e=>e.elim) (λ_ _ e=>e) (Nat.le_refl _) (λ_ h=>h),h.has,h.com_le,h.last_le,h.room,h.each1,h.each2,h.lo,λk hk=>Nat.lt_of_lt_of_le (h.exlt k hk) g.size,h.only,h.rep⟩
theorem aK_.jB_ {S:Nat→Prop} {N:Nat} {w w':World} {x:PubS} (h:aK_ N w x) (g:Chg S w w') (hS:∀k,S k→x.ex k) (hn:∀k,S k→¬x.reg k):aK_ N w' x:=by
 obtain ⟨n,hm⟩:=h.map
 exact ⟨g.get h.blk λe=>hn _ e (.inl rfl),h.jrn.keep g λk e hk=>hn k e (.inr (.inr hk)),⟨n,hm.keep g λe=>hn _ e (.inr (.inl rfl))⟩,λk v hr=>(h.kept k v hr).keep g (λk _ e=>.inr (hS k e)) (λ_ _ e=>e) (Nat.le_refl _) (λ_ h=>h),h.has,h.com_le,h.last_le,h.room,h.each1,h.each2,h.lo,λk hk=>Nat.lt_of_lt_of_le (h.exlt k hk) g.size,h.only,h.rep⟩
theorem aK_.grow {N:Nat} {w w':World} {x:PubS} (h:aK_ N w x) (g:Grow w w'):aK_ N w' x:=h.keep g λ_ _ e=>e
theorem pw_ (f:List UInt8→Nat) (s:List UInt8):s.length+1≤(bg_ f s).length:=by rw [bh_];omega
theorem ku_ (recs:List (List UInt8)):recs.length≤(logL recs).length:=by
 induction recs with
 | nil=>simp [logL]
 | cons a l ih=>
  have h1:=pw_ crcN a
  have e:logL (a :: l)=bg_ crcN a++logL l:=rfl
  rw [e,List.length_append,List.length_cons];omega
theorem aK_.shown {N:Nat} {w:World} {x:PubS} (h:aK_ N w x):hF_ x.R:=by
 intro k v hr
 obtain ⟨i,b,c,mn,list,h1,h2,h3,h4,_⟩:=h.kept k v hr
 have:=h.last_le
 have:=h.room
 have:=ku_ x.recs
 exact ⟨i,b,c,by omega,h3,h4⟩
theorem aK_.small {N:Nat} {w:World} {x:PubS} (h:aK_ N w x):x.last≤200000∧x.com≤200000∧x.recs.length≤200000:=by
 have:=h.last_le
 have:=h.room
 have:=ku_ x.recs
 have:=h.com_le
 omega
theorem fZ_ {N:Nat} {w:World} {x:PubS} (h:aK_ N w x) {K:Value→World→Prop} (hK:K (.int .i64 x.last) w):aa_ PR F.iW_ ⟨[.pointer (some ⟨x.p,0,none⟩)]⟩ w K:=
 lq_ x.p (some ⟨x.bj,0,none⟩) x.each x.last x.com (some x.m) (· = x.p) K w ((Fr.init _ w).entry h.blk (λx h=>by cases h) λ_=>rfl) ⟨rfl,trivial⟩ hK
theorem ak_ {N:Nat} {w:World} {x:PubS} (h:aK_ N w x) {K:Value→World→Prop} (hK:K (.int .i64 x.com) w):aa_ PR F.e2_ ⟨[.pointer (some ⟨x.p,0,none⟩)]⟩ w K:=
 ga_ x.p (some ⟨x.bj,0,none⟩) x.each x.last x.com (some x.m) (· = x.p) K w ((Fr.init _ w).entry h.blk (λx h=>by cases h) λ_=>rfl) ⟨rfl,trivial⟩ hK
theorem oM_ {N:Nat} {w:World} {bd each:Nat} (hd:cg_ w bd ⟨#[]⟩) (hN:N≤bd) (hN2:N≤w.heap.size) (he:1≤each) (he2:each≤4096) {K:Value→World→Prop}
  (hK:∀w' x,Grow w w'→aK_ N w' x→x.bd=bd→x.each=each→x.last=0→x.com=0→x.recs=[]→w.heap.size≤x.p→(NoF w bd→NoF w' x.bd)→K (.tuple #[.pointer (some ⟨x.p,0,none⟩),.nilIface]) w'):aa_ PR F.nI_ ⟨[.pointer (some ⟨bd,0,none⟩),.int .i64 each]⟩ w K:=by
 have hf:∀ {w':World},Grow w w'→Fs S0 w [] w':=λg=>(Fr.init _ w).after g
 refine lr_ (some ⟨bd,0,none⟩) each S0 K w ⟨λh=>by omega,λ_=>⟨λh=>by omega,λ_=>?_⟩⟩
 refine nl_ hd λw1 bj g1 hbj hj=>⟨_,_,rfl,hf g1,λ_=>?_,(λt x h=>by cases h),.inl rfl⟩
 refine mT_ (k:=T.int) λw2 m hme hm g2=>⟨_,rfl,hf (g1.trans g2),λp hp w3 hF3=>?_⟩
 have g3:Grow w2 w3:=hF3.grow
 have hj3:=(hj.grow g2).grow g3
 refine mi_ hj3 (by simp) λw4 q' c' g4 _=>⟨_,_,_,rfl,hF3.after g4,?_⟩
 have hF4:=hF3.after g4
 refine ⟨λi q n1 n2 n3 q4 l w'=>i=0∧q=some ⟨bj,0,none⟩∧n1=each∧n2=0∧n3=0∧q4=some m∧w'=w4,⟨0,rfl,rfl,rfl,rfl,rfl,rfl,rfl⟩,?_⟩
 rintro i q n1 n2 n3 q4 D l w5 ⟨rfl,rfl,rfl,rfl,rfl,rfl,rfl⟩ hF5
 refine ⟨λh=>by simp at h,λ_=>?_⟩
 have s1:=g1.size
 have s2:=g2.size
 have hml:=hm.lt
 have gg:Grow w w5:=((g1.trans g2).trans g3).trans g4
 refine hK w5 ⟨p,bj,bd,m,each,none,0,0,0,[],(λ_ _=>False),(λ_=>⟨0,0,0,[],0,[]⟩),λ_=>False⟩ gg ⟨hF4.blk 0 rfl,hj3.grow g4,⟨0,(hm.grow g3).grow g4⟩,λk v h=>h.elim,λi h1 h2 _=>absurd (Nat.le_trans h1 h2) (by simp),Nat.le_refl _,Nat.le_refl _,by simp [logL],he,he2,?_,λk hk=>hk.elim,λi v h=>h.elim,Rep.nil⟩ rfl rfl rfl rfl rfl (by simp only [];omega) (λhn=>hn.keep gg λe=>e)
 rintro k (rfl | rfl | rfl | rfl | ⟨a,ha,_⟩)
 ·omega
 ·omega
 ·omega
 ·exact hN
 ·cases ha
end Go.Vc
namespace Go.Vc
open Go Go.MapKept
theorem og_ (l:List (List UInt8)) (k:Nat) (h:∀x∈l,x.length≤k):l.flatten.length≤k*l.length:=by
 induction l with
 | nil=>simp
 | cons a l ih=>
  have h1:=ih λx hx=>h x (List.mem_cons_of_mem _ hx)
  have h2:=h a List.mem_cons_self
  rw [List.flatten_cons,List.length_append,List.length_cons,Nat.mul_add];omega
theorem nG_ (s:List UInt8):ao_ [s]=ac_ s.length++s:=by simp [ao_]
theorem tI_:(⟨#[86]⟩:ByteArray)=str [86]:=rfl
theorem uv_:(⟨#[67]⟩:ByteArray)=str [67]:=rfl
theorem dy_ (n:Nat) (h:n≤72057594037927935):(ac_ n).length≤8:=by
 have:=es_ (l:=[(n:Int)]) (by simp;omega)
 simpa [aM_] using this
theorem kj_ {last com i:Nat} (h:¬delP last com (.int .i64 (i:Int))):last<i+3∨i=com:=by
 by_cases h1:last<i+3
 ·exact .inl h1
 ·by_cases h2:i=com
  ·exact .inr h2
  ·exact absurd ⟨i,rfl,by omega,by omega⟩ h
def snug (x:PubS) (nodes:Int) (l:List (Int × Int)):Prop:=roomy nodes x.each l∧2700+9*nodes+8*l.length≤60000∧2700+9*nodes+8*l.length≤x.room
def ng_ (x:PubS) (nodes:Int) (l:List (Int × Int)) (mn:Man) (list:List (List UInt8)):Prop:=
 fS_ nodes l∧nodes≤64*(x.each:Int)∧kY_ ((x.last+1:Nat):Int) nodes x.each l mn list∧list.length≤2048∧(recV mn list).length≤60000∧(recV mn list).length+6≤x.room
def eO_ (x:PubS) (nodes:Int) (l:List (Int × Int)) (c:Int):Prop:=
 q3_ nodes x.each l c∨(c=7∧∃mn list,fS_ nodes l∧nodes≤64*(x.each:Int)∧kY_ ((x.last+1:Nat):Int) nodes x.each l mn list∧¬((recV mn list).length≤60000∧(recV mn list).length+6≤x.room))
theorem ev_ {w w':World} {x:PubS} {q':Option Addr} (hq:∀a,q'=some a→x.q=some a∨w.heap.size≤a.block):∀k,(k=x.p∨k=x.m∨jrnS x.bj x.bd q' k)→x.reg k∨w.heap.size≤k:=by
 rintro k (rfl | rfl | rfl | rfl | ⟨a,ha,rfl⟩)
 ·exact .inl (.inl rfl)
 ·exact .inl (.inr (.inl rfl))
 ·exact .inl (.inr (.inr (.inl rfl)))
 ·exact .inl (.inr (.inr (.inr (.inl rfl))))
 ·rcases hq a ha with h | h
  ·exact .inl (.inr (.inr (.inr (.inr ⟨a,h,rfl⟩))))
  ·exact .inr h
theorem me_ {N:Nat} {w:World} {x:PubS} (h:aK_ N w x) (hN:N≤w.heap.size) {nodes:Int} {l:List (Int × Int)} {y:Option Addr} {n cy:Nat} (hs:Sl w y (encE l)) (hl:n=l.length) (hn:n≤100000) {K:Value→World→Prop}
  (h1:∀w' x' mn list,ng_ x nodes l mn list→x'.recs=x.recs++[recV mn list]→(x'.man=λi=>if i=x.last+1 then mn else x.man i)→aK_ N w' x'→Chg x.reg w w'→x'.p=x.p→x'.bd=x.bd→x'.each=x.each→x'.last=x.last+1→x'.com=x.com→x'.room<x.room→(x.room:Int)≤x'.room+2700+9*nodes+8*l.length→x'.ex=x.ex→(∀k,x'.reg k→x.reg k∨w.heap.size≤k)→fS_ nodes l→(NoF w x.bd→NoF w' x.bd)→K (.tuple #[.int .i64 x'.last,.nilIface]) w')
  (hE:∀w' n,¬NoF w x.bd→nq_ n w' x.bd→w.heap.size≤n→Chg x.reg w w'→K (.tuple #[.int .i64 0,.iface T.am_ (.int .i64 8)]) w')
  (h2:∀w' v c,Grow w w'→aK_ N w' x→isEC c v→eO_ x nodes l c→¬snug x nodes l→K (.tuple #[.int .i64 0,v]) w') :
  aa_ PR F.gc_ ⟨[.pointer (some ⟨x.p,0,none⟩),.int .i64 nodes,.slice y n cy]⟩ w K:=by
 obtain ⟨hsl,hsc,hsr⟩:=h.small
 have hlt:=h.lt
 have h0:Fs x.reg w [⟨x.p,pubC x.bj x.each x.last x.com x.m,T.aR_,true⟩] w:=(Fr.init _ w).entry h.blk (λx h=>by cases h) λ_=>.inl rfl
 refine hS_ x.p (some ⟨x.bj,0,none⟩) x.each x.last x.com (some x.m) nodes y n cy x.reg K w h0 ⟨.inl rfl,trivial⟩ λw0 hF0=>?_
 have g0:Grow w w0:=hF0.grow
 refine ⟨λ_=>True,trivial,?_⟩
 have e1:IntKind.wrap .i64 ((x.last:Int)+1)=((x.last+1:Nat):Int):=by rw [w64 (by omega) (by omega)];omega
 rw [e1]
 refine q2_ (version:=((x.last+1:Nat):Int)) h.each1 h.each2 (hs.grow g0) hl hn (λw1 b mn list g1 hbl hv hL hmv hfl hgg h64 hmk hl2=>?_) (by omega) λw1 v cc g1 hv hme hbad=>?_
 ·have g01:=g0.trans g1
  have hF1:=hF0.reset.after g1
  refine ⟨_,_,rfl,hF1,trivial,λ_=>?_,(λt x h=>by cases h),.inl rfl⟩
  have hv1:VerO x.dom w1 b mn list:=hv.keep (.refl (λ_=>False) _) (λ_ _ e=>e.elim) λk _ e=>by
   have:=g0.size
   rcases e with e | e
   ·have:=hlt k e;omega
   ·have:=h.exlt k e;omega
  obtain ⟨qm,cm,ql,cl,hb1,hb0,hq1,hq2,hlc⟩:=id hv1
  have hcell:∀ {w':World},Grow w1 w'→∀k v,(verC mn qm cm list ql cl)[k]? = some v→w'.cell? ⟨b,k,none⟩=some v:=λg k v hv=>by
   rw [ap_ (Grow.get g hb1)];exact hv
  have hmn:=f__ hL.ok
  have hbl2:=hL.ok.blocks.2
  have hbe:=hL.blocks
  have hps:(ac_ (aH_ mn).length).length≤8:=dy_ _ (by omega)
  have hfl2:list.flatten.length≤200000:=by
   have:=og_ list 64 hL.small
   omega
  refine ad_.2 (ad_.2 (ad_.2 ⟨mn.version,by rw [an_,an_];exact hcell (.refl _ _) 0 _ rfl,mn.nodes,by rw [an_,an_];exact hcell (.refl _ _) 1 _ rfl,mn.edges,by rw [an_,an_];exact hcell (.refl _ _) 2 _ rfl,qm,mn.shards.length,cm,by rw [an_,an_];exact hcell (.refl _ _) 3 _ rfl,mn.blocks,by rw [an_,an_];exact hcell (.refl _ _) 4 _ rfl,str mn.root,by rw [an_,an_];exact hcell (.refl _ _) 5 _ rfl,?_⟩))
  refine q4_ hL.ok hq1.sl λw2 g2=>⟨_,_,rfl,hF1.after g2,λw3 hF3=>?_⟩
  have g3:Grow w2 w3:=hF3.grow
  refine ⟨λw'=>w'.cell? ⟨b,6,none⟩=some (.slice ql list.length cl),hcell (g2.trans g3) 6 _ rfl,ad_.2 (ad_.2 (ad_.2 ⟨_,_,_,λw4 h=>by rw [an_];exact h,λl4 hl4 w5 hF5=>?_⟩))⟩
  have g5:Grow w3 w5:=hF5.grow
  have g15:Grow w1 w5:=(g2.trans g3).trans g5
  refine ⟨hcell g15 6 _ rfl,?_⟩
  have hsl5:Sl w5 (some ⟨l4,0,none⟩) ([aH_ mn].map sv8'):=.inr ⟨l4,0,rfl,_,_,_,hF5.blk 1 rfl,λi hi=>by
   have:i=0:=by simpa using hi
   subst this;rfl⟩
  have hptl:(ao_ [aH_ mn]).length≤1208:=by rw [nG_,List.length_append];omega
  refine au_ hsl5 rfl (by simp) (by omega) λw6 g6=>⟨_,rfl,hF5.after g6,hcell (g15.trans g6) 6 _ rfl,by rw [af_];omega,?_⟩
  refine jS_ (hq2.sl.grow (g15.trans g6)) rfl hlc (by omega) (by omega) λw7 g7=>⟨_,rfl,(hF5.after g6).after g7,hcell ((g15.trans g6).trans g7) 6 _ rfl,by rw [tI_,ai_,af_,af_,List.length_append,List.length_singleton];omega,?_⟩
  rw [tI_,ai_,ai_]
  have g17:=(g15.trans g6).trans g7
  have g07:=g01.trans g17
  have hF7:=(hF5.after g6).after g7
  have hp7:=h.grow g07
  have hrl:(recV mn list).length=1+(ao_ [aH_ mn]).length+list.flatten.length:=by simp [recV];omega
  have hF7':Fs x.reg w [⟨x.p,pubC x.bj x.each x.last x.com x.m,T.aR_,true⟩] w7:=hF7.sub (List.Sublist.cons_cons _ (List.nil_sublist _))
  have hl4:w.heap.size≤l4:=by have:=g01.size;have:=g2.size;have:=g3.size;omega
  refine ji_ (s:=recV mn list) hp7.blk hp7.jrn h.room hsr (by omega) (λhs1 hs2 w8 q' c' hj8 hn8 g8 hq'=>?_) (λhs1 hs2 w8 n ws hn8 hd8 hsn hws g8=>?_) λhno=>?_
  ·have hpub:=hp7.jrn.pub hp7.blk
   obtain ⟨nm,hm⟩:=hp7.map
   have hmj:=hp7.jrn.mapb hm
   have hF8:=hF7.step g8 (λz hz=>by
    rcases List.mem_cons.1 hz with rfl | hz
    ·exact hpub
    ·simp at hz;subst hz
     exact λe=>by have:=hlt _ (.inr (.inr e));simp only [] at this;omega) (λk _ e=>.inr (.inr e))
   have hb8:¬jrnS x.bj x.bd x.q b:=λe=>hb0 (.inl (.inr (.inr e)))
   have hv7:VerO x.dom w7 b mn list:=hv1.keep g17 (λ_ _ e=>e.elim) (λ_ _ e=>e)
   have hv8:VerO x.dom w8 b mn list:=hv7.keep g8 (λ_ _ e=>.inl (.inr (.inr e))) (λ_ _ e=>e)
   have hc8:w8.cell? ⟨b,6,none⟩=some (.slice ql list.length cl):=by
    rw [ap_ (g8.get (Grow.get g17 hb1) hb8)];rfl
   refine ⟨_,rfl,_,_,_,_,_,hF8,hc8,λ_=>?_,(λt x h=>by cases h),.inl rfl⟩
   have hb8':=g8.get hp7.blk hpub
   have hm8:=hm.keep g8 hmj
   refine lb_ (ver:=x.last+1) (mn:=mn) (list:=list) hb8' hm8 h.shown (hv8.keep (.refl (λ_=>False) _) (λ_ _ e=>e.elim) (λk _ e=>.inl (e.elim .inl λe=>.inr (.inl e)))) hL hmv (by omega) λw9 cc n9 g9 hb9 hm9 hT9=>?_
   have hF8':Fs x.reg w [⟨x.p,pubC x.bj x.each x.last x.com x.m,T.aR_,true⟩] w8:=hF8.sub (List.Sublist.cons_cons _ (List.nil_sublist _))
   have hF9:Fs x.reg w [⟨x.p,pubC x.bj x.each ((x.last+1:Nat):Int) x.com x.m,T.aR_,true⟩] w9:=hF8'.mod g9 hb9 (λz hz=>by cases hz) λk _ e=>e.elim .inl λe=>.inr (.inl e)
   refine ⟨rfl,_,_,_,_,_,hF9,?_⟩
   have hv9:VerO x.dom w9 b mn list:=hv8.keep g9 (λk _ e=>.inl (e.elim .inl λe=>.inr (.inl e))) (λ_ _ e=>e)
   have hc9:w9.cell? ⟨b,0,none⟩=some (.int .i64 ((x.last+1:Nat):Int)):=by
    obtain ⟨q9,c9,ql9,cl9,h9,_⟩:=hv9
    rw [ap_ h9,← hmv];rfl
   refine ad_.2 (ad_.2 (ad_.2 (ad_.2 ⟨_,hc9,?_⟩)))
   have hqn:∀a,q'=some a→x.q=some a∨w.heap.size≤a.block:=λa ha=>(hq' a ha).imp id λh=>Nat.le_trans g07.size h
   have hreg:=ev_ (w':=w9) hqn
   have hmj8:¬(λk=>k=x.p∨k=x.m) x.bj:=by
    rintro (e | e)
    ·exact hpub (.inl e.symm)
    ·exact hmj (.inl e.symm)
   have hj9:cs_ w9 x.bj x.bd q' c' (x.recs++[recV mn list]):=hj8.keep g9 λk e hk=>by
    rcases e with rfl | rfl
    ·exact hj8.pub hb8' hk
    ·exact hj8.mapb hm8 hk
   let x':PubS:=⟨x.p,x.bj,x.bd,x.m,x.each,q',c',x.last+1,x.com,x.recs++[recV mn list],λk v=>updR x.R (.int .i64 ((x.last+1:Nat):Int)) (.agg #[.pointer (some ⟨b,0,none⟩),.pointer (some ⟨cc,0,none⟩)]) k v∧¬delP ((x.last+1:Nat):Int) x.com k,(λi=>if i=x.last+1 then mn else x.man i),x.ex⟩
   have hlog:(logL (x.recs++[recV mn list])).length=(logL x.recs).length+(recV mn list).length+6:=by
    rw [cJ_,List.length_append,bh_];omega
   have hreg8:∀k,k<w8.heap.size→x'.reg k→x.reg k∨w7.heap.size≤k:=λk _ e=>by
    rcases ev_ (w:=w7) (w':=w9) hq' k e with h | h
    ·exact .inl h
    ·exact .inr h
   have kept7:∀k v,x.R k v→KeptAt x.dom w7 x.recs x.last x.man k v:=hp7.kept
   have keep9:∀ {b mn list},VerO x.dom w7 b mn list→VerO x'.dom w9 b mn list:=λhv=>by
    have a8:VerO (λk=>(k=x.p∨k=x.m∨jrnS x.bj x.bd q' k)∨x.ex k) w8 _ _ _:=hv.keep g8 (λ_ _ e=>.inl (.inr (.inr e))) (λk hk e=>e.elim (λe=>.inl ((ev_ (w:=w7) (w':=w8) hq' k e).elim id λh=>by omega)) .inr)
    exact a8.keep g9 (λk _ e=>.inl (e.elim .inl λe=>.inr (.inl e))) (λ_ _ e=>e)
   have keepT:∀ {c list},iI_ x.dom w7 c list→iI_ x'.dom w9 c list:=λhv=>by
    have a8:iI_ (λk=>(k=x.p∨k=x.m∨jrnS x.bj x.bd q' k)∨x.ex k) w8 _ _:=hv.keep g8 (λ_ _ e=>.inl (.inr (.inr e))) (λk hk e=>e.elim (λe=>.inl ((ev_ (w:=w7) (w':=w8) hq' k e).elim id λh=>by omega)) .inr)
    exact a8.keep g9 (λk _ e=>.inl (e.elim .inl λe=>.inr (.inl e))) (λ_ _ e=>e)
   refine h1 w9 x' mn list ⟨hgg,h64,hmk,hl2,hs1,by unfold PubS.room;omega⟩ rfl rfl ⟨hb9,hj9,⟨n9,hm9⟩,?_,?_,by show x.com≤x.last+1;have:=h.com_le;omega,by show x.last+1≤_;rw [List.length_append,List.length_singleton];have:=h.last_le;omega,by show (logL _).length≤_;rw [hlog];omega,h.each1,h.each2,λk hk=>?_,λk hk=>Nat.lt_of_lt_of_le (h.exlt k hk) hF9.chg.size,λj v hr=>kj_ hr.2,h.rep.snoc (.ver mn list) ⟨hL,hmv⟩ hs1 rfl⟩ hF9.chg rfl rfl rfl rfl rfl ?_ ?_ rfl hreg hgg (λhn=>(hn8 (hn.keep g07 λe=>e)).keep g9 λe=>e.elim (λe=>hj8.pub hb8' (.inr (.inl e.symm))) λe=>hj8.mapb hm8 (.inr (.inl e.symm)))
   ·rintro k v ⟨hr,_⟩
    rcases hr with ⟨rfl,rfl⟩ | ⟨hne,hr⟩
    ·refine ⟨x.last+1,b,cc,mn,list,by omega,Nat.le_refl _,rfl,rfl,keep9 hv7,hL,hmv,(by show mn=if x.last+1=x.last+1 then mn else x.man (x.last+1);rw [if_pos rfl]),hT9.keep (.refl (λ_=>False) _) (λ_ _ e=>e.elim) (λk _ e=>?_),List.mem_append_right _ List.mem_cons_self⟩
     rcases e with (rfl | rfl | hk) | e
     ·exact aj_ hb8'
     ·exact hm8.lt
     ·exact hj8.lt _ hk
     ·have:=hp7.exlt k e;have:=g8.size;omega
    ·obtain ⟨i,b',c',mn',list',k1,k2,k3,k4,k5,k6,k7,k8,k9,k10⟩:=kept7 k v hr
     exact ⟨i,b',c',mn',list',k1,by show i≤x.last+1;omega,k3,k4,keep9 k5,k6,k7,(by show mn'=if i=x.last+1 then mn else x.man i;rw [if_neg (by omega)];exact k8),keepT k9,List.mem_append_left _ k10⟩
   ·intro i hi1 hi2 hi3
    have hi2':i≤x.last+1:=hi2
    have hi3':x.last+1<i+3∨i=x.com:=hi3
    have hnd:¬delP ((x.last+1:Nat):Int) x.com (.int .i64 (i:Int)):=by
     rintro ⟨j,hj,k1,k2⟩
     have e2:(i:Int)=j:=by injection hj
     subst e2
     rcases hi3' with h' | h'
     ·omega
     ·exact k2 (by rw [h'])
    by_cases hi:i=x.last+1
    ·subst hi;exact ⟨_,.inl ⟨rfl,rfl⟩,hnd⟩
    ·obtain ⟨v,hv⟩:=h.has i hi1 (by omega) (hi3'.imp (λh=>by omega) id)
     refine ⟨v,.inr ⟨λe=>hi ?_,hv⟩,hnd⟩
     have e2:(i:Int)=((x.last+1:Nat):Int):=by injection e
     omega
   ·rcases hreg k hk with e | e
    ·exact h.lo k e
    ·omega
   ·show 200000 - (logL (x.recs++[recV mn list])).length<200000 - (logL x.recs).length
    rw [hlog];omega
   ·show ((200000 - (logL x.recs).length:Nat):Int)≤((200000 - (logL (x.recs++[recV mn list])).length:Nat):Int)+2700+9*nodes+8*l.length
    rw [hlog];omega
  ·have hpub:=hp7.jrn.pub hp7.blk
   have hF8:=hF7.step g8 (λz hz=>by
    rcases List.mem_cons.1 hz with rfl | hz
    ·exact hpub
    ·simp at hz;subst hz
     exact λe=>by have:=hlt _ (.inr (.inr e));simp only [] at this;omega) (λk _ e=>.inr (.inr e))
   have hb8:¬jrnS x.bj x.bd x.q b:=λe=>hb0 (.inl (.inr (.inr e)))
   have hc8:w8.cell? ⟨b,6,none⟩=some (.slice ql list.length cl):=by
    rw [ap_ (g8.get (Grow.get g17 hb1) hb8)];rfl
   have hlog:(logL (x.recs++[recV mn list])).length≤200000:=by
    rw [cJ_,List.length_append,bh_];omega
   exact ⟨_,rfl,_,_,_,_,_,hF8,hc8,(λh=>by cases h),(λt v he=>hE w8 n (λh=>hn8 (h.keep g07 λe=>e)) ⟨x.recs,ws,hd8,⟨⟨_,_,_,h.rep⟩,h.room⟩,hws.imp id λe=>⟨recV mn list,e,⟨_,_,_,h.rep.snoc (.ver mn list) ⟨hL,hmv⟩ hs1 rfl⟩,hlog⟩⟩ (Nat.le_trans g07.size hsn) (g07.then g8 |>.mono λk _ e=>.inr (.inr e))),.inr ⟨_,_,rfl⟩⟩
  ·refine ⟨_,rfl,_,_,_,_,_,hF7,hcell g17 6 _ rfl,(λh=>by cases h),λt v he=>?_,.inr ⟨_,_,rfl⟩⟩
   refine h2 w7 _ 7 g07 hp7 (.inl rfl) (.inr ⟨rfl,mn,list,hgg,h64,hmk,λhh=>hno ⟨hh.1,by have:=hh.2;have:=h.room;unfold PubS.room at *;omega⟩⟩) λhh=>hno ?_
   have hr:=h.room
   have h3:=hh.2.1
   have h4:=hh.2.2
   unfold PubS.room at h4
   omega
 ·have g01:=g0.trans g1
  refine ⟨_,_,rfl,hF0.reset.after g1,trivial,(λh=>by obtain ⟨t,x,rfl⟩:=hv.err;cases h),λt v he=>?_,.inr (by obtain ⟨t,x,h⟩:=hv.err;exact ⟨t,x,h⟩)⟩
  exact h2 w1 _ cc g01 (h.grow g01) hv (.inl hme) λhh=>hbad hh.1
theorem o7_:∃i,PR.info? T.d3_=some i∧i.zero=some (.agg #[.pointer none,.pointer none]):=by
 have h:(match PR.info? T.d3_ with | some i=>(match i.zero with | some (.agg ⟨[.pointer none,.pointer none]⟩)=>true | _=>false) | none=>false)=true:=by kernel_rfl
 split at h
 ·rename_i i hi
  refine ⟨i,hi,?_⟩
  split at h
  ·assumption
  ·cases h
 ·cases h
theorem kr_:∀w:World,(zeroValue T.d3_).run PR w=.ok (.agg #[.pointer none,.pointer none]) w:=λw=>by
 obtain ⟨i,hi,hz⟩:=o7_
 simp [zeroValue,typeInfo,hi,hz]
theorem iz_ {w:World} {p bj m n each last com ver:Nat} {R:Value→Value→Prop} {v:Value} (hb:w.heap[p]? = some (.cells (pubC bj each last com m) T.aR_ (0,0))) (hm:MapP w T.int m n R) (hsh:hF_ R) (hlast:last≤1000000) (hR:R (.int .i64 (ver:Int)) v) (hlt:com<ver) {K:Value→World→Prop}
  (hK:∀w' n',Chg (λk=>k=p∨k=m) w w'→w'.heap[p]? = some (.cells (pubC bj each last ver m) T.aR_ (0,0))→MapP w' T.int m n' (λk v=>R k v∧¬delP last ver k)→K (.tuple #[]) w') :
  aa_ PR F.gV_ ⟨[.pointer (some ⟨p,0,none⟩),.int .i64 (ver:Int)]⟩ w K:=by
 have hpm:=gl_ hb hm
 obtain ⟨i,b,c,k2,k3,k4⟩:=hsh _ _ hR
 have hvi:ver=i:=by
  have e2:(ver:Int)=(i:Int):=by injection k3
  omega
 subst hvi
 refine iR_ p (some ⟨bj,0,none⟩) each last com (some m) ver (λk=>k=p∨k=m) K w ((Fr.init _ w).entry hb (λx h=>by cases h) λ_=>.inl rfl) ⟨.inl rfl,trivial⟩ ?_
 refine ec_ lG_ do_ hm (h__ (i:=(ver:Int)) (by omega) (by omega)) true kr_ (λv' hv'=>?_) λhno=>absurd hR (hno v)
 have:v'=v:=hm.inj hv' hR
 subst this
 subst k4
 refine ⟨_,_,true,rfl,(λ_=>⟨(Fr.init _ w).entry hb (λx h=>by cases h) λ_=>.inl rfl,λl0 hl0=>⟨λ_ w1 hF1=>?_,λhh=>absurd hlt (by omega)⟩⟩),λh=>by cases h⟩
 have g1:Chg (· = p) w w1:=hF1.stp.mono λi hi he=>by simp at he;rcases he with e | e;exact e;omega
 have hm1:=hm.keep g1 hpm.symm
 refine k3_ (hF1.blk 0 rfl) hm1 hsh (by omega) λw2 g2 hm2=>?_
 have hF2:=hF1.reset.step g2 (λz hz=>by simp at hz;subst hz;exact hpm) λk _ e=>.inr e
 exact ⟨rfl,_,_,_,_,_,hF2,hK w2 _ hF2.chg (hF2.blk 0 rfl) hm2⟩
theorem np_ {N:Nat} {w:World} {x:PubS} (h:aK_ N w x) (hN:N≤w.heap.size) {ver:Int} (hi : -9223372036854775808≤ver∧ver≤9223372036854775807) {K:Value→World→Prop}
  (h1:∀w' x',x'.recs=x.recs++[recC x'.com]→(recC x'.com).length+6≤x.room→aK_ N w' x'→Chg x.reg w w'→x'.p=x.p→x'.bd=x.bd→x'.each=x.each→x'.last=x.last→ver=x'.com→x.com<x'.com→x'.room<x.room→x.room≤x'.room+20→x'.man=x.man→x'.com≤x'.last→x'.ex=x.ex→(∀k,x'.reg k→x.reg k∨w.heap.size≤k)→(NoF w x.bd→NoF w' x.bd)→K .nilIface w')
  (hE:∀w' n,¬NoF w x.bd→nq_ n w' x.bd→w.heap.size≤n→Chg x.reg w w'→K (.iface T.am_ (.int .i64 8)) w')
  (h2:∀w' v c,Grow w w'→aK_ N w' x→v=.iface T.am_ (.int .i64 c)→(c=13∧¬(x.com<ver∧ver≤x.last∧x.last<ver+3)∨c=7∧(x.com<ver∧ver≤x.last∧x.last<ver+3)∧x.room<(recC ver.toNat).length+6)→¬(x.com<ver∧ver≤x.last∧x.last<ver+3∧20≤x.room)→K v w') :
  aa_ PR F.gW_ ⟨[.pointer (some ⟨x.p,0,none⟩),.int .i64 ver]⟩ w K:=by
 obtain ⟨hsl,hsc,hsr⟩:=h.small
 obtain ⟨n,hm⟩:=h.map
 have hpm:=gl_ h.blk hm
 have hlt:=h.lt
 have h0:Fs x.reg w [⟨x.p,pubC x.bj x.each x.last x.com x.m,T.aR_,true⟩] w:=(Fr.init _ w).entry h.blk (λx h=>by cases h) λ_=>.inl rfl
 refine iS_ x.p (some ⟨x.bj,0,none⟩) x.each x.last x.com (some x.m) ver x.reg K w h0 ⟨.inl rfl,trivial⟩ ?_
 refine ec_ lG_ do_ hm (h__ hi.1 hi.2) true kr_ (λv hv=>?_) λhno=>?_
 ·obtain ⟨i,b,c,mn,list,k1,k2,k3,k4,k5⟩:=h.kept _ _ hv
  have hvi:ver=i:=by injection k3
  subst hvi
  subst k4
  refine ⟨_,_,true,rfl,(λ_=>⟨h0,λl0 hl0=>⟨λhle w1 hF1=>?_,λhgt w1 hF1=>?_⟩⟩),λh=>by cases h⟩
  ·have g1:Grow w w1:=(hF1.unM hl0).grow
   exact h2 w1 _ 13 g1 (h.grow g1) rfl (.inl ⟨rfl,λhh=>by omega⟩) λhh=>by omega
  ·have g1:Grow w w1:=(hF1.unM hl0).grow
   have hF1':=(hF1.unM hl0).reset
   refine a0_ (n:=(i:Int)) (by omega) λw2 g2=>⟨_,_,rfl,hF1'.after g2,?_⟩
   have hF2:=hF1'.after g2
   have g02:=g1.trans g2
   have hpl:=dy_ i (by omega)
   rw [Int.toNat_natCast] at *
   refine ⟨by rw [af_];omega,?_⟩
   rw [uv_,ai_]
   have hp2:=h.grow g02
   obtain ⟨n2,hm2⟩:=hp2.map
   have hrl:(recC i).length=1+(ac_ i).length:=by simp [recC];omega
   have hro:(RecO.com i).ok ⟨x.last,x.com,x.man⟩:=⟨by show x.com<i;omega,k2,by
     show x.last<i+3
     rcases h.only i _ hv with h' | h'
     ·exact h'
     ·omega⟩
   refine ji_ (s:=recC i) hp2.blk hp2.jrn h.room hsr (by omega) (λhs1 hs2 w3 q' c' hj3 hn3 g3 hq'=>?_) (λhs1 hs2 w3 n ws hn3 hd3 hsn hws g3=>?_) λhno=>?_
   ·have hpub:=hp2.jrn.pub hp2.blk
    have hmj:=hp2.jrn.mapb hm2
    have hF3:=hF2.step g3 (λz hz=>by simp at hz;subst hz;exact hpub) (λk _ e=>.inr (.inr e))
    refine ⟨_,rfl,_,_,_,_,_,hF3,λ_=>?_,(λt x h=>by cases h),.inl rfl⟩
    have hb3:=g3.get hp2.blk hpub
    have hm3:=hm2.keep g3 hmj
    have hlog:(logL (x.recs++[recC i])).length=(logL x.recs).length+(recC i).length+6:=by
     rw [cJ_,List.length_append,bh_];omega
    let x1:PubS:=⟨x.p,x.bj,x.bd,x.m,x.each,q',c',x.last,x.com,x.recs++[recC i],x.R,x.man,x.ex⟩
    have hqn:∀a,q'=some a→x.q=some a∨w.heap.size≤a.block:=λa ha=>(hq' a ha).imp id λh=>Nat.le_trans g02.size h
    have hreg:=ev_ (w':=w3) hqn
    have k3':∀k v,x.R k v→KeptAt x1.dom w3 x1.recs x.last x.man k v:=λk v hr=>(hp2.kept k v hr).keep g3 (λ_ _ e=>.inl (.inr (.inr e))) (λk hk e=>e.elim (λe=>.inl ((ev_ (w:=w2) (w':=w3) hq' k e).elim id λh=>by omega)) .inr) (Nat.le_refl _) (λ_ h=>List.mem_append_left _ h)
    have room3:(logL x1.recs).length≤200000:=by show (logL _).length≤_;rw [hlog];omega
    refine iz_ hb3 hm3 h.shown (by omega) (ver:=i) hv (by omega) λw4 n4 g4 hb4 hm4=>?_
    have hF4:=hF3.mod g4 hb4 (λz hz=>by cases hz) λk _ e=>e.elim .inl λe=>.inr (.inl e)
    refine ⟨rfl,_,_,_,_,_,hF4,?_⟩
    have g4':∀k,(k=x1.p∨k=x1.m)→x1.reg k:=λk e=>e.elim .inl λe=>.inr (.inl e)
    let x2:PubS:=⟨x.p,x.bj,x.bd,x.m,x.each,q',c',x.last,i,x.recs++[recC i],λk v=>x.R k v∧¬delP x.last i k,x.man,x.ex⟩
    refine h1 w4 x2 rfl (by show (recC i).length+6≤x.room;unfold PubS.room;omega) ⟨hb4,hj3.keep g4 λk e hk=>?_,⟨n4,hm4⟩,λk v hr=>(k3' k v hr.1).keep g4 (λk _ e=>.inl (g4' k e)) (λ_ _ e=>e) (Nat.le_refl _) (λ_ h=>h),λj hj1 hj2 hj3=>?_,k2,(by show x.last≤_;rw [List.length_append];have:=h.last_le;omega),room3,h.each1,h.each2,λk hk=>(hreg k hk).elim (h.lo k) λe=>by omega,λk hk=>Nat.lt_of_lt_of_le (Nat.lt_of_lt_of_le (hp2.exlt k hk) g3.size) g4.size,λj v hr=>?_,h.rep.snoc (.com i) hro hs1 rfl⟩ hF4.chg rfl rfl rfl rfl rfl (by show x.com<i;omega) ?_ ?_ rfl k2 rfl hreg (λhn=>(hn3 (hn.keep g02 λe=>e)).keep g4 λe=>e.elim (λe=>hj3.pub hb3 (.inr (.inl e.symm))) λe=>hj3.mapb hm3 (.inr (.inl e.symm)))
    ·rcases e with rfl | rfl
     ·exact hj3.pub hb3 hk
     ·exact hj3.mapb hm3 hk
    ·have hj3':x.last<j+3∨j=i:=hj3
     have hnd:¬delP x.last i (.int .i64 (j:Int)):=by
      rintro ⟨j',hj',a1,a2⟩
      have e2:(j:Int)=j':=by injection hj'
      subst e2
      rcases hj3' with h' | h'
      ·omega
      ·exact a2 (by rw [h'])
     rcases hj3' with h' | rfl
     ·obtain ⟨v,hv⟩:=h.has j hj1 hj2 (.inl h')
      exact ⟨v,hv,hnd⟩
     ·exact ⟨_,hv,hnd⟩
    ·exact kj_ hr.2
    ·show 200000 - (logL (x.recs++[recC i])).length<200000 - (logL x.recs).length
     rw [hlog];omega
    ·show 200000 - (logL x.recs).length≤200000 - (logL (x.recs++[recC i])).length+20
     rw [hlog];omega
   ·have hpub:=hp2.jrn.pub hp2.blk
    have hF3:=hF2.step g3 (λz hz=>by simp at hz;subst hz;exact hpub) (λk _ e=>.inr (.inr e))
    have hlog:(logL (x.recs++[recC i])).length≤200000:=by
     rw [cJ_,List.length_append,bh_];omega
    exact ⟨_,rfl,_,_,_,_,_,hF3,(λh=>by cases h),(λt v he=>hE w3 n (λh=>hn3 (h.keep g02 λe=>e)) ⟨x.recs,ws,hd3,⟨⟨_,_,_,h.rep⟩,h.room⟩,hws.imp id λe=>⟨recC i,e,⟨_,_,_,h.rep.snoc (.com i) hro hs1 rfl⟩,hlog⟩⟩ (Nat.le_trans g02.size hsn) (g02.then g3 |>.mono λk _ e=>.inr (.inr e))),.inr ⟨_,_,rfl⟩⟩
   ·refine ⟨_,rfl,_,_,_,_,_,hF2,(λh=>by cases h),λt v he=>?_,.inr ⟨_,_,rfl⟩⟩
    refine h2 w2 _ 7 g02 hp2 rfl (.inr ⟨rfl,⟨by omega,by omega,by rcases h.only i _ hv with h' | h' <;> omega⟩,?_⟩) λhh=>hno ?_
    ·have hr:=h.room
     unfold PubS.room
     omega
    have h4:=hh.2.2.2
    have hr:=h.room
    unfold PubS.room at h4
    omega
 ·refine ⟨_,_,false,rfl,(λh=>by cases h),λ_=>⟨h0,λl2 hl2 w1 hF1=>?_⟩⟩
  have g1:Grow w w1:=(hF1.unM hl2).grow
  have key:¬(x.com<ver∧ver≤x.last∧x.last<ver+3):=λhh=>by
   obtain ⟨i,rfl⟩:=Int.eq_ofNat_of_zero_le (a:=ver) (by omega)
   obtain ⟨v,hv⟩:=h.has i (by omega) (by omega) (.inl (by omega))
   exact hno v hv
  exact h2 w1 _ 13 g1 (h.grow g1) rfl (.inl ⟨rfl,key⟩) λhh=>key ⟨hh.1,hh.2.1,hh.2.2.1⟩
end Go.Vc
namespace Go.Vc
open Go
theorem fT_ {α:Type} {s:Nat} {f:α→List Value} (hf:∀x,(f x).length=s):∀ {l:List α} {k j:Nat},(h:k<l.length)→j<s→(l.flatMap f)[k*s+j]? = (f l[k])[j]?
 | a :: l,0,j,h,hj=>by
  rw [List.flatMap_cons,List.getElem?_append_left (by rw [hf];omega)];simp
 | a :: l,k+1,j,h,hj=>by
  have e:(k+1)*s+j=s+(k*s+j):=by rw [Nat.add_mul];omega
  rw [List.flatMap_cons,List.getElem?_append_right (by rw [hf];omega),hf,e,Nat.add_sub_cancel_left,fT_ hf (l:=l) (k:=k) (by simpa using h) hj];rfl
theorem bN_ {α:Type} {s:Nat} {f:α→List Value} (hf:∀x,(f x).length=s):∀l:List α,(l.flatMap f).length=l.length*s
 | []=>by simp
 | a :: l=>by rw [List.flatMap_cons,List.length_append,hf,bN_ hf l,List.length_cons,Nat.add_mul];omega
theorem Sl.rdN {α:Type} {s:Nat} {f:α→List Value} (hf:∀x,(f x).length=s) (h0:0<s) {w:World} {q:Option Addr} {l:List α} (h:Sl w q (l.flatMap f)) {n:Int} {k m:Nat} {K:Addr→Prop} (hn:n=k) (hk:k<l.length) (hm:k<m)
  (hK:∀a,(∀j v,(f l[k])[j]? = some v→w.cell? (a.add j)=some v)→K a):Dr q (λa=>0≤n∧n<((m:Nat):Int)∧Dr (some (Addr.add a (n.toNat*s))) K):=by
 subst hn
 have hel:=bN_ hf l
 have hpos:k*s<l.length*s:=Nat.mul_lt_mul_of_pos_right hk h0
 obtain ⟨b,o,rfl,hc⟩:=h.ex (by intro e;rw [e] at hel;simp at hel;omega)
 refine ad_.2 ⟨by omega,by omega,ad_.2 ?_⟩
 rw [an_,Int.toNat_natCast]
 refine hK _ λj v hv=>?_
 have hj:j<s:=by
  rcases Nat.lt_or_ge j s with h | h
  ·exact h
  ·rw [List.getElem?_eq_none (by rw [hf];exact h)] at hv;cases hv
 have hb:k*s+j<(l.flatMap f).length:=by
  rw [hel]
  have:(k+1)*s≤l.length*s:=Nat.mul_le_mul_right s hk
  rw [Nat.add_mul] at this;omega
 have:=hc (k*s+j) hb
 rw [fT_ hf hk hj,hv] at this
 rw [an_,Nat.add_assoc];exact this
end Go.Vc
namespace Go.Vc
open Go Go.ChangeShapes Go.WideShapes Go.Deep Go.ChangeAt Go.RowKit
noncomputable def flds (t:TypeId):Option (List (Nat × Nat)):=match PR.underlying t with
 | some (.struct fs)=>some (fs.toList.map λf=>(f.type,f.offset))
 | _=>none
theorem te_ {t:TypeId} {l:List (Nat × Nat)} (h:flds t=some l):∃fs:Array Field,PR.underlying t=some (.struct fs)∧fs.toList.map (λf=>(f.type,f.offset))=l:=by
 unfold flds at h
 split at h
 ·rename_i fs hfs
  exact ⟨fs,hfs,Option.some.inj h⟩
 ·cases h
theorem tf_ {fs:Array Field} {l:List (Nat × Nat)} (h:fs.toList.map (λf=>(f.type,f.offset))=l) {i:Nat} {x:Nat × Nat} (hi:l[i]? = some x):∃f,fs[i]? = some f∧f.type=x.1∧f.offset=x.2:=by
 rw [← h,List.getElem?_map] at hi
 rw [← Array.getElem?_toList]
 cases hf:fs.toList[i]? with
 | none=>rw [hf] at hi;cases hi
 | some f=>rw [hf] at hi;cases hi;exact ⟨f,rfl,rfl,rfl⟩
theorem mE_ {w:World} {a:Addr} {xs:List Value} (h:∀i,i<xs.length→w.cell? (a.add i)=xs[i]?):Sl w (some a) xs:=by
 cases xs with
 | nil=>exact .inl rfl
 | cons x xs=>
  right
  have h0:=h 0 (by simp)
  have h0':w.cell? a=some x:=by simpa [Addr.add] using h0
  have hs:=World.cell?_spot h0'
  obtain ⟨b,o,sp⟩:=a
  simp only at hs
  subst hs
  refine ⟨b,o,rfl,?_⟩
  unfold World.cell? at h0'
  cases hb:w.heap[b]? with
  | none=>simp [hb] at h0'
  | some ob=>
   cases ob with
   | cells cs T fz=>
    refine ⟨cs,T,fz,hb,λi hi=>?_⟩
    have hh:=h i hi
    have e:w.cell? ((⟨b,o,none⟩:Addr).add i)=cs[o+i]?:=by
     by_cases hi0:i=0
     ·subst hi0;simp [Addr.add,World.cell?,hb]
     ·simp [Addr.add,hi0,World.cell?,hb]
    rw [← e,hh]
   | _=>simp [hb] at h0'
theorem j5_ {α:Type} {s:Nat} {f:α→List Value} (hf:∀x,(f x).length=s) (hs0:0<s) {t e:TypeId} (ht:PR.underlying t=some (.slice e)) (hc:PR.cellsOf e=s) {G:α→Prop} {H:Type} {enc:TypeId × Value→H} {w:World} {base:Nat} {spare:Nat→Bool} {held:Bool}
  (each:∀(n:Nat) (cs:List Value) x,DataW.trod enc PR w base spare held n e cs=some x→cs.length=s→∃a:α,cs=f a∧G a) {fuel:Nat} {v:Value} {x:DataW H × List MemPlace} (h:DataW.trod enc PR w base spare held fuel t [v]=some x) :
  ∃(q:Option Addr) (l:List α) (c:Nat),v=.slice q l.length c∧Sl w q (l.flatMap f)∧(∀a∈l,G a)∧l.length≤c:=by
 rcases open_slice ht h with ⟨e1,_⟩ | ⟨a,len,cap,m,n,D,Pl,e1,_,hlc,_,hm,_,hx⟩
 ·cases e1
  exact ⟨none,[],0,rfl,.inl rfl,(λa ha=>by cases ha),Nat.le_refl _⟩
 ·cases e1
  rw [hc] at hx
  have hlm:len≤m:=by rw [hm];split <;> omega
  have ea:∀i,i<len→∃z:α,(∀j v,(f z)[j]? = some v→w.cell? (a.add (i*s+j))=some v)∧G z:=by
   intro i hi
   obtain ⟨cs',h1,h2⟩:=hx i (by omega)
   obtain ⟨_,hlen,hcell⟩:=World.cells?_some h1
   obtain ⟨z,rfl,hz⟩:=each n cs' _ h2 hlen
   refine ⟨z,λj v hj=>?_,hz⟩
   have hjl:j<s:=by
    rcases Nat.lt_or_ge j s with h | h
    ·exact h
    ·rw [List.getElem?_eq_none (by rw [hf];exact h)] at hj;cases hj
   have:=hcell j hjl
   rw [add_add] at this
   rw [this,hj]
  have hne:len=0∨Nonempty α:=by
   rcases Nat.eq_zero_or_pos len with h | h
   ·exact .inl h
   ·obtain ⟨z,_⟩:=ea 0 h;exact .inr ⟨z⟩
  rcases hne with h0 | ⟨⟨z0⟩⟩
  ·subst h0
   exact ⟨some a,[],cap,rfl,.inl rfl,(λa ha=>by cases ha),Nat.zero_le _⟩
  ·have:Inhabited α:=⟨z0⟩
   obtain ⟨g,hg⟩:=choose_lt ea
   refine ⟨some a,(List.range len).map g,cap,by simp,mE_ λi hi=>?_,λz hz=>?_,by simpa using hlc⟩
   ·rw [bN_ hf] at hi
    simp only [List.length_map,List.length_range] at hi
    have hk:i / s<len:=Nat.div_lt_of_lt_mul (by rw [Nat.mul_comm];exact hi)
    have hj:i%s<s:=Nat.mod_lt _ hs0
    have e2:i / s*s+i%s=i:=by rw [Nat.mul_comm];exact Nat.div_add_mod i s
    have h3:=fT_ hf (l:=(List.range len).map g) (k:=i / s) (j:=i%s) (by simpa using hk) hj
    rw [e2] at h3
    rw [h3]
    simp only [List.getElem_map,List.getElem_range]
    have hlt:i%s<(f (g (i / s))).length:=by rw [hf];exact hj
    have:=(hg (i / s) hk).1 (i%s) _ (List.getElem?_eq_getElem hlt)
    rw [e2] at this
    rw [this,List.getElem?_eq_getElem hlt]
   ·obtain ⟨i,hi,rfl⟩:=List.mem_map.1 hz
    exact (hg i (List.mem_range.1 hi)).2
theorem uInt:PR.underlying T.int=some (.int .i64):=by kernel_rfl
theorem cInt:PR.cellsOf T.int=1:=by kernel_rfl
theorem tD_:PR.underlying T.bool=some .bool:=by kernel_rfl
theorem uStr:PR.underlying T.string=some .string:=by kernel_rfl
theorem cStr:PR.cellsOf T.string=1:=by kernel_rfl
theorem ut_:PR.underlying T.aP_=some (.slice T.string):=by kernel_rfl
theorem uO_:PR.cellsOf T.aP_=1:=by kernel_rfl
theorem r4_ {α:Type} (f:α→Value) (l:List α):l.flatMap (λn=>[f n])=l.map f:=by
 induction l with
 | nil=>rfl
 | cons b l ih=>rw [List.flatMap_cons,ih];rfl
section
variable {H:Type} {enc:TypeId × Value→H} {w:World} {base:Nat} {spare:Nat→Bool} {held:Bool}
theorem fs_ {t:TypeId} {l:List (Nat × Nat)} (hl:flds t=some l) {n:Nat} {cs:List Value} {x:DataW H × List MemPlace} (h:DataW.trod enc PR w base spare held n t cs=some x) :
  ∃m,∀(i:Nat) (p:Nat × Nat),l[i]? = some p→∃y,DataW.trod enc PR w base spare held m p.1 ((cs.drop p.2).take (PR.cellsOf p.1))=some y:=by
 obtain ⟨fs,hu,hm⟩:=te_ hl
 obtain ⟨xs,m,_,_,_,hxl,hg⟩:=DataW.trod_struct hu h
 refine ⟨m,λi p hi=>?_⟩
 obtain ⟨f,h1,h2,h3⟩:=tf_ hm hi
 have:=hg i f h1
 rw [h2,h3] at this
 have hil:i<xs.length:=by
  rw [hxl]
  rcases Nat.lt_or_ge i fs.size with h | h
  ·exact h
  ·rw [Array.getElem?_eq_none h] at h1;cases h1
 exact ⟨_,this.trans (List.getElem?_eq_getElem hil)⟩
theorem sV_ {fuel:Nat} {v:Value} {x:DataW H × List MemPlace} (h:DataW.trod enc PR w base spare held fuel T.aP_ [v]=some x):∃(q:Option Addr) (bs:List ByteArray) (c:Nat),v=.slice q bs.length c∧Sl w q (bs.map .string):=by
 obtain ⟨q,l,c,h1,h2,_,_⟩:=j5_ (α:=ByteArray) (s:=1) (f:=λn=>[.string n]) (λ_=>rfl) (by decide) ut_ cStr (G:=λ_=>True) (λn cs x hx hlen=>by
  obtain ⟨s,e,_⟩:=DataW.trod_string uStr hx
  exact ⟨s,e,trivial⟩) h
 rw [r4_] at h2
 exact ⟨q,l,c,h1,h2⟩
end
section
variable {H:Type} {enc:TypeId × Value→H} {P:Program}
theorem kc_ {f:Func} {s:ChangeSpec} {apart fresh handsOn again:Bool} {W W':World} {args:Array Value} {v:Value} {ds gs:List (DataW H)} {before pa pv:List MemPlace}
  (hW:DataW.Whole enc P f.params.toList s.vars apart W args.toList ds gs before)
  (hres:∀(b:Nat) (sp:Nat→Bool) (hd:Bool),DataW.TrodAll enc P W' b sp hd f.resultTypes.toList (v.resultList f.resultTypes.size) (s.fn H (ds++gs)).results [])
  (hargs:∀sp:Nat→Bool,(∀p∈before,sp p.block=true)→DataW.TrodAll enc P W' 0 sp true f.params.toList args.toList (s.fn H (ds++gs)).args pa)
  (hvars:∀sp:Nat→Bool,(∀p∈before,sp p.block=true)→DataW.TrodVars enc P W' sp s.vars (s.fn H (ds++gs)).vars pv)
  (hps:before=pa++pv) (hb:Below W.heap.size W W')
  (hok:∀(j:Nat) (t:TypeId) (r:Value),f.resultTypes[j]? = some t→(v.resultList f.resultTypes.size)[j]? = some r→Value.okWide P W' .any 0 t r) :
  s.post enc P f apart fresh handsOn again W args v W':=by
 have hlt:∀p∈before,p.block<W.heap.size:=λp hp=>hW.lt p hp
 have hold:∀p∈before,(λb=>decide (b<W.heap.size)) p.block=true:=λp hp=>by simpa using hlt p hp
 refine ⟨ds,gs,before,[],pa,pv,hW,hres _ _ _,hargs _ hold,hvars _ hold,World.keptBut_mono (λp hp=>⟨hp,?_⟩) (hb.frame (·∈before)),λ_=>?_⟩
 ·rw [hps,List.mem_append] at hp
  exact Or.inr hp
 ·obtain ⟨_,_,_,_,_,hz,hn⟩:=hW
  refine ⟨hok,_,_,([]++pa)++pv,⟨[]++pa,pv,trodAll_append (hargs _ (λ_ _=>rfl)) (hres _ _ _),hvars _ (λ_ _=>rfl),rfl,?_,?_⟩,?_⟩
  ·intro b off hp
   have hin:MemPlace.cell b off∈before:=by rw [hps];simpa using hp
   rw [hb.frozen (hlt _ hin)]
   exact hz b off hin
  ·intro ha
   have:=hn ha
   rw [hps] at this
   simpa using this
  ·intro p hp _
   rw [hps]
   simpa using hp
end
theorem kS_ {w w':World} (h:Grow w w'):Below w.heap.size w w':=⟨h.os,h.tape,h.output,h.size,λk hk=>h.block k hk (λe=>e)⟩
theorem ownG:ownKnob PR.godebug=none:=by kernel_rfl
theorem layG:laidOutB PR=true:=by kernel_rfl
end Go.Vc
namespace Go.Vc
open Go
end Go.Vc
namespace Go.Vc
open Go Go.RowKit Go.Extern.Stop Go.Stop Go.Extern Go.Proofs
abbrev hd (t:Nat):Value:=.pointer (some ⟨G.count,t,none⟩)
theorem nt_ (t:Addr) (w:World):(ReflectliteValue.unpack (.iface 82 (.pointer (some t)))).run Tryz.prog w
  = .ok (.agg #[.pointer (some ⟨2,82,none⟩),.pointer (some ⟨w.heap.size,0,none⟩),.int .u64 150]) (w.alloc (.cells #[.pointer (some t)] 82)):=by kernel_rfl
theorem tE_ (a:Addr) (w:World):(ReflectliteValue.methodAny (ReflectliteValue.valueError "reflectlite.Value.Type" 0) (λt _ _ _=>ReflectliteType.toType t) #[.agg #[.pointer (some ⟨2,82,none⟩),.pointer (some a),.int .u64 150]]).run Tryz.prog w
  = .ok (.iface 192 (.agg #[.pointer (some ⟨2,82,none⟩)])) w:=by kernel_rfl
theorem jw_ (h:Value) (w:World):(Go.method 473 192 (.agg #[h]) "Kind").run Tryz.prog w=.ok (253,h) w:=by kernel_rfl
theorem t3_ (w:World):((ReflectliteType.abiMethod λt=>(λa:Nat=>Value.int IntKind.u8 (a:Int)) <$> Rtype.kind t) #[.pointer (some ⟨2,82,none⟩)]).run Tryz.prog w=.ok (.int .u8 22) w:=by kernel_rfl
theorem t4_ (w:World):((ReflectliteType.abiMethod λt=>(λa:Nat=>Value.int IntKind.u8 (a:Int)) <$> Rtype.kind t) #[.pointer (some ⟨2,80,none⟩)]).run Tryz.prog w=.ok (.int .u8 2) w:=by kernel_rfl
theorem rlm (z:Sem Value) (f:TypeId→Addr→Nat→Nat→Sem Value) (v:Value) :
  ReflectliteValue.method z f #[v]=(do match ← ReflectliteValue.parts v with | none=>z | some (t,a,fl)=>f t a fl (fl%32)):=rfl
theorem sx_ (a:Addr) (w:World):(ReflectliteValue.parts (.agg #[.pointer (some ⟨2,82,none⟩),.pointer (some a),.int .u64 150])).run Tryz.prog w=.ok (some (82,a,150)) w:=by kernel_rfl
theorem sD_ (a p:Addr) (W:World) (ha:W.cell? a=some (.pointer (some p))) :
  (ReflectliteValue.method (ReflectliteValue.valueError "reflectlite.Value.IsNil" 0) ReflectliteValue.isNil #[.agg #[.pointer (some ⟨2,82,none⟩),.pointer (some a),.int .u64 150]]).run Tryz.prog W=.ok (.bool false) W:=by
 rw [rlm]
 simp only [Sem.run_bind,sx_,Result.andThen]
 simp [ReflectliteValue.isNil,loadVar,isAgg,underlying,ha,Result.andThen]
theorem jx_ (h:Value) (w:World):(Go.method 473 192 (.agg #[h]) "Elem").run Tryz.prog w=.ok (265,.agg #[h]) w:=by kernel_rfl
theorem dU_ (h:Value) (w:World):(Go.method 473 192 (.agg #[h]) "Implements").run Tryz.prog w=.ok (266,.agg #[h]) w:=by kernel_rfl
theorem cT_ (h:Value) (w:World):(Go.method 473 192 (.agg #[h]) "AssignableTo").run Tryz.prog w=.ok (263,.agg #[h]) w:=by kernel_rfl
theorem ul_ (w:World):(ReflectliteType.method ReflectliteType.elem #[.agg #[.pointer (some ⟨2,82,none⟩)]]).run Tryz.prog w=.ok (.iface 192 (.agg #[.pointer (some ⟨2,80,none⟩)])) w:=by kernel_rfl
theorem ic_ (w:World):(ReflectliteType.relation "Implements" ReflectliteType.implements_ #[.agg #[.pointer (some ⟨2,80,none⟩)],.iface 192 (.agg #[.pointer (some ⟨2,36,none⟩)])]).run Tryz.prog w=.ok (.bool true) w:=by kernel_rfl
theorem j1_ (v:Value) (w:World):(ReflectliteType.typeOf #[.iface 80 v]).run Tryz.prog w=.ok (.iface 192 (.agg #[.pointer (some ⟨2,80,none⟩)])) w:=by kernel_rfl
theorem iF_ (w:World):(ReflectliteType.relation "AssignableTo" ReflectliteType.assignableTo #[.agg #[.pointer (some ⟨2,80,none⟩)],.iface 192 (.agg #[.pointer (some ⟨2,80,none⟩)])]).run Tryz.prog w=.ok (.bool true) w:=by kernel_rfl
theorem sM_ (v:Value) (w:World):(ReflectliteType.typeOf #[.iface 224 v]).run Tryz.prog w=.ok (.iface 192 (.agg #[.pointer (some ⟨2,224,none⟩)])) w:=by kernel_rfl
theorem m__ (w:World):(ReflectliteType.relation "AssignableTo" ReflectliteType.assignableTo #[.agg #[.pointer (some ⟨2,224,none⟩)],.iface 192 (.agg #[.pointer (some ⟨2,80,none⟩)])]).run Tryz.prog w=.ok (.bool false) w:=by kernel_rfl
theorem nu_ (n:Int) (w:World):(ReflectliteValue.unpack (.iface 80 (.int .i64 n))).run Tryz.prog w
  = .ok (.agg #[.pointer (some ⟨2,80,none⟩),.pointer (some ⟨w.heap.size,0,none⟩),.int .u64 130]) (w.alloc (.cells #[.int .i64 n] 80)):=by kernel_rfl
theorem tj_ (w:World):(Rtype.elem? 82).run Tryz.prog w=.ok (some 80) w:=by kernel_rfl
theorem mkE (p:Addr) (w:World):(ReflectliteValue.mk 80 p ReflectliteValue.flagAddr).run Tryz.prog w=.ok (.agg #[.pointer (some ⟨2,80,none⟩),.pointer (some p),.int .u64 386]) w:=by kernel_rfl
theorem sF_ (a p:Addr) (W:World) (ha:W.cell? a=some (.pointer (some p))) :
  (ReflectliteValue.method (ReflectliteValue.valueError "reflectlite.Value.Elem" 0) ReflectliteValue.elem #[.agg #[.pointer (some ⟨2,82,none⟩),.pointer (some a),.int .u64 150]]).run Tryz.prog W
   = .ok (.agg #[.pointer (some ⟨2,80,none⟩),.pointer (some p),.int .u64 386]) W:=by
 rw [rlm]
 simp only [Sem.run_bind,sx_,Result.andThen]
 simp [ReflectliteValue.elem,loadVar,isAgg,underlying,ha,Result.andThen,tj_,mkE]
theorem rls (v x:Value):ReflectliteValue.set #[v,x]=(do
  let (some (dst,a,fl),some (src,b,_)):=(← ReflectliteValue.parts v,← ReflectliteValue.parts x)
   | unsupported (.noEntry "extern/(internal/reflectlite.Value).Set.zeroValue")
  if fl / ReflectliteValue.flagAddr%2 == 0 then unsupported (.noEntry "extern/(internal/reflectlite.Value).Set.unaddressable")
  let val ← loadVar src b
  if ← Rtype.directlyAssignable dst src then storeVar dst a val
  else if ← Rtype.implements dst src then
   if (← Rtype.kind src) == 20 then
    match val with
    | .nilIface=>unsupported (.noEntry "extern/reflectlite: a nil value of one interface type handed on as a value of another")
    | _=>storeVar dst a val
   else storeVar dst a (.iface src val)
  else panicString ("reflectlite.Set: value of type " ++ (← Rtype.spelt src) ++ " is not assignable to type " ++ (← Rtype.spelt dst))
  pure (.tuple #[])):=rfl
theorem s2_ (a:Addr) (w:World):(ReflectliteValue.parts (.agg #[.pointer (some ⟨2,80,none⟩),.pointer (some a),.int .u64 386])).run Tryz.prog w=.ok (some (80,a,386)) w:=by kernel_rfl
theorem tW_ (a:Addr) (w:World):(ReflectliteValue.parts (.agg #[.pointer (some ⟨2,80,none⟩),.pointer (some a),.int .u64 130])).run Tryz.prog w=.ok (some (80,a,130)) w:=by kernel_rfl
theorem tl_ (w:World):(Rtype.directlyAssignable 80 80).run Tryz.prog w=.ok true w:=by kernel_rfl
theorem setE (ta b:Addr) (n:Int) (old:Value) (W:World) (hb:W.cell? b=some (.int .i64 n)) (ht:W.cell? ta=some old) (hf:W.frozen? ta=false) :
  (ReflectliteValue.set #[.agg #[.pointer (some ⟨2,80,none⟩),.pointer (some ta),.int .u64 386],.agg #[.pointer (some ⟨2,80,none⟩),.pointer (some b),.int .u64 130]]).run Tryz.prog W
   = .ok (.tuple #[]) (W.setCell ta (.int .i64 n)):=by
 rw [rls]
 simp only [Sem.run_bind,s2_,tW_,Result.andThen]
 simp [ReflectliteValue.flagAddr,loadVar,isAgg,underlying,hb,Result.andThen,tl_,storeVar,Value.cells,storeCells,Addr.add]
 rw [run_store Tryz.prog W ta _ _ (by rfl)]
 simp [ht,hf]
end Go.Vc
namespace Go.Vc
open Go Go.RowKit Go.Extern.Stop Go.Stop Go.Extern Go.Proofs
set_option maxHeartbeats 4000000 in
theorem uq_ (n:Int) (t:Addr) (old:Value) (w:World) (hg:w.cell? ⟨0,0,none⟩=some (.iface 192 (.agg #[.pointer (some ⟨2,36,none⟩)]))) (ht0:w.cell? t=some old) (hf0:w.frozen? t=false) :
  Calls Tryz.prog 32 #[.iface 80 (.int .i64 n),.iface 82 (.pointer (some t))] w λev w'=>ev=.returned (.bool true)∧w'=((((w.alloc (.cells #[.pointer (some t)] 82)).alloc (.cells #[.pointer (some ⟨2,82,none⟩),.pointer (some ⟨w.heap.size,0,none⟩),.int .u64 150] 131)).alloc (.cells #[.pointer (some ⟨2,82,none⟩),.pointer (some ⟨w.heap.size,0,none⟩),.int .u64 150] 131)).alloc (.cells #[.int .i64 n] 80)).setCell t (.int .i64 n):=by
 have h6:=@run_callFunc_extern Tryz.prog 56 _ (λargs=>ReflectliteValue.unpack (args.getD 0 (.tuple #[]))) Tryz.func56 (by kernel_rfl) (by kernel_rfl) (by kernel_rfl) (by kernel_rfl)
 have h7:=@run_callFunc_extern Tryz.prog 57 _ (ReflectliteValue.methodAny (ReflectliteValue.valueError "reflectlite.Value.Type" 0) (λt _ _ _=>ReflectliteType.toType t)) Tryz.func57 (by kernel_rfl) (by kernel_rfl) (by kernel_rfl) (by kernel_rfl)
 have h8:=@run_callFunc_extern Tryz.prog 58 _ (ReflectliteValue.method (ReflectliteValue.valueError "reflectlite.Value.IsNil" 0) ReflectliteValue.isNil) Tryz.func58 (by kernel_rfl) (by kernel_rfl) (by kernel_rfl) (by kernel_rfl)
 have h27:=@run_callFunc_extern Tryz.prog 253 _ (ReflectliteType.abiMethod λt=>do pure (.int .u8 (← Rtype.kind t))) Tryz.func253 (by kernel_rfl) (by kernel_rfl) (by kernel_rfl) (by kernel_rfl)
 have h37:=@run_callFunc_extern Tryz.prog 265 _ (ReflectliteType.method ReflectliteType.elem) Tryz.func265 (by kernel_rfl) (by kernel_rfl) (by kernel_rfl) (by kernel_rfl)
 have h38:=@run_callFunc_extern Tryz.prog 266 _ (ReflectliteType.relation "Implements" ReflectliteType.implements_) Tryz.func266 (by kernel_rfl) (by kernel_rfl) (by kernel_rfl) (by kernel_rfl)
 have h10:=@run_callFunc_extern Tryz.prog 69 _ ReflectliteType.typeOf Tryz.func69 (by kernel_rfl) (by kernel_rfl) (by kernel_rfl) (by kernel_rfl)
 have h35:=@run_callFunc_extern Tryz.prog 263 _ (ReflectliteType.relation "AssignableTo" ReflectliteType.assignableTo) Tryz.func263 (by kernel_rfl) (by kernel_rfl) (by kernel_rfl) (by kernel_rfl)
 have h11:=@run_callFunc_extern Tryz.prog 98 _ (ReflectliteValue.method (ReflectliteValue.valueError "reflectlite.Value.Elem" 0) ReflectliteValue.elem) Tryz.func98 (by kernel_rfl) (by kernel_rfl) (by kernel_rfl) (by kernel_rfl)
 have h12:=@run_callFunc_extern Tryz.prog 99 _ ReflectliteValue.set Tryz.func99 (by kernel_rfl) (by kernel_rfl) (by kernel_rfl) (by kernel_rfl)
 have tO:=j1_
 have mA:=cT_
 have a25:=iF_
 have v25:=nu_
 have f6:=nt_
 have f7:=tE_
 have mK:=jw_
 have mE:=jx_
 have mI:=dU_
 have k27:=t3_
 have k25:=t4_
 have e27:=ul_
 have i25:=ic_
 have n8:=sD_ ⟨w.heap.size,0,none⟩ t ((w.alloc (.cells #[.pointer (some t)] 82)).alloc (.cells #[.pointer (some ⟨2,82,none⟩),.pointer (some ⟨w.heap.size,0,none⟩),.int .u64 150] 131)) (by simp)
 have hlt:0<w.heap.size:=by
  rcases Nat.eq_zero_or_pos w.heap.size with h0 | h
  ·simp [World.cell?,h0] at hg
  ·exact h
 have hg2:((w.alloc (.cells #[.pointer (some t)] 82)).alloc (.cells #[.pointer (some ⟨2,82,none⟩),.pointer (some ⟨w.heap.size,0,none⟩),.int .u64 150] 131)).cell? ⟨0,0,none⟩=some (.iface 192 (.agg #[.pointer (some ⟨2,36,none⟩)])):=by
  rw [World.cell?_alloc_lt _ _ ⟨0,0,none⟩ (by simp),World.cell?_alloc_lt _ _ ⟨0,0,none⟩ hlt];exact hg
 have htl:t.block<w.heap.size:=by
  rcases Nat.lt_or_ge t.block w.heap.size with h | h
  ·exact h
  ·simp [World.cell?,Array.getElem?_eq_none h] at ht0
 have el:=sF_ ⟨w.heap.size,0,none⟩ t (((w.alloc (.cells #[.pointer (some t)] 82)).alloc (.cells #[.pointer (some ⟨2,82,none⟩),.pointer (some ⟨w.heap.size,0,none⟩),.int .u64 150] 131)).alloc (.cells #[.pointer (some ⟨2,82,none⟩),.pointer (some ⟨w.heap.size,0,none⟩),.int .u64 150] 131)) (by rw [World.cell?_alloc_lt _ _ ⟨w.heap.size,0,none⟩ (by simp;omega)];simp)
 have st:=setE t ⟨w.heap.size+1+1+1,0,none⟩ n old ((((w.alloc (.cells #[.pointer (some t)] 82)).alloc (.cells #[.pointer (some ⟨2,82,none⟩),.pointer (some ⟨w.heap.size,0,none⟩),.int .u64 150] 131)).alloc (.cells #[.pointer (some ⟨2,82,none⟩),.pointer (some ⟨w.heap.size,0,none⟩),.int .u64 150] 131)).alloc (.cells #[.int .i64 n] 80))
  (by rw [World.cell?_alloc_at _ _ _ _ (by simp)];rfl)
  (by rw [World.cell?_alloc_lt _ _ t (by simp;omega),World.cell?_alloc_lt _ _ t (by simp;omega),World.cell?_alloc_lt _ _ t (by simp;omega),World.cell?_alloc_lt _ _ t htl];exact ht0)
  (by rw [World.frozen?_alloc_old _ _ t (by simp;omega),World.frozen?_alloc_old _ _ t (by simp;omega),World.frozen?_alloc_old _ _ t (by simp;omega),World.frozen?_alloc_old _ _ t (Nat.ne_of_lt htl)];exact hf0)
 go_enter Tryz.func32,Tryz.ntmps32
 go_wp2
 refine wp_loop_rounds 1 ?_
 rw [rounds_succ]
 go_wp2
 go_ret
 exact ⟨rfl,rfl⟩
end Go.Vc
namespace Go.Vc
open Go Go.RowKit Go.Extern.Stop Go.Stop Go.Extern Go.Proofs
theorem cw_ {w w1:World} (g:Grow w w1) (o:Obj):Grow w (w1.alloc o):=g.trans (Chg.alloc w1 o)
theorem ub_ (w:World) (o1 o2 o3 o4 o5:Obj):Grow w (((((w.alloc o1).alloc o2).alloc o3).alloc o4).alloc o5):=
 cw_ (cw_ (cw_ (cw_ (cw_ (.refl _ w) o1) o2) o3) o4) o5
set_option maxHeartbeats 4000000 in
theorem oY_ (n:Int) (h0 : -9223372036854775808≤n) (h1:n≤9223372036854775807) (w:World) (hg:w.cell? ⟨0,0,none⟩=some (.iface 192 (.agg #[.pointer (some ⟨2,36,none⟩)]))) :
  Calls Tryz.prog 8 #[.iface 80 (.int .i64 n)] w λev w'=>ev=.returned (.int .i64 n)∧Grow w w':=by
 have hlt:0<w.heap.size:=by
  rcases Nat.eq_zero_or_pos w.heap.size with h0 | h
  ·simp [World.cell?,h0] at hg
  ·exact h
 have hgA:(w.alloc (.cells #[.int .i64 0] 80)).cell? ⟨0,0,none⟩=some (.iface 192 (.agg #[.pointer (some ⟨2,36,none⟩)])):=by
  rw [World.cell?_alloc_lt _ _ ⟨0,0,none⟩ hlt];exact hg
 have htA:(w.alloc (.cells #[.int .i64 0] 80)).cell? ⟨w.heap.size,0,none⟩=some (.int .i64 0):=by simp
 have hfA:(w.alloc (.cells #[.int .i64 0] 80)).frozen? ⟨w.heap.size,0,none⟩=false:=by simp
 have hw:IntKind.wrap .i64 n=n:=aI_ h0 h1
 go_enter Tryz.func8,Tryz.ntmps8
 go_wp2_with (first | (go_at_call 32;refine (uq_ n _ (.int .i64 0) _ hgA htA hfA).mono ?_;rintro e w' ⟨rfl,rfl⟩))
 go_ret
 refine ⟨by simp,ub_ _ _ _ _ _ _⟩
end Go.Vc
namespace Go.Vc
open Go Go.RowKit Go.Extern.Stop Go.Stop Go.Extern Go.Proofs
theorem ri_:(Tryz.prog.underlying 196).map (λt=>match t with | .interface ms=>ms.toList.map (·.1) | _=>[])=some ["As"]:=by kernel_rfl
theorem rh_:(Tryz.prog.underlying 199).map (λt=>match t with | .interface ms=>ms.toList.map (·.1) | _=>[])=some ["Unwrap"]:=by kernel_rfl
theorem fR_ {P:Program} {t:TypeId} {l:List String} (h:(P.underlying t).map (λt=>match t with | .interface ms=>ms.toList.map (·.1) | _=>[])=some l) (hne:l≠[]):∃ms,P.underlying t=some (.interface ms):=by
 cases hu:P.underlying t with
 | none=>rw [hu] at h;cases h
 | some u=>
  rw [hu] at h
  cases u with
  | interface ms=>exact ⟨ms,rfl⟩
  | _=>exact absurd (Option.some.inj h).symm hne
theorem noAs (v:Value) (xT:TypeId) (w:World):(Instr.typeAssert (.iface 224 v) xT 196 true).run Tryz.prog w=.ok (.tuple #[.nilIface,.bool false]) w:=by
 obtain ⟨ms,hu⟩:=fR_ ri_ (by simp)
 exact run_typeAssert_lacksB hu (by
  have:(Tryz.prog.info? 224).map (λi=>match Tryz.prog.underlying 196 with | some (.interface want)=>(lacking want i.methods).isEmpty | _=>true)=some false:=by kernel_rfl
  rw [hu] at this;exact this) (by kernel_rfl) v xT w
theorem qm_ (v:Value) (xT:TypeId) (w:World):(Instr.typeAssert (.iface 224 v) xT 199 true).run Tryz.prog w=.ok (.tuple #[.iface 224 v,.bool true]) w:=by
 obtain ⟨ms,hu⟩:=fR_ rh_ (by simp)
 exact run_typeAssert_hasB hu (by
  have:(Tryz.prog.info? 224).map (λi=>match Tryz.prog.underlying 199 with | some (.interface want)=>(lacking want i.methods).isEmpty | _=>true)=some true:=by kernel_rfl
  rw [hu] at this;exact this) v xT w
theorem ly_ (x y:Value) (w:World):(Go.method 473 224 (.agg #[x,y]) "Unwrap").run Tryz.prog w=.ok (274,.agg #[x,y]) w:=by kernel_rfl
end Go.Vc
namespace Go.Vc
open Go Go.RowKit Go.Extern.Stop Go.Stop Go.Extern Go.Proofs
set_option maxHeartbeats 4000000 in
theorem sg_ (at_ n:Int) (t:Addr) (old:Value) (w:World) (hg:w.cell? ⟨0,0,none⟩=some (.iface 192 (.agg #[.pointer (some ⟨2,36,none⟩)]))) (ht0:w.cell? t=some old) (hf0:w.frozen? t=false) :
  Calls Tryz.prog 32 #[.iface 224 (.agg #[.int .i64 at_,.iface 80 (.int .i64 n)]),.iface 82 (.pointer (some t))] w λev w'=>ev=.returned (.bool true)∧w'=(((((w.alloc (.cells #[.pointer (some t)] 82)).alloc (.cells #[.pointer (some ⟨2,82,none⟩),.pointer (some ⟨w.heap.size,0,none⟩),.int .u64 150] 131)).alloc (.cells #[.pointer (some ⟨2,82,none⟩),.pointer (some ⟨w.heap.size,0,none⟩),.int .u64 150] 131)).alloc (.cells #[.int .i64 at_,.iface 80 (.int .i64 n)] 224)).alloc (.cells #[.int .i64 n] 80)).setCell t (.int .i64 n):=by
 have h6:=@run_callFunc_extern Tryz.prog 56 _ (λargs=>ReflectliteValue.unpack (args.getD 0 (.tuple #[]))) Tryz.func56 (by kernel_rfl) (by kernel_rfl) (by kernel_rfl) (by kernel_rfl)
 have h7:=@run_callFunc_extern Tryz.prog 57 _ (ReflectliteValue.methodAny (ReflectliteValue.valueError "reflectlite.Value.Type" 0) (λt _ _ _=>ReflectliteType.toType t)) Tryz.func57 (by kernel_rfl) (by kernel_rfl) (by kernel_rfl) (by kernel_rfl)
 have h8:=@run_callFunc_extern Tryz.prog 58 _ (ReflectliteValue.method (ReflectliteValue.valueError "reflectlite.Value.IsNil" 0) ReflectliteValue.isNil) Tryz.func58 (by kernel_rfl) (by kernel_rfl) (by kernel_rfl) (by kernel_rfl)
 have h27:=@run_callFunc_extern Tryz.prog 253 _ (ReflectliteType.abiMethod λt=>do pure (.int .u8 (← Rtype.kind t))) Tryz.func253 (by kernel_rfl) (by kernel_rfl) (by kernel_rfl) (by kernel_rfl)
 have h37:=@run_callFunc_extern Tryz.prog 265 _ (ReflectliteType.method ReflectliteType.elem) Tryz.func265 (by kernel_rfl) (by kernel_rfl) (by kernel_rfl) (by kernel_rfl)
 have h38:=@run_callFunc_extern Tryz.prog 266 _ (ReflectliteType.relation "Implements" ReflectliteType.implements_) Tryz.func266 (by kernel_rfl) (by kernel_rfl) (by kernel_rfl) (by kernel_rfl)
 have h10:=@run_callFunc_extern Tryz.prog 69 _ ReflectliteType.typeOf Tryz.func69 (by kernel_rfl) (by kernel_rfl) (by kernel_rfl) (by kernel_rfl)
 have h35:=@run_callFunc_extern Tryz.prog 263 _ (ReflectliteType.relation "AssignableTo" ReflectliteType.assignableTo) Tryz.func263 (by kernel_rfl) (by kernel_rfl) (by kernel_rfl) (by kernel_rfl)
 have h11:=@run_callFunc_extern Tryz.prog 98 _ (ReflectliteValue.method (ReflectliteValue.valueError "reflectlite.Value.Elem" 0) ReflectliteValue.elem) Tryz.func98 (by kernel_rfl) (by kernel_rfl) (by kernel_rfl) (by kernel_rfl)
 have h12:=@run_callFunc_extern Tryz.prog 99 _ ReflectliteValue.set Tryz.func99 (by kernel_rfl) (by kernel_rfl) (by kernel_rfl) (by kernel_rfl)
 have tO:=j1_
 have mA:=cT_
 have a25:=iF_
 have v25:=nu_
 have f6:=nt_
 have f7:=tE_
 have mK:=jw_
 have mE:=jx_
 have mI:=dU_
 have k27:=t3_
 have k25:=t4_
 have e27:=ul_
 have i25:=ic_
 have n8:=sD_ ⟨w.heap.size,0,none⟩ t ((w.alloc (.cells #[.pointer (some t)] 82)).alloc (.cells #[.pointer (some ⟨2,82,none⟩),.pointer (some ⟨w.heap.size,0,none⟩),.int .u64 150] 131)) (by simp)
 have hlt:0<w.heap.size:=by
  rcases Nat.eq_zero_or_pos w.heap.size with h0 | h
  ·simp [World.cell?,h0] at hg
  ·exact h
 have hg2:((w.alloc (.cells #[.pointer (some t)] 82)).alloc (.cells #[.pointer (some ⟨2,82,none⟩),.pointer (some ⟨w.heap.size,0,none⟩),.int .u64 150] 131)).cell? ⟨0,0,none⟩=some (.iface 192 (.agg #[.pointer (some ⟨2,36,none⟩)])):=by
  rw [World.cell?_alloc_lt _ _ ⟨0,0,none⟩ (by simp),World.cell?_alloc_lt _ _ ⟨0,0,none⟩ hlt];exact hg
 have htl:t.block<w.heap.size:=by
  rcases Nat.lt_or_ge t.block w.heap.size with h | h
  ·exact h
  ·simp [World.cell?,Array.getElem?_eq_none h] at ht0
 have el:=sF_ ⟨w.heap.size,0,none⟩ t ((((w.alloc (.cells #[.pointer (some t)] 82)).alloc (.cells #[.pointer (some ⟨2,82,none⟩),.pointer (some ⟨w.heap.size,0,none⟩),.int .u64 150] 131)).alloc (.cells #[.pointer (some ⟨2,82,none⟩),.pointer (some ⟨w.heap.size,0,none⟩),.int .u64 150] 131)).alloc (.cells #[.int .i64 at_,.iface 80 (.int .i64 n)] 224)) (by
  rw [World.cell?_alloc_lt _ _ ⟨w.heap.size,0,none⟩ (by simp;omega),World.cell?_alloc_lt _ _ ⟨w.heap.size,0,none⟩ (by simp;omega)];simp)
 have st:=setE t ⟨w.heap.size+1+1+1+1,0,none⟩ n old (((((w.alloc (.cells #[.pointer (some t)] 82)).alloc (.cells #[.pointer (some ⟨2,82,none⟩),.pointer (some ⟨w.heap.size,0,none⟩),.int .u64 150] 131)).alloc (.cells #[.pointer (some ⟨2,82,none⟩),.pointer (some ⟨w.heap.size,0,none⟩),.int .u64 150] 131)).alloc (.cells #[.int .i64 at_,.iface 80 (.int .i64 n)] 224)).alloc (.cells #[.int .i64 n] 80))
  (by rw [World.cell?_alloc_at _ _ _ _ (by simp)];rfl)
  (by rw [World.cell?_alloc_lt _ _ t (by simp;omega),World.cell?_alloc_lt _ _ t (by simp;omega),World.cell?_alloc_lt _ _ t (by simp;omega),World.cell?_alloc_lt _ _ t (by simp;omega),World.cell?_alloc_lt _ _ t htl];exact ht0)
  (by rw [World.frozen?_alloc_old _ _ t (by simp;omega),World.frozen?_alloc_old _ _ t (by simp;omega),World.frozen?_alloc_old _ _ t (by simp;omega),World.frozen?_alloc_old _ _ t (by simp;omega),World.frozen?_alloc_old _ _ t (Nat.ne_of_lt htl)];exact hf0)
 have tF:=sM_
 have aF:=m__
 have nA:=noAs
 have hU:=qm_
 have mU:=ly_
 go_enter Tryz.func32,Tryz.ntmps32
 go_wp2
 refine wp_loop_rounds 2 ?_
 rw [rounds_succ]
 go_wp2
 rw [rounds_succ]
 go_wp2
 go_ret
 exact ⟨rfl,rfl⟩
end Go.Vc
namespace Go.Vc
open Go Go.RowKit Go.Extern.Stop Go.Stop Go.Extern Go.Proofs
theorem uH_ (w:World) (o1 o2 o3 o4 o5 o6:Obj):Grow w ((((((w.alloc o1).alloc o2).alloc o3).alloc o4).alloc o5).alloc o6):=cw_ (ub_ w o1 o2 o3 o4 o5) o6
set_option maxHeartbeats 4000000 in
theorem oX_ (at_ n:Int) (w:World) (hg:w.cell? ⟨0,0,none⟩=some (.iface 192 (.agg #[.pointer (some ⟨2,36,none⟩)]))) :
  Calls Tryz.prog 8 #[.iface 224 (.agg #[.int .i64 at_,.iface 80 (.int .i64 n)])] w λev w'=>ev=.returned (.int .i64 n)∧Grow w w':=by
 have hlt:0<w.heap.size:=by
  rcases Nat.eq_zero_or_pos w.heap.size with h0 | h
  ·simp [World.cell?,h0] at hg
  ·exact h
 have hgA:(w.alloc (.cells #[.int .i64 0] 80)).cell? ⟨0,0,none⟩=some (.iface 192 (.agg #[.pointer (some ⟨2,36,none⟩)])):=by
  rw [World.cell?_alloc_lt _ _ ⟨0,0,none⟩ hlt];exact hg
 have htA:(w.alloc (.cells #[.int .i64 0] 80)).cell? ⟨w.heap.size,0,none⟩=some (.int .i64 0):=by simp
 have hfA:(w.alloc (.cells #[.int .i64 0] 80)).frozen? ⟨w.heap.size,0,none⟩=false:=by simp
 go_enter Tryz.func8,Tryz.ntmps8
 go_wp2_with (first | (go_at_call 32;refine (sg_ at_ n _ (.int .i64 0) _ hgA htA hfA).mono ?_;rintro e w' ⟨rfl,rfl⟩))
 go_ret
 refine ⟨by simp,uH_ _ _ _ _ _ _ _⟩
def ErrT (w:World):Prop:=w.cell? ⟨0,0,none⟩=some (.iface 192 (.agg #[.pointer (some ⟨2,36,none⟩)]))
theorem iO_ {n:Int} {w:World} {K:Value→World→Prop} (h:ErrT w) (h0 : -9223372036854775808≤n) (h1:n≤9223372036854775807) (hK:∀w',Grow w w'→K (.int .i64 n) w'):aa_ PR F.cW_ #[.iface T.am_ (.int .i64 n)] w K:=
 cr_ (oY_ n h0 h1 w h) λe w' ⟨he,g⟩=>⟨_,he,hK _ g⟩
theorem iN_ {a n:Int} {w:World} {K:Value→World→Prop} (h:ErrT w) (hK:∀w',Grow w w'→K (.int .i64 n) w'):aa_ PR F.cW_ #[.iface T.iG_ (.agg #[.int .i64 a,.iface T.am_ (.int .i64 n)])] w K:=
 cr_ (oX_ a n w h) λe w' ⟨he,g⟩=>⟨_,he,hK _ g⟩
end Go.Vc
