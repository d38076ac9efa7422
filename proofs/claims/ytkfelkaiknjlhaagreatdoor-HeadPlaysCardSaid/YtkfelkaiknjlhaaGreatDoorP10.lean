/-
  A part of the proof of the statement HeadPlaysCardSaid, in Lean: Pb2, Pb3, Rdn, RoG, Ns, As1, As2, As3, As4, As5, As6, RoE, Ms1, Fx1, Fx0, Fx3, MirP15, Rd1, Rd2. By an AI agent.
-/
import Derived.Test.YtkfelkaiknjlhaaGreatDoorP09
import Derived.OpenShut
import Derived.KernelRfl
import Derived.WalkKit
import Derived.ProofKit
import Derived.Below
import Derived.ChangeSame
import Derived.Carry
import Derived.Deep.SlicePairs
import Derived.Deep.Grids
import Derived.ChangeArms
import Derived.WideShapes
import Derived.Test.YtkfelkaiknjlhaaGreatDoorP04
import Derived.MapKept
import Derived.WideKeyMaps
import Derived.WideKeyRuns
import Derived.Test.YtkfelkaiknjlhaaGreatDoorP06
import Derived.LaidEql
import Derived.Stop.Asserts
import Derived.RowKitTokens
import Derived.Test.YtkfelkaiknjlhaaGreatDoorCards
import Derived.Test.YtkfelkaiknjlhaaGreatDoorTie
import Derived.LaidSub
import Derived.LaidLaws
import Derived.LaidHandle
import Derived.Stop.LaidErr
import Derived.Deep.DeepHandedRow
import Derived.Deep.DeepWitnessRowRef
import Derived.Lib.LaidTab
import Derived.Lib.LaidIn
import Derived.Test.YtkfelkaiknjlhaaGreatDoorP02
import Derived.Test.YtkfelkaiknjlhaaGreatDoorP07
import Derived.Test.YtkfelkaiknjlhaaGreatDoorP05
set_option linter.unusedSimpArgs false
set_option linter.unusedVariables false
set_option maxRecDepth 1000000
namespace Go.Vc
open Go Go.MapKept
structure PubS where
 p:Nat
 bj:Nat
 bd:Nat
 m:Nat
 each:Nat
 q:Option Addr
 c:Nat
 last:Nat
 com:Nat
 recs:List (List UInt8)
 R:Value→Value→Prop
 man:Nat→Man
 ex:Nat→Prop
def PubS.reg (x:PubS):Nat→Prop:=λk=>k=x.p∨k=x.m∨jrnS x.bj x.bd x.q k
def PubS.dom (x:PubS):Nat→Prop:=λk=>x.reg k∨x.ex k
def PubS.room (x:PubS):Nat:=200000 - (logL x.recs).length
def KeptAt (D:Nat→Prop) (w:World) (recs:List (List UInt8)) (last:Nat) (man:Nat→Man) (k v:Value):Prop:=
 ∃(i b c:Nat) (mn:Man) (list:List (List UInt8)),1≤i∧i≤last∧k=.int .i64 (i:Int)∧v=.agg #[.pointer (some ⟨b,0,none⟩),.pointer (some ⟨c,0,none⟩)]∧VerO D w b mn list∧VerL mn list∧mn.version=i∧mn=man i∧id_ D w c list∧recV mn list∈recs
structure aJ_ (N:Nat) (w:World) (x:PubS):Prop where
 blk:w.heap[x.p]? = some (.cells (pubC x.bj x.each x.last x.com x.m) T.a1_ (0,0))
 jrn:cB_ w x.bj x.bd x.q x.c x.recs
 map:∃n,MapP w T.int x.m n x.R
 kept:∀k v,x.R k v→KeptAt x.dom w x.recs x.last x.man k v
 has:∀i:Nat,1≤i→i≤x.last→x.last<i+3∨i=x.com→∃v,x.R (.int .i64 (i:Int)) v
 com_le:x.com≤x.last
 last_le:x.last≤x.recs.length
 room:(logL x.recs).length≤200000
 each1:1≤x.each
 each2:x.each≤4096
 lo:∀k,x.reg k→N≤k
 exlt:∀k,x.ex k→k<w.heap.size
 only:∀(i:Nat) v,x.R (.int .i64 (i:Int)) v→x.last<i+3∨i=x.com
 rep:Rep x.recs x.last x.com x.man
theorem KeptAt.keep {D D' S:Nat→Prop} {w w':World} {recs recs':List (List UInt8)} {last last':Nat} {man:Nat→Man} {k v:Value} (h:KeptAt D w recs last man k v) (g:Chg S w w') (hS:∀k,k<w.heap.size→S k→D k) (hD:∀k,k<w.heap.size→D' k→D k) (hl:last≤last') (hr:∀r∈recs,r∈recs'):KeptAt D' w' recs' last' man k v:=by
 obtain ⟨i,b,c,mn,list,h1,h2,h3,h4,h5,h6,h7,h8,h9,h10⟩:=h
 exact ⟨i,b,c,mn,list,h1,by omega,h3,h4,h5.keep g hS hD,h6,h7,h8,h9.keep g hS hD,hr _ h10⟩
theorem aJ_.lt {N:Nat} {w:World} {x:PubS} (h:aJ_ N w x):∀k,x.reg k→k<w.heap.size:=by
 rintro k (rfl | rfl | hk)
 ·exact ak_ h.blk
 ·obtain ⟨n,hm⟩:=h.map;exact hm.lt
 ·exact h.jrn.lt k hk
theorem aJ_.keep {S:Nat→Prop} {N:Nat} {w w':World} {x:PubS} (h:aJ_ N w x) (g:Chg S w w') (hS:∀k,k<w.heap.size→¬S k):aJ_ N w' x:=by
 have g':Grow w w':=g.mono λi hi hs=>hS i hi hs
 obtain ⟨n,hm⟩:=h.map
 exact ⟨Grow.get g' h.blk,h.jrn.grow g',⟨n,hm.grow g'⟩,λk v hr=>(h.kept k v hr).keep g' (λ_ _ e=>e.elim) (λ_ _ e=>e) (Nat.le_refl _) (λ_ h=>h),h.has,h.com_le,h.last_le,h.room,h.each1,h.each2,h.lo,λk hk=>Nat.lt_of_lt_of_le (h.exlt k hk) g.size,h.only,h.rep⟩
theorem aJ_.mU_ {S:Nat→Prop} {N:Nat} {w w':World} {x:PubS} (h:aJ_ N w x) (g:Chg S w w') (hS:∀k,S k→x.ex k) (hn:∀k,S k→¬x.reg k):aJ_ N w' x:=by
 obtain ⟨n,hm⟩:=h.map
 exact ⟨g.get h.blk λe=>hn _ e (.inl rfl),h.jrn.keep g λk e hk=>hn k e (.inr (.inr hk)),⟨n,hm.keep g λe=>hn _ e (.inr (.inl rfl))⟩,λk v hr=>(h.kept k v hr).keep g (λk _ e=>.inr (hS k e)) (λ_ _ e=>e) (Nat.le_refl _) (λ_ h=>h),h.has,h.com_le,h.last_le,h.room,h.each1,h.each2,h.lo,λk hk=>Nat.lt_of_lt_of_le (h.exlt k hk) g.size,h.only,h.rep⟩
theorem aJ_.grow {N:Nat} {w w':World} {x:PubS} (h:aJ_ N w x) (g:Grow w w'):aJ_ N w' x:=h.keep g λ_ _ e=>e
theorem ow_ (f:List UInt8→Nat) (s:List UInt8):s.length+1≤(cz_ f s).length:=by rw [b4_];omega
theorem oZ_ (recs:List (List UInt8)):recs.length≤(logL recs).length:=by
 induction recs with
 | nil=>simp [logL]
 | cons a l ih=>
  have h1:=ow_ crcN a
  have e:logL (a :: l)=cz_ crcN a++logL l:=rfl
  rw [e,List.length_append,List.length_cons];omega
theorem aJ_.shown {N:Nat} {w:World} {x:PubS} (h:aJ_ N w x):kx_ x.R:=by
 intro k v hr
 obtain ⟨i,b,c,mn,list,h1,h2,h3,h4,_⟩:=h.kept k v hr
 have:=h.last_le
 have:=h.room
 have:=oZ_ x.recs
 exact ⟨i,b,c,by omega,h3,h4⟩
theorem aJ_.small {N:Nat} {w:World} {x:PubS} (h:aJ_ N w x):x.last≤200000∧x.com≤200000∧x.recs.length≤200000:=by
 have:=h.last_le
 have:=h.room
 have:=oZ_ x.recs
 have:=h.com_le
 omega
theorem fG_ {N:Nat} {w:World} {x:PubS} (h:aJ_ N w x) {K:Value→World→Prop} (hK:K (.int .i64 x.last) w):aa_ PR F.cS_ ⟨[.pointer (some ⟨x.p,0,none⟩)]⟩ w K:=
 kK_ x.p (some ⟨x.bj,0,none⟩) x.each x.last x.com (some x.m) (· = x.p) K w ((Fr.init _ w).entry h.blk (λx h=>by cases h) λ_=>rfl) ⟨rfl,trivial⟩ hK
theorem aj_ {N:Nat} {w:World} {x:PubS} (h:aJ_ N w x) {K:Value→World→Prop} (hK:K (.int .i64 x.com) w):aa_ PR F.bt_ ⟨[.pointer (some ⟨x.p,0,none⟩)]⟩ w K:=
 fR_ x.p (some ⟨x.bj,0,none⟩) x.each x.last x.com (some x.m) (· = x.p) K w ((Fr.init _ w).entry h.blk (λx h=>by cases h) λ_=>rfl) ⟨rfl,trivial⟩ hK
theorem jf_ {N:Nat} {w:World} {bd each:Nat} (hd:eu_ w bd ⟨#[]⟩) (hN:N≤bd) (hN2:N≤w.heap.size) (he:1≤each) (he2:each≤4096) {K:Value→World→Prop}
  (hK:∀w' x,Grow w w'→aJ_ N w' x→x.bd=bd→x.each=each→x.last=0→x.com=0→x.recs=[]→w.heap.size≤x.p→K (.tuple #[.pointer (some ⟨x.p,0,none⟩),.nilIface]) w'):aa_ PR F.qw_ ⟨[.pointer (some ⟨bd,0,none⟩),.int .i64 each]⟩ w K:=by
 have hf:∀ {w':World},Grow w w'→Fs S0 w [] w':=λg=>(Fr.init _ w).after g
 refine oG_ (some ⟨bd,0,none⟩) each S0 K w ⟨λh=>by omega,λ_=>⟨λh=>by omega,λ_=>?_⟩⟩
 refine mu_ hd λw1 bj g1 hbj hj=>⟨_,_,rfl,hf g1,λ_=>?_,(λt x h=>by cases h),.inl rfl⟩
 refine oY_ (k:=T.int) λw2 m hme hm g2=>⟨_,rfl,hf (g1.trans g2),λp hp w3 hF3=>?_⟩
 have g3:Grow w2 w3:=hF3.grow
 have hj3:=(hj.grow g2).grow g3
 refine p6_ hj3 (by simp) λw4 q' c' g4 _=>⟨_,_,_,rfl,hF3.after g4,?_⟩
 have hF4:=hF3.after g4
 refine ⟨λi q n1 n2 n3 q4 l w'=>i=0∧q=some ⟨bj,0,none⟩∧n1=each∧n2=0∧n3=0∧q4=some m∧w'=w4,⟨0,rfl,rfl,rfl,rfl,rfl,rfl,rfl⟩,?_⟩
 rintro i q n1 n2 n3 q4 D l w5 ⟨rfl,rfl,rfl,rfl,rfl,rfl,rfl⟩ hF5
 refine ⟨λh=>by simp at h,λ_=>?_⟩
 have s1:=g1.size
 have s2:=g2.size
 have hml:=hm.lt
 have gg:Grow w w5:=((g1.trans g2).trans g3).trans g4
 refine hK w5 ⟨p,bj,bd,m,each,none,0,0,0,[],(λ_ _=>False),(λ_=>⟨0,0,0,[],0,[]⟩),λ_=>False⟩ gg ⟨hF4.blk 0 rfl,hj3.grow g4,⟨0,(hm.grow g3).grow g4⟩,λk v h=>h.elim,λi h1 h2 _=>absurd (Nat.le_trans h1 h2) (by simp),Nat.le_refl _,Nat.le_refl _,by simp [logL],he,he2,?_,λk hk=>hk.elim,λi v h=>h.elim,Rep.nil⟩ rfl rfl rfl rfl rfl (by simp only [];omega)
 rintro k (rfl | rfl | rfl | rfl | ⟨a,ha,_⟩)
 ·omega
 ·omega
 ·omega
 ·exact hN
 ·cases ha
end Go.Vc
namespace Go.Vc
open Go Go.MapKept
theorem nj_ (l:List (List UInt8)) (k:Nat) (h:∀x∈l,x.length≤k):l.flatten.length≤k*l.length:=by
 induction l with
 | nil=>simp
 | cons a l ih=>
  have h1:=ih λx hx=>h x (List.mem_cons_of_mem _ hx)
  have h2:=h a List.mem_cons_self
  rw [List.flatten_cons,List.length_append,List.length_cons,Nat.mul_add];omega
theorem qu_ (s:List UInt8):an_ [s]=ae_ s.length++s:=by simp [an_]
theorem sB_:(⟨#[86]⟩:ByteArray)=str [86]:=rfl
theorem tq_:(⟨#[67]⟩:ByteArray)=str [67]:=rfl
theorem ho_ (n:Nat) (h:n≤72057594037927935):(ae_ n).length≤8:=by
 have:=ee_ (l:=[(n:Int)]) (by simp;omega)
 simpa [dA_] using this
theorem oQ_ {last com i:Nat} (h:¬delP last com (.int .i64 (i:Int))):last<i+3∨i=com:=by
 by_cases h1:last<i+3
 ·exact .inl h1
 ·by_cases h2:i=com
  ·exact .inr h2
  ·exact absurd ⟨i,rfl,by omega,by omega⟩ h
def snug (x:PubS) (nodes:Int) (l:List (Int × Int)):Prop:=roomy nodes x.each l∧2700+9*nodes+8*l.length≤60000∧2700+9*nodes+8*l.length≤x.room
def mr_ (x:PubS) (nodes:Int) (l:List (Int × Int)) (mn:Man) (list:List (List UInt8)):Prop:=
 fy_ nodes l∧nodes≤64*(x.each:Int)∧kj_ ((x.last+1:Nat):Int) nodes x.each l mn list∧list.length≤2048∧(recV mn list).length≤60000∧(recV mn list).length+6≤x.room
def ey_ (x:PubS) (nodes:Int) (l:List (Int × Int)) (c:Int):Prop:=
 p1_ nodes x.each l c∨(c=7∧∃mn list,fy_ nodes l∧nodes≤64*(x.each:Int)∧kj_ ((x.last+1:Nat):Int) nodes x.each l mn list∧¬((recV mn list).length≤60000∧(recV mn list).length+6≤x.room))
theorem ei_ {w w':World} {x:PubS} {q':Option Addr} (hq:∀a,q'=some a→x.q=some a∨w.heap.size≤a.block):∀k,(k=x.p∨k=x.m∨jrnS x.bj x.bd q' k)→x.reg k∨w.heap.size≤k:=by
 rintro k (rfl | rfl | rfl | rfl | ⟨a,ha,rfl⟩)
 ·exact .inl (.inl rfl)
 ·exact .inl (.inr (.inl rfl))
 ·exact .inl (.inr (.inr (.inl rfl)))
 ·exact .inl (.inr (.inr (.inr (.inl rfl))))
 ·rcases hq a ha with h | h
  ·exact .inl (.inr (.inr (.inr (.inr ⟨a,h,rfl⟩))))
  ·exact .inr h
theorem d__ {N:Nat} {w:World} {x:PubS} (h:aJ_ N w x) (hN:N≤w.heap.size) {nodes:Int} {l:List (Int × Int)} {y:Option Addr} {n cy:Nat} (hs:Sl w y (encE l)) (hl:n=l.length) (hn:n≤100000) {K:Value→World→Prop}
  (h1:∀w' x' mn list,mr_ x nodes l mn list→x'.recs=x.recs++[recV mn list]→(x'.man=λi=>if i=x.last+1 then mn else x.man i)→aJ_ N w' x'→Chg x.reg w w'→x'.p=x.p→x'.bd=x.bd→x'.each=x.each→x'.last=x.last+1→x'.com=x.com→x'.room<x.room→(x.room:Int)≤x'.room+2700+9*nodes+8*l.length→x'.ex=x.ex→(∀k,x'.reg k→x.reg k∨w.heap.size≤k)→fy_ nodes l→K (.tuple #[.int .i64 x'.last,.nilIface]) w')
  (h2:∀w' v c,Grow w w'→aJ_ N w' x→isEC c v→ey_ x nodes l c→¬snug x nodes l→K (.tuple #[.int .i64 0,v]) w') :
  aa_ PR F.c7_ ⟨[.pointer (some ⟨x.p,0,none⟩),.int .i64 nodes,.slice y n cy]⟩ w K:=by
 obtain ⟨hsl,hsc,hsr⟩:=h.small
 have hlt:=h.lt
 have h0:Fs x.reg w [⟨x.p,pubC x.bj x.each x.last x.com x.m,T.a1_,true⟩] w:=(Fr.init _ w).entry h.blk (λx h=>by cases h) λ_=>.inl rfl
 refine hq_ x.p (some ⟨x.bj,0,none⟩) x.each x.last x.com (some x.m) nodes y n cy x.reg K w h0 ⟨.inl rfl,trivial⟩ λw0 hF0=>?_
 have g0:Grow w w0:=hF0.grow
 refine ⟨λ_=>True,trivial,?_⟩
 have e1:IntKind.wrap .i64 ((x.last:Int)+1)=((x.last+1:Nat):Int):=by rw [w64 (by omega) (by omega)];omega
 rw [e1]
 refine p0_ (version:=((x.last+1:Nat):Int)) h.each1 h.each2 (hs.grow g0) hl hn (λw1 b mn list g1 hbl hv hL hmv hfl hgg h64 hmk hl2=>?_) (by omega) λw1 v cc g1 hv hme hbad=>?_
 ·have g01:=g0.trans g1
  have hF1:=hF0.reset.after g1
  refine ⟨_,_,rfl,hF1,trivial,λ_=>?_,(λt x h=>by cases h),.inl rfl⟩
  have hv1:VerO x.dom w1 b mn list:=hv.keep (.refl (λ_=>False) _) (λ_ _ e=>e.elim) λk _ e=>by
   have:=g0.size
   rcases e with e | e
   ·have:=hlt k e;omega
   ·have:=h.exlt k e;omega
  obtain ⟨qm,cm,ql,cl,hb1,hb0,hq1,hq2,hlc⟩:=id hv1
  have hcell:∀ {w':World},Grow w1 w'→∀k v,(verC mn qm cm list ql cl)[k]? = some v→w'.cell? ⟨b,k,none⟩=some v:=λg k v hv=>by
   rw [ap_ (Grow.get g hb1)];exact hv
  have hmn:=nn_ hL.ok
  have hbl2:=hL.ok.blocks.2
  have hbe:=hL.blocks
  have hps:(ae_ (bQ_ mn).length).length≤8:=ho_ _ (by omega)
  have hfl2:list.flatten.length≤200000:=by
   have:=nj_ list 64 hL.small
   omega
  refine ac_.2 (ac_.2 (ac_.2 ⟨mn.version,by rw [am_,am_];exact hcell (.refl _ _) 0 _ rfl,mn.nodes,by rw [am_,am_];exact hcell (.refl _ _) 1 _ rfl,mn.edges,by rw [am_,am_];exact hcell (.refl _ _) 2 _ rfl,qm,mn.shards.length,cm,by rw [am_,am_];exact hcell (.refl _ _) 3 _ rfl,mn.blocks,by rw [am_,am_];exact hcell (.refl _ _) 4 _ rfl,str mn.root,by rw [am_,am_];exact hcell (.refl _ _) 5 _ rfl,?_⟩))
  refine p2_ hL.ok hq1.sl λw2 g2=>⟨_,_,rfl,hF1.after g2,λw3 hF3=>?_⟩
  have g3:Grow w2 w3:=hF3.grow
  refine ⟨λw'=>w'.cell? ⟨b,6,none⟩=some (.slice ql list.length cl),hcell (g2.trans g3) 6 _ rfl,ac_.2 (ac_.2 (ac_.2 ⟨_,_,_,λw4 h=>by rw [am_];exact h,λl4 hl4 w5 hF5=>?_⟩))⟩
  have g5:Grow w3 w5:=hF5.grow
  have g15:Grow w1 w5:=(g2.trans g3).trans g5
  refine ⟨hcell g15 6 _ rfl,?_⟩
  have hsl5:Sl w5 (some ⟨l4,0,none⟩) ([bQ_ mn].map sv8'):=.inr ⟨l4,0,rfl,_,_,_,hF5.blk 1 rfl,λi hi=>by
   have:i=0:=by simpa using hi
   subst this;rfl⟩
  have hptl:(an_ [bQ_ mn]).length≤1208:=by rw [qu_,List.length_append];omega
  refine as_ hsl5 rfl (by simp) (by omega) λw6 g6=>⟨_,rfl,hF5.after g6,hcell (g15.trans g6) 6 _ rfl,by rw [af_];omega,?_⟩
  refine jg_ (hq2.sl.grow (g15.trans g6)) rfl hlc (by omega) (by omega) λw7 g7=>⟨_,rfl,(hF5.after g6).after g7,hcell ((g15.trans g6).trans g7) 6 _ rfl,by rw [sB_,ai_,af_,af_,List.length_append,List.length_singleton];omega,?_⟩
  rw [sB_,ai_,ai_]
  have g17:=(g15.trans g6).trans g7
  have g07:=g01.trans g17
  have hF7:=(hF5.after g6).after g7
  have hp7:=h.grow g07
  have hrl:(recV mn list).length=1+(an_ [bQ_ mn]).length+list.flatten.length:=by simp [recV];omega
  have hF7':Fs x.reg w [⟨x.p,pubC x.bj x.each x.last x.com x.m,T.a1_,true⟩] w7:=hF7.sub (List.Sublist.cons_cons _ (List.nil_sublist _))
  have hl4:w.heap.size≤l4:=by have:=g01.size;have:=g2.size;have:=g3.size;omega
  refine iJ_ (s:=recV mn list) hp7.blk hp7.jrn h.room hsr (by omega) (λhs1 hs2 w8 q' c' hj8 g8 hq'=>?_) λhno=>?_
  ·have hpub:=hp7.jrn.pub hp7.blk
   obtain ⟨nm,hm⟩:=hp7.map
   have hmj:=hp7.jrn.mapb hm
   have hF8:=hF7.step g8 (λz hz=>by
    rcases List.mem_cons.1 hz with rfl | hz
    ·exact hpub
    ·simp at hz;subst hz
     exact λe=>by have:=hlt _ (.inr (.inr e));simp only [] at this;omega) (λk _ e=>.inr (.inr e))
   have hb8:¬jrnS x.bj x.bd x.q b:=λe=>hb0 (.inl (.inr (.inr e)))
   have hv7:VerO x.dom w7 b mn list:=hv1.keep g17 (λ_ _ e=>e.elim) (λ_ _ e=>e)
   have hv8:VerO x.dom w8 b mn list:=hv7.keep g8 (λ_ _ e=>.inl (.inr (.inr e))) (λ_ _ e=>e)
   have hc8:w8.cell? ⟨b,6,none⟩=some (.slice ql list.length cl):=by
    rw [ap_ (g8.get (Grow.get g17 hb1) hb8)];rfl
   refine ⟨_,rfl,_,_,_,_,_,hF8,hc8,λ_=>?_,(λt x h=>by cases h),.inl rfl⟩
   have hb8':=g8.get hp7.blk hpub
   have hm8:=hm.keep g8 hmj
   refine or_ (ver:=x.last+1) (mn:=mn) (list:=list) hb8' hm8 h.shown (hv8.keep (.refl (λ_=>False) _) (λ_ _ e=>e.elim) (λk _ e=>.inl (e.elim .inl λe=>.inr (.inl e)))) hL hmv (by omega) λw9 cc n9 g9 hb9 hm9 hT9=>?_
   have hF8':Fs x.reg w [⟨x.p,pubC x.bj x.each x.last x.com x.m,T.a1_,true⟩] w8:=hF8.sub (List.Sublist.cons_cons _ (List.nil_sublist _))
   have hF9:Fs x.reg w [⟨x.p,pubC x.bj x.each ((x.last+1:Nat):Int) x.com x.m,T.a1_,true⟩] w9:=hF8'.mod g9 hb9 (λz hz=>by cases hz) λk _ e=>e.elim .inl λe=>.inr (.inl e)
   refine ⟨rfl,_,_,_,_,_,hF9,?_⟩
   have hv9:VerO x.dom w9 b mn list:=hv8.keep g9 (λk _ e=>.inl (e.elim .inl λe=>.inr (.inl e))) (λ_ _ e=>e)
   have hc9:w9.cell? ⟨b,0,none⟩=some (.int .i64 ((x.last+1:Nat):Int)):=by
    obtain ⟨q9,c9,ql9,cl9,h9,_⟩:=hv9
    rw [ap_ h9,← hmv];rfl
   refine ac_.2 (ac_.2 (ac_.2 (ac_.2 ⟨_,hc9,?_⟩)))
   have hqn:∀a,q'=some a→x.q=some a∨w.heap.size≤a.block:=λa ha=>(hq' a ha).imp id λh=>Nat.le_trans g07.size h
   have hreg:=ei_ (w':=w9) hqn
   have hmj8:¬(λk=>k=x.p∨k=x.m) x.bj:=by
    rintro (e | e)
    ·exact hpub (.inl e.symm)
    ·exact hmj (.inl e.symm)
   have hj9:cB_ w9 x.bj x.bd q' c' (x.recs++[recV mn list]):=hj8.keep g9 λk e hk=>by
    rcases e with rfl | rfl
    ·exact hj8.pub hb8' hk
    ·exact hj8.mapb hm8 hk
   let x':PubS:=⟨x.p,x.bj,x.bd,x.m,x.each,q',c',x.last+1,x.com,x.recs++[recV mn list],λk v=>updR x.R (.int .i64 ((x.last+1:Nat):Int)) (.agg #[.pointer (some ⟨b,0,none⟩),.pointer (some ⟨cc,0,none⟩)]) k v∧¬delP ((x.last+1:Nat):Int) x.com k,(λi=>if i=x.last+1 then mn else x.man i),x.ex⟩
   have hlog:(logL (x.recs++[recV mn list])).length=(logL x.recs).length+(recV mn list).length+6:=by
    rw [dX_,List.length_append,b4_];omega
   have hreg8:∀k,k<w8.heap.size→x'.reg k→x.reg k∨w7.heap.size≤k:=λk _ e=>by
    rcases ei_ (w:=w7) (w':=w9) hq' k e with h | h
    ·exact .inl h
    ·exact .inr h
   have kept7:∀k v,x.R k v→KeptAt x.dom w7 x.recs x.last x.man k v:=hp7.kept
   have keep9:∀ {b mn list},VerO x.dom w7 b mn list→VerO x'.dom w9 b mn list:=λhv=>by
    have a8:VerO (λk=>(k=x.p∨k=x.m∨jrnS x.bj x.bd q' k)∨x.ex k) w8 _ _ _:=hv.keep g8 (λ_ _ e=>.inl (.inr (.inr e))) (λk hk e=>e.elim (λe=>.inl ((ei_ (w:=w7) (w':=w8) hq' k e).elim id λh=>by omega)) .inr)
    exact a8.keep g9 (λk _ e=>.inl (e.elim .inl λe=>.inr (.inl e))) (λ_ _ e=>e)
   have keepT:∀ {c list},id_ x.dom w7 c list→id_ x'.dom w9 c list:=λhv=>by
    have a8:id_ (λk=>(k=x.p∨k=x.m∨jrnS x.bj x.bd q' k)∨x.ex k) w8 _ _:=hv.keep g8 (λ_ _ e=>.inl (.inr (.inr e))) (λk hk e=>e.elim (λe=>.inl ((ei_ (w:=w7) (w':=w8) hq' k e).elim id λh=>by omega)) .inr)
    exact a8.keep g9 (λk _ e=>.inl (e.elim .inl λe=>.inr (.inl e))) (λ_ _ e=>e)
   refine h1 w9 x' mn list ⟨hgg,h64,hmk,hl2,hs1,by unfold PubS.room;omega⟩ rfl rfl ⟨hb9,hj9,⟨n9,hm9⟩,?_,?_,by show x.com≤x.last+1;have:=h.com_le;omega,by show x.last+1≤_;rw [List.length_append,List.length_singleton];have:=h.last_le;omega,by show (logL _).length≤_;rw [hlog];omega,h.each1,h.each2,λk hk=>?_,λk hk=>Nat.lt_of_lt_of_le (h.exlt k hk) hF9.chg.size,λj v hr=>oQ_ hr.2,h.rep.snoc (.ver mn list) ⟨hL,hmv⟩ hs1 rfl⟩ hF9.chg rfl rfl rfl rfl rfl ?_ ?_ rfl hreg hgg
   ·rintro k v ⟨hr,_⟩
    rcases hr with ⟨rfl,rfl⟩ | ⟨hne,hr⟩
    ·refine ⟨x.last+1,b,cc,mn,list,by omega,Nat.le_refl _,rfl,rfl,keep9 hv7,hL,hmv,(by show mn=if x.last+1=x.last+1 then mn else x.man (x.last+1);rw [if_pos rfl]),hT9.keep (.refl (λ_=>False) _) (λ_ _ e=>e.elim) (λk _ e=>?_),List.mem_append_right _ List.mem_cons_self⟩
     rcases e with (rfl | rfl | hk) | e
     ·exact ak_ hb8'
     ·exact hm8.lt
     ·exact hj8.lt _ hk
     ·have:=hp7.exlt k e;have:=g8.size;omega
    ·obtain ⟨i,b',c',mn',list',k1,k2,k3,k4,k5,k6,k7,k8,k9,k10⟩:=kept7 k v hr
     exact ⟨i,b',c',mn',list',k1,by show i≤x.last+1;omega,k3,k4,keep9 k5,k6,k7,(by show mn'=if i=x.last+1 then mn else x.man i;rw [if_neg (by omega)];exact k8),keepT k9,List.mem_append_left _ k10⟩
   ·intro i hi1 hi2 hi3
    have hi2':i≤x.last+1:=hi2
    have hi3':x.last+1<i+3∨i=x.com:=hi3
    have hnd:¬delP ((x.last+1:Nat):Int) x.com (.int .i64 (i:Int)):=by
     rintro ⟨j,hj,k1,k2⟩
     have e2:(i:Int)=j:=by injection hj
     subst e2
     rcases hi3' with h' | h'
     ·omega
     ·exact k2 (by rw [h'])
    by_cases hi:i=x.last+1
    ·subst hi;exact ⟨_,.inl ⟨rfl,rfl⟩,hnd⟩
    ·obtain ⟨v,hv⟩:=h.has i hi1 (by omega) (hi3'.imp (λh=>by omega) id)
     refine ⟨v,.inr ⟨λe=>hi ?_,hv⟩,hnd⟩
     have e2:(i:Int)=((x.last+1:Nat):Int):=by injection e
     omega
   ·rcases hreg k hk with e | e
    ·exact h.lo k e
    ·omega
   ·show 200000 - (logL (x.recs++[recV mn list])).length<200000 - (logL x.recs).length
    rw [hlog];omega
   ·show ((200000 - (logL x.recs).length:Nat):Int)≤((200000 - (logL (x.recs++[recV mn list])).length:Nat):Int)+2700+9*nodes+8*l.length
    rw [hlog];omega
  ·refine ⟨_,rfl,_,_,_,_,_,hF7,hcell g17 6 _ rfl,(λh=>by cases h),λt v he=>?_,.inr ⟨_,_,rfl⟩⟩
   refine h2 w7 _ 7 g07 hp7 (.inl rfl) (.inr ⟨rfl,mn,list,hgg,h64,hmk,λhh=>hno ⟨hh.1,by have:=hh.2;have:=h.room;unfold PubS.room at *;omega⟩⟩) λhh=>hno ?_
   have hr:=h.room
   have h3:=hh.2.1
   have h4:=hh.2.2
   unfold PubS.room at h4
   omega
 ·have g01:=g0.trans g1
  refine ⟨_,_,rfl,hF0.reset.after g1,trivial,(λh=>by obtain ⟨t,x,rfl⟩:=hv.err;cases h),λt v he=>?_,.inr (by obtain ⟨t,x,h⟩:=hv.err;exact ⟨t,x,h⟩)⟩
  exact h2 w1 _ cc g01 (h.grow g01) hv (.inl hme) λhh=>hbad hh.1
theorem n5_:∃i,PR.info? T.dM_=some i∧i.zero=some (.agg #[.pointer none,.pointer none]):=by
 have h:(match PR.info? T.dM_ with | some i=>(match i.zero with | some (.agg ⟨[.pointer none,.pointer none]⟩)=>true | _=>false) | none=>false)=true:=by kernel_rfl
 split at h
 ·rename_i i hi
  refine ⟨i,hi,?_⟩
  split at h
  ·assumption
  ·cases h
 ·cases h
theorem jQ_:∀w:World,(zeroValue T.dM_).run PR w=.ok (.agg #[.pointer none,.pointer none]) w:=λw=>by
 obtain ⟨i,hi,hz⟩:=n5_
 simp [zeroValue,typeInfo,hi,hz]
theorem mj_ {w:World} {p bj m n each last com ver:Nat} {R:Value→Value→Prop} {v:Value} (hb:w.heap[p]? = some (.cells (pubC bj each last com m) T.a1_ (0,0))) (hm:MapP w T.int m n R) (hsh:kx_ R) (hlast:last≤1000000) (hR:R (.int .i64 (ver:Int)) v) (hlt:com<ver) {K:Value→World→Prop}
  (hK:∀w' n',Chg (λk=>k=p∨k=m) w w'→w'.heap[p]? = some (.cells (pubC bj each last ver m) T.a1_ (0,0))→MapP w' T.int m n' (λk v=>R k v∧¬delP last ver k)→K (.tuple #[]) w') :
  aa_ PR F.gu_ ⟨[.pointer (some ⟨p,0,none⟩),.int .i64 (ver:Int)]⟩ w K:=by
 have hpm:=hD_ hb hm
 obtain ⟨i,b,c,k2,k3,k4⟩:=hsh _ _ hR
 have hvi:ver=i:=by
  have e2:(ver:Int)=(i:Int):=by injection k3
  omega
 subst hvi
 refine ik_ p (some ⟨bj,0,none⟩) each last com (some m) ver (λk=>k=p∨k=m) K w ((Fr.init _ w).entry hb (λx h=>by cases h) λ_=>.inl rfl) ⟨.inl rfl,trivial⟩ ?_
 refine dW_ kX_ da_ hm (hI_ (i:=(ver:Int)) (by omega) (by omega)) true jQ_ (λv' hv'=>?_) λhno=>absurd hR (hno v)
 have:v'=v:=hm.inj hv' hR
 subst this
 subst k4
 refine ⟨_,_,true,rfl,(λ_=>⟨(Fr.init _ w).entry hb (λx h=>by cases h) λ_=>.inl rfl,λl0 hl0=>⟨λ_ w1 hF1=>?_,λhh=>absurd hlt (by omega)⟩⟩),λh=>by cases h⟩
 have g1:Chg (· = p) w w1:=hF1.stp.mono λi hi he=>by simp at he;rcases he with e | e;exact e;omega
 have hm1:=hm.keep g1 hpm.symm
 refine ko_ (hF1.blk 0 rfl) hm1 hsh (by omega) λw2 g2 hm2=>?_
 have hF2:=hF1.reset.step g2 (λz hz=>by simp at hz;subst hz;exact hpm) λk _ e=>.inr e
 exact ⟨rfl,_,_,_,_,_,hF2,hK w2 _ hF2.chg (hF2.blk 0 rfl) hm2⟩
theorem mw_ {N:Nat} {w:World} {x:PubS} (h:aJ_ N w x) (hN:N≤w.heap.size) {ver:Int} (hi : -9223372036854775808≤ver∧ver≤9223372036854775807) {K:Value→World→Prop}
  (h1:∀w' x',x'.recs=x.recs++[recC x'.com]→(recC x'.com).length+6≤x.room→aJ_ N w' x'→Chg x.reg w w'→x'.p=x.p→x'.bd=x.bd→x'.each=x.each→x'.last=x.last→ver=x'.com→x.com<x'.com→x'.room<x.room→x.room≤x'.room+20→x'.man=x.man→x'.com≤x'.last→x'.ex=x.ex→(∀k,x'.reg k→x.reg k∨w.heap.size≤k)→K .nilIface w')
  (h2:∀w' v c,Grow w w'→aJ_ N w' x→v=.iface T.ax_ (.int .i64 c)→(c=13∧¬(x.com<ver∧ver≤x.last∧x.last<ver+3)∨c=7∧(x.com<ver∧ver≤x.last∧x.last<ver+3)∧x.room<(recC ver.toNat).length+6)→¬(x.com<ver∧ver≤x.last∧x.last<ver+3∧20≤x.room)→K v w') :
  aa_ PR F.gv_ ⟨[.pointer (some ⟨x.p,0,none⟩),.int .i64 ver]⟩ w K:=by
 obtain ⟨hsl,hsc,hsr⟩:=h.small
 obtain ⟨n,hm⟩:=h.map
 have hpm:=hD_ h.blk hm
 have hlt:=h.lt
 have h0:Fs x.reg w [⟨x.p,pubC x.bj x.each x.last x.com x.m,T.a1_,true⟩] w:=(Fr.init _ w).entry h.blk (λx h=>by cases h) λ_=>.inl rfl
 refine il_ x.p (some ⟨x.bj,0,none⟩) x.each x.last x.com (some x.m) ver x.reg K w h0 ⟨.inl rfl,trivial⟩ ?_
 refine dW_ kX_ da_ hm (hI_ hi.1 hi.2) true jQ_ (λv hv=>?_) λhno=>?_
 ·obtain ⟨i,b,c,mn,list,k1,k2,k3,k4,k5⟩:=h.kept _ _ hv
  have hvi:ver=i:=by injection k3
  subst hvi
  subst k4
  refine ⟨_,_,true,rfl,(λ_=>⟨h0,λl0 hl0=>⟨λhle w1 hF1=>?_,λhgt w1 hF1=>?_⟩⟩),λh=>by cases h⟩
  ·have g1:Grow w w1:=(hF1.unM hl0).grow
   exact h2 w1 _ 13 g1 (h.grow g1) rfl (.inl ⟨rfl,λhh=>by omega⟩) λhh=>by omega
  ·have g1:Grow w w1:=(hF1.unM hl0).grow
   have hF1':=(hF1.unM hl0).reset
   refine aX_ (n:=(i:Int)) (by omega) λw2 g2=>⟨_,_,rfl,hF1'.after g2,?_⟩
   have hF2:=hF1'.after g2
   have g02:=g1.trans g2
   have hpl:=ho_ i (by omega)
   rw [Int.toNat_natCast] at *
   refine ⟨by rw [af_];omega,?_⟩
   rw [tq_,ai_]
   have hp2:=h.grow g02
   obtain ⟨n2,hm2⟩:=hp2.map
   have hrl:(recC i).length=1+(ae_ i).length:=by simp [recC];omega
   refine iJ_ (s:=recC i) hp2.blk hp2.jrn h.room hsr (by omega) (λhs1 hs2 w3 q' c' hj3 g3 hq'=>?_) λhno=>?_
   ·have hpub:=hp2.jrn.pub hp2.blk
    have hmj:=hp2.jrn.mapb hm2
    have hF3:=hF2.step g3 (λz hz=>by simp at hz;subst hz;exact hpub) (λk _ e=>.inr (.inr e))
    refine ⟨_,rfl,_,_,_,_,_,hF3,λ_=>?_,(λt x h=>by cases h),.inl rfl⟩
    have hb3:=g3.get hp2.blk hpub
    have hm3:=hm2.keep g3 hmj
    have hlog:(logL (x.recs++[recC i])).length=(logL x.recs).length+(recC i).length+6:=by
     rw [dX_,List.length_append,b4_];omega
    let x1:PubS:=⟨x.p,x.bj,x.bd,x.m,x.each,q',c',x.last,x.com,x.recs++[recC i],x.R,x.man,x.ex⟩
    have hqn:∀a,q'=some a→x.q=some a∨w.heap.size≤a.block:=λa ha=>(hq' a ha).imp id λh=>Nat.le_trans g02.size h
    have hreg:=ei_ (w':=w3) hqn
    have k3':∀k v,x.R k v→KeptAt x1.dom w3 x1.recs x.last x.man k v:=λk v hr=>(hp2.kept k v hr).keep g3 (λ_ _ e=>.inl (.inr (.inr e))) (λk hk e=>e.elim (λe=>.inl ((ei_ (w:=w2) (w':=w3) hq' k e).elim id λh=>by omega)) .inr) (Nat.le_refl _) (λ_ h=>List.mem_append_left _ h)
    have room3:(logL x1.recs).length≤200000:=by show (logL _).length≤_;rw [hlog];omega
    refine mj_ hb3 hm3 h.shown (by omega) (ver:=i) hv (by omega) λw4 n4 g4 hb4 hm4=>?_
    have hF4:=hF3.mod g4 hb4 (λz hz=>by cases hz) λk _ e=>e.elim .inl λe=>.inr (.inl e)
    refine ⟨rfl,_,_,_,_,_,hF4,?_⟩
    have g4':∀k,(k=x1.p∨k=x1.m)→x1.reg k:=λk e=>e.elim .inl λe=>.inr (.inl e)
    let x2:PubS:=⟨x.p,x.bj,x.bd,x.m,x.each,q',c',x.last,i,x.recs++[recC i],λk v=>x.R k v∧¬delP x.last i k,x.man,x.ex⟩
    have hro:(RecO.com i).ok ⟨x.last,x.com,x.man⟩:=⟨by show x.com<i;omega,k2,by
     show x.last<i+3
     rcases h.only i _ hv with h' | h'
     ·exact h'
     ·omega⟩
    refine h1 w4 x2 rfl (by show (recC i).length+6≤x.room;unfold PubS.room;omega) ⟨hb4,hj3.keep g4 λk e hk=>?_,⟨n4,hm4⟩,λk v hr=>(k3' k v hr.1).keep g4 (λk _ e=>.inl (g4' k e)) (λ_ _ e=>e) (Nat.le_refl _) (λ_ h=>h),λj hj1 hj2 hj3=>?_,k2,(by show x.last≤_;rw [List.length_append];have:=h.last_le;omega),room3,h.each1,h.each2,λk hk=>(hreg k hk).elim (h.lo k) λe=>by omega,λk hk=>Nat.lt_of_lt_of_le (Nat.lt_of_lt_of_le (hp2.exlt k hk) g3.size) g4.size,λj v hr=>?_,h.rep.snoc (.com i) hro hs1 rfl⟩ hF4.chg rfl rfl rfl rfl rfl (by show x.com<i;omega) ?_ ?_ rfl k2 rfl hreg
    ·rcases e with rfl | rfl
     ·exact hj3.pub hb3 hk
     ·exact hj3.mapb hm3 hk
    ·have hj3':x.last<j+3∨j=i:=hj3
     have hnd:¬delP x.last i (.int .i64 (j:Int)):=by
      rintro ⟨j',hj',a1,a2⟩
      have e2:(j:Int)=j':=by injection hj'
      subst e2
      rcases hj3' with h' | h'
      ·omega
      ·exact a2 (by rw [h'])
     rcases hj3' with h' | rfl
     ·obtain ⟨v,hv⟩:=h.has j hj1 hj2 (.inl h')
      exact ⟨v,hv,hnd⟩
     ·exact ⟨_,hv,hnd⟩
    ·exact oQ_ hr.2
    ·show 200000 - (logL (x.recs++[recC i])).length<200000 - (logL x.recs).length
     rw [hlog];omega
    ·show 200000 - (logL x.recs).length≤200000 - (logL (x.recs++[recC i])).length+20
     rw [hlog];omega
   ·refine ⟨_,rfl,_,_,_,_,_,hF2,(λh=>by cases h),λt v he=>?_,.inr ⟨_,_,rfl⟩⟩
    refine h2 w2 _ 7 g02 hp2 rfl (.inr ⟨rfl,⟨by omega,by omega,by rcases h.only i _ hv with h' | h' <;> omega⟩,?_⟩) λhh=>hno ?_
    ·have hr:=h.room
     unfold PubS.room
     omega
    have h4:=hh.2.2.2
    have hr:=h.room
    unfold PubS.room at h4
    omega
 ·refine ⟨_,_,false,rfl,(λh=>by cases h),λ_=>⟨h0,λl2 hl2 w1 hF1=>?_⟩⟩
  have g1:Grow w w1:=(hF1.unM hl2).grow
  have key:¬(x.com<ver∧ver≤x.last∧x.last<ver+3):=λhh=>by
   obtain ⟨i,rfl⟩:=Int.eq_ofNat_of_zero_le (a:=ver) (by omega)
   obtain ⟨v,hv⟩:=h.has i (by omega) (by omega) (.inl (by omega))
   exact hno v hv
  exact h2 w1 _ 13 g1 (h.grow g1) rfl (.inl ⟨rfl,key⟩) λhh=>key ⟨hh.1,hh.2.1,hh.2.2.1⟩
end Go.Vc
namespace Go.Vc
open Go
theorem fz_ {α:Type} {s:Nat} {f:α→List Value} (hf:∀x,(f x).length=s):∀ {l:List α} {k j:Nat},(h:k<l.length)→j<s→(l.flatMap f)[k*s+j]? = (f l[k])[j]?
 | a :: l,0,j,h,hj=>by
  rw [List.flatMap_cons,List.getElem?_append_left (by rw [hf];omega)];simp
 | a :: l,k+1,j,h,hj=>by
  have e:(k+1)*s+j=s+(k*s+j):=by rw [Nat.add_mul];omega
  rw [List.flatMap_cons,List.getElem?_append_right (by rw [hf];omega),hf,e,Nat.add_sub_cancel_left,fz_ hf (l:=l) (k:=k) (by simpa using h) hj];rfl
theorem bE_ {α:Type} {s:Nat} {f:α→List Value} (hf:∀x,(f x).length=s):∀l:List α,(l.flatMap f).length=l.length*s
 | []=>by simp
 | a :: l=>by rw [List.flatMap_cons,List.length_append,hf,bE_ hf l,List.length_cons,Nat.add_mul];omega
theorem Sl.rdN {α:Type} {s:Nat} {f:α→List Value} (hf:∀x,(f x).length=s) (h0:0<s) {w:World} {q:Option Addr} {l:List α} (h:Sl w q (l.flatMap f)) {n:Int} {k m:Nat} {K:Addr→Prop} (hn:n=k) (hk:k<l.length) (hm:k<m)
  (hK:∀a,(∀j v,(f l[k])[j]? = some v→w.cell? (a.add j)=some v)→K a):Dr q (λa=>0≤n∧n<((m:Nat):Int)∧Dr (some (Addr.add a (n.toNat*s))) K):=by
 subst hn
 have hel:=bE_ hf l
 have hpos:k*s<l.length*s:=Nat.mul_lt_mul_of_pos_right hk h0
 obtain ⟨b,o,rfl,hc⟩:=h.ex (by intro e;rw [e] at hel;simp at hel;omega)
 refine ac_.2 ⟨by omega,by omega,ac_.2 ?_⟩
 rw [am_,Int.toNat_natCast]
 refine hK _ λj v hv=>?_
 have hj:j<s:=by
  rcases Nat.lt_or_ge j s with h | h
  ·exact h
  ·rw [List.getElem?_eq_none (by rw [hf];exact h)] at hv;cases hv
 have hb:k*s+j<(l.flatMap f).length:=by
  rw [hel]
  have:(k+1)*s≤l.length*s:=Nat.mul_le_mul_right s hk
  rw [Nat.add_mul] at this;omega
 have:=hc (k*s+j) hb
 rw [fz_ hf hk hj,hv] at this
 rw [am_,Nat.add_assoc];exact this
end Go.Vc
namespace Go.Vc
open Go Go.ChangeShapes Go.WideShapes Go.Deep Go.ChangeAt Go.RowKit
noncomputable def flds (t:TypeId):Option (List (Nat × Nat)):=match PR.underlying t with
 | some (.struct fs)=>some (fs.toList.map λf=>(f.type,f.offset))
 | _=>none
theorem r9_ {t:TypeId} {l:List (Nat × Nat)} (h:flds t=some l):∃fs:Array Field,PR.underlying t=some (.struct fs)∧fs.toList.map (λf=>(f.type,f.offset))=l:=by
 unfold flds at h
 split at h
 ·rename_i fs hfs
  exact ⟨fs,hfs,Option.some.inj h⟩
 ·cases h
theorem r__ {fs:Array Field} {l:List (Nat × Nat)} (h:fs.toList.map (λf=>(f.type,f.offset))=l) {i:Nat} {x:Nat × Nat} (hi:l[i]? = some x):∃f,fs[i]? = some f∧f.type=x.1∧f.offset=x.2:=by
 rw [← h,List.getElem?_map] at hi
 rw [← Array.getElem?_toList]
 cases hf:fs.toList[i]? with
 | none=>rw [hf] at hi;cases hi
 | some f=>rw [hf] at hi;cases hi;exact ⟨f,rfl,rfl,rfl⟩
theorem lO_ {w:World} {a:Addr} {xs:List Value} (h:∀i,i<xs.length→w.cell? (a.add i)=xs[i]?):Sl w (some a) xs:=by
 cases xs with
 | nil=>exact .inl rfl
 | cons x xs=>
  right
  have h0:=h 0 (by simp)
  have h0':w.cell? a=some x:=by simpa [Addr.add] using h0
  have hs:=World.cell?_spot h0'
  obtain ⟨b,o,sp⟩:=a
  simp only at hs
  subst hs
  refine ⟨b,o,rfl,?_⟩
  unfold World.cell? at h0'
  cases hb:w.heap[b]? with
  | none=>simp [hb] at h0'
  | some ob=>
   cases ob with
   | cells cs T fz=>
    refine ⟨cs,T,fz,hb,λi hi=>?_⟩
    have hh:=h i hi
    have e:w.cell? ((⟨b,o,none⟩:Addr).add i)=cs[o+i]?:=by
     by_cases hi0:i=0
     ·subst hi0;simp [Addr.add,World.cell?,hb]
     ·simp [Addr.add,hi0,World.cell?,hb]
    rw [← e,hh]
   | _=>simp [hb] at h0'
theorem jt_ {α:Type} {s:Nat} {f:α→List Value} (hf:∀x,(f x).length=s) (hs0:0<s) {t e:TypeId} (ht:PR.underlying t=some (.slice e)) (hc:PR.cellsOf e=s) {G:α→Prop} {H:Type} {enc:TypeId × Value→H} {w:World} {base:Nat} {spare:Nat→Bool} {held:Bool}
  (each:∀(n:Nat) (cs:List Value) x,DataW.trod enc PR w base spare held n e cs=some x→cs.length=s→∃a:α,cs=f a∧G a) {fuel:Nat} {v:Value} {x:DataW H × List MemPlace} (h:DataW.trod enc PR w base spare held fuel t [v]=some x) :
  ∃(q:Option Addr) (l:List α) (c:Nat),v=.slice q l.length c∧Sl w q (l.flatMap f)∧(∀a∈l,G a)∧l.length≤c:=by
 rcases open_slice ht h with ⟨e1,_⟩ | ⟨a,len,cap,m,n,D,Pl,e1,_,hlc,_,hm,_,hx⟩
 ·cases e1
  exact ⟨none,[],0,rfl,.inl rfl,(λa ha=>by cases ha),Nat.le_refl _⟩
 ·cases e1
  rw [hc] at hx
  have hlm:len≤m:=by rw [hm];split <;> omega
  have ea:∀i,i<len→∃z:α,(∀j v,(f z)[j]? = some v→w.cell? (a.add (i*s+j))=some v)∧G z:=by
   intro i hi
   obtain ⟨cs',h1,h2⟩:=hx i (by omega)
   obtain ⟨_,hlen,hcell⟩:=World.cells?_some h1
   obtain ⟨z,rfl,hz⟩:=each n cs' _ h2 hlen
   refine ⟨z,λj v hj=>?_,hz⟩
   have hjl:j<s:=by
    rcases Nat.lt_or_ge j s with h | h
    ·exact h
    ·rw [List.getElem?_eq_none (by rw [hf];exact h)] at hj;cases hj
   have:=hcell j hjl
   rw [add_add] at this
   rw [this,hj]
  have hne:len=0∨Nonempty α:=by
   rcases Nat.eq_zero_or_pos len with h | h
   ·exact .inl h
   ·obtain ⟨z,_⟩:=ea 0 h;exact .inr ⟨z⟩
  rcases hne with h0 | ⟨⟨z0⟩⟩
  ·subst h0
   exact ⟨some a,[],cap,rfl,.inl rfl,(λa ha=>by cases ha),Nat.zero_le _⟩
  ·have:Inhabited α:=⟨z0⟩
   obtain ⟨g,hg⟩:=choose_lt ea
   refine ⟨some a,(List.range len).map g,cap,by simp,lO_ λi hi=>?_,λz hz=>?_,by simpa using hlc⟩
   ·rw [bE_ hf] at hi
    simp only [List.length_map,List.length_range] at hi
    have hk:i / s<len:=Nat.div_lt_of_lt_mul (by rw [Nat.mul_comm];exact hi)
    have hj:i%s<s:=Nat.mod_lt _ hs0
    have e2:i / s*s+i%s=i:=by rw [Nat.mul_comm];exact Nat.div_add_mod i s
    have h3:=fz_ hf (l:=(List.range len).map g) (k:=i / s) (j:=i%s) (by simpa using hk) hj
    rw [e2] at h3
    rw [h3]
    simp only [List.getElem_map,List.getElem_range]
    have hlt:i%s<(f (g (i / s))).length:=by rw [hf];exact hj
    have:=(hg (i / s) hk).1 (i%s) _ (List.getElem?_eq_getElem hlt)
    rw [e2] at this
    rw [this,List.getElem?_eq_getElem hlt]
   ·obtain ⟨i,hi,rfl⟩:=List.mem_map.1 hz
    exact (hg i (List.mem_range.1 hi)).2
theorem uInt:PR.underlying T.int=some (.int .i64):=by kernel_rfl
theorem cInt:PR.cellsOf T.int=1:=by kernel_rfl
theorem sv_:PR.underlying T.bool=some .bool:=by kernel_rfl
theorem uStr:PR.underlying T.string=some .string:=by kernel_rfl
theorem cStr:PR.cellsOf T.string=1:=by kernel_rfl
theorem to_:PR.underlying T.aK_=some (.slice T.string):=by kernel_rfl
theorem tF_:PR.cellsOf T.aK_=1:=by kernel_rfl
theorem q1_ {α:Type} (f:α→Value) (l:List α):l.flatMap (λn=>[f n])=l.map f:=by
 induction l with
 | nil=>rfl
 | cons b l ih=>rw [List.flatMap_cons,ih];rfl
section
variable {H:Type} {enc:TypeId × Value→H} {w:World} {base:Nat} {spare:Nat→Bool} {held:Bool}
theorem fc_ {t:TypeId} {l:List (Nat × Nat)} (hl:flds t=some l) {n:Nat} {cs:List Value} {x:DataW H × List MemPlace} (h:DataW.trod enc PR w base spare held n t cs=some x) :
  ∃m,∀(i:Nat) (p:Nat × Nat),l[i]? = some p→∃y,DataW.trod enc PR w base spare held m p.1 ((cs.drop p.2).take (PR.cellsOf p.1))=some y:=by
 obtain ⟨fs,hu,hm⟩:=r9_ hl
 obtain ⟨xs,m,_,_,_,hxl,hg⟩:=DataW.trod_struct hu h
 refine ⟨m,λi p hi=>?_⟩
 obtain ⟨f,h1,h2,h3⟩:=r__ hm hi
 have:=hg i f h1
 rw [h2,h3] at this
 have hil:i<xs.length:=by
  rw [hxl]
  rcases Nat.lt_or_ge i fs.size with h | h
  ·exact h
  ·rw [Array.getElem?_eq_none h] at h1;cases h1
 exact ⟨_,this.trans (List.getElem?_eq_getElem hil)⟩
theorem rS_ {fuel:Nat} {v:Value} {x:DataW H × List MemPlace} (h:DataW.trod enc PR w base spare held fuel T.aK_ [v]=some x):∃(q:Option Addr) (bs:List ByteArray) (c:Nat),v=.slice q bs.length c∧Sl w q (bs.map .string):=by
 obtain ⟨q,l,c,h1,h2,_,_⟩:=jt_ (α:=ByteArray) (s:=1) (f:=λn=>[.string n]) (λ_=>rfl) (by decide) to_ cStr (G:=λ_=>True) (λn cs x hx hlen=>by
  obtain ⟨s,e,_⟩:=DataW.trod_string uStr hx
  exact ⟨s,e,trivial⟩) h
 rw [q1_] at h2
 exact ⟨q,l,c,h1,h2⟩
end
section
variable {H:Type} {enc:TypeId × Value→H} {P:Program}
theorem jC_ {f:Func} {s:ChangeSpec} {apart fresh handsOn again:Bool} {W W':World} {args:Array Value} {v:Value} {ds gs:List (DataW H)} {before pa pv:List MemPlace}
  (hW:DataW.Whole enc P f.params.toList s.vars apart W args.toList ds gs before)
  (hres:∀(b:Nat) (sp:Nat→Bool) (hd:Bool),DataW.TrodAll enc P W' b sp hd f.resultTypes.toList (v.resultList f.resultTypes.size) (s.fn H (ds++gs)).results [])
  (hargs:∀sp:Nat→Bool,(∀p∈before,sp p.block=true)→DataW.TrodAll enc P W' 0 sp true f.params.toList args.toList (s.fn H (ds++gs)).args pa)
  (hvars:∀sp:Nat→Bool,(∀p∈before,sp p.block=true)→DataW.TrodVars enc P W' sp s.vars (s.fn H (ds++gs)).vars pv)
  (hps:before=pa++pv) (hb:Below W.heap.size W W')
  (hok:∀(j:Nat) (t:TypeId) (r:Value),f.resultTypes[j]? = some t→(v.resultList f.resultTypes.size)[j]? = some r→Value.okWide P W' .any 0 t r) :
  s.post enc P f apart fresh handsOn again W args v W':=by
 have hlt:∀p∈before,p.block<W.heap.size:=λp hp=>hW.lt p hp
 have hold:∀p∈before,(λb=>decide (b<W.heap.size)) p.block=true:=λp hp=>by simpa using hlt p hp
 refine ⟨ds,gs,before,[],pa,pv,hW,hres _ _ _,hargs _ hold,hvars _ hold,World.keptBut_mono (λp hp=>⟨hp,?_⟩) (hb.frame (·∈before)),λ_=>?_⟩
 ·rw [hps,List.mem_append] at hp
  exact Or.inr hp
 ·obtain ⟨_,_,_,_,_,hz,hn⟩:=hW
  refine ⟨hok,_,_,([]++pa)++pv,⟨[]++pa,pv,trodAll_append (hargs _ (λ_ _=>rfl)) (hres _ _ _),hvars _ (λ_ _=>rfl),rfl,?_,?_⟩,?_⟩
  ·intro b off hp
   have hin:MemPlace.cell b off∈before:=by rw [hps];simpa using hp
   rw [hb.frozen (hlt _ hin)]
   exact hz b off hin
  ·intro ha
   have:=hn ha
   rw [hps] at this
   simpa using this
  ·intro p hp _
   rw [hps]
   simpa using hp
end
theorem ke_ {w w':World} (h:Grow w w'):Below w.heap.size w w':=⟨h.os,h.tape,h.output,h.size,λk hk=>h.block k hk (λe=>e)⟩
theorem ownG:ownKnob PR.godebug=none:=by kernel_rfl
theorem layG:laidOutB PR=true:=by kernel_rfl
end Go.Vc
namespace Go.Vc
open Go
end Go.Vc
namespace Go.Vc
open Go Go.RowKit Go.Extern.Stop Go.Stop Go.Extern Go.Proofs
abbrev hd (t:Nat):Value:=.pointer (some ⟨G.count,t,none⟩)
theorem mA_ (t:Addr) (w:World):(ReflectliteValue.unpack (.iface 120 (.pointer (some t)))).run Tryz.prog w
  = .ok (.agg #[.pointer (some ⟨2,120,none⟩),.pointer (some ⟨w.heap.size,0,none⟩),.int .u64 150]) (w.alloc (.cells #[.pointer (some t)] 120)):=by kernel_rfl
theorem sw_ (a:Addr) (w:World):(ReflectliteValue.methodAny (ReflectliteValue.valueError "reflectlite.Value.Type" 0) (λt _ _ _=>ReflectliteType.toType t) #[.agg #[.pointer (some ⟨2,120,none⟩),.pointer (some a),.int .u64 150]]).run Tryz.prog w
  = .ok (.iface 258 (.agg #[.pointer (some ⟨2,120,none⟩)])) w:=by kernel_rfl
theorem iW_ (h:Value) (w:World):(Go.method 494 258 (.agg #[h]) "Kind").run Tryz.prog w=.ok (271,h) w:=by kernel_rfl
theorem sX_ (w:World):((ReflectliteType.abiMethod λt=>(λa:Nat=>Value.int IntKind.u8 (a:Int)) <$> Rtype.kind t) #[.pointer (some ⟨2,120,none⟩)]).run Tryz.prog w=.ok (.int .u8 22) w:=by kernel_rfl
theorem sY_ (w:World):((ReflectliteType.abiMethod λt=>(λa:Nat=>Value.int IntKind.u8 (a:Int)) <$> Rtype.kind t) #[.pointer (some ⟨2,93,none⟩)]).run Tryz.prog w=.ok (.int .u8 2) w:=by kernel_rfl
theorem rlm (z:Sem Value) (f:TypeId→Addr→Nat→Nat→Sem Value) (v:Value) :
  ReflectliteValue.method z f #[v]=(do match ← ReflectliteValue.parts v with | none=>z | some (t,a,fl)=>f t a fl (fl%32)):=rfl
theorem rx_ (a:Addr) (w:World):(ReflectliteValue.parts (.agg #[.pointer (some ⟨2,120,none⟩),.pointer (some a),.int .u64 150])).run Tryz.prog w=.ok (some (120,a,150)) w:=by kernel_rfl
theorem rD_ (a p:Addr) (W:World) (ha:W.cell? a=some (.pointer (some p))) :
  (ReflectliteValue.method (ReflectliteValue.valueError "reflectlite.Value.IsNil" 0) ReflectliteValue.isNil #[.agg #[.pointer (some ⟨2,120,none⟩),.pointer (some a),.int .u64 150]]).run Tryz.prog W=.ok (.bool false) W:=by
 rw [rlm]
 simp only [Sem.run_bind,rx_,Result.andThen]
 simp [ReflectliteValue.isNil,loadVar,isAgg,underlying,ha,Result.andThen]
theorem iX_ (h:Value) (w:World):(Go.method 494 258 (.agg #[h]) "Elem").run Tryz.prog w=.ok (286,.agg #[h]) w:=by kernel_rfl
theorem dD_ (h:Value) (w:World):(Go.method 494 258 (.agg #[h]) "Implements").run Tryz.prog w=.ok (287,.agg #[h]) w:=by kernel_rfl
theorem cG_ (h:Value) (w:World):(Go.method 494 258 (.agg #[h]) "AssignableTo").run Tryz.prog w=.ok (284,.agg #[h]) w:=by kernel_rfl
theorem tf_ (w:World):(ReflectliteType.method ReflectliteType.elem #[.agg #[.pointer (some ⟨2,120,none⟩)]]).run Tryz.prog w=.ok (.iface 258 (.agg #[.pointer (some ⟨2,93,none⟩)])) w:=by kernel_rfl
theorem hL_ (w:World):(ReflectliteType.relation "Implements" ReflectliteType.implements_ #[.agg #[.pointer (some ⟨2,93,none⟩)],.iface 258 (.agg #[.pointer (some ⟨2,27,none⟩)])]).run Tryz.prog w=.ok (.bool true) w:=by kernel_rfl
theorem lF_ (v:Value) (w:World):(ReflectliteType.typeOf #[.iface 93 v]).run Tryz.prog w=.ok (.iface 258 (.agg #[.pointer (some ⟨2,93,none⟩)])) w:=by kernel_rfl
theorem h__ (w:World):(ReflectliteType.relation "AssignableTo" ReflectliteType.assignableTo #[.agg #[.pointer (some ⟨2,93,none⟩)],.iface 258 (.agg #[.pointer (some ⟨2,93,none⟩)])]).run Tryz.prog w=.ok (.bool true) w:=by kernel_rfl
theorem rK_ (v:Value) (w:World):(ReflectliteType.typeOf #[.iface 213 v]).run Tryz.prog w=.ok (.iface 258 (.agg #[.pointer (some ⟨2,213,none⟩)])) w:=by kernel_rfl
theorem mm_ (w:World):(ReflectliteType.relation "AssignableTo" ReflectliteType.assignableTo #[.agg #[.pointer (some ⟨2,213,none⟩)],.iface 258 (.agg #[.pointer (some ⟨2,93,none⟩)])]).run Tryz.prog w=.ok (.bool false) w:=by kernel_rfl
theorem mB_ (n:Int) (w:World):(ReflectliteValue.unpack (.iface 93 (.int .i64 n))).run Tryz.prog w
  = .ok (.agg #[.pointer (some ⟨2,93,none⟩),.pointer (some ⟨w.heap.size,0,none⟩),.int .u64 130]) (w.alloc (.cells #[.int .i64 n] 93)):=by kernel_rfl
theorem sd_ (w:World):(Rtype.elem? 120).run Tryz.prog w=.ok (some 93) w:=by kernel_rfl
theorem mkE (p:Addr) (w:World):(ReflectliteValue.mk 93 p ReflectliteValue.flagAddr).run Tryz.prog w=.ok (.agg #[.pointer (some ⟨2,93,none⟩),.pointer (some p),.int .u64 386]) w:=by kernel_rfl
theorem rF_ (a p:Addr) (W:World) (ha:W.cell? a=some (.pointer (some p))) :
  (ReflectliteValue.method (ReflectliteValue.valueError "reflectlite.Value.Elem" 0) ReflectliteValue.elem #[.agg #[.pointer (some ⟨2,120,none⟩),.pointer (some a),.int .u64 150]]).run Tryz.prog W
   = .ok (.agg #[.pointer (some ⟨2,93,none⟩),.pointer (some p),.int .u64 386]) W:=by
 rw [rlm]
 simp only [Sem.run_bind,rx_,Result.andThen]
 simp [ReflectliteValue.elem,loadVar,isAgg,underlying,ha,Result.andThen,sd_,mkE]
theorem rls (v x:Value):ReflectliteValue.set #[v,x]=(do
  let (some (dst,a,fl),some (src,b,_)):=(← ReflectliteValue.parts v,← ReflectliteValue.parts x)
   | unsupported (.noEntry "extern/(internal/reflectlite.Value).Set.zeroValue")
  if fl / ReflectliteValue.flagAddr%2 == 0 then unsupported (.noEntry "extern/(internal/reflectlite.Value).Set.unaddressable")
  let val ← loadVar src b
  if ← Rtype.directlyAssignable dst src then storeVar dst a val
  else if ← Rtype.implements dst src then
   if (← Rtype.kind src) == 20 then
    match val with
    | .nilIface=>unsupported (.noEntry "extern/reflectlite: a nil value of one interface type handed on as a value of another")
    | _=>storeVar dst a val
   else storeVar dst a (.iface src val)
  else panicString ("reflectlite.Set: value of type " ++ (← Rtype.spelt src) ++ " is not assignable to type " ++ (← Rtype.spelt dst))
  pure (.tuple #[])):=rfl
theorem rY_ (a:Addr) (w:World):(ReflectliteValue.parts (.agg #[.pointer (some ⟨2,93,none⟩),.pointer (some a),.int .u64 386])).run Tryz.prog w=.ok (some (93,a,386)) w:=by kernel_rfl
theorem sR_ (a:Addr) (w:World):(ReflectliteValue.parts (.agg #[.pointer (some ⟨2,93,none⟩),.pointer (some a),.int .u64 130])).run Tryz.prog w=.ok (some (93,a,130)) w:=by kernel_rfl
theorem sf_ (w:World):(Rtype.directlyAssignable 93 93).run Tryz.prog w=.ok true w:=by kernel_rfl
theorem setE (ta b:Addr) (n:Int) (old:Value) (W:World) (hb:W.cell? b=some (.int .i64 n)) (ht:W.cell? ta=some old) (hf:W.frozen? ta=false) :
  (ReflectliteValue.set #[.agg #[.pointer (some ⟨2,93,none⟩),.pointer (some ta),.int .u64 386],.agg #[.pointer (some ⟨2,93,none⟩),.pointer (some b),.int .u64 130]]).run Tryz.prog W
   = .ok (.tuple #[]) (W.setCell ta (.int .i64 n)):=by
 rw [rls]
 simp only [Sem.run_bind,rY_,sR_,Result.andThen]
 simp [ReflectliteValue.flagAddr,loadVar,isAgg,underlying,hb,Result.andThen,sf_,storeVar,Value.cells,storeCells,Addr.add]
 rw [run_store Tryz.prog W ta _ _ (by rfl)]
 simp [ht,hf]
end Go.Vc
namespace Go.Vc
open Go Go.RowKit Go.Extern.Stop Go.Stop Go.Extern Go.Proofs
set_option maxHeartbeats 4000000 in
theorem tk_ (n:Int) (t:Addr) (old:Value) (w:World) (hg:w.cell? ⟨0,0,none⟩=some (.iface 258 (.agg #[.pointer (some ⟨2,27,none⟩)]))) (ht0:w.cell? t=some old) (hf0:w.frozen? t=false) :
  Calls Tryz.prog 54 #[.iface 93 (.int .i64 n),.iface 120 (.pointer (some t))] w λev w'=>ev=.returned (.bool true)∧w'=((((w.alloc (.cells #[.pointer (some t)] 120)).alloc (.cells #[.pointer (some ⟨2,120,none⟩),.pointer (some ⟨w.heap.size,0,none⟩),.int .u64 150] 192)).alloc (.cells #[.pointer (some ⟨2,120,none⟩),.pointer (some ⟨w.heap.size,0,none⟩),.int .u64 150] 192)).alloc (.cells #[.int .i64 n] 93)).setCell t (.int .i64 n):=by
 have h6:=@run_callFunc_extern Tryz.prog 108 _ (λargs=>ReflectliteValue.unpack (args.getD 0 (.tuple #[]))) Tryz.func108 (by kernel_rfl) (by kernel_rfl) (by kernel_rfl) (by kernel_rfl)
 have h7:=@run_callFunc_extern Tryz.prog 109 _ (ReflectliteValue.methodAny (ReflectliteValue.valueError "reflectlite.Value.Type" 0) (λt _ _ _=>ReflectliteType.toType t)) Tryz.func109 (by kernel_rfl) (by kernel_rfl) (by kernel_rfl) (by kernel_rfl)
 have h8:=@run_callFunc_extern Tryz.prog 110 _ (ReflectliteValue.method (ReflectliteValue.valueError "reflectlite.Value.IsNil" 0) ReflectliteValue.isNil) Tryz.func110 (by kernel_rfl) (by kernel_rfl) (by kernel_rfl) (by kernel_rfl)
 have h27:=@run_callFunc_extern Tryz.prog 271 _ (ReflectliteType.abiMethod λt=>do pure (.int .u8 (← Rtype.kind t))) Tryz.func271 (by kernel_rfl) (by kernel_rfl) (by kernel_rfl) (by kernel_rfl)
 have h37:=@run_callFunc_extern Tryz.prog 286 _ (ReflectliteType.method ReflectliteType.elem) Tryz.func286 (by kernel_rfl) (by kernel_rfl) (by kernel_rfl) (by kernel_rfl)
 have h38:=@run_callFunc_extern Tryz.prog 287 _ (ReflectliteType.relation "Implements" ReflectliteType.implements_) Tryz.func287 (by kernel_rfl) (by kernel_rfl) (by kernel_rfl) (by kernel_rfl)
 have h10:=@run_callFunc_extern Tryz.prog 118 _ ReflectliteType.typeOf Tryz.func118 (by kernel_rfl) (by kernel_rfl) (by kernel_rfl) (by kernel_rfl)
 have h35:=@run_callFunc_extern Tryz.prog 284 _ (ReflectliteType.relation "AssignableTo" ReflectliteType.assignableTo) Tryz.func284 (by kernel_rfl) (by kernel_rfl) (by kernel_rfl) (by kernel_rfl)
 have h11:=@run_callFunc_extern Tryz.prog 161 _ (ReflectliteValue.method (ReflectliteValue.valueError "reflectlite.Value.Elem" 0) ReflectliteValue.elem) Tryz.func161 (by kernel_rfl) (by kernel_rfl) (by kernel_rfl) (by kernel_rfl)
 have h12:=@run_callFunc_extern Tryz.prog 162 _ ReflectliteValue.set Tryz.func162 (by kernel_rfl) (by kernel_rfl) (by kernel_rfl) (by kernel_rfl)
 have tO:=lF_
 have mA:=cG_
 have a25:=h__
 have v25:=mB_
 have f6:=mA_
 have f7:=sw_
 have mK:=iW_
 have mE:=iX_
 have mI:=dD_
 have k27:=sX_
 have k25:=sY_
 have e27:=tf_
 have i25:=hL_
 have n8:=rD_ ⟨w.heap.size,0,none⟩ t ((w.alloc (.cells #[.pointer (some t)] 120)).alloc (.cells #[.pointer (some ⟨2,120,none⟩),.pointer (some ⟨w.heap.size,0,none⟩),.int .u64 150] 192)) (by simp)
 have hlt:0<w.heap.size:=by
  rcases Nat.eq_zero_or_pos w.heap.size with h0 | h
  ·simp [World.cell?,h0] at hg
  ·exact h
 have hg2:((w.alloc (.cells #[.pointer (some t)] 120)).alloc (.cells #[.pointer (some ⟨2,120,none⟩),.pointer (some ⟨w.heap.size,0,none⟩),.int .u64 150] 192)).cell? ⟨0,0,none⟩=some (.iface 258 (.agg #[.pointer (some ⟨2,27,none⟩)])):=by
  rw [World.cell?_alloc_lt _ _ ⟨0,0,none⟩ (by simp),World.cell?_alloc_lt _ _ ⟨0,0,none⟩ hlt];exact hg
 have htl:t.block<w.heap.size:=by
  rcases Nat.lt_or_ge t.block w.heap.size with h | h
  ·exact h
  ·simp [World.cell?,Array.getElem?_eq_none h] at ht0
 have el:=rF_ ⟨w.heap.size,0,none⟩ t (((w.alloc (.cells #[.pointer (some t)] 120)).alloc (.cells #[.pointer (some ⟨2,120,none⟩),.pointer (some ⟨w.heap.size,0,none⟩),.int .u64 150] 192)).alloc (.cells #[.pointer (some ⟨2,120,none⟩),.pointer (some ⟨w.heap.size,0,none⟩),.int .u64 150] 192)) (by rw [World.cell?_alloc_lt _ _ ⟨w.heap.size,0,none⟩ (by simp;omega)];simp)
 have st:=setE t ⟨w.heap.size+1+1+1,0,none⟩ n old ((((w.alloc (.cells #[.pointer (some t)] 120)).alloc (.cells #[.pointer (some ⟨2,120,none⟩),.pointer (some ⟨w.heap.size,0,none⟩),.int .u64 150] 192)).alloc (.cells #[.pointer (some ⟨2,120,none⟩),.pointer (some ⟨w.heap.size,0,none⟩),.int .u64 150] 192)).alloc (.cells #[.int .i64 n] 93))
  (by rw [World.cell?_alloc_at _ _ _ _ (by simp)];rfl)
  (by rw [World.cell?_alloc_lt _ _ t (by simp;omega),World.cell?_alloc_lt _ _ t (by simp;omega),World.cell?_alloc_lt _ _ t (by simp;omega),World.cell?_alloc_lt _ _ t htl];exact ht0)
  (by rw [World.frozen?_alloc_old _ _ t (by simp;omega),World.frozen?_alloc_old _ _ t (by simp;omega),World.frozen?_alloc_old _ _ t (by simp;omega),World.frozen?_alloc_old _ _ t (Nat.ne_of_lt htl)];exact hf0)
 go_enter Tryz.func54,Tryz.ntmps54
 go_wp2
 refine wp_loop_rounds 1 ?_
 rw [rounds_succ]
 go_wp2
 go_ret
 exact ⟨rfl,rfl⟩
end Go.Vc
namespace Go.Vc
open Go Go.RowKit Go.Extern.Stop Go.Stop Go.Extern Go.Proofs
theorem ch_ {w w1:World} (g:Grow w w1) (o:Obj):Grow w (w1.alloc o):=g.trans (Chg.alloc w1 o)
theorem s6_ (w:World) (o1 o2 o3 o4 o5:Obj):Grow w (((((w.alloc o1).alloc o2).alloc o3).alloc o4).alloc o5):=
 ch_ (ch_ (ch_ (ch_ (ch_ (.refl _ w) o1) o2) o3) o4) o5
set_option maxHeartbeats 4000000 in
theorem nX_ (n:Int) (h0 : -9223372036854775808≤n) (h1:n≤9223372036854775807) (w:World) (hg:w.cell? ⟨0,0,none⟩=some (.iface 258 (.agg #[.pointer (some ⟨2,27,none⟩)]))) :
  Calls Tryz.prog 14 #[.iface 93 (.int .i64 n)] w λev w'=>ev=.returned (.int .i64 n)∧Grow w w':=by
 have hlt:0<w.heap.size:=by
  rcases Nat.eq_zero_or_pos w.heap.size with h0 | h
  ·simp [World.cell?,h0] at hg
  ·exact h
 have hgA:(w.alloc (.cells #[.int .i64 0] 93)).cell? ⟨0,0,none⟩=some (.iface 258 (.agg #[.pointer (some ⟨2,27,none⟩)])):=by
  rw [World.cell?_alloc_lt _ _ ⟨0,0,none⟩ hlt];exact hg
 have htA:(w.alloc (.cells #[.int .i64 0] 93)).cell? ⟨w.heap.size,0,none⟩=some (.int .i64 0):=by simp
 have hfA:(w.alloc (.cells #[.int .i64 0] 93)).frozen? ⟨w.heap.size,0,none⟩=false:=by simp
 have hw:IntKind.wrap .i64 n=n:=aF_ h0 h1
 go_enter Tryz.func14,Tryz.ntmps14
 go_wp2_with (first | (go_at_call 54;refine (tk_ n _ (.int .i64 0) _ hgA htA hfA).mono ?_;rintro e w' ⟨rfl,rfl⟩))
 go_ret
 refine ⟨by simp,s6_ _ _ _ _ _ _⟩
end Go.Vc
namespace Go.Vc
open Go Go.RowKit Go.Extern.Stop Go.Stop Go.Extern Go.Proofs
theorem qh_:(Tryz.prog.underlying 262).map (λt=>match t with | .interface ms=>ms.toList.map (·.1) | _=>[])=some ["As"]:=by kernel_rfl
theorem qg_:(Tryz.prog.underlying 265).map (λt=>match t with | .interface ms=>ms.toList.map (·.1) | _=>[])=some ["Unwrap"]:=by kernel_rfl
theorem mV_ {P:Program} {t:TypeId} {l:List String} (h:(P.underlying t).map (λt=>match t with | .interface ms=>ms.toList.map (·.1) | _=>[])=some l) (hne:l≠[]):∃ms,P.underlying t=some (.interface ms):=by
 cases hu:P.underlying t with
 | none=>rw [hu] at h;cases h
 | some u=>
  rw [hu] at h
  cases u with
  | interface ms=>exact ⟨ms,rfl⟩
  | _=>exact absurd (Option.some.inj h).symm hne
theorem noAs (v:Value) (xT:TypeId) (w:World):(Instr.typeAssert (.iface 213 v) xT 262 true).run Tryz.prog w=.ok (.tuple #[.nilIface,.bool false]) w:=by
 obtain ⟨ms,hu⟩:=mV_ qh_ (by simp)
 exact run_typeAssert_lacksB hu (by
  have:(Tryz.prog.info? 213).map (λi=>match Tryz.prog.underlying 262 with | some (.interface want)=>(lacking want i.methods).isEmpty | _=>true)=some false:=by kernel_rfl
  rw [hu] at this;exact this) (by kernel_rfl) v xT w
theorem pg_ (v:Value) (xT:TypeId) (w:World):(Instr.typeAssert (.iface 213 v) xT 265 true).run Tryz.prog w=.ok (.tuple #[.iface 213 v,.bool true]) w:=by
 obtain ⟨ms,hu⟩:=mV_ qg_ (by simp)
 exact run_typeAssert_hasB hu (by
  have:(Tryz.prog.info? 213).map (λi=>match Tryz.prog.underlying 265 with | some (.interface want)=>(lacking want i.methods).isEmpty | _=>true)=some true:=by kernel_rfl
  rw [hu] at this;exact this) v xT w
theorem kQ_ (x y:Value) (w:World):(Go.method 494 213 (.agg #[x,y]) "Unwrap").run Tryz.prog w=.ok (282,.agg #[x,y]) w:=by kernel_rfl
end Go.Vc
namespace Go.Vc
open Go Go.RowKit Go.Extern.Stop Go.Stop Go.Extern Go.Proofs
set_option maxHeartbeats 4000000 in
theorem rc_ (at_ n:Int) (t:Addr) (old:Value) (w:World) (hg:w.cell? ⟨0,0,none⟩=some (.iface 258 (.agg #[.pointer (some ⟨2,27,none⟩)]))) (ht0:w.cell? t=some old) (hf0:w.frozen? t=false) :
  Calls Tryz.prog 54 #[.iface 213 (.agg #[.int .i64 at_,.iface 93 (.int .i64 n)]),.iface 120 (.pointer (some t))] w λev w'=>ev=.returned (.bool true)∧w'=(((((w.alloc (.cells #[.pointer (some t)] 120)).alloc (.cells #[.pointer (some ⟨2,120,none⟩),.pointer (some ⟨w.heap.size,0,none⟩),.int .u64 150] 192)).alloc (.cells #[.pointer (some ⟨2,120,none⟩),.pointer (some ⟨w.heap.size,0,none⟩),.int .u64 150] 192)).alloc (.cells #[.int .i64 at_,.iface 93 (.int .i64 n)] 213)).alloc (.cells #[.int .i64 n] 93)).setCell t (.int .i64 n):=by
 have h6:=@run_callFunc_extern Tryz.prog 108 _ (λargs=>ReflectliteValue.unpack (args.getD 0 (.tuple #[]))) Tryz.func108 (by kernel_rfl) (by kernel_rfl) (by kernel_rfl) (by kernel_rfl)
 have h7:=@run_callFunc_extern Tryz.prog 109 _ (ReflectliteValue.methodAny (ReflectliteValue.valueError "reflectlite.Value.Type" 0) (λt _ _ _=>ReflectliteType.toType t)) Tryz.func109 (by kernel_rfl) (by kernel_rfl) (by kernel_rfl) (by kernel_rfl)
 have h8:=@run_callFunc_extern Tryz.prog 110 _ (ReflectliteValue.method (ReflectliteValue.valueError "reflectlite.Value.IsNil" 0) ReflectliteValue.isNil) Tryz.func110 (by kernel_rfl) (by kernel_rfl) (by kernel_rfl) (by kernel_rfl)
 have h27:=@run_callFunc_extern Tryz.prog 271 _ (ReflectliteType.abiMethod λt=>do pure (.int .u8 (← Rtype.kind t))) Tryz.func271 (by kernel_rfl) (by kernel_rfl) (by kernel_rfl) (by kernel_rfl)
 have h37:=@run_callFunc_extern Tryz.prog 286 _ (ReflectliteType.method ReflectliteType.elem) Tryz.func286 (by kernel_rfl) (by kernel_rfl) (by kernel_rfl) (by kernel_rfl)
 have h38:=@run_callFunc_extern Tryz.prog 287 _ (ReflectliteType.relation "Implements" ReflectliteType.implements_) Tryz.func287 (by kernel_rfl) (by kernel_rfl) (by kernel_rfl) (by kernel_rfl)
 have h10:=@run_callFunc_extern Tryz.prog 118 _ ReflectliteType.typeOf Tryz.func118 (by kernel_rfl) (by kernel_rfl) (by kernel_rfl) (by kernel_rfl)
 have h35:=@run_callFunc_extern Tryz.prog 284 _ (ReflectliteType.relation "AssignableTo" ReflectliteType.assignableTo) Tryz.func284 (by kernel_rfl) (by kernel_rfl) (by kernel_rfl) (by kernel_rfl)
 have h11:=@run_callFunc_extern Tryz.prog 161 _ (ReflectliteValue.method (ReflectliteValue.valueError "reflectlite.Value.Elem" 0) ReflectliteValue.elem) Tryz.func161 (by kernel_rfl) (by kernel_rfl) (by kernel_rfl) (by kernel_rfl)
 have h12:=@run_callFunc_extern Tryz.prog 162 _ ReflectliteValue.set Tryz.func162 (by kernel_rfl) (by kernel_rfl) (by kernel_rfl) (by kernel_rfl)
 have tO:=lF_
 have mA:=cG_
 have a25:=h__
 have v25:=mB_
 have f6:=mA_
 have f7:=sw_
 have mK:=iW_
 have mE:=iX_
 have mI:=dD_
 have k27:=sX_
 have k25:=sY_
 have e27:=tf_
 have i25:=hL_
 have n8:=rD_ ⟨w.heap.size,0,none⟩ t ((w.alloc (.cells #[.pointer (some t)] 120)).alloc (.cells #[.pointer (some ⟨2,120,none⟩),.pointer (some ⟨w.heap.size,0,none⟩),.int .u64 150] 192)) (by simp)
 have hlt:0<w.heap.size:=by
  rcases Nat.eq_zero_or_pos w.heap.size with h0 | h
  ·simp [World.cell?,h0] at hg
  ·exact h
 have hg2:((w.alloc (.cells #[.pointer (some t)] 120)).alloc (.cells #[.pointer (some ⟨2,120,none⟩),.pointer (some ⟨w.heap.size,0,none⟩),.int .u64 150] 192)).cell? ⟨0,0,none⟩=some (.iface 258 (.agg #[.pointer (some ⟨2,27,none⟩)])):=by
  rw [World.cell?_alloc_lt _ _ ⟨0,0,none⟩ (by simp),World.cell?_alloc_lt _ _ ⟨0,0,none⟩ hlt];exact hg
 have htl:t.block<w.heap.size:=by
  rcases Nat.lt_or_ge t.block w.heap.size with h | h
  ·exact h
  ·simp [World.cell?,Array.getElem?_eq_none h] at ht0
 have el:=rF_ ⟨w.heap.size,0,none⟩ t ((((w.alloc (.cells #[.pointer (some t)] 120)).alloc (.cells #[.pointer (some ⟨2,120,none⟩),.pointer (some ⟨w.heap.size,0,none⟩),.int .u64 150] 192)).alloc (.cells #[.pointer (some ⟨2,120,none⟩),.pointer (some ⟨w.heap.size,0,none⟩),.int .u64 150] 192)).alloc (.cells #[.int .i64 at_,.iface 93 (.int .i64 n)] 213)) (by
  rw [World.cell?_alloc_lt _ _ ⟨w.heap.size,0,none⟩ (by simp;omega),World.cell?_alloc_lt _ _ ⟨w.heap.size,0,none⟩ (by simp;omega)];simp)
 have st:=setE t ⟨w.heap.size+1+1+1+1,0,none⟩ n old (((((w.alloc (.cells #[.pointer (some t)] 120)).alloc (.cells #[.pointer (some ⟨2,120,none⟩),.pointer (some ⟨w.heap.size,0,none⟩),.int .u64 150] 192)).alloc (.cells #[.pointer (some ⟨2,120,none⟩),.pointer (some ⟨w.heap.size,0,none⟩),.int .u64 150] 192)).alloc (.cells #[.int .i64 at_,.iface 93 (.int .i64 n)] 213)).alloc (.cells #[.int .i64 n] 93))
  (by rw [World.cell?_alloc_at _ _ _ _ (by simp)];rfl)
  (by rw [World.cell?_alloc_lt _ _ t (by simp;omega),World.cell?_alloc_lt _ _ t (by simp;omega),World.cell?_alloc_lt _ _ t (by simp;omega),World.cell?_alloc_lt _ _ t (by simp;omega),World.cell?_alloc_lt _ _ t htl];exact ht0)
  (by rw [World.frozen?_alloc_old _ _ t (by simp;omega),World.frozen?_alloc_old _ _ t (by simp;omega),World.frozen?_alloc_old _ _ t (by simp;omega),World.frozen?_alloc_old _ _ t (by simp;omega),World.frozen?_alloc_old _ _ t (Nat.ne_of_lt htl)];exact hf0)
 have tF:=rK_
 have aF:=mm_
 have nA:=noAs
 have hU:=pg_
 have mU:=kQ_
 go_enter Tryz.func54,Tryz.ntmps54
 go_wp2
 refine wp_loop_rounds 2 ?_
 rw [rounds_succ]
 go_wp2
 rw [rounds_succ]
 go_wp2
 go_ret
 exact ⟨rfl,rfl⟩
end Go.Vc
namespace Go.Vc
open Go Go.RowKit Go.Extern.Stop Go.Stop Go.Extern Go.Proofs
theorem tz_ (w:World) (o1 o2 o3 o4 o5 o6:Obj):Grow w ((((((w.alloc o1).alloc o2).alloc o3).alloc o4).alloc o5).alloc o6):=ch_ (s6_ w o1 o2 o3 o4 o5) o6
set_option maxHeartbeats 4000000 in
theorem nW_ (at_ n:Int) (w:World) (hg:w.cell? ⟨0,0,none⟩=some (.iface 258 (.agg #[.pointer (some ⟨2,27,none⟩)]))) :
  Calls Tryz.prog 14 #[.iface 213 (.agg #[.int .i64 at_,.iface 93 (.int .i64 n)])] w λev w'=>ev=.returned (.int .i64 n)∧Grow w w':=by
 have hlt:0<w.heap.size:=by
  rcases Nat.eq_zero_or_pos w.heap.size with h0 | h
  ·simp [World.cell?,h0] at hg
  ·exact h
 have hgA:(w.alloc (.cells #[.int .i64 0] 93)).cell? ⟨0,0,none⟩=some (.iface 258 (.agg #[.pointer (some ⟨2,27,none⟩)])):=by
  rw [World.cell?_alloc_lt _ _ ⟨0,0,none⟩ hlt];exact hg
 have htA:(w.alloc (.cells #[.int .i64 0] 93)).cell? ⟨w.heap.size,0,none⟩=some (.int .i64 0):=by simp
 have hfA:(w.alloc (.cells #[.int .i64 0] 93)).frozen? ⟨w.heap.size,0,none⟩=false:=by simp
 go_enter Tryz.func14,Tryz.ntmps14
 go_wp2_with (first | (go_at_call 54;refine (rc_ at_ n _ (.int .i64 0) _ hgA htA hfA).mono ?_;rintro e w' ⟨rfl,rfl⟩))
 go_ret
 refine ⟨by simp,tz_ _ _ _ _ _ _ _⟩
def ErrT (w:World):Prop:=w.cell? ⟨0,0,none⟩=some (.iface 258 (.agg #[.pointer (some ⟨2,27,none⟩)]))
theorem ii_ {n:Int} {w:World} {K:Value→World→Prop} (h:ErrT w) (h0 : -9223372036854775808≤n) (h1:n≤9223372036854775807) (hK:∀w',Grow w w'→K (.int .i64 n) w'):aa_ PR F.aT_ #[.iface T.ax_ (.int .i64 n)] w K:=
 en_ (nX_ n h0 h1 w h) λe w' ⟨he,g⟩=>⟨_,he,hK _ g⟩
theorem ih_ {a n:Int} {w:World} {K:Value→World→Prop} (h:ErrT w) (hK:∀w',Grow w w'→K (.int .i64 n) w'):aa_ PR F.aT_ #[.iface T.ib_ (.agg #[.int .i64 a,.iface T.ax_ (.int .i64 n)])] w K:=
 en_ (nW_ a n w h) λe w' ⟨he,g⟩=>⟨_,he,hK _ g⟩
end Go.Vc
namespace Go.Vc
open Go Go.ChangeShapes Go.WideShapes Go.ChangeAt Go.RowKit Go.Deep Go.Proofs Go.Proofs.YtkfelkaiknjlhaaGreatDoor
theorem gErr:PR.globalNamed "errors.errorType" = some 0:=by kernel_rfl
theorem rtN:(PR.cutTypes.find? (·.1 == "internal/reflectlite.rtype")).map (·.2)=some T.c4_:=by kernel_rfl
theorem tp_:PR.types.size=394:=by kernel_rfl
theorem sT_:((List.range 394).filter λt=>PR.rowNamed t [101,114,114,111,114])=[T.error]:=by kernel_rfl
theorem sb_ {W:World} (h:laidMetH PR [("errors.errorType", Rows.laid_errors_errorType)] W):ErrT W:=by
 obtain ⟨_,h2⟩:=laidMetH_iff.1 h
 obtain ⟨name,u,ty,e1,e2,e3,e4,e5⟩:=h2 ("errors.errorType", Rows.laid_errors_errorType) (by
  refine List.mem_filter.2 ⟨?_,rfl⟩
  exact .head _)
 have en:name=[101,114,114,111,114]:=(Option.some.inj e1).symm
 subst en
 obtain rfl:=Option.some.inj (rtN.symm.trans e2)
 have hm:ty∈(List.range 394).filter λt=>PR.rowNamed t [101,114,114,111,114]:=List.mem_filter.2 ⟨List.mem_range.2 (by rw [← tp_];exact e3),e4⟩
 rw [sT_] at hm
 obtain rfl:=List.mem_singleton.1 hm
 have hh:typeHandle PR T.error=.pointer (some ⟨2,T.error,none⟩):=by kernel_rfl
 rw [hh] at e5
 have:=World.var?_cell gErr e5 0
 unfold ErrT
 simpa using this
noncomputable def hH_ (os:Os):World:=
 let w0:=World.holding Tryz.prog os ⟨#[],#[],[]⟩
 let put (h:Array Obj) (g:Nat) (cs:Array Value):Array Obj:=h.modify g fun
  | .cells _ t frozen=>.cells cs t frozen
  | o=>o
 { w0 with heap:=put w0.heap 0 #[.iface T.c4_ (.agg #[.pointer (some ⟨2,T.error,none⟩)])] }
theorem qS_ (os:Os) (args:Array Value):laidMetH Tryz.prog [("errors.errorType", Rows.laid_errors_errorType)] ((hH_ os).forCall (λ_ _=>0) ⟨#[],args,[]⟩).memory:=
 laidMetH_of_parts (LaidIn.of_run (l:=[("errors.errorType", Rows.laid_errors_errorType)].filter λx=>x.2.handleName?.isNone) [] 8 (by kernel_rfl) (by kernel_rfl) (by kernel_rfl) (by kernel_rfl)).met (by kernel_rfl)
end Go.Vc
namespace Go.Vc
open Go
theorem gn_:∀(l:List UInt8) (i x y k:Nat),i≤7→x<128 ^ i→aD_ i x l=.inl (y,k)→y<72057594037927936∧k≤i+l.length
 | [],i,x,y,k,_,_,h=>by simp [aD_] at h
 | c :: r,i,x,y,k,hi,hx,h=>by
  have hm:c.toNat%128<128:=Nat.mod_lt _ (by decide)
  have hp:x+c.toNat%128*128 ^ i<128 ^ (i+1):=by
   have h1:c.toNat%128*128 ^ i≤127*128 ^ i:=Nat.mul_le_mul_right _ (by omega)
   rw [Nat.pow_succ];omega
  unfold aD_ at h
  split at h
  ·split at h
   ·cases h
   ·have:=gn_ r (i+1) _ y k (by omega) hp h
    rw [List.length_cons];omega
  ·split at h
   ·cases h
   ·cases h
    have:(128:Nat) ^ (i+1)≤128 ^ 8:=Nat.pow_le_pow_right (by decide) (by omega)
    have e:(128:Nat) ^ 8=72057594037927936:=by decide
    rw [List.length_cons];omega
theorem e2_:∀(l:List UInt8) (i x c:Nat),aD_ i x l=.inr c→c=3∨c=4
 | [],i,x,c,h=>by simp [aD_] at h;omega
 | b :: r,i,x,c,h=>by
  unfold aD_ at h
  split at h
  ·split at h
   ·cases h;exact .inr rfl
   ·exact e2_ r _ _ _ h
  ·split at h
   ·cases h;exact .inr rfl
   ·cases h
def shL (l:List UInt8) (a:Nat):(Nat × Nat) ⊕ Nat:=match aD_ 0 0 (l.drop a) with
 | .inl (x,k)=>.inl (x,a+k)
 | .inr c=>.inr c
def txL (l:List UInt8) (a:Nat):(List UInt8 × Nat) ⊕ Nat:=match shL l a with
 | .inr c=>.inr c
 | .inl (n,b)=>if n>l.length - b then .inr 3 else .inl ((l.drop b).take n,b+n)
theorem ot_ {l:List UInt8} {a x b:Nat} (ha:a≤l.length) (h:shL l a=.inl (x,b)):x<72057594037927936∧b≤l.length:=by
 unfold shL at h
 split at h
 ·rename_i y k hg
  cases h
  have:=gn_ _ 0 0 _ _ (by decide) (by decide) hg
  rw [List.length_drop] at this
  omega
 ·cases h
theorem sy_ {l t:List UInt8} {a b:Nat} (ha:a≤l.length) (h:txL l a=.inl (t,b)):b≤l.length:=by
 unfold txL at h
 split at h
 ·cases h
 ·rename_i n c hg
  have:=ot_ ha hg
  split at h
  ·cases h
  ·cases h;omega
abbrev RS:=Nat × Option Nat
def rsS (l:List UInt8) (s:RS):Nat × RS:=match s.2 with
 | some c=>(0,s)
 | none=>match shL l s.1 with
  | .inl (x,b)=>(x,(b,none))
  | .inr c=>(0,(s.1,some c))
def rsT (l:List UInt8) (s:RS):List UInt8 × RS:=match s.2 with
 | some c=>([],s)
 | none=>match txL l s.1 with
  | .inl (t,b)=>(t,(b,none))
  | .inr c=>([],(s.1,some c))
theorem mK_ {l:List UInt8} {s:RS} (h:s.1≤l.length):(rsS l s).1<72057594037927936∧(rsS l s).2.1≤l.length:=by
 unfold rsS
 split
 ·exact ⟨by simp,h⟩
 ·split
  ·rename_i hg;exact ot_ h hg
  ·exact ⟨by simp,h⟩
theorem rv_ {l:List UInt8} {s:RS} (h:s.1≤l.length):(rsT l s).2.1≤l.length:=by
 unfold rsT
 split
 ·exact h
 ·split
  ·rename_i hg;exact sy_ h hg
  ·exact h
def rsTs (l:List UInt8):Nat→RS→List (List UInt8) × RS
 | 0,s=>([],s)
 | k+1,s=>((rsTs l k s).1++[(rsT l (rsTs l k s).2).1],(rsT l (rsTs l k s).2).2)
theorem mJ_ (l:List UInt8):∀(k:Nat) (s:RS),(rsTs l k s).1.length=k
 | 0,s=>rfl
 | k+1,s=>by simp [rsTs,mJ_ l k s]
theorem ox_ {l:List UInt8} : ∀(k:Nat) {s:RS},s.1≤l.length→(rsTs l k s).2.1≤l.length
 | 0,s,h=>h
 | k+1,s,h=>rv_ (ox_ k h)
structure MsgL where
 kind:Int
 ver:Int
 i:Int
 text:List UInt8
 proof:List (List UInt8)
def iR_ (k v i:Int) (t n:Nat):Bool:=
 if k=1 then decide (v=0∧i=0∧n=0) else
 if k=3 then decide (v≠0∧t≤64) else
 if k=2∨k=4 then decide (v≠0∧t=0∧n=0) else
 if k=10 then decide (t=0∧n=0) else
 if k=5∨k=6∨k=7∨k=8∨k=9 then decide (v≠0∧i=0∧t=0∧n=0) else
 if k=11 then decide (i=0∧t=0∧n=0) else false
def fs_ (m:MsgL):Prop:=(0≤m.ver∧m.ver≤1099511627776)∧(0≤m.i∧m.i≤1099511627776)∧m.text.length≤5000∧m.proof.length≤20∧(∀p∈m.proof,p.length=32)∧iR_ m.kind m.ver m.i m.text.length m.proof.length=true
def l1_ (l:List UInt8):Nat:=
 if l.length<6 then 3 else
 if fixed ((l.drop 4).take 2)>60000 then 6 else
 if fixed ((l.drop 4).take 2)>l.length - 6 then 3 else 5
def gI_ (S:List UInt8→Nat) (l:List UInt8):List UInt8 ⊕ Nat:=match is_ S l with
 | none=>.inr (l1_ l)
 | some (t,n)=>if n<l.length then .inr 4 else .inl t
def rs0 (l:List UInt8):RS:=if l=[] then (0,some 3) else (1,none)
def kW_ (l:List UInt8):Int:=((l.headD 0).toNat:Int)
open Classical in
noncomputable def hP_ (l:List UInt8):MsgL ⊕ Nat:=
 let v:=rsS l (rs0 l)
 let i:=rsS l v.2
 let t:=rsT l i.2
 let n:=rsS l t.2
 if n.1>20 then .inr 4 else
 let p:=rsTs l n.1 n.2
 match p.2.2 with
 | some c=>.inr c
 | none=>if p.2.1<l.length then .inr 4 else
  if fs_ ⟨kW_ l,v.1,i.1,t.1,p.1⟩ then .inl ⟨kW_ l,v.1,i.1,t.1,p.1⟩ else .inr 4
noncomputable def cJ_ (S:List UInt8→Nat) (l:List UInt8):MsgL ⊕ Nat:=match gI_ S l with
 | .inr c=>.inr c
 | .inl t=>hP_ t
def a7_ (m:MsgL):List UInt8:=[UInt8.ofNat m.kind.toNat]++ae_ m.ver.toNat++ae_ m.i.toNat++(ae_ m.text.length++m.text)++ae_ m.proof.length++m.proof.flatMap λp=>ae_ p.length++p
end Go.Vc
namespace Go.Vc
open Go
theorem gf_ {s:ByteArray} {at_:Int} {k:Nat} (hk:1≤k∧k≤6) (ha:0≤at_) (hb:at_+k≤s.size) (hs:s.size≤4611686018427387904) {w:World} {K:Value→World→Prop}
  (hK:K (.tuple #[.int .i64 (fixed ((s.data.toList.drop at_.toNat).take k)),.int .i64 (at_+k),.nilIface]) w):aa_ PR F.cr_ ⟨[.string s,.int .i64 at_,.int .i64 (k:Int)]⟩ w K:=by
 have h0:Fs S0 w [] w:=Fr.init _ w
 refine cr_ s at_ k S0 K w (fI_ (λ_=>⟨true,rfl,(λ_=>⟨h0,λh=>by omega,λ_=>⟨λh=>by omega,λ_=>⟨λh=>?_,λ_=>?_⟩⟩⟩),λh=>by cases h⟩) λh=>absurd ⟨ha,by omega⟩ h)
 ·rw [w64 (by omega) (by omega)] at h;omega
 ·refine ⟨λn0 n1 m w'=>∃j:Nat,n1=j∧j≤k∧m=k - j∧n0=fixed ((s.data.toList.drop at_.toNat).take j)∧w'=w,⟨_,0,rfl,by omega,rfl,rfl,rfl⟩,?_⟩
  rintro n0 n1 D m w4 ⟨j,rfl,hj,rfl,rfl,rfl⟩ hF4
  refine ⟨λhlt=>?_,λhge=>?_⟩
  ·have hj':j<k:=by omega
   have e8:IntKind.wrap .i64 ((8:Int)*(j:Int))=((8*j:Nat):Int):=by rw [w64 (by omega) (by omega)];omega
   have ea:IntKind.wrap .i64 (at_+(j:Int))=at_+j:=w64 (by omega) (by omega)
   have hbl:=le_ s (at_+j).toNat
   have hby:IntKind.wrap .i64 ((aC_ s (at_+(j:Int)).toNat:Nat):Int)=(aC_ s (at_+j).toNat:Nat):=w64 (by omega) (by omega)
   have hmin:Min.min (Int.toNat ((8*j:Nat):Int)) 64=8*j:=by rw [Int.toNat_natCast];omega
   rw [ea,e8,hby,hmin]
   have hlen:((s.data.toList.drop at_.toNat).take j).length=j:=by
    rw [List.length_take,List.length_drop,cI_];omega
   have hfl:=mY_ ((s.data.toList.drop at_.toNat).take j)
   rw [hlen] at hfl
   have h256:(256:Nat) ^ j=2 ^ (8*j):=by rw [Nat.pow_mul]
   have hp:(2:Nat) ^ (8*j)≤2 ^ 40:=Nat.pow_le_pow_right (by decide) (by omega)
   have hnext:(s.data.toList.drop at_.toNat).take (j+1)=(s.data.toList.drop at_.toNat).take j++[UInt8.ofNat (aC_ s (at_+j).toNat)]:=by
    rw [List.take_add_one]
    congr 1
    rw [List.getElem?_drop]
    have:=h6_ (s:=s) (i:=(at_+j).toNat) (by omega)
    rw [show at_.toNat+j=(at_+j).toNat by omega,this];rfl
   refine ⟨by omega,by omega,by omega,k - (j+1),by omega,j+1,by rw [w64 (by omega) (by omega)];rfl,by omega,rfl,?_,rfl⟩
   have hp':((2 ^ (8*j):Nat):Int)=(2:Int) ^ (8*j):=by simp
   have h40:(2:Nat) ^ 40=1099511627776:=by decide
   have hm:(aC_ s (at_+j).toNat)*2 ^ (8*j)≤255*2 ^ 40:=Nat.mul_le_mul (by omega) hp
   have hmc:((aC_ s (at_+j).toNat:Nat):Int)*(2:Int) ^ (8*j)=((aC_ s (at_+j).toNat*2 ^ (8*j):Nat):Int):=by rw [← hp'];simp
   have hlt2:((fixed ((s.data.toList.drop at_.toNat).take j):Nat):Int)<(2:Int) ^ (8*j):=by rw [← hp'];rw [h256] at hfl;exact Int.ofNat_lt.2 hfl
   have hroom:((aC_ s (at_+j).toNat:Nat):Int)*(2:Int) ^ (8*j)+(2:Int) ^ (8*j)≤9223372036854775808:=by rw [hmc,← hp'];omega
   rw [ry_ (by omega) hlt2 (by omega) hroom,hnext,nA_,hlen,h256]
   have:(UInt8.ofNat (aC_ s (at_+j).toNat)).toNat=aC_ s (at_+j).toNat:=UInt8.toNat_ofNat_of_lt (by have:UInt8.size=256:=rfl;omega)
   rw [this,← hp'];simp
  ·have:j=k:=by omega
   subst this
   rw [w64 (by omega) (by omega)]
   exact hK
end Go.Vc
namespace Go.Vc
open Go
theorem qF_ {S:List UInt8→Nat} {l t:List UInt8} {n:Nat} (h:is_ S l=some (t,n)):n≤l.length∧6≤n∧t.length+6=n∧t.length≤60000:=by
 unfold is_ at h
 split at h
 ·cases h
 ·split at h
  ·cases h
  ·split at h
   ·cases h
   ·split at h
    ·cases h
    ·rename_i h1 h2 h3 _
     simp only [Option.some.injEq,Prod.mk.injEq] at h
     obtain ⟨rfl,rfl⟩:=h
     rw [List.length_take,List.length_drop]
     omega
end Go.Vc
namespace Go.Vc
open Go
theorem el_ {w:World} {b:Nat} {m:Int} {c:Nat} (hb:w.heap[b]? = some (.cells #[.int .i64 m] T.int (0,0))) {K:Value→World→Prop} (hK:∀w' e,Grow w w'→isEC c e→K (.tuple #[.string ⟨#[]⟩,.int .i64 m,e]) w'):aa_ PR F.k5_ ⟨[.iface T.ax_ (.int .i64 c),.pointer (some ⟨b,0,none⟩)]⟩ w K:=
 i6_ _ b m S0 K w ((Fr.init _ w).entry hb (λx h=>by cases h) λh=>by cases h) ⟨rfl,λw1 hF1=>hK w1 _ hF1.grow (.inr ⟨_,rfl⟩)⟩
theorem pZ_ {l:List UInt8} {at_:Nat} (hl:l.length≤1099511627776) (ha:at_≤l.length) {w:World} {K:Value→World→Prop}
  (h1:∀w' e,Grow w w'→isEC (l1_ (l.drop at_)) e→is_ crcN (l.drop at_)=none→K (.tuple #[.string ⟨#[]⟩,.int .i64 at_,e]) w')
  (h2:∀w' t n,Grow w w'→is_ crcN (l.drop at_)=some (t,n)→K (.tuple #[.string (str t),.int .i64 ((at_+n:Nat):Int),.nilIface]) w'):aa_ PR F.dd_ ⟨[.string (str l),.int .i64 (at_:Int)]⟩ w K:=by
 have hsz:=af_ l
 have hdl:(l.drop at_).length=l.length - at_:=List.length_drop
 refine dd_ (str l) at_ S0 K w λb hb=>⟨λh=>by omega,λ_=>⟨λh=>by rw [hsz] at h;omega,λ_=>⟨λh w6 hF6=>?_,λhge w6 hF6=>?_⟩⟩⟩
 ·rw [hsz,w64 (by omega) (by omega)] at h
  refine el_ (c:=3) (hF6.blk 0 rfl) λw7 e g7 he=>⟨_,_,_,rfl,hF6.after g7,h1 w7 e (hF6.grow.trans g7) ?_ ?_⟩
  ·unfold l1_;rw [if_pos (by omega)];exact he
  ·unfold is_;rw [if_pos (by omega)]
 rw [hsz,w64 (by omega) (by omega)] at hge
 refine gf_ (k:=4) (by decide) (by omega) (by rw [hsz];omega) (by rw [hsz];omega) ⟨_,_,_,rfl,hF6.reset,?_⟩
 refine gf_ (k:=2) (by decide) (by omega) (by rw [hsz];omega) (by rw [hsz];omega) ⟨_,_,_,rfl,hF6.reset,?_⟩
 have f4:is_ crcN (l.drop at_)=if fixed ((l.drop (at_+4)).take 2)>60000 then none else
   if fixed ((l.drop (at_+4)).take 2)>l.length - at_ - 6 then none else
   if crcN ((l.drop (at_+4)).take (2+fixed ((l.drop (at_+4)).take 2)))≠fixed ((l.drop at_).take 4) then none else
   some ((l.drop (at_+6)).take (fixed ((l.drop (at_+4)).take 2)),6+fixed ((l.drop (at_+4)).take 2)):=by
  unfold is_
  rw [if_neg (by omega),List.drop_drop,List.drop_drop,hdl]
 rw [bd_,Int.toNat_natCast,show Int.toNat ((at_:Int)+(4:Nat))=at_+4 by omega]
 have fE:l1_ (l.drop at_)=if fixed ((l.drop (at_+4)).take 2)>60000 then 6 else if fixed ((l.drop (at_+4)).take 2)>l.length - at_ - 6 then 3 else 5:=by
  unfold l1_
  rw [if_neg (by omega),List.drop_drop,hdl]
 generalize hn:fixed ((l.drop (at_+4)).take 2)=n at f4 fE ⊢
 have hgr:∀ {w':World},Grow w6 w'→Grow w w':=λg=>hF6.grow.trans g
 refine ⟨λh=>?_,λhle=>⟨λh=>?_,λhfit=>?_⟩⟩
 ·refine el_ (c:=6) (hF6.blk 0 rfl) λw7 e g7 he=>⟨_,_,_,rfl,hF6.after g7,h1 w7 e (hgr g7) (by rw [fE,if_pos (by omega)];exact he) ?_⟩
  rw [f4,if_pos (by omega)]
 ·rw [hsz,w64 (by omega) (by omega)] at h
  refine el_ (c:=3) (hF6.blk 0 rfl) λw7 e g7 he=>⟨_,_,_,rfl,hF6.after g7,h1 w7 e (hgr g7) (by rw [fE,if_neg (by omega),if_pos (by omega)];exact he) ?_⟩
  rw [f4,if_neg (by omega),if_pos (by omega)]
 rw [hsz,w64 (by omega) (by omega)] at hfit
 rw [hsz,w64 (n:=(at_:Int)+(4:Nat)+(2:Nat)+(n:Nat)) (by omega) (by omega)]
 have e1:Int.toNat ((at_:Int)+(4:Nat)+(2:Nat)+(n:Nat))=at_+6+n:=by omega
 have ex1:ByteArray.extract (str l) (at_+4) (at_+6+n)=str ((l.drop (at_+4)).take (2+n)):=by
  rw [ds_];congr 2;omega
 have ex2:ByteArray.extract (str l) (Int.toNat ((at_:Int)+(4:Nat)+(2:Nat))) (at_+6+n)=str ((l.drop (at_+6)).take n):=by
  rw [ds_,show Int.toNat ((at_:Int)+(4:Nat)+(2:Nat))=at_+6 by omega];congr 2;omega
 rw [e1]
 refine ⟨by omega,by omega,by omega,by omega,λl1 hl1 w11 hF11=>?_⟩
 rw [ex1] at hF11 ⊢
 refine nb_ (xs:=[(l.drop (at_+4)).take (2+n)]) (hF11.sl 1 rfl) rfl (by simp) (λx hx=>by simp at hx;subst hx;rw [List.length_take,List.length_drop];omega) λw12 g12=>?_
 have hF12:=hF11.after g12
 have g02:Grow w w12:=hgr (hF11.grow.trans g12)
 refine ⟨_,rfl,hF11.reset.after g12,λheq=>⟨by omega,by omega,by omega,by omega,?_⟩,λhne=>?_⟩
 ·rw [ex2]
  have:=h2 w12 _ _ g02 (by rw [f4,if_neg (by omega),if_neg (by omega),if_neg (by simp at heq;simp;omega)])
  rw [show ((at_+(6+n):Nat):Int)=(at_:Int)+(4:Nat)+(2:Nat)+(n:Nat) by omega] at this
  exact this
 ·refine el_ (c:=5) (hF12.blk 0 rfl) λw13 e g13 he=>⟨_,_,_,rfl,hF11.reset.after (g12.trans g13),h1 w13 e (g02.trans g13) (by rw [fE,if_neg (by omega),if_neg (by omega)];exact he) ?_⟩
  rw [f4,if_neg (by omega),if_neg (by omega),if_pos (by simp at hne;omega)]
end Go.Vc
namespace Go.Vc
open Go
end Go.Vc
namespace Go.Vc
open Go
end Go.Vc
namespace Go.Vc
open Go
section
variable {S:Nat→Prop} {w0 wp w:World} {M:List Nat} {L:List Blk}
theorem Fr.it_ (h:Fr S w0 wp M L w) (j:Nat) {b:Nat} {cs cs':Array Value} {T:TypeId} (hj:L[j]? = some ⟨b,cs,T,true⟩) (L':List Blk) (hL:L'=L.set j ⟨b,cs',T,true⟩) {w':World} (g:Chg (· = b) w w') (hb:w'.heap[b]? = some (.cells cs' T (0,0))):Fs S w0 L' w':=by
 subst hL
 have hm:=List.mem_of_getElem? hj
 refine ⟨h.chg.trans g λk hk e=>?_,.refl _ _,λy hy=>?_,?_,λy hy hwy=>?_⟩
 ·have e':k=b:=e
  subst e'
  rcases h.new _ hm rfl with h1 | h1
  ·exact h1
  ·simp only [] at h1;omega
 ·rcases hh_ hy with rfl | ⟨i',hi',he⟩
  ·exact hb
  ·refine g.get (h.loc y (List.mem_of_getElem? he)) λe=>?_
   have e':y.b=b:=e
   have h1:(L.map (·.b))[i']? = some y.b:=by simp [he]
   have h2:(L.map (·.b))[j]? = some b:=by simp [hj]
   rw [e'] at h1
   have hl1:i'<(L.map (·.b)).length:=(List.getElem?_eq_some_iff.1 h1).1
   exact hi' ((List.getElem?_inj hl1 h.nodup).1 (h1.trans h2.symm))
 ·have:(L.set j ⟨b,cs',T,true⟩).map (·.b)=L.map (·.b):=by
   rw [List.map_set]
   apply List.ext_getElem?
   intro n
   rw [List.getElem?_set]
   split
   ·rename_i e;subst e
    simp [hj]
    exact (List.getElem?_eq_some_iff.1 hj).1
   ·rfl
  rw [this];exact h.nodup
 ·rcases hh_ hy with rfl | ⟨i',hi',he⟩
  ·have:=h.new _ hm rfl
   exact this
  ·exact h.new y (List.mem_of_getElem? he) hwy
end
end Go.Vc
