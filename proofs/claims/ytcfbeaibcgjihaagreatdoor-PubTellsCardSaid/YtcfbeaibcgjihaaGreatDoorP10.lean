/-
  A part of the proof of the statement PubTellsCardSaid, in Lean: Pb2, Pb3, Rdn, RoG, Ns, As1, As2, As3, As4, As5, As6, RoE, Ms1, Msd, MirP15, Rd1, Rd2, MirH1, Pr1. By an AI agent.
-/
import Derived.Test.YtcfbeaibcgjihaaGreatDoorP09
import Derived.OpenShut
import Derived.KernelRfl
import Derived.WalkKit
import Derived.ProofKit
import Derived.Below
import Derived.ChangeSame
import Derived.Carry
import Derived.Deep.SlicePairs
import Derived.Deep.Grids
import Derived.ChangeArms
import Derived.WideShapes
import Derived.Test.YtcfbeaibcgjihaaGreatDoorP04
import Derived.MapKept
import Derived.WideKeyMaps
import Derived.WideKeyRuns
import Derived.Test.YtcfbeaibcgjihaaGreatDoorP07
import Derived.LaidEql
import Derived.Stop.Asserts
import Derived.RowKitTokens
import Derived.Test.YtcfbeaibcgjihaaGreatDoorCards
import Derived.Test.YtcfbeaibcgjihaaGreatDoorTie
import Derived.LaidSub
import Derived.LaidLaws
import Derived.LaidHandle
import Derived.Stop.LaidErr
import Derived.Deep.DeepHandedRow
import Derived.Deep.DeepWitnessRowRef
import Derived.Lib.LaidTab
import Derived.Lib.LaidIn
import Derived.Test.YtcfbeaibcgjihaaGreatDoorP02
import Derived.Test.YtcfbeaibcgjihaaGreatDoorP06
set_option linter.unusedSimpArgs false
set_option linter.unusedVariables false
set_option maxRecDepth 1000000
namespace Go.Vc
open Go Go.MapKept
structure PubS where
 p:Nat
 bj:Nat
 bd:Nat
 m:Nat
 each:Nat
 q:Option Addr
 c:Nat
 last:Nat
 com:Nat
 recs:List (List UInt8)
 R:Value→Value→Prop
 man:Nat→Man
 ex:Nat→Prop
def PubS.reg (x:PubS):Nat→Prop:=λk=>k=x.p∨k=x.m∨jrnS x.bj x.bd x.q k
def PubS.dom (x:PubS):Nat→Prop:=λk=>x.reg k∨x.ex k
def PubS.room (x:PubS):Nat:=200000 - (logL x.recs).length
def KeptAt (D:Nat→Prop) (w:World) (recs:List (List UInt8)) (last:Nat) (man:Nat→Man) (k v:Value):Prop:=
 ∃(i b c:Nat) (mn:Man) (list:List (List UInt8)),1≤i∧i≤last∧k=.int .i64 (i:Int)∧v=.agg #[.pointer (some ⟨b,0,none⟩),.pointer (some ⟨c,0,none⟩)]∧VerO D w b mn list∧VerL mn list∧mn.version=i∧mn=man i∧TreeO D w c list∧recV mn list∈recs
structure PubAt (N:Nat) (w:World) (x:PubS):Prop where
 blk:w.heap[x.p]? = some (.cells (pubC x.bj x.each x.last x.com x.m) T.pub_Pub (0,0))
 jrn:JrnAt w x.bj x.bd x.q x.c x.recs
 map:∃n,MapP w T.int x.m n x.R
 kept:∀k v,x.R k v→KeptAt x.dom w x.recs x.last x.man k v
 has:∀i:Nat,1≤i→i≤x.last→x.last<i+3∨i=x.com→∃v,x.R (.int .i64 (i:Int)) v
 com_le:x.com≤x.last
 last_le:x.last≤x.recs.length
 room:(logL x.recs).length≤200000
 each1:1≤x.each
 each2:x.each≤4096
 lo:∀k,x.reg k→N≤k
 exlt:∀k,x.ex k→k<w.heap.size
 only:∀(i:Nat) v,x.R (.int .i64 (i:Int)) v→x.last<i+3∨i=x.com
 rep:Rep x.recs x.last x.com x.man
theorem KeptAt.keep {D D' S:Nat→Prop} {w w':World} {recs recs':List (List UInt8)} {last last':Nat} {man:Nat→Man} {k v:Value} (h:KeptAt D w recs last man k v) (g:Chg S w w') (hS:∀k,k<w.heap.size→S k→D k) (hD:∀k,k<w.heap.size→D' k→D k) (hl:last≤last') (hr:∀r∈recs,r∈recs'):KeptAt D' w' recs' last' man k v:=by
 obtain ⟨i,b,c,mn,list,h1,h2,h3,h4,h5,h6,h7,h8,h9,h10⟩:=h
 exact ⟨i,b,c,mn,list,h1,by omega,h3,h4,h5.keep g hS hD,h6,h7,h8,h9.keep g hS hD,hr _ h10⟩
theorem PubAt.lt {N:Nat} {w:World} {x:PubS} (h:PubAt N w x):∀k,x.reg k→k<w.heap.size:=by
 rintro k (rfl | rfl | hk)
 ·exact heap_lt h.blk
 ·obtain ⟨n,hm⟩:=h.map;exact hm.lt
 ·exact h.jrn.lt k hk
theorem PubAt.keep {S:Nat→Prop} {N:Nat} {w w':World} {x:PubS} (h:PubAt N w x) (g:Chg S w w') (hS:∀k,k<w.heap.size→¬S k):PubAt N w' x:=by
 have g':Grow w w':=g.mono λi hi hs=>hS i hi hs
 obtain ⟨n,hm⟩:=h.map
 exact ⟨Grow.get g' h.blk,h.jrn.grow g',⟨n,hm.grow g'⟩,λk v hr=>(h.kept k v hr).keep g' (λ_ _ e=>e.elim) (λ_ _ e=>e) (Nat.le_refl _) (λ_ h=>h),h.has,h.com_le,h.last_le,h.room,h.each1,h.each2,h.lo,λk hk=>Nat.lt_of_lt_of_le (h.exlt k hk) g.size,h.only,h.rep⟩
theorem PubAt.grow {N:Nat} {w w':World} {x:PubS} (h:PubAt N w x) (g:Grow w w'):PubAt N w' x:=h.keep g λ_ _ e=>e
theorem sealL_pos (f:List UInt8→Nat) (s:List UInt8):s.length+1≤(sealL f s).length:=by rw [sealL_len];omega
theorem logL_ge (recs:List (List UInt8)):recs.length≤(logL recs).length:=by
 induction recs with
 | nil=>simp [logL]
 | cons a l ih=>
  have h1:=sealL_pos crcN a
  have e:logL (a :: l)=sealL crcN a++logL l:=rfl
  rw [e,List.length_append,List.length_cons];omega
theorem PubAt.shown {N:Nat} {w:World} {x:PubS} (h:PubAt N w x):shownR x.R:=by
 intro k v hr
 obtain ⟨i,b,c,mn,list,h1,h2,h3,h4,_⟩:=h.kept k v hr
 have:=h.last_le
 have:=h.room
 have:=logL_ge x.recs
 exact ⟨i,b,c,by omega,h3,h4⟩
theorem PubAt.small {N:Nat} {w:World} {x:PubS} (h:PubAt N w x):x.last≤200000∧x.com≤200000∧x.recs.length≤200000:=by
 have:=h.last_le
 have:=h.room
 have:=logL_ge x.recs
 have:=h.com_le
 omega
theorem Last_spec {N:Nat} {w:World} {x:PubS} (h:PubAt N w x) {K:Value→World→Prop} (hK:K (.int .i64 x.last) w):CallV PR F.p_pub_Pub_Last ⟨[.pointer (some ⟨x.p,0,none⟩)]⟩ w K:=
 pub_Pub_Last x.p (some ⟨x.bj,0,none⟩) x.each x.last x.com (some x.m) (· = x.p) K w ((Fr.init _ w).entry h.blk (λx h=>by cases h) λ_=>rfl) ⟨rfl,trivial⟩ hK
theorem Committed_spec {N:Nat} {w:World} {x:PubS} (h:PubAt N w x) {K:Value→World→Prop} (hK:K (.int .i64 x.com) w):CallV PR F.p_pub_Pub_Committed ⟨[.pointer (some ⟨x.p,0,none⟩)]⟩ w K:=
 pub_Pub_Committed x.p (some ⟨x.bj,0,none⟩) x.each x.last x.com (some x.m) (· = x.p) K w ((Fr.init _ w).entry h.blk (λx h=>by cases h) λ_=>rfl) ⟨rfl,trivial⟩ hK
theorem Open0_spec {N:Nat} {w:World} {bd each:Nat} (hd:DskAt w bd ⟨#[]⟩) (hN:N≤bd) (hN2:N≤w.heap.size) (he:1≤each) (he2:each≤4096) {K:Value→World→Prop}
  (hK:∀w' x,Grow w w'→PubAt N w' x→x.bd=bd→x.each=each→x.last=0→x.com=0→x.recs=[]→w.heap.size≤x.p→(NoF w bd→NoF w' x.bd)→K (.tuple #[.pointer (some ⟨x.p,0,none⟩),.nilIface]) w'):CallV PR F.pub_Open ⟨[.pointer (some ⟨bd,0,none⟩),.int .i64 each]⟩ w K:=by
 have hf:∀ {w':World},Grow w w'→Fs S0 w [] w':=λg=>(Fr.init _ w).after g
 refine pub_Open' (some ⟨bd,0,none⟩) each S0 K w ⟨λh=>by omega,λ_=>⟨λh=>by omega,λ_=>?_⟩⟩
 refine JOpen0_spec hd λw1 bj g1 hbj hj=>⟨_,_,rfl,hf g1,λ_=>?_,(λt x h=>by cases h),.inl rfl⟩
 refine make_rn (k:=T.int) λw2 m hme hm g2=>⟨_,rfl,hf (g1.trans g2),λp hp w3 hF3=>?_⟩
 have g3:Grow w2 w3:=hF3.grow
 have hj3:=(hj.grow g2).grow g3
 refine JAll_spec hj3 (by simp) λw4 q' c' g4 _=>⟨_,_,_,rfl,hF3.after g4,?_⟩
 have hF4:=hF3.after g4
 refine ⟨λi q n1 n2 n3 q4 l w'=>i=0∧q=some ⟨bj,0,none⟩∧n1=each∧n2=0∧n3=0∧q4=some m∧w'=w4,⟨0,rfl,rfl,rfl,rfl,rfl,rfl,rfl⟩,?_⟩
 rintro i q n1 n2 n3 q4 D l w5 ⟨rfl,rfl,rfl,rfl,rfl,rfl,rfl⟩ hF5
 refine ⟨λh=>by simp at h,λ_=>?_⟩
 have s1:=g1.size
 have s2:=g2.size
 have hml:=hm.lt
 have gg:Grow w w5:=((g1.trans g2).trans g3).trans g4
 refine hK w5 ⟨p,bj,bd,m,each,none,0,0,0,[],(λ_ _=>False),(λ_=>⟨0,0,0,[],0,[]⟩),λ_=>False⟩ gg ⟨hF4.blk 0 rfl,hj3.grow g4,⟨0,(hm.grow g3).grow g4⟩,λk v h=>h.elim,λi h1 h2 _=>absurd (Nat.le_trans h1 h2) (by simp),Nat.le_refl _,Nat.le_refl _,by simp [logL],he,he2,?_,λk hk=>hk.elim,λi v h=>h.elim,Rep.nil⟩ rfl rfl rfl rfl rfl (by simp only [];omega) (λhn=>hn.keep gg λe=>e)
 rintro k (rfl | rfl | rfl | rfl | ⟨a,ha,_⟩)
 ·omega
 ·omega
 ·omega
 ·exact hN
 ·cases ha
end Go.Vc
namespace Go.Vc
open Go Go.MapKept
theorem sum_le_len (l:List (List UInt8)) (k:Nat) (h:∀x∈l,x.length≤k):l.flatten.length≤k*l.length:=by
 induction l with
 | nil=>simp
 | cons a l ih=>
  have h1:=ih λx hx=>h x (List.mem_cons_of_mem _ hx)
  have h2:=h a List.mem_cons_self
  rw [List.flatten_cons,List.length_append,List.length_cons,Nat.mul_add];omega
theorem putText1 (s:List UInt8):putTextL [s]=putShort s.length++s:=by simp [putTextL]
theorem str86:(⟨#[86]⟩:ByteArray)=str [86]:=rfl
theorem str67:(⟨#[67]⟩:ByteArray)=str [67]:=rfl
theorem putShort_le (n:Nat) (h:n≤72057594037927935):(putShort n).length≤8:=by
 have:=shorts_len (l:=[(n:Int)]) (by simp;omega)
 simpa [shorts] using this
theorem only_of {last com i:Nat} (h:¬delP last com (.int .i64 (i:Int))):last<i+3∨i=com:=by
 by_cases h1:last<i+3
 ·exact .inl h1
 ·by_cases h2:i=com
  ·exact .inr h2
  ·exact absurd ⟨i,rfl,by omega,by omega⟩ h
def snug (x:PubS) (nodes:Int) (l:List (Int × Int)):Prop:=roomy nodes x.each l∧2700+9*nodes+8*l.length≤60000∧2700+9*nodes+8*l.length≤x.room
def PubOk (x:PubS) (nodes:Int) (l:List (Int × Int)) (mn:Man) (list:List (List UInt8)):Prop:=
 goodG nodes l∧nodes≤64*(x.each:Int)∧MakeR ((x.last+1:Nat):Int) nodes x.each l mn list∧list.length≤2048∧(recV mn list).length≤60000∧(recV mn list).length+6≤x.room
def PubErr (x:PubS) (nodes:Int) (l:List (Int × Int)) (c:Int):Prop:=
 MakeE nodes x.each l c∨(c=7∧∃mn list,goodG nodes l∧nodes≤64*(x.each:Int)∧MakeR ((x.last+1:Nat):Int) nodes x.each l mn list∧¬((recV mn list).length≤60000∧(recV mn list).length+6≤x.room))
theorem jrn_next {w w':World} {x:PubS} {q':Option Addr} (hq:∀a,q'=some a→x.q=some a∨w.heap.size≤a.block):∀k,(k=x.p∨k=x.m∨jrnS x.bj x.bd q' k)→x.reg k∨w.heap.size≤k:=by
 rintro k (rfl | rfl | rfl | rfl | ⟨a,ha,rfl⟩)
 ·exact .inl (.inl rfl)
 ·exact .inl (.inr (.inl rfl))
 ·exact .inl (.inr (.inr (.inl rfl)))
 ·exact .inl (.inr (.inr (.inr (.inl rfl))))
 ·rcases hq a ha with h | h
  ·exact .inl (.inr (.inr (.inr (.inr ⟨a,h,rfl⟩))))
  ·exact .inr h
theorem Publish_full {N:Nat} {w:World} {x:PubS} (h:PubAt N w x) (hN:N≤w.heap.size) {nodes:Int} {l:List (Int × Int)} {y:Option Addr} {n cy:Nat} (hs:Sl w y (encE l)) (hl:n=l.length) (hn:n≤100000) {K:Value→World→Prop}
  (h1:∀w' x' mn list,PubOk x nodes l mn list→x'.recs=x.recs++[recV mn list]→(x'.man=λi=>if i=x.last+1 then mn else x.man i)→PubAt N w' x'→Chg x.reg w w'→x'.p=x.p→x'.bd=x.bd→x'.each=x.each→x'.last=x.last+1→x'.com=x.com→x'.room<x.room→(x.room:Int)≤x'.room+2700+9*nodes+8*l.length→x'.ex=x.ex→(∀k,x'.reg k→x.reg k∨w.heap.size≤k)→goodG nodes l→(NoF w x.bd→NoF w' x.bd)→K (.tuple #[.int .i64 x'.last,.nilIface]) w')
  (hE:∀w' n,¬NoF w x.bd→Burnt n w' x.bd→w.heap.size≤n→Chg x.reg w w'→K (.tuple #[.int .i64 0,.iface T.api_Errno (.int .i64 8)]) w')
  (h2:∀w' v c,Grow w w'→PubAt N w' x→isEC c v→PubErr x nodes l c→¬snug x nodes l→K (.tuple #[.int .i64 0,v]) w') :
  CallV PR F.p_pub_Pub_Publish ⟨[.pointer (some ⟨x.p,0,none⟩),.int .i64 nodes,.slice y n cy]⟩ w K:=by
 obtain ⟨hsl,hsc,hsr⟩:=h.small
 have hlt:=h.lt
 have h0:Fs x.reg w [⟨x.p,pubC x.bj x.each x.last x.com x.m,T.pub_Pub,true⟩] w:=(Fr.init _ w).entry h.blk (λx h=>by cases h) λ_=>.inl rfl
 refine pub_Pub_Publish x.p (some ⟨x.bj,0,none⟩) x.each x.last x.com (some x.m) nodes y n cy x.reg K w h0 ⟨.inl rfl,trivial⟩ λw0 hF0=>?_
 have g0:Grow w w0:=hF0.grow
 refine ⟨λ_=>True,trivial,?_⟩
 have e1:IntKind.wrap .i64 ((x.last:Int)+1)=((x.last+1:Nat):Int):=by rw [w64 (by omega) (by omega)];omega
 rw [e1]
 refine Make_full (version:=((x.last+1:Nat):Int)) h.each1 h.each2 (hs.grow g0) hl hn (λw1 b mn list g1 hbl hv hL hmv hfl hgg h64 hmk hl2=>?_) (by omega) λw1 v cc g1 hv hme hbad=>?_
 ·have g01:=g0.trans g1
  have hF1:=hF0.reset.after g1
  refine ⟨_,_,rfl,hF1,trivial,λ_=>?_,(λt x h=>by cases h),.inl rfl⟩
  have hv1:VerO x.dom w1 b mn list:=hv.keep (.refl (λ_=>False) _) (λ_ _ e=>e.elim) λk _ e=>by
   have:=g0.size
   rcases e with e | e
   ·have:=hlt k e;omega
   ·have:=h.exlt k e;omega
  obtain ⟨qm,cm,ql,cl,hb1,hb0,hq1,hq2,hlc⟩:=id hv1
  have hcell:∀ {w':World},Grow w1 w'→∀k v,(verC mn qm cm list ql cl)[k]? = some v→w'.cell? ⟨b,k,none⟩=some v:=λg k v hv=>by
   rw [cell_blk (Grow.get g hb1)];exact hv
  have hmn:=putMan_len hL.ok
  have hbl2:=hL.ok.blocks.2
  have hbe:=hL.blocks
  have hps:(putShort (putMan mn).length).length≤8:=putShort_le _ (by omega)
  have hfl2:list.flatten.length≤200000:=by
   have:=sum_le_len list 64 hL.small
   omega
  refine Dr_some.2 (Dr_some.2 (Dr_some.2 ⟨mn.version,by rw [add_mk,add_mk];exact hcell (.refl _ _) 0 _ rfl,mn.nodes,by rw [add_mk,add_mk];exact hcell (.refl _ _) 1 _ rfl,mn.edges,by rw [add_mk,add_mk];exact hcell (.refl _ _) 2 _ rfl,qm,mn.shards.length,cm,by rw [add_mk,add_mk];exact hcell (.refl _ _) 3 _ rfl,mn.blocks,by rw [add_mk,add_mk];exact hcell (.refl _ _) 4 _ rfl,str mn.root,by rw [add_mk,add_mk];exact hcell (.refl _ _) 5 _ rfl,?_⟩))
  refine MPut_ok hL.ok hq1.sl λw2 g2=>⟨_,_,rfl,hF1.after g2,λw3 hF3=>?_⟩
  have g3:Grow w2 w3:=hF3.grow
  refine ⟨λw'=>w'.cell? ⟨b,6,none⟩=some (.slice ql list.length cl),hcell (g2.trans g3) 6 _ rfl,Dr_some.2 (Dr_some.2 (Dr_some.2 ⟨_,_,_,λw4 h=>by rw [add_mk];exact h,λl4 hl4 w5 hF5=>?_⟩))⟩
  have g5:Grow w3 w5:=hF5.grow
  have g15:Grow w1 w5:=(g2.trans g3).trans g5
  refine ⟨hcell g15 6 _ rfl,?_⟩
  have hsl5:Sl w5 (some ⟨l4,0,none⟩) ([putMan mn].map sv8'):=.inr ⟨l4,0,rfl,_,_,_,hF5.blk 1 rfl,λi hi=>by
   have:i=0:=by simpa using hi
   subst this;rfl⟩
  have hptl:(putTextL [putMan mn]).length≤1208:=by rw [putText1,List.length_append];omega
  refine PutText_spec hsl5 rfl (by simp) (by omega) λw6 g6=>⟨_,rfl,hF5.after g6,hcell (g15.trans g6) 6 _ rfl,by rw [str_size];omega,?_⟩
  refine Join0_spec (hq2.sl.grow (g15.trans g6)) rfl hlc (by omega) (by omega) λw7 g7=>⟨_,rfl,(hF5.after g6).after g7,hcell ((g15.trans g6).trans g7) 6 _ rfl,by rw [str86,str_append,str_size,str_size,List.length_append,List.length_singleton];omega,?_⟩
  rw [str86,str_append,str_append]
  have g17:=(g15.trans g6).trans g7
  have g07:=g01.trans g17
  have hF7:=(hF5.after g6).after g7
  have hp7:=h.grow g07
  have hrl:(recV mn list).length=1+(putTextL [putMan mn]).length+list.flatten.length:=by simp [recV];omega
  have hF7':Fs x.reg w [⟨x.p,pubC x.bj x.each x.last x.com x.m,T.pub_Pub,true⟩] w7:=hF7.sub (List.Sublist.cons_cons _ (List.nil_sublist _))
  have hl4:w.heap.size≤l4:=by have:=g01.size;have:=g2.size;have:=g3.size;omega
  refine write_spec (s:=recV mn list) hp7.blk hp7.jrn h.room hsr (by omega) (λhs1 hs2 w8 q' c' hj8 hn8 g8 hq'=>?_) (λhs1 hs2 w8 n ws hn8 hd8 hsn hws g8=>?_) λhno=>?_
  ·have hpub:=hp7.jrn.pub hp7.blk
   obtain ⟨nm,hm⟩:=hp7.map
   have hmj:=hp7.jrn.mapb hm
   have hF8:=hF7.step g8 (λz hz=>by
    rcases List.mem_cons.1 hz with rfl | hz
    ·exact hpub
    ·simp at hz;subst hz
     exact λe=>by have:=hlt _ (.inr (.inr e));simp only [] at this;omega) (λk _ e=>.inr (.inr e))
   have hb8:¬jrnS x.bj x.bd x.q b:=λe=>hb0 (.inl (.inr (.inr e)))
   have hv7:VerO x.dom w7 b mn list:=hv1.keep g17 (λ_ _ e=>e.elim) (λ_ _ e=>e)
   have hv8:VerO x.dom w8 b mn list:=hv7.keep g8 (λ_ _ e=>.inl (.inr (.inr e))) (λ_ _ e=>e)
   have hc8:w8.cell? ⟨b,6,none⟩=some (.slice ql list.length cl):=by
    rw [cell_blk (g8.get (Grow.get g17 hb1) hb8)];rfl
   refine ⟨_,rfl,_,_,_,_,_,hF8,hc8,λ_=>?_,(λt x h=>by cases h),.inl rfl⟩
   have hb8':=g8.get hp7.blk hpub
   have hm8:=hm.keep g8 hmj
   refine show_spec (ver:=x.last+1) (mn:=mn) (list:=list) hb8' hm8 h.shown (hv8.keep (.refl (λ_=>False) _) (λ_ _ e=>e.elim) (λk _ e=>.inl (e.elim .inl λe=>.inr (.inl e)))) hL hmv (by omega) λw9 cc n9 g9 hb9 hm9 hT9=>?_
   have hF8':Fs x.reg w [⟨x.p,pubC x.bj x.each x.last x.com x.m,T.pub_Pub,true⟩] w8:=hF8.sub (List.Sublist.cons_cons _ (List.nil_sublist _))
   have hF9:Fs x.reg w [⟨x.p,pubC x.bj x.each ((x.last+1:Nat):Int) x.com x.m,T.pub_Pub,true⟩] w9:=hF8'.mod g9 hb9 (λz hz=>by cases hz) λk _ e=>e.elim .inl λe=>.inr (.inl e)
   refine ⟨rfl,_,_,_,_,_,hF9,?_⟩
   have hv9:VerO x.dom w9 b mn list:=hv8.keep g9 (λk _ e=>.inl (e.elim .inl λe=>.inr (.inl e))) (λ_ _ e=>e)
   have hc9:w9.cell? ⟨b,0,none⟩=some (.int .i64 ((x.last+1:Nat):Int)):=by
    obtain ⟨q9,c9,ql9,cl9,h9,_⟩:=hv9
    rw [cell_blk h9,← hmv];rfl
   refine Dr_some.2 (Dr_some.2 (Dr_some.2 (Dr_some.2 ⟨_,hc9,?_⟩)))
   have hqn:∀a,q'=some a→x.q=some a∨w.heap.size≤a.block:=λa ha=>(hq' a ha).imp id λh=>Nat.le_trans g07.size h
   have hreg:=jrn_next (w':=w9) hqn
   have hmj8:¬(λk=>k=x.p∨k=x.m) x.bj:=by
    rintro (e | e)
    ·exact hpub (.inl e.symm)
    ·exact hmj (.inl e.symm)
   have hj9:JrnAt w9 x.bj x.bd q' c' (x.recs++[recV mn list]):=hj8.keep g9 λk e hk=>by
    rcases e with rfl | rfl
    ·exact hj8.pub hb8' hk
    ·exact hj8.mapb hm8 hk
   let x':PubS:=⟨x.p,x.bj,x.bd,x.m,x.each,q',c',x.last+1,x.com,x.recs++[recV mn list],λk v=>updR x.R (.int .i64 ((x.last+1:Nat):Int)) (.agg #[.pointer (some ⟨b,0,none⟩),.pointer (some ⟨cc,0,none⟩)]) k v∧¬delP ((x.last+1:Nat):Int) x.com k,(λi=>if i=x.last+1 then mn else x.man i),x.ex⟩
   have hlog:(logL (x.recs++[recV mn list])).length=(logL x.recs).length+(recV mn list).length+6:=by
    rw [logL_snoc,List.length_append,sealL_len];omega
   have hreg8:∀k,k<w8.heap.size→x'.reg k→x.reg k∨w7.heap.size≤k:=λk _ e=>by
    rcases jrn_next (w:=w7) (w':=w9) hq' k e with h | h
    ·exact .inl h
    ·exact .inr h
   have kept7:∀k v,x.R k v→KeptAt x.dom w7 x.recs x.last x.man k v:=hp7.kept
   have keep9:∀ {b mn list},VerO x.dom w7 b mn list→VerO x'.dom w9 b mn list:=λhv=>by
    have a8:VerO (λk=>(k=x.p∨k=x.m∨jrnS x.bj x.bd q' k)∨x.ex k) w8 _ _ _:=hv.keep g8 (λ_ _ e=>.inl (.inr (.inr e))) (λk hk e=>e.elim (λe=>.inl ((jrn_next (w:=w7) (w':=w8) hq' k e).elim id λh=>by omega)) .inr)
    exact a8.keep g9 (λk _ e=>.inl (e.elim .inl λe=>.inr (.inl e))) (λ_ _ e=>e)
   have keepT:∀ {c list},TreeO x.dom w7 c list→TreeO x'.dom w9 c list:=λhv=>by
    have a8:TreeO (λk=>(k=x.p∨k=x.m∨jrnS x.bj x.bd q' k)∨x.ex k) w8 _ _:=hv.keep g8 (λ_ _ e=>.inl (.inr (.inr e))) (λk hk e=>e.elim (λe=>.inl ((jrn_next (w:=w7) (w':=w8) hq' k e).elim id λh=>by omega)) .inr)
    exact a8.keep g9 (λk _ e=>.inl (e.elim .inl λe=>.inr (.inl e))) (λ_ _ e=>e)
   refine h1 w9 x' mn list ⟨hgg,h64,hmk,hl2,hs1,by unfold PubS.room;omega⟩ rfl rfl ⟨hb9,hj9,⟨n9,hm9⟩,?_,?_,by show x.com≤x.last+1;have:=h.com_le;omega,by show x.last+1≤_;rw [List.length_append,List.length_singleton];have:=h.last_le;omega,by show (logL _).length≤_;rw [hlog];omega,h.each1,h.each2,λk hk=>?_,λk hk=>Nat.lt_of_lt_of_le (h.exlt k hk) hF9.chg.size,λj v hr=>only_of hr.2,h.rep.snoc (.ver mn list) ⟨hL,hmv⟩ hs1 rfl⟩ hF9.chg rfl rfl rfl rfl rfl ?_ ?_ rfl hreg hgg (λhn=>(hn8 (hn.keep g07 λe=>e)).keep g9 λe=>e.elim (λe=>hj8.pub hb8' (.inr (.inl e.symm))) λe=>hj8.mapb hm8 (.inr (.inl e.symm)))
   ·rintro k v ⟨hr,_⟩
    rcases hr with ⟨rfl,rfl⟩ | ⟨hne,hr⟩
    ·refine ⟨x.last+1,b,cc,mn,list,by omega,Nat.le_refl _,rfl,rfl,keep9 hv7,hL,hmv,(by show mn=if x.last+1=x.last+1 then mn else x.man (x.last+1);rw [if_pos rfl]),hT9.keep (.refl (λ_=>False) _) (λ_ _ e=>e.elim) (λk _ e=>?_),List.mem_append_right _ List.mem_cons_self⟩
     rcases e with (rfl | rfl | hk) | e
     ·exact heap_lt hb8'
     ·exact hm8.lt
     ·exact hj8.lt _ hk
     ·have:=hp7.exlt k e;have:=g8.size;omega
    ·obtain ⟨i,b',c',mn',list',k1,k2,k3,k4,k5,k6,k7,k8,k9,k10⟩:=kept7 k v hr
     exact ⟨i,b',c',mn',list',k1,by show i≤x.last+1;omega,k3,k4,keep9 k5,k6,k7,(by show mn'=if i=x.last+1 then mn else x.man i;rw [if_neg (by omega)];exact k8),keepT k9,List.mem_append_left _ k10⟩
   ·intro i hi1 hi2 hi3
    have hi2':i≤x.last+1:=hi2
    have hi3':x.last+1<i+3∨i=x.com:=hi3
    have hnd:¬delP ((x.last+1:Nat):Int) x.com (.int .i64 (i:Int)):=by
     rintro ⟨j,hj,k1,k2⟩
     have e2:(i:Int)=j:=by injection hj
     subst e2
     rcases hi3' with h' | h'
     ·omega
     ·exact k2 (by rw [h'])
    by_cases hi:i=x.last+1
    ·subst hi;exact ⟨_,.inl ⟨rfl,rfl⟩,hnd⟩
    ·obtain ⟨v,hv⟩:=h.has i hi1 (by omega) (hi3'.imp (λh=>by omega) id)
     refine ⟨v,.inr ⟨λe=>hi ?_,hv⟩,hnd⟩
     have e2:(i:Int)=((x.last+1:Nat):Int):=by injection e
     omega
   ·rcases hreg k hk with e | e
    ·exact h.lo k e
    ·omega
   ·show 200000 - (logL (x.recs++[recV mn list])).length<200000 - (logL x.recs).length
    rw [hlog];omega
   ·show ((200000 - (logL x.recs).length:Nat):Int)≤((200000 - (logL (x.recs++[recV mn list])).length:Nat):Int)+2700+9*nodes+8*l.length
    rw [hlog];omega
  ·have hpub:=hp7.jrn.pub hp7.blk
   have hF8:=hF7.step g8 (λz hz=>by
    rcases List.mem_cons.1 hz with rfl | hz
    ·exact hpub
    ·simp at hz;subst hz
     exact λe=>by have:=hlt _ (.inr (.inr e));simp only [] at this;omega) (λk _ e=>.inr (.inr e))
   have hb8:¬jrnS x.bj x.bd x.q b:=λe=>hb0 (.inl (.inr (.inr e)))
   have hc8:w8.cell? ⟨b,6,none⟩=some (.slice ql list.length cl):=by
    rw [cell_blk (g8.get (Grow.get g17 hb1) hb8)];rfl
   have hlog:(logL (x.recs++[recV mn list])).length≤200000:=by
    rw [logL_snoc,List.length_append,sealL_len];omega
   exact ⟨_,rfl,_,_,_,_,_,hF8,hc8,(λh=>by cases h),(λt v he=>hE w8 n (λh=>hn8 (h.keep g07 λe=>e)) ⟨x.recs,ws,hd8,⟨⟨_,_,_,h.rep⟩,h.room⟩,hws.imp id λe=>⟨recV mn list,e,⟨_,_,_,h.rep.snoc (.ver mn list) ⟨hL,hmv⟩ hs1 rfl⟩,hlog⟩⟩ (Nat.le_trans g07.size hsn) (g07.then g8 |>.mono λk _ e=>.inr (.inr e))),.inr ⟨_,_,rfl⟩⟩
  ·refine ⟨_,rfl,_,_,_,_,_,hF7,hcell g17 6 _ rfl,(λh=>by cases h),λt v he=>?_,.inr ⟨_,_,rfl⟩⟩
   refine h2 w7 _ 7 g07 hp7 (.inl rfl) (.inr ⟨rfl,mn,list,hgg,h64,hmk,λhh=>hno ⟨hh.1,by have:=hh.2;have:=h.room;unfold PubS.room at *;omega⟩⟩) λhh=>hno ?_
   have hr:=h.room
   have h3:=hh.2.1
   have h4:=hh.2.2
   unfold PubS.room at h4
   omega
 ·have g01:=g0.trans g1
  refine ⟨_,_,rfl,hF0.reset.after g1,trivial,(λh=>by obtain ⟨t,x,rfl⟩:=hv.err;cases h),λt v he=>?_,.inr (by obtain ⟨t,x,h⟩:=hv.err;exact ⟨t,x,h⟩)⟩
  exact h2 w1 _ cc g01 (h.grow g01) hv (.inl hme) λhh=>hbad hh.1
theorem tyI_shown:∃i,PR.info? T.pub_shown=some i∧i.zero=some (.agg #[.pointer none,.pointer none]):=by
 have h:(match PR.info? T.pub_shown with | some i=>(match i.zero with | some (.agg ⟨[.pointer none,.pointer none]⟩)=>true | _=>false) | none=>false)=true:=by kernel_rfl
 split at h
 ·rename_i i hi
  refine ⟨i,hi,?_⟩
  split at h
  ·assumption
  ·cases h
 ·cases h
theorem map_zero:∀w:World,(zeroValue T.pub_shown).run PR w=.ok (.agg #[.pointer none,.pointer none]) w:=λw=>by
 obtain ⟨i,hi,hz⟩:=tyI_shown
 simp [zeroValue,typeInfo,hi,hz]
theorem commit_spec {w:World} {p bj m n each last com ver:Nat} {R:Value→Value→Prop} {v:Value} (hb:w.heap[p]? = some (.cells (pubC bj each last com m) T.pub_Pub (0,0))) (hm:MapP w T.int m n R) (hsh:shownR R) (hlast:last≤1000000) (hR:R (.int .i64 (ver:Int)) v) (hlt:com<ver) {K:Value→World→Prop}
  (hK:∀w' n',Chg (λk=>k=p∨k=m) w w'→w'.heap[p]? = some (.cells (pubC bj each last ver m) T.pub_Pub (0,0))→MapP w' T.int m n' (λk v=>R k v∧¬delP last ver k)→K (.tuple #[]) w') :
  CallV PR F.p_pub_Pub_commit ⟨[.pointer (some ⟨p,0,none⟩),.int .i64 (ver:Int)]⟩ w K:=by
 have hpm:=mapNe hb hm
 obtain ⟨i,b,c,k2,k3,k4⟩:=hsh _ _ hR
 have hvi:ver=i:=by
  have e2:(ver:Int)=(i:Int):=by injection k3
  omega
 subst hvi
 refine pub_Pub_commit p (some ⟨bj,0,none⟩) each last com (some m) ver (λk=>k=p∨k=m) K w ((Fr.init _ w).entry hb (λx h=>by cases h) λ_=>.inl rfl) ⟨.inl rfl,trivial⟩ ?_
 refine lookup_rn keyedI map_shown hm (key_int (i:=(ver:Int)) (by omega) (by omega)) true map_zero (λv' hv'=>?_) λhno=>absurd hR (hno v)
 have:v'=v:=hm.inj hv' hR
 subst this
 subst k4
 refine ⟨_,_,true,rfl,(λ_=>⟨(Fr.init _ w).entry hb (λx h=>by cases h) λ_=>.inl rfl,λl0 hl0=>⟨λ_ w1 hF1=>?_,λhh=>absurd hlt (by omega)⟩⟩),λh=>by cases h⟩
 have g1:Chg (· = p) w w1:=hF1.stp.mono λi hi he=>by simp at he;rcases he with e | e;exact e;omega
 have hm1:=hm.keep g1 hpm.symm
 refine trim_spec (hF1.blk 0 rfl) hm1 hsh (by omega) λw2 g2 hm2=>?_
 have hF2:=hF1.reset.step g2 (λz hz=>by simp at hz;subst hz;exact hpm) λk _ e=>.inr e
 exact ⟨rfl,_,_,_,_,_,hF2,hK w2 _ hF2.chg (hF2.blk 0 rfl) hm2⟩
theorem Commit_full {N:Nat} {w:World} {x:PubS} (h:PubAt N w x) (hN:N≤w.heap.size) {ver:Int} (hi : -9223372036854775808≤ver∧ver≤9223372036854775807) {K:Value→World→Prop}
  (h1:∀w' x',x'.recs=x.recs++[recC x'.com]→(recC x'.com).length+6≤x.room→PubAt N w' x'→Chg x.reg w w'→x'.p=x.p→x'.bd=x.bd→x'.each=x.each→x'.last=x.last→ver=x'.com→x.com<x'.com→x'.room<x.room→x.room≤x'.room+20→x'.man=x.man→x'.com≤x'.last→x'.ex=x.ex→(∀k,x'.reg k→x.reg k∨w.heap.size≤k)→(NoF w x.bd→NoF w' x.bd)→K .nilIface w')
  (hE:∀w' n,¬NoF w x.bd→Burnt n w' x.bd→w.heap.size≤n→Chg x.reg w w'→K (.iface T.api_Errno (.int .i64 8)) w')
  (h2:∀w' v c,Grow w w'→PubAt N w' x→v=.iface T.api_Errno (.int .i64 c)→(c=13∧¬(x.com<ver∧ver≤x.last∧x.last<ver+3)∨c=7∧(x.com<ver∧ver≤x.last∧x.last<ver+3)∧x.room<(recC ver.toNat).length+6)→¬(x.com<ver∧ver≤x.last∧x.last<ver+3∧20≤x.room)→K v w') :
  CallV PR F.p_pub_Pub_Commit ⟨[.pointer (some ⟨x.p,0,none⟩),.int .i64 ver]⟩ w K:=by
 obtain ⟨hsl,hsc,hsr⟩:=h.small
 obtain ⟨n,hm⟩:=h.map
 have hpm:=mapNe h.blk hm
 have hlt:=h.lt
 have h0:Fs x.reg w [⟨x.p,pubC x.bj x.each x.last x.com x.m,T.pub_Pub,true⟩] w:=(Fr.init _ w).entry h.blk (λx h=>by cases h) λ_=>.inl rfl
 refine pub_Pub_Commit x.p (some ⟨x.bj,0,none⟩) x.each x.last x.com (some x.m) ver x.reg K w h0 ⟨.inl rfl,trivial⟩ ?_
 refine lookup_rn keyedI map_shown hm (key_int hi.1 hi.2) true map_zero (λv hv=>?_) λhno=>?_
 ·obtain ⟨i,b,c,mn,list,k1,k2,k3,k4,k5⟩:=h.kept _ _ hv
  have hvi:ver=i:=by injection k3
  subst hvi
  subst k4
  refine ⟨_,_,true,rfl,(λ_=>⟨h0,λl0 hl0=>⟨λhle w1 hF1=>?_,λhgt w1 hF1=>?_⟩⟩),λh=>by cases h⟩
  ·have g1:Grow w w1:=(hF1.unM hl0).grow
   exact h2 w1 _ 13 g1 (h.grow g1) rfl (.inl ⟨rfl,λhh=>by omega⟩) λhh=>by omega
  ·have g1:Grow w w1:=(hF1.unM hl0).grow
   have hF1':=(hF1.unM hl0).reset
   refine PutShort_spec (n:=(i:Int)) (by omega) λw2 g2=>⟨_,_,rfl,hF1'.after g2,?_⟩
   have hF2:=hF1'.after g2
   have g02:=g1.trans g2
   have hpl:=putShort_le i (by omega)
   rw [Int.toNat_natCast] at *
   refine ⟨by rw [str_size];omega,?_⟩
   rw [str67,str_append]
   have hp2:=h.grow g02
   obtain ⟨n2,hm2⟩:=hp2.map
   have hrl:(recC i).length=1+(putShort i).length:=by simp [recC];omega
   have hro:(RecO.com i).ok ⟨x.last,x.com,x.man⟩:=⟨by show x.com<i;omega,k2,by
     show x.last<i+3
     rcases h.only i _ hv with h' | h'
     ·exact h'
     ·omega⟩
   refine write_spec (s:=recC i) hp2.blk hp2.jrn h.room hsr (by omega) (λhs1 hs2 w3 q' c' hj3 hn3 g3 hq'=>?_) (λhs1 hs2 w3 n ws hn3 hd3 hsn hws g3=>?_) λhno=>?_
   ·have hpub:=hp2.jrn.pub hp2.blk
    have hmj:=hp2.jrn.mapb hm2
    have hF3:=hF2.step g3 (λz hz=>by simp at hz;subst hz;exact hpub) (λk _ e=>.inr (.inr e))
    refine ⟨_,rfl,_,_,_,_,_,hF3,λ_=>?_,(λt x h=>by cases h),.inl rfl⟩
    have hb3:=g3.get hp2.blk hpub
    have hm3:=hm2.keep g3 hmj
    have hlog:(logL (x.recs++[recC i])).length=(logL x.recs).length+(recC i).length+6:=by
     rw [logL_snoc,List.length_append,sealL_len];omega
    let x1:PubS:=⟨x.p,x.bj,x.bd,x.m,x.each,q',c',x.last,x.com,x.recs++[recC i],x.R,x.man,x.ex⟩
    have hqn:∀a,q'=some a→x.q=some a∨w.heap.size≤a.block:=λa ha=>(hq' a ha).imp id λh=>Nat.le_trans g02.size h
    have hreg:=jrn_next (w':=w3) hqn
    have k3':∀k v,x.R k v→KeptAt x1.dom w3 x1.recs x.last x.man k v:=λk v hr=>(hp2.kept k v hr).keep g3 (λ_ _ e=>.inl (.inr (.inr e))) (λk hk e=>e.elim (λe=>.inl ((jrn_next (w:=w2) (w':=w3) hq' k e).elim id λh=>by omega)) .inr) (Nat.le_refl _) (λ_ h=>List.mem_append_left _ h)
    have room3:(logL x1.recs).length≤200000:=by show (logL _).length≤_;rw [hlog];omega
    refine commit_spec hb3 hm3 h.shown (by omega) (ver:=i) hv (by omega) λw4 n4 g4 hb4 hm4=>?_
    have hF4:=hF3.mod g4 hb4 (λz hz=>by cases hz) λk _ e=>e.elim .inl λe=>.inr (.inl e)
    refine ⟨rfl,_,_,_,_,_,hF4,?_⟩
    have g4':∀k,(k=x1.p∨k=x1.m)→x1.reg k:=λk e=>e.elim .inl λe=>.inr (.inl e)
    let x2:PubS:=⟨x.p,x.bj,x.bd,x.m,x.each,q',c',x.last,i,x.recs++[recC i],λk v=>x.R k v∧¬delP x.last i k,x.man,x.ex⟩
    refine h1 w4 x2 rfl (by show (recC i).length+6≤x.room;unfold PubS.room;omega) ⟨hb4,hj3.keep g4 λk e hk=>?_,⟨n4,hm4⟩,λk v hr=>(k3' k v hr.1).keep g4 (λk _ e=>.inl (g4' k e)) (λ_ _ e=>e) (Nat.le_refl _) (λ_ h=>h),λj hj1 hj2 hj3=>?_,k2,(by show x.last≤_;rw [List.length_append];have:=h.last_le;omega),room3,h.each1,h.each2,λk hk=>(hreg k hk).elim (h.lo k) λe=>by omega,λk hk=>Nat.lt_of_lt_of_le (Nat.lt_of_lt_of_le (hp2.exlt k hk) g3.size) g4.size,λj v hr=>?_,h.rep.snoc (.com i) hro hs1 rfl⟩ hF4.chg rfl rfl rfl rfl rfl (by show x.com<i;omega) ?_ ?_ rfl k2 rfl hreg (λhn=>(hn3 (hn.keep g02 λe=>e)).keep g4 λe=>e.elim (λe=>hj3.pub hb3 (.inr (.inl e.symm))) λe=>hj3.mapb hm3 (.inr (.inl e.symm)))
    ·rcases e with rfl | rfl
     ·exact hj3.pub hb3 hk
     ·exact hj3.mapb hm3 hk
    ·have hj3':x.last<j+3∨j=i:=hj3
     have hnd:¬delP x.last i (.int .i64 (j:Int)):=by
      rintro ⟨j',hj',a1,a2⟩
      have e2:(j:Int)=j':=by injection hj'
      subst e2
      rcases hj3' with h' | h'
      ·omega
      ·exact a2 (by rw [h'])
     rcases hj3' with h' | rfl
     ·obtain ⟨v,hv⟩:=h.has j hj1 hj2 (.inl h')
      exact ⟨v,hv,hnd⟩
     ·exact ⟨_,hv,hnd⟩
    ·exact only_of hr.2
    ·show 200000 - (logL (x.recs++[recC i])).length<200000 - (logL x.recs).length
     rw [hlog];omega
    ·show 200000 - (logL x.recs).length≤200000 - (logL (x.recs++[recC i])).length+20
     rw [hlog];omega
   ·have hpub:=hp2.jrn.pub hp2.blk
    have hF3:=hF2.step g3 (λz hz=>by simp at hz;subst hz;exact hpub) (λk _ e=>.inr (.inr e))
    have hlog:(logL (x.recs++[recC i])).length≤200000:=by
     rw [logL_snoc,List.length_append,sealL_len];omega
    exact ⟨_,rfl,_,_,_,_,_,hF3,(λh=>by cases h),(λt v he=>hE w3 n (λh=>hn3 (h.keep g02 λe=>e)) ⟨x.recs,ws,hd3,⟨⟨_,_,_,h.rep⟩,h.room⟩,hws.imp id λe=>⟨recC i,e,⟨_,_,_,h.rep.snoc (.com i) hro hs1 rfl⟩,hlog⟩⟩ (Nat.le_trans g02.size hsn) (g02.then g3 |>.mono λk _ e=>.inr (.inr e))),.inr ⟨_,_,rfl⟩⟩
   ·refine ⟨_,rfl,_,_,_,_,_,hF2,(λh=>by cases h),λt v he=>?_,.inr ⟨_,_,rfl⟩⟩
    refine h2 w2 _ 7 g02 hp2 rfl (.inr ⟨rfl,⟨by omega,by omega,by rcases h.only i _ hv with h' | h' <;> omega⟩,?_⟩) λhh=>hno ?_
    ·have hr:=h.room
     unfold PubS.room
     omega
    have h4:=hh.2.2.2
    have hr:=h.room
    unfold PubS.room at h4
    omega
 ·refine ⟨_,_,false,rfl,(λh=>by cases h),λ_=>⟨h0,λl2 hl2 w1 hF1=>?_⟩⟩
  have g1:Grow w w1:=(hF1.unM hl2).grow
  have key:¬(x.com<ver∧ver≤x.last∧x.last<ver+3):=λhh=>by
   obtain ⟨i,rfl⟩:=Int.eq_ofNat_of_zero_le (a:=ver) (by omega)
   obtain ⟨v,hv⟩:=h.has i (by omega) (by omega) (.inl (by omega))
   exact hno v hv
  exact h2 w1 _ 13 g1 (h.grow g1) rfl (.inl ⟨rfl,key⟩) λhh=>key ⟨hh.1,hh.2.1,hh.2.2.1⟩
end Go.Vc
namespace Go.Vc
open Go
theorem flatK_at {α:Type} {s:Nat} {f:α→List Value} (hf:∀x,(f x).length=s):∀ {l:List α} {k j:Nat},(h:k<l.length)→j<s→(l.flatMap f)[k*s+j]? = (f l[k])[j]?
 | a :: l,0,j,h,hj=>by
  rw [List.flatMap_cons,List.getElem?_append_left (by rw [hf];omega)];simp
 | a :: l,k+1,j,h,hj=>by
  have e:(k+1)*s+j=s+(k*s+j):=by rw [Nat.add_mul];omega
  rw [List.flatMap_cons,List.getElem?_append_right (by rw [hf];omega),hf,e,Nat.add_sub_cancel_left,flatK_at hf (l:=l) (k:=k) (by simpa using h) hj];rfl
theorem flatK_size {α:Type} {s:Nat} {f:α→List Value} (hf:∀x,(f x).length=s):∀l:List α,(l.flatMap f).length=l.length*s
 | []=>by simp
 | a :: l=>by rw [List.flatMap_cons,List.length_append,hf,flatK_size hf l,List.length_cons,Nat.add_mul];omega
end Go.Vc
namespace Go.Vc
open Go Go.ChangeShapes Go.WideShapes Go.Deep Go.ChangeAt Go.RowKit
noncomputable def flds (t:TypeId):Option (List (Nat × Nat)):=match PR.underlying t with
 | some (.struct fs)=>some (fs.toList.map λf=>(f.type,f.offset))
 | _=>none
theorem flds_of {t:TypeId} {l:List (Nat × Nat)} (h:flds t=some l):∃fs:Array Field,PR.underlying t=some (.struct fs)∧fs.toList.map (λf=>(f.type,f.offset))=l:=by
 unfold flds at h
 split at h
 ·rename_i fs hfs
  exact ⟨fs,hfs,Option.some.inj h⟩
 ·cases h
theorem flds_at {fs:Array Field} {l:List (Nat × Nat)} (h:fs.toList.map (λf=>(f.type,f.offset))=l) {i:Nat} {x:Nat × Nat} (hi:l[i]? = some x):∃f,fs[i]? = some f∧f.type=x.1∧f.offset=x.2:=by
 rw [← h,List.getElem?_map] at hi
 rw [← Array.getElem?_toList]
 cases hf:fs.toList[i]? with
 | none=>rw [hf] at hi;cases hi
 | some f=>rw [hf] at hi;cases hi;exact ⟨f,rfl,rfl,rfl⟩
theorem sl_of_cells {w:World} {a:Addr} {xs:List Value} (h:∀i,i<xs.length→w.cell? (a.add i)=xs[i]?):Sl w (some a) xs:=by
 cases xs with
 | nil=>exact .inl rfl
 | cons x xs=>
  right
  have h0:=h 0 (by simp)
  have h0':w.cell? a=some x:=by simpa [Addr.add] using h0
  have hs:=World.cell?_spot h0'
  obtain ⟨b,o,sp⟩:=a
  simp only at hs
  subst hs
  refine ⟨b,o,rfl,?_⟩
  unfold World.cell? at h0'
  cases hb:w.heap[b]? with
  | none=>simp [hb] at h0'
  | some ob=>
   cases ob with
   | cells cs T fz=>
    refine ⟨cs,T,fz,hb,λi hi=>?_⟩
    have hh:=h i hi
    have e:w.cell? ((⟨b,o,none⟩:Addr).add i)=cs[o+i]?:=by
     by_cases hi0:i=0
     ·subst hi0;simp [Addr.add,World.cell?,hb]
     ·simp [Addr.add,hi0,World.cell?,hb]
    rw [← e,hh]
   | _=>simp [hb] at h0'
theorem slice_of {α:Type} {s:Nat} {f:α→List Value} (hf:∀x,(f x).length=s) (hs0:0<s) {t e:TypeId} (ht:PR.underlying t=some (.slice e)) (hc:PR.cellsOf e=s) {G:α→Prop} {H:Type} {enc:TypeId × Value→H} {w:World} {base:Nat} {spare:Nat→Bool} {held:Bool}
  (each:∀(n:Nat) (cs:List Value) x,DataW.trod enc PR w base spare held n e cs=some x→cs.length=s→∃a:α,cs=f a∧G a) {fuel:Nat} {v:Value} {x:DataW H × List MemPlace} (h:DataW.trod enc PR w base spare held fuel t [v]=some x) :
  ∃(q:Option Addr) (l:List α) (c:Nat),v=.slice q l.length c∧Sl w q (l.flatMap f)∧(∀a∈l,G a)∧l.length≤c:=by
 rcases open_slice ht h with ⟨e1,_⟩ | ⟨a,len,cap,m,n,D,Pl,e1,_,hlc,_,hm,_,hx⟩
 ·cases e1
  exact ⟨none,[],0,rfl,.inl rfl,(λa ha=>by cases ha),Nat.le_refl _⟩
 ·cases e1
  rw [hc] at hx
  have hlm:len≤m:=by rw [hm];split <;> omega
  have ea:∀i,i<len→∃z:α,(∀j v,(f z)[j]? = some v→w.cell? (a.add (i*s+j))=some v)∧G z:=by
   intro i hi
   obtain ⟨cs',h1,h2⟩:=hx i (by omega)
   obtain ⟨_,hlen,hcell⟩:=World.cells?_some h1
   obtain ⟨z,rfl,hz⟩:=each n cs' _ h2 hlen
   refine ⟨z,λj v hj=>?_,hz⟩
   have hjl:j<s:=by
    rcases Nat.lt_or_ge j s with h | h
    ·exact h
    ·rw [List.getElem?_eq_none (by rw [hf];exact h)] at hj;cases hj
   have:=hcell j hjl
   rw [add_add] at this
   rw [this,hj]
  have hne:len=0∨Nonempty α:=by
   rcases Nat.eq_zero_or_pos len with h | h
   ·exact .inl h
   ·obtain ⟨z,_⟩:=ea 0 h;exact .inr ⟨z⟩
  rcases hne with h0 | ⟨⟨z0⟩⟩
  ·subst h0
   exact ⟨some a,[],cap,rfl,.inl rfl,(λa ha=>by cases ha),Nat.zero_le _⟩
  ·have:Inhabited α:=⟨z0⟩
   obtain ⟨g,hg⟩:=choose_lt ea
   refine ⟨some a,(List.range len).map g,cap,by simp,sl_of_cells λi hi=>?_,λz hz=>?_,by simpa using hlc⟩
   ·rw [flatK_size hf] at hi
    simp only [List.length_map,List.length_range] at hi
    have hk:i / s<len:=Nat.div_lt_of_lt_mul (by rw [Nat.mul_comm];exact hi)
    have hj:i%s<s:=Nat.mod_lt _ hs0
    have e2:i / s*s+i%s=i:=by rw [Nat.mul_comm];exact Nat.div_add_mod i s
    have h3:=flatK_at hf (l:=(List.range len).map g) (k:=i / s) (j:=i%s) (by simpa using hk) hj
    rw [e2] at h3
    rw [h3]
    simp only [List.getElem_map,List.getElem_range]
    have hlt:i%s<(f (g (i / s))).length:=by rw [hf];exact hj
    have:=(hg (i / s) hk).1 (i%s) _ (List.getElem?_eq_getElem hlt)
    rw [e2] at this
    rw [this,List.getElem?_eq_getElem hlt]
   ·obtain ⟨i,hi,rfl⟩:=List.mem_map.1 hz
    exact (hg i (List.mem_range.1 hi)).2
theorem int_range {n:Int} (h:(Lit.int .i64 n).wf=true) : -9223372036854775808≤n∧n≤9223372036854775807:=by
 simp [Lit.wf,IntKind.min,IntKind.max,IntKind.bits,IntKind.signed] at h;omega
theorem uInt:PR.underlying T.int=some (.int .i64):=by kernel_rfl
theorem cInt:PR.cellsOf T.int=1:=by kernel_rfl
theorem uBool:PR.underlying T.bool=some .bool:=by kernel_rfl
theorem okWide_array {P:Program} {w:World} {r:Reach} {base:Nat} {t e:TypeId} {n:Nat} {v:Value} (ht:P.underlying t=some (.array n e)) (h:Value.okWide P w r base t v):∃cs,v=.agg cs∧cs.size=P.cellsOf t:=by
 simp only [Value.okWide,ht] at h
 obtain ⟨cs,h1,h2,_⟩:=h
 exact ⟨cs,h1,h2⟩
section
variable {H:Type} {enc:TypeId × Value→H} {w:World} {base:Nat} {spare:Nat→Bool} {held:Bool}
theorem struct_of {t:TypeId} {l:List (Nat × Nat)} (hl:flds t=some l) {n:Nat} {cs:List Value} {x:DataW H × List MemPlace} (h:DataW.trod enc PR w base spare held n t cs=some x) :
  ∃m,∀(i:Nat) (p:Nat × Nat),l[i]? = some p→∃y,DataW.trod enc PR w base spare held m p.1 ((cs.drop p.2).take (PR.cellsOf p.1))=some y:=by
 obtain ⟨fs,hu,hm⟩:=flds_of hl
 obtain ⟨xs,m,_,_,_,hxl,hg⟩:=DataW.trod_struct hu h
 refine ⟨m,λi p hi=>?_⟩
 obtain ⟨f,h1,h2,h3⟩:=flds_at hm hi
 have:=hg i f h1
 rw [h2,h3] at this
 have hil:i<xs.length:=by
  rw [hxl]
  rcases Nat.lt_or_ge i fs.size with h | h
  ·exact h
  ·rw [Array.getElem?_eq_none h] at h1;cases h1
 exact ⟨_,this.trans (List.getElem?_eq_getElem hil)⟩
end
section
variable {H:Type} {enc:TypeId × Value→H} {P:Program}
theorem post_of_below {f:Func} {s:ChangeSpec} {apart fresh handsOn again:Bool} {W W':World} {args:Array Value} {v:Value} {ds gs:List (DataW H)} {before pa pv:List MemPlace}
  (hW:DataW.Whole enc P f.params.toList s.vars apart W args.toList ds gs before)
  (hres:∀(b:Nat) (sp:Nat→Bool) (hd:Bool),DataW.TrodAll enc P W' b sp hd f.resultTypes.toList (v.resultList f.resultTypes.size) (s.fn H (ds++gs)).results [])
  (hargs:∀sp:Nat→Bool,(∀p∈before,sp p.block=true)→DataW.TrodAll enc P W' 0 sp true f.params.toList args.toList (s.fn H (ds++gs)).args pa)
  (hvars:∀sp:Nat→Bool,(∀p∈before,sp p.block=true)→DataW.TrodVars enc P W' sp s.vars (s.fn H (ds++gs)).vars pv)
  (hps:before=pa++pv) (hb:Below W.heap.size W W')
  (hok:∀(j:Nat) (t:TypeId) (r:Value),f.resultTypes[j]? = some t→(v.resultList f.resultTypes.size)[j]? = some r→Value.okWide P W' .any 0 t r) :
  s.post enc P f apart fresh handsOn again W args v W':=by
 have hlt:∀p∈before,p.block<W.heap.size:=λp hp=>hW.lt p hp
 have hold:∀p∈before,(λb=>decide (b<W.heap.size)) p.block=true:=λp hp=>by simpa using hlt p hp
 refine ⟨ds,gs,before,[],pa,pv,hW,hres _ _ _,hargs _ hold,hvars _ hold,World.keptBut_mono (λp hp=>⟨hp,?_⟩) (hb.frame (·∈before)),λ_=>?_⟩
 ·rw [hps,List.mem_append] at hp
  exact Or.inr hp
 ·obtain ⟨_,_,_,_,_,hz,hn⟩:=hW
  refine ⟨hok,_,_,([]++pa)++pv,⟨[]++pa,pv,trodAll_append (hargs _ (λ_ _=>rfl)) (hres _ _ _),hvars _ (λ_ _=>rfl),rfl,?_,?_⟩,?_⟩
  ·intro b off hp
   have hin:MemPlace.cell b off∈before:=by rw [hps];simpa using hp
   rw [hb.frozen (hlt _ hin)]
   exact hz b off hin
  ·intro ha
   have:=hn ha
   rw [hps] at this
   simpa using this
  ·intro p hp _
   rw [hps]
   simpa using hp
end
theorem below_of_grow {w w':World} (h:Grow w w'):Below w.heap.size w w':=⟨h.os,h.tape,h.output,h.size,λk hk=>h.block k hk (λe=>e)⟩
theorem ownG:ownKnob PR.godebug=none:=by kernel_rfl
theorem layG:laidOutB PR=true:=by kernel_rfl
end Go.Vc
namespace Go.Vc
open Go
end Go.Vc
namespace Go.Vc
open Go Go.RowKit Go.Extern.Stop Go.Stop Go.Extern Go.Proofs
abbrev hd (t:Nat):Value:=.pointer (some ⟨G.count,t,none⟩)
theorem valueOfP (t:Addr) (w:World):(ReflectliteValue.unpack (.iface 150 (.pointer (some t)))).run Tryz.prog w
  = .ok (.agg #[.pointer (some ⟨2,150,none⟩),.pointer (some ⟨w.heap.size,0,none⟩),.int .u64 150]) (w.alloc (.cells #[.pointer (some t)] 150)):=by kernel_rfl
theorem typeP (a:Addr) (w:World):(ReflectliteValue.methodAny (ReflectliteValue.valueError "reflectlite.Value.Type" 0) (λt _ _ _=>ReflectliteType.toType t) #[.agg #[.pointer (some ⟨2,150,none⟩),.pointer (some a),.int .u64 150]]).run Tryz.prog w
  = .ok (.iface 302 (.agg #[.pointer (some ⟨2,150,none⟩)])) w:=by kernel_rfl
theorem methodKind (h:Value) (w:World):(Go.method 537 302 (.agg #[h]) "Kind").run Tryz.prog w=.ok (314,h) w:=by kernel_rfl
theorem kindP (w:World):((ReflectliteType.abiMethod λt=>(λa:Nat=>Value.int IntKind.u8 (a:Int)) <$> Rtype.kind t) #[.pointer (some ⟨2,150,none⟩)]).run Tryz.prog w=.ok (.int .u8 22) w:=by kernel_rfl
theorem kindE (w:World):((ReflectliteType.abiMethod λt=>(λa:Nat=>Value.int IntKind.u8 (a:Int)) <$> Rtype.kind t) #[.pointer (some ⟨2,39,none⟩)]).run Tryz.prog w=.ok (.int .u8 2) w:=by kernel_rfl
theorem rlm (z:Sem Value) (f:TypeId→Addr→Nat→Nat→Sem Value) (v:Value) :
  ReflectliteValue.method z f #[v]=(do match ← ReflectliteValue.parts v with | none=>z | some (t,a,fl)=>f t a fl (fl%32)):=rfl
theorem partsP (a:Addr) (w:World):(ReflectliteValue.parts (.agg #[.pointer (some ⟨2,150,none⟩),.pointer (some a),.int .u64 150])).run Tryz.prog w=.ok (some (150,a,150)) w:=by kernel_rfl
theorem isNilP (a p:Addr) (W:World) (ha:W.cell? a=some (.pointer (some p))) :
  (ReflectliteValue.method (ReflectliteValue.valueError "reflectlite.Value.IsNil" 0) ReflectliteValue.isNil #[.agg #[.pointer (some ⟨2,150,none⟩),.pointer (some a),.int .u64 150]]).run Tryz.prog W=.ok (.bool false) W:=by
 rw [rlm]
 simp only [Sem.run_bind,partsP,Result.andThen]
 simp [ReflectliteValue.isNil,loadVar,isAgg,underlying,ha,Result.andThen]
theorem methodElem (h:Value) (w:World):(Go.method 537 302 (.agg #[h]) "Elem").run Tryz.prog w=.ok (331,.agg #[h]) w:=by kernel_rfl
theorem methodImplements (h:Value) (w:World):(Go.method 537 302 (.agg #[h]) "Implements").run Tryz.prog w=.ok (332,.agg #[h]) w:=by kernel_rfl
theorem methodAssignableTo (h:Value) (w:World):(Go.method 537 302 (.agg #[h]) "AssignableTo").run Tryz.prog w=.ok (329,.agg #[h]) w:=by kernel_rfl
theorem elemP (w:World):(ReflectliteType.method ReflectliteType.elem #[.agg #[.pointer (some ⟨2,150,none⟩)]]).run Tryz.prog w=.ok (.iface 302 (.agg #[.pointer (some ⟨2,39,none⟩)])) w:=by kernel_rfl
theorem implementsE (w:World):(ReflectliteType.relation "Implements" ReflectliteType.implements_ #[.agg #[.pointer (some ⟨2,39,none⟩)],.iface 302 (.agg #[.pointer (some ⟨2,32,none⟩)])]).run Tryz.prog w=.ok (.bool true) w:=by kernel_rfl
theorem typeOfE (v:Value) (w:World):(ReflectliteType.typeOf #[.iface 39 v]).run Tryz.prog w=.ok (.iface 302 (.agg #[.pointer (some ⟨2,39,none⟩)])) w:=by kernel_rfl
theorem assignableE (w:World):(ReflectliteType.relation "AssignableTo" ReflectliteType.assignableTo #[.agg #[.pointer (some ⟨2,39,none⟩)],.iface 302 (.agg #[.pointer (some ⟨2,39,none⟩)])]).run Tryz.prog w=.ok (.bool true) w:=by kernel_rfl
theorem valueOfE (n:Int) (w:World):(ReflectliteValue.unpack (.iface 39 (.int .i64 n))).run Tryz.prog w
  = .ok (.agg #[.pointer (some ⟨2,39,none⟩),.pointer (some ⟨w.heap.size,0,none⟩),.int .u64 130]) (w.alloc (.cells #[.int .i64 n] 39)):=by kernel_rfl
theorem elemOfP (w:World):(Rtype.elem? 150).run Tryz.prog w=.ok (some 39) w:=by kernel_rfl
theorem mkE (p:Addr) (w:World):(ReflectliteValue.mk 39 p ReflectliteValue.flagAddr).run Tryz.prog w=.ok (.agg #[.pointer (some ⟨2,39,none⟩),.pointer (some p),.int .u64 386]) w:=by kernel_rfl
theorem elemVP (a p:Addr) (W:World) (ha:W.cell? a=some (.pointer (some p))) :
  (ReflectliteValue.method (ReflectliteValue.valueError "reflectlite.Value.Elem" 0) ReflectliteValue.elem #[.agg #[.pointer (some ⟨2,150,none⟩),.pointer (some a),.int .u64 150]]).run Tryz.prog W
   = .ok (.agg #[.pointer (some ⟨2,39,none⟩),.pointer (some p),.int .u64 386]) W:=by
 rw [rlm]
 simp only [Sem.run_bind,partsP,Result.andThen]
 simp [ReflectliteValue.elem,loadVar,isAgg,underlying,ha,Result.andThen,elemOfP,mkE]
theorem rls (v x:Value):ReflectliteValue.set #[v,x]=(do
  let (some (dst,a,fl),some (src,b,_)):=(← ReflectliteValue.parts v,← ReflectliteValue.parts x)
   | unsupported (.noEntry "extern/(internal/reflectlite.Value).Set.zeroValue")
  if fl / ReflectliteValue.flagAddr%2 == 0 then unsupported (.noEntry "extern/(internal/reflectlite.Value).Set.unaddressable")
  let val ← loadVar src b
  if ← Rtype.directlyAssignable dst src then storeVar dst a val
  else if ← Rtype.implements dst src then
   if (← Rtype.kind src) == 20 then
    match val with
    | .nilIface=>unsupported (.noEntry "extern/reflectlite: a nil value of one interface type handed on as a value of another")
    | _=>storeVar dst a val
   else storeVar dst a (.iface src val)
  else panicString ("reflectlite.Set: value of type " ++ (← Rtype.spelt src) ++ " is not assignable to type " ++ (← Rtype.spelt dst))
  pure (.tuple #[])):=rfl
theorem partsEa (a:Addr) (w:World):(ReflectliteValue.parts (.agg #[.pointer (some ⟨2,39,none⟩),.pointer (some a),.int .u64 386])).run Tryz.prog w=.ok (some (39,a,386)) w:=by kernel_rfl
theorem partsE (a:Addr) (w:World):(ReflectliteValue.parts (.agg #[.pointer (some ⟨2,39,none⟩),.pointer (some a),.int .u64 130])).run Tryz.prog w=.ok (some (39,a,130)) w:=by kernel_rfl
theorem directE (w:World):(Rtype.directlyAssignable 39 39).run Tryz.prog w=.ok true w:=by kernel_rfl
theorem setE (ta b:Addr) (n:Int) (old:Value) (W:World) (hb:W.cell? b=some (.int .i64 n)) (ht:W.cell? ta=some old) (hf:W.frozen? ta=false) :
  (ReflectliteValue.set #[.agg #[.pointer (some ⟨2,39,none⟩),.pointer (some ta),.int .u64 386],.agg #[.pointer (some ⟨2,39,none⟩),.pointer (some b),.int .u64 130]]).run Tryz.prog W
   = .ok (.tuple #[]) (W.setCell ta (.int .i64 n)):=by
 rw [rls]
 simp only [Sem.run_bind,partsEa,partsE,Result.andThen]
 simp [ReflectliteValue.flagAddr,loadVar,isAgg,underlying,hb,Result.andThen,directE,storeVar,Value.cells,storeCells,Addr.add]
 rw [run_store Tryz.prog W ta _ _ (by rfl)]
 simp [ht,hf]
end Go.Vc
namespace Go.Vc
open Go Go.RowKit Go.Extern.Stop Go.Stop Go.Extern Go.Proofs
set_option maxHeartbeats 4000000 in
theorem as_hit (n:Int) (t:Addr) (old:Value) (w:World) (hg:w.cell? ⟨0,0,none⟩=some (.iface 302 (.agg #[.pointer (some ⟨2,32,none⟩)]))) (ht0:w.cell? t=some old) (hf0:w.frozen? t=false) :
  Calls Tryz.prog 67 #[.iface 39 (.int .i64 n),.iface 150 (.pointer (some t))] w λev w'=>ev=.returned (.bool true)∧w'=((((w.alloc (.cells #[.pointer (some t)] 150)).alloc (.cells #[.pointer (some ⟨2,150,none⟩),.pointer (some ⟨w.heap.size,0,none⟩),.int .u64 150] 241)).alloc (.cells #[.pointer (some ⟨2,150,none⟩),.pointer (some ⟨w.heap.size,0,none⟩),.int .u64 150] 241)).alloc (.cells #[.int .i64 n] 39)).setCell t (.int .i64 n):=by
 have h6:=@run_callFunc_extern Tryz.prog 136 _ (λargs=>ReflectliteValue.unpack (args.getD 0 (.tuple #[]))) Tryz.func136 (by kernel_rfl) (by kernel_rfl) (by kernel_rfl) (by kernel_rfl)
 have h7:=@run_callFunc_extern Tryz.prog 137 _ (ReflectliteValue.methodAny (ReflectliteValue.valueError "reflectlite.Value.Type" 0) (λt _ _ _=>ReflectliteType.toType t)) Tryz.func137 (by kernel_rfl) (by kernel_rfl) (by kernel_rfl) (by kernel_rfl)
 have h8:=@run_callFunc_extern Tryz.prog 138 _ (ReflectliteValue.method (ReflectliteValue.valueError "reflectlite.Value.IsNil" 0) ReflectliteValue.isNil) Tryz.func138 (by kernel_rfl) (by kernel_rfl) (by kernel_rfl) (by kernel_rfl)
 have h27:=@run_callFunc_extern Tryz.prog 314 _ (ReflectliteType.abiMethod λt=>do pure (.int .u8 (← Rtype.kind t))) Tryz.func314 (by kernel_rfl) (by kernel_rfl) (by kernel_rfl) (by kernel_rfl)
 have h37:=@run_callFunc_extern Tryz.prog 331 _ (ReflectliteType.method ReflectliteType.elem) Tryz.func331 (by kernel_rfl) (by kernel_rfl) (by kernel_rfl) (by kernel_rfl)
 have h38:=@run_callFunc_extern Tryz.prog 332 _ (ReflectliteType.relation "Implements" ReflectliteType.implements_) Tryz.func332 (by kernel_rfl) (by kernel_rfl) (by kernel_rfl) (by kernel_rfl)
 have h10:=@run_callFunc_extern Tryz.prog 134 _ ReflectliteType.typeOf Tryz.func134 (by kernel_rfl) (by kernel_rfl) (by kernel_rfl) (by kernel_rfl)
 have h35:=@run_callFunc_extern Tryz.prog 329 _ (ReflectliteType.relation "AssignableTo" ReflectliteType.assignableTo) Tryz.func329 (by kernel_rfl) (by kernel_rfl) (by kernel_rfl) (by kernel_rfl)
 have h11:=@run_callFunc_extern Tryz.prog 194 _ (ReflectliteValue.method (ReflectliteValue.valueError "reflectlite.Value.Elem" 0) ReflectliteValue.elem) Tryz.func194 (by kernel_rfl) (by kernel_rfl) (by kernel_rfl) (by kernel_rfl)
 have h12:=@run_callFunc_extern Tryz.prog 195 _ ReflectliteValue.set Tryz.func195 (by kernel_rfl) (by kernel_rfl) (by kernel_rfl) (by kernel_rfl)
 have tO:=typeOfE
 have mA:=methodAssignableTo
 have a25:=assignableE
 have v25:=valueOfE
 have f6:=valueOfP
 have f7:=typeP
 have mK:=methodKind
 have mE:=methodElem
 have mI:=methodImplements
 have k27:=kindP
 have k25:=kindE
 have e27:=elemP
 have i25:=implementsE
 have n8:=isNilP ⟨w.heap.size,0,none⟩ t ((w.alloc (.cells #[.pointer (some t)] 150)).alloc (.cells #[.pointer (some ⟨2,150,none⟩),.pointer (some ⟨w.heap.size,0,none⟩),.int .u64 150] 241)) (by simp)
 have hlt:0<w.heap.size:=by
  rcases Nat.eq_zero_or_pos w.heap.size with h0 | h
  ·simp [World.cell?,h0] at hg
  ·exact h
 have hg2:((w.alloc (.cells #[.pointer (some t)] 150)).alloc (.cells #[.pointer (some ⟨2,150,none⟩),.pointer (some ⟨w.heap.size,0,none⟩),.int .u64 150] 241)).cell? ⟨0,0,none⟩=some (.iface 302 (.agg #[.pointer (some ⟨2,32,none⟩)])):=by
  rw [World.cell?_alloc_lt _ _ ⟨0,0,none⟩ (by simp),World.cell?_alloc_lt _ _ ⟨0,0,none⟩ hlt];exact hg
 have htl:t.block<w.heap.size:=by
  rcases Nat.lt_or_ge t.block w.heap.size with h | h
  ·exact h
  ·simp [World.cell?,Array.getElem?_eq_none h] at ht0
 have el:=elemVP ⟨w.heap.size,0,none⟩ t (((w.alloc (.cells #[.pointer (some t)] 150)).alloc (.cells #[.pointer (some ⟨2,150,none⟩),.pointer (some ⟨w.heap.size,0,none⟩),.int .u64 150] 241)).alloc (.cells #[.pointer (some ⟨2,150,none⟩),.pointer (some ⟨w.heap.size,0,none⟩),.int .u64 150] 241)) (by rw [World.cell?_alloc_lt _ _ ⟨w.heap.size,0,none⟩ (by simp;omega)];simp)
 have st:=setE t ⟨w.heap.size+1+1+1,0,none⟩ n old ((((w.alloc (.cells #[.pointer (some t)] 150)).alloc (.cells #[.pointer (some ⟨2,150,none⟩),.pointer (some ⟨w.heap.size,0,none⟩),.int .u64 150] 241)).alloc (.cells #[.pointer (some ⟨2,150,none⟩),.pointer (some ⟨w.heap.size,0,none⟩),.int .u64 150] 241)).alloc (.cells #[.int .i64 n] 39))
  (by rw [World.cell?_alloc_at _ _ _ _ (by simp)];rfl)
  (by rw [World.cell?_alloc_lt _ _ t (by simp;omega),World.cell?_alloc_lt _ _ t (by simp;omega),World.cell?_alloc_lt _ _ t (by simp;omega),World.cell?_alloc_lt _ _ t htl];exact ht0)
  (by rw [World.frozen?_alloc_old _ _ t (by simp;omega),World.frozen?_alloc_old _ _ t (by simp;omega),World.frozen?_alloc_old _ _ t (by simp;omega),World.frozen?_alloc_old _ _ t (Nat.ne_of_lt htl)];exact hf0)
 go_enter Tryz.func67,Tryz.ntmps67
 go_wp2
 refine wp_loop_rounds 1 ?_
 rw [rounds_succ]
 go_wp2
 go_ret
 exact ⟨rfl,rfl⟩
end Go.Vc
namespace Go.Vc
open Go Go.RowKit Go.Extern.Stop Go.Stop Go.Extern Go.Proofs
theorem grow_alloc {w w1:World} (g:Grow w w1) (o:Obj):Grow w (w1.alloc o):=g.trans (Chg.alloc w1 o)
theorem grow5 (w:World) (o1 o2 o3 o4 o5:Obj):Grow w (((((w.alloc o1).alloc o2).alloc o3).alloc o4).alloc o5):=
 grow_alloc (grow_alloc (grow_alloc (grow_alloc (grow_alloc (.refl _ w) o1) o2) o3) o4) o5
set_option maxHeartbeats 4000000 in
theorem Code_errno (n:Int) (h0 : -9223372036854775808≤n) (h1:n≤9223372036854775807) (w:World) (hg:w.cell? ⟨0,0,none⟩=some (.iface 302 (.agg #[.pointer (some ⟨2,32,none⟩)]))) :
  Calls Tryz.prog 14 #[.iface 39 (.int .i64 n)] w λev w'=>ev=.returned (.int .i64 n)∧Grow w w':=by
 have hlt:0<w.heap.size:=by
  rcases Nat.eq_zero_or_pos w.heap.size with h0 | h
  ·simp [World.cell?,h0] at hg
  ·exact h
 have hgA:(w.alloc (.cells #[.int .i64 0] 39)).cell? ⟨0,0,none⟩=some (.iface 302 (.agg #[.pointer (some ⟨2,32,none⟩)])):=by
  rw [World.cell?_alloc_lt _ _ ⟨0,0,none⟩ hlt];exact hg
 have htA:(w.alloc (.cells #[.int .i64 0] 39)).cell? ⟨w.heap.size,0,none⟩=some (.int .i64 0):=by simp
 have hfA:(w.alloc (.cells #[.int .i64 0] 39)).frozen? ⟨w.heap.size,0,none⟩=false:=by simp
 have hw:IntKind.wrap .i64 n=n:=wrap_id h0 h1
 go_enter Tryz.func14,Tryz.ntmps14
 go_wp2_with (first | (go_at_call 67;refine (as_hit n _ (.int .i64 0) _ hgA htA hfA).mono ?_;rintro e w' ⟨rfl,rfl⟩))
 go_ret
 refine ⟨by simp,grow5 _ _ _ _ _ _⟩
end Go.Vc
namespace Go.Vc
open Go Go.RowKit Go.Extern.Stop Go.Stop Go.Extern Go.Proofs
end Go.Vc
namespace Go.Vc
open Go Go.RowKit Go.Extern.Stop Go.Stop Go.Extern Go.Proofs
end Go.Vc
namespace Go.Vc
open Go Go.RowKit Go.Extern.Stop Go.Stop Go.Extern Go.Proofs
def ErrT (w:World):Prop:=w.cell? ⟨0,0,none⟩=some (.iface 302 (.agg #[.pointer (some ⟨2,32,none⟩)]))
theorem Code_errno_spec {n:Int} {w:World} {K:Value→World→Prop} (h:ErrT w) (h0 : -9223372036854775808≤n) (h1:n≤9223372036854775807) (hK:∀w',Grow w w'→K (.int .i64 n) w'):CallV PR F.api_Code #[.iface T.api_Errno (.int .i64 n)] w K:=
 callV_of (Code_errno n h0 h1 w h) λe w' ⟨he,g⟩=>⟨_,he,hK _ g⟩
end Go.Vc
namespace Go.Vc
open Go Go.ChangeShapes Go.WideShapes Go.ChangeAt Go.RowKit Go.Deep Go.Proofs Go.Proofs.YtcfbeaibcgjihaaGreatDoor
theorem gErr:PR.globalNamed "errors.errorType" = some 0:=by kernel_rfl
theorem rtN:(PR.cutTypes.find? (·.1 == "internal/reflectlite.rtype")).map (·.2)=some T.reflectlite_rtype:=by kernel_rfl
theorem tsize:PR.types.size=437:=by kernel_rfl
theorem oneRow:((List.range 437).filter λt=>PR.rowNamed t [101,114,114,111,114])=[T.error]:=by kernel_rfl
theorem errT_of {W:World} (h:laidMetH PR [("errors.errorType", Rows.laid_errors_errorType)] W):ErrT W:=by
 obtain ⟨_,h2⟩:=laidMetH_iff.1 h
 obtain ⟨name,u,ty,e1,e2,e3,e4,e5⟩:=h2 ("errors.errorType", Rows.laid_errors_errorType) (by
  refine List.mem_filter.2 ⟨?_,rfl⟩
  exact .head _)
 have en:name=[101,114,114,111,114]:=(Option.some.inj e1).symm
 subst en
 obtain rfl:=Option.some.inj (rtN.symm.trans e2)
 have hm:ty∈(List.range 437).filter λt=>PR.rowNamed t [101,114,114,111,114]:=List.mem_filter.2 ⟨List.mem_range.2 (by rw [← tsize];exact e3),e4⟩
 rw [oneRow] at hm
 obtain rfl:=List.mem_singleton.1 hm
 have hh:typeHandle PR T.error=.pointer (some ⟨2,T.error,none⟩):=by kernel_rfl
 rw [hh] at e5
 have:=World.var?_cell gErr e5 0
 unfold ErrT
 simpa using this
noncomputable def laidWorld (os:Os):World:=
 let w0:=World.holding Tryz.prog os ⟨#[],#[],[]⟩
 let put (h:Array Obj) (g:Nat) (cs:Array Value):Array Obj:=h.modify g fun
  | .cells _ t frozen=>.cells cs t frozen
  | o=>o
 { w0 with heap:=put w0.heap 0 #[.iface T.reflectlite_rtype (.agg #[.pointer (some ⟨2,T.error,none⟩)])] }
theorem laid_met (os:Os) (args:Array Value):laidMetH Tryz.prog [("errors.errorType", Rows.laid_errors_errorType)] ((laidWorld os).forCall (λ_ _=>0) ⟨#[],args,[]⟩).memory:=
 laidMetH_of_parts (LaidIn.of_run (l:=[("errors.errorType", Rows.laid_errors_errorType)].filter λx=>x.2.handleName?.isNone) [] 8 (by kernel_rfl) (by kernel_rfl) (by kernel_rfl) (by kernel_rfl)).met (by kernel_rfl)
end Go.Vc
namespace Go.Vc
open Go
def shL (l:List UInt8) (a:Nat):(Nat × Nat) ⊕ Nat:=match getShort 0 0 (l.drop a) with
 | .inl (x,k)=>.inl (x,a+k)
 | .inr c=>.inr c
def txL (l:List UInt8) (a:Nat):(List UInt8 × Nat) ⊕ Nat:=match shL l a with
 | .inr c=>.inr c
 | .inl (n,b)=>if n>l.length - b then .inr 3 else .inl ((l.drop b).take n,b+n)
structure MsgL where
 kind:Int
 ver:Int
 i:Int
 text:List UInt8
 proof:List (List UInt8)
end Go.Vc
namespace Go.Vc
open Go
def msgLC (m:MsgL) (q:Option Addr) (c:Nat):Value:=.agg #[.int .i64 m.kind,.int .i64 m.ver,.int .i64 m.i,.string (str m.text),.slice q m.proof.length c]
def msg0:Value:=.agg #[.int .i64 0,.int .i64 0,.int .i64 0,.string ⟨#[]⟩,.slice none 0 0]
theorem shL_at {l r:List UInt8} {a n:Nat} (hn:n≤72057594037927935) (h:l.drop a=putShort n++r):∃b,shL l a=.inl (n,b)∧l.drop b=r:=by
 refine ⟨a+(putShort n).length,?_,?_⟩
 ·unfold shL;rw [h,getShort_of hn]
 ·rw [← List.drop_drop,h,List.drop_left' rfl]
theorem txL_at {l t r:List UInt8} {a:Nat} (hn:t.length≤1099511627776) (h:l.drop a=putShort t.length++(t++r)):∃b,txL l a=.inl (t,b)∧l.drop b=r:=by
 obtain ⟨b,h1,h2⟩:=shL_at (n:=t.length) (by omega) h
 refine ⟨b+t.length,?_,?_⟩
 ·unfold txL;rw [h1]
  have:=congrArg List.length h2
  rw [List.length_drop,List.length_append] at this
  simp only []
  rw [if_neg (by omega),h2,List.take_left' rfl]
 ·rw [← List.drop_drop,h2,List.drop_left' rfl]
end Go.Vc
namespace Go.Vc
open Go
theorem aG_ (k0:Nat) (z1:ByteArray) (m2:Int) (u3:Value) (S:SP) (K:KP) (w:World) (hF:Fs S w [⟨k0,#[.string z1,.int .i64 m2,u3],187,true⟩] w) (hS:S k0∧True) (h:(u3=.nilIface→(∀w0,Fr S w w [] [⟨k0,#[.string z1,Iv m2,u3],187,true⟩] w0→CallV PR 155 #[.string z1,Iv m2] w0 λv0 w1=>∃n0 n1 v1,v0=.tuple #[Iv n0,Iv n1,v1]∧Fs S w [⟨k0,#[.string z1,Iv m2,u3],187,true⟩] w1∧(oneC v1:Bool)=true∧∀w2,Fr S w w1 [k0,k0] [⟨k0,#[.string z1,Iv n1,v1],187,true⟩] w2→K (Iv n0) w2)∧∀w3,Fr S w w [] [⟨k0,#[.string z1,Iv m2,u3],187,true⟩] w3→CallV PR 155 #[.string z1,Iv m2] w3 λv2 w4=>∃n2 n3 v3,v2=.tuple #[Iv n2,Iv n3,v3]∧Fs S w [⟨k0,#[.string z1,Iv m2,u3],187,true⟩] w4∧(oneC v3:Bool)=true∧∀w5,Fr S w w4 [k0,k0] [⟨k0,#[.string z1,Iv n3,v3],187,true⟩] w5→K (Iv n2) w5)∧(∀x0 v4,u3=.iface x0 v4→K (Iv 0) w)∧(u3=.nilIface∨∃l0 v5,u3=.iface l0 v5)):CallV PR 96 ⟨[.pointer (some ⟨k0,0,none⟩)]⟩ w K:=
 call_of_vc3 (okf:=⟨okL,[]⟩) okL_ok (args:=[.c (.p 0 k0 true 0)]) (H:=[⟨k0,.l [.v (.string z1),.v (.int .i64 m2),.v u3],187,true⟩]) (.s .z (.s .z (.s .z (.s (.r ⟨(some [0]),false,[0],[(998,[])]⟩) .z)))) Go.Proofs.Tryz.func96 rfl ⟨rfl,trivial⟩ ⟨⟨trivial,⟨trivial,⟨trivial,trivial⟩⟩⟩,trivial⟩ hF hS (cast_vc (by kernel_rfl) h)
end Go.Vc
namespace Go.Vc
open Go
theorem av_ {l r:List UInt8} {at_:Nat} {n:Int} (hl:l.length≤1099511627776) (hn:0≤n∧n≤72057594037927935) (hat:at_≤l.length) (hd:l.drop at_=putShort n.toNat++r) {w:World} {K:Value→World→Prop}
  (hK:K (.tuple #[.int .i64 n,.int .i64 ((at_+(putShort n.toNat).length:Nat):Int),.nilIface]) w):CallV PR F.octet_Short ⟨[.string (str l),.int .i64 (at_:Int)]⟩ w K:=by
 refine Short_spec (by rw [str_size];omega) (λh=>absurd ⟨by omega,by rw [str_size];omega⟩ h) λ_=>?_
 rw [str_data,Int.toNat_natCast,hd,getShort_of (by omega)]
 show K (.tuple #[.int .i64 ((n.toNat:Nat):Int),.int .i64 ((at_:Int)+((putShort n.toNat).length:Nat)),.nilIface]) w
 rw [show ((n.toNat:Nat):Int)=n by omega,show (at_:Int)+((putShort n.toNat).length:Nat)=((at_+(putShort n.toNat).length:Nat):Int) by omega]
 exact hK
theorem bj_ {l t r:List UInt8} {at_:Nat} (hl:l.length≤1099511627776) (hat:at_≤l.length) (hd:l.drop at_=putShort t.length++(t++r)) {w:World} {K:Value→World→Prop}
  (hK:K (.tuple #[.string (str t),.int .i64 ((at_+(putShort t.length).length+t.length:Nat):Int),.nilIface]) w):CallV PR F.octet_Text ⟨[.string (str l),.int .i64 (at_:Int),.int .i64 72057594037927935]⟩ w K:=by
 have hlen:l.length - at_=(putShort t.length).length+(t.length+r.length):=by rw [← List.length_drop,hd,List.length_append,List.length_append]
 refine octet_Text (str l) at_ 72057594037927935 S0 K w (av_ (n:=((t.length:Nat):Int)) hl (by omega) hat hd ⟨_,_,_,rfl,.init _ w,λ_=>⟨λh=>by omega,λ_=>⟨λh=>?_,λ_=>?_⟩⟩,(λt x h=>by cases h),.inl rfl⟩)
 ·rw [str_size,Int.toNat_natCast,w64 (by omega) (by omega)] at h;omega
 ·rw [str_size,Int.toNat_natCast,w64 (by omega) (by omega)]
  refine ⟨by omega,by omega,by omega,by omega,?_⟩
  have ex:ByteArray.extract (str l) (Int.toNat ((at_+(putShort t.length).length:Nat):Int)) (Int.toNat (((at_+(putShort t.length).length:Nat):Int)+((t.length:Nat):Int)))=str t:=by
   rw [extract_str,show Int.toNat ((at_+(putShort t.length).length:Nat):Int)=at_+(putShort t.length).length by omega,← List.drop_drop,hd,List.drop_left' rfl,List.take_left' (by omega)]
  rw [ex,show ((at_+(putShort t.length).length:Nat):Int)+((t.length:Nat):Int)=((at_+(putShort t.length).length+t.length:Nat):Int) by omega]
  exact hK
def posL (nums:List Int) (k:Nat):Nat:=(shorts (nums.take k)).length
theorem aJ_ (nums:List Int) (k:Nat):shorts nums=shorts (nums.take k)++shorts (nums.drop k):=by
 unfold shorts;rw [← List.flatMap_append,List.take_append_drop]
theorem a4_ {nums:List Int} {k:Nat} (hk:k<nums.length) (tail:List UInt8):(shorts nums++tail).drop (posL nums k)=putShort nums[k].toNat++(shorts (nums.drop (k+1))++tail):=by
 have e:shorts (nums.drop k)=putShort nums[k].toNat++shorts (nums.drop (k+1)):=by rw [List.drop_eq_getElem_cons hk];unfold shorts;rw [List.flatMap_cons]
 rw [aJ_ nums k,List.append_assoc,posL,List.drop_left' rfl,e,List.append_assoc]
theorem bP_ {nums:List Int} {k:Nat} (hk:k<nums.length):posL nums (k+1)=posL nums k+(putShort nums[k].toNat).length:=by
 unfold posL;rw [shorts_next hk,List.length_append]
theorem bQ_ (nums:List Int) (k:Nat) (tail:List UInt8):posL nums k≤(shorts nums++tail).length:=by
 rw [aJ_ nums k,posL,List.append_assoc,List.length_append];omega
theorem ae_ {nums:List Int} {tail:List UInt8} {k:Nat} (hl:(shorts nums++tail).length≤1099511627776) (hn:∀n∈nums,0≤n∧n≤72057594037927935) (hk:k<nums.length) {w:World} {b:Nat}
  (hb:w.heap[b]? = some (.cells #[.string (str (shorts nums++tail)),.int .i64 (posL nums k:Nat),.nilIface] T.manifest_reader (0,0))) {K:Value→World→Prop}
  (hK:∀w',w'.heap[b]? = some (.cells #[.string (str (shorts nums++tail)),.int .i64 (posL nums (k+1):Nat),.nilIface] T.manifest_reader (0,0))→Chg (· = b) w w'→K (.int .i64 nums[k]) w'):CallV PR F.p_manifest_reader_short ⟨[.pointer (some ⟨b,0,none⟩)]⟩ w K:=by
 have one:∀w0:World,Fr (· = b) w w [] [⟨b,#[.string (str (shorts nums++tail)),.int .i64 (posL nums k:Nat),.nilIface],T.manifest_reader,true⟩] w0→CallV PR F.octet_Short #[.string (str (shorts nums++tail)),.int .i64 (posL nums k:Nat)] w0 (λv0 w1=>∃n0:Int,∃n1:Int,∃v1:Value,v0=.tuple #[.int .i64 n0,.int .i64 n1,v1]∧Fs (· = b) w [⟨b,#[.string (str (shorts nums++tail)),.int .i64 (posL nums k:Nat),.nilIface],T.manifest_reader,true⟩] w1∧(oneC v1:Bool)=true∧∀w2:World,Fr (· = b) w w1 [b,b] [⟨b,#[.string (str (shorts nums++tail)),.int .i64 n1,v1],T.manifest_reader,true⟩] w2→K (.int .i64 n0) w2):=λw0 hF0=>by
  refine av_ hl (hn _ (List.getElem_mem hk)) (bQ_ _ _ _) (a4_ hk tail) ⟨_,_,_,rfl,hF0.reset,rfl,λw2 hF2=>?_⟩
  rw [← bP_ hk] at hF2
  exact hK w2 (hF2.blk 0 rfl) hF2.chg
 exact aG_ b _ _ _ (· = b) K w ((Fr.init _ w).entry hb (λx h=>by cases h) λ_=>rfl) ⟨rfl,trivial⟩ ⟨λ_=>⟨one,one⟩,(λt x h=>by cases h),.inl rfl⟩
end Go.Vc
namespace Go.Vc
open Go
section
variable {S:Nat→Prop} {w0 wp w:World} {M:List Nat} {L:List Blk}
theorem Fr.aC_ (h:Fr S w0 wp M L w) (j:Nat) {b:Nat} {cs cs':Array Value} {T:TypeId} (hj:L[j]? = some ⟨b,cs,T,true⟩) (L':List Blk) (hL:L'=L.set j ⟨b,cs',T,true⟩) {w':World} (g:Chg (· = b) w w') (hb:w'.heap[b]? = some (.cells cs' T (0,0))):Fs S w0 L' w':=by
 subst hL
 have hm:=List.mem_of_getElem? hj
 refine ⟨h.chg.trans g λk hk e=>?_,.refl _ _,λy hy=>?_,?_,λy hy hwy=>?_⟩
 ·have e':k=b:=e
  subst e'
  rcases h.new _ hm rfl with h1 | h1
  ·exact h1
  ·simp only [] at h1;omega
 ·rcases set_mem hy with rfl | ⟨i',hi',he⟩
  ·exact hb
  ·refine g.get (h.loc y (List.mem_of_getElem? he)) λe=>?_
   have e':y.b=b:=e
   have h1:(L.map (·.b))[i']? = some y.b:=by simp [he]
   have h2:(L.map (·.b))[j]? = some b:=by simp [hj]
   rw [e'] at h1
   have hl1:i'<(L.map (·.b)).length:=(List.getElem?_eq_some_iff.1 h1).1
   exact hi' ((List.getElem?_inj hl1 h.nodup).1 (h1.trans h2.symm))
 ·have:(L.set j ⟨b,cs',T,true⟩).map (·.b)=L.map (·.b):=by
   rw [List.map_set]
   apply List.ext_getElem?
   intro n
   rw [List.getElem?_set]
   split
   ·rename_i e;subst e
    simp [hj]
    exact (List.getElem?_eq_some_iff.1 hj).1
   ·rfl
  rw [this];exact h.nodup
 ·rcases set_mem hy with rfl | ⟨i',hi',he⟩
  ·have:=h.new _ hm rfl
   exact this
  ·exact h.new y (List.mem_of_getElem? he) hwy
end
theorem aT_:∀(l:List (Int × Int)) (k:Nat) (hk:k<l.length),(pairsL l)[2*k]? = some l[k].1∧(pairsL l)[2*k+1]? = some l[k].2
 | (a,b) :: l,0,_=>⟨rfl,rfl⟩
 | (a,b) :: l,k+1,hk=>by
  have ih:=aT_ l k (by simpa using hk)
  have e:pairsL ((a,b) :: l)=a :: b :: pairsL l:=rfl
  rw [e,show 2*(k+1)=2*k+1+1 by omega,List.getElem?_cons_succ,List.getElem?_cons_succ,List.getElem?_cons_succ,List.getElem?_cons_succ]
  exact ih
theorem b8_ (m:Man):m.nums.length=5+2*m.shards.length:=by
 unfold Man.nums
 simp only [List.length_append,List.length_cons,List.length_nil,pairsL_len];omega
theorem b9_ (m:Man) {k:Nat} (hk:k<m.shards.length) (h:4+2*k<m.nums.length):m.nums[4+2*k]=m.shards[k].1:=by
 have h1:=(aT_ m.shards k hk).1
 have hp:=pairsL_len m.shards
 have e:m.nums[4+2*k]? = some m.shards[k].1:=by
  unfold Man.nums
  rw [List.append_assoc,List.getElem?_append_right (by simp),List.getElem?_append_left (by simp;omega),← h1]
  congr 1
  simp
 rw [List.getElem?_eq_getElem h] at e
 exact Option.some.inj e
theorem b7_ (m:Man) {k:Nat} (hk:k<m.shards.length) (h:5+2*k<m.nums.length):m.nums[5+2*k]=m.shards[k].2:=by
 have h1:=(aT_ m.shards k hk).2
 have hp:=pairsL_len m.shards
 have e:m.nums[5+2*k]? = some m.shards[k].2:=by
  unfold Man.nums
  rw [List.append_assoc,List.getElem?_append_right (by simp;omega),List.getElem?_append_left (by simp;omega),← h1]
  congr 1
  simp;omega
 rw [List.getElem?_eq_getElem h] at e
 exact Option.some.inj e
theorem bR_ (m:Man) (h:4+2*m.shards.length<m.nums.length):m.nums[4+2*m.shards.length]=m.blocks:=by
 have hp:=pairsL_len m.shards
 have e:m.nums[4+2*m.shards.length]? = some m.blocks:=by
  unfold Man.nums
  rw [List.getElem?_append_right (by simp;omega)]
  simp only [List.length_append,List.length_cons,List.length_nil,hp]
  rw [show 4+2*m.shards.length - (0+1+1+1+1+2*m.shards.length)=0 by omega]
  rfl
 rw [List.getElem?_eq_getElem h] at e
 exact Option.some.inj e
theorem ct_ {m:Man} (h:m.ok) {w:World} {K:Value→World→Prop}
  (hK:∀w' q c,Grow w w'→Own T.api_Shard 2 w' q c (encE m.shards)→m.shards.length≤c→Off (λj=>j<w.heap.size) q→K (.tuple #[mval m q c,.nilIface]) w'):CallV PR F.manifest_Get ⟨[.string (str (putMan m))]⟩ w K:=by
 have hn:=h.nums
 have hlen:=putMan_len h
 have hnl:=b8_ m
 have hs:=h.shards.1
 have e:putMan m=shorts m.nums++(putShort m.root.length++m.root):=rfl
 rw [e] at hlen ⊢
 refine manifest_Get' _ S0 K w λl0 hl0 l1 hl1 w0 hF0=>?_
 have hle:(shorts m.nums++(putShort m.root.length++m.root)).length≤1099511627776:=by omega
 refine ae_ (k:=0) hle hn (by omega) (hF0.blk 1 rfl) λw1 hb1 g1=>⟨_,rfl,_,_,_,hF0.aC_ 1 rfl _ rfl g1 hb1,?_⟩
 have hF1:=hF0.aC_ 1 rfl _ rfl g1 hb1
 refine ae_ (k:=1) hle hn (by omega) (hF1.blk 1 rfl) λw2 hb2 g2=>⟨_,rfl,_,_,_,hF1.aC_ 1 rfl _ rfl g2 hb2,?_⟩
 have hF2:=hF1.aC_ 1 rfl _ rfl g2 hb2
 refine ae_ (k:=2) hle hn (by omega) (hF2.blk 1 rfl) λw3 hb3 g3=>⟨_,rfl,_,_,_,hF2.aC_ 1 rfl _ rfl g3 hb3,?_⟩
 have hF3:=hF2.aC_ 1 rfl _ rfl g3 hb3
 intro l2 hl2 w4 hF4
 refine ae_ (k:=3) hle hn (by omega) (hF4.blk 1 rfl) λw5 hb5 g5=>⟨_,rfl,_,_,_,hF4.aC_ 1 rfl _ rfl g5 hb5,?_⟩
 have hF5:=hF4.aC_ 1 rfl _ rfl g5 hb5
 have e0:m.nums[0]'(by omega)=m.version:=rfl
 have e1:m.nums[1]'(by omega)=m.nodes:=rfl
 have e2:m.nums[2]'(by omega)=m.edges:=rfl
 have e3:m.nums[3]'(by omega)=((m.shards.length:Nat):Int):=rfl
 rw [e0,e1,e2,e3]
 have b0:l0<w5.heap.size:=hF5.lt _ (List.mem_of_getElem? (i:=0) rfl)
 have b1:l1<w5.heap.size:=hF5.lt _ (List.mem_of_getElem? (i:=1) rfl)
 have b2:l2<w5.heap.size:=hF5.lt _ (List.mem_of_getElem? (i:=2) rfl)
 have hw5:w.heap.size≤w5.heap.size:=hF5.gr.size
 refine ⟨λ_=>⟨λh64=>by omega,λ_=>?_⟩,(λt x h=>by cases h),.inl rfl⟩
 refine ⟨λi s' p er v nn ed q l c bl rt mm w'=>∃k:Nat,i=k∧k≤m.shards.length∧mm=m.shards.length - k∧s'=str (shorts m.nums++(putShort m.root.length++m.root))∧p=(posL m.nums (4+2*k):Nat)∧er=.nilIface∧v=m.version∧nn=m.nodes∧ed=m.edges∧
  Own T.api_Shard 2 w' q c (encE (m.shards.take k))∧l=k∧l≤c∧Off (λj=>j<w5.heap.size) q∧bl=0∧rt=⟨#[]⟩∧w5.heap.size≤w'.heap.size,⟨_,0,rfl,by omega,rfl,rfl,rfl,rfl,rfl,rfl,rfl,.nil _ _ _,rfl,Nat.le_refl _,.none _,rfl,rfl,Nat.le_refl _⟩,?_⟩
 rintro i s' p er v nn ed q l c bl rt D mm w6 ⟨k,rfl,hk,rfl,rfl,rfl,rfl,rfl,rfl,rfl,ho,rfl,hlc,hof,rfl,rfl,hsz⟩ hF6
 refine ⟨λhlt w7 hF7=>?_,λhge=>?_⟩
 ·have hk':l<m.shards.length:=by omega
  refine ⟨λw'=>w'.cell? ⟨l2,3,none⟩=some (.slice q l c),hF7.ld 2 3 rfl rfl rfl,Dr_some.2 ⟨_,_,_,λw8 h=>h,?_⟩⟩
  refine ae_ (k:=4+2*l) hle hn (by omega) (hF7.blk 1 rfl) λw8 hb8 g8=>?_
  have hF8:=hF7.aC_ 1 rfl _ rfl g8 hb8
  refine ⟨_,rfl,_,_,_,hF8,hF8.ld 2 3 rfl rfl rfl,?_⟩
  refine ae_ (k:=5+2*l) hle hn (by omega) (by rw [show 5+2*l=4+2*l+1 by omega];exact hF8.blk 1 rfl) λw9 hb9 g9=>?_
  have hF9:=hF8.aC_ 1 rfl _ rfl g9 hb9
  refine ⟨_,rfl,_,_,_,hF9,hF9.ld 2 3 rfl rfl rfl,λl3 hl3 w10 hF10=>⟨hF10.ld 2 3 rfl rfl rfl,?_⟩⟩
  have g17:Chg (· = l1) w7 w9:=g8.trans g9 λ_ _ e=>e
  have ho9:Own T.api_Shard 2 w9 q c (encE (m.shards.take l)):=(ho.grow hF7.grow).keep g17 λa ha e=>by have:=hof a ha;have e':a.block=l1:=e;omega
  have g10:Grow w9 w10:=hF10.grow
  have s69:w6.heap.size≤w9.heap.size:=Nat.le_trans hF7.grow.size g17.size
  refine app_pair u_shards tyI_shard (ho9.grow g10) (by rw [List.length_take];omega) hlc (ys:=[m.shards[l]]) (by
   have:=hF10.sl 3 rfl
   rw [b9_ m hk',b7_ m hk'] at this
   exact this) rfl (by omega) λq2 c2 w11 ho11 hc11 g11 hq11=>?_
  have hF11:=hF10.app2 g11 w5.heap.size w9.heap.size hof (λa ha=>ho9.lt a ha) (λy hy=>by
   simp only [List.mem_cons,List.not_mem_nil,or_false] at hy
   rcases hy with rfl | rfl | rfl | rfl
   ·exact .inl b0
   ·exact .inl b1
   ·exact .inl b2
   ·exact .inr hl3) hw5
  have hof2:Off (λj=>j<w5.heap.size) q2:=hof.next hq11 (by have:=g10.size;omega)
  refine ⟨_,_,_,rfl,hF11,hF11.ld 2 3 rfl rfl rfl,λw12 hF12=>⟨m.shards.length - (l+1),by omega,l+1,by rw [w64 (by omega) (by omega)];rfl,by omega,rfl,rfl,by rw [show 4+2*(l+1)=5+2*l+1 by omega],rfl,rfl,rfl,rfl,?_,rfl,hc11,hof2,rfl,rfl,?_⟩⟩
  ·rw [take_next hk']
   exact ho11.keep hF12.stp λa ha e=>by
    have:=hof2 a ha
    have e':a.block=l2:=by simpa using e
    omega
  ·have:=hF12.stp.size;have:=g11.size;have:=g10.size;omega
 ·have hkl:l=m.shards.length:=by omega
  subst hkl
  rw [List.take_length] at ho
  refine ae_ (k:=4+2*m.shards.length) hle hn (by omega) (hF6.blk 1 rfl) λw7 hb7 g7=>?_
  have hF7:=hF6.aC_ 1 rfl _ rfl g7 hb7
  rw [bR_ m]
  have ho7:Own T.api_Shard 2 w7 q c (encE m.shards):=ho.keep g7 λa ha e=>by have:=hof a ha;have e':a.block=l1:=e;omega
  refine ⟨_,rfl,_,_,_,hF7,⟨λ_ w8 hF8=>?_,(λt x h=>by cases h),.inl rfl⟩⟩
  have ho8:Own T.api_Shard 2 w8 q c (encE m.shards):=ho7.keep hF8.stp λa ha e=>by have:=hof a ha;have e':a.block=l2:=by simpa using e
                                                                                  omega
  have hps:posL m.nums (4+2*m.shards.length+1)=(shorts m.nums).length:=by
   unfold posL;rw [List.take_of_length_le (by omega)]
  have hat:posL m.nums (4+2*m.shards.length+1)≤(shorts m.nums++(putShort m.root.length++m.root)).length:=bQ_ _ _ _
  refine bj_ (t:=m.root) (r:=[]) hle hat (by rw [hps,List.drop_left' rfl,List.append_nil]) ⟨_,_,_,rfl,hF8.reset,rfl,⟨λ_=>⟨λhlt=>?_,λ_ w9 hF9=>?_⟩,(λt x h=>by cases h),.inl rfl⟩⟩
  ·rw [str_size,List.length_append,List.length_append,hps] at hlt;omega
  ·have ho9:Own T.api_Shard 2 w9 q c (encE m.shards):=ho8.keep hF9.stp λa ha e=>by
    have:=hof a ha
    have e':a.block=l1∨a.block=l2:=by simpa using e
    omega
   refine MCheck_ok h ho9.sl λw10 g10=>⟨_,rfl,hF9.reset.after g10,⟨λ_ w11 hF11=>?_,(λt x h=>by cases h),.inl rfl⟩⟩
   refine hK w11 q c hF11.gr ((ho9.grow g10).keep hF11.stp λa ha e=>?_) hlc (hof.mono hw5)
   have:=hof a ha
   have e':a.block=l0:=by simpa using e
   omega
end Go.Vc
namespace Go.Vc
open Go
theorem a6_ (k0:Nat) (y1:Option Addr) (ly1:Nat) (cy1:Nat) (g2:Option Nat) (m3:Int) (S:SP) (K:KP) (w:World) (hF:Fs S w [⟨k0,#[.slice y1 ly1 cy1,.map g2],216,true⟩] w) (hS:S k0∧True) (h:(m3<0→K (.tuple #[.slice none 0 0,.iface 39 (Iv 2)]) w)∧(¬(m3<0)→(m3≥(ly1:Int)→K (.tuple #[.slice none 0 0,.iface 39 (Iv 2)]) w)∧(¬(m3≥(ly1:Int))→∀l0,w.heap.size≤l0→∀w0,Fr S w w [l0] [⟨k0,#[.slice y1 ly1 cy1,.map g2],216,true⟩,⟨l0,#[Iv 0,Iv (ly1:Int)],218,true⟩] w0→let B0:Blk:=⟨k0,#[.slice y1 ly1 cy1,.map g2],216,true⟩;∃I0:(Option Addr)→Nat→Nat→(Option Addr)→Nat→World→Prop,(∃l1,I0 none 0 0 (some (⟨l0,0,none⟩)) l1 w0)∧∀q0 l2 l3 q1,∀D0:Nat→Value,∀l4 w1,I0 q0 l2 l3 q1 l4 w1→Fs S w [B0] w1→Dr q1 λa0=>Dr (some (Addr.add a0 1)) λa1=>∃n0,World.cell? w1 a1=some (Iv n0)∧(n0>1→Dr q1 λa2=>Dr (some (Addr.add a2 1)) λa3=>∃n1,World.cell? w1 a3=some (Iv n1)∧CallV PR 115 #[Iv n1] w1 λv0 w2=>∃n2,v0=Iv n2∧Fs S w [B0] w2∧∀w3,Fr S w w2 [] [B0] w3→∃I1:World→Prop,I1 w3∧Dr q1 λa4=>Dr (some (Addr.add a4 0)) λa5=>∃n3,(∀w4,I1 w4→World.cell? w4 a5=some (Iv n3))∧Dr q1 λa6=>Dr (some (Addr.add a6 0)) λa7=>∃n4,(∀w5,I1 w5→World.cell? w5 a7=some (Iv n4))∧Dr q1 λa8=>Dr (some (Addr.add a8 1)) λa9=>∃n5,(∀w6,I1 w6→World.cell? w6 a9=some (Iv n5))∧(∀l5,w3.heap.size≤l5→∀w7,Fr S w w3 [] [B0,⟨l5,#[Iv 0,Iv 0],218,true⟩] w7→I1 w7∧∀l6,w7.heap.size≤l6→∀w8,Fr S w w7 [] [B0,⟨l5,#[Iv 0,Iv 0],218,true⟩,⟨l6,#[Iv 0,Iv 0],218,true⟩] w8→I1 w8∧∀w9,Fr S w w8 [l5] [B0,⟨l5,#[Iv n3,Iv n2],218,true⟩,⟨l6,#[Iv 0,Iv 0],218,true⟩] w9→let B1:Blk:=⟨l5,#[Iv n3,Iv n2],218,true⟩;I1 w9∧Dr q1 λa10=>∀w10,Fr S w w9 [l6] [B0,B1,⟨l6,#[Iv (IntKind.wrap .i64 (n4+n2)),Iv (IntKind.wrap .i64 (n5 - n2))],218,true⟩] w10→let B2:Blk:=⟨l6,#[Iv (IntKind.wrap .i64 (n4+n2)),Iv (IntKind.wrap .i64 (n5 - n2))],218,true⟩;Dr (some (Addr.add a10 0)) λa11=>∃n6,World.cell? w10 a11=some (Iv n6)∧(m3<IntKind.wrap .i64 (n6+n2)→∀w11,Fr S w w10 [] [B0,B1,B2] w11→∃I2:World→Prop,I2 w11∧rn PR (Instr.lookup 214 (.map g2) (.agg #[Iv (IntKind.wrap .i64 (n4+n2)),Iv (IntKind.wrap .i64 (n5 - n2))]) false) (λv1 w12=>∃s0,v1=.string s0∧Fs S w [B0,B1,B2] w12∧I2 w12∧∀l7,w12.heap.size≤l7→∀w13,Fr S w w12 [] [B0,B1,B2,⟨l7,#[.string s0],9,true⟩] w13→I2 w13∧rn PR (Builtin.append_ #[45,45] 45 #[.slice (some (⟨l7,0,none⟩)) 1 1,.slice q0 l2 l3]) (λv2 w14=>∃q2 l8 l9,v2=.slice q2 l8 l9∧Fs S w [B0,B1,B2,⟨l7,#[.string s0],9,true⟩] w14∧I2 w14∧Dr q1 λa12=>StC w14 (Addr.add a12 0) (Iv n3) λw15=>StC w15 (Addr.add a12 1) (Iv n2) λw16=>Fs S w [B0,B1,B2,⟨l7,#[.string s0],9,true⟩] w16∧Dr q1 λa13=>∃n7,World.cell? w16 (Addr.add a13 0)=some (Iv n7)∧∃n8,World.cell? w16 (Addr.add a13 1)=some (Iv n8)∧∀l10,w16.heap.size≤l10→∀w17,Fr S w w16 [l10] [B0,⟨l10,#[Iv n7,Iv n8],218,true⟩] w17→∃l11,l11<l4∧I0 q2 l8 l9 (some (⟨l10,0,none⟩)) l11 w17) w13) w11)∧(¬(m3<IntKind.wrap .i64 (n6+n2))→∀w18,Fr S w w10 [] [B0,B1,B2] w18→∃I3:World→Prop,I3 w18∧rn PR (Instr.lookup 214 (.map g2) (.agg #[Iv n3,Iv n2]) false) (λv3 w19=>∃s1,v3=.string s1∧Fs S w [B0,B1,B2] w19∧I3 w19∧∀l12,w19.heap.size≤l12→∀w20,Fr S w w19 [] [B0,B1,B2,⟨l12,#[.string s1],9,true⟩] w20→I3 w20∧rn PR (Builtin.append_ #[45,45] 45 #[.slice (some (⟨l12,0,none⟩)) 1 1,.slice q0 l2 l3]) (λv4 w21=>∃q3 l13 l14,v4=.slice q3 l13 l14∧Fs S w [B0,B1,B2,⟨l12,#[.string s1],9,true⟩] w21∧I3 w21∧Dr q1 λa14=>StC w21 (Addr.add a14 0) (Iv (IntKind.wrap .i64 (n4+n2))) λw22=>StC w22 (Addr.add a14 1) (Iv (IntKind.wrap .i64 (n5 - n2))) λw23=>Fs S w [B0,B1,B2,⟨l12,#[.string s1],9,true⟩] w23∧Dr q1 λa15=>∃n9,World.cell? w23 (Addr.add a15 0)=some (Iv n9)∧∃n10,World.cell? w23 (Addr.add a15 1)=some (Iv n10)∧∀l15,w23.heap.size≤l15→∀w24,Fr S w w23 [l15] [B0,⟨l15,#[Iv n9,Iv n10],218,true⟩] w24→∃l16,l16<l4∧I0 q3 l13 l14 (some (⟨l15,0,none⟩)) l16 w24) w20) w18))∧∀l17,w3.heap.size≤l17→∀w25,Fr S w w3 [] [B0,⟨l17,#[Iv 0,Iv 0],218,true⟩] w25→I1 w25∧∀l18,w25.heap.size≤l18→∀w26,Fr S w w25 [] [B0,⟨l17,#[Iv 0,Iv 0],218,true⟩,⟨l18,#[Iv 0,Iv 0],218,true⟩] w26→I1 w26∧∀w27,Fr S w w26 [l18] [B0,⟨l17,#[Iv 0,Iv 0],218,true⟩,⟨l18,#[Iv n3,Iv n2],218,true⟩] w27→let B3:Blk:=⟨l18,#[Iv n3,Iv n2],218,true⟩;I1 w27∧Dr q1 λa16=>∀w28,Fr S w w27 [l17] [B0,⟨l17,#[Iv (IntKind.wrap .i64 (n4+n2)),Iv (IntKind.wrap .i64 (n5 - n2))],218,true⟩,B3] w28→let B4:Blk:=⟨l17,#[Iv (IntKind.wrap .i64 (n4+n2)),Iv (IntKind.wrap .i64 (n5 - n2))],218,true⟩;Dr (some (Addr.add a16 0)) λa17=>∃n11,World.cell? w28 a17=some (Iv n11)∧(m3<IntKind.wrap .i64 (n11+n2)→∀w29,Fr S w w28 [] [B0,B4,B3] w29→∃I4:World→Prop,I4 w29∧rn PR (Instr.lookup 214 (.map g2) (.agg #[Iv (IntKind.wrap .i64 (n4+n2)),Iv (IntKind.wrap .i64 (n5 - n2))]) false) (λv5 w30=>∃s2,v5=.string s2∧Fs S w [B0,B4,B3] w30∧I4 w30∧∀l19,w30.heap.size≤l19→∀w31,Fr S w w30 [] [B0,B4,B3,⟨l19,#[.string s2],9,true⟩] w31→I4 w31∧rn PR (Builtin.append_ #[45,45] 45 #[.slice (some (⟨l19,0,none⟩)) 1 1,.slice q0 l2 l3]) (λv6 w32=>∃q4 l20 l21,v6=.slice q4 l20 l21∧Fs S w [B0,B4,B3,⟨l19,#[.string s2],9,true⟩] w32∧I4 w32∧Dr q1 λa18=>StC w32 (Addr.add a18 0) (Iv n3) λw33=>StC w33 (Addr.add a18 1) (Iv n2) λw34=>Fs S w [B0,B4,B3,⟨l19,#[.string s2],9,true⟩] w34∧Dr q1 λa19=>∃n12,World.cell? w34 (Addr.add a19 0)=some (Iv n12)∧∃n13,World.cell? w34 (Addr.add a19 1)=some (Iv n13)∧∀l22,w34.heap.size≤l22→∀w35,Fr S w w34 [l22] [B0,⟨l22,#[Iv n12,Iv n13],218,true⟩] w35→∃l23,l23<l4∧I0 q4 l20 l21 (some (⟨l22,0,none⟩)) l23 w35) w31) w29)∧(¬(m3<IntKind.wrap .i64 (n11+n2))→∀w36,Fr S w w28 [] [B0,B4,B3] w36→∃I5:World→Prop,I5 w36∧rn PR (Instr.lookup 214 (.map g2) (.agg #[Iv n3,Iv n2]) false) (λv7 w37=>∃s3,v7=.string s3∧Fs S w [B0,B4,B3] w37∧I5 w37∧∀l24,w37.heap.size≤l24→∀w38,Fr S w w37 [] [B0,B4,B3,⟨l24,#[.string s3],9,true⟩] w38→I5 w38∧rn PR (Builtin.append_ #[45,45] 45 #[.slice (some (⟨l24,0,none⟩)) 1 1,.slice q0 l2 l3]) (λv8 w39=>∃q5 l25 l26,v8=.slice q5 l25 l26∧Fs S w [B0,B4,B3,⟨l24,#[.string s3],9,true⟩] w39∧I5 w39∧Dr q1 λa20=>StC w39 (Addr.add a20 0) (Iv (IntKind.wrap .i64 (n4+n2))) λw40=>StC w40 (Addr.add a20 1) (Iv (IntKind.wrap .i64 (n5 - n2))) λw41=>Fs S w [B0,B4,B3,⟨l24,#[.string s3],9,true⟩] w41∧Dr q1 λa21=>∃n14,World.cell? w41 (Addr.add a21 0)=some (Iv n14)∧∃n15,World.cell? w41 (Addr.add a21 1)=some (Iv n15)∧∀l27,w41.heap.size≤l27→∀w42,Fr S w w41 [l27] [B0,⟨l27,#[Iv n14,Iv n15],218,true⟩] w42→∃l28,l28<l4∧I0 q5 l25 l26 (some (⟨l27,0,none⟩)) l28 w42) w38) w36))∧(¬(n0>1)→K (.tuple #[.slice q0 l2 l3,.nilIface]) w1)))):CallV PR 58 ⟨[.pointer (some ⟨k0,0,none⟩),.int .i64 m3]⟩ w K:=
 call_of_vc3 (okf:=⟨okL,[]⟩) okL_ok (args:=[.c (.p 0 k0 true 0),.c (.v (.int .i64 m3))]) (H:=[⟨k0,.l [.v (.slice y1 ly1 cy1),.v (.map g2)],216,true⟩]) (.s .z (.s .z (.s .z (.s (.s (.r ⟨(some [0]),true,[],[]⟩) (.b (.l (some [0,7]) (some [0]) [(6,.c (.sl)),(7,.c (.ptr))] [] (.s .z (.s (.b (.s (.r ⟨(some [0,7]),true,[],[]⟩) (.s (.r ⟨(some [0,7]),true,[],[]⟩) (.s (.s .z (.c (.s (.r ⟨(some [0,7,9,10]),true,[7],[]⟩) .z) .z)) (.r ⟨(some [0,7,9,10]),true,[7],[]⟩))))) (.s .z (.r ⟨(some [0,79]),true,[],[]⟩))))))) .z)))) Go.Proofs.Tryz.func58 rfl ⟨rfl,trivial,trivial⟩ ⟨⟨trivial,⟨trivial,trivial⟩⟩,trivial⟩ hF hS (cast_vc (by kernel_rfl) h)
theorem bO_ (k0:Nat) (p1:Option Addr) (m2:Int) (m3:Int) (m4:Int) (g5:Option Nat) (m6:Int) (m7:Int) (S:SP) (K:KP) (w:World) (hF:Fs S w [⟨k0,#[.pointer p1,.int .i64 m2,.int .i64 m3,.int .i64 m4,.map g5],175,true⟩] w) (hS:S k0∧True) (h:∀l0,w.heap.size≤l0→∀w0,Fr S w w [] [⟨k0,#[.pointer p1,Iv m2,Iv m3,Iv m4,.map g5],175,true⟩,⟨l0,#[Iv 0,Iv 0,Iv 0,.string ⟨#[]⟩,.slice none 0 0],61,true⟩] w0→let B1:Blk:=⟨l0,#[Iv 0,Iv 0,Iv 0,.string ⟨#[]⟩,.slice none 0 0],61,true⟩;let B0:Blk:=⟨k0,#[.pointer p1,Iv m2,Iv m3,Iv m4,.map g5],175,true⟩;CallV PR 95 #[.pointer (some (⟨k0,0,none⟩)),Iv m6] w0 λv0 w1=>∃q0 q1 v1,v0=.tuple #[.agg #[.pointer q0,.pointer q1],v1]∧Fs S w [B0,B1] w1∧∀l1,w1.heap.size≤l1→(v1=.nilIface→∀w2,Fr S w w1 [l1] [B0,B1,⟨l1,#[.pointer q0,.pointer q1],182,true⟩] w2→CallV PR 58 #[.pointer q1,Iv m7] w2 λv2 w3=>∃q2 l2 l3 v3,v2=.tuple #[.slice q2 l2 l3,v3]∧Fs S w [B0,B1,⟨l1,#[.pointer q0,.pointer q1],182,true⟩] w3∧(v3=.nilIface→Dr q0 λa0=>Dr (some a0) λa1=>Dr (some (Addr.add a1 6)) λa2=>∃q3 l4 l5,World.cell? w3 a2=some (.slice q3 l4 l5)∧Dr q3 λa3=>(0:Int)≤m7∧m7<(l4:Int)∧Dr (some (Addr.add a3 (Int.toNat m7*1))) λa4=>∃s0,World.cell? w3 a4=some (.string s0)∧∀w4,Fr S w w3 [l0] [B0] w4→K (.tuple #[.agg #[Iv 3,Iv m6,Iv m7,.string s0,.slice q2 l2 l3],.nilIface]) w4)∧(∀x0 v4,v3=.iface x0 v4→∀w5,Fr S w w3 [l0] [B0] w5→K (.tuple #[.agg #[Iv 0,Iv 0,Iv 0,.string ⟨#[]⟩,.slice none 0 0],v3]) w5)∧(v3=.nilIface∨∃l6 v5,v3=.iface l6 v5))∧(∀x1 v6,v1=.iface x1 v6→∀w6,Fr S w w1 [l0,l1] [B0] w6→K (.tuple #[.agg #[Iv 0,Iv 0,Iv 0,.string ⟨#[]⟩,.slice none 0 0],v1]) w6)∧(v1=.nilIface∨∃l7 v7,v1=.iface l7 v7)):CallV PR 47 ⟨[.pointer (some ⟨k0,0,none⟩),.int .i64 m6,.int .i64 m7]⟩ w K:=
 call_of_vc3 (okf:=⟨okL,[]⟩) okL_ok (args:=[.c (.p 0 k0 true 0),.c (.v (.int .i64 m6)),.c (.v (.int .i64 m7))]) (H:=[⟨k0,.l [.v (.pointer p1),.v (.int .i64 m2),.v (.int .i64 m3),.v (.int .i64 m4),.v (.map g5)],175,true⟩]) (.s (.r ⟨(some [0]),false,[],[]⟩) (.s (.r ⟨(some [0,6]),false,[],[]⟩) (.s (.s .z (.c (.s (.r ⟨(some [6]),false,[],[]⟩) .z) .z)) (.s (.r ⟨(some [6,8]),false,[],[]⟩) (.s (.s .z (.c (.s (.r ⟨(some [6]),false,[],[]⟩) .z) .z)) (.s (.r ⟨(some [6,8]),false,[],[]⟩) .z)))))) Go.Proofs.Tryz.func47 rfl ⟨rfl,trivial,trivial,trivial⟩ ⟨⟨trivial,⟨trivial,⟨trivial,⟨trivial,⟨trivial,trivial⟩⟩⟩⟩⟩,trivial⟩ hF hS (cast_vc (by kernel_rfl) h)
end Go.Vc
namespace Go.Vc
open Go
theorem bY_ {w:World} {q2:Option Addr} {l2 c2 b:Nat} {s:List UInt8} {ys:List (List UInt8)} {K:Value→World→Prop}
  (ho:Own T.string 1 w (some ⟨b,0,none⟩) 1 [sv8' s]) (hs:Sl w q2 (ys.map sv8')) (hl2:l2=ys.length) (hroom:l2≤4398046511)
  (hK:∀q' c' w',Own T.string 1 w' q' c' ((s :: ys).map sv8')→1+l2≤c'→Grow w w'→(∀a,q'=some a→a=⟨b,0,none⟩∨a=⟨w.heap.size,0,none⟩)→K (.slice q' (1+l2) c') w') :
  rn PR (Builtin.append_ #[T.sl_string,T.sl_string] T.sl_string #[.slice (some ⟨b,0,none⟩) 1 1,.slice q2 l2 c2]) K w:=by
 obtain ⟨i,hi,hk,hb,hz⟩:=t_str
 refine rn_sv (sv_append_g (i:=i) (xs:=[sv8' s]) u_strs u_strs hi hz (by rw [hk];rfl) (by rw [hb];decide) (by rw [hk];exact ho) (by rw [hk];rfl) (Nat.le_refl _) hs (by rw [hk];simp [hl2]) (λy hy=>by obtain ⟨b,_,rfl⟩:=List.mem_map.1 hy;rfl) (by rw [hb];omega) λq' c' w' h1 h2 h3 h4 h5=>?_)
 rw [hk] at h1
 refine hK q' c' w' h1 h2 (h5 ?_) λa ha=>(h4 a ha).imp (λe=>by injection e with e;exact e.symm) id
 cases ys with
 | nil=>exact .inr rfl
 | cons y ys=>left;rw [hl2,List.length_cons];omega
noncomputable def ad_ (leaves:List (List UInt8)):Nat→Nat→Nat→Nat→List (List UInt8)
 | 0,_,_,_=>[]
 | f+1,i,a,n=>if n≤1 then [] else if i<a+halfN n then ad_ leaves f i a (halfN n)++[spanL nodeL leaves (n - halfN n) (a+halfN n) (n - halfN n)]
  else ad_ leaves f i (a+halfN n) (n - halfN n)++[spanL nodeL leaves (halfN n) a (halfN n)]
theorem AllIn.val {R:Value→Value→Prop} {a n:Nat} (h:AllIn R a n):∃v,R (.agg #[.int .i64 (a:Nat),.int .i64 (n:Nat)]) v:=by
 cases h with
 | leaf _ v h=>exact ⟨v,h⟩
 | node _ _ v _ h _ _=>exact ⟨v,h⟩
theorem AllIn.parts {R:Value→Value→Prop} {a n:Nat} (h:AllIn R a n) (hn:2≤n):AllIn R a (halfN n)∧AllIn R (a+halfN n) (n - halfN n):=by
 cases h with
 | leaf _ v h=>omega
 | node _ _ v _ h h1 h2=>exact ⟨h1,h2⟩
def PrI (leaves:List (List UInt8)) (R:Value→Value→Prop) (w0:World) (i:Nat) (goal:List (List UInt8)) (q:Option Addr) (l c:Nat) (q1:Option Addr) (mm:Nat) (w':World):Prop:=
 ∃(b a n f:Nat) (pf:List (List UInt8)),q1=some ⟨b,0,none⟩∧w0.heap.size≤b∧w'.heap[b]? = some (.cells #[.int .i64 a,.int .i64 n] T.merkle_span (0,0))∧mm=n∧1≤n∧n≤f∧a≤i∧i<a+n∧a+n≤leaves.length∧AllIn R a n∧
  Own T.string 1 w' q c (pf.map sv8')∧l=pf.length∧l≤c∧pf.length+n≤leaves.length∧Off (λk=>k<w0.heap.size) q∧goal=ad_ leaves f i a n++pf
theorem am_ {leaves:List (List UInt8)} {R:Value→Value→Prop} {w w11:World} {k0 m nn b a n f fuel i ka kn a' n':Nat} {B0 B1 B2:Blk} {q:Option Addr} {l c:Nat} {pf goal:List (List UInt8)}
  (hm:MapP w T.merkle_span m nn R) (hmk:m≠k0) (hok:okTree leaves R) (hv:AllIn R ka kn) (hkl:ka+kn≤leaves.length) (hn:leaves.length≤100000)
  (hF:Fs (· = k0) w [B0,B1,B2] w11) (hB0:B0.b=k0) (hk0:k0<w.heap.size) (hB1:w.heap.size≤B1.b) (hB2:w.heap.size≤B2.b) (hb1:b≠B1.b) (hb2:b≠B2.b)
  (hb:w11.heap[b]? = some (.cells #[.int .i64 (a:Nat),.int .i64 (n:Nat)] T.merkle_span (0,0))) (hwb:w.heap.size≤b)
  (ho:Own T.string 1 w11 q c (pf.map sv8')) (hl:l=pf.length) (hlc:l≤c) (hpn:pf.length+n≤leaves.length) (hof:Off (λk=>k<w.heap.size) q)
  (hn1:1≤n') (hnn:n'<n) (hfu:fuel=n) (hnf:n'≤f) (hai:a'≤i) (hin:i<a'+n') (hle:a'+n'≤leaves.length) (hall:AllIn R a' n') (hg:goal=ad_ leaves f i a' n'++(spanL nodeL leaves kn ka kn :: pf)) :
  rn PR (Instr.lookup T.map_merkle_span_string (.map (some m)) (.agg #[.int .i64 (ka:Nat),.int .i64 (kn:Nat)]) false) (λv1 w12=>∃s0,v1=.string s0∧Fs (· = k0) w [B0,B1,B2] w12∧w12.heap[b]? = some (.cells #[.int .i64 (a:Nat),.int .i64 (n:Nat)] T.merkle_span (0,0))∧∀l7,w12.heap.size≤l7→∀w13,Fr (· = k0) w w12 [] [B0,B1,B2,⟨l7,#[.string s0],T.string,true⟩] w13→
   w13.heap[b]? = some (.cells #[.int .i64 (a:Nat),.int .i64 (n:Nat)] T.merkle_span (0,0))∧rn PR (Builtin.append_ #[T.sl_string,T.sl_string] T.sl_string #[.slice (some ⟨l7,0,none⟩) 1 1,.slice q l c]) (λv2 w14=>∃q2,∃l8 l9:Nat,v2=.slice q2 l8 l9∧Fs (· = k0) w [B0,B1,B2,⟨l7,#[.string s0],T.string,true⟩] w14∧w14.heap[b]? = some (.cells #[.int .i64 (a:Nat),.int .i64 (n:Nat)] T.merkle_span (0,0))∧
    Dr (some ⟨b,0,none⟩) (λa12=>StC w14 (Addr.add a12 0) (.int .i64 (a':Nat)) λw15=>StC w15 (Addr.add a12 1) (.int .i64 (n':Nat)) λw16=>Fs (· = k0) w [B0,B1,B2,⟨l7,#[.string s0],T.string,true⟩] w16∧Dr (some ⟨b,0,none⟩) λa13=>∃n7:Int,w16.cell? (Addr.add a13 0)=some (.int .i64 n7)∧∃n8:Int,w16.cell? (Addr.add a13 1)=some (.int .i64 n8)∧∀l10,w16.heap.size≤l10→∀w17,Fr (· = k0) w w16 [l10] [B0,⟨l10,#[.int .i64 n7,.int .i64 n8],T.merkle_span,true⟩] w17→
     ∃l11,l11<fuel∧PrI leaves R w i goal q2 l8 l9 (some ⟨l10,0,none⟩) l11 w17)) w13) w11:=by
 obtain ⟨v,hv⟩:=hv.val
 obtain ⟨ka',kn',ek,hk1,hk2,rfl⟩:=hok _ _ hv
 have e1:ka=ka':=by injection ek with e;injection e with e;injection e with e e';injection e with _ e;omega
 have e2:kn=kn':=by injection ek with e;injection e with e;injection e with e e';injection e' with e e';injection e with _ e;omega
 subst e1;subst e2
 obtain ⟨kl,hkey⟩:=key_span (a:=ka) (k:=kn) ⟨by omega,by omega⟩ ⟨by omega,by omega⟩
 have hm11:MapP w11 T.merkle_span m nn R:=hm.keep hF.chg hmk
 refine lookup_rn keyedS u_map hm11 hkey false zero_str (λv' hv'=>?_) λhno=>absurd hv (hno _)
 have:=hm11.inj hv' hv
 subst this
 refine ⟨_,rfl,hF,hb,λl7 hl7 w13 hF13=>?_⟩
 have g13:Grow w11 w13:=hF13.grow
 have hb13:=g13.get hb
 refine ⟨hb13,?_⟩
 have s11:=hF.chg.size
 have hbl:=heap_lt hb
 refine bY_ (hF13.own 3 rfl rfl (by decide)) (ho.grow g13).sl hl (by omega) λq2 c2 w14 ho14 hc14 g14 hq14=>?_
 have hF14:=hF13.after g14
 have hb14:=g14.get hb13
 refine ⟨_,_,_,rfl,hF14,hb14,Dr_some.2 ?_⟩
 have hq2w:∀a,q2=some a→w11.heap.size≤a.block:=λa ha=>by
  rcases hq14 a ha with rfl | rfl
  ·exact hl7
  ·have:=g13.size;exact this
 refine stC hb14 (show 0<2 by omega) rfl λw15 hb15 s15 g15=>?_
 refine stC hb15 (show 1<2 by omega) rfl λw16 hb16 s16 g16=>?_
 have hbn:∀x,x∈[B0,B1,B2,(⟨l7,#[.string (str (spanL nodeL leaves kn ka kn))],T.string,true⟩:Blk)]→¬(x.b=b):=λx hx=>by
  simp only [List.mem_cons,List.not_mem_nil,or_false] at hx
  rcases hx with rfl | rfl | rfl | rfl
  ·omega
  ·exact λe=>hb1 e.symm
  ·exact λe=>hb2 e.symm
  ·simp only [];omega
 have hF16:=(hF14.step g15 hbn λk hk e=>by have e':k=b:=e;omega).step g16 hbn λk hk e=>by have e':k=b:=e;omega
 have hb16':w16.heap[b]? = some (.cells #[.int .i64 (a':Nat),.int .i64 (n':Nat)] T.merkle_span (0,0)):=hb16
 refine ⟨hF16,Dr_some.2 ⟨_,by rw [add_mk,cell_blk hb16'];rfl,_,by rw [add_mk,cell_blk hb16'];rfl,λl10 hl10 w17 hF17=>⟨n',by omega,l10,a',n',f,spanL nodeL leaves kn ka kn :: pf,rfl,?_,hF17.blk 1 rfl,rfl,hn1,hnf,hai,hin,hle,hall,?_,by rw [hl,List.length_cons];omega,hc14,by rw [List.length_cons];omega,λa ha hlt=>by have:=hq2w a ha;omega,hg⟩⟩⟩
 ·have:=hF16.chg.size;omega
 ·have o15:=ho14.keep g15 λx hx e=>by have e':x.block=b:=e;have:=hq2w x hx;omega
  have o16:=o15.keep g16 λx hx e=>by have e':x.block=b:=e;have:=hq2w x hx;omega
  exact o16.keep hF17.stp λx hx e=>by
   have e':x.block=l10:=by simpa using e
   rcases o16 with ⟨h,_⟩ | ⟨b',o',cs,h,hbb,_⟩
   ·rw [h] at hx;cases hx
   ·rw [h] at hx;cases hx
    have:=heap_lt hbb
    simp only [] at e';omega
theorem bA_ {D:Nat→Prop} {w:World} {k0:Nat} {list:List (List UInt8)} (h:TreeO D w k0 list) {i:Int} (hn:list.length≤100000) {K:Value→World→Prop}
  (h1:∀w' q c,0≤i→i<list.length→Grow w w'→Own T.string 1 w' q c ((ad_ (list.map leafL) list.length i.toNat 0 list.length).map sv8')→(ad_ (list.map leafL) list.length i.toNat 0 list.length).length≤c→Off (λk=>k<w.heap.size) q→K (.tuple #[.slice q (ad_ (list.map leafL) list.length i.toNat 0 list.length).length c,.nilIface]) w')
  (h2:¬(0≤i∧i<list.length)→K (.tuple #[.slice none 0 0,.iface T.api_Errno (.int .i64 2)]) w):CallV PR F.p_merkle_Tree_Proof ⟨[.pointer (some ⟨k0,0,none⟩),.int .i64 i]⟩ w K:=by
 obtain ⟨yq,yc,m,R,nn,hb0,_,hsl,hm,_,hok,hA⟩:=h
 have hmk:m≠k0:=(mapNe hb0 hm).symm
 have hk0:=heap_lt hb0
 have hll:(list.map leafL).length=list.length:=List.length_map _
 refine a6_ k0 yq list.length yc (some m) i (· = k0) K w ((Fr.init _ w).entry hb0 (λx h=>by cases h) λ_=>rfl) ⟨rfl,trivial⟩ ⟨λh=>h2 (by omega),λh0=>⟨λh=>h2 (by omega),λhlt l0 hl0 w0 hF0=>?_⟩⟩
 have h0':0≤i:=by omega
 have hlt':i<list.length:=by omega
 obtain ⟨j,rfl⟩:∃j:Nat,i=j:=⟨i.toNat,by omega⟩
 have hj:j<list.length:=by omega
 have hne:list≠[]:=λe=>by rw [e] at hj;simp at hj
 rw [Int.toNat_natCast] at h1
 refine ⟨PrI (list.map leafL) R w j (ad_ (list.map leafL) list.length j 0 list.length),⟨list.length,l0,0,list.length,list.length,[],rfl,hl0,hF0.blk 1 rfl,rfl,by omega,Nat.le_refl _,by omega,by omega,by omega,hA hne,.nil _ _ _,rfl,Nat.le_refl _,by simp,.none _,by simp⟩,?_⟩
 rintro q l c q1 Dv mm w1 ⟨b,a,n,f,pf,rfl,hwb,hb,rfl,hn1,hnf,haj,hja,hle,hall,ho,rfl,hlc,hpn,hof,hg⟩ hF1
 have hc:∀ {w':World} (k:Nat) (v:Value),w'.heap[b]? = some (.cells #[.int .i64 (a:Nat),.int .i64 (mm:Nat)] T.merkle_span (0,0))→(#[.int .i64 (a:Nat),.int .i64 (mm:Nat)]:Array Value)[k]? = some v→w'.cell? (Addr.add ⟨b,0,none⟩ k)=some v:=λk v hb hv=>by
  rw [add_mk,cell_blk hb,Nat.zero_add];exact hv
 refine Dr_some.2 (Dr_some.2 ⟨_,hc 1 _ hb rfl,λhgt=>?_,λhng=>?_⟩)
 ·have h2n:2≤mm:=by omega
  have hh:=halfN_lt h2n
  have hbl:=heap_lt hb
  obtain ⟨hp1,hp2⟩:=hall.parts h2n
  refine Dr_some.2 (Dr_some.2 ⟨_,hc 1 _ hb rfl,split_spec h2n (by omega) ⟨_,rfl,hF1,λw3 hF3=>?_⟩⟩)
  have g3:Grow w1 w3:=hF3.grow
  have hb3:=g3.get hb
  have ho3:=ho.grow g3
  have bl3:=heap_lt hb3
  refine ⟨λw'=>w'.heap[b]? = some (.cells #[.int .i64 (a:Nat),.int .i64 (mm:Nat)] T.merkle_span (0,0)),hb3,?_⟩
  refine Dr_some.2 (Dr_some.2 ⟨_,λw' h=>hc 0 _ h rfl,Dr_some.2 (Dr_some.2 ⟨_,λw' h=>hc 0 _ h rfl,Dr_some.2 (Dr_some.2 ⟨_,λw' h=>hc 1 _ h rfl,?_⟩)⟩)⟩)
  have ea:IntKind.wrap .i64 ((a:Int)+(halfN mm:Nat))=((a+halfN mm:Nat):Int):=by rw [w64 (by omega) (by omega)];omega
  have ek:IntKind.wrap .i64 ((mm:Int) - (halfN mm:Nat))=((mm - halfN mm:Nat):Int):=by rw [w64 (by omega) (by omega)];omega
  obtain ⟨f',rfl⟩:∃f',f=f'+1:=⟨f - 1,by omega⟩
  have gl:j<a+halfN mm→ad_ (list.map leafL) list.length j 0 list.length=ad_ (list.map leafL) f' j a (halfN mm)++(spanL nodeL (list.map leafL) (mm - halfN mm) (a+halfN mm) (mm - halfN mm) :: pf):=λhlt=>by
   rw [hg];conv=>lhs;unfold ad_
   rw [if_neg (by omega),if_pos hlt,List.append_assoc];rfl
  have gr:¬j<a+halfN mm→ad_ (list.map leafL) list.length j 0 list.length=ad_ (list.map leafL) f' j (a+halfN mm) (mm - halfN mm)++(spanL nodeL (list.map leafL) (halfN mm) a (halfN mm) :: pf):=λhlt=>by
   rw [hg];conv=>lhs;unfold ad_
   rw [if_neg (by omega),if_neg hlt,List.append_assoc];rfl
  have hw1:w.heap.size≤w3.heap.size:=hF3.chg.size
  rw [ea,ek]
  refine ⟨?_,?_⟩
  ·intro l5 hl5 w7 hF7
   have hb7:=hF7.grow.get hb3
   refine ⟨hb7,λl6 hl6 w8 hF8=>?_⟩
   have hb8:=hF8.grow.get hb7
   have s7:=hF7.grow.size
   have s8:=hF8.grow.size
   refine ⟨hb8,λw9 hF9=>?_⟩
   have n9:∀k,k∈[l5]→w3.heap.size≤k:=λk e=>by simp at e;omega
   have hb9:=hF9.stp.get hb8 λe=>by have:=n9 _ e;omega
   have ho9:=((ho3.grow hF7.grow).grow hF8.grow).keep hF9.stp λx hx e=>by have:=n9 _ e;have:=ho3.lt x hx;omega
   refine ⟨hb9,Dr_some.2 λw10 hF10=>?_⟩
   have n10:∀k,k∈[l6]→w3.heap.size≤k:=λk e=>by simp at e;omega
   have hb10:=hF10.stp.get hb9 λe=>by have:=n10 _ e;omega
   have ho10:=ho9.keep hF10.stp λx hx e=>by have:=n10 _ e;have:=ho3.lt x hx;omega
   refine Dr_some.2 ⟨_,hc 0 _ hb10 rfl,λhlt2 w11 hF11=>⟨λw'=>w'.heap[b]? = some (.cells #[.int .i64 (a:Nat),.int .i64 (mm:Nat)] T.merkle_span (0,0)),hF11.grow.get hb10,?_⟩,λhlt2 w11 hF11=>⟨λw'=>w'.heap[b]? = some (.cells #[.int .i64 (a:Nat),.int .i64 (mm:Nat)] T.merkle_span (0,0)),hF11.grow.get hb10,?_⟩⟩
   ·rw [ea] at hlt2
    have hlt3:j<a+halfN mm:=by omega
    exact am_ (leaves:=list.map leafL) (R:=R) (a:=a) (n:=mm) (f:=f') (ka:=a+halfN mm) (kn:=mm - halfN mm) (a':=a) (n':=halfN mm) (pf:=pf) hm hmk hok hp2 (by omega) (by omega) hF11.reset rfl hk0 (by show _≤l5;omega) (by show _≤l6;omega) (by show b≠l5;omega) (by show b≠l6;omega) (hF11.grow.get hb10) hwb (ho10.grow hF11.grow) rfl hlc hpn hof hh.1 hh.2 rfl (by omega) (by omega) (by omega) (by omega) hp1 (gl hlt3)
   ·rw [ea] at hlt2
    have hlt3:¬j<a+halfN mm:=by omega
    exact am_ (leaves:=list.map leafL) (R:=R) (a:=a) (n:=mm) (f:=f') (ka:=a) (kn:=halfN mm) (a':=a+halfN mm) (n':=mm - halfN mm) (pf:=pf) hm hmk hok hp1 (by omega) (by omega) hF11.reset rfl hk0 (by show _≤l5;omega) (by show _≤l6;omega) (by show b≠l5;omega) (by show b≠l6;omega) (hF11.grow.get hb10) hwb (ho10.grow hF11.grow) rfl hlc hpn hof (by omega) (by omega) rfl (by omega) (by omega) (by omega) (by omega) hp2 (gr hlt3)
  ·intro l5 hl5 w7 hF7
   have hb7:=hF7.grow.get hb3
   refine ⟨hb7,λl6 hl6 w8 hF8=>?_⟩
   have hb8:=hF8.grow.get hb7
   have s7:=hF7.grow.size
   have s8:=hF8.grow.size
   refine ⟨hb8,λw9 hF9=>?_⟩
   have n9:∀k,k∈[l6]→w3.heap.size≤k:=λk e=>by simp at e;omega
   have hb9:=hF9.stp.get hb8 λe=>by have:=n9 _ e;omega
   have ho9:=((ho3.grow hF7.grow).grow hF8.grow).keep hF9.stp λx hx e=>by have:=n9 _ e;have:=ho3.lt x hx;omega
   refine ⟨hb9,Dr_some.2 λw10 hF10=>?_⟩
   have n10:∀k,k∈[l5]→w3.heap.size≤k:=λk e=>by simp at e;omega
   have hb10:=hF10.stp.get hb9 λe=>by have:=n10 _ e;omega
   have ho10:=ho9.keep hF10.stp λx hx e=>by have:=n10 _ e;have:=ho3.lt x hx;omega
   refine Dr_some.2 ⟨_,hc 0 _ hb10 rfl,λhlt2 w11 hF11=>⟨λw'=>w'.heap[b]? = some (.cells #[.int .i64 (a:Nat),.int .i64 (mm:Nat)] T.merkle_span (0,0)),hF11.grow.get hb10,?_⟩,λhlt2 w11 hF11=>⟨λw'=>w'.heap[b]? = some (.cells #[.int .i64 (a:Nat),.int .i64 (mm:Nat)] T.merkle_span (0,0)),hF11.grow.get hb10,?_⟩⟩
   ·rw [ea] at hlt2
    have hlt3:j<a+halfN mm:=by omega
    exact am_ (leaves:=list.map leafL) (R:=R) (a:=a) (n:=mm) (f:=f') (ka:=a+halfN mm) (kn:=mm - halfN mm) (a':=a) (n':=halfN mm) (pf:=pf) hm hmk hok hp2 (by omega) (by omega) hF11.reset rfl hk0 (by show _≤l5;omega) (by show _≤l6;omega) (by show b≠l5;omega) (by show b≠l6;omega) (hF11.grow.get hb10) hwb (ho10.grow hF11.grow) rfl hlc hpn hof hh.1 hh.2 rfl (by omega) (by omega) (by omega) (by omega) hp1 (gl hlt3)
   ·rw [ea] at hlt2
    have hlt3:¬j<a+halfN mm:=by omega
    exact am_ (leaves:=list.map leafL) (R:=R) (a:=a) (n:=mm) (f:=f') (ka:=a) (kn:=halfN mm) (a':=a+halfN mm) (n':=mm - halfN mm) (pf:=pf) hm hmk hok hp1 (by omega) (by omega) hF11.reset rfl hk0 (by show _≤l5;omega) (by show _≤l6;omega) (by show b≠l5;omega) (by show b≠l6;omega) (hF11.grow.get hb10) hwb (ho10.grow hF11.grow) rfl hlc hpn hof (by omega) (by omega) rfl (by omega) (by omega) (by omega) (by omega) hp2 (gr hlt3)
 ·have hm1:mm=1:=by omega
  subst hm1
  have hpf:ad_ (list.map leafL) list.length j 0 list.length=pf:=by
   obtain ⟨f',rfl⟩:∃f',f=f'+1:=⟨f - 1,by omega⟩
   rw [hg];unfold ad_;rw [if_pos (by omega)];rfl
  have:=h1 w1 q c h0' hlt' (hF1.chg.same hb0 (hF1.blk 0 rfl)) (by rw [hpf];exact ho) (by rw [hpf];exact hlc) hof
  rw [hpf] at this
  exact this
end Go.Vc
