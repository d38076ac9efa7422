/-
  A part of the proof of the statement HeadAgainCardSaid, in Lean: MirD4, Mn1, Ha3, MirA1, Ha4, MirA2, Ha5, RoA. By an AI agent.
-/
import Derived.Test.YtoopcoeonbkedaaGreatDoorP02
import Derived.Test.YtoopcoeonbkedaaGreatDoorP07
import Derived.Test.YtoopcoeonbkedaaGreatDoorP14
import Derived.Test.YtoopcoeonbkedaaGreatDoorP11
set_option linter.unusedSimpArgs false
set_option linter.unusedVariables false
set_option maxRecDepth 1000000
namespace Go.Vc
open Go
theorem ls_ (k0:Nat) (p1:Option Addr) (m2:Int) (m3:Int) (m4:Int) (g5:Option Nat) (m6:Int) (S:SP) (K:KP) (w:World) (hF:Fs S w [⟨k0,#[.pointer p1,.int .i64 m2,.int .i64 m3,.int .i64 m4,.map g5],108,true⟩] w) (hS:S k0∧True) (h:∀l0,w.heap.size≤l0→∀w0,Fr S w w [] [⟨k0,#[.pointer p1,Iv m2,Iv m3,Iv m4,.map g5],108,true⟩,⟨l0,#[Iv 0,Iv 0,Iv 0,.slice none 0 0,Iv 0,.string ⟨#[]⟩],69,true⟩] w0→let B1:Blk:=⟨l0,#[Iv 0,Iv 0,Iv 0,.slice none 0 0,Iv 0,.string ⟨#[]⟩],69,true⟩;let B0:Blk:=⟨k0,#[.pointer p1,Iv m2,Iv m3,Iv m4,.map g5],108,true⟩;aa_ PR 51 #[.pointer (some (⟨k0,0,none⟩)),Iv m6] w0 λv0 w1=>∃q0 q1 v1,v0=.tuple #[.agg #[.pointer q0,.pointer q1],v1]∧Fs S w [B0,B1] w1∧∀l1,w1.heap.size≤l1→(v1=.nilIface→Dr q0 λa0=>Dr (some a0) λa1=>∀w2,Fr S w w1 [l1] [B0,B1,⟨l1,#[.pointer q0,.pointer q1],116,true⟩] w2→Dr (some (Addr.add a1 0)) λa2=>∃n0,World.cell? w2 (Addr.add a2 0)=some (Iv n0)∧∃n1,World.cell? w2 (Addr.add a2 1)=some (Iv n1)∧∃n2,World.cell? w2 (Addr.add a2 2)=some (Iv n2)∧∃q2 l2 l3,World.cell? w2 (Addr.add a2 3)=some (.slice q2 l2 l3)∧∃n3,World.cell? w2 (Addr.add a2 4)=some (Iv n3)∧∃s0,World.cell? w2 (Addr.add a2 5)=some (.string s0)∧aa_ PR 52 #[.agg #[Iv n0,Iv n1,Iv n2,.slice q2 l2 l3,Iv n3,.string s0]] w2 λv2 w3=>∃n4 n5 n6 q3 l4 l5 n7 s1,v2=.agg #[Iv n4,Iv n5,Iv n6,.slice q3 l4 l5,Iv n7,.string s1]∧Fs S w [B0,B1,⟨l1,#[.pointer q0,.pointer q1],116,true⟩] w3∧∀w4,Fr S w w3 [l0] [B0] w4→K (.tuple #[.agg #[Iv n4,Iv n5,Iv n6,.slice q3 l4 l5,Iv n7,.string s1],.nilIface]) w4)∧(∀x0 v3,v1=.iface x0 v3→∀w5,Fr S w w1 [l0,l1] [B0] w5→K (.tuple #[.agg #[Iv 0,Iv 0,Iv 0,.slice none 0 0,Iv 0,.string ⟨#[]⟩],v1]) w5)∧(v1=.nilIface∨∃l6 v4,v1=.iface l6 v4)):aa_ PR 26 ⟨[.pointer (some ⟨k0,0,none⟩),.int .i64 m6]⟩ w K:=
 ab_ (okf:=⟨okL,[]⟩) ag_ (args:=[.c (.p 0 k0 true 0),.c (.v (.int .i64 m6))]) (H:=[⟨k0,.l [.v (.pointer p1),.v (.int .i64 m2),.v (.int .i64 m3),.v (.int .i64 m4),.v (.map g5)],108,true⟩]) (.s (.r ⟨(some [0]),false,[],[]⟩) (.s (.r ⟨(some [0,4]),false,[],[]⟩) (.s (.s .z (.c (.s (.r ⟨(some [4]),false,[],[]⟩) .z) .z)) (.s (.r ⟨(some [4,6]),false,[],[]⟩) .z)))) Go.Proofs.Tryz.func26 rfl ⟨rfl,trivial,trivial⟩ ⟨⟨trivial,⟨trivial,⟨trivial,⟨trivial,⟨trivial,trivial⟩⟩⟩⟩⟩,trivial⟩ hF hS (ae_ (by kernel_rfl) h)
theorem fN_ (m0:Int) (m1:Int) (m2:Int) (y3:Option Addr) (ly3:Nat) (cy3:Nat) (m4:Int) (z5:ByteArray) (S:SP) (K:KP) (w:World) (h:∀l0,w.heap.size≤l0→∀l1,w.heap.size≤l1→∀w0,Fr S w w [] [⟨l0,#[Iv m0,Iv m1,Iv m2,.slice y3 ly3 cy3,Iv m4,.string z5],69,true⟩,⟨l1,#[Iv 0,Iv 0,Iv 0,.slice none 0 0,Iv 0,.string ⟨#[]⟩],69,true⟩] w0→aa_ PR 93 #[.slice y3 ly3 cy3] w0 λv0 w1=>∃q0 l2 l3,v0=.slice q0 l2 l3∧Fs S w [⟨l0,#[Iv m0,Iv m1,Iv m2,.slice y3 ly3 cy3,Iv m4,.string z5],69,true⟩,⟨l1,#[Iv 0,Iv 0,Iv 0,.slice none 0 0,Iv 0,.string ⟨#[]⟩],69,true⟩] w1∧∀w2,Fr S w w1 [l1,l0] [] w2→K (.agg #[Iv m0,Iv m1,Iv m2,.slice q0 l2 l3,Iv m4,.string z5]) w2):aa_ PR 52 ⟨[.agg #[.int .i64 m0,.int .i64 m1,.int .i64 m2,.slice y3 ly3 cy3,.int .i64 m4,.string z5]]⟩ w K:=
 ab_ (okf:=⟨okL,[]⟩) ag_ (args:=[.a [.v (.int .i64 m0),.v (.int .i64 m1),.v (.int .i64 m2),.v (.slice y3 ly3 cy3),.v (.int .i64 m4),.v (.string z5)]]) (H:=[]) (.s (.r ⟨(some []),false,[],[]⟩) (.s (.r ⟨(some [1,2]),false,[],[]⟩) (.s (.r ⟨(some [1,2]),false,[],[]⟩) .z))) Go.Proofs.Tryz.func52 rfl ⟨⟨trivial,trivial,trivial,trivial,trivial,trivial,trivial⟩,trivial⟩ trivial (Fr.init S w) trivial (ae_ (by kernel_rfl) h)
theorem m7_ (y0:Option Addr) (ly0:Nat) (cy0:Nat) (S:SP) (K:KP) (w:World) (h:(y0=none→K (.slice none 0 0) w)∧∀a0:Addr,y0=some a0→∀l0,w.heap.size≤l0→∀w0,Fr S w w [] [⟨l0,#[],180,true⟩] w0→rn PR (Builtin.append_ #[67,67] 67 #[.slice (some (⟨l0,0,none⟩)) 0 0,.slice y0 ly0 cy0]) (λv0 w1=>∃q0 l1 l2,v0=.slice q0 l1 l2∧Fs S w [⟨l0,#[],180,true⟩] w1∧K (.slice q0 l1 l2) w1) w0):aa_ PR 93 ⟨[.slice y0 ly0 cy0]⟩ w K:=
 ab_ (okf:=⟨okL,[]⟩) ag_ (args:=[.c (.v (.slice y0 ly0 cy0))]) (H:=[]) (.s .z (.s .z (.s (.r ⟨(some []),false,[],[]⟩) .z))) Go.Proofs.Tryz.func93 rfl ⟨trivial,trivial⟩ trivial (Fr.init S w) trivial (ae_ (by kernel_rfl) h)
end Go.Vc
namespace Go.Vc
open Go Go.MapKept
theorem lU_ {q:Option Addr} {n c:Nat} {l:List (Int × Int)} {w:World} (hs:Sl w q (encE l)) (hl:n=l.length) (hn:n≤1000000) {K:Value→World→Prop}
  (hK:∀w' q' c',Grow w w'→K (.slice q' n c') w'):aa_ PR F.bz_ ⟨[.slice q n c]⟩ w K:=by
 subst hl
 refine m7_ q l.length c S0 K w ⟨λh=>?_,λa ha b hb w0 h0=>?_⟩
 ·have:l=[]:=by
   rcases hs with hs | ⟨b,o,h',_⟩
   ·cases l with
    | nil=>rfl
    | cons e l=>cases hs
   ·rw [h] at h';cases h'
  subst this
  exact hK w none 0 (.refl _ _)
 ·have hb0:=h0.blk 0 rfl
  have ho:Own T.a4_ 2 w0 (some ⟨b,0,none⟩) 0 []:=.inr ⟨b,0,#[],rfl,hb0,rfl,by decide,by simp,λi hi=>by simp at hi⟩
  refine app0 (k:=2) jZ_ hv_ rfl (by decide) (by decide) ho (hs.grow h0.grow) (by rw [aL_]) (λy hy=>?_) (by omega) λq' c' w' ho hc g hq=>⟨_,_,_,rfl,h0.after g,hK w' q' c' (h0.grow.trans g)⟩
  obtain ⟨e,_,he⟩:=List.mem_flatMap.1 hy
  simp only [List.mem_cons,List.not_mem_nil,or_false] at he
  rcases he with rfl | rfl <;> rfl
theorem kX_ {N:Nat} {w:World} {x:PubS} (h:aK_ N w x) {v:Nat} (hv:gn_ x v) {K:Value→World→Prop}
  (hK:∀w' a b c q l cc z list,Grow w w'→VerL (x.man v) list→recV (x.man v) list∈x.recs→K (.tuple #[.agg #[.int .i64 a,.int .i64 b,.int .i64 c,.slice q l cc,.int .i64 (list.length:Nat),.string z],.nilIface]) w'):aa_ PR F.fy_ ⟨[.pointer (some ⟨x.p,0,none⟩),.int .i64 (v:Nat)]⟩ w K:=by
 obtain ⟨hsl,hsc,hsr⟩:=h.small
 have h0:Fs (· = x.p) w [⟨x.p,pubC x.bj x.each x.last x.com x.m,T.aR_,true⟩] w:=(Fr.init _ w).entry h.blk (λx h=>by cases h) λ_=>rfl
 refine ls_ x.p (some ⟨x.bj,0,none⟩) x.each x.last x.com (some x.m) v (· = x.p) K w h0 ⟨rfl,trivial⟩ λl0 hl0 w0 hF0=>?_
 have g0:Grow w w0:=hF0.grow
 have hp0:=h.grow g0
 have hvl:=hv.2.1
 refine ni_ hp0 ⟨by omega,by omega⟩ (λw1 i b c list g1 ei _ _ _ hvo hL _ hr _=>?_) λw1 g1 hno=>?_
 ·have:i=v:=by omega
  subst this
  obtain ⟨q,cq,ql,cl,hb,_,hso,_,_⟩:=hvo
  have hlen:=hL.ok.shards.1
  refine ⟨_,_,_,rfl,hF0.after g1,λl1 hl1=>⟨λ_=>ad_.2 (ad_.2 λw2 hF2=>ad_.2 ?_),(λt x h=>by cases h),.inl rfl⟩⟩
  have hF2':=hF2.unM hl1
  have g2:Grow w1 w2:=hF2'.grow
  have hb2:=Grow.get g2 hb
  have cell:∀ {k:Nat} {v:Value},(verC (x.man i) q cq list ql cl)[k]? = some v→w2.cell? (((⟨b,0,none⟩:Addr).add 0).add k)=some v:=λhk=>by rw [an_,an_,ap_ hb2];simpa using hk
  refine ⟨_,cell (k:=0) rfl,_,cell (k:=1) rfl,_,cell (k:=2) rfl,_,_,_,cell (k:=3) rfl,_,cell (k:=4) rfl,_,cell (k:=5) rfl,?_⟩
  refine fN_ _ _ _ q _ cq _ _ S0 _ w2 λa1 ha1 a2 ha2 w3 hF3=>?_
  have g3:Grow w2 w3:=hF3.grow
  refine lU_ ((hso.sl.grow g2).grow g3) rfl (by omega) λw4 q' c' g4=>⟨_,_,_,rfl,hF3.after g4,λw5 hF5=>?_⟩
  have g5:Grow w2 w5:=hF5.gr
  have hF5':=hF2'.after g5
  rw [hL.blocks]
  exact ⟨_,_,_,_,_,_,_,_,rfl,hF5',λw6 hF6=>by
   exact hK w6 _ _ _ _ _ _ _ list (hF6.chg.same h.blk (hF6.blk 0 rfl)) hL hr⟩
 ·obtain ⟨val,hval⟩:=h.has v hv.1 hv.2.1 hv.2.2
  exact absurd hval (hno val)
end Go.Vc
namespace Go.Vc
open Go Go.MapKept
theorem Sep2.uM_ {N:Nat} {L:Nat→Prop} {w w':World} {k0 k1:Nat} {s t:ActS} {n1 n2:Nat} (h:Sep2 N L w k0 s n1 k1 t n2) (g:Chg (λj=>j=k0∨j=s.x.bd) w w'):aA_ N w' k1 t n2:=by
 have hrb:s.x.reg s.x.bd:=.inr (.inr (.inr (.inl rfl)))
 obtain ⟨m1,m2,m3,m4,m5,m6,m7,m8⟩:=h.ne
 obtain ⟨o1,o2,o3,o4,o5,o6⟩:=h.ho
 have nS:∀k,k≠k0→¬s.x.reg k→¬(k=k0∨k=s.x.bd):=λk a b e=>e.elim a λe=>b (by rw [e];exact hrb)
 refine ⟨g.get h.hb.blk (nS _ m1.symm o4),⟨g.get h.hb.act.blk (nS _ m3.symm o6),g.get h.hb.act.row (nS _ m2.symm o5),h.hb.act.pub.jB_ g ?_ ?_,h.hb.act.la,h.hb.act.ln,h.hb.act.n1,h.hb.act.n4,h.hb.act.off,h.hb.act.ex⟩,h.hb.lo,h.hb.off,h.hb.ex⟩
 ·rintro k (rfl | rfl)
  ·exact h.hx.1
  ·exact h.st _ hrb
 ·rintro k (rfl | rfl)
  ·exact o1
  ·exact h.off _ hrb
theorem BlkR.there {x:PubS} {v i:Nat} (hv:gn_ x v) {list:List (List UInt8)} (hL:VerL (x.man v) list) (hr:recV (x.man v) list∈x.recs) (hi:i<list.length):∃m,BlkR x (v:Int) (i:Int) m:=
 ⟨_,v,i,list,rfl,rfl,hv.1,hv.2.1,hv.2.2,hL,hr,hi,rfl⟩
end Go.Vc
namespace Go.Vc
open Go
theorem oz_ (k0:Nat) (m1:Int) (t2:Bool) (z3:ByteArray) (y4:Option Addr) (ly4:Nat) (cy4:Nat) (z5:ByteArray) (y6:Option Addr) (ly6:Nat) (cy6:Nat) (y7:Option Addr) (ly7:Nat) (cy7:Nat) (k8:Nat) (m9:Int) (t10:Bool) (z11:ByteArray) (y12:Option Addr) (ly12:Nat) (cy12:Nat) (z13:ByteArray) (y14:Option Addr) (ly14:Nat) (cy14:Nat) (y15:Option Addr) (ly15:Nat) (cy15:Nat) (S:SP) (K:KP) (w:World) (hF:Fs S w [⟨k0,#[.int .i64 m1,.bool t2,.string z3,.slice y4 ly4 cy4,.string z5,.slice y6 ly6 cy6,.slice y7 ly7 cy7],91,true⟩,⟨k8,#[.int .i64 m9,.bool t10,.string z11,.slice y12 ly12 cy12,.string z13,.slice y14 ly14 cy14,.slice y15 ly15 cy15],91,true⟩] w) (hS:S k0∧S k8∧True) (h:(z3=z11→∀w0,Fr S w w [] [⟨k0,#[Iv m1,.bool t2,.string z3,.slice y4 ly4 cy4,.string z5,.slice y6 ly6 cy6,.slice y7 ly7 cy7],91,true⟩,⟨k8,#[Iv m9,.bool t10,.string z11,.slice y12 ly12 cy12,.string z13,.slice y14 ly14 cy14,.slice y15 ly15 cy15],91,true⟩] w0→let B1:Blk:=⟨k8,#[Iv m9,.bool t10,.string z11,.slice y12 ly12 cy12,.string z13,.slice y14 ly14 cy14,.slice y15 ly15 cy15],91,true⟩;let B0:Blk:=⟨k0,#[Iv m1,.bool t2,.string z3,.slice y4 ly4 cy4,.string z5,.slice y6 ly6 cy6,.slice y7 ly7 cy7],91,true⟩;aa_ PR 48 #[.slice y4 ly4 cy4,.slice y12 ly12 cy12] w0 λv0 w1=>∃b0,v0=.bool b0∧(b0=true→Fs S w [B0,B1] w1∧K (.bool true) w1)∧(b0=false→Fs S w [B0,B1] w1∧K (.bool false) w1))∧(¬(z3=z11)→∀w2,Fr S w w [] [⟨k0,#[Iv m1,.bool t2,.string z3,.slice y4 ly4 cy4,.string z5,.slice y6 ly6 cy6,.slice y7 ly7 cy7],91,true⟩,⟨k8,#[Iv m9,.bool t10,.string z11,.slice y12 ly12 cy12,.string z13,.slice y14 ly14 cy14,.slice y15 ly15 cy15],91,true⟩] w2→K (.bool false) w2)):aa_ PR 22 ⟨[.pointer (some ⟨k0,0,none⟩),.pointer (some ⟨k8,0,none⟩)]⟩ w K:=
 ab_ (okf:=⟨okL,[]⟩) ag_ (args:=[.c (.p 0 k0 true 0),.c (.p 1 k8 true 0)]) (H:=[⟨k0,.l [.v (.int .i64 m1),.v (.bool t2),.v (.string z3),.v (.slice y4 ly4 cy4),.v (.string z5),.v (.slice y6 ly6 cy6),.v (.slice y7 ly7 cy7)],91,true⟩,⟨k8,.l [.v (.int .i64 m9),.v (.bool t10),.v (.string z11),.v (.slice y12 ly12 cy12),.v (.string z13),.v (.slice y14 ly14 cy14),.v (.slice y15 ly15 cy15)],91,true⟩]) (.s .z (.s .z (.s (.r ⟨(some [0,1]),false,[],[]⟩) .z))) Go.Proofs.Tryz.func22 rfl ⟨rfl,rfl,trivial⟩ ⟨⟨trivial,⟨trivial,⟨trivial,⟨trivial,⟨trivial,⟨trivial,⟨trivial,trivial⟩⟩⟩⟩⟩⟩⟩,⟨⟨trivial,⟨trivial,⟨trivial,⟨trivial,⟨trivial,⟨trivial,⟨trivial,trivial⟩⟩⟩⟩⟩⟩⟩,trivial⟩⟩ hF hS (ae_ (by kernel_rfl) h)
end Go.Vc
namespace Go.Vc
open Go Go.MapKept
theorem uS_ {w:World} {c:Int} {v:Value} {K:Value→World→Prop} (h:ErrT w) (hv:isEC c v) (hc:0≤c∧c≤100) (hK:∀w',Grow w w'→K (.int .i64 c) w'):aa_ PR F.cW_ #[v] w K:=by
 rcases hv with rfl | ⟨a,rfl⟩
 ·exact iO_ h (by omega) (by omega) hK
 ·exact iN_ h hK
theorem oV_ {w:World} {b1 b2:Nat} {L:ByteArray} (h1:cg_ w b1 L) (h2:cg_ w b2 L) (hne:b1≠b2) {K:Value→World→Prop} (hK:∀w',Grow w w'→K (.bool true) w'):aa_ PR F.dT_ ⟨[.pointer (some ⟨b1,0,none⟩),.pointer (some ⟨b2,0,none⟩)]⟩ w K:=by
 obtain ⟨f,q0,q1,c0,c1,hf,h1⟩:=h1
 obtain ⟨f',p0,p1,d0,d1,hf',h2⟩:=h2
 have hF:Fs (λj=>j=b1∨j=b2) w [⟨b1,dskC f false L L q0 q1 c0 c1 none 0 0,T.ax_,true⟩,⟨b2,dskC f' false L L p0 p1 d0 d1 none 0 0,T.ax_,true⟩] w:=((Fr.init _ w).entry h2 (λx h=>by cases h) λ_=>.inr rfl).entry h1 (λx h=>by simp at h;subst h;exact hne.symm) λ_=>.inl rfl
 refine oz_ b1 f false L q0 0 c0 L q1 0 c1 none 0 0 b2 f' false L p0 0 d0 L p1 0 d1 none 0 0 _ K w hF ⟨.inl rfl,.inr rfl,trivial⟩ ⟨λ_ w0 hF0=>?_,λh=>absurd rfl h⟩
 exact hz_ (xs:=[]) (.inl rfl) (.inl rfl) rfl (by decide) λw1 g1=>⟨true,rfl,(λ_=>⟨hF0.reset.after g1,hK w1 (hF0.grow.trans g1)⟩),λh=>by cases h⟩
variable {N:Nat} {L:Nat→Prop} {P:World→Prop} {k0 k1 rr:Nat} {w:World} {s t:ActS} {now:Nat}
theorem Twin.join (hP:Kp N L P) (h:Twin N L k0 k1 rr w s t now) (hp:P w) {q q':Option Addr} {l l' c c':Nat} (hS:mc_ w q l q' l') {K bad:World→Prop} (hK:∀w',Twin N L k0 k1 rr w' s t now→P w'→K w') :
  aa_ PR F.bv_ ⟨[.slice q l c,.slice q' l' c']⟩ w λv24 w19=>∃b2,v24=.bool b2∧(b2=true→P w19∧aa_ PR F.cn_ ⟨[.pointer (some ⟨k0,0,none⟩)]⟩ w19 λv25 w20=>∃q11,v25=.pointer q11∧P w20∧
   aa_ PR F.cn_ ⟨[.pointer (some ⟨k1,0,none⟩)]⟩ w20 λv26 w21=>∃q12,v26=.pointer q12∧P w21∧aa_ PR F.dT_ ⟨[.pointer q11,.pointer q12]⟩ w21 λv27 w22=>∃b3,v27=.bool b3∧(b3=true→P w22∧K w22)∧(b3=false→P w22∧bad w22))∧(b2=false→P w19∧bad w19):=by
 obtain ⟨outs,h1,h2,rfl,rfl,hl,hpr⟩:=hS
 refine px_ h1 h2 rfl hl hpr λw19 g19=>⟨true,rfl,λ_=>⟨hP.grow g19 hp,?_⟩,λe=>by cases e⟩
 have hp19:=hP.grow g19 hp
 have h19:=h.grow g19
 have ha:i3_ w19 k0 (some ⟨s.a,0,none⟩) (some ⟨s.x.bd,0,none⟩) (s.reps.length:Nat) (now:Nat):=h19.sep.ha.blk
 have hb:i3_ w19 k1 (some ⟨t.a,0,none⟩) (some ⟨t.x.bd,0,none⟩) (t.reps.length:Nat) (now:Nat):=h19.sep.hb.blk
 refine jT_ ha ⟨_,rfl,hp19,jT_ hb ⟨_,rfl,hp19,?_⟩⟩
 have hd1:=h19.sep.ha.act.pub.jrn.dsk
 have hd2:=h19.sep.hb.act.pub.jrn.dsk
 rw [← h.al.recs] at hd2
 refine oV_ hd1 hd2 (λe=>h.sep.off s.x.bd (.inr (.inr (.inr (.inl rfl)))) (by rw [e];exact .inr (.inr (.inr (.inl rfl))))) λw22 g22=>⟨true,rfl,(λ_=>⟨hP.grow g22 hp19,hK w22 (h19.grow g22) (hP.grow g22 hp19)⟩),λe=>by cases e⟩
theorem Twin.puts (hP:Kp N L P) (h:Twin N L k0 k1 rr w s t now) (hp:P w) {m:MsgL} {q:Option Addr} {c:Nat} (hs:Sl w q (m.proof.map sv8')) {fr:Int} {J:Option Addr→Nat→Nat→Option Addr→Nat→Nat→World→Prop}
  (hK:∀w' s' t' q l c q' l' c',Twin N L k0 k1 rr w' s' t' now→P w'→mc_ w' q l q' l'→J q l c q' l' c' w') :
  aa_ PR F.ko_ ⟨[fM_ m q c]⟩ w λv12 w11=>∃s2 v13,v12=.tuple #[.string s2,v13]∧P w11∧
   (v13=.nilIface→aa_ PR F.a__ ⟨[.pointer (some ⟨k0,0,none⟩),.int .i64 fr,.string s2]⟩ w11 λv14 w12=>∃q5 l9 l10 v15,v14=.tuple #[.slice q5 l9 l10,v15]∧P w12∧
    aa_ PR F.a__ ⟨[.pointer (some ⟨k1,0,none⟩),.int .i64 fr,.string s2]⟩ w12 λv16 w13=>∃q6 l11 l12 v17,v16=.tuple #[.slice q6 l11 l12,v17]∧P w13∧J q5 l9 l10 q6 l11 l12 w13)∧
   (∀x0 v18,v13=.iface x0 v18→J none 0 0 none 0 0 w11)∧(v13=.nilIface∨∃l13 v19,v13=.iface l13 v19):=by
 have I:∀ {J:Nat→Value→Prop},∀t x,(Value.nilIface:Value)=.iface t x→J t x:=λt x h=>by cases h
 refine n8_ hs (λhm w13 g1=>⟨_,_,rfl,hP.grow g1 hp,λ_=>?_,I,.inl rfl⟩) λhno w13 g1=>⟨_,_,rfl,hP.grow g1 hp,(λe=>by cases e),(λ_ _ _=>hK w13 s t _ _ _ _ _ _ (h.grow g1) (hP.grow g1 hp) (.nil _)),.inr ⟨_,_,rfl⟩⟩
 exact Twin.hear hP (h.grow g1) (hP.grow g1 hp) hm hK
end Go.Vc
namespace Go.Vc
open Go
theorem bk_ (m0:Int) (y1:Option Addr) (ly1:Nat) (cy1:Nat) (S:SP) (K:KP) (w:World) (h:aa_ PR 5 #[] w λv0 w0=>∃b0,v0=.bool b0∧(b0=true→Fs S w [] w0∧aa_ PR 6 #[.slice y1 ly1 cy1] w0 λv1 w1=>∃b1,v1=.bool b1∧(b1=true→Fs S w [] w1∧K (.bool true) w1)∧(b1=false→Fs S w [] w1∧aa_ PR 7 #[Iv (IntKind.wrap .i64 ((1:Int)+(Int.tmod (IntKind.wrap .i64 m0) 4)))] w1 λv2 w2=>∃q0 v3,v2=.tuple #[.pointer q0,v3]∧Fs S w [] w2∧aa_ PR 7 #[Iv (IntKind.wrap .i64 ((1:Int)+(Int.tmod (IntKind.wrap .i64 m0) 4)))] w2 λv4 w3=>∃q1 v5,v4=.tuple #[.pointer q1,v5]∧Fs S w [] w3∧(v3=.nilIface→(v5=.nilIface→∃I0:Int→Nat→World→Prop,(∃l0,I0 0 l0 w3)∧∀n0,∀D0:Nat→Value,∀l1 w4,I0 n0 l1 w4→Fs S w [] w4→(n0<(ly1:Int)→Dr y1 λa0=>(0:Int)≤n0∧n0<(ly1:Int)∧Dr (some (Addr.add a0 (Int.toNat n0*11))) λa1=>∃n1,World.cell? w4 (Addr.add a1 0)=some (Iv n1)∧∃n2,World.cell? w4 (Addr.add a1 1)=some (Iv n2)∧∃q2 l2 l3,World.cell? w4 (Addr.add a1 2)=some (.slice q2 l2 l3)∧∃n3,World.cell? w4 (Addr.add a1 3)=some (Iv n3)∧∃n4,World.cell? w4 (Addr.add a1 4)=some (Iv n4)∧∃n5,World.cell? w4 (Addr.add a1 5)=some (Iv n5)∧∃s0,World.cell? w4 (Addr.add a1 6)=some (.string s0)∧∃q3 l4 l5,World.cell? w4 (Addr.add a1 7)=some (.slice q3 l4 l5)∧∃s1,World.cell? w4 (Addr.add a1 8)=some (.string s1)∧∃q4 l6 l7,World.cell? w4 (Addr.add a1 9)=some (.slice q4 l6 l7)∧∃n6,World.cell? w4 (Addr.add a1 10)=some (Iv n6)∧∀l8,w4.heap.size≤l8→∃I1:(Option Addr)→Nat→Nat→(Option Addr)→Nat→Nat→World→Prop,((n1=0→∀w5,Fr S w w4 [l8] [⟨l8,#[Iv n1,Iv n2,.slice q2 l2 l3,Iv n3,Iv n4,Iv n5,.string s0,.slice q3 l4 l5,.string s1,.slice q4 l6 l7,Iv n6],31,true⟩] w5→let B0:Blk:=⟨l8,#[Iv n1,Iv n2,.slice q2 l2 l3,Iv n3,Iv n4,Iv n5,.string s0,.slice q3 l4 l5,.string s1,.slice q4 l6 l7,Iv n6],31,true⟩;aa_ PR 9 #[.pointer q0,Iv n2,.slice q2 l2 l3] w5 λv6 w6=>∃n7 v7,v6=.tuple #[Iv n7,v7]∧Fs S w [B0] w6∧aa_ PR 9 #[.pointer q1,Iv n2,.slice q2 l2 l3] w6 λv8 w7=>∃n8 v9,v8=.tuple #[Iv n8,v9]∧Fs S w [B0] w7∧(n7=n8→aa_ PR 8 #[v7] w7 λv10 w8=>∃n9,v10=Iv n9∧Fs S w [B0] w8∧aa_ PR 8 #[v9] w8 λv11 w9=>∃n10,v11=Iv n10∧Fs S w [B0] w9∧(n9=n10→I1 none 0 0 none 0 0 w9)∧(¬(n9=n10)→K (.bool false) w9))∧(¬(n7=n8)→K (.bool false) w7))∧(¬(n1=0)→(n1=1→∀w10,Fr S w w4 [l8] [⟨l8,#[Iv n1,Iv n2,.slice q2 l2 l3,Iv n3,Iv n4,Iv n5,.string s0,.slice q3 l4 l5,.string s1,.slice q4 l6 l7,Iv n6],31,true⟩] w10→let B1:Blk:=⟨l8,#[Iv n1,Iv n2,.slice q2 l2 l3,Iv n3,Iv n4,Iv n5,.string s0,.slice q3 l4 l5,.string s1,.slice q4 l6 l7,Iv n6],31,true⟩;aa_ PR 20 #[.agg #[Iv n3,Iv n4,Iv n5,.string s0,.slice q3 l4 l5]] w10 λv12 w11=>∃s2 v13,v12=.tuple #[.string s2,v13]∧Fs S w [B1] w11∧(v13=.nilIface→aa_ PR 16 #[.pointer q0,Iv n2,.string s2] w11 λv14 w12=>∃q5 l9 l10 v15,v14=.tuple #[.slice q5 l9 l10,v15]∧Fs S w [B1] w12∧aa_ PR 16 #[.pointer q1,Iv n2,.string s2] w12 λv16 w13=>∃q6 l11 l12 v17,v16=.tuple #[.slice q6 l11 l12,v17]∧Fs S w [B1] w13∧I1 q5 l9 l10 q6 l11 l12 w13)∧(∀x0 v18,v13=.iface x0 v18→I1 none 0 0 none 0 0 w11)∧(v13=.nilIface∨∃l13 v19,v13=.iface l13 v19))∧(¬(n1=1)→(n1=2→∀w14,Fr S w w4 [l8] [⟨l8,#[Iv n1,Iv n2,.slice q2 l2 l3,Iv n3,Iv n4,Iv n5,.string s0,.slice q3 l4 l5,.string s1,.slice q4 l6 l7,Iv n6],31,true⟩] w14→let B2:Blk:=⟨l8,#[Iv n1,Iv n2,.slice q2 l2 l3,Iv n3,Iv n4,Iv n5,.string s0,.slice q3 l4 l5,.string s1,.slice q4 l6 l7,Iv n6],31,true⟩;aa_ PR 10 #[.pointer q0] w14 λv20 w15=>∃q7 l14 l15 v21,v20=.tuple #[.slice q7 l14 l15,v21]∧Fs S w [B2] w15∧aa_ PR 10 #[.pointer q1] w15 λv22 w16=>∃q8 l16 l17 v23,v22=.tuple #[.slice q8 l16 l17,v23]∧Fs S w [B2] w16∧I1 q7 l14 l15 q8 l16 l17 w16)∧(¬(n1=2)→∀w17,Fr S w w4 [l8] [⟨l8,#[Iv n1,Iv n2,.slice q2 l2 l3,Iv n3,Iv n4,Iv n5,.string s0,.slice q3 l4 l5,.string s1,.slice q4 l6 l7,Iv n6],31,true⟩] w17→I1 none 0 0 none 0 0 w17))))∧∀q9 l18 l19 q10 l20 l21,∀D1:Nat→Value,∀w18,I1 q9 l18 l19 q10 l20 l21 w18→Fs S w [⟨l8,#[Iv n1,Iv n2,.slice q2 l2 l3,Iv n3,Iv n4,Iv n5,.string s0,.slice q3 l4 l5,.string s1,.slice q4 l6 l7,Iv n6],31,true⟩] w18→aa_ PR 21 #[.slice q9 l18 l19,.slice q10 l20 l21] w18 λv24 w19=>∃b2,v24=.bool b2∧(b2=true→Fs S w [] w19∧aa_ PR 11 #[.pointer q0] w19 λv25 w20=>∃q11,v25=.pointer q11∧Fs S w [] w20∧aa_ PR 11 #[.pointer q1] w20 λv26 w21=>∃q12,v26=.pointer q12∧Fs S w [] w21∧aa_ PR 22 #[.pointer q11,.pointer q12] w21 λv27 w22=>∃b3,v27=.bool b3∧(b3=true→Fs S w [] w22∧∃l22,l22<l1∧I0 (IntKind.wrap .i64 (n0+1)) l22 w22)∧(b3=false→Fs S w [] w22∧K (.bool false) w22))∧(b2=false→Fs S w [] w19∧K (.bool false) w19))∧(¬(n0<(ly1:Int))→∀w23,Fr S w w4 [] [] w23→aa_ PR 17 #[.pointer q0,.agg #[.slice none 0 0,Iv 0]] w23 λv28 w24=>∃v29,v28=v29∧Fs S w [] w24∧∃I2:World→Prop,I2 w24∧(v29=.nilIface→Dr q0 λa2=>Dr (some a2) λa3=>Dr (some (Addr.add a3 0)) λa4=>∃q13,(∀w25,I2 w25→World.cell? w25 a4=some (.pointer q13))∧Dr q13 λa5=>Dr (some a5) λa6=>Dr (some (Addr.add a6 0)) λa7=>∃q14,(∀w26,I2 w26→World.cell? w26 a7=some (.pointer q14))∧Dr q1 λa8=>Dr (some a8) λa9=>Dr (some (Addr.add a9 0)) λa10=>∃q15,(∀w27,I2 w27→World.cell? w27 a10=some (.pointer q15))∧Dr q15 λa11=>Dr (some a11) λa12=>Dr (some (Addr.add a12 0)) λa13=>∃q16,(∀w28,I2 w28→World.cell? w28 a13=some (.pointer q16))∧aa_ PR 23 #[.pointer q14] w24 λv30 w29=>∃n11,v30=Iv n11∧Fs S w [] w29∧I2 w29∧aa_ PR 23 #[.pointer q16] w29 λv31 w30=>∃n12,v31=Iv n12∧Fs S w [] w30∧I2 w30∧(n11=n12→Dr q0 λa14=>Dr (some a14) λa15=>Dr (some (Addr.add a15 0)) λa16=>∃q17,(∀w31,I2 w31→World.cell? w31 a16=some (.pointer q17))∧Dr q17 λa17=>Dr (some a17) λa18=>Dr (some (Addr.add a18 0)) λa19=>∃q18,(∀w32,I2 w32→World.cell? w32 a19=some (.pointer q18))∧Dr q1 λa20=>Dr (some a20) λa21=>Dr (some (Addr.add a21 0)) λa22=>∃q19,(∀w33,I2 w33→World.cell? w33 a22=some (.pointer q19))∧Dr q19 λa23=>Dr (some a23) λa24=>Dr (some (Addr.add a24 0)) λa25=>∃q20,(∀w34,I2 w34→World.cell? w34 a25=some (.pointer q20))∧aa_ PR 24 #[.pointer q18] w30 λv32 w35=>∃n13,v32=Iv n13∧Fs S w [] w35∧I2 w35∧aa_ PR 24 #[.pointer q20] w35 λv33 w36=>∃n14,v33=Iv n14∧Fs S w [] w36∧I2 w36∧(n13=n14→Dr q0 λa26=>Dr (some a26) λa27=>Dr (some (Addr.add a27 0)) λa28=>∃q21,(∀w37,I2 w37→World.cell? w37 a28=some (.pointer q21))∧Dr q21 λa29=>Dr (some a29) λa30=>Dr (some (Addr.add a30 0)) λa31=>∃q22,(∀w38,I2 w38→World.cell? w38 a31=some (.pointer q22))∧Dr q1 λa32=>Dr (some a32) λa33=>Dr (some (Addr.add a33 0)) λa34=>∃q23,(∀w39,I2 w39→World.cell? w39 a34=some (.pointer q23))∧Dr q23 λa35=>Dr (some a35) λa36=>Dr (some (Addr.add a36 0)) λa37=>∃q24,(∀w40,I2 w40→World.cell? w40 a37=some (.pointer q24))∧aa_ PR 25 #[.pointer q22] w36 λv34 w41=>∃q25 l23 l24,v34=.slice q25 l23 l24∧Fs S w [] w41∧I2 w41∧aa_ PR 25 #[.pointer q24] w41 λv35 w42=>∃q26 l25 l26,v35=.slice q26 l25 l26∧Fs S w [] w42∧I2 w42∧((l23:Int)=(l25:Int)→Dr q1 λa38=>Dr (some a38) λa39=>Dr (some (Addr.add a39 0)) λa40=>∃q27,World.cell? w42 a40=some (.pointer q27)∧Dr q27 λa41=>Dr (some a41) λa42=>Dr (some (Addr.add a42 0)) λa43=>∃q28,World.cell? w42 a43=some (.pointer q28)∧aa_ PR 25 #[.pointer q28] w42 λv36 w43=>∃q29 l27 l28,v36=.slice q29 l27 l28∧Fs S w [] w43∧∃I3:Int→Nat→World→Prop,(∃l29,I3 0 l29 w43)∧∀n15,∀D2:Nat→Value,∀l30 w44,I3 n15 l30 w44→Fs S w [] w44→(n15<(l27:Int)→Dr q29 λa44=>(0:Int)≤n15∧n15<(l27:Int)∧Dr (some (Addr.add a44 (Int.toNat n15*1))) λa45=>∃n16,World.cell? w44 a45=some (Iv n16)∧Dr q1 λa46=>Dr (some a46) λa47=>Dr (some (Addr.add a47 0)) λa48=>∃q30,World.cell? w44 a48=some (.pointer q30)∧Dr q30 λa49=>Dr (some a49) λa50=>Dr (some (Addr.add a50 0)) λa51=>∃q31,World.cell? w44 a51=some (.pointer q31)∧aa_ PR 26 #[.pointer q31,Iv n16] w44 λv37 w45=>∃n17 n18 n19 q32 l31 l32 n20 s3 v38,v37=.tuple #[.agg #[Iv n17,Iv n18,Iv n19,.slice q32 l31 l32,Iv n20,.string s3],v38]∧Fs S w [] w45∧∀l33,w45.heap.size≤l33→(v38=.nilIface→∀w46,Fr S w w45 [l33] [⟨l33,#[Iv n17,Iv n18,Iv n19,.slice q32 l31 l32,Iv n20,.string s3],69,true⟩] w46→let B3:Blk:=⟨l33,#[Iv n17,Iv n18,Iv n19,.slice q32 l31 l32,Iv n20,.string s3],69,true⟩;∃I4:Int→Nat→World→Prop,(∃l34,I4 0 l34 w46)∧∀n21,∀D3:Nat→Value,∀l35 w47,I4 n21 l35 w47→Fs S w [B3] w47→(n21<n20→Dr q0 λa52=>Dr (some a52) λa53=>Dr (some (Addr.add a53 0)) λa54=>∃q33,World.cell? w47 a54=some (.pointer q33)∧Dr q33 λa55=>Dr (some a55) λa56=>Dr (some (Addr.add a56 0)) λa57=>∃q34,World.cell? w47 a57=some (.pointer q34)∧aa_ PR 27 #[.pointer q34,Iv n16,Iv n21] w47 λv39 w48=>∃n22 n23 n24 s4 q35 l36 l37 v40,v39=.tuple #[.agg #[Iv n22,Iv n23,Iv n24,.string s4,.slice q35 l36 l37],v40]∧Fs S w [B3] w48∧∀l38,w48.heap.size≤l38→Dr q1 λa58=>Dr (some a58) λa59=>∀w49,Fr S w w48 [l38] [B3,⟨l38,#[Iv n22,Iv n23,Iv n24,.string s4,.slice q35 l36 l37],26,true⟩] w49→let B4:Blk:=⟨l38,#[Iv n22,Iv n23,Iv n24,.string s4,.slice q35 l36 l37],26,true⟩;Dr (some (Addr.add a59 0)) λa60=>∃q36,World.cell? w49 a60=some (.pointer q36)∧Dr q36 λa61=>Dr (some a61) λa62=>Dr (some (Addr.add a62 0)) λa63=>∃q37,World.cell? w49 a63=some (.pointer q37)∧aa_ PR 27 #[.pointer q37,Iv n16,Iv n21] w49 λv41 w50=>∃n25 n26 n27 s5 q38 l39 l40 v42,v41=.tuple #[.agg #[Iv n25,Iv n26,Iv n27,.string s5,.slice q38 l39 l40],v42]∧Fs S w [B3,B4] w50∧∀l41,w50.heap.size≤l41→(v40=.nilIface→(v42=.nilIface→∀w51,Fr S w w50 [l41] [B3,B4,⟨l41,#[Iv n25,Iv n26,Iv n27,.string s5,.slice q38 l39 l40],26,true⟩] w51→aa_ PR 28 #[.agg #[Iv n22,Iv n23,Iv n24,.string s4,.slice q35 l36 l37],.agg #[Iv n25,Iv n26,Iv n27,.string s5,.slice q38 l39 l40]] w51 λv43 w52=>∃b4,v43=.bool b4∧(b4=true→Fs S w [B3,B4,⟨l41,#[Iv n25,Iv n26,Iv n27,.string s5,.slice q38 l39 l40],26,true⟩] w52∧∃l42,l42<l35∧I4 (IntKind.wrap .i64 (n21+1)) l42 w52)∧(b4=false→Fs S w [B3,B4,⟨l41,#[Iv n25,Iv n26,Iv n27,.string s5,.slice q38 l39 l40],26,true⟩] w52∧K (.bool false) w52))∧(∀x1 v44,v42=.iface x1 v44→∀w53,Fr S w w50 [l41] [] w53→K (.bool false) w53)∧(v42=.nilIface∨∃l43 v45,v42=.iface l43 v45))∧(∀x2 v46,v40=.iface x2 v46→∀w54,Fr S w w50 [l41] [] w54→K (.bool false) w54)∧(v40=.nilIface∨∃l44 v47,v40=.iface l44 v47))∧(¬(n21<n20)→∃l45,l45<l30∧I3 (IntKind.wrap .i64 (n15+1)) l45 w47))∧(∀x3 v48,v38=.iface x3 v48→∀w55,Fr S w w45 [l33] [] w55→K (.bool false) w55)∧(v38=.nilIface∨∃l46 v49,v38=.iface l46 v49))∧(¬(n15<(l27:Int))→K (.bool true) w44))∧(¬((l23:Int)=(l25:Int))→K (.bool false) w42))∧(¬(n13=n14)→K (.bool false) w36))∧(¬(n11=n12)→K (.bool false) w30))∧(∀x4 v50,v29=.iface x4 v50→K (.bool false) w24)∧(v29=.nilIface∨∃l47 v51,v29=.iface l47 v51)))∧(∀x5 v52,v5=.iface x5 v52→K (.bool false) w3)∧(v5=.nilIface∨∃l48 v53,v5=.iface l48 v53))∧(∀x6 v54,v3=.iface x6 v54→K (.bool false) w3)∧(v3=.nilIface∨∃l49 v55,v3=.iface l49 v55)))∧(b0=false→Fs S w [] w0∧K (.bool false) w0)):aa_ PR 4 ⟨[.int .u8 m0,.slice y1 ly1 cy1]⟩ w K:=
 ab_ (okf:=⟨okL,[]⟩) ag_ (args:=[.c (.v (.int .u8 m0)),.c (.v (.slice y1 ly1 cy1))]) (H:=[]) (.s .z (.s (.s (.r ⟨(some []),true,[],[]⟩) .z) (.s (.s (.r ⟨(some []),true,[],[]⟩) .z) (.s (.r ⟨(some []),true,[],[]⟩) (.s (.r ⟨(some []),true,[],[]⟩) (.s .z (.s (.s .z (.b (.l (some []) (some []) [(56,.c (.int .i64))] [] (.s .z (.s .z (.s (.b (.s (.r ⟨(some []),true,[],[]⟩) (.s .z (.cut [(11,.c (.sl)),(12,.c (.sl))] [] (.s .z (.b (.s .z (.c (.s (.r ⟨(some [10]),true,[],[(5,[999])]⟩) (.s (.r ⟨(some [10]),true,[],[(5,[999])]⟩) (.s (.r ⟨(some []),true,[],[]⟩) .z))) (.s .z (.c (.s (.r ⟨(some [10]),true,[],[]⟩) (.s .z (.c (.s (.r ⟨(some [10]),true,[],[(4,[999])]⟩) (.r ⟨(some [10]),true,[],[(4,[999])]⟩)) .z))) (.s .z (.c (.s (.r ⟨(some []),true,[],[(1,[999])]⟩) (.r ⟨(some []),true,[],[(1,[999])]⟩)) .z)))))))) (.s (.r ⟨(some []),true,[],[]⟩) .z))))) .z)))))) (.s (.s (.r ⟨(some []),true,[],[(997,[3]),(2,[999])]⟩) .z) (.s (.s (.r ⟨(some []),true,[],[]⟩) (.b (.l (some []) (some []) [(215,.c (.int .i64))] [] (.s .z (.s .z (.s (.b (.s .z (.s (.r ⟨(some []),true,[],[]⟩) (.s .z (.s .z (.b (.l (some [21]) (some [21]) [(23,.c (.int .i64))] [] (.s .z (.s (.b (.s (.r ⟨(some [21]),true,[],[]⟩) (.s (.r ⟨(some [21,24]),true,[],[]⟩) (.s (.r ⟨(some [21,24,26]),true,[],[]⟩) .z)))) .z))))))))) .z)))))) .z))))))))) Go.Proofs.Tryz.func4 rfl ⟨trivial,trivial,trivial⟩ trivial (Fr.init S w) trivial (ae_ (by kernel_rfl) h)
end Go.Vc
namespace Go.Vc
open Go Go.MapKept
theorem aA_.c0 {N:Nat} {w:World} {k0:Nat} {s:ActS} {now:Nat} (h:aA_ N w k0 s now):w.cell? (Addr.add ⟨k0,0,none⟩ 0)=some (.pointer (some ⟨s.a,0,none⟩)):=by
 rw [an_,ap_ h.blk];rfl
theorem ba_.c0 {N:Nat} {w:World} {s:ActS} (h:ba_ N w s):w.cell? (Addr.add ⟨s.a,0,none⟩ 0)=some (.pointer (some ⟨s.x.p,0,none⟩)):=by
 rw [an_,ap_ h.blk];rfl
theorem aA_.dr {N:Nat} {w:World} {k0:Nat} {s:ActS} {now:Nat} (h:aA_ N w k0 s now) {K:Option Addr→Prop} (hK:K (some ⟨s.x.p,0,none⟩)) :
  Dr (some ⟨k0,0,none⟩) λa=>Dr (some a) λa=>Dr (some (Addr.add a 0)) λa=>∃q,w.cell? a=some (.pointer q)∧Dr q λa=>Dr (some a) λa=>Dr (some (Addr.add a 0)) λa=>∃q,w.cell? a=some (.pointer q)∧K q:=
 ad_.2 (ad_.2 (ad_.2 ⟨_,h.c0,ad_.2 (ad_.2 (ad_.2 ⟨_,h.act.c0,hK⟩))⟩))
theorem aA_.drI {N:Nat} {I:World→Prop} {k0:Nat} {s:ActS} {now:Nat} (h:∀w,I w→aA_ N w k0 s now) {K:Option Addr→Prop} (hK:K (some ⟨s.x.p,0,none⟩)) :
  Dr (some ⟨k0,0,none⟩) λa=>Dr (some a) λa=>Dr (some (Addr.add a 0)) λa=>∃q,(∀w,I w→w.cell? a=some (.pointer q))∧Dr q λa=>Dr (some a) λa=>Dr (some (Addr.add a 0)) λa=>∃q,(∀w,I w→w.cell? a=some (.pointer q))∧K q:=
 ad_.2 (ad_.2 (ad_.2 ⟨_,λw hw=>(h w hw).c0,ad_.2 (ad_.2 (ad_.2 ⟨_,λw hw=>(h w hw).act.c0,hK⟩))⟩))
structure Two (N:Nat) (k0 k1:Nat) (s t:ActS) (n:Nat) (w:World):Prop where
 ha:aA_ N w k0 s n
 hb:aA_ N w k1 t n
 recs:s.x.recs=t.x.recs
 last:s.x.last=t.x.last
 com:s.x.com=t.x.com
 man:s.x.man=t.x.man
theorem Two.grow {N k0 k1 n:Nat} {s t:ActS} {w w':World} (h:Two N k0 k1 s t n w) (g:Grow w w'):Two N k0 k1 s t n w':=⟨h.ha.grow g,h.hb.grow g,h.recs,h.last,h.com,h.man⟩
theorem jh_ {m0:Int} (hm0:0≤m0∧m0≤255) {ops:List OpH} {y:Option Addr} {n c:Nat} {w:World} (h:OpsH w y ops) (hn:n=ops.length) (hE:ErrT w) {K:Value→World→Prop} (hK:∀w',Grow w w'→K (.bool true) w') :
  aa_ PR F.bk_ ⟨[.int .u8 m0,.slice y n c]⟩ w K:=by
 have h0:Fs S0 w [] w:=Fr.init _ w
 have I:∀ {J:Nat→Value→Prop},∀t x,(Value.nilIface:Value)=.iface t x→J t x:=λt x h=>by cases h
 subst hn
 refine bk_ m0 y ops.length c S0 K w (l1_ λw0 g0=>⟨true,rfl,λ_=>⟨h0.after g0,?_⟩,λe=>by cases e⟩)
 refine mm_ (h.grow g0) rfl λw1 t g1 ht=>⟨t,rfl,λe=>⟨(h0.after g0).after g1,hK w1 (g0.trans g1)⟩,λe=>⟨(h0.after g0).after g1,?_⟩⟩
 obtain ⟨hlen,hsm⟩:=ht e
 have g01:=g0.trans g1
 have hF1:=(h0.after g0).after g1
 have hw0:IntKind.wrap .i64 m0=m0:=w64 (by omega) (by omega)
 have htm:0≤Int.tmod m0 4∧Int.tmod m0 4≤3:=by
  rw [Int.tmod_eq_emod_of_nonneg hm0.1];omega
 have hnn:IntKind.wrap .i64 (1+Int.tmod (IntKind.wrap .i64 m0) 4)=1+Int.tmod m0 4:=by rw [hw0];exact w64 (by omega) (by omega)
 rw [hnn]
 generalize hq:1+Int.tmod m0 4=nn at *
 clear ht
 refine iM_ (λw2 k0 s rr ek r1 r4 g2 hH hr e1 e2 e3 e4 hnf=>?_) λw2 hbad _=>absurd hbad (by omega)
 have hF2:=hF1.after g2
 refine ⟨_,_,rfl,hF2,iM_ (λw3 k1 t rr' ek' _ _ g3 hH' hr' f1 f2 f3 f4 hnf'=>?_) λw3 hbad _=>absurd hbad (by omega)⟩
 have hF3:=hF2.after g3
 refine ⟨_,_,rfl,hF3,λ_=>⟨λ_=>?_,I,.inl rfl⟩,I,.inl rfl⟩
 obtain rfl:rr'=rr:=by omega
 have hsep:=Sep2.init hH hnf g3 hH' hnf' f2 g2.size
 have hrep1:s.x.man=PSt.zero.man:=hH.act.pub.rep.zero e4
 have hrep2:t.x.man=PSt.zero.man:=hH'.act.pub.rep.zero f4
 have hd0:Twin w1.heap.size (λ_=>False) k0 k1 rr' w3 _ _ 0:=⟨hsep,⟨e4.trans f4.symm,e2.trans f2.symm,e3.trans f3.symm,hrep1.trans hrep2.symm,hr.trans hr'.symm,e1.trans f1.symm,by show ∀r∈s.reps,_;rw [hr];intro r hr';rw [List.eq_of_mem_replicate hr'];decide⟩,by show s.reps.length=_;rw [hr];simp,by have:=g2.size;have:=g3.size;omega⟩
 have hGE:∀ {w':World},Grow w w'→ErrT w':=λg=>hE.grow g
 have sz1:w.heap.size≤w1.heap.size:=g01.size
 refine ⟨λi mm w'=>∃(k now:Nat),i=k∧k≤ops.length∧mm=ops.length - k∧now≤k∧∃s t,Twin w1.heap.size (λ_=>False) k0 k1 rr' w' s t now,⟨_,0,0,rfl,by omega,rfl,Nat.le_refl _,_,_,hd0⟩,?_⟩
 clear hd0 hsep hrep1 hrep2 hr hr' hH hH'
 rintro i D mm w4 ⟨k,now,rfl,hk,rfl,hnow,s,t,hd⟩ hF4
 refine ⟨λhlt=>?_,λhnlt w23 hF23=>?_⟩
 ·have hk':k<ops.length:=by omega
  have h6:=h.grow hF4.gr
  have hm:=List.getElem_mem hk'
  have hso:=hsm _ hm
  have hnext:IntKind.wrap .i64 ((k:Int)+1)=((k+1:Nat):Int):=by rw [w64 (by omega) (by omega)];rfl
  refine h6.row.rdN ki_ (by decide) rfl hk' hk' λa hc=>?_
  refine ⟨_,hc 0 _ rfl,_,hc 1 _ rfl,_,_,_,hc 2 _ rfl,_,hc 3 _ rfl,_,hc 4 _ rfl,_,hc 5 _ rfl,_,hc 6 _ rfl,_,_,_,hc 7 _ rfl,_,hc 8 _ rfl,_,_,_,hc 9 _ rfl,_,hc 10 _ rfl,λl8 hl8=>?_⟩
  have hKp:∀(cs:Array Value) (T:TypeId),Kp w1.heap.size (· = l8) (λw'=>Fs S0 w [⟨l8,cs,T,true⟩] w'):=λcs T S wa wb g hS hL hp=>hp.step g (λy hy e=>by simp at hy;subst hy;exact hL _ rfl e) (λj hj e=>by have:=hS j e;omega)
  have hKp0:Kp w1.heap.size (· = l8) (λw'=>Fs S0 w [] w'):=λS wa wb g hS hL hp=>hp.step g (λy hy e=>by cases hy) (λj hj e=>by have:=hS j e;omega)
  have start:∀ {w7:World} {cs:Array Value} {T:TypeId},Fr S0 w w4 [l8] [⟨l8,cs,T,true⟩] w7→Twin w1.heap.size (· = l8) k0 k1 rr' w7 s t now:=λhF7=>by
   have g7:=(hF7.unM hl8).grow
   exact ⟨hd.sep.with g7 (λj e=>by subst e;exact ⟨hl8,hF7.lt _ List.mem_cons_self⟩),hd.al,hd.er,Nat.le_trans hd.sz g7.size⟩
  have none:∀ {w':World} {s' t':ActS} {now':Nat},Twin w1.heap.size (· = l8) k0 k1 rr' w' s' t' now'→Twin w1.heap.size (λ_=>False) k0 k1 rr' w' s' t' now':=λhd=>⟨hd.sep.none,hd.al,hd.er,hd.sz⟩
  refine ⟨λq l c q' l' c' w'=>∃(now':Nat) (s t:ActS),now'≤k+1∧Twin w1.heap.size (· = l8) k0 k1 rr' w' s t now'∧mc_ w' q l q' l',?_,?_⟩
  ·refine ⟨λ_ w7 hF7=>?_,λ_=>⟨λ_ w7 hF7=>?_,λ_=>⟨λ_ w7 hF7=>?_,λ_ w7 hF7=>⟨now,s,t,by omega,start hF7,.nil _⟩⟩⟩⟩
   ·exact Twin.sZ_ (hKp _ _) (λ_ hp=>hGE (Fr.gr hp)) (start hF7) (hF7.unM hl8).reset (l:=ops[k].l) (λw' hp=>(h.l _ hm).grow (Fr.gr hp)) rfl (by have:=hso.1;omega) (λw' s' t' hd' hp'=>⟨now,s',t',by omega,hd',.nil _⟩) (λw K' hK'=>uT_ hK') (λw v c K' hE hv hc hK'=>uS_ hE hv hc hK')
   ·exact Twin.puts (hKp _ _) (start hF7) (hF7.unM hl8).reset (m:=ops[k].m) ((h.m _ hm).grow hF7.gr) λw' s' t' q l c q' l' c' hd' hp' hS=>⟨now,s',t',by omega,hd',hS⟩
   ·exact Twin.tick (hKp _ _) (start hF7) (hF7.unM hl8).reset (by omega) λw' s' t' q l c q' l' c' hd' hp' hS=>⟨now+1,s',t',by omega,hd',hS⟩
  ·rintro q l c q' l' c' D1 w18 ⟨now',s',t',hn',hd',hS⟩ hF18
   exact Twin.join hKp0 hd' (hF18.sub (List.nil_sublist _)) hS λw' hd2 hp=>⟨ops.length - (k+1),by omega,k+1,now',hnext,by omega,rfl,by omega,s',t',none hd2⟩
 ·have hd:=hd.grow hF23.grow
  have hal:=hd.al
  refine ml_ hd.sep.ha hd.sz λw24 s' hA ereps el ec er em g24=>?_
  have hB:=hd.sep.uM_ g24
  have hk0:=hd.sep.ha.lo
  have hbd:=hd.sep.ha.act.pub.lo _ (.inr (.inr (.inr (.inl rfl))))
  have hF24:Fs S0 w [] w24:=hF23.reset.step g24 (λy hy=>by cases hy) (λj hj e=>by
   rcases e with e | e
   ·omega
   ·have e:j=s.x.bd:=e
    omega)
  have ht:Two w1.heap.size k0 k1 s' t now w24:=⟨hA,hB,er.trans hal.recs,el.trans hal.last,ec.trans hal.com,em.trans hal.man⟩
  refine ⟨_,rfl,hF24,Two w1.heap.size k0 k1 s' t now,ht,λ_=>?_,I,.inl rfl⟩
  refine aA_.drI (λ_ h=>h.ha) ?_
  refine aA_.drI (λ_ h=>h.hb) ?_
  refine fZ_ hA.act.pub ⟨_,rfl,hF24,ht,fZ_ hB.act.pub ⟨_,rfl,hF24,ht,λ_=>?_,λhne=>absurd (by rw [ht.last]) hne⟩⟩
  refine aA_.drI (λ_ h=>h.ha) ?_
  refine aA_.drI (λ_ h=>h.hb) ?_
  refine ak_ hA.act.pub ⟨_,rfl,hF24,ht,ak_ hB.act.pub ⟨_,rfl,hF24,ht,λ_=>?_,λhne=>absurd (by rw [ht.com]) hne⟩⟩
  refine aA_.drI (λ_ h=>h.ha) ?_
  refine aA_.drI (λ_ h=>h.hb) ?_
  refine iK_ hA.act.pub λw41 q25 n25 c25 ss ns g41 hl hlm hsl hv hnl hnd hmm=>⟨_,_,_,rfl,hF24.after g41,ht.grow g41,?_⟩
  have ht1:=ht.grow g41
  refine iK_ ht1.hb.act.pub λw42 q26 n26 c26 ss' ns' g42 hl' hlm' hsl' hv' hnl' hnd' hmm'=>⟨_,_,_,rfl,(hF24.after g41).after g42,ht1.grow g42,λ_=>?_,λhne=>absurd (by rw [← hnl,← hnl',rY_ ht.last ht.com hnd hnd' hmm hmm']) hne⟩
  have ht2:=ht1.grow g42
  refine ht2.hb.dr ?_
  refine iK_ ht2.hb.act.pub λw43 q29 n29 c29 ss3 ns3 g43 hl3 hlm3 hsl3 hv3 _ _ _=>⟨_,_,_,rfl,((hF24.after g41).after g42).after g43,?_⟩
  have ht3:=ht2.grow g43
  refine ⟨λi mm w'=>∃j:Nat,i=j∧j≤n29∧mm=n29 - j∧Grow w43 w',⟨_,0,rfl,by omega,rfl,.refl _ _⟩,?_⟩
  rintro i D2 mm w44 ⟨j,rfl,hj,rfl,g44⟩ hF44
  refine ⟨λhlt=>?_,λ_=>hK w44 hF44.gr⟩
  have hj':j<ss3.length:=by omega
  obtain ⟨v,hv,hkv⟩:=hv3 ss3[j] (List.getElem_mem hj')
  have ht4:=ht3.grow g44
  have hnj:IntKind.wrap .i64 ((j:Int)+1)=((j+1:Nat):Int):=by rw [w64 (by omega) (by omega)];rfl
  refine (hsl3.grow g44).rd (v:=Iv ss3[j]) (by simp [hl3]) (by omega) (by simp [hj']) λa ha=>⟨(v:Int),by rw [← hv];exact ha,?_⟩
  refine ht4.hb.dr ?_
  have hsm4:=ht4.hb.act.pub.small
  have hvl:=hkv.2.1
  refine kX_ ht4.hb.act.pub hkv λw45 a1 a2 a3 q32 l31 l32 z3 list g45 hL hr=>⟨_,_,_,_,_,_,_,_,_,rfl,hF44.after g45,λl33 hl33=>⟨λ_ w46 hF46=>?_,I,.inl rfl⟩⟩
  have hll:=hL.ok.blocks.2
  have hlb:=hL.blocks
  have g46:Grow w45 w46:=(hF46.unM hl33).grow
  have hiv : -9223372036854775808≤((v:Nat):Int)∧((v:Nat):Int)≤9223372036854775807:=⟨by omega,by omega⟩
  refine ⟨λi mm w'=>∃b:Nat,i=b∧b≤list.length∧mm=list.length - b∧Grow w43 w',⟨_,0,rfl,by omega,rfl,g44.trans (g45.trans g46)⟩,?_⟩
  rintro i D3 mm w47 ⟨b,rfl,hb,rfl,g47⟩ hF47
  refine ⟨λhlt2=>?_,λ_=>⟨n29 - (j+1),by omega,j+1,hnj,by omega,rfl,g47⟩⟩
  have hb':b<list.length:=by omega
  have hnb:IntKind.wrap .i64 ((b:Int)+1)=((b+1:Nat):Int):=by rw [w64 (by omega) (by omega)];rfl
  have ht7:=ht3.grow g47
  have hkx:gn_ s'.x v:=by unfold gn_;rw [ht.last,ht.com];exact hkv
  obtain ⟨mx,hmx⟩:=BlkR.there (x:=s'.x) hkx (by rw [ht.man];exact hL) (by rw [ht.man,ht.recs];exact hr) hb'
  obtain ⟨my,hmy⟩:=BlkR.there hkv hL hr hb'
  refine ht7.ha.dr ?_
  refine eD_ ht7.ha.act.pub hiv (λw48 m q c g48 hbm ho _ _=>⟨_,_,_,_,_,_,_,_,rfl,hF47.after g48,λl38 hl38=>?_⟩) λw48 c g48 hno=>absurd hmx (hno mx)
  refine ad_.2 (ad_.2 λw49 hF49=>?_)
  have g49:Grow w48 w49:=(hF49.unM hl38).grow
  have hF49':=(hF49.unM hl38).reset
  have ht9:=ht7.grow (g48.trans g49)
  refine ad_.2 ⟨_,ht9.hb.c0,ad_.2 (ad_.2 (ad_.2 ⟨_,ht9.hb.act.c0,?_⟩))⟩
  refine eD_ ht9.hb.act.pub hiv (λw50 m' q' c' g50 hbm' ho' _ _=>⟨_,_,_,_,_,_,_,_,rfl,hF49'.after g50,λl41 hl41=>⟨λ_=>⟨λ_ w51 hF51=>?_,I,.inl rfl⟩,I,.inl rfl⟩⟩) λw50 c g50 hno=>absurd hmy (hno my)
  have g51:Grow w50 w51:=(hF51.unM hl41).grow
  have hmm2:m=m':=BlkR.uniq ht7.ha.act.pub ht.recs ht.man hbm hbm'
  subst hmm2
  exact jR_ (ho.sl.grow (g49.trans (g50.trans g51))) (ho'.sl.grow g51) (AnsR.small (.inl hbm)) λw52 g52=>⟨true,rfl,λ_=>⟨(hF51.unM hl41).reset.after g52,list.length - (b+1),by omega,b+1,hnb,by omega,rfl,g47.trans (g48.trans (g49.trans (g50.trans (g51.trans g52))))⟩,λe=>by cases e⟩
end Go.Vc
namespace Go.Vc
open Go Go.ChangeShapes Go.WideShapes Go.ChangeAt Go.RowKit Go.Deep Go.Proofs Go.Proofs.YtoopcoeonbkedaaGreatDoor
theorem mN_:Tryz.f4.params=#[T.uint8,T.aT_]:=by kernel_rfl
theorem uU8:PR.underlying T.uint8=some (.int .u8):=by kernel_rfl
theorem uOps:PR.underlying T.aT_=some (.slice T.cb_):=by kernel_rfl
theorem cOp:PR.cellsOf T.cb_=11:=by kernel_rfl
theorem fOp:flds T.cb_=some [(T.int,0),(T.int,1),(T.bA_,2),(T.bU_,3),(T.string,8),(T.el_,9)]:=by kernel_rfl
theorem tB_:PR.underlying T.bA_=some (.slice T.av_):=by kernel_rfl
theorem un_:PR.cellsOf T.bA_=1:=by kernel_rfl
theorem uR_:PR.cellsOf T.av_=2:=by kernel_rfl
theorem uK_:flds T.av_=some [(T.int,0),(T.int,1)]:=by kernel_rfl
theorem uJ_:flds T.bU_=some [(T.int,0),(T.int,1),(T.int,2),(T.string,3),(T.aP_,4)]:=by kernel_rfl
theorem uQ_:PR.cellsOf T.bU_=5:=by kernel_rfl
theorem uI_:flds T.el_=some [(T.hD_,0),(T.int,1)]:=by kernel_rfl
theorem uP_:PR.cellsOf T.el_=2:=by kernel_rfl
theorem tC_:PR.underlying T.hD_=some (.slice T.bool):=by kernel_rfl
theorem uo_:PR.cellsOf T.hD_=1:=by kernel_rfl
theorem uA_:PR.readableRec T.uint8=true:=by kernel_rfl
theorem tS_:PR.readableRec T.aT_=true:=by kernel_rfl
theorem tU_ {n:Int} (h:(Lit.int .u8 n).wf=true):0≤n∧n≤255:=by
 simp [Lit.wf,IntKind.min,IntKind.max,IntKind.bits,IntKind.signed] at h;omega
section
variable {H:Type} {enc:TypeId × Value→H} {w:World} {base:Nat} {spare:Nat→Bool} {held:Bool}
theorem tk_ {n:Nat} {cs:List Value} {x:DataW H × List MemPlace} (hx:DataW.trod enc PR w base spare held n T.av_ cs=some x) (hlen:cs.length=2):∃e:Int × Int,cs=[.int .i64 e.1,.int .i64 e.2]:=by
 obtain ⟨m,hm⟩:=fs_ uK_ hx
 obtain ⟨y0,h0⟩:=hm 0 _ rfl
 obtain ⟨y1,h1⟩:=hm 1 _ rfl
 match cs,hlen with
 | [v0,v1],_=>
  rw [show PR.cellsOf (T.int,0).1=1 from cInt] at h0
  rw [show PR.cellsOf (T.int,1).1=1 from cInt] at h1
  obtain ⟨n0,e0,_,_⟩:=DataW.trod_int uInt h0
  obtain ⟨n1,e1,_,_⟩:=DataW.trod_int uInt h1
  obtain rfl:v0=.int .i64 n0:=(List.cons.inj e0).1
  obtain rfl:v1=.int .i64 n1:=(List.cons.inj e1).1
  exact ⟨(n0,n1),rfl⟩
theorem r9_ {fuel:Nat} {v:Value} {x:DataW H × List MemPlace} (h:DataW.trod enc PR w base spare held fuel T.bA_ [v]=some x):∃(q:Option Addr) (l:List (Int × Int)) (c:Nat),v=.slice q l.length c∧Sl w q (encE l):=by
 obtain ⟨q,l,c,h1,h2,_,_⟩:=j5_ (α:=Int × Int) (s:=2) (f:=λe=>[.int .i64 e.1,.int .i64 e.2]) (λ_=>rfl) (by decide) tB_ uR_ (G:=λ_=>True) (λn cs x hx hlen=>by
  obtain ⟨e,he⟩:=tk_ hx hlen
  exact ⟨e,he,trivial⟩) h
 exact ⟨q,l,c,h1,h2⟩
theorem s__ {n:Nat} {cs:List Value} {x:DataW H × List MemPlace} (hx:DataW.trod enc PR w base spare held n T.bU_ cs=some x) (hlen:cs.length=5) :
  ∃(m:MsgL) (q:Option Addr) (c:Nat),cs=[.int .i64 m.kind,.int .i64 m.ver,.int .i64 m.i,.string (str m.text),.slice q m.proof.length c]∧Sl w q (m.proof.map sv8'):=by
 obtain ⟨m,hm⟩:=fs_ uJ_ hx
 obtain ⟨y0,h0⟩:=hm 0 _ rfl
 obtain ⟨y1,h1⟩:=hm 1 _ rfl
 obtain ⟨y2,h2⟩:=hm 2 _ rfl
 obtain ⟨y3,h3⟩:=hm 3 _ rfl
 obtain ⟨y4,h4⟩:=hm 4 _ rfl
 match cs,hlen with
 | [v0,v1,v2,v3,v4],_=>
  rw [show PR.cellsOf (T.int,0).1=1 from cInt] at h0
  rw [show PR.cellsOf (T.int,1).1=1 from cInt] at h1
  rw [show PR.cellsOf (T.int,2).1=1 from cInt] at h2
  rw [show PR.cellsOf (T.string,3).1=1 from cStr] at h3
  rw [show PR.cellsOf (T.aP_,4).1=1 from uO_] at h4
  obtain ⟨n0,e0,_,_⟩:=DataW.trod_int uInt h0
  obtain ⟨n1,e1,_,_⟩:=DataW.trod_int uInt h1
  obtain ⟨n2,e2,_,_⟩:=DataW.trod_int uInt h2
  obtain ⟨s,e3,_⟩:=DataW.trod_string uStr h3
  obtain ⟨q,l,c,e4,s4⟩:=sV_ (v:=v4) h4
  obtain rfl:v0=.int .i64 n0:=(List.cons.inj e0).1
  obtain rfl:v1=.int .i64 n1:=(List.cons.inj e1).1
  obtain rfl:v2=.int .i64 n2:=(List.cons.inj e2).1
  obtain rfl:v3=.string s:=(List.cons.inj e3).1
  subst e4
  refine ⟨⟨n0,n1,n2,s.data.toList,l.map (·.data.toList)⟩,q,c,?_,?_⟩
  ·simp only [ep_,List.length_map]
  ·rw [List.map_map]
   have:(sv8' ∘ λx:ByteArray=>x.data.toList)=Value.string:=by
    funext x;simp only [Function.comp,sv8',ep_]
   rw [this];exact s4
theorem s1_ {n:Nat} {cs:List Value} {x:DataW H × List MemPlace} (hx:DataW.trod enc PR w base spare held n T.el_ cs=some x) (hlen:cs.length=2):∃(q:Option Addr) (l c:Nat) (k:Int),cs=[.slice q l c,.int .i64 k]:=by
 obtain ⟨m,hm⟩:=fs_ uI_ hx
 obtain ⟨y0,h0⟩:=hm 0 _ rfl
 obtain ⟨y1,h1⟩:=hm 1 _ rfl
 match cs,hlen with
 | [v0,v1],_=>
  rw [show PR.cellsOf (T.hD_,0).1=1 from uo_] at h0
  rw [show PR.cellsOf (T.int,1).1=1 from cInt] at h1
  have h0':DataW.trod enc PR w base spare held m T.hD_ [v0]=some y0:=h0
  obtain ⟨n1,e1,_,_⟩:=DataW.trod_int uInt h1
  obtain rfl:v1=.int .i64 n1:=(List.cons.inj e1).1
  rcases open_slice tC_ h0' with ⟨e,_⟩ | ⟨a,len,cap,_,_,_,_,e,_⟩
  ·cases e;exact ⟨none,0,0,n1,rfl⟩
  ·cases e;exact ⟨some a,len,cap,n1,rfl⟩
theorem uB_ {n:Nat} {cs:List Value} {x:DataW H × List MemPlace} (hx:DataW.trod enc PR w base spare held n T.cb_ cs=some x) (hlen:cs.length=11) :
  ∃o:OpH,cs=opHC o∧Sl w o.q (encE o.l)∧Sl w o.mq (o.m.proof.map sv8'):=by
 obtain ⟨m,hm⟩:=fs_ fOp hx
 obtain ⟨y0,h0⟩:=hm 0 _ rfl
 obtain ⟨y1,h1⟩:=hm 1 _ rfl
 obtain ⟨y2,h2⟩:=hm 2 _ rfl
 obtain ⟨y3,h3⟩:=hm 3 _ rfl
 obtain ⟨y4,h4⟩:=hm 4 _ rfl
 obtain ⟨y5,h5⟩:=hm 5 _ rfl
 match cs,hlen with
 | [v0,v1,v2,v3,v4,v5,v6,v7,v8,v9,v10],_=>
  rw [show PR.cellsOf (T.int,0).1=1 from cInt] at h0
  rw [show PR.cellsOf (T.int,1).1=1 from cInt] at h1
  rw [show PR.cellsOf (T.bA_,2).1=1 from un_] at h2
  rw [show PR.cellsOf (T.bU_,3).1=5 from uQ_] at h3
  rw [show PR.cellsOf (T.string,8).1=1 from cStr] at h4
  rw [show PR.cellsOf (T.el_,9).1=2 from uP_] at h5
  obtain ⟨n0,e0,_,_⟩:=DataW.trod_int uInt h0
  obtain ⟨n1,e1,_,_⟩:=DataW.trod_int uInt h1
  obtain ⟨q,l,c,e2,s2⟩:=r9_ (v:=v2) h2
  obtain ⟨mm,mq,mc,e3,s3⟩:=s__ (cs:=[v3,v4,v5,v6,v7]) h3 rfl
  obtain ⟨s,e4,_⟩:=DataW.trod_string uStr h4
  obtain ⟨pq,pl,pc,pn,e5⟩:=s1_ (cs:=[v9,v10]) h5 rfl
  obtain rfl:v0=.int .i64 n0:=(List.cons.inj e0).1
  obtain rfl:v1=.int .i64 n1:=(List.cons.inj e1).1
  obtain rfl:v8=.string s:=(List.cons.inj e4).1
  injection e3 with a3 e3
  injection e3 with a4 e3
  injection e3 with a5 e3
  injection e3 with a6 e3
  injection e3 with a7 e3
  injection e5 with a9 e5
  injection e5 with a10 e5
  subst e2 a3 a4 a5 a6 a7 a9 a10
  exact ⟨⟨n0,n1,q,c,l,mm,mq,mc,s.data.toList,pq,pl,pc,pn⟩,by simp only [opHC,ep_],s2,s3⟩
theorem s5_ {fuel:Nat} {v:Value} {x:DataW H × List MemPlace} (h:DataW.trod enc PR w base spare held fuel T.aT_ [v]=some x):∃(q:Option Addr) (ops:List OpH) (c:Nat),v=.slice q ops.length c∧OpsH w q ops:=by
 obtain ⟨q,l,c,h1,h2,h3,_⟩:=j5_ (α:=OpH) (s:=11) (f:=opHC) ki_ (by decide) uOps cOp (G:=λo=>Sl w o.q (encE o.l)∧Sl w o.mq (o.m.proof.map sv8')) (λn cs x hx hlen=>uB_ hx hlen) h
 exact ⟨q,l,c,h1,⟨h2,λo ho=>(h3 o ho).1,λo ho=>(h3 o ho).2⟩⟩
end
theorem qK_ (H:Type) (enc:TypeId × Value→H) (W:World) (base:Nat) (args:Array Value) (ds gs:List (DataW H)) (before:List MemPlace)
  (hval:∀(j:Nat) t v,Tryz.f4.params[j]? = some t→args[j]? = some v→Value.okWide Tryz.prog W .any base t v)
  (hW:DataW.Whole enc Tryz.prog Tryz.f4.params.toList Rows.headAgainSpec.vars false W args.toList ds gs before) (hL:laidMetH Tryz.prog Rows.headAgainRow.laid W) :
  Calls Tryz.prog 4 args W λe W'=>∃v,e=.returned v∧Rows.headAgainSpec.post enc Tryz.prog Tryz.f4 false true false false W args v W':=by
 have hW':=hW
 obtain ⟨p,q,hA0,hV,rfl,hfz,hnd⟩:=hW
 have hA:DataW.TrodAll enc Tryz.prog W 0 (λ_=>true) true Tryz.f4.params.toList args.toList ds p:=hA0
 rw [mN_] at hA hval
 obtain ⟨v0,v1,d0,d1,p0,p1,rfl,rfl,rfl,h0,h1⟩:=trodAll_two hA
 obtain ⟨rfl,rfl⟩:=trodVars_none hV
 have h0k:=h0
 have h1k:=h1
 obtain ⟨n,rfl⟩:=okWide_int uU8 (hval 0 _ _ rfl rfl)
 obtain ⟨q1,l1,c1,rfl⟩:=okWide_slice uOps (hval 1 _ _ rfl rfl)
 obtain ⟨fuel0,hf0⟩:=h0
 obtain ⟨n',e0,_,r0⟩:=DataW.trod_int uU8 (show DataW.trod enc PR W 0 (λ_=>true) true fuel0 T.uint8 [.int .u8 n]=some (d0,p0) from hf0)
 obtain rfl:n=n':=by injection e0 with e0;injection e0
 obtain ⟨fuel1,hf1⟩:=h1
 obtain ⟨y,ops,c,e,hops⟩:=s5_ (v:=.slice q1 l1 c1) hf1
 cases e
 have hl0:∀x∈p0++p1,x.block<W.heap.size:=λx hx=>hW'.lt x (by simpa using hx)
 refine jh_ (tU_ r0) hops rfl (tg_ hL) λW' g=>?_
 have hb:=kS_ g
 refine kc_ (pa:=p0++(p1++[])) (pv:=[]) hW' (λ_ _ _=>trodAll_cons_mk (shut_bool tD_ _) trodAll_mk0)
  (λsp hsp=>?_) (λ_ _=>rfl) (by simp) hb (ok_one (by kernel_rfl) rfl (okWide_bool_mk tD_ _))
 rw [mN_]
 have stay:∀ {t:TypeId} {v:Value} {d:DataW H} {q:List MemPlace},PR.readableRec t=true→decide (t<PR.types.size)=true→(∀x∈q,x∈p0++p1)→DataW.Trod enc PR W 0 (λ_=>true) true t v d q→DataW.Trod enc PR W' 0 sp true t v d q:=λhr hz hq h=>
  WideElems.Trod_stays layG hr (of_decide_eq_true hz) h (λx hx=>hb.same (hl0 x (hq x hx))) (λx hx=>hsp x (by simpa using hq x hx))
 exact trodAll_cons_mk (stay uA_ (by kernel_rfl) (λx hx=>by simp [hx]) h0k) (trodAll_cons_mk (stay tS_ (by kernel_rfl) (λx hx=>by simp [hx]) h1k) trodAll_mk0)
def zInH:Array Value:=#[.int .u8 0,.slice none 0 0]
theorem tT_ (os:Os) {H:Type} (enc:TypeId × Value→H):∃places,DataW.whole enc Tryz.prog ((h9_ os).forCall (λ_ _=>0) ⟨#[],zInH,[]⟩).memory Tryz.f4.params.toList Rows.headAgainSpec.vars false zInH.toList 8 =
  some ([.lit (.int .u8 0),.nil],[],places):=
 ⟨[],by kernel_rfl⟩
theorem tb_ (os:Os) (started:os.Started) (H:Type) (enc:TypeId × Value→H) (F:Stop.Interp) :
  ReturnsInHanded {} Tryz.checked os 4 .any ((OpenSpec.ofChange Rows.headAgainSpec).preRow enc Tryz.prog Tryz.f4 Rows.headAgainRow.domain false Rows.headAgainRow.laid) (((OpenSpec.ofChange Rows.headAgainSpec).at F).post enc Tryz.prog Tryz.f4 false true false false):=by
 obtain ⟨places,hx⟩:=tT_ os enc
 refine returnsInHanded_of_row (C:=Tryz.checked) (s:=OpenSpec.ofChange Rows.headAgainSpec) ownG started (by kernel_rfl) Tryz.func4
  (witness_row_atRef (enc:=enc) (C:=Tryz.checked) false (h9_ os) zInH rfl (by kernel_rfl) (by kernel_rfl) (by kernel_rfl)
   (OpenSpec.preRow_of_cond 8 hx (by kernel_rfl) (λk hk=>by cases hk) (by kernel_rfl) (rV_ os _))) ?_
 intro W base args ds gs before hval hW _ _ _ hL hsh _
 exact qK_ H enc W base args ds gs before hval hW hL
theorem tM_:Rows.HeadAgainSaid:=
 OpenClaim.holds_of_cond 4 Tryz.f4 rfl rfl rfl rfl rfl rfl rfl ⟨rfl,rfl,rfl,rfl,rfl⟩ rfl rfl rfl rfl rfl (by kernel_rfl) Tryz.func4 (by kernel_rfl)
  (of_decide_eq_true (by kernel_rfl)) (by unfold Func.isWrapper;first | (rw [if_pos (by decide +kernel)];kernel_rfl) | (rw [if_neg (by decide +kernel)];exact ⟨rfl,rfl⟩))
  (λos started H enc _ F=>by rw [OpenClaim.pre_eq_preRow];exact tb_ os started H enc F)
theorem tV_ (f:FuncId) (fn:Func) (hf:Tryz.pinned.checked.prog.funcNamed "lading/ladinglaw26.HeadAgain" = some f) (hfn:Tryz.pinned.checked.prog.funcs[f]? = some fn) :
  true=Tryz.pinned.checked.prog.looks []∧∀(j:Nat) t,fn.params[j]? = some t→Tryz.pinned.checked.prog.wantsStandIn t=false:=by
 obtain rfl:f=4:=Option.some.inj ((show Tryz.prog.funcNamed "lading/ladinglaw26.HeadAgain" = some 4 by kernel_rfl).symm.trans hf) |>.symm
 obtain rfl:fn=Tryz.f4:=(Option.some.inj (Tryz.func4.symm.trans hfn)).symm
 refine ⟨by kernel_rfl,λj t ht=>?_⟩
 rw [mN_] at ht
 have ht:t=T.uint8∨t=T.aT_:=by simpa using Array.mem_of_getElem? ht
 rcases ht with rfl | rfl
 ·exact (show Tryz.prog.wantsStandIn T.uint8=false by kernel_rfl)
 ·exact (show Tryz.prog.wantsStandIn T.aT_=false by kernel_rfl)
theorem cardHA:Rows.HeadAgainCardSaid:=
 Claim7.holds_tied_plain_at .later [] _ _ _ _ tM_ (λ_ h=>by cases h) (by kernel_rfl) (λ_ h=>by cases h) headAgain_row_tie rfl ⟨rfl,rfl⟩ (by kernel_rfl) rfl tV_ (by kernel_rfl)
end Go.Vc
