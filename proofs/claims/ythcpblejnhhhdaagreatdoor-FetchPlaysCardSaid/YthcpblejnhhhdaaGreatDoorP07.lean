/-
  A part of the proof of the statement FetchPlaysCardSaid, in Lean: Sh5, Sha0, Mk2, MirP11, Tr1, Orx, Ed1, MirP4, Ed2, Ed3, Fra1, Ed4, Ed5, MirP6, Dk1, Jr1, Jr2. By an AI agent.
-/
import Derived.Test.YthcpblejnhhhdaaGreatDoorP06
import Derived.Test.YthcpblejnhhhdaaGreatDoorP02
import Derived.Test.YthcpblejnhhhdaaGreatDoorP04
import Derived.Maps.RangeRun
import Derived.Test.YthcpblejnhhhdaaGreatDoorShelfB
import Derived.WalkKit
import Derived.LaidEql
import Derived.RowKitTokens
import Derived.StillTailTactics
import Derived.Test.YthcpblejnhhhdaaGreatDoorP03
set_option linter.unusedSimpArgs false
set_option linter.unusedVariables false
set_option maxRecDepth 100000
namespace Go.Vc
open Go
def u8f (x:Int):UInt8:=UInt8.ofNat (IntKind.wrap .u8 x).toNat
def wb (x:Int):List UInt8:=[u8f (Int.fdiv x 16777216),u8f (Int.fdiv x 65536),u8f (Int.fdiv x 256),u8f x]
theorem ox_ (x:Int):(wb x).map bv=[.int .u8 (IntKind.wrap .u8 (Int.fdiv x 16777216)),.int .u8 (IntKind.wrap .u8 (Int.fdiv x 65536)),.int .u8 (IntKind.wrap .u8 (Int.fdiv x 256)),.int .u8 (IntKind.wrap .u8 x)]:=by
 rw [iJ_,iJ_,iJ_,iJ_];rfl
def dgN (L:List Int):Nat→List UInt8
 | 0=>[]
 | i+1=>dgN L i++wb (L.getD i 0)
theorem iD_ (L:List Int):∀i,(dgN L i).length=4*i
 | 0=>rfl
 | i+1=>by rw [dgN,List.length_append,iD_ L i];simp [wb];omega
theorem rq_ (rest:List UInt8) (many:Int):(endL rest many).length=rest.length+1+padN (rest.length+1)+8:=by
 simp [endL,kx_];omega
theorem Chg.same {w w':World} {b:Nat} {o:Obj} (g:Chg (· = b) w w') (h:w.heap[b]? = some o) (h':w'.heap[b]? = some o):Grow w w':=
 ⟨g.os,g.tape,g.output,g.size,λk hk _=>by
  by_cases e:k=b
  ·subst e;rw [h,h']
  ·exact g.block k hk e⟩
theorem qn_ {k0 kb l cc:Nat} {c:Ch} {q:Option Addr} {rest:List UInt8} {many:Int} {w:World} (hb:w.heap[k0]? = some (.cells (stC0 c kb q l cc many) T.d6_ (0,0))) (hk:KAt w kb) (hs:Sl w q (rest.map bv)) (hl:l=rest.length) (hn:l≤100000) {K:Value→World→Prop}
  (hK:∀w',Grow w w'→K (.string (str (dgN (pcs c (endL rest many) ((endL rest many).length / 64)).ls 8))) w'):aa_ PR F.h2_ ⟨[.pointer (some ⟨k0,0,none⟩)]⟩ w K:=by
 have hk0:=aj_ hb
 have hel:=rq_ rest many
 have hpad:padN (rest.length+1)<64:=Nat.mod_lt _ (by decide)
 have h0:Fs (· = k0) w [⟨k0,stC0 c kb q l cc many,T.d6_,true⟩] w:=(Fr.init _ w).entry hb (λx h=>by cases h) λ_=>rfl
 refine j1_ k0 c.a c.b c.c c.d c.e c.f c.g c.h (some ⟨kb,0,none⟩) q l cc many (· = k0) K w h0 ⟨rfl,trivial⟩ ⟨λw0 hF0=>?_,λb24 hb24 w0 hF0=>?_⟩
 ·have g0:Grow w w0:=hF0.grow
  refine nl_ (many:=many) (hs.grow g0) hl (by omega) λw1 q1 c1 g1 hs1 hc1=>?_
  have hF1:=hF0.reset.after g1
  refine ⟨_,_,_,rfl,hF1,?_,λb13 hb13 w8 hF8=>?_⟩
  ·refine eJ_ (c:=c) (hk.grow (g0.trans g1)) (hs1) rfl hc1 (by omega) λw9 q9 n9 c9 g9 hs9 hn9 hq9=>?_
   have hF9:=hF1.after g9
   generalize pcs c (endL rest many) ((endL rest many).length / 64)=C at hK ⊢
   refine ⟨_,_,_,_,_,_,_,_,_,_,_,rfl,hF9,λb4 hb4 w3 hF3=>?_⟩
   refine ⟨λq l cc n m w'=>∃i:Nat,n=i∧i≤8∧m=8 - i∧Own T.uint8 1 w' q cc ((dgN C.ls i).map bv)∧l=(dgN C.ls i).length∧l≤cc∧Off (λj=>j<w.heap.size) q,⟨_,0,rfl,by omega,rfl,.nil _ _ _,rfl,Nat.le_refl _,λa h=>by cases h⟩,?_⟩
   rintro q2 l2 c2 n D m w4 ⟨i,rfl,hi,rfl,ho,rfl,hlc,of4⟩ hF4
   refine ⟨λhlt=>?_,λhge=>?_⟩
   ·have hi':i<8:=by omega
    refine ⟨by omega,by omega,C.ls.getD i 0,?_,λb5 hb5 w5 hF5=>?_⟩
    ·rw [show Int.toNat (i:Int)*1=i by omega];exact co_ (L:=C.ls) (by show i<8;omega)
    ·have hsl:Sl w5 (some ⟨b5,0,none⟩) ((wb (C.ls.getD i 0)).map bv):=by rw [ox_];exact hF5.sl 1 rfl
     have hdl:=iD_ C.ls i
     refine f1_ (ys:=wb (C.ls.getD i 0)) (ho.grow hF5.grow) (by simp) hlc hsl rfl (by rw [hdl];omega) λq5 c5 w6 ho6 hc6 g6 hq6=>?_
     have hF6:=hF5.app2 g6 w.heap.size w4.heap.size of4 (λa ha=>ho.lt a ha) (λx hx=>by simp at hx;rcases hx with rfl | rfl;exact .inl hk0;exact .inr hb5) (Nat.le_refl _)
     exact ⟨_,_,_,rfl,hF6,8 - (i+1),by omega,i+1,by rw [w64 (by omega) (by omega)];rfl,by omega,rfl,ho6,by rw [dgN,List.length_append];rfl,hc6,of4.next hq6 (by have:=hF5.chg.size;omega)⟩
   ·have:i=8:=by omega
    subst this
    refine df_ <| fz_ cy_ oF_ u_u8 ho.sl rfl ?_
    exact ⟨_,rfl,hF4,hK w4 (hF4.chg.same hb (hF4.blk 0 rfl))⟩
  ·have g8:Grow w1 w8:=hF8.grow
   refine eJ_ (c:=c) (hk.grow ((g0.trans g1).trans g8)) (hs1.grow g8) rfl hc1 (by omega) λw9 q9 n9 c9 g9 hs9 hn9 hq9=>?_
   have hF9:=hF8.reset.after g9
   generalize pcs c (endL rest many) ((endL rest many).length / 64)=C at hK ⊢
   refine ⟨_,_,_,_,_,_,_,_,_,_,_,rfl,hF9,λw3 hF3=>?_⟩
   refine ⟨λq l cc n m w'=>∃i:Nat,n=i∧i≤8∧m=8 - i∧Own T.uint8 1 w' q cc ((dgN C.ls i).map bv)∧l=(dgN C.ls i).length∧l≤cc∧Off (λj=>j<w.heap.size) q,⟨_,0,rfl,by omega,rfl,.nil _ _ _,rfl,Nat.le_refl _,λa h=>by cases h⟩,?_⟩
   rintro q2 l2 c2 n D m w4 ⟨i,rfl,hi,rfl,ho,rfl,hlc,of4⟩ hF4
   refine ⟨λhlt=>?_,λhge=>?_⟩
   ·have hi':i<8:=by omega
    refine ⟨by omega,by omega,C.ls.getD i 0,?_,λb5 hb5 w5 hF5=>?_⟩
    ·rw [show Int.toNat (i:Int)*1=i by omega];exact co_ (L:=C.ls) (by show i<8;omega)
    ·have hsl:Sl w5 (some ⟨b5,0,none⟩) ((wb (C.ls.getD i 0)).map bv):=by rw [ox_];exact hF5.sl 1 rfl
     have hdl:=iD_ C.ls i
     refine f1_ (ys:=wb (C.ls.getD i 0)) (ho.grow hF5.grow) (by simp) hlc hsl rfl (by rw [hdl];omega) λq5 c5 w6 ho6 hc6 g6 hq6=>?_
     have hF6:=hF5.app2 g6 w.heap.size w4.heap.size of4 (λa ha=>ho.lt a ha) (λx hx=>by simp at hx;rcases hx with rfl | rfl;exact .inl hk0;exact .inr hb5) (Nat.le_refl _)
     exact ⟨_,_,_,rfl,hF6,8 - (i+1),by omega,i+1,by rw [w64 (by omega) (by omega)];rfl,by omega,rfl,ho6,by rw [dgN,List.length_append];rfl,hc6,of4.next hq6 (by have:=hF5.chg.size;omega)⟩
   ·have:i=8:=by omega
    subst this
    refine df_ <| fz_ cy_ oF_ u_u8 ho.sl rfl ?_
    exact ⟨_,rfl,hF4,hK w4 (hF4.chg.same hb (hF4.blk 0 rfl))⟩
 ·have g0:Grow w w0:=hF0.grow
  refine nl_ (many:=many) (hs.grow g0) hl (by omega) λw1 q1 c1 g1 hs1 hc1=>?_
  have hF1:=hF0.reset.after g1
  refine ⟨_,_,_,rfl,hF1,?_⟩
  refine eJ_ (c:=c) (hk.grow (g0.trans g1)) (hs1) rfl hc1 (by omega) λw9 q9 n9 c9 g9 hs9 hn9 hq9=>?_
  have hF9:=hF1.after g9
  generalize pcs c (endL rest many) ((endL rest many).length / 64)=C at hK ⊢
  refine ⟨_,_,_,_,_,_,_,_,_,_,_,rfl,hF9,λw3 hF3=>?_⟩
  refine ⟨λq l cc n m w'=>∃i:Nat,n=i∧i≤8∧m=8 - i∧Own T.uint8 1 w' q cc ((dgN C.ls i).map bv)∧l=(dgN C.ls i).length∧l≤cc∧Off (λj=>j<w.heap.size) q,⟨_,0,rfl,by omega,rfl,.nil _ _ _,rfl,Nat.le_refl _,λa h=>by cases h⟩,?_⟩
  rintro q2 l2 c2 n D m w4 ⟨i,rfl,hi,rfl,ho,rfl,hlc,of4⟩ hF4
  refine ⟨λhlt=>?_,λhge=>?_⟩
  ·have hi':i<8:=by omega
   refine ⟨by omega,by omega,C.ls.getD i 0,?_,λb5 hb5 w5 hF5=>?_⟩
   ·rw [show Int.toNat (i:Int)*1=i by omega];exact co_ (L:=C.ls) (by show i<8;omega)
   ·have hsl:Sl w5 (some ⟨b5,0,none⟩) ((wb (C.ls.getD i 0)).map bv):=by rw [ox_];exact hF5.sl 1 rfl
    have hdl:=iD_ C.ls i
    refine f1_ (ys:=wb (C.ls.getD i 0)) (ho.grow hF5.grow) (by simp) hlc hsl rfl (by rw [hdl];omega) λq5 c5 w6 ho6 hc6 g6 hq6=>?_
    have hF6:=hF5.app2 g6 w.heap.size w4.heap.size of4 (λa ha=>ho.lt a ha) (λx hx=>by simp at hx;rcases hx with rfl | rfl;exact .inl hk0;exact .inr hb5) (Nat.le_refl _)
    exact ⟨_,_,_,rfl,hF6,8 - (i+1),by omega,i+1,by rw [w64 (by omega) (by omega)];rfl,by omega,rfl,ho6,by rw [dgN,List.length_append];rfl,hc6,of4.next hq6 (by have:=hF5.chg.size;omega)⟩
  ·have:i=8:=by omega
   subst this
   refine df_ <| fz_ cy_ oF_ u_u8 ho.sl rfl ?_
   exact ⟨_,rfl,hF4,hK w4 (hF4.chg.same hb (hF4.blk 0 rfl))⟩
end Go.Vc
namespace Go.Vc
open Go
def r1_:Ch:=⟨1779033703,3144134277,1013904242,2773480762,1359893119,2600822924,528734635,1541459225⟩
def shaL (f:List UInt8):List UInt8:=
 dgN (pcs (pcs r1_ f (f.length / 64)) (endL (f.drop (64*(f.length / 64))) f.length) ((endL (f.drop (64*(f.length / 64))) f.length).length / 64)).ls 8
theorem q4_ {w:World} {K:Value→World→Prop} (hK:∀w' b kb,Grow w w'→w.heap.size≤b→w'.heap[b]? = some (.cells (stC0 r1_ kb none 0 0 0) T.d6_ (0,0))→KAt w' kb→kb≠b→K (.pointer (some ⟨b,0,none⟩)) w'):aa_ PR F.sa_ ⟨[]⟩ w K:=by
 refine qR_ S0 K w (tn_ λw1 kb g1 hkb hk=>⟨_,rfl,(Fr.init _ w).after g1,λb hb w2 hF2=>?_⟩)
 have hkl:=hk.lt
 exact hK w2 b kb hF2.gr (by have:=g1.size;omega) (hF2.blk 0 rfl) (hk.grow hF2.grow) (by omega)
theorem l8_:∃H:List UInt8→List UInt8,(∀l,(H l).length=32)∧∀(xs:List (List UInt8)) (q:Option Addr) (n c:Nat) (w:World) (K:Value→World→Prop),Sl w q (xs.map sv8')→n=xs.length→n≤1000→xs.flatten.length≤1099511627776→
  (∀w',Grow w w'→K (.string (str (H xs.flatten))) w')→aa_ PR F.o8_ ⟨[.slice q n c]⟩ w K:=by
 refine ⟨shaL,λl=>iD_ _ 8,λxs q n c w K hs hl hn hb hK=>?_⟩
 refine qQ_ q n c S0 K w (q4_ λw1 b kb g1 hbw hbb hk hkb=>⟨_,rfl,(Fr.init _ w).after g1,?_⟩)
 have hoff:xs=[]∨Off (· = b) q:=by
  rcases hs with h | ⟨b',o,rfl,hr⟩
  ·exact .inl (by simpa using h)
  ·refine .inr λa ha e=>?_
   cases ha
   have:=hr.lt
   have e':b'=b:=e
   omega
 refine mK_ hbb hk hkb (hs.grow g1) hoff hl (by omega) hb λw2 q2 c2 g2 hb2 hs2=>?_
 have hF2:Fs S0 w [] w2:=((Fr.init _ w).after g1).step g2 (λx hx=>by cases hx) λk hk e=>by have e':k=b:=e;omega
 refine ⟨rfl,hF2,?_⟩
 refine qn_ hb2 (hk.keep g2 hkb) hs2 (by rw [List.length_drop]) (by omega) λw3 g3=>⟨_,rfl,hF2.after g3,hK w3 (hF2.after g3).chg⟩
end Go.Vc
namespace Go.Vc
open Go
noncomputable def Hs:List UInt8→List UInt8:=Classical.choose l8_
theorem gX_ (l:List UInt8):(Hs l).length=32:=(Classical.choose_spec l8_).1 l
theorem fw_ {xs:List (List UInt8)} {q:Option Addr} {n c:Nat} {w:World} {K:Value→World→Prop} (hs:Sl w q (xs.map sv8')) (hn:n=xs.length) (hl:n≤1000) (hb:xs.flatten.length≤1099511627776)
  (hK:∀w',Grow w w'→K (.string (str (Hs xs.flatten))) w'):aa_ PR F.o8_ ⟨[.slice q n c]⟩ w K:=(Classical.choose_spec l8_).2 xs q n c w K hs hn hl hb hK
noncomputable def aC_ (s:List UInt8):List UInt8:=Hs (0 :: s)
noncomputable def a9_ (a b:List UInt8):List UInt8:=Hs (1 :: (a++b))
theorem iO_ {s:List UInt8} (hs:s.length≤1000000) {w:World} {K:Value→World→Prop} (hK:∀w',Grow w w'→K (.string (str (aC_ s))) w'):aa_ PR F.fg_ ⟨[.string (str s)]⟩ w K:=by
 refine fg_ (str s) S0 K w λb hb w0 hF0=>?_
 have e:([[0],s]:List (List UInt8)).flatten=0 :: s:=by simp
 refine fw_ (xs:=[[0],s]) (hF0.sl 0 rfl) rfl (by omega) (by rw [e];simp;omega) λw1 g1=>⟨_,rfl,hF0.after g1,?_⟩
 rw [e];exact hK w1 (hF0.after g1).chg
theorem iN_ {a b:List UInt8} (ha:a.length=32) (hb:b.length=32) {w:World} {K:Value→World→Prop} (hK:∀w',Grow w w'→K (.string (str (a9_ a b))) w'):aa_ PR F.ff_ ⟨[.string (str a),.string (str b)]⟩ w K:=by
 refine ff_ (str a) (str b) S0 K w λx hx w0 hF0=>?_
 have e:([[1],a,b]:List (List UInt8)).flatten=1 :: (a++b):=by simp
 refine fw_ (xs:=[[1],a,b]) (hF0.sl 0 rfl) rfl (by omega) (by rw [e];simp;omega) λw1 g1=>⟨_,rfl,hF0.after g1,?_⟩
 rw [e];exact hK w1 (hF0.after g1).chg
theorem n5_ {x:Nat} (h:x≠0) (h2:x<2 ^ 64):Lib.bitLen x=Nat.log2 x+1:=by
 induction x using Nat.strongRecOn with
 | _ x ih=>
  rw [Lib.bitLen_half x h h2]
  by_cases h1:x / 2=0
  ·have:x=1:=by omega
   subst this
   decide
  ·rw [ih (x / 2) (by omega) h1 (by omega),Nat.log2_def x,if_pos (by omega)]
   omega
theorem f8_ {n:Nat} (h2:2≤n) (hn:n≤1048576) {w:World} {K:Value→World→Prop} (hK:K (.int .i64 (ah_ n)) w):aa_ PR F.eh_ ⟨[.int .i64 (n:Int)]⟩ w K:=by
 refine eh_ n S0 K w ?_
 have e1:IntKind.wrap .u64 (IntKind.wrap .i64 ((n:Int) - 1))=((n - 1:Nat):Int):=by
  rw [w64 (by omega) (by omega),IntKind.wrap_u64];omega
 rw [e1]
 have hlog:=Nat.log2_lt (n:=n - 1) (k:=20) (by omega)
 have hl20:Nat.log2 (n - 1)<20∨n - 1=1048576 - 1+0∨True:=.inr (.inr trivial)
 have hlt:Nat.log2 (n - 1)<21:=by
  rcases Nat.lt_or_ge (Nat.log2 (n - 1)) 21 with h | h
  ·exact h
  ·have:=Nat.log2_self_le (n:=n - 1) (by omega)
   have h3:2 ^ 21≤2 ^ Nat.log2 (n - 1):=Nat.pow_le_pow_right (by omega) h
   omega
 refine lE_ (by omega) (by omega) ⟨_,rfl,.init _ w,?_⟩
 rw [Int.toNat_natCast,n5_ (by omega) (by omega),w64 (by omega) (by omega)]
 refine ⟨by omega,?_⟩
 have e2:Int.toNat (((Nat.log2 (n - 1)+1:Nat):Int) - 1)=Nat.log2 (n - 1):=by omega
 have e3:((1:Int)*2 ^ min (Nat.log2 (n - 1)) 64)=((ah_ n:Nat):Int):=by
  rw [Nat.min_eq_left (by omega)];unfold ah_;simp
 rw [e2,e3]
 have:=c6_ h2
 rw [w64 (by omega) (by omega)]
 exact hK
def pl_ (leaves:List (List UInt8)) (R:Value→Value→Prop):Prop:=∀key v,R key v→∃a k:Nat,key=.agg #[.int .i64 a,.int .i64 k]∧1≤k∧a+k≤leaves.length∧v=.string (str (a5_ a9_ leaves k a k))
def dC_ (w:World) (b:Nat) (q:Option Addr) (c m:Nat) (leaves:List (List UInt8)) (R:Value→Value→Prop):Prop:=
 w.heap[b]? = some (.cells #[.slice q leaves.length c,.map (some m)] T.cI_ (0,0))∧Sl w q (leaves.map sv8')∧(∃n,MapP w T.al_ m n R)∧pl_ leaves R
theorem dC_.grow {w w':World} {b:Nat} {q:Option Addr} {c m:Nat} {leaves:List (List UInt8)} {R:Value→Value→Prop} (h:dC_ w b q c m leaves R) (g:Grow w w'):dC_ w' b q c m leaves R:=by
 obtain ⟨h1,h2,⟨n,h3⟩,h4⟩:=h
 exact ⟨Grow.get g h1,h2.grow g,⟨n,h3.grow g⟩,h4⟩
theorem sm_ {w:World} {b m:Nat} {cs:Array Value} {T:TypeId} {fz:Nat × Nat} {k:TypeId} {n:Nat} {R:Value→Value→Prop} (hb:w.heap[b]? = some (.cells cs T fz)) (hm:MapP w k m n R):b≠m:=by
 rintro rfl
 obtain ⟨es,clock,h,_⟩:=hm
 rw [hb] at h;cases h
theorem slNe {w:World} {q:Option Addr} {xs:List Value} {k:TypeId} {m n:Nat} {R:Value→Value→Prop} (hs:Sl w q xs) (hm:MapP w k m n R):xs=[]∨Off (· = m) q:=by
 rcases hs with h | ⟨b,o,rfl,cs,T,fz,h1,h2⟩
 ·exact .inl h
 ·refine .inr λa ha e=>?_
  cases ha
  exact sm_ h1 hm e
inductive cV_ (R:Value→Value→Prop):Nat→Nat→Prop where
 | leaf (a:Nat) (v:Value) (h:R (.agg #[.int .i64 (a:Nat),.int .i64 (1:Nat)]) v):cV_ R a 1
 | node (a n:Nat) (v:Value) (hn:2≤n) (h:R (.agg #[.int .i64 (a:Nat),.int .i64 (n:Nat)]) v) (h1:cV_ R a (ah_ n)) (h2:cV_ R (a+ah_ n) (n - ah_ n)):cV_ R a n
theorem cV_.mono {R R':Value→Value→Prop} {a n:Nat} (h:cV_ R a n) (hR:∀x y,R x y→∃z,R' x z):cV_ R' a n:=by
 induction h with
 | leaf a v h=>obtain ⟨z,hz⟩:=hR _ _ h;exact .leaf a z hz
 | node a n v hn h _ _ i1 i2=>obtain ⟨z,hz⟩:=hR _ _ h;exact .node a n z hn hz i1 i2
theorem pL_ {leaves:List (List UInt8)} (hl:∀x∈leaves,x.length=32) (hn:leaves.length≤100000):∀(k a:Nat),1≤k→a+k≤leaves.length→∀ {w:World} {b:Nat} {q:Option Addr} {c m:Nat} {R:Value→Value→Prop},dC_ w b q c m leaves R→∀ {K:Value→World→Prop},
  (∀w' R',dC_ w' b q c m leaves R'→(∀x y,R x y→∃z,R' x z)→R' (.agg #[.int .i64 a,.int .i64 k]) (.string (str (a5_ a9_ leaves k a k)))→cV_ R' a k→Chg (· = m) w w'→K (.string (str (a5_ a9_ leaves k a k))) w')→
  aa_ PR F.fI_ ⟨[.pointer (some ⟨b,0,none⟩),.agg #[.int .i64 a,.int .i64 k]]⟩ w K:=by
 intro k
 induction k using Nat.strongRecOn with
 | _ k ih=>
  intro a hk1 hak w b q c m R hT K hK
  obtain ⟨h1,h2,⟨n,h3⟩,h4⟩:=hT
  have hbm:=sm_ h1 h3
  have hqm:=slNe h2 h3
  obtain ⟨kl,hkl⟩:=kn_ (a:=a) (k:=k) ⟨by omega,by omega⟩ ⟨by omega,by omega⟩
  have note:∀(w1:World) (R1:Value→Value→Prop) (d:List UInt8),d=a5_ a9_ leaves k a k→dC_ w1 b q c m leaves R1→(∀x y,R x y→∃z,R1 x z)→(k=1∨2≤k∧cV_ R1 a (ah_ k)∧cV_ R1 (a+ah_ k) (k - ah_ k))→Chg (· = m) w w1→
    ∀K':World→Prop,(∀w',Chg (· = m) w1 w'→K (.string (str d)) w'→K' w')→rn PR (Instr.mapUpdate T.be_ (.map (some m)) (.agg #[.int .i64 a,.int .i64 k]) (.string (str d))) (λ_ w3=>K' w3) w1:=by
   rintro w1 R1 d rfl ⟨t1,t2,⟨n1,t3⟩,t4⟩ hR hA g K' hK'
   have hup:∀ {R2:Value→Value→Prop},(∀x y,R2 x y→∃z,updR R2 (.agg #[.int .i64 a,.int .i64 k]) (.string (str (a5_ a9_ leaves k a k))) x z):=λ{R2} x y hxy=>by
    by_cases e:x=.agg #[.int .i64 a,.int .i64 k]
    ·exact ⟨_,.inl ⟨e,rfl⟩⟩
    ·exact ⟨y,.inr ⟨e,hxy⟩⟩
   have hall:cV_ (updR R1 (.agg #[.int .i64 a,.int .i64 k]) (.string (str (a5_ a9_ leaves k a k)))) a k:=by
    rcases hA with h1 | ⟨h2,ha,hb⟩
    ·subst h1
     exact .leaf a _ (.inl ⟨rfl,rfl⟩)
    ·exact .node a k _ h2 (.inl ⟨rfl,rfl⟩) (ha.mono hup) (hb.mono hup)
   refine kV_ pA_ r3_ t3 hkl λw' hm' g' _=>hK' w' g' (hK w' _ ⟨g'.get t1 hbm,?_,⟨_,hm'⟩,?_⟩ ?_ (.inl ⟨rfl,rfl⟩) hall (g.trans g' λ_ _ e=>e))
   ·rcases hqm with h | h
    ·exact .inl h
    ·exact t2.keep g' h
   ·rintro key v (⟨rfl,rfl⟩ | ⟨_,hr⟩)
    ·exact ⟨a,k,rfl,hk1,hak,rfl⟩
    ·exact t4 key v hr
   ·intro x y hxy
    by_cases e:x=.agg #[.int .i64 a,.int .i64 k]
    ·exact ⟨_,.inl ⟨e,rfl⟩⟩
    ·obtain ⟨z,hz⟩:=hR x y hxy
     exact ⟨z,.inr ⟨e,hz⟩⟩
  have hS:∀ {w':World},Chg (· = m) w w'→Chg (λj=>j=b∨j=m) w w':=λg=>g.mono λ_ _ e=>.inr e
  refine g8_ b q leaves.length c (some m) a k (λj=>j=b∨j=m) K w ((Fr.init _ w).entry h1 (λx h=>by cases h) λ_=>.inl rfl) ⟨.inl rfl,trivial⟩ λb0 hb0=>⟨λh=>?_,λh w4 hF4=>?_⟩
  ·intro w0 hF0
   have hk:k=1:=by omega
   subst hk
   have g0:Grow w w0:=hF0.grow
   have ha:a<leaves.length:=by omega
   refine ⟨(· = w0),rfl,?_⟩
   refine (h2.grow g0).rd (v:=sv8' leaves[a]) (by simp) (by omega) (by simp [ha]) λx hx=>⟨_,λw1 e=>e ▸ hx,λw2 hF2=>⟨λ_=>True,trivial,?_⟩⟩
   have g2:Grow w0 w2:=hF2.grow
   have hT2:dC_ w2 b q c m leaves R:=dC_.grow ⟨h1,h2,⟨n,h3⟩,h4⟩ (g0.trans g2)
   have e1:leaves[a]=a5_ a9_ leaves 1 a 1:=by
    unfold a5_;rw [if_pos rfl];simp [List.getD,ha]
   refine note w2 R _ e1 hT2 (λx y h=>⟨y,h⟩) (.inl rfl) (g0.trans g2).chg _ λw' g' hk=>⟨hF2.step g' (λx hx=>?_) (λ_ _ e=>.inr e),hk⟩
   rcases List.mem_cons.1 hx with rfl | hx
   ·exact hbm
   ·simp at hx;subst hx;simp only [];have:=h3.lt;omega
  ·have hk2:2≤k:=by omega
   have hh:=c6_ hk2
   have hmlt:=h3.lt
   have g4:Grow w w4:=hF4.grow
   refine f8_ hk2 (by omega) ⟨_,rfl,hF4.reset,λw6 hF6=>⟨λ_=>True,trivial,?_⟩⟩
   have g6:Grow w4 w6:=hF6.grow
   have hT6:dC_ w6 b q c m leaves R:=dC_.grow ⟨h1,h2,⟨n,h3⟩,h4⟩ (g4.trans g6)
   have hfr:∀ {w1 w2:World},Fs (λj=>j=b∨j=m) w [⟨b,#[.slice q leaves.length c,.map (some m)],T.cI_,true⟩,⟨b0,#[.int .i64 a,.int .i64 k],T.al_,true⟩] w1→Chg (· = m) w1 w2→Fs (λj=>j=b∨j=m) w [⟨b,#[.slice q leaves.length c,.map (some m)],T.cI_,true⟩,⟨b0,#[.int .i64 a,.int .i64 k],T.al_,true⟩] w2:=λhF g=>hF.step g (λx hx=>by
    rcases List.mem_cons.1 hx with rfl | hx
    ·exact hbm
    ·simp at hx;subst hx;simp only [];omega) (λ_ _ e=>.inr e)
   refine ih (ah_ k) (by omega) a hh.1 (by omega) hT6 λw7 R7 hT7 hR7 hin7 ha7 g7=>⟨_,rfl,_,_,_,_,hfr hF6.reset g7,trivial,?_⟩
   have hF7:=hfr hF6.reset g7
   have ea:IntKind.wrap .i64 ((a:Int)+(ah_ k:Nat))=((a+ah_ k:Nat):Int):=by rw [w64 (by omega) (by omega)];omega
   have ek:IntKind.wrap .i64 ((k:Int) - (ah_ k:Nat))=((k - ah_ k:Nat):Int):=by rw [w64 (by omega) (by omega)];omega
   rw [ea,ek]
   refine ih (k - ah_ k) (by omega) (a+ah_ k) (by omega) (by omega) hT7 λw8 R8 hT8 hR8 hin8 ha8 g8=>⟨_,rfl,_,_,_,_,hfr hF7 g8,trivial,?_⟩
   have hF8:=hfr hF7 g8
   refine iN_ (d4_ gX_ leaves hl _ _ _ hh.1 (Nat.le_refl _) (by omega)) (d4_ gX_ leaves hl _ _ _ (by omega) (Nat.le_refl _) (by omega)) λw9 g9=>⟨_,rfl,hF8.after g9,trivial,λw10 hF10=>⟨λ_=>True,trivial,?_⟩⟩
   have g10:Grow w9 w10:=hF10.grow
   have e1:a9_ (a5_ a9_ leaves (ah_ k) a (ah_ k)) (a5_ a9_ leaves (k - ah_ k) (a+ah_ k) (k - ah_ k))=a5_ a9_ leaves k a k:=by
    obtain ⟨f,rfl⟩:∃f,k=f+1:=⟨k - 1,by omega⟩
    conv=>rhs;unfold a5_
    rw [if_neg (by omega),ct_ a9_ leaves f (ah_ (f+1)) a _ hh.1 (by omega) (Nat.le_refl _),ct_ a9_ leaves f (f+1 - ah_ (f+1)) _ _ (by omega) (by omega) (Nat.le_refl _)]
   refine note w10 R8 _ e1 ((hT8.grow g9).grow g10) (λx y h=>by obtain ⟨z,hz⟩:=hR7 x y h;exact hR8 x z hz) (.inr ⟨hk2,ha7.mono hR8,ha8⟩) ?_ _ λw' g' hk=>⟨hfr hF10.reset g',hk⟩
   exact (((((g4.trans g6).then g7).trans g8 λ_ _ e=>e).grow g9).grow g10)
end Go.Vc
namespace Go.Vc
open Go
theorem ek_ (k0:Nat) (m1:Int) (m2:Int) (m3:Int) (y4:Option Addr) (ly4:Nat) (cy4:Nat) (m5:Int) (z6:ByteArray) (y7:Option Addr) (ly7:Nat) (cy7:Nat) (S:SP) (K:KP) (w:World) (hF:Fs S w [⟨k0,#[.int .i64 m1,.int .i64 m2,.int .i64 m3,.slice y4 ly4 cy4,.int .i64 m5,.string z6,.slice y7 ly7 cy7],47,false⟩] w) (h:aa_ PR 63 #[.slice y7 ly7 cy7] w λv0 w0=>∃q0,v0=.pointer q0∧Fs S w [⟨k0,#[Iv m1,Iv m2,Iv m3,.slice y4 ly4 cy4,Iv m5,.string z6,.slice y7 ly7 cy7],47,false⟩] w0∧K (.pointer q0) w0):aa_ PR 33 ⟨[.pointer (some ⟨k0,0,none⟩)]⟩ w K:=
 ab_ (okf:=⟨okL,[]⟩) ag_ (args:=[.c (.p 0 k0 true 0)]) (H:=[⟨k0,.l [.v (.int .i64 m1),.v (.int .i64 m2),.v (.int .i64 m3),.v (.slice y4 ly4 cy4),.v (.int .i64 m5),.v (.string z6),.v (.slice y7 ly7 cy7)],47,false⟩]) (.s .z (.s .z (.s (.r ⟨(some [0]),false,[],[]⟩) .z))) Go.Proofs.Tryz.func33 rfl ⟨rfl,trivial⟩ ⟨⟨trivial,⟨trivial,⟨trivial,⟨trivial,⟨trivial,⟨trivial,⟨trivial,trivial⟩⟩⟩⟩⟩⟩⟩,trivial⟩ hF trivial (ad_ (by kernel_rfl) h)
end Go.Vc
namespace Go.Vc
open Go Go.MapKept
open Go.ChangeMaps (setBlock)
theorem hr_ (w:World) (r:Nat) (o:Obj):Chg (· = r) w (setBlock w r o):=o__ w r o
theorem fZ_ {w:World} {r:Nat} {o o':Obj} (h:w.heap[r]? = some o):(setBlock w r o').heap[r]? = some o':=by
 have:=aj_ h
 show (w.heap.setIfInBounds r _)[r]? = _
 simp [this]
theorem jA_ {t k e ty:TypeId} (Ky:Maps.Keyed PR k) (ht:PR.underlying t=some (.map k e)) {w:World} {r:Nat} {es:Array MapEntry} {clock:Nat} (hb:w.heap[r]? = some (.map es clock)) (hst:Stamped es clock) (hks:∀x∈es.toList,∃l,keyOf PR k x.key=some l) {key:Value} {kl:Lit} (hkey:keyOf PR k key=some kl) :
  ∃es',(Builtin.delete_ #[t,k] ty #[.map (some r),key]).run PR w=.ok (.tuple #[]) (setBlock w r (.map es' clock))∧Stamped es' clock∧es'.size≤es.size∧es'.toList.Sublist es.toList∧∀x,x∈es'.toList↔(x∈es.toList∧x.key≠key):=by
 rcases Ky.find w hkey es.toList hks with ⟨h1,h2⟩ | ⟨j,e0,h1,h2,h3⟩
 ·refine ⟨es,?_,hst,Nat.le_refl _,List.Sublist.refl _,λx=>⟨λhx=>⟨hx,h2 x hx⟩,λhx=>hx.1⟩⟩
  simp [Builtin.delete_,run_underlying ht,MapKept.run_getObj_map hb,Ky.check w _ hkey,h1,MapKept.run_setObj_map _ hb,Result.andThen,setBlock]
 ·have hjl:j<es.toList.length:=(List.getElem?_eq_some_iff.1 h2).1
  have hjs:j<es.size:=by simpa using hjl
  have hsub:(es.eraseIdxIfInBounds j).toList=es.toList.eraseIdx j:=by
   unfold Array.eraseIdxIfInBounds
   rw [dif_pos hjs]
   simp
  refine ⟨es.eraseIdxIfInBounds j,?_,stamped_erase hst j,MapFrom.size_erase es j,by rw [hsub];exact List.eraseIdx_sublist _ _,λx=>?_⟩
  ·simp [Builtin.delete_,run_underlying ht,MapKept.run_getObj_map hb,Ky.check w _ hkey,h1,MapKept.run_setObj_map _ hb,Result.andThen,setBlock]
  ·rw [hsub]
   obtain ⟨_,_,hn⟩:=hst
   constructor
   ·intro hx
    obtain ⟨i,hne,hi⟩:=List.mem_eraseIdx_iff_getElem?.1 hx
    refine ⟨List.mem_of_getElem? hi,λhk=>hne ?_⟩
    exact bs_ hn (a:=key) (by rw [List.getElem?_map,hi];simp [hk]) (by rw [List.getElem?_map,h2];simp [h3])
   ·rintro ⟨hx,hk⟩
    obtain ⟨i,hi⟩:=List.getElem?_of_mem hx
    refine List.mem_eraseIdx_iff_getElem?.2 ⟨i,?_,hi⟩
    rintro rfl
    rw [h2] at hi;cases hi
    exact hk h3
theorem kw_ {w:World} {v:Value} {a:Value} {K:Value→World→Prop} (h:(Instr.entry v).run PR w=.ok a w) (hK:K a w):rn PR (Instr.entry v) K w:=⟨a,w,h,hK⟩
theorem b0_ {i:Int} (h1 : -9223372036854775808≤i) (h2:i≤9223372036854775807):keyOf PR T.int (.int .i64 i)=some (.int .i64 i):=Maps.keyOf_int_mk (q:=.i64) rfl (by simp [Lit.wf,IntKind.min,IntKind.max,IntKind.bits,IntKind.signed];omega)
theorem nh_:Maps.Keyed PR T.int:=Maps.int_keyed (q:=.i64) rfl
end Go.Vc
namespace Go.Vc
open Go Go.RowKit Go.Proofs
def ordE (x y:Int × Int):Int:=if Lib.compareInt x.1 y.1=0 then Lib.compareInt x.2 y.2 else Lib.compareInt x.1 y.1
set_option maxHeartbeats 4000000 in
theorem Or2X (a b:Int) (q:Nat) (w:World) (h0:w.cell? ⟨q,0,none⟩=some (.int .i64 a)) (h1:w.cell? ⟨q,1,none⟩=some (.int .i64 b)) :
  Calls Tryz.prog 200 #[.slice (some ⟨q,0,none⟩) 2 2] w λe w'=>e=.returned (.int .i64 (if a=0 then b else a))∧w'=w:=by
 rcases Decidable.em (a=0) with ha | ha
 ·subst ha
  rcases Decidable.em (b=0) with hb | hb
  ·subst hb
   go_enter Tryz.func200,Tryz.ntmps200
   go_wp2
   refine wp_loop_rounds 3 ?_
   rw [rounds_succ]
   go_wp2
   rw [rounds_succ]
   go_wp2
   rw [rounds_succ]
   go_wp2
   go_ret
   exact ⟨rfl,rfl⟩
  ·go_enter Tryz.func200,Tryz.ntmps200
   go_wp2
   refine wp_loop_rounds 2 ?_
   rw [rounds_succ]
   go_wp2
   rw [rounds_succ]
   go_wp2
   go_ret
   exact ⟨rfl,rfl⟩
 ·go_enter Tryz.func200,Tryz.ntmps200
  go_wp2
  refine wp_loop_rounds 1 ?_
  rw [rounds_succ]
  go_wp2
  go_ret
  exact ⟨by simp [ha],rfl⟩
def gv_ (w:World) (a b c d:Int):World:=World.drew ((w.alloc (.cells #[.int .i64 a,.int .i64 b] T.aq_)).alloc (.cells #[.int .i64 c,.int .i64 d] T.aq_))
theorem pz_ (w:World) (a b c d:Int):(gv_ w a b c d).heap[w.heap.size]? = some (.cells #[.int .i64 a,.int .i64 b] T.aq_):=by
 show ((w.heap.push _).push _)[w.heap.size]? = _
 rw [Array.getElem?_push,if_neg (by simp),Array.getElem?_push,if_pos rfl]
theorem py_ (w:World) (a b c d:Int):(gv_ w a b c d).heap[w.heap.size+1]? = some (.cells #[.int .i64 c,.int .i64 d] T.aq_):=by
 show ((w.heap.push _).push _)[w.heap.size+1]? = _
 rw [Array.getElem?_push,if_pos (by simp)]
theorem jr_ (w:World) (a b c d:Int):∃q os,gv_ w a b c d=Sort.grow (w.drewN q) os:=
 ⟨1,#[.cells #[.int .i64 a,.int .i64 b] T.aq_,.cells #[.int .i64 c,.int .i64 d] T.aq_],by
  unfold gv_ Sort.grow World.drewN World.drew World.alloc
  simp only [World.mk.injEq,and_true,true_and]
  apply Array.ext'
  simp⟩
theorem tQ_ {w V:World} (h:∃q os,V=Sort.grow (w.drewN q) os) (o:Obj):∃q os,V.alloc o=Sort.grow (w.drewN q) os:=by
 obtain ⟨q,os,h⟩:=h
 exact ⟨q,os ++ #[o],by rw [← Sort.grow_grow,← h,← Sort.alloc_eq_grow]⟩
theorem ti_ (w:World) (a b c d:Int) (cs:Array Value) (T:TypeId):((gv_ w a b c d).alloc (.cells cs T (0,0))).heap[w.heap.size+1+1]? = some (.cells cs T (0,0)):=by
 show ((gv_ w a b c d).heap.push _)[w.heap.size+1+1]? = _
 have:w.heap.size+1+1=(gv_ w a b c d).heap.size:=by
  show _=((w.heap.push _).push _).size
  simp
 rw [this,Array.getElem?_push,if_pos rfl]
set_option maxHeartbeats 4000000 in
theorem tb_ (x y:Int × Int) (w:World) :
  Calls Tryz.prog 167 #[.agg #[.int .i64 x.1,.int .i64 x.2],.agg #[.int .i64 y.1,.int .i64 y.2]] w λe w'=>e=.returned (.int .i64 (ordE x y))∧∃q os,w'=Sort.grow (w.drewN q) os:=by
 go_enter Tryz.func167,Tryz.ntmps167
 go_wp2
 refine wp_region_still_tail 10 (by kernel_rfl) (by kernel_rfl) ?_
 change wpStill _ _ (gv_ w x.1 x.2 y.1 y.2) _ _ _
 have d0:(gv_ w x.1 x.2 y.1 y.2).cell? ⟨w.heap.size,0,none⟩=some (.int .i64 x.1):=by rw [aw_ (pz_ ..)];rfl
 have d1:(gv_ w x.1 x.2 y.1 y.2).cell? ⟨w.heap.size,1,none⟩=some (.int .i64 x.2):=by rw [aw_ (pz_ ..)];rfl
 have d2:(gv_ w x.1 x.2 y.1 y.2).cell? ⟨w.heap.size+1,0,none⟩=some (.int .i64 y.1):=by rw [aw_ (py_ ..)];rfl
 have d3:(gv_ w x.1 x.2 y.1 y.2).cell? ⟨w.heap.size+1,1,none⟩=some (.int .i64 y.2):=by rw [aw_ (py_ ..)];rfl
 have dg:=jr_ w x.1 x.2 y.1 y.2
 generalize gv_ w x.1 x.2 y.1 y.2=V at d0 d1 d2 d3 dg ⊢
 simp only [List.take_succ_cons,List.take_zero,List.drop_succ_cons,List.drop_zero]
 repeat still_step
 still_call (Tryz.cmp_Compare_int _ _ _)
 repeat still_step
 still_call (Tryz.cmp_Compare_int _ _ _)
 repeat still_step
 refine wpStill_nil ?_
 go_wp2_with (go_at_call 200;refine (Or2X (Lib.compareInt x.1 y.1) (Lib.compareInt x.2 y.2) (w.heap.size+1+1) _ ((aw_ (ti_ w x.1 x.2 y.1 y.2 #[.int .i64 (Lib.compareInt x.1 y.1),.int .i64 (Lib.compareInt x.2 y.2)] T.int) 0).trans rfl) ((aw_ (ti_ w x.1 x.2 y.1 y.2 #[.int .i64 (Lib.compareInt x.1 y.1),.int .i64 (Lib.compareInt x.2 y.2)] T.int) 1).trans rfl)).mono ?_;rintro e w' ⟨rfl,rfl⟩)
 all_goals
  go_ret
  refine ⟨by simp [ordE, *],?_⟩
  exact tQ_ (jr_ w x.1 x.2 y.1 y.2) _
end Go.Vc
namespace Go.Vc
open Go Go.Sort Go.Proofs
def encP (e:Int × Int):List Value:=[.int .i64 e.1,.int .i64 e.2]
theorem ry_ (blk off size:Nat) (w:World):CmpLays PR F.bA_ #[] encP 2 ordE blk off size w:=λm os dk _ x y=>
 Calls.mono (tb_ x y (sortWorldK encP 2 w blk off m dk os)) λe w' h=>h
theorem j9_ (x y:Int × Int):ltOf ordE x y=decide (x.1<y.1∨(x.1=y.1∧x.2<y.2)):=by
 unfold ltOf ordE Lib.compareInt
 by_cases h1:x.1<y.1
 ·simp [h1]
 ·by_cases h2:x.1>y.1
  ·have:¬x.1=y.1:=by omega
   simp [h1,h2,this]
  ·have e:x.1=y.1:=by omega
   by_cases h3:x.2<y.2
   ·simp [e,h3]
   ·by_cases h4:x.2>y.2
    ·simp [e,h3,h4]
    ·simp [e,h3,h4]
theorem swoE:SWO (ltOf ordE):=
 ⟨λx=>by rw [j9_];simp,λx y z h1 h2=>by rw [j9_] at *;simp at *;omega,λx y z h1 h2=>by rw [j9_] at *;simp at *;omega⟩
theorem pR_:∀(l:List (Int × Int)) (t:Nat),t<l.length*2→(encE l)[t]? = some ((encP l.toArray[t / 2]!)[t%2]!)
 | [],t,h=>by simp at h
 | x :: l,t,h=>by
  have hc:encE (x :: l)=encP x++encE l:=rfl
  rw [hc]
  rcases Nat.lt_or_ge t 2 with h2 | h2
  ·rw [List.getElem?_append_left (by simpa [encP] using h2)]
   have:t=0∨t=1:=by omega
   rcases this with rfl | rfl <;> simp [encP]
  ·rw [List.getElem?_append_right (by simpa [encP] using h2)]
   have ih:=pR_ l (t - 2) (by simp at h;omega)
   have e1:(encP x).length=2:=rfl
   rw [e1,ih]
   have e2:t / 2=(t - 2) / 2+1:=by omega
   have e3:(t - 2)%2=t%2:=by omega
   rw [e2,e3]
   simp
theorem pK_ {d:Array (Int × Int)} {t:Nat} (h:t<d.size*2):(encE d.toList)[t]? = some ((flatK encP 2 d)[t]!):=by
 rw [pR_ _ _ (by simpa using h),get_flatK _ _ _ _ h]
def leE (x y:Int × Int):Prop:=x.1<y.1∨(x.1=y.1∧x.2≤y.2)
theorem o4_ {l:List (Int × Int)} {q:Option Addr} {n c:Nat} {w:World} (ho:Own T.aq_ 2 w q c (encE l)) (hl:n=l.length) (hn:n≤1000000) {K:Value→World→Prop}
  (hK:∀w' l',l'.Perm l→l'.Pairwise leE→Own T.aq_ 2 w' q c (encE l')→Chg (am_ q) w w'→K (.tuple #[]) w') :
  aa_ PR F.bp_ ⟨[.slice q n c,.func (.func F.bA_) #[] #[]]⟩ w K:=by
 subst hl
 by_cases hl0:l=[]
 ·subst hl0
  refine Calls.mono (AnyF.slices_SortFunc_none Go.Proofs.Tryz.sortEdge q c _ w) ?_
  rintro e w' ⟨he,rfl⟩
  exact ⟨_,he,hK w' [] (.refl _) .nil ho (.refl _ _)⟩
 ·rcases ho with ⟨_,_,h⟩ | ⟨b,o,cs,rfl,hb,h1,h2,h3,h4⟩
  ·have:=aI_ l;rw [h] at this
   exact absurd (List.eq_nil_of_length_eq_zero (by simp at this;omega)) hl0
  ·have hblk:=aj_ hb
   have hel:=aI_ l
   have hH:HoldsK encP 2 w b o l.toArray:=by
    intro j hj
    rw [size_flatK] at hj
    have hj':j<(encE l).length:=by rw [hel];simpa using hj
    have e:=pK_ (d:=l.toArray) (t:=j) hj
    refine ⟨?_,jv_ hb _⟩
    rw [aw_ hb,h4 j hj',e];rfl
   have eg:∀args w,(callFunc F.bA_ args).run PR w=.ok (.enter F.bA_ args) w:=enters_of (P:=PR) (fn:=(PR.funcs[F.bA_]?).getD default) (c:=(((PR.funcs[F.bA_]?).getD default).body).getD .skip) (by kernel_rfl) (by kernel_rfl) (by kernel_rfl)
   have hagg:∀w,(isAgg T.aq_).run PR w=.ok true w:=λw=>by
    have hu:∃fs,PR.underlying T.aq_=some (.struct fs):=by
     have h:(match PR.underlying T.aq_ with | some (.struct _)=>true | _=>false)=true:=by kernel_rfl
     split at h
     ·rename_i fs h';exact ⟨fs,h'⟩
     ·cases h
    obtain ⟨fs,hu⟩:=hu
    simp [isAgg,run_underlying hu]
   have hsize:∀w,(Go.sizeOf T.aq_).run PR w=.ok 2 w:=λw=>by
    obtain ⟨i,hi,hk,_⟩:=jU_
    simp [sizeOf,typeInfo,hi,hk]
   have hcon:=AnyQ.slices_SortFunc Go.Proofs.Tryz.sortEdge 2 hagg hsize encP (λ_=>rfl) (λx v hv=>by simp [encP] at hv;rcases hv with rfl | rfl <;> rfl) ordE swoE F.bA_ #[] b o c l.toArray w eg (ry_ b o l.toArray.size w) hH hblk (by simp;omega)
   refine Calls.mono hcon ?_
   rintro e w' ⟨he,d',m,os,⟨hp1,hp2,hp3⟩,hs,rfl⟩
   have hsz:d'.size=l.length:=by simpa using hp1
   have hperm:d'.toList.Perm l:=by
    have e1:(d'.extract 0 l.toArray.size).toList=d'.toList:=by rw [show l.toArray.size=d'.size by simp [hsz]];simp
    have e2:(l.toArray.extract 0 l.toArray.size).toList=l:=by simp
    rw [e1,e2] at hp3;exact hp3
   refine ⟨_,he,hK _ d'.toList hperm ?_ ?_ ?_⟩
   ·rw [List.pairwise_iff_getElem]
    intro i j hi hj hij
    have:=hs i j (Nat.zero_le _) hij (by simpa [hsz] using hj)
    rw [j9_] at this
    have hi':i<d'.size:=by simpa using hi
    have hj':j<d'.size:=by simpa using hj
    rw [getElem!_pos d' i hi',getElem!_pos d' j hj'] at this
    simp only [Array.getElem_toList,leE]
    simp at this
    omega
   ·have hb':(sortWorldK encP 2 w b o m d' os).heap[b]? = some (.cells (Sort.putCells id o (flatK encP 2 d') cs) T.aq_ (0,0)):=by
     show ((w.heap.modify b (Sort.onCells _))++os)[b]? = _
     rw [Array.getElem?_append_left (by simpa using hblk),Array.getElem?_modify,if_pos rfl,hb]
     rfl
    refine .inr ⟨b,o,_,rfl,hb',by simpa [Sort.putCells] using h1,h2,by rw [aI_];rw [aI_] at h3;simpa [hsz] using h3,λi hi=>?_⟩
    have hi2:i<d'.size*2:=by rw [aI_] at hi;simpa using hi
    rw [pK_ hi2]
    have hlt:o+i<cs.size:=by rw [aI_] at h3;omega
    simp only [Sort.putCells,Array.getElem?_mapIdx,Array.getElem?_eq_getElem hlt,Option.map_some]
    rw [if_pos ⟨by omega,by rw [size_flatK];omega⟩,Nat.add_sub_cancel_left];rfl
   ·refine ⟨rfl,rfl,rfl,?_,λk hk hn=>?_⟩
    ·show w.heap.size≤((w.heap.modify b _)++os).size
     simp
    ·show ((w.heap.modify b (Sort.onCells _))++os)[k]? = _
     rw [Array.getElem?_append_left (by simpa using hk),Array.getElem?_modify,if_neg]
     rintro rfl
     exact hn ⟨_,rfl,rfl⟩
end Go.Vc
namespace Go.Vc
open Go
theorem cT_ (y0:Option Addr) (ly0:Nat) (cy0:Nat) (y1:Option Addr) (ly1:Nat) (cy1:Nat) (S:SP) (K:KP) (w:World) (h:((ly0:Int)=(ly1:Int)→∃I0:Int→Nat→World→Prop,(∃l0,I0 0 l0 w)∧∀n0,∀D0:Nat→Value,∀l1 w0,I0 n0 l1 w0→Fs S w [] w0→(n0<(ly0:Int)→∀w1,Fr S w w0 [] [] w1→∃I1:World→Prop,I1 w1∧Dr y0 λa0=>(0:Int)≤n0∧n0<(ly0:Int)∧Dr (some (Addr.add a0 (Int.toNat n0*1))) λa1=>∃s0,(∀w2,I1 w2→World.cell? w2 a1=some (.string s0))∧Dr y1 λa2=>(0:Int)≤n0∧n0<(ly1:Int)∧Dr (some (Addr.add a2 (Int.toNat n0*1))) λa3=>∃s1,(∀w3,I1 w3→World.cell? w3 a3=some (.string s1))∧(s0=s1→∃l2,l2<l1∧I0 (IntKind.wrap .i64 (n0+1)) l2 w1)∧(¬(s0=s1)→K (.bool false) w1))∧(¬(n0<(ly0:Int))→K (.bool true) w0))∧(¬((ly0:Int)=(ly1:Int))→K (.bool false) w)):aa_ PR 57 ⟨[.slice y0 ly0 cy0,.slice y1 ly1 cy1]⟩ w K:=
 ab_ (okf:=⟨okL,[]⟩) ag_ (args:=[.c (.v (.slice y0 ly0 cy0)),.c (.v (.slice y1 ly1 cy1))]) (H:=[]) (.s .z (.s .z (.s (.s .z (.b (.l (some []) (some []) [(13,.c (.int .i64))] [] (.s .z (.s .z (.s (.b (.s .z (.s (.r ⟨(some []),true,[],[]⟩) .z))) .z)))))) .z))) Go.Proofs.Tryz.func57 rfl ⟨trivial,trivial,trivial⟩ trivial (Fr.init S w) trivial (ad_ (by kernel_rfl) h)
theorem kf_ (m0:Int) (m1:Int) (m2:Int) (z3:ByteArray) (y4:Option Addr) (ly4:Nat) (cy4:Nat) (m5:Int) (m6:Int) (m7:Int) (z8:ByteArray) (y9:Option Addr) (ly9:Nat) (cy9:Nat) (S:SP) (K:KP) (w:World) (h:∀l0,w.heap.size≤l0→∀l1,w.heap.size≤l1→(m0=m5→(m1=m6→(m2=m7→(z3=z8→∀w0,Fr S w w [] [⟨l0,#[Iv m0,Iv m1,Iv m2,.string z3,.slice y4 ly4 cy4],62,true⟩,⟨l1,#[Iv m5,Iv m6,Iv m7,.string z8,.slice y9 ly9 cy9],62,true⟩] w0→aa_ PR 57 #[.slice y4 ly4 cy4,.slice y9 ly9 cy9] w0 λv0 w1=>∃b0,v0=.bool b0∧(b0=true→Fs S w [⟨l0,#[Iv m0,Iv m1,Iv m2,.string z3,.slice y4 ly4 cy4],62,true⟩,⟨l1,#[Iv m5,Iv m6,Iv m7,.string z8,.slice y9 ly9 cy9],62,true⟩] w1∧K (.bool true) w1)∧(b0=false→Fs S w [⟨l0,#[Iv m0,Iv m1,Iv m2,.string z3,.slice y4 ly4 cy4],62,true⟩,⟨l1,#[Iv m5,Iv m6,Iv m7,.string z8,.slice y9 ly9 cy9],62,true⟩] w1∧K (.bool false) w1))∧(¬(z3=z8)→∀w2,Fr S w w [] [] w2→K (.bool false) w2))∧(¬(m2=m7)→∀w3,Fr S w w [] [] w3→K (.bool false) w3))∧(¬(m1=m6)→∀w4,Fr S w w [] [] w4→K (.bool false) w4))∧(¬(m0=m5)→∀w5,Fr S w w [] [] w5→K (.bool false) w5)):aa_ PR 24 ⟨[.agg #[.int .i64 m0,.int .i64 m1,.int .i64 m2,.string z3,.slice y4 ly4 cy4],.agg #[.int .i64 m5,.int .i64 m6,.int .i64 m7,.string z8,.slice y9 ly9 cy9]]⟩ w K:=
 ab_ (okf:=⟨okL,[]⟩) ag_ (args:=[.a [.v (.int .i64 m0),.v (.int .i64 m1),.v (.int .i64 m2),.v (.string z3),.v (.slice y4 ly4 cy4)],.a [.v (.int .i64 m5),.v (.int .i64 m6),.v (.int .i64 m7),.v (.string z8),.v (.slice y9 ly9 cy9)]]) (H:=[]) (.s (.r ⟨(some []),false,[],[]⟩) (.s (.r ⟨(some [2,3]),false,[],[]⟩) .z)) Go.Proofs.Tryz.func24 rfl ⟨⟨trivial,trivial,trivial,trivial,trivial,trivial⟩,⟨trivial,trivial,trivial,trivial,trivial,trivial⟩,trivial⟩ trivial (Fr.init S w) trivial (ad_ (by kernel_rfl) h)
theorem bZ_ (m0:Int) (m1:Int) (m2:Int) (z3:ByteArray) (y4:Option Addr) (ly4:Nat) (cy4:Nat) (S:SP) (K:KP) (w:World) (h:∀l0,w.heap.size≤l0→(((ByteArray.size z3:Nat):Int)>6000→∀w0,Fr S w w [] [] w0→K (.bool true) w0)∧(¬(((ByteArray.size z3:Nat):Int)>6000)→((ly4:Int)>30→∀w1,Fr S w w [] [] w1→K (.bool true) w1)∧(¬((ly4:Int)>30)→∀w2,Fr S w w [] [] w2→∃I0:Int→Nat→World→Prop,(∃l1,I0 0 l1 w2)∧∀n0,∀D0:Nat→Value,∀l2 w3,I0 n0 l2 w3→Fs S w [] w3→(n0<(ly4:Int)→Dr y4 λa0=>(0:Int)≤n0∧n0<(ly4:Int)∧Dr (some (Addr.add a0 (Int.toNat n0*1))) λa1=>∃s0,World.cell? w3 a1=some (.string s0)∧(((ByteArray.size s0:Nat):Int)>100→K (.bool true) w3)∧(¬(((ByteArray.size s0:Nat):Int)>100)→∃l3,l3<l2∧I0 (IntKind.wrap .i64 (n0+1)) l3 w3))∧(¬(n0<(ly4:Int))→K (.bool false) w3)))):aa_ PR 21 ⟨[.agg #[.int .i64 m0,.int .i64 m1,.int .i64 m2,.string z3,.slice y4 ly4 cy4]]⟩ w K:=
 ab_ (okf:=⟨okL,[]⟩) ag_ (args:=[.a [.v (.int .i64 m0),.v (.int .i64 m1),.v (.int .i64 m2),.v (.string z3),.v (.slice y4 ly4 cy4)]]) (H:=[]) (.s (.r ⟨(some []),false,[],[]⟩) (.s .z (.s (.s .z (.b (.l (some [16]) (some [16]) [(18,.c (.int .i64))] [] .z))) .z))) Go.Proofs.Tryz.func21 rfl ⟨⟨trivial,trivial,trivial,trivial,trivial,trivial⟩,trivial⟩ trivial (Fr.init S w) trivial (ad_ (by kernel_rfl) h)
theorem bO_ (y0:Option Addr) (ly0:Nat) (cy0:Nat) (S:SP) (K:KP) (w:World) (h:((ly0:Int)<2→K (.slice y0 ly0 cy0) w)∧(¬((ly0:Int)<2)→∃I0:Int→Nat→World→Prop,(∃l0,I0 1 l0 w)∧∀n0,∀D0:Nat→Value,∀l1 w0,I0 n0 l1 w0→Fs S w [] w0→(n0<(ly0:Int)→∀w1,Fr S w w0 [] [] w1→∃I1:World→Prop,I1 w1∧Dr y0 λa0=>(0:Int)≤n0∧n0<(ly0:Int)∧Dr (some (Addr.add a0 (Int.toNat n0*2))) λa1=>∃n1,(∀w2,I1 w2→World.cell? w2 (Addr.add a1 0)=some (Iv n1))∧∃n2,(∀w3,I1 w3→World.cell? w3 (Addr.add a1 1)=some (Iv n2))∧Dr y0 λa2=>(0:Int)≤IntKind.wrap .i64 (n0 - 1)∧IntKind.wrap .i64 (n0 - 1)<(ly0:Int)∧Dr (some (Addr.add a2 (Int.toNat (IntKind.wrap .i64 (n0 - 1))*2))) λa3=>∃n3,(∀w4,I1 w4→World.cell? w4 (Addr.add a3 0)=some (Iv n3))∧∃n4,(∀w5,I1 w5→World.cell? w5 (Addr.add a3 1)=some (Iv n4))∧((n1=n3∧n2=n4∧True)→(0:Int)≤n0∧n0≤(ly0:Int)∧∃I2:Int→Int→Nat→World→Prop,(∃l2,I2 n0 1 l2 w1)∧∀n5 n6,∀D1:Nat→Value,∀l3 w6,I2 n5 n6 l3 w6→Fs S w [] w6→(n6<(((ly0 - (Int.toNat n0)):Nat):Int)→∀w7,Fr S w w6 [] [] w7→∃I3:World→Prop,I3 w7∧Dr (if cy0=Int.toNat n0 then y0 else Option.map (λa4=>Addr.add a4 (Int.toNat n0*2)) y0) λa5=>(0:Int)≤n6∧n6<(((ly0 - (Int.toNat n0)):Nat):Int)∧Dr (some (Addr.add a5 (Int.toNat n6*2))) λa6=>∃n7,(∀w8,I3 w8→World.cell? w8 (Addr.add a6 0)=some (Iv n7))∧∃n8,(∀w9,I3 w9→World.cell? w9 (Addr.add a6 1)=some (Iv n8))∧Dr (if cy0=Int.toNat n0 then y0 else Option.map (λa7=>Addr.add a7 (Int.toNat n0*2)) y0) λa8=>(0:Int)≤IntKind.wrap .i64 (n6 - 1)∧IntKind.wrap .i64 (n6 - 1)<(((ly0 - (Int.toNat n0)):Nat):Int)∧Dr (some (Addr.add a8 (Int.toNat (IntKind.wrap .i64 (n6 - 1))*2))) λa9=>∃n9,(∀w10,I3 w10→World.cell? w10 (Addr.add a9 0)=some (Iv n9))∧∃n10,(∀w11,I3 w11→World.cell? w11 (Addr.add a9 1)=some (Iv n10))∧((n7=n9∧n8=n10∧True)→∃l4,l4<l3∧I2 n5 (IntKind.wrap .i64 (n6+1)) l4 w7)∧(¬(n7=n9∧n8=n10∧True)→Dr (if cy0=Int.toNat n0 then y0 else Option.map (λa10=>Addr.add a10 (Int.toNat n0*2)) y0) λa11=>(0:Int)≤n6∧n6<(((ly0 - (Int.toNat n0)):Nat):Int)∧Dr (some (Addr.add a11 (Int.toNat n6*2))) λa12=>∃n11,World.cell? w7 (Addr.add a12 0)=some (Iv n11)∧∃n12,World.cell? w7 (Addr.add a12 1)=some (Iv n12)∧Dr y0 λa13=>(0:Int)≤n5∧n5<(ly0:Int)∧Dr (some (Addr.add a13 (Int.toNat n5*2))) λa14=>StC w7 (Addr.add a14 0) (Iv n11) λw12=>StC w12 (Addr.add a14 1) (Iv n12) λw13=>Fs S w [] w13∧∃l5,l5<l3∧I2 (IntKind.wrap .i64 (n5+1)) (IntKind.wrap .i64 (n6+1)) l5 w13))∧(¬(n6<(((ly0 - (Int.toNat n0)):Nat):Int))→(0:Int)≤n5∧n5≤(ly0:Int)∧rn PR (Builtin.clear_ #[28] 0 #[.slice (if cy0=Int.toNat n5 then y0 else Option.map (λa15=>Addr.add a15 (Int.toNat n5*2)) y0) (ly0 - (Int.toNat n5)) (cy0 - (Int.toNat n5))]) (λv0 w14=>v0=.tuple #[]∧Fs S w [] w14∧(0:Int)≤n5∧n5≤(cy0:Int)∧K (.slice (if cy0=0 then y0 else Option.map (λa16=>Addr.add a16 0) y0) (Int.toNat n5 - 0) (cy0 - 0)) w14) w6))∧(¬(n1=n3∧n2=n4∧True)→∃l6,l6<l1∧I0 (IntKind.wrap .i64 (n0+1)) l6 w1))∧(¬(n0<(ly0:Int))→K (.slice y0 ly0 cy0) w0))):aa_ PR 168 ⟨[.slice y0 ly0 cy0]⟩ w K:=
 ab_ (okf:=⟨okL,[]⟩) ag_ (args:=[.c (.v (.slice y0 ly0 cy0))]) (H:=[]) (.s .z (.s .z (.s (.s .z (.b (.l (some []) (some []) [(3,.c (.int .i64))] [] (.s .z (.s (.b (.s (.r ⟨(some []),true,[],[]⟩) (.c (.s .z (.s (.s .z (.b (.l (some []) (some []) [(3,.c (.int .i64)),(5,.c (.int .i64))] [] (.s .z (.s (.b (.s (.r ⟨(some []),true,[],[]⟩) (.c (.s (.r ⟨(some []),true,[],[]⟩) .z) .z))) .z))))) (.s (.r ⟨(some []),true,[],[]⟩) .z))) .z))) .z))))) .z))) Go.Proofs.Tryz.func168 rfl ⟨trivial,trivial⟩ trivial (Fr.init S w) trivial (ad_ (by kernel_rfl) h)
end Go.Vc
namespace Go.Vc
open Go
theorem nm_ {l:List (Int × Int)} {k:Nat} (h:k<l.length):(encE l)[k*2]? = some (iv l[k].1)∧(encE l)[k*2+1]? = some (iv l[k].2):=by
 induction l generalizing k with
 | nil=>simp at h
 | cons x l ih=>
  have hc:encE (x :: l)=[iv x.1,iv x.2]++encE l:=rfl
  cases k with
  | zero=>exact ⟨rfl,rfl⟩
  | succ k=>
   have:=ih (k:=k) (by simpa using h)
   rw [hc]
   refine ⟨?_,?_⟩
   ·rw [List.getElem?_append_right (by simp;omega),show (k+1)*2 - [iv x.1,iv x.2].length=k*2 by simp;omega];exact this.1
   ·rw [List.getElem?_append_right (by simp;omega),show (k+1)*2+1 - [iv x.1,iv x.2].length=k*2+1 by simp;omega];exact this.2
theorem Sl.rd2 {w:World} {q:Option Addr} {l:List (Int × Int)} (h:Sl w q (encE l)) {n:Int} {k m:Nat} {K:Addr→Prop} (hn:n=k) (hk:k<l.length) (hm:k<m)
  (hK:∀a,w.cell? (Addr.add a 0)=some (.int .i64 l[k].1)→w.cell? (Addr.add a 1)=some (.int .i64 l[k].2)→K a):Dr q (λa=>0≤n∧n<((m:Nat):Int)∧Dr (some (Addr.add a (n.toNat*2))) K):=by
 subst hn
 have hel:=aI_ l
 obtain ⟨b,o,rfl,hc⟩:=h.ex (by intro e;rw [e] at hel;simp at hel;omega)
 obtain ⟨e1,e2⟩:=nm_ hk
 refine ac_.2 ⟨by omega,by omega,ac_.2 ?_⟩
 rw [au_,Int.toNat_natCast]
 refine hK _ ?_ ?_
 ·rw [au_,Nat.add_zero,hc _ (by omega),e1];rfl
 ·rw [au_,Nat.add_assoc,hc _ (by omega),e2];rfl
theorem rr_ {l:List (Int × Int)} {k:Nat} (h:k<l.length) (x:Int × Int):encE (l.set k x)=((encE l).set (k*2) (iv x.1)).set (k*2+1) (iv x.2):=by
 induction l generalizing k with
 | nil=>simp at h
 | cons y l ih=>
  cases k with
  | zero=>rfl
  | succ k=>
   have:=ih (k:=k) (by simpa using h)
   have hc:∀(y:Int × Int) l,encE (y :: l)=iv y.1 :: iv y.2 :: encE l:=λ_ _=>rfl
   rw [List.set_cons_succ,hc,hc,this,show (k+1)*2=k*2+1+1 by omega]
   rfl
theorem Own.st {e:TypeId} {k:Nat} {w:World} {b o c:Nat} {xs:List Value} (h:Own e k w (some ⟨b,o,none⟩) c xs) {i:Nat} (hi:i<xs.length) {v:Value} (hv:oneC v=true) {K:World→Prop}
  (hK:∀w',Own e k w' (some ⟨b,o,none⟩) c (xs.set i v)→Chg (am_ (some ⟨b,o,none⟩)) w w'→w'.heap.size=w.heap.size→K w'):StC w ⟨b,o+i,none⟩ v K:=by
 rcases h with ⟨h,_,_⟩ | ⟨b',o',cs,h,hb,h1,h2,h3,h4⟩
 ·cases h
 ·cases h
  refine stC hb (by omega) hv λw' hb' hs g=>hK w' (.inr ⟨b,o,_,rfl,hb',by simpa using h1,h2,by simpa using h3,λj hj=>?_⟩) (g.mono λk _ h=>⟨_,rfl,h⟩) hs
  simp only [List.length_set] at hj
  by_cases e:j=i
  ·subst e
   have:o+j<cs.size:=by omega
   simp [this,hi]
  ·rw [Array.getElem?_setIfInBounds_ne (by omega),h4 j hj,List.getElem?_set_ne (by omega)]
theorem Own.st2 {e:TypeId} {w:World} {b o c:Nat} {l:List (Int × Int)} (h:Own e 2 w (some ⟨b,o,none⟩) c (encE l)) {k:Nat} (hk:k<l.length) (x y:Int) {K:World→Prop}
  (hK:∀w',Own e 2 w' (some ⟨b,o,none⟩) c (encE (l.set k (x,y)))→Chg (am_ (some ⟨b,o,none⟩)) w w'→K w') :
  StC w (Addr.add ⟨b,o+k*2,none⟩ 0) (.int .i64 x) λw1=>StC w1 (Addr.add ⟨b,o+k*2,none⟩ 1) (.int .i64 y) K:=by
 have hel:=aI_ l
 rw [au_,au_]
 refine h.st (i:=k*2) (by omega) rfl λw1 h1 g1 _=>?_
 refine h1.st (i:=k*2+1) (by simp;omega) rfl λw2 h2 g2 _=>hK w2 ?_ (g1.trans g2 λ_ _ h=>h)
 rw [rr_ hk];exact h2
def cmpN (l:List (Int × Int)):Nat→List (Int × Int)
 | 0=>[]
 | j+1=>if 0<j∧l.getD j (0,0)=l.getD (j - 1) (0,0) then cmpN l j else cmpN l j++[l.getD j (0,0)]
theorem nq_ (l:List (Int × Int)):∀j,(cmpN l j).length≤j
 | 0=>by simp [cmpN]
 | j+1=>by
  have:=nq_ l j
  unfold cmpN;split
  ·omega
  ·simp;exact this
theorem n2_ {w:World} {b o c:Nat} {l:List (Int × Int)} {k n cc:Nat} (ho:Own T.aq_ 2 w (some ⟨b,o,none⟩) c (encE l)) (hk:k≤l.length) (hn:n=l.length - k) {K:Value→World→Prop}
  (hK:∀w',Own T.aq_ 2 w' (some ⟨b,o,none⟩) c (encE (l.take k))→Chg (am_ (some ⟨b,o,none⟩)) w w'→K (.tuple #[]) w') :
  rn PR (Builtin.clear_ #[T.bk_] 0 #[.slice (some ⟨b,o+k*2,none⟩) n cc]) K w:=by
 have hshort:∀ {w':World} {xs:List Value},Own T.aq_ 2 w' (some ⟨b,o,none⟩) c xs→(∀j,j<k*2→xs[j]? = (encE l)[j]?)→k*2≤xs.length→Own T.aq_ 2 w' (some ⟨b,o,none⟩) c (encE (l.take k)):=by
  intro w' xs h hx hle
  have e1:encE (l.take k)=(encE l).take (k*2):=by
   have:encE l=encE (l.take k)++encE (l.drop k):=by simp only [encE];rw [← List.flatMap_append,List.take_append_drop]
   rw [this,List.take_left']
   rw [aI_,List.length_take,Nat.min_eq_left hk]
  rcases h with ⟨h,_,_⟩ | ⟨b',o',cs,h,hb,h1,h2,h3,h4⟩
  ·cases h
  ·cases h
   have hel:=aI_ l
   refine .inr ⟨b,o,cs,rfl,hb,h1,h2,?_,λj hj=>?_⟩
   ·rw [aI_,List.length_take,Nat.min_eq_left hk];omega
   ·rw [aI_,List.length_take,Nat.min_eq_left hk] at hj
    rw [h4 j (by omega),hx j hj,e1,List.getElem?_take_of_lt hj]
 by_cases h0:n=0
 ·subst h0
  have hkl:k=l.length:=by omega
  refine ⟨.tuple #[],w,?_,hK w (hshort ho (λ_ _=>rfl) (by rw [aI_];omega)) (.refl _ _)⟩
  simp [Builtin.clear_,run_underlying lY_]
 ·obtain ⟨i,hi,hk2,hb2,hz⟩:=jU_
  have hz2:(Value.agg #[.int .i64 0,.int .i64 0]).cells=#[.int .i64 0,.int .i64 0]:=rfl
  refine df_ ?_
  unfold Builtin.clear_
  simp only [List.getElem?_toArray,List.getElem?_cons_zero,aH_,ao_ lY_]
  obtain ⟨n',rfl⟩:∃n',n=n'+1:=⟨n - 1,by omega⟩
  simp only [b7_ hi hz,a3_]
  rcases ho with ⟨h,_,_⟩ | ⟨b',o',cs,h,hb,h1,h2,h3,h4⟩
  ·cases h
  ·cases h
   have hel:=aI_ l
   have hzl:(Builtin.zeroCells (Value.agg #[.int .i64 0,.int .i64 0]).cells (n'+1)).toList.length=(n'+1)*2:=by simp [Builtin.zeroCells,hz2]
   refine bH_ (o:=o+k*2) _ 0 cs w hb (by rw [hzl];omega) (λy hy=>?_) λw' cs' hb' hs' hout hin hsz g=>?_
   ·simp only [Builtin.zeroCells,hz2,Array.toList_map,List.mem_map] at hy
    obtain ⟨t,_,rfl⟩:=hy
    have:t%2=0∨t%2=1:=by omega
    rcases this with e | e <;> simp [e,oneC]
   ·have hO:Own T.aq_ 2 w' (some ⟨b,o,none⟩) c ((encE l).take (k*2)):=.inr ⟨b,o,cs',rfl,hb',by omega,h2,by rw [List.length_take];omega,λj hj=>by
     rw [List.length_take] at hj
     rw [hout (o+j) (by omega),h4 j (by omega),List.getElem?_take_of_lt (by omega)]⟩
    exact hK w' (hshort hO (λj hj=>by rw [List.getElem?_take_of_lt hj]) (by rw [List.length_take];omega)) (g.mono λk _ h=>⟨_,rfl,h⟩)
end Go.Vc
namespace Go.Vc
open Go
theorem getD_eq {l:List (Int × Int)} {k:Nat} (h:k<l.length):l.getD k (0,0)=l[k]:=by simp [h]
theorem iI_ {l:List (Int × Int)} {k:Nat} (hk:k≤l.length) (h:∀j,0<j→j<k→l.getD j (0,0)≠l.getD (j - 1) (0,0)):cmpN l k=l.take k:=by
 induction k with
 | zero=>simp [cmpN]
 | succ k ih=>
  unfold cmpN
  rw [if_neg (λhh=>h k hh.1 (by omega) hh.2),ih (by omega) (λj h1 h2=>h j h1 (by omega)),ar_ (by omega),getD_eq (by omega)]
theorem lR_ {l:List (Int × Int)} {q:Option Addr} {n c:Nat} {w:World} (ho:Own T.aq_ 2 w q c (encE l)) (hl:n=l.length) (hnc:n≤c) (hn:n≤1000000) {K:Value→World→Prop}
  (hK:∀w',Own T.aq_ 2 w' q c (encE (cmpN l l.length))→Chg (am_ q) w w'→K (.slice q (cmpN l l.length).length c) w') :
  aa_ PR F.bw_ ⟨[.slice q n c]⟩ w K:=by
 subst hl
 refine bO_ q l.length c (am_ q) K w ⟨λh=>?_,λhge=>?_⟩
 ·have e:cmpN l l.length=l:=by
   rw [iI_ (Nat.le_refl _) (λj h1 h2=>by omega),List.take_length]
  rw [e] at hK
  exact hK w ho (.refl _ _)
 ·rcases ho with ⟨_,_,h⟩ | hoo
  ·have:=aI_ l;rw [h] at this;simp at this;omega
  obtain ⟨b,o,cs,rfl,hb⟩:=hoo
  have ho:Own T.aq_ 2 w (some ⟨b,o,none⟩) c (encE l):=.inr ⟨b,o,cs,rfl,hb⟩
  clear hb
  have hq:∀m,(if c=m then some (⟨b,o,none⟩:Addr) else Option.map (λa=>Addr.add a (m*2)) (some ⟨b,o,none⟩))=if c=m then some ⟨b,o,none⟩ else some ⟨b,o+m*2,none⟩:=by
   intro m;split
   ·rfl
   ·simp [au_]
  refine ⟨λi m w'=>∃k:Nat,i=k∧1≤k∧k≤l.length∧m=l.length - k∧(∀j,0<j→j<k→l.getD j (0,0)≠l.getD (j - 1) (0,0))∧Own T.aq_ 2 w' (some ⟨b,o,none⟩) c (encE l),⟨_,1,rfl,by omega,by omega,rfl,(λj h1 h2=>by omega),ho⟩,?_⟩
  rintro i D m w0 ⟨k,rfl,hk1,hk,rfl,hd,ho0⟩ hF0
  refine ⟨λhlt w1 h1=>?_,λhge=>?_⟩
  ·have hk':k<l.length:=by omega
   have g1:Grow w0 w1:=h1.grow
   have ho1:=ho0.grow g1
   have em:IntKind.wrap .i64 ((k:Int) - 1)=((k - 1:Nat):Int):=wrP (by omega) (by omega)
   rw [em]
   refine ⟨(· = w1),rfl,?_⟩
   refine ho1.sl.rd2 rfl hk' hk' λa ha1 ha2=>⟨l[k].1,λw2 e=>e ▸ ha1,l[k].2,λw2 e=>e ▸ ha2,?_⟩
   refine ho1.sl.rd2 (k:=k - 1) rfl (by omega) (by omega) λa ha1 ha2=>⟨l[k - 1].1,λw2 e=>e ▸ ha1,l[k - 1].2,λw2 e=>e ▸ ha2,?_⟩
   refine ⟨λheq=>⟨by omega,by omega,?_⟩,λhne=>⟨_,?_,k+1,wr1 (by omega),by omega,by omega,rfl,?_,ho1⟩⟩
   ·have hdup:l.getD k (0,0)=l.getD (k - 1) (0,0):=by
     rw [getD_eq hk',getD_eq (by omega)];exact Prod.ext heq.1 heq.2.1
    have hc0:cmpN l (k+1)=l.take k:=by
     unfold cmpN;rw [if_pos ⟨by omega,hdup⟩,iI_ hk hd]
    rw [Int.toNat_natCast]
    simp only [hq]
    refine ⟨λx y m w'=>∃(j:Nat) (A:List (Int × Int)),y=j∧1≤j∧k+j≤l.length∧m=l.length - j∧x=((cmpN l (k+j)).length:Nat)∧(cmpN l (k+j)).length+1≤k+j∧A.length=l.length∧A.take (cmpN l (k+j)).length=cmpN l (k+j)∧
     (∀t,(cmpN l (k+j)).length≤t→t<l.length→A.getD t (0,0)=l.getD t (0,0))∧Own T.aq_ 2 w' (some ⟨b,o,none⟩) c (encE A),⟨_,1,l,rfl,by omega,by omega,rfl,?_,?_,rfl,?_,(λt _ _=>rfl),ho1⟩,?_⟩
    ·rw [hc0,List.length_take,Nat.min_eq_left hk]
    ·rw [hc0,List.length_take,Nat.min_eq_left hk];exact Nat.le_refl _
    ·rw [hc0,List.length_take,Nat.min_eq_left hk]
    rintro x y D m w6 ⟨j,A,rfl,hj1,hj,rfl,rfl,hcl,hA,hAt,hAr,ho6⟩ hF6
    have hsubc:((l.length - k:Nat):Int)=(l.length:Int) - k:=by omega
    refine ⟨λhlt w7 h7=>?_,λhge=>?_⟩
    ·have hj':k+j<l.length:=by omega
     have ho7:=ho6.grow h7.grow
     have hck:¬c=k:=by omega
     rw [if_neg hck]
     have em:IntKind.wrap .i64 ((j:Int) - 1)=((j - 1:Nat):Int):=wrP (by omega) (by omega)
     rw [em]
     have rdT:∀ {K:Addr→Prop} (t:Nat),k+t<l.length→(∀a,w7.cell? (Addr.add a 0)=some (.int .i64 (A.getD (k+t) (0,0)).1)→w7.cell? (Addr.add a 1)=some (.int .i64 (A.getD (k+t) (0,0)).2)→K a)→
       Dr (some (⟨b,o+k*2,none⟩:Addr)) (λa=>0≤(t:Int)∧(t:Int)<((l.length - k:Nat):Int)∧Dr (some (Addr.add a ((t:Int).toNat*2))) K):=by
      intro K t ht hK
      have hel:=aI_ A
      obtain ⟨e1,e2⟩:=nm_ (l:=A) (k:=k+t) (by omega)
      obtain ⟨b',o',hbo,hc⟩:=ho7.sl.ex (by intro e;rw [e] at hel;simp at hel;omega)
      cases hbo
      refine ac_.2 ⟨by omega,by omega,ac_.2 ?_⟩
      rw [au_,Int.toNat_natCast,show o+k*2+t*2=o+(k+t)*2 by omega]
      refine hK _ ?_ ?_
      ·rw [au_,Nat.add_zero,hc _ (by omega),e1,getD_eq (by omega)];rfl
      ·rw [au_,Nat.add_assoc,hc _ (by omega),e2,getD_eq (by omega)];rfl
     have v1:A.getD (k+j) (0,0)=l.getD (k+j) (0,0):=hAr _ (by omega) hj'
     have v2:A.getD (k+(j - 1)) (0,0)=l.getD (k+j - 1) (0,0):=by
      rw [hAr _ (by omega) (by omega)];congr 1;omega
     refine ⟨(· = w7),rfl,?_⟩
     refine rdT j hj' λa ha1 ha2=>⟨_,λw2 e=>e ▸ ha1,_,λw2 e=>e ▸ ha2,?_⟩
     refine rdT (j - 1) (by omega) λa ha1 ha2=>⟨_,λw2 e=>e ▸ ha1,_,λw2 e=>e ▸ ha2,?_⟩
     rw [v1,v2]
     refine ⟨λheq=>?_,λhne=>?_⟩
     ·have hdup2:l.getD (k+j) (0,0)=l.getD (k+j - 1) (0,0):=Prod.ext heq.1 heq.2.1
      have hc1:cmpN l (k+(j+1))=cmpN l (k+j):=by
       rw [← Nat.add_assoc];conv=>lhs;unfold cmpN
       rw [if_pos ⟨by omega,hdup2⟩]
      refine ⟨l.length - (j+1),by omega,j+1,A,wr1 (by omega),by omega,by omega,rfl,?_,?_,hA,?_,?_,ho7⟩
      ·rw [hc1]
      ·rw [hc1];omega
      ·rw [hc1];exact hAt
      ·rw [hc1];exact hAr
     ·have hnd:¬(0<k+j∧l.getD (k+j) (0,0)=l.getD (k+j - 1) (0,0)):=λhh=>hne ⟨congrArg Prod.fst hh.2,congrArg Prod.snd hh.2,trivial⟩
      have hc1:cmpN l (k+(j+1))=cmpN l (k+j)++[l.getD (k+j) (0,0)]:=by
       rw [← Nat.add_assoc];conv=>lhs;unfold cmpN
       rw [if_neg hnd]
      refine rdT j hj' λa ha1 ha2=>⟨_,ha1,_,ha2,?_⟩
      rw [v1]
      generalize hcl':(cmpN l (k+j)).length=p at *
      refine ac_.2 ⟨by omega,by omega,ac_.2 ?_⟩
      rw [au_,Int.toNat_natCast]
      refine ho7.st2 (k:=p) (by omega) _ _ λw13 ho13 g13=>?_
      have hF13:Fs (am_ (some ⟨b,o,none⟩)) w [] w13:=h7.reset.step g13 (λx hx=>by cases hx) λ_ _ h=>h
      have hc1l:(cmpN l (k+(j+1))).length=p+1:=by rw [hc1,List.length_append,hcl'];rfl
      refine ⟨hF13,l.length - (j+1),by omega,j+1,_,wr1 (by omega),by omega,by omega,rfl,?_,?_,by simpa using hA,?_,?_,ho13⟩
      ·rw [hc1l,wr1 (by omega)]
      ·rw [hc1l];omega
      ·rw [hc1l,ar_ (by simp;omega),List.take_set_of_le (Nat.le_refl _),hAt,hc1]
       simp
      ·intro t ht1 ht2
       rw [hc1l] at ht1
       have:=hAr t (by omega) ht2
       simp only [List.getD_eq_getElem?_getD] at this ⊢
       rw [List.getElem?_set_ne (by omega)];exact this
    ·have e:k+j=l.length:=by omega
     rw [e] at hAt hcl ⊢
     generalize hp:(cmpN l l.length).length=p at *
     refine ⟨by omega,by omega,?_⟩
     rw [Int.toNat_natCast,if_neg (show ¬c=p by omega)]
     refine n2_ ho6 (by omega) (by omega) λw14 ho14 g14=>?_
     have hF14:Fs (am_ (some ⟨b,o,none⟩)) w [] w14:=hF6.step g14 (λx hx=>by cases hx) λ_ _ h=>h
     refine ⟨rfl,hF14,by omega,by omega,?_⟩
     have hq0:(if c=0 then some (⟨b,o,none⟩:Addr) else some ⟨b,o+0*2,none⟩)=some ⟨b,o,none⟩:=by split <;> simp
     rw [hq0,Nat.sub_zero,Nat.sub_zero]
     rw [hAt] at ho14
     exact hK w14 ho14 hF14.chg
   ·omega
   ·intro j h1 h2
    by_cases e:j=k
    ·subst e
     rw [getD_eq hk',getD_eq (by omega)]
     exact λhh=>hne ⟨congrArg Prod.fst hh,congrArg Prod.snd hh,trivial⟩
    ·exact hd j h1 (by omega)
  ·have e:k=l.length:=by omega
   subst e
   have e2:cmpN l l.length=l:=by rw [iI_ hk hd,List.take_length]
   rw [e2] at hK
   exact hK w0 ho0 hF0.chg
end Go.Vc
namespace Go.Vc
open Go
def fa_ (n x:Int):Prop:=0≤x∧x<256 ^ n.toNat
theorem jy_ {x:Int} (h0:0≤x) (k:Nat):Int.fdiv x (2 ^ (8*k))=((x.toNat / 256 ^ k:Nat):Int):=by
 obtain ⟨m,rfl⟩:=Int.eq_ofNat_of_zero_le h0
 have hp:(2:Int) ^ (8*k)=((256 ^ k:Nat):Int):=by rw [Int.pow_mul];simp
 rw [hp,Int.fdiv_eq_ediv_of_nonneg _ (Int.natCast_nonneg _)]
 simp
theorem Own.set {e:TypeId} {w:World} {q:Option Addr} {c:Nat} {xs:List Value} (h:Own e 1 w q c xs) {i:Nat} (hi:i<xs.length) {v:Value} (hv:oneC v=true) {K:World→Prop}
  (hK:∀w',Own e 1 w' q c (xs.set i v)→Chg (am_ q) w w'→w'.heap.size=w.heap.size→K w'):Dr q λa=>StC w (a.add i) v K:=by
 rcases h with ⟨_,_,rfl⟩ | ⟨b,o,cs,rfl,hb,h1,h2,h3,h4⟩
 ·simp at hi
 ·rw [ac_,au_]
  refine stC hb (by omega) hv λw' hb' hs g=>hK w' (.inr ⟨b,o,_,rfl,hb',by simpa using h1,h2,by simpa using h3,λj hj=>?_⟩) (g.mono λk _ h=>⟨_,rfl,h⟩) hs
  simp only [List.length_set] at hj
  by_cases e:j=i
  ·subst e
   have:o+j<cs.size:=by omega
   simp [this,hi]
  ·rw [Array.getElem?_setIfInBounds_ne (by omega),h4 j hj,List.getElem?_set_ne (by omega)]
theorem f3_ {n x:Int} {w:World} {K:Value→World→Prop} (hx:x≤9223372036854775807)
  (h1:¬(1≤n∧n≤7)→K (.tuple #[.string (str []),E 1]) w)
  (h2:1≤n→n≤7→¬fa_ n x→K (.tuple #[.string (str []),E 2]) w)
  (h3:1≤n→n≤7→fa_ n x→∀w',Grow w w'→K (.tuple #[.string (str (aE_ n.toNat x.toNat)),.nilIface]) w') :
  aa_ PR F.dh_ ⟨[.int .i64 n,.int .i64 x]⟩ w K:=by
 refine dh_ n x S0 K w ⟨λh=>h1 (by omega),λh=>⟨λh'=>h1 (by omega),λh'=>⟨λh0=>h2 (by omega) (by omega) (λhk=>by have:=hk.1;omega),λh0=>?_⟩⟩⟩
 rw [aG_ (n:=8*n) (by omega) (by omega)]
 have hmin:min (Int.toNat (8*n)) 64=8*n.toNat:=by show min (Int.toNat (8*n)) 64=_;omega
 rw [hmin,jy_ (by omega)]
 have hiff:fa_ n x↔x.toNat / 256 ^ n.toNat=0:=by
  unfold fa_
  rw [Nat.div_eq_zero_iff_lt (Nat.pow_pos (by omega))]
  have hp:(256:Int) ^ n.toNat=((256 ^ n.toNat:Nat):Int):=by simp
  rw [hp];omega
 refine ⟨by omega,λhz=>?_,λhz=>h2 (by omega) (by omega) λhk=>hz (by rw [hiff.1 hk];rfl)⟩
 have hok:fa_ n x:=hiff.2 (by omega)
 obtain ⟨i8,hi8,hk8,hb8,hz8⟩:=t_u8
 refine df_ <| cX_ (i:=i8) (by_:=1) cy_ hi8 hz8 rfl hk8 hb8 (by omega) (by omega) (by omega) λb w0 hb hs0 g0 ho=>⟨_,_,_,rfl,(Fr.init _ w).after g0,?_⟩
 refine ⟨λi m w'=>0≤i∧i≤n∧m=(n - i).toNat∧Grow w w'∧Own T.uint8 1 w' (some ⟨b,0,none⟩) n.toNat (((aE_ n.toNat x.toNat).take i.toNat).map bv++List.replicate (n - i).toNat (.int .u8 0)),
  ⟨_,by omega,by omega,rfl,g0,by simpa using ho⟩,?_⟩
 rintro i D m w1 ⟨hi0,hi1,rfl,g1,ho⟩ hF1
 have hlen:((aE_ n.toNat x.toNat).take i.toNat).length=i.toNat:=by rw [List.length_take,a6_];omega
 refine ⟨λhlt=>?_,λhge=>?_⟩
 ·have hi:i<n:=by omega
  rw [aG_ (n:=8*i) (by omega) (by omega)]
  have hmin2:min (Int.toNat (8*i)) 64=8*i.toNat:=by show min (Int.toNat (8*i)) 64=_;omega
  rw [hmin2,jy_ (by omega),wrap_u8,aG_ (n:=i+1) (by omega) (by omega)]
  refine ⟨by omega,?_⟩
  have hset:=ho.set (i:=i.toNat) (v:=.int .u8 (((x.toNat / 256 ^ i.toNat:Nat):Int)%256)) (by rw [List.length_append,List.length_map,hlen,List.length_replicate];omega) rfl (K:=λw2=>Fs S0 w [] w2∧∃k1,k1<(n - i).toNat∧0≤i+1∧i+1≤n∧k1=(n - (i+1)).toNat∧Grow w w2∧
    Own T.uint8 1 w2 (some ⟨b,0,none⟩) n.toNat (((aE_ n.toNat x.toNat).take (i+1).toNat).map bv++List.replicate (n - (i+1)).toNat (.int .u8 0))) ?_
  ·rw [ac_] at hset ⊢
   refine ⟨by omega,by omega,?_⟩
   rw [ac_,Nat.mul_one]
   exact hset
  ·intro w2 ho2 g2 hs2
   refine ⟨(Fr.init _ w).after (g1.own g2 (.fresh (by omega))),_,?_,by omega,by omega,rfl,g1.own g2 (.fresh (by omega)),?_⟩
   ·omega
   ·have e:(((aE_ n.toNat x.toNat).take i.toNat).map bv++List.replicate (n - i).toNat (Value.int .u8 0)).set i.toNat (.int .u8 (((x.toNat / 256 ^ i.toNat:Nat):Int)%256)) =
        ((aE_ n.toNat x.toNat).take (i+1).toNat).map bv++List.replicate (n - (i+1)).toNat (.int .u8 0):=by
     have e1:(i+1).toNat=i.toNat+1:=by omega
     have e2:(n - i).toNat=(n - (i+1)).toNat+1:=by omega
     rw [e1,e2,List.take_add_one,lh_ _ _ _ (by omega),List.replicate_succ,List.set_append_right _ _ (by rw [List.length_map,hlen];exact Nat.le_refl _)]
     simp only [List.length_map,hlen,Nat.sub_self,List.set_cons_zero,Option.toList_some,List.map_append,List.map_cons,List.map_nil,List.append_assoc,List.cons_append,List.nil_append]
     rw [p8_]
     have e3:UInt8.ofNat (x.toNat / 256 ^ i.toNat)=UInt8.ofNat (x.toNat / 256 ^ i.toNat%256):=by
      apply UInt8.toNat_inj.1;simp
     rw [e3]
    rw [e] at ho2;exact ho2
 ·have e:i=n:=by omega
  subst e
  have hfull:(aE_ i.toNat x.toNat).take i.toNat=aE_ i.toNat x.toNat:=List.take_of_length_le (by rw [a6_];omega)
  rw [hfull] at ho
  refine ld_ (bs:=aE_ i.toNat x.toNat) (by have:=ho.sl;simpa using this) (by rw [a6_]) ⟨_,rfl,hF1,h3 (by omega) (by omega) hok _ g1⟩
def p2_ (n:Int):Int:=if IntKind.wrap .u32 (((BitVec.toNat (BitVec.ofInt 32 n &&& BitVec.ofInt 32 1)):Nat):Int)=1 then IntKind.wrap .u32 (((BitVec.toNat (BitVec.ofInt 32 (Int.fdiv n 2) ^^^ BitVec.ofInt 32 2197175160)):Nat):Int) else Int.fdiv n 2
def p1_:Nat→Int→Int
 | 0,x=>x
 | k+1,x=>p2_ (p1_ k x)
def p0_ (x:Int) (b:UInt8):Int:=p1_ 8 (IntKind.wrap .u32 (((BitVec.toNat (BitVec.ofInt 32 x ^^^ BitVec.ofInt 32 (IntKind.wrap .u32 (b.toNat:Int)))):Nat):Int))
def crcL (x:Int) (l:List UInt8):Int:=l.foldl p0_ x
def crcN (l:List UInt8):Nat:=(IntKind.wrap .u32 (((BitVec.toNat (BitVec.ofInt 32 4294967295 ^^^ BitVec.ofInt 32 (crcL 4294967295 l))):Nat):Int)).toNat
theorem sD_ (l:List UInt8):crcN l<256 ^ 4:=by unfold crcN;rw [wrap_u32];omega
theorem rx_ (x:Int) (a b:List UInt8):crcL x (a++b)=crcL (crcL x a) b:=List.foldl_append
theorem oT_ {x:Int} {b:UInt8} {w:World} {K:Value→World→Prop} (hK:∀w',Grow w w'→K (.int .u32 (p0_ x b)) w'):aa_ PR F.gC_ ⟨[.int .u32 x,.int .u8 (b.toNat:Int)]⟩ w K:=by
 refine gC_ x b.toNat S0 K w ⟨λy i m w'=>∃k:Nat,i=k∧k≤8∧m=8 - k∧y=p1_ k (IntKind.wrap .u32 (((BitVec.toNat (BitVec.ofInt 32 x ^^^ BitVec.ofInt 32 (IntKind.wrap .u32 (b.toNat:Int)))):Nat):Int)),⟨_,0,rfl,by omega,rfl,rfl⟩,?_⟩
 rintro y i D m w1 ⟨k,rfl,hk,rfl,rfl⟩ hF
 refine ⟨λhlt=>⟨λh=>⟨_,?_,k+1,wr1 (by omega),by omega,rfl,?_⟩,λh=>⟨_,?_,k+1,wr1 (by omega),by omega,rfl,?_⟩⟩,λhge=>?_⟩
 ·omega
 ·rw [p1_,p2_,if_pos h]
 ·omega
 ·rw [p1_,p2_,if_neg h]
 ·have e:k=8:=by omega
  subst e
  exact hK _ hF.gr
def sv8 (l:List UInt8):Value:=.string (str l)
theorem rF_ {q:Option Addr} {n c:Nat} {xs:List (List UInt8)} {w:World} (hs:Sl w q (xs.map sv8)) (hl:n=xs.length) (hn:xs.length≤1000000) (hb:∀x∈xs,x.length≤1000000000) {K:Value→World→Prop}
  (hK:∀w',Grow w w'→K (.int .i64 (crcN xs.flatten)) w'):aa_ PR F.iq_ ⟨[.slice q n c]⟩ w K:=by
 subst hl
 refine iq_ q xs.length c S0 K w ⟨λy i m w'=>∃k:Nat,i=k∧k≤xs.length∧m=xs.length - k∧y=crcL 4294967295 (xs.take k).flatten,⟨_,0,rfl,by omega,rfl,rfl⟩,?_⟩
 rintro y i D m w1 ⟨k,rfl,hk,rfl,rfl⟩ hF
 refine ⟨λhlt=>?_,λhge=>?_⟩
 ·have hk':k<xs.length:=by omega
  refine (hs.grow hF.gr).rd (v:=sv8 xs[k]) (by simp) (by omega) (by simp [hk']) λa ha=>⟨str xs[k],ha,?_⟩
  have hx:=hb _ (List.getElem_mem hk')
  refine ⟨λy i m w'=>∃j:Nat,i=j∧j≤xs[k].length∧m=xs[k].length - j∧y=crcL 4294967295 ((xs.take k).flatten++xs[k].take j),⟨_,0,rfl,by omega,rfl,by simp⟩,?_⟩
  rintro y i D m w2 ⟨j,rfl,hj,rfl,rfl⟩ hF2
  rw [ai_]
  refine ⟨λhlt=>⟨by omega,by omega,?_⟩,λhge=>?_⟩
  ·have hj':j<xs[k].length:=by omega
   have eb:aX_ (str xs[k]) (Int.toNat (j:Int))=xs[k][j].toNat:=by
    rw [p7_ (by rw [b6_];simpa using hj')];simp [b6_]
   rw [eb]
   refine oT_ λw3 g3=>⟨_,rfl,hF2.after g3,_,?_,j+1,wr1 (by omega),by omega,rfl,?_⟩
   ·omega
   ·rw [ar_ hj',← List.append_assoc,rx_ _ (_++_)];rfl
  ·have e:j=xs[k].length:=by omega
   subst e
   refine ⟨_,?_,k+1,wr1 (by omega),by omega,rfl,?_⟩
   ·omega
   ·rw [ar_ hk',List.flatten_append,List.take_length];simp
 ·have e:k=xs.length:=by omega
  subst e
  rw [List.take_length]
  have:∀n:Int,IntKind.wrap .i64 (IntKind.wrap .u32 n)=IntKind.wrap .u32 n:=λn=>by rw [wrap_u32,aG_ (by omega) (by omega)]
  rw [this]
  have hK:=hK w1 hF.gr
  unfold crcN at hK
  rw [Int.toNat_of_nonneg (by rw [wrap_u32];omega)] at hK
  exact hK
theorem okF2 {n:Nat} (h:n≤60000):fa_ 2 (n:Int):=by
 refine ⟨by omega,?_⟩
 have:(256:Int) ^ Int.toNat 2=65536:=by decide
 omega
theorem okF4 {n:Nat} (h:n<256 ^ 4):fa_ 4 (n:Int):=by
 refine ⟨by omega,?_⟩
 have:(256:Int) ^ Int.toNat 4=4294967296:=by decide
 omega
theorem ql_ {s:List UInt8} (hs:s.length≤60000) {w:World} {K:Value→World→Prop} (hK:∀w',Grow w w'→K (.tuple #[.string (str (ge_ crcN s)),.nilIface]) w'):aa_ PR F.gD_ ⟨[.string (str s)]⟩ w K:=by
 have hlt:=sD_ (aE_ 2 s.length++s)
 have l2:=a6_ 2 s.length
 have l4:=a6_ 4 (crcN (aE_ 2 s.length++s))
 refine gD_ (str s) S0 K w ⟨λh=>by rw [ai_] at h;omega,λ_=>?_⟩
 rw [ai_]
 refine f3_ (by omega) (λh=>by omega) (λ_ _ h=>absurd (okF2 hs) h) λ_ _ _ w1 g1=>⟨_,_,rfl,(Fr.init _ w).after g1,?_⟩
 intro b hb w2 h2
 have hsl:Sl w2 (some ⟨b,0,none⟩) ([aE_ 2 s.length,s].map sv8):=h2.sl 0 rfl
 refine rF_ hsl rfl (by simp) (λx hx=>by simp at hx;rcases hx with rfl | rfl <;> omega) λw3 g3=>⟨_,rfl,h2.after g3,?_⟩
 have ef:[aE_ 2 s.length,s].flatten=aE_ 2 s.length++s:=by simp
 rw [ef]
 refine f3_ (by omega) (λh=>by omega) (λ_ _ h=>absurd (okF4 hlt) h) λ_ _ _ w4 g4=>⟨_,_,rfl,(h2.after g3).after g4,?_,?_,?_⟩
 ·simp only [ai_];simp only [Int.toNat_natCast];simp [a6_]
 ·simp only [aD_,ai_];simp [a6_];omega
 ·simp only [aD_]
  exact hK _ ((h2.after g3).after g4).chg
end Go.Vc
namespace Go.Vc
open Go
def fm_ (nodes:Int) (l:List (Int × Int)):Prop:=0≤nodes∧nodes≤4096∧l.length≤20000∧∀e∈l,0≤e.1∧e.1<nodes∧0≤e.2∧e.2<nodes
def sp_ (v:Value):Prop:=∃t x,v=.iface t x
def isEC (c:Int) (v:Value):Prop:=v=.iface T.ak_ (.int .i64 c)∨∃a:Int,v=.iface T.ew_ (.agg #[.int .i64 a,.iface T.ak_ (.int .i64 c)])
theorem isEC.err {c:Int} {v:Value} (h:isEC c v):sp_ v:=by
 rcases h with rfl | ⟨a,rfl⟩ <;> exact ⟨_,_,rfl⟩
theorem dP_ {n c:Int} {w:World} {K:Value→World→Prop} (hK:∀x,isEC c x→K x w):aa_ PR F.dQ_ ⟨[.int .i64 n,.iface T.ak_ (.int .i64 c)]⟩ w K:=
 dQ_ n _ S0 K w ⟨rfl,hK _ (.inr ⟨n,rfl⟩)⟩
theorem ot_ {nodes:Int} {l:List (Int × Int)} {q:Option Addr} {n c:Nat} {w:World} (hs:Sl w q (encE l)) (hl:n=l.length) {K:Value→World→Prop}
  (h1:fm_ nodes l→∀w',Grow w w'→K .nilIface w') (h2:¬fm_ nodes l→∀w' v,Grow w w'→isEC 10 v→K v w'):aa_ PR F.fq_ ⟨[.int .i64 nodes,.slice q n c]⟩ w K:=by
 subst hl
 refine fq_ nodes q l.length c S0 K w ⟨λh=>?_,λh0=>⟨λh=>?_,λhm=>⟨λh=>?_,λhlen=>?_⟩⟩⟩
 ·exact dP_ λx hx=>⟨_,rfl,.init _ w,h2 (λhg=>by have:=hg.1;omega) w _ (.refl _ _) hx⟩
 ·exact dP_ λx hx=>⟨_,rfl,.init _ w,h2 (λhg=>by have:=hg.2.1;omega) w _ (.refl _ _) hx⟩
 ·exact dP_ λx hx=>⟨_,rfl,.init _ w,h2 (λhg=>by have:=hg.2.2.1;omega) w _ (.refl _ _) hx⟩
 ·refine ⟨λi m w'=>∃k:Nat,i=k∧k≤l.length∧m=l.length - k∧∀j,(hj:j<l.length)→j<k→0≤l[j].1∧l[j].1<nodes∧0≤l[j].2∧l[j].2<nodes,⟨_,0,rfl,by omega,rfl,λj hj h=>by omega⟩,?_⟩
  rintro i D m w3 ⟨k,rfl,hk,rfl,hd⟩ hF
  refine ⟨λhlt=>?_,λhge=>?_⟩
  ·have hk':k<l.length:=by omega
   refine (hs.grow hF.gr).rd2 rfl hk' hk' λa ha1 ha2=>⟨_,ha1,_,ha2,λb hb=>?_⟩
   have bad:(l[k].1<0∨l[k].2<0∨nodes≤l[k].1∨nodes≤l[k].2)→∀w4,Fr S0 w w3 [b] [] w4→aa_ PR F.dQ_ #[.int .i64 k,.iface T.ak_ (.int .i64 10)] w4 (λv6 w5=>∃v7,v6=v7∧Fs S0 w [] w5∧K v7 w5):=λhb w4 h4=>
    dP_ λx hx=>⟨_,rfl,h4.reset,h2 (λhg=>by have:=hg.2.2.2 _ (List.getElem_mem hk');omega) w4 _ h4.chg hx⟩
   refine ⟨λh=>bad ?_,λhmin=>⟨λh=>bad ?_,λhmax w8 h8=>⟨_,?_,k+1,wr1 (by omega),by omega,rfl,λj hj hj2=>?_⟩⟩⟩
   ·split at h <;> omega
   ·split at h <;> omega
   ·omega
   ·by_cases e:j=k
    ·subst e
     split at hmin <;> split at hmax <;> omega
    ·exact hd j hj (by omega)
  ·refine h1 ⟨by omega,by omega,by omega,λe he=>?_⟩ w3 hF.gr
   obtain ⟨j,hj,rfl⟩:=List.getElem_of_mem he
   exact hd j hj (by omega)
def ltE (x y:Int × Int):Prop:=x.1<y.1∨(x.1=y.1∧x.2<y.2)
theorem jD_ {l:List (Int × Int)} (hs:l.Pairwise leE):∀j,j≤l.length→(cmpN l j).Pairwise ltE∧(∀x∈cmpN l j,x∈l)∧(∀x∈cmpN l j,leE x (l.getD (j - 1) (0,0)))∧∀i,i<j→l.getD i (0,0)∈cmpN l j
 | 0,_=>by simp [cmpN]
 | j+1,hj=>by
  obtain ⟨h1,h2,h3,h4⟩:=jD_ hs j (by omega)
  have hjl:j<l.length:=by omega
  have hstep:∀(hj0:0<j),leE (l.getD (j - 1) (0,0)) (l.getD j (0,0)):=λhj0=>by
   have:=List.pairwise_iff_getElem.1 hs (j - 1) j (by omega) hjl (by omega)
   rw [getD_eq (by omega),getD_eq hjl];exact this
  have hmem:l.getD j (0,0)∈l:=by rw [getD_eq hjl];exact List.getElem_mem hjl
  unfold cmpN
  split
  ·rename_i hd
   refine ⟨h1,h2,λx hx=>?_,λi hi=>?_⟩
   ·have:=h3 x hx
    rw [Nat.add_sub_cancel,hd.2];exact this
   ·by_cases e:i=j
    ·subst e;rw [hd.2];exact h4 (i - 1) (by omega)
    ·exact h4 i (by omega)
  ·rename_i hd
   have hlt:∀x∈cmpN l j,ltE x (l.getD j (0,0)):=λx hx=>by
    have hj0:0<j:=by
     rcases Nat.eq_zero_or_pos j with e | e
     ·subst e;simp [cmpN] at hx
     ·exact e
    have a:=h3 x hx
    have b:=hstep hj0
    have hne:l.getD j (0,0)≠l.getD (j - 1) (0,0):=λe=>hd ⟨hj0,e⟩
    unfold leE at a b;unfold ltE
    have:¬((l.getD j (0,0)).1=(l.getD (j - 1) (0,0)).1∧(l.getD j (0,0)).2=(l.getD (j - 1) (0,0)).2):=λh=>hne (Prod.ext h.1 h.2)
    omega
   refine ⟨?_,?_,?_,?_⟩
   ·rw [List.pairwise_append]
    refine ⟨h1,List.pairwise_singleton _ _,λx hx y hy=>?_⟩
    simp at hy;subst hy
    have:=hlt x hx
    simpa using this
   ·intro x hx
    rcases List.mem_append.1 hx with hx | hx
    ·exact h2 x hx
    ·simp only [List.mem_singleton] at hx;subst hx;exact hmem
   ·intro x hx
    rw [Nat.add_sub_cancel]
    rcases List.mem_append.1 hx with hx | hx
    ·have:=hlt x hx;unfold ltE at this;unfold leE;omega
    ·simp only [List.mem_singleton] at hx;subst hx;unfold leE;omega
   ·intro i hi
    by_cases e:i=j
    ·subst e;simp
    ·exact List.mem_append_left _ (h4 i (by omega))
structure lM_ (nodes:Int) (l N:List (Int × Int)):Prop where
 lt:N.Pairwise ltE
 mem:∀x,x∈N↔x∈l
 good:∀e∈N,0≤e.1∧e.1<nodes∧0≤e.2∧e.2<nodes
 len:N.length≤l.length
theorem qp_ {nodes:Int} {l:List (Int × Int)} {q:Option Addr} {n c:Nat} {w:World} (hs:Sl w q (encE l)) (hl:n=l.length) (hn:n≤1000000) {K:Value→World→Prop}
  (h1:fm_ nodes l→∀w' N q' c',Grow w w'→lM_ nodes l N→Sl w' q' (encE N)→K (.tuple #[.slice q' N.length c',.nilIface]) w')
  (h2:¬fm_ nodes l→∀w' v,Grow w w'→isEC 10 v→K (.tuple #[.slice none 0 0,v]) w'):aa_ PR F.gH_ ⟨[.int .i64 nodes,.slice q n c]⟩ w K:=by
 subst hl
 refine gH_ nodes q l.length c S0 K w ?_
 refine ot_ hs rfl (λhg w1 g1=>⟨_,rfl,(Fr.init _ w).after g1,λ_=>?_,(λt x h=>by cases h),.inl rfl⟩) λhg w1 v g1 hv=>⟨_,rfl,(Fr.init _ w).after g1,(λh=>by obtain ⟨t,x,rfl⟩:=hv.err;cases h),λt x h=>h2 hg w1 v g1 hv,.inr (by obtain ⟨t,x,h⟩:=hv.err;exact ⟨t,x,h⟩)⟩
 refine i5_ (hs.grow g1) rfl hn λw2 q2 c2 g2 ho2 hc2 hof2=>⟨_,_,_,rfl,(Fr.init _ w).after (g1.trans g2),?_⟩
 have hoff:Off (λk=>k<w.heap.size) q2:=hof2.mono g1.size
 refine o4_ ho2 rfl hn λw3 l3 hp hsrt ho3 g3=>?_
 have hF3:Fs S0 w [] w3:=((Fr.init _ w).after (g1.trans g2)).step g3 (λx hx=>by cases hx) λk hk ⟨a,ha,e⟩=>by have:=hoff.le a ha;omega
 refine ⟨rfl,hF3,?_⟩
 have hl3:l3.length=l.length:=hp.length_eq
 rw [← hl3]
 refine lR_ ho3 rfl (by omega) (by omega) λw4 ho4 g4=>?_
 have hF4:Fs S0 w [] w4:=hF3.step g4 (λx hx=>by cases hx) λk hk ⟨a,ha,e⟩=>by have:=hoff.le a ha;omega
 refine ⟨_,_,_,rfl,hF4,?_⟩
 obtain ⟨p1,p2,p3,p4⟩:=jD_ hsrt l3.length (Nat.le_refl _)
 have hcl:=nq_ l3 l3.length
 refine h1 hg w4 _ q2 c2 hF4.chg ⟨p1,λx=>⟨λhx=>hp.mem_iff.1 (p2 x hx),λhx=>?_⟩,λe he=>hg.2.2.2 e (hp.mem_iff.1 (p2 e he)),by omega⟩ ho4.sl
 obtain ⟨i,hi,rfl⟩:=List.getElem_of_mem (hp.mem_iff.2 hx)
 have:=p4 i hi
 rw [getD_eq hi] at this
 exact this
end Go.Vc
namespace Go.Vc
open Go
def ltN (N:List (Int × Int)) (v:Int):Nat:=N.countP λe=>decide (e.1<v)
theorem rU_ {N:List (Int × Int)} (hs:N.Pairwise ltE) (v:Int):∀i,(hi:i<N.length)→(N[i].1<v↔i<ltN N v):=by
 induction N with
 | nil=>intro i hi;simp at hi
 | cons x N ih=>
  obtain ⟨hx,hs'⟩:=List.pairwise_cons.1 hs
  have ih:=ih hs'
  intro i hi
  by_cases h:x.1<v
  ·have e:ltN (x :: N) v=ltN N v+1:=by unfold ltN;rw [List.countP_cons_of_pos (by simpa using h)]
   rw [e]
   cases i with
   | zero=>simp [h]
   | succ i=>have:=ih i (by simpa using hi);simp only [List.getElem_cons_succ];rw [this];omega
  ·have e:ltN (x :: N) v=0:=by
    unfold ltN
    rw [List.countP_eq_zero]
    intro y hy
    rcases List.mem_cons.1 hy with rfl | hy
    ·simpa using h
    ·have:=hx y hy;unfold ltE at this;simp;omega
   rw [e]
   refine ⟨λhlt=>?_,λh=>by omega⟩
   exfalso
   cases i with
   | zero=>exact h hlt
   | succ i=>
    have:=hx _ (List.getElem_mem (show i<N.length by simpa using hi))
    simp only [List.getElem_cons_succ] at hlt
    unfold ltE at this;omega
theorem rT_ (N:List (Int × Int)) (v:Int):ltN N v≤N.length:=List.countP_le_length
theorem q9_ (N:List (Int × Int)) {v u:Int} (h:v≤u):ltN N v≤ltN N u:=List.countP_mono_left λx _ hx=>by simp at hx ⊢;omega
theorem q8_ (N:List (Int × Int)) (v:Int):ltN N (v+1)=(N.countP λe=>decide (e.1+1=v+1))+ltN N v:=by
 induction N with
 | nil=>rfl
 | cons x N ih=>
  unfold ltN at *
  simp only [List.countP_cons,ih]
  by_cases h:x.1<v
  ·have h1:¬x.1+1=v+1:=by omega
   have h2:x.1<v+1:=by omega
   simp [h,h1,h2];omega
  ·by_cases h':x.1=v
   ·have h1:x.1+1=v+1:=by omega
    have h2:x.1<v+1:=by omega
    simp [h,h1,h2];omega
   ·have h1:¬x.1+1=v+1:=by omega
    have h2:¬x.1<v+1:=by omega
    simp [h,h1,h2]
def begL (nodes:Nat) (N:List (Int × Int)):List Int:=(List.range (nodes+1)).map λ(v:Nat)=>((ltN N (v:Int):Nat):Int)
theorem gK_ {nodes:Nat} {N:List (Int × Int)} {v:Nat} (h:v≤nodes):(begL nodes N).getD v 0=((ltN N v:Nat):Int):=by
 simp [begL,show v<nodes+1 by omega]
theorem r0_ {nodes:Nat} {l N:List (Int × Int)} (h:lM_ nodes l N) (hl:N.length≤100000):CsrL nodes (begL nodes N) (N.map (·.2)):=by
 have key:∀v,v<nodes→∀i,i<(rowOf (begL nodes N) (N.map (·.2)) v).length→∃hi:ltN N v+i<N.length,N[ltN N v+i].1=v∧(rowOf (begL nodes N) (N.map (·.2)) v).getD i 0=N[ltN N v+i].2:=by
  intro v hv i hi
  unfold rowOf at hi ⊢
  rw [gK_ (by omega),gK_ (by omega)] at hi ⊢
  simp only [Int.toNat_natCast,List.length_take,List.length_drop,List.length_map] at hi
  have hlt:ltN N v+i<N.length:=by omega
  have hlt2:ltN N v+i<ltN N (v+1:Nat):=by omega
  refine ⟨hlt,?_,?_⟩
  ·have a:=(rU_ h.lt ((v+1:Nat):Int) _ hlt).2 hlt2
   have b:=mt (rU_ h.lt (v:Int) _ hlt).1 (by omega)
   omega
  ·simp only [Int.toNat_natCast,List.getD_eq_getElem?_getD]
   rw [List.getElem?_take_of_lt (by omega),List.getElem?_drop,List.getElem?_map,List.getElem?_eq_getElem hlt]
   rfl
 refine ⟨by simp [begL],λv hv=>?_,λv hv=>?_,λv hv=>⟨λi hi=>?_,λi hi=>?_⟩,by simpa using hl⟩
 ·rw [gK_ hv];have:=rT_ N v;simp;omega
 ·rw [gK_ (by omega),gK_ (by omega)]
  have:=q9_ N (show (v:Int)≤((v+1:Nat):Int) by omega)
  omega
 ·obtain ⟨h1,h2,h3⟩:=key v hv i hi
  have:=h.good _ (List.getElem_mem h1)
  rw [h3];exact ⟨this.2.2.1,this.2.2.2⟩
 ·obtain ⟨h1,h2,h3⟩:=key v hv i (by omega)
  obtain ⟨h4,h5,h6⟩:=key v hv (i+1) hi
  rw [h3,h6]
  have:=List.pairwise_iff_getElem.1 h.lt (ltN N v+i) (ltN N v+(i+1)) h1 h4 (by omega)
  unfold ltE at this;omega
theorem Own.setI {e:TypeId} {w:World} {q:Option Addr} {c:Nat} {l:List Int} (h:Own e 1 w q c (l.map iv)) {n:Int} {i m:Nat} (hn:n=i) (hi:i<l.length) (hm:m=l.length) {x:Int} {K:World→Prop}
  (hK:∀w',Own e 1 w' q c ((l.set i x).map iv)→Chg (am_ q) w w'→w'.heap.size=w.heap.size→K w'):Dr q (λa=>0≤n∧n<((m:Nat):Int)∧Dr (some (Addr.add a (n.toNat*1))) λa=>StC w a (.int .i64 x) K):=by
 subst hn;subst hm
 have:=h.set (i:=i) (by simpa using hi) (v:=iv x) rfl (K:=K) (λw' h1 h2 h3=>hK w' (by rw [List.map_set];exact h1) h2 h3)
 obtain ⟨a,ha,hh⟩:=this
 refine ⟨a,ha,by omega,by omega,ac_.2 ?_⟩
 rw [Int.toNat_natCast,Nat.mul_one];exact hh
theorem pa_ {nodes:Nat} {l N:List (Int × Int)} {q:Option Addr} {c:Nat} {w:World} (hn:nodes≤4096) (hN:lM_ nodes l N) (hl:N.length≤100000) (hs:Sl w q (encE N)) {K:Value→World→Prop}
  (hK:∀w' b,Grow w w'→hg_ w' b nodes (begL nodes N) (N.map (·.2))→w.heap.size≤b→K (.pointer (some ⟨b,0,none⟩)) w'):aa_ PR F.kF_ ⟨[.int .i64 nodes,.slice q N.length c]⟩ w K:=by
 refine kF_ nodes q N.length c S0 K w ?_
 rw [w64 (n:=(nodes:Int)+1) (by omega) (by omega)]
 obtain ⟨ii,hii,hki,hbi,hzi⟩:=qL_
 refine df_ <| cX_ (i:=ii) (by_:=8) oG_ hii hzi rfl hki hbi (by omega) (by omega) (by omega) λbb w0 hbb hs0 g0 ho0=>⟨_,_,_,rfl,(Fr.init _ w).after g0,λb2 hb2 w1 hF1=>?_⟩
 have en:((nodes:Int)+1).toNat=nodes+1:=by omega
 rw [en] at ho0 ⊢
 have hne:bb≠b2:=by omega
 have hb1:bb<w1.heap.size:=by have:=hF1.grow.size;omega
 have hb21:b2<w1.heap.size:=hF1.lt _ List.mem_cons_self
 let cnt (k:Nat) (j:Nat):Nat:=(N.take k).countP λe=>decide (e.1+1=(j:Int))
 have hoffb:∀j,j<w.heap.size→¬am_ (some ⟨bb,0,none⟩) j:=by rintro j hj ⟨a,ha,e⟩;cases ha;simp only [] at e;omega
 have ho1:Own T.int 1 w1 (some ⟨bb,0,none⟩) (nodes+1) ((List.replicate (nodes+1) (0:Int)).map iv):=by
  have:=ho0.grow hF1.grow
  simpa [iv] using this
 refine ⟨λi q1 l1 c1 q2 l2 c2 m w'=>∃(k:Nat) (C:List Int),i=k∧k≤N.length∧m=N.length - k∧q1=some ⟨bb,0,none⟩∧l1=nodes+1∧c1=nodes+1∧C.length=nodes+1∧(∀j,j≤nodes→C.getD j 0=cnt k j)∧Own T.int 1 w' (some ⟨bb,0,none⟩) (nodes+1) (C.map iv)∧
  Own T.int 1 w' q2 c2 (((N.take k).map (·.2)).map iv)∧k=l2∧l2≤c2∧Off (λj=>j<w1.heap.size) q2∧w1.heap.size≤w'.heap.size,⟨_,0,List.replicate (nodes+1) 0,rfl,by omega,rfl,rfl,rfl,rfl,by simp,(λj hj=>by simp [cnt,show j<nodes+1 by omega]),ho1,.nil _ _ _,rfl,Nat.le_refl _,.none _,Nat.le_refl _⟩,?_⟩
 rintro i q1 l1 c1 q2 l2 c2 D m w2 ⟨k,C,rfl,hk,rfl,rfl,rfl,rfl,hCl,hC,hoC,hoT,rfl,hkc,hof,hsz⟩ hF2
 refine ⟨λhlt=>?_,λhge=>?_⟩
 ·have hk':k<N.length:=by omega
  have hgood:=hN.good _ (List.getElem_mem hk')
  obtain ⟨f,hf⟩:=Int.eq_ofNat_of_zero_le hgood.1
  refine (hs.grow hF2.gr).rd2 rfl hk' hk' λa ha1 ha2=>⟨_,ha1,_,ha2,λb9 hb9 w3 hF3=>?_⟩
  have g23:Chg (· = b9) w2 w3:=hF3.stp.mono λj _ hj=>by simpa using hj
  have hoC3:Own T.int 1 w3 (some ⟨bb,0,none⟩) (nodes+1) (C.map iv):=hoC.keep g23 λa ha e=>by cases ha;have e':bb=b9:=e;omega
  have hoT3:Own T.int 1 w3 q2 c2 (((N.take k).map (·.2)).map iv):=hoT.keep g23 λa ha e=>by have:=hoT.lt a ha;have e':a.block=b9:=e;omega
  have ev:IntKind.wrap .i64 (N[k].1+1)=((f+1:Nat):Int):=by rw [w64 (by omega) (by omega)];omega
  rw [ev]
  have hf':f+1<C.length:=by omega
  have cle:cnt k (f+1)≤k:=by
   have:cnt k (f+1)≤(N.take k).length:=List.countP_le_length
   rw [List.length_take] at this;omega
  refine ⟨(· = w3),rfl,?_⟩
  refine hoC3.sl.rd (v:=iv (C.getD (f+1) 0)) (by simp [hCl]) (by omega) (gw_ hf') λa3 ha3=>⟨_,λw4 e=>e ▸ ha3,?_⟩
  rw [hC _ (by omega),wr1 (by omega)]
  refine hoC3.setI rfl hf' hCl.symm λw5 hoC5 g5 hs5=>?_
  have hF5:Fs S0 w [⟨b2,#[.slice (some ⟨bb,0,none⟩) (nodes+1) (nodes+1),.slice q2 k c2],T.mC_,true⟩,⟨b9,#[iv N[k].1,iv N[k].2],T.aq_,true⟩] w5:=hF3.step g5 (λx hx ⟨a,ha,e⟩=>by
   cases ha
   rcases List.mem_cons.1 hx with rfl | hx
   ·simp only [] at e;exact hne e.symm
   ·simp at hx;subst hx;simp only [] at e;omega) λj hj h=>absurd h (hoffb j hj)
  refine ⟨hF5,λw6 hF6=>?_⟩
  have g56:Grow w5 w6:=hF6.grow
  have hof':Off (am_ (some ⟨bb,0,none⟩)) q2:=λa ha ⟨a',ha',e⟩=>by cases ha';simp only [] at e;have:=hof.le a ha;omega
  have hoT5:Own T.int 1 w5 q2 c2 (((N.take k).map (·.2)).map iv):=hoT3.keep g5 hof'
  refine ⟨λx=>x.cell? ⟨b2,1,none⟩=some (.slice q2 k c2),hF6.ld 0 1 rfl rfl rfl,ac_.2 ⟨_,_,_,λw7 h=>h,λb12 hb12 w8 hF8=>⟨hF8.ld 0 1 rfl rfl rfl,?_⟩⟩⟩
  have g68:Grow w6 w8:=hF8.grow
  have s23:=g23.size
  have s56:=g56.size
  have s68:=g68.size
  refine f2_ ((hoT5.grow g56).grow g68) (by simp;omega) hkc (ys:=[N[k].2]) (hF8.sl 2 rfl) rfl (by omega) λq2' c2' w9 hoT9 hc9 g9 hq9=>?_
  have hF9:=hF8.app2 g9 w1.heap.size w2.heap.size hof (λa ha=>by have:=hoT.lt a ha;omega) (λy hy=>by
   rcases List.mem_cons.1 hy with rfl | hy
   ·exact .inl hb21
   rcases List.mem_cons.1 hy with rfl | hy
   ·exact .inr hb9
   ·simp at hy;subst hy;exact .inr (by simp only [];omega)) hF1.chg.size
  refine ⟨_,_,_,rfl,hF9,hF9.ld 0 1 rfl rfl rfl,λw10 hF10=>?_⟩
  have g910:Chg (· = b2) w9 w10:=hF10.stp.mono λj _ hj=>by simpa using hj
  have hoffT':Off (λj=>j<w1.heap.size) q2':=hof.next hq9 (by omega)
  have hoT10:Own T.int 1 w10 q2' c2' (((N.take k).map (·.2)++[N[k].2]).map iv):=hoT9.keep g910 λa ha e=>by have:=hoffT'.le a ha;have e':a.block=b2:=e;omega
  have hoC10:Own T.int 1 w10 (some ⟨bb,0,none⟩) (nodes+1) ((C.set (f+1) ((cnt k (f+1)+1:Nat):Int)).map iv):=(((hoC5.grow g56).grow g68).keep g9 (λa ha ⟨a',ha',e⟩=>by cases ha;simp only [] at e;have:=hof.le a' ha';omega)).keep g910 λa ha e=>by cases ha;exact hne e
  refine ⟨N.length - (k+1),by omega,k+1,_,wr1 (by omega),by omega,rfl,rfl,rfl,rfl,by simpa using hCl,?_,hoC10,?_,rfl,hc9,hoffT',by have:=g9.size;have:=g910.size;omega⟩
  ·intro j hj
   have hcn:cnt (k+1) j=cnt k j+if N[k].1+1=(j:Int) then 1 else 0:=by
    show ((N.take (k+1)).countP _)=_
    rw [ar_ hk',List.countP_append,List.countP_singleton]
    simp only [decide_eq_true_eq];rfl
   by_cases e:j=f+1
   ·subst e
    have:N[k].1+1=((f+1:Nat):Int):=by omega
    rw [hcn,if_pos this]
    simp [hf']
   ·have:¬N[k].1+1=(j:Int):=by omega
    have hcn2:cnt (k+1) j=cnt k j:=by rw [hcn,if_neg this];exact Nat.add_zero _
    rw [hcn2,← hC j hj]
    simp only [List.getD_eq_getElem?_getD]
    rw [List.getElem?_set_ne (by omega)]
  ·rw [ar_ hk',List.map_append];exact hoT10
 ·have e:k=N.length:=by omega
  subst e
  rw [List.take_length] at hoT
  have hC':∀j,j≤nodes→C.getD j 0=((N.countP λe=>decide (e.1+1=(j:Int)):Nat):Int):=λj hj=>by
   have:=hC j hj
   simp only [cnt,List.take_length] at this;exact this
  refine ⟨λv m w'=>∃(k:Nat) (C:List Int),v=k∧k≤nodes∧m=nodes - k∧C.length=nodes+1∧(∀j,j≤k→C.getD j 0=ltN N j)∧(∀j,k<j→j≤nodes→C.getD j 0=((N.countP λe=>decide (e.1+1=(j:Int)):Nat):Int))∧Own T.int 1 w' (some ⟨bb,0,none⟩) (nodes+1) (C.map iv)∧
   Own T.int 1 w' q2 c2 ((N.map (·.2)).map iv),⟨_,0,C,rfl,by omega,rfl,hCl,(λj hj=>?_),(λj h1 h2=>hC' j h2),hoC,hoT⟩,?_⟩
  ·have:j=0:=by omega
   subst this
   rw [hC' 0 (by omega)]
   have h1:(N.countP λe=>decide (e.1+1=((0:Nat):Int)))=0:=by
    rw [List.countP_eq_zero];intro x hx;have:=(hN.good x hx).1;simp;omega
   have h2:ltN N ((0:Nat):Int)=0:=by
    unfold ltN;rw [List.countP_eq_zero];intro x hx;have:=(hN.good x hx).1;simp;omega
   rw [h1,h2]
  ·rintro v D m w11 ⟨v,C,rfl,hv,rfl,hCl,hCa,hCb,hoC,hoT⟩ hF11
   refine ⟨λhlt w12 hF12=>?_,λhge=>?_⟩
   ·have hv':v<nodes:=by omega
    have g12:Grow w11 w12:=hF12.grow
    have hoC12:=hoC.grow g12
    rw [wr1 (by omega)]
    refine ⟨(· = w12),rfl,?_⟩
    refine hoC12.sl.rd (v:=iv (C.getD (v+1) 0)) (by simp [hCl]) (by omega) (gw_ (by omega)) λa ha=>⟨_,λw4 e=>e ▸ ha,?_⟩
    refine hoC12.sl.rd (v:=iv (C.getD v 0)) (by simp [hCl]) (by omega) (gw_ (by omega)) λa ha=>⟨_,λw4 e=>e ▸ ha,?_⟩
    have hstep:=q8_ N v
    have e1:((v:Int)+1)=((v+1:Nat):Int):=by omega
    rw [e1] at hstep
    have hle:=rT_ N ((v+1:Nat):Int)
    rw [hCa v (Nat.le_refl _),hCb (v+1) (by omega) (by omega),w64 (by omega) (by omega)]
    refine hoC12.setI rfl (by omega) hCl.symm λw15 hoC15 g15 hs15=>?_
    have hF15:Fs S0 w [⟨b2,#[.slice (some ⟨bb,0,none⟩) (nodes+1) (nodes+1),.slice q2 N.length c2],T.mC_,true⟩] w15:=hF12.step g15 (λx hx ⟨a,ha,e⟩=>by
     cases ha
     simp at hx;subst hx
     exact hne e.symm) λj hj h=>absurd h (hoffb j hj)
    refine ⟨hF15,nodes - (v+1),by omega,v+1,_,rfl,by omega,rfl,by simpa using hCl,(λj hj=>?_),(λj h1 h2=>?_),hoC15,(hoT.grow g12).keep g15 λa ha ⟨a',ha',e⟩=>by cases ha';simp only [] at e;have:=hof.le a ha;omega⟩
    ·by_cases e:j=v+1
     ·subst e
      simp only [List.getD_eq_getElem?_getD]
      rw [List.getElem?_set_self (by omega)]
      simp only [Option.getD_some];omega
     ·rw [← hCa j (by omega)]
      simp only [List.getD_eq_getElem?_getD]
      rw [List.getElem?_set_ne (by omega)]
    ·rw [← hCb j (by omega) h2]
     simp only [List.getD_eq_getElem?_getD]
     rw [List.getElem?_set_ne (by omega)]
   ·have e:v=nodes:=by omega
    subst e
    have hCe:C=begL v N:=by
     apply List.ext_getElem?
     intro j
     rcases Nat.lt_or_ge j (v+1) with h | h
     ·have a:=hCa j (by omega)
      have b:=gK_ (N:=N) (show j≤v by omega)
      rw [kr_ (by omega)] at a
      rw [kr_ (by simp [begL];omega)] at b
      rw [List.getElem?_eq_getElem (by omega),List.getElem?_eq_getElem (by simp [begL];omega),a,b]
     ·rw [List.getElem?_eq_none (by omega),List.getElem?_eq_none (by simp [begL];omega)]
    rw [hCe] at hoC
    refine hK w11 b2 hF11.gr ⟨_,v+1,_,c2,?_,?_,hoC.sl,hoT.sl⟩ (by have:=g0.size;omega)
    ·have:=hF11.blk 0 rfl
     rw [List.length_map];exact this
    ·rw [List.length_map];exact hkc
theorem ou_ {nodes:Int} {l:List (Int × Int)} {q:Option Addr} {n c:Nat} {w:World} (hs:Sl w q (encE l)) (hl:n=l.length) (hn:n≤100000) {K:Value→World→Prop}
  (h1:fm_ nodes l→∀w' b N,Grow w w'→lM_ nodes l N→hg_ w' b nodes.toNat (begL nodes.toNat N) (N.map (·.2))→CsrL nodes.toNat (begL nodes.toNat N) (N.map (·.2))→K (.tuple #[.pointer (some ⟨b,0,none⟩),.nilIface]) w')
  (h2:¬fm_ nodes l→∀w' v,Grow w w'→isEC 10 v→K (.tuple #[.pointer none,v]) w'):aa_ PR F.iH_ ⟨[.int .i64 nodes,.slice q n c]⟩ w K:=by
 subst hl
 refine iH_ nodes q l.length c S0 K w ?_
 refine qp_ hs rfl (by omega) (λhg w1 N q1 c1 g1 hN hs1=>⟨_,_,_,_,rfl,(Fr.init _ w).after g1,λ_=>?_,(λt x h=>by cases h),.inl rfl⟩) λhg w1 v g1 hv=>⟨_,_,_,_,rfl,(Fr.init _ w).after g1,(λh=>by obtain ⟨t,x,rfl⟩:=hv.err;cases h),λt x h=>h2 hg w1 v g1 hv,.inr (by obtain ⟨t,x,h⟩:=hv.err;exact ⟨t,x,h⟩)⟩
 obtain ⟨m,rfl⟩:=Int.eq_ofNat_of_zero_le hg.1
 have hm:=hg.2.1
 have hNl:=hN.len
 refine pa_ (by omega) hN (by omega) hs1 λw2 b g2 hc hb=>⟨_,rfl,(Fr.init _ w).after (g1.trans g2),?_⟩
 exact h1 hg w2 b N (g1.trans g2) hN (by rw [Int.toNat_natCast];exact hc) (by rw [Int.toNat_natCast];exact r0_ hN (by omega))
end Go.Vc
namespace Go.Vc
open Go
theorem pT_ (k0:Nat) (m1:Int) (t2:Bool) (z3:ByteArray) (y4:Option Addr) (ly4:Nat) (cy4:Nat) (z5:ByteArray) (y6:Option Addr) (ly6:Nat) (cy6:Nat) (y7:Option Addr) (ly7:Nat) (cy7:Nat) (S:SP) (K:KP) (w:World) (hF:Fs S w [⟨k0,#[.int .i64 m1,.bool t2,.string z3,.slice y4 ly4 cy4,.string z5,.slice y6 ly6 cy6,.slice y7 ly7 cy7],119,true⟩] w) (hS:S k0∧True) (h:(m1=0→∀w0,Fr S w w [k0] [⟨k0,#[Iv (-1),.bool true,.string z3,.slice y4 ly4 cy4,.string z5,.slice y6 ly6 cy6,.slice y7 ly7 cy7],119,true⟩] w0→K (.iface 39 (Iv 8)) w0)∧(¬(m1=0)→(m1>0→∀w1,Fr S w w [k0] [⟨k0,#[Iv (IntKind.wrap .i64 (m1 - 1)),.bool t2,.string z3,.slice y4 ly4 cy4,.string z5,.slice y6 ly6 cy6,.slice y7 ly7 cy7],119,true⟩] w1→K .nilIface w1)∧(¬(m1>0)→K .nilIface w))):aa_ PR 137 ⟨[.pointer (some ⟨k0,0,none⟩)]⟩ w K:=
 ab_ (okf:=⟨okL,[]⟩) ag_ (args:=[.c (.p 0 k0 true 0)]) (H:=[⟨k0,.l [.v (.int .i64 m1),.v (.bool t2),.v (.string z3),.v (.slice y4 ly4 cy4),.v (.string z5),.v (.slice y6 ly6 cy6),.v (.slice y7 ly7 cy7)],119,true⟩]) (.s .z (.s (.b (.s .z (.c (.s (.r ⟨(some [0]),false,[],[]⟩) .z) (.s .z (.c (.r ⟨(some [0]),false,[],[]⟩) .z))))) .z)) Go.Proofs.Tryz.func137 rfl ⟨rfl,trivial⟩ ⟨⟨trivial,⟨trivial,⟨trivial,⟨trivial,⟨trivial,⟨trivial,⟨trivial,trivial⟩⟩⟩⟩⟩⟩⟩,trivial⟩ hF hS (ad_ (by kernel_rfl) h)
theorem rt_ (k0:Nat) (m1:Int) (t2:Bool) (z3:ByteArray) (y4:Option Addr) (ly4:Nat) (cy4:Nat) (z5:ByteArray) (y6:Option Addr) (ly6:Nat) (cy6:Nat) (y7:Option Addr) (ly7:Nat) (cy7:Nat) (m8:Int) (z9:ByteArray) (S:SP) (K:KP) (w:World) (hF:Fs S w [⟨k0,#[.int .i64 m1,.bool t2,.string z3,.slice y4 ly4 cy4,.string z5,.slice y6 ly6 cy6,.slice y7 ly7 cy7],119,true⟩] w) (hS:S k0∧True) (h:∀l0,w.heap.size≤l0→(m8=(-1)→∀w0,Fr S w w [] [⟨k0,#[Iv m1,.bool t2,.string z3,.slice y4 ly4 cy4,.string z5,.slice y6 ly6 cy6,.slice y7 ly7 cy7],119,true⟩,⟨l0,#[Iv m8,.string z9],156,true⟩] w0→∃I0:World→Prop,I0 w0∧Dr (some (⟨k0,2,none⟩)) λa0=>∃s0,(∀w1,I0 w1→World.cell? w1 a0=some (.string s0))∧((ByteArray.size s0+(ByteArray.size z9)):Nat)≤9223372036854775807∧∀w2,Fr S w w0 [k0] [⟨k0,#[Iv m1,.bool t2,.string (s0++z9),.slice y4 ly4 cy4,.string z5,.slice y6 ly6 cy6,.slice y7 ly7 cy7],119,true⟩] w2→K (.tuple #[]) w2)∧(¬(m8=(-1))→∀w3,Fr S w w [] [⟨k0,#[Iv m1,.bool t2,.string z3,.slice y4 ly4 cy4,.string z5,.slice y6 ly6 cy6,.slice y7 ly7 cy7],119,true⟩,⟨l0,#[Iv m8,.string z9],156,true⟩] w3→∃I1:World→Prop,I1 w3∧Dr y4 λa1=>(0:Int)≤m8∧m8<(ly4:Int)∧Dr (some (Addr.add a1 (Int.toNat m8*1))) λa2=>StC w3 a2 (.string z9) λw4=>Fs S w [⟨k0,#[Iv m1,.bool t2,.string z3,.slice y4 ly4 cy4,.string z5,.slice y6 ly6 cy6,.slice y7 ly7 cy7],119,true⟩,⟨l0,#[Iv m8,.string z9],156,true⟩] w4∧K (.tuple #[]) w4)):aa_ PR 72 ⟨[.pointer (some ⟨k0,2,none⟩),.agg #[.int .i64 m8,.string z9]]⟩ w K:=
 ab_ (okf:=⟨okL,[]⟩) ag_ (args:=[.c (.p 0 k0 true 2),.a [.v (.int .i64 m8),.v (.string z9)]]) (H:=[⟨k0,.l [.v (.int .i64 m1),.v (.bool t2),.v (.string z3),.v (.slice y4 ly4 cy4),.v (.string z5),.v (.slice y6 ly6 cy6),.v (.slice y7 ly7 cy7)],119,true⟩]) (.s (.r ⟨(some [0]),true,[],[]⟩) (.s (.s .z (.c (.s (.r ⟨(some [0,3]),true,[0],[]⟩) .z) .z)) (.r ⟨(some [0,3]),true,[],[]⟩))) Go.Proofs.Tryz.func72 rfl ⟨rfl,⟨trivial,trivial,trivial⟩,trivial⟩ ⟨⟨trivial,⟨trivial,⟨trivial,⟨trivial,⟨trivial,⟨trivial,⟨trivial,trivial⟩⟩⟩⟩⟩⟩⟩,trivial⟩ hF hS (ad_ (by kernel_rfl) h)
end Go.Vc
namespace Go.Vc
open Go
theorem mX_:PR.underlying T.jX_=some (.slice T.b2_):=by kernel_rfl
theorem oI_:∃i,PR.info? T.b2_=some i∧i.size=2∧i.bytes=24∧i.zero=some (.agg #[.int .i64 0,.string ⟨#[]⟩]):=by
 have h:(match PR.info? T.b2_ with | some i=>i.size == 2 && i.bytes == 24 && (match i.zero with | some (.agg ⟨[.int .i64 0,.string ⟨⟨[]⟩⟩]⟩)=>true | _=>false) | none=>false)=true:=by kernel_rfl
 split at h
 ·rename_i i hi
  simp only [Bool.and_eq_true,beq_iff_eq] at h
  refine ⟨i,hi,h.1.1,h.1.2,?_⟩
  have h2:=h.2
  split at h2
  ·assumption
  ·cases h2
 ·cases h
end Go.Vc
namespace Go.Vc
open Go
def logL (recs:List (List UInt8)):List UInt8:=recs.flatMap (ge_ crcN)
theorem fT_ (recs:List (List UInt8)) (s:List UInt8):logL (recs++[s])=logL recs++ge_ crcN s:=by simp [logL]
end Go.Vc
namespace Go.Vc
open Go
theorem i9_ {w:World} {K:Value→World→Prop} (hK:∀w' v,Grow w w'→sp_ v→K (.tuple #[.string ⟨#[]⟩,.int .i64 0,v]) w'):aa_ PR F.gE_ ⟨[.string ⟨#[]⟩,.int .i64 0]⟩ w K:=by
 refine gE_ ⟨#[]⟩ 0 S0 K w λb hb=>⟨λh=>by omega,λ_=>⟨λh=>absurd h (by decide),λ_=>⟨λ_ w4 hF4=>?_,λh=>absurd (by decide) h⟩⟩⟩
 have h4:Fs S0 w4 [⟨b,#[.int .i64 0],T.int,false⟩] w4:=(Fr.init _ w4).entry (hF4.blk 0 rfl) (λx h=>by cases h) λh=>by cases h
 refine nX_ _ b 0 S0 _ w4 h4 ⟨rfl,λw5 hF5=>⟨_,_,_,rfl,hF4.after hF5.grow,hK w5 _ (hF4.grow.trans hF5.grow) ⟨_,_,rfl⟩⟩⟩
theorem kT_ {w:World} {K:Value→World→Prop} (hK:∀w',Grow w w'→K (.tuple #[.slice none 0 0,.int .i64 0]) w'):aa_ PR F.ir_ ⟨[.string ⟨#[]⟩]⟩ w K:=by
 refine ir_ ⟨#[]⟩ S0 K w ⟨λq l c n m w'=>q=none∧l=0∧c=0∧n=0,⟨0,rfl,rfl,rfl,rfl⟩,?_⟩
 rintro q l c n D m w0 ⟨rfl,rfl,rfl,rfl⟩ hF
 refine i9_ λw1 v g1 hv=>⟨_,_,_,rfl,hF.after g1,(λh=>by obtain ⟨t,x,rfl⟩:=hv;cases h),λt x h=>hK w1 (hF.gr.trans g1),.inr (by obtain ⟨t,x,h⟩:=hv;exact ⟨t,x,h⟩)⟩
end Go.Vc
