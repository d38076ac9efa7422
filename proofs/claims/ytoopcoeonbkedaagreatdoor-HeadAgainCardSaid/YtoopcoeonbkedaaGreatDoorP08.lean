/-
  A part of the proof of the statement HeadAgainCardSaid, in Lean: Sh5, Sha0, Mk2, MirP11, Tr1, Orx, Ed1, MirP4. By an AI agent.
-/
import Derived.Test.YtoopcoeonbkedaaGreatDoorP07
import Derived.Test.YtoopcoeonbkedaaGreatDoorP02
import Derived.Test.YtoopcoeonbkedaaGreatDoorP05
import Derived.Maps.RangeRun
import Derived.Test.YtoopcoeonbkedaaGreatDoorShelfB
import Derived.WalkKit
import Derived.LaidEql
import Derived.RowKitTokens
import Derived.StillTailTactics
set_option linter.unusedSimpArgs false
set_option linter.unusedVariables false
set_option maxRecDepth 100000
namespace Go.Vc
open Go
def u8f (x:Int):UInt8:=UInt8.ofNat (IntKind.wrap .u8 x).toNat
def wb (x:Int):List UInt8:=[u8f (Int.fdiv x 16777216),u8f (Int.fdiv x 65536),u8f (Int.fdiv x 256),u8f x]
theorem o3_ (x:Int):(wb x).map bv=[.int .u8 (IntKind.wrap .u8 (Int.fdiv x 16777216)),.int .u8 (IntKind.wrap .u8 (Int.fdiv x 65536)),.int .u8 (IntKind.wrap .u8 (Int.fdiv x 256)),.int .u8 (IntKind.wrap .u8 x)]:=by
 rw [iC_,iC_,iC_,iC_];rfl
def dgN (L:List Int):Nat→List UInt8
 | 0=>[]
 | i+1=>dgN L i++wb (L.getD i 0)
theorem is_ (L:List Int):∀i,(dgN L i).length=4*i
 | 0=>rfl
 | i+1=>by rw [dgN,List.length_append,is_ L i];simp [wb];omega
theorem r7_ (rest:List UInt8) (many:Int):(endL rest many).length=rest.length+1+padN (rest.length+1)+8:=by
 simp [endL,kI_];omega
theorem Chg.same {w w':World} {b:Nat} {o:Obj} (g:Chg (· = b) w w') (h:w.heap[b]? = some o) (h':w'.heap[b]? = some o):Grow w w':=
 ⟨g.os,g.tape,g.output,g.size,λk hk _=>by
  by_cases e:k=b
  ·subst e;rw [h,h']
  ·exact g.block k hk e⟩
theorem qY_ {k0 kb l cc:Nat} {c:Ch} {q:Option Addr} {rest:List UInt8} {many:Int} {w:World} (hb:w.heap[k0]? = some (.cells (stC0 c kb q l cc many) T.d0_ (0,0))) (hk:KAt w kb) (hs:Sl w q (rest.map bv)) (hl:l=rest.length) (hn:l≤100000) {K:Value→World→Prop}
  (hK:∀w',Grow w w'→K (.string (str (dgN (pcs c (endL rest many) ((endL rest many).length / 64)).ls 8))) w'):aa_ PR F.hU_ ⟨[.pointer (some ⟨k0,0,none⟩)]⟩ w K:=by
 have hk0:=aj_ hb
 have hel:=r7_ rest many
 have hpad:padN (rest.length+1)<64:=Nat.mod_lt _ (by decide)
 have h0:Fs (· = k0) w [⟨k0,stC0 c kb q l cc many,T.d0_,true⟩] w:=(Fr.init _ w).entry hb (λx h=>by cases h) λ_=>rfl
 refine j9_ k0 c.a c.b c.c c.d c.e c.f c.g c.h (some ⟨kb,0,none⟩) q l cc many (· = k0) K w h0 ⟨rfl,trivial⟩ ⟨λw0 hF0=>?_,λb24 hb24 w0 hF0=>?_⟩
 ·have g0:Grow w w0:=hF0.grow
  refine nU_ (many:=many) (hs.grow g0) hl (by omega) λw1 q1 c1 g1 hs1 hc1=>?_
  have hF1:=hF0.reset.after g1
  refine ⟨_,_,_,rfl,hF1,?_,λb13 hb13 w8 hF8=>?_⟩
  ·refine eA_ (c:=c) (hk.grow (g0.trans g1)) (hs1) rfl hc1 (by omega) λw9 q9 n9 c9 g9 hs9 hn9 hq9=>?_
   have hF9:=hF1.after g9
   generalize pcs c (endL rest many) ((endL rest many).length / 64)=C at hK ⊢
   refine ⟨_,_,_,_,_,_,_,_,_,_,_,rfl,hF9,λb4 hb4 w3 hF3=>?_⟩
   refine ⟨λq l cc n m w'=>∃i:Nat,n=i∧i≤8∧m=8 - i∧Own T.uint8 1 w' q cc ((dgN C.ls i).map bv)∧l=(dgN C.ls i).length∧l≤cc∧Off (λj=>j<w.heap.size) q,⟨_,0,rfl,by omega,rfl,.nil _ _ _,rfl,Nat.le_refl _,λa h=>by cases h⟩,?_⟩
   rintro q2 l2 c2 n D m w4 ⟨i,rfl,hi,rfl,ho,rfl,hlc,of4⟩ hF4
   refine ⟨λhlt=>?_,λhge=>?_⟩
   ·have hi':i<8:=by omega
    refine ⟨by omega,by omega,C.ls.getD i 0,?_,λb5 hb5 w5 hF5=>?_⟩
    ·rw [show Int.toNat (i:Int)*1=i by omega];exact cp_ (L:=C.ls) (by show i<8;omega)
    ·have hsl:Sl w5 (some ⟨b5,0,none⟩) ((wb (C.ls.getD i 0)).map bv):=by rw [o3_];exact hF5.sl 1 rfl
     have hdl:=is_ C.ls i
     refine fW_ (ys:=wb (C.ls.getD i 0)) (ho.grow hF5.grow) (by simp) hlc hsl rfl (by rw [hdl];omega) λq5 c5 w6 ho6 hc6 g6 hq6=>?_
     have hF6:=hF5.app2 g6 w.heap.size w4.heap.size of4 (λa ha=>ho.lt a ha) (λx hx=>by simp at hx;rcases hx with rfl | rfl;exact .inl hk0;exact .inr hb5) (Nat.le_refl _)
     exact ⟨_,_,_,rfl,hF6,8 - (i+1),by omega,i+1,by rw [w64 (by omega) (by omega)];rfl,by omega,rfl,ho6,by rw [dgN,List.length_append];rfl,hc6,of4.next hq6 (by have:=hF5.chg.size;omega)⟩
   ·have:i=8:=by omega
    subst this
    refine cO_ <| fq_ cz_ o4_ u_u8 ho.sl rfl ?_
    exact ⟨_,rfl,hF4,hK w4 (hF4.chg.same hb (hF4.blk 0 rfl))⟩
  ·have g8:Grow w1 w8:=hF8.grow
   refine eA_ (c:=c) (hk.grow ((g0.trans g1).trans g8)) (hs1.grow g8) rfl hc1 (by omega) λw9 q9 n9 c9 g9 hs9 hn9 hq9=>?_
   have hF9:=hF8.reset.after g9
   generalize pcs c (endL rest many) ((endL rest many).length / 64)=C at hK ⊢
   refine ⟨_,_,_,_,_,_,_,_,_,_,_,rfl,hF9,λw3 hF3=>?_⟩
   refine ⟨λq l cc n m w'=>∃i:Nat,n=i∧i≤8∧m=8 - i∧Own T.uint8 1 w' q cc ((dgN C.ls i).map bv)∧l=(dgN C.ls i).length∧l≤cc∧Off (λj=>j<w.heap.size) q,⟨_,0,rfl,by omega,rfl,.nil _ _ _,rfl,Nat.le_refl _,λa h=>by cases h⟩,?_⟩
   rintro q2 l2 c2 n D m w4 ⟨i,rfl,hi,rfl,ho,rfl,hlc,of4⟩ hF4
   refine ⟨λhlt=>?_,λhge=>?_⟩
   ·have hi':i<8:=by omega
    refine ⟨by omega,by omega,C.ls.getD i 0,?_,λb5 hb5 w5 hF5=>?_⟩
    ·rw [show Int.toNat (i:Int)*1=i by omega];exact cp_ (L:=C.ls) (by show i<8;omega)
    ·have hsl:Sl w5 (some ⟨b5,0,none⟩) ((wb (C.ls.getD i 0)).map bv):=by rw [o3_];exact hF5.sl 1 rfl
     have hdl:=is_ C.ls i
     refine fW_ (ys:=wb (C.ls.getD i 0)) (ho.grow hF5.grow) (by simp) hlc hsl rfl (by rw [hdl];omega) λq5 c5 w6 ho6 hc6 g6 hq6=>?_
     have hF6:=hF5.app2 g6 w.heap.size w4.heap.size of4 (λa ha=>ho.lt a ha) (λx hx=>by simp at hx;rcases hx with rfl | rfl;exact .inl hk0;exact .inr hb5) (Nat.le_refl _)
     exact ⟨_,_,_,rfl,hF6,8 - (i+1),by omega,i+1,by rw [w64 (by omega) (by omega)];rfl,by omega,rfl,ho6,by rw [dgN,List.length_append];rfl,hc6,of4.next hq6 (by have:=hF5.chg.size;omega)⟩
   ·have:i=8:=by omega
    subst this
    refine cO_ <| fq_ cz_ o4_ u_u8 ho.sl rfl ?_
    exact ⟨_,rfl,hF4,hK w4 (hF4.chg.same hb (hF4.blk 0 rfl))⟩
 ·have g0:Grow w w0:=hF0.grow
  refine nU_ (many:=many) (hs.grow g0) hl (by omega) λw1 q1 c1 g1 hs1 hc1=>?_
  have hF1:=hF0.reset.after g1
  refine ⟨_,_,_,rfl,hF1,?_⟩
  refine eA_ (c:=c) (hk.grow (g0.trans g1)) (hs1) rfl hc1 (by omega) λw9 q9 n9 c9 g9 hs9 hn9 hq9=>?_
  have hF9:=hF1.after g9
  generalize pcs c (endL rest many) ((endL rest many).length / 64)=C at hK ⊢
  refine ⟨_,_,_,_,_,_,_,_,_,_,_,rfl,hF9,λw3 hF3=>?_⟩
  refine ⟨λq l cc n m w'=>∃i:Nat,n=i∧i≤8∧m=8 - i∧Own T.uint8 1 w' q cc ((dgN C.ls i).map bv)∧l=(dgN C.ls i).length∧l≤cc∧Off (λj=>j<w.heap.size) q,⟨_,0,rfl,by omega,rfl,.nil _ _ _,rfl,Nat.le_refl _,λa h=>by cases h⟩,?_⟩
  rintro q2 l2 c2 n D m w4 ⟨i,rfl,hi,rfl,ho,rfl,hlc,of4⟩ hF4
  refine ⟨λhlt=>?_,λhge=>?_⟩
  ·have hi':i<8:=by omega
   refine ⟨by omega,by omega,C.ls.getD i 0,?_,λb5 hb5 w5 hF5=>?_⟩
   ·rw [show Int.toNat (i:Int)*1=i by omega];exact cp_ (L:=C.ls) (by show i<8;omega)
   ·have hsl:Sl w5 (some ⟨b5,0,none⟩) ((wb (C.ls.getD i 0)).map bv):=by rw [o3_];exact hF5.sl 1 rfl
    have hdl:=is_ C.ls i
    refine fW_ (ys:=wb (C.ls.getD i 0)) (ho.grow hF5.grow) (by simp) hlc hsl rfl (by rw [hdl];omega) λq5 c5 w6 ho6 hc6 g6 hq6=>?_
    have hF6:=hF5.app2 g6 w.heap.size w4.heap.size of4 (λa ha=>ho.lt a ha) (λx hx=>by simp at hx;rcases hx with rfl | rfl;exact .inl hk0;exact .inr hb5) (Nat.le_refl _)
    exact ⟨_,_,_,rfl,hF6,8 - (i+1),by omega,i+1,by rw [w64 (by omega) (by omega)];rfl,by omega,rfl,ho6,by rw [dgN,List.length_append];rfl,hc6,of4.next hq6 (by have:=hF5.chg.size;omega)⟩
  ·have:i=8:=by omega
   subst this
   refine cO_ <| fq_ cz_ o4_ u_u8 ho.sl rfl ?_
   exact ⟨_,rfl,hF4,hK w4 (hF4.chg.same hb (hF4.blk 0 rfl))⟩
end Go.Vc
namespace Go.Vc
open Go
def sH_:Ch:=⟨1779033703,3144134277,1013904242,2773480762,1359893119,2600822924,528734635,1541459225⟩
def shaL (f:List UInt8):List UInt8:=
 dgN (pcs (pcs sH_ f (f.length / 64)) (endL (f.drop (64*(f.length / 64))) f.length) ((endL (f.drop (64*(f.length / 64))) f.length).length / 64)).ls 8
theorem rK_ {w:World} {K:Value→World→Prop} (hK:∀w' b kb,Grow w w'→w.heap.size≤b→w'.heap[b]? = some (.cells (stC0 sH_ kb none 0 0 0) T.d0_ (0,0))→KAt w' kb→kb≠b→K (.pointer (some ⟨b,0,none⟩)) w'):aa_ PR F.sW_ ⟨[]⟩ w K:=by
 refine rt_ S0 K w (t7_ λw1 kb g1 hkb hk=>⟨_,rfl,(Fr.init _ w).after g1,λb hb w2 hF2=>?_⟩)
 have hkl:=hk.lt
 exact hK w2 b kb hF2.gr (by have:=g1.size;omega) (hF2.blk 0 rfl) (hk.grow hF2.grow) (by omega)
theorem mG_:∃H:List UInt8→List UInt8,(∀l,(H l).length=32)∧∀(xs:List (List UInt8)) (q:Option Addr) (n c:Nat) (w:World) (K:Value→World→Prop),Sl w q (xs.map sv8')→n=xs.length→n≤1000→xs.flatten.length≤1099511627776→
  (∀w',Grow w w'→K (.string (str (H xs.flatten))) w')→aa_ PR F.ps_ ⟨[.slice q n c]⟩ w K:=by
 refine ⟨shaL,λl=>is_ _ 8,λxs q n c w K hs hl hn hb hK=>?_⟩
 refine rs_ q n c S0 K w (rK_ λw1 b kb g1 hbw hbb hk hkb=>⟨_,rfl,(Fr.init _ w).after g1,?_⟩)
 have hoff:xs=[]∨Off (· = b) q:=by
  rcases hs with h | ⟨b',o,rfl,hr⟩
  ·exact .inl (by simpa using h)
  ·refine .inr λa ha e=>?_
   cases ha
   have:=hr.lt
   have e':b'=b:=e
   omega
 refine nf_ hbb hk hkb (hs.grow g1) hoff hl (by omega) hb λw2 q2 c2 g2 hb2 hs2=>?_
 have hF2:Fs S0 w [] w2:=((Fr.init _ w).after g1).step g2 (λx hx=>by cases hx) λk hk e=>by have e':k=b:=e;omega
 refine ⟨rfl,hF2,?_⟩
 refine qY_ hb2 (hk.keep g2 hkb) hs2 (by rw [List.length_drop]) (by omega) λw3 g3=>⟨_,rfl,hF2.after g3,hK w3 (hF2.after g3).chg⟩
end Go.Vc
namespace Go.Vc
open Go
noncomputable def Hs:List UInt8→List UInt8:=Classical.choose mG_
theorem oa_ (l:List UInt8):(Hs l).length=32:=(Classical.choose_spec mG_).1 l
theorem fp_ {xs:List (List UInt8)} {q:Option Addr} {n c:Nat} {w:World} {K:Value→World→Prop} (hs:Sl w q (xs.map sv8')) (hn:n=xs.length) (hl:n≤1000) (hb:xs.flatten.length≤1099511627776)
  (hK:∀w',Grow w w'→K (.string (str (Hs xs.flatten))) w'):aa_ PR F.ps_ ⟨[.slice q n c]⟩ w K:=(Classical.choose_spec mG_).2 xs q n c w K hs hn hl hb hK
noncomputable def bp_ (s:List UInt8):List UInt8:=Hs (0 :: s)
noncomputable def cq_ (a b:List UInt8):List UInt8:=Hs (1 :: (a++b))
theorem q6_ {s:List UInt8} (hs:s.length≤1000000) {w:World} {K:Value→World→Prop} (hK:∀w',Grow w w'→K (.string (str (bp_ s))) w'):aa_ PR F.fc_ ⟨[.string (str s)]⟩ w K:=by
 refine fc_ (str s) S0 K w λb hb w0 hF0=>?_
 have e:([[0],s]:List (List UInt8)).flatten=0 :: s:=by simp
 refine fp_ (xs:=[[0],s]) (hF0.sl 0 rfl) rfl (by omega) (by rw [e];simp;omega) λw1 g1=>⟨_,rfl,hF0.after g1,?_⟩
 rw [e];exact hK w1 (hF0.after g1).chg
theorem q1_ {a b:List UInt8} (ha:a.length=32) (hb:b.length=32) {w:World} {K:Value→World→Prop} (hK:∀w',Grow w w'→K (.string (str (cq_ a b))) w'):aa_ PR F.fb_ ⟨[.string (str a),.string (str b)]⟩ w K:=by
 refine fb_ (str a) (str b) S0 K w λx hx w0 hF0=>?_
 have e:([[1],a,b]:List (List UInt8)).flatten=1 :: (a++b):=by simp
 refine fp_ (xs:=[[1],a,b]) (hF0.sl 0 rfl) rfl (by omega) (by rw [e];simp;omega) λw1 g1=>⟨_,rfl,hF0.after g1,?_⟩
 rw [e];exact hK w1 (hF0.after g1).chg
theorem oF_ {x:Nat} (h:x≠0) (h2:x<2 ^ 64):Lib.bitLen x=Nat.log2 x+1:=by
 induction x using Nat.strongRecOn with
 | _ x ih=>
  rw [Lib.bitLen_half x h h2]
  by_cases h1:x / 2=0
  ·have:x=1:=by omega
   subst this
   decide
  ·rw [ih (x / 2) (by omega) h1 (by omega),Nat.log2_def x,if_pos (by omega)]
   omega
theorem jm_ {n:Nat} (h2:2≤n) (hn:n≤1048576) {w:World} {K:Value→World→Prop} (hK:K (.int .i64 (aw_ n)) w):aa_ PR F.d__ ⟨[.int .i64 (n:Int)]⟩ w K:=by
 refine d__ n S0 K w ?_
 have e1:IntKind.wrap .u64 (IntKind.wrap .i64 ((n:Int) - 1))=((n - 1:Nat):Int):=by
  rw [w64 (by omega) (by omega),IntKind.wrap_u64];omega
 rw [e1]
 have hlog:=Nat.log2_lt (n:=n - 1) (k:=20) (by omega)
 have hl20:Nat.log2 (n - 1)<20∨n - 1=1048576 - 1+0∨True:=.inr (.inr trivial)
 have hlt:Nat.log2 (n - 1)<21:=by
  rcases Nat.lt_or_ge (Nat.log2 (n - 1)) 21 with h | h
  ·exact h
  ·have:=Nat.log2_self_le (n:=n - 1) (by omega)
   have h3:2 ^ 21≤2 ^ Nat.log2 (n - 1):=Nat.pow_le_pow_right (by omega) h
   omega
 refine l0_ (by omega) (by omega) ⟨_,rfl,.init _ w,?_⟩
 rw [Int.toNat_natCast,oF_ (by omega) (by omega),w64 (by omega) (by omega)]
 refine ⟨by omega,?_⟩
 have e2:Int.toNat (((Nat.log2 (n - 1)+1:Nat):Int) - 1)=Nat.log2 (n - 1):=by omega
 have e3:((1:Int)*2 ^ min (Nat.log2 (n - 1)) 64)=((aw_ n:Nat):Int):=by
  rw [Nat.min_eq_left (by omega)];unfold aw_;simp
 rw [e2,e3]
 have:=hn_ h2
 rw [w64 (by omega) (by omega)]
 exact hK
def pU_ (leaves:List (List UInt8)) (R:Value→Value→Prop):Prop:=∀key v,R key v→∃a k:Nat,key=.agg #[.int .i64 a,.int .i64 k]∧1≤k∧a+k≤leaves.length∧v=.string (str (bO_ cq_ leaves k a k))
def dt_ (w:World) (b:Nat) (q:Option Addr) (c m:Nat) (leaves:List (List UInt8)) (R:Value→Value→Prop):Prop:=
 w.heap[b]? = some (.cells #[.slice q leaves.length c,.map (some m)] T.cH_ (0,0))∧Sl w q (leaves.map sv8')∧(∃n,MapP w T.aq_ m n R)∧pU_ leaves R
theorem dt_.grow {w w':World} {b:Nat} {q:Option Addr} {c m:Nat} {leaves:List (List UInt8)} {R:Value→Value→Prop} (h:dt_ w b q c m leaves R) (g:Grow w w'):dt_ w' b q c m leaves R:=by
 obtain ⟨h1,h2,⟨n,h3⟩,h4⟩:=h
 exact ⟨Grow.get g h1,h2.grow g,⟨n,h3.grow g⟩,h4⟩
theorem gl_ {w:World} {b m:Nat} {cs:Array Value} {T:TypeId} {fz:Nat × Nat} {k:TypeId} {n:Nat} {R:Value→Value→Prop} (hb:w.heap[b]? = some (.cells cs T fz)) (hm:MapP w k m n R):b≠m:=by
 rintro rfl
 obtain ⟨es,clock,h,_⟩:=hm
 rw [hb] at h;cases h
theorem slNe {w:World} {q:Option Addr} {xs:List Value} {k:TypeId} {m n:Nat} {R:Value→Value→Prop} (hs:Sl w q xs) (hm:MapP w k m n R):xs=[]∨Off (· = m) q:=by
 rcases hs with h | ⟨b,o,rfl,cs,T,fz,h1,h2⟩
 ·exact .inl h
 ·refine .inr λa ha e=>?_
  cases ha
  exact gl_ h1 hm e
inductive cP_ (R:Value→Value→Prop):Nat→Nat→Prop where
 | leaf (a:Nat) (v:Value) (h:R (.agg #[.int .i64 (a:Nat),.int .i64 (1:Nat)]) v):cP_ R a 1
 | node (a n:Nat) (v:Value) (hn:2≤n) (h:R (.agg #[.int .i64 (a:Nat),.int .i64 (n:Nat)]) v) (h1:cP_ R a (aw_ n)) (h2:cP_ R (a+aw_ n) (n - aw_ n)):cP_ R a n
theorem cP_.mono {R R':Value→Value→Prop} {a n:Nat} (h:cP_ R a n) (hR:∀x y,R x y→∃z,R' x z):cP_ R' a n:=by
 induction h with
 | leaf a v h=>obtain ⟨z,hz⟩:=hR _ _ h;exact .leaf a z hz
 | node a n v hn h _ _ i1 i2=>obtain ⟨z,hz⟩:=hR _ _ h;exact .node a n z hn hz i1 i2
theorem qq_ {leaves:List (List UInt8)} (hl:∀x∈leaves,x.length=32) (hn:leaves.length≤100000):∀(k a:Nat),1≤k→a+k≤leaves.length→∀ {w:World} {b:Nat} {q:Option Addr} {c m:Nat} {R:Value→Value→Prop},dt_ w b q c m leaves R→∀ {K:Value→World→Prop},
  (∀w' R',dt_ w' b q c m leaves R'→(∀x y,R x y→∃z,R' x z)→R' (.agg #[.int .i64 a,.int .i64 k]) (.string (str (bO_ cq_ leaves k a k)))→cP_ R' a k→Chg (· = m) w w'→K (.string (str (bO_ cq_ leaves k a k))) w')→
  aa_ PR F.fB_ ⟨[.pointer (some ⟨b,0,none⟩),.agg #[.int .i64 a,.int .i64 k]]⟩ w K:=by
 intro k
 induction k using Nat.strongRecOn with
 | _ k ih=>
  intro a hk1 hak w b q c m R hT K hK
  obtain ⟨h1,h2,⟨n,h3⟩,h4⟩:=hT
  have hbm:=gl_ h1 h3
  have hqm:=slNe h2 h3
  obtain ⟨kl,hkl⟩:=kA_ (a:=a) (k:=k) ⟨by omega,by omega⟩ ⟨by omega,by omega⟩
  have note:∀(w1:World) (R1:Value→Value→Prop) (d:List UInt8),d=bO_ cq_ leaves k a k→dt_ w1 b q c m leaves R1→(∀x y,R x y→∃z,R1 x z)→(k=1∨2≤k∧cP_ R1 a (aw_ k)∧cP_ R1 (a+aw_ k) (k - aw_ k))→Chg (· = m) w w1→
    ∀K':World→Prop,(∀w',Chg (· = m) w1 w'→K (.string (str d)) w'→K' w')→rn PR (Instr.mapUpdate T.bd_ (.map (some m)) (.agg #[.int .i64 a,.int .i64 k]) (.string (str d))) (λ_ w3=>K' w3) w1:=by
   rintro w1 R1 d rfl ⟨t1,t2,⟨n1,t3⟩,t4⟩ hR hA g K' hK'
   have hup:∀ {R2:Value→Value→Prop},(∀x y,R2 x y→∃z,updR R2 (.agg #[.int .i64 a,.int .i64 k]) (.string (str (bO_ cq_ leaves k a k))) x z):=λ{R2} x y hxy=>by
    by_cases e:x=.agg #[.int .i64 a,.int .i64 k]
    ·exact ⟨_,.inl ⟨e,rfl⟩⟩
    ·exact ⟨y,.inr ⟨e,hxy⟩⟩
   have hall:cP_ (updR R1 (.agg #[.int .i64 a,.int .i64 k]) (.string (str (bO_ cq_ leaves k a k)))) a k:=by
    rcases hA with h1 | ⟨h2,ha,hb⟩
    ·subst h1
     exact .leaf a _ (.inl ⟨rfl,rfl⟩)
    ·exact .node a k _ h2 (.inl ⟨rfl,rfl⟩) (ha.mono hup) (hb.mono hup)
   refine k1_ qa_ sL_ t3 hkl λw' hm' g' _=>hK' w' g' (hK w' _ ⟨g'.get t1 hbm,?_,⟨_,hm'⟩,?_⟩ ?_ (.inl ⟨rfl,rfl⟩) hall (g.trans g' λ_ _ e=>e))
   ·rcases hqm with h | h
    ·exact .inl h
    ·exact t2.keep g' h
   ·rintro key v (⟨rfl,rfl⟩ | ⟨_,hr⟩)
    ·exact ⟨a,k,rfl,hk1,hak,rfl⟩
    ·exact t4 key v hr
   ·intro x y hxy
    by_cases e:x=.agg #[.int .i64 a,.int .i64 k]
    ·exact ⟨_,.inl ⟨e,rfl⟩⟩
    ·obtain ⟨z,hz⟩:=hR x y hxy
     exact ⟨z,.inr ⟨e,hz⟩⟩
  have hS:∀ {w':World},Chg (· = m) w w'→Chg (λj=>j=b∨j=m) w w':=λg=>g.mono λ_ _ e=>.inr e
  refine g8_ b q leaves.length c (some m) a k (λj=>j=b∨j=m) K w ((Fr.init _ w).entry h1 (λx h=>by cases h) λ_=>.inl rfl) ⟨.inl rfl,trivial⟩ λb0 hb0=>⟨λh=>?_,λh w4 hF4=>?_⟩
  ·intro w0 hF0
   have hk:k=1:=by omega
   subst hk
   have g0:Grow w w0:=hF0.grow
   have ha:a<leaves.length:=by omega
   refine ⟨(· = w0),rfl,?_⟩
   refine (h2.grow g0).rd (v:=sv8' leaves[a]) (by simp) (by omega) (by simp [ha]) λx hx=>⟨_,λw1 e=>e ▸ hx,λw2 hF2=>⟨λ_=>True,trivial,?_⟩⟩
   have g2:Grow w0 w2:=hF2.grow
   have hT2:dt_ w2 b q c m leaves R:=dt_.grow ⟨h1,h2,⟨n,h3⟩,h4⟩ (g0.trans g2)
   have e1:leaves[a]=bO_ cq_ leaves 1 a 1:=by
    unfold bO_;rw [if_pos rfl];simp [List.getD,ha]
   refine note w2 R _ e1 hT2 (λx y h=>⟨y,h⟩) (.inl rfl) (g0.trans g2).chg _ λw' g' hk=>⟨hF2.step g' (λx hx=>?_) (λ_ _ e=>.inr e),hk⟩
   rcases List.mem_cons.1 hx with rfl | hx
   ·exact hbm
   ·simp at hx;subst hx;simp only [];have:=h3.lt;omega
  ·have hk2:2≤k:=by omega
   have hh:=hn_ hk2
   have hmlt:=h3.lt
   have g4:Grow w w4:=hF4.grow
   refine jm_ hk2 (by omega) ⟨_,rfl,hF4.reset,λw6 hF6=>⟨λ_=>True,trivial,?_⟩⟩
   have g6:Grow w4 w6:=hF6.grow
   have hT6:dt_ w6 b q c m leaves R:=dt_.grow ⟨h1,h2,⟨n,h3⟩,h4⟩ (g4.trans g6)
   have hfr:∀ {w1 w2:World},Fs (λj=>j=b∨j=m) w [⟨b,#[.slice q leaves.length c,.map (some m)],T.cH_,true⟩,⟨b0,#[.int .i64 a,.int .i64 k],T.aq_,true⟩] w1→Chg (· = m) w1 w2→Fs (λj=>j=b∨j=m) w [⟨b,#[.slice q leaves.length c,.map (some m)],T.cH_,true⟩,⟨b0,#[.int .i64 a,.int .i64 k],T.aq_,true⟩] w2:=λhF g=>hF.step g (λx hx=>by
    rcases List.mem_cons.1 hx with rfl | hx
    ·exact hbm
    ·simp at hx;subst hx;simp only [];omega) (λ_ _ e=>.inr e)
   refine ih (aw_ k) (by omega) a hh.1 (by omega) hT6 λw7 R7 hT7 hR7 hin7 ha7 g7=>⟨_,rfl,_,_,_,_,hfr hF6.reset g7,trivial,?_⟩
   have hF7:=hfr hF6.reset g7
   have ea:IntKind.wrap .i64 ((a:Int)+(aw_ k:Nat))=((a+aw_ k:Nat):Int):=by rw [w64 (by omega) (by omega)];omega
   have ek:IntKind.wrap .i64 ((k:Int) - (aw_ k:Nat))=((k - aw_ k:Nat):Int):=by rw [w64 (by omega) (by omega)];omega
   rw [ea,ek]
   refine ih (k - aw_ k) (by omega) (a+aw_ k) (by omega) (by omega) hT7 λw8 R8 hT8 hR8 hin8 ha8 g8=>⟨_,rfl,_,_,_,_,hfr hF7 g8,trivial,?_⟩
   have hF8:=hfr hF7 g8
   refine q1_ (hA_ oa_ leaves hl _ _ _ hh.1 (Nat.le_refl _) (by omega)) (hA_ oa_ leaves hl _ _ _ (by omega) (Nat.le_refl _) (by omega)) λw9 g9=>⟨_,rfl,hF8.after g9,trivial,λw10 hF10=>⟨λ_=>True,trivial,?_⟩⟩
   have g10:Grow w9 w10:=hF10.grow
   have e1:cq_ (bO_ cq_ leaves (aw_ k) a (aw_ k)) (bO_ cq_ leaves (k - aw_ k) (a+aw_ k) (k - aw_ k))=bO_ cq_ leaves k a k:=by
    obtain ⟨f,rfl⟩:∃f,k=f+1:=⟨k - 1,by omega⟩
    conv=>rhs;unfold bO_
    rw [if_neg (by omega),eq_ cq_ leaves f (aw_ (f+1)) a _ hh.1 (by omega) (Nat.le_refl _),eq_ cq_ leaves f (f+1 - aw_ (f+1)) _ _ (by omega) (by omega) (Nat.le_refl _)]
   refine note w10 R8 _ e1 ((hT8.grow g9).grow g10) (λx y h=>by obtain ⟨z,hz⟩:=hR7 x y h;exact hR8 x z hz) (.inr ⟨hk2,ha7.mono hR8,ha8⟩) ?_ _ λw' g' hk=>⟨hfr hF10.reset g',hk⟩
   exact (((((g4.trans g6).then g7).trans g8 λ_ _ e=>e).grow g9).grow g10)
end Go.Vc
namespace Go.Vc
open Go
theorem ea_ (k0:Nat) (m1:Int) (m2:Int) (m3:Int) (y4:Option Addr) (ly4:Nat) (cy4:Nat) (m5:Int) (z6:ByteArray) (y7:Option Addr) (ly7:Nat) (cy7:Nat) (S:SP) (K:KP) (w:World) (hF:Fs S w [⟨k0,#[.int .i64 m1,.int .i64 m2,.int .i64 m3,.slice y4 ly4 cy4,.int .i64 m5,.string z6,.slice y7 ly7 cy7],121,false⟩] w) (h:aa_ PR 145 #[.slice y7 ly7 cy7] w λv0 w0=>∃q0,v0=.pointer q0∧Fs S w [⟨k0,#[Iv m1,Iv m2,Iv m3,.slice y4 ly4 cy4,Iv m5,.string z6,.slice y7 ly7 cy7],121,false⟩] w0∧K (.pointer q0) w0):aa_ PR 110 ⟨[.pointer (some ⟨k0,0,none⟩)]⟩ w K:=
 ab_ (okf:=⟨okL,[]⟩) ag_ (args:=[.c (.p 0 k0 true 0)]) (H:=[⟨k0,.l [.v (.int .i64 m1),.v (.int .i64 m2),.v (.int .i64 m3),.v (.slice y4 ly4 cy4),.v (.int .i64 m5),.v (.string z6),.v (.slice y7 ly7 cy7)],121,false⟩]) (.s .z (.s .z (.s (.r ⟨(some [0]),false,[],[]⟩) .z))) Go.Proofs.Tryz.func110 rfl ⟨rfl,trivial⟩ ⟨⟨trivial,⟨trivial,⟨trivial,⟨trivial,⟨trivial,⟨trivial,⟨trivial,trivial⟩⟩⟩⟩⟩⟩⟩,trivial⟩ hF trivial (ae_ (by kernel_rfl) h)
theorem iP_ (m0:Int) (p1:Option Addr) (p2:Option Addr) (k3:Nat) (p4:Option Addr) (S:SP) (K:KP) (w:World) (hF:Fs S w [⟨k3,#[.pointer p4],62,false⟩] w) (h:∀l0,w.heap.size≤l0→Dr p4 λa0=>Dr (some a0) λa1=>∀w0,Fr S w w [] [⟨k3,#[.pointer p4],62,false⟩,⟨l0,#[.pointer p1,.pointer p2],116,true⟩] w0→Dr (some (Addr.add a1 2)) λa2=>∃n0,World.cell? w0 a2=some (Iv n0)∧(m0≤IntKind.wrap .i64 (n0 - 3)→Dr p4 λa3=>Dr (some a3) λa4=>Dr (some (Addr.add a4 3)) λa5=>∃n1,World.cell? w0 a5=some (Iv n1)∧(m0=n1→K (.bool false) w0)∧(¬(m0=n1)→K (.bool true) w0))∧(¬(m0≤IntKind.wrap .i64 (n0 - 3))→K (.bool false) w0)):aa_ PR 153 ⟨[.int .i64 m0,.agg #[.pointer p1,.pointer p2],.pointer (some ⟨k3,0,none⟩)]⟩ w K:=
 ab_ (okf:=⟨okL,[]⟩) ag_ (args:=[.c (.v (.int .i64 m0)),.a [.v (.pointer p1),.v (.pointer p2)],.c (.p 0 k3 true 0)]) (H:=[⟨k3,.l [.v (.pointer p4)],62,false⟩]) (.s (.r ⟨(some [2]),false,[],[]⟩) .z) Go.Proofs.Tryz.func153 rfl ⟨trivial,⟨trivial,trivial,trivial⟩,rfl,trivial⟩ ⟨⟨trivial,trivial⟩,trivial⟩ hF trivial (ae_ (by kernel_rfl) h)
theorem aC_ (g0:Option Nat) (k1:Nat) (p2:Option Addr) (S:SP) (K:KP) (w:World) (hF:Fs S w [⟨k1,#[.pointer p2],62,false⟩] w) (h:rn PR (Instr.range 106 (.map g0)) (λv0 w0=>Fs S w [⟨k1,#[.pointer p2],62,false⟩] w0∧let B0:Blk:=⟨k1,#[.pointer p2],62,false⟩;∃I0:Nat→World→Prop,(∃l0,I0 l0 w0)∧∀D0:Nat→Value,∀l1 w1,I0 l1 w1→Fs S w [B0] w1→rn PR (Instr.next v0 false 0) (λv1 w2=>(v1=.tuple #[.bool false]∧Fs S w [B0] w2∧K (.tuple #[]) w2)∨∃v2 v3,v1=.tuple #[.bool true,v2,v3]∧Fs S w [B0] w2∧rn PR (Instr.entry v0) (λv4 w3=>∃v5 v6,v4=.tuple #[v5,v6]∧Fs S w [B0] w3∧∃n0,v5=Iv n0∧∃q0 q1,v6=.agg #[.pointer q0,.pointer q1]∧∀l2,w3.heap.size≤l2→∀w4,Fr S w w3 [l2] [B0,⟨l2,#[.pointer q0,.pointer q1],116,true⟩] w4→aa_ PR 153 #[Iv n0,.agg #[.pointer q0,.pointer q1],.pointer (some (⟨k1,0,none⟩))] w4 λv7 w5=>∃b0,v7=.bool b0∧(b0=true→Fs S w [B0,⟨l2,#[.pointer q0,.pointer q1],116,true⟩] w5∧rn PR (Builtin.delete_ #[106,3] 0 #[.map g0,Iv n0]) (λv8 w6=>v8=.tuple #[]∧Fs S w [B0] w6∧∃l3,l3<l1∧I0 l3 w6) w5)∧(b0=false→Fs S w [B0,⟨l2,#[.pointer q0,.pointer q1],116,true⟩] w5∧∃l4,l4<l1∧I0 l4 w5)) w2) w1) w):aa_ PR 152 ⟨[.map g0,.func (.func 153) #[] #[.pointer (some ⟨k1,0,none⟩)]]⟩ w K:=
 ab_ (okf:=⟨okL,[12,11]⟩) ag_ (args:=[.c (.v (.map g0)),.c (.v (.func (.func 153) #[] #[.pointer (some ⟨k1,0,none⟩)]))]) (H:=[⟨k1,.l [.v (.pointer p2)],62,false⟩]) (.s (.r ⟨(some []),false,[],[]⟩) (.b (.l (some []) (some []) [] [] (.s (.r ⟨(some []),false,[],[]⟩) (.s .z (.b (.s (.r ⟨(some []),false,[],[]⟩) (.s (.r ⟨(some [5]),false,[],[]⟩) (.c (.r ⟨(some []),false,[],[]⟩) .z))))))))) Go.Proofs.Tryz.func152 rfl ⟨trivial,trivial,trivial⟩ ⟨⟨trivial,trivial⟩,trivial⟩ hF trivial (ae_ (by kernel_rfl) h)
end Go.Vc
namespace Go.Vc
open Go Go.MapKept
open Go.ChangeMaps (setBlock)
theorem n2_ (w:World) (r:Nat) (o:Obj):Chg (· = r) w (setBlock w r o):=pu_ w r o
theorem lZ_ {w:World} {r:Nat} {o o':Obj} (h:w.heap[r]? = some o):(setBlock w r o').heap[r]? = some o':=by
 have:=aj_ h
 show (w.heap.setIfInBounds r _)[r]? = _
 simp [this]
theorem oB_ {t k e ty:TypeId} (Ky:Maps.Keyed PR k) (ht:PR.underlying t=some (.map k e)) {w:World} {r:Nat} {es:Array MapEntry} {clock:Nat} (hb:w.heap[r]? = some (.map es clock)) (hst:Stamped es clock) (hks:∀x∈es.toList,∃l,keyOf PR k x.key=some l) {key:Value} {kl:Lit} (hkey:keyOf PR k key=some kl) :
  ∃es',(Builtin.delete_ #[t,k] ty #[.map (some r),key]).run PR w=.ok (.tuple #[]) (setBlock w r (.map es' clock))∧Stamped es' clock∧es'.size≤es.size∧es'.toList.Sublist es.toList∧∀x,x∈es'.toList↔(x∈es.toList∧x.key≠key):=by
 rcases Ky.find w hkey es.toList hks with ⟨h1,h2⟩ | ⟨j,e0,h1,h2,h3⟩
 ·refine ⟨es,?_,hst,Nat.le_refl _,List.Sublist.refl _,λx=>⟨λhx=>⟨hx,h2 x hx⟩,λhx=>hx.1⟩⟩
  simp [Builtin.delete_,run_underlying ht,MapKept.run_getObj_map hb,Ky.check w _ hkey,h1,MapKept.run_setObj_map _ hb,Result.andThen,setBlock]
 ·have hjl:j<es.toList.length:=(List.getElem?_eq_some_iff.1 h2).1
  have hjs:j<es.size:=by simpa using hjl
  have hsub:(es.eraseIdxIfInBounds j).toList=es.toList.eraseIdx j:=by
   unfold Array.eraseIdxIfInBounds
   rw [dif_pos hjs]
   simp
  refine ⟨es.eraseIdxIfInBounds j,?_,stamped_erase hst j,MapFrom.size_erase es j,by rw [hsub];exact List.eraseIdx_sublist _ _,λx=>?_⟩
  ·simp [Builtin.delete_,run_underlying ht,MapKept.run_getObj_map hb,Ky.check w _ hkey,h1,MapKept.run_setObj_map _ hb,Result.andThen,setBlock]
  ·rw [hsub]
   obtain ⟨_,_,hn⟩:=hst
   constructor
   ·intro hx
    obtain ⟨i,hne,hi⟩:=List.mem_eraseIdx_iff_getElem?.1 hx
    refine ⟨List.mem_of_getElem? hi,λhk=>hne ?_⟩
    exact h3_ hn (a:=key) (by rw [List.getElem?_map,hi];simp [hk]) (by rw [List.getElem?_map,h2];simp [h3])
   ·rintro ⟨hx,hk⟩
    obtain ⟨i,hi⟩:=List.getElem?_of_mem hx
    refine List.mem_eraseIdx_iff_getElem?.2 ⟨i,?_,hi⟩
    rintro rfl
    rw [h2] at hi;cases hi
    exact hk h3
structure q9_ (w:World) (r ri:Nat) (es0:Array MapEntry) (clock n:Nat) (del:Value→Prop) (l:Nat):Prop where
 ex:∃es since seen c0,w.heap[r]? = some (.map es clock)∧Stamped es clock∧es.size≤n∧w.heap[ri]? = some (.mapIter (some r) since seen c0)∧(∀x∈es.toList,x.born<since)∧since≤c0∧l=(leftOf es seen).size∧since≤clock∧
  (∀x∈es.toList,x∈es0.toList)∧(∀x∈es0.toList,x∈es.toList∨del x.key)∧∀x∈es.toList,seen.contains x.born=true→¬del x.key
theorem q9_.keep {S:Nat→Prop} {w w':World} {r ri:Nat} {es0:Array MapEntry} {clock n:Nat} {del:Value→Prop} {l:Nat} (h:q9_ w r ri es0 clock n del l) (g:Chg S w w') (h1:¬S r) (h2:¬S ri):q9_ w' r ri es0 clock n del l:=by
 obtain ⟨es,since,seen,c0,hb,hst,hn,hr,rest⟩:=h.ex
 exact ⟨es,since,seen,c0,g.get hb h1,hst,hn,g.get hr h2,rest⟩
theorem r6_ {w:World} {v:Value} {a:Value} {K:Value→World→Prop} (h:(Instr.entry v).run PR w=.ok a w) (hK:K a w):rn PR (Instr.entry v) K w:=⟨a,w,h,hK⟩
theorem fP_ {es es':Array MapEntry} {seen:Array Nat} {e:MapEntry} (he:e∈(leftOf es seen).toList) (hs:es'.toList.Sublist es.toList):(leftOf es' (seen.push e.born)).size<(leftOf es seen).size:=by
 refine Nat.lt_of_le_of_lt ?_ (left_shrinks es seen e he)
 unfold leftOf
 have:((es'.filter λx=>!(seen.push e.born).contains x.born).toList.length)≤((es.filter λx=>!(seen.push e.born).contains x.born).toList.length):=by
  rw [Array.toList_filter,Array.toList_filter]
  exact (hs.filter _).length_le
 rw [Array.length_toList,Array.length_toList] at this
 exact this
theorem do_:PR.underlying T.b3_=some (.map T.int T.d3_):=rfl
def hF_ (R:Value→Value→Prop):Prop:=∀k v,R k v→∃(i:Nat) (b c:Nat),i≤1099511627776∧k=.int .i64 (i:Int)∧v=.agg #[.pointer (some ⟨b,0,none⟩),.pointer (some ⟨c,0,none⟩)]
theorem h__ {i:Int} (h1 : -9223372036854775808≤i) (h2:i≤9223372036854775807):keyOf PR T.int (.int .i64 i)=some (.int .i64 i):=Maps.keyOf_int_mk (q:=.i64) rfl (by simp [Lit.wf,IntKind.min,IntKind.max,IntKind.bits,IntKind.signed];omega)
theorem lG_:Maps.Keyed PR T.int:=Maps.int_keyed (q:=.i64) rfl
def pubC (bj:Nat) (each last com:Int) (m:Nat):Array Value:=#[.pointer (some ⟨bj,0,none⟩),.int .i64 each,.int .i64 last,.int .i64 com,.map (some m)]
def delP (last com:Int):Value→Prop:=λk=>∃i:Int,k=.int .i64 i∧i≤last - 3∧i≠com
theorem od_ {w:World} {p box bj m:Nat} {each last com i:Int} {b c:Option Addr} (h1:w.heap[box]? = some (.cells #[.pointer (some ⟨p,0,none⟩)] T.fz_ (0,0))) (h2:w.heap[p]? = some (.cells (pubC bj each last com m) T.aR_ (0,0))) (hl:0≤last∧last≤1099511627776) {K:Value→World→Prop}
  (hK:∀w' t,Grow w w'→(t=true↔delP last com (.int .i64 i))→K (.bool t) w'):aa_ PR F.gT_ ⟨[.int .i64 i,.agg #[.pointer b,.pointer c],.pointer (some ⟨box,0,none⟩)]⟩ w K:=by
 have hc:∀ {w':World},Grow w w'→∀k v,(pubC bj each last com m)[k]? = some v→w'.cell? ⟨p,k,none⟩=some v:=λg k v hv=>by
  rw [ap_ (Grow.get g h2)];exact hv
 refine iP_ i b c box (some ⟨p,0,none⟩) S0 K w ((Fr.init _ w).entry h1 (λx h=>by cases h) (λh=>by cases h)) λl0 hl0=>ad_.2 (ad_.2 λw0 hF0=>ad_.2 ?_)
 have g0:Grow w w0:=hF0.grow
 refine ⟨last,by rw [an_];exact hc g0 2 _ rfl,?_⟩
 rw [w64 (by omega) (by omega)]
 refine ⟨λh=>ad_.2 (ad_.2 (ad_.2 ⟨com,by rw [an_];exact hc g0 3 _ rfl,λhe=>hK _ _ g0 ⟨(λh=>by cases h),λ⟨j,hj,h1,h2⟩=>?_⟩,λhe=>hK _ _ g0 ⟨(λ_=>⟨i,rfl,h,he⟩),λ_=>rfl⟩⟩)),λh=>hK _ _ g0 ⟨(λh=>by cases h),λ⟨j,hj,h1,h2⟩=>?_⟩⟩
 ·cases hj;exact absurd he h2
 ·cases hj;exact absurd h1 h
theorem k3_ {w:World} {p bj m n:Nat} {each last com:Int} {R:Value→Value→Prop} (hb:w.heap[p]? = some (.cells (pubC bj each last com m) T.aR_ (0,0))) (hm:MapP w T.int m n R) (hR:hF_ R) (hl:0≤last∧last≤1099511627776) {K:Value→World→Prop}
  (hK:∀w',Chg (· = m) w w'→MapP w' T.int m n (λk v=>R k v∧¬delP last com k)→K (.tuple #[]) w'):aa_ PR F.iT_ ⟨[.pointer (some ⟨p,0,none⟩)]⟩ w K:=by
 have hpm:=gl_ hb hm
 have hml:=hm.lt
 have hpl:=aj_ hb
 refine ln_ p (some ⟨bj,0,none⟩) each last com (some m) (λj=>j=p∨j=m) K w ((Fr.init _ w).entry hb (λx h=>by cases h) λ_=>.inl rfl) ⟨.inl rfl,trivial⟩ λbx hbx w0 hF0=>?_
 have g0:Grow w w0:=hF0.grow
 have hbx0:=hF0.blk 1 rfl
 have hp0:=hF0.blk 0 rfl
 refine aC_ (some m) bx (some ⟨p,0,none⟩) (· = m) _ w0 ((Fr.init _ w0).entry (wr:=false) hbx0 (λx h=>by cases h) (λh=>by cases h)) ?_
 obtain ⟨es,clock,he,hst,hsz,hks,hRe⟩:=hm.grow g0
 refine fw_ (run_range_map w0 T.b3_ T.int T.d3_ m es clock do_ he) ?_
 have ga:Grow w0 (w0.alloc (.mapIter (some m) clock #[] clock)):=Chg.alloc _ _
 generalize hri:w0.heap.size=ri
 have hri':(w0.alloc (.mapIter (some m) clock #[] clock)).heap[ri]? = some (.mapIter (some m) clock #[] clock):=by
  subst hri;show (w0.heap.push _)[_]? = _;simp
 generalize w0.alloc (.mapIter (some m) clock #[] clock)=wa at ga hri'
 have hF0':Fs (· = m) w0 [⟨bx,#[.pointer (some ⟨p,0,none⟩)],T.fz_,false⟩] w0:=(Fr.init _ w0).entry (wr:=false) hbx0 (λx h=>by cases h) (λh=>by cases h)
 have hbxl:=aj_ hbx0
 have hgo:q9_ wa m ri es clock n (delP last com) (leftOf es #[]).size:=⟨es,clock,#[],clock,Grow.get ga he,hst,hsz,hri',hst.1,Nat.le_refl _,rfl,Nat.le_refl _,λx h=>h,λx h=>.inl h,λx h h'=>by simp at h'⟩
 refine ⟨hF0'.after ga,λl w'=>q9_ w' m ri es clock n (delP last com) l∧Chg (· = m) w0 w'∧ri<w'.heap.size,⟨_,hgo,ga.chg,aj_ hri'⟩,?_⟩
 rintro D l w1 ⟨⟨es1,since,seen,c0,hb1,hst1,hsz1,hr1,hold,hsc,rfl,hscl,hsub,hdel,hseen⟩,g1,hri1⟩ hF1
 have hmri:ri≠m:=λe=>by rw [e,hb1] at hr1;cases hr1
 have hg1:∀ {k o},w0.heap[k]? = some o→k≠m→w1.heap[k]? = some o:=λh hn=>g1.get h hn
 rcases run_next_at (P:=PR) w1 0 ri m since c0 seen es1 clock hr1 hb1 hold hsc with ⟨h0,hrun⟩ | ⟨e,hee,w2,hal,hrun⟩
 ·refine fw_ hrun (.inl ⟨rfl,hF1,?_⟩)
  have hsee:∀x∈es1.toList,¬delP last com x.key:=λx hx=>hseen x hx (all_seen es1 seen h0 x hx)
  have hfin:MapP w1 T.int m n (λk v=>R k v∧¬delP last com k):=by
   refine ⟨es1,clock,hb1,hst1,hsz1,λx hx=>hks x (hsub x hx),λk v=>⟨λ⟨hr,hd⟩=>?_,λ⟨x,hx,hk,hv⟩=>⟨(hRe k v).2 ⟨x,hsub x hx,hk,hv⟩,hk ▸ hsee x hx⟩⟩⟩
   obtain ⟨x,hx,hk,hv⟩:=(hRe k v).1 hr
   rcases hdel x hx with h | h
   ·exact ⟨x,h,hk,hv⟩
   ·exact absurd (hk ▸ h) hd
  have hbx1:=hg1 hbx0 (by simp only [];omega)
  have hF:=hF0.reset.step g1 (λx hx=>by
    rcases List.mem_cons.1 hx with rfl | hx
    ·exact hpm
    ·simp at hx;subst hx;simp only [];omega) (λk _ e=>.inr e)
  exact ⟨rfl,hF,hK w1 (g0.then g1) hfin⟩
 ·obtain ⟨hem,hes⟩:=mem_left hee
  obtain ⟨i,b,c,hi,hkk,hvv⟩:=hR e.key e.val ((hRe _ _).2 ⟨e,hsub e hem,rfl,rfl⟩)
  have hr2:w2.heap[ri]? = some (.mapIter (some m) since seen c0):=by rcases hal with rfl | rfl <;> exact hr1
  have hb2:w2.heap[m]? = some (.map es1 clock):=by rcases hal with rfl | rfl <;> exact hb1
  have g2:Grow w1 w2:=by rcases hal with rfl | rfl;exact .refl _ _;exact .drew _
  have g3:Chg (· = ri) w2 (setBlock w2 ri (.mapIter (some m) since (seen.push e.born) clock)):=n2_ _ _ _
  have hr3:=lZ_ (o':=.mapIter (some m) since (seen.push e.born) clock) hr2
  have hb3:=g3.get hb2 hmri.symm
  refine fw_ hrun (.inr ⟨e.key,e.val,rfl,?_⟩)
  generalize setBlock w2 ri (.mapIter (some m) since (seen.push e.born) clock)=w3 at g3 hr3 hb3
  have hbxri:bx≠ri:=by
   rintro rfl
   have:=hF1.blk 0 rfl
   simp only [] at this
   rw [hr1] at this;cases this
  have hF3:Fs (· = m) w0 [⟨bx,#[.pointer (some ⟨p,0,none⟩)],T.fz_,false⟩] w3:=(hF1.after g2).step g3 (λx hx=>by simp at hx;subst hx;exact hbxri) λk hk e=>by have e':k=ri:=e;omega
  refine ⟨hF3,r6_ (run_entry_at _ ri m since seen es1 clock e hr3 hb3 hem hst1.2.1) ⟨e.key,e.val,rfl,hF3,i,hkk,_,_,hvv,λl2 hl2 w4 hF4=>?_⟩⟩
  have g4:Grow w3 w4:=(hF4.unM hl2).grow
  have g04:Chg (· = m) w0 w4:=((g1.grow g2).trans g3 λk hk e=>by have e':k=ri:=e;omega).grow g4
  refine od_ (g04.get hbx0 (by simp only [];omega)) (g04.get hp0 hpm) hl λw5 t g5 ht=>⟨t,rfl,λhtt=>?_,λhtf=>?_⟩
  ·have hd:=ht.1 htt
   have hF5:=(hF4.unM hl2).after g5
   have hb5:w5.heap[m]? = some (.map es1 clock):=Grow.get (g4.trans g5) hb3
   obtain ⟨es',hrun',hst',hsz',hsl,hmem⟩:=oB_ (ty:=0) lG_ do_ hb5 hst1 (λx hx=>hks x (hsub x hx)) (h__ (i:=(i:Int)) (by omega) (by omega))
   refine ⟨hF5,fw_ hrun' ?_⟩
   have g6:=n2_ w5 m (.map es' clock)
   have hb6:=lZ_ (o':=.map es' clock) hb5
   have hr6:=g6.get (Grow.get (g4.trans g5) hr3) hmri
   generalize setBlock w5 m (.map es' clock)=w6 at g6 hb6 hr6
   have hF6:=(hF5.sub (L':=[⟨bx,#[.pointer (some ⟨p,0,none⟩)],T.fz_,false⟩]) (by simp)).step g6 (λx hx=>by simp at hx;subst hx;simp only [];omega) λk _ e=>e
   refine ⟨rfl,hF6,(leftOf es' (seen.push e.born)).size,fP_ hee hsl,⟨es',since,seen.push e.born,clock,hb6,hst',Nat.le_trans hsz' hsz1,hr6,λx hx=>hold x (hsl.subset hx),hscl,rfl,hscl,λx hx=>hsub x (hsl.subset hx),λx hx=>?_,λx hx hs=>?_⟩,(g04.grow g5).trans g6 λk _ e=>e,aj_ hr6⟩
   ·rcases hdel x hx with h | h
    ·by_cases hk:x.key=.int .i64 (i:Int)
     ·exact .inr (hk ▸ hd)
     ·exact .inl ((hmem x).2 ⟨h,hk⟩)
    ·exact .inr h
   ·have hx1:=((hmem x).1 hx)
    by_cases hxe:x.born=e.born
    ·have:x=e:=born_inj hst1.2.1 hx1.1 hem hxe
     subst this
     exact absurd hkk hx1.2
    ·exact hseen x hx1.1 (by simpa [hxe] using hs)
  ·have hnd:¬delP last com (.int .i64 (i:Int)):=λh=>by have:=ht.2 h;rw [htf] at this;cases this
   have hF5:=(hF4.unM hl2).after g5
   refine ⟨hF5,(leftOf es1 (seen.push e.born)).size,fP_ hee (List.Sublist.refl _),⟨es1,since,seen.push e.born,clock,Grow.get (g4.trans g5) hb3,hst1,hsz1,Grow.get (g4.trans g5) hr3,hold,hscl,rfl,hscl,hsub,hdel,λx hx hs=>?_⟩,g04.grow g5,aj_ (Grow.get (g4.trans g5) hr3)⟩
   by_cases hxe:x.born=e.born
   ·have:x=e:=born_inj hst1.2.1 hx hem hxe
    subst this
    rw [hkk];exact hnd
   ·exact hseen x hx (by simpa [hxe] using hs)
end Go.Vc
namespace Go.Vc
open Go Go.RowKit Go.Proofs
def ordE (x y:Int × Int):Int:=if Lib.compareInt x.1 y.1=0 then Lib.compareInt x.2 y.2 else Lib.compareInt x.1 y.1
set_option maxHeartbeats 4000000 in
theorem Or2X (a b:Int) (q:Nat) (w:World) (h0:w.cell? ⟨q,0,none⟩=some (.int .i64 a)) (h1:w.cell? ⟨q,1,none⟩=some (.int .i64 b)) :
  Calls Tryz.prog 198 #[.slice (some ⟨q,0,none⟩) 2 2] w λe w'=>e=.returned (.int .i64 (if a=0 then b else a))∧w'=w:=by
 rcases Decidable.em (a=0) with ha | ha
 ·subst ha
  rcases Decidable.em (b=0) with hb | hb
  ·subst hb
   go_enter Tryz.func198,Tryz.ntmps198
   go_wp2
   refine wp_loop_rounds 3 ?_
   rw [rounds_succ]
   go_wp2
   rw [rounds_succ]
   go_wp2
   rw [rounds_succ]
   go_wp2
   go_ret
   exact ⟨rfl,rfl⟩
  ·go_enter Tryz.func198,Tryz.ntmps198
   go_wp2
   refine wp_loop_rounds 2 ?_
   rw [rounds_succ]
   go_wp2
   rw [rounds_succ]
   go_wp2
   go_ret
   exact ⟨rfl,rfl⟩
 ·go_enter Tryz.func198,Tryz.ntmps198
  go_wp2
  refine wp_loop_rounds 1 ?_
  rw [rounds_succ]
  go_wp2
  go_ret
  exact ⟨by simp [ha],rfl⟩
def gm_ (w:World) (a b c d:Int):World:=World.drew ((w.alloc (.cells #[.int .i64 a,.int .i64 b] T.av_)).alloc (.cells #[.int .i64 c,.int .i64 d] T.av_))
theorem p__ (w:World) (a b c d:Int):(gm_ w a b c d).heap[w.heap.size]? = some (.cells #[.int .i64 a,.int .i64 b] T.av_):=by
 show ((w.heap.push _).push _)[w.heap.size]? = _
 rw [Array.getElem?_push,if_neg (by simp),Array.getElem?_push,if_pos rfl]
theorem p9_ (w:World) (a b c d:Int):(gm_ w a b c d).heap[w.heap.size+1]? = some (.cells #[.int .i64 c,.int .i64 d] T.av_):=by
 show ((w.heap.push _).push _)[w.heap.size+1]? = _
 rw [Array.getElem?_push,if_pos (by simp)]
theorem jA_ (w:World) (a b c d:Int):∃q os,gm_ w a b c d=Sort.grow (w.drewN q) os:=
 ⟨1,#[.cells #[.int .i64 a,.int .i64 b] T.av_,.cells #[.int .i64 c,.int .i64 d] T.av_],by
  unfold gm_ Sort.grow World.drewN World.drew World.alloc
  simp only [World.mk.injEq,and_true,true_and]
  apply Array.ext'
  simp⟩
theorem uG_ {w V:World} (h:∃q os,V=Sort.grow (w.drewN q) os) (o:Obj):∃q os,V.alloc o=Sort.grow (w.drewN q) os:=by
 obtain ⟨q,os,h⟩:=h
 exact ⟨q,os ++ #[o],by rw [← Sort.grow_grow,← h,← Sort.alloc_eq_grow]⟩
theorem t2_ (w:World) (a b c d:Int) (cs:Array Value) (T:TypeId):((gm_ w a b c d).alloc (.cells cs T (0,0))).heap[w.heap.size+1+1]? = some (.cells cs T (0,0)):=by
 show ((gm_ w a b c d).heap.push _)[w.heap.size+1+1]? = _
 have:w.heap.size+1+1=(gm_ w a b c d).heap.size:=by
  show _=((w.heap.push _).push _).size
  simp
 rw [this,Array.getElem?_push,if_pos rfl]
set_option maxHeartbeats 4000000 in
theorem tX_ (x y:Int × Int) (w:World) :
  Calls Tryz.prog 173 #[.agg #[.int .i64 x.1,.int .i64 x.2],.agg #[.int .i64 y.1,.int .i64 y.2]] w λe w'=>e=.returned (.int .i64 (ordE x y))∧∃q os,w'=Sort.grow (w.drewN q) os:=by
 go_enter Tryz.func173,Tryz.ntmps173
 go_wp2
 refine wp_region_still_tail 10 (by kernel_rfl) (by kernel_rfl) ?_
 change wpStill _ _ (gm_ w x.1 x.2 y.1 y.2) _ _ _
 have d0:(gm_ w x.1 x.2 y.1 y.2).cell? ⟨w.heap.size,0,none⟩=some (.int .i64 x.1):=by rw [ap_ (p__ ..)];rfl
 have d1:(gm_ w x.1 x.2 y.1 y.2).cell? ⟨w.heap.size,1,none⟩=some (.int .i64 x.2):=by rw [ap_ (p__ ..)];rfl
 have d2:(gm_ w x.1 x.2 y.1 y.2).cell? ⟨w.heap.size+1,0,none⟩=some (.int .i64 y.1):=by rw [ap_ (p9_ ..)];rfl
 have d3:(gm_ w x.1 x.2 y.1 y.2).cell? ⟨w.heap.size+1,1,none⟩=some (.int .i64 y.2):=by rw [ap_ (p9_ ..)];rfl
 have dg:=jA_ w x.1 x.2 y.1 y.2
 generalize gm_ w x.1 x.2 y.1 y.2=V at d0 d1 d2 d3 dg ⊢
 simp only [List.take_succ_cons,List.take_zero,List.drop_succ_cons,List.drop_zero]
 repeat still_step
 still_call (Tryz.cmp_Compare_int _ _ _)
 repeat still_step
 still_call (Tryz.cmp_Compare_int _ _ _)
 repeat still_step
 refine wpStill_nil ?_
 go_wp2_with (go_at_call 198;refine (Or2X (Lib.compareInt x.1 y.1) (Lib.compareInt x.2 y.2) (w.heap.size+1+1) _ ((ap_ (t2_ w x.1 x.2 y.1 y.2 #[.int .i64 (Lib.compareInt x.1 y.1),.int .i64 (Lib.compareInt x.2 y.2)] T.int) 0).trans rfl) ((ap_ (t2_ w x.1 x.2 y.1 y.2 #[.int .i64 (Lib.compareInt x.1 y.1),.int .i64 (Lib.compareInt x.2 y.2)] T.int) 1).trans rfl)).mono ?_;rintro e w' ⟨rfl,rfl⟩)
 all_goals
  go_ret
  refine ⟨by simp [ordE, *],?_⟩
  exact uG_ (jA_ w x.1 x.2 y.1 y.2) _
end Go.Vc
namespace Go.Vc
open Go Go.Sort Go.Proofs
def encP (e:Int × Int):List Value:=[.int .i64 e.1,.int .i64 e.2]
theorem se_ (blk off size:Nat) (w:World):CmpLays PR F.bE_ #[] encP 2 ordE blk off size w:=λm os dk _ x y=>
 Calls.mono (tX_ x y (sortWorldK encP 2 w blk off m dk os)) λe w' h=>h
theorem kh_ (x y:Int × Int):ltOf ordE x y=decide (x.1<y.1∨(x.1=y.1∧x.2<y.2)):=by
 unfold ltOf ordE Lib.compareInt
 by_cases h1:x.1<y.1
 ·simp [h1]
 ·by_cases h2:x.1>y.1
  ·have:¬x.1=y.1:=by omega
   simp [h1,h2,this]
  ·have e:x.1=y.1:=by omega
   by_cases h3:x.2<y.2
   ·simp [e,h3]
   ·by_cases h4:x.2>y.2
    ·simp [e,h3,h4]
    ·simp [e,h3,h4]
theorem swoE:SWO (ltOf ordE) where
 irrefl x:=by rw [kh_];simp
 trans x y z h1 h2:=by rw [kh_] at *;simp at *;omega
 ntrans x y z h1 h2:=by rw [kh_] at *;simp at *;omega
theorem qu_:∀(l:List (Int × Int)) (t:Nat),t<l.length*2→(encE l)[t]? = some ((encP l.toArray[t / 2]!)[t%2]!)
 | [],t,h=>by simp at h
 | x :: l,t,h=>by
  have hc:encE (x :: l)=encP x++encE l:=rfl
  rw [hc]
  rcases Nat.lt_or_ge t 2 with h2 | h2
  ·rw [List.getElem?_append_left (by simpa [encP] using h2)]
   have:t=0∨t=1:=by omega
   rcases this with rfl | rfl <;> simp [encP]
  ·rw [List.getElem?_append_right (by simpa [encP] using h2)]
   have ih:=qu_ l (t - 2) (by simp at h;omega)
   have e1:(encP x).length=2:=rfl
   rw [e1,ih]
   have e2:t / 2=(t - 2) / 2+1:=by omega
   have e3:(t - 2)%2=t%2:=by omega
   rw [e2,e3]
   simp
theorem qp_ {d:Array (Int × Int)} {t:Nat} (h:t<d.size*2):(encE d.toList)[t]? = some ((flatK encP 2 d)[t]!):=by
 rw [qu_ _ _ (by simpa using h),get_flatK _ _ _ _ h]
def leE (x y:Int × Int):Prop:=x.1<y.1∨(x.1=y.1∧x.2≤y.2)
theorem pq_ {l:List (Int × Int)} {q:Option Addr} {n c:Nat} {w:World} (ho:Own T.av_ 2 w q c (encE l)) (hl:n=l.length) (hn:n≤1000000) {K:Value→World→Prop}
  (hK:∀w' l',l'.Perm l→l'.Pairwise leE→Own T.av_ 2 w' q c (encE l')→Chg (aS_ q) w w'→K (.tuple #[]) w') :
  aa_ PR F.bq_ ⟨[.slice q n c,.func (.func F.bE_) #[] #[]]⟩ w K:=by
 subst hl
 by_cases hl0:l=[]
 ·subst hl0
  refine Calls.mono (AnyF.slices_SortFunc_none Go.Proofs.Tryz.sortEdge q c _ w) ?_
  rintro e w' ⟨he,rfl⟩
  exact ⟨_,he,hK w' [] (.refl _) .nil ho (.refl _ _)⟩
 ·rcases ho with ⟨_,_,h⟩ | ⟨b,o,cs,rfl,hb,h1,h2,h3,h4⟩
  ·have:=aL_ l;rw [h] at this
   exact absurd (List.eq_nil_of_length_eq_zero (by simp at this;omega)) hl0
  ·have hblk:=aj_ hb
   have hel:=aL_ l
   have hH:HoldsK encP 2 w b o l.toArray:=by
    intro j hj
    rw [size_flatK] at hj
    have hj':j<(encE l).length:=by rw [hel];simpa using hj
    have e:=qp_ (d:=l.toArray) (t:=j) hj
    refine ⟨?_,jH_ hb _⟩
    rw [ap_ hb,h4 j hj',e];rfl
   have eg:∀args w,(callFunc F.bE_ args).run PR w=.ok (.enter F.bE_ args) w:=enters_of (P:=PR) (fn:=(PR.funcs[F.bE_]?).getD default) (c:=(((PR.funcs[F.bE_]?).getD default).body).getD .skip) (by kernel_rfl) (by kernel_rfl) (by kernel_rfl)
   have hagg:∀w,(isAgg T.av_).run PR w=.ok true w:=λw=>by
    have hu:∃fs,PR.underlying T.av_=some (.struct fs):=by
     have h:(match PR.underlying T.av_ with | some (.struct _)=>true | _=>false)=true:=by kernel_rfl
     split at h
     ·rename_i fs h';exact ⟨fs,h'⟩
     ·cases h
    obtain ⟨fs,hu⟩:=hu
    simp [isAgg,run_underlying hu]
   have hsize:∀w,(Go.sizeOf T.av_).run PR w=.ok 2 w:=λw=>by
    obtain ⟨i,hi,hk,_⟩:=j2_
    simp [sizeOf,typeInfo,hi,hk]
   have hcon:=AnyQ.slices_SortFunc Go.Proofs.Tryz.sortEdge 2 hagg hsize encP (λ_=>rfl) (λx v hv=>by simp [encP] at hv;rcases hv with rfl | rfl <;> rfl) ordE swoE F.bE_ #[] b o c l.toArray w eg (se_ b o l.toArray.size w) hH hblk (by simp;omega)
   refine Calls.mono hcon ?_
   rintro e w' ⟨he,d',m,os,⟨hp1,hp2,hp3⟩,hs,rfl⟩
   have hsz:d'.size=l.length:=by simpa using hp1
   have hperm:d'.toList.Perm l:=by
    have e1:(d'.extract 0 l.toArray.size).toList=d'.toList:=by rw [show l.toArray.size=d'.size by simp [hsz]];simp
    have e2:(l.toArray.extract 0 l.toArray.size).toList=l:=by simp
    rw [e1,e2] at hp3;exact hp3
   refine ⟨_,he,hK _ d'.toList hperm ?_ ?_ ?_⟩
   ·rw [List.pairwise_iff_getElem]
    intro i j hi hj hij
    have:=hs i j (Nat.zero_le _) hij (by simpa [hsz] using hj)
    rw [kh_] at this
    have hi':i<d'.size:=by simpa using hi
    have hj':j<d'.size:=by simpa using hj
    rw [getElem!_pos d' i hi',getElem!_pos d' j hj'] at this
    simp only [Array.getElem_toList,leE]
    simp at this
    omega
   ·have hb':(sortWorldK encP 2 w b o m d' os).heap[b]? = some (.cells (Sort.putCells id o (flatK encP 2 d') cs) T.av_ (0,0)):=by
     show ((w.heap.modify b (Sort.onCells _))++os)[b]? = _
     rw [Array.getElem?_append_left (by simpa using hblk),Array.getElem?_modify,if_pos rfl,hb]
     rfl
    refine .inr ⟨b,o,_,rfl,hb',by simpa [Sort.putCells] using h1,h2,by rw [aL_];rw [aL_] at h3;simpa [hsz] using h3,λi hi=>?_⟩
    have hi2:i<d'.size*2:=by rw [aL_] at hi;simpa using hi
    rw [qp_ hi2]
    have hlt:o+i<cs.size:=by rw [aL_] at h3;omega
    simp only [Sort.putCells,Array.getElem?_mapIdx,Array.getElem?_eq_getElem hlt,Option.map_some]
    rw [if_pos ⟨by omega,by rw [size_flatK];omega⟩,Nat.add_sub_cancel_left];rfl
   ·refine ⟨rfl,rfl,rfl,?_,λk hk hn=>?_⟩
    ·show w.heap.size≤((w.heap.modify b _)++os).size
     simp
    ·show ((w.heap.modify b (Sort.onCells _))++os)[k]? = _
     rw [Array.getElem?_append_left (by simpa using hk),Array.getElem?_modify,if_neg]
     rintro rfl
     exact hn ⟨_,rfl,rfl⟩
end Go.Vc
namespace Go.Vc
open Go
theorem kU_ (m0:Int) (m1:Int) (S:SP) (K:KP) (w:World) (h:∀l0,w.heap.size≤l0→∀w0,Fr S w w [l0] [] w0→K (.agg #[Iv m0,Iv m1,Iv 0,.string ⟨#[]⟩,.slice none 0 0]) w0):aa_ PR 116 ⟨[.int .i64 m0,.int .i64 m1]⟩ w K:=
 ab_ (okf:=⟨okL,[]⟩) ag_ (args:=[.c (.v (.int .i64 m0)),.c (.v (.int .i64 m1))]) (H:=[]) (.s (.r ⟨(some []),false,[],[]⟩) (.s (.r ⟨(some [4]),false,[],[]⟩) .z)) Go.Proofs.Tryz.func116 rfl ⟨trivial,trivial,trivial⟩ trivial (Fr.init S w) trivial (ae_ (by kernel_rfl) h)
theorem jd_ (k0:Nat) (p1:Option Addr) (y2:Option Addr) (ly2:Nat) (cy2:Nat) (S:SP) (K:KP) (w:World) (hF:Fs S w [⟨k0,#[.pointer p1,.slice y2 ly2 cy2],65,true⟩] w) (hS:S k0∧True) (h:∀w0,Fr S w w [] [⟨k0,#[.pointer p1,.slice y2 ly2 cy2],65,true⟩] w0→let B0:Blk:=⟨k0,#[.pointer p1,.slice y2 ly2 cy2],65,true⟩;aa_ PR 23 #[.pointer p1] w0 λv0 w1=>∃n0,v0=Iv n0∧Fs S w [B0] w1∧aa_ PR 24 #[.pointer p1] w1 λv1 w2=>∃n1,v1=Iv n1∧Fs S w [B0] w2∧(n0≤n1→K (Iv 0) w2)∧(¬(n0≤n1)→aa_ PR 23 #[.pointer p1] w2 λv2 w3=>∃n2,v2=Iv n2∧Fs S w [B0] w3∧K (Iv n2) w3)):aa_ PR 67 ⟨[.pointer (some ⟨k0,0,none⟩)]⟩ w K:=
 ab_ (okf:=⟨okL,[]⟩) ag_ (args:=[.c (.p 0 k0 true 0)]) (H:=[⟨k0,.l [.v (.pointer p1),.v (.slice y2 ly2 cy2)],65,true⟩]) (.s .z (.s (.s (.r ⟨(some [0]),false,[],[]⟩) .z) (.s (.r ⟨(some [0]),false,[],[]⟩) .z))) Go.Proofs.Tryz.func67 rfl ⟨rfl,trivial⟩ ⟨⟨trivial,⟨trivial,trivial⟩⟩,trivial⟩ hF hS (ae_ (by kernel_rfl) h)
theorem l9_ (k0:Nat) (p1:Option Addr) (y2:Option Addr) (ly2:Nat) (cy2:Nat) (m3:Int) (S:SP) (K:KP) (w:World) (hF:Fs S w [⟨k0,#[.pointer p1,.slice y2 ly2 cy2],65,true⟩] w) (hS:S k0∧True) (h:∃I0:(Option Addr)→Nat→Nat→Int→Nat→World→Prop,(∃l0,I0 none 0 0 0 l0 w)∧∀q0 l1 l2 n0,∀D0:Nat→Value,∀l3 w0,I0 q0 l1 l2 n0 l3 w0→Fs S w [⟨k0,#[.pointer p1,.slice y2 ly2 cy2],65,true⟩] w0→let B0:Blk:=⟨k0,#[.pointer p1,.slice y2 ly2 cy2],65,true⟩;(n0<(ly2:Int)→Dr y2 λa0=>(0:Int)≤n0∧n0<(ly2:Int)∧Dr (some (Addr.add a0 (Int.toNat n0*5))) λa1=>∃n1,World.cell? w0 (Addr.add a1 0)=some (Iv n1)∧∃n2,World.cell? w0 (Addr.add a1 1)=some (Iv n2)∧∃n3,World.cell? w0 (Addr.add a1 2)=some (Iv n3)∧∃b0,World.cell? w0 (Addr.add a1 3)=some (.bool b0)∧∃n4,World.cell? w0 (Addr.add a1 4)=some (Iv n4)∧∀l4,w0.heap.size≤l4→(b0=true→(n4≥IntKind.wrap .i64 (m3 - 12)→∀l5,w0.heap.size≤l5→∀w1,Fr S w w0 [l4] [B0,⟨l5,#[Iv (IntKind.wrap .i64 (n0+1))],3,true⟩] w1→rn PR (Builtin.append_ #[52,52] 52 #[.slice q0 l1 l2,.slice (some (⟨l5,0,none⟩)) 1 1]) (λv0 w2=>∃q1 l6 l7,v0=.slice q1 l6 l7∧Fs S w [B0,⟨l5,#[Iv (IntKind.wrap .i64 (n0+1))],3,true⟩] w2∧∃l8,l8<l3∧I0 q1 l6 l7 (IntKind.wrap .i64 (n0+1)) l8 w2) w1)∧(¬(n4≥IntKind.wrap .i64 (m3 - 12))→∀w3,Fr S w w0 [l4] [B0,⟨l4,#[Iv n1,Iv n2,Iv n3,.bool b0,Iv n4],96,true⟩] w3→∃l9,l9<l3∧I0 q0 l1 l2 (IntKind.wrap .i64 (n0+1)) l9 w3))∧(b0=false→∀w4,Fr S w w0 [l4] [B0,⟨l4,#[Iv n1,Iv n2,Iv n3,.bool b0,Iv n4],96,true⟩] w4→∃l10,l10<l3∧I0 q0 l1 l2 (IntKind.wrap .i64 (n0+1)) l10 w4))∧(¬(n0<(ly2:Int))→K (.slice q0 l1 l2) w0)):aa_ PR 18 ⟨[.pointer (some ⟨k0,0,none⟩),.int .i64 m3]⟩ w K:=
 ab_ (okf:=⟨okL,[]⟩) ag_ (args:=[.c (.p 0 k0 true 0),.c (.v (.int .i64 m3))]) (H:=[⟨k0,.l [.v (.pointer p1),.v (.slice y2 ly2 cy2)],65,true⟩]) (.s .z (.s .z (.s .z (.s (.s .z (.b (.l (some [13]) (some [13]) [(5,.c (.sl)),(15,.c (.int .i64))] [] (.s .z (.s .z (.s (.b (.s (.r ⟨(some [13]),false,[],[]⟩) (.s .z (.c (.r ⟨(some [13]),false,[],[]⟩) .z)))) .z)))))) .z)))) Go.Proofs.Tryz.func18 rfl ⟨rfl,trivial,trivial⟩ ⟨⟨trivial,⟨trivial,trivial⟩⟩,trivial⟩ hF hS (ae_ (by kernel_rfl) h)
theorem ja_ (k0:Nat) (p1:Option Addr) (y2:Option Addr) (ly2:Nat) (cy2:Nat) (m3:Int) (m4:Int) (m5:Int) (t6:Bool) (m7:Int) (S:SP) (K:KP) (w:World) (hF:Fs S w [⟨k0,#[.pointer p1,.slice y2 ly2 cy2],65,true⟩] w) (hS:S k0∧True) (h:∀l0,w.heap.size≤l0→∀w0,Fr S w w [] [⟨k0,#[.pointer p1,.slice y2 ly2 cy2],65,true⟩,⟨l0,#[Iv m3,Iv m4,Iv m5,.bool t6,Iv m7],96,true⟩] w0→aa_ PR 24 #[.pointer p1] w0 λv0 w1=>∃n0,v0=Iv n0∧Fs S w [⟨k0,#[.pointer p1,.slice y2 ly2 cy2],65,true⟩,⟨l0,#[Iv m3,Iv m4,Iv m5,.bool t6,Iv m7],96,true⟩] w1∧(m5<n0→K (.bool true) w1)∧(¬(m5<n0)→K (.bool false) w1)):aa_ PR 117 ⟨[.pointer (some ⟨k0,0,none⟩),.agg #[.int .i64 m3,.int .i64 m4,.int .i64 m5,.bool t6,.int .i64 m7]]⟩ w K:=
 ab_ (okf:=⟨okL,[]⟩) ag_ (args:=[.c (.p 0 k0 true 0),.a [.v (.int .i64 m3),.v (.int .i64 m4),.v (.int .i64 m5),.v (.bool t6),.v (.int .i64 m7)]]) (H:=[⟨k0,.l [.v (.pointer p1),.v (.slice y2 ly2 cy2)],65,true⟩]) (.s (.r ⟨(some [0]),false,[],[]⟩) (.s (.r ⟨(some [0,3]),false,[],[]⟩) .z)) Go.Proofs.Tryz.func117 rfl ⟨rfl,⟨trivial,trivial,trivial,trivial,trivial,trivial⟩,trivial⟩ ⟨⟨trivial,⟨trivial,trivial⟩⟩,trivial⟩ hF hS (ae_ (by kernel_rfl) h)
theorem jc_ (k0:Nat) (p1:Option Addr) (y2:Option Addr) (ly2:Nat) (cy2:Nat) (m3:Int) (S:SP) (K:KP) (w:World) (hF:Fs S w [⟨k0,#[.pointer p1,.slice y2 ly2 cy2],65,true⟩] w) (hS:S k0∧True) (h:∀l0,w.heap.size≤l0→∀w0,Fr S w w [] [⟨k0,#[.pointer p1,.slice y2 ly2 cy2],65,true⟩,⟨l0,#[.pointer (some (⟨k0,0,none⟩))],54,true⟩] w0→let B1:Blk:=⟨l0,#[.pointer (some (⟨k0,0,none⟩))],54,true⟩;let B0:Blk:=⟨k0,#[.pointer p1,.slice y2 ly2 cy2],65,true⟩;aa_ PR 18 #[.pointer (some (⟨k0,0,none⟩)),Iv m3] w0 λv0 w1=>∃q0 l1 l2,v0=.slice q0 l1 l2∧Fs S w [B0,B1] w1∧aa_ PR 67 #[.pointer (some (⟨k0,0,none⟩))] w1 λv1 w2=>∃n0,v1=Iv n0∧Fs S w [B0,B1] w2∧(n0>0→((l1:Int)>0→aa_ PR 113 #[.slice q0 l1 l2,.func (.func 112) #[] #[.pointer (some (⟨l0,0,none⟩))]] w2 λv2 w3=>∃b0,v2=.bool b0∧(b0=true→Fs S w [B0,B1] w3∧K (.bool false) w3)∧(b0=false→Fs S w [B0,B1] w3∧K (.bool true) w3))∧(¬((l1:Int)>0)→K (.bool false) w2))∧(¬(n0>0)→K (.bool false) w2)):aa_ PR 65 ⟨[.pointer (some ⟨k0,0,none⟩),.int .i64 m3]⟩ w K:=
 ab_ (okf:=⟨okL,[]⟩) ag_ (args:=[.c (.p 0 k0 true 0),.c (.v (.int .i64 m3))]) (H:=[⟨k0,.l [.v (.pointer p1),.v (.slice y2 ly2 cy2)],65,true⟩]) (.s (.r ⟨(some [0]),false,[],[]⟩) (.s (.r ⟨(some [2]),false,[],[]⟩) (.s .z (.s (.r ⟨(some [2]),false,[],[]⟩) .z)))) Go.Proofs.Tryz.func65 rfl ⟨rfl,trivial,trivial⟩ ⟨⟨trivial,⟨trivial,trivial⟩⟩,trivial⟩ hF hS (ae_ (by kernel_rfl) h)
theorem hd_ (m0:Int) (p1:Option Addr) (S:SP) (K:KP) (w:World) (h:∀w0,Fr S w w [] [] w0→∃I0:World→Prop,I0 w0∧Dr p1 λa0=>∃q0,(∀w1,I0 w1→World.cell? w1 a0=some (.pointer q0))∧Dr q0 λa1=>Dr (some a1) λa2=>Dr (some (Addr.add a2 1)) λa3=>∃q1 l0 l1,(∀w2,I0 w2→World.cell? w2 a3=some (.slice q1 l0 l1))∧Dr q1 λa4=>(0:Int)≤IntKind.wrap .i64 (m0 - 1)∧IntKind.wrap .i64 (m0 - 1)<(l0:Int)∧Dr (some (Addr.add a4 (Int.toNat (IntKind.wrap .i64 (m0 - 1))*5))) λa5=>Dr (some (Addr.add a5 1)) λa6=>∃n0,(∀w3,I0 w3→World.cell? w3 a6=some (Iv n0))∧Dr p1 λa7=>∃q2,(∀w4,I0 w4→World.cell? w4 a7=some (.pointer q2))∧aa_ PR 67 #[.pointer q2] w0 λv0 w5=>∃n1,v0=Iv n1∧Fs S w [] w5∧I0 w5∧(n0<n1→K (.bool true) w5)∧(¬(n0<n1)→K (.bool false) w5)):aa_ PR 112 ⟨[.int .i64 m0,.pointer p1]⟩ w K:=
 ab_ (okf:=⟨okL,[]⟩) ag_ (args:=[.c (.v (.int .i64 m0)),.c (.v (.pointer p1))]) (H:=[]) (.s .z (.s (.r ⟨(some []),true,[],[]⟩) .z)) Go.Proofs.Tryz.func112 rfl ⟨trivial,trivial,trivial⟩ trivial (Fr.init S w) trivial (ae_ (by kernel_rfl) h)
theorem l7_ (k0:Nat) (p1:Option Addr) (y2:Option Addr) (ly2:Nat) (cy2:Nat) (m3:Int) (m4:Int) (m5:Int) (t6:Bool) (m7:Int) (m8:Int) (S:SP) (K:KP) (w:World) (hF:Fs S w [⟨k0,#[.pointer p1,.slice y2 ly2 cy2],65,true⟩] w) (hS:S k0∧True) (h:∀l0,w.heap.size≤l0→∀w0,Fr S w w [] [⟨k0,#[.pointer p1,.slice y2 ly2 cy2],65,true⟩,⟨l0,#[Iv m3,Iv m4,Iv m5,.bool t6,Iv m7],96,true⟩] w0→let B1:Blk:=⟨l0,#[Iv m3,Iv m4,Iv m5,.bool t6,Iv m7],96,true⟩;let B0:Blk:=⟨k0,#[.pointer p1,.slice y2 ly2 cy2],65,true⟩;aa_ PR 24 #[.pointer p1] w0 λv0 w1=>∃n0,v0=Iv n0∧Fs S w [B0,B1] w1∧∀l1,w1.heap.size≤l1→∀w2,Fr S w w1 [] [B0,B1,⟨l1,#[Iv 10,Iv n0,Iv m8,.string ⟨#[]⟩,.slice none 0 0],26,true⟩] w2→let B2:Blk:=⟨l1,#[Iv 10,Iv n0,Iv m8,.string ⟨#[]⟩,.slice none 0 0],26,true⟩;aa_ PR 67 #[.pointer (some (⟨k0,0,none⟩))] w2 λv1 w3=>∃n1,v1=Iv n1∧Fs S w [B0,B1,B2] w3∧(n1>0→(m4<n1→aa_ PR 115 #[.pointer p1,Iv n1] w3 λv2 w4=>∃n2 n3 n4 s0 q0 l2 l3 v3,v2=.tuple #[.agg #[Iv n2,Iv n3,Iv n4,.string s0,.slice q0 l2 l3],v3]∧Fs S w [B0,B1,B2] w4∧∀l4,w4.heap.size≤l4→∀l5,w4.heap.size≤l5→∀w5,Fr S w w4 [l4] [B0,B1,B2,⟨l4,#[Iv n2,Iv n3,Iv n4,.string s0,.slice q0 l2 l3],26,true⟩,⟨l5,#[Iv n2,Iv n3,Iv n4,.string s0,.slice q0 l2 l3],26,true⟩] w5→rn PR (Builtin.append_ #[148,148] 148 #[.slice (some (⟨l1,0,none⟩)) 1 1,.slice (some (⟨l5,0,none⟩)) 1 1]) (λv4 w6=>∃q1 l6 l7,v4=.slice q1 l6 l7∧Fs S w [B0,B1,B2,⟨l4,#[Iv n2,Iv n3,Iv n4,.string s0,.slice q0 l2 l3],26,true⟩,⟨l5,#[Iv n2,Iv n3,Iv n4,.string s0,.slice q0 l2 l3],26,true⟩] w6∧(m3≥n1→aa_ PR 116 #[Iv 6,Iv n1] w6 λv5 w7=>∃n5 n6 n7 s1 q2 l8 l9,v5=.agg #[Iv n5,Iv n6,Iv n7,.string s1,.slice q2 l8 l9]∧Fs S w [B0,B1] w7∧∀l10,w7.heap.size≤l10→∀w8,Fr S w w7 [] [B0,B1,⟨l10,#[Iv n5,Iv n6,Iv n7,.string s1,.slice q2 l8 l9],26,true⟩] w8→rn PR (Builtin.append_ #[148,148] 148 #[.slice q1 l6 l7,.slice (some (⟨l10,0,none⟩)) 1 1]) (λv6 w9=>∃q3 l11 l12,v6=.slice q3 l11 l12∧Fs S w [B0,B1,⟨l10,#[Iv n5,Iv n6,Iv n7,.string s1,.slice q2 l8 l9],26,true⟩] w9∧aa_ PR 117 #[.pointer (some (⟨k0,0,none⟩)),.agg #[Iv m3,Iv m4,Iv m5,.bool t6,Iv m7]] w9 λv7 w10=>∃b0,v7=.bool b0∧(b0=true→Fs S w [B0,B1] w10∧(∀w11,Fr S w w10 [] [B0] w11→aa_ PR 24 #[.pointer p1] w11 λv8 w12=>∃n8,v8=Iv n8∧Fs S w [B0] w12∧aa_ PR 115 #[.pointer p1,Iv n8] w12 (λv9 w13=>∃n9 n10 n11 s2 q4 l13 l14 v10,v9=.tuple #[.agg #[Iv n9,Iv n10,Iv n11,.string s2,.slice q4 l13 l14],v10]∧Fs S w [B0] w13∧∀l15,w13.heap.size≤l15→∀w14,Fr S w w13 [l15] [B0,⟨l15,#[Iv n9,Iv n10,Iv n11,.string s2,.slice q4 l13 l14],26,true⟩] w14→let B3:Blk:=⟨l15,#[Iv n9,Iv n10,Iv n11,.string s2,.slice q4 l13 l14],26,true⟩;aa_ PR 24 #[.pointer p1] w14 λv11 w15=>∃n12,v11=Iv n12∧Fs S w [B0,B3] w15∧aa_ PR 116 #[Iv 8,Iv n12] w15 λv12 w16=>∃n13 n14 n15 s3 q5 l16 l17,v12=.agg #[Iv n13,Iv n14,Iv n15,.string s3,.slice q5 l16 l17]∧Fs S w [B0,B3] w16∧∀l18,w16.heap.size≤l18→∀w17,Fr S w w16 [] [B0,B3,⟨l18,#[Iv n9,Iv n10,Iv n11,.string s2,.slice q4 l13 l14,Iv n13,Iv n14,Iv n15,.string s3,.slice q5 l16 l17],26,true⟩] w17→rn PR (Builtin.append_ #[148,148] 148 #[.slice q3 l11 l12,.slice (some (⟨l18,0,none⟩)) 2 2]) (λv13 w18=>∃q6 l19 l20,v13=.slice q6 l19 l20∧Fs S w [B0,B3,⟨l18,#[Iv n9,Iv n10,Iv n11,.string s2,.slice q4 l13 l14,Iv n13,Iv n14,Iv n15,.string s3,.slice q5 l16 l17],26,true⟩] w18∧K (.slice q6 l19 l20) w18) w17)∧∀l21,w12.heap.size≤l21→∀w19,Fr S w w12 [] [B0,⟨l21,#[Iv 0,Iv 0,Iv 0,.string ⟨#[]⟩,.slice none 0 0],26,true⟩] w19→aa_ PR 115 #[.pointer p1,Iv n8] w19 λv14 w20=>∃n16 n17 n18 s4 q7 l22 l23 v15,v14=.tuple #[.agg #[Iv n16,Iv n17,Iv n18,.string s4,.slice q7 l22 l23],v15]∧Fs S w [B0,⟨l21,#[Iv 0,Iv 0,Iv 0,.string ⟨#[]⟩,.slice none 0 0],26,true⟩] w20∧∀w21,Fr S w w20 [l21] [B0,⟨l21,#[Iv n16,Iv n17,Iv n18,.string s4,.slice q7 l22 l23],26,true⟩] w21→let B4:Blk:=⟨l21,#[Iv n16,Iv n17,Iv n18,.string s4,.slice q7 l22 l23],26,true⟩;aa_ PR 24 #[.pointer p1] w21 λv16 w22=>∃n19,v16=Iv n19∧Fs S w [B0,B4] w22∧aa_ PR 116 #[Iv 8,Iv n19] w22 λv17 w23=>∃n20 n21 n22 s5 q8 l24 l25,v17=.agg #[Iv n20,Iv n21,Iv n22,.string s5,.slice q8 l24 l25]∧Fs S w [B0,B4] w23∧∀l26,w23.heap.size≤l26→∀w24,Fr S w w23 [] [B0,B4,⟨l26,#[Iv n16,Iv n17,Iv n18,.string s4,.slice q7 l22 l23,Iv n20,Iv n21,Iv n22,.string s5,.slice q8 l24 l25],26,true⟩] w24→rn PR (Builtin.append_ #[148,148] 148 #[.slice q3 l11 l12,.slice (some (⟨l26,0,none⟩)) 2 2]) (λv18 w25=>∃q9 l27 l28,v18=.slice q9 l27 l28∧Fs S w [B0,B4,⟨l26,#[Iv n16,Iv n17,Iv n18,.string s4,.slice q7 l22 l23,Iv n20,Iv n21,Iv n22,.string s5,.slice q8 l24 l25],26,true⟩] w25∧K (.slice q9 l27 l28) w25) w24)∧∀l29,w10.heap.size≤l29→∀w26,Fr S w w10 [] [B0,⟨l29,#[Iv 0,Iv 0,Iv 0,.string ⟨#[]⟩,.slice none 0 0],26,true⟩] w26→aa_ PR 24 #[.pointer p1] w26 λv19 w27=>∃n23,v19=Iv n23∧Fs S w [B0,⟨l29,#[Iv 0,Iv 0,Iv 0,.string ⟨#[]⟩,.slice none 0 0],26,true⟩] w27∧aa_ PR 115 #[.pointer p1,Iv n23] w27 λv20 w28=>∃n24 n25 n26 s6 q10 l30 l31 v21,v20=.tuple #[.agg #[Iv n24,Iv n25,Iv n26,.string s6,.slice q10 l30 l31],v21]∧Fs S w [B0,⟨l29,#[Iv 0,Iv 0,Iv 0,.string ⟨#[]⟩,.slice none 0 0],26,true⟩] w28∧∀w29,Fr S w w28 [l29] [B0,⟨l29,#[Iv n24,Iv n25,Iv n26,.string s6,.slice q10 l30 l31],26,true⟩] w29→let B5:Blk:=⟨l29,#[Iv n24,Iv n25,Iv n26,.string s6,.slice q10 l30 l31],26,true⟩;aa_ PR 24 #[.pointer p1] w29 λv22 w30=>∃n27,v22=Iv n27∧Fs S w [B0,B5] w30∧aa_ PR 116 #[Iv 8,Iv n27] w30 λv23 w31=>∃n28 n29 n30 s7 q11 l32 l33,v23=.agg #[Iv n28,Iv n29,Iv n30,.string s7,.slice q11 l32 l33]∧Fs S w [B0,B5] w31∧∀l34,w31.heap.size≤l34→∀w32,Fr S w w31 [] [B0,B5,⟨l34,#[Iv n24,Iv n25,Iv n26,.string s6,.slice q10 l30 l31,Iv n28,Iv n29,Iv n30,.string s7,.slice q11 l32 l33],26,true⟩] w32→rn PR (Builtin.append_ #[148,148] 148 #[.slice q3 l11 l12,.slice (some (⟨l34,0,none⟩)) 2 2]) (λv24 w33=>∃q12 l35 l36,v24=.slice q12 l35 l36∧Fs S w [B0,B5,⟨l34,#[Iv n24,Iv n25,Iv n26,.string s6,.slice q10 l30 l31,Iv n28,Iv n29,Iv n30,.string s7,.slice q11 l32 l33],26,true⟩] w33∧K (.slice q12 l35 l36) w33) w32)∧(b0=false→Fs S w [B0,B1] w10∧K (.slice q3 l11 l12) w10)) w8)∧(¬(m3≥n1)→aa_ PR 117 #[.pointer (some (⟨k0,0,none⟩)),.agg #[Iv m3,Iv m4,Iv m5,.bool t6,Iv m7]] w6 λv25 w34=>∃b1,v25=.bool b1∧(b1=true→Fs S w [B0,B1] w34∧(∀w35,Fr S w w34 [] [B0] w35→aa_ PR 24 #[.pointer p1] w35 λv26 w36=>∃n31,v26=Iv n31∧Fs S w [B0] w36∧aa_ PR 115 #[.pointer p1,Iv n31] w36 (λv27 w37=>∃n32 n33 n34 s8 q13 l37 l38 v28,v27=.tuple #[.agg #[Iv n32,Iv n33,Iv n34,.string s8,.slice q13 l37 l38],v28]∧Fs S w [B0] w37∧∀l39,w37.heap.size≤l39→∀w38,Fr S w w37 [l39] [B0,⟨l39,#[Iv n32,Iv n33,Iv n34,.string s8,.slice q13 l37 l38],26,true⟩] w38→let B6:Blk:=⟨l39,#[Iv n32,Iv n33,Iv n34,.string s8,.slice q13 l37 l38],26,true⟩;aa_ PR 24 #[.pointer p1] w38 λv29 w39=>∃n35,v29=Iv n35∧Fs S w [B0,B6] w39∧aa_ PR 116 #[Iv 8,Iv n35] w39 λv30 w40=>∃n36 n37 n38 s9 q14 l40 l41,v30=.agg #[Iv n36,Iv n37,Iv n38,.string s9,.slice q14 l40 l41]∧Fs S w [B0,B6] w40∧∀l42,w40.heap.size≤l42→∀w41,Fr S w w40 [] [B0,B6,⟨l42,#[Iv n32,Iv n33,Iv n34,.string s8,.slice q13 l37 l38,Iv n36,Iv n37,Iv n38,.string s9,.slice q14 l40 l41],26,true⟩] w41→rn PR (Builtin.append_ #[148,148] 148 #[.slice q1 l6 l7,.slice (some (⟨l42,0,none⟩)) 2 2]) (λv31 w42=>∃q15 l43 l44,v31=.slice q15 l43 l44∧Fs S w [B0,B6,⟨l42,#[Iv n32,Iv n33,Iv n34,.string s8,.slice q13 l37 l38,Iv n36,Iv n37,Iv n38,.string s9,.slice q14 l40 l41],26,true⟩] w42∧K (.slice q15 l43 l44) w42) w41)∧∀l45,w36.heap.size≤l45→∀w43,Fr S w w36 [] [B0,⟨l45,#[Iv 0,Iv 0,Iv 0,.string ⟨#[]⟩,.slice none 0 0],26,true⟩] w43→aa_ PR 115 #[.pointer p1,Iv n31] w43 λv32 w44=>∃n39 n40 n41 s10 q16 l46 l47 v33,v32=.tuple #[.agg #[Iv n39,Iv n40,Iv n41,.string s10,.slice q16 l46 l47],v33]∧Fs S w [B0,⟨l45,#[Iv 0,Iv 0,Iv 0,.string ⟨#[]⟩,.slice none 0 0],26,true⟩] w44∧∀w45,Fr S w w44 [l45] [B0,⟨l45,#[Iv n39,Iv n40,Iv n41,.string s10,.slice q16 l46 l47],26,true⟩] w45→let B7:Blk:=⟨l45,#[Iv n39,Iv n40,Iv n41,.string s10,.slice q16 l46 l47],26,true⟩;aa_ PR 24 #[.pointer p1] w45 λv34 w46=>∃n42,v34=Iv n42∧Fs S w [B0,B7] w46∧aa_ PR 116 #[Iv 8,Iv n42] w46 λv35 w47=>∃n43 n44 n45 s11 q17 l48 l49,v35=.agg #[Iv n43,Iv n44,Iv n45,.string s11,.slice q17 l48 l49]∧Fs S w [B0,B7] w47∧∀l50,w47.heap.size≤l50→∀w48,Fr S w w47 [] [B0,B7,⟨l50,#[Iv n39,Iv n40,Iv n41,.string s10,.slice q16 l46 l47,Iv n43,Iv n44,Iv n45,.string s11,.slice q17 l48 l49],26,true⟩] w48→rn PR (Builtin.append_ #[148,148] 148 #[.slice q1 l6 l7,.slice (some (⟨l50,0,none⟩)) 2 2]) (λv36 w49=>∃q18 l51 l52,v36=.slice q18 l51 l52∧Fs S w [B0,B7,⟨l50,#[Iv n39,Iv n40,Iv n41,.string s10,.slice q16 l46 l47,Iv n43,Iv n44,Iv n45,.string s11,.slice q17 l48 l49],26,true⟩] w49∧K (.slice q18 l51 l52) w49) w48)∧∀l53,w34.heap.size≤l53→∀w50,Fr S w w34 [] [B0,⟨l53,#[Iv 0,Iv 0,Iv 0,.string ⟨#[]⟩,.slice none 0 0],26,true⟩] w50→aa_ PR 24 #[.pointer p1] w50 λv37 w51=>∃n46,v37=Iv n46∧Fs S w [B0,⟨l53,#[Iv 0,Iv 0,Iv 0,.string ⟨#[]⟩,.slice none 0 0],26,true⟩] w51∧aa_ PR 115 #[.pointer p1,Iv n46] w51 λv38 w52=>∃n47 n48 n49 s12 q19 l54 l55 v39,v38=.tuple #[.agg #[Iv n47,Iv n48,Iv n49,.string s12,.slice q19 l54 l55],v39]∧Fs S w [B0,⟨l53,#[Iv 0,Iv 0,Iv 0,.string ⟨#[]⟩,.slice none 0 0],26,true⟩] w52∧∀w53,Fr S w w52 [l53] [B0,⟨l53,#[Iv n47,Iv n48,Iv n49,.string s12,.slice q19 l54 l55],26,true⟩] w53→let B8:Blk:=⟨l53,#[Iv n47,Iv n48,Iv n49,.string s12,.slice q19 l54 l55],26,true⟩;aa_ PR 24 #[.pointer p1] w53 λv40 w54=>∃n50,v40=Iv n50∧Fs S w [B0,B8] w54∧aa_ PR 116 #[Iv 8,Iv n50] w54 λv41 w55=>∃n51 n52 n53 s13 q20 l56 l57,v41=.agg #[Iv n51,Iv n52,Iv n53,.string s13,.slice q20 l56 l57]∧Fs S w [B0,B8] w55∧∀l58,w55.heap.size≤l58→∀w56,Fr S w w55 [] [B0,B8,⟨l58,#[Iv n47,Iv n48,Iv n49,.string s12,.slice q19 l54 l55,Iv n51,Iv n52,Iv n53,.string s13,.slice q20 l56 l57],26,true⟩] w56→rn PR (Builtin.append_ #[148,148] 148 #[.slice q1 l6 l7,.slice (some (⟨l58,0,none⟩)) 2 2]) (λv42 w57=>∃q21 l59 l60,v42=.slice q21 l59 l60∧Fs S w [B0,B8,⟨l58,#[Iv n47,Iv n48,Iv n49,.string s12,.slice q19 l54 l55,Iv n51,Iv n52,Iv n53,.string s13,.slice q20 l56 l57],26,true⟩] w57∧K (.slice q21 l59 l60) w57) w56)∧(b1=false→Fs S w [B0,B1] w34∧K (.slice q1 l6 l7) w34))) w5)∧(¬(m4<n1)→aa_ PR 117 #[.pointer (some (⟨k0,0,none⟩)),.agg #[Iv m3,Iv m4,Iv m5,.bool t6,Iv m7]] w3 λv43 w58=>∃b2,v43=.bool b2∧(b2=true→Fs S w [B0,B1,B2] w58∧(∀w59,Fr S w w58 [] [B0,B2] w59→aa_ PR 24 #[.pointer p1] w59 λv44 w60=>∃n54,v44=Iv n54∧Fs S w [B0,B2] w60∧aa_ PR 115 #[.pointer p1,Iv n54] w60 (λv45 w61=>∃n55 n56 n57 s14 q22 l61 l62 v46,v45=.tuple #[.agg #[Iv n55,Iv n56,Iv n57,.string s14,.slice q22 l61 l62],v46]∧Fs S w [B0,B2] w61∧∀l63,w61.heap.size≤l63→∀w62,Fr S w w61 [l63] [B0,B2,⟨l63,#[Iv n55,Iv n56,Iv n57,.string s14,.slice q22 l61 l62],26,true⟩] w62→let B9:Blk:=⟨l63,#[Iv n55,Iv n56,Iv n57,.string s14,.slice q22 l61 l62],26,true⟩;aa_ PR 24 #[.pointer p1] w62 λv47 w63=>∃n58,v47=Iv n58∧Fs S w [B0,B2,B9] w63∧aa_ PR 116 #[Iv 8,Iv n58] w63 λv48 w64=>∃n59 n60 n61 s15 q23 l64 l65,v48=.agg #[Iv n59,Iv n60,Iv n61,.string s15,.slice q23 l64 l65]∧Fs S w [B0,B2,B9] w64∧∀l66,w64.heap.size≤l66→∀w65,Fr S w w64 [] [B0,B2,B9,⟨l66,#[Iv n55,Iv n56,Iv n57,.string s14,.slice q22 l61 l62,Iv n59,Iv n60,Iv n61,.string s15,.slice q23 l64 l65],26,true⟩] w65→rn PR (Builtin.append_ #[148,148] 148 #[.slice (some (⟨l1,0,none⟩)) 1 1,.slice (some (⟨l66,0,none⟩)) 2 2]) (λv49 w66=>∃q24 l67 l68,v49=.slice q24 l67 l68∧Fs S w [B0,B2,B9,⟨l66,#[Iv n55,Iv n56,Iv n57,.string s14,.slice q22 l61 l62,Iv n59,Iv n60,Iv n61,.string s15,.slice q23 l64 l65],26,true⟩] w66∧K (.slice q24 l67 l68) w66) w65)∧∀l69,w60.heap.size≤l69→∀w67,Fr S w w60 [] [B0,B2,⟨l69,#[Iv 0,Iv 0,Iv 0,.string ⟨#[]⟩,.slice none 0 0],26,true⟩] w67→aa_ PR 115 #[.pointer p1,Iv n54] w67 λv50 w68=>∃n62 n63 n64 s16 q25 l70 l71 v51,v50=.tuple #[.agg #[Iv n62,Iv n63,Iv n64,.string s16,.slice q25 l70 l71],v51]∧Fs S w [B0,B2,⟨l69,#[Iv 0,Iv 0,Iv 0,.string ⟨#[]⟩,.slice none 0 0],26,true⟩] w68∧∀w69,Fr S w w68 [l69] [B0,B2,⟨l69,#[Iv n62,Iv n63,Iv n64,.string s16,.slice q25 l70 l71],26,true⟩] w69→let B10:Blk:=⟨l69,#[Iv n62,Iv n63,Iv n64,.string s16,.slice q25 l70 l71],26,true⟩;aa_ PR 24 #[.pointer p1] w69 λv52 w70=>∃n65,v52=Iv n65∧Fs S w [B0,B2,B10] w70∧aa_ PR 116 #[Iv 8,Iv n65] w70 λv53 w71=>∃n66 n67 n68 s17 q26 l72 l73,v53=.agg #[Iv n66,Iv n67,Iv n68,.string s17,.slice q26 l72 l73]∧Fs S w [B0,B2,B10] w71∧∀l74,w71.heap.size≤l74→∀w72,Fr S w w71 [] [B0,B2,B10,⟨l74,#[Iv n62,Iv n63,Iv n64,.string s16,.slice q25 l70 l71,Iv n66,Iv n67,Iv n68,.string s17,.slice q26 l72 l73],26,true⟩] w72→rn PR (Builtin.append_ #[148,148] 148 #[.slice (some (⟨l1,0,none⟩)) 1 1,.slice (some (⟨l74,0,none⟩)) 2 2]) (λv54 w73=>∃q27 l75 l76,v54=.slice q27 l75 l76∧Fs S w [B0,B2,B10,⟨l74,#[Iv n62,Iv n63,Iv n64,.string s16,.slice q25 l70 l71,Iv n66,Iv n67,Iv n68,.string s17,.slice q26 l72 l73],26,true⟩] w73∧K (.slice q27 l75 l76) w73) w72)∧∀l77,w58.heap.size≤l77→∀w74,Fr S w w58 [] [B0,B2,⟨l77,#[Iv 0,Iv 0,Iv 0,.string ⟨#[]⟩,.slice none 0 0],26,true⟩] w74→aa_ PR 24 #[.pointer p1] w74 λv55 w75=>∃n69,v55=Iv n69∧Fs S w [B0,B2,⟨l77,#[Iv 0,Iv 0,Iv 0,.string ⟨#[]⟩,.slice none 0 0],26,true⟩] w75∧aa_ PR 115 #[.pointer p1,Iv n69] w75 λv56 w76=>∃n70 n71 n72 s18 q28 l78 l79 v57,v56=.tuple #[.agg #[Iv n70,Iv n71,Iv n72,.string s18,.slice q28 l78 l79],v57]∧Fs S w [B0,B2,⟨l77,#[Iv 0,Iv 0,Iv 0,.string ⟨#[]⟩,.slice none 0 0],26,true⟩] w76∧∀w77,Fr S w w76 [l77] [B0,B2,⟨l77,#[Iv n70,Iv n71,Iv n72,.string s18,.slice q28 l78 l79],26,true⟩] w77→let B11:Blk:=⟨l77,#[Iv n70,Iv n71,Iv n72,.string s18,.slice q28 l78 l79],26,true⟩;aa_ PR 24 #[.pointer p1] w77 λv58 w78=>∃n73,v58=Iv n73∧Fs S w [B0,B2,B11] w78∧aa_ PR 116 #[Iv 8,Iv n73] w78 λv59 w79=>∃n74 n75 n76 s19 q29 l80 l81,v59=.agg #[Iv n74,Iv n75,Iv n76,.string s19,.slice q29 l80 l81]∧Fs S w [B0,B2,B11] w79∧∀l82,w79.heap.size≤l82→∀w80,Fr S w w79 [] [B0,B2,B11,⟨l82,#[Iv n70,Iv n71,Iv n72,.string s18,.slice q28 l78 l79,Iv n74,Iv n75,Iv n76,.string s19,.slice q29 l80 l81],26,true⟩] w80→rn PR (Builtin.append_ #[148,148] 148 #[.slice (some (⟨l1,0,none⟩)) 1 1,.slice (some (⟨l82,0,none⟩)) 2 2]) (λv60 w81=>∃q30 l83 l84,v60=.slice q30 l83 l84∧Fs S w [B0,B2,B11,⟨l82,#[Iv n70,Iv n71,Iv n72,.string s18,.slice q28 l78 l79,Iv n74,Iv n75,Iv n76,.string s19,.slice q29 l80 l81],26,true⟩] w81∧K (.slice q30 l83 l84) w81) w80)∧(b2=false→Fs S w [B0,B1,B2] w58∧K (.slice (some (⟨l1,0,none⟩)) 1 1) w58)))∧(¬(n1>0)→aa_ PR 117 #[.pointer (some (⟨k0,0,none⟩)),.agg #[Iv m3,Iv m4,Iv m5,.bool t6,Iv m7]] w3 λv61 w82=>∃b3,v61=.bool b3∧(b3=true→Fs S w [B0,B1,B2] w82∧(∀w83,Fr S w w82 [] [B0,B2] w83→aa_ PR 24 #[.pointer p1] w83 λv62 w84=>∃n77,v62=Iv n77∧Fs S w [B0,B2] w84∧aa_ PR 115 #[.pointer p1,Iv n77] w84 (λv63 w85=>∃n78 n79 n80 s20 q31 l85 l86 v64,v63=.tuple #[.agg #[Iv n78,Iv n79,Iv n80,.string s20,.slice q31 l85 l86],v64]∧Fs S w [B0,B2] w85∧∀l87,w85.heap.size≤l87→∀w86,Fr S w w85 [l87] [B0,B2,⟨l87,#[Iv n78,Iv n79,Iv n80,.string s20,.slice q31 l85 l86],26,true⟩] w86→let B12:Blk:=⟨l87,#[Iv n78,Iv n79,Iv n80,.string s20,.slice q31 l85 l86],26,true⟩;aa_ PR 24 #[.pointer p1] w86 λv65 w87=>∃n81,v65=Iv n81∧Fs S w [B0,B2,B12] w87∧aa_ PR 116 #[Iv 8,Iv n81] w87 λv66 w88=>∃n82 n83 n84 s21 q32 l88 l89,v66=.agg #[Iv n82,Iv n83,Iv n84,.string s21,.slice q32 l88 l89]∧Fs S w [B0,B2,B12] w88∧∀l90,w88.heap.size≤l90→∀w89,Fr S w w88 [] [B0,B2,B12,⟨l90,#[Iv n78,Iv n79,Iv n80,.string s20,.slice q31 l85 l86,Iv n82,Iv n83,Iv n84,.string s21,.slice q32 l88 l89],26,true⟩] w89→rn PR (Builtin.append_ #[148,148] 148 #[.slice (some (⟨l1,0,none⟩)) 1 1,.slice (some (⟨l90,0,none⟩)) 2 2]) (λv67 w90=>∃q33 l91 l92,v67=.slice q33 l91 l92∧Fs S w [B0,B2,B12,⟨l90,#[Iv n78,Iv n79,Iv n80,.string s20,.slice q31 l85 l86,Iv n82,Iv n83,Iv n84,.string s21,.slice q32 l88 l89],26,true⟩] w90∧K (.slice q33 l91 l92) w90) w89)∧∀l93,w84.heap.size≤l93→∀w91,Fr S w w84 [] [B0,B2,⟨l93,#[Iv 0,Iv 0,Iv 0,.string ⟨#[]⟩,.slice none 0 0],26,true⟩] w91→aa_ PR 115 #[.pointer p1,Iv n77] w91 λv68 w92=>∃n85 n86 n87 s22 q34 l94 l95 v69,v68=.tuple #[.agg #[Iv n85,Iv n86,Iv n87,.string s22,.slice q34 l94 l95],v69]∧Fs S w [B0,B2,⟨l93,#[Iv 0,Iv 0,Iv 0,.string ⟨#[]⟩,.slice none 0 0],26,true⟩] w92∧∀w93,Fr S w w92 [l93] [B0,B2,⟨l93,#[Iv n85,Iv n86,Iv n87,.string s22,.slice q34 l94 l95],26,true⟩] w93→let B13:Blk:=⟨l93,#[Iv n85,Iv n86,Iv n87,.string s22,.slice q34 l94 l95],26,true⟩;aa_ PR 24 #[.pointer p1] w93 λv70 w94=>∃n88,v70=Iv n88∧Fs S w [B0,B2,B13] w94∧aa_ PR 116 #[Iv 8,Iv n88] w94 λv71 w95=>∃n89 n90 n91 s23 q35 l96 l97,v71=.agg #[Iv n89,Iv n90,Iv n91,.string s23,.slice q35 l96 l97]∧Fs S w [B0,B2,B13] w95∧∀l98,w95.heap.size≤l98→∀w96,Fr S w w95 [] [B0,B2,B13,⟨l98,#[Iv n85,Iv n86,Iv n87,.string s22,.slice q34 l94 l95,Iv n89,Iv n90,Iv n91,.string s23,.slice q35 l96 l97],26,true⟩] w96→rn PR (Builtin.append_ #[148,148] 148 #[.slice (some (⟨l1,0,none⟩)) 1 1,.slice (some (⟨l98,0,none⟩)) 2 2]) (λv72 w97=>∃q36 l99 l100,v72=.slice q36 l99 l100∧Fs S w [B0,B2,B13,⟨l98,#[Iv n85,Iv n86,Iv n87,.string s22,.slice q34 l94 l95,Iv n89,Iv n90,Iv n91,.string s23,.slice q35 l96 l97],26,true⟩] w97∧K (.slice q36 l99 l100) w97) w96)∧∀l101,w82.heap.size≤l101→∀w98,Fr S w w82 [] [B0,B2,⟨l101,#[Iv 0,Iv 0,Iv 0,.string ⟨#[]⟩,.slice none 0 0],26,true⟩] w98→aa_ PR 24 #[.pointer p1] w98 λv73 w99=>∃n92,v73=Iv n92∧Fs S w [B0,B2,⟨l101,#[Iv 0,Iv 0,Iv 0,.string ⟨#[]⟩,.slice none 0 0],26,true⟩] w99∧aa_ PR 115 #[.pointer p1,Iv n92] w99 λv74 w100=>∃n93 n94 n95 s24 q37 l102 l103 v75,v74=.tuple #[.agg #[Iv n93,Iv n94,Iv n95,.string s24,.slice q37 l102 l103],v75]∧Fs S w [B0,B2,⟨l101,#[Iv 0,Iv 0,Iv 0,.string ⟨#[]⟩,.slice none 0 0],26,true⟩] w100∧∀w101,Fr S w w100 [l101] [B0,B2,⟨l101,#[Iv n93,Iv n94,Iv n95,.string s24,.slice q37 l102 l103],26,true⟩] w101→let B14:Blk:=⟨l101,#[Iv n93,Iv n94,Iv n95,.string s24,.slice q37 l102 l103],26,true⟩;aa_ PR 24 #[.pointer p1] w101 λv76 w102=>∃n96,v76=Iv n96∧Fs S w [B0,B2,B14] w102∧aa_ PR 116 #[Iv 8,Iv n96] w102 λv77 w103=>∃n97 n98 n99 s25 q38 l104 l105,v77=.agg #[Iv n97,Iv n98,Iv n99,.string s25,.slice q38 l104 l105]∧Fs S w [B0,B2,B14] w103∧∀l106,w103.heap.size≤l106→∀w104,Fr S w w103 [] [B0,B2,B14,⟨l106,#[Iv n93,Iv n94,Iv n95,.string s24,.slice q37 l102 l103,Iv n97,Iv n98,Iv n99,.string s25,.slice q38 l104 l105],26,true⟩] w104→rn PR (Builtin.append_ #[148,148] 148 #[.slice (some (⟨l1,0,none⟩)) 1 1,.slice (some (⟨l106,0,none⟩)) 2 2]) (λv78 w105=>∃q39 l107 l108,v78=.slice q39 l107 l108∧Fs S w [B0,B2,B14,⟨l106,#[Iv n93,Iv n94,Iv n95,.string s24,.slice q37 l102 l103,Iv n97,Iv n98,Iv n99,.string s25,.slice q38 l104 l105],26,true⟩] w105∧K (.slice q39 l107 l108) w105) w104)∧(b3=false→Fs S w [B0,B1,B2] w82∧K (.slice (some (⟨l1,0,none⟩)) 1 1) w82))):aa_ PR 68 ⟨[.pointer (some ⟨k0,0,none⟩),.agg #[.int .i64 m3,.int .i64 m4,.int .i64 m5,.bool t6,.int .i64 m7],.int .i64 m8]⟩ w K:=
 ab_ (okf:=⟨okL,[]⟩) ag_ (args:=[.c (.p 0 k0 true 0),.a [.v (.int .i64 m3),.v (.int .i64 m4),.v (.int .i64 m5),.v (.bool t6),.v (.int .i64 m7)],.c (.v (.int .i64 m8))]) (H:=[⟨k0,.l [.v (.pointer p1),.v (.slice y2 ly2 cy2)],65,true⟩]) (.s (.r ⟨(some [0]),false,[],[]⟩) (.s (.r ⟨(some [0,4]),false,[],[]⟩) (.s (.s (.r ⟨(some [0,4,7]),false,[],[]⟩) (.s .z (.c (.s (.r ⟨(some [0,4,7]),false,[],[]⟩) (.s (.r ⟨(some [0,4,7,9]),false,[],[]⟩) (.s .z (.c (.r ⟨(some [0,4,7]),false,[],[]⟩) .z)))) .z))) (.s (.s (.r ⟨(some [0,4,7]),false,[],[]⟩) (.c (.s (.r ⟨(some [0,7]),false,[],[]⟩) (.r ⟨(some [0,7,11]),false,[],[]⟩)) .z)) .z)))) Go.Proofs.Tryz.func68 rfl ⟨rfl,⟨trivial,trivial,trivial,trivial,trivial,trivial⟩,trivial,trivial⟩ ⟨⟨trivial,⟨trivial,trivial⟩⟩,trivial⟩ hF hS (ae_ (by kernel_rfl) h)
theorem l8_ (k0:Nat) (p1:Option Addr) (y2:Option Addr) (ly2:Nat) (cy2:Nat) (m3:Int) (S:SP) (K:KP) (w:World) (hF:Fs S w [⟨k0,#[.pointer p1,.slice y2 ly2 cy2],65,true⟩] w) (hS:S k0∧True) (h:aa_ PR 65 #[.pointer (some (⟨k0,0,none⟩)),Iv m3] w λv0 w0=>∃b0,v0=.bool b0∧(b0=true→Fs S w [⟨k0,#[.pointer p1,.slice y2 ly2 cy2],65,true⟩] w0∧let B0:Blk:=⟨k0,#[.pointer p1,.slice y2 ly2 cy2],65,true⟩;∀w1,Fr S w w0 [] [B0] w1→aa_ PR 67 #[.pointer (some (⟨k0,0,none⟩))] w1 λv1 w2=>∃n0,v1=Iv n0∧Fs S w [B0] w2∧aa_ PR 66 #[.pointer p1,Iv n0] w2 λv2 w3=>∃v3,v2=v3∧Fs S w [B0] w3∧(v3=.nilIface→∃I0:(Option Addr)→Nat→Nat→Int→Nat→World→Prop,(∃l0,I0 none 0 0 0 l0 w3)∧∀q0 l1 l2 n1,∀D0:Nat→Value,∀l3 w4,I0 q0 l1 l2 n1 l3 w4→Fs S w [B0] w4→(n1<(ly2:Int)→Dr y2 λa0=>(0:Int)≤n1∧n1<(ly2:Int)∧Dr (some (Addr.add a0 (Int.toNat n1*5))) λa1=>∃n2,World.cell? w4 (Addr.add a1 0)=some (Iv n2)∧∃n3,World.cell? w4 (Addr.add a1 1)=some (Iv n3)∧∃n4,World.cell? w4 (Addr.add a1 2)=some (Iv n4)∧∃b1,World.cell? w4 (Addr.add a1 3)=some (.bool b1)∧∃n5,World.cell? w4 (Addr.add a1 4)=some (Iv n5)∧∀l4,w4.heap.size≤l4→∀w5,Fr S w w4 [l4] [B0,⟨l4,#[Iv n2,Iv n3,Iv n4,.bool b1,Iv n5],96,true⟩] w5→aa_ PR 68 #[.pointer (some (⟨k0,0,none⟩)),.agg #[Iv n2,Iv n3,Iv n4,.bool b1,Iv n5],Iv m3] w5 λv4 w6=>∃q1 l5 l6,v4=.slice q1 l5 l6∧Fs S w [B0,⟨l4,#[Iv n2,Iv n3,Iv n4,.bool b1,Iv n5],96,true⟩] w6∧∃I1:(Option Addr)→Nat→Nat→Int→Nat→World→Prop,(∃l7,I1 q0 l1 l2 0 l7 w6)∧∀q2 l8 l9 n6,∀D1:Nat→Value,∀l10 w7,I1 q2 l8 l9 n6 l10 w7→Fs S w [B0] w7→(n6<(l5:Int)→Dr q1 λa2=>(0:Int)≤n6∧n6<(l5:Int)∧Dr (some (Addr.add a2 (Int.toNat n6*5))) λa3=>∃n7,World.cell? w7 (Addr.add a3 0)=some (Iv n7)∧∃n8,World.cell? w7 (Addr.add a3 1)=some (Iv n8)∧∃n9,World.cell? w7 (Addr.add a3 2)=some (Iv n9)∧∃s0,World.cell? w7 (Addr.add a3 3)=some (.string s0)∧∃q3 l11 l12,World.cell? w7 (Addr.add a3 4)=some (.slice q3 l11 l12)∧∀l13,w7.heap.size≤l13→∀l14,w7.heap.size≤l14→∀w8,Fr S w w7 [l13] [B0,⟨l13,#[Iv n7,Iv n8,Iv n9,.string s0,.slice q3 l11 l12],26,true⟩,⟨l14,#[Iv (IntKind.wrap .i64 (n1+1)),Iv n7,Iv n8,Iv n9,.string s0,.slice q3 l11 l12],103,true⟩] w8→rn PR (Builtin.append_ #[42,42] 42 #[.slice q2 l8 l9,.slice (some (⟨l14,0,none⟩)) 1 1]) (λv5 w9=>∃q4 l15 l16,v5=.slice q4 l15 l16∧Fs S w [B0,⟨l13,#[Iv n7,Iv n8,Iv n9,.string s0,.slice q3 l11 l12],26,true⟩,⟨l14,#[Iv (IntKind.wrap .i64 (n1+1)),Iv n7,Iv n8,Iv n9,.string s0,.slice q3 l11 l12],103,true⟩] w9∧∃l17,l17<l10∧I1 q4 l15 l16 (IntKind.wrap .i64 (n6+1)) l17 w9) w8)∧(¬(n6<(l5:Int))→∃l18,l18<l3∧I0 q2 l8 l9 (IntKind.wrap .i64 (n1+1)) l18 w7))∧(¬(n1<(ly2:Int))→K (.tuple #[.slice q0 l1 l2,.nilIface]) w4))∧(∀x0 v6,v3=.iface x0 v6→K (.tuple #[.slice none 0 0,v3]) w3)∧(v3=.nilIface∨∃l19 v7,v3=.iface l19 v7))∧(b0=false→Fs S w [⟨k0,#[.pointer p1,.slice y2 ly2 cy2],65,true⟩] w0∧let B1:Blk:=⟨k0,#[.pointer p1,.slice y2 ly2 cy2],65,true⟩;∃I2:(Option Addr)→Nat→Nat→Int→Nat→World→Prop,(∃l20,I2 none 0 0 0 l20 w0)∧∀q5 l21 l22 n10,∀D2:Nat→Value,∀l23 w10,I2 q5 l21 l22 n10 l23 w10→Fs S w [B1] w10→(n10<(ly2:Int)→Dr y2 λa4=>(0:Int)≤n10∧n10<(ly2:Int)∧Dr (some (Addr.add a4 (Int.toNat n10*5))) λa5=>∃n11,World.cell? w10 (Addr.add a5 0)=some (Iv n11)∧∃n12,World.cell? w10 (Addr.add a5 1)=some (Iv n12)∧∃n13,World.cell? w10 (Addr.add a5 2)=some (Iv n13)∧∃b2,World.cell? w10 (Addr.add a5 3)=some (.bool b2)∧∃n14,World.cell? w10 (Addr.add a5 4)=some (Iv n14)∧∀l24,w10.heap.size≤l24→∀w11,Fr S w w10 [l24] [B1,⟨l24,#[Iv n11,Iv n12,Iv n13,.bool b2,Iv n14],96,true⟩] w11→aa_ PR 68 #[.pointer (some (⟨k0,0,none⟩)),.agg #[Iv n11,Iv n12,Iv n13,.bool b2,Iv n14],Iv m3] w11 λv8 w12=>∃q6 l25 l26,v8=.slice q6 l25 l26∧Fs S w [B1,⟨l24,#[Iv n11,Iv n12,Iv n13,.bool b2,Iv n14],96,true⟩] w12∧∃I3:(Option Addr)→Nat→Nat→Int→Nat→World→Prop,(∃l27,I3 q5 l21 l22 0 l27 w12)∧∀q7 l28 l29 n15,∀D3:Nat→Value,∀l30 w13,I3 q7 l28 l29 n15 l30 w13→Fs S w [B1] w13→(n15<(l25:Int)→Dr q6 λa6=>(0:Int)≤n15∧n15<(l25:Int)∧Dr (some (Addr.add a6 (Int.toNat n15*5))) λa7=>∃n16,World.cell? w13 (Addr.add a7 0)=some (Iv n16)∧∃n17,World.cell? w13 (Addr.add a7 1)=some (Iv n17)∧∃n18,World.cell? w13 (Addr.add a7 2)=some (Iv n18)∧∃s1,World.cell? w13 (Addr.add a7 3)=some (.string s1)∧∃q8 l31 l32,World.cell? w13 (Addr.add a7 4)=some (.slice q8 l31 l32)∧∀l33,w13.heap.size≤l33→∀l34,w13.heap.size≤l34→∀w14,Fr S w w13 [l33] [B1,⟨l33,#[Iv n16,Iv n17,Iv n18,.string s1,.slice q8 l31 l32],26,true⟩,⟨l34,#[Iv (IntKind.wrap .i64 (n10+1)),Iv n16,Iv n17,Iv n18,.string s1,.slice q8 l31 l32],103,true⟩] w14→rn PR (Builtin.append_ #[42,42] 42 #[.slice q7 l28 l29,.slice (some (⟨l34,0,none⟩)) 1 1]) (λv9 w15=>∃q9 l35 l36,v9=.slice q9 l35 l36∧Fs S w [B1,⟨l33,#[Iv n16,Iv n17,Iv n18,.string s1,.slice q8 l31 l32],26,true⟩,⟨l34,#[Iv (IntKind.wrap .i64 (n10+1)),Iv n16,Iv n17,Iv n18,.string s1,.slice q8 l31 l32],103,true⟩] w15∧∃l37,l37<l30∧I3 q9 l35 l36 (IntKind.wrap .i64 (n15+1)) l37 w15) w14)∧(¬(n15<(l25:Int))→∃l38,l38<l23∧I2 q7 l28 l29 (IntKind.wrap .i64 (n10+1)) l38 w13))∧(¬(n10<(ly2:Int))→K (.tuple #[.slice q5 l21 l22,.nilIface]) w10))):aa_ PR 35 ⟨[.pointer (some ⟨k0,0,none⟩),.int .i64 m3]⟩ w K:=
 ab_ (okf:=⟨okL,[]⟩) ag_ (args:=[.c (.p 0 k0 true 0),.c (.v (.int .i64 m3))]) (H:=[⟨k0,.l [.v (.pointer p1),.v (.slice y2 ly2 cy2)],65,true⟩]) (.s .z (.s .z (.s (.s (.r ⟨(some [0]),false,[],[]⟩) (.c (.s (.r ⟨(some [0]),false,[],[(6,[999])]⟩) .z) .z)) (.s .z (.s (.s .z (.b (.l (some [0,31]) (some [0,31]) [(7,.c (.sl)),(33,.c (.int .i64))] [] (.s .z (.s .z (.s (.b (.s (.r ⟨(some [0,31]),false,[],[]⟩) (.s (.r ⟨(some [0,9,31]),false,[],[]⟩) (.b (.l (some [0,31]) (some [0,31]) [(7,.c (.sl)),(43,.c (.int .i64))] [] (.s .z (.s .z (.s (.b (.s (.r ⟨(some [0,31]),false,[],[]⟩) (.r ⟨(some [0,11,31]),false,[],[]⟩))) .z)))))))) .z)))))) .z))))) Go.Proofs.Tryz.func35 rfl ⟨rfl,trivial,trivial⟩ ⟨⟨trivial,⟨trivial,trivial⟩⟩,trivial⟩ hF hS (ae_ (by kernel_rfl) h)
theorem jb_ (k0:Nat) (p1:Option Addr) (y2:Option Addr) (ly2:Nat) (cy2:Nat) (m3:Int) (m4:Int) (m5:Int) (z6:ByteArray) (y7:Option Addr) (ly7:Nat) (cy7:Nat) (S:SP) (K:KP) (w:World) (hF:Fs S w [⟨k0,#[.pointer p1,.slice y2 ly2 cy2],65,true⟩] w) (hS:S k0∧True) (h:∀l0,w.heap.size≤l0→∀l1,w.heap.size≤l1→(∀w0,Fr S w w [] [⟨k0,#[.pointer p1,.slice y2 ly2 cy2],65,true⟩,⟨l0,#[Iv m3,Iv m4,Iv m5,.string z6,.slice y7 ly7 cy7],26,true⟩,⟨l1,#[Iv 0,Iv 0,Iv 0,.string ⟨#[]⟩,.slice none 0 0],26,true⟩] w0→let B0:Blk:=⟨k0,#[.pointer p1,.slice y2 ly2 cy2],65,true⟩;aa_ PR 27 #[.pointer p1,Iv m4,Iv m5] w0 λv0 w1=>∃n0 n1 n2 s0 q0 l2 l3 v1,v0=.tuple #[.agg #[Iv n0,Iv n1,Iv n2,.string s0,.slice q0 l2 l3],v1]∧Fs S w [B0,⟨l0,#[Iv m3,Iv m4,Iv m5,.string z6,.slice y7 ly7 cy7],26,true⟩,⟨l1,#[Iv 0,Iv 0,Iv 0,.string ⟨#[]⟩,.slice none 0 0],26,true⟩] w1∧∀l4,w1.heap.size≤l4→(v1=.nilIface→∀w2,Fr S w w1 [l1,l4] [B0] w2→K (.agg #[Iv n0,Iv n1,Iv n2,.string s0,.slice q0 l2 l3]) w2)∧(∀x0 v2,v1=.iface x0 v2→∀w3,Fr S w w1 [l1,l4] [B0] w3→K (.agg #[Iv 4,Iv m4,Iv m5,.string ⟨#[]⟩,.slice none 0 0]) w3)∧(v1=.nilIface∨∃l5 v3,v1=.iface l5 v3))∧∀l6,w.heap.size≤l6→∀w4,Fr S w w [] [⟨k0,#[.pointer p1,.slice y2 ly2 cy2],65,true⟩,⟨l0,#[Iv m3,Iv m4,Iv m5,.string z6,.slice y7 ly7 cy7],26,true⟩,⟨l1,#[Iv 0,Iv 0,Iv 0,.string ⟨#[]⟩,.slice none 0 0],26,true⟩,⟨l6,#[Iv 0,Iv 0,Iv 0,.string ⟨#[]⟩,.slice none 0 0],26,true⟩] w4→let B1:Blk:=⟨k0,#[.pointer p1,.slice y2 ly2 cy2],65,true⟩;aa_ PR 27 #[.pointer p1,Iv m4,Iv m5] w4 λv4 w5=>∃n3 n4 n5 s1 q1 l7 l8 v5,v4=.tuple #[.agg #[Iv n3,Iv n4,Iv n5,.string s1,.slice q1 l7 l8],v5]∧Fs S w [B1,⟨l0,#[Iv m3,Iv m4,Iv m5,.string z6,.slice y7 ly7 cy7],26,true⟩,⟨l1,#[Iv 0,Iv 0,Iv 0,.string ⟨#[]⟩,.slice none 0 0],26,true⟩,⟨l6,#[Iv 0,Iv 0,Iv 0,.string ⟨#[]⟩,.slice none 0 0],26,true⟩] w5∧(v5=.nilIface→∀w6,Fr S w w5 [l1,l6] [B1] w6→K (.agg #[Iv n3,Iv n4,Iv n5,.string s1,.slice q1 l7 l8]) w6)∧(∀x1 v6,v5=.iface x1 v6→∀w7,Fr S w w5 [l1,l6] [B1] w7→K (.agg #[Iv 4,Iv m4,Iv m5,.string ⟨#[]⟩,.slice none 0 0]) w7)∧(v5=.nilIface∨∃l9 v7,v5=.iface l9 v7)):aa_ PR 78 ⟨[.pointer (some ⟨k0,0,none⟩),.agg #[.int .i64 m3,.int .i64 m4,.int .i64 m5,.string z6,.slice y7 ly7 cy7]]⟩ w K:=
 ab_ (okf:=⟨okL,[]⟩) ag_ (args:=[.c (.p 0 k0 true 0),.a [.v (.int .i64 m3),.v (.int .i64 m4),.v (.int .i64 m5),.v (.string z6),.v (.slice y7 ly7 cy7)]]) (H:=[⟨k0,.l [.v (.pointer p1),.v (.slice y2 ly2 cy2)],65,true⟩]) (.s (.r ⟨(some [0]),false,[],[]⟩) (.s (.r ⟨(some [0,3,4]),false,[],[]⟩) (.s (.s .z (.c (.s (.r ⟨(some [3,4]),false,[],[]⟩) .z) .z)) (.s (.r ⟨(some [4,5]),false,[],[]⟩) .z)))) Go.Proofs.Tryz.func78 rfl ⟨rfl,⟨trivial,trivial,trivial,trivial,trivial,trivial⟩,trivial⟩ ⟨⟨trivial,⟨trivial,trivial⟩⟩,trivial⟩ hF hS (ae_ (by kernel_rfl) h)
theorem l__ (k0:Nat) (p1:Option Addr) (y2:Option Addr) (ly2:Nat) (cy2:Nat) (m3:Int) (m4:Int) (m5:Int) (m6:Int) (z7:ByteArray) (y8:Option Addr) (ly8:Nat) (cy8:Nat) (m9:Int) (S:SP) (K:KP) (w:World) (hF:Fs S w [⟨k0,#[.pointer p1,.slice y2 ly2 cy2],65,true⟩] w) (hS:S k0∧True) (h:∀l0,w.heap.size≤l0→(m3<1→∀w0,Fr S w w [] [⟨k0,#[.pointer p1,.slice y2 ly2 cy2],65,true⟩] w0→K (.tuple #[.slice none 0 0,.iface 80 (Iv 1)]) w0)∧(¬(m3<1)→(m3>(ly2:Int)→∀w1,Fr S w w [] [⟨k0,#[.pointer p1,.slice y2 ly2 cy2],65,true⟩] w1→K (.tuple #[.slice none 0 0,.iface 80 (Iv 1)]) w1)∧(¬(m3>(ly2:Int))→Dr y2 λa0=>(0:Int)≤IntKind.wrap .i64 (m3 - 1)∧IntKind.wrap .i64 (m3 - 1)<(ly2:Int)∧∀w2,Fr S w w [] [⟨k0,#[.pointer p1,.slice y2 ly2 cy2],65,true⟩,⟨l0,#[Iv m4,Iv m5,Iv m6,.string z7,.slice y8 ly8 cy8],26,true⟩] w2→let B1:Blk:=⟨l0,#[Iv m4,Iv m5,Iv m6,.string z7,.slice y8 ly8 cy8],26,true⟩;let B0:Blk:=⟨k0,#[.pointer p1,.slice y2 ly2 cy2],65,true⟩;aa_ PR 77 #[.pointer (some (Addr.add a0 (Int.toNat (IntKind.wrap .i64 (m3 - 1))*5))),.agg #[Iv m4,Iv m5,Iv m6,.string z7,.slice y8 ly8 cy8]] w2 λv0 w3=>∃b0,v0=.bool b0∧(b0=true→Fs S w [B0,B1] w3∧Dr (some (Addr.add a0 (Int.toNat (IntKind.wrap .i64 (m3 - 1))*5))) λa1=>Dr (some a1) λa2=>Dr (some (Addr.add a2 3)) λa3=>StC w3 a3 (.bool true) λw4=>Fs S w [B0,B1] w4∧Dr (some (Addr.add a0 (Int.toNat (IntKind.wrap .i64 (m3 - 1))*5))) λa4=>Dr (some a4) λa5=>Dr (some (Addr.add a5 4)) λa6=>StC w4 a6 (Iv m9) λw5=>Fs S w [B0,B1] w5∧(m4=2→aa_ PR 78 #[.pointer (some (⟨k0,0,none⟩)),.agg #[Iv m4,Iv m5,Iv m6,.string z7,.slice y8 ly8 cy8]] w5 λv1 w6=>∃n0 n1 n2 s0 q0 l1 l2,v1=.agg #[Iv n0,Iv n1,Iv n2,.string s0,.slice q0 l1 l2]∧Fs S w [B0,B1] w6∧∀l3,w6.heap.size≤l3→∀w7,Fr S w w6 [] [B0] w7→K (.tuple #[.slice (some (⟨l3,0,none⟩)) 1 1,.nilIface]) w7)∧(¬(m4=2)→K (.tuple #[.slice none 0 0,.nilIface]) w5))∧(b0=false→Fs S w [B0,B1] w3∧K (.tuple #[.slice none 0 0,.nilIface]) w3)))):aa_ PR 42 ⟨[.pointer (some ⟨k0,0,none⟩),.int .i64 m3,.agg #[.int .i64 m4,.int .i64 m5,.int .i64 m6,.string z7,.slice y8 ly8 cy8],.int .i64 m9]⟩ w K:=
 ab_ (okf:=⟨okL,[]⟩) ag_ (args:=[.c (.p 0 k0 true 0),.c (.v (.int .i64 m3)),.a [.v (.int .i64 m4),.v (.int .i64 m5),.v (.int .i64 m6),.v (.string z7),.v (.slice y8 ly8 cy8)],.c (.v (.int .i64 m9))]) (H:=[⟨k0,.l [.v (.pointer p1),.v (.slice y2 ly2 cy2)],65,true⟩]) (.s (.r ⟨(some [0]),false,[],[]⟩) (.s .z (.s .z (.s (.s (.r ⟨(some [0,6,10]),false,[],[(2,[999])]⟩) .z) (.s (.r ⟨(some [0,6,10]),false,[],[]⟩) (.s (.s .z (.c (.s (.r ⟨(some [0,6]),false,[],[]⟩) .z) .z)) .z)))))) Go.Proofs.Tryz.func42 rfl ⟨rfl,trivial,⟨trivial,trivial,trivial,trivial,trivial,trivial⟩,trivial,trivial⟩ ⟨⟨trivial,⟨trivial,trivial⟩⟩,trivial⟩ hF hS (ae_ (by kernel_rfl) h)
theorem cC_ (y0:Option Addr) (ly0:Nat) (cy0:Nat) (u1:Value) (S:SP) (K:KP) (w:World) (h:aa_ PR 154 #[.slice y0 ly0 cy0,u1] w λv0 w0=>∃n0,v0=Iv n0∧Fs S w [] w0∧(n0≥0→K (.bool true) w0)∧(¬(n0≥0)→K (.bool false) w0)):aa_ PR 113 ⟨[.slice y0 ly0 cy0,u1]⟩ w K:=
 ab_ (okf:=⟨okL,[]⟩) ag_ (args:=[.c (.v (.slice y0 ly0 cy0)),.c (.v u1)]) (H:=[]) (.s .z (.s (.r ⟨(some []),false,[],[]⟩) .z)) Go.Proofs.Tryz.func113 rfl ⟨trivial,trivial,trivial⟩ trivial (Fr.init S w) trivial (ae_ (by kernel_rfl) h)
theorem cM_ (y0:Option Addr) (ly0:Nat) (cy0:Nat) (y1:Option Addr) (ly1:Nat) (cy1:Nat) (S:SP) (K:KP) (w:World) (h:((ly0:Int)=(ly1:Int)→∃I0:Int→Nat→World→Prop,(∃l0,I0 0 l0 w)∧∀n0,∀D0:Nat→Value,∀l1 w0,I0 n0 l1 w0→Fs S w [] w0→(n0<(ly0:Int)→∀w1,Fr S w w0 [] [] w1→∃I1:World→Prop,I1 w1∧Dr y0 λa0=>(0:Int)≤n0∧n0<(ly0:Int)∧Dr (some (Addr.add a0 (Int.toNat n0*1))) λa1=>∃s0,(∀w2,I1 w2→World.cell? w2 a1=some (.string s0))∧Dr y1 λa2=>(0:Int)≤n0∧n0<(ly1:Int)∧Dr (some (Addr.add a2 (Int.toNat n0*1))) λa3=>∃s1,(∀w3,I1 w3→World.cell? w3 a3=some (.string s1))∧(s0=s1→∃l2,l2<l1∧I0 (IntKind.wrap .i64 (n0+1)) l2 w1)∧(¬(s0=s1)→K (.bool false) w1))∧(¬(n0<(ly0:Int))→K (.bool true) w0))∧(¬((ly0:Int)=(ly1:Int))→K (.bool false) w)):aa_ PR 48 ⟨[.slice y0 ly0 cy0,.slice y1 ly1 cy1]⟩ w K:=
 ab_ (okf:=⟨okL,[]⟩) ag_ (args:=[.c (.v (.slice y0 ly0 cy0)),.c (.v (.slice y1 ly1 cy1))]) (H:=[]) (.s .z (.s .z (.s (.s .z (.b (.l (some []) (some []) [(13,.c (.int .i64))] [] (.s .z (.s .z (.s (.b (.s .z (.s (.r ⟨(some []),true,[],[]⟩) .z))) .z)))))) .z))) Go.Proofs.Tryz.func48 rfl ⟨trivial,trivial,trivial⟩ trivial (Fr.init S w) trivial (ae_ (by kernel_rfl) h)
theorem ol_ (k0:Nat) (p1:Option Addr) (m2:Int) (m3:Int) (m4:Int) (g5:Option Nat) (m6:Int) (S:SP) (K:KP) (w:World) (hF:Fs S w [⟨k0,#[.pointer p1,.int .i64 m2,.int .i64 m3,.int .i64 m4,.map g5],108,true⟩] w) (hS:S k0∧True) (h:∀l0,w.heap.size≤l0→∀w0,Fr S w w [] [⟨k0,#[.pointer p1,Iv m2,Iv m3,Iv m4,.map g5],108,true⟩,⟨l0,#[.pointer none,.pointer none],116,true⟩] w0→let B0:Blk:=⟨k0,#[.pointer p1,Iv m2,Iv m3,Iv m4,.map g5],108,true⟩;rn PR (Instr.lookup 106 (.map g5) (Iv m6) true) (λv0 w1=>∃q0 q1 b0,v0=.tuple #[.agg #[.pointer q0,.pointer q1],.bool b0]∧(b0=true→Fs S w [B0,⟨l0,#[.pointer none,.pointer none],116,true⟩] w1∧∀l1,w1.heap.size≤l1→∀w2,Fr S w w1 [l0,l1] [B0] w2→K (.tuple #[.agg #[.pointer q0,.pointer q1],.nilIface]) w2)∧(b0=false→Fs S w [B0,⟨l0,#[.pointer none,.pointer none],116,true⟩] w1∧∀l2,w1.heap.size≤l2→∀w3,Fr S w w1 [l0,l2] [B0] w3→K (.tuple #[.agg #[.pointer none,.pointer none],.iface 80 (Iv 13)]) w3)) w0):aa_ PR 51 ⟨[.pointer (some ⟨k0,0,none⟩),.int .i64 m6]⟩ w K:=
 ab_ (okf:=⟨okL,[]⟩) ag_ (args:=[.c (.p 0 k0 true 0),.c (.v (.int .i64 m6))]) (H:=[⟨k0,.l [.v (.pointer p1),.v (.int .i64 m2),.v (.int .i64 m3),.v (.int .i64 m4),.v (.map g5)],108,true⟩]) (.s (.r ⟨(some [0]),false,[],[]⟩) (.s (.s .z (.c (.s (.r ⟨(some [4]),false,[],[]⟩) .z) .z)) (.s (.r ⟨(some [0,4]),false,[],[]⟩) (.s (.s .z (.c (.s (.r ⟨(some [4]),false,[],[]⟩) .z) .z)) (.s (.r ⟨(some [4,6]),false,[],[]⟩) .z))))) Go.Proofs.Tryz.func51 rfl ⟨rfl,trivial,trivial⟩ ⟨⟨trivial,⟨trivial,⟨trivial,⟨trivial,⟨trivial,trivial⟩⟩⟩⟩⟩,trivial⟩ hF hS (ae_ (by kernel_rfl) h)
theorem kb_ (k0:Nat) (p1:Option Addr) (m2:Int) (m3:Int) (m4:Int) (g5:Option Nat) (m6:Int) (S:SP) (K:KP) (w:World) (hF:Fs S w [⟨k0,#[.pointer p1,.int .i64 m2,.int .i64 m3,.int .i64 m4,.map g5],108,true⟩] w) (hS:S k0∧True) (h:∀l0,w.heap.size≤l0→∀w0,Fr S w w [] [⟨k0,#[.pointer p1,Iv m2,Iv m3,Iv m4,.map g5],108,true⟩,⟨l0,#[Iv 0,Iv 0,Iv 0,.string ⟨#[]⟩,.slice none 0 0],26,true⟩] w0→let B1:Blk:=⟨l0,#[Iv 0,Iv 0,Iv 0,.string ⟨#[]⟩,.slice none 0 0],26,true⟩;let B0:Blk:=⟨k0,#[.pointer p1,Iv m2,Iv m3,Iv m4,.map g5],108,true⟩;aa_ PR 51 #[.pointer (some (⟨k0,0,none⟩)),Iv m6] w0 λv0 w1=>∃q0 q1 v1,v0=.tuple #[.agg #[.pointer q0,.pointer q1],v1]∧Fs S w [B0,B1] w1∧∀l1,w1.heap.size≤l1→(v1=.nilIface→Dr q0 λa0=>Dr (some a0) λa1=>∀w2,Fr S w w1 [l1] [B0,B1,⟨l1,#[.pointer q0,.pointer q1],116,true⟩] w2→Dr (some (Addr.add a1 0)) λa2=>∃n0,World.cell? w2 (Addr.add a2 0)=some (Iv n0)∧∃n1,World.cell? w2 (Addr.add a2 1)=some (Iv n1)∧∃n2,World.cell? w2 (Addr.add a2 2)=some (Iv n2)∧∃q2 l2 l3,World.cell? w2 (Addr.add a2 3)=some (.slice q2 l2 l3)∧∃n3,World.cell? w2 (Addr.add a2 4)=some (Iv n3)∧∃s0,World.cell? w2 (Addr.add a2 5)=some (.string s0)∧aa_ PR 61 #[.agg #[Iv n0,Iv n1,Iv n2,.slice q2 l2 l3,Iv n3,.string s0]] w2 λv2 w3=>∃s1 v3,v2=.tuple #[.string s1,v3]∧Fs S w [B0,B1,⟨l1,#[.pointer q0,.pointer q1],116,true⟩] w3∧∀w4,Fr S w w3 [l0] [B0] w4→K (.tuple #[.agg #[Iv 1,Iv 0,Iv 0,.string s1,.slice none 0 0],v3]) w4)∧(∀x0 v4,v1=.iface x0 v4→∀w5,Fr S w w1 [l0,l1] [B0] w5→K (.tuple #[.agg #[Iv 0,Iv 0,Iv 0,.string ⟨#[]⟩,.slice none 0 0],v1]) w5)∧(v1=.nilIface∨∃l4 v5,v1=.iface l4 v5)):aa_ PR 115 ⟨[.pointer (some ⟨k0,0,none⟩),.int .i64 m6]⟩ w K:=
 ab_ (okf:=⟨okL,[]⟩) ag_ (args:=[.c (.p 0 k0 true 0),.c (.v (.int .i64 m6))]) (H:=[⟨k0,.l [.v (.pointer p1),.v (.int .i64 m2),.v (.int .i64 m3),.v (.int .i64 m4),.v (.map g5)],108,true⟩]) (.s (.r ⟨(some [0]),false,[],[]⟩) (.s (.r ⟨(some [0,4]),false,[],[]⟩) (.s (.s .z (.c (.s (.r ⟨(some [4]),false,[],[]⟩) .z) .z)) (.s (.r ⟨(some [4,6]),false,[],[]⟩) (.s (.r ⟨(some [4]),false,[],[]⟩) .z))))) Go.Proofs.Tryz.func115 rfl ⟨rfl,trivial,trivial⟩ ⟨⟨trivial,⟨trivial,⟨trivial,⟨trivial,⟨trivial,trivial⟩⟩⟩⟩⟩,trivial⟩ hF hS (ae_ (by kernel_rfl) h)
theorem b6_ (m0:Int) (m1:Int) (m2:Int) (z3:ByteArray) (y4:Option Addr) (ly4:Nat) (cy4:Nat) (S:SP) (K:KP) (w:World) (h:∀l0,w.heap.size≤l0→(((ByteArray.size z3:Nat):Int)>6000→∀w0,Fr S w w [] [] w0→K (.bool true) w0)∧(¬(((ByteArray.size z3:Nat):Int)>6000)→((ly4:Int)>30→∀w1,Fr S w w [] [] w1→K (.bool true) w1)∧(¬((ly4:Int)>30)→∀w2,Fr S w w [] [] w2→∃I0:Int→Nat→World→Prop,(∃l1,I0 0 l1 w2)∧∀n0,∀D0:Nat→Value,∀l2 w3,I0 n0 l2 w3→Fs S w [] w3→(n0<(ly4:Int)→Dr y4 λa0=>(0:Int)≤n0∧n0<(ly4:Int)∧Dr (some (Addr.add a0 (Int.toNat n0*1))) λa1=>∃s0,World.cell? w3 a1=some (.string s0)∧(((ByteArray.size s0:Nat):Int)>100→K (.bool true) w3)∧(¬(((ByteArray.size s0:Nat):Int)>100)→∃l3,l3<l2∧I0 (IntKind.wrap .i64 (n0+1)) l3 w3))∧(¬(n0<(ly4:Int))→K (.bool false) w3)))):aa_ PR 29 ⟨[.agg #[.int .i64 m0,.int .i64 m1,.int .i64 m2,.string z3,.slice y4 ly4 cy4]]⟩ w K:=
 ab_ (okf:=⟨okL,[]⟩) ag_ (args:=[.a [.v (.int .i64 m0),.v (.int .i64 m1),.v (.int .i64 m2),.v (.string z3),.v (.slice y4 ly4 cy4)]]) (H:=[]) (.s (.r ⟨(some []),false,[],[]⟩) (.s .z (.s (.s .z (.b (.l (some [16]) (some [16]) [(18,.c (.int .i64))] [] .z))) .z))) Go.Proofs.Tryz.func29 rfl ⟨⟨trivial,trivial,trivial,trivial,trivial,trivial⟩,trivial⟩ trivial (Fr.init S w) trivial (ae_ (by kernel_rfl) h)
theorem bY_ (y0:Option Addr) (ly0:Nat) (cy0:Nat) (S:SP) (K:KP) (w:World) (h:((ly0:Int)<2→K (.slice y0 ly0 cy0) w)∧(¬((ly0:Int)<2)→∃I0:Int→Nat→World→Prop,(∃l0,I0 1 l0 w)∧∀n0,∀D0:Nat→Value,∀l1 w0,I0 n0 l1 w0→Fs S w [] w0→(n0<(ly0:Int)→∀w1,Fr S w w0 [] [] w1→∃I1:World→Prop,I1 w1∧Dr y0 λa0=>(0:Int)≤n0∧n0<(ly0:Int)∧Dr (some (Addr.add a0 (Int.toNat n0*2))) λa1=>∃n1,(∀w2,I1 w2→World.cell? w2 (Addr.add a1 0)=some (Iv n1))∧∃n2,(∀w3,I1 w3→World.cell? w3 (Addr.add a1 1)=some (Iv n2))∧Dr y0 λa2=>(0:Int)≤IntKind.wrap .i64 (n0 - 1)∧IntKind.wrap .i64 (n0 - 1)<(ly0:Int)∧Dr (some (Addr.add a2 (Int.toNat (IntKind.wrap .i64 (n0 - 1))*2))) λa3=>∃n3,(∀w4,I1 w4→World.cell? w4 (Addr.add a3 0)=some (Iv n3))∧∃n4,(∀w5,I1 w5→World.cell? w5 (Addr.add a3 1)=some (Iv n4))∧((n1=n3∧n2=n4∧True)→(0:Int)≤n0∧n0≤(ly0:Int)∧∃I2:Int→Int→Nat→World→Prop,(∃l2,I2 n0 1 l2 w1)∧∀n5 n6,∀D1:Nat→Value,∀l3 w6,I2 n5 n6 l3 w6→Fs S w [] w6→(n6<(((ly0 - (Int.toNat n0)):Nat):Int)→∀w7,Fr S w w6 [] [] w7→∃I3:World→Prop,I3 w7∧Dr (if cy0=Int.toNat n0 then y0 else Option.map (λa4=>Addr.add a4 (Int.toNat n0*2)) y0) λa5=>(0:Int)≤n6∧n6<(((ly0 - (Int.toNat n0)):Nat):Int)∧Dr (some (Addr.add a5 (Int.toNat n6*2))) λa6=>∃n7,(∀w8,I3 w8→World.cell? w8 (Addr.add a6 0)=some (Iv n7))∧∃n8,(∀w9,I3 w9→World.cell? w9 (Addr.add a6 1)=some (Iv n8))∧Dr (if cy0=Int.toNat n0 then y0 else Option.map (λa7=>Addr.add a7 (Int.toNat n0*2)) y0) λa8=>(0:Int)≤IntKind.wrap .i64 (n6 - 1)∧IntKind.wrap .i64 (n6 - 1)<(((ly0 - (Int.toNat n0)):Nat):Int)∧Dr (some (Addr.add a8 (Int.toNat (IntKind.wrap .i64 (n6 - 1))*2))) λa9=>∃n9,(∀w10,I3 w10→World.cell? w10 (Addr.add a9 0)=some (Iv n9))∧∃n10,(∀w11,I3 w11→World.cell? w11 (Addr.add a9 1)=some (Iv n10))∧((n7=n9∧n8=n10∧True)→∃l4,l4<l3∧I2 n5 (IntKind.wrap .i64 (n6+1)) l4 w7)∧(¬(n7=n9∧n8=n10∧True)→Dr (if cy0=Int.toNat n0 then y0 else Option.map (λa10=>Addr.add a10 (Int.toNat n0*2)) y0) λa11=>(0:Int)≤n6∧n6<(((ly0 - (Int.toNat n0)):Nat):Int)∧Dr (some (Addr.add a11 (Int.toNat n6*2))) λa12=>∃n11,World.cell? w7 (Addr.add a12 0)=some (Iv n11)∧∃n12,World.cell? w7 (Addr.add a12 1)=some (Iv n12)∧Dr y0 λa13=>(0:Int)≤n5∧n5<(ly0:Int)∧Dr (some (Addr.add a13 (Int.toNat n5*2))) λa14=>StC w7 (Addr.add a14 0) (Iv n11) λw12=>StC w12 (Addr.add a14 1) (Iv n12) λw13=>Fs S w [] w13∧∃l5,l5<l3∧I2 (IntKind.wrap .i64 (n5+1)) (IntKind.wrap .i64 (n6+1)) l5 w13))∧(¬(n6<(((ly0 - (Int.toNat n0)):Nat):Int))→(0:Int)≤n5∧n5≤(ly0:Int)∧rn PR (Builtin.clear_ #[23] 0 #[.slice (if cy0=Int.toNat n5 then y0 else Option.map (λa15=>Addr.add a15 (Int.toNat n5*2)) y0) (ly0 - (Int.toNat n5)) (cy0 - (Int.toNat n5))]) (λv0 w14=>v0=.tuple #[]∧Fs S w [] w14∧(0:Int)≤n5∧n5≤(cy0:Int)∧K (.slice (if cy0=0 then y0 else Option.map (λa16=>Addr.add a16 0) y0) (Int.toNat n5 - 0) (cy0 - 0)) w14) w6))∧(¬(n1=n3∧n2=n4∧True)→∃l6,l6<l1∧I0 (IntKind.wrap .i64 (n0+1)) l6 w1))∧(¬(n0<(ly0:Int))→K (.slice y0 ly0 cy0) w0))):aa_ PR 174 ⟨[.slice y0 ly0 cy0]⟩ w K:=
 ab_ (okf:=⟨okL,[]⟩) ag_ (args:=[.c (.v (.slice y0 ly0 cy0))]) (H:=[]) (.s .z (.s .z (.s (.s .z (.b (.l (some []) (some []) [(3,.c (.int .i64))] [] (.s .z (.s (.b (.s (.r ⟨(some []),true,[],[]⟩) (.c (.s .z (.s (.s .z (.b (.l (some []) (some []) [(3,.c (.int .i64)),(5,.c (.int .i64))] [] (.s .z (.s (.b (.s (.r ⟨(some []),true,[],[]⟩) (.c (.s (.r ⟨(some []),true,[],[]⟩) .z) .z))) .z))))) (.s (.r ⟨(some []),true,[],[]⟩) .z))) .z))) .z))))) .z))) Go.Proofs.Tryz.func174 rfl ⟨trivial,trivial⟩ trivial (Fr.init S w) trivial (ae_ (by kernel_rfl) h)
end Go.Vc
