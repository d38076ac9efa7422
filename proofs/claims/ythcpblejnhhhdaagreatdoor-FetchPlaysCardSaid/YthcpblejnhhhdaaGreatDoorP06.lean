/-
  A part of the proof of the statement FetchPlaysCardSaid, in Lean: Jn, ShP, Frm, Man, Cut, Sd4, Ct1, Mk1, Sy9, MirP10, ShF, Sh1, MirP12, Sh2, Sh3, Cp, Sh4. By an AI agent.
-/
import Derived.Test.YthcpblejnhhhdaaGreatDoorP05
import Derived.Lib.MakeNoZero
import Derived.Laws.Externs
import Derived.Test.YthcpblejnhhhdaaGreatDoorShelf
import Derived.Test.YthcpblejnhhhdaaGreatDoorP04
import Derived.Test.YthcpblejnhhhdaaGreatDoorP03
import Derived.Test.YthcpblejnhhhdaaGreatDoorP02
set_option linter.unusedSimpArgs false
set_option linter.unusedVariables false
set_option maxRecDepth 100000
namespace Go.Vc
open Go Go.Lib
theorem run_make (n:Nat) (hn:n≤281474976710656) (w:World):∃cs:Array Value,(callFunc F.aW_ #[.int .i64 n] >>= i6_).run PR w=.ok (.slice (some ⟨w.heap.size,0,none⟩) n cs.size) (w.drew.drew.alloc (.cells cs T.uint8))∧n≤cs.size∧(n≤maxLen→cs.size≤maxLen):=by
 obtain ⟨cs,h1,h2,h3⟩:=run_makeNoZero (P:=PR) w #[T.int] T.bh_ T.uint8 cy_ n hn
 refine ⟨cs,?_,h2,h3⟩
 rw [Sem.run_bind,run_callFunc_extern (P:=PR) (f:=F.aW_) (fn:=(PR.funcs[F.aW_]?).getD default) (by kernel_rfl) (by kernel_rfl) (by kernel_rfl) (by kernel_rfl) (e:=Extern.BytealgMakeNoZero.makeNoZero #[T.int] #[T.bh_]) (by kernel_rfl),h1]
 rfl
theorem sT_:∃i,PR.info? T.uint8=some i∧i.size=1:=by obtain ⟨i,h,h1,_⟩:=t_u8;exact ⟨i,h,h1⟩
theorem tW_ {q q2:Option Addr} {l c c2:Nat} {w:World} {K:Value→World→Prop} (hK:K (.int .i64 0) w):rn PR (Builtin.copy_ #[T.bh_,T.bh_] T.int #[.slice q l c,.slice q2 0 c2]) K w:=by
 obtain ⟨i,hi,hk⟩:=sT_
 refine df_ ?_
 unfold Builtin.copy_
 have hmin:Nat.min 0 l=0:=Nat.zero_min l
 simp only [List.getElem?_toArray,List.getElem?_cons_zero,List.getElem?_cons_succ,aH_,ao_ cy_,Builtin.lenOf,a3_,b8_ hi,hmin]
 have e:Builtin.firstCells i.size 0 (.slice q2 0 c2)=pure #[]:=by
  cases q2 with
  | none=>rfl
  | some a=>simp [Builtin.firstCells,loadCells,loadCellsFrom]
 rw [e]
 cases q with
 | none=>exact hK
 | some a=>exact hK
theorem rJ_ {w:World} {b m:Nat} {n:Nat} (hn:n≤70368744177664) (hm:m≤w.heap.size) (h:BldP w b m none none 0 0 []) {K:Value→World→Prop}
  (hK:∀w' p' q' c',BldP w' b m p' q' 0 c' []→Chg (· = b) w w'→K (.tuple #[]) w'):aa_ PR F.d0_ ⟨[.pointer (some ⟨b,0,none⟩),.int .i64 n]⟩ w K:=by
 have h0:Fs (· = b) w [⟨b,#[.pointer none,.slice none 0 0],T.ae_,true⟩] w:=(Fr.init _ w).entry h.blk (λx h=>by cases h) λ_=>rfl
 refine eL_ b none none 0 0 n (· = b) K w h0 ⟨rfl,trivial⟩ ?_
 refine eS_ h.ptr h.blk λw1 p1 hp1 hb1 g1=>?_
 have h1:=h0.mod1 g1 hb1
 refine ⟨rfl,_,_,_,_,h1,λhlt=>by omega,λ_=>⟨λ_ w2 h2=>?_,λ_ w3 h3=>?_⟩⟩
 ·have hb2:=h2.blk 0 rfl
  have h2':Fs (· = b) w2 [⟨b,#[.pointer p1,.slice none 0 0],T.ae_,true⟩] w2:=(Fr.init _ w2).entry hb2 (λx h=>by cases h) λ_=>rfl
  refine eK_ b p1 none 0 0 n (· = b) _ w2 h2' ⟨rfl,trivial⟩ λw4 h4=>?_
  have e:IntKind.wrap .i64 (IntKind.wrap .i64 ((2:Int)*((0:Nat):Int))+(n:Int))=(n:Int):=by
   rw [w64 (n:=(2:Int)*((0:Nat):Int)) (by omega) (by omega),w64 (by omega) (by omega)];omega
  rw [e]
  obtain ⟨cs,hr,hc1,hc2⟩:=run_make n (by omega) w4
  have g5:Grow w4 (w4.drew.drew.alloc (.cells cs T.uint8)):=((Chg.drew w4).trans (Chg.drew _)).trans (Chg.alloc _ _)
  have hnb:(w4.drew.drew.alloc (.cells cs T.uint8)).heap[w4.heap.size]? = some (.cells cs T.uint8 (0,0)):=by
   show (w4.heap.push _)[w4.heap.size]? = _
   simp
  have hbw:b<w4.heap.size:=h4.lt _ List.mem_cons_self
  have hmw:m≤w4.heap.size:=by have:=h2.chg.size;have:=h4.grow.size;omega
  refine hT_ hr ⟨_,_,_,rfl,h4.after g5,by omega,by omega,tW_ ⟨_,rfl,h4.after g5,λw6 h6=>?_⟩⟩
  have g6:Chg (· = b) (w4.drew.drew.alloc (.cells cs T.uint8)) w6:=h6.stp.mono λk _ hk=>by simpa using hk
  have hb6:=h6.blk 0 rfl
  have g26:Chg (· = b) w2 w6:=h6.chg
  refine ⟨rfl,_,_,_,_,h2.mod1 g26 hb6,hK w6 p1 _ _ ⟨hb6,hp1,?_,rfl,Nat.zero_le _,?_,h.lt,?_⟩ ((h1.chg.trans h2.grow.chg λ_ _ h=>h).trans g26 λ_ _ h=>h)⟩
  ·have hq:(if cs.size=0 then some (⟨w4.heap.size,0,none⟩:Addr) else Option.map (λa0=>Addr.add a0 0) (some ⟨w4.heap.size,0,none⟩))=some ⟨w4.heap.size,0,none⟩:=by
    split
    ·rfl
    ·simp [au_]
   have hcs:cs.size≤9223372036854775807:=by have:=hc2 (by unfold maxLen;omega);unfold maxLen at this;omega
   have:w6.heap[w4.heap.size]? = some (.cells cs T.uint8 (0,0)):=g6.get hnb (λe=>by omega)
   simp only [hq,Nat.sub_zero,List.map_nil]
   exact .inr ⟨w4.heap.size,0,cs,rfl,this,by simp,hcs,by simp,λi hi=>by simp at hi⟩
  ·intro a ha hlt
   split at ha
   ·cases ha;simp only [] at hlt;omega
   ·simp [au_] at ha;subst ha;simp only [] at hlt;omega
  ·intro a ha
   split at ha
   ·cases ha;exact ⟨rfl,rfl⟩
   ·simp [au_] at ha;subst ha;exact ⟨rfl,rfl⟩
 ·have hb3:=h3.blk 0 rfl
  exact hK w3 p1 none 0 ⟨hb3,hp1,.nil _ _ _,rfl,Nat.zero_le _,.none _,h.lt,λa h=>by cases h⟩ (h1.chg.trans h3.grow.chg λ_ _ h=>h)
def sv8' (l:List UInt8):Value:=.string (str l)
theorem bE_ (xs:List (List UInt8)) (k:Nat):(xs.take k).flatten.length≤xs.flatten.length:=by
 have:xs.flatten=(xs.take k).flatten++(xs.drop k).flatten:=by rw [← List.flatten_append,List.take_append_drop]
 rw [this,List.length_append];omega
theorem eq_ {xs:List (List UInt8)} {k:Nat} (h:k<xs.length):(xs.take (k+1)).flatten=(xs.take k).flatten++xs[k]:=by
 rw [ar_ h,List.flatten_append];simp
theorem oh_ {q:Option Addr} {l c:Nat} {xs:List (List UInt8)} {w:World} {K:Value→World→Prop} (hs:Sl w q (xs.map sv8')) (hl:l=xs.length) (hlc:l≤c) (hN:l≤1000000)
  (hlen:xs.flatten.length≤35184372088832) (hK:∀w',Grow w w'→K (.string (str xs.flatten)) w'):aa_ PR F.strings_Join ⟨[.slice q l c,.string ⟨#[]⟩]⟩ w K:=by
 subst hl
 have at_:∀ {k:Nat} (h:k<xs.length),(xs.map sv8')[k]? = some (sv8' xs[k]):=λh=>by simp [h]
 refine strings_Join q xs.length c ⟨#[]⟩ S0 K w ⟨λh=>?_,λh0=>⟨λh=>?_,λh1=>⟨λh=>absurd h (by decide),λ_=>?_⟩⟩⟩
 ·have e:xs=[]:=List.eq_nil_of_length_eq_zero (by omega)
  subst e;exact hK w (.refl _ _)
 ·have e:xs.length=1:=by omega
  have h0':0<xs.length:=by omega
  refine hs.rd (v:=sv8' xs[0]) (by simp) (by omega) (at_ h0') λa ha=>⟨str xs[0],ha,?_⟩
  have e2:xs.flatten=xs[0]:=by
   have h:=eq_ h0'
   rw [show (0+1)=xs.length by omega,List.take_length] at h
   simpa using h
  rw [← e2];exact hK w (.refl _ _)
 ·refine ⟨λn i m w'=>∃k:Nat,i=k∧k≤xs.length∧m=xs.length - k∧n=((xs.take k).flatten.length:Int),⟨_,0,rfl,by omega,rfl,by simp⟩,?_⟩
  rintro n i D m w8 ⟨k,rfl,hk,rfl,rfl⟩ hF8
  have hle:=bE_ xs k
  refine ⟨λhlt=>?_,λhge b hb w9 hF9=>?_⟩
  ·have hk':k<xs.length:=by omega
   have hn:=eq_ hk'
   have hle2:=bE_ xs (k+1)
   rw [hn,List.length_append] at hle2
   refine (hs.grow hF8.gr).rd (v:=sv8' xs[k]) (by simp) (by omega) (at_ hk') λa ha=>⟨str xs[k],ha,?_⟩
   rw [ai_]
   refine ⟨λh=>?_,λ_=>⟨_,?_,k+1,wr1 (by omega),by omega,rfl,?_⟩⟩
   ·rw [w64 (by omega) (by omega)] at h;omega
   ·omega
   ·rw [w64 (by omega) (by omega),hn,List.length_append];omega
  ·have e:k=xs.length:=by omega
   subst e
   rw [List.take_length]
   have hb9:=hF9.blk 0 rfl
   have hbl:b<w9.heap.size:=aj_ hb9
   refine rJ_ (n:=xs.flatten.length) (by omega) (Nat.le_refl _) (.new hb9 hbl) λw10 p1 q1 c1 h10 g10=>?_
   have hF10:=hF9.mod1 g10 h10.blk
   refine ⟨rfl,_,_,_,_,hF10,?_⟩
   have h0':0<xs.length:=by omega
   refine (hs.grow hF10.gr).rd (v:=sv8' xs[0]) (by simp) (by omega) (at_ h0') λa ha=>⟨str xs[0],ha,?_⟩
   have t1:=bE_ xs 1
   have f1:(xs.take 1).flatten=xs[0]:=by rw [eq_ h0'];simp
   rw [f1] at t1
   have off0:∀ {q:Option Addr} {bs:List UInt8} {p:Option Addr} {l c:Nat} {w':World},BldP w' b w9.heap.size p q l c bs→∀j,j<w.heap.size→¬(j=b∨am_ q j):=by
    rintro q bs p l c w' h j hj (e | ⟨a,ha,e⟩)
    ·have:=hF9.chg.size;have:=hF8.chg.size;omega
    ·have:=h.off.le a ha;have:=hF9.chg.size;omega
   have hmod:∀ {w1 w2:World} {p q p' q':Option Addr} {l c l' c':Nat} {bs bs':List UInt8},Fs S0 w [⟨b,#[.pointer p,.slice q l c],T.ae_,true⟩] w1→BldP w1 b w9.heap.size p q l c bs→BldP w2 b w9.heap.size p' q' l' c' bs'→Chg (λk=>k=b∨am_ q k) w1 w2→
     Fs S0 w [⟨b,#[.pointer p',.slice q' l' c'],T.ae_,true⟩] w2:=λhF h1 h2 g=>hF.mod g h2.blk (λx hx=>by cases hx) λj hj hs=>absurd hs (off0 h1 j hj)
   refine aZ_ h10 (by have:=g10.size;omega) (by rw [ai_];omega) λw11 p2 q2 l2 c2 h11 g11 hq11=>⟨_,_,rfl,p2,q2,l2,c2,hmod hF10 h10 h11 g11,by omega,by omega,?_⟩
   have hF11:=hmod hF10 h10 h11 g11
   rw [b6_,List.nil_append] at h11
   have hsub:∀ {w':World},Sl w' q (xs.map sv8')→Sl w' (if c=1 then q else Option.map (λx=>Addr.add x 1) q) ((xs.map sv8').drop 1):=λh=>by
    have:=h.sub (c:=c) (a:=1) (b:=xs.length) (by simp) (by simpa using hlc)
    rw [List.take_of_length_le (by simp)] at this
    exact this
   refine ⟨λi p q l c m w'=>∃k:Nat,i=k∧k+1≤xs.length∧m=xs.length - k∧BldP w' b w9.heap.size p q l c (xs.take (k+1)).flatten∧w9.heap.size≤w'.heap.size,⟨_,0,rfl,by omega,rfl,by rw [f1];exact h11,by have:=g10.size;have:=g11.size;omega⟩,?_⟩
   rintro i p q3 l3 c3 D m w12 ⟨k,rfl,hk,rfl,h12,hsz⟩ hF12
   have tk:=bE_ xs (k+1)
   have hl12:=h12.len
   refine ⟨λhlt=>?_,λhge=>?_⟩
   ·have hk':k+1<xs.length:=by omega
    have hn:=eq_ hk'
    have tk2:=bE_ xs (k+2)
    rw [show k+2=(k+1)+1 by omega,hn,List.length_append] at tk2
    refine (hsub (hs.grow hF12.gr)).rd (v:=sv8' xs[k+1]) (by simp) (by omega) ?_ λa ha=>⟨str xs[k+1],ha,?_⟩
    ·rw [Int.toNat_natCast,List.getElem?_drop,Nat.add_comm];exact at_ hk'
    refine aZ_ h12 hsz (by show l3+0≤_;omega) λw13 p4 q4 l4 c4 h13 g13 hq13=>⟨_,_,rfl,p4,q4,l4,c4,hmod hF12 h12 h13 g13,?_⟩
    have hF13:=hmod hF12 h12 h13 g13
    have e0:(⟨#[]⟩:ByteArray).data.toList=[]:=rfl
    rw [e0,List.append_nil] at h13
    have hl13:=h13.len
    refine aZ_ h13 (by have:=g13.size;omega) (by rw [ai_];omega) λw14 p5 q5 l5 c5 h14 g14 hq14=>⟨_,_,rfl,p5,q5,l5,c5,hmod hF13 h13 h14 g14,xs.length - (k+1),by omega,k+1,wr1 (by omega),by omega,rfl,?_,by have:=g13.size;have:=g14.size;omega⟩
    rw [b6_] at h14
    rw [hn];exact h14
   ·have e:k+1=xs.length:=by omega
    rw [e,List.take_length] at h12
    refine dV_ h12 λw13 g13=>⟨_,rfl,hF12.step g13 (λx hx ⟨a,ha,e⟩=>?_) (λj hj hj'=>off0 h12 j hj (.inr hj')),?_⟩
    ·simp at hx;subst hx
     have:=h12.off.le a ha;simp only [] at e;omega
    ·exact hK w13 (Chg.trans hF12.gr g13 λj hj hj'=>absurd (.inr hj') (off0 h12 j hj))
end Go.Vc
namespace Go.Vc
open Go
theorem bj_ {f:FuncId} {args:Array Value} {w:World} {Q:Ending→World→Prop} {K:Value→World→Prop} (h:Calls PR f args w Q) (k:∀e w',Q e w'→∃v,e=.returned v∧K v w'):aa_ PR f args w K:=Calls.mono h k
theorem lE_ {x:Int} (h0:0≤x) (h1:x≤18446744073709551615) {w:World} {K:Value→World→Prop} (hK:K (.int .i64 (Lib.bitLen x.toNat)) w):aa_ PR F.kg_ ⟨[.int .u64 x]⟩ w K:=
 bj_ (Go.Proofs.Tryz.bits_Len x w h0 h1) λe w' ⟨he,hw⟩=>⟨_,he,by subst hw;exact hK⟩
end Go.Vc
namespace Go.Vc
open Go
def ge_ (S:List UInt8→Nat) (s:List UInt8):List UInt8:=aE_ 4 (S (aE_ 2 s.length++s))++aE_ 2 s.length++s
theorem hS_ (S:List UInt8→Nat) (s:List UInt8):(ge_ S s).length=6+s.length:=by
 simp [ge_,a6_];omega
end Go.Vc
namespace Go.Vc
open Go
structure Man where
 version:Int
 nodes:Int
 edges:Int
 shards:List (Int × Int)
 blocks:Int
 root:List UInt8
def gV_ (total:Int):Int:=if total<1 then 0 else (total - 1) / 64+1
def Man.total (m:Man):Int:=(m.shards.map (·.2)).sum
def gY_ (nodes:Int):Option Int→List (Int × Int)→Prop
 | _,[]=>True
 | none,(f,b) :: r=>f=0∧3≤b∧b≤1048576∧gY_ nodes (some f) r
 | some p,(f,b) :: r=>p+1≤f∧f≤nodes - 1∧3≤b∧b≤1048576∧gY_ nodes (some f) r
structure Man.ok (m:Man):Prop where
 version:1≤m.version∧m.version≤1099511627776
 nodes:0≤m.nodes∧m.nodes≤4096
 edges:0≤m.edges∧m.edges≤20000
 shards:m.shards.length≤64∧(m.shards=[]↔m.nodes=0)
 tab:gY_ m.nodes none m.shards
 blocks:m.blocks=gV_ m.total∧m.blocks≤2048
 root:m.root.length=32
def ji_ (l:List (Int × Int)):List Int:=l.flatMap λx=>[x.1,x.2]
def Man.nums (m:Man):List Int:=[m.version,m.nodes,m.edges,(m.shards.length:Int)]++ji_ m.shards++[m.blocks]
def cb_ (l:List Int):List UInt8:=l.flatMap λn=>af_ n.toNat
def jh_ (m:Man):List UInt8:=cb_ m.nums++(af_ m.root.length++m.root)
def rdN:Nat→List UInt8→Option (List Int × List UInt8)
 | 0,l=>some ([],l)
 | k+1,l=>match a2_ 0 0 l with
  | .inr _=>none
  | .inl (x,n)=>match rdN k (l.drop n) with
   | none=>none
   | some (xs,r)=>some ((x:Int) :: xs,r)
theorem gj_ (l:List (Int × Int)):(ji_ l).length=2*l.length:=by
 induction l with
 | nil=>rfl
 | cons x l ih=>simp only [ji_,List.flatMap_cons,List.length_append,List.length_cons,List.length_nil] at ih ⊢;omega
theorem cs_ {nodes:Int} (hn:nodes≤4096):∀ {l:List (Int × Int)} {p:Option Int},(∀x,p=some x→0≤x)→gY_ nodes p l→∀x∈l,0≤x.1∧x.1≤4096∧3≤x.2∧x.2≤1048576
 | [],_,_,_,x,hx=>by cases hx
 | (f,b) :: l,none,hp,h,x,hx=>by
  obtain ⟨rfl,h1,h2,h3⟩:=h
  rcases List.mem_cons.1 hx with rfl | hx
  ·exact ⟨by simp,by simp,h1,h2⟩
  ·exact cs_ hn (λy hy=>by cases hy;omega) h3 x hx
 | (f,b) :: l,some p,hp,h,x,hx=>by
  obtain ⟨h0,h0',h1,h2,h3⟩:=h
  have:=hp p rfl
  rcases List.mem_cons.1 hx with rfl | hx
  ·exact ⟨by simp only [];omega,by simp only [];omega,h1,h2⟩
  ·exact cs_ hn (λy hy=>by cases hy;omega) h3 x hx
theorem Man.ok.nums {m:Man} (h:m.ok):∀n∈m.nums,0≤n∧n≤72057594037927935:=by
 intro n hn
 have hv:=h.version
 have hno:=h.nodes
 have he:=h.edges
 have hs:=h.shards.1
 have hb:=h.blocks
 have hb0:0≤gV_ m.total:=by unfold gV_;split <;> omega
 unfold Man.nums at hn
 simp only [List.mem_append,List.mem_cons,List.not_mem_nil,or_false] at hn
 rcases hn with ((rfl | rfl | rfl | rfl) | hn) | rfl
 ·omega
 ·omega
 ·omega
 ·omega
 ·obtain ⟨x,hx,hn⟩:=List.mem_flatMap.1 hn
  have:=cs_ hno.2 (λ_ h=>by cases h) h.tab x hx
  simp only [List.mem_cons,List.not_mem_nil,or_false] at hn
  rcases hn with rfl | rfl <;> omega
 ·omega
end Go.Vc
namespace Go.Vc
open Go
def a4_ (total:Nat):Nat:=(total+63) / 64
theorem jC_ (total:Nat):gV_ total=(a4_ total:Nat):=by
 unfold gV_ a4_
 split <;> omega
def cutL (l:List UInt8):List (List UInt8):=(List.range (a4_ l.length)).map λi=>(l.drop (64*i)).take 64
theorem no_ (l:List UInt8):∀k,((List.range k).map λi=>(l.drop (64*i)).take 64).flatten=l.take (64*k)
 | 0=>by simp
 | k+1=>by
  rw [List.range_succ,List.map_append,List.flatten_append,no_ l k]
  simp only [List.map_cons,List.map_nil,List.flatten_cons,List.flatten_nil,List.append_nil]
  rw [show 64*(k+1)=64*k+64 by omega,List.take_add]
theorem kE_ (l:List UInt8):(cutL l).flatten=l:=by
 unfold cutL
 rw [no_]
 exact List.take_of_length_le (by unfold a4_;omega)
theorem iF_ (l:List UInt8):(cutL l).length=a4_ l.length:=by simp [cutL]
def ah_ (n:Nat):Nat:=2 ^ (Nat.log2 (n - 1))
theorem c6_ {n:Nat} (h:2≤n):1≤ah_ n∧ah_ n<n:=by
 unfold ah_
 have:=Nat.log2_self_le (n:=n - 1) (by omega)
 exact ⟨Nat.one_le_two_pow,by omega⟩
def a5_ (N:List UInt8→List UInt8→List UInt8) (leaves:List (List UInt8)):Nat→Nat→Nat→List UInt8
 | 0,_,_=>[]
 | f+1,a,n=>if n=1 then leaves.getD a [] else N (a5_ N leaves f a (ah_ n)) (a5_ N leaves f (a+ah_ n) (n - ah_ n))
theorem ct_ (N:List UInt8→List UInt8→List UInt8) (leaves:List (List UInt8)):∀(f g a n:Nat),1≤n→n≤f→n≤g→a5_ N leaves f a n=a5_ N leaves g a n
 | 0,_,_,_,h,h',_=>absurd h (by omega)
 | _+1,0,_,_,h,_,h'=>absurd h (by omega)
 | f+1,g+1,a,n,h,hf,hg=>by
  unfold a5_
  by_cases h1:n=1
  ·rw [if_pos h1,if_pos h1]
  ·rw [if_neg h1,if_neg h1]
   have:=c6_ (n:=n) (by omega)
   rw [ct_ N leaves f g a (ah_ n) (by omega) (by omega) (by omega),ct_ N leaves f g (a+ah_ n) (n - ah_ n) (by omega) (by omega) (by omega)]
def fF_ (H:List UInt8→List UInt8) (blocks:List (List UInt8)):List UInt8:=
 if blocks=[] then H [2] else a5_ (λa b=>H (1 :: (a++b))) (blocks.map λs=>H (0 :: s)) blocks.length 0 blocks.length
theorem d4_ {H:List UInt8→List UInt8} (hH:∀l,(H l).length=32) (leaves:List (List UInt8)) (hl:∀x∈leaves,x.length=32):∀(f a n:Nat),1≤n→n≤f→a+n≤leaves.length→
  (a5_ (λa b=>H (1 :: (a++b))) leaves f a n).length=32
 | 0,_,_,h,h',_=>absurd h (by omega)
 | f+1,a,n,h,hf,hn=>by
  unfold a5_
  split
  ·have:a<leaves.length:=by omega
   have e:leaves.getD a []=leaves[a]:=by simp [List.getD,this]
   rw [e]
   exact hl _ (List.getElem_mem this)
  ·exact hH _
theorem pc_ {H:List UInt8→List UInt8} (hH:∀l,(H l).length=32) (blocks:List (List UInt8)):(fF_ H blocks).length=32:=by
 unfold fF_
 split
 ·exact hH _
 ·rename_i h
  have:1≤blocks.length:=List.length_pos_iff.2 h
  exact d4_ hH _ (λx hx=>by obtain ⟨y,_,rfl⟩:=List.mem_map.1 hx;exact hH _) _ _ _ this (Nat.le_refl _) (by simp)
end Go.Vc
namespace Go.Vc
open Go
def aP_ (each nodes i:Nat):Nat:=min each (nodes - i*each)
def eN_ (B Tg:List Int) (each nodes i:Nat):List UInt8:=gP_ (i*each:Nat) (λj=>rowOf B Tg (i*each+j)) (aP_ each nodes i)
def bi_ (B Tg:List Int) (each nodes:Nat) (k:Nat):List (List UInt8):=(List.range k).map (eN_ B Tg each nodes)
theorem e6_ (B Tg:List Int) (each nodes k:Nat):bi_ B Tg each nodes (k+1)=bi_ B Tg each nodes k++[eN_ B Tg each nodes k]:=by simp [bi_,List.range_succ]
theorem ds_ (B Tg:List Int) (each nodes k:Nat):(bi_ B Tg each nodes k).length=k:=by simp [bi_]
theorem pg_ (B Tg:List Int) {each nodes k i:Nat} (h:i<k):(bi_ B Tg each nodes k)[i]'(by rw [ds_];exact h)=eN_ B Tg each nodes i:=by simp [bi_]
theorem kM_ {w:World} {q q2:Option Addr} {l c l2 c2:Nat} {xs ys:List (List UInt8)} {K:Value→World→Prop}
  (ho:Own T.string 1 w q c (xs.map sv8')) (hl:l=xs.length) (hlc:l≤c) (hs:Sl w q2 (ys.map sv8')) (hl2:l2=ys.length) (hroom:l+l2≤4398046511104)
  (hK:∀q' c' w',Own T.string 1 w' q' c' ((xs++ys).map sv8')→l+l2≤c'→Chg (am_ q) w w'→(∀a,q'=some a→q=some a∨a=⟨w.heap.size,0,none⟩)→K (.slice q' (l+l2) c') w') :
  rn PR (Builtin.append_ #[T.aR_,T.aR_] T.aR_ #[.slice q l c,.slice q2 l2 c2]) K w:=
 app1 kX_ oQ_ rfl (by decide) ho (by simp [hl]) hlc hs (by simp [hl2]) (λy hy=>by obtain ⟨b,_,rfl⟩:=List.mem_map.1 hy;rfl) (by omega) λq' c' w' h=>hK q' c' w' (by simpa using h)
theorem oa_ {w:World} {b nodes:Nat} {B Tg:List Int} (h:hg_ w b nodes B Tg) (hL:CsrL nodes B Tg) (hn:nodes≤4096) {each:Nat} (he:1≤each) (he2:each≤4096) {K:Value→World→Prop}
  (hK:∀w' q c k,Grow w w'→nodes≤k*each→(∀i,i<k→i*each<nodes)→k≤64→Sl w' q ((bi_ B Tg each nodes k).map sv8')→k≤c→K (.tuple #[.slice q k c,.nilIface]) w')
  (hE:64*each<nodes→K (.tuple #[.slice none 0 0,.iface T.ak_ (.int .i64 6)]) w) :
  aa_ PR F.e3_ ⟨[.pointer (some ⟨b,0,none⟩),.int .i64 each]⟩ w K:=by
 have hdiv:IntKind.wrap .i64 (Int.tdiv (IntKind.wrap .i64 (IntKind.wrap .i64 ((nodes:Int)+each) - 1)) each)=(((nodes+each - 1) / each:Nat):Int):=by
  rw [w64 (n:=(nodes:Int)+each) (by omega) (by omega),w64 (n:=(nodes:Int)+each - 1) (by omega) (by omega),Int.tdiv_eq_ediv_of_nonneg (by omega)]
  have e:(nodes:Int)+each - 1=((nodes+each - 1:Nat):Int):=by omega
  rw [e,← Int.natCast_ediv]
  have:=Nat.div_le_self (nodes+each - 1) each
  generalize (nodes+each - 1) / each=d at this ⊢
  exact w64 (by omega) (by omega)
 have hdm:=Nat.div_add_mod (nodes+each - 1) each
 have hmod:=Nat.mod_lt (nodes+each - 1) he
 refine e3_ _ each S0 K w ⟨(λh=>by cases h),λa0 ha=>⟨(λh=>by omega),λ_=>⟨λhlt4=>b4_ h hn ⟨_,rfl,.init _ w,by omega,?_⟩,λhge4=>?_⟩⟩⟩
 rw [hdiv]
 refine ⟨λhgt=>hE ?_,λhle=>?_⟩
 rotate_left
 have h64:nodes≤64*each:=by
  have:(nodes+each - 1) / each≤64:=by omega
  have h2:each*((nodes+each - 1) / each)≤each*64:=Nat.mul_le_mul_left _ this
  omega
 rotate_left
 have h64:nodes≤64*each:=by omega
 rotate_left
 ·have:65≤(nodes+each - 1) / each:=by omega
  have h2:each*65≤each*((nodes+each - 1) / each):=Nat.mul_le_mul_left _ this
  omega
 all_goals
  refine ⟨λq l c first m w'=>∃k:Nat,first=((k*each:Nat):Int)∧m=65 - k∧k≤64∧(∀i,i<k→i*each<nodes)∧Own T.string 1 w' q c ((bi_ B Tg each nodes k).map sv8')∧k=l∧l≤c∧Off (λj=>j<w.heap.size) q,⟨_,0,by simp,rfl,by omega,(λi h=>by omega),.nil _ _ _,rfl,Nat.le_refl _,.none _⟩,?_⟩
  rintro q l c first D m w1 ⟨k,rfl,rfl,hk,hcov,ho,rfl,hlc,hof⟩ hF
  have hmul:k*each≤64*each:=Nat.mul_le_mul_right _ hk
  refine b4_ (h.grow hF.gr) hn ⟨_,rfl,hF,λhlt=>?_,λhge=>hK w1 q c k hF.gr (by omega) hcov hk ho.sl hlc⟩
  refine b4_ (h.grow hF.gr) hn ⟨_,rfl,hF,?_⟩
  have hlt':k*each<nodes:=by omega
  have em:(if IntKind.wrap .i64 ((nodes:Int) - ((k*each:Nat):Int))<(each:Int) then IntKind.wrap .i64 ((nodes:Int) - ((k*each:Nat):Int)) else (each:Int))=((aP_ each nodes k:Nat):Int):=by
   rw [w64 (by omega) (by omega)];unfold aP_;split <;> omega
  rw [em]
  have hmo:k*each+aP_ each nodes k≤nodes:=by unfold aP_;omega
  have hm1:1≤aP_ each nodes k:=by unfold aP_;omega
  refine j0_ (h.grow hF.gr) hL hn hmo hm1 λw4 g4=>⟨_,_,rfl,hF.after g4,λ_=>?_,(λt x h=>by cases h),.inl rfl⟩
  intro bt hbt w5 hF5
  have g5:Grow w4 w5:=hF5.grow
  have hk64:k<64:=by
   rcases Nat.lt_or_ge k 64 with h | h
   ·exact h
   ·have:64*each≤k*each:=Nat.mul_le_mul_right _ h
    omega
  refine kM_ ((ho.grow g4).grow g5) (by rw [ds_]) hlc (ys:=[eN_ B Tg each nodes k]) (hF5.sl 0 rfl) rfl (by omega) λq' c' w6 ho6 hc6 g6 hq6=>?_
  have s14:=g4.size
  have s45:=g5.size
  have hF6:=hF5.app2 g6 w.heap.size w4.heap.size hof (λa ha=>by have:=ho.lt a ha;omega) (λy hy=>by simp at hy;subst hy;exact .inr hbt) (Nat.le_refl _)
  refine ⟨_,_,_,rfl,hF6,65 - (k+1),by omega,k+1,?_,rfl,by omega,?_,?_,rfl,hc6,hof.next hq6 (by have:=hF.chg.size;omega)⟩
  ·have:¬(4096:Int)<each:=by omega
   rw [if_neg this,w64 (by omega) (by omega),Nat.succ_mul];omega
  ·intro i hi
   by_cases e:i=k
   ·subst e;exact hlt'
   ·exact hcov i (by omega)
  ·rw [e6_];exact ho6
theorem kY_:∃i,PR.info? T.aS_=some i∧i.size=2∧i.bytes=16∧i.zero=some (.agg #[.int .i64 0,.int .i64 0]):=by
 have h:(match PR.info? T.aS_ with | some i=>i.size == 2 && i.bytes == 16 && (match i.zero with | some (.agg ⟨[.int .i64 0,.int .i64 0]⟩)=>true | _=>false) | none=>false)=true:=by kernel_rfl
 split at h
 ·rename_i i hi
  simp only [Bool.and_eq_true,beq_iff_eq] at h
  refine ⟨i,hi,h.1.1,h.1.2,?_⟩
  have h2:=h.2
  split at h2
  ·assumption
  ·cases h2
 ·cases h
theorem mY_:PR.underlying T.k9_=some (.slice T.aS_):=by kernel_rfl
theorem rC_ {ts e:TypeId} (hu:PR.underlying ts=some (.slice e)) (ht:∃i,PR.info? e=some i∧i.size=2∧i.bytes=16∧i.zero=some (.agg #[.int .i64 0,.int .i64 0])) {w:World} {q q2:Option Addr} {l c l2 c2:Nat} {xs ys:List (Int × Int)} {K:Value→World→Prop}
  (ho:Own e 2 w q c (encE xs)) (hl:l=xs.length) (hlc:l≤c) (hs:Sl w q2 (encE ys)) (hl2:l2=ys.length) (hroom:l+l2≤4398046511104)
  (hK:∀q' c' w',Own e 2 w' q' c' (encE (xs++ys))→l+l2≤c'→Chg (am_ q) w w'→(∀a,q'=some a→q=some a∨a=⟨w.heap.size,0,none⟩)→K (.slice q' (l+l2) c') w') :
  rn PR (Builtin.append_ #[ts,ts] ts #[.slice q l c,.slice q2 l2 c2]) K w:=by
 obtain ⟨i,hi,hk,hb,hz⟩:=ht
 refine df_ <| f6_ (i:=i) (k:=2) (by_:=16) hu hu hi hz hk hb rfl (by decide) ho (by rw [aI_,hl]) hlc hs (by rw [aI_,hl2]) (λy hy=>nn_ hy) (by omega) λq' c' w' h=>hK q' c' w' ?_
 have:encE (xs++ys)=encE xs++encE ys:=by simp [encE]
 rw [this];exact h
def dn_ (B Tg:List Int) (each nodes:Nat) (k:Nat):List (Int × Int):=(List.range k).map λi=>(((i*each:Nat):Int),((eN_ B Tg each nodes i).length:Int))
theorem hE_ (B Tg:List Int) (each nodes k:Nat):dn_ B Tg each nodes (k+1)=dn_ B Tg each nodes k++[(((k*each:Nat):Int),((eN_ B Tg each nodes k).length:Int))]:=by simp [dn_,List.range_succ]
theorem jc_ (B Tg:List Int) (each nodes k:Nat):(dn_ B Tg each nodes k).length=k:=by simp [dn_]
theorem n__ {nodes:Nat} {B Tg:List Int} (hL:CsrL nodes B Tg) (hn:nodes≤4096) {each:Nat} (he:1≤each) {k:Nat} (hk:k≤64) (hcov:∀i,i<k→i*each<nodes) {w:World} {q:Option Addr} {c:Nat} (hs:Sl w q ((bi_ B Tg each nodes k).map sv8')) {K:Value→World→Prop}
  (hK:∀w' q' c',Grow w w'→Own T.aS_ 2 w' q' c' (encE (dn_ B Tg each nodes k))→k≤c'→Off (λj=>j<w.heap.size) q'→K (.tuple #[.slice q' k c',.nilIface]) w') :
  aa_ PR F.e2_ ⟨[.int .i64 nodes,.slice q k c]⟩ w K:=by
 refine e2_ nodes q k c S0 K w ⟨λq' l c' i m w'=>∃j:Nat,i=j∧j≤k∧m=k - j∧Own T.aS_ 2 w' q' c' (encE (dn_ B Tg each nodes j))∧j=l∧l≤c'∧Off (λx=>x<w.heap.size) q',⟨_,0,rfl,by omega,rfl,.nil _ _ _,rfl,Nat.le_refl _,.none _⟩,?_⟩
 rintro q' l c' i D m w1 ⟨j,rfl,hj,rfl,ho,rfl,hlc,hof⟩ hF
 refine ⟨λhlt=>?_,λhge=>?_⟩
 ·have hj':j<k:=by omega
  have hc:=hcov j hj'
  have hmo:j*each+aP_ each nodes j≤nodes:=by unfold aP_;omega
  have hm1:1≤aP_ each nodes j:=by unfold aP_;omega
  refine (hs.grow hF.gr).rd (v:=sv8' (eN_ B Tg each nodes j)) (by simp [ds_]) (by omega) ?_ λa ha=>⟨_,ha,?_⟩
  ·rw [Int.toNat_natCast,List.getElem?_map,List.getElem?_eq_getElem (by rw [ds_];exact hj'),pg_ _ _ hj'];rfl
  have hR:∀x,x<aP_ each nodes j→e__ (nodes:Int) ((λx=>rowOf B Tg (j*each+x)) x):=λx hx=>hL.row _ (by omega)
  have hpl:=jg_ hn hmo hR
  refine k__ hn hmo hm1 hR λw2 qr nr cr g2=>⟨_,_,_,_,_,rfl,hF.after g2,λb6 hb6=>⟨λ_=>?_,(λt x h=>by cases h),.inl rfl⟩⟩
  intro b7 hb7 w3 hF3
  have g23:Chg (· = b6) w2 w3:=hF3.stp.mono λi _ hi=>by simpa using hi
  have s12:=g2.size
  have ho3:Own T.aS_ 2 w3 q' c' (encE (dn_ B Tg each nodes j)):=(ho.grow g2).keep g23 λa ha e=>by have:=ho.lt a ha;have e':a.block=b6:=e;omega
  have hs7:=hF3.sl 1 rfl
  rw [ai_] at hs7
  refine rC_ mY_ kY_ ho3 (by rw [jc_]) hlc (ys:=[(((j*each:Nat):Int),((eN_ B Tg each nodes j).length:Int))]) hs7 rfl (by omega) λq2 c2 w4 ho4 hc4 g4 hq4=>?_
  have hF4:=hF3.app2 g4 w.heap.size w2.heap.size hof (λa ha=>by have:=ho.lt a ha;omega) (λy hy=>by
   rcases List.mem_cons.1 hy with rfl | hy
   ·exact .inr hb6
   ·simp at hy;subst hy;exact .inr hb7) (Nat.le_refl _)
  refine ⟨_,_,_,rfl,hF4,k - (j+1),by omega,j+1,wr1 (by omega),by omega,rfl,?_,rfl,hc4,hof.next hq4 (by have:=hF3.chg.size;omega)⟩
  rw [hE_];exact ho4
 ·have e:j=k:=by omega
  subst e
  exact hK w1 q' c' hF.gr ho hlc hof
end Go.Vc
namespace Go.Vc
open Go
theorem gO_ {n:Nat} (hn:n≤1099511627776) {w:World} {K:Value→World→Prop} (hK:K (.int .i64 (a4_ n)) w):aa_ PR F.fu_ ⟨[.int .i64 (n:Int)]⟩ w K:=by
 refine fu_ n S0 K w ⟨λh=>?_,λh=>?_⟩
 ·have:a4_ n=0:=by unfold a4_;omega
  rw [this] at hK;exact hK
 ·rw [w64 (n:=(n:Int) - 1) (by omega) (by omega),Int.tdiv_eq_ediv_of_nonneg (by omega),w64 (n:=((n:Int) - 1) / 64) (by omega) (by omega),w64 (by omega) (by omega)]
  have:((n:Int) - 1) / 64+1=(a4_ n:Nat):=by unfold a4_;omega
  rw [this];exact hK
theorem qk_ {n i:Nat} (hn:n≤1099511627776) (hi:i<a4_ n) {w:World} {K:Value→World→Prop} (hK:K (.int .i64 (min 64 (n - i*64):Nat)) w):aa_ PR F.gJ_ ⟨[.int .i64 (n:Int),.int .i64 (i:Int)]⟩ w K:=by
 have hi':i*64<n:=by unfold a4_ at hi;omega
 refine gJ_ n i S0 K w ⟨λh=>by omega,λ_=>?_⟩
 refine gO_ hn ⟨_,rfl,.init _ w,λh=>by omega,λ_=>?_⟩
 rw [w64 (n:=(i:Int)*64) (by omega) (by omega),w64 (n:=(n:Int) - (i:Int)*64) (by omega) (by omega)]
 have:(if (n:Int) - (i:Int)*64<64 then (n:Int) - (i:Int)*64 else 64)=((min 64 (n - i*64):Nat):Int):=by split <;> omega
 rw [this];exact hK
theorem mw_ (s:List UInt8) (a b:Nat):(str s).extract a b=str ((s.drop a).take (b - a)):=by
 apply ByteArray.ext
 rw [ByteArray.data_extract]
 apply Array.toList_inj.1
 simp [str]
def cutK (l:List UInt8) (k:Nat):List (List UInt8):=(List.range k).map λi=>(l.drop (64*i)).take 64
theorem rK_ {q:Option Addr} {n c:Nat} {xs:List (List UInt8)} {w:World} (hs:Sl w q (xs.map sv8')) (hl:n=xs.length) (hlc:n≤c) (hN:n≤1000000) (hlen:xs.flatten.length≤1099511627776) {K:Value→World→Prop}
  (hK:∀w' q' c',Grow w w'→Own T.string 1 w' q' c' ((cutL xs.flatten).map sv8')→(cutL xs.flatten).length≤c'→Off (λj=>j<w.heap.size) q'→K (.slice q' (cutL xs.flatten).length c') w'):aa_ PR F.iK_ ⟨[.slice q n c]⟩ w K:=by
 refine iK_ q n c S0 K w ?_
 refine oh_ hs hl hlc hN (by omega) λw1 g1=>⟨_,rfl,(Fr.init _ w).after g1,?_⟩
 generalize xs.flatten=l at *
 rw [ai_]
 refine gO_ hlen ⟨_,rfl,(Fr.init _ w).after g1,?_⟩
 refine ⟨λq' n' c' i m w'=>∃k:Nat,i=k∧k≤a4_ l.length∧m=a4_ l.length - k∧Own T.string 1 w' q' c' ((cutK l k).map sv8')∧k=n'∧n'≤c'∧Off (λj=>j<w.heap.size) q',⟨_,0,rfl,by omega,rfl,.nil _ _ _,rfl,Nat.le_refl _,.none _⟩,?_⟩
 rintro q' n' c' i D m w2 ⟨k,rfl,hk,rfl,ho,rfl,hc,hof⟩ hF
 have hcl:(cutL l).length=a4_ l.length:=iF_ l
 refine ⟨λhlt=>?_,λhge=>?_⟩
 ·have hk':k<a4_ l.length:=by omega
  have hk2:k*64<l.length:=by unfold a4_ at hk';omega
  refine qk_ hlen hk' ⟨_,rfl,hF,?_⟩
  rw [w64 (n:=(k:Int)*64) (by omega) (by omega),w64 (n:=(k:Int)*64+((min 64 (l.length - k*64):Nat):Int)) (by omega) (by omega)]
  refine ⟨by omega,by omega,by omega,by omega,λb hb w4 hF4=>?_⟩
  have e1:(str l).extract (Int.toNat ((k:Int)*64)) (Int.toNat ((k:Int)*64+((min 64 (l.length - k*64):Nat):Int)))=str ((l.drop (64*k)).take 64):=by
   rw [mw_,show Int.toNat ((k:Int)*64)=64*k by omega,show Int.toNat ((k:Int)*64+((min 64 (l.length - k*64):Nat):Int)) - 64*k=min 64 (l.length - 64*k) by omega]
   congr 1
   rcases Nat.le_total 64 (l.length - 64*k) with h | h
   ·rw [Nat.min_eq_left h]
   ·rw [Nat.min_eq_right h,List.take_of_length_le (by rw [List.length_drop];exact Nat.le_refl _),List.take_of_length_le (by rw [List.length_drop];exact h)]
  rw [e1] at hF4 ⊢
  refine kM_ (ho.grow hF4.grow) (by simp [cutK]) hc (ys:=[(l.drop (64*k)).take 64]) (hF4.sl 0 rfl) rfl (by unfold a4_ at hk';omega) λq2 c2 w5 ho5 hc5 g5 hq5=>?_
  have hF5:=hF4.app2 g5 w.heap.size w2.heap.size hof (λa ha=>ho.lt a ha) (λy hy=>by simp at hy;subst hy;exact .inr hb) (Nat.le_refl _)
  refine ⟨_,_,_,rfl,hF5,a4_ l.length - (k+1),by omega,k+1,wr1 (by unfold a4_ at hk';omega),by omega,rfl,?_,rfl,hc5,hof.next hq5 (by have:=hF4.chg.size;omega)⟩
  have:cutK l (k+1)=cutK l k++[(l.drop (64*k)).take 64]:=by simp [cutK,List.range_succ]
  rw [this];exact ho5
 ·have e:k=a4_ l.length:=by omega
  subst e
  have e2:cutK l (a4_ l.length)=cutL l:=rfl
  rw [e2] at ho
  rw [← hcl] at hc ⊢
  exact hK w2 q' c' hF.gr ho hc hof
end Go.Vc
namespace Go.Vc
open Go
def fK (a:Int):Option (List Lit):=if IntKind.i64=IntKind.i64∧(Lit.int .i64 a).wf=true then some [Lit.int .i64 a] else none
theorem tl_ (a k:Int):keyOf PR T.al_ (.agg #[.int .i64 a,.int .i64 k])=(([fK a,fK k].mapM id).map List.flatten).map λls=>.string (keyBytes ls):=by kernel_rfl
theorem kn_ {a k:Int} (ha:0≤a∧a≤1000000000) (hk:0≤k∧k≤1000000000):∃l,keyOf PR T.al_ (.agg #[.int .i64 a,.int .i64 k])=some l:=by
 have w:∀ {x:Int},0≤x∧x≤1000000000→fK x=some [Lit.int .i64 x]:=λ{x} h=>by
  unfold fK
  rw [if_pos]
  refine ⟨rfl,?_⟩
  simp [Lit.wf]
  exact ⟨(by have:IntKind.min .i64 = -9223372036854775808:=(by decide);omega),by have:IntKind.max .i64=9223372036854775807:=(by decide);omega⟩
 rw [tl_,w ha,w hk]
 exact ⟨_,rfl⟩
theorem pA_:Maps.Keyed PR T.al_:=Maps.Keyed.of_law (deep_law_laid (m:=3) (by kernel_rfl) (by omega) (Nat.le_of_ble_eq_true (by kernel_rfl)) (by kernel_rfl) (by kernel_rfl))
theorem r3_:PR.underlying T.be_=some (.map T.al_ T.string):=by kernel_rfl
end Go.Vc
namespace Go.Vc
open Go
def retS (fn:Func):List Nat:=fn.results.toList.flatMap λr=>match r with | .tmp t=>[t] | .cell a _=>[a]
section
variable (P:Program) (okf:Ctx) (S:Nat→Prop) (w0:World) (nE:Nat)
def tM_ (fn:Func) (K:Value→World→Prop):Exit→Sy→Prop
 | .normal,σ=>resK P σ.H σ.env fn.results.toList λvs=>forget (some (retS fn)) nE (λ_=>false) σ λσ=>vis S w0 σ λw _=>K (oneV vs) w
 | .ret,σ=>resK P σ.H σ.env fn.results.toList λvs=>forget (some (retS fn)) nE (λ_=>false) σ λσ=>vis S w0 σ λw _=>K (oneV vs) w
 | _,_=>False
end
section
variable {P:Program} {okf:Ctx} {S:Nat→Prop} {w0:World} {nE:Nat}
theorem cR_ (hok:∀n,okf.fns.contains n=true→okFn P n=true) {f:FuncId} {fn:Func} {args:List SV} {H:List Bk} {w:World} {K:Value→World→Prop} (an:An)
  (hf:P.funcs[f]? = some fn) (hb:fn.body.isSome=true) (hwe:wfE' (bsH H) args) (hwh:wfH' (bsH H) H) (hF:Fs S w (LH H) w) (hnew:nR_ S H)
  (h:vc3 P okf S w (lenH H) (body fn) an (λ_=>false) ⟨args++List.replicate (fn.ntmps - args.length) (.c (.v undef)),H,[],w,false⟩ (tM_ P S w (lenH H) fn K)):aa_ P f ⟨denE args⟩ w K:=by
 cases hc:fn.body with
 | none=>simp [hc] at hb
 | some c=>
  have hbody:body fn=c:=by simp [body,hc]
  rw [hbody] at h
  have r:Rel S w ⟨args++List.replicate (fn.ntmps - args.length) (.c (.v undef)),H,[],w,false⟩ w:=by
   refine ⟨⟨hF.chg,.refl _ _,λi x A hx hA=>hF.loc ⟨x.b,A,x.T,x.wr⟩ (fS_.2 ⟨i,x,A,hx,hA,rfl⟩),kz_ hF.nodup,λi x hx hw=>.inl (fQ_ hnew x (by rw [di_] at hx;exact List.mem_of_getElem? hx) hw)⟩,?_,hu_ hwh,λ_=>rfl⟩
   intro s hs
   rcases List.mem_append.1 hs with hs | hs
   ·exact jO_ hwe s hs
   ·rw [List.mem_replicate] at hs;rw [hs.2];exact trivial
  refine calls_of_wp hf hc ?_
  have happ:∀(a b:List SV),denE (a++b)=denE a++denE b:=by
   intro a b
   induction a with
   | nil=>rfl
   | cons x a ih=>simp [cQ_,ih]
  have hrep:∀n,denE (List.replicate n (.c (.v undef)))=List.replicate n undef:=by
   intro n
   induction n with
   | zero=>rfl
   | succ n ih=>simp only [List.replicate_succ,cQ_,ih];rfl
  have henv:({ tmps:=(⟨denE args⟩:Array Value)++Array.replicate (fn.ntmps - (⟨denE args⟩:Array Value).size) undef,defers:=[] } : Act)=act (denE (args++List.replicate (fn.ntmps - args.length) (.c (.v undef)))):=by
   rw [happ,hrep]
   simp [act,fY_]
  rw [henv]
  refine wp_mono (hB_ hok c h r) ?_
  rintro e a' w' ⟨h1,h2,σ',rfl,hb',hK⟩
  have fin:(resK P σ'.H σ'.env fn.results.toList λvs=>forget (some (retS fn)) (lenH H) (λ_=>false) σ' λσ=>vis S w σ λw _=>K (oneV vs) w)→
    (act (denE σ'.env)).defers=[]∧∃v,(results fn (act (denE σ'.env)).tmps).run P w'=.ok v w'∧∃v',Ending.returned v=Ending.returned v'∧K v' w':=λh=>by
   obtain ⟨vs,hK,hr⟩:=gg_ hb'.rel h
   obtain ⟨σ2,hK,r2,_,_⟩:=a7_ hK hb'.rel
   obtain ⟨σ3,hK,_⟩:=a0_ hK r2
   exact ⟨rfl,oneV vs,e4_ hr,_,rfl,hK⟩
  cases e with
  | normal=>exact fin hK
  | ret=>exact fin hK
  | exit i=>exact hK.elim
  | goto l=>exact hK.elim
  | panic c=>exact absurd rfl (h1 c)
  | outgrown=>exact absurd rfl h2
end
end Go.Vc
namespace Go.Vc
open Go
theorem iY_ (m0:Int) (m1:Int) (m2:Int) (y3:Option Addr) (ly3:Nat) (cy3:Nat) (S:SP) (K:KP) (w:World) (h:(m0<1→K (.tuple #[.pointer none,.iface 39 (Iv 13)]) w)∧(¬(m0<1)→(m0>1099511627776→K (.tuple #[.pointer none,.iface 39 (Iv 13)]) w)∧(¬(m0>1099511627776)→aa_ PR 74 #[Iv m1,.slice y3 ly3 cy3] w λv0 w0=>∃q0 v1,v0=.tuple #[.pointer q0,v1]∧Fs S w [] w0∧(v1=.nilIface→aa_ PR 75 #[.pointer q0,Iv m2] w0 λv2 w1=>∃q1 l0 l1 v3,v2=.tuple #[.slice q1 l0 l1,v3]∧Fs S w [] w1∧(v3=.nilIface→aa_ PR 76 #[.slice q1 l0 l1] w1 λv4 w2=>∃q2 l2 l3,v4=.slice q2 l2 l3∧Fs S w [] w2∧((l2:Int)>2048→K (.tuple #[.pointer none,.iface 39 (Iv 7)]) w2)∧(¬((l2:Int)>2048)→aa_ PR 77 #[Iv m1,.slice q1 l0 l1] w2 λv5 w3=>∃q3 l4 l5 v6,v5=.tuple #[.slice q3 l4 l5,v6]∧Fs S w [] w3∧(v6=.nilIface→aa_ PR 78 #[.pointer q0] w3 λv7 w4=>∃n0,v7=Iv n0∧Fs S w [] w4∧aa_ PR 79 #[.slice q2 l2 l3] w4 λv8 w5=>∃s0,v8=.string s0∧Fs S w [] w5∧∀l6,w5.heap.size≤l6→∀l7,w5.heap.size≤l7→∀w6,Fr S w w5 [l6] [⟨l7,#[Iv m0,Iv m1,Iv n0,.slice q3 l4 l5,Iv (l2:Int),.string s0,.slice q2 l2 l3],47,true⟩] w6→K (.tuple #[.pointer (some (⟨l7,0,none⟩)),.nilIface]) w6)∧(∀x0 v9,v6=.iface x0 v9→K (.tuple #[.pointer none,v6]) w3)∧(v6=.nilIface∨∃l8 v10,v6=.iface l8 v10)))∧(∀x1 v11,v3=.iface x1 v11→K (.tuple #[.pointer none,v3]) w1)∧(v3=.nilIface∨∃l9 v12,v3=.iface l9 v12))∧(∀x2 v13,v1=.iface x2 v13→K (.tuple #[.pointer none,v1]) w0)∧(v1=.nilIface∨∃l10 v14,v1=.iface l10 v14)))):aa_ PR 37 ⟨[.int .i64 m0,.int .i64 m1,.int .i64 m2,.slice y3 ly3 cy3]⟩ w K:=
 cR_ (okf:=⟨okL,[]⟩) ag_ (args:=[.c (.v (.int .i64 m0)),.c (.v (.int .i64 m1)),.c (.v (.int .i64 m2)),.c (.v (.slice y3 ly3 cy3))]) (H:=[]) (.s .z (.s .z (.s (.r ⟨(some []),false,[],[]⟩) (.s .z (.s (.r ⟨(some []),false,[],[]⟩) (.s .z (.s (.r ⟨(some []),false,[],[]⟩) (.s .z (.s (.r ⟨(some []),false,[],[]⟩) (.s .z (.s (.r ⟨(some []),false,[],[]⟩) (.s (.r ⟨(some [15]),false,[],[]⟩) .z)))))))))))) Go.Proofs.Tryz.func37 rfl ⟨trivial,trivial,trivial,trivial,trivial⟩ trivial (Fr.init S w) trivial (ad_ (by kernel_rfl) h)
theorem pU_ (m0:Int) (S:SP) (K:KP) (w:World) (h:(∀w0,Fr S w w [] [] w0→rn PR (Instr.makeSlice 45 (Iv (if (4096:Int)<(if (0:Int)>m0 then 0 else m0) then 4096 else (if (0:Int)>m0 then 0 else m0))) (Iv (if (4096:Int)<(if (0:Int)>m0 then 0 else m0) then 4096 else (if (0:Int)>m0 then 0 else m0)))) (λv0 w1=>∃q0 l0 l1,v0=.slice q0 l0 l1∧Fs S w [] w1∧rn PR (Instr.makeSlice 45 (Iv (if (4096:Int)<(if (0:Int)>m0 then 0 else m0) then 4096 else (if (0:Int)>m0 then 0 else m0))) (Iv (if (4096:Int)<(if (0:Int)>m0 then 0 else m0) then 4096 else (if (0:Int)>m0 then 0 else m0)))) (λv1 w2=>∃q1 l2 l3,v1=.slice q1 l2 l3∧Fs S w [] w2∧∀l4,w2.heap.size≤l4→∀w3,Fr S w w2 [] [⟨l4,#[Iv (-1),.bool false,.string ⟨#[]⟩,.slice q0 l0 l1,.string ⟨#[]⟩,.slice q1 l2 l3,.slice none 0 0],119,true⟩] w3→K (.pointer (some (⟨l4,0,none⟩))) w3) w1) w0)∧∀w4,Fr S w w [] [] w4→rn PR (Instr.makeSlice 45 (Iv (if (4096:Int)<(if (0:Int)>m0 then 0 else m0) then 4096 else (if (0:Int)>m0 then 0 else m0))) (Iv (if (4096:Int)<(if (0:Int)>m0 then 0 else m0) then 4096 else (if (0:Int)>m0 then 0 else m0)))) (λv2 w5=>∃q2 l5 l6,v2=.slice q2 l5 l6∧Fs S w [] w5∧rn PR (Instr.makeSlice 45 (Iv (if (4096:Int)<(if (0:Int)>m0 then 0 else m0) then 4096 else (if (0:Int)>m0 then 0 else m0))) (Iv (if (4096:Int)<(if (0:Int)>m0 then 0 else m0) then 4096 else (if (0:Int)>m0 then 0 else m0)))) (λv3 w6=>∃q3 l7 l8,v3=.slice q3 l7 l8∧Fs S w [] w6∧∀l9,w6.heap.size≤l9→∀w7,Fr S w w6 [] [⟨l9,#[Iv (-1),.bool false,.string ⟨#[]⟩,.slice q3 l7 l8,.string ⟨#[]⟩,.slice q2 l5 l6,.slice none 0 0],119,true⟩] w7→K (.pointer (some (⟨l9,0,none⟩))) w7) w5) w4):aa_ PR 8 ⟨[.int .i64 m0]⟩ w K:=
 cR_ (okf:=⟨okL,[]⟩) ag_ (args:=[.c (.v (.int .i64 m0))]) (H:=[]) (.s .z (.s .z (.s (.r ⟨(some []),false,[],[]⟩) .z))) Go.Proofs.Tryz.func8 rfl ⟨trivial,trivial⟩ trivial (Fr.init S w) trivial (ad_ (by kernel_rfl) h)
theorem ko_ (p0:Option Addr) (S:SP) (K:KP) (w:World) (h:aa_ PR 80 #[.pointer p0] w λv0 w0=>∃s0 v1,v0=.tuple #[.string s0,v1]∧Fs S w [] w0∧(v1=.nilIface→aa_ PR 81 #[.string s0] w0 λv2 w1=>∃q0 l0 l1 n0,v2=.tuple #[.slice q0 l0 l1,Iv n0]∧Fs S w [] w1∧(n0<((ByteArray.size s0:Nat):Int)→aa_ PR 82 #[.pointer p0,Iv n0] w1 λv3 w2=>∃v4,v3=v4∧Fs S w [] w2∧(v4=.nilIface→aa_ PR 83 #[.pointer p0] w2 λv5 w3=>∃n1,v5=Iv n1∧Fs S w [] w3∧(n1>0→aa_ PR 84 #[.pointer p0] w3 λv6 w4=>∃v7,v6=v7∧Fs S w [] w4∧(v7=.nilIface→∀l2,w4.heap.size≤l2→∀w5,Fr S w w4 [] [⟨l2,#[.pointer p0,.slice q0 l0 l1,Iv n0],152,true⟩] w5→K (.tuple #[.pointer (some (⟨l2,0,none⟩)),.nilIface]) w5)∧(∀x0 v8,v7=.iface x0 v8→K (.tuple #[.pointer none,v7]) w4)∧(v7=.nilIface∨∃l3 v9,v7=.iface l3 v9))∧(¬(n1>0)→(v4=.nilIface→∀l4,w3.heap.size≤l4→∀w6,Fr S w w3 [] [⟨l4,#[.pointer p0,.slice q0 l0 l1,Iv n0],152,true⟩] w6→K (.tuple #[.pointer (some (⟨l4,0,none⟩)),.nilIface]) w6)∧(∀x1 v10,v4=.iface x1 v10→K (.tuple #[.pointer none,v4]) w3)∧(v4=.nilIface∨∃l5 v11,v4=.iface l5 v11)))∧(∀x2 v12,v4=.iface x2 v12→(v4=.nilIface→∀l6,w2.heap.size≤l6→∀w7,Fr S w w2 [] [⟨l6,#[.pointer p0,.slice q0 l0 l1,Iv n0],152,true⟩] w7→K (.tuple #[.pointer (some (⟨l6,0,none⟩)),.nilIface]) w7)∧(∀x3 v13,v4=.iface x3 v13→K (.tuple #[.pointer none,v4]) w2)∧(v4=.nilIface∨∃l7 v14,v4=.iface l7 v14))∧(v4=.nilIface∨∃l8 v15,v4=.iface l8 v15))∧(¬(n0<((ByteArray.size s0:Nat):Int))→(v1=.nilIface→aa_ PR 83 #[.pointer p0] w1 λv16 w8=>∃n2,v16=Iv n2∧Fs S w [] w8∧(n2>0→aa_ PR 84 #[.pointer p0] w8 λv17 w9=>∃v18,v17=v18∧Fs S w [] w9∧(v18=.nilIface→∀l9,w9.heap.size≤l9→∀w10,Fr S w w9 [] [⟨l9,#[.pointer p0,.slice q0 l0 l1,Iv n0],152,true⟩] w10→K (.tuple #[.pointer (some (⟨l9,0,none⟩)),.nilIface]) w10)∧(∀x4 v19,v18=.iface x4 v19→K (.tuple #[.pointer none,v18]) w9)∧(v18=.nilIface∨∃l10 v20,v18=.iface l10 v20))∧(¬(n2>0)→(v1=.nilIface→∀l11,w8.heap.size≤l11→∀w11,Fr S w w8 [] [⟨l11,#[.pointer p0,.slice q0 l0 l1,Iv n0],152,true⟩] w11→K (.tuple #[.pointer (some (⟨l11,0,none⟩)),.nilIface]) w11)∧(∀x5 v21,v1=.iface x5 v21→K (.tuple #[.pointer none,v1]) w8)∧(v1=.nilIface∨∃l12 v22,v1=.iface l12 v22)))∧(∀x6 v23,v1=.iface x6 v23→(v1=.nilIface→∀l13,w1.heap.size≤l13→∀w12,Fr S w w1 [] [⟨l13,#[.pointer p0,.slice q0 l0 l1,Iv n0],152,true⟩] w12→K (.tuple #[.pointer (some (⟨l13,0,none⟩)),.nilIface]) w12)∧(∀x7 v24,v1=.iface x7 v24→K (.tuple #[.pointer none,v1]) w1)∧(v1=.nilIface∨∃l14 v25,v1=.iface l14 v25))∧(v1=.nilIface∨∃l15 v26,v1=.iface l15 v26)))∧(∀x8 v27,v1=.iface x8 v27→K (.tuple #[.pointer none,v1]) w0)∧(v1=.nilIface∨∃l16 v28,v1=.iface l16 v28)):aa_ PR 38 ⟨[.pointer p0]⟩ w K:=
 cR_ (okf:=⟨okL,[]⟩) ag_ (args:=[.c (.v (.pointer p0))]) (H:=[]) (.s .z (.s (.r ⟨(some []),false,[],[]⟩) (.s .z (.s (.r ⟨(some []),false,[],[]⟩) (.s (.s .z (.c (.r ⟨(some []),false,[],[(2,[999])]⟩) .z)) (.s (.s (.r ⟨(some []),false,[],[]⟩) (.c (.r ⟨(some []),false,[],[(1,[999])]⟩) .z)) (.s .z (.s (.r ⟨(some []),false,[],[]⟩) .z)))))))) Go.Proofs.Tryz.func38 rfl ⟨trivial,trivial⟩ trivial (Fr.init S w) trivial (ad_ (by kernel_rfl) h)
theorem qR_  (S:SP) (K:KP) (w:World) (h:aa_ PR 195 #[] w λv0 w0=>∃q0,v0=.pointer q0∧Fs S w [] w0∧∀l0,w0.heap.size≤l0→∀w1,Fr S w w0 [] [⟨l0,#[Uv 1779033703,Uv 3144134277,Uv 1013904242,Uv 2773480762,Uv 1359893119,Uv 2600822924,Uv 528734635,Uv 1541459225,.pointer q0,.slice none 0 0,Iv 0],312,true⟩] w1→K (.pointer (some (⟨l0,0,none⟩))) w1):aa_ PR 161 ⟨[]⟩ w K:=
 cR_ (okf:=⟨okL,[]⟩) ag_ (args:=[]) (H:=[]) (.s .z (.s (.r ⟨(some []),false,[],[]⟩) .z)) Go.Proofs.Tryz.func161 rfl trivial trivial (Fr.init S w) trivial (ad_ (by kernel_rfl) h)
end Go.Vc
namespace Go.Vc
open Go
def rotF (m0 m1:Int):Int:=(IntKind.wrap .u32 (((BitVec.toNat ((BitVec.ofInt 32 (IntKind.wrap .u32 ((m0*(((2:Int) ^ (Min.min (Int.toNat (IntKind.wrap .u64 (((BitVec.toNat ((BitVec.ofInt 64 (IntKind.wrap .u64 m1) &&& (BitVec.ofInt 64 31))):Nat):Int)))) 32)))))) ||| (BitVec.ofInt 32 (Int.fdiv m0 (((2:Int) ^ (Min.min (Int.toNat (IntKind.wrap .u64 (((32:Int) - (IntKind.wrap .u64 (((BitVec.toNat ((BitVec.ofInt 64 (IntKind.wrap .u64 m1) &&& (BitVec.ofInt 64 31))):Nat):Int))))))) 32))))))):Nat):Int)))
def s7_ (m1:Int):Prop:=(0:Int)≤IntKind.wrap .u64 (((BitVec.toNat ((BitVec.ofInt 64 (IntKind.wrap .u64 m1) &&& (BitVec.ofInt 64 31))):Nat):Int))∧(0:Int)≤IntKind.wrap .u64 (((32:Int) - (IntKind.wrap .u64 (((BitVec.toNat ((BitVec.ofInt 64 (IntKind.wrap .u64 m1) &&& (BitVec.ofInt 64 31))):Nat):Int)))))
def sR_ (n1 n2 n3 n4:Int):Int:=(IntKind.wrap .u32 (((BitVec.toNat ((BitVec.ofInt 32 (IntKind.wrap .u32 (((BitVec.toNat ((BitVec.ofInt 32 (IntKind.wrap .u32 (((BitVec.toNat ((BitVec.ofInt 32 (IntKind.wrap .u32 ((IntKind.wrap .u32 n1*16777216))) ||| (BitVec.ofInt 32 (IntKind.wrap .u32 ((IntKind.wrap .u32 n2*65536)))))):Nat):Int))) ||| (BitVec.ofInt 32 (IntKind.wrap .u32 ((IntKind.wrap .u32 n3*256)))))):Nat):Int))) ||| (BitVec.ofInt 32 (IntKind.wrap .u32 n4)))):Nat):Int)))
def sQ_ (n6 n7 n8 n9 n10 n11 n12 n13:Int):Int:=(IntKind.wrap .u32 ((IntKind.wrap .u32 ((IntKind.wrap .u32 ((n8+(IntKind.wrap .u32 (((BitVec.toNat ((BitVec.ofInt 32 (IntKind.wrap .u32 (((BitVec.toNat ((BitVec.ofInt 32 n10 ^^^ (BitVec.ofInt 32 n11))):Nat):Int))) ^^^ (BitVec.ofInt 32 (Int.fdiv n6 8)))):Nat):Int)))))+n9))+(IntKind.wrap .u32 (((BitVec.toNat ((BitVec.ofInt 32 (IntKind.wrap .u32 (((BitVec.toNat ((BitVec.ofInt 32 n12 ^^^ (BitVec.ofInt 32 n13))):Nat):Int))) ^^^ (BitVec.ofInt 32 (Int.fdiv n7 1024)))):Nat):Int))))))
def s6_ (n65 n66 n67 n69 n70 n71 n72 n73 n74 n75 n76 n77 n78 n79 n80:Int):Int:=(IntKind.wrap .u32 ((IntKind.wrap .u32 ((IntKind.wrap .u32 ((IntKind.wrap .u32 ((IntKind.wrap .u32 ((n72+(IntKind.wrap .u32 (((BitVec.toNat ((BitVec.ofInt 32 (IntKind.wrap .u32 (((BitVec.toNat ((BitVec.ofInt 32 n75 ^^^ (BitVec.ofInt 32 n76))):Nat):Int))) ^^^ (BitVec.ofInt 32 n77))):Nat):Int)))))+(IntKind.wrap .u32 (((BitVec.toNat ((BitVec.ofInt 32 (IntKind.wrap .u32 (((BitVec.toNat ((BitVec.ofInt 32 n69 &&& (BitVec.ofInt 32 n70))):Nat):Int))) ^^^ (BitVec.ofInt 32 (IntKind.wrap .u32 (((BitVec.toNat ((BitVec.ofInt 32 (IntKind.wrap .u32 (((BitVec.toNat ((BitVec.ofInt 32 4294967295 ^^^ (BitVec.ofInt 32 n69))):Nat):Int))) &&& (BitVec.ofInt 32 n71))):Nat):Int)))))):Nat):Int)))))+n73))+n74))+(IntKind.wrap .u32 ((IntKind.wrap .u32 (((BitVec.toNat ((BitVec.ofInt 32 (IntKind.wrap .u32 (((BitVec.toNat ((BitVec.ofInt 32 n78 ^^^ (BitVec.ofInt 32 n79))):Nat):Int))) ^^^ (BitVec.ofInt 32 n80))):Nat):Int))+(IntKind.wrap .u32 (((BitVec.toNat ((BitVec.ofInt 32 (IntKind.wrap .u32 (((BitVec.toNat ((BitVec.ofInt 32 (IntKind.wrap .u32 (((BitVec.toNat ((BitVec.ofInt 32 n65 &&& (BitVec.ofInt 32 n66))):Nat):Int))) ^^^ (BitVec.ofInt 32 (IntKind.wrap .u32 (((BitVec.toNat ((BitVec.ofInt 32 n65 &&& (BitVec.ofInt 32 n67))):Nat):Int)))))):Nat):Int))) ^^^ (BitVec.ofInt 32 (IntKind.wrap .u32 (((BitVec.toNat ((BitVec.ofInt 32 n66 &&& (BitVec.ofInt 32 n67))):Nat):Int)))))):Nat):Int)))))))))
def s5_ (n68 n69 n70 n71 n72 n73 n74 n75 n76 n77:Int):Int:=(IntKind.wrap .u32 ((n68+(IntKind.wrap .u32 ((IntKind.wrap .u32 ((IntKind.wrap .u32 ((IntKind.wrap .u32 ((n72+(IntKind.wrap .u32 (((BitVec.toNat ((BitVec.ofInt 32 (IntKind.wrap .u32 (((BitVec.toNat ((BitVec.ofInt 32 n75 ^^^ (BitVec.ofInt 32 n76))):Nat):Int))) ^^^ (BitVec.ofInt 32 n77))):Nat):Int)))))+(IntKind.wrap .u32 (((BitVec.toNat ((BitVec.ofInt 32 (IntKind.wrap .u32 (((BitVec.toNat ((BitVec.ofInt 32 n69 &&& (BitVec.ofInt 32 n70))):Nat):Int))) ^^^ (BitVec.ofInt 32 (IntKind.wrap .u32 (((BitVec.toNat ((BitVec.ofInt 32 (IntKind.wrap .u32 (((BitVec.toNat ((BitVec.ofInt 32 4294967295 ^^^ (BitVec.ofInt 32 n69))):Nat):Int))) &&& (BitVec.ofInt 32 n71))):Nat):Int)))))):Nat):Int)))))+n73))+n74))))))
def lits (L:List Int):Array Value:=#[.int .u32 (L.getD 0 0),.int .u32 (L.getD 1 0),.int .u32 (L.getD 2 0),.int .u32 (L.getD 3 0),.int .u32 (L.getD 4 0),.int .u32 (L.getD 5 0),.int .u32 (L.getD 6 0),.int .u32 (L.getD 7 0),.int .u32 (L.getD 8 0),.int .u32 (L.getD 9 0),.int .u32 (L.getD 10 0),.int .u32 (L.getD 11 0),.int .u32 (L.getD 12 0),.int .u32 (L.getD 13 0),.int .u32 (L.getD 14 0),.int .u32 (L.getD 15 0),.int .u32 (L.getD 16 0),.int .u32 (L.getD 17 0),.int .u32 (L.getD 18 0),.int .u32 (L.getD 19 0),.int .u32 (L.getD 20 0),.int .u32 (L.getD 21 0),.int .u32 (L.getD 22 0),.int .u32 (L.getD 23 0),.int .u32 (L.getD 24 0),.int .u32 (L.getD 25 0),.int .u32 (L.getD 26 0),.int .u32 (L.getD 27 0),.int .u32 (L.getD 28 0),.int .u32 (L.getD 29 0),.int .u32 (L.getD 30 0),.int .u32 (L.getD 31 0),.int .u32 (L.getD 32 0),.int .u32 (L.getD 33 0),.int .u32 (L.getD 34 0),.int .u32 (L.getD 35 0),.int .u32 (L.getD 36 0),.int .u32 (L.getD 37 0),.int .u32 (L.getD 38 0),.int .u32 (L.getD 39 0),.int .u32 (L.getD 40 0),.int .u32 (L.getD 41 0),.int .u32 (L.getD 42 0),.int .u32 (L.getD 43 0),.int .u32 (L.getD 44 0),.int .u32 (L.getD 45 0),.int .u32 (L.getD 46 0),.int .u32 (L.getD 47 0),.int .u32 (L.getD 48 0),.int .u32 (L.getD 49 0),.int .u32 (L.getD 50 0),.int .u32 (L.getD 51 0),.int .u32 (L.getD 52 0),.int .u32 (L.getD 53 0),.int .u32 (L.getD 54 0),.int .u32 (L.getD 55 0),.int .u32 (L.getD 56 0),.int .u32 (L.getD 57 0),.int .u32 (L.getD 58 0),.int .u32 (L.getD 59 0),.int .u32 (L.getD 60 0),.int .u32 (L.getD 61 0),.int .u32 (L.getD 62 0),.int .u32 (L.getD 63 0)]
end Go.Vc
namespace Go.Vc
open Go
theorem ra_ (L:List Int) {i:Nat} (h:i<64):(lits L)[i]? = some (.int .u32 (L.getD i 0)):=by
 have e:lits L=((List.range 64).map λj=>(.int .u32 (L.getD j 0):Value)).toArray:=rfl
 rw [e]
 simp [h]
def rt (x n:Int):Int:=rotF x (IntKind.wrap .i64 (0 - n))
theorem bc_ {x n:Int} (h:s7_ (IntKind.wrap .i64 (0 - n))) {w:World} {K:Value→World→Prop} (hK:K (.int .u32 (rt x n)) w):aa_ PR F.hQ_ ⟨[.int .u32 x,.int .i64 n]⟩ w K:=
 hQ_ x n S0 K w (bP_ x (IntKind.wrap .i64 (0 - n)) S0 _ w ⟨h.1,h.2,_,rfl,.init _ _,hK⟩)
instance rotDec (n:Int):Decidable (s7_ n):=inferInstanceAs (Decidable (_∧_))
def u32s (L:List Int):Array Value:=(L.map λx=>(.int .u32 x:Value)).toArray
theorem jT_ (L:List Int) (i:Nat) (v:Int):(u32s L).setIfInBounds i (.int .u32 v)=u32s (L.set i v):=by simp [u32s,List.map_set]
theorem co_ {L:List Int} {i:Nat} (h:i<L.length):(u32s L)[i]? = some (.int .u32 (L.getD i 0)):=by simp [u32s,h]
theorem hC_ (L:List Int):(u32s L).size=L.length:=by simp [u32s]
def byt (bs:List UInt8) (i:Nat):Int:=((bs.getD i 0).toNat:Int)
theorem nr_ {bs:List UInt8} {i:Nat} (h:i<bs.length):(bs.map bv)[i]? = some (.int .u8 (byt bs i)):=by simp [h,byt,bv]
def sp1 (bs:List UInt8):Nat→List Int
 | 0=>List.replicate 64 0
 | i+1=>(sp1 bs i).set i (sR_ (byt bs (4*i)) (byt bs (4*i+1)) (byt bs (4*i+2)) (byt bs (4*i+3)))
def sp2 (L:List Int):Nat→List Int
 | 0=>L
 | k+1=>(sp2 L k).set (k+16) (sQ_ ((sp2 L k).getD (k+1) 0) ((sp2 L k).getD (k+14) 0) ((sp2 L k).getD k 0) ((sp2 L k).getD (k+9) 0) (rt ((sp2 L k).getD (k+1) 0) 7) (rt ((sp2 L k).getD (k+1) 0) 18) (rt ((sp2 L k).getD (k+14) 0) 17) (rt ((sp2 L k).getD (k+14) 0) 19))
theorem l5_ (bs:List UInt8):∀i,(sp1 bs i).length=64
 | 0=>by simp [sp1]
 | i+1=>by simp [sp1,l5_ bs i]
theorem o2_ (L:List Int) (h:L.length=64):∀i,(sp2 L i).length=64
 | 0=>h
 | i+1=>by simp [sp2,o2_ L h i]
def db_ (bs:List UInt8):List Int:=sp2 (sp1 bs 16) 48
theorem z64 (bs:List UInt8):u32s (sp1 bs 0)=#[.int .u32 0,.int .u32 0,.int .u32 0,.int .u32 0,.int .u32 0,.int .u32 0,.int .u32 0,.int .u32 0,.int .u32 0,.int .u32 0,.int .u32 0,.int .u32 0,.int .u32 0,.int .u32 0,.int .u32 0,.int .u32 0,.int .u32 0,.int .u32 0,.int .u32 0,.int .u32 0,.int .u32 0,.int .u32 0,.int .u32 0,.int .u32 0,.int .u32 0,.int .u32 0,.int .u32 0,.int .u32 0,.int .u32 0,.int .u32 0,.int .u32 0,.int .u32 0,.int .u32 0,.int .u32 0,.int .u32 0,.int .u32 0,.int .u32 0,.int .u32 0,.int .u32 0,.int .u32 0,.int .u32 0,.int .u32 0,.int .u32 0,.int .u32 0,.int .u32 0,.int .u32 0,.int .u32 0,.int .u32 0,.int .u32 0,.int .u32 0,.int .u32 0,.int .u32 0,.int .u32 0,.int .u32 0,.int .u32 0,.int .u32 0,.int .u32 0,.int .u32 0,.int .u32 0,.int .u32 0,.int .u32 0,.int .u32 0,.int .u32 0,.int .u32 0]:=rfl
theorem l2_ {y:Option Addr} {n c:Nat} {bs:List UInt8} {w:World} (hs:Sl w y (bs.map bv)) (hl:n=bs.length) (h64:64≤n) {K:Value→World→Prop} (hK:∀w',Grow w w'→K (.agg (lits (db_ bs))) w') :
  aa_ PR F.gd_ ⟨[.slice y n c]⟩ w K:=by
 subst hl
 have hbl:bs.length=(bs.map bv).length:=by simp
 refine gd_ y bs.length c S0 K w λb0 hb0 b1 hb1 w0 hF0=>?_
 refine ⟨λn0 v l w'=>∃i:Nat,n0=i∧i≤16∧l=16 - i∧v=.agg (u32s (sp1 bs i)),⟨_,0,rfl,by omega,rfl,by rw [z64]⟩,?_⟩
 rintro n0 v D l w1 ⟨i,rfl,hi,rfl,rfl⟩ hF1
 refine ⟨λhlt w2 hF2=>⟨(· = w2),rfl,?_⟩,λhge=>?_⟩
 ·have hi':i<16:=by omega
  have hs2:=hs.grow hF2.gr
  have e0:IntKind.wrap .i64 (4*(i:Int))=((4*i:Nat):Int):=by rw [w64 (by omega) (by omega)];omega
  have e1:IntKind.wrap .i64 (((4*i:Nat):Int)+1)=((4*i+1:Nat):Int):=by rw [w64 (by omega) (by omega)];omega
  have e2:IntKind.wrap .i64 (((4*i:Nat):Int)+2)=((4*i+2:Nat):Int):=by rw [w64 (by omega) (by omega)];omega
  have e3:IntKind.wrap .i64 (((4*i:Nat):Int)+3)=((4*i+3:Nat):Int):=by rw [w64 (by omega) (by omega)];omega
  rw [e0,e1,e2,e3]
  refine hs2.rd (v:=.int .u8 (byt bs (4*i))) hbl (by omega) (nr_ (by omega)) λx hx=>⟨_,λw3 e=>e ▸ hx,?_⟩
  refine hs2.rd (v:=.int .u8 (byt bs (4*i+1))) hbl (by omega) (nr_ (by omega)) λx hx=>⟨_,λw3 e=>e ▸ hx,?_⟩
  refine hs2.rd (v:=.int .u8 (byt bs (4*i+2))) hbl (by omega) (nr_ (by omega)) λx hx=>⟨_,λw3 e=>e ▸ hx,?_⟩
  refine hs2.rd (v:=.int .u8 (byt bs (4*i+3))) hbl (by omega) (nr_ (by omega)) λx hx=>⟨_,λw3 e=>e ▸ hx,?_⟩
  refine ⟨by omega,by omega,by show 0+(Int.toNat (i:Int))*1<(u32s (sp1 bs i)).size;rw [hC_,l5_];omega,λw7 hF7=>⟨16 - (i+1),by omega,i+1,?_,by omega,rfl,?_⟩⟩
  ·rw [w64 (by omega) (by omega)];rfl
  ·show Value.agg ((u32s (sp1 bs i)).setIfInBounds (0+(Int.toNat (i:Int))*1) (.int .u32 (sR_ (byt bs (4*i)) (byt bs (4*i+1)) (byt bs (4*i+2)) (byt bs (4*i+3)))))=_
   rw [show 0+(Int.toNat (i:Int))*1=i by omega,jT_];rfl
 ·have:i=16:=by omega
  subst this
  have hL1:=l5_ bs 16
  refine ⟨λn0 v l w'=>∃i:Nat,n0=((i+16:Nat):Int)∧i≤48∧l=48 - i∧v=.agg (u32s (sp2 (sp1 bs 16) i)),⟨_,0,rfl,by omega,rfl,rfl⟩,?_⟩
  generalize hLe:sp1 bs 16=L at hL1
  rintro n5 v D l w8 ⟨i,rfl,hi,rfl,rfl⟩ hF8
  have hL:=o2_ L hL1 i
  generalize hS:sp2 L i=Si at hL
  refine ⟨λhlt w9 hF9=>?_,λhge=>?_⟩
  ·have hi':i<48:=by omega
   have c15:IntKind.wrap .i64 (((i+16:Nat):Int) - 15)=((i+1:Nat):Int):=by rw [w64 (by omega) (by omega)];omega
   have c2:IntKind.wrap .i64 (((i+16:Nat):Int) - 2)=((i+14:Nat):Int):=by rw [w64 (by omega) (by omega)];omega
   have c16:IntKind.wrap .i64 (((i+16:Nat):Int) - 16)=((i:Nat):Int):=by rw [w64 (by omega) (by omega)];omega
   have c7:IntKind.wrap .i64 (((i+16:Nat):Int) - 7)=((i+9:Nat):Int):=by rw [w64 (by omega) (by omega)];omega
   rw [c15,c2,c16,c7]
   have at_:∀ {j:Nat},j<64→(u32s Si)[0+(Int.toNat (j:Int))*1]? = some (.int .u32 (Si.getD j 0)):=λ{j} h=>by
    rw [show 0+(Int.toNat (j:Int))*1=j by omega];exact co_ (by omega)
   refine ⟨λ_=>True,trivial,by omega,by omega,_,at_ (by omega),by omega,by omega,_,at_ (by omega),λw10 hF10=>?_⟩
   refine ⟨(· = w10),rfl,by omega,by omega,ac_.2 ⟨Si.getD i 0,λw' e=>?_,by omega,by omega,ac_.2 ⟨Si.getD (i+9) 0,λw' e=>?_,?_⟩⟩⟩
   ·subst e;exact hF10.ld 1 _ rfl rfl (at_ (by omega))
   ·subst e;exact hF10.ld 1 _ rfl rfl (at_ (by omega))
   ·refine bc_ (by decide) ⟨_,rfl,hF10.reset,rfl,bc_ (by decide) ⟨_,rfl,hF10.reset,rfl,bc_ (by decide) ⟨_,rfl,hF10.reset,rfl,bc_ (by decide) ⟨_,rfl,hF10.reset,rfl,?_⟩⟩⟩⟩
    refine ⟨by omega,by omega,by show 0+(Int.toNat ((i+16:Nat):Int))*1<(u32s Si).size;rw [hC_];omega,λw17 hF17=>⟨48 - (i+1),by omega,i+1,?_,by omega,rfl,?_⟩⟩
    ·rw [w64 (by omega) (by omega)];omega
    ·show Value.agg ((u32s Si).setIfInBounds (0+(Int.toNat ((i+16:Nat):Int))*1) (.int .u32 (sQ_ (Si.getD (i+1) 0) (Si.getD (i+14) 0) (Si.getD i 0) (Si.getD (i+9) 0) (rt (Si.getD (i+1) 0) 7) (rt (Si.getD (i+1) 0) 18) (rt (Si.getD (i+14) 0) 17) (rt (Si.getD (i+14) 0) 19))))=_
     rw [show 0+(Int.toNat ((i+16:Nat):Int))*1=i+16 by omega,jT_,← hS];rfl
  ·have:i=48:=by omega
   subst this
   have h64:∀j:Nat,j<64→(Value.cells (.agg (u32s Si)))[j]? = some (.int .u32 (Si.getD j 0)):=λj h=>co_ (by omega)
   refine ⟨_,h64 0 (by decide),?_⟩
   refine ⟨_,h64 1 (by decide),?_⟩
   refine ⟨_,h64 2 (by decide),?_⟩
   refine ⟨_,h64 3 (by decide),?_⟩
   refine ⟨_,h64 4 (by decide),?_⟩
   refine ⟨_,h64 5 (by decide),?_⟩
   refine ⟨_,h64 6 (by decide),?_⟩
   refine ⟨_,h64 7 (by decide),?_⟩
   refine ⟨_,h64 8 (by decide),?_⟩
   refine ⟨_,h64 9 (by decide),?_⟩
   refine ⟨_,h64 10 (by decide),?_⟩
   refine ⟨_,h64 11 (by decide),?_⟩
   refine ⟨_,h64 12 (by decide),?_⟩
   refine ⟨_,h64 13 (by decide),?_⟩
   refine ⟨_,h64 14 (by decide),?_⟩
   refine ⟨_,h64 15 (by decide),?_⟩
   refine ⟨_,h64 16 (by decide),?_⟩
   refine ⟨_,h64 17 (by decide),?_⟩
   refine ⟨_,h64 18 (by decide),?_⟩
   refine ⟨_,h64 19 (by decide),?_⟩
   refine ⟨_,h64 20 (by decide),?_⟩
   refine ⟨_,h64 21 (by decide),?_⟩
   refine ⟨_,h64 22 (by decide),?_⟩
   refine ⟨_,h64 23 (by decide),?_⟩
   refine ⟨_,h64 24 (by decide),?_⟩
   refine ⟨_,h64 25 (by decide),?_⟩
   refine ⟨_,h64 26 (by decide),?_⟩
   refine ⟨_,h64 27 (by decide),?_⟩
   refine ⟨_,h64 28 (by decide),?_⟩
   refine ⟨_,h64 29 (by decide),?_⟩
   refine ⟨_,h64 30 (by decide),?_⟩
   refine ⟨_,h64 31 (by decide),?_⟩
   refine ⟨_,h64 32 (by decide),?_⟩
   refine ⟨_,h64 33 (by decide),?_⟩
   refine ⟨_,h64 34 (by decide),?_⟩
   refine ⟨_,h64 35 (by decide),?_⟩
   refine ⟨_,h64 36 (by decide),?_⟩
   refine ⟨_,h64 37 (by decide),?_⟩
   refine ⟨_,h64 38 (by decide),?_⟩
   refine ⟨_,h64 39 (by decide),?_⟩
   refine ⟨_,h64 40 (by decide),?_⟩
   refine ⟨_,h64 41 (by decide),?_⟩
   refine ⟨_,h64 42 (by decide),?_⟩
   refine ⟨_,h64 43 (by decide),?_⟩
   refine ⟨_,h64 44 (by decide),?_⟩
   refine ⟨_,h64 45 (by decide),?_⟩
   refine ⟨_,h64 46 (by decide),?_⟩
   refine ⟨_,h64 47 (by decide),?_⟩
   refine ⟨_,h64 48 (by decide),?_⟩
   refine ⟨_,h64 49 (by decide),?_⟩
   refine ⟨_,h64 50 (by decide),?_⟩
   refine ⟨_,h64 51 (by decide),?_⟩
   refine ⟨_,h64 52 (by decide),?_⟩
   refine ⟨_,h64 53 (by decide),?_⟩
   refine ⟨_,h64 54 (by decide),?_⟩
   refine ⟨_,h64 55 (by decide),?_⟩
   refine ⟨_,h64 56 (by decide),?_⟩
   refine ⟨_,h64 57 (by decide),?_⟩
   refine ⟨_,h64 58 (by decide),?_⟩
   refine ⟨_,h64 59 (by decide),?_⟩
   refine ⟨_,h64 60 (by decide),?_⟩
   refine ⟨_,h64 61 (by decide),?_⟩
   refine ⟨_,h64 62 (by decide),?_⟩
   refine ⟨_,h64 63 (by decide),?_⟩
   intro w18 hF18
   have hk:=hK w18 hF18.gr
   rw [show db_ bs=Si by rw [db_,hLe,hS]] at hk
   exact hk
end Go.Vc
namespace Go.Vc
open Go
theorem s3_  (S:SP) (K:KP) (w:World) (h:∀l0,w.heap.size≤l0→∀w0,Fr S w w [] [⟨l0,#[Uv 1116352408,Uv 1899447441,Uv 3049323471,Uv 3921009573,Uv 961987163,Uv 1508970993,Uv 2453635748,Uv 2870763221,Uv 3624381080,Uv 310598401,Uv 607225278,Uv 1426881987,Uv 1925078388,Uv 2162078206,Uv 2614888103,Uv 3248222580,Uv 3835390401,Uv 4022224774,Uv 264347078,Uv 604807628,Uv 770255983,Uv 1249150122,Uv 1555081692,Uv 1996064986,Uv 2554220882,Uv 2821834349,Uv 2952996808,Uv 3210313671,Uv 3336571891,Uv 3584528711,Uv 113926993,Uv 338241895,Uv 666307205,Uv 773529912,Uv 1294757372,Uv 1396182291,Uv 1695183700,Uv 1986661051,Uv 2177026350,Uv 2456956037,Uv 2730485921,Uv 2820302411,Uv 3259730800,Uv 3345764771,Uv 3516065817,Uv 3600352804,Uv 4094571909,Uv 275423344,Uv 430227734,Uv 506948616,Uv 659060556,Uv 883997877,Uv 958139571,Uv 1322822218,Uv 1537002063,Uv 1747873779,Uv 1955562222,Uv 2024104815,Uv 2227730452,Uv 2361852424,Uv 2428436474,Uv 2756734187,Uv 3204031479,Uv 3329325298],335,true⟩] w0→K (.pointer (some (⟨l0,0,none⟩))) w0):aa_ PR 195 ⟨[]⟩ w K:=
 cR_ (okf:=⟨okL,[]⟩) ag_ (args:=[]) (H:=[]) (.s .z (.s (.r ⟨(some []),false,[],[]⟩) .z)) Go.Proofs.Tryz.func195 rfl trivial trivial (Fr.init S w) trivial (ad_ (by kernel_rfl) h)
end Go.Vc
namespace Go.Vc
open Go
def kL:List Int:=[1116352408,1899447441,3049323471,3921009573,961987163,1508970993,2453635748,2870763221,3624381080,310598401,607225278,1426881987,1925078388,2162078206,2614888103,3248222580,3835390401,4022224774,264347078,604807628,770255983,1249150122,1555081692,1996064986,2554220882,2821834349,2952996808,3210313671,3336571891,3584528711,113926993,338241895,666307205,773529912,1294757372,1396182291,1695183700,1986661051,2177026350,2456956037,2730485921,2820302411,3259730800,3345764771,3516065817,3600352804,4094571909,275423344,430227734,506948616,659060556,883997877,958139571,1322822218,1537002063,1747873779,1955562222,2024104815,2227730452,2361852424,2428436474,2756734187,3204031479,3329325298]
def KAt (w:World) (b:Nat):Prop:=∃T,w.heap[b]? = some (.cells (u32s kL) T (0,0))
theorem KAt.grow {w w':World} {b:Nat} (h:KAt w b) (g:Grow w w'):KAt w' b:=by obtain ⟨T,h⟩:=h;exact ⟨T,Grow.get g h⟩
theorem tn_ {w:World} {K:Value→World→Prop} (hK:∀w' b,Grow w w'→w.heap.size≤b→KAt w' b→K (.pointer (some ⟨b,0,none⟩)) w'):aa_ PR F.tJ_ ⟨[]⟩ w K:=
 s3_ S0 K w λb hb w0 hF0=>hK w0 b hF0.gr hb ⟨_,hF0.blk 0 rfl⟩
structure Ch where
 a:Int
 b:Int
 c:Int
 d:Int
 e:Int
 f:Int
 g:Int
 h:Int
def Ch.ls (c:Ch):List Int:=[c.a,c.b,c.c,c.d,c.e,c.f,c.g,c.h]
def Ch.of (L:List Int):Ch:=⟨L.getD 0 0,L.getD 1 0,L.getD 2 0,L.getD 3 0,L.getD 4 0,L.getD 5 0,L.getD 6 0,L.getD 7 0⟩
def Ch.arr (c:Ch):Array Value:=#[.int .u32 c.a,.int .u32 c.b,.int .u32 c.c,.int .u32 c.d,.int .u32 c.e,.int .u32 c.f,.int .u32 c.g,.int .u32 c.h]
def rnd (k w:Int) (c:Ch):Ch:=⟨s6_ c.a c.b c.c c.e c.f c.g c.h k w (rt c.e 6) (rt c.e 11) (rt c.e 25) (rt c.a 2) (rt c.a 13) (rt c.a 22),c.a,c.b,c.c,s5_ c.d c.e c.f c.g c.h k w (rt c.e 6) (rt c.e 11) (rt c.e 25),c.e,c.f,c.g⟩
def rndN (W:List Int) (c:Ch):Nat→Ch
 | 0=>c
 | i+1=>rnd (kL.getD i 0) (W.getD i 0) (rndN W c i)
def addN (s c:List Int):Nat→List Int
 | 0=>s
 | i+1=>(addN s c i).set i (IntKind.wrap .u32 ((addN s c i).getD i 0+c.getD i 0))
theorem nt_ (s c:List Int):∀i,(addN s c i).length=s.length
 | 0=>rfl
 | i+1=>by simp [addN,nt_ s c i]
def qK_ (W:List Int) (c:Ch):Ch:=Ch.of (addN (rndN W c 64).ls c.ls 8)
theorem nC_ {kb:Nat} {y:Option Addr} {n cy:Nat} {bs:List UInt8} {c:Ch} {w:World} (hk:KAt w kb) (hs:Sl w y (bs.map bv)) (hl:n=bs.length) (h64:64≤n) {K:Value→World→Prop} (hK:∀w',Grow w w'→K (.agg (qK_ (db_ bs) c).arr) w') :
  aa_ PR F.dd_ ⟨[.agg #[.int .u32 c.a,.int .u32 c.b,.int .u32 c.c,.int .u32 c.d,.int .u32 c.e,.int .u32 c.f,.int .u32 c.g,.int .u32 c.h],.pointer (some ⟨kb,0,none⟩),.slice y n cy]⟩ w K:=by
 refine dd_ c.a c.b c.c c.d c.e c.f c.g c.h (some ⟨kb,0,none⟩) y n cy S0 K w λl0 hl0 l1 hl1 w0 hF0=>?_
 refine l2_ (hs.grow hF0.gr) hl h64 λw1 g1=>?_
 unfold qK_ at hK
 generalize db_ bs=W at hK
 refine ⟨_,_,_,_,_,_,_,_,_,_,_,_,_,_,_,_,_,_,_,_,_,_,_,_,_,_,_,_,_,_,_,_,_,_,_,_,_,_,_,_,_,_,_,_,_,_,_,_,_,_,_,_,_,_,_,_,_,_,_,_,_,_,_,_,rfl,hF0.reset.after g1,λl2 hl2 l3 hl3 w2 hF2=>?_⟩
 refine ⟨λi a b c' d e f g h l w'=>∃k:Nat,i=k∧k≤64∧l=64 - k∧(⟨a,b,c',d,e,f,g,h⟩:Ch)=rndN W c k,⟨_,0,rfl,by omega,rfl,rfl⟩,?_⟩
 rintro i a b c' d e f g h D l w3 ⟨k,rfl,hk64,rfl,hst⟩ hF3
 refine ⟨λhlt w4 hF4=>?_,λhge=>?_⟩
 ·have hk':k<64:=by omega
  refine ⟨λ_=>True,trivial,by omega,by omega,by omega,by omega,λw5 hF5=>?_⟩
  obtain ⟨T,hkb⟩:=hk.grow hF5.gr
  have hkc:w5.cell? ⟨kb,k,none⟩=some (.int .u32 (kL.getD k 0)):=by
   rw [aw_ hkb];exact co_ hk'
  refine ⟨(· = w5),rfl,by omega,by omega,by omega,by omega,by omega,by omega,ac_.2 (ac_.2 ⟨by omega,by omega,ac_.2 ⟨kL.getD k 0,λw' e=>?_,by omega,by omega,W.getD k 0,?_,?_⟩⟩)⟩
  ·subst e;rw [au_,show 0+(Int.toNat (k:Int))*1=k by omega];exact hkc
  ·rw [show 0+(Int.toNat (k:Int))*1=k by omega];exact ra_ W hk'
  ·refine bc_ (by decide) ⟨_,rfl,hF5.reset,rfl,bc_ (by decide) ⟨_,rfl,hF5.reset,rfl,bc_ (by decide) ⟨_,rfl,hF5.reset,rfl,λw10 hF10=>?_⟩⟩⟩
   refine ⟨λ_=>True,trivial,by omega,by omega,by omega,by omega,by omega,by omega,by omega,by omega,?_⟩
   refine bc_ (by decide) ⟨_,rfl,hF10.reset,trivial,bc_ (by decide) ⟨_,rfl,hF10.reset,trivial,bc_ (by decide) ⟨_,rfl,hF10.reset,trivial,?_⟩⟩⟩
   refine ⟨by omega,by omega,by omega,by omega,by omega,by omega,by omega,by omega,by omega,by omega,λw14 hF14=>⟨64 - (k+1),by omega,k+1,?_,by omega,rfl,?_⟩⟩
   ·rw [w64 (by omega) (by omega)];rfl
   ·show _=rnd (kL.getD k 0) (W.getD k 0) (rndN W c k)
    rw [← hst];rfl
 ·have:k=64:=by omega
  subst this
  rw [← hst] at hK
  have e0 : #[Value.int .u32 a,.int .u32 b,.int .u32 c',.int .u32 d,.int .u32 e,.int .u32 f,.int .u32 g,.int .u32 h]=u32s (addN (Ch.ls ⟨a,b,c',d,e,f,g,h⟩) c.ls 0):=rfl
  generalize hsv:Ch.ls ⟨a,b,c',d,e,f,g,h⟩=sv at hK e0
  have hsl:sv.length=8:=by rw [← hsv];rfl
  refine ⟨λi v l w'=>∃k:Nat,i=k∧k≤8∧l=8 - k∧v=.agg (u32s (addN sv c.ls k)),⟨_,0,rfl,by omega,rfl,by rw [e0]⟩,?_⟩
  rintro i v D l w15 ⟨k,rfl,hk8,rfl,rfl⟩ hF15
  have hL:=nt_ sv c.ls k
  generalize hS:addN sv c.ls k=A at hL
  refine ⟨λhlt w16 hF16=>?_,λhge=>?_⟩
  ·have hk':k<8:=by omega
   have e1:0+(Int.toNat (k:Int))*1=k:=by omega
   rw [e1]
   refine ⟨(· = w16),rfl,by omega,by omega,ac_.2 ⟨A.getD k 0,λw' e=>?_,by omega,by omega,c.ls.getD k 0,?_,by omega,by omega,?_,λw18 hF18=>⟨8 - (k+1),by omega,k+1,?_,by omega,rfl,?_⟩⟩⟩
   ·subst e;exact hF16.ld 2 k rfl rfl (co_ (L:=A) (i:=k) (by omega))
   ·exact co_ (L:=c.ls) (by show k<8;omega)
   ·show k<(u32s A).size;rw [hC_];omega
   ·rw [w64 (by omega) (by omega)];rfl
   ·show Value.agg ((u32s A).setIfInBounds k (.int .u32 (IntKind.wrap .u32 (A.getD k 0+c.ls.getD k 0))))=_
    rw [jT_,← hS];rfl
  ·have:k=8:=by omega
   subst this
   have h8:∀j:Nat,j<8→(Value.cells (.agg (u32s A)))[j]? = some (.int .u32 (A.getD j 0)):=λj h=>co_ (by omega)
   refine ⟨_,h8 0 (by decide),_,h8 1 (by decide),_,h8 2 (by decide),_,h8 3 (by decide),_,h8 4 (by decide),_,h8 5 (by decide),_,h8 6 (by decide),_,h8 7 (by decide),λw19 hF19=>?_⟩
   have hk:=hK w19 hF19.gr
   rw [hS] at hk
   exact hk
end Go.Vc
namespace Go.Vc
open Go
def oN_ (bs:List UInt8) (c:Ch):Ch:=qK_ (db_ (bs.take 64)) c
theorem k8_ {a b:List UInt8} (h:∀j,j<64→byt a j=byt b j):∀i,i≤16→sp1 a i=sp1 b i
 | 0,_=>rfl
 | i+1,hi=>by
  rw [sp1,sp1,k8_ h i (by omega),h (4*i) (by omega),h (4*i+1) (by omega),h (4*i+2) (by omega),h (4*i+3) (by omega)]
theorem l1_ (bs:List UInt8):db_ (bs.take 64)=db_ bs:=by
 unfold db_
 rw [k8_ (a:=bs.take 64) (b:=bs) (λj hj=>?_) 16 (Nat.le_refl _)]
 unfold byt
 rw [List.getD_eq_getElem?_getD,List.getD_eq_getElem?_getD,List.getElem?_take_of_lt hj]
def pcs (c:Ch) (bs:List UInt8):Nat→Ch
 | 0=>c
 | i+1=>oN_ (bs.drop (64*i)) (pcs c bs i)
theorem Sl.drop {w:World} {q:Option Addr} {xs:List Value} (h:Sl w q xs) {k c:Nat} (hc:xs.length≤c) (hk:k≤xs.length):Sl w (if c=k then q else q.map λa=>a.add k) (xs.drop k):=by
 by_cases h0:xs.drop k=[]
 ·exact .inl h0
 ·have hlt:k<xs.length:=by
   rcases Nat.lt_or_ge k xs.length with h | h
   ·exact h
   ·exact absurd (List.drop_eq_nil_of_le h) h0
  rw [if_neg (by omega)]
  rcases h with rfl | ⟨b,o,rfl,cs,T,fz,hb,hc⟩
  ·simp at hlt
  ·refine .inr ⟨b,o+k,by rw [Option.map_some,au_],cs,T,fz,hb,λi hi=>?_⟩
   rw [List.length_drop] at hi
   rw [Nat.add_assoc,hc (k+i) (by omega),List.getElem?_drop]
theorem qf_ (a:Addr) (k:Nat):(a.add k).block=a.block:=by
 unfold Addr.add;split <;> rfl
theorem eJ_ {kb:Nat} {y:Option Addr} {n cy:Nat} {bs:List UInt8} {c:Ch} {w:World} (hk:KAt w kb) (hs:Sl w y (bs.map bv)) (hl:n=bs.length) (hc:n≤cy) (hn:n≤4611686018427387904) {K:Value→World→Prop}
  (hK:∀w' q' n' c',Grow w w'→Sl w' q' ((bs.drop (64*(bs.length / 64))).map bv)→n'=bs.length - 64*(bs.length / 64)→(∀a,q'=some a→∃a0,y=some a0∧a.block=a0.block)→K (.tuple #[.agg (pcs c bs (bs.length / 64)).arr,.slice q' n' c']) w') :
  aa_ PR F.dG_ ⟨[.agg #[.int .u32 c.a,.int .u32 c.b,.int .u32 c.c,.int .u32 c.d,.int .u32 c.e,.int .u32 c.f,.int .u32 c.g,.int .u32 c.h],.pointer (some ⟨kb,0,none⟩),.slice y n cy]⟩ w K:=by
 refine dG_ c.a c.b c.c c.d c.e c.f c.g c.h (some ⟨kb,0,none⟩) y n cy S0 K w λl0 hl0 l1 hl1 w0 hF0=>?_
 refine ⟨λq l cc a b c' d e f g h m w'=>∃i:Nat,64*i≤bs.length∧l=bs.length - 64*i∧l≤cc∧m=l∧Sl w q ((bs.drop (64*i)).map bv)∧(∀a,q=some a→∃a0,y=some a0∧a.block=a0.block)∧(⟨a,b,c',d,e,f,g,h⟩:Ch)=pcs c bs i,⟨_,0,by omega,by omega,hc,rfl,hs,(λa ha=>⟨a,ha,rfl⟩),rfl⟩,?_⟩
 rintro q l cc a b c' d e f g h D m w1 ⟨i,hi,rfl,hlc,rfl,hsl,hqb,hst⟩ hF1
 refine ⟨λhge=>?_,λhlt w4 hF4=>?_⟩
 ·refine nC_ (c:=⟨a,b,c',d,e,f,g,h⟩) (hk.grow hF1.gr) (hsl.grow hF1.gr) (by rw [List.length_drop]) (by omega) λw2 g2=>⟨_,_,_,_,_,_,_,_,rfl,hF1.after g2,by omega,by omega,λw3 hF3=>?_⟩
  refine ⟨bs.length - 64*(i+1),by omega,i+1,by omega,by omega,by omega,by omega,?_,?_,?_⟩
  ·have:=hsl.drop (k:=64) (c:=cc) (by rw [List.length_map,List.length_drop];exact hlc) (by rw [List.length_map,List.length_drop];omega)
   rw [← List.map_drop,List.drop_drop] at this
   exact this
  ·intro x hx
   by_cases hcc:cc=64
   ·rw [if_pos hcc] at hx;exact hqb x hx
   ·rw [if_neg hcc] at hx
    cases q with
    | none=>cases hx
    | some z=>
     cases hx
     obtain ⟨a0,e1,e2⟩:=hqb z rfl
     exact ⟨a0,e1,by rw [qf_];exact e2⟩
  ·show qK_ (db_ (bs.drop (64*i))) ⟨a,b,c',d,e,f,g,h⟩=oN_ (bs.drop (64*i)) (pcs c bs i)
   rw [oN_,l1_,hst]
 ·have e:bs.length / 64=i:=by omega
  subst e
  have hk:=hK w4 q _ cc hF4.gr (hsl.grow hF4.gr) rfl hqb
  rw [← hst] at hk
  exact hk
def padN (n:Nat):Nat:=(120 - n%64)%64
def eb (many:Int) (i:Nat):UInt8:=UInt8.ofNat (IntKind.wrap .u8 (Int.fdiv (IntKind.wrap .i64 (8*many)) ((2:Int) ^ (Min.min (Int.toNat (IntKind.wrap .i64 (8*(i:Int)))) 64)))).toNat
def ebs (many:Int):Nat→List UInt8
 | 0=>[]
 | k+1=>ebs many k++[eb many (7 - k)]
theorem kx_ (many:Int):∀k,(ebs many k).length=k
 | 0=>rfl
 | k+1=>by simp [ebs,kx_ many k]
def endL (rest:List UInt8) (many:Int):List UInt8:=rest++[128]++List.replicate (padN (rest.length+1)) 0++ebs many 8
theorem iJ_ (x:Int):(.int .u8 (IntKind.wrap .u8 x):Value)=bv (UInt8.ofNat (IntKind.wrap .u8 x).toNat):=by
 unfold bv
 rw [wrap_u8]
 have h1:0≤x%256:=Int.emod_nonneg _ (by decide)
 have h2:x%256<256:=Int.emod_lt_of_pos _ (by decide)
 have:(UInt8.ofNat (x%256).toNat).toNat=(x%256).toNat:=by
  show (x%256).toNat%256=_
  omega
 rw [this,Int.toNat_of_nonneg h1]
theorem nl_ {y:Option Addr} {n cy:Nat} {rest:List UInt8} {many:Int} {w:World} (hs:Sl w y (rest.map bv)) (hl:n=rest.length) (hn:n≤1000000) {K:Value→World→Prop}
  (hK:∀w' q' c',Grow w w'→Sl w' q' ((endL rest many).map bv)→(endL rest many).length≤c'→K (.slice q' (endL rest many).length c') w') :
  aa_ PR F.l9_ ⟨[.slice y n cy,.int .i64 many]⟩ w K:=by
 subst hl
 refine l9_ y rest.length cy many S0 K w ?_
 refine f1_ (xs:=[]) (ys:=rest) (.nil _ _ _) rfl (Nat.le_refl _) hs rfl (by omega) λq0 c0 w0 ho0 hc0 g0 hq0=>?_
 have of0:Off (λj=>j<w.heap.size) q0:=λa ha hlt=>by
  rcases hq0 a ha with e | e
  ·cases e
  ·subst e;exact absurd hlt (Nat.lt_irrefl _)
 have g0':Grow w w0:=g0.mono λk _ h=>by obtain ⟨a,ha,_⟩:=h;cases ha
 have hF0:Fs S0 w [] w0:=(Fr.init _ w).after g0'
 refine ⟨_,_,_,rfl,hF0,λb1 hb1 w1 hF1=>?_⟩
 have s0:=g0'.size
 refine f1_ (ys:=[128]) (ho0.grow hF1.grow) (by simp) hc0 (hF1.sl 0 rfl) rfl (by omega) λq1 c1 w2 ho2 hc2 g2 hq2=>?_
 have app:∀ {L:List Blk} {w1 w2:World} {q:Option Addr} {M:List Nat} {wp:World} {c:Nat} {bs:List UInt8},Fr S0 w wp M L w1→wp.heap.size≤w1.heap.size→Chg (am_ q) w1 w2→Off (λj=>j<w.heap.size) q→Own T.uint8 1 wp q c (bs.map bv)→(∀x,x∈L→wp.heap.size≤x.b)→Fs S0 w L w2:=λ{L w1 w2 q M wp c bs} hF hsz g ho hown hL=>
  hF.app2 g w.heap.size wp.heap.size ho (λa ha=>hown.lt a ha) (λx hx=>.inr (hL x hx)) (Nat.le_refl _)
 have hF2:=app hF1 hF1.grow.size g2 of0 ho0 (λx hx=>by simp at hx;subst hx;exact hb1)
 have of1:=of0.next hq2 (by have:=hF1.gr.size;omega)
 refine ⟨_,_,_,rfl,hF2,?_⟩
 have hl1:rest.length+1=(rest++[128]).length:=by simp
 generalize hA:rest++[(128:UInt8)]=A at ho2 hl1
 have eA:([]++rest++[(128:UInt8)])=A:=by rw [List.nil_append];exact hA
 refine ⟨λq l c m w'=>∃j:Nat,j≤padN (rest.length+1)∧m=padN (rest.length+1) - j∧Own T.uint8 1 w' q c ((A++List.replicate j 0).map bv)∧l=A.length+j∧l≤c∧Off (λx=>x<w.heap.size) q,⟨_,0,by omega,rfl,?_,?_,?_,of1⟩,?_⟩
 ·rw [List.replicate_zero,List.append_nil];rw [List.nil_append,hA] at ho2;exact ho2
 ·simp at hl1 ⊢;omega
 ·exact hc2
 rintro q2 l2 c2 D m w3 ⟨j,hj,rfl,ho3,rfl,hlc3,of3⟩ hF3
 have hpad:padN (rest.length+1)<64:=Nat.mod_lt _ (by decide)
 have hmod:Int.tmod (((A.length+j:Nat):Int)) 64=(((A.length+j)%64:Nat):Int):=by rw [Int.tmod_eq_emod_of_nonneg (by omega)];omega
 rw [hmod]
 refine ⟨λh56=>?_,λhne b7 hb7 w7 hF7=>?_⟩
 ·have hje:j=padN (rest.length+1):=by
   have h56':(A.length+j)%64=56:=by omega
   unfold padN at hj ⊢
   rw [hl1] at hj ⊢
   omega
  subst hje
  generalize hB:A++List.replicate (padN (rest.length+1)) 0=B at ho3
  have hBl:A.length+padN (rest.length+1)=B.length:=by rw [← hB];simp
  refine ⟨λq l c n m w'=>∃k:Nat,k≤8∧n=7 - (k:Int)∧m=8 - k∧Own T.uint8 1 w' q c ((B++ebs many k).map bv)∧l=B.length+k∧l≤c∧Off (λx=>x<w.heap.size) q,⟨_,0,by omega,rfl,rfl,by rw [ebs,List.append_nil];exact ho3,by omega,hlc3,of3⟩,?_⟩
  rintro q3 l3 c3 n D m w4 ⟨k,hk,rfl,rfl,ho4,rfl,hlc4,of4⟩ hF4
  refine ⟨λhge=>⟨?_,λb5 hb5 w5 hF5=>?_⟩,λhlt=>?_⟩
  ·rw [w64 (by omega) (by omega)];omega
  ·have hk':k<8:=by omega
   have ek:(7 - (k:Int))=((7 - k:Nat):Int):=by omega
   rw [ek] at hF5 ⊢
   rw [iJ_] at hF5 ⊢
   refine f1_ (ys:=[eb many (7 - k)]) (ho4.grow hF5.grow) (by simp [kx_]) hlc4 (hF5.sl 0 rfl) rfl (by omega) λq5 c5 w6 ho6 hc6 g6 hq6=>?_
   have hF6:=app hF5 hF5.grow.size g6 of4 ho4 (λx hx=>by simp at hx;subst hx;exact hb5)
   refine ⟨_,_,_,rfl,hF6,8 - (k+1),by omega,k+1,by omega,?_,rfl,?_,by omega,hc6,of4.next hq6 (by have:=hF5.gr.size;omega)⟩
   ·rw [w64 (by omega) (by omega)];omega
   ·rw [ebs,← List.append_assoc];exact ho6
  ·have:k=8:=by omega
   subst this
   have e:B++ebs many 8=endL rest many:=by rw [← hB,← hA];rfl
   rw [e] at ho4
   have el:B.length+8=(endL rest many).length:=by rw [← e,List.length_append,kx_]
   rw [el] at hlc4 ⊢
   exact hK w4 q3 c3 hF4.gr ho4.sl hlc4
 ·have hjl:j<padN (rest.length+1):=by
   rcases Nat.lt_or_ge j (padN (rest.length+1)) with h | h
   ·exact h
   ·exfalso
    apply hne
    have:j=padN (rest.length+1):=by omega
    subst this
    unfold padN
    rw [hl1]
    omega
  refine f1_ (ys:=[0]) (ho3.grow hF7.grow) (by simp) hlc3 (hF7.sl 0 rfl) rfl (by omega) λq5 c5 w6 ho6 hc6 g6 hq6=>?_
  have hF6:=app hF7 hF7.grow.size g6 of3 ho3 (λx hx=>by simp at hx;subst hx;exact hb7)
  refine ⟨_,_,_,rfl,hF6,padN (rest.length+1) - (j+1),by omega,j+1,by omega,rfl,?_,by omega,hc6,of3.next hq6 (by have:=hF7.gr.size;omega)⟩
  rw [List.replicate_succ',← List.append_assoc];exact ho6
end Go.Vc
namespace Go.Vc
open Go
theorem gI_ {b n m c c2:Nat} {zs ys:List Value} {q2:Option Addr} {w:World} (ho:Own T.uint8 1 w (some ⟨b,0,none⟩) m zs) (hz:zs.length=n) (hs:Sl w q2 ys) (hy:ys.length=n) (h1:∀y∈ys,oneC y=true) {K:Value→World→Prop}
  (hK:∀w',Own T.uint8 1 w' (some ⟨b,0,none⟩) m ys→Chg (· = b) w w'→K (.int .i64 n) w'):rn PR (Builtin.copy_ #[T.bh_,T.bh_] T.int #[.slice (some ⟨b,0,none⟩) n c,.slice q2 n c2]) K w:=by
 obtain ⟨i,hi,hk⟩:=sT_
 refine df_ ?_
 have ld:∀(K:Array Value→World→Prop),K ys.toArray w→sv PR (Builtin.firstCells i.size n (.slice q2 n c2)) K w:=by
  intro K hK
  rcases hs with rfl | ⟨b,o,rfl,h⟩
  ·cases q2 with
   | none=>exact hK
   | some a=>
    have:n*i.size=0:=by rw [hk];simpa using hy.symm
    simp only [Builtin.firstCells,this]
    exact hK
  ·simp only [Builtin.firstCells]
   exact b9_ (by rw [hk];omega) h hK
 unfold Builtin.copy_
 have hmin:Nat.min n n=n:=Nat.min_self n
 simp only [List.getElem?_toArray,List.getElem?_cons_zero,List.getElem?_cons_succ,aH_,ao_ cy_,Builtin.lenOf,a3_,b8_ hi,hmin]
 refine ld _ ?_
 rcases ho with ⟨h,_⟩ | ⟨b',o,cs,h,hb,h2,h3,h4,h5⟩
 ·cases h
 ·cases h
  simp only [aH_,a3_]
  refine bH_ (o:=0) ys 0 cs w hb (by omega) h1 λw' cs' hb' hs' hout hin' hsz' g=>?_
  exact hK w' (.inr ⟨b,0,cs',rfl,hb',by omega,h3,by omega,λj hj=>by have:=hin' j hj;simpa using this⟩) g
end Go.Vc
namespace Go.Vc
open Go
theorem li_ (c:Ch) (f t:List UInt8):∀i,64*i≤f.length→pcs c (f++t) i=pcs c f i
 | 0,_=>rfl
 | i+1,h=>by
  rw [pcs,pcs,li_ c f t i (by omega)]
  unfold oN_
  rw [List.drop_append_of_le_length (by omega),List.take_append_of_le_length (by rw [List.length_drop];omega)]
theorem pf_ (c:Ch) (f t:List UInt8) (m:Nat) (h:64*m≤f.length):∀j,pcs (pcs c f m) (f.drop (64*m)++t) j=pcs c (f++t) (m+j)
 | 0=>(li_ c f t m h).symm
 | j+1=>by
  rw [pcs,pf_ c f t m h j,← Nat.add_assoc,pcs]
  unfold oN_
  rw [Nat.mul_add,← List.drop_drop,List.drop_append_of_le_length h]
theorem jq_ {n:Nat} (hn:n≤281474976710656) {w:World} {K:Value→World→Prop}
  (hK:∀b w',b=w.heap.size→Grow w w'→Own T.uint8 1 w' (some ⟨b,0,none⟩) n (List.replicate n (.int .u8 0))→K (.slice (some ⟨b,0,none⟩) n n) w') :
  rn PR (Instr.makeSlice T.bh_ (.int .i64 (n:Int)) (.int .i64 (n:Int))) K w:=by
 obtain ⟨i,hi,hk,hb,hz⟩:=t_u8
 exact df_ <| cX_ (i:=i) (by_:=1) cy_ hi hz rfl hk hb (by omega) (by omega) (by omega) λb w' e _ g ho=>hK b w' e g (by rw [Int.toNat_natCast] at ho;exact ho)
theorem KAt.keep {S:Nat→Prop} {w w':World} {b:Nat} (h:KAt w b) (g:Chg S w w') (hn:¬S b):KAt w' b:=by obtain ⟨T,h⟩:=h;exact ⟨T,g.get h hn⟩
theorem KAt.lt {w:World} {b:Nat} (h:KAt w b):b<w.heap.size:=by obtain ⟨T,h⟩:=h;exact aj_ h
def stC0 (c:Ch) (kb:Nat) (q:Option Addr) (l cc:Nat) (many:Int):Array Value:=
 #[.int .u32 c.a,.int .u32 c.b,.int .u32 c.c,.int .u32 c.d,.int .u32 c.e,.int .u32 c.f,.int .u32 c.g,.int .u32 c.h,.pointer (some ⟨kb,0,none⟩),.slice q l cc,.int .i64 many]
theorem mK_ {k0 kb n cy:Nat} {c0:Ch} {y:Option Addr} {xs:List (List UInt8)} {w:World} (hb:w.heap[k0]? = some (.cells (stC0 c0 kb none 0 0 0) T.d6_ (0,0))) (hk:KAt w kb) (hkk:kb≠k0) (hs:Sl w y (xs.map sv8')) (hyk:xs=[]∨Off (· = k0) y) (hl:n=xs.length) (hn:n≤1000000) (hbig:xs.flatten.length≤1099511627776) {K:Value→World→Prop}
  (hK:∀w' q c',Chg (· = k0) w w'→w'.heap[k0]? = some (.cells (stC0 (pcs c0 xs.flatten (xs.flatten.length / 64)) kb q (xs.flatten.length - 64*(xs.flatten.length / 64)) c' xs.flatten.length) T.d6_ (0,0))→Sl w' q ((xs.flatten.drop (64*(xs.flatten.length / 64))).map bv)→K (.tuple #[]) w') :
  aa_ PR F.gm_ ⟨[.pointer (some ⟨k0,0,none⟩),.slice y n cy]⟩ w K:=by
 subst hl
 have hk0:=aj_ hb
 refine hR_ k0 c0.a c0.b c0.c c0.d c0.e c0.f c0.g c0.h (some ⟨kb,0,none⟩) none 0 0 0 y xs.length cy (· = k0) K w ((Fr.init _ w).entry hb (λx h=>by cases h) λ_=>rfl) ⟨rfl,trivial⟩ ?_
 refine ⟨λn0 a b c' d e f g h q0 q1 l1 l2 n9 m w'=>∃i:Nat,n0=i∧i≤xs.length∧m=xs.length - i∧(⟨a,b,c',d,e,f,g,h⟩:Ch)=pcs c0 (xs.take i).flatten ((xs.take i).flatten.length / 64)∧q0=some ⟨kb,0,none⟩∧Own T.uint8 1 w' q1 l2 (((xs.take i).flatten.drop (64*((xs.take i).flatten.length / 64))).map bv)∧l1=(xs.take i).flatten.length - 64*((xs.take i).flatten.length / 64)∧l1≤l2∧n9=(xs.take i).flatten.length∧Off (λj=>j<w.heap.size) q1,⟨_,0,rfl,by omega,rfl,(by rw [List.take_zero];rfl),rfl,(by rw [List.take_zero,List.flatten_nil,List.drop_nil,List.map_nil];exact .nil _ _ _),(by simp),Nat.le_refl _,(by simp),λa h=>by cases h⟩,?_⟩
 rintro n0 a b c' d e f g h q0 q1 l1 l2 n9 D m w0 ⟨i,rfl,hi,rfl,hst,rfl,ho,rfl,hlc,rfl,of1⟩ hF0
 refine ⟨λhlt=>?_,λhge=>?_⟩
 ·have hi':i<xs.length:=by omega
  have hs0:=hs.keep hF0.chg (hyk.elim (λh=>by subst h;simp at hi') id)
  refine hs0.rd (v:=sv8' xs[i]) (by simp) (by omega) (by simp [hi']) λz hz=>⟨_,hz,?_⟩
  have hfl:=eq_ hi'
  have hle:=bE_ xs (i+1)
  rw [hfl,List.length_append] at hle
  generalize hFi:(xs.take i).flatten=Fi at *
  have hmany:IntKind.wrap .i64 ((Fi.length:Int)+((ByteArray.size (str xs[i]):Nat):Int))=(((xs.take (i+1)).flatten.length:Nat):Int):=by
   rw [ai_,hfl,List.length_append,w64 (by omega) (by omega)];omega
  have hm64:64*(Fi.length / 64)≤Fi.length:=by omega
  generalize hB:Fi.drop (64*(Fi.length / 64))++xs[i]=B
  have hBl:B.length=Fi.length - 64*(Fi.length / 64)+xs[i].length:=by rw [← hB,List.length_append,List.length_drop]
  have hdiv:(Fi.length+xs[i].length) / 64=Fi.length / 64+B.length / 64:=by omega
  have hst':pcs (pcs c0 Fi (Fi.length / 64)) B (B.length / 64)=pcs c0 (xs.take (i+1)).flatten ((xs.take (i+1)).flatten.length / 64):=by
   rw [hfl,List.length_append,hdiv,← hB,pf_ c0 Fi xs[i] _ hm64]
  have hdr:B.drop (64*(B.length / 64))=(xs.take (i+1)).flatten.drop (64*((xs.take (i+1)).flatten.length / 64)):=by
   rw [hfl,List.length_append,hdiv,Nat.mul_add,← List.drop_drop,List.drop_append_of_le_length hm64,hB]
  have hdr2:(B.drop (64*(B.length / 64))).length=(xs.take (i+1)).flatten.length - 64*((xs.take (i+1)).flatten.length / 64):=by
   rw [hdr,List.length_drop]
  have hl2:Fi.length - 64*(Fi.length / 64)+ByteArray.size (str xs[i])=B.length:=by rw [ai_,hBl]
  rw [hmany]
  have hmany:(((xs.take (i+1)).flatten.length:Nat):Int)=(((xs.take (i+1)).flatten.length:Nat):Int):=rfl
  have hoff:∀ {q:Option Addr},Off (λj=>j<w.heap.size) q→Off (· = k0) q:=λh a ha e=>by have:=h.le a ha;have e':a.block=k0:=e;omega
  have hMn:∀ {l8:Nat} {N:Nat} {q3:Option Addr} {wa wb:World} {M:List Nat} {zs:List Value},Sl wa q3 zs→(∀z,q3=some z→z.block<N)→N≤l8→Off (· = k0) q3→Chg (·∈M) wa wb→(∀k,k∈M→k=k0∨k=l8)→Sl wb q3 zs:=λ{l8 N q3 wa wb M zs} hsl hq hN ho g hM=>hsl.keep g λz hz e=>by
   rcases hM _ e with e | e
   ·exact ho z hz e
   ·have:=hq z hz;omega
  refine ⟨λw1 hF1=>?_,λl24 hl24 w1 hF1=>?_⟩
  ·have g1:Chg (· = k0) w0 w1:=hF1.stp.mono λj _ hj=>by simpa using hj
   have s1:=g1.size
   refine kL_ (ho.keep g1 (hoff of1)) (by rw [List.length_drop]) hlc (by rw [ai_];omega) λq2 c2 w2 ho2 hc2 g2 hq2=>?_
   rw [b6_,hB] at ho2
   rw [hl2] at hc2
   have hF2:=hF1.app2 g2 w.heap.size w0.heap.size of1 (λa ha=>ho.lt a ha) (λx hx=>by simp at hx;subst hx;exact .inl hk0) (Nat.le_refl _)
   have of2:Off (λj=>j<w.heap.size) q2:=of1.next hq2 (by have:=hF1.chg.size;omega)
   have hoq:∀a,q2=some a→a.block<w2.heap.size:=λa ha=>ho2.lt a ha
   rw [hl2]
   refine ⟨_,_,_,rfl,hF2,?_,λl15 hl15 w12 hF12=>?_⟩
   ·refine eJ_ (c:=⟨a,b,c',d,e,f,g,h⟩) (hk.keep hF2.chg hkk) ho2.sl rfl hc2 (by omega) λw3 q3 n3 c3 g3 hs3 hn3 hq3=>?_
    rw [hst]
    have hqo:Off (· = k0) q3:=λz hz ez=>by obtain ⟨a0,e1,e2⟩:=hq3 z hz;have:=of2.le a0 e1;have e3:z.block=k0:=ez;omega
    have hql:∀z,q3=some z→z.block<w2.heap.size:=λz hz=>by obtain ⟨a0,e1,e2⟩:=hq3 z hz;have:=ho2.lt a0 e1;omega
    have hF3:=hF2.after g3
    have lq:n3=(B.drop (64*(B.length / 64))).length:=by rw [List.length_drop];exact hn3
    rw [hst']
    refine ⟨_,_,_,_,_,_,_,_,_,_,_,rfl,hF3,λl8 hl8=>⟨λw4 hF4=>?_,λw4 hF4=>?_⟩⟩
    ·have hsl:=hMn (l8:=l8) hs3 hql (by have:=g3.size;omega) hqo hF4.stp (λk hk=>by simp at hk;omega)
     refine jq_ (by omega) λb5 w5 hb5 g5 ho5=>?_
     have hF5:=hF4.after g5
     refine ⟨_,_,_,rfl,hF5,λw6 hF6=>?_⟩
     have g6:Chg (· = k0) w5 w6:=hF6.stp.mono λi _ hi=>by simpa using hi
     have b5k:b5≠k0:=by have:=hF4.chg.size;omega
     refine gI_ (ho5.keep g6 (λa ha e=>by cases ha;exact b5k e)) (by simp) (((hsl.grow g5).keep g6 hqo)) (by rw [List.length_map];exact lq.symm) (λy hy=>by obtain ⟨z,_,rfl⟩:=List.mem_map.1 hy;rfl) λw7 ho7 g7=>?_
     have hF7:=hF6.step g7 (λx hx=>by simp at hx;subst hx;exact λe=>b5k e.symm) (λk hk e=>by have e':k=b5:=e;have:=hF4.chg.size;omega)
     exact ⟨_,rfl,hF7,xs.length - (i+1),by omega,i+1,by rw [w64 (by omega) (by omega)];rfl,by omega,rfl,rfl,rfl,by rw [← hdr];exact ho7,by rw [lq,hdr2],Nat.le_refl _,hmany,λa ha hlt=>by cases ha;have:=hF4.chg.size;simp only [] at hlt;omega⟩
    ·have hsl:=hMn (l8:=l8) hs3 hql (by have:=g3.size;omega) hqo hF4.stp (λk hk=>by simp at hk;omega)
     refine jq_ (by omega) λb5 w5 hb5 g5 ho5=>?_
     have hF5:=hF4.after g5
     refine ⟨_,_,_,rfl,hF5,λw6 hF6=>?_⟩
     have g6:Chg (· = k0) w5 w6:=hF6.stp.mono λi _ hi=>by simpa using hi
     have b5k:b5≠k0:=by have:=hF4.chg.size;omega
     refine gI_ (ho5.keep g6 (λa ha e=>by cases ha;exact b5k e)) (by simp) (((hsl.grow g5).keep g6 hqo)) (by rw [List.length_map];exact lq.symm) (λy hy=>by obtain ⟨z,_,rfl⟩:=List.mem_map.1 hy;rfl) λw7 ho7 g7=>?_
     have hF7:=hF6.step g7 (λx hx=>by simp at hx;subst hx;exact λe=>b5k e.symm) (λk hk e=>by have e':k=b5:=e;have:=hF4.chg.size;omega)
     exact ⟨_,rfl,hF7,xs.length - (i+1),by omega,i+1,by rw [w64 (by omega) (by omega)];rfl,by omega,rfl,rfl,rfl,by rw [← hdr];exact ho7,by rw [lq,hdr2],Nat.le_refl _,hmany,λa ha hlt=>by cases ha;have:=hF4.chg.size;simp only [] at hlt;omega⟩
   ·have g12:Grow w2 w12:=hF12.grow
    have ho2:=ho2.grow g12
    have hF2:=hF12.reset
    refine eJ_ (c:=⟨a,b,c',d,e,f,g,h⟩) (hk.keep hF2.chg hkk) ho2.sl rfl hc2 (by omega) λw3 q3 n3 c3 g3 hs3 hn3 hq3=>?_
    rw [hst]
    have hqo:Off (· = k0) q3:=λz hz ez=>by obtain ⟨a0,e1,e2⟩:=hq3 z hz;have:=of2.le a0 e1;have e3:z.block=k0:=ez;omega
    have hql:∀z,q3=some z→z.block<w12.heap.size:=λz hz=>by obtain ⟨a0,e1,e2⟩:=hq3 z hz;have:=ho2.lt a0 e1;omega
    have hF3:=hF2.after g3
    have lq:n3=(B.drop (64*(B.length / 64))).length:=by rw [List.length_drop];exact hn3
    have hql2:∀z,q3=some z→z.block<w2.heap.size:=λz hz=>by obtain ⟨a0,e1,e2⟩:=hq3 z hz;have:=hoq a0 e1;omega
    rw [hst']
    refine ⟨_,_,_,_,_,_,_,_,_,_,_,rfl,hF3,λw4 hF4=>?_,λw4 hF4=>?_⟩
    ·have hsl:=hMn (l8:=l15) hs3 hql2 hl15 hqo hF4.stp (λk hk=>by simp at hk;omega)
     refine jq_ (by omega) λb5 w5 hb5 g5 ho5=>?_
     have hF5:=hF4.after g5
     refine ⟨_,_,_,rfl,hF5,λw6 hF6=>?_⟩
     have g6:Chg (· = k0) w5 w6:=hF6.stp.mono λi _ hi=>by simpa using hi
     have b5k:b5≠k0:=by have:=hF4.chg.size;omega
     refine gI_ (ho5.keep g6 (λa ha e=>by cases ha;exact b5k e)) (by simp) (((hsl.grow g5).keep g6 hqo)) (by rw [List.length_map];exact lq.symm) (λy hy=>by obtain ⟨z,_,rfl⟩:=List.mem_map.1 hy;rfl) λw7 ho7 g7=>?_
     have hF7:=hF6.step g7 (λx hx=>by simp at hx;subst hx;exact λe=>b5k e.symm) (λk hk e=>by have e':k=b5:=e;have:=hF4.chg.size;omega)
     exact ⟨_,rfl,hF7,xs.length - (i+1),by omega,i+1,by rw [w64 (by omega) (by omega)];rfl,by omega,rfl,rfl,rfl,by rw [← hdr];exact ho7,by rw [lq,hdr2],Nat.le_refl _,hmany,λa ha hlt=>by cases ha;have:=hF4.chg.size;simp only [] at hlt;omega⟩
    ·have hsl:=hMn (l8:=l15) hs3 hql2 hl15 hqo hF4.stp (λk hk=>by simp at hk;omega)
     refine jq_ (by omega) λb5 w5 hb5 g5 ho5=>?_
     have hF5:=hF4.after g5
     refine ⟨_,_,_,rfl,hF5,λw6 hF6=>?_⟩
     have g6:Chg (· = k0) w5 w6:=hF6.stp.mono λi _ hi=>by simpa using hi
     have b5k:b5≠k0:=by have:=hF4.chg.size;omega
     refine gI_ (ho5.keep g6 (λa ha e=>by cases ha;exact b5k e)) (by simp) (((hsl.grow g5).keep g6 hqo)) (by rw [List.length_map];exact lq.symm) (λy hy=>by obtain ⟨z,_,rfl⟩:=List.mem_map.1 hy;rfl) λw7 ho7 g7=>?_
     have hF7:=hF6.step g7 (λx hx=>by simp at hx;subst hx;exact λe=>b5k e.symm) (λk hk e=>by have e':k=b5:=e;have:=hF4.chg.size;omega)
     exact ⟨_,rfl,hF7,xs.length - (i+1),by omega,i+1,by rw [w64 (by omega) (by omega)];rfl,by omega,rfl,rfl,rfl,by rw [← hdr];exact ho7,by rw [lq,hdr2],Nat.le_refl _,hmany,λa ha hlt=>by cases ha;have:=hF4.chg.size;simp only [] at hlt;omega⟩
  ·have g1:Chg (· = k0) w0 w1:=hF1.stp.mono λj _ hj=>by simpa using hj
   have s1:=g1.size
   refine kL_ (ho.keep g1 (hoff of1)) (by rw [List.length_drop]) hlc (by rw [ai_];omega) λq2 c2 w2 ho2 hc2 g2 hq2=>?_
   rw [b6_,hB] at ho2
   rw [hl2] at hc2
   have hF2:=hF1.app2 g2 w.heap.size w0.heap.size of1 (λa ha=>ho.lt a ha) (λx hx=>by simp at hx;rcases hx with rfl | rfl;exact .inl hk0;exact .inr hl24) (Nat.le_refl _)
   have of2:Off (λj=>j<w.heap.size) q2:=of1.next hq2 (by have:=hF1.chg.size;omega)
   have hoq:∀a,q2=some a→a.block<w2.heap.size:=λa ha=>ho2.lt a ha
   rw [hl2]
   refine ⟨_,_,_,rfl,hF2,?_⟩
   have hl24w:l24<w1.heap.size:=aj_ (hF1.blk 1 rfl)
   have hq24:∀a,q2=some a→a.block≠l24:=λa ha e=>by
    rcases hq2 a ha with h | h
    ·have:=ho.lt a h;omega
    ·subst h;simp only [] at e;omega
   refine eJ_ (c:=⟨a,b,c',d,e,f,g,h⟩) (hk.keep hF2.chg hkk) ho2.sl rfl hc2 (by omega) λw3 q3 n3 c3 g3 hs3 hn3 hq3=>?_
   rw [hst]
   have hqo:Off (· = k0) q3:=λz hz ez=>by obtain ⟨a0,e1,e2⟩:=hq3 z hz;have:=of2.le a0 e1;have e3:z.block=k0:=ez;omega
   have hql:∀z,q3=some z→z.block<w2.heap.size:=λz hz=>by obtain ⟨a0,e1,e2⟩:=hq3 z hz;have:=ho2.lt a0 e1;omega
   have hF3:=hF2.after g3
   have hne:∀z,q3=some z→z.block≠l24:=λz hz e=>by obtain ⟨a0,e1,e2⟩:=hq3 z hz;exact hq24 a0 e1 (by omega)
   have lq:n3=(B.drop (64*(B.length / 64))).length:=by rw [List.length_drop];exact hn3
   rw [hst']
   refine ⟨_,_,_,_,_,_,_,_,_,_,_,rfl,hF3,λw4 hF4=>?_,λw4 hF4=>?_⟩
   ·have hsl:=hs3.keep hF4.stp (λz hz e=>by simp at e;have h1:=hqo z hz;have h2:=hne z hz;omega)
    refine jq_ (by omega) λb5 w5 hb5 g5 ho5=>?_
    have hF5:=hF4.after g5
    refine ⟨_,_,_,rfl,hF5,λw6 hF6=>?_⟩
    have g6:Chg (· = k0) w5 w6:=hF6.stp.mono λi _ hi=>by simpa using hi
    have b5k:b5≠k0:=by have:=hF4.chg.size;omega
    refine gI_ (ho5.keep g6 (λa ha e=>by cases ha;exact b5k e)) (by simp) (((hsl.grow g5).keep g6 hqo)) (by rw [List.length_map];exact lq.symm) (λy hy=>by obtain ⟨z,_,rfl⟩:=List.mem_map.1 hy;rfl) λw7 ho7 g7=>?_
    have hF7:=hF6.step g7 (λx hx=>by simp at hx;subst hx;exact λe=>b5k e.symm) (λk hk e=>by have e':k=b5:=e;have:=hF4.chg.size;omega)
    exact ⟨_,rfl,hF7,xs.length - (i+1),by omega,i+1,by rw [w64 (by omega) (by omega)];rfl,by omega,rfl,rfl,rfl,by rw [← hdr];exact ho7,by rw [lq,hdr2],Nat.le_refl _,hmany,λa ha hlt=>by cases ha;have:=hF4.chg.size;simp only [] at hlt;omega⟩
   ·have hsl:=hs3.keep hF4.stp (λz hz e=>by simp at e;have h1:=hqo z hz;have h2:=hne z hz;omega)
    refine jq_ (by omega) λb5 w5 hb5 g5 ho5=>?_
    have hF5:=hF4.after g5
    refine ⟨_,_,_,rfl,hF5,λw6 hF6=>?_⟩
    have g6:Chg (· = k0) w5 w6:=hF6.stp.mono λi _ hi=>by simpa using hi
    have b5k:b5≠k0:=by have:=hF4.chg.size;omega
    refine gI_ (ho5.keep g6 (λa ha e=>by cases ha;exact b5k e)) (by simp) (((hsl.grow g5).keep g6 hqo)) (by rw [List.length_map];exact lq.symm) (λy hy=>by obtain ⟨z,_,rfl⟩:=List.mem_map.1 hy;rfl) λw7 ho7 g7=>?_
    have hF7:=hF6.step g7 (λx hx=>by simp at hx;subst hx;exact λe=>b5k e.symm) (λk hk e=>by have e':k=b5:=e;have:=hF4.chg.size;omega)
    exact ⟨_,rfl,hF7,xs.length - (i+1),by omega,i+1,by rw [w64 (by omega) (by omega)];rfl,by omega,rfl,rfl,rfl,by rw [← hdr];exact ho7,by rw [lq,hdr2],Nat.le_refl _,hmany,λa ha hlt=>by cases ha;have:=hF4.chg.size;simp only [] at hlt;omega⟩
 ·have:i=xs.length:=by omega
  subst this
  rw [List.take_length] at hst ho hF0
  have hb0:=hF0.blk 0 rfl
  have hk:=hK w0 q1 l2 hF0.chg
  rw [← hst] at hk
  exact hk hb0 ho.sl
end Go.Vc
