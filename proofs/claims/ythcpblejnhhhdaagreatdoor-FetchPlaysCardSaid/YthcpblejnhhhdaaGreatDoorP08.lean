/-
  A part of the proof of the statement FetchPlaysCardSaid, in Lean: Mf1, Mf2, Mk3, Mm1, Mm2, Pb1, Pb2, Rdn, RoG, As1, As2, As3, As4, As5, As6, RoE, Ms1, Msd, MirH1. By an AI agent.
-/
import Derived.Test.YthcpblejnhhhdaaGreatDoorP05
import Derived.Test.YthcpblejnhhhdaaGreatDoorP07
import Derived.Test.YthcpblejnhhhdaaGreatDoorP06
import Derived.OpenShut
import Derived.KernelRfl
import Derived.WalkKit
import Derived.ProofKit
import Derived.Below
import Derived.ChangeSame
import Derived.Carry
import Derived.Deep.SlicePairs
import Derived.Deep.Grids
import Derived.ChangeArms
import Derived.WideShapes
import Derived.Test.YthcpblejnhhhdaaGreatDoorP04
import Derived.MapKept
import Derived.WideKeyMaps
import Derived.WideKeyRuns
import Derived.LaidEql
import Derived.Stop.Asserts
import Derived.RowKitTokens
import Derived.Test.YthcpblejnhhhdaaGreatDoorCards
import Derived.Test.YthcpblejnhhhdaaGreatDoorTie
import Derived.LaidSub
import Derived.LaidLaws
import Derived.LaidHandle
import Derived.Stop.LaidErr
import Derived.Deep.DeepHandedRow
import Derived.Deep.DeepWitnessRowRef
import Derived.Lib.LaidTab
import Derived.Lib.LaidIn
import Derived.Test.YthcpblejnhhhdaaGreatDoorP02
set_option linter.unusedSimpArgs false
set_option linter.unusedVariables false
set_option maxRecDepth 1000000
namespace Go.Vc
open Go
def aK_ (xs:List (List UInt8)):List UInt8:=(xs.map λs=>af_ s.length++s).flatten
theorem j2_ {xs:List (List UInt8)} {k:Nat} (h:k<xs.length):aK_ (xs.take (k+1))=aK_ (xs.take k)++(af_ xs[k].length++xs[k]):=by
 unfold aK_;rw [ar_ h,List.map_append,List.flatten_append];simp
theorem hW_ (xs:List (List UInt8)) (k:Nat):(aK_ (xs.take k)).length≤(aK_ xs).length:=by
 have:aK_ xs=aK_ (xs.take k)++aK_ (xs.drop k):=by
  unfold aK_;rw [← List.flatten_append,← List.map_append,List.take_append_drop]
 rw [this,List.length_append];omega
theorem c7_ {q:Option Addr} {n c:Nat} {xs:List (List UInt8)} {w:World} (hs:Sl w q (xs.map sv8')) (hl:n=xs.length) (hn:n≤1000000) (hb:(aK_ xs).length≤35184372088832) {K:Value→World→Prop}
  (hK:∀w',Grow w w'→K (.string (str (aK_ xs))) w'):aa_ PR F.j__ ⟨[.slice q n c]⟩ w K:=by
 subst hl
 refine iX_ q xs.length c S0 K w λb hb0 w0 hF0=>?_
 have hbb:=hF0.blk 0 rfl
 have hbl:b<w0.heap.size:=aj_ hbb
 have off0:∀ {q:Option Addr} {bs:List UInt8} {p:Option Addr} {l c:Nat} {w':World},BldP w' b w0.heap.size p q l c bs→∀j,j<w.heap.size→¬(j=b∨am_ q j):=by
  rintro q bs p l c w' h j hj (e | ⟨a,ha,e⟩)
  ·omega
  ·have:=h.off.le a ha;have:=hF0.chg.size;omega
 have hmod:∀ {w1 w2:World} {p q p' q':Option Addr} {l c l' c':Nat} {bs bs':List UInt8},Fs S0 w [⟨b,#[.pointer p,.slice q l c],T.ae_,true⟩] w1→BldP w1 b w0.heap.size p q l c bs→BldP w2 b w0.heap.size p' q' l' c' bs'→Chg (λk=>k=b∨am_ q k) w1 w2→
   Fs S0 w [⟨b,#[.pointer p',.slice q' l' c'],T.ae_,true⟩] w2:=λhF h1 h2 g=>hF.mod g h2.blk (λx hx=>by cases hx) λj hj hs=>absurd hs (off0 h1 j hj)
 refine ⟨λi p q l c m w'=>∃k:Nat,i=k∧k≤xs.length∧m=xs.length - k∧BldP w' b w0.heap.size p q l c (aK_ (xs.take k))∧w0.heap.size≤w'.heap.size,⟨_,0,rfl,by omega,rfl,.new hbb hbl,Nat.le_refl _⟩,?_⟩
 rintro i p q1 l c1 D m w1 ⟨k,rfl,hk,rfl,hB,hsz⟩ hF
 have hle:=hW_ xs k
 refine ⟨λhlt=>?_,λhge=>?_⟩
 ·have hk':k<xs.length:=by omega
  have hnx:=j2_ hk'
  have hle2:=hW_ xs (k+1)
  rw [hnx,List.length_append,List.length_append] at hle2
  refine (hs.grow hF.gr).rd (v:=sv8' xs[k]) (by simp) (by omega) (by simp [hk']) λa ha=>⟨_,ha,?_⟩
  rw [ai_]
  refine gc_ (by omega) (by omega) λw2 g2=>⟨_,rfl,hF.after g2,?_⟩
  rw [Int.toNat_natCast]
  simp only [ai_,aD_]
  have hB2:=hB.grow g2
  have hl:=hB2.len
  refine ⟨by omega,?_⟩
  refine aZ_ hB2 (by have:=g2.size;omega) (by rw [ai_,List.length_append];omega) λw3 p' q' l' c' hB3 g3 hq3=>⟨_,_,rfl,p',q',l',c',hmod (hF.after g2) hB2 hB3 g3,xs.length - (k+1),by omega,k+1,wr1 (by omega),by omega,rfl,?_,by have:=g2.size;have:=g3.size;omega⟩
  rw [b6_] at hB3
  rw [hnx];exact hB3
 ·have e:k=xs.length:=by omega
  subst e
  rw [List.take_length] at hB
  refine dV_ hB λw2 g2=>⟨_,rfl,hF.step g2 (λx hx ⟨a,ha,e⟩=>?_) (λj hj hj'=>off0 hB j hj (.inr hj')),?_⟩
  ·simp at hx;subst hx
   have:=hB.off.le a ha;simp only [] at e;omega
  ·exact hK w2 (Chg.trans hF.gr g2 λj hj hj'=>absurd (.inr hj') (off0 hB j hj))
def mval (m:Man) (q:Option Addr) (c:Nat):Value:=.agg #[.int .i64 m.version,.int .i64 m.nodes,.int .i64 m.edges,.slice q m.shards.length c,.int .i64 m.blocks,.string (str m.root)]
theorem lu_ {n a b:Int} (h:a≤n∧n≤b) {w:World} {K:Value→World→Prop} (hK:K (.bool true) w):aa_ PR F.fh_ ⟨[.int .i64 n,.int .i64 a,.int .i64 b]⟩ w K:=
 fh_ n a b S0 K w ⟨λ_=>⟨λ_=>hK,λh'=>by omega⟩,λh'=>by omega⟩
theorem rk_ {m:Man} (h:m.ok) {q:Option Addr} {c:Nat} {w:World} {K:Value→World→Prop} (hK:∀w',Grow w w'→K (.int .i64 (-1)) w'):aa_ PR F.dk_ ⟨[mval m q c]⟩ w K:=by
 have hs:=h.shards
 have hiff:m.shards.length=0↔m.nodes=0:=by rw [← hs.2];exact List.length_eq_zero_iff
 refine dk_ m.version m.nodes m.edges q m.shards.length c m.blocks (str m.root) S0 K w λb hb w0 hF0=>?_
 refine lu_ h.version ⟨true,rfl,λ_=>⟨hF0.reset,lu_ h.nodes ⟨true,rfl,λ_=>⟨hF0.reset,lu_ h.edges ⟨true,rfl,λ_=>⟨hF0.reset,λh'=>by omega,λ_=>⟨λh0=>⟨λ_=>hK w0 hF0.chg,λh1=>by omega⟩,λh0=>⟨λh1=>by omega,λ_=>hK w0 hF0.chg⟩⟩⟩,(λh=>by cases h)⟩⟩,(λh=>by cases h)⟩⟩,(λh=>by cases h)⟩
theorem oP_ {nodes:Int} : ∀ {l:List (Int × Int)} {p:Option Int},gY_ nodes p l→∀k,(hk:k<l.length)→(3≤l[k].2∧l[k].2≤1048576)∧(k=0→p=none→l[k].1=0)∧((hk0:0<k)→l[k - 1].1+1≤l[k].1∧l[k].1≤nodes - 1)
 | [],_,_,k,hk=>by simp at hk
 | (f,b) :: l,none,h,k,hk=>by
  obtain ⟨h0,h1,h2,h3⟩:=h
  cases k with
  | zero=>exact ⟨⟨h1,h2⟩,λ_ _=>h0,λh=>by omega⟩
  | succ k=>
   have ih:=oP_ h3 k (by simpa using hk)
   refine ⟨ih.1,λh=>by omega,λ_=>?_⟩
   cases k with
   | zero=>
    match l,h3,hk with
    | (f',b') :: l',h3,_=>obtain ⟨a1,a2,_⟩:=h3;exact ⟨a1,a2⟩
   | succ k=>exact ih.2.2 (by omega)
 | (f,b) :: l,some p,h,k,hk=>by
  obtain ⟨h0,h0',h1,h2,h3⟩:=h
  cases k with
  | zero=>exact ⟨⟨h1,h2⟩,(λ_ h=>by cases h),λh=>by omega⟩
  | succ k=>
   have ih:=oP_ h3 k (by simpa using hk)
   refine ⟨ih.1,λh=>by omega,λ_=>?_⟩
   cases k with
   | zero=>
    match l,h3,hk with
    | (f',b') :: l',h3,_=>obtain ⟨a1,a2,_⟩:=h3;exact ⟨a1,a2⟩
   | succ k=>exact ih.2.2 (by omega)
theorem oO_ {m:Man} (h:m.ok) {q:Option Addr} {c:Nat} {w:World} (hs:Sl w q (encE m.shards)) {K:Value→World→Prop} (hK:∀w',Grow w w'→K (.int .i64 (-1)) w'):aa_ PR F.cL_ ⟨[mval m q c]⟩ w K:=by
 have hsl:=h.shards.1
 have hno:=h.nodes
 refine cL_ m.version m.nodes m.edges q m.shards.length c m.blocks (str m.root) S0 K w λb hb w0 hF0=>?_
 refine ⟨λi k w'=>∃j:Nat,i=j∧j≤m.shards.length∧k=m.shards.length - j,⟨_,0,rfl,by omega,rfl⟩,?_⟩
 rintro i D k w1 ⟨j,rfl,hj,rfl⟩ hF
 refine ⟨λhlt=>?_,λhge=>hK w1 hF.gr⟩
 have hj':j<m.shards.length:=by omega
 obtain ⟨hb1,hz,hp⟩:=oP_ h.tab j hj'
 have fin:∃l4:Nat,l4<m.shards.length - j∧∃j1:Nat,IntKind.wrap .i64 ((j:Int)+1)=j1∧j1≤m.shards.length∧l4=m.shards.length - j1:=⟨m.shards.length - (j+1),by omega,j+1,wr1 (by omega),by omega,rfl⟩
 refine (hs.grow hF.gr).rd2 rfl hj' hj' λa ha1 ha2=>⟨_,ha1,_,ha2,λb3 hb3=>?_⟩
 refine ⟨λh0=>⟨λhj0 w2 hF2=>⟨(· = w2),rfl,?_⟩,λhj0 w6 hF6=>?_⟩,λh0=>⟨λhj0 w8 hF8=>⟨(· = w8),rfl,?_⟩,λhj0 w12 hF12=>?_⟩⟩
 ·have hj1:0<j:=by omega
  have:=hp hj1
  rw [wrP hj1 (by omega)]
  refine (hs.grow hF2.chg).rd2 (k:=j - 1) rfl (by omega) (by omega) λa ha1 ha2=>ac_.2 ⟨_,λw3 e=>e ▸ ha1,?_⟩
  have hbd:=cs_ hno.2 (λ_ h=>by cases h) h.tab _ (List.getElem_mem (show j - 1<m.shards.length by omega))
  rw [w64 (n:=m.shards[j - 1].1+1) (by omega) (by omega),w64 (n:=m.nodes - 1) (by omega) (by omega)]
  exact lu_ this ⟨true,rfl,λ_=>⟨hF2.reset,rfl,lu_ hb1 ⟨true,rfl,λ_=>⟨hF2.reset,fin⟩,(λh=>by cases h)⟩⟩,(λh=>by cases h)⟩
 ·exact lu_ hb1 ⟨true,rfl,λ_=>⟨hF6.reset,fin⟩,(λh=>by cases h)⟩
 ·have hj1:0<j:=by omega
  have:=hp hj1
  rw [wrP hj1 (by omega)]
  refine (hs.grow hF8.chg).rd2 (k:=j - 1) rfl (by omega) (by omega) λa ha1 ha2=>ac_.2 ⟨_,λw3 e=>e ▸ ha1,?_⟩
  have hbd:=cs_ hno.2 (λ_ h=>by cases h) h.tab _ (List.getElem_mem (show j - 1<m.shards.length by omega))
  rw [w64 (n:=m.shards[j - 1].1+1) (by omega) (by omega),w64 (n:=m.nodes - 1) (by omega) (by omega)]
  exact lu_ this ⟨true,rfl,λ_=>⟨hF8.reset,rfl,lu_ hb1 ⟨true,rfl,λ_=>⟨hF8.reset,fin⟩,(λh=>by cases h)⟩⟩,(λh=>by cases h)⟩
 ·exact absurd (hz (by omega) rfl) h0
end Go.Vc
namespace Go.Vc
open Go
theorem fB_ {l:List Int} {k:Nat} (h:k<l.length):(l.take (k+1)).sum=(l.take k).sum+l[k]:=by
 rw [ar_ h,List.sum_append];simp
theorem n9_ {m:Man} (h:m.ok) {q:Option Addr} {c:Nat} {w:World} (hs:Sl w q (encE m.shards)) {K:Value→World→Prop} (hK:∀w',Grow w w'→0≤m.total→m.total≤67108864→K (.int .i64 m.total) w'):aa_ PR F.dl_ ⟨[mval m q c]⟩ w K:=by
 have hsl:=h.shards.1
 have hno:=h.nodes
 have hbd:∀k,k≤m.shards.length→0≤((m.shards.map (·.2)).take k).sum∧((m.shards.map (·.2)).take k).sum≤k*1048576:=by
  intro k
  induction k with
  | zero=>intro _;simp
  | succ k ih=>
   intro hk
   have hk':k<m.shards.length:=hk
   have i:=ih (by omega)
   have:=cs_ hno.2 (λ_ h=>by cases h) h.tab _ (List.getElem_mem hk')
   rw [fB_ (by simpa using hk'),List.getElem_map]
   omega
 refine dl_ m.version m.nodes m.edges q m.shards.length c m.blocks (str m.root) S0 K w λb hb w0 hF0=>?_
 refine ⟨λx i k w'=>∃j:Nat,i=j∧j≤m.shards.length∧k=m.shards.length - j∧x=((m.shards.map (·.2)).take j).sum,⟨_,0,rfl,by omega,rfl,by simp⟩,?_⟩
 rintro x i D k w1 ⟨j,rfl,hj,rfl,rfl⟩ hF
 refine ⟨λhlt=>?_,λhge=>?_⟩
 ·have hj':j<m.shards.length:=by omega
  have b1:=hbd j hj
  have b2:=hbd (j+1) (by omega)
  have hn:=fB_ (l:=m.shards.map (·.2)) (k:=j) (by simpa using hj')
  rw [List.getElem_map] at hn
  refine (hs.grow hF.gr).rd2 rfl hj' hj' λa ha1 ha2=>⟨_,ha1,_,ha2,λb3 hb3 w2 hF2=>⟨_,?_,j+1,wr1 (by omega),by omega,rfl,?_⟩⟩
  ·omega
  ·rw [w64 (by omega) (by omega),hn]
 ·have e:j=m.shards.length:=by omega
  subst e
  have b1:=hbd _ (Nat.le_refl m.shards.length)
  have e2:((m.shards.map (·.2)).take m.shards.length).sum=m.total:=by rw [List.take_of_length_le (by simp)];rfl
  rw [e2] at b1 ⊢
  exact hK w1 hF.gr b1.1 (by omega)
theorem qX_ {m:Man} (h:m.ok) {q:Option Addr} {c:Nat} {w:World} (hs:Sl w q (encE m.shards)) {K:Value→World→Prop} (hK:∀w',Grow w w'→K (.int .i64 (-1)) w'):aa_ PR F.dj_ ⟨[mval m q c]⟩ w K:=by
 refine dj_ m.version m.nodes m.edges q m.shards.length c m.blocks (str m.root) S0 K w λb hb w0 hF0=>?_
 refine rk_ h λw1 g1=>⟨_,rfl,hF0.after g1,λh=>by omega,λ_=>?_⟩
 have hF1:=hF0.after g1
 refine oO_ h (hs.grow hF1.chg) λw2 g2=>⟨_,rfl,hF1.after g2,λh=>by omega,λ_ w3 hF3=>?_⟩
 refine n9_ h (hs.grow hF3.chg) λw4 g4 ht0 ht1=>⟨_,rfl,hF3.after g4,?_⟩
 have hF4:=hF3.after g4
 obtain ⟨t,ht⟩:=Int.eq_ofNat_of_zero_le ht0
 rw [ht]
 refine gO_ (by omega) ⟨_,rfl,hF4,?_⟩
 have hb1:=h.blocks
 rw [ht,jC_] at hb1
 refine ⟨λ_=>⟨λh=>by omega,λ_=>⟨λ_=>hK w4 hF4.chg,λh'=>absurd (by rw [ai_,h.root];rfl) h'⟩⟩,λh'=>absurd hb1.1 h'⟩
theorem qr_ {m:Man} (h:m.ok) {q:Option Addr} {c:Nat} {w:World} (hs:Sl w q (encE m.shards)) {K:Value→World→Prop} (hK:∀w',Grow w w'→K .nilIface w'):aa_ PR F.dm_ ⟨[mval m q c]⟩ w K:=by
 refine dm_ m.version m.nodes m.edges q m.shards.length c m.blocks (str m.root) S0 K w λb hb w0 hF0=>?_
 refine qX_ h (hs.grow hF0.chg) λw1 g1=>⟨_,rfl,hF0.after g1,λh=>by omega,λ_=>hK w1 (hF0.after g1).chg⟩
theorem hN_ {l:List Int} {k:Nat} (h:k<l.length):cb_ (l.take (k+1))=cb_ (l.take k)++af_ l[k].toNat:=by
 unfold cb_;rw [ar_ h,List.flatMap_append];simp
theorem cu_ {l:List Int} (h:∀n∈l,0≤n∧n≤72057594037927935):(cb_ l).length≤8*l.length:=by
 induction l with
 | nil=>simp [cb_]
 | cons x l ih=>
  have i:=ih λn hn=>h n (List.mem_cons_of_mem _ hn)
  have:=an_ (n:=x.toNat) (by have:=h x List.mem_cons_self;omega)
  simp only [cb_,List.flatMap_cons,List.length_append,List.length_cons] at i ⊢;omega
theorem sO_ {m:Man} (h:m.ok) {q:Option Addr} {c:Nat} {w:World} (hs:Sl w q (encE m.shards)) {K:Value→World→Prop} (hK:∀w',Grow w w'→K (.tuple #[.string (str (jh_ m)),.nilIface]) w'):aa_ PR F.el_ ⟨[mval m q c]⟩ w K:=by
 have hsl:=h.shards.1
 have hnums:=h.nums
 have hroot:=h.root
 have hnl:m.nums.length=5+2*m.shards.length:=by simp [Man.nums,gj_];omega
 have hsh:=cu_ hnums
 refine el_ m.version m.nodes m.edges q m.shards.length c m.blocks (str m.root) S0 K w λb hb w0 hF0=>?_
 refine qr_ h (hs.grow hF0.chg) λw1 g1=>⟨_,rfl,hF0.after g1,λ_=>?_,(λt x h=>by cases h),.inl rfl⟩
 intro b1 hb1 w2 hF2
 have hbl:b<w2.heap.size:=hF2.lt _ List.mem_cons_self
 let pre (k:Nat):List Int:=[m.version,m.nodes,m.edges,(m.shards.length:Int)]++ji_ (m.shards.take k)
 have hprel:∀k,k≤m.shards.length→(pre k).length=4+2*k:=λk hk=>by simp [pre,gj_,Nat.min_eq_left hk];omega
 refine ⟨λq1 l1 c1 i k w'=>∃j:Nat,i=j∧j≤m.shards.length∧k=m.shards.length - j∧Own T.int 1 w' q1 c1 ((pre j).map iv)∧4+2*j=l1∧l1≤c1∧Off (λx=>x<w1.heap.size) q1∧w1.heap.size≤w'.heap.size,⟨_,0,rfl,by omega,rfl,?_,rfl,Nat.le_refl _,?_,hF2.grow.size⟩,?_⟩
 ·have:pre 0=[m.version,m.nodes,m.edges,(m.shards.length:Int)]:=by simp [pre,ji_]
  rw [this]
  exact hF2.own 1 rfl rfl (by omega)
 ·intro a ha hlt;cases ha;simp only [] at hlt;omega
 rintro q1 l1 c1 i D k w3 ⟨j,rfl,hj,rfl,ho,rfl,hlc,hof,hsz⟩ hF3
 have hF0b:b<w1.heap.size:=by have:=hF0.lt _ List.mem_cons_self;have:=g1.size;simp only [] at *;omega
 refine ⟨λhlt=>?_,λhge=>?_⟩
 ·have hj':j<m.shards.length:=by omega
  refine (hs.grow hF3.gr).rd2 rfl hj' hj' λa ha1 ha2=>⟨_,ha1,_,ha2,λb6 hb6 b7 hb7 w4 hF4=>?_⟩
  have g34:Chg (· = b6) w3 w4:=hF4.stp.mono λx _ hx=>by simpa using hx
  have ho4:Own T.int 1 w4 q1 c1 ((pre j).map iv):=ho.keep g34 λa ha e=>by have:=ho.lt a ha;have e':a.block=b6:=e;omega
  refine f2_ ho4 (by rw [hprel j hj]) hlc (ys:=[m.shards[j].1,m.shards[j].2]) (hF4.sl 2 rfl) rfl (by omega) λq2 c2 w5 ho5 hc5 g5 hq5=>?_
  have hF5:=hF4.app2 g5 w1.heap.size w3.heap.size hof (λa ha=>ho.lt a ha) (λy hy=>by
   rcases List.mem_cons.1 hy with rfl | hy
   ·exact .inl hF0b
   rcases List.mem_cons.1 hy with rfl | hy
   ·exact .inr hb6
   ·simp at hy;subst hy;exact .inr hb7) (by have:=hF0.chg.size;have:=g1.size;omega)
  refine ⟨_,_,_,rfl,hF5,m.shards.length - (j+1),by omega,j+1,wr1 (by omega),by omega,rfl,?_,by omega,hc5,hof.next hq5 (by have:=g34.size;omega),by have:=g34.size;have:=g5.size;omega⟩
  have:pre (j+1)=pre j++[m.shards[j].1,m.shards[j].2]:=by
   simp only [pre,ji_,ar_ hj',List.flatMap_append,List.append_assoc];simp
  rw [this];exact ho5
 ·have e:j=m.shards.length:=by omega
  subst e
  have hpe:pre m.shards.length++[m.blocks]=m.nums:=by simp [pre,Man.nums]
  intro b11 hb11 w6 hF6
  have g36:Grow w3 w6:=hF6.grow
  refine f2_ (ho.grow g36) (by rw [hprel _ (Nat.le_refl _)]) hlc (ys:=[m.blocks]) (hF6.sl 1 rfl) rfl (by omega) λq2 c2 w7 ho7 hc7 g7 hq7=>?_
  rw [hpe] at ho7
  have hF7:=hF6.app2 g7 w1.heap.size w3.heap.size hof (λa ha=>ho.lt a ha) (λy hy=>by
   rcases List.mem_cons.1 hy with rfl | hy
   ·exact .inl hF0b
   ·simp at hy;subst hy;exact .inr hb11) (by have:=hF0.chg.size;have:=g1.size;omega)
  have hl2:4+2*m.shards.length+1=m.nums.length:=by omega
  rw [hl2]
  refine ⟨_,_,_,rfl,hF7,λs i k w'=>∃j:Nat,i=j∧j≤m.nums.length∧k=m.nums.length - j∧s=str (cb_ (m.nums.take j))∧Sl w' q2 (m.nums.map iv),⟨_,0,rfl,by omega,rfl,by simp [cb_,str],ho7.sl⟩,?_⟩
  rintro s i D k w8 ⟨j,rfl,hj,rfl,rfl,hs8⟩ hF8
  have hsj:=cu_ (l:=m.nums.take j) λn hn=>hnums n (List.mem_of_mem_take hn)
  rw [List.length_take] at hsj
  refine ⟨λhlt=>?_,λhge=>?_⟩
  ·have hj':j<m.nums.length:=by omega
   have hn:=hnums _ (List.getElem_mem hj')
   refine hs8.rd (v:=iv (m.nums.getD j 0)) (by simp) (by omega) (gw_ hj') λa ha=>⟨_,ha,?_⟩
   rw [kr_ hj']
   have h8:=an_ (n:=m.nums[j].toNat) (by omega)
   refine bN_ hn λw9 g9=>⟨_,_,rfl,hF8.after g9,?_,m.nums.length - (j+1),by omega,j+1,wr1 (by omega),by omega,rfl,?_,hs8.grow g9⟩
   ·rw [ai_,ai_];omega
   ·rw [aD_,hN_ hj']
  ·have e:j=m.nums.length:=by omega
   subst e
   rw [List.take_length]
   intro b17 hb17 w10 hF10
   refine c7_ (xs:=[m.root]) (hF10.sl 1 rfl) rfl (by simp) (by have:=an_ (n:=m.root.length) (by omega);simp [aK_];omega) λw11 g11=>⟨_,rfl,hF10.after g11,?_,?_⟩
   ·have:=an_ (n:=m.root.length) (by omega)
    rw [ai_,ai_];simp [aK_];omega
   ·rw [aD_]
    have:cb_ m.nums++aK_ [m.root]=jh_ m:=by simp [jh_,aK_]
    rw [this]
    exact hK w11 (hF10.after g11).chg
end Go.Vc
namespace Go.Vc
open Go
theorem nu_ {q:Option Addr} {n c:Nat} {xs:List (List UInt8)} {w:World} (hs:Sl w q (xs.map sv8')) (hl:n=xs.length) (hn:n≤100000) (hx:∀x∈xs,x.length≤1000000) {K:Value→World→Prop}
  (hK:∀w' b q' c' m R,Grow w w'→dC_ w' b q' c' m (xs.map aC_) R→(xs≠[]→R (.agg #[.int .i64 0,.int .i64 xs.length]) (.string (str (a5_ a9_ (xs.map aC_) xs.length 0 xs.length))))→(xs≠[]→cV_ R 0 xs.length)→w.heap.size≤b→w.heap.size≤m→Off (λj=>j<w.heap.size) q'→K (.pointer (some ⟨b,0,none⟩)) w') :
  aa_ PR F.nS_ ⟨[.slice q n c]⟩ w K:=by
 subst hl
 have hlv:∀y∈xs.map aC_,y.length=32:=λy hy=>by obtain ⟨x,_,rfl⟩:=List.mem_map.1 hy;exact gX_ _
 refine mn_ q xs.length c S0 K w (pt_ (k:=T.al_) λw0 m hm hm0 g0=>⟨_,rfl,(Fr.init _ w).after g0,λb hb w1 hF1=>?_⟩)
 have hbl:b<w1.heap.size:=hF1.lt _ List.mem_cons_self
 have hm1:=hm0.grow hF1.grow
 have hml:m<w0.heap.size:=hm0.lt
 refine ⟨λi q1 l1 c1 mm k w'=>∃j:Nat,i=j∧j≤xs.length∧k=xs.length - j∧Own T.string 1 w' q1 c1 (((xs.take j).map aC_).map sv8')∧j=l1∧l1≤c1∧Off (λx=>x<w1.heap.size) q1∧mm=some m∧MapP w' T.al_ m 0 (λ_ _=>False)∧w1.heap.size≤w'.heap.size,⟨_,0,rfl,by omega,rfl,.nil _ _ _,rfl,Nat.le_refl _,.none _,rfl,hm1,Nat.le_refl _⟩,?_⟩
 rintro i q1 l1 c1 mm D k w2 ⟨j,rfl,hj,rfl,ho,rfl,hlc,hof,rfl,hmp,hsz⟩ hF2
 refine ⟨λhlt=>?_,λhge=>?_⟩
 ·have hj':j<xs.length:=by omega
  refine (hs.grow hF2.gr).rd (v:=sv8' xs[j]) (by simp) (by omega) (by simp [hj']) λa ha=>⟨_,ha,λw3 hF3=>?_⟩
  have g3:Grow w2 w3:=hF3.grow
  refine ⟨λx=>x.cell? ⟨b,0,none⟩=some (.slice q1 j c1),hF3.ld 0 0 rfl rfl rfl,ac_.2 ⟨_,_,_,λw4 h=>h,?_⟩⟩
  refine iO_ (hx _ (List.getElem_mem hj')) λw5 g5=>⟨_,rfl,hF3.after g5,(hF3.after g5).ld 0 0 rfl rfl rfl,λb7 hb7 w6 hF6=>⟨hF6.ld 0 0 rfl rfl rfl,?_⟩⟩
  have g6:Grow w5 w6:=hF6.grow
  have s3:=g3.size
  have s5:=g5.size
  have s6:=g6.size
  refine kM_ (((ho.grow g3).grow g5).grow g6) (by simp;omega) hlc (ys:=[aC_ xs[j]]) (hF6.sl 1 rfl) rfl (by omega) λq2 c2 w7 ho7 hc7 g7 hq7=>?_
  have hF7:=hF6.app2 g7 w1.heap.size w2.heap.size hof (λa ha=>ho.lt a ha) (λy hy=>by
   rcases List.mem_cons.1 hy with rfl | hy
   ·exact .inl hbl
   ·simp at hy;subst hy;exact .inr (by simp only [];omega)) hF1.chg.size
  refine ⟨_,_,_,rfl,hF7,hF7.ld 0 0 rfl rfl rfl,λw8 hF8=>?_⟩
  have g8:Chg (· = b) w7 w8:=hF8.stp.mono λx _ hx=>by simpa using hx
  have hof':Off (λx=>x<w1.heap.size) q2:=hof.next hq7 (by omega)
  refine ⟨xs.length - (j+1),by omega,j+1,wr1 (by omega),by omega,rfl,?_,rfl,hc7,hof',rfl,?_,by have:=g7.size;have:=g8.size;omega⟩
  ·rw [ar_ hj',List.map_append]
   exact ho7.keep g8 λa ha e=>by have:=hof'.le a ha;have e':a.block=b:=e;omega
  ·exact ((((hmp.grow g3).grow g5).grow g6).keep g7 (λ⟨a,ha,e⟩=>by have:=hof.le a ha;have:=hF1.grow.size;omega)).keep g8 (λe=>by omega)
 ·have e:j=xs.length:=by omega
  subst e
  rw [List.take_length] at ho
  have hlen:(xs.map aC_).length=xs.length:=List.length_map _
  have hT:dC_ w2 b q1 c1 m (xs.map aC_) (λ_ _=>False):=⟨by rw [hlen];exact hF2.blk 0 rfl,ho.sl,⟨0,hmp⟩,λkey v h=>h.elim⟩
  have hmb:m≠b:=by omega
  have hqo:Off (λj=>j<w.heap.size) q1:=hof.mono hF1.chg.size
  refine ⟨λh0=>?_,λh0=>?_⟩
  ·have h0':1≤xs.length:=by omega
   refine pL_ hlv (by rw [hlen];exact hn) xs.length 0 h0' (by rw [hlen];omega) hT λw9 R9 hT9 hR9 hin9 ha9 g9=>?_
   have hF9:Fs S0 w [⟨b,#[.slice q1 xs.length c1,.map (some m)],T.cI_,true⟩] w9:=hF2.step g9 (λx hx=>by simp at hx;subst hx;exact hmb.symm) λj hj e=>by have e':j=m:=e;omega
   exact ⟨_,rfl,_,_,_,_,hF9,hK w9 b q1 c1 m R9 hF9.chg hT9 (λ_=>hin9) (λ_=>ha9) (by have:=g0.size;omega) (by omega) hqo⟩
  ·have hxs:xs=[]:=List.eq_nil_of_length_eq_zero (by omega)
   exact hK w2 b q1 c1 m _ hF2.gr hT (λh=>absurd hxs h) (λh=>absurd hxs h) (by have:=g0.size;omega) (by omega) hqo
theorem mS_:∀w:World,(zeroValue T.string).run PR w=.ok (.string ⟨#[]⟩) w:=λw=>by
 obtain ⟨i,hi,_,_,hz⟩:=oQ_
 simp [zeroValue,typeInfo,hi,hz]
theorem kQ_ {xs:List (List UInt8)} (hn:xs.length≤100000) {w:World} {b:Nat} {q:Option Addr} {c m:Nat} {R:Value→Value→Prop} (hT:dC_ w b q c m (xs.map aC_) R)
  (hR:xs≠[]→R (.agg #[.int .i64 0,.int .i64 xs.length]) (.string (str (a5_ a9_ (xs.map aC_) xs.length 0 xs.length)))) {K:Value→World→Prop} (hK:∀w',Grow w w'→K (.string (str (fF_ Hs xs))) w') :
  aa_ PR F.fJ_ ⟨[.pointer (some ⟨b,0,none⟩)]⟩ w K:=by
 obtain ⟨h1,h2,⟨n,h3⟩,h4⟩:=hT
 rw [List.length_map] at h1
 refine g9_ b q xs.length c (some m) (· = b) K w ((Fr.init _ w).entry h1 (λx h=>by cases h) λ_=>rfl) ⟨rfl,trivial⟩ ⟨λh0 b0 hb0 w0 hF0=>?_,λh0 w2 hF2=>?_⟩
 ·have hxs:xs=[]:=List.eq_nil_of_length_eq_zero (by omega)
  refine fw_ (xs:=[[2]]) (hF0.sl 1 rfl) rfl (by omega) (by simp) λw1 g1=>⟨_,rfl,hF0.after g1,?_⟩
  have e:fF_ Hs xs=Hs ([[2]]:List (List UInt8)).flatten:=by unfold fF_;rw [if_pos hxs];rfl
  rw [← e];exact hK w1 (hF0.grow.trans g1)
 ·have hxs:xs≠[]:=λe=>h0 (by rw [e];rfl)
  have g2:Grow w w2:=hF2.grow
  obtain ⟨kl,hkl⟩:=kn_ (a:=0) (k:=xs.length) ⟨by omega,by omega⟩ ⟨by omega,by omega⟩
  have e:fF_ Hs xs=a5_ a9_ (xs.map aC_) xs.length 0 xs.length:=by unfold fF_;rw [if_neg hxs];rfl
  refine ib_ pA_ r3_ (h3.grow g2) hkl false mS_ (λv hv=>?_) λhno=>absurd (hR hxs) (hno _)
  have:=h3.inj hv (hR hxs)
  subst this
  refine ⟨_,rfl,hF2.reset,?_⟩
  rw [← e];exact hK w2 g2
theorem qo_ {q:Option Addr} {n c:Nat} {xs:List (List UInt8)} {w:World} (hs:Sl w q (xs.map sv8')) (hl:n=xs.length) (hn:n≤100000) (hx:∀x∈xs,x.length≤1000000) {K:Value→World→Prop}
  (hK:∀w',Grow w w'→K (.string (str (fF_ Hs xs))) w'):aa_ PR F.mm_ ⟨[.slice q n c]⟩ w K:=by
 refine lo_ q n c S0 K w ?_
 refine nu_ hs hl hn hx λw1 b q1 c1 m R g1 hT hR _ hb hm hq=>⟨_,rfl,(Fr.init _ w).after g1,?_⟩
 refine kQ_ (by omega) hT hR λw2 g2=>⟨_,rfl,(Fr.init _ w).after (g1.trans g2),hK w2 (g1.trans g2)⟩
end Go.Vc
namespace Go.Vc
open Go
theorem pI_ {nodes v:Int} {l:List Int} (hn:nodes≤4096) (hv:0≤v) (hv':v<nodes) (h:e__ nodes l):(gapL v l).length≤8+8*l.length:=by
 have h1:=fM_ h
 have h2:=fs_ (gapP v l) 8 l.length λi hi=>hp_ hn hv hv' h hi
 have h3:=an_ (n:=l.length) (by omega)
 simp only [gapL,List.length_append];omega
theorem pb_ {nodes:Nat} {B Tg:List Int} (hL:CsrL nodes B Tg) {v:Nat} (hv:v<nodes):((rowOf B Tg v).length:Int)=B.getD (v+1) 0 - B.getD v 0:=by
 have n1:=hL.nn v (by omega)
 have n2:=hL.nn (v+1) (by omega)
 have n3:=hL.mono v hv
 unfold rowOf;rw [List.length_take,List.length_drop];omega
theorem lc_ {nodes first:Nat} {B Tg:List Int} (hL:CsrL nodes B Tg) (hn:nodes≤4096):∀k,first+k≤nodes→((aU_ first (λj=>rowOf B Tg (first+j)) k).length:Int)≤8*k+8*(B.getD (first+k) 0 - B.getD first 0)
 | 0,_=>by simp [aU_,cat]
 | k+1,h=>by
  have ih:=lc_ hL hn (first:=first) k (by omega)
  have e:aU_ first (λj=>rowOf B Tg (first+j)) (k+1)=aU_ first (λj=>rowOf B Tg (first+j)) k++gapL ((first:Int)+k) (rowOf B Tg (first+k)):=rfl
  have hg:=pI_ (nodes:=nodes) (v:=(first:Int)+k) (by omega) (by omega) (by omega) (hL.row (first+k) (by omega))
  have hr:=pb_ hL (v:=first+k) (by omega)
  rw [e,List.length_append]
  rw [show first+(k+1)=first+k+1 by omega]
  omega
theorem j7_ {nodes each i:Nat} {B Tg:List Int} (hL:CsrL nodes B Tg) (hn:nodes≤4096) (he:1≤each) (hi:i*each<nodes) :
  ((eN_ B Tg each nodes i).length:Int)≤23+9*(aP_ each nodes i:Nat)+8*(B.getD (i*each+aP_ each nodes i) 0 - B.getD (i*each) 0)∧4≤(eN_ B Tg each nodes i).length:=by
 have hmo:i*each+aP_ each nodes i≤nodes:=by unfold aP_;omega
 have hm1:1≤aP_ each nodes i:=by unfold aP_;omega
 have a1:=an_ (n:=i*each) (by omega)
 have a2:=an_ (n:=aP_ each nodes i) (by omega)
 have b1:=bB_ (i*each)
 have b2:=bB_ (aP_ each nodes i)
 have hR:∀j,j<aP_ each nodes i→e__ (nodes:Int) ((λj=>rowOf B Tg (i*each+j)) j):=λj hj=>hL.row _ (by omega)
 have a3:=fs_ (λj=>af_ (aU_ (i*each:Nat) (λj=>rowOf B Tg (i*each+j)) (j*8)).length) 8 (ay_ (aP_ each nodes i)) λj hj=>an_ (by
  have:=dp_ (nodes:=nodes) (first:=(i*each:Nat)) (many:=aP_ each nodes i) (k:=j*8) (by omega) (by omega) (by omega) hR (by unfold ay_ at hj;omega);omega)
 have a4:=lc_ hL hn (first:=i*each) (aP_ each nodes i) hmo
 have b3:1≤(bQ_ (i*each:Nat) (λj=>rowOf B Tg (i*each+j)) (ay_ (aP_ each nodes i))).length:=by
  have hm:0<ay_ (aP_ each nodes i):=by unfold ay_;omega
  obtain ⟨r,hr⟩:=dB_ (λj=>af_ (aU_ (i*each:Nat) (λj=>rowOf B Tg (i*each+j)) (j*8)).length) hm
  have:=bB_ (aU_ (i*each:Nat) (λj=>rowOf B Tg (i*each+j)) (0*8)).length
  unfold bQ_;rw [hr];simp only [List.length_append];omega
 have b4:1≤(aU_ (i*each:Nat) (λj=>rowOf B Tg (i*each+j)) (aP_ each nodes i)).length:=by
  obtain ⟨r,hr⟩:=dB_ (λj=>gapL (((i*each:Nat):Int)+j) (rowOf B Tg (i*each+j))) hm1
  have:=rm_ (((i*each:Nat):Int)+(0:Nat)) (rowOf B Tg (i*each+0))
  unfold aU_;rw [hr];simp only [List.length_append];omega
 have hmk:8*ay_ (aP_ each nodes i)≤aP_ each nodes i+7:=by unfold ay_;omega
 unfold bQ_ at b3
 simp only [eN_,gP_,List.length_append,Int.toNat_natCast,bQ_]
 refine ⟨?_,?_⟩ <;> omega
theorem lj_ {nodes each:Nat} {B Tg:List Int} (hL:CsrL nodes B Tg) (hn:nodes≤4096) (he:1≤each):∀k,(∀i,i<k→i*each<nodes)→((bi_ B Tg each nodes k).flatten.length:Int)≤23*k+9*(min (k*each) nodes:Nat)+8*B.getD (min (k*each) nodes) 0 - 8*B.getD 0 0
 | 0,_=>by simp [bi_]
 | k+1,h=>by
  have ih:=lj_ hL hn he k λi hi=>h i (by omega)
  have hk:=h k (by omega)
  have hp:=(j7_ hL hn he hk).1
  have hm:min (k*each) nodes=k*each:=by omega
  have hm2:min ((k+1)*each) nodes=k*each+aP_ each nodes k:=by rw [Nat.succ_mul];unfold aP_;omega
  rw [e6_,List.flatten_append,List.length_append,hm2]
  rw [hm] at ih
  simp only [List.flatten_cons,List.flatten_nil,List.append_nil]
  omega
theorem hZ_ {nodes each k:Nat} {B Tg:List Int} (hL:CsrL nodes B Tg) (hn:nodes≤4096) (he:1≤each) (hcov:∀i,i<k→i*each<nodes):(bi_ B Tg each nodes k).flatten.length≤23*k+9*nodes+8*Tg.length:=by
 have h:=lj_ hL hn he k hcov
 have n1:=hL.nn (min (k*each) nodes) (by omega)
 have n2:=hL.nn 0 (by omega)
 omega
theorem sh_ {nodes each k i:Nat} {B Tg:List Int} (hL:CsrL nodes B Tg) (hn:nodes≤4096) (he:1≤each) (hi:i*each<nodes):(eN_ B Tg each nodes i).length≤23+9*nodes+8*Tg.length:=by
 have h:=(j7_ hL hn he hi).1
 have hmo:i*each+aP_ each nodes i≤nodes:=by unfold aP_;omega
 have n1:=hL.nn (i*each+aP_ each nodes i) hmo
 have n2:=hL.nn (i*each) (by omega)
 omega
theorem k2_ (B Tg:List Int) (each nodes:Nat):∀k,((dn_ B Tg each nodes k).map (·.2)).sum=((bi_ B Tg each nodes k).flatten.length:Int)
 | 0=>by simp [dn_,bi_]
 | k+1=>by
  rw [hE_,e6_,List.map_append,List.sum_append,k2_ B Tg each nodes k,List.flatten_append,List.length_append]
  simp
theorem m1_ {nodes each:Nat} {B Tg:List Int} (hL:CsrL nodes B Tg) (hn:nodes≤4096) (he:1≤each) (hT:Tg.length≤100000):∀(n k:Nat),(∀i,i<k+n→i*each<nodes)→
  gY_ nodes (if k=0 then none else some (((k - 1)*each:Nat):Int)) ((List.range n).map λi=>((((k+i)*each:Nat):Int),((eN_ B Tg each nodes (k+i)).length:Int)))
 | 0,k,_=>by simp [gY_]
 | n+1,k,h=>by
  have hk:=h k (by omega)
  have hb:=sh_ (k:=k) hL hn he hk
  have hb2:=(j7_ hL hn he hk).2
  have ih:=m1_ hL hn he hT n (k+1) λi hi=>h i (by omega)
  rw [if_neg (by omega),Nat.add_sub_cancel] at ih
  have e:(List.range (n+1)).map (λi=>((((k+i)*each:Nat):Int),((eN_ B Tg each nodes (k+i)).length:Int)))=(((k*each:Nat):Int),((eN_ B Tg each nodes k).length:Int)) :: (List.range n).map (λi=>((((k+1+i)*each:Nat):Int),((eN_ B Tg each nodes (k+1+i)).length:Int))):=by
   rw [List.range_succ_eq_map,List.map_cons,List.map_map]
   simp only [Nat.add_zero,List.cons.injEq,true_and]
   apply List.map_congr_left
   intro i _
   simp only [Function.comp,show k+i.succ=k+1+i by omega]
  rw [e]
  by_cases h0:k=0
  ·subst h0
   rw [if_pos rfl]
   exact ⟨by simp,by omega,by omega,ih⟩
  ·rw [if_neg h0]
   have hm:k*each=(k - 1)*each+each:=by
    obtain ⟨j,rfl⟩:∃j,k=j+1:=⟨k - 1,by omega⟩
    rw [Nat.add_sub_cancel,Nat.succ_mul]
   exact ⟨by omega,by omega,by omega,by omega,ih⟩
end Go.Vc
namespace Go.Vc
open Go
def verC (m:Man) (q:Option Addr) (c:Nat) (list:List (List UInt8)) (ql:Option Addr) (cl:Nat):Array Value:=
 #[.int .i64 m.version,.int .i64 m.nodes,.int .i64 m.edges,.slice q m.shards.length c,.int .i64 m.blocks,.string (str m.root),.slice ql list.length cl]
structure VerL (m:Man) (list:List (List UInt8)):Prop where
 ok:m.ok
 blocks:m.blocks=list.length
 root:m.root=fF_ Hs list
 small:∀x∈list,x.length≤64
 cut:cutL list.flatten=list
def rE_ (w:World) (b:Nat) (m:Man) (list:List (List UInt8)):Prop:=
 ∃q c ql cl,w.heap[b]? = some (.cells (verC m q c list ql cl) T.bb_ (0,0))∧Sl w q (encE m.shards)∧Sl w ql (list.map sv8')∧list.length≤cl
theorem rE_.grow {w w':World} {b:Nat} {m:Man} {list:List (List UInt8)} (h:rE_ w b m list) (g:Grow w w'):rE_ w' b m list:=by
 obtain ⟨q,c,ql,cl,h1,h2,h3,h4⟩:=h
 exact ⟨q,c,ql,cl,Grow.get g h1,h2.grow g,h3.grow g,h4⟩
def SlO (D:Nat→Prop) (w:World) (q:Option Addr) (xs:List Value):Prop:=xs=[]∨∃b o,q=some ⟨b,o,none⟩∧i7_ w b o xs∧¬D b
theorem SlO.sl {D:Nat→Prop} {w:World} {q:Option Addr} {xs:List Value} (h:SlO D w q xs):Sl w q xs:=h.elim .inl λ⟨b,o,h1,h2,_⟩=>.inr ⟨b,o,h1,h2⟩
theorem Sl.out {D:Nat→Prop} {w:World} {q:Option Addr} {xs:List Value} (h:Sl w q xs) (hD:Off D q):SlO D w q xs:=h.elim .inl λ⟨b,o,h1,h2⟩=>.inr ⟨b,o,h1,h2,hD _ h1⟩
theorem SlO.keep {D D' S:Nat→Prop} {w w':World} {q:Option Addr} {xs:List Value} (h:SlO D w q xs) (g:Chg S w w') (hS:∀k,k<w.heap.size→S k→D k) (hD:∀k,k<w.heap.size→D' k→D k):SlO D' w' q xs:=by
 rcases h with h | ⟨b,o,h1,h2,h3⟩
 ·exact .inl h
 ·exact .inr ⟨b,o,h1,h2.keep g (λe=>h3 (hS b h2.lt e)),λe=>h3 (hD b h2.lt e)⟩
def VerO (D:Nat→Prop) (w:World) (b:Nat) (m:Man) (list:List (List UInt8)):Prop:=
 ∃q c ql cl,w.heap[b]? = some (.cells (verC m q c list ql cl) T.bb_ (0,0))∧¬D b∧SlO D w q (encE m.shards)∧SlO D w ql (list.map sv8')∧list.length≤cl
theorem VerO.at {D:Nat→Prop} {w:World} {b:Nat} {m:Man} {list:List (List UInt8)} (h:VerO D w b m list):rE_ w b m list:=by
 obtain ⟨q,c,ql,cl,h1,_,h2,h3,h4⟩:=h
 exact ⟨q,c,ql,cl,h1,h2.sl,h3.sl,h4⟩
theorem VerO.keep {D D' S:Nat→Prop} {w w':World} {b:Nat} {m:Man} {list:List (List UInt8)} (h:VerO D w b m list) (g:Chg S w w') (hS:∀k,k<w.heap.size→S k→D k) (hD:∀k,k<w.heap.size→D' k→D k):VerO D' w' b m list:=by
 obtain ⟨q,c,ql,cl,h1,h0,h2,h3,h4⟩:=h
 have hl:=aj_ h1
 exact ⟨q,c,ql,cl,g.get h1 (λe=>h0 (hS b hl e)),λe=>h0 (hD b hl e),h2.keep g hS hD,h3.keep g hS hD,h4⟩
theorem jB_ (l:List UInt8):∀x∈cutL l,x.length≤64:=by
 intro x hx
 obtain ⟨i,_,rfl⟩:=List.mem_map.1 hx
 rw [List.length_take];omega
def roomy (nodes:Int) (each:Nat) (l:List (Int × Int)):Prop:=fm_ nodes l∧nodes≤64*each∧1472+9*nodes+8*l.length≤131072
noncomputable def mo_ (version:Int) (nn:Nat) (N:List (Int × Int)) (each k:Nat):Man × List (List UInt8):=
 (⟨version,nn,N.length,dn_ (begL nn N) (N.map (·.2)) each nn k,(cutL (bi_ (begL nn N) (N.map (·.2)) each nn k).flatten).length,fF_ Hs (cutL (bi_ (begL nn N) (N.map (·.2)) each nn k).flatten)⟩,cutL (bi_ (begL nn N) (N.map (·.2)) each nn k).flatten)
def i__ (version nodes:Int) (each:Nat) (l:List (Int × Int)) (m:Man) (list:List (List UInt8)):Prop:=
 ∃(nn:Nat) (N:List (Int × Int)) (k:Nat),nodes=nn∧lM_ nodes l N∧nn≤k*each∧(∀i,i<k→i*each<nn)∧(m,list)=mo_ version nn N each k
theorem eZ_:∀ {N N':List (Int × Int)},N.Pairwise ltE→N'.Pairwise ltE→(∀x,x∈N↔x∈N')→N=N'
 | [],[],_,_,_=>rfl
 | [],b :: N',_,_,h=>absurd ((h b).2 List.mem_cons_self) (by simp)
 | a :: N,[],_,_,h=>absurd ((h a).1 List.mem_cons_self) (by simp)
 | a :: N,b :: N',h1,h2,h=>by
  rw [List.pairwise_cons] at h1 h2
  have e:a=b:=by
   rcases List.mem_cons.1 ((h a).1 List.mem_cons_self) with e | e
   ·exact e
   ·rcases List.mem_cons.1 ((h b).2 List.mem_cons_self) with e' | e'
    ·exact e'.symm
    ·have x1:=h1.1 b e'
     have x2:=h2.1 a e
     unfold ltE at x1 x2
     omega
  subst e
  congr 1
  refine eZ_ h1.2 h2.2 λx=>⟨λhx=>?_,λhx=>?_⟩
  ·rcases List.mem_cons.1 ((h x).1 (List.mem_cons_of_mem _ hx)) with e | e
   ·subst e;have:=h1.1 x hx;unfold ltE at this;omega
   ·exact e
  ·rcases List.mem_cons.1 ((h x).2 (List.mem_cons_of_mem _ hx)) with e | e
   ·subst e;have:=h2.1 x hx;unfold ltE at this;omega
   ·exact e
theorem i__.uniq {version nodes:Int} {each:Nat} (he:1≤each) {l:List (Int × Int)} {m m':Man} {list list':List (List UInt8)} (h:i__ version nodes each l m list) (h':i__ version nodes each l m' list'):m=m'∧list=list':=by
 obtain ⟨nn,N,k,e1,hN,hk1,hk2,e2⟩:=h
 obtain ⟨nn',N',k',e1',hN',hk1',hk2',e2'⟩:=h'
 have:nn=nn':=by omega
 subst this
 have:=eZ_ hN.lt hN'.lt λx=>(hN.mem x).trans (hN'.mem x).symm
 subst this
 have ek:k=k':=by
  rcases Nat.lt_trichotomy k k' with h | h | h
  ·have:=hk2' k h;omega
  ·exact h
  ·have:=hk2 k' h;omega
 subst ek
 rw [← e2'] at e2
 exact ⟨(Prod.mk.inj e2).1,(Prod.mk.inj e2).2⟩
def t1_ (nodes:Int) (each:Nat) (l:List (Int × Int)) (c:Int):Prop:=
 (c=10∧¬fm_ nodes l)∨(c=6∧fm_ nodes l∧64*(each:Int)<nodes)∨(c=7∧fm_ nodes l∧nodes≤64*(each:Int)∧∀version m list,i__ version nodes each l m list→2048<list.length)
theorem qq_ {version nodes:Int} {each:Nat} (he:1≤each) (he2:each≤4096) {l:List (Int × Int)} {q:Option Addr} {n c:Nat} {w:World} (hs:Sl w q (encE l)) (hl:n=l.length) (hn:n≤100000) {K:Value→World→Prop}
  (h1:∀w' b m list,Grow w w'→w.heap.size≤b→VerO (λj=>j<w.heap.size) w' b m list→VerL m list→m.version=version→(list.flatten.length:Int)≤1472+9*nodes+8*l.length→fm_ nodes l→nodes≤64*(each:Int)→i__ version nodes each l m list→list.length≤2048→K (.tuple #[.pointer (some ⟨b,0,none⟩),.nilIface]) w')
  (hv:1≤version∧version≤1099511627776) (h2:∀w' v c,Grow w w'→isEC c v→t1_ nodes each l c→¬roomy nodes each l→K (.tuple #[.pointer none,v]) w') :
  aa_ PR F.kh_ ⟨[.int .i64 version,.int .i64 nodes,.int .i64 each,.slice q n c]⟩ w K:=by
 have hfr:∀ {w':World},Grow w w'→Fs S0 w [] w':=λg=>(Fr.init _ w).after g
 refine iY_ version nodes each q n c S0 K w ⟨λh=>by omega,λhv1=>⟨λh=>by omega,λhv2=>?_⟩⟩
 refine ou_ hs hl hn (λhg w1 b N g1 hN hc hL=>⟨_,_,rfl,hfr g1,λ_=>?_,(λt x h=>by cases h),.inl rfl⟩) λhg w1 v g1 hv=>⟨_,_,rfl,hfr g1,(λh=>by obtain ⟨t,x,rfl⟩:=hv.err;cases h),λt x h=>h2 w1 v 10 g1 hv (.inl ⟨rfl,hg⟩) (λhh=>hg hh.1),.inr (by obtain ⟨t,x,h⟩:=hv.err;exact ⟨t,x,h⟩)⟩
 obtain ⟨nn,rfl⟩:=Int.eq_ofNat_of_zero_le hg.1
 have hnn:=hg.2.1
 rw [Int.toNat_natCast] at hc hL
 have hNl:=hN.len
 have hll:=hg.2.2.1
 have hTl:(N.map (·.2)).length=N.length:=List.length_map _
 refine oa_ hc hL (by omega) he he2 (λw2 q2 c2 k g2 hk1 hcov hk64 hs2 hkc=>⟨_,_,_,_,rfl,hfr (g1.trans g2),λ_=>?_,(λt x h=>by cases h),.inl rfl⟩) λhbig=>⟨_,_,_,_,rfl,hfr g1,(λh=>by cases h),λt x h=>h2 w1 _ 6 g1 (.inl rfl) (.inr (.inl ⟨rfl,hg,by omega⟩)) (λhh=>by have:=hh.2.1;omega),.inr ⟨_,_,rfl⟩⟩
 have h64:(nn:Int)≤64*(each:Int):=by
  have:k*each≤64*each:=Nat.mul_le_mul_right _ hk64
  omega
 have hmk:i__ version nn each l (mo_ version nn N each k).1 (mo_ version nn N each k).2:=⟨nn,N,k,rfl,hN,hk1,hcov,rfl⟩
 have hmk2:(mo_ version nn N each k).2=cutL (bi_ (begL nn N) (N.map (·.2)) each nn k).flatten:=rfl
 have htot:=hZ_ (k:=k) hL (by omega) he hcov
 rw [hTl] at htot
 generalize hpd:bi_ (begL nn N) (N.map (·.2)) each nn k=parts at hs2 htot hmk2
 have hpl:parts.length=k:=by rw [← hpd,ds_]
 have g12:=g1.trans g2
 refine rK_ hs2 hpl.symm hkc (by omega) (by omega) λw3 q3 c3 g3 ho3 hc3 hof3=>⟨_,_,_,rfl,hfr (g12.trans g3),?_⟩
 have g13:=g12.trans g3
 have hcl:=iF_ parts.flatten
 refine ⟨λh=>h2 w3 _ 7 g13 (.inl rfl) (.inr (.inr ⟨rfl,hg,h64,λv' m' list' hm'=>?_⟩)) (λhh=>?_),λhbl=>?_⟩
 ·have hm2:i__ v' nn each l (mo_ v' nn N each k).1 (mo_ v' nn N each k).2:=⟨nn,N,k,rfl,hN,hk1,hcov,rfl⟩
  rw [(hm'.uniq he hm2).2]
  show 2048<(cutL (bi_ (begL nn N) (N.map (·.2)) each nn k).flatten).length
  rw [hpd];omega
 ·have:=hh.2.2
  unfold a4_ at hcl
  omega
 ·have hs2':Sl w3 q2 ((bi_ (begL nn N) (N.map (·.2)) each nn k).map sv8'):=by rw [hpd];exact hs2.grow g3
  refine n__ hL (by omega) he hk64 hcov hs2' λw4 q4 c4 g4 ho4 hc4 hof4=>⟨_,_,_,_,rfl,hfr (g13.trans g4),λ_=>?_,(λt x h=>by cases h),.inl rfl⟩
  have g14:=g13.trans g4
  refine oo_ (hc.grow ((g2.trans g3).trans g4)) ⟨_,rfl,hfr g14,?_⟩
  refine qo_ (ho3.sl.grow g4) rfl (by omega) (λx hx=>by have:=jB_ _ x hx;omega) λw5 g5=>⟨_,rfl,hfr (g14.trans g5),λb6 hb6 b7 hb7 w6 hF6=>?_⟩
  have g15:=g14.trans g5
  have hT7:=hF6.blk 0 rfl
  have g56:Chg (· = b6) w5 w6:=hF6.stp.mono λi _ hi=>by simpa using hi
  let m:Man:=⟨version,nn,N.length,dn_ (begL nn N) (N.map (·.2)) each nn k,(cutL parts.flatten).length,fF_ Hs (cutL parts.flatten)⟩
  have htl:m.shards.length=k:=jc_ _ _ _ _ _
  have hmok:m.ok:=by
   have htab:=m1_ hL (by omega) he (by rw [hTl];omega) k 0 (λi hi=>hcov i (by omega))
   simp only [Nat.zero_add,if_true] at htab
   refine ⟨⟨by show 1≤version;omega,by show version≤_;omega⟩,⟨by show (0:Int)≤nn;omega,hnn⟩,⟨by show (0:Int)≤N.length;omega,by show ((N.length:Nat):Int)≤20000;omega⟩,⟨by omega,?_⟩,htab,⟨?_,by show (((cutL parts.flatten).length:Nat):Int)≤2048;omega⟩,pc_ gX_ _⟩
   ·constructor
    ·intro h
     have hk0:k=0:=by have:=congrArg List.length h;rw [htl] at this;simpa using this
     subst hk0
     show (nn:Int)=0
     omega
    ·intro h
     have hk0:k=0:=by
      have h':(nn:Int)=0:=h
      rcases Nat.eq_zero_or_pos k with e | e
      ·exact e
      ·have:=hcov 0 e;omega
     subst hk0
     rfl
   ·show (((cutL parts.flatten).length:Nat):Int)=gV_ ((dn_ (begL nn N) (N.map (·.2)) each nn k).map (·.2)).sum
    rw [k2_,hpd,jC_,hcl]
  have s5:=g5.size
  have s4:=g4.size
  have s13:=g13.size
  have s12:=g12.size
  have s15:=g15.size
  refine h1 w6 b7 m (cutL parts.flatten) (hF6.chg) (by omega) ⟨q4,c4,q3,c3,?_,by omega,(?_:Sl w6 q4 _).out (hof4.mono (by omega)),(?_:Sl w6 q3 _).out (hof3.mono (by omega)),hc3⟩ ⟨hmok,rfl,rfl,jB_ _,by rw [kE_]⟩ rfl (by rw [kE_];omega) hg h64 ?_ (by omega)
  ·rw [verC,htl]
   show w6.heap[b7]? = some (.cells #[.int .i64 version,.int .i64 nn,.int .i64 N.length,.slice q4 k c4,.int .i64 (cutL parts.flatten).length,.string (str (fF_ Hs (cutL parts.flatten))),.slice q3 (cutL parts.flatten).length c3] T.bb_ (0,0))
   simp only [hTl] at hT7
   exact hT7
  ·exact (ho4.sl.grow g5).keep g56 λa ha e=>by have:=ho4.lt a ha;have e':a.block=b6:=e;omega
  ·exact ((ho3.sl.grow g4).grow g5).keep g56 λa ha e=>by have:=ho3.lt a ha;have e':a.block=b6:=e;omega
  ·exact ⟨nn,N,k,rfl,hN,hk1,hcov,by subst hpd;rfl⟩
end Go.Vc
namespace Go.Vc
open Go Go.MapKept
theorem sG_ {w:World} {a b:Nat} {cs ds:Array Value} {T U:TypeId} {f g:Nat × Nat} (h1:w.heap[a]? = some (.cells cs T f)) (h2:w.heap[b]? = some (.cells ds U g)) (h:T≠U):a≠b:=by
 rintro rfl
 rw [h1] at h2
 cases h2
 exact h rfl
theorem Own.ty {e:TypeId} {k:Nat} {w:World} {q:Option Addr} {c:Nat} {xs:List Value} (h:Own e k w q c xs) {a:Addr} (ha:q=some a):∃cs,w.heap[a.block]? = some (.cells cs e (0,0)):=by
 rcases h with ⟨h,_⟩ | ⟨b,o,cs,h,hb,_⟩
 ·rw [h] at ha;cases ha
 ·rw [h] at ha;cases ha;exact ⟨cs,hb⟩
def qj_ (D:Nat→Prop) (w:World) (c:Nat) (list:List (List UInt8)):Prop:=
 ∃q cc m R n,w.heap[c]? = some (.cells #[.slice q list.length cc,.map (some m)] T.cI_ (0,0))∧¬D c∧SlO D w q ((list.map aC_).map sv8')∧MapP w T.al_ m n R∧¬D m∧pl_ (list.map aC_) R∧(list≠[]→cV_ R 0 list.length)
theorem qj_.keep {D D' S:Nat→Prop} {w w':World} {c:Nat} {list:List (List UInt8)} (h:qj_ D w c list) (g:Chg S w w') (hS:∀k,k<w.heap.size→S k→D k) (hD:∀k,k<w.heap.size→D' k→D k):qj_ D' w' c list:=by
 obtain ⟨q,cc,m,R,n,h1,h2,h3,h4,h5,h6⟩:=h
 have l1:=aj_ h1
 have l4:=h4.lt
 exact ⟨q,cc,m,R,n,g.get h1 (λe=>h2 (hS _ l1 e)),λe=>h2 (hD _ l1 e),h3.keep g hS hD,h4.keep g (λe=>h5 (hS _ l4 e)),λe=>h5 (hD _ l4 e),h6⟩
theorem sL_ {D:Nat→Prop} {w:World} {b:Nat} {mn:Man} {list:List (List UInt8)} (hv:VerO D w b mn list) (hL:VerL mn list) {K:Value→World→Prop} (hK:∀w' c,Grow w w'→qj_ (λk=>k<w.heap.size) w' c list→K (.pointer (some ⟨c,0,none⟩)) w'):aa_ PR F.dH_ ⟨[.pointer (some ⟨b,0,none⟩)]⟩ w K:=by
 obtain ⟨q,c,ql,cl,h1,h0,h2,h3,h4⟩:=hv
 have hf:Fs S0 w [⟨b,verC mn q c list ql cl,T.bb_,false⟩] w:=(Fr.init _ w).entry h1 (λx h=>by cases h) (λh=>by cases h)
 have hbl:=hL.ok.blocks.2
 have hb2:=hL.blocks
 refine ek_ b mn.version mn.nodes mn.edges q mn.shards.length c mn.blocks (str mn.root) ql list.length cl S0 K w hf ?_
 refine nu_ h3.sl rfl (by omega) (λx hx=>by have:=hL.small x hx;omega) λw1 t q' c' m R g1 hT _ hA ht hm hq=>⟨_,rfl,hf.after g1,hK w1 t g1 ?_⟩
 obtain ⟨t1,t2,⟨n,t3⟩,t4⟩:=hT
 rw [List.length_map] at t1
 exact ⟨q',c',m,R,n,t1,(λe=>by omega),t2.out hq,t3,(λe=>by omega),t4,hA⟩
end Go.Vc
namespace Go.Vc
open Go Go.MapKept
structure PubS where
 p:Nat
 bj:Nat
 bd:Nat
 m:Nat
 each:Nat
 q:Option Addr
 c:Nat
 last:Nat
 com:Nat
 recs:List (List UInt8)
 R:Value→Value→Prop
 man:Nat→Man
 ex:Nat→Prop
def PubS.room (x:PubS):Nat:=200000 - (logL x.recs).length
end Go.Vc
namespace Go.Vc
open Go
theorem kt_ {α:Type} {s:Nat} {f:α→List Value} (hf:∀x,(f x).length=s):∀ {l:List α} {k j:Nat},(h:k<l.length)→j<s→(l.flatMap f)[k*s+j]? = (f l[k])[j]?
 | a :: l,0,j,h,hj=>by
  rw [List.flatMap_cons,List.getElem?_append_left (by rw [hf];omega)];simp
 | a :: l,k+1,j,h,hj=>by
  have e:(k+1)*s+j=s+(k*s+j):=by rw [Nat.add_mul];omega
  rw [List.flatMap_cons,List.getElem?_append_right (by rw [hf];omega),hf,e,Nat.add_sub_cancel_left,kt_ hf (l:=l) (k:=k) (by simpa using h) hj];rfl
theorem cx_ {α:Type} {s:Nat} {f:α→List Value} (hf:∀x,(f x).length=s):∀l:List α,(l.flatMap f).length=l.length*s
 | []=>by simp
 | a :: l=>by rw [List.flatMap_cons,List.length_append,hf,cx_ hf l,List.length_cons,Nat.add_mul];omega
theorem Sl.rdN {α:Type} {s:Nat} {f:α→List Value} (hf:∀x,(f x).length=s) (h0:0<s) {w:World} {q:Option Addr} {l:List α} (h:Sl w q (l.flatMap f)) {n:Int} {k m:Nat} {K:Addr→Prop} (hn:n=k) (hk:k<l.length) (hm:k<m)
  (hK:∀a,(∀j v,(f l[k])[j]? = some v→w.cell? (a.add j)=some v)→K a):Dr q (λa=>0≤n∧n<((m:Nat):Int)∧Dr (some (Addr.add a (n.toNat*s))) K):=by
 subst hn
 have hel:=cx_ hf l
 have hpos:k*s<l.length*s:=Nat.mul_lt_mul_of_pos_right hk h0
 obtain ⟨b,o,rfl,hc⟩:=h.ex (by intro e;rw [e] at hel;simp at hel;omega)
 refine ac_.2 ⟨by omega,by omega,ac_.2 ?_⟩
 rw [au_,Int.toNat_natCast]
 refine hK _ λj v hv=>?_
 have hj:j<s:=by
  rcases Nat.lt_or_ge j s with h | h
  ·exact h
  ·rw [List.getElem?_eq_none (by rw [hf];exact h)] at hv;cases hv
 have hb:k*s+j<(l.flatMap f).length:=by
  rw [hel]
  have:(k+1)*s≤l.length*s:=Nat.mul_le_mul_right s hk
  rw [Nat.add_mul] at this;omega
 have:=hc (k*s+j) hb
 rw [kt_ hf hk hj,hv] at this
 rw [au_,Nat.add_assoc];exact this
end Go.Vc
namespace Go.Vc
open Go Go.ChangeShapes Go.WideShapes Go.Deep Go.ChangeAt Go.RowKit
noncomputable def flds (t:TypeId):Option (List (Nat × Nat)):=match PR.underlying t with
 | some (.struct fs)=>some (fs.toList.map λf=>(f.type,f.offset))
 | _=>none
theorem su_ {t:TypeId} {l:List (Nat × Nat)} (h:flds t=some l):∃fs:Array Field,PR.underlying t=some (.struct fs)∧fs.toList.map (λf=>(f.type,f.offset))=l:=by
 unfold flds at h
 split at h
 ·rename_i fs hfs
  exact ⟨fs,hfs,Option.some.inj h⟩
 ·cases h
theorem sv_ {fs:Array Field} {l:List (Nat × Nat)} (h:fs.toList.map (λf=>(f.type,f.offset))=l) {i:Nat} {x:Nat × Nat} (hi:l[i]? = some x):∃f,fs[i]? = some f∧f.type=x.1∧f.offset=x.2:=by
 rw [← h,List.getElem?_map] at hi
 rw [← Array.getElem?_toList]
 cases hf:fs.toList[i]? with
 | none=>rw [hf] at hi;cases hi
 | some f=>rw [hf] at hi;cases hi;exact ⟨f,rfl,rfl,rfl⟩
theorem l6_ {w:World} {a:Addr} {xs:List Value} (h:∀i,i<xs.length→w.cell? (a.add i)=xs[i]?):Sl w (some a) xs:=by
 cases xs with
 | nil=>exact .inl rfl
 | cons x xs=>
  right
  have h0:=h 0 (by simp)
  have h0':w.cell? a=some x:=by simpa [Addr.add] using h0
  have hs:=World.cell?_spot h0'
  obtain ⟨b,o,sp⟩:=a
  simp only at hs
  subst hs
  refine ⟨b,o,rfl,?_⟩
  unfold World.cell? at h0'
  cases hb:w.heap[b]? with
  | none=>simp [hb] at h0'
  | some ob=>
   cases ob with
   | cells cs T fz=>
    refine ⟨cs,T,fz,hb,λi hi=>?_⟩
    have hh:=h i hi
    have e:w.cell? ((⟨b,o,none⟩:Addr).add i)=cs[o+i]?:=by
     by_cases hi0:i=0
     ·subst hi0;simp [Addr.add,World.cell?,hb]
     ·simp [Addr.add,hi0,World.cell?,hb]
    rw [← e,hh]
   | _=>simp [hb] at h0'
theorem hj_ {α:Type} {s:Nat} {f:α→List Value} (hf:∀x,(f x).length=s) (hs0:0<s) {t e:TypeId} (ht:PR.underlying t=some (.slice e)) (hc:PR.cellsOf e=s) {G:α→Prop} {H:Type} {enc:TypeId × Value→H} {w:World} {base:Nat} {spare:Nat→Bool} {held:Bool}
  (each:∀(n:Nat) (cs:List Value) x,DataW.trod enc PR w base spare held n e cs=some x→cs.length=s→∃a:α,cs=f a∧G a) {fuel:Nat} {v:Value} {x:DataW H × List MemPlace} (h:DataW.trod enc PR w base spare held fuel t [v]=some x) :
  ∃(q:Option Addr) (l:List α) (c:Nat),v=.slice q l.length c∧Sl w q (l.flatMap f)∧(∀a∈l,G a)∧l.length≤c:=by
 rcases open_slice ht h with ⟨e1,_⟩ | ⟨a,len,cap,m,n,D,Pl,e1,_,hlc,_,hm,_,hx⟩
 ·cases e1
  exact ⟨none,[],0,rfl,.inl rfl,(λa ha=>by cases ha),Nat.le_refl _⟩
 ·cases e1
  rw [hc] at hx
  have hlm:len≤m:=by rw [hm];split <;> omega
  have ea:∀i,i<len→∃z:α,(∀j v,(f z)[j]? = some v→w.cell? (a.add (i*s+j))=some v)∧G z:=by
   intro i hi
   obtain ⟨cs',h1,h2⟩:=hx i (by omega)
   obtain ⟨_,hlen,hcell⟩:=World.cells?_some h1
   obtain ⟨z,rfl,hz⟩:=each n cs' _ h2 hlen
   refine ⟨z,λj v hj=>?_,hz⟩
   have hjl:j<s:=by
    rcases Nat.lt_or_ge j s with h | h
    ·exact h
    ·rw [List.getElem?_eq_none (by rw [hf];exact h)] at hj;cases hj
   have:=hcell j hjl
   rw [add_add] at this
   rw [this,hj]
  have hne:len=0∨Nonempty α:=by
   rcases Nat.eq_zero_or_pos len with h | h
   ·exact .inl h
   ·obtain ⟨z,_⟩:=ea 0 h;exact .inr ⟨z⟩
  rcases hne with h0 | ⟨⟨z0⟩⟩
  ·subst h0
   exact ⟨some a,[],cap,rfl,.inl rfl,(λa ha=>by cases ha),Nat.zero_le _⟩
  ·have:Inhabited α:=⟨z0⟩
   obtain ⟨g,hg⟩:=choose_lt ea
   refine ⟨some a,(List.range len).map g,cap,by simp,l6_ λi hi=>?_,λz hz=>?_,by simpa using hlc⟩
   ·rw [cx_ hf] at hi
    simp only [List.length_map,List.length_range] at hi
    have hk:i / s<len:=Nat.div_lt_of_lt_mul (by rw [Nat.mul_comm];exact hi)
    have hj:i%s<s:=Nat.mod_lt _ hs0
    have e2:i / s*s+i%s=i:=by rw [Nat.mul_comm];exact Nat.div_add_mod i s
    have h3:=kt_ hf (l:=(List.range len).map g) (k:=i / s) (j:=i%s) (by simpa using hk) hj
    rw [e2] at h3
    rw [h3]
    simp only [List.getElem_map,List.getElem_range]
    have hlt:i%s<(f (g (i / s))).length:=by rw [hf];exact hj
    have:=(hg (i / s) hk).1 (i%s) _ (List.getElem?_eq_getElem hlt)
    rw [e2] at this
    rw [this,List.getElem?_eq_getElem hlt]
   ·obtain ⟨i,hi,rfl⟩:=List.mem_map.1 hz
    exact (hg i (List.mem_range.1 hi)).2
theorem uInt:PR.underlying T.int=some (.int .i64):=by kernel_rfl
theorem cInt:PR.cellsOf T.int=1:=by kernel_rfl
theorem sX_:PR.underlying T.bool=some .bool:=by kernel_rfl
theorem uStr:PR.underlying T.string=some .string:=by kernel_rfl
theorem cStr:PR.cellsOf T.string=1:=by kernel_rfl
theorem tH_:PR.underlying T.aR_=some (.slice T.string):=by kernel_rfl
theorem tX_:PR.cellsOf T.aR_=1:=by kernel_rfl
theorem nk_ {α:Type} (f:α→Value) (l:List α):l.flatMap (λn=>[f n])=l.map f:=by
 induction l with
 | nil=>rfl
 | cons b l ih=>rw [List.flatMap_cons,ih];rfl
section
variable {H:Type} {enc:TypeId × Value→H} {w:World} {base:Nat} {spare:Nat→Bool} {held:Bool}
theorem hG_ {t:TypeId} {l:List (Nat × Nat)} (hl:flds t=some l) {n:Nat} {cs:List Value} {x:DataW H × List MemPlace} (h:DataW.trod enc PR w base spare held n t cs=some x) :
  ∃m,∀(i:Nat) (p:Nat × Nat),l[i]? = some p→∃y,DataW.trod enc PR w base spare held m p.1 ((cs.drop p.2).take (PR.cellsOf p.1))=some y:=by
 obtain ⟨fs,hu,hm⟩:=su_ hl
 obtain ⟨xs,m,_,_,_,hxl,hg⟩:=DataW.trod_struct hu h
 refine ⟨m,λi p hi=>?_⟩
 obtain ⟨f,h1,h2,h3⟩:=sv_ hm hi
 have:=hg i f h1
 rw [h2,h3] at this
 have hil:i<xs.length:=by
  rw [hxl]
  rcases Nat.lt_or_ge i fs.size with h | h
  ·exact h
  ·rw [Array.getElem?_eq_none h] at h1;cases h1
 exact ⟨_,this.trans (List.getElem?_eq_getElem hil)⟩
theorem r__ {fuel:Nat} {v:Value} {x:DataW H × List MemPlace} (h:DataW.trod enc PR w base spare held fuel T.aR_ [v]=some x):∃(q:Option Addr) (bs:List ByteArray) (c:Nat),v=.slice q bs.length c∧Sl w q (bs.map .string):=by
 obtain ⟨q,l,c,h1,h2,_,_⟩:=hj_ (α:=ByteArray) (s:=1) (f:=λn=>[.string n]) (λ_=>rfl) (by decide) tH_ cStr (G:=λ_=>True) (λn cs x hx hlen=>by
  obtain ⟨s,e,_⟩:=DataW.trod_string uStr hx
  exact ⟨s,e,trivial⟩) h
 rw [nk_] at h2
 exact ⟨q,l,c,h1,h2⟩
end
section
variable {H:Type} {enc:TypeId × Value→H} {P:Program}
theorem j5_ {f:Func} {s:ChangeSpec} {apart fresh handsOn again:Bool} {W W':World} {args:Array Value} {v:Value} {ds gs:List (DataW H)} {before pa pv:List MemPlace}
  (hW:DataW.Whole enc P f.params.toList s.vars apart W args.toList ds gs before)
  (hres:∀(b:Nat) (sp:Nat→Bool) (hd:Bool),DataW.TrodAll enc P W' b sp hd f.resultTypes.toList (v.resultList f.resultTypes.size) (s.fn H (ds++gs)).results [])
  (hargs:∀sp:Nat→Bool,(∀p∈before,sp p.block=true)→DataW.TrodAll enc P W' 0 sp true f.params.toList args.toList (s.fn H (ds++gs)).args pa)
  (hvars:∀sp:Nat→Bool,(∀p∈before,sp p.block=true)→DataW.TrodVars enc P W' sp s.vars (s.fn H (ds++gs)).vars pv)
  (hps:before=pa++pv) (hb:Below W.heap.size W W')
  (hok:∀(j:Nat) (t:TypeId) (r:Value),f.resultTypes[j]? = some t→(v.resultList f.resultTypes.size)[j]? = some r→Value.okWide P W' .any 0 t r) :
  s.post enc P f apart fresh handsOn again W args v W':=by
 have hlt:∀p∈before,p.block<W.heap.size:=λp hp=>hW.lt p hp
 have hold:∀p∈before,(λb=>decide (b<W.heap.size)) p.block=true:=λp hp=>by simpa using hlt p hp
 refine ⟨ds,gs,before,[],pa,pv,hW,hres _ _ _,hargs _ hold,hvars _ hold,World.keptBut_mono (λp hp=>⟨hp,?_⟩) (hb.frame (·∈before)),λ_=>?_⟩
 ·rw [hps,List.mem_append] at hp
  exact Or.inr hp
 ·obtain ⟨_,_,_,_,_,hz,hn⟩:=hW
  refine ⟨hok,_,_,([]++pa)++pv,⟨[]++pa,pv,trodAll_append (hargs _ (λ_ _=>rfl)) (hres _ _ _),hvars _ (λ_ _=>rfl),rfl,?_,?_⟩,?_⟩
  ·intro b off hp
   have hin:MemPlace.cell b off∈before:=by rw [hps];simpa using hp
   rw [hb.frozen (hlt _ hin)]
   exact hz b off hin
  ·intro ha
   have:=hn ha
   rw [hps] at this
   simpa using this
  ·intro p hp _
   rw [hps]
   simpa using hp
end
theorem kK_ {w w':World} (h:Grow w w'):Below w.heap.size w w':=⟨h.os,h.tape,h.output,h.size,λk hk=>h.block k hk (λe=>e)⟩
theorem ownG:ownKnob PR.godebug=none:=by kernel_rfl
theorem layG:laidOutB PR=true:=by kernel_rfl
end Go.Vc
namespace Go.Vc
open Go Go.RowKit Go.Extern.Stop Go.Stop Go.Extern Go.Proofs
abbrev hd (t:Nat):Value:=.pointer (some ⟨G.count,t,none⟩)
theorem mV_ (t:Addr) (w:World):(ReflectliteValue.unpack (.iface 121 (.pointer (some t)))).run Tryz.prog w
  = .ok (.agg #[.pointer (some ⟨2,121,none⟩),.pointer (some ⟨w.heap.size,0,none⟩),.int .u64 150]) (w.alloc (.cells #[.pointer (some t)] 121)):=by kernel_rfl
theorem sY_ (a:Addr) (w:World):(ReflectliteValue.methodAny (ReflectliteValue.valueError "reflectlite.Value.Type" 0) (λt _ _ _=>ReflectliteType.toType t) #[.agg #[.pointer (some ⟨2,121,none⟩),.pointer (some a),.int .u64 150]]).run Tryz.prog w
  = .ok (.iface 245 (.agg #[.pointer (some ⟨2,121,none⟩)])) w:=by kernel_rfl
theorem jm_ (h:Value) (w:World):(Go.method 478 245 (.agg #[h]) "Kind").run Tryz.prog w=.ok (256,h) w:=by kernel_rfl
theorem tj_ (w:World):((ReflectliteType.abiMethod λt=>(λa:Nat=>Value.int IntKind.u8 (a:Int)) <$> Rtype.kind t) #[.pointer (some ⟨2,121,none⟩)]).run Tryz.prog w=.ok (.int .u8 22) w:=by kernel_rfl
theorem tk_ (w:World):((ReflectliteType.abiMethod λt=>(λa:Nat=>Value.int IntKind.u8 (a:Int)) <$> Rtype.kind t) #[.pointer (some ⟨2,39,none⟩)]).run Tryz.prog w=.ok (.int .u8 2) w:=by kernel_rfl
theorem rlm (z:Sem Value) (f:TypeId→Addr→Nat→Nat→Sem Value) (v:Value) :
  ReflectliteValue.method z f #[v]=(do match ← ReflectliteValue.parts v with | none=>z | some (t,a,fl)=>f t a fl (fl%32)):=rfl
theorem rR_ (a:Addr) (w:World):(ReflectliteValue.parts (.agg #[.pointer (some ⟨2,121,none⟩),.pointer (some a),.int .u64 150])).run Tryz.prog w=.ok (some (121,a,150)) w:=by kernel_rfl
theorem rV_ (a p:Addr) (W:World) (ha:W.cell? a=some (.pointer (some p))) :
  (ReflectliteValue.method (ReflectliteValue.valueError "reflectlite.Value.IsNil" 0) ReflectliteValue.isNil #[.agg #[.pointer (some ⟨2,121,none⟩),.pointer (some a),.int .u64 150]]).run Tryz.prog W=.ok (.bool false) W:=by
 rw [rlm]
 simp only [Sem.run_bind,rR_,Result.andThen]
 simp [ReflectliteValue.isNil,loadVar,isAgg,underlying,ha,Result.andThen]
theorem jn_ (h:Value) (w:World):(Go.method 478 245 (.agg #[h]) "Elem").run Tryz.prog w=.ok (271,.agg #[h]) w:=by kernel_rfl
theorem dY_ (h:Value) (w:World):(Go.method 478 245 (.agg #[h]) "Implements").run Tryz.prog w=.ok (272,.agg #[h]) w:=by kernel_rfl
theorem c4_ (h:Value) (w:World):(Go.method 478 245 (.agg #[h]) "AssignableTo").run Tryz.prog w=.ok (269,.agg #[h]) w:=by kernel_rfl
theorem tA_ (w:World):(ReflectliteType.method ReflectliteType.elem #[.agg #[.pointer (some ⟨2,121,none⟩)]]).run Tryz.prog w=.ok (.iface 245 (.agg #[.pointer (some ⟨2,39,none⟩)])) w:=by kernel_rfl
theorem ig_ (w:World):(ReflectliteType.relation "Implements" ReflectliteType.implements_ #[.agg #[.pointer (some ⟨2,39,none⟩)],.iface 245 (.agg #[.pointer (some ⟨2,32,none⟩)])]).run Tryz.prog w=.ok (.bool true) w:=by kernel_rfl
theorem eU_ (v:Value) (w:World):(ReflectliteType.typeOf #[.iface 39 v]).run Tryz.prog w=.ok (.iface 245 (.agg #[.pointer (some ⟨2,39,none⟩)])) w:=by kernel_rfl
theorem iL_ (w:World):(ReflectliteType.relation "AssignableTo" ReflectliteType.assignableTo #[.agg #[.pointer (some ⟨2,39,none⟩)],.iface 245 (.agg #[.pointer (some ⟨2,39,none⟩)])]).run Tryz.prog w=.ok (.bool true) w:=by kernel_rfl
theorem r5_ (v:Value) (w:World):(ReflectliteType.typeOf #[.iface 214 v]).run Tryz.prog w=.ok (.iface 245 (.agg #[.pointer (some ⟨2,214,none⟩)])) w:=by kernel_rfl
theorem mH_ (w:World):(ReflectliteType.relation "AssignableTo" ReflectliteType.assignableTo #[.agg #[.pointer (some ⟨2,214,none⟩)],.iface 245 (.agg #[.pointer (some ⟨2,39,none⟩)])]).run Tryz.prog w=.ok (.bool false) w:=by kernel_rfl
theorem mW_ (n:Int) (w:World):(ReflectliteValue.unpack (.iface 39 (.int .i64 n))).run Tryz.prog w
  = .ok (.agg #[.pointer (some ⟨2,39,none⟩),.pointer (some ⟨w.heap.size,0,none⟩),.int .u64 130]) (w.alloc (.cells #[.int .i64 n] 39)):=by kernel_rfl
theorem sz_ (w:World):(Rtype.elem? 121).run Tryz.prog w=.ok (some 39) w:=by kernel_rfl
theorem mkE (p:Addr) (w:World):(ReflectliteValue.mk 39 p ReflectliteValue.flagAddr).run Tryz.prog w=.ok (.agg #[.pointer (some ⟨2,39,none⟩),.pointer (some p),.int .u64 386]) w:=by kernel_rfl
theorem rX_ (a p:Addr) (W:World) (ha:W.cell? a=some (.pointer (some p))) :
  (ReflectliteValue.method (ReflectliteValue.valueError "reflectlite.Value.Elem" 0) ReflectliteValue.elem #[.agg #[.pointer (some ⟨2,121,none⟩),.pointer (some a),.int .u64 150]]).run Tryz.prog W
   = .ok (.agg #[.pointer (some ⟨2,39,none⟩),.pointer (some p),.int .u64 386]) W:=by
 rw [rlm]
 simp only [Sem.run_bind,rR_,Result.andThen]
 simp [ReflectliteValue.elem,loadVar,isAgg,underlying,ha,Result.andThen,sz_,mkE]
theorem rls (v x:Value):ReflectliteValue.set #[v,x]=(do
  let (some (dst,a,fl),some (src,b,_)):=(← ReflectliteValue.parts v,← ReflectliteValue.parts x)
   | unsupported (.noEntry "extern/(internal/reflectlite.Value).Set.zeroValue")
  if fl / ReflectliteValue.flagAddr%2 == 0 then unsupported (.noEntry "extern/(internal/reflectlite.Value).Set.unaddressable")
  let val ← loadVar src b
  if ← Rtype.directlyAssignable dst src then storeVar dst a val
  else if ← Rtype.implements dst src then
   if (← Rtype.kind src) == 20 then
    match val with
    | .nilIface=>unsupported (.noEntry "extern/reflectlite: a nil value of one interface type handed on as a value of another")
    | _=>storeVar dst a val
   else storeVar dst a (.iface src val)
  else panicString ("reflectlite.Set: value of type " ++ (← Rtype.spelt src) ++ " is not assignable to type " ++ (← Rtype.spelt dst))
  pure (.tuple #[])):=rfl
theorem sg_ (a:Addr) (w:World):(ReflectliteValue.parts (.agg #[.pointer (some ⟨2,39,none⟩),.pointer (some a),.int .u64 386])).run Tryz.prog w=.ok (some (39,a,386)) w:=by kernel_rfl
theorem ta_ (a:Addr) (w:World):(ReflectliteValue.parts (.agg #[.pointer (some ⟨2,39,none⟩),.pointer (some a),.int .u64 130])).run Tryz.prog w=.ok (some (39,a,130)) w:=by kernel_rfl
theorem sB_ (w:World):(Rtype.directlyAssignable 39 39).run Tryz.prog w=.ok true w:=by kernel_rfl
theorem setE (ta b:Addr) (n:Int) (old:Value) (W:World) (hb:W.cell? b=some (.int .i64 n)) (ht:W.cell? ta=some old) (hf:W.frozen? ta=false) :
  (ReflectliteValue.set #[.agg #[.pointer (some ⟨2,39,none⟩),.pointer (some ta),.int .u64 386],.agg #[.pointer (some ⟨2,39,none⟩),.pointer (some b),.int .u64 130]]).run Tryz.prog W
   = .ok (.tuple #[]) (W.setCell ta (.int .i64 n)):=by
 rw [rls]
 simp only [Sem.run_bind,sg_,ta_,Result.andThen]
 simp [ReflectliteValue.flagAddr,loadVar,isAgg,underlying,hb,Result.andThen,sB_,storeVar,Value.cells,storeCells,Addr.add]
 rw [run_store Tryz.prog W ta _ _ (by rfl)]
 simp [ht,hf]
end Go.Vc
namespace Go.Vc
open Go Go.RowKit Go.Extern.Stop Go.Stop Go.Extern Go.Proofs
set_option maxHeartbeats 4000000 in
theorem tC_ (n:Int) (t:Addr) (old:Value) (w:World) (hg:w.cell? ⟨0,0,none⟩=some (.iface 245 (.agg #[.pointer (some ⟨2,32,none⟩)]))) (ht0:w.cell? t=some old) (hf0:w.frozen? t=false) :
  Calls Tryz.prog 45 #[.iface 39 (.int .i64 n),.iface 121 (.pointer (some t))] w λev w'=>ev=.returned (.bool true)∧w'=((((w.alloc (.cells #[.pointer (some t)] 121)).alloc (.cells #[.pointer (some ⟨2,121,none⟩),.pointer (some ⟨w.heap.size,0,none⟩),.int .u64 150] 189)).alloc (.cells #[.pointer (some ⟨2,121,none⟩),.pointer (some ⟨w.heap.size,0,none⟩),.int .u64 150] 189)).alloc (.cells #[.int .i64 n] 39)).setCell t (.int .i64 n):=by
 have h6:=@run_callFunc_extern Tryz.prog 96 _ (λargs=>ReflectliteValue.unpack (args.getD 0 (.tuple #[]))) Tryz.func96 (by kernel_rfl) (by kernel_rfl) (by kernel_rfl) (by kernel_rfl)
 have h7:=@run_callFunc_extern Tryz.prog 97 _ (ReflectliteValue.methodAny (ReflectliteValue.valueError "reflectlite.Value.Type" 0) (λt _ _ _=>ReflectliteType.toType t)) Tryz.func97 (by kernel_rfl) (by kernel_rfl) (by kernel_rfl) (by kernel_rfl)
 have h8:=@run_callFunc_extern Tryz.prog 98 _ (ReflectliteValue.method (ReflectliteValue.valueError "reflectlite.Value.IsNil" 0) ReflectliteValue.isNil) Tryz.func98 (by kernel_rfl) (by kernel_rfl) (by kernel_rfl) (by kernel_rfl)
 have h27:=@run_callFunc_extern Tryz.prog 256 _ (ReflectliteType.abiMethod λt=>do pure (.int .u8 (← Rtype.kind t))) Tryz.func256 (by kernel_rfl) (by kernel_rfl) (by kernel_rfl) (by kernel_rfl)
 have h37:=@run_callFunc_extern Tryz.prog 271 _ (ReflectliteType.method ReflectliteType.elem) Tryz.func271 (by kernel_rfl) (by kernel_rfl) (by kernel_rfl) (by kernel_rfl)
 have h38:=@run_callFunc_extern Tryz.prog 272 _ (ReflectliteType.relation "Implements" ReflectliteType.implements_) Tryz.func272 (by kernel_rfl) (by kernel_rfl) (by kernel_rfl) (by kernel_rfl)
 have h10:=@run_callFunc_extern Tryz.prog 94 _ ReflectliteType.typeOf Tryz.func94 (by kernel_rfl) (by kernel_rfl) (by kernel_rfl) (by kernel_rfl)
 have h35:=@run_callFunc_extern Tryz.prog 269 _ (ReflectliteType.relation "AssignableTo" ReflectliteType.assignableTo) Tryz.func269 (by kernel_rfl) (by kernel_rfl) (by kernel_rfl) (by kernel_rfl)
 have h11:=@run_callFunc_extern Tryz.prog 144 _ (ReflectliteValue.method (ReflectliteValue.valueError "reflectlite.Value.Elem" 0) ReflectliteValue.elem) Tryz.func144 (by kernel_rfl) (by kernel_rfl) (by kernel_rfl) (by kernel_rfl)
 have h12:=@run_callFunc_extern Tryz.prog 145 _ ReflectliteValue.set Tryz.func145 (by kernel_rfl) (by kernel_rfl) (by kernel_rfl) (by kernel_rfl)
 have tO:=eU_
 have mA:=c4_
 have a25:=iL_
 have v25:=mW_
 have f6:=mV_
 have f7:=sY_
 have mK:=jm_
 have mE:=jn_
 have mI:=dY_
 have k27:=tj_
 have k25:=tk_
 have e27:=tA_
 have i25:=ig_
 have n8:=rV_ ⟨w.heap.size,0,none⟩ t ((w.alloc (.cells #[.pointer (some t)] 121)).alloc (.cells #[.pointer (some ⟨2,121,none⟩),.pointer (some ⟨w.heap.size,0,none⟩),.int .u64 150] 189)) (by simp)
 have hlt:0<w.heap.size:=by
  rcases Nat.eq_zero_or_pos w.heap.size with h0 | h
  ·simp [World.cell?,h0] at hg
  ·exact h
 have hg2:((w.alloc (.cells #[.pointer (some t)] 121)).alloc (.cells #[.pointer (some ⟨2,121,none⟩),.pointer (some ⟨w.heap.size,0,none⟩),.int .u64 150] 189)).cell? ⟨0,0,none⟩=some (.iface 245 (.agg #[.pointer (some ⟨2,32,none⟩)])):=by
  rw [World.cell?_alloc_lt _ _ ⟨0,0,none⟩ (by simp),World.cell?_alloc_lt _ _ ⟨0,0,none⟩ hlt];exact hg
 have htl:t.block<w.heap.size:=by
  rcases Nat.lt_or_ge t.block w.heap.size with h | h
  ·exact h
  ·simp [World.cell?,Array.getElem?_eq_none h] at ht0
 have el:=rX_ ⟨w.heap.size,0,none⟩ t (((w.alloc (.cells #[.pointer (some t)] 121)).alloc (.cells #[.pointer (some ⟨2,121,none⟩),.pointer (some ⟨w.heap.size,0,none⟩),.int .u64 150] 189)).alloc (.cells #[.pointer (some ⟨2,121,none⟩),.pointer (some ⟨w.heap.size,0,none⟩),.int .u64 150] 189)) (by rw [World.cell?_alloc_lt _ _ ⟨w.heap.size,0,none⟩ (by simp;omega)];simp)
 have st:=setE t ⟨w.heap.size+1+1+1,0,none⟩ n old ((((w.alloc (.cells #[.pointer (some t)] 121)).alloc (.cells #[.pointer (some ⟨2,121,none⟩),.pointer (some ⟨w.heap.size,0,none⟩),.int .u64 150] 189)).alloc (.cells #[.pointer (some ⟨2,121,none⟩),.pointer (some ⟨w.heap.size,0,none⟩),.int .u64 150] 189)).alloc (.cells #[.int .i64 n] 39))
  (by rw [World.cell?_alloc_at _ _ _ _ (by simp)];rfl)
  (by rw [World.cell?_alloc_lt _ _ t (by simp;omega),World.cell?_alloc_lt _ _ t (by simp;omega),World.cell?_alloc_lt _ _ t (by simp;omega),World.cell?_alloc_lt _ _ t htl];exact ht0)
  (by rw [World.frozen?_alloc_old _ _ t (by simp;omega),World.frozen?_alloc_old _ _ t (by simp;omega),World.frozen?_alloc_old _ _ t (by simp;omega),World.frozen?_alloc_old _ _ t (Nat.ne_of_lt htl)];exact hf0)
 go_enter Tryz.func45,Tryz.ntmps45
 go_wp2
 refine wp_loop_rounds 1 ?_
 rw [rounds_succ]
 go_wp2
 go_ret
 exact ⟨rfl,rfl⟩
end Go.Vc
namespace Go.Vc
open Go Go.RowKit Go.Extern.Stop Go.Stop Go.Extern Go.Proofs
theorem cw_ {w w1:World} (g:Grow w w1) (o:Obj):Grow w (w1.alloc o):=g.trans (Chg.alloc w1 o)
theorem tq_ (w:World) (o1 o2 o3 o4 o5:Obj):Grow w (((((w.alloc o1).alloc o2).alloc o3).alloc o4).alloc o5):=
 cw_ (cw_ (cw_ (cw_ (cw_ (.refl _ w) o1) o2) o3) o4) o5
set_option maxHeartbeats 4000000 in
theorem os_ (n:Int) (h0 : -9223372036854775808≤n) (h1:n≤9223372036854775807) (w:World) (hg:w.cell? ⟨0,0,none⟩=some (.iface 245 (.agg #[.pointer (some ⟨2,32,none⟩)]))) :
  Calls Tryz.prog 9 #[.iface 39 (.int .i64 n)] w λev w'=>ev=.returned (.int .i64 n)∧Grow w w':=by
 have hlt:0<w.heap.size:=by
  rcases Nat.eq_zero_or_pos w.heap.size with h0 | h
  ·simp [World.cell?,h0] at hg
  ·exact h
 have hgA:(w.alloc (.cells #[.int .i64 0] 39)).cell? ⟨0,0,none⟩=some (.iface 245 (.agg #[.pointer (some ⟨2,32,none⟩)])):=by
  rw [World.cell?_alloc_lt _ _ ⟨0,0,none⟩ hlt];exact hg
 have htA:(w.alloc (.cells #[.int .i64 0] 39)).cell? ⟨w.heap.size,0,none⟩=some (.int .i64 0):=by simp
 have hfA:(w.alloc (.cells #[.int .i64 0] 39)).frozen? ⟨w.heap.size,0,none⟩=false:=by simp
 have hw:IntKind.wrap .i64 n=n:=aG_ h0 h1
 go_enter Tryz.func9,Tryz.ntmps9
 go_wp2_with (first | (go_at_call 45;refine (tC_ n _ (.int .i64 0) _ hgA htA hfA).mono ?_;rintro e w' ⟨rfl,rfl⟩))
 go_ret
 refine ⟨by simp,tq_ _ _ _ _ _ _⟩
end Go.Vc
namespace Go.Vc
open Go Go.RowKit Go.Extern.Stop Go.Stop Go.Extern Go.Proofs
theorem qG_:(Tryz.prog.underlying 256).map (λt=>match t with | .interface ms=>ms.toList.map (·.1) | _=>[])=some ["As"]:=by kernel_rfl
theorem qF_:(Tryz.prog.underlying 250).map (λt=>match t with | .interface ms=>ms.toList.map (·.1) | _=>[])=some ["Unwrap"]:=by kernel_rfl
theorem eG_ {P:Program} {t:TypeId} {l:List String} (h:(P.underlying t).map (λt=>match t with | .interface ms=>ms.toList.map (·.1) | _=>[])=some l) (hne:l≠[]):∃ms,P.underlying t=some (.interface ms):=by
 cases hu:P.underlying t with
 | none=>rw [hu] at h;cases h
 | some u=>
  rw [hu] at h
  cases u with
  | interface ms=>exact ⟨ms,rfl⟩
  | _=>exact absurd (Option.some.inj h).symm hne
theorem noAs (v:Value) (xT:TypeId) (w:World):(Instr.typeAssert (.iface 214 v) xT 256 true).run Tryz.prog w=.ok (.tuple #[.nilIface,.bool false]) w:=by
 obtain ⟨ms,hu⟩:=eG_ qG_ (by simp)
 exact run_typeAssert_lacksB hu (by
  have:(Tryz.prog.info? 214).map (λi=>match Tryz.prog.underlying 256 with | some (.interface want)=>(lacking want i.methods).isEmpty | _=>true)=some false:=by kernel_rfl
  rw [hu] at this;exact this) (by kernel_rfl) v xT w
theorem lv_ (v:Value) (xT:TypeId) (w:World):(Instr.typeAssert (.iface 214 v) xT 250 true).run Tryz.prog w=.ok (.tuple #[.iface 214 v,.bool true]) w:=by
 obtain ⟨ms,hu⟩:=eG_ qF_ (by simp)
 exact run_typeAssert_hasB hu (by
  have:(Tryz.prog.info? 214).map (λi=>match Tryz.prog.underlying 250 with | some (.interface want)=>(lacking want i.methods).isEmpty | _=>true)=some true:=by kernel_rfl
  rw [hu] at this;exact this) v xT w
theorem gQ_ (x y:Value) (w:World):(Go.method 478 214 (.agg #[x,y]) "Unwrap").run Tryz.prog w=.ok (267,.agg #[x,y]) w:=by kernel_rfl
end Go.Vc
namespace Go.Vc
open Go Go.RowKit Go.Extern.Stop Go.Stop Go.Extern Go.Proofs
set_option maxHeartbeats 4000000 in
theorem rB_ (at_ n:Int) (t:Addr) (old:Value) (w:World) (hg:w.cell? ⟨0,0,none⟩=some (.iface 245 (.agg #[.pointer (some ⟨2,32,none⟩)]))) (ht0:w.cell? t=some old) (hf0:w.frozen? t=false) :
  Calls Tryz.prog 45 #[.iface 214 (.agg #[.int .i64 at_,.iface 39 (.int .i64 n)]),.iface 121 (.pointer (some t))] w λev w'=>ev=.returned (.bool true)∧w'=(((((w.alloc (.cells #[.pointer (some t)] 121)).alloc (.cells #[.pointer (some ⟨2,121,none⟩),.pointer (some ⟨w.heap.size,0,none⟩),.int .u64 150] 189)).alloc (.cells #[.pointer (some ⟨2,121,none⟩),.pointer (some ⟨w.heap.size,0,none⟩),.int .u64 150] 189)).alloc (.cells #[.int .i64 at_,.iface 39 (.int .i64 n)] 214)).alloc (.cells #[.int .i64 n] 39)).setCell t (.int .i64 n):=by
 have h6:=@run_callFunc_extern Tryz.prog 96 _ (λargs=>ReflectliteValue.unpack (args.getD 0 (.tuple #[]))) Tryz.func96 (by kernel_rfl) (by kernel_rfl) (by kernel_rfl) (by kernel_rfl)
 have h7:=@run_callFunc_extern Tryz.prog 97 _ (ReflectliteValue.methodAny (ReflectliteValue.valueError "reflectlite.Value.Type" 0) (λt _ _ _=>ReflectliteType.toType t)) Tryz.func97 (by kernel_rfl) (by kernel_rfl) (by kernel_rfl) (by kernel_rfl)
 have h8:=@run_callFunc_extern Tryz.prog 98 _ (ReflectliteValue.method (ReflectliteValue.valueError "reflectlite.Value.IsNil" 0) ReflectliteValue.isNil) Tryz.func98 (by kernel_rfl) (by kernel_rfl) (by kernel_rfl) (by kernel_rfl)
 have h27:=@run_callFunc_extern Tryz.prog 256 _ (ReflectliteType.abiMethod λt=>do pure (.int .u8 (← Rtype.kind t))) Tryz.func256 (by kernel_rfl) (by kernel_rfl) (by kernel_rfl) (by kernel_rfl)
 have h37:=@run_callFunc_extern Tryz.prog 271 _ (ReflectliteType.method ReflectliteType.elem) Tryz.func271 (by kernel_rfl) (by kernel_rfl) (by kernel_rfl) (by kernel_rfl)
 have h38:=@run_callFunc_extern Tryz.prog 272 _ (ReflectliteType.relation "Implements" ReflectliteType.implements_) Tryz.func272 (by kernel_rfl) (by kernel_rfl) (by kernel_rfl) (by kernel_rfl)
 have h10:=@run_callFunc_extern Tryz.prog 94 _ ReflectliteType.typeOf Tryz.func94 (by kernel_rfl) (by kernel_rfl) (by kernel_rfl) (by kernel_rfl)
 have h35:=@run_callFunc_extern Tryz.prog 269 _ (ReflectliteType.relation "AssignableTo" ReflectliteType.assignableTo) Tryz.func269 (by kernel_rfl) (by kernel_rfl) (by kernel_rfl) (by kernel_rfl)
 have h11:=@run_callFunc_extern Tryz.prog 144 _ (ReflectliteValue.method (ReflectliteValue.valueError "reflectlite.Value.Elem" 0) ReflectliteValue.elem) Tryz.func144 (by kernel_rfl) (by kernel_rfl) (by kernel_rfl) (by kernel_rfl)
 have h12:=@run_callFunc_extern Tryz.prog 145 _ ReflectliteValue.set Tryz.func145 (by kernel_rfl) (by kernel_rfl) (by kernel_rfl) (by kernel_rfl)
 have tO:=eU_
 have mA:=c4_
 have a25:=iL_
 have v25:=mW_
 have f6:=mV_
 have f7:=sY_
 have mK:=jm_
 have mE:=jn_
 have mI:=dY_
 have k27:=tj_
 have k25:=tk_
 have e27:=tA_
 have i25:=ig_
 have n8:=rV_ ⟨w.heap.size,0,none⟩ t ((w.alloc (.cells #[.pointer (some t)] 121)).alloc (.cells #[.pointer (some ⟨2,121,none⟩),.pointer (some ⟨w.heap.size,0,none⟩),.int .u64 150] 189)) (by simp)
 have hlt:0<w.heap.size:=by
  rcases Nat.eq_zero_or_pos w.heap.size with h0 | h
  ·simp [World.cell?,h0] at hg
  ·exact h
 have hg2:((w.alloc (.cells #[.pointer (some t)] 121)).alloc (.cells #[.pointer (some ⟨2,121,none⟩),.pointer (some ⟨w.heap.size,0,none⟩),.int .u64 150] 189)).cell? ⟨0,0,none⟩=some (.iface 245 (.agg #[.pointer (some ⟨2,32,none⟩)])):=by
  rw [World.cell?_alloc_lt _ _ ⟨0,0,none⟩ (by simp),World.cell?_alloc_lt _ _ ⟨0,0,none⟩ hlt];exact hg
 have htl:t.block<w.heap.size:=by
  rcases Nat.lt_or_ge t.block w.heap.size with h | h
  ·exact h
  ·simp [World.cell?,Array.getElem?_eq_none h] at ht0
 have el:=rX_ ⟨w.heap.size,0,none⟩ t ((((w.alloc (.cells #[.pointer (some t)] 121)).alloc (.cells #[.pointer (some ⟨2,121,none⟩),.pointer (some ⟨w.heap.size,0,none⟩),.int .u64 150] 189)).alloc (.cells #[.pointer (some ⟨2,121,none⟩),.pointer (some ⟨w.heap.size,0,none⟩),.int .u64 150] 189)).alloc (.cells #[.int .i64 at_,.iface 39 (.int .i64 n)] 214)) (by
  rw [World.cell?_alloc_lt _ _ ⟨w.heap.size,0,none⟩ (by simp;omega),World.cell?_alloc_lt _ _ ⟨w.heap.size,0,none⟩ (by simp;omega)];simp)
 have st:=setE t ⟨w.heap.size+1+1+1+1,0,none⟩ n old (((((w.alloc (.cells #[.pointer (some t)] 121)).alloc (.cells #[.pointer (some ⟨2,121,none⟩),.pointer (some ⟨w.heap.size,0,none⟩),.int .u64 150] 189)).alloc (.cells #[.pointer (some ⟨2,121,none⟩),.pointer (some ⟨w.heap.size,0,none⟩),.int .u64 150] 189)).alloc (.cells #[.int .i64 at_,.iface 39 (.int .i64 n)] 214)).alloc (.cells #[.int .i64 n] 39))
  (by rw [World.cell?_alloc_at _ _ _ _ (by simp)];rfl)
  (by rw [World.cell?_alloc_lt _ _ t (by simp;omega),World.cell?_alloc_lt _ _ t (by simp;omega),World.cell?_alloc_lt _ _ t (by simp;omega),World.cell?_alloc_lt _ _ t (by simp;omega),World.cell?_alloc_lt _ _ t htl];exact ht0)
  (by rw [World.frozen?_alloc_old _ _ t (by simp;omega),World.frozen?_alloc_old _ _ t (by simp;omega),World.frozen?_alloc_old _ _ t (by simp;omega),World.frozen?_alloc_old _ _ t (by simp;omega),World.frozen?_alloc_old _ _ t (Nat.ne_of_lt htl)];exact hf0)
 have tF:=r5_
 have aF:=mH_
 have nA:=noAs
 have hU:=lv_
 have mU:=gQ_
 go_enter Tryz.func45,Tryz.ntmps45
 go_wp2
 refine wp_loop_rounds 2 ?_
 rw [rounds_succ]
 go_wp2
 rw [rounds_succ]
 go_wp2
 go_ret
 exact ⟨rfl,rfl⟩
end Go.Vc
namespace Go.Vc
open Go Go.RowKit Go.Extern.Stop Go.Stop Go.Extern Go.Proofs
theorem tR_ (w:World) (o1 o2 o3 o4 o5 o6:Obj):Grow w ((((((w.alloc o1).alloc o2).alloc o3).alloc o4).alloc o5).alloc o6):=cw_ (tq_ w o1 o2 o3 o4 o5) o6
set_option maxHeartbeats 4000000 in
theorem or_ (at_ n:Int) (w:World) (hg:w.cell? ⟨0,0,none⟩=some (.iface 245 (.agg #[.pointer (some ⟨2,32,none⟩)]))) :
  Calls Tryz.prog 9 #[.iface 214 (.agg #[.int .i64 at_,.iface 39 (.int .i64 n)])] w λev w'=>ev=.returned (.int .i64 n)∧Grow w w':=by
 have hlt:0<w.heap.size:=by
  rcases Nat.eq_zero_or_pos w.heap.size with h0 | h
  ·simp [World.cell?,h0] at hg
  ·exact h
 have hgA:(w.alloc (.cells #[.int .i64 0] 39)).cell? ⟨0,0,none⟩=some (.iface 245 (.agg #[.pointer (some ⟨2,32,none⟩)])):=by
  rw [World.cell?_alloc_lt _ _ ⟨0,0,none⟩ hlt];exact hg
 have htA:(w.alloc (.cells #[.int .i64 0] 39)).cell? ⟨w.heap.size,0,none⟩=some (.int .i64 0):=by simp
 have hfA:(w.alloc (.cells #[.int .i64 0] 39)).frozen? ⟨w.heap.size,0,none⟩=false:=by simp
 go_enter Tryz.func9,Tryz.ntmps9
 go_wp2_with (first | (go_at_call 45;refine (rB_ at_ n _ (.int .i64 0) _ hgA htA hfA).mono ?_;rintro e w' ⟨rfl,rfl⟩))
 go_ret
 refine ⟨by simp,tR_ _ _ _ _ _ _ _⟩
def ErrT (w:World):Prop:=w.cell? ⟨0,0,none⟩=some (.iface 245 (.agg #[.pointer (some ⟨2,32,none⟩)]))
theorem iS_ {n:Int} {w:World} {K:Value→World→Prop} (h:ErrT w) (h0 : -9223372036854775808≤n) (h1:n≤9223372036854775807) (hK:∀w',Grow w w'→K (.int .i64 n) w'):aa_ PR F.kN_ #[.iface T.ak_ (.int .i64 n)] w K:=
 bj_ (os_ n h0 h1 w h) λe w' ⟨he,g⟩=>⟨_,he,hK _ g⟩
theorem iR_ {a n:Int} {w:World} {K:Value→World→Prop} (h:ErrT w) (hK:∀w',Grow w w'→K (.int .i64 n) w'):aa_ PR F.kN_ #[.iface T.ew_ (.agg #[.int .i64 a,.iface T.ak_ (.int .i64 n)])] w K:=
 bj_ (or_ a n w h) λe w' ⟨he,g⟩=>⟨_,he,hK _ g⟩
end Go.Vc
namespace Go.Vc
open Go Go.ChangeShapes Go.WideShapes Go.ChangeAt Go.RowKit Go.Deep Go.Proofs Go.Proofs.YthcpblejnhhhdaaGreatDoor
theorem gErr:PR.globalNamed "errors.errorType" = some 0:=by kernel_rfl
theorem rtN:(PR.cutTypes.find? (·.1 == "internal/reflectlite.rtype")).map (·.2)=some T.dq_:=by kernel_rfl
theorem tI_:PR.types.size=378:=by kernel_rfl
theorem td_:((List.range 378).filter λt=>PR.rowNamed t [101,114,114,111,114])=[T.error]:=by kernel_rfl
theorem sy_ {W:World} (h:laidMetH PR [("errors.errorType", Rows.laid_errors_errorType)] W):ErrT W:=by
 obtain ⟨_,h2⟩:=laidMetH_iff.1 h
 obtain ⟨name,u,ty,e1,e2,e3,e4,e5⟩:=h2 ("errors.errorType", Rows.laid_errors_errorType) (by
  refine List.mem_filter.2 ⟨?_,rfl⟩
  exact .head _)
 have en:name=[101,114,114,111,114]:=(Option.some.inj e1).symm
 subst en
 obtain rfl:=Option.some.inj (rtN.symm.trans e2)
 have hm:ty∈(List.range 378).filter λt=>PR.rowNamed t [101,114,114,111,114]:=List.mem_filter.2 ⟨List.mem_range.2 (by rw [← tI_];exact e3),e4⟩
 rw [td_] at hm
 obtain rfl:=List.mem_singleton.1 hm
 have hh:typeHandle PR T.error=.pointer (some ⟨2,T.error,none⟩):=by kernel_rfl
 rw [hh] at e5
 have:=World.var?_cell gErr e5 0
 unfold ErrT
 simpa using this
noncomputable def ie_ (os:Os):World:=
 let w0:=World.holding Tryz.prog os ⟨#[],#[],[]⟩
 let put (h:Array Obj) (g:Nat) (cs:Array Value):Array Obj:=h.modify g fun
  | .cells _ t frozen=>.cells cs t frozen
  | o=>o
 { w0 with heap:=put w0.heap 0 #[.iface T.dq_ (.agg #[.pointer (some ⟨2,T.error,none⟩)])] }
theorem rf_ (os:Os) (args:Array Value):laidMetH Tryz.prog [("errors.errorType", Rows.laid_errors_errorType)] ((ie_ os).forCall (λ_ _=>0) ⟨#[],args,[]⟩).memory:=
 laidMetH_of_parts (LaidIn.of_run (l:=[("errors.errorType", Rows.laid_errors_errorType)].filter λx=>x.2.handleName?.isNone) [] 8 (by kernel_rfl) (by kernel_rfl) (by kernel_rfl) (by kernel_rfl)).met (by kernel_rfl)
end Go.Vc
namespace Go.Vc
open Go
structure MsgL where
 kind:Int
 ver:Int
 i:Int
 text:List UInt8
 proof:List (List UInt8)
end Go.Vc
namespace Go.Vc
open Go
def pr_ (m:MsgL) (q:Option Addr) (c:Nat):Value:=.agg #[.int .i64 m.kind,.int .i64 m.ver,.int .i64 m.i,.string (str m.text),.slice q m.proof.length c]
end Go.Vc
namespace Go.Vc
open Go
theorem lp_ (k0:Nat) (y1:Option Addr) (ly1:Nat) (cy1:Nat) (g2:Option Nat) (m3:Int) (S:SP) (K:KP) (w:World) (hF:Fs S w [⟨k0,#[.slice y1 ly1 cy1,.map g2],145,true⟩] w) (hS:S k0∧True) (h:(m3<0→K (.tuple #[.slice none 0 0,.iface 39 (Iv 2)]) w)∧(¬(m3<0)→(m3≥(ly1:Int)→K (.tuple #[.slice none 0 0,.iface 39 (Iv 2)]) w)∧(¬(m3≥(ly1:Int))→∀l0,w.heap.size≤l0→∀w0,Fr S w w [l0] [⟨k0,#[.slice y1 ly1 cy1,.map g2],145,true⟩,⟨l0,#[Iv 0,Iv (ly1:Int)],147,true⟩] w0→let B0:Blk:=⟨k0,#[.slice y1 ly1 cy1,.map g2],145,true⟩;∃I0:(Option Addr)→Nat→Nat→(Option Addr)→Nat→World→Prop,(∃l1,I0 none 0 0 (some (⟨l0,0,none⟩)) l1 w0)∧∀q0 l2 l3 q1,∀D0:Nat→Value,∀l4 w1,I0 q0 l2 l3 q1 l4 w1→Fs S w [B0] w1→Dr q1 λa0=>Dr (some (Addr.add a0 1)) λa1=>∃n0,World.cell? w1 a1=some (Iv n0)∧(n0>1→Dr q1 λa2=>Dr (some (Addr.add a2 1)) λa3=>∃n1,World.cell? w1 a3=some (Iv n1)∧aa_ PR 64 #[Iv n1] w1 λv0 w2=>∃n2,v0=Iv n2∧Fs S w [B0] w2∧∀w3,Fr S w w2 [] [B0] w3→∃I1:World→Prop,I1 w3∧Dr q1 λa4=>Dr (some (Addr.add a4 0)) λa5=>∃n3,(∀w4,I1 w4→World.cell? w4 a5=some (Iv n3))∧Dr q1 λa6=>Dr (some (Addr.add a6 0)) λa7=>∃n4,(∀w5,I1 w5→World.cell? w5 a7=some (Iv n4))∧Dr q1 λa8=>Dr (some (Addr.add a8 1)) λa9=>∃n5,(∀w6,I1 w6→World.cell? w6 a9=some (Iv n5))∧(∀l5,w3.heap.size≤l5→∀w7,Fr S w w3 [] [B0,⟨l5,#[Iv 0,Iv 0],147,true⟩] w7→I1 w7∧∀l6,w7.heap.size≤l6→∀w8,Fr S w w7 [] [B0,⟨l5,#[Iv 0,Iv 0],147,true⟩,⟨l6,#[Iv 0,Iv 0],147,true⟩] w8→I1 w8∧∀w9,Fr S w w8 [l5] [B0,⟨l5,#[Iv n3,Iv n2],147,true⟩,⟨l6,#[Iv 0,Iv 0],147,true⟩] w9→let B1:Blk:=⟨l5,#[Iv n3,Iv n2],147,true⟩;I1 w9∧Dr q1 λa10=>∀w10,Fr S w w9 [l6] [B0,B1,⟨l6,#[Iv (IntKind.wrap .i64 (n4+n2)),Iv (IntKind.wrap .i64 (n5 - n2))],147,true⟩] w10→let B2:Blk:=⟨l6,#[Iv (IntKind.wrap .i64 (n4+n2)),Iv (IntKind.wrap .i64 (n5 - n2))],147,true⟩;Dr (some (Addr.add a10 0)) λa11=>∃n6,World.cell? w10 a11=some (Iv n6)∧(m3<IntKind.wrap .i64 (n6+n2)→∀w11,Fr S w w10 [] [B0,B1,B2] w11→∃I2:World→Prop,I2 w11∧rn PR (Instr.lookup 143 (.map g2) (.agg #[Iv (IntKind.wrap .i64 (n4+n2)),Iv (IntKind.wrap .i64 (n5 - n2))]) false) (λv1 w12=>∃s0,v1=.string s0∧Fs S w [B0,B1,B2] w12∧I2 w12∧∀l7,w12.heap.size≤l7→∀w13,Fr S w w12 [] [B0,B1,B2,⟨l7,#[.string s0],9,true⟩] w13→I2 w13∧rn PR (Builtin.append_ #[45,45] 45 #[.slice (some (⟨l7,0,none⟩)) 1 1,.slice q0 l2 l3]) (λv2 w14=>∃q2 l8 l9,v2=.slice q2 l8 l9∧Fs S w [B0,B1,B2,⟨l7,#[.string s0],9,true⟩] w14∧I2 w14∧Dr q1 λa12=>StC w14 (Addr.add a12 0) (Iv n3) λw15=>StC w15 (Addr.add a12 1) (Iv n2) λw16=>Fs S w [B0,B1,B2,⟨l7,#[.string s0],9,true⟩] w16∧Dr q1 λa13=>∃n7,World.cell? w16 (Addr.add a13 0)=some (Iv n7)∧∃n8,World.cell? w16 (Addr.add a13 1)=some (Iv n8)∧∀l10,w16.heap.size≤l10→∀w17,Fr S w w16 [l10] [B0,⟨l10,#[Iv n7,Iv n8],147,true⟩] w17→∃l11,l11<l4∧I0 q2 l8 l9 (some (⟨l10,0,none⟩)) l11 w17) w13) w11)∧(¬(m3<IntKind.wrap .i64 (n6+n2))→∀w18,Fr S w w10 [] [B0,B1,B2] w18→∃I3:World→Prop,I3 w18∧rn PR (Instr.lookup 143 (.map g2) (.agg #[Iv n3,Iv n2]) false) (λv3 w19=>∃s1,v3=.string s1∧Fs S w [B0,B1,B2] w19∧I3 w19∧∀l12,w19.heap.size≤l12→∀w20,Fr S w w19 [] [B0,B1,B2,⟨l12,#[.string s1],9,true⟩] w20→I3 w20∧rn PR (Builtin.append_ #[45,45] 45 #[.slice (some (⟨l12,0,none⟩)) 1 1,.slice q0 l2 l3]) (λv4 w21=>∃q3 l13 l14,v4=.slice q3 l13 l14∧Fs S w [B0,B1,B2,⟨l12,#[.string s1],9,true⟩] w21∧I3 w21∧Dr q1 λa14=>StC w21 (Addr.add a14 0) (Iv (IntKind.wrap .i64 (n4+n2))) λw22=>StC w22 (Addr.add a14 1) (Iv (IntKind.wrap .i64 (n5 - n2))) λw23=>Fs S w [B0,B1,B2,⟨l12,#[.string s1],9,true⟩] w23∧Dr q1 λa15=>∃n9,World.cell? w23 (Addr.add a15 0)=some (Iv n9)∧∃n10,World.cell? w23 (Addr.add a15 1)=some (Iv n10)∧∀l15,w23.heap.size≤l15→∀w24,Fr S w w23 [l15] [B0,⟨l15,#[Iv n9,Iv n10],147,true⟩] w24→∃l16,l16<l4∧I0 q3 l13 l14 (some (⟨l15,0,none⟩)) l16 w24) w20) w18))∧∀l17,w3.heap.size≤l17→∀w25,Fr S w w3 [] [B0,⟨l17,#[Iv 0,Iv 0],147,true⟩] w25→I1 w25∧∀l18,w25.heap.size≤l18→∀w26,Fr S w w25 [] [B0,⟨l17,#[Iv 0,Iv 0],147,true⟩,⟨l18,#[Iv 0,Iv 0],147,true⟩] w26→I1 w26∧∀w27,Fr S w w26 [l18] [B0,⟨l17,#[Iv 0,Iv 0],147,true⟩,⟨l18,#[Iv n3,Iv n2],147,true⟩] w27→let B3:Blk:=⟨l18,#[Iv n3,Iv n2],147,true⟩;I1 w27∧Dr q1 λa16=>∀w28,Fr S w w27 [l17] [B0,⟨l17,#[Iv (IntKind.wrap .i64 (n4+n2)),Iv (IntKind.wrap .i64 (n5 - n2))],147,true⟩,B3] w28→let B4:Blk:=⟨l17,#[Iv (IntKind.wrap .i64 (n4+n2)),Iv (IntKind.wrap .i64 (n5 - n2))],147,true⟩;Dr (some (Addr.add a16 0)) λa17=>∃n11,World.cell? w28 a17=some (Iv n11)∧(m3<IntKind.wrap .i64 (n11+n2)→∀w29,Fr S w w28 [] [B0,B4,B3] w29→∃I4:World→Prop,I4 w29∧rn PR (Instr.lookup 143 (.map g2) (.agg #[Iv (IntKind.wrap .i64 (n4+n2)),Iv (IntKind.wrap .i64 (n5 - n2))]) false) (λv5 w30=>∃s2,v5=.string s2∧Fs S w [B0,B4,B3] w30∧I4 w30∧∀l19,w30.heap.size≤l19→∀w31,Fr S w w30 [] [B0,B4,B3,⟨l19,#[.string s2],9,true⟩] w31→I4 w31∧rn PR (Builtin.append_ #[45,45] 45 #[.slice (some (⟨l19,0,none⟩)) 1 1,.slice q0 l2 l3]) (λv6 w32=>∃q4 l20 l21,v6=.slice q4 l20 l21∧Fs S w [B0,B4,B3,⟨l19,#[.string s2],9,true⟩] w32∧I4 w32∧Dr q1 λa18=>StC w32 (Addr.add a18 0) (Iv n3) λw33=>StC w33 (Addr.add a18 1) (Iv n2) λw34=>Fs S w [B0,B4,B3,⟨l19,#[.string s2],9,true⟩] w34∧Dr q1 λa19=>∃n12,World.cell? w34 (Addr.add a19 0)=some (Iv n12)∧∃n13,World.cell? w34 (Addr.add a19 1)=some (Iv n13)∧∀l22,w34.heap.size≤l22→∀w35,Fr S w w34 [l22] [B0,⟨l22,#[Iv n12,Iv n13],147,true⟩] w35→∃l23,l23<l4∧I0 q4 l20 l21 (some (⟨l22,0,none⟩)) l23 w35) w31) w29)∧(¬(m3<IntKind.wrap .i64 (n11+n2))→∀w36,Fr S w w28 [] [B0,B4,B3] w36→∃I5:World→Prop,I5 w36∧rn PR (Instr.lookup 143 (.map g2) (.agg #[Iv n3,Iv n2]) false) (λv7 w37=>∃s3,v7=.string s3∧Fs S w [B0,B4,B3] w37∧I5 w37∧∀l24,w37.heap.size≤l24→∀w38,Fr S w w37 [] [B0,B4,B3,⟨l24,#[.string s3],9,true⟩] w38→I5 w38∧rn PR (Builtin.append_ #[45,45] 45 #[.slice (some (⟨l24,0,none⟩)) 1 1,.slice q0 l2 l3]) (λv8 w39=>∃q5 l25 l26,v8=.slice q5 l25 l26∧Fs S w [B0,B4,B3,⟨l24,#[.string s3],9,true⟩] w39∧I5 w39∧Dr q1 λa20=>StC w39 (Addr.add a20 0) (Iv (IntKind.wrap .i64 (n4+n2))) λw40=>StC w40 (Addr.add a20 1) (Iv (IntKind.wrap .i64 (n5 - n2))) λw41=>Fs S w [B0,B4,B3,⟨l24,#[.string s3],9,true⟩] w41∧Dr q1 λa21=>∃n14,World.cell? w41 (Addr.add a21 0)=some (Iv n14)∧∃n15,World.cell? w41 (Addr.add a21 1)=some (Iv n15)∧∀l27,w41.heap.size≤l27→∀w42,Fr S w w41 [l27] [B0,⟨l27,#[Iv n14,Iv n15],147,true⟩] w42→∃l28,l28<l4∧I0 q5 l25 l26 (some (⟨l27,0,none⟩)) l28 w42) w38) w36))∧(¬(n0>1)→K (.tuple #[.slice q0 l2 l3,.nilIface]) w1)))):aa_ PR 34 ⟨[.pointer (some ⟨k0,0,none⟩),.int .i64 m3]⟩ w K:=
 ab_ (okf:=⟨okL,[]⟩) ag_ (args:=[.c (.p 0 k0 true 0),.c (.v (.int .i64 m3))]) (H:=[⟨k0,.l [.v (.slice y1 ly1 cy1),.v (.map g2)],145,true⟩]) (.s .z (.s .z (.s .z (.s (.s (.r ⟨(some [0]),true,[],[]⟩) (.b (.l (some [0,7]) (some [0]) [(6,.c (.sl)),(7,.c (.ptr))] [] (.s .z (.s (.b (.s (.r ⟨(some [0,7]),true,[],[]⟩) (.s (.r ⟨(some [0,7]),true,[],[]⟩) (.s (.s .z (.c (.s (.r ⟨(some [0,7,9,10]),true,[7],[]⟩) .z) .z)) (.r ⟨(some [0,7,9,10]),true,[7],[]⟩))))) (.s .z (.r ⟨(some [0,79]),true,[],[]⟩))))))) .z)))) Go.Proofs.Tryz.func34 rfl ⟨rfl,trivial,trivial⟩ ⟨⟨trivial,⟨trivial,trivial⟩⟩,trivial⟩ hF hS (ad_ (by kernel_rfl) h)
end Go.Vc
