/-
  A part of the proof of the statement FetchDoneSaid, in Lean: Mf1, Mf2, Mk3, Mm1, Mm2, Pb1, Pb2, Rdn, RoG, Ms1, Msd, MirH1, Pr1, Df1, Df2, Jf1. By an AI agent.
-/
import Derived.Test.YthcpblejnhhhdaaGreatP05
import Derived.Test.YthcpblejnhhhdaaGreatP07
import Derived.Test.YthcpblejnhhhdaaGreatP06
import Derived.OpenShut
import Derived.KernelRfl
import Derived.WalkKit
import Derived.ProofKit
import Derived.Below
import Derived.ChangeSame
import Derived.Carry
import Derived.Deep.SlicePairs
import Derived.Deep.Grids
import Derived.ChangeArms
import Derived.WideShapes
import Derived.Test.YthcpblejnhhhdaaGreatP04
import Derived.Test.YthcpblejnhhhdaaGreatP02
set_option linter.unusedSimpArgs false
set_option linter.unusedVariables false
set_option maxRecDepth 100000
namespace Go.Vc
open Go
def aG_ (xs:List (List UInt8)):List UInt8:=(xs.map λs=>af_ s.length++s).flatten
theorem i6_ {xs:List (List UInt8)} {k:Nat} (h:k<xs.length):aG_ (xs.take (k+1))=aG_ (xs.take k)++(af_ xs[k].length++xs[k]):=by
 unfold aG_;rw [aA_ h,List.map_append,List.flatten_append];simp
theorem ha_ (xs:List (List UInt8)) (k:Nat):(aG_ (xs.take k)).length≤(aG_ xs).length:=by
 have:aG_ xs=aG_ (xs.take k)++aG_ (xs.drop k):=by
  unfold aG_;rw [← List.flatten_append,← List.map_append,List.take_append_drop]
 rw [this,List.length_append];omega
theorem cC_ {q:Option Addr} {n c:Nat} {xs:List (List UInt8)} {w:World} (hs:Sl w q (xs.map sv8')) (hl:n=xs.length) (hn:n≤1000000) (hb:(aG_ xs).length≤35184372088832) {K:Value→World→Prop}
  (hK:∀w',Grow w w'→K (.string (str (aG_ xs))) w'):aa_ PR F.jd_ ⟨[.slice q n c]⟩ w K:=by
 subst hl
 refine h3_ q xs.length c S0 K w λb hb0 w0 hF0=>?_
 have hbb:=hF0.blk 0 rfl
 have hbl:b<w0.heap.size:=aj_ hbb
 have off0:∀ {q:Option Addr} {bs:List UInt8} {p:Option Addr} {l c:Nat} {w':World},BldP w' b w0.heap.size p q l c bs→∀j,j<w.heap.size→¬(j=b∨ak_ q j):=by
  rintro q bs p l c w' h j hj (e | ⟨a,ha,e⟩)
  ·omega
  ·have:=h.off.le a ha;have:=hF0.chg.size;omega
 have hmod:∀ {w1 w2:World} {p q p' q':Option Addr} {l c l' c':Nat} {bs bs':List UInt8},Fs S0 w [⟨b,#[.pointer p,.slice q l c],T.ae_,true⟩] w1→BldP w1 b w0.heap.size p q l c bs→BldP w2 b w0.heap.size p' q' l' c' bs'→Chg (λk=>k=b∨ak_ q k) w1 w2→
   Fs S0 w [⟨b,#[.pointer p',.slice q' l' c'],T.ae_,true⟩] w2:=λhF h1 h2 g=>hF.mod g h2.blk (λx hx=>by cases hx) λj hj hs=>absurd hs (off0 h1 j hj)
 refine ⟨λi p q l c m w'=>∃k:Nat,i=k∧k≤xs.length∧m=xs.length - k∧BldP w' b w0.heap.size p q l c (aG_ (xs.take k))∧w0.heap.size≤w'.heap.size,⟨_,0,rfl,by omega,rfl,.new hbb hbl,Nat.le_refl _⟩,?_⟩
 rintro i p q1 l c1 D m w1 ⟨k,rfl,hk,rfl,hB,hsz⟩ hF
 have hle:=ha_ xs k
 refine ⟨λhlt=>?_,λhge=>?_⟩
 ·have hk':k<xs.length:=by omega
  have hnx:=i6_ hk'
  have hle2:=ha_ xs (k+1)
  rw [hnx,List.length_append,List.length_append] at hle2
  refine (hs.grow hF.gr).rd (v:=sv8' xs[k]) (by simp) (by omega) (by simp [hk']) λa ha=>⟨_,ha,?_⟩
  rw [ai_]
  refine ft_ (by omega) (by omega) λw2 g2=>⟨_,rfl,hF.after g2,?_⟩
  rw [Int.toNat_natCast]
  simp only [ai_,aC_]
  have hB2:=hB.grow g2
  have hl:=hB2.len
  refine ⟨by omega,?_⟩
  refine aS_ hB2 (by have:=g2.size;omega) (by rw [ai_,List.length_append];omega) λw3 p' q' l' c' hB3 g3 hq3=>⟨_,_,rfl,p',q',l',c',hmod (hF.after g2) hB2 hB3 g3,xs.length - (k+1),by omega,k+1,wr1 (by omega),by omega,rfl,?_,by have:=g2.size;have:=g3.size;omega⟩
  rw [bR_] at hB3
  rw [hnx];exact hB3
 ·have e:k=xs.length:=by omega
  subst e
  rw [List.take_length] at hB
  refine dn_ hB λw2 g2=>⟨_,rfl,hF.step g2 (λx hx ⟨a,ha,e⟩=>?_) (λj hj hj'=>off0 hB j hj (.inr hj')),?_⟩
  ·simp at hx;subst hx
   have:=hB.off.le a ha;simp only [] at e;omega
  ·exact hK w2 (Chg.trans hF.gr g2 λj hj hj'=>absurd (.inr hj') (off0 hB j hj))
def mval (m:Man) (q:Option Addr) (c:Nat):Value:=.agg #[.int .i64 m.version,.int .i64 m.nodes,.int .i64 m.edges,.slice q m.shards.length c,.int .i64 m.blocks,.string (str m.root)]
theorem kx_ {n a b:Int} (h:a≤n∧n≤b) {w:World} {K:Value→World→Prop} (hK:K (.bool true) w):aa_ PR F.eH_ ⟨[.int .i64 n,.int .i64 a,.int .i64 b]⟩ w K:=
 eH_ n a b S0 K w ⟨λ_=>⟨λ_=>hK,λh'=>by omega⟩,λh'=>by omega⟩
theorem p5_ {m:Man} (h:m.ok) {q:Option Addr} {c:Nat} {w:World} {K:Value→World→Prop} (hK:∀w',Grow w w'→K (.int .i64 (-1)) w'):aa_ PR F.cP_ ⟨[mval m q c]⟩ w K:=by
 have hs:=h.shards
 have hiff:m.shards.length=0↔m.nodes=0:=by rw [← hs.2];exact List.length_eq_zero_iff
 refine cP_ m.version m.nodes m.edges q m.shards.length c m.blocks (str m.root) S0 K w λb hb w0 hF0=>?_
 refine kx_ h.version ⟨true,rfl,λ_=>⟨hF0.reset,kx_ h.nodes ⟨true,rfl,λ_=>⟨hF0.reset,kx_ h.edges ⟨true,rfl,λ_=>⟨hF0.reset,λh'=>by omega,λ_=>⟨λh0=>⟨λ_=>hK w0 hF0.chg,λh1=>by omega⟩,λh0=>⟨λh1=>by omega,λ_=>hK w0 hF0.chg⟩⟩⟩,(λh=>by cases h)⟩⟩,(λh=>by cases h)⟩⟩,(λh=>by cases h)⟩
theorem nF_ {nodes:Int} : ∀ {l:List (Int × Int)} {p:Option Int},gg_ nodes p l→∀k,(hk:k<l.length)→(3≤l[k].2∧l[k].2≤1048576)∧(k=0→p=none→l[k].1=0)∧((hk0:0<k)→l[k - 1].1+1≤l[k].1∧l[k].1≤nodes - 1)
 | [],_,_,k,hk=>by simp at hk
 | (f,b) :: l,none,h,k,hk=>by
  obtain ⟨h0,h1,h2,h3⟩:=h
  cases k with
  | zero=>exact ⟨⟨h1,h2⟩,λ_ _=>h0,λh=>by omega⟩
  | succ k=>
   have ih:=nF_ h3 k (by simpa using hk)
   refine ⟨ih.1,λh=>by omega,λ_=>?_⟩
   cases k with
   | zero=>
    match l,h3,hk with
    | (f',b') :: l',h3,_=>obtain ⟨a1,a2,_⟩:=h3;exact ⟨a1,a2⟩
   | succ k=>exact ih.2.2 (by omega)
 | (f,b) :: l,some p,h,k,hk=>by
  obtain ⟨h0,h0',h1,h2,h3⟩:=h
  cases k with
  | zero=>exact ⟨⟨h1,h2⟩,(λ_ h=>by cases h),λh=>by omega⟩
  | succ k=>
   have ih:=nF_ h3 k (by simpa using hk)
   refine ⟨ih.1,λh=>by omega,λ_=>?_⟩
   cases k with
   | zero=>
    match l,h3,hk with
    | (f',b') :: l',h3,_=>obtain ⟨a1,a2,_⟩:=h3;exact ⟨a1,a2⟩
   | succ k=>exact ih.2.2 (by omega)
theorem nE_ {m:Man} (h:m.ok) {q:Option Addr} {c:Nat} {w:World} (hs:Sl w q (encE m.shards)) {K:Value→World→Prop} (hK:∀w',Grow w w'→K (.int .i64 (-1)) w'):aa_ PR F.co_ ⟨[mval m q c]⟩ w K:=by
 have hsl:=h.shards.1
 have hno:=h.nodes
 refine co_ m.version m.nodes m.edges q m.shards.length c m.blocks (str m.root) S0 K w λb hb w0 hF0=>?_
 refine ⟨λi k w'=>∃j:Nat,i=j∧j≤m.shards.length∧k=m.shards.length - j,⟨_,0,rfl,by omega,rfl⟩,?_⟩
 rintro i D k w1 ⟨j,rfl,hj,rfl⟩ hF
 refine ⟨λhlt=>?_,λhge=>hK w1 hF.gr⟩
 have hj':j<m.shards.length:=by omega
 obtain ⟨hb1,hz,hp⟩:=nF_ h.tab j hj'
 have fin:∃l4:Nat,l4<m.shards.length - j∧∃j1:Nat,IntKind.wrap .i64 ((j:Int)+1)=j1∧j1≤m.shards.length∧l4=m.shards.length - j1:=⟨m.shards.length - (j+1),by omega,j+1,wr1 (by omega),by omega,rfl⟩
 refine (hs.grow hF.gr).rd2 rfl hj' hj' λa ha1 ha2=>⟨_,ha1,_,ha2,λb3 hb3=>?_⟩
 refine ⟨λh0=>⟨λhj0 w2 hF2=>⟨(· = w2),rfl,?_⟩,λhj0 w6 hF6=>?_⟩,λh0=>⟨λhj0 w8 hF8=>⟨(· = w8),rfl,?_⟩,λhj0 w12 hF12=>?_⟩⟩
 ·have hj1:0<j:=by omega
  have:=hp hj1
  rw [wrP hj1 (by omega)]
  refine (hs.grow hF2.chg).rd2 (k:=j - 1) rfl (by omega) (by omega) λa ha1 ha2=>ad_.2 ⟨_,λw3 e=>e ▸ ha1,?_⟩
  have hbd:=b8_ hno.2 (λ_ h=>by cases h) h.tab _ (List.getElem_mem (show j - 1<m.shards.length by omega))
  rw [w64 (n:=m.shards[j - 1].1+1) (by omega) (by omega),w64 (n:=m.nodes - 1) (by omega) (by omega)]
  exact kx_ this ⟨true,rfl,λ_=>⟨hF2.reset,rfl,kx_ hb1 ⟨true,rfl,λ_=>⟨hF2.reset,fin⟩,(λh=>by cases h)⟩⟩,(λh=>by cases h)⟩
 ·exact kx_ hb1 ⟨true,rfl,λ_=>⟨hF6.reset,fin⟩,(λh=>by cases h)⟩
 ·have hj1:0<j:=by omega
  have:=hp hj1
  rw [wrP hj1 (by omega)]
  refine (hs.grow hF8.chg).rd2 (k:=j - 1) rfl (by omega) (by omega) λa ha1 ha2=>ad_.2 ⟨_,λw3 e=>e ▸ ha1,?_⟩
  have hbd:=b8_ hno.2 (λ_ h=>by cases h) h.tab _ (List.getElem_mem (show j - 1<m.shards.length by omega))
  rw [w64 (n:=m.shards[j - 1].1+1) (by omega) (by omega),w64 (n:=m.nodes - 1) (by omega) (by omega)]
  exact kx_ this ⟨true,rfl,λ_=>⟨hF8.reset,rfl,kx_ hb1 ⟨true,rfl,λ_=>⟨hF8.reset,fin⟩,(λh=>by cases h)⟩⟩,(λh=>by cases h)⟩
 ·exact absurd (hz (by omega) rfl) h0
end Go.Vc
namespace Go.Vc
open Go
theorem eX_ {l:List Int} {k:Nat} (h:k<l.length):(l.take (k+1)).sum=(l.take k).sum+l[k]:=by
 rw [aA_ h,List.sum_append];simp
theorem m9_ {m:Man} (h:m.ok) {q:Option Addr} {c:Nat} {w:World} (hs:Sl w q (encE m.shards)) {K:Value→World→Prop} (hK:∀w',Grow w w'→0≤m.total→m.total≤67108864→K (.int .i64 m.total) w'):aa_ PR F.cQ_ ⟨[mval m q c]⟩ w K:=by
 have hsl:=h.shards.1
 have hno:=h.nodes
 have hbd:∀k,k≤m.shards.length→0≤((m.shards.map (·.2)).take k).sum∧((m.shards.map (·.2)).take k).sum≤k*1048576:=by
  intro k
  induction k with
  | zero=>intro _;simp
  | succ k ih=>
   intro hk
   have hk':k<m.shards.length:=hk
   have i:=ih (by omega)
   have:=b8_ hno.2 (λ_ h=>by cases h) h.tab _ (List.getElem_mem hk')
   rw [eX_ (by simpa using hk'),List.getElem_map]
   omega
 refine cQ_ m.version m.nodes m.edges q m.shards.length c m.blocks (str m.root) S0 K w λb hb w0 hF0=>?_
 refine ⟨λx i k w'=>∃j:Nat,i=j∧j≤m.shards.length∧k=m.shards.length - j∧x=((m.shards.map (·.2)).take j).sum,⟨_,0,rfl,by omega,rfl,by simp⟩,?_⟩
 rintro x i D k w1 ⟨j,rfl,hj,rfl,rfl⟩ hF
 refine ⟨λhlt=>?_,λhge=>?_⟩
 ·have hj':j<m.shards.length:=by omega
  have b1:=hbd j hj
  have b2:=hbd (j+1) (by omega)
  have hn:=eX_ (l:=m.shards.map (·.2)) (k:=j) (by simpa using hj')
  rw [List.getElem_map] at hn
  refine (hs.grow hF.gr).rd2 rfl hj' hj' λa ha1 ha2=>⟨_,ha1,_,ha2,λb3 hb3 w2 hF2=>⟨_,?_,j+1,wr1 (by omega),by omega,rfl,?_⟩⟩
  ·omega
  ·rw [w64 (by omega) (by omega),hn]
 ·have e:j=m.shards.length:=by omega
  subst e
  have b1:=hbd _ (Nat.le_refl m.shards.length)
  have e2:((m.shards.map (·.2)).take m.shards.length).sum=m.total:=by rw [List.take_of_length_le (by simp)];rfl
  rw [e2] at b1 ⊢
  exact hK w1 hF.gr b1.1 (by omega)
theorem pL_ {m:Man} (h:m.ok) {q:Option Addr} {c:Nat} {w:World} (hs:Sl w q (encE m.shards)) {K:Value→World→Prop} (hK:∀w',Grow w w'→K (.int .i64 (-1)) w'):aa_ PR F.cO_ ⟨[mval m q c]⟩ w K:=by
 refine cO_ m.version m.nodes m.edges q m.shards.length c m.blocks (str m.root) S0 K w λb hb w0 hF0=>?_
 refine p5_ h λw1 g1=>⟨_,rfl,hF0.after g1,λh=>by omega,λ_=>?_⟩
 have hF1:=hF0.after g1
 refine nE_ h (hs.grow hF1.chg) λw2 g2=>⟨_,rfl,hF1.after g2,λh=>by omega,λ_ w3 hF3=>?_⟩
 refine m9_ h (hs.grow hF3.chg) λw4 g4 ht0 ht1=>⟨_,rfl,hF3.after g4,?_⟩
 have hF4:=hF3.after g4
 obtain ⟨t,ht⟩:=Int.eq_ofNat_of_zero_le ht0
 rw [ht]
 refine f6_ (by omega) ⟨_,rfl,hF4,?_⟩
 have hb1:=h.blocks
 rw [ht,iG_] at hb1
 refine ⟨λ_=>⟨λh=>by omega,λ_=>⟨λ_=>hK w4 hF4.chg,λh'=>absurd (by rw [ai_,h.root];rfl) h'⟩⟩,λh'=>absurd hb1.1 h'⟩
theorem pe_ {m:Man} (h:m.ok) {q:Option Addr} {c:Nat} {w:World} (hs:Sl w q (encE m.shards)) {K:Value→World→Prop} (hK:∀w',Grow w w'→K .nilIface w'):aa_ PR F.cR_ ⟨[mval m q c]⟩ w K:=by
 refine cR_ m.version m.nodes m.edges q m.shards.length c m.blocks (str m.root) S0 K w λb hb w0 hF0=>?_
 refine pL_ h (hs.grow hF0.chg) λw1 g1=>⟨_,rfl,hF0.after g1,λh=>by omega,λ_=>hK w1 (hF0.after g1).chg⟩
theorem g2_ {l:List Int} {k:Nat} (h:k<l.length):bX_ (l.take (k+1))=bX_ (l.take k)++af_ l[k].toNat:=by
 unfold bX_;rw [aA_ h,List.flatMap_append];simp
theorem b__ {l:List Int} (h:∀n∈l,0≤n∧n≤72057594037927935):(bX_ l).length≤8*l.length:=by
 induction l with
 | nil=>simp [bX_]
 | cons x l ih=>
  have i:=ih λn hn=>h n (List.mem_cons_of_mem _ hn)
  have:=am_ (n:=x.toNat) (by have:=h x List.mem_cons_self;omega)
  simp only [bX_,List.flatMap_cons,List.length_append,List.length_cons] at i ⊢;omega
theorem rn_ {m:Man} (h:m.ok) {q:Option Addr} {c:Nat} {w:World} (hs:Sl w q (encE m.shards)) {K:Value→World→Prop} (hK:∀w',Grow w w'→K (.tuple #[.string (str (iq_ m)),.nilIface]) w'):aa_ PR F.dK_ ⟨[mval m q c]⟩ w K:=by
 have hsl:=h.shards.1
 have hnums:=h.nums
 have hroot:=h.root
 have hnl:m.nums.length=5+2*m.shards.length:=by simp [Man.nums,fz_];omega
 have hsh:=b__ hnums
 refine dK_ m.version m.nodes m.edges q m.shards.length c m.blocks (str m.root) S0 K w λb hb w0 hF0=>?_
 refine pe_ h (hs.grow hF0.chg) λw1 g1=>⟨_,rfl,hF0.after g1,λ_=>?_,(λt x h=>by cases h),.inl rfl⟩
 intro b1 hb1 w2 hF2
 have hbl:b<w2.heap.size:=hF2.lt _ List.mem_cons_self
 let pre (k:Nat):List Int:=[m.version,m.nodes,m.edges,(m.shards.length:Int)]++ir_ (m.shards.take k)
 have hprel:∀k,k≤m.shards.length→(pre k).length=4+2*k:=λk hk=>by simp [pre,fz_,Nat.min_eq_left hk];omega
 refine ⟨λq1 l1 c1 i k w'=>∃j:Nat,i=j∧j≤m.shards.length∧k=m.shards.length - j∧Own T.int 1 w' q1 c1 ((pre j).map iv)∧4+2*j=l1∧l1≤c1∧Off (λx=>x<w1.heap.size) q1∧w1.heap.size≤w'.heap.size,⟨_,0,rfl,by omega,rfl,?_,rfl,Nat.le_refl _,?_,hF2.grow.size⟩,?_⟩
 ·have:pre 0=[m.version,m.nodes,m.edges,(m.shards.length:Int)]:=by simp [pre,ir_]
  rw [this]
  exact hF2.own 1 rfl rfl (by omega)
 ·intro a ha hlt;cases ha;simp only [] at hlt;omega
 rintro q1 l1 c1 i D k w3 ⟨j,rfl,hj,rfl,ho,rfl,hlc,hof,hsz⟩ hF3
 have hF0b:b<w1.heap.size:=by have:=hF0.lt _ List.mem_cons_self;have:=g1.size;simp only [] at *;omega
 refine ⟨λhlt=>?_,λhge=>?_⟩
 ·have hj':j<m.shards.length:=by omega
  refine (hs.grow hF3.gr).rd2 rfl hj' hj' λa ha1 ha2=>⟨_,ha1,_,ha2,λb6 hb6 b7 hb7 w4 hF4=>?_⟩
  have g34:Chg (· = b6) w3 w4:=hF4.stp.mono λx _ hx=>by simpa using hx
  have ho4:Own T.int 1 w4 q1 c1 ((pre j).map iv):=ho.keep g34 λa ha e=>by have:=ho.lt a ha;have e':a.block=b6:=e;omega
  refine fi_ ho4 (by rw [hprel j hj]) hlc (ys:=[m.shards[j].1,m.shards[j].2]) (hF4.sl 2 rfl) rfl (by omega) λq2 c2 w5 ho5 hc5 g5 hq5=>?_
  have hF5:=hF4.app2 g5 w1.heap.size w3.heap.size hof (λa ha=>ho.lt a ha) (λy hy=>by
   rcases List.mem_cons.1 hy with rfl | hy
   ·exact .inl hF0b
   rcases List.mem_cons.1 hy with rfl | hy
   ·exact .inr hb6
   ·simp at hy;subst hy;exact .inr hb7) (by have:=hF0.chg.size;have:=g1.size;omega)
  refine ⟨_,_,_,rfl,hF5,m.shards.length - (j+1),by omega,j+1,wr1 (by omega),by omega,rfl,?_,by omega,hc5,hof.next hq5 (by have:=g34.size;omega),by have:=g34.size;have:=g5.size;omega⟩
  have:pre (j+1)=pre j++[m.shards[j].1,m.shards[j].2]:=by
   simp only [pre,ir_,aA_ hj',List.flatMap_append,List.append_assoc];simp
  rw [this];exact ho5
 ·have e:j=m.shards.length:=by omega
  subst e
  have hpe:pre m.shards.length++[m.blocks]=m.nums:=by simp [pre,Man.nums]
  intro b11 hb11 w6 hF6
  have g36:Grow w3 w6:=hF6.grow
  refine fi_ (ho.grow g36) (by rw [hprel _ (Nat.le_refl _)]) hlc (ys:=[m.blocks]) (hF6.sl 1 rfl) rfl (by omega) λq2 c2 w7 ho7 hc7 g7 hq7=>?_
  rw [hpe] at ho7
  have hF7:=hF6.app2 g7 w1.heap.size w3.heap.size hof (λa ha=>ho.lt a ha) (λy hy=>by
   rcases List.mem_cons.1 hy with rfl | hy
   ·exact .inl hF0b
   ·simp at hy;subst hy;exact .inr hb11) (by have:=hF0.chg.size;have:=g1.size;omega)
  have hl2:4+2*m.shards.length+1=m.nums.length:=by omega
  rw [hl2]
  refine ⟨_,_,_,rfl,hF7,λs i k w'=>∃j:Nat,i=j∧j≤m.nums.length∧k=m.nums.length - j∧s=str (bX_ (m.nums.take j))∧Sl w' q2 (m.nums.map iv),⟨_,0,rfl,by omega,rfl,by simp [bX_,str],ho7.sl⟩,?_⟩
  rintro s i D k w8 ⟨j,rfl,hj,rfl,rfl,hs8⟩ hF8
  have hsj:=b__ (l:=m.nums.take j) λn hn=>hnums n (List.mem_of_mem_take hn)
  rw [List.length_take] at hsj
  refine ⟨λhlt=>?_,λhge=>?_⟩
  ·have hj':j<m.nums.length:=by omega
   have hn:=hnums _ (List.getElem_mem hj')
   refine hs8.rd (v:=iv (m.nums.getD j 0)) (by simp) (by omega) (gs_ hj') λa ha=>⟨_,ha,?_⟩
   rw [ju_ hj']
   have h8:=am_ (n:=m.nums[j].toNat) (by omega)
   refine bz_ hn λw9 g9=>⟨_,_,rfl,hF8.after g9,?_,m.nums.length - (j+1),by omega,j+1,wr1 (by omega),by omega,rfl,?_,hs8.grow g9⟩
   ·rw [ai_,ai_];omega
   ·rw [aC_,g2_ hj']
  ·have e:j=m.nums.length:=by omega
   subst e
   rw [List.take_length]
   intro b17 hb17 w10 hF10
   refine cC_ (xs:=[m.root]) (hF10.sl 1 rfl) rfl (by simp) (by have:=am_ (n:=m.root.length) (by omega);simp [aG_];omega) λw11 g11=>⟨_,rfl,hF10.after g11,?_,?_⟩
   ·have:=am_ (n:=m.root.length) (by omega)
    rw [ai_,ai_];simp [aG_];omega
   ·rw [aC_]
    have:bX_ m.nums++aG_ [m.root]=iq_ m:=by simp [iq_,aG_]
    rw [this]
    exact hK w11 (hF10.after g11).chg
end Go.Vc
namespace Go.Vc
open Go
theorem mw_ {q:Option Addr} {n c:Nat} {xs:List (List UInt8)} {w:World} (hs:Sl w q (xs.map sv8')) (hl:n=xs.length) (hn:n≤100000) (hx:∀x∈xs,x.length≤1000000) {K:Value→World→Prop}
  (hK:∀w' b q' c' m R,Grow w w'→c5_ w' b q' c' m (xs.map ay_) R→(xs≠[]→R (.agg #[.int .i64 0,.int .i64 xs.length]) (.string (str (aZ_ a1_ (xs.map ay_) xs.length 0 xs.length))))→(xs≠[]→cv_ R 0 xs.length)→w.heap.size≤b→w.heap.size≤m→Off (λj=>j<w.heap.size) q'→K (.pointer (some ⟨b,0,none⟩)) w') :
  aa_ PR F.mR_ ⟨[.slice q n c]⟩ w K:=by
 subst hl
 have hlv:∀y∈xs.map ay_,y.length=32:=λy hy=>by obtain ⟨x,_,rfl⟩:=List.mem_map.1 hy;exact gf_ _
 refine lv_ q xs.length c S0 K w (ol_ (k:=T.al_) λw0 m hm hm0 g0=>⟨_,rfl,(Fr.init _ w).after g0,λb hb w1 hF1=>?_⟩)
 have hbl:b<w1.heap.size:=hF1.lt _ List.mem_cons_self
 have hm1:=hm0.grow hF1.grow
 have hml:m<w0.heap.size:=hm0.lt
 refine ⟨λi q1 l1 c1 mm k w'=>∃j:Nat,i=j∧j≤xs.length∧k=xs.length - j∧Own T.string 1 w' q1 c1 (((xs.take j).map ay_).map sv8')∧j=l1∧l1≤c1∧Off (λx=>x<w1.heap.size) q1∧mm=some m∧MapP w' T.al_ m 0 (λ_ _=>False)∧w1.heap.size≤w'.heap.size,⟨_,0,rfl,by omega,rfl,.nil _ _ _,rfl,Nat.le_refl _,.none _,rfl,hm1,Nat.le_refl _⟩,?_⟩
 rintro i q1 l1 c1 mm D k w2 ⟨j,rfl,hj,rfl,ho,rfl,hlc,hof,rfl,hmp,hsz⟩ hF2
 refine ⟨λhlt=>?_,λhge=>?_⟩
 ·have hj':j<xs.length:=by omega
  refine (hs.grow hF2.gr).rd (v:=sv8' xs[j]) (by simp) (by omega) (by simp [hj']) λa ha=>⟨_,ha,λw3 hF3=>?_⟩
  have g3:Grow w2 w3:=hF3.grow
  refine ⟨λx=>x.cell? ⟨b,0,none⟩=some (.slice q1 j c1),hF3.ld 0 0 rfl rfl rfl,ad_.2 ⟨_,_,_,λw4 h=>h,?_⟩⟩
  refine hZ_ (hx _ (List.getElem_mem hj')) λw5 g5=>⟨_,rfl,hF3.after g5,(hF3.after g5).ld 0 0 rfl rfl rfl,λb7 hb7 w6 hF6=>⟨hF6.ld 0 0 rfl rfl rfl,?_⟩⟩
  have g6:Grow w5 w6:=hF6.grow
  have s3:=g3.size
  have s5:=g5.size
  have s6:=g6.size
  refine jO_ (((ho.grow g3).grow g5).grow g6) (by simp;omega) hlc (ys:=[ay_ xs[j]]) (hF6.sl 1 rfl) rfl (by omega) λq2 c2 w7 ho7 hc7 g7 hq7=>?_
  have hF7:=hF6.app2 g7 w1.heap.size w2.heap.size hof (λa ha=>ho.lt a ha) (λy hy=>by
   rcases List.mem_cons.1 hy with rfl | hy
   ·exact .inl hbl
   ·simp at hy;subst hy;exact .inr (by simp only [];omega)) hF1.chg.size
  refine ⟨_,_,_,rfl,hF7,hF7.ld 0 0 rfl rfl rfl,λw8 hF8=>?_⟩
  have g8:Chg (· = b) w7 w8:=hF8.stp.mono λx _ hx=>by simpa using hx
  have hof':Off (λx=>x<w1.heap.size) q2:=hof.next hq7 (by omega)
  refine ⟨xs.length - (j+1),by omega,j+1,wr1 (by omega),by omega,rfl,?_,rfl,hc7,hof',rfl,?_,by have:=g7.size;have:=g8.size;omega⟩
  ·rw [aA_ hj',List.map_append]
   exact ho7.keep g8 λa ha e=>by have:=hof'.le a ha;have e':a.block=b:=e;omega
  ·exact ((((hmp.grow g3).grow g5).grow g6).keep g7 (λ⟨a,ha,e⟩=>by have:=hof.le a ha;have:=hF1.grow.size;omega)).keep g8 (λe=>by omega)
 ·have e:j=xs.length:=by omega
  subst e
  rw [List.take_length] at ho
  have hlen:(xs.map ay_).length=xs.length:=List.length_map _
  have hT:c5_ w2 b q1 c1 m (xs.map ay_) (λ_ _=>False):=⟨by rw [hlen];exact hF2.blk 0 rfl,ho.sl,⟨0,hmp⟩,λkey v h=>h.elim⟩
  have hmb:m≠b:=by omega
  have hqo:Off (λj=>j<w.heap.size) q1:=hof.mono hF1.chg.size
  refine ⟨λh0=>?_,λh0=>?_⟩
  ·have h0':1≤xs.length:=by omega
   refine oD_ hlv (by rw [hlen];exact hn) xs.length 0 h0' (by rw [hlen];omega) hT λw9 R9 hT9 hR9 hin9 ha9 g9=>?_
   have hF9:Fs S0 w [⟨b,#[.slice q1 xs.length c1,.map (some m)],T.cm_,true⟩] w9:=hF2.step g9 (λx hx=>by simp at hx;subst hx;exact hmb.symm) λj hj e=>by have e':j=m:=e;omega
   exact ⟨_,rfl,_,_,_,_,hF9,hK w9 b q1 c1 m R9 hF9.chg hT9 (λ_=>hin9) (λ_=>ha9) (by have:=g0.size;omega) (by omega) hqo⟩
  ·have hxs:xs=[]:=List.eq_nil_of_length_eq_zero (by omega)
   exact hK w2 b q1 c1 m _ hF2.gr hT (λh=>absurd hxs h) (λh=>absurd hxs h) (by have:=g0.size;omega) (by omega) hqo
theorem l0_:∀w:World,(zeroValue T.string).run PR w=.ok (.string ⟨#[]⟩) w:=λw=>by
 obtain ⟨i,hi,_,_,hz⟩:=nG_
 simp [zeroValue,typeInfo,hi,hz]
theorem jR_ {xs:List (List UInt8)} (hn:xs.length≤100000) {w:World} {b:Nat} {q:Option Addr} {c m:Nat} {R:Value→Value→Prop} (hT:c5_ w b q c m (xs.map ay_) R)
  (hR:xs≠[]→R (.agg #[.int .i64 0,.int .i64 xs.length]) (.string (str (aZ_ a1_ (xs.map ay_) xs.length 0 xs.length)))) {K:Value→World→Prop} (hK:∀w',Grow w w'→K (.string (str (e1_ Hs xs))) w') :
  aa_ PR F.e4_ ⟨[.pointer (some ⟨b,0,none⟩)]⟩ w K:=by
 obtain ⟨h1,h2,⟨n,h3⟩,h4⟩:=hT
 rw [List.length_map] at h1
 refine gr_ b q xs.length c (some m) (· = b) K w ((Fr.init _ w).entry h1 (λx h=>by cases h) λ_=>rfl) ⟨rfl,trivial⟩ ⟨λh0 b0 hb0 w0 hF0=>?_,λh0 w2 hF2=>?_⟩
 ·have hxs:xs=[]:=List.eq_nil_of_length_eq_zero (by omega)
  refine eT_ (xs:=[[2]]) (hF0.sl 1 rfl) rfl (by omega) (by simp) λw1 g1=>⟨_,rfl,hF0.after g1,?_⟩
  have e:e1_ Hs xs=Hs ([[2]]:List (List UInt8)).flatten:=by unfold e1_;rw [if_pos hxs];rfl
  rw [← e];exact hK w1 (hF0.grow.trans g1)
 ·have hxs:xs≠[]:=λe=>h0 (by rw [e];rfl)
  have g2:Grow w w2:=hF2.grow
  obtain ⟨kl,hkl⟩:=jq_ (a:=0) (k:=xs.length) ⟨by omega,by omega⟩ ⟨by omega,by omega⟩
  have e:e1_ Hs xs=aZ_ a1_ (xs.map ay_) xs.length 0 xs.length:=by unfold e1_;rw [if_neg hxs];rfl
  refine hr_ or_ qM_ (h3.grow g2) hkl false l0_ (λv hv=>?_) λhno=>absurd (hR hxs) (hno _)
  have:=h3.inj hv (hR hxs)
  subst this
  refine ⟨_,rfl,hF2.reset,?_⟩
  rw [← e];exact hK w2 g2
theorem pb_ {q:Option Addr} {n c:Nat} {xs:List (List UInt8)} {w:World} (hs:Sl w q (xs.map sv8')) (hl:n=xs.length) (hn:n≤100000) (hx:∀x∈xs,x.length≤1000000) {K:Value→World→Prop}
  (hK:∀w',Grow w w'→K (.string (str (e1_ Hs xs))) w'):aa_ PR F.lu_ ⟨[.slice q n c]⟩ w K:=by
 refine kr_ q n c S0 K w ?_
 refine mw_ hs hl hn hx λw1 b q1 c1 m R g1 hT hR _ hb hm hq=>⟨_,rfl,(Fr.init _ w).after g1,?_⟩
 refine jR_ (by omega) hT hR λw2 g2=>⟨_,rfl,(Fr.init _ w).after (g1.trans g2),hK w2 (g1.trans g2)⟩
end Go.Vc
namespace Go.Vc
open Go
theorem oB_ {nodes v:Int} {l:List Int} (hn:nodes≤4096) (hv:0≤v) (hv':v<nodes) (h:ez_ nodes l):(gapL v l).length≤8+8*l.length:=by
 have h1:=e8_ h
 have h2:=eQ_ (gapP v l) 8 l.length λi hi=>gI_ hn hv hv' h hi
 have h3:=am_ (n:=l.length) (by omega)
 simp only [gapL,List.length_append];omega
theorem n2_ {nodes:Nat} {B Tg:List Int} (hL:CsrL nodes B Tg) {v:Nat} (hv:v<nodes):((rowOf B Tg v).length:Int)=B.getD (v+1) 0 - B.getD v 0:=by
 have n1:=hL.nn v (by omega)
 have n2:=hL.nn (v+1) (by omega)
 have n3:=hL.mono v hv
 unfold rowOf;rw [List.length_take,List.length_drop];omega
theorem kd_ {nodes first:Nat} {B Tg:List Int} (hL:CsrL nodes B Tg) (hn:nodes≤4096):∀k,first+k≤nodes→((aN_ first (λj=>rowOf B Tg (first+j)) k).length:Int)≤8*k+8*(B.getD (first+k) 0 - B.getD first 0)
 | 0,_=>by simp [aN_,cat]
 | k+1,h=>by
  have ih:=kd_ hL hn (first:=first) k (by omega)
  have e:aN_ first (λj=>rowOf B Tg (first+j)) (k+1)=aN_ first (λj=>rowOf B Tg (first+j)) k++gapL ((first:Int)+k) (rowOf B Tg (first+k)):=rfl
  have hg:=oB_ (nodes:=nodes) (v:=(first:Int)+k) (by omega) (by omega) (by omega) (hL.row (first+k) (by omega))
  have hr:=n2_ hL (v:=first+k) (by omega)
  rw [e,List.length_append]
  rw [show first+(k+1)=first+k+1 by omega]
  omega
theorem ja_ {nodes each i:Nat} {B Tg:List Int} (hL:CsrL nodes B Tg) (hn:nodes≤4096) (he:1≤each) (hi:i*each<nodes) :
  ((ea_ B Tg each nodes i).length:Int)≤23+9*(aJ_ each nodes i:Nat)+8*(B.getD (i*each+aJ_ each nodes i) 0 - B.getD (i*each) 0)∧4≤(ea_ B Tg each nodes i).length:=by
 have hmo:i*each+aJ_ each nodes i≤nodes:=by unfold aJ_;omega
 have hm1:1≤aJ_ each nodes i:=by unfold aJ_;omega
 have a1:=am_ (n:=i*each) (by omega)
 have a2:=am_ (n:=aJ_ each nodes i) (by omega)
 have b1:=bl_ (i*each)
 have b2:=bl_ (aJ_ each nodes i)
 have hR:∀j,j<aJ_ each nodes i→ez_ (nodes:Int) ((λj=>rowOf B Tg (i*each+j)) j):=λj hj=>hL.row _ (by omega)
 have a3:=eQ_ (λj=>af_ (aN_ (i*each:Nat) (λj=>rowOf B Tg (i*each+j)) (j*8)).length) 8 (aw_ (aJ_ each nodes i)) λj hj=>am_ (by
  have:=cV_ (nodes:=nodes) (first:=(i*each:Nat)) (many:=aJ_ each nodes i) (k:=j*8) (by omega) (by omega) (by omega) hR (by unfold aw_ at hj;omega);omega)
 have a4:=kd_ hL hn (first:=i*each) (aJ_ each nodes i) hmo
 have b3:1≤(bD_ (i*each:Nat) (λj=>rowOf B Tg (i*each+j)) (aw_ (aJ_ each nodes i))).length:=by
  have hm:0<aw_ (aJ_ each nodes i):=by unfold aw_;omega
  obtain ⟨r,hr⟩:=c4_ (λj=>af_ (aN_ (i*each:Nat) (λj=>rowOf B Tg (i*each+j)) (j*8)).length) hm
  have:=bl_ (aN_ (i*each:Nat) (λj=>rowOf B Tg (i*each+j)) (0*8)).length
  unfold bD_;rw [hr];simp only [List.length_append];omega
 have b4:1≤(aN_ (i*each:Nat) (λj=>rowOf B Tg (i*each+j)) (aJ_ each nodes i)).length:=by
  obtain ⟨r,hr⟩:=c4_ (λj=>gapL (((i*each:Nat):Int)+j) (rowOf B Tg (i*each+j))) hm1
  have:=p8_ (((i*each:Nat):Int)+(0:Nat)) (rowOf B Tg (i*each+0))
  unfold aN_;rw [hr];simp only [List.length_append];omega
 have hmk:8*aw_ (aJ_ each nodes i)≤aJ_ each nodes i+7:=by unfold aw_;omega
 unfold bD_ at b3
 simp only [ea_,f7_,List.length_append,Int.toNat_natCast,bD_]
 refine ⟨?_,?_⟩ <;> omega
theorem kl_ {nodes each:Nat} {B Tg:List Int} (hL:CsrL nodes B Tg) (hn:nodes≤4096) (he:1≤each):∀k,(∀i,i<k→i*each<nodes)→((a7_ B Tg each nodes k).flatten.length:Int)≤23*k+9*(min (k*each) nodes:Nat)+8*B.getD (min (k*each) nodes) 0 - 8*B.getD 0 0
 | 0,_=>by simp [a7_]
 | k+1,h=>by
  have ih:=kl_ hL hn he k λi hi=>h i (by omega)
  have hk:=h k (by omega)
  have hp:=(ja_ hL hn he hk).1
  have hm:min (k*each) nodes=k*each:=by omega
  have hm2:min ((k+1)*each) nodes=k*each+aJ_ each nodes k:=by rw [Nat.succ_mul];unfold aJ_;omega
  rw [et_,List.flatten_append,List.length_append,hm2]
  rw [hm] at ih
  simp only [List.flatten_cons,List.flatten_nil,List.append_nil]
  omega
theorem hd_ {nodes each k:Nat} {B Tg:List Int} (hL:CsrL nodes B Tg) (hn:nodes≤4096) (he:1≤each) (hcov:∀i,i<k→i*each<nodes):(a7_ B Tg each nodes k).flatten.length≤23*k+9*nodes+8*Tg.length:=by
 have h:=kl_ hL hn he k hcov
 have n1:=hL.nn (min (k*each) nodes) (by omega)
 have n2:=hL.nn 0 (by omega)
 omega
theorem qW_ {nodes each k i:Nat} {B Tg:List Int} (hL:CsrL nodes B Tg) (hn:nodes≤4096) (he:1≤each) (hi:i*each<nodes):(ea_ B Tg each nodes i).length≤23+9*nodes+8*Tg.length:=by
 have h:=(ja_ hL hn he hi).1
 have hmo:i*each+aJ_ each nodes i≤nodes:=by unfold aJ_;omega
 have n1:=hL.nn (i*each+aJ_ each nodes i) hmo
 have n2:=hL.nn (i*each) (by omega)
 omega
theorem j4_ (B Tg:List Int) (each nodes:Nat):∀k,((cU_ B Tg each nodes k).map (·.2)).sum=((a7_ B Tg each nodes k).flatten.length:Int)
 | 0=>by simp [cU_,a7_]
 | k+1=>by
  rw [gW_,et_,List.map_append,List.sum_append,j4_ B Tg each nodes k,List.flatten_append,List.length_append]
  simp
theorem l5_ {nodes each:Nat} {B Tg:List Int} (hL:CsrL nodes B Tg) (hn:nodes≤4096) (he:1≤each) (hT:Tg.length≤100000):∀(n k:Nat),(∀i,i<k+n→i*each<nodes)→
  gg_ nodes (if k=0 then none else some (((k - 1)*each:Nat):Int)) ((List.range n).map λi=>((((k+i)*each:Nat):Int),((ea_ B Tg each nodes (k+i)).length:Int)))
 | 0,k,_=>by simp [gg_]
 | n+1,k,h=>by
  have hk:=h k (by omega)
  have hb:=qW_ (k:=k) hL hn he hk
  have hb2:=(ja_ hL hn he hk).2
  have ih:=l5_ hL hn he hT n (k+1) λi hi=>h i (by omega)
  rw [if_neg (by omega),Nat.add_sub_cancel] at ih
  have e:(List.range (n+1)).map (λi=>((((k+i)*each:Nat):Int),((ea_ B Tg each nodes (k+i)).length:Int)))=(((k*each:Nat):Int),((ea_ B Tg each nodes k).length:Int)) :: (List.range n).map (λi=>((((k+1+i)*each:Nat):Int),((ea_ B Tg each nodes (k+1+i)).length:Int))):=by
   rw [List.range_succ_eq_map,List.map_cons,List.map_map]
   simp only [Nat.add_zero,List.cons.injEq,true_and]
   apply List.map_congr_left
   intro i _
   simp only [Function.comp,show k+i.succ=k+1+i by omega]
  rw [e]
  by_cases h0:k=0
  ·subst h0
   rw [if_pos rfl]
   exact ⟨by simp,by omega,by omega,ih⟩
  ·rw [if_neg h0]
   have hm:k*each=(k - 1)*each+each:=by
    obtain ⟨j,rfl⟩:∃j,k=j+1:=⟨k - 1,by omega⟩
    rw [Nat.add_sub_cancel,Nat.succ_mul]
   exact ⟨by omega,by omega,by omega,by omega,ih⟩
end Go.Vc
namespace Go.Vc
open Go
def verC (m:Man) (q:Option Addr) (c:Nat) (list:List (List UInt8)) (ql:Option Addr) (cl:Nat):Array Value:=
 #[.int .i64 m.version,.int .i64 m.nodes,.int .i64 m.edges,.slice q m.shards.length c,.int .i64 m.blocks,.string (str m.root),.slice ql list.length cl]
structure VerL (m:Man) (list:List (List UInt8)):Prop where
 ok:m.ok
 blocks:m.blocks=list.length
 root:m.root=e1_ Hs list
 small:∀x∈list,x.length≤64
 cut:cutL list.flatten=list
def qo_ (w:World) (b:Nat) (m:Man) (list:List (List UInt8)):Prop:=
 ∃q c ql cl,w.heap[b]? = some (.cells (verC m q c list ql cl) T.a4_ (0,0))∧Sl w q (encE m.shards)∧Sl w ql (list.map sv8')∧list.length≤cl
theorem qo_.grow {w w':World} {b:Nat} {m:Man} {list:List (List UInt8)} (h:qo_ w b m list) (g:Grow w w'):qo_ w' b m list:=by
 obtain ⟨q,c,ql,cl,h1,h2,h3,h4⟩:=h
 exact ⟨q,c,ql,cl,Grow.get g h1,h2.grow g,h3.grow g,h4⟩
def SlO (D:Nat→Prop) (w:World) (q:Option Addr) (xs:List Value):Prop:=xs=[]∨∃b o,q=some ⟨b,o,none⟩∧id_ w b o xs∧¬D b
theorem SlO.sl {D:Nat→Prop} {w:World} {q:Option Addr} {xs:List Value} (h:SlO D w q xs):Sl w q xs:=h.elim .inl λ⟨b,o,h1,h2,_⟩=>.inr ⟨b,o,h1,h2⟩
theorem Sl.out {D:Nat→Prop} {w:World} {q:Option Addr} {xs:List Value} (h:Sl w q xs) (hD:Off D q):SlO D w q xs:=h.elim .inl λ⟨b,o,h1,h2⟩=>.inr ⟨b,o,h1,h2,hD _ h1⟩
theorem SlO.keep {D D' S:Nat→Prop} {w w':World} {q:Option Addr} {xs:List Value} (h:SlO D w q xs) (g:Chg S w w') (hS:∀k,k<w.heap.size→S k→D k) (hD:∀k,k<w.heap.size→D' k→D k):SlO D' w' q xs:=by
 rcases h with h | ⟨b,o,h1,h2,h3⟩
 ·exact .inl h
 ·exact .inr ⟨b,o,h1,h2.keep g (λe=>h3 (hS b h2.lt e)),λe=>h3 (hD b h2.lt e)⟩
def VerO (D:Nat→Prop) (w:World) (b:Nat) (m:Man) (list:List (List UInt8)):Prop:=
 ∃q c ql cl,w.heap[b]? = some (.cells (verC m q c list ql cl) T.a4_ (0,0))∧¬D b∧SlO D w q (encE m.shards)∧SlO D w ql (list.map sv8')∧list.length≤cl
theorem VerO.at {D:Nat→Prop} {w:World} {b:Nat} {m:Man} {list:List (List UInt8)} (h:VerO D w b m list):qo_ w b m list:=by
 obtain ⟨q,c,ql,cl,h1,_,h2,h3,h4⟩:=h
 exact ⟨q,c,ql,cl,h1,h2.sl,h3.sl,h4⟩
theorem VerO.keep {D D' S:Nat→Prop} {w w':World} {b:Nat} {m:Man} {list:List (List UInt8)} (h:VerO D w b m list) (g:Chg S w w') (hS:∀k,k<w.heap.size→S k→D k) (hD:∀k,k<w.heap.size→D' k→D k):VerO D' w' b m list:=by
 obtain ⟨q,c,ql,cl,h1,h0,h2,h3,h4⟩:=h
 have hl:=aj_ h1
 exact ⟨q,c,ql,cl,g.get h1 (λe=>h0 (hS b hl e)),λe=>h0 (hD b hl e),h2.keep g hS hD,h3.keep g hS hD,h4⟩
theorem iF_ (l:List UInt8):∀x∈cutL l,x.length≤64:=by
 intro x hx
 obtain ⟨i,_,rfl⟩:=List.mem_map.1 hx
 rw [List.length_take];omega
def roomy (nodes:Int) (each:Nat) (l:List (Int × Int)):Prop:=eL_ nodes l∧nodes≤64*each∧1472+9*nodes+8*l.length≤131072
noncomputable def lw_ (version:Int) (nn:Nat) (N:List (Int × Int)) (each k:Nat):Man × List (List UInt8):=
 (⟨version,nn,N.length,cU_ (begL nn N) (N.map (·.2)) each nn k,(cutL (a7_ (begL nn N) (N.map (·.2)) each nn k).flatten).length,e1_ Hs (cutL (a7_ (begL nn N) (N.map (·.2)) each nn k).flatten)⟩,cutL (a7_ (begL nn N) (N.map (·.2)) each nn k).flatten)
def ig_ (version nodes:Int) (each:Nat) (l:List (Int × Int)) (m:Man) (list:List (List UInt8)):Prop:=
 ∃(nn:Nat) (N:List (Int × Int)) (k:Nat),nodes=nn∧kT_ nodes l N∧nn≤k*each∧(∀i,i<k→i*each<nn)∧(m,list)=lw_ version nn N each k
theorem em_:∀ {N N':List (Int × Int)},N.Pairwise ltE→N'.Pairwise ltE→(∀x,x∈N↔x∈N')→N=N'
 | [],[],_,_,_=>rfl
 | [],b :: N',_,_,h=>absurd ((h b).2 List.mem_cons_self) (by simp)
 | a :: N,[],_,_,h=>absurd ((h a).1 List.mem_cons_self) (by simp)
 | a :: N,b :: N',h1,h2,h=>by
  rw [List.pairwise_cons] at h1 h2
  have e:a=b:=by
   rcases List.mem_cons.1 ((h a).1 List.mem_cons_self) with e | e
   ·exact e
   ·rcases List.mem_cons.1 ((h b).2 List.mem_cons_self) with e' | e'
    ·exact e'.symm
    ·have x1:=h1.1 b e'
     have x2:=h2.1 a e
     unfold ltE at x1 x2
     omega
  subst e
  congr 1
  refine em_ h1.2 h2.2 λx=>⟨λhx=>?_,λhx=>?_⟩
  ·rcases List.mem_cons.1 ((h x).1 (List.mem_cons_of_mem _ hx)) with e | e
   ·subst e;have:=h1.1 x hx;unfold ltE at this;omega
   ·exact e
  ·rcases List.mem_cons.1 ((h x).2 (List.mem_cons_of_mem _ hx)) with e | e
   ·subst e;have:=h2.1 x hx;unfold ltE at this;omega
   ·exact e
theorem ig_.uniq {version nodes:Int} {each:Nat} (he:1≤each) {l:List (Int × Int)} {m m':Man} {list list':List (List UInt8)} (h:ig_ version nodes each l m list) (h':ig_ version nodes each l m' list'):m=m'∧list=list':=by
 obtain ⟨nn,N,k,e1,hN,hk1,hk2,e2⟩:=h
 obtain ⟨nn',N',k',e1',hN',hk1',hk2',e2'⟩:=h'
 have:nn=nn':=by omega
 subst this
 have:=em_ hN.lt hN'.lt λx=>(hN.mem x).trans (hN'.mem x).symm
 subst this
 have ek:k=k':=by
  rcases Nat.lt_trichotomy k k' with h | h | h
  ·have:=hk2' k h;omega
  ·exact h
  ·have:=hk2 k' h;omega
 subst ek
 rw [← e2'] at e2
 exact ⟨(Prod.mk.inj e2).1,(Prod.mk.inj e2).2⟩
def sg_ (nodes:Int) (each:Nat) (l:List (Int × Int)) (c:Int):Prop:=
 (c=10∧¬eL_ nodes l)∨(c=6∧eL_ nodes l∧64*(each:Int)<nodes)∨(c=7∧eL_ nodes l∧nodes≤64*(each:Int)∧∀version m list,ig_ version nodes each l m list→2048<list.length)
theorem pd_ {version nodes:Int} {each:Nat} (he:1≤each) (he2:each≤4096) {l:List (Int × Int)} {q:Option Addr} {n c:Nat} {w:World} (hs:Sl w q (encE l)) (hl:n=l.length) (hn:n≤100000) {K:Value→World→Prop}
  (h1:∀w' b m list,Grow w w'→w.heap.size≤b→VerO (λj=>j<w.heap.size) w' b m list→VerL m list→m.version=version→(list.flatten.length:Int)≤1472+9*nodes+8*l.length→eL_ nodes l→nodes≤64*(each:Int)→ig_ version nodes each l m list→list.length≤2048→K (.tuple #[.pointer (some ⟨b,0,none⟩),.nilIface]) w')
  (hv:1≤version∧version≤1099511627776) (h2:∀w' v c,Grow w w'→isEC c v→sg_ nodes each l c→¬roomy nodes each l→K (.tuple #[.pointer none,v]) w') :
  aa_ PR F.jl_ ⟨[.int .i64 version,.int .i64 nodes,.int .i64 each,.slice q n c]⟩ w K:=by
 have hfr:∀ {w':World},Grow w w'→Fs S0 w [] w':=λg=>(Fr.init _ w).after g
 refine h4_ version nodes each q n c S0 K w ⟨λh=>by omega,λhv1=>⟨λh=>by omega,λhv2=>?_⟩⟩
 refine no_ hs hl hn (λhg w1 b N g1 hN hc hL=>⟨_,_,rfl,hfr g1,λ_=>?_,(λt x h=>by cases h),.inl rfl⟩) λhg w1 v g1 hv=>⟨_,_,rfl,hfr g1,(λh=>by obtain ⟨t,x,rfl⟩:=hv.err;cases h),λt x h=>h2 w1 v 10 g1 hv (.inl ⟨rfl,hg⟩) (λhh=>hg hh.1),.inr (by obtain ⟨t,x,h⟩:=hv.err;exact ⟨t,x,h⟩)⟩
 obtain ⟨nn,rfl⟩:=Int.eq_ofNat_of_zero_le hg.1
 have hnn:=hg.2.1
 rw [Int.toNat_natCast] at hc hL
 have hNl:=hN.len
 have hll:=hg.2.2.1
 have hTl:(N.map (·.2)).length=N.length:=List.length_map _
 refine na_ hc hL (by omega) he he2 (λw2 q2 c2 k g2 hk1 hcov hk64 hs2 hkc=>⟨_,_,_,_,rfl,hfr (g1.trans g2),λ_=>?_,(λt x h=>by cases h),.inl rfl⟩) λhbig=>⟨_,_,_,_,rfl,hfr g1,(λh=>by cases h),λt x h=>h2 w1 _ 6 g1 (.inl rfl) (.inr (.inl ⟨rfl,hg,by omega⟩)) (λhh=>by have:=hh.2.1;omega),.inr ⟨_,_,rfl⟩⟩
 have h64:(nn:Int)≤64*(each:Int):=by
  have:k*each≤64*each:=Nat.mul_le_mul_right _ hk64
  omega
 have hmk:ig_ version nn each l (lw_ version nn N each k).1 (lw_ version nn N each k).2:=⟨nn,N,k,rfl,hN,hk1,hcov,rfl⟩
 have hmk2:(lw_ version nn N each k).2=cutL (a7_ (begL nn N) (N.map (·.2)) each nn k).flatten:=rfl
 have htot:=hd_ (k:=k) hL (by omega) he hcov
 rw [hTl] at htot
 generalize hpd:a7_ (begL nn N) (N.map (·.2)) each nn k=parts at hs2 htot hmk2
 have hpl:parts.length=k:=by rw [← hpd,cW_]
 have g12:=g1.trans g2
 refine qu_ hs2 hpl.symm hkc (by omega) (by omega) λw3 q3 c3 g3 ho3 hc3 hof3=>⟨_,_,_,rfl,hfr (g12.trans g3),?_⟩
 have g13:=g12.trans g3
 have hcl:=hQ_ parts.flatten
 refine ⟨λh=>h2 w3 _ 7 g13 (.inl rfl) (.inr (.inr ⟨rfl,hg,h64,λv' m' list' hm'=>?_⟩)) (λhh=>?_),λhbl=>?_⟩
 ·have hm2:ig_ v' nn each l (lw_ v' nn N each k).1 (lw_ v' nn N each k).2:=⟨nn,N,k,rfl,hN,hk1,hcov,rfl⟩
  rw [(hm'.uniq he hm2).2]
  show 2048<(cutL (a7_ (begL nn N) (N.map (·.2)) each nn k).flatten).length
  rw [hpd];omega
 ·have:=hh.2.2
  unfold aX_ at hcl
  omega
 ·have hs2':Sl w3 q2 ((a7_ (begL nn N) (N.map (·.2)) each nn k).map sv8'):=by rw [hpd];exact hs2.grow g3
  refine m__ hL (by omega) he hk64 hcov hs2' λw4 q4 c4 g4 ho4 hc4 hof4=>⟨_,_,_,_,rfl,hfr (g13.trans g4),λ_=>?_,(λt x h=>by cases h),.inl rfl⟩
  have g14:=g13.trans g4
  refine nk_ (hc.grow ((g2.trans g3).trans g4)) ⟨_,rfl,hfr g14,?_⟩
  refine pb_ (ho3.sl.grow g4) rfl (by omega) (λx hx=>by have:=iF_ _ x hx;omega) λw5 g5=>⟨_,rfl,hfr (g14.trans g5),λb6 hb6 b7 hb7 w6 hF6=>?_⟩
  have g15:=g14.trans g5
  have hT7:=hF6.blk 0 rfl
  have g56:Chg (· = b6) w5 w6:=hF6.stp.mono λi _ hi=>by simpa using hi
  let m:Man:=⟨version,nn,N.length,cU_ (begL nn N) (N.map (·.2)) each nn k,(cutL parts.flatten).length,e1_ Hs (cutL parts.flatten)⟩
  have htl:m.shards.length=k:=il_ _ _ _ _ _
  have hmok:m.ok:=by
   have htab:=l5_ hL (by omega) he (by rw [hTl];omega) k 0 (λi hi=>hcov i (by omega))
   simp only [Nat.zero_add,if_true] at htab
   refine ⟨⟨by show 1≤version;omega,by show version≤_;omega⟩,⟨by show (0:Int)≤nn;omega,hnn⟩,⟨by show (0:Int)≤N.length;omega,by show ((N.length:Nat):Int)≤20000;omega⟩,⟨by omega,?_⟩,htab,⟨?_,by show (((cutL parts.flatten).length:Nat):Int)≤2048;omega⟩,n3_ gf_ _⟩
   ·constructor
    ·intro h
     have hk0:k=0:=by have:=congrArg List.length h;rw [htl] at this;simpa using this
     subst hk0
     show (nn:Int)=0
     omega
    ·intro h
     have hk0:k=0:=by
      have h':(nn:Int)=0:=h
      rcases Nat.eq_zero_or_pos k with e | e
      ·exact e
      ·have:=hcov 0 e;omega
     subst hk0
     rfl
   ·show (((cutL parts.flatten).length:Nat):Int)=gc_ ((cU_ (begL nn N) (N.map (·.2)) each nn k).map (·.2)).sum
    rw [j4_,hpd,iG_,hcl]
  have s5:=g5.size
  have s4:=g4.size
  have s13:=g13.size
  have s12:=g12.size
  have s15:=g15.size
  refine h1 w6 b7 m (cutL parts.flatten) (hF6.chg) (by omega) ⟨q4,c4,q3,c3,?_,by omega,(?_:Sl w6 q4 _).out (hof4.mono (by omega)),(?_:Sl w6 q3 _).out (hof3.mono (by omega)),hc3⟩ ⟨hmok,rfl,rfl,iF_ _,by rw [jG_]⟩ rfl (by rw [jG_];omega) hg h64 ?_ (by omega)
  ·rw [verC,htl]
   show w6.heap[b7]? = some (.cells #[.int .i64 version,.int .i64 nn,.int .i64 N.length,.slice q4 k c4,.int .i64 (cutL parts.flatten).length,.string (str (e1_ Hs (cutL parts.flatten))),.slice q3 (cutL parts.flatten).length c3] T.a4_ (0,0))
   simp only [hTl] at hT7
   exact hT7
  ·exact (ho4.sl.grow g5).keep g56 λa ha e=>by have:=ho4.lt a ha;have e':a.block=b6:=e;omega
  ·exact ((ho3.sl.grow g4).grow g5).keep g56 λa ha e=>by have:=ho3.lt a ha;have e':a.block=b6:=e;omega
  ·exact ⟨nn,N,k,rfl,hN,hk1,hcov,by subst hpd;rfl⟩
end Go.Vc
namespace Go.Vc
open Go Go.MapKept
theorem re_ {w:World} {a b:Nat} {cs ds:Array Value} {T U:TypeId} {f g:Nat × Nat} (h1:w.heap[a]? = some (.cells cs T f)) (h2:w.heap[b]? = some (.cells ds U g)) (h:T≠U):a≠b:=by
 rintro rfl
 rw [h1] at h2
 cases h2
 exact h rfl
theorem Own.ty {e:TypeId} {k:Nat} {w:World} {q:Option Addr} {c:Nat} {xs:List Value} (h:Own e k w q c xs) {a:Addr} (ha:q=some a):∃cs,w.heap[a.block]? = some (.cells cs e (0,0)):=by
 rcases h with ⟨h,_⟩ | ⟨b,o,cs,h,hb,_⟩
 ·rw [h] at ha;cases ha
 ·rw [h] at ha;cases ha;exact ⟨cs,hb⟩
def o8_ (D:Nat→Prop) (w:World) (c:Nat) (list:List (List UInt8)):Prop:=
 ∃q cc m R n,w.heap[c]? = some (.cells #[.slice q list.length cc,.map (some m)] T.cm_ (0,0))∧¬D c∧SlO D w q ((list.map ay_).map sv8')∧MapP w T.al_ m n R∧¬D m∧ob_ (list.map ay_) R∧(list≠[]→cv_ R 0 list.length)
theorem o8_.keep {D D' S:Nat→Prop} {w w':World} {c:Nat} {list:List (List UInt8)} (h:o8_ D w c list) (g:Chg S w w') (hS:∀k,k<w.heap.size→S k→D k) (hD:∀k,k<w.heap.size→D' k→D k):o8_ D' w' c list:=by
 obtain ⟨q,cc,m,R,n,h1,h2,h3,h4,h5,h6⟩:=h
 have l1:=aj_ h1
 have l4:=h4.lt
 exact ⟨q,cc,m,R,n,g.get h1 (λe=>h2 (hS _ l1 e)),λe=>h2 (hD _ l1 e),h3.keep g hS hD,h4.keep g (λe=>h5 (hS _ l4 e)),λe=>h5 (hD _ l4 e),h6⟩
theorem rk_ {D:Nat→Prop} {w:World} {b:Nat} {mn:Man} {list:List (List UInt8)} (hv:VerO D w b mn list) (hL:VerL mn list) {K:Value→World→Prop} (hK:∀w' c,Grow w w'→o8_ (λk=>k<w.heap.size) w' c list→K (.pointer (some ⟨c,0,none⟩)) w'):aa_ PR F.da_ ⟨[.pointer (some ⟨b,0,none⟩)]⟩ w K:=by
 obtain ⟨q,c,ql,cl,h1,h0,h2,h3,h4⟩:=hv
 have hf:Fs S0 w [⟨b,verC mn q c list ql cl,T.a4_,false⟩] w:=(Fr.init _ w).entry h1 (λx h=>by cases h) (λh=>by cases h)
 have hbl:=hL.ok.blocks.2
 have hb2:=hL.blocks
 refine dJ_ b mn.version mn.nodes mn.edges q mn.shards.length c mn.blocks (str mn.root) ql list.length cl S0 K w hf ?_
 refine mw_ h3.sl rfl (by omega) (λx hx=>by have:=hL.small x hx;omega) λw1 t q' c' m R g1 hT _ hA ht hm hq=>⟨_,rfl,hf.after g1,hK w1 t g1 ?_⟩
 obtain ⟨t1,t2,⟨n,t3⟩,t4⟩:=hT
 rw [List.length_map] at t1
 exact ⟨q',c',m,R,n,t1,(λe=>by omega),t2.out hq,t3,(λe=>by omega),t4,hA⟩
end Go.Vc
namespace Go.Vc
open Go Go.MapKept
structure PubS where
 p:Nat
 bj:Nat
 bd:Nat
 m:Nat
 each:Nat
 q:Option Addr
 c:Nat
 last:Nat
 com:Nat
 recs:List (List UInt8)
 R:Value→Value→Prop
 man:Nat→Man
 ex:Nat→Prop
def PubS.room (x:PubS):Nat:=200000 - (logL x.recs).length
end Go.Vc
namespace Go.Vc
open Go
theorem jw_ {α:Type} {s:Nat} {f:α→List Value} (hf:∀x,(f x).length=s):∀ {l:List α} {k j:Nat},(h:k<l.length)→j<s→(l.flatMap f)[k*s+j]? = (f l[k])[j]?
 | a :: l,0,j,h,hj=>by
  rw [List.flatMap_cons,List.getElem?_append_left (by rw [hf];omega)];simp
 | a :: l,k+1,j,h,hj=>by
  have e:(k+1)*s+j=s+(k*s+j):=by rw [Nat.add_mul];omega
  rw [List.flatMap_cons,List.getElem?_append_right (by rw [hf];omega),hf,e,Nat.add_sub_cancel_left,jw_ hf (l:=l) (k:=k) (by simpa using h) hj];rfl
theorem bM_ {α:Type} {s:Nat} {f:α→List Value} (hf:∀x,(f x).length=s):∀l:List α,(l.flatMap f).length=l.length*s
 | []=>by simp
 | a :: l=>by rw [List.flatMap_cons,List.length_append,hf,bM_ hf l,List.length_cons,Nat.add_mul];omega
theorem Sl.rdN {α:Type} {s:Nat} {f:α→List Value} (hf:∀x,(f x).length=s) (h0:0<s) {w:World} {q:Option Addr} {l:List α} (h:Sl w q (l.flatMap f)) {n:Int} {k m:Nat} {K:Addr→Prop} (hn:n=k) (hk:k<l.length) (hm:k<m)
  (hK:∀a,(∀j v,(f l[k])[j]? = some v→w.cell? (a.add j)=some v)→K a):Dr q (λa=>0≤n∧n<((m:Nat):Int)∧Dr (some (Addr.add a (n.toNat*s))) K):=by
 subst hn
 have hel:=bM_ hf l
 have hpos:k*s<l.length*s:=Nat.mul_lt_mul_of_pos_right hk h0
 obtain ⟨b,o,rfl,hc⟩:=h.ex (by intro e;rw [e] at hel;simp at hel;omega)
 refine ad_.2 ⟨by omega,by omega,ad_.2 ?_⟩
 rw [as_,Int.toNat_natCast]
 refine hK _ λj v hv=>?_
 have hj:j<s:=by
  rcases Nat.lt_or_ge j s with h | h
  ·exact h
  ·rw [List.getElem?_eq_none (by rw [hf];exact h)] at hv;cases hv
 have hb:k*s+j<(l.flatMap f).length:=by
  rw [hel]
  have:(k+1)*s≤l.length*s:=Nat.mul_le_mul_right s hk
  rw [Nat.add_mul] at this;omega
 have:=hc (k*s+j) hb
 rw [jw_ hf hk hj,hv] at this
 rw [as_,Nat.add_assoc];exact this
end Go.Vc
namespace Go.Vc
open Go Go.ChangeShapes Go.WideShapes Go.Deep Go.ChangeAt Go.RowKit
noncomputable def flds (t:TypeId):Option (List (Nat × Nat)):=match PR.underlying t with
 | some (.struct fs)=>some (fs.toList.map λf=>(f.type,f.offset))
 | _=>none
theorem q9_ {t:TypeId} {l:List (Nat × Nat)} (h:flds t=some l):∃fs:Array Field,PR.underlying t=some (.struct fs)∧fs.toList.map (λf=>(f.type,f.offset))=l:=by
 unfold flds at h
 split at h
 ·rename_i fs hfs
  exact ⟨fs,hfs,Option.some.inj h⟩
 ·cases h
theorem q__ {fs:Array Field} {l:List (Nat × Nat)} (h:fs.toList.map (λf=>(f.type,f.offset))=l) {i:Nat} {x:Nat × Nat} (hi:l[i]? = some x):∃f,fs[i]? = some f∧f.type=x.1∧f.offset=x.2:=by
 rw [← h,List.getElem?_map] at hi
 rw [← Array.getElem?_toList]
 cases hf:fs.toList[i]? with
 | none=>rw [hf] at hi;cases hi
 | some f=>rw [hf] at hi;cases hi;exact ⟨f,rfl,rfl,rfl⟩
theorem le_ {w:World} {a:Addr} {xs:List Value} (h:∀i,i<xs.length→w.cell? (a.add i)=xs[i]?):Sl w (some a) xs:=by
 cases xs with
 | nil=>exact .inl rfl
 | cons x xs=>
  right
  have h0:=h 0 (by simp)
  have h0':w.cell? a=some x:=by simpa [Addr.add] using h0
  have hs:=World.cell?_spot h0'
  obtain ⟨b,o,sp⟩:=a
  simp only at hs
  subst hs
  refine ⟨b,o,rfl,?_⟩
  unfold World.cell? at h0'
  cases hb:w.heap[b]? with
  | none=>simp [hb] at h0'
  | some ob=>
   cases ob with
   | cells cs T fz=>
    refine ⟨cs,T,fz,hb,λi hi=>?_⟩
    have hh:=h i hi
    have e:w.cell? ((⟨b,o,none⟩:Addr).add i)=cs[o+i]?:=by
     by_cases hi0:i=0
     ·subst hi0;simp [Addr.add,World.cell?,hb]
     ·simp [Addr.add,hi0,World.cell?,hb]
    rw [← e,hh]
   | _=>simp [hb] at h0'
theorem l8_ {α:Type} {s:Nat} {f:α→List Value} (hf:∀x,(f x).length=s) (hs0:0<s) {t e:TypeId} (ht:PR.underlying t=some (.slice e)) (hc:PR.cellsOf e=s) {G:α→Prop} {H:Type} {enc:TypeId × Value→H} {w:World} {base:Nat} {spare:Nat→Bool} {held:Bool}
  (each:∀(n:Nat) (cs:List Value) x,DataW.trod enc PR w base spare held n e cs=some x→cs.length=s→∃a:α,cs=f a∧G a) {fuel:Nat} {v:Value} {x:DataW H × List MemPlace} (h:DataW.trod enc PR w base spare held fuel t [v]=some x) :
  ∃(q:Option Addr) (l:List α) (c:Nat),v=.slice q l.length c∧Sl w q (l.flatMap f)∧(∀a∈l,G a)∧l.length≤c:=by
 rcases open_slice ht h with ⟨e1,_⟩ | ⟨a,len,cap,m,n,D,Pl,e1,_,hlc,_,hm,_,hx⟩
 ·cases e1
  exact ⟨none,[],0,rfl,.inl rfl,(λa ha=>by cases ha),Nat.le_refl _⟩
 ·cases e1
  rw [hc] at hx
  have hlm:len≤m:=by rw [hm];split <;> omega
  have ea:∀i,i<len→∃z:α,(∀j v,(f z)[j]? = some v→w.cell? (a.add (i*s+j))=some v)∧G z:=by
   intro i hi
   obtain ⟨cs',h1,h2⟩:=hx i (by omega)
   obtain ⟨_,hlen,hcell⟩:=World.cells?_some h1
   obtain ⟨z,rfl,hz⟩:=each n cs' _ h2 hlen
   refine ⟨z,λj v hj=>?_,hz⟩
   have hjl:j<s:=by
    rcases Nat.lt_or_ge j s with h | h
    ·exact h
    ·rw [List.getElem?_eq_none (by rw [hf];exact h)] at hj;cases hj
   have:=hcell j hjl
   rw [add_add] at this
   rw [this,hj]
  have hne:len=0∨Nonempty α:=by
   rcases Nat.eq_zero_or_pos len with h | h
   ·exact .inl h
   ·obtain ⟨z,_⟩:=ea 0 h;exact .inr ⟨z⟩
  rcases hne with h0 | ⟨⟨z0⟩⟩
  ·subst h0
   exact ⟨some a,[],cap,rfl,.inl rfl,(λa ha=>by cases ha),Nat.zero_le _⟩
  ·have:Inhabited α:=⟨z0⟩
   obtain ⟨g,hg⟩:=choose_lt ea
   refine ⟨some a,(List.range len).map g,cap,by simp,le_ λi hi=>?_,λz hz=>?_,by simpa using hlc⟩
   ·rw [bM_ hf] at hi
    simp only [List.length_map,List.length_range] at hi
    have hk:i / s<len:=Nat.div_lt_of_lt_mul (by rw [Nat.mul_comm];exact hi)
    have hj:i%s<s:=Nat.mod_lt _ hs0
    have e2:i / s*s+i%s=i:=by rw [Nat.mul_comm];exact Nat.div_add_mod i s
    have h3:=jw_ hf (l:=(List.range len).map g) (k:=i / s) (j:=i%s) (by simpa using hk) hj
    rw [e2] at h3
    rw [h3]
    simp only [List.getElem_map,List.getElem_range]
    have hlt:i%s<(f (g (i / s))).length:=by rw [hf];exact hj
    have:=(hg (i / s) hk).1 (i%s) _ (List.getElem?_eq_getElem hlt)
    rw [e2] at this
    rw [this,List.getElem?_eq_getElem hlt]
   ·obtain ⟨i,hi,rfl⟩:=List.mem_map.1 hz
    exact (hg i (List.mem_range.1 hi)).2
theorem uInt:PR.underlying T.int=some (.int .i64):=by kernel_rfl
theorem cInt:PR.cellsOf T.int=1:=by kernel_rfl
theorem ru_:PR.underlying T.bool=some .bool:=by kernel_rfl
theorem p__ {α:Type} (f:α→Value) (l:List α):l.flatMap (λn=>[f n])=l.map f:=by
 induction l with
 | nil=>rfl
 | cons b l ih=>rw [List.flatMap_cons,ih];rfl
section
variable {H:Type} {enc:TypeId × Value→H} {w:World} {base:Nat} {spare:Nat→Bool} {held:Bool}
theorem nI_ {t:TypeId} {l:List (Nat × Nat)} (hl:flds t=some l) {n:Nat} {cs:List Value} {x:DataW H × List MemPlace} (h:DataW.trod enc PR w base spare held n t cs=some x) :
  ∃m,∀(i:Nat) (p:Nat × Nat),l[i]? = some p→∃y,DataW.trod enc PR w base spare held m p.1 ((cs.drop p.2).take (PR.cellsOf p.1))=some y:=by
 obtain ⟨fs,hu,hm⟩:=q9_ hl
 obtain ⟨xs,m,_,_,_,hxl,hg⟩:=DataW.trod_struct hu h
 refine ⟨m,λi p hi=>?_⟩
 obtain ⟨f,h1,h2,h3⟩:=q__ hm hi
 have:=hg i f h1
 rw [h2,h3] at this
 have hil:i<xs.length:=by
  rw [hxl]
  rcases Nat.lt_or_ge i fs.size with h | h
  ·exact h
  ·rw [Array.getElem?_eq_none h] at h1;cases h1
 exact ⟨_,this.trans (List.getElem?_eq_getElem hil)⟩
end
section
variable {H:Type} {enc:TypeId × Value→H} {P:Program}
theorem i9_ {f:Func} {s:ChangeSpec} {apart fresh handsOn again:Bool} {W W':World} {args:Array Value} {v:Value} {ds gs:List (DataW H)} {before pa pv:List MemPlace}
  (hW:DataW.Whole enc P f.params.toList s.vars apart W args.toList ds gs before)
  (hres:∀(b:Nat) (sp:Nat→Bool) (hd:Bool),DataW.TrodAll enc P W' b sp hd f.resultTypes.toList (v.resultList f.resultTypes.size) (s.fn H (ds++gs)).results [])
  (hargs:∀sp:Nat→Bool,(∀p∈before,sp p.block=true)→DataW.TrodAll enc P W' 0 sp true f.params.toList args.toList (s.fn H (ds++gs)).args pa)
  (hvars:∀sp:Nat→Bool,(∀p∈before,sp p.block=true)→DataW.TrodVars enc P W' sp s.vars (s.fn H (ds++gs)).vars pv)
  (hps:before=pa++pv) (hb:Below W.heap.size W W')
  (hok:∀(j:Nat) (t:TypeId) (r:Value),f.resultTypes[j]? = some t→(v.resultList f.resultTypes.size)[j]? = some r→Value.okWide P W' .any 0 t r) :
  s.post enc P f apart fresh handsOn again W args v W':=by
 have hlt:∀p∈before,p.block<W.heap.size:=λp hp=>hW.lt p hp
 have hold:∀p∈before,(λb=>decide (b<W.heap.size)) p.block=true:=λp hp=>by simpa using hlt p hp
 refine ⟨ds,gs,before,[],pa,pv,hW,hres _ _ _,hargs _ hold,hvars _ hold,World.keptBut_mono (λp hp=>⟨hp,?_⟩) (hb.frame (·∈before)),λ_=>?_⟩
 ·rw [hps,List.mem_append] at hp
  exact Or.inr hp
 ·obtain ⟨_,_,_,_,_,hz,hn⟩:=hW
  refine ⟨hok,_,_,([]++pa)++pv,⟨[]++pa,pv,trodAll_append (hargs _ (λ_ _=>rfl)) (hres _ _ _),hvars _ (λ_ _=>rfl),rfl,?_,?_⟩,?_⟩
  ·intro b off hp
   have hin:MemPlace.cell b off∈before:=by rw [hps];simpa using hp
   rw [hb.frozen (hlt _ hin)]
   exact hz b off hin
  ·intro ha
   have:=hn ha
   rw [hps] at this
   simpa using this
  ·intro p hp _
   rw [hps]
   simpa using hp
end
theorem jM_ {w w':World} (h:Grow w w'):Below w.heap.size w w':=⟨h.os,h.tape,h.output,h.size,λk hk=>h.block k hk (λe=>e)⟩
theorem ownG:ownKnob PR.godebug=none:=by kernel_rfl
theorem layG:laidOutB PR=true:=by kernel_rfl
end Go.Vc
namespace Go.Vc
open Go
structure MsgL where
 kind:Int
 ver:Int
 i:Int
 text:List UInt8
 proof:List (List UInt8)
end Go.Vc
namespace Go.Vc
open Go
def oi_ (m:MsgL) (q:Option Addr) (c:Nat):Value:=.agg #[.int .i64 m.kind,.int .i64 m.ver,.int .i64 m.i,.string (str m.text),.slice q m.proof.length c]
end Go.Vc
namespace Go.Vc
open Go
theorem ks_ (k0:Nat) (y1:Option Addr) (ly1:Nat) (cy1:Nat) (g2:Option Nat) (m3:Int) (S:SP) (K:KP) (w:World) (hF:Fs S w [⟨k0,#[.slice y1 ly1 cy1,.map g2],149,true⟩] w) (hS:S k0∧True) (h:(m3<0→K (.tuple #[.slice none 0 0,.iface 73 (Iv 2)]) w)∧(¬(m3<0)→(m3≥(ly1:Int)→K (.tuple #[.slice none 0 0,.iface 73 (Iv 2)]) w)∧(¬(m3≥(ly1:Int))→∀l0,w.heap.size≤l0→∀w0,Fr S w w [l0] [⟨k0,#[.slice y1 ly1 cy1,.map g2],149,true⟩,⟨l0,#[Iv 0,Iv (ly1:Int)],151,true⟩] w0→let B0:Blk:=⟨k0,#[.slice y1 ly1 cy1,.map g2],149,true⟩;∃I0:(Option Addr)→Nat→Nat→(Option Addr)→Nat→World→Prop,(∃l1,I0 none 0 0 (some (⟨l0,0,none⟩)) l1 w0)∧∀q0 l2 l3 q1,∀D0:Nat→Value,∀l4 w1,I0 q0 l2 l3 q1 l4 w1→Fs S w [B0] w1→Dr q1 λa0=>Dr (some (Addr.add a0 1)) λa1=>∃n0,World.cell? w1 a1=some (Iv n0)∧(n0>1→Dr q1 λa2=>Dr (some (Addr.add a2 1)) λa3=>∃n1,World.cell? w1 a3=some (Iv n1)∧aa_ PR 60 #[Iv n1] w1 λv0 w2=>∃n2,v0=Iv n2∧Fs S w [B0] w2∧∀w3,Fr S w w2 [] [B0] w3→∃I1:World→Prop,I1 w3∧Dr q1 λa4=>Dr (some (Addr.add a4 0)) λa5=>∃n3,(∀w4,I1 w4→World.cell? w4 a5=some (Iv n3))∧Dr q1 λa6=>Dr (some (Addr.add a6 0)) λa7=>∃n4,(∀w5,I1 w5→World.cell? w5 a7=some (Iv n4))∧Dr q1 λa8=>Dr (some (Addr.add a8 1)) λa9=>∃n5,(∀w6,I1 w6→World.cell? w6 a9=some (Iv n5))∧(∀l5,w3.heap.size≤l5→∀w7,Fr S w w3 [] [B0,⟨l5,#[Iv 0,Iv 0],151,true⟩] w7→I1 w7∧∀l6,w7.heap.size≤l6→∀w8,Fr S w w7 [] [B0,⟨l5,#[Iv 0,Iv 0],151,true⟩,⟨l6,#[Iv 0,Iv 0],151,true⟩] w8→I1 w8∧∀w9,Fr S w w8 [l5] [B0,⟨l5,#[Iv n3,Iv n2],151,true⟩,⟨l6,#[Iv 0,Iv 0],151,true⟩] w9→let B1:Blk:=⟨l5,#[Iv n3,Iv n2],151,true⟩;I1 w9∧Dr q1 λa10=>∀w10,Fr S w w9 [l6] [B0,B1,⟨l6,#[Iv (IntKind.wrap .i64 (n4+n2)),Iv (IntKind.wrap .i64 (n5 - n2))],151,true⟩] w10→let B2:Blk:=⟨l6,#[Iv (IntKind.wrap .i64 (n4+n2)),Iv (IntKind.wrap .i64 (n5 - n2))],151,true⟩;Dr (some (Addr.add a10 0)) λa11=>∃n6,World.cell? w10 a11=some (Iv n6)∧(m3<IntKind.wrap .i64 (n6+n2)→∀w11,Fr S w w10 [] [B0,B1,B2] w11→∃I2:World→Prop,I2 w11∧rn PR (Instr.lookup 147 (.map g2) (.agg #[Iv (IntKind.wrap .i64 (n4+n2)),Iv (IntKind.wrap .i64 (n5 - n2))]) false) (λv1 w12=>∃s0,v1=.string s0∧Fs S w [B0,B1,B2] w12∧I2 w12∧∀l7,w12.heap.size≤l7→∀w13,Fr S w w12 [] [B0,B1,B2,⟨l7,#[.string s0],9,true⟩] w13→I2 w13∧rn PR (Builtin.append_ #[37,37] 37 #[.slice (some (⟨l7,0,none⟩)) 1 1,.slice q0 l2 l3]) (λv2 w14=>∃q2 l8 l9,v2=.slice q2 l8 l9∧Fs S w [B0,B1,B2,⟨l7,#[.string s0],9,true⟩] w14∧I2 w14∧Dr q1 λa12=>StC w14 (Addr.add a12 0) (Iv n3) λw15=>StC w15 (Addr.add a12 1) (Iv n2) λw16=>Fs S w [B0,B1,B2,⟨l7,#[.string s0],9,true⟩] w16∧Dr q1 λa13=>∃n7,World.cell? w16 (Addr.add a13 0)=some (Iv n7)∧∃n8,World.cell? w16 (Addr.add a13 1)=some (Iv n8)∧∀l10,w16.heap.size≤l10→∀w17,Fr S w w16 [l10] [B0,⟨l10,#[Iv n7,Iv n8],151,true⟩] w17→∃l11,l11<l4∧I0 q2 l8 l9 (some (⟨l10,0,none⟩)) l11 w17) w13) w11)∧(¬(m3<IntKind.wrap .i64 (n6+n2))→∀w18,Fr S w w10 [] [B0,B1,B2] w18→∃I3:World→Prop,I3 w18∧rn PR (Instr.lookup 147 (.map g2) (.agg #[Iv n3,Iv n2]) false) (λv3 w19=>∃s1,v3=.string s1∧Fs S w [B0,B1,B2] w19∧I3 w19∧∀l12,w19.heap.size≤l12→∀w20,Fr S w w19 [] [B0,B1,B2,⟨l12,#[.string s1],9,true⟩] w20→I3 w20∧rn PR (Builtin.append_ #[37,37] 37 #[.slice (some (⟨l12,0,none⟩)) 1 1,.slice q0 l2 l3]) (λv4 w21=>∃q3 l13 l14,v4=.slice q3 l13 l14∧Fs S w [B0,B1,B2,⟨l12,#[.string s1],9,true⟩] w21∧I3 w21∧Dr q1 λa14=>StC w21 (Addr.add a14 0) (Iv (IntKind.wrap .i64 (n4+n2))) λw22=>StC w22 (Addr.add a14 1) (Iv (IntKind.wrap .i64 (n5 - n2))) λw23=>Fs S w [B0,B1,B2,⟨l12,#[.string s1],9,true⟩] w23∧Dr q1 λa15=>∃n9,World.cell? w23 (Addr.add a15 0)=some (Iv n9)∧∃n10,World.cell? w23 (Addr.add a15 1)=some (Iv n10)∧∀l15,w23.heap.size≤l15→∀w24,Fr S w w23 [l15] [B0,⟨l15,#[Iv n9,Iv n10],151,true⟩] w24→∃l16,l16<l4∧I0 q3 l13 l14 (some (⟨l15,0,none⟩)) l16 w24) w20) w18))∧∀l17,w3.heap.size≤l17→∀w25,Fr S w w3 [] [B0,⟨l17,#[Iv 0,Iv 0],151,true⟩] w25→I1 w25∧∀l18,w25.heap.size≤l18→∀w26,Fr S w w25 [] [B0,⟨l17,#[Iv 0,Iv 0],151,true⟩,⟨l18,#[Iv 0,Iv 0],151,true⟩] w26→I1 w26∧∀w27,Fr S w w26 [l18] [B0,⟨l17,#[Iv 0,Iv 0],151,true⟩,⟨l18,#[Iv n3,Iv n2],151,true⟩] w27→let B3:Blk:=⟨l18,#[Iv n3,Iv n2],151,true⟩;I1 w27∧Dr q1 λa16=>∀w28,Fr S w w27 [l17] [B0,⟨l17,#[Iv (IntKind.wrap .i64 (n4+n2)),Iv (IntKind.wrap .i64 (n5 - n2))],151,true⟩,B3] w28→let B4:Blk:=⟨l17,#[Iv (IntKind.wrap .i64 (n4+n2)),Iv (IntKind.wrap .i64 (n5 - n2))],151,true⟩;Dr (some (Addr.add a16 0)) λa17=>∃n11,World.cell? w28 a17=some (Iv n11)∧(m3<IntKind.wrap .i64 (n11+n2)→∀w29,Fr S w w28 [] [B0,B4,B3] w29→∃I4:World→Prop,I4 w29∧rn PR (Instr.lookup 147 (.map g2) (.agg #[Iv (IntKind.wrap .i64 (n4+n2)),Iv (IntKind.wrap .i64 (n5 - n2))]) false) (λv5 w30=>∃s2,v5=.string s2∧Fs S w [B0,B4,B3] w30∧I4 w30∧∀l19,w30.heap.size≤l19→∀w31,Fr S w w30 [] [B0,B4,B3,⟨l19,#[.string s2],9,true⟩] w31→I4 w31∧rn PR (Builtin.append_ #[37,37] 37 #[.slice (some (⟨l19,0,none⟩)) 1 1,.slice q0 l2 l3]) (λv6 w32=>∃q4 l20 l21,v6=.slice q4 l20 l21∧Fs S w [B0,B4,B3,⟨l19,#[.string s2],9,true⟩] w32∧I4 w32∧Dr q1 λa18=>StC w32 (Addr.add a18 0) (Iv n3) λw33=>StC w33 (Addr.add a18 1) (Iv n2) λw34=>Fs S w [B0,B4,B3,⟨l19,#[.string s2],9,true⟩] w34∧Dr q1 λa19=>∃n12,World.cell? w34 (Addr.add a19 0)=some (Iv n12)∧∃n13,World.cell? w34 (Addr.add a19 1)=some (Iv n13)∧∀l22,w34.heap.size≤l22→∀w35,Fr S w w34 [l22] [B0,⟨l22,#[Iv n12,Iv n13],151,true⟩] w35→∃l23,l23<l4∧I0 q4 l20 l21 (some (⟨l22,0,none⟩)) l23 w35) w31) w29)∧(¬(m3<IntKind.wrap .i64 (n11+n2))→∀w36,Fr S w w28 [] [B0,B4,B3] w36→∃I5:World→Prop,I5 w36∧rn PR (Instr.lookup 147 (.map g2) (.agg #[Iv n3,Iv n2]) false) (λv7 w37=>∃s3,v7=.string s3∧Fs S w [B0,B4,B3] w37∧I5 w37∧∀l24,w37.heap.size≤l24→∀w38,Fr S w w37 [] [B0,B4,B3,⟨l24,#[.string s3],9,true⟩] w38→I5 w38∧rn PR (Builtin.append_ #[37,37] 37 #[.slice (some (⟨l24,0,none⟩)) 1 1,.slice q0 l2 l3]) (λv8 w39=>∃q5 l25 l26,v8=.slice q5 l25 l26∧Fs S w [B0,B4,B3,⟨l24,#[.string s3],9,true⟩] w39∧I5 w39∧Dr q1 λa20=>StC w39 (Addr.add a20 0) (Iv (IntKind.wrap .i64 (n4+n2))) λw40=>StC w40 (Addr.add a20 1) (Iv (IntKind.wrap .i64 (n5 - n2))) λw41=>Fs S w [B0,B4,B3,⟨l24,#[.string s3],9,true⟩] w41∧Dr q1 λa21=>∃n14,World.cell? w41 (Addr.add a21 0)=some (Iv n14)∧∃n15,World.cell? w41 (Addr.add a21 1)=some (Iv n15)∧∀l27,w41.heap.size≤l27→∀w42,Fr S w w41 [l27] [B0,⟨l27,#[Iv n14,Iv n15],151,true⟩] w42→∃l28,l28<l4∧I0 q5 l25 l26 (some (⟨l27,0,none⟩)) l28 w42) w38) w36))∧(¬(n0>1)→K (.tuple #[.slice q0 l2 l3,.nilIface]) w1)))):aa_ PR 25 ⟨[.pointer (some ⟨k0,0,none⟩),.int .i64 m3]⟩ w K:=
 ab_ (okf:=⟨okL,[]⟩) ag_ (args:=[.c (.p 0 k0 true 0),.c (.v (.int .i64 m3))]) (H:=[⟨k0,.l [.v (.slice y1 ly1 cy1),.v (.map g2)],149,true⟩]) (.s .z (.s .z (.s .z (.s (.s (.r ⟨(some [0]),true,[],[]⟩) (.b (.l (some [0,7]) (some [0]) [(6,.c (.sl)),(7,.c (.ptr))] [] (.s .z (.s (.b (.s (.r ⟨(some [0,7]),true,[],[]⟩) (.s (.r ⟨(some [0,7]),true,[],[]⟩) (.s (.s .z (.c (.s (.r ⟨(some [0,7,9,10]),true,[7],[]⟩) .z) .z)) (.r ⟨(some [0,7,9,10]),true,[7],[]⟩))))) (.s .z (.r ⟨(some [0,79]),true,[],[]⟩))))))) .z)))) Go.Proofs.Tryz.func25 rfl ⟨rfl,trivial,trivial⟩ ⟨⟨trivial,⟨trivial,trivial⟩⟩,trivial⟩ hF hS (ac_ (by kernel_rfl) h)
end Go.Vc
namespace Go.Vc
open Go
theorem o3_ {w:World} {q2:Option Addr} {l2 c2 b:Nat} {s:List UInt8} {ys:List (List UInt8)} {K:Value→World→Prop}
  (ho:Own T.string 1 w (some ⟨b,0,none⟩) 1 [sv8' s]) (hs:Sl w q2 (ys.map sv8')) (hl2:l2=ys.length) (hroom:l2≤4398046511)
  (hK:∀q' c' w',Own T.string 1 w' q' c' ((s :: ys).map sv8')→1+l2≤c'→Grow w w'→(∀a,q'=some a→a=⟨b,0,none⟩∨a=⟨w.heap.size,0,none⟩)→K (.slice q' (1+l2) c') w') :
  rn PR (Builtin.append_ #[T.a9_,T.a9_] T.a9_ #[.slice (some ⟨b,0,none⟩) 1 1,.slice q2 l2 c2]) K w:=by
 obtain ⟨i,hi,hk,hb,hz⟩:=nG_
 refine cL_ (ei_ (i:=i) (xs:=[sv8' s]) jZ_ jZ_ hi hz (by rw [hk];rfl) (by rw [hb];decide) (by rw [hk];exact ho) (by rw [hk];rfl) (Nat.le_refl _) hs (by rw [hk];simp [hl2]) (λy hy=>by obtain ⟨b,_,rfl⟩:=List.mem_map.1 hy;rfl) (by rw [hb];omega) λq' c' w' h1 h2 h3 h4 h5=>?_)
 rw [hk] at h1
 refine hK q' c' w' h1 h2 (h5 ?_) λa ha=>(h4 a ha).imp (λe=>by injection e with e;exact e.symm) id
 cases ys with
 | nil=>exact .inr rfl
 | cons y ys=>left;rw [hl2,List.length_cons];omega
noncomputable def be_ (leaves:List (List UInt8)):Nat→Nat→Nat→Nat→List (List UInt8)
 | 0,_,_,_=>[]
 | f+1,i,a,n=>if n≤1 then [] else if i<a+ah_ n then be_ leaves f i a (ah_ n)++[aZ_ a1_ leaves (n - ah_ n) (a+ah_ n) (n - ah_ n)]
  else be_ leaves f i (a+ah_ n) (n - ah_ n)++[aZ_ a1_ leaves (ah_ n) a (ah_ n)]
theorem cv_.val {R:Value→Value→Prop} {a n:Nat} (h:cv_ R a n):∃v,R (.agg #[.int .i64 (a:Nat),.int .i64 (n:Nat)]) v:=by
 cases h with
 | leaf _ v h=>exact ⟨v,h⟩
 | node _ _ v _ h _ _=>exact ⟨v,h⟩
theorem cv_.parts {R:Value→Value→Prop} {a n:Nat} (h:cv_ R a n) (hn:2≤n):cv_ R a (ah_ n)∧cv_ R (a+ah_ n) (n - ah_ n):=by
 cases h with
 | leaf _ v h=>omega
 | node _ _ v _ h h1 h2=>exact ⟨h1,h2⟩
def PrI (leaves:List (List UInt8)) (R:Value→Value→Prop) (w0:World) (i:Nat) (goal:List (List UInt8)) (q:Option Addr) (l c:Nat) (q1:Option Addr) (mm:Nat) (w':World):Prop:=
 ∃(b a n f:Nat) (pf:List (List UInt8)),q1=some ⟨b,0,none⟩∧w0.heap.size≤b∧w'.heap[b]? = some (.cells #[.int .i64 a,.int .i64 n] T.al_ (0,0))∧mm=n∧1≤n∧n≤f∧a≤i∧i<a+n∧a+n≤leaves.length∧cv_ R a n∧
  Own T.string 1 w' q c (pf.map sv8')∧l=pf.length∧l≤c∧pf.length+n≤leaves.length∧Off (λk=>k<w0.heap.size) q∧goal=be_ leaves f i a n++pf
theorem dY_ {leaves:List (List UInt8)} {R:Value→Value→Prop} {w w11:World} {k0 m nn b a n f fuel i ka kn a' n':Nat} {B0 B1 B2:Blk} {q:Option Addr} {l c:Nat} {pf goal:List (List UInt8)}
  (hm:MapP w T.al_ m nn R) (hmk:m≠k0) (hok:ob_ leaves R) (hv:cv_ R ka kn) (hkl:ka+kn≤leaves.length) (hn:leaves.length≤100000)
  (hF:Fs (· = k0) w [B0,B1,B2] w11) (hB0:B0.b=k0) (hk0:k0<w.heap.size) (hB1:w.heap.size≤B1.b) (hB2:w.heap.size≤B2.b) (hb1:b≠B1.b) (hb2:b≠B2.b)
  (hb:w11.heap[b]? = some (.cells #[.int .i64 (a:Nat),.int .i64 (n:Nat)] T.al_ (0,0))) (hwb:w.heap.size≤b)
  (ho:Own T.string 1 w11 q c (pf.map sv8')) (hl:l=pf.length) (hlc:l≤c) (hpn:pf.length+n≤leaves.length) (hof:Off (λk=>k<w.heap.size) q)
  (hn1:1≤n') (hnn:n'<n) (hfu:fuel=n) (hnf:n'≤f) (hai:a'≤i) (hin:i<a'+n') (hle:a'+n'≤leaves.length) (hall:cv_ R a' n') (hg:goal=be_ leaves f i a' n'++(aZ_ a1_ leaves kn ka kn :: pf)) :
  rn PR (Instr.lookup T.a6_ (.map (some m)) (.agg #[.int .i64 (ka:Nat),.int .i64 (kn:Nat)]) false) (λv1 w12=>∃s0,v1=.string s0∧Fs (· = k0) w [B0,B1,B2] w12∧w12.heap[b]? = some (.cells #[.int .i64 (a:Nat),.int .i64 (n:Nat)] T.al_ (0,0))∧∀l7,w12.heap.size≤l7→∀w13,Fr (· = k0) w w12 [] [B0,B1,B2,⟨l7,#[.string s0],T.string,true⟩] w13→
   w13.heap[b]? = some (.cells #[.int .i64 (a:Nat),.int .i64 (n:Nat)] T.al_ (0,0))∧rn PR (Builtin.append_ #[T.a9_,T.a9_] T.a9_ #[.slice (some ⟨l7,0,none⟩) 1 1,.slice q l c]) (λv2 w14=>∃q2,∃l8 l9:Nat,v2=.slice q2 l8 l9∧Fs (· = k0) w [B0,B1,B2,⟨l7,#[.string s0],T.string,true⟩] w14∧w14.heap[b]? = some (.cells #[.int .i64 (a:Nat),.int .i64 (n:Nat)] T.al_ (0,0))∧
    Dr (some ⟨b,0,none⟩) (λa12=>StC w14 (Addr.add a12 0) (.int .i64 (a':Nat)) λw15=>StC w15 (Addr.add a12 1) (.int .i64 (n':Nat)) λw16=>Fs (· = k0) w [B0,B1,B2,⟨l7,#[.string s0],T.string,true⟩] w16∧Dr (some ⟨b,0,none⟩) λa13=>∃n7:Int,w16.cell? (Addr.add a13 0)=some (.int .i64 n7)∧∃n8:Int,w16.cell? (Addr.add a13 1)=some (.int .i64 n8)∧∀l10,w16.heap.size≤l10→∀w17,Fr (· = k0) w w16 [l10] [B0,⟨l10,#[.int .i64 n7,.int .i64 n8],T.al_,true⟩] w17→
     ∃l11,l11<fuel∧PrI leaves R w i goal q2 l8 l9 (some ⟨l10,0,none⟩) l11 w17)) w13) w11:=by
 obtain ⟨v,hv⟩:=hv.val
 obtain ⟨ka',kn',ek,hk1,hk2,rfl⟩:=hok _ _ hv
 have e1:ka=ka':=by injection ek with e;injection e with e;injection e with e e';injection e with _ e;omega
 have e2:kn=kn':=by injection ek with e;injection e with e;injection e with e e';injection e' with e e';injection e with _ e;omega
 subst e1;subst e2
 obtain ⟨kl,hkey⟩:=jq_ (a:=ka) (k:=kn) ⟨by omega,by omega⟩ ⟨by omega,by omega⟩
 have hm11:MapP w11 T.al_ m nn R:=hm.keep hF.chg hmk
 refine hr_ or_ qM_ hm11 hkey false l0_ (λv' hv'=>?_) λhno=>absurd hv (hno _)
 have:=hm11.inj hv' hv
 subst this
 refine ⟨_,rfl,hF,hb,λl7 hl7 w13 hF13=>?_⟩
 have g13:Grow w11 w13:=hF13.grow
 have hb13:=g13.get hb
 refine ⟨hb13,?_⟩
 have s11:=hF.chg.size
 have hbl:=aj_ hb
 refine o3_ (hF13.own 3 rfl rfl (by decide)) (ho.grow g13).sl hl (by omega) λq2 c2 w14 ho14 hc14 g14 hq14=>?_
 have hF14:=hF13.after g14
 have hb14:=g14.get hb13
 refine ⟨_,_,_,rfl,hF14,hb14,ad_.2 ?_⟩
 have hq2w:∀a,q2=some a→w11.heap.size≤a.block:=λa ha=>by
  rcases hq14 a ha with rfl | rfl
  ·exact hl7
  ·have:=g13.size;exact this
 refine stC hb14 (show 0<2 by omega) rfl λw15 hb15 s15 g15=>?_
 refine stC hb15 (show 1<2 by omega) rfl λw16 hb16 s16 g16=>?_
 have hbn:∀x,x∈[B0,B1,B2,(⟨l7,#[.string (str (aZ_ a1_ leaves kn ka kn))],T.string,true⟩:Blk)]→¬(x.b=b):=λx hx=>by
  simp only [List.mem_cons,List.not_mem_nil,or_false] at hx
  rcases hx with rfl | rfl | rfl | rfl
  ·omega
  ·exact λe=>hb1 e.symm
  ·exact λe=>hb2 e.symm
  ·simp only [];omega
 have hF16:=(hF14.step g15 hbn λk hk e=>by have e':k=b:=e;omega).step g16 hbn λk hk e=>by have e':k=b:=e;omega
 have hb16':w16.heap[b]? = some (.cells #[.int .i64 (a':Nat),.int .i64 (n':Nat)] T.al_ (0,0)):=hb16
 refine ⟨hF16,ad_.2 ⟨_,by rw [as_,au_ hb16'];rfl,_,by rw [as_,au_ hb16'];rfl,λl10 hl10 w17 hF17=>⟨n',by omega,l10,a',n',f,aZ_ a1_ leaves kn ka kn :: pf,rfl,?_,hF17.blk 1 rfl,rfl,hn1,hnf,hai,hin,hle,hall,?_,by rw [hl,List.length_cons];omega,hc14,by rw [List.length_cons];omega,λa ha hlt=>by have:=hq2w a ha;omega,hg⟩⟩⟩
 ·have:=hF16.chg.size;omega
 ·have o15:=ho14.keep g15 λx hx e=>by have e':x.block=b:=e;have:=hq2w x hx;omega
  have o16:=o15.keep g16 λx hx e=>by have e':x.block=b:=e;have:=hq2w x hx;omega
  exact o16.keep hF17.stp λx hx e=>by
   have e':x.block=l10:=by simpa using e
   rcases o16 with ⟨h,_⟩ | ⟨b',o',cs,h,hbb,_⟩
   ·rw [h] at hx;cases hx
   ·rw [h] at hx;cases hx
    have:=aj_ hbb
    simp only [] at e';omega
theorem nb_ {D:Nat→Prop} {w:World} {k0:Nat} {list:List (List UInt8)} (h:o8_ D w k0 list) {i:Int} (hn:list.length≤100000) {K:Value→World→Prop}
  (h1:∀w' q c,0≤i→i<list.length→Grow w w'→Own T.string 1 w' q c ((be_ (list.map ay_) list.length i.toNat 0 list.length).map sv8')→(be_ (list.map ay_) list.length i.toNat 0 list.length).length≤c→Off (λk=>k<w.heap.size) q→K (.tuple #[.slice q (be_ (list.map ay_) list.length i.toNat 0 list.length).length c,.nilIface]) w')
  (h2:¬(0≤i∧i<list.length)→K (.tuple #[.slice none 0 0,.iface T.an_ (.int .i64 2)]) w):aa_ PR F.ev_ ⟨[.pointer (some ⟨k0,0,none⟩),.int .i64 i]⟩ w K:=by
 obtain ⟨yq,yc,m,R,nn,hb0,_,hsl,hm,_,hok,hA⟩:=h
 have hmk:m≠k0:=(q2_ hb0 hm).symm
 have hk0:=aj_ hb0
 have hll:(list.map ay_).length=list.length:=List.length_map _
 refine ks_ k0 yq list.length yc (some m) i (· = k0) K w ((Fr.init _ w).entry hb0 (λx h=>by cases h) λ_=>rfl) ⟨rfl,trivial⟩ ⟨λh=>h2 (by omega),λh0=>⟨λh=>h2 (by omega),λhlt l0 hl0 w0 hF0=>?_⟩⟩
 have h0':0≤i:=by omega
 have hlt':i<list.length:=by omega
 obtain ⟨j,rfl⟩:∃j:Nat,i=j:=⟨i.toNat,by omega⟩
 have hj:j<list.length:=by omega
 have hne:list≠[]:=λe=>by rw [e] at hj;simp at hj
 rw [Int.toNat_natCast] at h1
 refine ⟨PrI (list.map ay_) R w j (be_ (list.map ay_) list.length j 0 list.length),⟨list.length,l0,0,list.length,list.length,[],rfl,hl0,hF0.blk 1 rfl,rfl,by omega,Nat.le_refl _,by omega,by omega,by omega,hA hne,.nil _ _ _,rfl,Nat.le_refl _,by simp,.none _,by simp⟩,?_⟩
 rintro q l c q1 Dv mm w1 ⟨b,a,n,f,pf,rfl,hwb,hb,rfl,hn1,hnf,haj,hja,hle,hall,ho,rfl,hlc,hpn,hof,hg⟩ hF1
 have hc:∀ {w':World} (k:Nat) (v:Value),w'.heap[b]? = some (.cells #[.int .i64 (a:Nat),.int .i64 (mm:Nat)] T.al_ (0,0))→(#[.int .i64 (a:Nat),.int .i64 (mm:Nat)]:Array Value)[k]? = some v→w'.cell? (Addr.add ⟨b,0,none⟩ k)=some v:=λk v hb hv=>by
  rw [as_,au_ hb,Nat.zero_add];exact hv
 refine ad_.2 (ad_.2 ⟨_,hc 1 _ hb rfl,λhgt=>?_,λhng=>?_⟩)
 ·have h2n:2≤mm:=by omega
  have hh:=cB_ h2n
  have hbl:=aj_ hb
  obtain ⟨hp1,hp2⟩:=hall.parts h2n
  refine ad_.2 (ad_.2 ⟨_,hc 1 _ hb rfl,fo_ h2n (by omega) ⟨_,rfl,hF1,λw3 hF3=>?_⟩⟩)
  have g3:Grow w1 w3:=hF3.grow
  have hb3:=g3.get hb
  have ho3:=ho.grow g3
  have bl3:=aj_ hb3
  refine ⟨λw'=>w'.heap[b]? = some (.cells #[.int .i64 (a:Nat),.int .i64 (mm:Nat)] T.al_ (0,0)),hb3,?_⟩
  refine ad_.2 (ad_.2 ⟨_,λw' h=>hc 0 _ h rfl,ad_.2 (ad_.2 ⟨_,λw' h=>hc 0 _ h rfl,ad_.2 (ad_.2 ⟨_,λw' h=>hc 1 _ h rfl,?_⟩)⟩)⟩)
  have ea:IntKind.wrap .i64 ((a:Int)+(ah_ mm:Nat))=((a+ah_ mm:Nat):Int):=by rw [w64 (by omega) (by omega)];omega
  have ek:IntKind.wrap .i64 ((mm:Int) - (ah_ mm:Nat))=((mm - ah_ mm:Nat):Int):=by rw [w64 (by omega) (by omega)];omega
  obtain ⟨f',rfl⟩:∃f',f=f'+1:=⟨f - 1,by omega⟩
  have gl:j<a+ah_ mm→be_ (list.map ay_) list.length j 0 list.length=be_ (list.map ay_) f' j a (ah_ mm)++(aZ_ a1_ (list.map ay_) (mm - ah_ mm) (a+ah_ mm) (mm - ah_ mm) :: pf):=λhlt=>by
   rw [hg];conv=>lhs;unfold be_
   rw [if_neg (by omega),if_pos hlt,List.append_assoc];rfl
  have gr:¬j<a+ah_ mm→be_ (list.map ay_) list.length j 0 list.length=be_ (list.map ay_) f' j (a+ah_ mm) (mm - ah_ mm)++(aZ_ a1_ (list.map ay_) (ah_ mm) a (ah_ mm) :: pf):=λhlt=>by
   rw [hg];conv=>lhs;unfold be_
   rw [if_neg (by omega),if_neg hlt,List.append_assoc];rfl
  have hw1:w.heap.size≤w3.heap.size:=hF3.chg.size
  rw [ea,ek]
  refine ⟨?_,?_⟩
  ·intro l5 hl5 w7 hF7
   have hb7:=hF7.grow.get hb3
   refine ⟨hb7,λl6 hl6 w8 hF8=>?_⟩
   have hb8:=hF8.grow.get hb7
   have s7:=hF7.grow.size
   have s8:=hF8.grow.size
   refine ⟨hb8,λw9 hF9=>?_⟩
   have n9:∀k,k∈[l5]→w3.heap.size≤k:=λk e=>by simp at e;omega
   have hb9:=hF9.stp.get hb8 λe=>by have:=n9 _ e;omega
   have ho9:=((ho3.grow hF7.grow).grow hF8.grow).keep hF9.stp λx hx e=>by have:=n9 _ e;have:=ho3.lt x hx;omega
   refine ⟨hb9,ad_.2 λw10 hF10=>?_⟩
   have n10:∀k,k∈[l6]→w3.heap.size≤k:=λk e=>by simp at e;omega
   have hb10:=hF10.stp.get hb9 λe=>by have:=n10 _ e;omega
   have ho10:=ho9.keep hF10.stp λx hx e=>by have:=n10 _ e;have:=ho3.lt x hx;omega
   refine ad_.2 ⟨_,hc 0 _ hb10 rfl,λhlt2 w11 hF11=>⟨λw'=>w'.heap[b]? = some (.cells #[.int .i64 (a:Nat),.int .i64 (mm:Nat)] T.al_ (0,0)),hF11.grow.get hb10,?_⟩,λhlt2 w11 hF11=>⟨λw'=>w'.heap[b]? = some (.cells #[.int .i64 (a:Nat),.int .i64 (mm:Nat)] T.al_ (0,0)),hF11.grow.get hb10,?_⟩⟩
   ·rw [ea] at hlt2
    have hlt3:j<a+ah_ mm:=by omega
    exact dY_ (leaves:=list.map ay_) (R:=R) (a:=a) (n:=mm) (f:=f') (ka:=a+ah_ mm) (kn:=mm - ah_ mm) (a':=a) (n':=ah_ mm) (pf:=pf) hm hmk hok hp2 (by omega) (by omega) hF11.reset rfl hk0 (by show _≤l5;omega) (by show _≤l6;omega) (by show b≠l5;omega) (by show b≠l6;omega) (hF11.grow.get hb10) hwb (ho10.grow hF11.grow) rfl hlc hpn hof hh.1 hh.2 rfl (by omega) (by omega) (by omega) (by omega) hp1 (gl hlt3)
   ·rw [ea] at hlt2
    have hlt3:¬j<a+ah_ mm:=by omega
    exact dY_ (leaves:=list.map ay_) (R:=R) (a:=a) (n:=mm) (f:=f') (ka:=a) (kn:=ah_ mm) (a':=a+ah_ mm) (n':=mm - ah_ mm) (pf:=pf) hm hmk hok hp1 (by omega) (by omega) hF11.reset rfl hk0 (by show _≤l5;omega) (by show _≤l6;omega) (by show b≠l5;omega) (by show b≠l6;omega) (hF11.grow.get hb10) hwb (ho10.grow hF11.grow) rfl hlc hpn hof (by omega) (by omega) rfl (by omega) (by omega) (by omega) (by omega) hp2 (gr hlt3)
  ·intro l5 hl5 w7 hF7
   have hb7:=hF7.grow.get hb3
   refine ⟨hb7,λl6 hl6 w8 hF8=>?_⟩
   have hb8:=hF8.grow.get hb7
   have s7:=hF7.grow.size
   have s8:=hF8.grow.size
   refine ⟨hb8,λw9 hF9=>?_⟩
   have n9:∀k,k∈[l6]→w3.heap.size≤k:=λk e=>by simp at e;omega
   have hb9:=hF9.stp.get hb8 λe=>by have:=n9 _ e;omega
   have ho9:=((ho3.grow hF7.grow).grow hF8.grow).keep hF9.stp λx hx e=>by have:=n9 _ e;have:=ho3.lt x hx;omega
   refine ⟨hb9,ad_.2 λw10 hF10=>?_⟩
   have n10:∀k,k∈[l5]→w3.heap.size≤k:=λk e=>by simp at e;omega
   have hb10:=hF10.stp.get hb9 λe=>by have:=n10 _ e;omega
   have ho10:=ho9.keep hF10.stp λx hx e=>by have:=n10 _ e;have:=ho3.lt x hx;omega
   refine ad_.2 ⟨_,hc 0 _ hb10 rfl,λhlt2 w11 hF11=>⟨λw'=>w'.heap[b]? = some (.cells #[.int .i64 (a:Nat),.int .i64 (mm:Nat)] T.al_ (0,0)),hF11.grow.get hb10,?_⟩,λhlt2 w11 hF11=>⟨λw'=>w'.heap[b]? = some (.cells #[.int .i64 (a:Nat),.int .i64 (mm:Nat)] T.al_ (0,0)),hF11.grow.get hb10,?_⟩⟩
   ·rw [ea] at hlt2
    have hlt3:j<a+ah_ mm:=by omega
    exact dY_ (leaves:=list.map ay_) (R:=R) (a:=a) (n:=mm) (f:=f') (ka:=a+ah_ mm) (kn:=mm - ah_ mm) (a':=a) (n':=ah_ mm) (pf:=pf) hm hmk hok hp2 (by omega) (by omega) hF11.reset rfl hk0 (by show _≤l5;omega) (by show _≤l6;omega) (by show b≠l5;omega) (by show b≠l6;omega) (hF11.grow.get hb10) hwb (ho10.grow hF11.grow) rfl hlc hpn hof hh.1 hh.2 rfl (by omega) (by omega) (by omega) (by omega) hp1 (gl hlt3)
   ·rw [ea] at hlt2
    have hlt3:¬j<a+ah_ mm:=by omega
    exact dY_ (leaves:=list.map ay_) (R:=R) (a:=a) (n:=mm) (f:=f') (ka:=a) (kn:=ah_ mm) (a':=a+ah_ mm) (n':=mm - ah_ mm) (pf:=pf) hm hmk hok hp1 (by omega) (by omega) hF11.reset rfl hk0 (by show _≤l5;omega) (by show _≤l6;omega) (by show b≠l5;omega) (by show b≠l6;omega) (hF11.grow.get hb10) hwb (ho10.grow hF11.grow) rfl hlc hpn hof (by omega) (by omega) rfl (by omega) (by omega) (by omega) (by omega) hp2 (gr hlt3)
 ·have hm1:mm=1:=by omega
  subst hm1
  have hpf:be_ (list.map ay_) list.length j 0 list.length=pf:=by
   obtain ⟨f',rfl⟩:∃f',f=f'+1:=⟨f - 1,by omega⟩
   rw [hg];unfold be_;rw [if_pos (by omega)];rfl
  have:=h1 w1 q c h0' hlt' (hF1.chg.same hb0 (hF1.blk 0 rfl)) (by rw [hpf];exact ho) (by rw [hpf];exact hlc) hof
  rw [hpf] at this
  exact this
end Go.Vc
namespace Go.Vc
open Go
structure DM where
 log:List UInt8
 sl:List (List UInt8)
 llog:List UInt8
 lsl:List (List UInt8)
 ws:List (Int × List UInt8)
structure DP where
 q0:Option Addr
 q1:Option Addr
 wq:Option Addr
 c0:Nat
 c1:Nat
 wc:Nat
def wrF (x:Int × List UInt8):List Value:=[.int .i64 x.1,sv8' x.2]
def dfC (p:DP) (d:DM):Array Value:=#[.int .i64 (-1),.bool false,.string (str d.log),.slice p.q0 d.sl.length p.c0,.string (str d.llog),.slice p.q1 d.lsl.length p.c1,.slice p.wq d.ws.length p.wc]
def dfS (b:Nat) (p:DP):Nat→Prop:=λk=>k=b∨ak_ p.q0 k∨ak_ p.q1 k∨ak_ p.wq k
structure DskF (w:World) (b:Nat) (p:DP) (d:DM):Prop where
 blk:w.heap[b]? = some (.cells (dfC p d) T.cq_ (0,0))
 o0:Own T.string 1 w p.q0 p.c0 (d.sl.map sv8')
 o1:Own T.string 1 w p.q1 p.c1 (d.lsl.map sv8')
 ow:Own T.bO_ 2 w p.wq p.wc (d.ws.flatMap wrF)
 n0:¬ak_ p.q0 b
 n1:¬ak_ p.q1 b
 nw:¬ak_ p.wq b
 d01:∀k,ak_ p.q0 k→¬ak_ p.q1 k
 d0w:∀k,ak_ p.q0 k→¬ak_ p.wq k
 d1w:∀k,ak_ p.q1 k→¬ak_ p.wq k
 wl:d.ws.length≤p.wc
theorem ak_.off {S:Nat→Prop} {q:Option Addr} (h:∀k,ak_ q k→¬S k):Off S q:=λa ha e=>h _ ⟨a,ha,rfl⟩ e
theorem DskF.keep {S:Nat→Prop} {w w':World} {b:Nat} {p:DP} {d:DM} (h:DskF w b p d) (g:Chg S w w') (hn:∀k,dfS b p k→¬S k):DskF w' b p d:=
 ⟨g.get h.blk (hn _ (.inl rfl)),h.o0.keep g (ak_.off λk hk=>hn k (.inr (.inl hk))),h.o1.keep g (ak_.off λk hk=>hn k (.inr (.inr (.inl hk)))),h.ow.keep g (ak_.off λk hk=>hn k (.inr (.inr (.inr hk)))),h.n0,h.n1,h.nw,h.d01,h.d0w,h.d1w,h.wl⟩
theorem DskF.grow {w w':World} {b:Nat} {p:DP} {d:DM} (h:DskF w b p d) (g:Grow w w'):DskF w' b p d:=h.keep g λ_ _ e=>e
theorem DskF.lt {w:World} {b:Nat} {p:DP} {d:DM} (h:DskF w b p d):∀k,dfS b p k→k<w.heap.size:=by
 rintro k (rfl | ⟨a,ha,rfl⟩ | ⟨a,ha,rfl⟩ | ⟨a,ha,rfl⟩)
 ·exact aj_ h.blk
 ·exact h.o0.lt a ha
 ·exact h.o1.lt a ha
 ·exact h.ow.lt a ha
theorem DskF.fs {w:World} {b:Nat} {p:DP} {d:DM} (h:DskF w b p d):Fs (dfS b p) w [⟨b,dfC p d,T.cq_,true⟩] w:=(Fr.init _ w).entry h.blk (λx h=>by cases h) λ_=>.inl rfl
def DM.now (d:DM) (n:Int) (s:List UInt8):DM:=if n = -1 then { d with log:=d.log++s } else { d with sl:=d.sl.set n.toNat s }
def DM.put (d:DM) (n:Int) (s:List UInt8):DM:={ d.now n s with ws:=d.ws++[(n,s)] }
theorem f1_ {w:World} {b:Nat} {p:DP} {d:DM} (h:DskF w b p d) {K:Value→World→Prop} (hK:K .nilIface w):aa_ PR F.gp_ ⟨[.pointer (some ⟨b,0,none⟩)]⟩ w K:=
 ia_ b (-1) false (str d.log) p.q0 d.sl.length p.c0 (str d.llog) p.q1 d.lsl.length p.c1 p.wq d.ws.length p.wc (dfS b p) K w h.fs ⟨.inl rfl,trivial⟩ ⟨(λh=>by cases h),λ_=>hK⟩
theorem m3_ {w:World} {b:Nat} {p:DP} {d:DM} (h:DskF w b p d) {K:Value→World→Prop} (hK:K .nilIface w):aa_ PR F.gm_ ⟨[.pointer (some ⟨b,0,none⟩)]⟩ w K:=
 oJ_ b (-1) false (str d.log) p.q0 d.sl.length p.c0 (str d.llog) p.q1 d.lsl.length p.c1 p.wq d.ws.length p.wc (dfS b p) K w h.fs ⟨.inl rfl,trivial⟩ ⟨λe=>absurd e (by decide),λ_=>⟨λe=>absurd e (by decide),λ_=>hK⟩⟩
theorem DskF.same {w w':World} {b:Nat} {p:DP} {d d':DM} (h:DskF w b p d) (g:Chg (· = b) w w') (hb:w'.heap[b]? = some (.cells (dfC p d') T.cq_ (0,0))) (e1:d'.sl=d.sl) (e2:d'.lsl=d.lsl) (e3:d'.ws=d.ws):DskF w' b p d':=
 ⟨hb,by rw [e1];exact h.o0.keep g (ak_.off λk hk e=>h.n0 (by rw [← e];exact hk)),by rw [e2];exact h.o1.keep g (ak_.off λk hk e=>h.n1 (by rw [← e];exact hk)),by rw [e3];exact h.ow.keep g (ak_.off λk hk e=>h.nw (by rw [← e];exact hk)),h.n0,h.n1,h.nw,h.d01,h.d0w,h.d1w,by rw [e3];exact h.wl⟩
theorem n4_ {w:World} {b:Nat} {p:DP} {d:DM} (h:DskF w b p d) {n:Int} {s:List UInt8} (hn:n = -1∨0≤n∧n<d.sl.length) (hroom:d.log.length+s.length≤9223372036854775807) {K:Value→World→Prop}
  (hK:∀w',DskF w' b p (d.now n s)→Chg (dfS b p) w w'→K (.tuple #[]) w') :
  aa_ PR F.e6_ ⟨[.pointer (some ⟨b,2,none⟩),.agg #[.int .i64 n,.string (str s)]]⟩ w K:=by
 refine qe_ b (-1) false (str d.log) p.q0 d.sl.length p.c0 (str d.llog) p.q1 d.lsl.length p.c1 p.wq d.ws.length p.wc n (str s) (dfS b p) K w h.fs ⟨.inl rfl,trivial⟩ λb0 hb0=>⟨λe w0 hF0=>?_,λe w0 hF0=>?_⟩
 ·subst e
  refine ⟨(· = w0),rfl,ad_.2 ⟨str d.log,λw1 e=>by subst e;exact hF0.ld 0 2 rfl rfl rfl,by rw [ai_,ai_];exact hroom,λw2 hF2=>?_⟩⟩
  have g2:Chg (· = b) w w2:=hF0.grow.chg.trans (hF2.stp.mono λi _ hi=>by simpa using hi) λ_ _ e=>e
  refine hK w2 (h.same g2 ?_ rfl rfl rfl) hF2.chg
  have:=hF2.blk 0 rfl
  rw [aC_] at this
  exact this
 ·obtain ⟨hn1,hn2⟩:=hn.resolve_left e
  obtain ⟨m,rfl⟩:=Int.eq_ofNat_of_zero_le hn1
  have hm:m<d.sl.length:=by omega
  have h0:=h.grow hF0.grow
  refine ⟨λ_=>True,trivial,?_⟩
  obtain ⟨a,ha,x1,x2,x3,ho,g⟩:=h0.o0.set (i:=m) (v:=sv8' s) (by simpa using hm) rfl (K:=λw'=>Own T.string 1 w' p.q0 p.c0 ((d.sl.map sv8').set m (sv8' s))∧Chg (ak_ p.q0) w0 w') λw' ho g hs=>⟨ho,g⟩
  have fin:∀w',Own T.string 1 w' p.q0 p.c0 ((d.sl.map sv8').set m (sv8' s))→Chg (ak_ p.q0) w0 w'→Fs (dfS b p) w [⟨b,dfC p d,T.cq_,true⟩,⟨b0,#[.int .i64 (m:Int),.string (str s)],T.bO_,true⟩] w'∧K (.tuple #[]) w':=?_
  ·refine ⟨a,ha,by omega,by omega,ad_.2 ?_⟩
   rw [show (Int.toNat (m:Int))*1=m by simp]
   exact ⟨x1,x2,x3,fin _ ho g⟩
  clear x1 x2 x3 ho g
  intro w' ho g
  have hne:¬ak_ p.q0 b0:=λhk=>by
   have:=h.lt b0 (.inr (.inl hk));omega
  refine ⟨hF0.reset.step g (λx hx=>?_) (λk _ hk=>.inr (.inl hk)),hK w' ?_ (hF0.chg.trans (g.mono λk _ hk=>.inr (.inl hk)) λ_ _ e=>e)⟩
  ·simp only [List.mem_cons,List.not_mem_nil,or_false] at hx
   rcases hx with rfl | rfl
   ·exact h.n0
   ·exact hne
  ·have ed:d.now (m:Int) s = { d with sl:=d.sl.set m s }:=by
    unfold DM.now;rw [if_neg (by omega)];rfl
   rw [ed]
   refine ⟨?_,by simpa [List.map_set] using ho,h0.o1.keep g (ak_.off λk hk e=>h.d01 k e hk),h0.ow.keep g (ak_.off λk hk e=>h.d0w k e hk),h.n0,h.n1,h.nw,h.d01,h.d0w,h.d1w,h.wl⟩
   have:=g.get h0.blk h.n0
   simpa [dfC] using this
theorem iE_ {w:World} {b:Nat} {p:DP} {d:DM} (h:DskF w b p d) {n:Int} {s:List UInt8} (hn:n = -1∧s≠[]∨0≤n∧n<d.sl.length) (hroom:d.log.length+s.length≤9223372036854775807) (hw:d.ws.length≤1000000) {K:Value→World→Prop}
  (hK:∀w' q' c',DskF w' b { p with wq:=q',wc:=c' } (d.put n s)→Chg (dfS b p) w w'→(∀a,q'=some a→p.wq=some a∨w.heap.size≤a.block)→K .nilIface w') :
  aa_ PR F.go_ ⟨[.pointer (some ⟨b,0,none⟩),.agg #[.int .i64 n,.string (str s)]]⟩ w K:=by
 obtain ⟨i,hi,hk,hbt,hz⟩:=nz_
 have hblt:=aj_ h.blk
 refine h__ b (-1) false (str d.log) p.q0 d.sl.length p.c0 (str d.llog) p.q1 d.lsl.length p.c1 p.wq d.ws.length p.wc n (str s) (dfS b p) K w h.fs ⟨.inl rfl,trivial⟩ λb0 hb0 w0 hF0=>?_
 have h0:=h.grow hF0.grow
 have hne0:∀k,dfS b p k→k≠b0:=λk hk e=>by have:=h.lt k hk;omega
 have hne:¬str s=⟨#[]⟩∨n≠-1:=by
  rcases hn with ⟨e,hs⟩ | ⟨e,_⟩
  ·exact .inl λe2=>hs (str_inj (b:=[]) e2)
  ·exact .inr (by omega)
 have hn':n = -1∨0≤n∧n<d.sl.length:=hn.imp (λh=>h.1) id
 have hnow:(d.now n s).ws=d.ws:=by unfold DM.now;split <;> rfl
 have hput:(d.put n s).ws.length=(d.now n s).ws.length+1:=by rw [hnow];simp [DM.put]
 refine m3_ h0 ⟨_,rfl,_,_,_,_,_,_,_,_,_,_,_,_,_,hF0.reset,λ_=>⟨λe=>⟨λh=>absurd h (hne.resolve_right λh=>h e),λ_ w2 hF2=>⟨λ_=>True,trivial,?_⟩⟩,λe w2 hF2=>⟨λ_=>True,trivial,?_⟩⟩,(λt x h=>by cases h),.inl rfl⟩
 all_goals
  have h2:=h0.grow hF2.grow
  refine n4_ h2 hn' hroom λw3 h3 g3=>?_
  have hF3:Fs (dfS b p) w [⟨b,dfC p (d.now n s),T.cq_,true⟩,⟨b0,#[.int .i64 n,.string (str s)],T.bO_,true⟩] w3:=hF2.mod g3 h3.blk (λx hx=>by simp at hx;subst hx;exact λe=>hne0 _ e rfl) λk _ hk=>hk
  refine ⟨rfl,_,_,_,_,_,_,_,_,_,_,_,_,_,hF3,λw4 hF4=>⟨λx=>x.cell? ⟨b,6,none⟩=some (.slice p.wq (d.now n s).ws.length p.wc),hF4.ld 0 6 rfl rfl rfl,ad_.2 ⟨_,_,_,λw5 h=>h,λb5 hb5 w6 hF6=>⟨hF6.ld 0 6 rfl rfl rfl,?_⟩⟩⟩⟩
  have h6:=(h3.grow hF4.grow).grow hF6.grow
  have sz:w.heap.size≤w6.heap.size:=by have:=hF6.chg.size;omega
  have sz4:w.heap.size≤w4.heap.size:=by have:=hF4.chg.size;omega
  refine cL_ <| ei_ (i:=i) l2_ l2_ hi hz (by rw [hk];rfl) (by rw [hbt];decide) (by rw [hk];exact h6.ow) (by rw [hk];exact bM_ (s:=2) (f:=wrF) (λ_=>rfl) _) h6.wl (hF6.sl 2 rfl) (by rw [hk];rfl) (by simp [oneC]) (by rw [hbt,hnow];omega) λq' c' w7 ho7 hc7 g7 hq7 _=>?_
  rw [hk] at ho7
  have hF7:=hF6.reset.step g7 (λx hx=>by
   simp only [List.mem_cons,List.not_mem_nil,or_false] at hx
   rcases hx with rfl | rfl | rfl
   ·exact h.nw
   ·exact λe=>hne0 _ (.inr (.inr (.inr e))) rfl
   ·intro e
    have:=h.lt b5 (.inr (.inr (.inr e)))
    omega) (λk _ hk=>.inr (.inr (.inr hk)))
  refine ⟨_,_,_,rfl,hF7,hF7.ld 0 6 rfl rfl rfl,λw8 hF8=>?_⟩
  have g8:Chg (· = b) w7 w8:=hF8.stp.mono λk _ e=>by simpa using e
  have hqn:∀k,ak_ q' k→ak_ p.wq k∨w.heap.size≤k:=by
   rintro k ⟨a,ha,rfl⟩
   rcases hq7 a ha with h' | h'
   ·exact .inl ⟨a,h',rfl⟩
   ·subst h';exact .inr sz
  have hqb:¬ak_ q' b:=λhk=>(hqn b hk).elim h.nw λe=>by omega
  have h7a:=h6.o0.keep g7 (ak_.off λk hk e=>h.d0w k hk e)
  have h7b:=h6.o1.keep g7 (ak_.off λk hk e=>h.d1w k hk e)
  refine hK w8 q' c' ⟨?_,h7a.keep g8 (ak_.off λk hk e=>h.n0 (by rw [← e];exact hk)),h7b.keep g8 (ak_.off λk hk e=>h.n1 (by rw [← e];exact hk)),?_,h.n0,h.n1,hqb,h.d01,λk hk e=>(hqn k e).elim (h.d0w k hk) λe=>?_,λk hk e=>(hqn k e).elim (h.d1w k hk) λe=>?_,?_⟩ hF8.chg λa ha=>(hq7 a ha).imp id λe=>by subst e;exact sz
  ·have:=hF8.blk 0 rfl
   unfold dfC
   rw [hput]
   exact this
  ·have:=ho7.keep g8 (ak_.off λk hk e=>hqb (by rw [← e];exact hk))
   simpa [DM.put,List.flatMap_append,hnow,wrF,sv8'] using this
  ·have:=h.lt k (.inr (.inl hk));omega
  ·have:=h.lt k (.inr (.inr (.inl hk)));omega
  ·rw [hput];exact hc7
end Go.Vc
namespace Go.Vc
open Go
theorem kZ_ {w:World} {b:Nat} {p:DP} {d:DM} (h:DskF w b p d) {s:List UInt8} (hs:s≠[]) (hroom:d.log.length+s.length≤9223372036854775807) (hw:d.ws.length≤1000000) {K:Value→World→Prop}
  (hK:∀w' q' c',DskF w' b { p with wq:=q',wc:=c' } (d.put (-1) s)→Chg (dfS b p) w w'→(∀a,q'=some a→p.wq=some a∨w.heap.size≤a.block)→K .nilIface w') :
  aa_ PR F.e7_ ⟨[.pointer (some ⟨b,0,none⟩),.string (str s)]⟩ w K:=by
 refine gy_ b (-1) false (str d.log) p.q0 d.sl.length p.c0 (str d.llog) p.q1 d.lsl.length p.c1 p.wq d.ws.length p.wc (str s) (dfS b p) K w h.fs ⟨.inl rfl,trivial⟩ (f1_ h ⟨_,rfl,h.fs,λ_=>?_,(λt x h=>by cases h),.inl rfl⟩)
 refine iE_ h (.inl ⟨rfl,hs⟩) hroom hw λw1 q' c' h1 g1 hq=>?_
 exact ⟨_,rfl,_,_,_,_,_,_,_,_,_,_,_,_,_,h.fs.mod g1 h1.blk (λx hx=>by cases hx) λ_ _ e=>e,hK w1 q' c' h1 g1 hq⟩
theorem pf_ {w:World} {b:Nat} {p:DP} {d:DM} (h:DskF w b p d) {K:Value→World→Prop} (hK:K (.tuple #[.string (str d.log),.nilIface]) w):aa_ PR F.hk_ ⟨[.pointer (some ⟨b,0,none⟩)]⟩ w K:=
 jD_ b (-1) false (str d.log) p.q0 d.sl.length p.c0 (str d.llog) p.q1 d.lsl.length p.c1 p.wq d.ws.length p.wc (dfS b p) K w h.fs ⟨.inl rfl,trivial⟩ (f1_ h ⟨_,rfl,h.fs,λ_=>hK,(λt x h=>by cases h),.inl rfl⟩)
theorem lQ_ {w:World} {b:Nat} {p:DP} {d:DM} (h:DskF w b p d) {K:Value→World→Prop} (hK:K (.int .i64 d.ws.length) w):aa_ PR F.fF_ ⟨[.pointer (some ⟨b,0,none⟩)]⟩ w K:=
 hM_ b (-1) false (str d.log) p.q0 d.sl.length p.c0 (str d.llog) p.q1 d.lsl.length p.c1 p.wq d.ws.length p.wc (dfS b p) K w h.fs ⟨.inl rfl,trivial⟩ hK
end Go.Vc
namespace Go.Vc
open Go
structure JP where
 bd:Nat
 p:DP
 q:Option Addr
 c:Nat
def jfS (bj:Nat) (j:JP):Nat→Prop:=λk=>k=bj∨dfS j.bd j.p k∨ak_ j.q k
structure JrnF (w:World) (bj:Nat) (j:JP) (recs:List (List UInt8)) (d:DM):Prop where
 blk:w.heap[bj]? = some (.cells #[.pointer (some ⟨j.bd,0,none⟩),.slice j.q recs.length j.c,.int .i64 (logL recs).length] T.bv_ (0,0))
 own:Own T.string 1 w j.q j.c (recs.map sv8')
 cap:recs.length≤j.c
 dsk:DskF w j.bd j.p d
 log:d.log=logL recs
 nb:¬dfS j.bd j.p bj
 nq:¬ak_ j.q bj
 qd:∀k,ak_ j.q k→¬dfS j.bd j.p k
theorem JrnF.keep {S:Nat→Prop} {w w':World} {bj:Nat} {j:JP} {recs:List (List UInt8)} {d:DM} (h:JrnF w bj j recs d) (g:Chg S w w') (hn:∀k,jfS bj j k→¬S k):JrnF w' bj j recs d:=
 ⟨g.get h.blk (hn _ (.inl rfl)),h.own.keep g (ak_.off λk hk=>hn k (.inr (.inr hk))),h.cap,h.dsk.keep g λk hk=>hn k (.inr (.inl hk)),h.log,h.nb,h.nq,h.qd⟩
theorem JrnF.grow {w w':World} {bj:Nat} {j:JP} {recs:List (List UInt8)} {d:DM} (h:JrnF w bj j recs d) (g:Grow w w'):JrnF w' bj j recs d:=h.keep g λ_ _ e=>e
theorem JrnF.lt {w:World} {bj:Nat} {j:JP} {recs:List (List UInt8)} {d:DM} (h:JrnF w bj j recs d):∀k,jfS bj j k→k<w.heap.size:=by
 rintro k (rfl | hk | ⟨a,ha,rfl⟩)
 ·exact aj_ h.blk
 ·exact h.dsk.lt k hk
 ·exact h.own.lt a ha
theorem qI_ {b:Nat} {p:DP} {q':Option Addr} {c':Nat} {w:World} (hq:∀a,q'=some a→p.wq=some a∨w.heap.size≤a.block) {k:Nat} (h:dfS b { p with wq:=q',wc:=c' } k):dfS b p k∨w.heap.size≤k:=by
 rcases h with h | h | h | ⟨a,ha,rfl⟩
 ·exact .inl (.inl h)
 ·exact .inl (.inr (.inl h))
 ·exact .inl (.inr (.inr (.inl h)))
 ·rcases hq a ha with h | h
  ·exact .inl (.inr (.inr (.inr ⟨a,h,rfl⟩)))
  ·exact .inr h
theorem JrnF.fs {w:World} {bj:Nat} {j:JP} {recs:List (List UInt8)} {d:DM} (h:JrnF w bj j recs d):Fs (jfS bj j) w [⟨bj,#[.pointer (some ⟨j.bd,0,none⟩),.slice j.q recs.length j.c,.int .i64 (logL recs).length],T.bv_,true⟩] w:=(Fr.init _ w).entry h.blk (λx h=>by cases h) λ_=>.inl rfl
theorem iP_ {w:World} {bj:Nat} {j:JP} {recs:List (List UInt8)} {d:DM} (h:JrnF w bj j recs d) {y:Option Addr} {cy:Nat} {s:List UInt8} (hy:Sl w y [sv8' s]) (hyo:∀a,y=some a→¬jfS bj j a.block) (hs:s.length≤60000) (hb:(logL recs).length≤1099511627776) (hr:recs.length≤1099511627776) (hw:d.ws.length≤1000000) {K:Value→World→Prop}
  (hK:∀w' j',JrnF w' bj j' (recs++[s]) (d.put (-1) (fv_ crcN s))→Chg (jfS bj j) w w'→j'.bd=j.bd→(∀k,jfS bj j' k→jfS bj j k∨w.heap.size≤k)→K .nilIface w') :
  aa_ PR F.dz_ ⟨[.pointer (some ⟨bj,0,none⟩),.slice y 1 cy]⟩ w K:=by
 have hlen:=g7_ crcN s
 have h0:=h.fs
 have hbj:=aj_ h.blk
 refine eJ_ bj (some ⟨j.bd,0,none⟩) j.q recs.length j.c (logL recs).length y 1 cy (jfS bj j) K w h0 ⟨.inl rfl,trivial⟩ ?_
 refine ⟨λt i m w'=>∃k:Nat,i=k∧k≤1∧m=1 - k∧t=str (if k=0 then [] else fv_ crcN s)∧Grow w w',⟨_,0,rfl,by omega,rfl,rfl,.refl _ _⟩,?_⟩
 rintro t i D m w1 ⟨k,rfl,hk,rfl,rfl,g1⟩ hF1
 refine ⟨λhlt=>?_,λhge=>?_⟩
 ·have hk0:k=0:=by omega
  subst hk0
  refine (hy.grow g1).rd (v:=sv8' s) (by simp) (by omega) rfl λa ha=>⟨_,ha,?_⟩
  refine o__ hs λw2 g2=>⟨_,_,rfl,hF1.after g2,λ_=>⟨?_,_,?_,1,rfl,by omega,rfl,?_,g1.trans g2⟩,(λt x h=>by cases h),.inl rfl⟩
  ·rw [ai_,ai_,hlen];simp;omega
  ·omega
  ·rw [aC_];rfl
 ·have hk1:k=1:=by omega
  subst hk1
  rw [if_neg (by omega),ai_]
  have hsn:fv_ crcN s≠[]:=λe=>by have:=congrArg List.length e;rw [hlen] at this;simp at this
  have s1:=g1.size
  have hd1:=h.dsk.grow g1
  refine kZ_ hd1 hsn (by rw [h.log,hlen];omega) hw λw2 wq' wc' hd2 g2 hq2=>?_
  have hF2:=hF1.step g2 (λx hx=>by simp at hx;subst hx;exact h.nb) λk _ e=>.inr (.inl e)
  refine ⟨_,rfl,hF2,λ_=>?_,(λt x h=>by cases h),.inl rfl⟩
  have ho2:Own T.string 1 w2 j.q j.c (recs.map sv8'):=(h.own.grow g1).keep g2 (ak_.off λk hk e=>h.qd k hk e)
  have hy2:Sl w2 y [sv8' s]:=(hy.grow g1).keep g2 λa ha e=>hyo a ha (.inr (.inl e))
  refine jO_ ho2 rfl h.cap (ys:=[s]) hy2 rfl (by omega) λq' c' w3 ho3 hc3 g3 hq3=>?_
  have hF3:=hF2.step g3 (λx hx e=>by simp at hx;subst hx;exact h.nq e) λk _ e=>.inr (.inr e)
  refine ⟨_,_,_,rfl,hF3,λw4 hF4=>?_⟩
  have g4:Chg (· = bj) w3 w4:=hF4.stp.mono λi _ hi=>by simpa using hi
  have s2:=g2.size
  have hqn:∀k,ak_ q' k→ak_ j.q k∨w2.heap.size≤k:=by
   rintro k ⟨a,ha,rfl⟩
   rcases hq3 a ha with e | e
   ·exact .inl ⟨a,e,rfl⟩
   ·subst e;exact .inr (Nat.le_refl _)
  have hdn:∀k,dfS j.bd { j.p with wq:=wq',wc:=wc' } k→dfS j.bd j.p k∨w.heap.size≤k:=λk hk=>(qI_ hq2 hk).imp id λe=>Nat.le_trans s1 e
  have hdl:∀k,dfS j.bd { j.p with wq:=wq',wc:=wc' } k→k<w2.heap.size:=λk hk=>hd2.lt k hk
  have hdq:∀k,dfS j.bd { j.p with wq:=wq',wc:=wc' } k→¬ak_ j.q k:=λk hk e=>by
   rcases hdn k hk with h' | h'
   ·exact h.qd k e h'
   ·have:=h.lt k (.inr (.inr e));omega
  have hdb:¬dfS j.bd { j.p with wq:=wq',wc:=wc' } bj:=λe=>by
   rcases hdn bj e with h' | h'
   ·exact h.nb h'
   ·omega
  have hqb:¬ak_ q' bj:=λe=>(hqn bj e).elim h.nq λe=>by omega
  have hd4:=(hd2.keep g3 hdq).keep g4 λk hk e=>hdb (by rw [← e];exact hk)
  refine hK w4 ⟨j.bd,{ j.p with wq:=wq',wc:=wc' },q',c'⟩ ⟨?_,ho3.keep g4 (ak_.off λk hk e=>hqb (by rw [← e];exact hk)),by simpa using hc3,hd4,?_,hdb,hqb,λk hk e=>?_⟩ hF4.chg rfl λk hk=>?_
  ·have hb4:=hF4.blk 0 rfl
   simp only [] at hb4
   rw [w64 (by rw [hlen];omega) (by rw [hlen];omega)] at hb4
   rw [hb4,fa_,List.length_append]
   simp
  ·show (d.put (-1) (fv_ crcN s)).log=_
   rw [fa_,← h.log];rfl
  ·rcases hqn k hk with h' | h'
   ·exact hdq k e h'
   ·have:=hdl k e;omega
  ·rcases hk with h' | h' | h'
   ·exact .inl (.inl h')
   ·exact (hdn k h').imp (λe=>.inr (.inl e)) id
   ·rcases hqn k h' with e | e
    ·exact .inl (.inr (.inr e))
    ·exact .inr (by omega)
end Go.Vc
