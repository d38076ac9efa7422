/-
  A part of the proof of the statement FetchPlaysCardSaid, in Lean: Cs1, Gp1, MirP5, Gp2, Bld, Sd1, Sd2, Mp1, Sd3, MirP9. By an AI agent.
-/
import Derived.Test.YthcpblejnhhhdaaGreatDoorP04
import Derived.Test.YthcpblejnhhhdaaGreatDoorP02
import Derived.Lib.UnsafeStr
import Derived.Maps.Keyed
import Derived.DeepKeys4
set_option linter.unusedSimpArgs false
set_option linter.unusedVariables false
set_option maxRecDepth 100000
namespace Go.Vc
open Go
theorem jU_:∃i,PR.info? T.aq_=some i∧i.size=2∧i.bytes=16∧i.zero=some (.agg #[.int .i64 0,.int .i64 0]):=by
 have h:(match PR.info? T.aq_ with | some i=>i.size == 2 && i.bytes == 16 && (match i.zero with | some (.agg ⟨[.int .i64 0,.int .i64 0]⟩)=>true | _=>false) | none=>false)=true:=by kernel_rfl
 split at h
 ·rename_i i hi
  simp only [Bool.and_eq_true,beq_iff_eq] at h
  refine ⟨i,hi,h.1.1,h.1.2,?_⟩
  have h2:=h.2
  split at h2
  ·assumption
  ·cases h2
 ·cases h
theorem lY_:PR.underlying T.bk_=some (.slice T.aq_):=by kernel_rfl
theorem app0 {ts e:TypeId} {k by_:Nat} {z:Value} (hu:PR.underlying ts=some (.slice e)) (ht:∃i,PR.info? e=some i∧i.size=k∧i.bytes=by_∧i.zero=some z) (hz:z.cells.size=k) (hk:0<k) (hby:by_≠0) {w:World} {q q2:Option Addr} {l2 c2:Nat} {ys:List Value} {K:Value→World→Prop}
  (ho:Own e k w q 0 []) (hs:Sl w q2 ys) (hl2:ys.length=l2*k) (hone:∀y,y∈ys→oneC y=true) (hroom:(2*l2+1024)*by_≤281474976710656)
  (hK:∀q' c' w',Own e k w' q' c' ys→l2≤c'→Grow w w'→(∀a,q'=some a→q=some a∨w.heap.size≤a.block)→K (.slice q' l2 c') w') :
  rn PR (Builtin.append_ #[ts,ts] ts #[.slice q 0 0,.slice q2 l2 c2]) K w:=by
 obtain ⟨i,hi,hk',hb,hz'⟩:=ht
 subst hk';subst hb
 refine df_ <| eV_ (xs:=[]) (l:=0) hu hu hi hz' hz hby ho (by simp) (Nat.le_refl _) hs hl2 hone (by rw [Nat.zero_add];exact hroom) λq' c' w' h1 h2 h3 h4 h5=>?_
 rw [Nat.zero_add] at *
 rw [List.nil_append] at h1
 refine hK q' c' w' h1 h2 (h5 ?_) λa ha=>?_
 ·by_cases h0:l2=0
  ·right;exact List.eq_nil_of_length_eq_zero (by rw [hl2,h0,Nat.zero_mul])
  ·left;omega
 ·rcases h4 a ha with h | h
  ·exact .inl h
  ·subst h;exact .inr (Nat.le_refl _)
theorem Own.empty {e:TypeId} {k:Nat} {w:World} {b:Nat} (h:w.heap[b]? = some (.cells #[] e (0,0))):Own e k w (some ⟨b,0,none⟩) 0 []:=
 .inr ⟨b,0,#[],rfl,h,by simp,by omega,by simp,λi hi=>by simp at hi⟩
theorem kJ_ {q:Option Addr} {n c:Nat} {l:List Int} {w:World} (hs:Sl w q (l.map iv)) (hl:n=l.length) (hn:n≤1000000) {K:Value→World→Prop}
  (hK:∀w' q' c',Grow w w'→Own T.int 1 w' q' c' (l.map iv)→n≤c'→Off (λk=>k<w.heap.size) q'→K (.slice q' n c') w'):aa_ PR F.dE_ ⟨[.slice q n c]⟩ w K:=by
 subst hl
 refine eM_ q l.length c S0 K w ⟨λh=>?_,λa ha b hb w0 h0=>?_⟩
 ·have:l=[]:=by
   rcases hs with hs | ⟨b,o,h',_⟩
   ·simpa using hs
   ·rw [h] at h';cases h'
  subst this
  exact hK w none 0 (.refl _ _) (.nil _ _ _) (Nat.le_refl _) (.none _)
 ·have hb0:=h0.blk 0 rfl
  refine app0 oG_ qL_ rfl (by decide) (by decide) (.empty hb0) (hs.grow h0.grow) (by simp) (λy hy=>by obtain ⟨b,_,rfl⟩:=List.mem_map.1 hy;rfl) (by omega) λq' c' w' ho hc g hq=>?_
  refine ⟨_,_,_,rfl,h0.after g,hK w' q' c' (h0.grow.trans g) ho hc λa ha hlt=>?_⟩
  rcases hq a ha with h | h
  ·cases h;simp only [] at hlt;omega
  ·have:=h0.chg.size;omega
theorem kI_ {q:Option Addr} {n c:Nat} {l:List ByteArray} {w:World} (hs:Sl w q (l.map sv1)) (hl:n=l.length) (hn:n≤1000000) {K:Value→World→Prop}
  (hK:∀w' q' c',Grow w w'→Own T.string 1 w' q' c' (l.map sv1)→n≤c'→Off (λk=>k<w.heap.size) q'→K (.slice q' n c') w'):aa_ PR F.cf_ ⟨[.slice q n c]⟩ w K:=by
 subst hl
 refine cU_ q l.length c S0 K w ⟨λh=>?_,λa ha b hb w0 h0=>?_⟩
 ·have:l=[]:=by
   rcases hs with hs | ⟨b,o,h',_⟩
   ·simpa using hs
   ·rw [h] at h';cases h'
  subst this
  exact hK w none 0 (.refl _ _) (.nil _ _ _) (Nat.le_refl _) (.none _)
 ·have hb0:=h0.blk 0 rfl
  refine app0 kX_ oQ_ rfl (by decide) (by decide) (.empty hb0) (hs.grow h0.grow) (by simp) (λy hy=>by obtain ⟨b,_,rfl⟩:=List.mem_map.1 hy;rfl) (by omega) λq' c' w' ho hc g hq=>?_
  refine ⟨_,_,_,rfl,h0.after g,hK w' q' c' (h0.grow.trans g) ho hc λa ha hlt=>?_⟩
  rcases hq a ha with h | h
  ·cases h;simp only [] at hlt;omega
  ·have:=h0.chg.size;omega
def encE (l:List (Int × Int)):List Value:=l.flatMap λe=>[iv e.1,iv e.2]
theorem aI_ (l:List (Int × Int)):(encE l).length=l.length*2:=by
 induction l with
 | nil=>rfl
 | cons x l ih=>simp only [encE,List.flatMap_cons,List.length_append,List.length_cons,List.length_nil] at ih ⊢;rw [Nat.succ_mul];omega
theorem nn_ {l:List (Int × Int)} {y:Value} (h:y∈encE l):oneC y=true:=by
 obtain ⟨e,_,he⟩:=List.mem_flatMap.1 h
 simp at he;rcases he with rfl | rfl <;> rfl
theorem i5_ {q:Option Addr} {n c:Nat} {l:List (Int × Int)} {w:World} (hs:Sl w q (encE l)) (hl:n=l.length) (hn:n≤1000000) {K:Value→World→Prop}
  (hK:∀w' q' c',Grow w w'→Own T.aq_ 2 w' q' c' (encE l)→n≤c'→Off (λk=>k<w.heap.size) q'→K (.slice q' n c') w'):aa_ PR F.bI_ ⟨[.slice q n c]⟩ w K:=by
 subst hl
 refine ca_ q l.length c S0 K w ⟨λh=>?_,λa ha b hb w0 h0=>?_⟩
 ·have:l=[]:=by
   rcases hs with hs | ⟨b,o,h',_⟩
   ·have:=aI_ l;rw [hs] at this;exact List.eq_nil_of_length_eq_zero (by simp at this;omega)
   ·rw [h] at h';cases h'
  subst this
  exact hK w none 0 (.refl _ _) (.nil _ _ _) (Nat.le_refl _) (.none _)
 ·have hb0:=h0.blk 0 rfl
  refine app0 lY_ jU_ rfl (by decide) (by decide) (.empty hb0) (hs.grow h0.grow) (aI_ l) (λy hy=>nn_ hy) (by omega) λq' c' w' ho hc g hq=>?_
  refine ⟨_,_,_,rfl,h0.after g,hK w' q' c' (h0.grow.trans g) ho hc λa ha hlt=>?_⟩
  rcases hq a ha with h | h
  ·cases h;simp only [] at hlt;omega
  ·have:=h0.chg.size;omega
theorem Sl.sub {w:World} {q:Option Addr} {xs:List Value} {c a b:Nat} (h:Sl w q xs) (hb:b≤xs.length) (hc:xs.length≤c):Sl w (if c=a then q else Option.map (λx=>Addr.add x (a*1)) q) ((xs.drop a).take (b - a)):=by
 by_cases e:c=a
 ·left
  rw [List.take_eq_nil_iff];left;omega
 ·rw [if_neg e]
  rcases h with rfl | ⟨blk,o,rfl,cs,T,fz,h1,h2⟩
  ·left;simp
  ·right
   refine ⟨blk,o+a,by simp [au_],cs,T,fz,h1,λi hi=>?_⟩
   simp only [List.length_take,List.length_drop] at hi
   rw [List.getElem?_take_of_lt (by omega),List.getElem?_drop,Nat.add_assoc]
   exact h2 _ (by omega)
def rowOf (B T:List Int) (v:Nat):List Int:=(T.drop (B.getD v 0).toNat).take ((B.getD (v+1) 0).toNat - (B.getD v 0).toNat)
structure CsrL (nodes:Nat) (B T:List Int):Prop where
 len:B.length=nodes+1
 nn:∀v,v≤nodes→0≤B.getD v 0∧B.getD v 0≤T.length
 mono:∀v,v<nodes→B.getD v 0≤B.getD (v+1) 0
 row:∀v,v<nodes→e__ nodes (rowOf B T v)
 small:T.length≤100000
def hg_ (w:World) (b nodes:Nat) (B Tg:List Int):Prop:=
 ∃qb cb qt ct,w.heap[b]? = some (.cells #[.slice qb (nodes+1) cb,.slice qt Tg.length ct] T.mC_ (0,0))∧Tg.length≤ct∧Sl w qb (B.map iv)∧Sl w qt (Tg.map iv)
theorem hg_.grow {w w':World} {b nodes:Nat} {B Tg:List Int} (h:hg_ w b nodes B Tg) (g:Grow w w'):hg_ w' b nodes B Tg:=by
 obtain ⟨qb,cb,qt,ct,h1,h2,h3,h4⟩:=h
 exact ⟨qb,cb,qt,ct,Grow.get g h1,h2,h3.grow g,h4.grow g⟩
theorem b4_ {w:World} {b nodes:Nat} {B Tg:List Int} (h:hg_ w b nodes B Tg) (hn:nodes≤4096) {K:Value→World→Prop} (hK:K (.int .i64 nodes) w):aa_ PR F.ed_ ⟨[.pointer (some ⟨b,0,none⟩)]⟩ w K:=by
 obtain ⟨qb,cb,qt,ct,h1,h2,h3,h4⟩:=h
 refine kG_ b qb (nodes+1) cb qt Tg.length ct (· = b) K w ((Fr.init _ w).entry h1 (λx h=>by cases h) λ_=>rfl) ⟨rfl,trivial⟩ ?_
 rw [w64 (by omega) (by omega),show ((nodes+1:Nat):Int) - 1=nodes by omega];exact hK
theorem oo_ {w:World} {b nodes:Nat} {B Tg:List Int} (h:hg_ w b nodes B Tg) {K:Value→World→Prop} (hK:K (.int .i64 Tg.length) w):aa_ PR F.h7_ ⟨[.pointer (some ⟨b,0,none⟩)]⟩ w K:=by
 obtain ⟨qb,cb,qt,ct,h1,h2,h3,h4⟩:=h
 exact kH_ b qb (nodes+1) cb qt Tg.length ct (· = b) K w ((Fr.init _ w).entry h1 (λx h=>by cases h) λ_=>rfl) ⟨rfl,trivial⟩ hK
theorem qU_ {w:World} {b nodes:Nat} {B Tg:List Int} (h:hg_ w b nodes B Tg) (hL:CsrL nodes B Tg) (hn:nodes≤4096) {v:Nat} (hv:v<nodes) {K:Value→World→Prop}
  (hK:∀w' q c,Grow w w'→Sl w' q ((rowOf B Tg v).map iv)→(rowOf B Tg v).length≤c→K (.tuple #[.slice q (rowOf B Tg v).length c,.nilIface]) w'):aa_ PR F.j8_ ⟨[.pointer (some ⟨b,0,none⟩),.int .i64 v]⟩ w K:=by
 have hc:=h
 obtain ⟨qb,cb,qt,ct,h1,h2,h3,h4⟩:=h
 have n1:=hL.nn v (by omega)
 have n2:=hL.nn (v+1) (by omega)
 have n3:=hL.mono v hv
 have hl:=hL.len
 refine mB_ b qb (nodes+1) cb qt Tg.length ct v (· = b) K w ((Fr.init _ w).entry h1 (λx h=>by cases h) λ_=>rfl) ⟨rfl,trivial⟩ ⟨λh=>by omega,λ_=>?_⟩
 refine b4_ hc hn ⟨_,rfl,(Fr.init _ w).entry h1 (λx h=>by cases h) λ_=>rfl,λh=>by omega,λ_ w1 hF1=>?_⟩
 have g1:Grow w w1:=hF1.grow
 refine ⟨(· = w1),rfl,?_⟩
 refine (h3.grow g1).rd (v:=iv (B.getD v 0)) (by simp [hl]) (by omega) (gw_ (by omega)) λa ha=>⟨B.getD v 0,λw2 h2=>by subst h2;exact ha,?_⟩
 have ev1:IntKind.wrap .i64 ((v:Int)+1)=((v+1:Nat):Int):=wr1 (by omega)
 rw [ev1]
 refine (h3.grow g1).rd (v:=iv (B.getD (v+1) 0)) (by simp [hl]) (by omega) (gw_ (by omega)) λa ha=>⟨B.getD (v+1) 0,λw2 h2=>by subst h2;exact ha,by omega,by omega,by omega,by omega,?_⟩
 have hlen:(rowOf B Tg v).length=(B.getD (v+1) 0).toNat - (B.getD v 0).toNat:=by
  unfold rowOf;rw [List.length_take,List.length_drop];omega
 have hsub:=(h4.grow g1).sub (a:=(B.getD v 0).toNat) (b:=(B.getD (v+1) 0).toNat) (c:=ct) (by rw [List.length_map];omega) (by rw [List.length_map];exact h2)
 rw [← List.map_drop,← List.map_take] at hsub
 rw [← hlen]
 exact hK w1 _ _ g1 hsub (by rw [hlen];omega)
theorem lI_ {w:World} {b nodes:Nat} {B Tg:List Int} (h:hg_ w b nodes B Tg) (hL:CsrL nodes B Tg) (hn:nodes≤4096) {v:Nat} (hv:v<nodes) {K:Value→World→Prop}
  (hK:∀w' q c,Grow w w'→Sl w' q ((rowOf B Tg v).map iv)→K (.tuple #[.slice q (rowOf B Tg v).length c,.nilIface]) w'):aa_ PR F.dw_ ⟨[.pointer (some ⟨b,0,none⟩),.int .i64 v]⟩ w K:=by
 have hc:=h
 obtain ⟨qb,cb,qt,ct,h1,h2,h3,h4⟩:=h
 have hsm:=hL.small
 have hlen:(rowOf B Tg v).length≤Tg.length:=by unfold rowOf;rw [List.length_take,List.length_drop];omega
 refine iG_ b qb (nodes+1) cb qt Tg.length ct v (· = b) K w ((Fr.init _ w).entry h1 (λx h=>by cases h) λ_=>rfl) ⟨rfl,trivial⟩ ?_
 refine qU_ hc hL hn hv λw1 q c g1 hs1 hcap=>⟨_,_,_,_,rfl,((Fr.init (λx=>x=b) w).entry h1 (λx h=>by cases h) λ_=>rfl).after g1,?_⟩
 refine kJ_ hs1 rfl (by omega) λw2 q' c' g2 ho hc' hq=>⟨_,_,_,rfl,(((Fr.init (λx=>x=b) w).entry h1 (λx h=>by cases h) λ_=>rfl).after g1).after g2,?_⟩
 exact hK w2 q' c' (g1.trans g2) ho.sl
end Go.Vc
namespace Go.Vc
open Go
theorem nc_ {nodes v:Int} (hn:0≤nodes∧nodes≤4096) (hv:0≤v∧v<nodes) {w:World} {K:Value→World→Prop} (hK:K .nilIface w):aa_ PR F.mr_ ⟨[.int .i64 nodes,.int .i64 v]⟩ w K:=
 mr_ nodes v S0 K w ⟨λh=>by omega,λ_=>⟨λh=>by omega,λ_=>⟨λh=>by omega,λ_=>⟨λh=>by omega,λ_=>hK⟩⟩⟩⟩
theorem ms_ {nodes v:Int} {l:List Int} {q:Option Addr} {ly c:Nat} (hn:0≤nodes∧nodes≤4096) (hv:0≤v∧v<nodes) (hr:e__ nodes l) {w:World} (hs:Sl w q (l.map iv)) (hl:ly=l.length) {K:Value→World→Prop}
  (hK:∀w',Grow w w'→K (.tuple #[.string (str (gapL v l)),.nilIface]) w'):aa_ PR F.ks_ ⟨[.int .i64 nodes,.int .i64 v,.slice q ly c]⟩ w K:=by
 subst hl
 have hlen:=fM_ hr
 have hlen':l.length≤4096:=by omega
 refine ks_ nodes v q l.length c S0 K w ?_
 refine nc_ hn hv ?_
 refine ⟨_,rfl,.init _ w,λ_=>?_,(λt x h=>by cases h),.inl rfl⟩
 refine ⟨λx i m w'=>∃k:Nat,i=k∧k≤l.length∧m=l.length - k∧x=(if k=0 then -1 else l.getD (k - 1) 0),⟨_,0,rfl,by omega,rfl,rfl⟩,?_⟩
 rintro x i D m w1 ⟨k,rfl,hk,rfl,rfl⟩ hF
 refine ⟨λhlt=>?_,λhge=>?_⟩
 ·have hk':k<l.length:=by omega
  refine (hs.grow hF.gr).rd (v:=iv (l.getD k 0)) (by simp) (by omega) (gw_ hk') λa ha=>⟨l.getD k 0,ha,λh=>?_,λh=>⟨λh=>?_,λh=>⟨_,?_,k+1,wr1 (by omega),by omega,rfl,by simp⟩⟩⟩
  ·exfalso
   have h1:=hr.1 k hk'
   split at h
   ·omega
   ·have:=hr.2 (k - 1) (by omega)
    rw [show k - 1+1=k by omega] at this
    omega
  ·have h1:=hr.1 k hk'
   omega
  ·omega
 ·have e:k=l.length:=by omega
  subst e
  refine bN_ (by omega) λw2 g2=>⟨_,_,rfl,hF.after g2,?_⟩
  refine ⟨λs i m w'=>∃k:Nat,i=k∧k≤l.length∧m=l.length - k∧s=str (af_ l.length++cat (gapP v l) k),⟨_,0,rfl,by omega,rfl,by simp [cat]⟩,?_⟩
  rintro s i D m w3 ⟨k,rfl,hk,rfl,rfl⟩ hF3
  refine ⟨λhlt=>?_,λhge=>?_⟩
  ·have hk':k<l.length:=by omega
   have h1:=hr.1 k hk'
   have hp:=hp_ (i:=k) hn.2 hv.1 hv.2 hr hk'
   have hc:=fs_ (gapP v l) 8 k λi hi=>hp_ hn.2 hv.1 hv.2 hr (by omega)
   have h8:=an_ (n:=l.length) (by omega)
   refine (hs.grow hF3.gr).rd (v:=iv (l.getD k 0)) (by simp) (by omega) (gw_ hk') λa ha=>⟨l.getD k 0,ha,λh=>?_,λh=>?_⟩
   ·have h0:k=0:=by omega
    subst h0
    rw [w64 (by omega) (by omega)]
    refine i8_ ⟨by omega,by omega⟩ λw4 g4=>⟨_,_,rfl,hF3.after g4,?_,_,?_,1,wr1 (by omega),by omega,rfl,?_⟩
    ·rw [ai_,ai_];simp only [List.length_append,cat,List.length_nil];simp only [gapP,if_true] at hp;omega
    ·omega
    ·rw [aD_];congr 1;simp [cat,gapP]
   ·have h0:0<k:=by omega
    have h2:=hr.1 (k - 1) (by omega)
    have h3:=hr.2 (k - 1) (by omega)
    rw [show k - 1+1=k by omega] at h3
    rw [wrP h0 (by omega)]
    refine (hs.grow hF3.gr).rd (v:=iv (l.getD (k - 1) 0)) (by simp) (by omega) (gw_ (by omega)) λa ha=>⟨l.getD (k - 1) 0,ha,?_⟩
    rw [w64 (n:=l.getD k 0 - l.getD (k - 1) 0) (by omega) (by omega),w64 (by omega) (by omega)]
    refine bN_ (by omega) λw4 g4=>⟨_,_,rfl,hF3.after g4,?_,_,?_,k+1,wr1 (by omega),by omega,rfl,?_⟩
    ·rw [ai_,ai_];simp only [List.length_append];simp only [gapP,if_neg (show ¬k=0 by omega)] at hp;omega
    ·omega
    ·rw [aD_];congr 1
     show _++_=_++(cat (gapP v l) k++gapP v l k)
     have:gapP v l k=af_ (l.getD k 0 - l.getD (k - 1) 0 - 1).toNat:=by unfold gapP;rw [if_neg (by omega)]
     rw [this];simp
  ·have e:k=l.length:=by omega
   subst e
   exact hK _ hF3.gr
end Go.Vc
namespace Go.Vc
open Go
theorem iX_ (y0:Option Addr) (ly0:Nat) (cy0:Nat) (S:SP) (K:KP) (w:World) (h:∀l0,w.heap.size≤l0→∀w0,Fr S w w [] [⟨l0,#[.pointer none,.slice none 0 0],263,true⟩] w0→∃I0:Int→(Option Addr)→(Option Addr)→Nat→Nat→Nat→World→Prop,(∃l1,I0 0 none none 0 0 l1 w0)∧∀n0 q0 q1 l2 l3,∀D0:Nat→Value,∀l4 w1,I0 n0 q0 q1 l2 l3 l4 w1→Fs S w [⟨l0,#[.pointer q0,.slice q1 l2 l3],263,true⟩] w1→(n0<(ly0:Int)→Dr y0 λa0=>(0:Int)≤n0∧n0<(ly0:Int)∧Dr (some (Addr.add a0 (Int.toNat n0*1))) λa1=>∃s0,World.cell? w1 a1=some (.string s0)∧aa_ PR 147 #[Iv ((ByteArray.size s0:Nat):Int)] w1 λv0 w2=>∃s1,v0=.string s1∧Fs S w [⟨l0,#[.pointer q0,.slice q1 l2 l3],263,true⟩] w2∧((ByteArray.size s1+(ByteArray.size s0)):Nat)≤9223372036854775807∧aa_ PR 148 #[.pointer (some (⟨l0,0,none⟩)),.string (s1++s0)] w2 λv1 w3=>∃n1 v2,v1=.tuple #[Iv n1,v2]∧∃q2 q3 l5 l6,Fs S w [⟨l0,#[.pointer q2,.slice q3 l5 l6],263,true⟩] w3∧∃l7,l7<l4∧I0 (IntKind.wrap .i64 (n0+1)) q2 q3 l5 l6 l7 w3)∧(¬(n0<(ly0:Int))→aa_ PR 149 #[.pointer (some (⟨l0,0,none⟩))] w1 λv3 w4=>∃s2,v3=.string s2∧Fs S w [⟨l0,#[.pointer q0,.slice q1 l2 l3],263,true⟩] w4∧K (.string s2) w4)):aa_ PR 102 ⟨[.slice y0 ly0 cy0]⟩ w K:=
 ab_ (okf:=⟨okL,[]⟩) ag_ (args:=[.c (.v (.slice y0 ly0 cy0))]) (H:=[]) (.s .z (.s (.r ⟨(some []),false,[],[]⟩) (.s (.s .z (.b (.l (some [3]) (some [3]) [(8,.c (.int .i64))] [3] (.s .z (.s .z (.s (.b (.s .z (.r ⟨(some [3]),false,[],[(5,[999])]⟩))) .z)))))) (.s (.r ⟨(some [3]),false,[],[]⟩) .z)))) Go.Proofs.Tryz.func102 rfl ⟨trivial,trivial⟩ trivial (Fr.init S w) trivial (ad_ (by kernel_rfl) h)
theorem l7_ (p0:Option Addr) (m1:Int) (m2:Int) (S:SP) (K:KP) (w:World) (h:∀l0,w.heap.size≤l0→∀l1,w.heap.size≤l1→∀w0,Fr S w w [] [⟨l0,#[.pointer none,.slice none 0 0],263,true⟩,⟨l1,#[.pointer none,.slice none 0 0],263,true⟩] w0→∃I0:Int→(Option Addr)→(Option Addr)→Nat→Nat→(Option Addr)→(Option Addr)→Nat→Nat→Nat→World→Prop,(∃l2,I0 m1 none none 0 0 none none 0 0 l2 w0)∧∀n0 q0 q1 l3 l4 q2 q3 l5 l6,∀D0:Nat→Value,∀l7 w1,I0 n0 q0 q1 l3 l4 q2 q3 l5 l6 l7 w1→Fs S w [⟨l0,#[.pointer q0,.slice q1 l3 l4],263,true⟩,⟨l1,#[.pointer q2,.slice q3 l5 l6],263,true⟩] w1→let B1:Blk:=⟨l1,#[.pointer q2,.slice q3 l5 l6],263,true⟩;let B0:Blk:=⟨l0,#[.pointer q0,.slice q1 l3 l4],263,true⟩;(n0<IntKind.wrap .i64 (m1+m2)→(Int.tmod (IntKind.wrap .i64 (n0 - m1)) 8=0→aa_ PR 202 #[.pointer (some (⟨l1,0,none⟩))] w1 λv0 w2=>∃n1,v0=Iv n1∧Fs S w [B0,B1] w2∧aa_ PR 170 #[Iv n1] w2 λv1 w3=>∃s0,v1=.string s0∧Fs S w [B0,B1] w3∧aa_ PR 148 #[.pointer (some (⟨l0,0,none⟩)),.string s0] w3 λv2 w4=>∃n2 v3,v2=.tuple #[Iv n2,v3]∧∃q4 q5 l8 l9,Fs S w [⟨l0,#[.pointer q4,.slice q5 l8 l9],263,true⟩,B1] w4∧let B2:Blk:=⟨l0,#[.pointer q4,.slice q5 l8 l9],263,true⟩;aa_ PR 203 #[.pointer p0,Iv n0] w4 λv4 w5=>∃q6 l10 l11 v5,v4=.tuple #[.slice q6 l10 l11,v5]∧Fs S w [B2,B1] w5∧aa_ PR 127 #[.pointer p0] w5 λv6 w6=>∃n3,v6=Iv n3∧Fs S w [B2,B1] w6∧aa_ PR 204 #[Iv n3,Iv n0,.slice q6 l10 l11] w6 λv7 w7=>∃s1 v8,v7=.tuple #[.string s1,v8]∧Fs S w [B2,B1] w7∧aa_ PR 148 #[.pointer (some (⟨l1,0,none⟩)),.string s1] w7 λv9 w8=>∃n4 v10,v9=.tuple #[Iv n4,v10]∧∃q7 q8 l12 l13,Fs S w [B2,⟨l1,#[.pointer q7,.slice q8 l12 l13],263,true⟩] w8∧∃l14,l14<l7∧I0 (IntKind.wrap .i64 (n0+1)) q4 q5 l8 l9 q7 q8 l12 l13 l14 w8)∧(¬(Int.tmod (IntKind.wrap .i64 (n0 - m1)) 8=0)→aa_ PR 203 #[.pointer p0,Iv n0] w1 λv11 w9=>∃q9 l15 l16 v12,v11=.tuple #[.slice q9 l15 l16,v12]∧Fs S w [B0,B1] w9∧aa_ PR 127 #[.pointer p0] w9 λv13 w10=>∃n5,v13=Iv n5∧Fs S w [B0,B1] w10∧aa_ PR 204 #[Iv n5,Iv n0,.slice q9 l15 l16] w10 λv14 w11=>∃s2 v15,v14=.tuple #[.string s2,v15]∧Fs S w [B0,B1] w11∧aa_ PR 148 #[.pointer (some (⟨l1,0,none⟩)),.string s2] w11 λv16 w12=>∃n6 v17,v16=.tuple #[Iv n6,v17]∧∃q10 q11 l17 l18,Fs S w [B0,⟨l1,#[.pointer q10,.slice q11 l17 l18],263,true⟩] w12∧∃l19,l19<l7∧I0 (IntKind.wrap .i64 (n0+1)) q0 q1 l3 l4 q10 q11 l17 l18 l19 w12))∧(¬(n0<IntKind.wrap .i64 (m1+m2))→aa_ PR 149 #[.pointer (some (⟨l0,0,none⟩))] w1 λv18 w13=>∃s3,v18=.string s3∧Fs S w [B0,B1] w13∧aa_ PR 149 #[.pointer (some (⟨l1,0,none⟩))] w13 λv19 w14=>∃s4,v19=.string s4∧Fs S w [B0,B1] w14∧K (.tuple #[.string s3,.string s4]) w14)):aa_ PR 169 ⟨[.pointer p0,.int .i64 m1,.int .i64 m2]⟩ w K:=
 ab_ (okf:=⟨okL,[]⟩) ag_ (args:=[.c (.v (.pointer p0)),.c (.v (.int .i64 m1)),.c (.v (.int .i64 m2))]) (H:=[]) (.s .z (.s (.r ⟨(some []),false,[],[]⟩) (.s (.s .z (.b (.l (some [8,9]) (some [8,9]) [(10,.c (.int .i64))] [8,9] (.s .z (.s (.b (.s (.s .z (.c (.r ⟨(some [8,9]),false,[],[(2,[999])]⟩) .z)) (.s (.r ⟨(some [8,9]),false,[],[]⟩) (.s (.r ⟨(some [8,9]),false,[],[]⟩) (.r ⟨(some [8,9]),false,[],[(1,[999])]⟩))))) .z))))) (.s (.r ⟨(some [8,9]),false,[],[]⟩) .z)))) Go.Proofs.Tryz.func169 rfl ⟨trivial,trivial,trivial,trivial⟩ trivial (Fr.init S w) trivial (ad_ (by kernel_rfl) h)
theorem rl_ (z0:ByteArray) (m1:Int) (m2:Int) (m3:Int) (S:SP) (K:KP) (w:World) (h:aa_ PR 206 #[Iv m2,Iv m3] w λv0 w0=>∃v1,v0=v1∧Fs S w [] w0∧(v1=.nilIface→aa_ PR 208 #[.string z0,Iv m1,Iv m2] w0 λv2 w1=>∃n0 n1 v3,v2=.tuple #[Iv n0,Iv n1,v3]∧Fs S w [] w1∧(v3=.nilIface→∀l0,w1.heap.size≤l0→∀w2,Fr S w w1 [] [⟨l0,#[.string z0,Iv n1,Iv m2,Iv m3],324,true⟩] w2→∃I0:(Option Addr)→Nat→Nat→Int→ByteArray→Int→Int→Int→Nat→World→Prop,(∃l1,I0 none 0 0 0 z0 n1 m2 m3 l1 w2)∧∀q0 l2 l3 n2 s0 n3 n4 n5,∀D0:Nat→Value,∀l4 w3,I0 q0 l2 l3 n2 s0 n3 n4 n5 l4 w3→Fs S w [⟨l0,#[.string s0,Iv n3,Iv n4,Iv n5],324,true⟩] w3→(n2<n0→(n2=0→aa_ PR 209 #[.pointer (some (⟨l0,0,none⟩)),.bool true] w3 λv4 w4=>∃v5,v4=v5∧∃s1 n6 n7 n8,Fs S w [⟨l0,#[.string s1,Iv n6,Iv n7,Iv n8],324,true⟩] w4∧(v5=.nilIface→∀l5,w4.heap.size≤l5→∀w5,Fr S w w4 [] [⟨l0,#[.string s1,Iv n6,Iv n7,Iv n8],324,true⟩,⟨l5,#[Iv n8],3,true⟩] w5→rn PR (Builtin.append_ #[52,52] 52 #[.slice q0 l2 l3,.slice (some (⟨l5,0,none⟩)) 1 1]) (λv6 w6=>∃q1 l6 l7,v6=.slice q1 l6 l7∧Fs S w [⟨l0,#[.string s1,Iv n6,Iv n7,Iv n8],324,true⟩,⟨l5,#[Iv n8],3,true⟩] w6∧∃l8,l8<l4∧I0 q1 l6 l7 (IntKind.wrap .i64 (n2+1)) s1 n6 n7 n8 l8 w6) w5)∧(∀x0 v7,v5=.iface x0 v7→K (.tuple #[.slice none 0 0,Iv m1,v5]) w4)∧(v5=.nilIface∨∃l9 v8,v5=.iface l9 v8))∧(¬(n2=0)→aa_ PR 209 #[.pointer (some (⟨l0,0,none⟩)),.bool false] w3 λv9 w7=>∃v10,v9=v10∧∃s2 n9 n10 n11,Fs S w [⟨l0,#[.string s2,Iv n9,Iv n10,Iv n11],324,true⟩] w7∧(v10=.nilIface→∀l10,w7.heap.size≤l10→∀w8,Fr S w w7 [] [⟨l0,#[.string s2,Iv n9,Iv n10,Iv n11],324,true⟩,⟨l10,#[Iv n11],3,true⟩] w8→rn PR (Builtin.append_ #[52,52] 52 #[.slice q0 l2 l3,.slice (some (⟨l10,0,none⟩)) 1 1]) (λv11 w9=>∃q2 l11 l12,v11=.slice q2 l11 l12∧Fs S w [⟨l0,#[.string s2,Iv n9,Iv n10,Iv n11],324,true⟩,⟨l10,#[Iv n11],3,true⟩] w9∧∃l13,l13<l4∧I0 q2 l11 l12 (IntKind.wrap .i64 (n2+1)) s2 n9 n10 n11 l13 w9) w8)∧(∀x1 v12,v10=.iface x1 v12→K (.tuple #[.slice none 0 0,Iv m1,v10]) w7)∧(v10=.nilIface∨∃l14 v13,v10=.iface l14 v13)))∧(¬(n2<n0)→∀w10,Fr S w w3 [] [] w10→K (.tuple #[.slice q0 l2 l3,Iv n3,.nilIface]) w10))∧(∀x2 v14,v3=.iface x2 v14→K (.tuple #[.slice none 0 0,Iv m1,v3]) w1)∧(v3=.nilIface∨∃l15 v15,v3=.iface l15 v15))∧(∀x3 v16,v1=.iface x3 v16→aa_ PR 207 #[Iv m1,v1] w0 λv17 w11=>∃v18,v17=v18∧Fs S w [] w11∧K (.tuple #[.slice none 0 0,Iv m1,v18]) w11)∧(v1=.nilIface∨∃l16 v19,v1=.iface l16 v19)):aa_ PR 175 ⟨[.string z0,.int .i64 m1,.int .i64 m2,.int .i64 m3]⟩ w K:=
 ab_ (okf:=⟨okL,[]⟩) ag_ (args:=[.c (.v (.string z0)),.c (.v (.int .i64 m1)),.c (.v (.int .i64 m2)),.c (.v (.int .i64 m3))]) (H:=[]) (.s .z (.s (.s (.r ⟨(some []),false,[],[]⟩) (.s .z (.c (.s (.r ⟨(some []),false,[],[]⟩) .z) .z))) (.s (.r ⟨(some []),false,[],[]⟩) (.s .z (.s (.r ⟨(some []),false,[],[]⟩) (.s .z (.s (.s .z (.b (.l (some [15]) (some [15]) [(16,.c (.sl)),(47,.c (.int .i64))] [15] (.s .z (.s .z (.s (.b (.s .z (.s (.s (.r ⟨(some [15]),false,[],[(3,[999])]⟩) .z) (.r ⟨(some [15]),false,[],[]⟩)))) .z)))))) (.s (.r ⟨(some [15]),false,[],[]⟩) .z)))))))) Go.Proofs.Tryz.func175 rfl ⟨trivial,trivial,trivial,trivial,trivial⟩ trivial (Fr.init S w) trivial (ad_ (by kernel_rfl) h)
theorem qQ_ (y0:Option Addr) (ly0:Nat) (cy0:Nat) (S:SP) (K:KP) (w:World) (h:aa_ PR 161 #[] w λv0 w0=>∃q0,v0=.pointer q0∧Fs S w [] w0∧aa_ PR 162 #[.pointer q0,.slice y0 ly0 cy0] w0 λv1 w1=>v1=.tuple #[]∧Fs S w [] w1∧aa_ PR 163 #[.pointer q0] w1 λv2 w2=>∃s0,v2=.string s0∧Fs S w [] w2∧K (.string s0) w2):aa_ PR 121 ⟨[.slice y0 ly0 cy0]⟩ w K:=
 ab_ (okf:=⟨okL,[]⟩) ag_ (args:=[.c (.v (.slice y0 ly0 cy0))]) (H:=[]) (.s .z (.s (.r ⟨(some []),false,[],[]⟩) (.s (.r ⟨(some []),false,[],[(2,[999])]⟩) (.s (.r ⟨(some []),false,[],[]⟩) .z)))) Go.Proofs.Tryz.func121 rfl ⟨trivial,trivial⟩ trivial (Fr.init S w) trivial (ad_ (by kernel_rfl) h)
theorem mn_ (y0:Option Addr) (ly0:Nat) (cy0:Nat) (S:SP) (K:KP) (w:World) (h:rn PR (Instr.makeMap 143 none) (λv0 w0=>∃q0,v0=.map q0∧Fs S w [] w0∧∀l0,w0.heap.size≤l0→∀w1,Fr S w w0 [] [⟨l0,#[.slice none 0 0,.map q0],145,true⟩] w1→∃I0:Int→(Option Addr)→Nat→Nat→(Option Nat)→Nat→World→Prop,(∃l1,I0 0 none 0 0 q0 l1 w1)∧∀n0 q1 l2 l3 q2,∀D0:Nat→Value,∀l4 w2,I0 n0 q1 l2 l3 q2 l4 w2→Fs S w [⟨l0,#[.slice q1 l2 l3,.map q2],145,true⟩] w2→let B0:Blk:=⟨l0,#[.slice q1 l2 l3,.map q2],145,true⟩;(n0<(ly0:Int)→Dr y0 λa0=>(0:Int)≤n0∧n0<(ly0:Int)∧Dr (some (Addr.add a0 (Int.toNat n0*1))) λa1=>∃s0,World.cell? w2 a1=some (.string s0)∧∀w3,Fr S w w2 [] [B0] w3→∃I1:World→Prop,I1 w3∧Dr (some (⟨l0,0,none⟩)) λa2=>∃q3 l5 l6,(∀w4,I1 w4→World.cell? w4 a2=some (.slice q3 l5 l6))∧aa_ PR 67 #[.string s0] w3 λv1 w5=>∃s1,v1=.string s1∧Fs S w [B0] w5∧I1 w5∧∀l7,w5.heap.size≤l7→∀w6,Fr S w w5 [] [B0,⟨l7,#[.string s1],9,true⟩] w6→I1 w6∧rn PR (Builtin.append_ #[45,45] 45 #[.slice q3 l5 l6,.slice (some (⟨l7,0,none⟩)) 1 1]) (λv2 w7=>∃q4 l8 l9,v2=.slice q4 l8 l9∧Fs S w [B0,⟨l7,#[.string s1],9,true⟩] w7∧I1 w7∧∀w8,Fr S w w7 [l0] [⟨l0,#[.slice q4 l8 l9,.map q2],145,true⟩,⟨l7,#[.string s1],9,true⟩] w8→∃l10,l10<l4∧I0 (IntKind.wrap .i64 (n0+1)) q4 l8 l9 q2 l10 w8) w6)∧(¬(n0<(ly0:Int))→((ly0:Int)>0→aa_ PR 116 #[.pointer (some (⟨l0,0,none⟩)),.agg #[Iv 0,Iv (ly0:Int)]] w2 λv3 w9=>∃s2,v3=.string s2∧∃q5 l11 l12 q6,Fs S w [⟨l0,#[.slice q5 l11 l12,.map q6],145,true⟩] w9∧K (.pointer (some (⟨l0,0,none⟩))) w9)∧(¬((ly0:Int)>0)→K (.pointer (some (⟨l0,0,none⟩))) w2))) w):aa_ PR 63 ⟨[.slice y0 ly0 cy0]⟩ w K:=
 ab_ (okf:=⟨okL,[]⟩) ag_ (args:=[.c (.v (.slice y0 ly0 cy0))]) (H:=[]) (.s .z (.s (.r ⟨(some []),true,[],[]⟩) (.s (.s .z (.b (.l (some [3]) (some [3]) [(11,.c (.int .i64))] [3] (.s .z (.s .z (.s (.b (.s .z (.r ⟨(some [3]),true,[3],[]⟩))) .z)))))) (.s (.s .z (.c (.r ⟨(some [3]),true,[],[(4,[999])]⟩) .z)) .z)))) Go.Proofs.Tryz.func63 rfl ⟨trivial,trivial⟩ trivial (Fr.init S w) trivial (ad_ (by kernel_rfl) h)
theorem lo_ (y0:Option Addr) (ly0:Nat) (cy0:Nat) (S:SP) (K:KP) (w:World) (h:aa_ PR 63 #[.slice y0 ly0 cy0] w λv0 w0=>∃q0,v0=.pointer q0∧Fs S w [] w0∧aa_ PR 134 #[.pointer q0] w0 λv1 w1=>∃s0,v1=.string s0∧Fs S w [] w1∧K (.string s0) w1):aa_ PR 79 ⟨[.slice y0 ly0 cy0]⟩ w K:=
 ab_ (okf:=⟨okL,[]⟩) ag_ (args:=[.c (.v (.slice y0 ly0 cy0))]) (H:=[]) (.s .z (.s (.r ⟨(some []),false,[],[]⟩) .z)) Go.Proofs.Tryz.func79 rfl ⟨trivial,trivial⟩ trivial (Fr.init S w) trivial (ad_ (by kernel_rfl) h)
end Go.Vc
namespace Go.Vc
open Go
theorem ex_ {s:ByteArray} {n:Nat} {r:List UInt8} {at_:Int} (hs:s.size≤4611686018427387904) (ha:0≤at_) (hd:s.data.toList.drop at_.toNat=af_ n++r) (hn:n≤72057594037927935) {w:World} {K:Value→World→Prop}
  (hK:okAt s at_→at_+(af_ n).length≤s.size→K (.tuple #[.int .i64 n,.int .i64 (at_+(af_ n).length),.nilIface]) w):aa_ PR F.dJ_ ⟨[.string s,.int .i64 at_]⟩ w K:=by
 have hl:(s.data.toList.drop at_.toNat).length=s.size - at_.toNat:=by rw [List.length_drop,dL_]
 have hp:=bB_ n
 rw [hd,List.length_append] at hl
 have hok:okAt s at_:=⟨ha,by omega⟩
 refine jI_ hs (λh=>absurd hok h) λ_=>?_
 rw [hd,im_ hn]
 exact hK hok (by omega)
theorem n8_ {s:ByteArray} {x:Int} {r:List UInt8} {at_:Int} (hs:s.size≤4611686018427387904) (ha:0≤at_) (hx:pk_ x) (hd:s.data.toList.drop at_.toNat=af_ (turn x).toNat++r) {w:World} {K:Value→World→Prop}
  (hK:okAt s at_→at_+(af_ (turn x).toNat).length≤s.size→K (.tuple #[.int .i64 x,.int .i64 (at_+(af_ (turn x).toNat).length),.nilIface]) w):aa_ PR F.c3_ ⟨[.string s,.int .i64 at_]⟩ w K:=by
 have hl:(s.data.toList.drop at_.toNat).length=s.size - at_.toNat:=by rw [List.length_drop,dL_]
 have hp:=bB_ (turn x).toNat
 have t0:=oJ_ x
 have t1:=lZ_ x
 rw [hd,List.length_append] at hl
 have hok:okAt s at_:=⟨ha,by omega⟩
 have hg:=im_ (n:=(turn x).toNat) (by omega) r
 refine mJ_ hs hok (λn k h=>?_) (λc h=>?_)
 ·rw [hd,hg] at h
  cases h
  rw [Int.toNat_of_nonneg t0,qb_ hx]
  exact hK hok (by omega)
 ·rw [hd,hg] at h;cases h
theorem p3_ {s:ByteArray} {n:Nat} {r:List UInt8} {at_ nodes:Int} (hs:s.size≤4611686018427387904) (ha:0≤at_) (hd:s.data.toList.drop at_.toNat=af_ n++r) (hn:(n:Int)≤nodes) (hn2:nodes≤4096) {w:World} {K:Value→World→Prop}
  (hK:okAt s at_→at_+(af_ n).length≤s.size→K (.tuple #[.int .i64 n,.int .i64 (at_+(af_ n).length),.nilIface]) w):aa_ PR F.ip_ ⟨[.string s,.int .i64 at_,.int .i64 nodes]⟩ w K:=by
 refine ip_ s at_ nodes S0 K w ?_
 refine ex_ hs ha hd (by omega) λh1 h2=>⟨_,_,_,rfl,.init _ w,λ_=>⟨λh=>by omega,λ_=>hK h1 h2⟩,(λt x h=>by cases h),.inl rfl⟩
def rdr (s:ByteArray) (at_ nodes now:Int):Array Value:=#[.string s,.int .i64 at_,.int .i64 nodes,.int .i64 now]
theorem oU_ {s:ByteArray} {t v at_ nodes:Int} {r:List UInt8} (hs:s.size≤4611686018427387904) (ha:0≤at_) (hn:nodes≤4096) (hv:0≤v∧v<nodes) (ht:0≤t∧t<nodes) (hd:s.data.toList.drop at_.toNat=af_ (turn (t - v)).toNat++r)
  {b:Nat} {w:World} (hb:w.heap[b]? = some (.cells (rdr s at_ nodes v) T.bD_ (0,0))) {K:Value→World→Prop}
  (hK:∀w',at_+(af_ (turn (t - v)).toNat).length≤s.size→w'.heap[b]? = some (.cells (rdr s (at_+(af_ (turn (t - v)).toNat).length) nodes t) T.bD_ (0,0))→Chg (· = b) w w'→K .nilIface w') :
  aa_ PR F.dv_ ⟨[.pointer (some ⟨b,0,none⟩),.bool true]⟩ w K:=by
 refine gA_ b s at_ nodes v (· = b) K w ((Fr.init _ w).entry hb (λx h=>by cases h) λ_=>rfl) ⟨rfl,trivial⟩ ?_
 intro w0 h0
 refine n8_ hs ha (x:=t - v) ⟨by omega,by omega⟩ hd λh1 h2=>⟨_,_,_,rfl,h0.reset,λ_=>⟨λh=>?_,λ_=>⟨λh=>?_,λ_ w6 h6=>?_⟩⟩,(λt x h=>by cases h),.inl rfl⟩
 ·rw [w64 (by omega) (by omega)] at h;omega
 ·rw [w64 (by omega) (by omega)] at h;omega
 ·have:=h6.blk 0 rfl
  simp only [] at this
  rw [w64 (n:=v+(t - v)) (by omega) (by omega),show v+(t - v)=t by omega] at this
  exact hK w6 h2 this h6.chg
theorem oV_ {s:ByteArray} {t v at_ nodes:Int} {r:List UInt8} (hs:s.size≤4611686018427387904) (ha:0≤at_) (hn:nodes≤4096) (hv:0≤v∧v<t) (ht:t<nodes) (hd:s.data.toList.drop at_.toNat=af_ (t - v - 1).toNat++r)
  {b:Nat} {w:World} (hb:w.heap[b]? = some (.cells (rdr s at_ nodes v) T.bD_ (0,0))) {K:Value→World→Prop}
  (hK:∀w',at_+(af_ (t - v - 1).toNat).length≤s.size→w'.heap[b]? = some (.cells (rdr s (at_+(af_ (t - v - 1).toNat).length) nodes t) T.bD_ (0,0))→Chg (· = b) w w'→K .nilIface w') :
  aa_ PR F.dv_ ⟨[.pointer (some ⟨b,0,none⟩),.bool false]⟩ w K:=by
 refine gB_ b s at_ nodes v (· = b) K w ((Fr.init _ w).entry hb (λx h=>by cases h) λ_=>rfl) ⟨rfl,trivial⟩ ?_
 intro w0 h0
 refine ex_ hs ha hd (by omega) λh1 h2=>⟨_,_,_,rfl,h0.reset,λ_=>⟨λh=>?_,λ_=>⟨λh=>?_,λ_ w6 h6=>?_⟩⟩,(λt x h=>by cases h),.inl rfl⟩
 ·rw [w64 (by omega) (by omega),w64 (by omega) (by omega)] at h;omega
 ·rw [w64 (by omega) (by omega),w64 (by omega) (by omega)] at h;omega
 ·have:=h6.blk 0 rfl
  simp only [] at this
  rw [w64 (n:=(((t - v - 1).toNat:Nat):Int)+1) (by omega) (by omega),w64 (by omega) (by omega),show v+((((t - v - 1).toNat:Nat):Int)+1)=t by omega] at this
  exact hK w6 h2 this h6.chg
theorem nV_ {s:ByteArray} {l:List Int} {r:List UInt8} {at_ nodes v:Int} (hs:s.size≤4611686018427387904) (ha:0≤at_) (hn:0≤nodes∧nodes≤4096) (hv:0≤v∧v<nodes) (hr:e__ nodes l) (hd:s.data.toList.drop at_.toNat=gapL v l++r)
  {w:World} {K:Value→World→Prop}
  (hK:∀w' q c,Grow w w'→at_+(gapL v l).length≤s.size→Own T.int 1 w' q c (l.map iv)→l.length≤c→Off (λk=>k<w.heap.size) q→K (.tuple #[.slice q l.length c,.int .i64 (at_+(gapL v l).length),.nilIface]) w') :
  aa_ PR F.st_ ⟨[.string s,.int .i64 at_,.int .i64 nodes,.int .i64 v]⟩ w K:=by
 have hlen:=fM_ hr
 refine rl_ s at_ nodes v S0 K w ?_
 refine nc_ hn hv ⟨_,rfl,.init _ w,λ_=>?_,(λt x h=>by cases h),.inl rfl⟩
 have hd0:s.data.toList.drop at_.toNat=af_ l.length++(cat (gapP v l) l.length++r):=by rw [hd,gapL,List.append_assoc]
 refine p3_ hs ha hd0 (by omega) hn.2 λh1 h2=>⟨_,_,_,rfl,.init _ w,λ_=>?_,(λt x h=>by cases h),.inl rfl⟩
 intro b hb w1 hF1
 refine ⟨λq n c i s' p nn now m w'=>∃k:Nat,i=k∧k≤l.length∧m=l.length - k∧s'=s∧p=at_+((af_ l.length).length+(cat (gapP v l) k).length:Nat)∧nn=nodes∧now=(if k=0 then v else l.getD (k - 1) 0)∧
   Own T.int 1 w' q c ((l.take k).map iv)∧n=k∧n≤c∧Off (λj=>j<w1.heap.size) q∧p≤s.size∧w1.heap.size≤w'.heap.size,⟨_,0,rfl,by omega,rfl,rfl,by simp [cat],rfl,rfl,.nil _ _ _,rfl,Nat.le_refl _,.none _,h2,Nat.le_refl _⟩,?_⟩
 rintro q n c i s' p nn now D m w2 ⟨k,rfl,hk,rfl,rfl,rfl,rfl,rfl,ho,rfl,hnc,hoff,hp,hsz⟩ hF2
 refine ⟨λhlt=>?_,λhge=>?_⟩
 ·have hk':n<l.length:=by omega
  have hr1:=hr.1 n hk'
  obtain ⟨r',hsp⟩:=dB_ (gapP v l) hk'
  have hdk:s'.data.toList.drop (at_+((af_ l.length).length+(cat (gapP v l) n).length:Nat)).toNat=gapP v l n++(r'++r):=by
   have e0:s'.data.toList.drop at_.toNat=(af_ l.length++cat (gapP v l) n)++(gapP v l n++(r'++r)):=by rw [hd0,hsp];simp [List.append_assoc]
   rw [show (at_+((af_ l.length).length+(cat (gapP v l) n).length:Nat)).toNat=at_.toNat+((af_ l.length).length+(cat (gapP v l) n).length) by omega,← List.drop_drop,e0,List.drop_left' (by simp)]
  have hbl:=hF2.blk 0 rfl
  have hbw:b<w1.heap.size:=hF1.lt _ List.mem_cons_self
  have fin:∀(w3:World) (p':Int),p'=at_+((af_ l.length).length+(cat (gapP v l) (n+1)).length:Nat)→p'≤s'.size→w3.heap[b]? = some (.cells (rdr s' p' nn (l.getD n 0)) T.bD_ (0,0))→Chg (· = b) w2 w3→
    Fs S0 w [⟨b,rdr s' p' nn (l.getD n 0),T.bD_,true⟩] w3∧∀(x:Nat),w3.heap.size≤x→∀w5,Fr S0 w w3 [] [⟨b,rdr s' p' nn (l.getD n 0),T.bD_,true⟩,⟨x,#[iv (l.getD n 0)],T.int,true⟩] w5→
     rn PR (Builtin.append_ #[T.bq_,T.bq_] T.bq_ #[.slice q n c,.slice (some ⟨x,0,none⟩) 1 1]) (λv6 w6=>∃(q1:Option Addr) (l6 l7:Nat),v6=.slice q1 l6 l7∧
      Fs S0 w [⟨b,rdr s' p' nn (l.getD n 0),T.bD_,true⟩,⟨x,#[iv (l.getD n 0)],T.int,true⟩] w6∧∃l8:Nat,l8<l.length - n∧∃k:Nat,IntKind.wrap .i64 ((n:Int)+1)=k∧k≤l.length∧l8=l.length - k∧s'=s'∧p'=at_+((af_ l.length).length+(cat (gapP v l) k).length:Nat)∧nn=nn∧l.getD n 0=(if k=0 then v else l.getD (k - 1) 0)∧
       Own T.int 1 w6 q1 l7 ((l.take k).map iv)∧l6=k∧l6≤l7∧Off (λj=>j<w1.heap.size) q1∧p'≤s'.size∧w1.heap.size≤w6.heap.size) w5:=by
   intro w3 p' hp' hle hb3 g3
   have hF3:=hF2.mod1 g3 hb3
   have ho3:Own T.int 1 w3 q c ((l.take n).map iv):=ho.keep g3 (λa ha e=>by
    have h1:=hoff.le a ha
    have e':a.block=b:=e
    omega)
   refine ⟨hF3,λx hx w5 h5=>?_⟩
   refine f2_ (xs:=l.take n) (ys:=[l.getD n 0]) (ho3.grow h5.grow) (by simp;omega) hnc (h5.sl 1 rfl) rfl (by omega) λq' c' w6 ho6 hc6 g6 hq6=>?_
   have hF6:=h5.app2 g6 w1.heap.size w3.heap.size hoff (λa ha=>ho3.lt a ha) (λy hy=>by
    rcases List.mem_cons.1 hy with rfl | hy
    ·exact .inl hbw
    ·simp at hy;subst hy;exact .inr hx) hF1.chg.size
   refine ⟨_,_,_,rfl,hF6,l.length - (n+1),by omega,n+1,wr1 (by omega),by omega,rfl,rfl,hp',rfl,by simp,?_,rfl,hc6,hoff.next hq6 (by have:=g3.size;have:=h5.grow.size;omega),hle,by have:=g3.size;have:=h5.grow.size;have:=g6.size;omega⟩
   rw [ar_ hk',← kr_ hk'];exact ho6
  have hpl:∀y,gapP v l n=y→((af_ l.length).length+(cat (gapP v l) (n+1)).length:Nat)=((af_ l.length).length+(cat (gapP v l) n).length:Nat)+y.length:=by
   intro y hy;rw [cat,List.length_append,hy];omega
  refine ⟨λh0=>?_,λh0=>?_⟩
  ·have h0':n=0:=by omega
   have hg:gapP v l n=af_ (turn (l.getD n 0 - v)).toNat:=by unfold gapP;rw [if_pos h0',h0']
   have hl2:=hpl _ hg
   rw [hg] at hdk
   rw [if_pos h0'] at hbl
   refine oU_ hs (by omega) hn.2 hv hr1 hdk hbl λw3 hle hb3 g3=>?_
   obtain ⟨f1,f2⟩:=fin w3 _ (by rw [hl2];omega) hle hb3 g3
   exact ⟨_,rfl,_,_,_,_,f1,λ_=>f2,(λt x h=>by cases h),.inl rfl⟩
  ·have h0':¬n=0:=by omega
   have hg:gapP v l n=af_ (l.getD n 0 - l.getD (n - 1) 0 - 1).toNat:=by unfold gapP;rw [if_neg h0']
   have hl2:=hpl _ hg
   rw [hg] at hdk
   rw [if_neg h0'] at hbl
   have hr2:=hr.1 (n - 1) (by omega)
   have hr3:=hr.2 (n - 1) (by omega)
   rw [show n - 1+1=n by omega] at hr3
   refine oV_ hs (by omega) hn.2 ⟨hr2.1,hr3⟩ hr1.2 hdk hbl λw3 hle hb3 g3=>?_
   obtain ⟨f1,f2⟩:=fin w3 _ (by rw [hl2];omega) hle hb3 g3
   exact ⟨_,rfl,_,_,_,_,f1,λ_=>f2,(λt x h=>by cases h),.inl rfl⟩
 ·have e:n=l.length:=by omega
  subst e
  intro w3 h3
  rw [List.take_length] at ho
  have g3:Grow w2 w3:=h3.grow
  rw [gapL,List.length_append] at *
  exact hK w3 q c h3.chg hp (ho.grow g3) hnc (hoff.mono hF1.chg.size)
end Go.Vc
namespace Go.Vc
open Go Go.Lib
theorem m2_ {P:Program} {r:Nat} {K:Option (TypeId × Nat)→World→Prop} {w:World} : sv P (shape r) K w↔K (w.shape? r) w:=Iff.rfl
theorem fD_ {w:World} {b:Nat} {cs:Array Value} {T:TypeId} {fz:Nat × Nat} (h:w.heap[b]? = some (.cells cs T fz)):w.shape? b=some (T,cs.size):=by
 simp [World.shape?,h]
structure BldP (w:World) (b m:Nat) (p q:Option Addr) (l c:Nat) (bs:List UInt8):Prop where
 blk:w.heap[b]? = some (.cells #[.pointer p,.slice q l c] T.ae_ (0,0))
 ptr:p=none∨p=some ⟨b,0,none⟩
 own:Own T.uint8 1 w q c (bs.map bv)
 len:l=bs.length
 cap:l≤c
 off:Off (λk=>k<m) q
 lt:b<m
 zero:∀a,q=some a→a.off=0∧a.spot=none
theorem BldP.new {w:World} {b m:Nat} (h:w.heap[b]? = some (.cells #[.pointer none,.slice none 0 0] T.ae_ (0,0))) (hm:b<m):BldP w b m none none 0 0 []:=
 ⟨h,.inl rfl,.nil _ _ _,rfl,Nat.le_refl _,.none _,hm,λa h=>by cases h⟩
theorem BldP.keep {S:Nat→Prop} {w w':World} {b m:Nat} {p q:Option Addr} {l c:Nat} {bs:List UInt8} (h:BldP w b m p q l c bs) (g:Chg S w w') (hb:¬S b) (hq:Off S q):BldP w' b m p q l c bs:=
 ⟨g.get h.blk hb,h.ptr,h.own.keep g hq,h.len,h.cap,h.off,h.lt,h.zero⟩
theorem BldP.grow {w w':World} {b m:Nat} {p q:Option Addr} {l c:Nat} {bs:List UInt8} (h:BldP w b m p q l c bs) (g:Grow w w'):BldP w' b m p q l c bs:=h.keep g id (Off.no q)
theorem BldP.mono {w:World} {b m n:Nat} {p q:Option Addr} {l c:Nat} {bs:List UInt8} (h:BldP w b m p q l c bs) (hn:n≤m) (hb:b<n):BldP w b n p q l c bs:=
 ⟨h.blk,h.ptr,h.own,h.len,h.cap,h.off.mono hn,hb,h.zero⟩
theorem rM_:PR.underlying T.bU_=some (.pointer T.ae_):=by kernel_rfl
theorem rL_:PR.underlying T.c__=some .unsafePointer:=by kernel_rfl
theorem sV_:PR.underlying T.mh_=some (.pointer T.uint8):=by kernel_rfl
theorem to_:(PR.info? T.ae_).isSome=true:=by kernel_rfl
theorem tL_:szOf PR T.ae_=2:=by kernel_rfl
theorem c_u8:PR.cellsOf T.uint8=1:=by kernel_rfl
theorem rd_:liesAt PR (PR).depth T.ae_ (2 / (PR).cellsOf T.ae_) 0 T.ae_ 1=true:=by kernel_rfl
theorem q2_ (v:Value) (K:Value→World→Prop) (w:World):sv PR (callFunc F.eo_ ⟨[v]⟩ >>= i6_) K w=K v w:=by kernel_rfl
theorem oL_ {w:World} {b:Nat} {x y:Value} {K:Value→World→Prop} (hb:w.heap[b]? = some (.cells #[x,y] T.ae_ (0,0))) (hK:K (.pointer (some ⟨b,0,none⟩)) w) :
  sv PR (convert T.bU_ T.c__ (.pointer (some ⟨b,0,none⟩))) K w:=by
 have hs:=fD_ hb
 obtain ⟨i,hi⟩:=Option.isSome_iff_exists.1 to_
 simp only [convert,aH_,ao_ rM_,ao_ rL_,Conv.unsafePointer,Conv.seenAt,viewAt,cellsIn,m2_,hs,Option.isSome_some,if_true,a3_,jd_,b8_ hi]
 have h2:i.size=2:=by have:=tL_;simpa [szOf,hi] using this
 simp [h2]
 exact hK
theorem mt_ {w:World} {b:Nat} {x y:Value} {K:Value→World→Prop} (hb:w.heap[b]? = some (.cells #[x,y] T.ae_ (0,0))) (hK:K (.pointer (some ⟨b,0,none⟩)) w) :
  sv PR (convert T.c__ T.bU_ (.pointer (some ⟨b,0,none⟩))) K w:=by
 have hs:=fD_ hb
 have hl:liesAt PR (PR).depth T.ae_ ((#[x,y]:Array Value).size / (PR).cellsOf T.ae_) 0 T.ae_ 1=true:=rd_
 obtain ⟨i,hi⟩:=Option.isSome_iff_exists.1 to_
 simp only [convert,aH_,ao_ rM_,ao_ rL_,Conv.unsafePointer,Conv.seenAt,viewAt,variablesAt,m2_,hs,Option.isSome_some,if_true,a3_,jd_,b8_ hi,nD_,hl]
 simp
 exact hK
theorem eS_ {w:World} {b:Nat} {p q:Option Addr} {l c:Nat} (hp:p=none∨p=some ⟨b,0,none⟩) (hb:w.heap[b]? = some (.cells #[.pointer p,.slice q l c] T.ae_ (0,0))) {K:Value→World→Prop}
  (hK:∀w' p',(p'=none∨p'=some ⟨b,0,none⟩)→w'.heap[b]? = some (.cells #[.pointer p',.slice q l c] T.ae_ (0,0))→Chg (· = b) w w'→K (.tuple #[]) w') :
  aa_ PR F.cC_ ⟨[.pointer (some ⟨b,0,none⟩)]⟩ w K:=by
 have h0:Fs (· = b) w [⟨b,#[.pointer p,.slice q l c],T.ae_,true⟩] w:=(Fr.init _ w).entry hb (λx h=>by cases h) λ_=>rfl
 refine da_ b p q l c (· = b) K w h0 ⟨rfl,trivial⟩ ⟨λhn=>?_,λa0 ha=>?_⟩
 ·refine df_ (oL_ hb ⟨_,rfl,h0,df_ ?_⟩)
  rw [q2_]
  refine ⟨_,rfl,h0,df_ (mt_ hb ⟨_,rfl,h0,λw3 h3=>?_⟩)⟩
  exact hK w3 _ (.inr rfl) (h3.blk 0 rfl) h3.chg
 ·have hp':a0=⟨b,0,none⟩:=by
   rcases hp with h | h
   ·rw [h] at ha;cases ha
   ·rw [h] at ha;exact (Option.some.inj ha).symm
  subst hp'
  rw [ha]
  exact ac_.2 (ac_.2 ⟨rfl,λ_=>hK w p hp hb (.refl _ _),λh=>h rfl⟩)
theorem kL_ {w:World} {q:Option Addr} {l c:Nat} {bs:List UInt8} {s:ByteArray} {K:Value→World→Prop} (ho:Own T.uint8 1 w q c (bs.map bv)) (hl:l=bs.length) (hlc:l≤c) (hroom:l+s.size≤70368744177664)
  (hK:∀q' c' w',Own T.uint8 1 w' q' c' ((bs++s.data.toList).map bv)→l+s.size≤c'→Chg (am_ q) w w'→(∀a,q'=some a→q=some a∨a=⟨w.heap.size,0,Option.none⟩)→K (.slice q' (l+s.size) c') w') :
  rn PR (Builtin.append_ #[T.bh_,T.string] T.bh_ #[.slice q l c,.string s]) K w:=by
 obtain ⟨i8,hi8,hk8,hb8,hz8⟩:=t_u8
 refine df_ (jV_ (i:=i8) cy_ oF_ hi8 hz8 hk8 hb8 ho (by simp [hl]) hlc hroom λq' c' w' h1 h2 h3 h4=>hK q' c' w' ?_ h2 h3 h4)
 rw [List.map_append];exact h1
theorem aZ_ {w:World} {b m:Nat} {p q:Option Addr} {l c:Nat} {bs:List UInt8} {s:ByteArray} {K:Value→World→Prop} (h:BldP w b m p q l c bs) (hm:m≤w.heap.size) (hroom:l+s.size≤70368744177664)
  (hK:∀w' p' q' l' c',BldP w' b m p' q' l' c' (bs++s.data.toList)→Chg (λk=>k=b∨am_ q k) w w'→(∀a,q'=some a→q=some a∨w.heap.size≤a.block)→K (.tuple #[.int .i64 s.size,.nilIface]) w') :
  aa_ PR F.ba_ ⟨[.pointer (some ⟨b,0,none⟩),.string s]⟩ w K:=by
 have hqb:∀a,q=some a→a.block≠b:=λa ha e=>by have:=h.off.le a ha;have:=h.lt;omega
 have h0:Fs (λk=>k=b∨am_ q k) w [⟨b,#[.pointer p,.slice q l c],T.ae_,true⟩] w:=(Fr.init _ w).entry h.blk (λx h=>by cases h) λ_=>.inl rfl
 refine cz_ b p q l c s (λk=>k=b∨am_ q k) K w h0 ⟨.inl rfl,trivial⟩ ?_
 refine eS_ h.ptr h.blk λw1 p1 hp1 hb1 g1=>?_
 have h1:=h0.mod1 g1 hb1
 refine ⟨rfl,_,_,_,_,h1,?_⟩
 have ho1:Own T.uint8 1 w1 q c (bs.map bv):=h.own.keep g1 λa ha e=>hqb a ha e
 refine kL_ ho1 h.len h.cap hroom λq' c' w2 ho2 hc2 g2 hq2=>?_
 have h2:Fs (λk=>k=b∨am_ q k) w [⟨b,#[.pointer p1,.slice q l c],T.ae_,true⟩] w2:=h1.step g2 (λx hx ⟨a,ha,e⟩=>by
  simp at hx;subst hx;exact hqb a ha e.symm) λk _ hk=>.inr hk
 refine ⟨_,_,_,rfl,h2,λw3 h3=>?_⟩
 have hs1:w1.heap.size=w1.heap.size:=rfl
 have hsz:w.heap.size≤w1.heap.size:=g1.size
 have hmb:∀a,q'=some a→m≤a.block:=λa ha=>by
  rcases hq2 a ha with e | e
  ·exact h.off.le a e
  ·subst e;show m≤w1.heap.size;omega
 have g3:Chg (· = b) w2 w3:=h3.stp.mono λk _ hk=>by simpa using hk
 refine hK w3 p1 q' _ c' ⟨h3.blk 0 rfl,hp1,ho2.keep g3 (λa ha e=>?_),?_,hc2,?_,h.lt,?_⟩ h3.chg ?_
 ·have:=hmb a ha;have:=h.lt;have e':a.block=b:=e;omega
 ·rw [List.length_append,dL_,h.len]
 ·intro a ha hlt;have:=hmb a ha;omega
 ·intro a ha
  rcases hq2 a ha with e | e
  ·exact h.zero a e
  ·subst e;exact ⟨rfl,rfl⟩
 ·intro a ha
  rcases hq2 a ha with e | e
  ·exact .inl e
  ·subst e;exact .inr hsz
theorem rG_ {w:World} {b m:Nat} {p q:Option Addr} {l c:Nat} {bs:List UInt8} {K:Value→World→Prop} (h:BldP w b m p q l c bs) (hK:K (.int .i64 bs.length) w):aa_ PR F.d__ ⟨[.pointer (some ⟨b,0,none⟩)]⟩ w K:=by
 refine eW_ b p q l c (· = b) K w ((Fr.init _ w).entry h.blk (λx h=>by cases h) λ_=>rfl) ⟨rfl,trivial⟩ ?_
 rw [h.len];exact hK
theorem nW_ (w:World) (a:Addr) (n:Nat):Chg (· = a.block) w (w.freeze a n):=by
 unfold World.freeze
 split
 ·exact .refl _ _
 ·refine ⟨rfl,rfl,rfl,by simp,λk hk hn=>?_⟩
  simp only [Array.getElem?_modify]
  rw [if_neg (by omega)]
theorem dV_ {w:World} {b m:Nat} {p q:Option Addr} {l c:Nat} {bs:List UInt8} {K:Value→World→Prop} (h:BldP w b m p q l c bs)
  (hK:∀w',Chg (am_ q) w w'→K (.string (str bs)) w'):aa_ PR F.dt_ ⟨[.pointer (some ⟨b,0,none⟩)]⟩ w K:=by
 have hqb:∀a,q=some a→a.block≠b:=λa ha e=>by have:=h.off.le a ha;have:=h.lt;omega
 refine dZ_ b p q l c (λk=>k=b∨am_ q k) K w ((Fr.init _ w).entry h.blk (λx h=>by cases h) λ_=>.inl rfl) ⟨.inl rfl,trivial⟩ ?_
 intro w0 h0
 have g0:Grow w w0:=h0.grow
 have h:=h.grow g0
 have fin:∀w',Chg (am_ q) w0 w'→Fs (λk=>k=b∨am_ q k) w [⟨b,#[.pointer p,.slice q l c],T.ae_,true⟩] w':=λw' g=>h0.reset.step g (λx hx ⟨a,ha,e⟩=>by
  simp at hx;subst hx;exact hqb a ha e.symm) λk _ hk=>.inr hk
 have g0':∀ {w'},Chg (am_ q) w0 w'→Chg (am_ q) w w':=λg=>g0.then g
 have hlen:=h.len
 rcases h.own with ⟨rfl,hc,hb0⟩ | ⟨blk,o,cs,rfl,hb,h1,h2,h3,h4⟩
 ·have e:bs=[]:=by simpa using hb0
  subst e
  subst hlen
  refine hT_ (run_unsafeSliceData_nil w0 _ _ _ _) ⟨_,rfl,h0.reset,hT_ (run_unsafeString_none w0 _ _ _ _) ⟨_,rfl,h0.reset,hK w0 g0.chg⟩⟩
 ·have hz:=h.zero _ rfl
  simp only [] at hz
  obtain ⟨ho,_⟩:=hz
  subst ho
  have hS2:∀(w1:World) (pp:Option Addr),Chg (am_ (some ⟨blk,0,none⟩)) w0 w1→(bs≠[]→pp=some ⟨blk,0,none⟩∧w1=w0)→rn PR (Builtin.unsafeString_ (#[T.mh_,T.int]) T.string (#[.pointer pp,.int .i64 (l:Int)])) (λv1 w2=>∃s0,v1=.string s0∧Fs (λk=>k=b∨am_ (some ⟨blk,0,none⟩) k) w [⟨b,#[.pointer p,.slice (some ⟨blk,0,none⟩) l c],T.ae_,true⟩] w2∧K (.string s0) w2) w1:=by
   intro w1 pp g1 hpp
   by_cases hbs:bs=[]
   ·subst hbs
    subst hlen
    exact hT_ (run_unsafeString_none w1 _ _ _ _) ⟨_,rfl,fin _ g1,hK _ (g0' g1)⟩
   ·obtain ⟨rfl,rfl⟩:=hpp hbs
    subst hlen
    have g2:Chg (am_ (some ⟨blk,0,none⟩)) w1 (w1.freeze ⟨blk,0,none⟩ bs.length):=(nW_ w1 ⟨blk,0,none⟩ bs.length).mono λk _ e=>⟨_,rfl,e⟩
    refine hT_ (run_unsafeString_row w1 T.mh_ T.int T.string T.uint8 sV_ c_u8 blk cs.size (fD_ hb) bs hbs ?_ ?_ ?_) ⟨_,rfl,fin _ g2,hK _ (g0' g2)⟩
    ·simp only [List.length_map] at h3;omega
    ·simp only [List.length_map] at h3;omega
    ·intro j x hj
     have hjl:j<bs.length:=by
      rcases Nat.lt_or_ge j bs.length with hl | hl
      ·exact hl
      ·simp [List.getElem?_eq_none hl] at hj
     rw [au_,aw_ hb,h4 j (by simpa using hjl),List.getElem?_map,hj];rfl
  by_cases hc:c=0
  ·subst hc
   have hbs:bs=[]:=List.eq_nil_of_length_eq_zero (by have:=h.cap;omega)
   refine hT_ (run_unsafeSliceData_zero w0 _ _ T.uint8 sV_ ⟨blk,0,none⟩ l _ (fD_ hb)) ⟨_,rfl,fin _ (Grow.chg (Chg.alloc w0 _)),?_⟩
   exact hS2 _ _ (Grow.chg (Chg.alloc w0 _)) λh=>absurd hbs h
  ·refine hT_ (run_unsafeSliceData_row w0 _ _ ⟨blk,0,none⟩ l c hc) ⟨_,rfl,h0.reset,?_⟩
   exact hS2 w0 _ (.refl _ _) λ_=>⟨rfl,rfl⟩
end Go.Vc
namespace Go.Vc
open Go
section
variable {S:Nat→Prop} {w0 wp w:World} {M:List Nat} {L:List Blk}
theorem Fr.modL (h:Fr S w0 wp M L w) {w':World} {S':Nat→Prop} (g:Chg S' w w') (L':List Blk) (hb:L'.map (·.b)=L.map (·.b))
  (hx:∀x,x∈L'→(x∈L∧¬S' x.b)∨(w'.heap[x.b]? = some (.cells x.cs x.T (0,0))∧∃y,y∈L∧y.b=x.b∧y.wr=true)) (hs:∀k,k<w0.heap.size→S' k→S k):Fs S w0 L' w':=
 ⟨h.chg.trans g hs,.refl _ _,λx hx'=>by
  rcases hx x hx' with ⟨h1,h2⟩ | ⟨h1,_⟩
  ·exact g.get (h.loc x h1) h2
  ·exact h1,by rw [hb];exact h.nodup,λx hx' hw=>by
  rcases hx x hx' with ⟨h1,_⟩ | ⟨_,y,hy,e,hyw⟩
  ·exact h.new x h1 hw
  ·rw [← e];exact h.new y hy hyw⟩
end
theorem eX_ {n:Nat} (hn:n≤72057594037927935) {w:World} {K:Value→World→Prop} (hK:∀w',Grow w w'→K (.string (str (af_ n))) w'):aa_ PR F.e0_ ⟨[.int .i64 (n:Int)]⟩ w K:=
 e0_ n S0 K w (bN_ (by omega) λw1 g1=>⟨_,_,rfl,(Fr.init _ w).after g1,hK w1 g1⟩)
theorem jo_ (k:Nat):ay_ (k+1)=if k%8=0 then ay_ k+1 else ay_ k:=by
 unfold ay_;split <;> omega
theorem q7_ {k:Nat} (h:k%8=0):ay_ k*8=k:=by unfold ay_;omega
theorem dp_ {nodes first:Int} {R:Nat→List Int} {many:Nat} (hn:nodes≤4096) (hf:0≤first) (hm:first+many≤nodes) (hR:∀j,j<many→e__ nodes (R j)) {k:Nat} (hk:k≤many):(aU_ first R k).length≤163840000:=by
 have:=fs_ (λj=>gapL (first+j) (R j)) 40000 k λi hi=>nj_ hn (by omega) (by omega) (hR i (by omega))
 have h2:k*40000≤4096*40000:=Nat.mul_le_mul_right _ (by omega)
 unfold aU_;omega
theorem gx_ {nodes first:Int} {R:Nat→List Int} {many:Nat} (hn:nodes≤4096) (hf:0≤first) (hm:first+many≤nodes) (hR:∀j,j<many→e__ nodes (R j)) {k:Nat} (hk:k≤ay_ many):(bQ_ first R k).length≤4200:=by
 have:=fs_ (λj=>af_ (aU_ first R (j*8)).length) 8 k λi hi=>an_ (by
  have:=dp_ hn hf hm hR (k:=i*8) (by unfold ay_ at hk;omega);omega)
 unfold bQ_;unfold ay_ at hk;omega
theorem px_ {w:World} {b nodes:Nat} {B Tg:List Int} (h:hg_ w b nodes B Tg) (hL:CsrL nodes B Tg) (hn:nodes≤4096) {first many:Nat} (hm:first+many≤nodes) {K:Value→World→Prop}
  (hK:∀w',Grow w w'→K (.tuple #[.string (str (bQ_ first (λj=>rowOf B Tg (first+j)) (ay_ many))),.string (str (aU_ first (λj=>rowOf B Tg (first+j)) many))]) w') :
  aa_ PR F.nI_ ⟨[.pointer (some ⟨b,0,none⟩),.int .i64 first,.int .i64 many]⟩ w K:=by
 generalize hRdef:(λj=>rowOf B Tg (first+j))=R at hK
 have hR:∀j,j<many→e__ nodes (R j):=λj hj=>by rw [← hRdef];exact hL.row _ (by omega)
 refine l7_ _ first many S0 K w ?_
 intro b0 hb0 b1 hb1 w0 hF0
 have k0:=hF0.blk 0 rfl
 have k1:=hF0.blk 1 rfl
 have hlt0:b0<w0.heap.size:=aj_ k0
 have hlt1:b1<w0.heap.size:=aj_ k1
 have hne:b0≠b1:=by
  have:=hF0.nodup
  simp at this;exact this
 refine ⟨λv p0 q0 l0 c0 p1 q1 l1 c1 m w'=>∃k:Nat,v=first+k∧k≤many∧m=many - k∧BldP w' b0 w0.heap.size p0 q0 l0 c0 (bQ_ first R (ay_ k))∧BldP w' b1 w0.heap.size p1 q1 l1 c1 (aU_ first R k)∧
  (∀a a',q0=some a→q1=some a'→a.block≠a'.block)∧w0.heap.size≤w'.heap.size,⟨_,0,by simp,by omega,rfl,.new k0 hlt0,.new k1 hlt1,(λa a' h=>by cases h),Nat.le_refl _⟩,?_⟩
 rintro v p0 q0 l0 c0 p1 q1 l1 c1 D m w1 ⟨k,rfl,hk,rfl,h0,h1,hd,hsz⟩ hF
 have hrl:=dp_ (nodes:=nodes) (first:=first) (k:=k) (by omega) (by omega) (by omega) hR hk
 have hil:=gx_ (nodes:=nodes) (first:=first) (k:=ay_ k) (by omega) (by omega) (by omega) hR (by unfold ay_;omega)
 rw [w64 (n:=(first:Int)+many) (by omega) (by omega)]
 refine ⟨λhlt=>?_,λhge=>?_⟩
 ·have hk':k<many:=by omega
  have hgl:=nj_ (nodes:=nodes) (v:=first+k) (by omega) (by omega) (by omega) (hR k hk')
  have hev:((first:Int)+k)=((first+k:Nat):Int):=by omega
  have row:∀(w5:World) (p0' q0':Option Addr) (l0' c0':Nat),BldP w5 b0 w0.heap.size p0' q0' l0' c0' (bQ_ first R (ay_ (k+1)))→BldP w5 b1 w0.heap.size p1 q1 l1 c1 (aU_ first R k)→(∀a a',q0'=some a→q1=some a'→a.block≠a'.block)→w0.heap.size≤w5.heap.size→
    Fs S0 w [⟨b0,#[.pointer p0',.slice q0' l0' c0'],T.ae_,true⟩,⟨b1,#[.pointer p1,.slice q1 l1 c1],T.ae_,true⟩] w5→
    aa_ PR F.dw_ #[.pointer (some ⟨b,0,none⟩),.int .i64 ((first:Int)+k)] w5 (λv4 w6=>∃(q6:Option Addr) (l10 l11:Nat) (v5:Value),v4=.tuple #[.slice q6 l10 l11,v5]∧Fs S0 w [⟨b0,#[.pointer p0',.slice q0' l0' c0'],T.ae_,true⟩,⟨b1,#[.pointer p1,.slice q1 l1 c1],T.ae_,true⟩] w6∧
     aa_ PR F.ed_ #[.pointer (some ⟨b,0,none⟩)] w6 (λv6 w7=>∃n3:Int,v6=.int .i64 n3∧Fs S0 w [⟨b0,#[.pointer p0',.slice q0' l0' c0'],T.ae_,true⟩,⟨b1,#[.pointer p1,.slice q1 l1 c1],T.ae_,true⟩] w7∧
      aa_ PR F.ks_ #[.int .i64 n3,.int .i64 ((first:Int)+k),.slice q6 l10 l11] w7 (λv7 w8=>∃(s1:ByteArray) (v8:Value),v7=.tuple #[.string s1,v8]∧Fs S0 w [⟨b0,#[.pointer p0',.slice q0' l0' c0'],T.ae_,true⟩,⟨b1,#[.pointer p1,.slice q1 l1 c1],T.ae_,true⟩] w8∧
       aa_ PR F.ba_ #[.pointer (some ⟨b1,0,none⟩),.string s1] w8 (λv9 w9=>∃(n4:Int) (v10:Value),v9=.tuple #[.int .i64 n4,v10]∧∃(q7 q8:Option Addr) (l12 l13:Nat),Fs S0 w [⟨b0,#[.pointer p0',.slice q0' l0' c0'],T.ae_,true⟩,⟨b1,#[.pointer q7,.slice q8 l12 l13],T.ae_,true⟩] w9∧
        ∃l14:Nat,l14<many - k∧∃k':Nat,IntKind.wrap .i64 ((first:Int)+k+1)=first+k'∧k'≤many∧l14=many - k'∧BldP w9 b0 w0.heap.size p0' q0' l0' c0' (bQ_ first R (ay_ k'))∧BldP w9 b1 w0.heap.size q7 q8 l12 l13 (aU_ first R k')∧
         (∀a a',q0'=some a→q8=some a'→a.block≠a'.block)∧w0.heap.size≤w9.heap.size)))):=by
   intro w5 p0' q0' l0' c0' i0 i1 hd' hsz' hF5
   rw [hev]
   refine lI_ (h.grow hF5.gr) hL hn (by omega) λw6 q6 c6 g6 hs6=>⟨_,_,_,_,rfl,hF5.after g6,?_⟩
   have hF6:=hF5.after g6
   refine b4_ (h.grow hF6.gr) hn ⟨_,rfl,hF6,?_⟩
   have er:rowOf B Tg (first+k)=R k:=by rw [← hRdef]
   rw [er] at hs6 ⊢
   refine ms_ (by omega) (by omega) (hR k hk') hs6 rfl λw8 g8=>⟨_,_,rfl,hF6.after g8,?_⟩
   have hF8:=hF6.after g8
   have i0:=(i0.grow g6).grow g8
   have i1:=(i1.grow g6).grow g8
   have hsz8:w0.heap.size≤w8.heap.size:=by have:=g6.size;have:=g8.size;omega
   have hl1:=i1.len
   refine aZ_ i1 hsz8 (by rw [ai_];rw [← hev];omega) λw9 p' q' l' c' i1' g9 hq9=>⟨_,_,rfl,p',q',l',c',hF8.modL g9 _ rfl ?_ ?_,many - (k+1),by omega,k+1,?_,by omega,rfl,i0.keep g9 ?_ ?_,?_,?_,by have:=g9.size;omega⟩
   ·intro x hx
    rcases List.mem_cons.1 hx with rfl | hx
    ·refine .inl ⟨List.mem_cons_self,?_⟩
     rintro (e | ⟨a,ha,e⟩)
     ·exact hne e
     ·have:=i1.off.le a ha;simp only [] at e;omega
    ·simp at hx;subst hx
     exact .inr ⟨i1'.blk,_,List.mem_cons_of_mem _ List.mem_cons_self,rfl,rfl⟩
   ·rintro j hj (e | ⟨a,ha,e⟩)
    ·omega
    ·have:=i1.off.le a ha;have:=hF0.chg.size;omega
   ·rw [w64 (by omega) (by omega)];omega
   ·rintro (e | ⟨a,ha,e⟩)
    ·exact hne e
    ·have:=i1.off.le a ha;omega
   ·rintro a ha (e | ⟨a',ha',e⟩)
    ·have:=i0.off.le a ha;omega
    ·exact hd' a a' ha ha' e
   ·have:aU_ first R (k+1)=aU_ first R k++gapL (first+k) (R k):=rfl
    rw [this,hev]
    rw [b6_] at i1'
    exact i1'
   ·intro a a' ha ha'
    rcases hq9 a' ha' with e | e
    ·exact hd' a a' ha e
    ·have:=i0.own.lt a ha;omega
  rw [w64 (n:=(first:Int)+k - first) (by omega) (by omega),show ((first:Int)+k - first)=k by omega,Int.tmod_eq_emod_of_nonneg (by omega)]
  refine ⟨λhe=>?_,λhe=>?_⟩
  ·have he':k%8=0:=by omega
   refine rG_ h1 ⟨_,rfl,hF,?_⟩
   refine eX_ (by omega) λw3 g3=>⟨_,rfl,hF.after g3,?_⟩
   have hF3:=hF.after g3
   have i0:=h0.grow g3
   have i1:=h1.grow g3
   have hsz3:w0.heap.size≤w3.heap.size:=by have:=g3.size;omega
   have h8:=an_ (n:=(aU_ first R k).length) (by omega)
   have hl0:=i0.len
   refine aZ_ i0 hsz3 (by rw [ai_];omega) λw5 p' q' l' c' i0' g5 hq5=>⟨_,_,rfl,p',q',l',c',hF3.modL g5 _ rfl ?_ ?_,row w5 p' q' l' c' ?_ (i1.keep g5 ?_ ?_) ?_ (by have:=g5.size;omega) (hF3.modL g5 _ rfl ?_ ?_)⟩
   ·intro x hx
    rcases List.mem_cons.1 hx with rfl | hx
    ·exact .inr ⟨i0'.blk,_,List.mem_cons_self,rfl,rfl⟩
    ·simp at hx;subst hx
     refine .inl ⟨List.mem_cons_of_mem _ List.mem_cons_self,?_⟩
     rintro (e | ⟨a,ha,e⟩)
     ·exact hne e.symm
     ·have:=i0.off.le a ha;simp only [] at e;omega
   ·rintro j hj (e | ⟨a,ha,e⟩)
    ·omega
    ·have:=i0.off.le a ha;have:=hF0.chg.size;omega
   ·rw [jo_,if_pos he']
    have:bQ_ first R (ay_ k+1)=bQ_ first R (ay_ k)++af_ (aU_ first R (ay_ k*8)).length:=rfl
    rw [this,q7_ he']
    rw [b6_] at i0'
    exact i0'
   ·rintro (e | ⟨a,ha,e⟩)
    ·exact hne e.symm
    ·have:=i0.off.le a ha;omega
   ·rintro a ha (e | ⟨a',ha',e⟩)
    ·have:=i1.off.le a ha;omega
    ·exact hd a' a ha' ha e.symm
   ·intro a a' ha ha'
    rcases hq5 a ha with e | e
    ·exact hd a a' e ha'
    ·have:=i1.own.lt a' ha';omega
   ·intro x hx
    rcases List.mem_cons.1 hx with rfl | hx
    ·exact .inr ⟨i0'.blk,_,List.mem_cons_self,rfl,rfl⟩
    ·simp at hx;subst hx
     refine .inl ⟨List.mem_cons_of_mem _ List.mem_cons_self,?_⟩
     rintro (e | ⟨a,ha,e⟩)
     ·exact hne e.symm
     ·have:=i0.off.le a ha;simp only [] at e;omega
   ·rintro j hj (e | ⟨a,ha,e⟩)
    ·omega
    ·have:=i0.off.le a ha;have:=hF0.chg.size;omega
  ·have he':¬k%8=0:=by omega
   refine row w1 p0 q0 l0 c0 ?_ h1 hd hsz hF
   rw [jo_,if_neg he'];exact h0
 ·have e:k=many:=by omega
  subst e
  refine dV_ h0 λw2 g2=>⟨_,rfl,?_,?_⟩
  ·refine hF.step g2 (λx hx ⟨a,ha,e⟩=>?_) λj hj ⟨a,ha,e⟩=>?_
   ·have:=h0.off.le a ha
    rcases List.mem_cons.1 hx with rfl | hx
    ·simp only [] at e;omega
    ·simp at hx;subst hx;simp only [] at e;omega
   ·have:=h0.off.le a ha;have:=hF0.chg.size;omega
  ·have h1':BldP w2 b1 w0.heap.size p1 q1 l1 c1 (aU_ first R k):=h1.keep g2 (λ⟨a,ha,e⟩=>by have:=h0.off.le a ha;omega) (λa ha ⟨a',ha',e⟩=>hd a' a ha' ha e.symm)
   have hF2:Fs S0 w [⟨b0,#[.pointer p0,.slice q0 l0 c0],T.ae_,true⟩,⟨b1,#[.pointer p1,.slice q1 l1 c1],T.ae_,true⟩] w2:=hF.step g2 (λx hx ⟨a,ha,e⟩=>by
    have:=h0.off.le a ha
    rcases List.mem_cons.1 hx with rfl | hx
    ·simp only [] at e;omega
    ·simp at hx;subst hx;simp only [] at e;omega) λj hj ⟨a,ha,e⟩=>by
    have:=h0.off.le a ha;have:=hF0.chg.size;omega
   refine dV_ h1' λw3 g3=>?_
   have hF3:Fs S0 w [⟨b0,#[.pointer p0,.slice q0 l0 c0],T.ae_,true⟩,⟨b1,#[.pointer p1,.slice q1 l1 c1],T.ae_,true⟩] w3:=hF2.step g3 (λx hx ⟨a,ha,e⟩=>by
    have:=h1'.off.le a ha
    rcases List.mem_cons.1 hx with rfl | hx
    ·simp only [] at e;omega
    ·simp at hx;subst hx;simp only [] at e;omega) λj hj ⟨a,ha,e⟩=>by
    have:=h1'.off.le a ha;have:=hF0.chg.size;omega
   exact ⟨_,rfl,hF3,hK w3 hF3.chg⟩
end Go.Vc
namespace Go.Vc
open Go
def Dj (q r:Option Addr):Prop:=∀a a',q=some a→r=some a'→a.block≠a'.block
theorem Dj.none (r:Option Addr):Dj Option.none r:=λa a' h=>by cases h
theorem Dj.symm {q r:Option Addr} (h:Dj q r):Dj r q:=λa a' h1 h2=>(h a' a h2 h1).symm
theorem Dj.next {q q' r:Option Addr} {n:Nat} (h:Dj q r) (hq:∀a,q'=some a→q=some a∨a=⟨n,0,Option.none⟩) (hr:∀a,r=some a→a.block<n):Dj q' r:=λa a' h1 h2=>by
 rcases hq a h1 with e | e
 ·exact h a a' e h2
 ·subst e;have:=hr a' h2;simp only [];omega
theorem Dj.off {q r:Option Addr} (h:Dj q r):Off (am_ q) r:=λa ha ⟨a',ha',e⟩=>h a' a ha' ha e.symm
theorem nT_ {first many at_:Int} (h0:0≤many∧many≤4096) {w:World} {K:Value→World→Prop} (hK:∀w',Grow w w'→K (.int .i64 (ay_ many.toNat)) w'):aa_ PR F.cg_ ⟨[.agg #[.int .i64 first,.int .i64 many,.int .i64 at_]]⟩ w K:=by
 refine cg_ first many at_ S0 K w λb hb w0 h0'=>?_
 rw [w64 (n:=many+8) (by omega) (by omega),w64 (n:=many+8 - 1) (by omega) (by omega),Int.tdiv_eq_ediv_of_nonneg (by omega),w64 (by omega) (by omega)]
 have:(many+8 - 1) / 8=((ay_ many.toNat:Nat):Int):=by unfold ay_;omega
 rw [this];exact hK w0 h0'.chg
theorem pF_ {s:ByteArray} {nodes:Int} {first many:Nat} {r:List UInt8} (hn:nodes≤4096) (hm:(first:Int)+many≤nodes) (h1:1≤many) (hs:s.size≤4611686018427387904) (hd:s.data.toList=af_ first++(af_ many++r)) {w:World} {K:Value→World→Prop}
  (hK:∀w',Grow w w'→K (.tuple #[.agg #[.int .i64 first,.int .i64 many,.int .i64 ((af_ first).length+(af_ many).length:Nat)],.nilIface]) w'):aa_ PR F.e1_ ⟨[.string s,.int .i64 nodes]⟩ w K:=by
 refine e1_ s nodes S0 K w λb hb=>⟨λh=>by omega,λ_=>⟨λh=>by omega,λ_ w2 hF2=>?_⟩⟩
 refine ex_ (at_:=0) (n:=first) hs (by omega) (by simpa using hd) (by omega) λ_ _=>⟨_,_,_,rfl,hF2.reset,λ_=>?_,(λt x h=>by cases h),.inl rfl⟩
 refine ex_ (n:=many) hs (by omega) (r:=r) (by rw [show ((0:Int)+(af_ first).length).toNat=(af_ first).length by omega,hd,List.drop_left' rfl]) (by omega) λ_ _=>⟨_,_,_,rfl,hF2.reset,λ_=>?_,(λt x h=>by cases h),.inl rfl⟩
 rw [w64 (n:=nodes - first) (by omega) (by omega)]
 refine ⟨λh=>by omega,λ_=>⟨λh=>by omega,λ_=>⟨λh=>by omega,λ_ w11 h11=>?_⟩⟩⟩
 have e:(0:Int)+(af_ first).length+(af_ many).length=(((af_ first).length+(af_ many).length:Nat):Int):=by omega
 rw [e];exact hK w11 h11.chg
def c5_ (f:Nat→Nat) (n:Nat):List Int:=(List.range n).map λi=>((f i:Nat):Int)
theorem ia_ (f:Nat→Nat) (n:Nat):c5_ f (n+1)=c5_ f n++[((f n:Nat):Int)]:=by simp [c5_,List.range_succ]
theorem bC_ (f:Nat→Nat) (n:Nat):(c5_ f n).length=n:=by simp [c5_]
theorem lq_ (f:Nat→Nat) {n i:Nat} (h:i<n):(c5_ f n).getD i 0=f i:=by simp [c5_,h]
theorem pD_ {s:ByteArray} {first many at_:Int} {f:Nat→Nat} {n:Nat} {r:List UInt8} (hs:s.size≤4611686018427387904) (hn:n≤4096) (hf:∀i,i<n→f i≤72057594037927935) (ha:0≤at_) (hd:s.data.toList.drop at_.toNat=cat (λi=>af_ (f i)) n++r) (hat:at_≤s.size)
  {w:World} {K:Value→World→Prop}
  (hK:∀w' q c q2 n2 c2,Grow w w'→Sl w' q ((c5_ f n).map iv)→n2=n→K (.tuple #[.slice q n c,.slice q2 n2 c2,.int .i64 (at_+(cat (λi=>af_ (f i)) n).length),.nilIface]) w') :
  aa_ PR F.ch_ ⟨[.agg #[.int .i64 first,.int .i64 many,.int .i64 at_],.string s,.int .i64 n]⟩ w K:=by
 refine ch_ first many at_ s n S0 K w λb hb w0 hF0=>?_
 refine ⟨λq l c q2 l2 c2 p i m w'=>∃(k:Nat) (pl:List Int),i=k∧k≤n∧m=n - k∧p=at_+(cat (λi=>af_ (f i)) k).length∧Own T.int 1 w' q c ((c5_ f k).map iv)∧k=l∧l≤c∧Own T.int 1 w' q2 c2 (pl.map iv)∧pl.length=k∧k=l2∧l2≤c2∧
  Off (λj=>j<w0.heap.size) q∧Off (λj=>j<w0.heap.size) q2∧Dj q q2∧w0.heap.size≤w'.heap.size∧p≤s.size,⟨_,0,[],rfl,by omega,rfl,by simp [cat],.nil _ _ _,rfl,Nat.le_refl _,.nil _ _ _,rfl,rfl,Nat.le_refl _,.none _,.none _,.none _,Nat.le_refl _,hat⟩,?_⟩
 rintro q l c q2 l2 c2 p i D m w1 ⟨k,pl,rfl,hk,rfl,rfl,ho,rfl,hlc,ho2,hpl,rfl,hlc2,hof,hof2,hdj,hsz,hp⟩ hF
 refine ⟨λhlt=>?_,λhge=>?_⟩
 ·have hk':k<n:=by omega
  obtain ⟨r',hsp⟩:=dB_ (λi=>af_ (f i)) hk'
  have hdk:s.data.toList.drop (at_+(cat (λi=>af_ (f i)) k).length).toNat=af_ (f k)++(r'++r):=by
   have e0:s.data.toList.drop at_.toNat=cat (λi=>af_ (f i)) k++(af_ (f k)++(r'++r)):=by rw [hd,hsp];simp [List.append_assoc]
   rw [show (at_+(cat (λi=>af_ (f i)) k).length).toNat=at_.toNat+(cat (λi=>af_ (f i)) k).length by omega,← List.drop_drop,e0,List.drop_left' rfl]
  refine ex_ hs (by omega) hdk (hf k hk') λ_ hle=>⟨_,_,_,rfl,hF,λ_=>?_,(λt x h=>by cases h),.inl rfl⟩
  intro b1 hb1 w3 hF3
  refine f2_ (ho.grow hF3.grow) (by rw [bC_]) hlc (ys:=[((f k:Nat):Int)]) (hF3.sl 0 rfl) rfl (by omega) λq' c' w4 ho4 hc4 g4 hq4=>?_
  have hF4:=hF3.app2 g4 w0.heap.size w1.heap.size hof (λa ha=>ho.lt a ha) (λy hy=>by simp at hy;subst hy;exact .inr hb1) hF0.chg.size
  refine ⟨_,_,_,rfl,hF4,λb2 hb2 w5 hF5=>?_⟩
  have ho2':Own T.int 1 w4 q2 c2 (pl.map iv):=(ho2.grow hF3.grow).keep g4 hdj.off
  have ho4':=ho4.grow hF5.grow
  have hs3:w1.heap.size≤w3.heap.size:=hF3.grow.size
  refine f2_ (ho2'.grow hF5.grow) (by rw [hpl]) hlc2 (ys:=[at_+((cat (λi=>af_ (f i)) k).length:Nat)]) (hF5.sl 1 rfl) rfl (by omega) λq2' c2' w6 ho6 hc6 g6 hq6=>?_
  have hF6:=hF5.app2 g6 w0.heap.size w1.heap.size hof2 (λa ha=>by have:=ho2.lt a ha;omega) (λy hy=>by
   rcases List.mem_cons.1 hy with rfl | hy
   ·exact .inr hb1
   ·simp at hy;subst hy;exact .inr (by have:=g4.size;simp only [];omega)) hF0.chg.size
  have hdj4:Dj q' q2:=hdj.next hq4 (λa ha=>by have:=ho2.lt a ha;omega)
  have hdj6:Dj q2' q':=hdj4.symm.next hq6 (λa ha=>ho4'.lt a ha)
  refine ⟨_,_,_,rfl,hF6,n - (k+1),by omega,k+1,_,wr1 (by omega),by omega,rfl,?_,?_,rfl,hc4,ho6,by simp [hpl],rfl,hc6,hof.next hq4 (by omega),hof2.next hq6 (by have:=g4.size;have:=hF5.grow.size;omega),hdj6.symm,by have:=g4.size;have:=hF5.grow.size;have:=g6.size;omega,hle⟩
  ·rw [cat,List.length_append];omega
  ·rw [ia_];exact ho4'.keep g6 hdj4.symm.off
 ·have e:k=n:=by omega
  subst e
  exact hK w1 q c q2 k c2 hF.gr ho.sl rfl
theorem sU_:PR.underlying T.o6_=some (.slice T.bq_):=by kernel_rfl
theorem s0_:tyI T.bq_ 1 24 (.slice none 0 0):=by
 have h:(match PR.info? T.bq_ with | some i=>i.size == 1 && i.bytes == 24 && (match i.zero with | some (.slice none 0 0)=>true | _=>false) | none=>false)=true:=by kernel_rfl
 split at h
 ·rename_i i hi
  simp only [Bool.and_eq_true,beq_iff_eq] at h
  refine ⟨i,hi,h.1.1,h.1.2,?_⟩
  have h2:=h.2
  split at h2
  ·assumption
  ·cases h2
 ·cases h
end Go.Vc
namespace Go.Vc
open Go Go.MapKept
def MapP (w:World) (k:TypeId) (r n:Nat) (R:Value→Value→Prop):Prop:=
 ∃es clock,w.heap[r]? = some (.map es clock)∧Stamped es clock∧es.size≤n∧(∀x∈es.toList,∃l,keyOf PR k x.key=some l)∧∀key v,R key v↔∃x∈es.toList,x.key=key∧x.val=v
theorem MapP.keep {S:Nat→Prop} {w w':World} {k:TypeId} {r n:Nat} {R:Value→Value→Prop} (h:MapP w k r n R) (g:Chg S w w') (hn:¬S r):MapP w' k r n R:=by
 obtain ⟨es,clock,h1,h2⟩:=h
 exact ⟨es,clock,g.get h1 hn,h2⟩
theorem MapP.grow {w w':World} {k:TypeId} {r n:Nat} {R:Value→Value→Prop} (h:MapP w k r n R) (g:Grow w w'):MapP w' k r n R:=h.keep g id
theorem MapP.lt {w:World} {k:TypeId} {r n:Nat} {R:Value→Value→Prop} (h:MapP w k r n R):r<w.heap.size:=by
 obtain ⟨es,clock,h1,h2⟩:=h;exact aj_ h1
theorem MapP.le {w:World} {k:TypeId} {r n m:Nat} {R:Value→Value→Prop} (h:MapP w k r n R) (hm:n≤m):MapP w k r m R:=by
 obtain ⟨es,clock,h1,h2,h3,h4⟩:=h;exact ⟨es,clock,h1,h2,Nat.le_trans h3 hm,h4⟩
theorem bs_ {α:Type} {l:List α} (h:l.Nodup) {i j:Nat} {a:α} (hi:l[i]? = some a) (hj:l[j]? = some a):i=j:=by
 obtain ⟨hi',ei⟩:=List.getElem?_eq_some_iff.1 hi
 obtain ⟨hj',ej⟩:=List.getElem?_eq_some_iff.1 hj
 have:=List.pairwise_iff_getElem.1 h
 rcases Nat.lt_trichotomy i j with h' | h' | h'
 ·exact absurd (ei.trans ej.symm) (this i j hi' hj' h')
 ·exact h'
 ·exact absurd (ej.trans ei.symm) (this j i hj' hi' h')
theorem MapP.inj {w:World} {k:TypeId} {r n:Nat} {R:Value→Value→Prop} (h:MapP w k r n R) {key a b:Value} (ha:R key a) (hb:R key b):a=b:=by
 obtain ⟨es,clock,h1,⟨_,_,hn⟩,h3,h4,h5⟩:=h
 obtain ⟨x,hx,hxk,rfl⟩:=(h5 key a).1 ha
 obtain ⟨y,hy,hyk,rfl⟩:=(h5 key b).1 hb
 have:x=y:=by
  obtain ⟨i,hi,rfl⟩:=List.getElem_of_mem hx
  obtain ⟨j,hj,rfl⟩:=List.getElem_of_mem hy
  have hij:i=j:=bs_ hn (a:=key) (by rw [List.getElem?_map,List.getElem?_eq_getElem hi];exact congrArg some hxk) (by rw [List.getElem?_map,List.getElem?_eq_getElem hj];exact congrArg some hyk)
  subst hij;rfl
 rw [this]
theorem do_ {α:Type} {s:Sem α} {K:α→World→Prop} {w w':World} {a:α} (h:s.run PR w=.ok a w') (hK:K a w'):rn PR s K w:=⟨a,w',h,hK⟩
def updR (R:Value→Value→Prop) (key val:Value):Value→Value→Prop:=λk v=>(k=key∧v=val)∨(k≠key∧R k v)
theorem o__ (w:World) (r:Nat) (o:Obj):Chg (· = r) w { w with heap:=w.heap.setIfInBounds r o }:=
 ⟨rfl,rfl,rfl,by simp,λk hk hn=>by
  show (w.heap.setIfInBounds r o)[k]? = _
  rw [Array.getElem?_setIfInBounds_ne (λe=>hn e.symm)]⟩
theorem kV_ {t k e:TypeId} (Ky:Maps.Keyed PR k) (ht:PR.underlying t=some (.map k e)) {w:World} {r n:Nat} {R:Value→Value→Prop} (h:MapP w k r n R) {key val:Value} {kl:Lit} (hkey:keyOf PR k key=some kl) {K:Unit→World→Prop}
  (hK:∀w',MapP w' k r (n+1) (updR R key val)→Chg (· = r) w w'→w'.heap.size=w.heap.size→K () w'):rn PR (Instr.mapUpdate t (.map (some r)) key val) K w:=by
 obtain ⟨es,clock,hb,hst,hsz,hks,hR⟩:=h
 have hlt:=aj_ hb
 rcases Ky.find w hkey es.toList hks with ⟨h1,h2⟩ | ⟨j,e0,h1,h2,h3⟩
 ·refine do_ (w':={ w with heap:=w.heap.setIfInBounds r (.map (es.push ⟨key,val,clock⟩) (clock+1)) }) (a:=()) ?_ (hK _ ⟨es.push ⟨key,val,clock⟩,clock+1,?_,stamped_push hst h2,by simp;omega,?_,?_⟩ (o__ _ _ _) (by simp))
  ·simp [Instr.mapUpdate,run_underlying ht,MapKept.run_getObj_map hb,Ky.check w false hkey,h1,MapKept.run_setObj_map _ hb]
  ·show (w.heap.setIfInBounds r _)[r]? = _
   simp [hlt]
  ·intro x hx
   simp only [Array.toList_push,List.mem_append,List.mem_singleton] at hx
   rcases hx with hx | rfl
   ·exact hks x hx
   ·exact ⟨kl,hkey⟩
  ·intro k' v
   simp only [Array.toList_push,List.mem_append,List.mem_singleton,updR]
   constructor
   ·rintro (⟨rfl,rfl⟩ | ⟨hne,hr⟩)
    ·exact ⟨_,.inr rfl,rfl,rfl⟩
    ·obtain ⟨x,hx,h⟩:=(hR k' v).1 hr
     exact ⟨x,.inl hx,h⟩
   ·rintro ⟨x,hx | rfl,h,h'⟩
    ·exact .inr ⟨λe=>h2 x hx (h.trans e),(hR k' v).2 ⟨x,hx,h,h'⟩⟩
    ·exact .inl ⟨h.symm,h'.symm⟩
 ·have hjl:j<es.toList.length:=(List.getElem?_eq_some_iff.1 h2).1
  have hjs:j<es.size:=by simpa using hjl
  have hej:es[j]? = some e0:=by rw [← Array.getElem?_toList];exact h2
  have hm0:e0∈es.toList:=List.mem_of_getElem? h2
  have hmod:∀x,x∈(es.modify j λe=>{ e with key:=key,val:=val }).toList↔(x = { e0 with key:=key,val:=val })∨(x∈es.toList∧x.key≠key):=by
   intro x
   have hget:∀i,(es.modify j λe=>{ e with key:=key,val:=val }).toList[i]? = if j=i then (es[i]?).map λe=>{ e with key:=key,val:=val } else es[i]?:=by
    intro i;rw [Array.getElem?_toList,Array.getElem?_modify]
   constructor
   ·intro hx
    obtain ⟨i,hi⟩:=List.getElem?_of_mem hx
    rw [hget] at hi
    split at hi
    ·rename_i e;subst e
     rw [hej] at hi
     simp only [Option.map_some,Option.some.injEq] at hi
     exact .inl hi.symm
    ·rename_i hne
     refine .inr ⟨List.mem_of_getElem? (by rw [Array.getElem?_toList];exact hi),λhk=>?_⟩
     obtain ⟨_,_,hn⟩:=hst
     have e1:(es.toList.map (·.key))[j]? = some key:=by rw [List.getElem?_map,h2];simp [h3]
     have e2:(es.toList.map (·.key))[i]? = some key:=by rw [List.getElem?_map,Array.getElem?_toList,hi];simp [hk]
     exact hne (bs_ hn e1 e2)
   ·rintro (rfl | ⟨hx,hk⟩)
    ·refine List.mem_of_getElem? (i:=j) ?_
     rw [hget,if_pos rfl,hej];rfl
    ·obtain ⟨i,hi⟩:=List.getElem?_of_mem hx
     refine List.mem_of_getElem? (i:=i) ?_
     rw [hget,if_neg,← Array.getElem?_toList,hi]
     rintro rfl
     rw [h2] at hi;cases hi
     exact hk h3
  refine do_ (w':={ w with heap:=w.heap.setIfInBounds r (.map (es.modify j λe=>{ e with key:=key,val:=val }) clock) }) (a:=()) ?_ (hK _ ⟨es.modify j λe=>{ e with key:=key,val:=val },clock,?_,stamped_modify hst j _ (λ_ _=>rfl) (λe _ he=>by rw [hej] at he;cases he;exact h3.symm),by simp;omega,?_,?_⟩ (o__ _ _ _) (by simp))
  ·have hst2:=Ky.stays w hkey
   simp [Instr.mapUpdate,run_underlying ht,MapKept.run_getObj_map hb,Ky.check w false hkey,h1,hej,h3,hst2,MapKept.run_setObj_map _ hb]
  ·show (w.heap.setIfInBounds r _)[r]? = _
   simp [hlt]
  ·intro x hx
   rcases (hmod x).1 hx with rfl | ⟨hx,_⟩
   ·exact ⟨kl,hkey⟩
   ·exact hks x hx
  ·intro k' v
   constructor
   ·rintro (⟨rfl,rfl⟩ | ⟨hne,hr⟩)
    ·exact ⟨_,(hmod _).2 (.inl rfl),rfl,rfl⟩
    ·obtain ⟨x,hx,h,h'⟩:=(hR k' v).1 hr
     exact ⟨x,(hmod x).2 (.inr ⟨hx,λe=>hne (h.symm.trans e)⟩),h,h'⟩
   ·rintro ⟨x,hx,h,h'⟩
    rcases (hmod x).1 hx with rfl | ⟨hx,hk⟩
    ·exact .inl ⟨h.symm,h'.symm⟩
    ·exact .inr ⟨λe=>hk (h.trans e),(hR k' v).2 ⟨x,hx,h,h'⟩⟩
theorem ib_ {t k e:TypeId} (Ky:Maps.Keyed PR k) (ht:PR.underlying t=some (.map k e)) {w:World} {r n:Nat} {R:Value→Value→Prop} (h:MapP w k r n R) {key:Value} {kl:Lit} (hkey:keyOf PR k key=some kl) (c:Bool) {z:Value} (hz:∀w:World,(zeroValue e).run PR w=.ok z w)
  {K:Value→World→Prop} (h1:∀v,R key v→K (if c then .tuple #[v,.bool true] else v) w) (h2:(∀v,¬R key v)→K (if c then .tuple #[z,.bool false] else z) w):rn PR (Instr.lookup t (.map (some r)) key c) K w:=by
 obtain ⟨es,clock,hb,hst,hsz,hks,hR⟩:=h
 rcases Ky.find w hkey es.toList hks with ⟨e1,e2⟩ | ⟨j,e0,e1,e2,e3⟩
 ·refine do_ (w':=w) ?_ (h2 λv hv=>?_)
  ·simp [Instr.lookup,run_underlying ht,MapKept.run_getObj_map hb,Ky.check w _ hkey,e1,hz,Result.andThen]
  ·obtain ⟨x,hx,hk,_⟩:=(hR key v).1 hv
   exact e2 x hx hk
 ·refine do_ (w':=w) ?_ (h1 e0.val ((hR _ _).2 ⟨e0,List.mem_of_getElem? e2,e3,rfl⟩))
  simp [Instr.lookup,run_underlying ht,MapKept.run_getObj_map hb,Ky.check w _ hkey,e1,Result.andThen]
theorem pt_ {t k:TypeId} {w:World} {K:Value→World→Prop} (hK:∀w' r,r=w.heap.size→MapP w' k r 0 (λ_ _=>False)→Grow w w'→K (.map (some r)) w'):rn PR (Instr.makeMap t Option.none) K w:=by
 refine do_ (w':=w.alloc (.map #[] 0)) (a:=.map (some w.heap.size)) (by simp [Instr.makeMap]) (hK _ _ rfl ⟨#[],0,?_,stamped_empty 0,by simp,by simp,by simp⟩ (Chg.alloc w _))
 show (w.heap.push _)[w.heap.size]? = _
 simp
end Go.Vc
namespace Go.Vc
open Go
theorem j0_ {w:World} {b nodes:Nat} {B Tg:List Int} (h:hg_ w b nodes B Tg) (hL:CsrL nodes B Tg) (hn:nodes≤4096) {first many:Nat} (hm:first+many≤nodes) (h1:1≤many) {K:Value→World→Prop}
  (hK:∀w',Grow w w'→K (.tuple #[.string (str (gP_ first (λj=>rowOf B Tg (first+j)) many)),.nilIface]) w') :
  aa_ PR F.hO_ ⟨[.pointer (some ⟨b,0,none⟩),.int .i64 first,.int .i64 many]⟩ w K:=by
 have hR:∀j,j<many→e__ (nodes:Int) ((λj=>rowOf B Tg (first+j)) j):=λj hj=>hL.row _ (by omega)
 refine hO_ _ first many S0 K w ⟨(λh=>by cases h),λa0 ha=>⟨(λh=>by omega),λ_=>⟨(λh=>by omega),λ_=>?_⟩⟩⟩
 refine b4_ h hn ⟨_,rfl,.init _ w,(λh=>by omega),λ_=>?_⟩
 refine b4_ h hn ⟨_,rfl,.init _ w,λh=>?_,λ_=>?_⟩
 ·rw [w64 (by omega) (by omega)] at h;omega
 refine px_ h hL hn hm λw2 g2=>⟨_,_,rfl,(Fr.init _ w).after g2,?_⟩
 refine eX_ (by omega) λw3 g3=>⟨_,rfl,((Fr.init _ w).after g2).after g3,?_⟩
 refine eX_ (by omega) λw4 g4=>⟨_,rfl,(((Fr.init _ w).after g2).after g3).after g4,?_⟩
 have a1:=an_ (n:=first) (by omega)
 have a2:=an_ (n:=many) (by omega)
 have a3:=gx_ (nodes:=nodes) (first:=first) (many:=many) (k:=ay_ many) (by omega) (by omega) (by omega) hR (Nat.le_refl _)
 have a4:=dp_ (nodes:=nodes) (first:=first) (many:=many) (k:=many) (by omega) (by omega) (by omega) hR (Nat.le_refl _)
 simp only [aD_,ai_,List.length_append]
 refine ⟨by omega,by omega,by omega,?_⟩
 exact hK w4 ((g2.trans g3).trans g4)
theorem jg_ {nodes first many:Nat} {R:Nat→List Int} (hn:nodes≤4096) (hm:first+many≤nodes) (hR:∀j,j<many→e__ (nodes:Int) (R j)):(gP_ first R many).length≤163850000:=by
 have a1:=an_ (n:=first) (by omega)
 have a2:=an_ (n:=many) (by omega)
 have a3:=gx_ (nodes:=nodes) (first:=first) (many:=many) (k:=ay_ many) (by omega) (by omega) (by omega) hR (Nat.le_refl _)
 have a4:=dp_ (nodes:=nodes) (first:=first) (many:=many) (k:=many) (by omega) (by omega) (by omega) hR (Nat.le_refl _)
 simp only [gP_,List.length_append,Int.toNat_natCast];omega
theorem k__ {nodes first many:Nat} {R:Nat→List Int} (hn:nodes≤4096) (hm:first+many≤nodes) (h1:1≤many) (hR:∀j,j<many→e__ (nodes:Int) (R j)) {w:World} {K:Value→World→Prop}
  (hK:∀w' q n c,Grow w w'→K (.tuple #[.agg #[.int .i64 first,.slice q n c],.nilIface]) w') :
  aa_ PR F.hP_ ⟨[.string (str (gP_ first R many)),.int .i64 nodes]⟩ w K:=by
 have hsl:=jg_ hn hm hR
 generalize hs:str (gP_ first R many)=s
 have hdat:s.data.toList=af_ first++(af_ many++(bQ_ first R (ay_ many)++aU_ first R many)):=by
  rw [← hs,b6_,gP_,Int.toNat_natCast];simp
 have hsize:s.size=(af_ first).length+(af_ many).length+(bQ_ first R (ay_ many)).length+(aU_ first R many).length:=by
  rw [← dL_,hdat];simp;omega
 have hs62:s.size≤163850000:=by rw [← hs,ai_];exact hsl
 have hrb:∀i,i≤many→(aU_ first R i).length≤163840000:=λi hi=>dp_ (nodes:=nodes) (by omega) (by omega) (by omega) hR hi
 refine hP_ s nodes S0 K w λb0 hb0 w0 hF0=>?_
 refine pF_ (by omega) (by omega) h1 (by omega) hdat λw1 g1=>⟨_,_,_,_,rfl,hF0.after g1,λb1 hb1=>⟨λ_=>?_,(λt x h=>by cases h),.inl rfl⟩⟩
 intro w2 hF2
 refine nT_ (by omega) λw3 g3=>⟨_,rfl,hF2.after g3,?_⟩
 rw [Int.toNat_natCast]
 have hF3:=hF2.after g3
 refine pD_ (f:=λi=>(aU_ first R (i*8)).length) (r:=aU_ first R many) (by omega) (by unfold ay_;omega) (λi hi=>by have:=hrb (i*8) (by unfold ay_ at hi;omega);omega) (by omega) ?_ (by omega) λw4 qm cm qp np cp g4 hsm hnp=>⟨_,_,_,_,_,_,_,_,rfl,hF3.after g4,λ_=>?_,(λt x h=>by cases h),.inl rfl⟩
 ·rw [Int.toNat_natCast,hdat,← List.append_assoc,List.drop_left' (by simp)];rfl
 have hF4:=hF3.after g4
 have hib:(cat (λi=>af_ (aU_ first R (i*8)).length) (ay_ many))=bQ_ first R (ay_ many):=rfl
 rw [hib]
 intro b6 hb6 w5 hF5
 generalize hbeg:(((af_ first).length+(af_ many).length:Nat):Int)+((bQ_ first R (ay_ many)).length:Int)=begin_
 have hsm5:Sl w5 qm ((c5_ (λi=>(aU_ first R (i*8)).length) (ay_ many)).map iv):=hsm.keep hF5.stp (λa ha e=>by
  have:a.block=b6:=by simpa using e
  rcases hsm with h | ⟨b,o,h,hr⟩
  ·rw [List.map_eq_nil_iff] at h
   have:=congrArg List.length h
   rw [bC_] at this
   simp at this;unfold ay_ at this;omega
  ·rw [ha] at h;cases h
   have:=hr.lt;simp only [] at *;omega)
 have hm5:∀x,x∈[b0,b1,b6]→x<w5.heap.size:=λx hx=>by
  simp at hx
  rcases hx with rfl | rfl | rfl
  ·exact aj_ (hF5.blk 0 rfl)
  ·exact aj_ (hF5.blk 1 rfl)
  ·exact aj_ (hF5.blk 2 rfl)
 refine ⟨λp qb lb cb v x1 x2 x3 x4 fo qr lr cr m w'=>∃(k:Nat) (rs:List Value),v=first+k∧k≤many∧m=many - k∧p=begin_+(aU_ first R k).length∧Own T.int 1 w' qb cb ((c5_ (λj=>(aU_ first R j).length) k).map iv)∧k=lb∧lb≤cb∧Off (λj=>j<w5.heap.size) qb∧
  fo=first∧Own T.bq_ 1 w' qr cr rs∧rs.length=k∧(∀y,y∈rs→oneC y=true)∧k=lr∧lr≤cr∧Off (λj=>j<w5.heap.size) qr∧Dj qb qr∧w5.heap.size≤w'.heap.size∧Chg (· = b6) w5 w',
  ⟨_,0,[],by simp,by omega,rfl,by simp [aU_,cat],.nil _ _ _,rfl,Nat.le_refl _,.none _,rfl,.nil _ _ _,rfl,(λy h=>by cases h),rfl,Nat.le_refl _,.none _,.none _,Nat.le_refl _,.refl _ _⟩,?_⟩
 rintro p qb lb cb v x1 x2 x3 x4 fo qr lr cr D m w6 ⟨k,rs,rfl,hk,rfl,rfl,ho,rfl,hlb,hof,rfl,hor,hrs,hone,rfl,hlr,hofr,hdj,hsz,g56⟩ hF6
 rw [w64 (n:=(first:Int)+many) (by omega) (by omega)]
 refine ⟨λhlt=>?_,λhge=>?_⟩
 ·have hk':k<many:=by omega
  obtain ⟨r',hsp⟩:=dB_ (λj=>gapL ((first:Int)+j) (R j)) hk'
  have hrk:=hrb k hk
  intro bt hbt w7 hF7
  have hval:IntKind.wrap .i64 (begin_+(aU_ first R k).length - begin_)=((aU_ first R k).length:Int):=by rw [w64 (by omega) (by omega)];omega
  have hdk:s.data.toList.drop (begin_+(aU_ first R k).length).toNat=gapL ((first:Int)+k) (R k)++r':=by
   have e0:s.data.toList=(af_ first++af_ many++bQ_ first R (ay_ many)++aU_ first R k)++(gapL ((first:Int)+k) (R k)++r'):=by
    rw [hdat]
    have:aU_ first R many=aU_ first R k++(gapL ((first:Int)+k) (R k)++r'):=hsp
    rw [this];simp [List.append_assoc]
   rw [e0,List.drop_left' (by simp;omega)]
  refine f2_ (ho.grow hF7.grow) (by rw [bC_]) hlb (ys:=[((aU_ first R k).length:Int)]) ?_ rfl (by omega) λqb' cb' w8 ho8 hc8 g8 hq8=>?_
  ·have:=hF7.sl 3 rfl
   rw [hval] at this;exact this
  have hF8:=hF7.app2 g8 w5.heap.size w6.heap.size hof (λa ha=>ho.lt a ha) (λy hy=>by
   rcases List.mem_cons.1 hy with rfl | hy
   ·exact .inl (hm5 _ (by simp))
   rcases List.mem_cons.1 hy with rfl | hy
   ·exact .inl (hm5 _ (by simp))
   rcases List.mem_cons.1 hy with rfl | hy
   ·exact .inl (hm5 _ (by simp))
   ·simp at hy;subst hy;exact .inr hbt) hF5.chg.size
  refine ⟨_,_,_,rfl,hF8,?_⟩
  refine nV_ (by omega) (by omega) (by omega) (by omega) (hR k hk') hdk λw9 q6 c6 g9 hle9 ho9 hc9 hof9=>⟨_,_,_,_,_,rfl,(hF8.sub (List.sublist_append_left [_,_,_] [_])).after g9,λ_=>?_,(λt x h=>by cases h),.inl rfl⟩
  have hF9:=(hF8.sub (List.sublist_append_left [_,_,_] [_])).after g9
  intro b20 hb20 w10 hF10
  have s67:w6.heap.size≤w7.heap.size:=hF7.grow.size
  have s78:=g8.size
  have s89:=g9.size
  have s910:w9.heap.size≤w10.heap.size:=hF10.grow.size
  have hor8:Own T.bq_ 1 w8 qr cr rs:=(hor.grow hF7.grow).keep g8 hdj.off
  have hor10:=(hor8.grow g9).grow hF10.grow
  have ho10:=(ho8.grow g9).grow hF10.grow
  have hdj8:Dj qb' qr:=hdj.next hq8 (λa ha=>by have:=hor.lt a ha;omega)
  refine app1 sU_ s0_ rfl (by decide) hor10 hrs.symm hlr (ys:=[.slice q6 (R k).length c6]) (hF10.sl 3 rfl) rfl (by simp [oneC]) (by omega) λqr' cr' w11 ho11 hc11 g11 hq11=>?_
  have hF11:=hF10.app2 g11 w5.heap.size w9.heap.size hofr (λa ha=>by have:=hor8.lt a ha;omega) (λy hy=>by
   rcases List.mem_cons.1 hy with rfl | hy
   ·exact .inl (hm5 _ (by simp))
   rcases List.mem_cons.1 hy with rfl | hy
   ·exact .inl (hm5 _ (by simp))
   rcases List.mem_cons.1 hy with rfl | hy
   ·exact .inl (hm5 _ (by simp))
   ·simp at hy;subst hy;exact .inr hb20) hF5.chg.size
  refine ⟨_,_,_,rfl,hF11,λw12 hF12=>?_⟩
  have g12:Chg (· = b6) w11 w12:=hF12.stp.mono λi _ hi=>by simpa using hi
  have hb6lt:=hm5 b6 (by simp)
  have hofb':Off (λj=>j<w5.heap.size) qb':=hof.next hq8 (by omega)
  have hofr':Off (λj=>j<w5.heap.size) qr':=hofr.next hq11 (by omega)
  have keep6:∀ {q:Option Addr},Off (λj=>j<w5.heap.size) q→Off (· = b6) q:=λh a ha e=>by have:=h.le a ha;have e':a.block=b6:=e;omega
  have hdj11:Dj qr' qb':=hdj8.symm.next hq11 (λa ha=>ho10.lt a ha)
  refine ⟨many - (k+1),by omega,k+1,_,?_,by omega,rfl,?_,?_,rfl,hc8,hofb',rfl,ho11.keep g12 (keep6 hofr'),by simp [hrs],?_,rfl,hc11,hofr',hdj11.symm,by have:=g11.size;have:=g12.size;omega,?_⟩
  ·rw [w64 (by omega) (by omega)];omega
  ·have:aU_ first R (k+1)=aU_ first R k++gapL ((first:Int)+k) (R k):=rfl
   rw [this,List.length_append];omega
  ·rw [ia_]
   exact ((ho10).keep g11 hdj8.symm.off).keep g12 (keep6 hofb')
  ·intro y hy
   rcases List.mem_append.1 hy with h | h
   ·exact hone y h
   ·simp at h;subst h;rfl
  ·have c1:Chg (· = b6) w5 w8:=(g56.grow hF7.grow).trans g8 λi hi ⟨a,ha,e⟩=>by have:=hof.le a ha;omega
   have c2:Chg (· = b6) w5 w11:=((c1.grow g9).grow hF10.grow).trans g11 λi hi ⟨a,ha,e⟩=>by have:=hofr.le a ha;omega
   exact c2.trans g12 λi _ e=>e
 ·have e:k=many:=by omega
  subst e
  have hsm6:Sl w6 qm ((c5_ (λi=>(aU_ first R (i*8)).length) (ay_ k)).map iv):=hsm5.keep g56 (λa ha e=>by
   have e':a.block=b6:=e
   rcases hsm with h | ⟨b,o,h,hr⟩
   ·rw [List.map_eq_nil_iff] at h
    have:=congrArg List.length h
    rw [bC_] at this
    simp at this;unfold ay_ at this;omega
   ·rw [ha] at h;cases h
    have:=hr.lt;simp only [] at *;omega)
  refine ⟨λi y1 y2 y3 y4 m w'=>∃j:Nat,i=j∧j≤ay_ k∧m=ay_ k - j∧Sl w' qm ((c5_ (λi=>(aU_ first R (i*8)).length) (ay_ k)).map iv)∧Sl w' qb ((c5_ (λj=>(aU_ first R j).length) k).map iv),⟨_,0,rfl,by omega,rfl,hsm6,ho.sl⟩,?_⟩
  rintro i y1 y2 y3 y4 D m w14 ⟨j,rfl,hj,rfl,hs1,hs2⟩ hF14
  refine ⟨λhlt=>?_,λhge=>⟨λh=>?_,λ_ w19 h19=>hK w19 _ _ _ h19.chg⟩⟩
  ·have hj':j<ay_ k:=by omega
   have hj8:j*8<k:=by unfold ay_ at hj';omega
   refine hs1.rd (v:=iv ((aU_ first R (j*8)).length:Nat)) (by simp [bC_]) (by omega) ?_ λa ha=>⟨_,ha,?_⟩
   ·rw [Int.toNat_natCast,gw_ (by rw [bC_];exact hj'),lq_ _ hj']
   have e8:IntKind.wrap .i64 ((j:Int)*8)=((j*8:Nat):Int):=by rw [w64 (by omega) (by omega)];omega
   rw [e8]
   refine hs2.rd (v:=iv ((aU_ first R (j*8)).length:Nat)) (by simp [bC_]) (by omega) ?_ λa ha=>⟨_,ha,?_⟩
   ·rw [Int.toNat_natCast,gw_ (by rw [bC_];exact hj8),lq_ _ hj8]
   exact ⟨λ_=>⟨_,by omega,j+1,wr1 (by omega),by omega,rfl,hs1,hs2⟩,λh=>absurd rfl h⟩
  ·omega
end Go.Vc
namespace Go.Vc
open Go
theorem strings_Join (y0:Option Addr) (ly0:Nat) (cy0:Nat) (z1:ByteArray) (S:SP) (K:KP) (w:World) (h:((ly0:Int)=0→K (.string ⟨#[]⟩) w)∧(¬((ly0:Int)=0)→((ly0:Int)=1→Dr y0 λa0=>(0:Int)≤0∧(0:Int)<(ly0:Int)∧Dr (some (Addr.add a0 0)) λa1=>∃s0,World.cell? w a1=some (.string s0)∧K (.string s0) w)∧(¬((ly0:Int)=1)→(((ByteArray.size z1:Nat):Int)>0→IntKind.wrap .i64 ((ly0:Int) - 1)≠0∧(((ByteArray.size z1:Nat):Int)≥IntKind.wrap .i64 (Int.tdiv 9223372036854775807 (IntKind.wrap .i64 ((ly0:Int) - 1)))→False)∧(¬(((ByteArray.size z1:Nat):Int)≥IntKind.wrap .i64 (Int.tdiv 9223372036854775807 (IntKind.wrap .i64 ((ly0:Int) - 1))))→∃I0:Int→Int→Nat→World→Prop,(∃l0,I0 (IntKind.wrap .i64 ((0:Int)+(IntKind.wrap .i64 (((ByteArray.size z1:Nat):Int)*(IntKind.wrap .i64 ((ly0:Int) - 1)))))) 0 l0 w)∧∀n0 n1,∀D0:Nat→Value,∀l1 w0,I0 n0 n1 l1 w0→Fs S w [] w0→(n1<(ly0:Int)→Dr y0 λa2=>(0:Int)≤n1∧n1<(ly0:Int)∧Dr (some (Addr.add a2 (Int.toNat n1*1))) λa3=>∃s1,World.cell? w0 a3=some (.string s1)∧(((ByteArray.size s1:Nat):Int)>IntKind.wrap .i64 ((9223372036854775807:Int) - n0)→False)∧(¬(((ByteArray.size s1:Nat):Int)>IntKind.wrap .i64 ((9223372036854775807:Int) - n0))→∃l2,l2<l1∧I0 (IntKind.wrap .i64 (n0+((ByteArray.size s1:Nat):Int))) (IntKind.wrap .i64 (n1+1)) l2 w0))∧(¬(n1<(ly0:Int))→∀l3,w0.heap.size≤l3→∀w1,Fr S w w0 [] [⟨l3,#[.pointer none,.slice none 0 0],263,true⟩] w1→aa_ PR 171 #[.pointer (some (⟨l3,0,none⟩)),Iv n0] w1 λv0 w2=>v0=.tuple #[]∧∃q0 q1 l4 l5,Fs S w [⟨l3,#[.pointer q0,.slice q1 l4 l5],263,true⟩] w2∧Dr y0 λa4=>(0:Int)≤0∧(0:Int)<(ly0:Int)∧Dr (some (Addr.add a4 0)) λa5=>∃s2,World.cell? w2 a5=some (.string s2)∧aa_ PR 148 #[.pointer (some (⟨l3,0,none⟩)),.string s2] w2 λv1 w3=>∃n2 v2,v1=.tuple #[Iv n2,v2]∧∃q2 q3 l6 l7,Fs S w [⟨l3,#[.pointer q2,.slice q3 l6 l7],263,true⟩] w3∧(0:Int)≤1∧(1:Int)≤(ly0:Int)∧∃I1:Int→(Option Addr)→(Option Addr)→Nat→Nat→Nat→World→Prop,(∃l8,I1 0 q2 q3 l6 l7 l8 w3)∧∀n3 q4 q5 l9 l10,∀D1:Nat→Value,∀l11 w4,I1 n3 q4 q5 l9 l10 l11 w4→Fs S w [⟨l3,#[.pointer q4,.slice q5 l9 l10],263,true⟩] w4→(n3<(((ly0 - 1):Nat):Int)→Dr (if cy0=1 then y0 else Option.map (λa6=>Addr.add a6 1) y0) λa7=>(0:Int)≤n3∧n3<(((ly0 - 1):Nat):Int)∧Dr (some (Addr.add a7 (Int.toNat n3*1))) λa8=>∃s3,World.cell? w4 a8=some (.string s3)∧aa_ PR 148 #[.pointer (some (⟨l3,0,none⟩)),.string z1] w4 λv3 w5=>∃n4 v4,v3=.tuple #[Iv n4,v4]∧∃q6 q7 l12 l13,Fs S w [⟨l3,#[.pointer q6,.slice q7 l12 l13],263,true⟩] w5∧aa_ PR 148 #[.pointer (some (⟨l3,0,none⟩)),.string s3] w5 λv5 w6=>∃n5 v6,v5=.tuple #[Iv n5,v6]∧∃q8 q9 l14 l15,Fs S w [⟨l3,#[.pointer q8,.slice q9 l14 l15],263,true⟩] w6∧∃l16,l16<l11∧I1 (IntKind.wrap .i64 (n3+1)) q8 q9 l14 l15 l16 w6)∧(¬(n3<(((ly0 - 1):Nat):Int))→aa_ PR 149 #[.pointer (some (⟨l3,0,none⟩))] w4 λv7 w7=>∃s4,v7=.string s4∧Fs S w [⟨l3,#[.pointer q4,.slice q5 l9 l10],263,true⟩] w7∧K (.string s4) w7))))∧(¬(((ByteArray.size z1:Nat):Int)>0)→∃I2:Int→Int→Nat→World→Prop,(∃l17,I2 0 0 l17 w)∧∀n6 n7,∀D2:Nat→Value,∀l18 w8,I2 n6 n7 l18 w8→Fs S w [] w8→(n7<(ly0:Int)→Dr y0 λa9=>(0:Int)≤n7∧n7<(ly0:Int)∧Dr (some (Addr.add a9 (Int.toNat n7*1))) λa10=>∃s5,World.cell? w8 a10=some (.string s5)∧(((ByteArray.size s5:Nat):Int)>IntKind.wrap .i64 ((9223372036854775807:Int) - n6)→False)∧(¬(((ByteArray.size s5:Nat):Int)>IntKind.wrap .i64 ((9223372036854775807:Int) - n6))→∃l19,l19<l18∧I2 (IntKind.wrap .i64 (n6+((ByteArray.size s5:Nat):Int))) (IntKind.wrap .i64 (n7+1)) l19 w8))∧(¬(n7<(ly0:Int))→∀l20,w8.heap.size≤l20→∀w9,Fr S w w8 [] [⟨l20,#[.pointer none,.slice none 0 0],263,true⟩] w9→aa_ PR 171 #[.pointer (some (⟨l20,0,none⟩)),Iv n6] w9 λv8 w10=>v8=.tuple #[]∧∃q10 q11 l21 l22,Fs S w [⟨l20,#[.pointer q10,.slice q11 l21 l22],263,true⟩] w10∧Dr y0 λa11=>(0:Int)≤0∧(0:Int)<(ly0:Int)∧Dr (some (Addr.add a11 0)) λa12=>∃s6,World.cell? w10 a12=some (.string s6)∧aa_ PR 148 #[.pointer (some (⟨l20,0,none⟩)),.string s6] w10 λv9 w11=>∃n8 v10,v9=.tuple #[Iv n8,v10]∧∃q12 q13 l23 l24,Fs S w [⟨l20,#[.pointer q12,.slice q13 l23 l24],263,true⟩] w11∧(0:Int)≤1∧(1:Int)≤(ly0:Int)∧∃I3:Int→(Option Addr)→(Option Addr)→Nat→Nat→Nat→World→Prop,(∃l25,I3 0 q12 q13 l23 l24 l25 w11)∧∀n9 q14 q15 l26 l27,∀D3:Nat→Value,∀l28 w12,I3 n9 q14 q15 l26 l27 l28 w12→Fs S w [⟨l20,#[.pointer q14,.slice q15 l26 l27],263,true⟩] w12→(n9<(((ly0 - 1):Nat):Int)→Dr (if cy0=1 then y0 else Option.map (λa13=>Addr.add a13 1) y0) λa14=>(0:Int)≤n9∧n9<(((ly0 - 1):Nat):Int)∧Dr (some (Addr.add a14 (Int.toNat n9*1))) λa15=>∃s7,World.cell? w12 a15=some (.string s7)∧aa_ PR 148 #[.pointer (some (⟨l20,0,none⟩)),.string z1] w12 λv11 w13=>∃n10 v12,v11=.tuple #[Iv n10,v12]∧∃q16 q17 l29 l30,Fs S w [⟨l20,#[.pointer q16,.slice q17 l29 l30],263,true⟩] w13∧aa_ PR 148 #[.pointer (some (⟨l20,0,none⟩)),.string s7] w13 λv13 w14=>∃n11 v14,v13=.tuple #[Iv n11,v14]∧∃q18 q19 l31 l32,Fs S w [⟨l20,#[.pointer q18,.slice q19 l31 l32],263,true⟩] w14∧∃l33,l33<l28∧I3 (IntKind.wrap .i64 (n9+1)) q18 q19 l31 l32 l33 w14)∧(¬(n9<(((ly0 - 1):Nat):Int))→aa_ PR 149 #[.pointer (some (⟨l20,0,none⟩))] w12 λv15 w15=>∃s8,v15=.string s8∧Fs S w [⟨l20,#[.pointer q14,.slice q15 l26 l27],263,true⟩] w15∧K (.string s8) w15)))))):aa_ PR 129 ⟨[.slice y0 ly0 cy0,.string z1]⟩ w K:=
 ab_ (okf:=⟨okL,[]⟩) ag_ (args:=[.c (.v (.slice y0 ly0 cy0)),.c (.v (.string z1))]) (H:=[]) (.s .z (.s .z (.s .z (.s (.s .z (.c (.s (.s .z (.c (.r ⟨(some []),false,[],[]⟩) .z)) .z) .z)) (.s (.s .z (.b (.l (some []) (some []) [(5,.c (.int .i64)),(41,.c (.int .i64))] [] (.s .z (.s .z (.s (.b (.s .z (.s (.s .z (.c (.r ⟨(some []),false,[],[]⟩) .z)) .z))) .z)))))) (.s (.r ⟨(some []),false,[],[]⟩) (.s (.r ⟨(some [8]),false,[],[(1,[999])]⟩) (.s (.r ⟨(some [8]),false,[],[(3,[999])]⟩) (.s (.s .z (.b (.l (some [8]) (some [8]) [(65,.c (.int .i64))] [8] (.s .z (.s .z (.s (.b (.s .z (.s (.r ⟨(some [8]),false,[],[(1,[999])]⟩) (.r ⟨(some [8]),false,[],[(1,[999])]⟩)))) .z)))))) (.s (.r ⟨(some [8]),false,[],[]⟩) .z)))))))))) Go.Proofs.Tryz.func129 rfl ⟨trivial,trivial,trivial⟩ trivial (Fr.init S w) trivial (ad_ (by kernel_rfl) h)
theorem eL_ (k0:Nat) (p1:Option Addr) (y2:Option Addr) (ly2:Nat) (cy2:Nat) (m3:Int) (S:SP) (K:KP) (w:World) (hF:Fs S w [⟨k0,#[.pointer p1,.slice y2 ly2 cy2],263,true⟩] w) (hS:S k0∧True) (h:aa_ PR 192 #[.pointer (some (⟨k0,0,none⟩))] w λv0 w0=>v0=.tuple #[]∧∃q0 q1 l0 l1,Fs S w [⟨k0,#[.pointer q0,.slice q1 l0 l1],263,true⟩] w0∧(m3<0→False)∧(¬(m3<0)→(IntKind.wrap .i64 ((l1:Int) - (l0:Int))<m3→∀w1,Fr S w w0 [] [⟨k0,#[.pointer q0,.slice q1 l0 l1],263,true⟩] w1→aa_ PR 205 #[.pointer (some (⟨k0,0,none⟩)),Iv m3] w1 λv1 w2=>v1=.tuple #[]∧∃q2 q3 l2 l3,Fs S w [⟨k0,#[.pointer q2,.slice q3 l2 l3],263,true⟩] w2∧K (.tuple #[]) w2)∧(¬(IntKind.wrap .i64 ((l1:Int) - (l0:Int))<m3)→∀w3,Fr S w w0 [] [⟨k0,#[.pointer q0,.slice q1 l0 l1],263,true⟩] w3→K (.tuple #[]) w3))):aa_ PR 171 ⟨[.pointer (some ⟨k0,0,none⟩),.int .i64 m3]⟩ w K:=
 ab_ (okf:=⟨okL,[]⟩) ag_ (args:=[.c (.p 0 k0 true 0),.c (.v (.int .i64 m3))]) (H:=[⟨k0,.l [.v (.pointer p1),.v (.slice y2 ly2 cy2)],263,true⟩]) (.s (.r ⟨(some [0]),false,[],[(1,[999])]⟩) (.s (.s .z (.c (.r ⟨(some [0]),false,[],[]⟩) .z)) (.s (.r ⟨(some [0]),false,[],[]⟩) (.c (.r ⟨(some [0]),false,[],[(2,[999])]⟩) .z)))) Go.Proofs.Tryz.func171 rfl ⟨rfl,trivial,trivial⟩ ⟨⟨trivial,⟨trivial,trivial⟩⟩,trivial⟩ hF hS (ad_ (by kernel_rfl) h)
theorem eK_ (k0:Nat) (p1:Option Addr) (y2:Option Addr) (ly2:Nat) (cy2:Nat) (m3:Int) (S:SP) (K:KP) (w:World) (hF:Fs S w [⟨k0,#[.pointer p1,.slice y2 ly2 cy2],263,true⟩] w) (hS:S k0∧True) (h:∀w0,Fr S w w [] [⟨k0,#[.pointer p1,.slice y2 ly2 cy2],263,true⟩] w0→rn PR ((callFunc 230 #[Iv (IntKind.wrap .i64 (IntKind.wrap .i64 ((2:Int)*(cy2:Int))+m3))]) >>= i6_) (λv0 w1=>∃q0 l0 l1,v0=.slice q0 l0 l1∧Fs S w [⟨k0,#[.pointer p1,.slice y2 ly2 cy2],263,true⟩] w1∧(0:Int)≤(ly2:Int)∧(ly2:Int)≤(l1:Int)∧rn PR (Builtin.copy_ #[157,157] 3 #[.slice (if l1=0 then q0 else Option.map (λa0=>Addr.add a0 0) q0) (Int.toNat (ly2:Int) - 0) (l1 - 0),.slice y2 ly2 cy2]) (λv1 w2=>∃n0,v1=Iv n0∧Fs S w [⟨k0,#[.pointer p1,.slice y2 ly2 cy2],263,true⟩] w2∧∀w3,Fr S w w2 [k0] [⟨k0,#[.pointer p1,.slice (if l1=0 then q0 else Option.map (λa1=>Addr.add a1 0) q0) (Int.toNat (ly2:Int) - 0) (l1 - 0)],263,true⟩] w3→K (.tuple #[]) w3) w1) w0):aa_ PR 205 ⟨[.pointer (some ⟨k0,0,none⟩),.int .i64 m3]⟩ w K:=
 ab_ (okf:=⟨okL,[]⟩) ag_ (args:=[.c (.p 0 k0 true 0),.c (.v (.int .i64 m3))]) (H:=[⟨k0,.l [.v (.pointer p1),.v (.slice y2 ly2 cy2)],263,true⟩]) (.s (.r ⟨(some [0]),false,[],[]⟩) (.s (.r ⟨(some [0]),false,[],[]⟩) (.r ⟨(some [0]),false,[],[]⟩))) Go.Proofs.Tryz.func205 rfl ⟨rfl,trivial,trivial⟩ ⟨⟨trivial,⟨trivial,trivial⟩⟩,trivial⟩ hF hS (ad_ (by kernel_rfl) h)
theorem bP_ (m0:Int) (m1:Int) (S:SP) (K:KP) (w:World) (h:(0:Int)≤IntKind.wrap .u64 ((BitVec.toNat (BitVec.ofInt 64 (IntKind.wrap .u64 m1) &&& (BitVec.ofInt 64 31)):Nat):Int)∧(0:Int)≤IntKind.wrap .u64 ((32:Int) - (IntKind.wrap .u64 ((BitVec.toNat (BitVec.ofInt 64 (IntKind.wrap .u64 m1) &&& (BitVec.ofInt 64 31)):Nat):Int)))∧K (Uv (IntKind.wrap .u32 ((BitVec.toNat (BitVec.ofInt 32 (IntKind.wrap .u32 (m0*((2:Int) ^ (Min.min (Int.toNat (IntKind.wrap .u64 ((BitVec.toNat (BitVec.ofInt 64 (IntKind.wrap .u64 m1) &&& (BitVec.ofInt 64 31)):Nat):Int))) 32)))) ||| (BitVec.ofInt 32 (Int.fdiv m0 ((2:Int) ^ (Min.min (Int.toNat (IntKind.wrap .u64 ((32:Int) - (IntKind.wrap .u64 ((BitVec.toNat (BitVec.ofInt 64 (IntKind.wrap .u64 m1) &&& (BitVec.ofInt 64 31)):Nat):Int))))) 32))))):Nat):Int))) w):aa_ PR 240 ⟨[.int .u32 m0,.int .i64 m1]⟩ w K:=
 ab_ (okf:=⟨okL,[]⟩) ag_ (args:=[.c (.v (.int .u32 m0)),.c (.v (.int .i64 m1))]) (H:=[]) .z Go.Proofs.Tryz.func240 rfl ⟨trivial,trivial,trivial⟩ trivial (Fr.init S w) trivial (ad_ (by kernel_rfl) h)
end Go.Vc
