/-
  A part of the proof of the statement FetchPlaysCardSaid, in Lean: Sy4, Sy5, Sy6, Sy7, Sy8, VcOk. By an AI agent.
-/
import Derived.Test.YthcpblejnhhhdaaGreatDoorP01
import Derived.KernelRfl
import Derived.Test.YthcpblejnhhhdaaGreatDoorProg
set_option linter.unusedVariables false
set_option linter.unusedSimpArgs false
set_option maxRecDepth 100000
namespace Go.Vc
open Go
structure Fr3 (S:Nat→Prop) (w0 wp:World) (M:List Nat) (H:List Bk) (w:World):Prop where
 chg:Chg S w0 w
 stp:Chg (·∈M) wp w
 loc:∀i x A,nthH H i=some x→x.cs.arr=some A→w.heap[x.b]? = some (.cells A x.T (0,0))
 dist:∀i j x y,nthH H i=some x→nthH H j=some y→x.cs.arr.isSome=true→y.cs.arr.isSome=true→x.b=y.b→i=j
 new:∀i x,nthH H i=some x→x.wr=true→S x.b∨w0.heap.size≤x.b
theorem fS_:∀ {H:List Bk} {y:Blk},y∈LH H↔∃i x A,nthH H i=some x∧x.cs.arr=some A∧y=⟨x.b,A,x.T,x.wr⟩
 | [],y=>⟨λh=>(by cases h),λ⟨_,_,_,h,_⟩=>(by cases h)⟩
 | ⟨b,c,T,w⟩ :: H,y=>by
  have ih:=fS_ (H:=H) (y:=y)
  unfold LH
  constructor
  ·intro h
   split at h
   ·rename_i A hA
    rcases List.mem_cons.1 h with rfl | h
    ·exact ⟨0,_,A,rfl,hA,rfl⟩
    ·obtain ⟨i,x,A,h1,h2⟩:=ih.1 h
     exact ⟨i+1,x,A,h1,h2⟩
   ·obtain ⟨i,x,A,h1,h2⟩:=ih.1 h
    exact ⟨i+1,x,A,h1,h2⟩
  ·rintro ⟨i,x,A,h1,h2,h3⟩
   cases i with
   | zero=>
    cases h1
    have h2:c.arr=some A:=h2
    rw [h2,h3];exact List.mem_cons_self
   | succ i=>
    have:=ih.2 ⟨i,x,A,h1,h2,h3⟩
    split
    ·exact List.mem_cons_of_mem _ this
    ·exact this
theorem nv_:∀ {H:List Bk},(∀i j x y,nthH H i=some x→nthH H j=some y→x.cs.arr.isSome=true→y.cs.arr.isSome=true→x.b=y.b→i=j)→((LH H).map (·.b)).Nodup
 | [],_=>List.nodup_nil
 | ⟨b,c,T,w⟩ :: H,h=>by
  have ih:=nv_ (H:=H) λi j x y hi hj h1 h2 e=>by have:=h (i+1) (j+1) x y hi hj h1 h2 e;omega
  unfold LH
  split
  ·rename_i A hA
   rw [List.map_cons,List.nodup_cons]
   refine ⟨λhm=>?_,ih⟩
   obtain ⟨y,hy,he⟩:=List.mem_map.1 hm
   obtain ⟨j,x,A',h1,h2,rfl⟩:=fS_.1 hy
   have:=h 0 (j+1) ⟨b,c,T,w⟩ x rfl h1 (by show c.arr.isSome=true;rw [hA];rfl) (by rw [h2];rfl) he.symm
   omega
  ·exact ih
section
variable {S:Nat→Prop} {w0 wp w:World} {M:List Nat} {H:List Bk}
theorem Fr3.fr (h:Fr3 S w0 wp M H w):Fr S w0 wp M (LH H) w:=
 ⟨h.chg,h.stp,λx hx=>by
  obtain ⟨i,y,A,h1,h2,rfl⟩:=fS_.1 hx
  exact h.loc i y A h1 h2,nv_ h.dist,λx hx hw=>by
  obtain ⟨i,y,A,h1,h2,rfl⟩:=fS_.1 hx
  exact h.new i y h1 hw⟩
def Weak (H' H:List Bk):Prop:=∀i x',nthH H' i=some x'→∃x,nthH H i=some x∧x'.b=x.b∧x'.wr=x.wr∧(x'.cs.arr.isSome=true→x.cs.arr.isSome=true)
theorem Weak.refl (H:List Bk):Weak H H:=λ_ x h=>⟨x,h,rfl,rfl,id⟩
theorem Weak.trans {A B C:List Bk} (h:Weak A B) (k:Weak B C):Weak A C:=λi x hx=>by
 obtain ⟨y,hy,h1,h2,h3⟩:=h i x hx
 obtain ⟨z,hz,h4,h5,h6⟩:=k i y hy
 exact ⟨z,hz,h1.trans h4,h2.trans h5,λh=>h6 (h3 h)⟩
theorem Weak.set {H:List Bk} {i:Nat} {c:Cs} (h:∀x,nthH H i=some x→c.arr.isSome=true→x.cs.arr.isSome=true):Weak (setH H i c) H:=λj x hx=>by
 rw [eC_] at hx
 split at hx
 ·rename_i e;subst e
  cases hy:nthH H i with
  | none=>rw [hy] at hx;cases hx
  | some y=>rw [hy] at hx;cases hx;exact ⟨y,rfl,rfl,rfl,h y hy⟩
 ·exact ⟨x,hx,rfl,rfl,id⟩
theorem Fr3.weak (h:Fr3 S w0 wp M H w) {H':List Bk} (hw:Weak H' H) {w':World} (u:Fs S w0 (LH H') w'):Fr3 S w0 w' [] H' w':=
 ⟨u.chg,.refl _ _,λi x A hi hA=>u.loc ⟨x.b,A,x.T,x.wr⟩ (fS_.2 ⟨i,x,A,hi,hA,rfl⟩),λi j x y hi hj hx hy e=>by
  obtain ⟨x',h1,h2,_,h3⟩:=hw i x hi
  obtain ⟨y',h4,h5,_,h6⟩:=hw j y hj
  exact h.dist i j x' y' h1 h4 (h3 hx) (h6 hy) (by rw [← h2,← h5];exact e),λi x hi hx=>by
  obtain ⟨x',h1,h2,h3,_⟩:=hw i x hi
  rw [h2];exact h.new i x' h1 (h3 ▸ hx)⟩
theorem Fr3.reset (h:Fr3 S w0 wp M H w):Fr3 S w0 w [] H w:=⟨h.chg,.refl _ _,h.loc,h.dist,h.new⟩
theorem Fr3.more (h:Fr3 S w0 wp M H w) {w':World} (g:Grow w w'):Fr3 S w0 wp M H w':=
 ⟨h.chg.grow g,h.stp.grow g,λi x A hi hA=>g.get (h.loc i x A hi hA),h.dist,h.new⟩
theorem kc_ (H:List Bk) (x:Bk) (i:Nat):nthH (H++[x]) i=if i<H.length then nthH H i else if i=H.length then some x else none:=by
 simp only [di_]
 rw [List.getElem?_append]
 split
 ·rfl
 ·split
  ·rename_i h;subst h;simp
  ·rename_i h1 h2
   rw [List.getElem?_eq_none (by simp;omega)]
theorem kb_ {H:List Bk} {i:Nat} {x:Bk} (h:nthH H i=some x):i<H.length:=by
 rw [di_] at h
 exact (List.getElem?_eq_some_iff.1 h).1
def AgrH (lk:Nat→Bool) (H H':List Bk):Prop:=∀i x,nthH H i=some x→∃x',nthH H' i=some x'∧x'.b=x.b∧x'.T=x.T∧x'.wr=x.wr∧(lk i=true→x'=x)
theorem AgrH.refl (lk:Nat→Bool) (H:List Bk):AgrH lk H H:=λ_ x h=>⟨x,h,rfl,rfl,rfl,λ_=>rfl⟩
theorem AgrH.trans {lk:Nat→Bool} {A B C:List Bk} (h:AgrH lk A B) (k:AgrH lk B C):AgrH lk A C:=λi x hx=>by
 obtain ⟨y,hy,h1,h2,h3,h4⟩:=h i x hx
 obtain ⟨z,hz,h5,h6,h7,h8⟩:=k i y hy
 exact ⟨z,hz,h5.trans h1,h6.trans h2,h7.trans h3,λhl=>(h8 hl).trans (h4 hl)⟩
theorem AgrH.mono {lk lk':Nat→Bool} {A B:List Bk} (h:AgrH lk A B) (hl:∀i,lk' i=true→lk i=true):AgrH lk' A B:=λi x hx=>by
 obtain ⟨y,hy,h1,h2,h3,h4⟩:=h i x hx
 exact ⟨y,hy,h1,h2,h3,λh=>h4 (hl i h)⟩
theorem AgrH.bs {lk:Nat→Bool} {A B:List Bk} (h:AgrH lk A B):∀(i b:Nat),(bsH A)[i]? = some b→(bsH B)[i]? = some b:=λi b hb=>by
 rw [dT_] at hb ⊢
 cases hx:nthH A i with
 | none=>rw [hx] at hb;cases hb
 | some x=>
  rw [hx] at hb
  obtain ⟨y,hy,h1,_⟩:=h i x hx
  rw [hy];simp only [Option.map_some] at hb ⊢;rw [h1];exact hb
theorem AgrH.set {lk:Nat→Bool} {H:List Bk} {i:Nat} {c:Cs} (hl:lk i=false):AgrH lk H (setH H i c):=λj x hx=>by
 rw [eC_]
 split
 ·rename_i e;subst e
  rw [hx];exact ⟨_,rfl,rfl,rfl,rfl,λh=>by rw [hl] at h;cases h⟩
 ·exact ⟨x,hx,rfl,rfl,rfl,λ_=>rfl⟩
theorem AgrH.app (lk:Nat→Bool) (H:List Bk) (y:Bk):AgrH lk H (H++[y]):=λi x hx=>by
 rw [kc_,if_pos (kb_ hx)];exact ⟨x,hx,rfl,rfl,rfl,λ_=>rfl⟩
theorem ft_ (H:List Bk) (i:Nat) (c:Cs):bsH (setH H i c)=bsH H:=by
 apply List.ext_getElem?
 intro j
 rw [dT_,dT_,eC_]
 split
 ·cases nthH H j <;> rfl
 ·rfl
theorem jN_ {bs:List Nat} {H:List Bk} (h:wfH bs H) {i:Nat} {c:Cs} (hc:∀cs,c=.l cs→wfCs bs cs):wfH bs (setH H i c):=λj x cs hx e=>by
 rw [eC_] at hx
 split at hx
 ·cases hy:nthH H j with
  | none=>rw [hy] at hx;cases hx
  | some y=>rw [hy] at hx;cases hx;exact hc cs e
 ·exact h j x cs hx e
end
structure Rel (S:Nat→Prop) (w0:World) (σ:Sy) (w:World):Prop where
 fr:Fr3 S w0 σ.wp σ.M σ.H w
 env:wfE (bsH σ.H) σ.env
 H:wfH (bsH σ.H) σ.H
 dy:σ.dy=false→w=σ.wp
section
variable {P:Program} {okf:Ctx} {S:Nat→Prop} {w0:World}
theorem a0_ {σ:Sy} {K:World→Sy→Prop} {w:World} (h:vis S w0 σ K) (r:Rel S w0 σ w):∃σ',K w σ'∧Rel S w0 σ' w∧σ'.env=σ.env∧σ'.H=σ.H:=by
 unfold vis at h
 split at h
 ·rename_i hd
  rw [r.dy hd]
  exact ⟨σ,h,r.dy hd ▸ r,rfl,rfl⟩
 ·exact ⟨_,h w r.fr.fr,⟨r.fr.reset,r.env,r.H,λ_=>rfl⟩,rfl,rfl⟩
theorem il_ {lk:Nat→Bool} : ∀ {hv:List Nat} {H:List Bk} {K:List Bk→Prop},unl lk hv=true→wfH (bsH H) H→hav3 P hv H K→∃H',K H'∧AgrH lk H H'∧wfH (bsH H') H'∧bsH H'=bsH H∧Weak H' H
 | [],H,K,_,hw,h=>⟨H,h,.refl _ _,hw,rfl,.refl _⟩
 | i :: is,H,K,hu,hw,h=>by
  simp only [unl,Bool.and_eq_true,Bool.not_eq_true'] at hu
  unfold hav3 at h
  split at h
  ·rename_i b cs T hx
   split at h
   ·obtain ⟨vs,h⟩:=k0_ h
    obtain ⟨H',hK,ha,hw',hb,hk⟩:=il_ hu.2 (by rw [ft_];exact jN_ hw λcs e=>by cases e;exact jP_ _ _) h
    exact ⟨H',hK,(AgrH.set hu.1).trans ha,hw',hb.trans (ft_ _ _ _),hk.trans (.set λx hx' _=>by rw [hx] at hx';cases hx';rfl)⟩
   ·exact h.elim
  ·rename_i b A T hx
   obtain ⟨A,h⟩:=h
   obtain ⟨H',hK,ha,hw',hb,hk⟩:=il_ hu.2 (by rw [ft_];exact jN_ hw λcs e=>by cases e) h
   exact ⟨H',hK,(AgrH.set hu.1).trans ha,hw',hb.trans (ft_ _ _ _),hk.trans (.set λx hx' _=>by rw [hx] at hx';cases hx';rfl)⟩
  ·exact h.elim
theorem jf_ {b o:Nat} {T:TypeId} {K:World→Prop} : ∀(vs:List Value) (i:Nat) (A:Array Value) (w:World),w.heap[b]? = some (.cells A T (0,0))→o+i+vs.length≤A.size→(∀v,v∈vs→oneC v=true)→
  (∀w' A',w'.heap[b]? = some (.cells A' T (0,0))→(∀j:Nat,A'[j]? = if o+i≤j∧j<o+i+vs.length then vs[j - (o+i)]? else A[j]?)→Chg (· = b) w w'→K w')→f7_ ⟨b,o,none⟩ i vs K w
 | [],i,A,w,hb,_,_,hK=>hK w A hb (λj=>by rw [if_neg (by simp only [List.length_nil];omega)]) (.refl _ _)
 | v :: vs,i,A,w,hb,hl,hv,hK=>by
  simp only [List.length_cons] at hl
  simp only [f7_,au_]
  refine stC hb (by omega) (hv v List.mem_cons_self) λw1 hb1 _ g1=>?_
  refine jf_ vs (i+1) _ w1 hb1 (by simp;omega) (λx hx=>hv x (List.mem_cons_of_mem _ hx)) λw2 A2 hb2 h2 g2=>hK w2 A2 hb2 (λj=>?_) (g1.trans g2 λ_ _ h=>h)
  rw [h2]
  simp only [List.length_cons]
  by_cases h3:o+(i+1)≤j∧j<o+(i+1)+vs.length
  ·rw [if_pos h3,if_pos (by omega),show j - (o+i)=j - (o+(i+1))+1 by omega];simp
  ·rw [if_neg h3]
   by_cases h4:j=o+i
   ·subst h4
    rw [if_pos (by omega)]
    have:o+i<A.size:=by omega
    simp [this]
   ·rw [if_neg (by omega),Array.getElem?_setIfInBounds_ne (by omega)]
theorem Rel.st {σ:Sy} {w w':World} (r:Rel S w0 σ w) {i b:Nat} {c c':Cs} {T:TypeId} {A A':Array Value} (hx:nthH σ.H i=some ⟨b,c,T,true⟩) (hA:c.arr=some A) (hA':c'.arr=some A')
  (hc:∀cs,c'=.l cs→wfCs (bsH σ.H) cs) (hb:w'.heap[b]? = some (.cells A' T (0,0))) (g:Chg (· = b) w w'):Rel S w0 ⟨σ.env,setH σ.H i c',b :: σ.M,σ.wp,true⟩ w':={
 env:=by show wfE (bsH (setH σ.H i c')) _;rw [ft_];exact r.env
 H:=by show wfH (bsH (setH σ.H i c')) _;rw [ft_];exact jN_ r.H hc
 dy:=λh=>by cases h
 fr:=by
  have isS:∀j y,nthH (setH σ.H i c') j=some y→∃y',nthH σ.H j=some y'∧y.b=y'.b∧y.T=y'.T∧y.wr=y'.wr∧(y.cs.arr.isSome=true→y'.cs.arr.isSome=true)∧(j=i∧y.cs=c'∨j≠i∧y=y'):=by
   intro j y hy
   rw [eC_] at hy
   split at hy
   ·rename_i e;subst e
    rw [hx] at hy;cases hy
    exact ⟨_,hx,rfl,rfl,rfl,λ_=>by show c.arr.isSome=true;rw [hA];rfl,.inl ⟨rfl,rfl⟩⟩
   ·rename_i e
    exact ⟨y,hy,rfl,rfl,rfl,id,.inr ⟨λh=>e h.symm,rfl⟩⟩
  refine ⟨r.fr.chg.trans g λk hk e=>?_,(r.fr.stp.mono λk _ h=>List.mem_cons_of_mem _ h).trans g λk _ e=>by subst e;exact List.mem_cons_self,λj y A₁ hy hA₁=>?_,λj k y z hy hz h1 h2 e=>?_,λj y hy hw=>?_⟩
  ·subst e
   rcases r.fr.new i _ hx rfl with h | h
   ·exact h
   ·exact absurd hk (Nat.not_lt.2 h)
  ·obtain ⟨y',h1,h2,h3,_,_,h6 | h6⟩:=isS j y hy
   ·obtain ⟨rfl,h6⟩:=h6
    rw [hx] at h1;cases h1
    rw [h6,hA'] at hA₁;cases hA₁
    rw [h2,h3];exact hb
   ·obtain ⟨hne,rfl⟩:=h6
    refine g.get (r.fr.loc j y A₁ h1 hA₁) λe=>hne ?_
    exact r.fr.dist j i _ _ h1 hx (by rw [hA₁];rfl) (by show c.arr.isSome=true;rw [hA];rfl) e
  ·obtain ⟨y',a1,a2,_,_,a5,_⟩:=isS j y hy
   obtain ⟨z',b1,b2,_,_,b5,_⟩:=isS k z hz
   exact r.fr.dist j k y' z' a1 b1 (a5 h1) (b5 h2) (by rw [← a2,← b2];exact e)
  ·obtain ⟨y',a1,a2,_,a4,_⟩:=isS j y hy
   rw [a2];exact r.fr.new j y' a1 (a4 ▸ hw) }
theorem Rel.nw {σ:Sy} {w w':World} (r:Rel S w0 σ w) {cs:List Cel} {T:TypeId} (hc:wfCs (bsH σ.H) cs) (hb:w'.heap[w.heap.size]? = some (.cells ⟨ax_ cs⟩ T (0,0))) (g:Grow w w') :
  Rel S w0 ⟨σ.env,σ.H++[⟨w.heap.size,.l cs,T,true⟩],σ.M,σ.wp,true⟩ w'∧σ.wp.heap.size≤w.heap.size:=by
 have hbs:∀(i b:Nat),(bsH σ.H)[i]? = some b→(bsH (σ.H++[⟨w.heap.size,.l cs,T,true⟩]))[i]? = some b:=(AgrH.app (λ_=>true) _ _).bs
 have case:∀i x,nthH (σ.H++[⟨w.heap.size,.l cs,T,true⟩]) i=some x→(nthH σ.H i=some x)∨(i=σ.H.length∧x=⟨w.heap.size,.l cs,T,true⟩):=by
  intro i x hx
  rw [kc_] at hx
  split at hx
  ·exact .inl hx
  ·split at hx
   ·rename_i e;cases hx;exact .inr ⟨e,rfl⟩
   ·cases hx
 refine ⟨⟨⟨r.fr.chg.grow g,r.fr.stp.grow g,λi x A hx hA=>?_,λi j x y hx hy h1 h2 e=>?_,λi x hx hw=>?_⟩,qA_ hbs r.env,λi x c hx e=>?_,λh=>by cases h⟩,r.fr.stp.size⟩
 ·rcases case i x hx with h | ⟨_,rfl⟩
  ·exact g.get (r.fr.loc i x A h hA)
  ·cases hA;exact hb
 ·have lt:∀i x,nthH σ.H i=some x→x.cs.arr.isSome=true→x.b<w.heap.size:=λi x hx h=>by
   cases hA:x.cs.arr with
   | none=>rw [hA] at h;cases h
   | some A=>exact aj_ (r.fr.loc i x A hx hA)
  rcases case i x hx with h | ⟨h,rfl⟩ <;> rcases case j y hy with h' | ⟨h',rfl⟩
  ·exact r.fr.dist i j x y h h' h1 h2 e
  ·have:=lt i x h h1;simp only [] at e;omega
  ·have:=lt j y h' h2;simp only [] at e;omega
  ·rw [h,h']
 ·rcases case i x hx with h | ⟨_,rfl⟩
  ·exact r.fr.new i x h hw
  ·exact .inr r.fr.chg.size
 ·rcases case i x hx with h | ⟨_,rfl⟩
  ·exact hw_ hbs (r.H i x c h e)
  ·cases e;exact hw_ hbs hc
end
end Go.Vc
namespace Go.Vc
open Go
section
variable {P:Program} {okf:Ctx} {S:Nat→Prop} {w0:World} {Q:Exit→Act→World→Prop}
theorem ju_ (hok:∀n,okf.fns.contains n=true→okFn P n=true) {hv:List Nat} {lk:Nat→Bool} {σ:Sy} {o:Oper} {K:SV→Sy→Prop} {w:World} {next:Act→World→Prop} (hu:unl lk hv=true) (h:gen3 P okf S w0 hv σ o K) (r:Rel S w0 σ w)
  (hn:∀s σ' w',K s σ'→Rel S w0 σ' w'→AgrH lk σ.H σ'.H→σ'.env=σ.env→wfS (bsH σ'.H) s→next (act (putD (denE σ.env) o.dst s.den)) w'):o.wp P (act (denE σ.env)) w next Q:=by
 obtain ⟨σ1,h,r1,he,hH⟩:=a0_ h r
 rw [he] at h
 refine pi_ hok h λv w' hK=>?_
 obtain ⟨H',⟨hF,hK⟩,ha,hw',hb,hk⟩:=il_ hu r1.H hK
 have e:=f_if (bsH H') (isBT P o.type) v
 have:=hn _ ⟨σ1.env,H',[],w',false⟩ w' hK ⟨r1.fr.weak hk hF,by show wfE (bsH H') σ1.env;rw [hb];exact r1.env,hw',λ_=>rfl⟩ (hH ▸ ha) he e.2
 rwa [e.1] at this
theorem gf_ (t:TypeId) (v:Value) (w:World):(newVar t v).run P w=.ok ⟨w.heap.size,0,none⟩ (w.alloc (.cells v.cells t (0,0))):=by
 simp [newVar,newRow,newObj,Sem.run]
theorem pn_ (hok:∀n,okf.fns.contains n=true→okFn P n=true) {hv:List Nat} {lk:Nat→Bool} {σ:Sy} {o:Oper} {K:SV→Sy→Prop} {w:World} {next:Act→World→Prop} (h:ns3 P okf S w0 lk hv σ o K) (r:Rel S w0 σ w)
  (hn:∀s σ' w',K s σ'→Rel S w0 σ' w'→AgrH lk σ.H σ'.H→σ'.env=σ.env→wfS (bsH σ'.H) s→next (act (putD (denE σ.env) o.dst s.den)) w'):o.wp P (act (denE σ.env)) w next Q:=by
 have G0:gen3 P okf S w0 [] σ o K→o.wp P (act (denE σ.env)) w next Q:=λh=>ju_ hok (lk:=lk) (hv:=[]) rfl h r hn
 have GH:unl lk hv=true→gen3 P okf S w0 hv σ o K→o.wp P (act (denE σ.env)) w next Q:=λhu h=>ju_ hok hu h r hn
 have NW:∀(cs:List Cel) (T:TypeId) (f:Nat→SV),wfCs (bsH σ.H) cs→(∀bs:List Nat,∀b,bs[σ.H.length]? = some b→wfS bs (f b))→new3 σ T cs K f→
   (execOp (ev (denE σ.env)) o).run P w=.ok (.value (f w.heap.size).den) (w.alloc (.cells ⟨ax_ cs⟩ T (0,0)))→o.wp P (act (denE σ.env)) w next Q:=by
  intro cs T f hc hf h hr
  unfold new3 at h
  rw [mv_] at h
  obtain ⟨r',hsz⟩:=r.nw (T:=T) (w':=w.alloc (.cells ⟨ax_ cs⟩ T (0,0))) hc (by show (w.heap.push _)[w.heap.size]? = _;simp) (Chg.alloc w _)
  have h:=h w.heap.size hsz
  rw [ix_] at h
  unfold Oper.wp
  rw [i1_,hr,Oper.upon_value,cS_]
  have h:K (f w.heap.size) ⟨σ.env,σ.H++[⟨w.heap.size,.l cs,T,true⟩],σ.M,σ.wp,true⟩:=h
  refine hn _ _ _ h r' (AgrH.app _ _ _) rfl (hf _ _ ?_)
  rw [dT_,kc_];simp
 unfold ns3 at h
 split at h
 ·rename_i t a x ho
  have finU:∀(w':World),(∃σ',K (.c (.v undef)) σ'∧Rel S w0 σ' w'∧AgrH lk σ.H σ'.H∧σ'.env=σ.env)→(execOp (ev (denE σ.env)) o).run P w=.ok .skip w'→o.wp P (act (denE σ.env)) w next Q:=by
   rintro w' ⟨σ',hK,hr',ha,he⟩ hr
   unfold Oper.wp
   rw [i1_,hr,Oper.upon_skip,cS_]
   exact hn _ _ _ hK hr' ha he trivial
  split at h
  ·rename_i i b lit off ha
   have ea:ev (denE σ.env) a=.pointer (some ⟨b,off,none⟩):=by rw [← aB_,ha];rfl
   have hwf:=bF_ r.env a;rw [ha] at hwf
   have hwf:(bsH σ.H)[i]? = some b:=hwf
   rw [dT_] at hwf
   have byst:stK P t ⟨b,off,none⟩ (ev (denE σ.env) x) (λw'=>∃σ',K (.c (.v undef)) σ'∧Rel S w0 σ' w'∧AgrH lk σ.H σ'.H∧σ'.env=σ.env) w→o.wp P (act (denE σ.env)) w next Q:=by
    intro hs
    obtain ⟨w',hr,hK⟩:=k5_ hs
    exact finU w' hK (by simp [execOp,ho,ea,Instr.storeAt,Instr.sureAddr,hr])
   have one:∀(c c':Cs) (T:TypeId) (A:Array Value) (y:Cel) (k:Ck),nthH σ.H i=some ⟨b,c,T,true⟩→c.arr=some A→c'.arr=some (A.setIfInBounds off y.den)→(∀cs,c'=.l cs→wfCs (bsH σ.H) cs)→lk i=false→
     known P t=true→aggT P t=false→szOf P t=1→ev3 σ.env x=.c y→off<A.size→oneC y.den=true→K (.c (.v undef)) ⟨σ.env,setH σ.H i c',b :: σ.M,σ.wp,true⟩→o.wp P (act (denE σ.env)) w next Q:=by
    intro c c' T A y k hx hA hA' hc hl hk hag hsz hy hoff h1 hK
    refine byst ?_
    have ey:ev (denE σ.env) x=y.den:=by rw [← aB_,hy];rfl
    unfold stK
    simp only [hk,hag]
    rw [if_pos hsz,ey]
    refine stC (r.fr.loc i _ A hx hA) hoff h1 λw' hb _ g=>?_
    exact ⟨_,hK,r.st hx hA hA' hc hb g,AgrH.set hl,rfl⟩
   split at h
   ·rename_i b' cs T hx hl
    have hbb:b'=b:=by rw [hx] at hwf;simpa using hwf
    subst hbb
    split at h
    ·rename_i hk hag
     split at h
     ·rename_i y hy
      split at h
      ·rename_i hh
       simp only [Bool.and_eq_true] at hh
       have h1:=Nat.eq_of_beq_eq_true hh.1
       have h2:off<cs.length:=by
        have:=Nat.le_of_ble_eq_true (n:=off+1) (m:=lenC cs) hh.2
        rw [em_] at this;omega
       obtain ⟨h3,h⟩:=dx_ h
       rw [mv_,ix_] at h
       have hsy:=bF_ r.env x;rw [hy] at hsy
       exact one (.l cs) (.l (putC cs off y)) T ⟨ax_ cs⟩ y (ckT P t) hx rfl (by
        show some _=some _
        rw [lA_];simp) (λc e=>by
        cases e
        exact λz hz=>(m__ hz).elim (λe=>e ▸ hsy) (r.H i _ cs hx rfl z)) hl hk hag h1 hy (by simpa [bv_] using h2) h3 h
      ·exact h.elim
     ·exact h.elim
    ·rename_i hk hag
     split at h
     ·rename_i ys hy
      split at h
      ·rename_i hh
       simp only [Bool.and_eq_true] at hh
       have h1:=Nat.eq_of_beq_eq_true hh.1
       have h2:=Nat.le_of_ble_eq_true hh.2
       rw [em_] at h1 h2
       rw [em_] at h2
       obtain ⟨h3,h⟩:=jj_ h
       rw [mv_,ix_] at h
       refine byst ?_
       have ey:ev (denE σ.env) x=.agg ⟨ax_ ys⟩:=by rw [← aB_,fr_ hy]
       unfold stK
       simp only [hk,hag,ey]
       rw [if_pos (by simp [bv_,h1])]
       refine jf_ _ 0 _ w (r.fr.loc i _ _ hx rfl) (by simp [bv_];omega) (λv hv=>?_) λw' A' hb hA' g=>?_
       ·have:∀(l:List Cel) v,v∈ax_ l→∃c,c∈l∧v=c.den:=by
         intro l
         induction l with
         | nil=>intro v hv;cases hv
         | cons z zs ih=>
          intro v hv
          rcases List.mem_cons.1 hv with rfl | hv
          ·exact ⟨z,List.mem_cons_self,rfl⟩
          ·obtain ⟨c,hc,e⟩:=ih v hv;exact ⟨c,List.mem_cons_of_mem _ hc,e⟩
        obtain ⟨c,hc,rfl⟩:=this ys v hv
        exact h3 c hc
       ·have e:A'=⟨ax_ (spl cs off ys)⟩:=by
         apply Array.ext_getElem?
         intro j
         rw [hA' j]
         have:=o0_ cs ys off h2 j
         simp only [List.getElem?_toArray,Nat.add_zero,bv_]
         exact this.symm
        subst e
        have hsy:=bF_ r.env x
        exact ⟨⟨σ.env,setH σ.H i (.l (spl cs off ys)),b' :: σ.M,σ.wp,true⟩,h,r.st hx rfl rfl (λc e=>by
         cases e
         exact λz hz=>(oZ_ hz).elim (lV_ hy hsy z) (r.H i _ cs hx rfl z)) hb g,AgrH.set hl,rfl⟩
      ·exact h.elim
     ·exact h.elim
    ·rename_i hk hag
     split at h
     ·rename_i y hy
      split at h
      ·rename_i hh
       have h1:=Nat.eq_of_beq_eq_true hh
       obtain ⟨h2,h⟩:=h
       rw [em_] at h2
       obtain ⟨h3,h⟩:=dx_ h
       rw [ix_] at h
       exact one (.l cs) _ T ⟨ax_ cs⟩ y (ckT P t) hx rfl rfl (λc e=>by cases e) hl hk hag h1 hy (by simpa [bv_] using h2) h3 h
      ·exact h.elim
     ·exact h.elim
    ·exact h.elim
   ·rename_i b' A T hx hl
    have hbb:b'=b:=by rw [hx] at hwf;simpa using hwf
    subst hbb
    split at h
    ·rename_i hk hag
     split at h
     ·rename_i y hy
      split at h
      ·rename_i hh
       have h1:=Nat.eq_of_beq_eq_true hh
       obtain ⟨h2,h⟩:=h
       obtain ⟨h3,h⟩:=dx_ h
       rw [ix_] at h
       exact one (.r A) _ T A y (ckT P t) hx rfl rfl (λc e=>by cases e) hl hk hag h1 hy h2 h3 h
      ·exact h.elim
     ·exact h.elim
    ·exact h.elim
   ·exact G0 h
   ·exact h.elim
  ·exact G0 h
 ·rename_i t ho
  split at h
  ·rename_i z hz
   refine NW _ _ _ (hh_ _ _) (λbs b hb=>?_) h ?_
   ·show bs[lenH σ.H]? = some b;rw [fj_];exact hb
   ·simp [execOp,ho,Instr.alloc,fE_ hz,gf_,fU_,SV.den,Cel.den]
  ·exact h.elim
 ·rename_i t x ho
  split at h
  ·rename_i hag
   split at h
   ·rename_i cs hcs
    refine NW _ _ _ (lV_ hcs (bF_ r.env x)) (λbs b hb=>?_) h ?_
    ·show bs[lenH σ.H]? = some b;rw [fj_];exact hb
    ·have e:ev (denE σ.env) x=.agg ⟨ax_ cs⟩:=by rw [← aB_,fr_ hcs]
     simp [execOp,ho,Instr.box,gf_,SV.den,Cel.den,e,Value.cells]
   ·exact h.elim
  ·split at h
   ·rename_i y hy
    obtain ⟨h1,h⟩:=dx_ h
    have hsy:=bF_ r.env x;rw [hy] at hsy
    refine NW _ _ _ (λz hz=>?_) (λbs b hb=>?_) h ?_
    ·simp at hz;subst hz;exact hsy
    ·show bs[lenH σ.H]? = some b;rw [fj_];exact hb
    ·have e:ev (denE σ.env) x=y.den:=by rw [← aB_,hy];rfl
     have e2:=cells_one h1
     have e3:(execOp (ev (denE σ.env)) o).run P w=.ok (.value (.pointer (some ⟨w.heap.size,0,none⟩))) (w.alloc (.cells y.den.cells t (0,0))):=by
      simp [execOp,ho,Instr.box,gf_,e]
     rw [e3,e2];rfl
   ·exact h.elim
 ·rename_i t len parts ho
  split at h
  ·rename_i e hu
   split at h
   ·rename_i z hk hz
    split at h
    ·rename_i hh
     simp only [Bool.and_eq_true,Bool.not_eq_true'] at hh
     have h1:=Nat.le_of_ble_eq_true hh.1
     have h2:len*szOf P e≠0:=λe0=>by rw [e0] at hh;simp at hh
     have h3:=fn_ (bsH σ.H) (lT_ r.env _) (hh_ _ _) h
     rw [fU_,kC_] at h3
     obtain ⟨vs,⟨cs,rfl,hc,hK⟩,hfill⟩:=dO_ (place':=λi=>some (i*szOf P e,szOf P e)) (λi=>rfl) h3
     refine NW cs e _ hc (λbs b hb=>?_) hK ?_
     ·show bs[lenH σ.H]? = some b;rw [fj_];exact hb
     ·have hl:(parts.map λ(x:Nat × Operand)=>(x.1,ev (denE σ.env) x.2)).toList=parts.toList.map λp=>(p.1,ev (denE σ.env) p.2):=by simp
      have e1:¬len*szOf P e>2 ^ 24:=by omega
      have e2:Instr.fill (λi=>some (i*szOf P e,szOf P e)) ((Array.range (len*szOf P e)).map (z.cells[· % z.cells.size]!)) (parts.toList.map λp=>(p.1,ev (denE σ.env) p.2))=some ⟨ax_ cs⟩:=hfill
      have e3:execOp (ev (denE σ.env)) o=(do pure (.value (← Instr.buildSlice t len (parts.map λ(i,x)=>(i,ev (denE σ.env) x)))):Sem Next):=by simp only [execOp,ho]
      have e4:(Instr.buildSlice t len (parts.map λ(i,x)=>(i,ev (denE σ.env) x))).run P w=.ok (.slice (some ⟨w.heap.size,0,none⟩) len len) (w.alloc (.cells ⟨ax_ cs⟩ e (0,0))):=by
       simp only [Instr.buildSlice,Sem.run_bind,run_underlying hu,run_sizeOf hk,Result.andThen_ok,Sem.run_ite]
       rw [if_neg e1]
       simp only [Sem.run_pure,Result.andThen_ok,if_neg h2,fE_ hz]
       rw [hl,e2]
       simp [newRow]
      rw [e3];simp [e4,SV.den,Cel.den]
    ·split at h
     ·rename_i hh
      simp only [Bool.and_eq_true] at hh
      have h1:=Nat.eq_of_beq_eq_true hh.1
      have h2:=Nat.eq_of_beq_eq_true hh.2
      refine NW [] e _ (λz hz=>by cases hz) (λbs b hb=>?_) h ?_
      ·show bs[lenH σ.H]? = some b;rw [fj_];exact hb
      ·have e2:parts=#[]:=Array.eq_empty_of_size_eq_zero h2
       subst e2
       have e3:(Array.range 0:Array Nat)=#[]:=by apply Array.toList_inj.1;simp
       have e4:execOp (ev (denE σ.env)) o=(do pure (.value (← Instr.buildSlice t len #[])):Sem Next):=by simp [execOp,ho]
       have e5:(Instr.buildSlice t len #[]).run P w=.ok (.slice (some ⟨w.heap.size,0,none⟩) len len) (w.alloc (.cells #[] e (0,0))):=by
        simp only [Instr.buildSlice,Sem.run_bind,run_underlying hu,run_sizeOf hk,Result.andThen_ok,Sem.run_ite]
        simp [h1,Instr.fill,newRow,e3]
       rw [e4];simp [e5,SV.den,Cel.den,ax_]
     ·exact h.elim
   ·exact h.elim
  ·exact h.elim
 ·split at h
  ·rename_i hu;exact GH hu h
  ·exact h.elim
end
end Go.Vc
namespace Go.Vc
open Go
section
variable {P:Program} {okf:Ctx} {S:Nat→Prop} {w0:World} {nE:Nat} {Q:Exit→Act→World→Prop}
theorem iz_ {o:Oper} {s:SV} {K:SV→Prop} {bs:List Nat} (h:exT3 P okf o s K) (hs:wfS bs s):∃s',K s'∧s'.den=s.den∧wfS bs s':=by
 unfold exT3 at h
 split at h
 ·split at h
  ·have:=b5_ h
   exact ⟨_,this,(f_if bs _ _).1,(f_if bs _ _).2⟩
  ·exact ⟨_,h,rfl,hs⟩
 ·exact ⟨_,h,rfl,hs⟩
def AgrS (m:List Nat) (e e':List SV):Prop:=e'.length=e.length∧∀i,i∉m→nthS e' i=nthS e i
theorem AgrS.refl (m:List Nat) (e:List SV):AgrS m e e:=⟨rfl,λ_ _=>rfl⟩
theorem AgrS.trans {m:List Nat} {a b c:List SV} (h:AgrS m a b) (k:AgrS m b c):AgrS m a c:=⟨k.1.trans h.1,λi hi=>(k.2 i hi).trans (h.2 i hi)⟩
theorem AgrS.mono {m m':List Nat} {a b:List SV} (h:AgrS m a b) (hm:∀i,i∈m→i∈m'):AgrS m' a b:=⟨h.1,λi hi=>h.2 i λhm'=>hi (hm i hm')⟩
theorem qW_ (e:List SV) (i:Nat) (x:SV):(putS e i x).length=e.length:=by
 induction e generalizing i with
 | nil=>rfl
 | cons v vs ih=>cases i <;> simp [dr_,d9_,ih]
theorem q0_ (e:List SV) (i:Nat) (x:SV) (j:Nat):nthS (putS e i x) j=if i=j∧i<e.length then x else nthS e j:=by
 induction e generalizing i j with
 | nil=>simp [dr_,d9_,hm_,fO_,fN_,hn_]
 | cons v vs ih=>
  cases i with
  | zero=>cases j <;> simp [dr_,d9_,hm_,fO_,fN_,hn_]
  | succ i=>cases j with
   | zero=>simp [dr_,d9_,hm_,fO_,fN_,hn_]
   | succ j=>simp [dr_,d9_,hm_,fO_,fN_,hn_,ih]
theorem AgrS.put (m:List Nat) (e:List SV) (d:Option Nat) (x:SV) (h:∀i,d=some i→i∈m):AgrS m e (iW_ e d x):=by
 cases d with
 | none=>exact .refl _ _
 | some i=>
  refine ⟨qW_ _ _ _,λj hj=>?_⟩
  simp only [iW_,q0_]
  rw [if_neg]
  rintro ⟨rfl,_⟩
  exact hj (h i rfl)
structure Beh (m:List Nat) (lk:Nat→Bool) (S:Nat→Prop) (w0:World) (σ σ':Sy) (w':World):Prop where
 rel:Rel S w0 σ' w'
 env:AgrS m σ.env σ'.env
 H:AgrH lk σ.H σ'.H
theorem Beh.trans {m:List Nat} {lk:Nat→Bool} {σ σ' σ'':Sy} {w' w'':World} (h:Beh m lk S w0 σ σ' w') (k:Beh m lk S w0 σ' σ'' w''):Beh m lk S w0 σ σ'' w'':=⟨k.rel,h.env.trans k.env,h.H.trans k.H⟩
theorem Beh.mono {m m':List Nat} {lk lk':Nat→Bool} {σ σ':Sy} {w':World} (h:Beh m lk S w0 σ σ' w') (hm:∀i,i∈m→i∈m') (hl:∀i,lk' i=true→lk i=true):Beh m' lk' S w0 σ σ' w':=⟨h.rel,h.env.mono hm,h.H.mono hl⟩
theorem Rel.put {σ:Sy} {w:World} (r:Rel S w0 σ w) (d:Option Nat) {s:SV} (hs:wfS (bsH σ.H) s):Rel S w0 ⟨iW_ σ.env d s,σ.H,σ.M,σ.wp,σ.dy⟩ w:=⟨r.fr,qz_ r.env d hs,r.H,r.dy⟩
theorem ky_ {ops:Array Oper} {i:Nat} {o:Oper} (ho:ops[i]? = some o):∀d,o.dst=some d→d∈dsts ops:=λd hd=>by
 simp only [dsts,List.mem_filterMap]
 exact ⟨o,by simpa using Array.mem_of_getElem? ho,hd⟩
theorem e9_ (hok:∀n,okf.fns.contains n=true→okFn P n=true) {ops:Array Oper} {lk:Nat→Bool} {hvs:List (Nat × List Nat)} {i:Nat} {σ:Sy} {K:Sy→Prop} {w:World} (h:pj_ P okf S w0 ops lk hvs i σ K) (r:Rel S w0 σ w) :
  wpOp P ops Q i (λa w'=>∃σ',a=act (denE σ'.env)∧Beh (dsts ops) lk S w0 σ σ' w'∧K σ') (act (denE σ.env)) w:=by
 unfold pj_ at h
 unfold wpOp
 split at h
 ·rename_i ho;simp only [ho];exact ⟨σ,rfl,⟨r,.refl _ _,.refl _ _⟩,h⟩
 ·rename_i o ho
  simp only [ho]
  have hd:=ky_ ho
  split at h
  ·rename_i hw
   have hw':Region.wanted o (yielded ops (act (denE σ.env)).tmps)=true:=hw
   rw [if_pos hw']
   refine .inl ?_
   split at h
   ·have key:∀σ1:Sy,Rel S w0 σ1 w→σ1.env=σ.env→σ1.H=σ.H→∀R:Addr→Value→Prop,(∀a v,R a v→∀w',w'=w→w'.cell? a=some v)→
        sil3 P R (λ_=>true) σ1.env σ1.H o (λs=>exT3 P okf o s λs=>fS s λs=>fPD σ1.env o.dst s λe=>K ⟨e,σ1.H,σ1.M,σ1.wp,σ1.dy⟩)→
        o.wp P (act (denE σ.env)) w (λa w'=>∃σ',a=act (denE σ'.env)∧Beh (dsts ops) lk S w0 σ σ' w'∧K σ') Q:=by
     intro σ1 r1 he hH R hR h
     obtain ⟨s,hK,hs,hr⟩:=ga_ (Q:=λw'=>w'=w) hR r1.env r1.H (λi x A hx _ hA w' hw'=>by rw [hw'];exact ⟨_,r1.fr.loc i x A hx hA⟩) h
     obtain ⟨s',hK,hd',hs'⟩:=iz_ hK hs
     rw [rp_,iw_] at hK
     unfold Oper.wp
     rw [i1_,← he,hr w rfl,Oper.upon_value,cS_]
     refine ⟨_,?_,⟨r1.put o.dst hs',he ▸ AgrS.put _ _ _ _ hd,?_⟩,hK⟩
     ·show _=act (denE (iW_ σ1.env o.dst s'));rw [cP_,hd']
     ·show AgrH lk σ.H σ1.H;rw [hH];exact .refl _ _
    split at h
    ·obtain ⟨σ1,h,r1,he,hH⟩:=a0_ h r
     exact key σ1 r1 he hH _ (λa v hv w' hw'=>by rw [hw'];exact hv) h
    ·exact key σ r rfl rfl _ (λa v hv=>hv.elim) h
   ·refine pn_ hok h r λs σ' w' hK r' ha he hs=>?_
    rw [rp_,iw_] at hK
    refine ⟨_,?_,⟨r'.put o.dst hs,?_,ha⟩,hK⟩
    ·show _=act (denE (iW_ σ'.env o.dst s));rw [cP_,he]
    ·show AgrS _ _ (iW_ σ'.env o.dst s);rw [he];exact AgrS.put _ _ _ _ hd
  ·rename_i hw
   have hw':¬Region.wanted o (yielded ops (act (denE σ.env)).tmps)=true:=by
    have:Region.wanted o (yielded ops (act (denE σ.env)).tmps)=false:=hw
    simp [this]
   rw [iw_] at h
   rw [if_neg hw',cS_]
   refine ⟨_,?_,⟨r.put o.dst (s:=.c (.v undef)) trivial,AgrS.put _ _ _ _ hd,.refl _ _⟩,h⟩
   show _=act (denE (iW_ σ.env o.dst _));rw [cP_];rfl
theorem nN_ (hok:∀n,okf.fns.contains n=true→okFn P n=true) {ops:Array Oper} {lk:Nat→Bool} {hvs:List (Nat × List Nat)} {K:Sy→Prop} {σ0:Sy} (hq:∀σ w,Beh (dsts ops) lk S w0 σ0 σ w→K σ→Q .normal (act (denE σ.env)) w) :
  ∀ {is:List Nat} {σ:Sy} {w:World},Beh (dsts ops) lk S w0 σ0 σ w→ops3 P okf S w0 ops lk hvs is σ K→wpOps P ops Q is (act (denE σ.env)) w:=by
 intro is
 induction is with
 | nil=>intro σ w hb h;exact hq _ _ hb h
 | cons i is ih=>
  intro σ w hb h
  rw [wpOps_cons]
  refine wpOp_mono ?_ (e9_ hok h hb.rel)
  rintro a w ⟨σ',rfl,hb',h'⟩
  exact ih (hb.trans hb') h'
def SReg (H0:List Bk) (rd:Nat→Bool) (Su:World→Prop) (w:World):Prop:=Su w∧∀i x A,nthH H0 i=some x→rd i=true→x.cs.arr=some A→w.heap[x.b]? = some (.cells A x.T (0,0))
theorem SReg.of {H0:List Bk} {rd:Nat→Bool} {Su:World→Prop} {lk:Nat→Bool} {σ:Sy} {w:World} (r:Rel S w0 σ w) (ha:AgrH lk H0 σ.H) (hl:∀i,rd i=true→lk i=true) (hs:Su w):SReg H0 rd Su w:=
 ⟨hs,λi x A hx hr hA=>by
  obtain ⟨x',h1,_,_,_,h5⟩:=ha i x hx
  have:=h5 (hl i hr);subst this
  exact r.fr.loc i _ A h1 hA⟩
theorem pO_:∀(l:List Bool) (K:List Bool→Prop),fBl l K=K l
 | [],_=>rfl
 | true :: l,K=>pO_ l λl=>K (true :: l)
 | false :: l,K=>pO_ l λl=>K (false :: l)
theorem iy_ {a:Array Bool} {K:Array Bool→Prop} (h:fB a K):K a:=by
 unfold fB at h;rw [pO_] at h;exact h
theorem hq_ {σ:Sy} {a:Array Bool} {K:Array Bool→Sy→Prop} (h:nS σ λσ=>fB a λl=>K l σ):K a σ:=by
 obtain ⟨e,H,M,wp,dy⟩:=σ;exact iy_ (show fB a (λl=>K l ⟨e,H,M,wp,dy⟩) from h)
theorem jG_ (hok:∀n,okf.fns.contains n=true→okFn P n=true) {ops:Array Oper} {user:Bool} {Su:World→Prop} {rd lk:Nat→Bool} {hvs:List (Nat × List Nat)} {K:Sy→Prop} {σ0:Sy} (hns:Region.noSelect ops=true)
  (hQ:∀c a w d v,Q (.panic c) (Act.put a d v) w→Q (.panic c) a w) (hl:∀i,rd i=true→lk i=true) (hrd:∀i,rd i=true→i<σ0.H.length) (hu:user=false→∀w,Su w)
  (hq:∀σ w,Beh (dsts ops) lk S w0 σ0 σ w→K σ→Q .normal (act (denE σ.env)) w) :
  ∀ {n:Nat} {listed:Array Bool} {σ:Sy} {w:World},c8_ ops listed→Beh (dsts ops) lk S w0 σ0 σ w→Su w→any3 P okf S w0 ops user Su rd lk hvs n listed σ K→
   anyL P ops Q (SReg σ0.H rd Su) n listed (act (denE σ.env)) w:=by
 intro n
 induction n with
 | zero=>
  intro listed σ w hcl hb hS h
  unfold any3 at h
  split at h
  ·rename_i hr;exact iM_ hr (hq _ _ hb h) 0
  ·exact h.elim
 | succ n ih=>
  intro listed σ w hcl hb hS h
  unfold any3 at h
  split at h
  ·rename_i hr;exact iM_ hr (hq _ _ hb h) _
  ·rename_i r rs hr
   have hreg:=SReg.of (Su:=Su) hb.rel hb.H hl hS
   split at h
   ·rename_i i hi
    have hs:=List.find?_some hi
    rw [Bool.and_eq_true] at hs
    have hs:=hs.1
    simp only [silB,Bool.and_eq_true] at hs
    obtain ⟨hs,hf⟩:=hs
    have hrd':(Region.ready .any ops listed).contains i=true:=by
     rw [hr];simpa using List.mem_of_find?_eq_some hi
    unfold qP_ at h
    split at h
    ·exact h.elim
    ·rename_i o ho
     have hd:=ky_ ho
     split at h
     ·rename_i hw
      have hw':Region.wanted o (yielded ops (act (denE σ.env)).tmps)=true:=hw
      obtain ⟨s,hK,hs',hrun⟩:=ga_ (Q:=SReg σ0.H rd Su) (λa v hv w' hw'=>hv w' hw'.1) hb.rel.env hb.rel.H (λj x A hx hj hA w' hw'=>by
       have hj0:=hrd j hj
       cases hx0:nthH σ0.H j with
       | none=>rw [di_] at hx0;rw [List.getElem?_eq_none_iff] at hx0;omega
       | some x0=>
        obtain ⟨x',h1,_,_,_,h5⟩:=hb.H j x0 hx0
        have:=h5 (hl j hj);subst this
        rw [hx] at h1;cases h1
        exact ⟨_,hw'.2 j x A hx0 hj hA⟩) h
      obtain ⟨s',hK,hd',hs''⟩:=iz_ hK hs'
      rw [rp_,iw_] at hK
      refine eI_ (v:=s.den) ho hns (λc a w=>hQ c a w _ _) n listed _ w (Region.free_spec ho hf) hcl (by simpa using hrd') (.inl ⟨hw',λw' hw'=>by rw [i1_];exact hrun w' hw'⟩) hreg ?_
      rw [cS_]
      have:=ih (hcl.set (by simpa using hrd')) (hb.trans ⟨hb.rel.put o.dst hs'',AgrS.put _ _ _ _ hd,.refl _ _⟩) hS (hq_ hK)
      simp only [cP_] at this
      rwa [hd'] at this
     ·rename_i hw
      have hw':Region.wanted o (yielded ops (act (denE σ.env)).tmps)=false:=hw
      rw [iw_] at h
      refine eI_ (v:=undef) ho hns (λc a w=>hQ c a w _ _) n listed _ w (Region.free_spec ho hf) hcl (by simpa using hrd') (.inr ⟨hw',rfl⟩) hreg ?_
      rw [cS_]
      have:=ih (hcl.set (by simpa using hrd')) (hb.trans ⟨hb.rel.put o.dst (s:=.c (.v undef)) trivial,AgrS.put _ _ _ _ hd,.refl _ _⟩) hS (hq_ h)
      simp only [cP_] at this
      exact this
   ·refine ns_ hr (by simp) λi hi=>?_
    refine wpOp_mono ?_ (e9_ hok (lH_ h i hi) hb.rel)
    rintro a w ⟨σ',rfl,hb',h'⟩
    have hb':=hb.trans hb'
    split at h'
    ·rename_i hla
     have h':=iy_ h'
     refine ⟨.inl hla,?_⟩
     have hrn:=nU_ hcl hla (hr ▸ hi)
     refine iM_ hrn ?_ n
     cases n with
     | zero=>unfold any3 at h';rw [hrn] at h';exact hq _ _ hb' h'
     | succ n=>unfold any3 at h';rw [hrn] at h';exact hq _ _ hb' h'
    ·unfold tm_ at h'
     split at h'
     ·obtain ⟨σ2,⟨hS2,h2⟩,r2,he,hH⟩:=a0_ h' hb'.rel
      have hb2:Beh (dsts ops) lk S w0 σ0 σ2 w:=⟨r2,he ▸ hb'.env,hH ▸ hb'.H⟩
      rw [← he]
      exact ⟨.inr (SReg.of r2 hb2.H hl hS2),ih (hcl.set (hr ▸ hi)) hb2 hS2 (iy_ h2)⟩
     ·have hS2:=hu rfl w
      exact ⟨.inr (SReg.of hb'.rel hb'.H hl hS2),ih (hcl.set (hr ▸ hi)) hb' hS2 (iy_ h')⟩
theorem lG_ {P:Program} {ops:Array Oper} {Q:Exit→Act→World→Prop} {S1 S2:World→Prop} (h12:∀w,S1 w→S2 w):∀(n:Nat) (listed:Array Bool) (a:Act) (w:World),anyL P ops Q S1 n listed a w→anyL P ops Q S2 n listed a w
 | 0,_,_,_,h=>h
 | n+1,_,_,_,h=>⟨h.1,λi hi=>wpOp_mono (λa w hw=>⟨hw.1.imp id (h12 w),lG_ h12 n _ a w hw.2⟩) (h.2 i hi)⟩
theorem nM_ (hok:∀n,okf.fns.contains n=true→okFn P n=true) {ops:Array Oper} {lk:Nat→Bool} {hvs:List (Nat × List Nat)} {K:Nat→Array Bool→Sy→Prop} {σ0:Sy} (hns:Region.noSelect ops=true)
  (hQ:∀c a w d v,Q (.panic c) (Act.put a d v) w→Q (.panic c) a w)
  (hq:∀n listed σ w,c8_ ops listed→Beh (dsts ops) lk S w0 σ0 σ w→K n listed σ→anyL P ops Q (λ_=>True) n listed (act (denE σ.env)) w) :
  ∀ {m n:Nat} {listed:Array Bool} {σ:Sy} {w:World},c8_ ops listed→Beh (dsts ops) lk S w0 σ0 σ w→pre3 P okf S w0 ops lk hvs m n listed σ K→
   anyL P ops Q (λ_=>True) n listed (act (denE σ.env)) w:=by
 intro m
 induction m with
 | zero=>intro n listed σ w hcl hb h;exact hq _ _ _ _ hcl hb h
 | succ m ih=>
  intro n listed σ w hcl hb h
  cases n with
  | zero=>exact h.elim
  | succ n=>
  unfold pre3 at h
  simp only at h
  split at h
  ·exact h.elim
  ·rename_i r rs hr
   split at h
   ·rename_i i hi
    have hs:=List.find?_some hi
    rw [Bool.and_eq_true] at hs
    have hs:=hs.1
    simp only [silB,Bool.and_eq_true] at hs
    obtain ⟨hs,hf⟩:=hs
    have hrd':(Region.ready .any ops listed).contains i=true:=by
     rw [hr];simpa using List.mem_of_find?_eq_some hi
    unfold qP_ at h
    split at h
    ·exact h.elim
    ·rename_i o ho
     have hd:=ky_ ho
     split at h
     ·rename_i hw
      have hw':Region.wanted o (yielded ops (act (denE σ.env)).tmps)=true:=hw
      obtain ⟨s,hK,hs',hrun⟩:=ga_ (Q:=λ_=>True) (λa v hv w' _=>hv w' trivial) hb.rel.env hb.rel.H (λj x A hx hj hA w' hw'=>by cases hj) h
      obtain ⟨s',hK,hd',hs''⟩:=iz_ hK hs'
      rw [rp_,iw_] at hK
      refine eI_ (v:=s.den) ho hns (λc a w=>hQ c a w _ _) n listed _ w (Region.free_spec ho hf) hcl (by simpa using hrd') (.inl ⟨hw',λw' hw'=>by rw [i1_];exact hrun w' hw'⟩) trivial ?_
      rw [cS_]
      have:=ih (hcl.set (by simpa using hrd')) (hb.trans ⟨hb.rel.put o.dst hs'',AgrS.put _ _ _ _ hd,.refl _ _⟩) (hq_ hK)
      simp only [cP_] at this
      rwa [hd'] at this
     ·rename_i hw
      have hw':Region.wanted o (yielded ops (act (denE σ.env)).tmps)=false:=hw
      rw [iw_] at h
      refine eI_ (v:=undef) ho hns (λc a w=>hQ c a w _ _) n listed _ w (Region.free_spec ho hf) hcl (by simpa using hrd') (.inr ⟨hw',rfl⟩) trivial ?_
      rw [cS_]
      have:=ih (hcl.set (by simpa using hrd')) (hb.trans ⟨hb.rel.put o.dst (s:=.c (.v undef)) trivial,AgrS.put _ _ _ _ hd,.refl _ _⟩) (hq_ h)
      simp only [cP_] at this
      exact this
   ·refine ns_ hr (by simp) λi hi=>?_
    refine wpOp_mono ?_ (e9_ hok (lH_ h i hi) hb.rel)
    rintro a w ⟨σ',rfl,hb',h'⟩
    exact ⟨.inr trivial,ih (hcl.set (hr ▸ hi)) (hb.trans hb') (iy_ h')⟩
end
end Go.Vc
namespace Go.Vc
open Go
section
variable {P:Program} {okf:Ctx} (hok:∀n,okf.fns.contains n=true→okFn P n=true) {S:Nat→Prop} {w0:World} {nE:Nat} {Q:Exit→Act→World→Prop}
theorem it_ (keep:List Nat) (nE:Nat) (lk:Nat→Bool):∀(H:List Bk) (i j:Nat) (x':Bk),nthH (dM_ keep nE lk i H) j=some x'→
  ∃x,nthH H j=some x∧x'.b=x.b∧x'.T=x.T∧x'.wr=x.wr∧(x'=x∨lk (i+j)=false∧x'.cs=.x)
 | [],i,j,x',h=>by cases h
 | ⟨b,c,T,w⟩ :: H,i,0,x',h=>by
  simp only [dM_] at h
  refine ⟨_,rfl,?_⟩
  split at h
  ·cases h;exact ⟨rfl,rfl,rfl,.inl rfl⟩
  ·rename_i hh
   cases h
   simp only [Bool.or_eq_false_iff] at hh
   exact ⟨rfl,rfl,rfl,.inr ⟨hh.2,rfl⟩⟩
 | ⟨b,c,T,w⟩ :: H,i,j+1,x',h=>by
  simp only [dM_] at h
  have h:nthH (dM_ keep nE lk (i+1) H) j=some x':=by split at h <;> exact h
  obtain ⟨x,h1,h2⟩:=it_ keep nE lk H (i+1) j x' h
  rw [show i+1+j=i+(j+1) by omega] at h2
  exact ⟨x,h1,h2⟩
theorem is_ (keep:List Nat) (nE:Nat) (lk:Nat→Bool):∀(H:List Bk) (i:Nat),(dM_ keep nE lk i H).length=H.length
 | [],i=>rfl
 | ⟨b,c,T,w⟩ :: H,i=>by simp [dM_,is_ keep nE lk H]
theorem Rel.less {σ:Sy} {w:World} (r:Rel S w0 σ w) {H':List Bk} (hl:H'.length=σ.H.length)
  (h:∀j x',nthH H' j=some x'→∃x,nthH σ.H j=some x∧x'.b=x.b∧x'.T=x.T∧x'.wr=x.wr∧(x'=x∨x'.cs=.x)):Rel S w0 ⟨σ.env,H',σ.M,σ.wp,σ.dy⟩ w∧bsH H'=bsH σ.H:=by
 have hb:bsH H'=bsH σ.H:=by
  apply List.ext_getElem?
  intro j
  rw [dT_,dT_]
  cases hx:nthH H' j with
  | none=>
   have:nthH σ.H j=none:=by
    rw [di_] at hx ⊢
    rw [List.getElem?_eq_none_iff] at hx ⊢;omega
   rw [this]
  | some x'=>
   obtain ⟨x,h1,h2,_⟩:=h j x' hx
   rw [h1];simp [h2]
 refine ⟨⟨⟨r.fr.chg,r.fr.stp,λi x' A hx hA=>?_,λi j x y hx hy h1 h2 e=>?_,λi x' hx hw=>?_⟩,by show wfE (bsH H') _;rw [hb];exact r.env,λi x' cs hx e=>?_,r.dy⟩,hb⟩
 ·obtain ⟨x,h1,h2,h3,h4,h5 | h5⟩:=h i x' hx
  ·subst h5;exact r.fr.loc i _ A h1 hA
  ·rw [h5] at hA;cases hA
 ·obtain ⟨x2,a1,a2,_,_,a5⟩:=h i x hx
  obtain ⟨y2,b1,b2,_,_,b5⟩:=h j y hy
  refine r.fr.dist i j x2 y2 a1 b1 ?_ ?_ (by rw [← a2,← b2];exact e)
  ·rcases a5 with rfl | a5
   ·exact h1
   ·rw [a5] at h1;cases h1
  ·rcases b5 with rfl | b5
   ·exact h2
   ·rw [b5] at h2;cases h2
 ·obtain ⟨x,h1,h2,_,h4,_⟩:=h i x' hx
  rw [h2];exact r.fr.new i x h1 (h4 ▸ hw)
 ·show wfCs (bsH H') cs
  rw [hb]
  obtain ⟨x,h1,h2,_,h4,h5 | h5⟩:=h i x' hx
  ·subst h5;exact r.H i _ cs h1 e
  ·rw [h5] at e;cases e
theorem a7_ {keep:Option (List Nat)} {lk:Nat→Bool} {σ:Sy} {K:Sy→Prop} {w:World} (h:forget keep nE lk σ K) (r:Rel S w0 σ w) :
  ∃σ',K σ'∧Rel S w0 σ' w∧AgrH lk σ.H σ'.H∧σ'.env=σ.env:=by
 unfold forget at h
 split at h
 ·exact ⟨σ,h,r,.refl _ _,rfl⟩
 ·rw [ix_] at h
  have hl:=is_ (fG_ σ.H (fG_ σ.H (fG_ σ.H (lf_ σ.env ‹_›)))) nE lk σ.H 0
  have hg:=it_ (fG_ σ.H (fG_ σ.H (fG_ σ.H (lf_ σ.env ‹_›)))) nE lk σ.H 0
  refine ⟨_,h,(r.less hl λj x' hx=>?_).1,λi x hx=>?_,rfl⟩
  ·obtain ⟨x,h1,h2,h3,h4,h5⟩:=hg j x' hx
   exact ⟨x,h1,h2,h3,h4,h5.imp id (·.2)⟩
  ·have hi:=kb_ hx
   rw [← hl] at hi
   have:∃x',nthH (dM_ (fG_ σ.H (fG_ σ.H (fG_ σ.H (lf_ σ.env ‹_›)))) nE lk 0 σ.H) i=some x':=by
    rw [di_];exact ⟨_,List.getElem?_eq_getElem hi⟩
   obtain ⟨x',hx'⟩:=this
   obtain ⟨x2,h1,h2,h3,h4,h5⟩:=hg i x' hx'
   rw [hx] at h1;cases h1
   refine ⟨x',hx',h2,h3,h4,λhlk=>?_⟩
   rcases h5 with h5 | h5
   ·exact h5
   ·rw [Nat.zero_add] at h5;rw [hlk] at h5;cases h5.1
theorem nd_ {m:List Nat} : ∀ {l:List (Nat × Sk)},lvOk m l=true→∀x,x∈l→x.1∈m
 | [],_,x,hx=>by cases hx
 | (i,k) :: l,h,x,hx=>by
  simp only [lvOk,Bool.and_eq_true] at h
  rcases List.mem_cons.1 hx with rfl | hx
  ·simpa using h.1
  ·exact nd_ h.2 x hx
theorem pG_ {lk:Nat→Bool} {H:List Bk} : ∀ {g:List (Nat × Sk)},gsOk H lk g=true→∀x,x∈g→lk x.1=false
 | [],_,x,hx=>by cases hx
 | (i,k) :: l,h,x,hx=>by
  simp only [gsOk,Bool.and_eq_true,Bool.not_eq_true'] at h
  rcases List.mem_cons.1 hx with rfl | hx
  ·exact h.1.1
  ·exact pG_ h.2 x hx
theorem jt_ {H:List Bk} : ∀ {g:List (Nat × Sk)},bo_ H g=true→∀x,x∈g→∃y A,nthH H x.1=some y∧y.cs.arr=some A∧blkV H x.1=.agg A
 | [],_,x,hx=>by cases hx
 | (i,k) :: l,h,x,hx=>by
  simp only [bo_,Bool.and_eq_true] at h
  rcases List.mem_cons.1 hx with rfl | hx
  ·have h1:=h.1
   split at h1
   ·rename_i hy;exact ⟨_,_,hy,rfl,by simp only [blkV,hy];rfl⟩
   ·rename_i hy;exact ⟨_,_,hy,rfl,by simp only [blkV,hy];rfl⟩
   ·cases h1
  ·exact jt_ h.2 x hx
theorem rw_ (k:Sk) (A:Array Value):(csOf k (.agg A)).arr=some A:=by
 cases k with
 | a ks=>simp [csOf,Cs.arr,pZ_]
 | c k=>rfl
theorem sC_ (k:Sk) (v:Value) (bs:List Nat):∀cs,csOf k v=.l cs→wfCs bs cs:=by
 intro cs h
 cases k with
 | a ks=>
  cases v <;> simp only [csOf] at h <;> first | cases h;exact jP_ _ _ | cases h
 | c k=>cases h
theorem la_:∀(g:List (Nat × Sk)) (vs:List Value) (H:List Bk),(ci_ H g vs).length=H.length
 | [],vs,H=>rfl
 | (i,k) :: g,vs,H=>by simp [ci_,la_ g,qT_]
theorem m5_:∀(g:List (Nat × Sk)) (vs:List Value) (H:List Bk),bsH (ci_ H g vs)=bsH H
 | [],vs,H=>rfl
 | (i,k) :: g,vs,H=>by simp [ci_,m5_ g,ft_]
theorem m4_ (bs:List Nat):∀(g:List (Nat × Sk)) (vs:List Value) (H:List Bk),wfH bs H→wfH bs (ci_ H g vs)
 | [],vs,H,h=>h
 | (i,k) :: g,vs,H,h=>m4_ bs g vs.tail _ (jN_ h (sC_ _ _ _))
theorem lb_ (H1:List Bk):∀(g:List (Nat × Sk)) (H:List Bk),bo_ H1 g=true→∀i x',nthH (ci_ H g (g.map λx=>blkV H1 x.1)) i=some x'→
  ∃x,nthH H i=some x∧x'.b=x.b∧x'.T=x.T∧x'.wr=x.wr∧((i∉g.map (·.1)∧x'.cs=x.cs)∨i∈g.map (·.1)∧∃A y,nthH H1 i=some y∧y.cs.arr=some A∧x'.cs.arr=some A)
 | [],H,_,i,x',h=>⟨x',h,rfl,rfl,rfl,.inl ⟨by simp,rfl⟩⟩
 | (i0,k) :: g,H,hl,i,x',h=>by
  simp only [ci_,List.map_cons,List.headD_cons,List.tail_cons] at h
  obtain ⟨y0,A0,hy0,hA0,hv0⟩:=jt_ hl (i0,k) List.mem_cons_self
  have hl':bo_ H1 g=true:=by simp only [bo_,Bool.and_eq_true] at hl;exact hl.2
  obtain ⟨x,h1,h2,h3,h4,h5⟩:=lb_ H1 g _ hl' i x' h
  rw [eC_] at h1
  split at h1
  ·rename_i e;subst e
   cases hx:nthH H i0 with
   | none=>rw [hx] at h1;cases h1
   | some x0=>
    rw [hx] at h1;cases h1
    refine ⟨x0,rfl,h2,h3,h4,.inr ⟨List.mem_cons_self,?_⟩⟩
    rcases h5 with ⟨_,h5⟩ | ⟨_,h5⟩
    ·refine ⟨A0,y0,hy0,hA0,?_⟩
     rw [h5]
     have hv0:blkV H1 i0=.agg A0:=hv0
     show (csOf k (blkV H1 i0)).arr=_
     rw [hv0,rw_]
    ·exact h5
  ·rename_i e
   refine ⟨x,h1,h2,h3,h4,?_⟩
   rcases h5 with ⟨h5,h6⟩ | h5
   ·exact .inl ⟨by simp only [List.map_cons,List.mem_cons,not_or];exact ⟨λh=>e h.symm,h5⟩,h6⟩
   ·exact .inr ⟨List.mem_cons_of_mem _ h5.1,h5.2⟩
theorem qO_ (k:Sk) (v:Value):(svOf k v).den=v:=by
 unfold svOf;split
 ·exact ki_ v
 ·rfl
theorem r9_ (k:Sk) (v:Value) (bs:List Nat):wfS bs (svOf k v):=by
 unfold svOf;split
 ·exact jM_ bs v
 ·exact trivial
theorem gU_:∀(l:List (Nat × Sk)) (vs:List Value) (e:List SV),denE (bl_ e l vs)=dX_ (denE e) (l.map (·.1)) vs
 | [],vs,e=>rfl
 | (i,k) :: l,vs,e=>by simp only [bl_,dX_,List.map_cons,gU_ l,kD_,qO_]
theorem iE_ (D:Nat→Value):∀(m:List Nat) (e:List SV),denE (cm_ e m D)=reset (denE e) m D
 | [],e=>rfl
 | i :: m,e=>by simp only [cm_,reset,iE_ D m,kD_];rfl
theorem hv_ {bs:List Nat} : ∀(l:List (Nat × Sk)) (vs:List Value) (e:List SV),wfE bs e→wfE bs (bl_ e l vs)
 | [],vs,e,h=>h
 | (i,k) :: l,vs,e,h=>hv_ l _ _ (lU_ h i (r9_ _ _ _))
theorem jb_ {bs:List Nat} (D:Nat→Value):∀(m:List Nat) (e:List SV),wfE bs e→wfE bs (cm_ e m D)
 | [],e,h=>h
 | i :: m,e,h=>jb_ D m _ (lU_ h i (s:=.c (.v (D i))) trivial)
theorem AgrS.bl_ {m:List Nat} : ∀(l:List (Nat × Sk)) (vs:List Value) (e:List SV),(∀x,x∈l→x.1∈m)→AgrS m e (bl_ e l vs)
 | [],vs,e,h=>.refl _ _
 | (i,k) :: l,vs,e,h=>(AgrS.put m e (some i) _ (by rintro j hj;cases hj;exact h _ List.mem_cons_self)).trans (AgrS.bl_ l _ _ λx hx=>h x (List.mem_cons_of_mem _ hx))
theorem AgrS.cm_ (D:Nat→Value):∀(m':List Nat) (e:List SV) {m:List Nat},(∀i,i∈m'→i∈m)→AgrS m e (cm_ e m' D)
 | [],e,m,h=>.refl _ _
 | i :: m',e,m,h=>(AgrS.put m e (some i) _ (by rintro j hj;cases hj;exact h _ List.mem_cons_self)).trans (AgrS.cm_ D m' _ λx hx=>h x (List.mem_cons_of_mem _ hx))
theorem AgrS.den {m:List Nat} {e e':List SV} (h:AgrS m e e'):Agr m (denE e) (denE e'):=
 ⟨by rw [fY_,fY_,h.1],λi hi=>by rw [← dR_,← dR_,h.2 i hi]⟩
theorem dz_ {m:List Nat} {lk:Nat→Bool} {live gs:List (Nat × Sk)} {σ0 σ1:Sy} {w w1:World} (r0:Rel S w0 σ0 w) (hg:gsOk σ0.H lk gs=true) (hlv:lvOk m live=true)
  (hb:Beh m (lock σ0.H gs lk) S w0 σ0 σ1 w1) (hl:bo_ σ1.H gs=true) :
  let σh:Sy:=⟨bl_ (cm_ σ0.env m λi=>(nthS σ1.env i).den) live (cN_ σ1 live gs),ci_ σ0.H gs (d1_ live (cN_ σ1 live gs)),[],w1,false⟩
  Rel S w0 σh w1∧denE σh.env=denE σ1.env∧AgrS m σ0.env σh.env∧AgrH (lock σ0.H gs lk) σ0.H σh.H:=by
 intro σh
 have hdrop:d1_ live (cN_ σ1 live gs)=gs.map λx=>blkV σ1.H x.1:=by simp [d1_,cN_]
 have hH:σh.H=ci_ σ0.H gs (gs.map λx=>blkV σ1.H x.1):=by show ci_ σ0.H gs (d1_ live (cN_ σ1 live gs))=_;rw [hdrop]
 have hbs:bsH σh.H=bsH σ0.H:=m5_ _ _ _
 have get:=lb_ σ1.H gs σ0.H hl
 rw [← hH] at get
 have same:∀i x',nthH σh.H i=some x'→∃y,nthH σ1.H i=some y∧x'.b=y.b∧x'.T=y.T∧x'.wr=y.wr∧x'.cs.arr=y.cs.arr:=by
  intro i x' hx'
  obtain ⟨x,h1,h2,h3,h4,h5⟩:=get i x' hx'
  obtain ⟨y,k1,k2,k3,k4,k5⟩:=hb.H i x h1
  refine ⟨y,k1,h2.trans k2.symm,h3.trans k3.symm,h4.trans k4.symm,?_⟩
  rcases h5 with ⟨h5,h6⟩ | ⟨_,A,z,h5,h6,h7⟩
  ·have:lock σ0.H gs lk i=true:=by
    have hi:=kb_ h1
    have hi':Nat.blt i σ0.H.length=true:=Nat.ble_eq_true_of_le hi
    simp only [lock,fj_,hi']
    simp at h5 ⊢
    exact .inr h5
   rw [k5 this,h6]
  ·rw [k1] at h5;cases h5;rw [h6,h7]
 have hlen:σh.H.length=σ0.H.length:=by rw [hH];exact la_ _ _ _
 refine ⟨⟨⟨hb.rel.fr.chg,.refl _ _,λi x' A hx hA=>?_,λi j x y hx hy h1 h2 e=>?_,λi x' hx hw=>?_⟩,?_,?_,λ_=>rfl⟩,?_,?_,λi x hx=>?_⟩
 ·obtain ⟨y,k1,k2,k3,k4,k5⟩:=same i x' hx
  rw [k2,k3];exact hb.rel.fr.loc i y A k1 (k5 ▸ hA)
 ·obtain ⟨x2,a1,a2,_,_,a5⟩:=same i x hx
  obtain ⟨y2,b1,b2,_,_,b5⟩:=same j y hy
  exact hb.rel.fr.dist i j x2 y2 a1 b1 (a5 ▸ h1) (b5 ▸ h2) (by rw [← a2,← b2];exact e)
 ·obtain ⟨y,k1,k2,k3,k4,k5⟩:=same i x' hx
  rw [k2];exact hb.rel.fr.new i y k1 (k4 ▸ hw)
 ·show wfE (bsH σh.H) _;rw [hbs];exact hv_ _ _ _ (jb_ _ _ _ r0.env)
 ·show wfH (bsH σh.H) _;rw [hbs];exact m4_ _ _ _ _ r0.H
 ·show denE (bl_ _ _ _)=_
  rw [gU_,iE_]
  have hf:=hb.env.den.form (live.map (·.1))
  conv=>rhs;rw [hf]
  have e1:(λi=>(nthS σ1.env i).den)=nth (denE σ1.env):=by funext i;exact dR_ _ _
  rw [e1]
  have tk:∀(l:List (Nat × Sk)) (e:List Value) (r:List Value),dX_ e (l.map (·.1)) (l.map (λx=>(nthS σ1.env x.1).den)++r)=dX_ e (l.map (·.1)) ((l.map (·.1)).map (nth (denE σ1.env))):=by
   intro l
   induction l with
   | nil=>intro e r;rfl
   | cons x l ih=>
    intro e r
    simp only [List.map_cons,List.cons_append,dX_,List.headD_cons,List.tail_cons]
    rw [dR_,ih]
  exact tk live _ _
 ·exact (AgrS.cm_ _ m _ λ_ h=>h).trans (AgrS.bl_ _ _ _ (nd_ hlv))
 ·have hi:=kb_ hx
  rw [← hlen] at hi
  obtain ⟨x',hx'⟩:∃x',nthH σh.H i=some x':=by rw [di_];exact ⟨_,List.getElem?_eq_getElem hi⟩
  obtain ⟨x2,h1,h2,h3,h4,h5⟩:=get i x' hx'
  rw [hx] at h1;cases h1
  refine ⟨x',hx',h2,h3,h4,λhlk=>?_⟩
  have hni:i∉gs.map (·.1):=by
   intro hm
   simp only [lock,Bool.or_eq_true,Bool.and_eq_true,Bool.not_eq_true',List.contains_eq_mem,decide_eq_false_iff_not] at hlk
   rcases hlk with hlk | hlk
   ·obtain ⟨g,hg1,hg2⟩:=List.mem_map.1 hm
    have:=pG_ hg g hg1
    rw [hg2,hlk] at this;cases this
   ·exact hlk.2 hm
  rcases h5 with ⟨_,h6⟩ | ⟨h6,_⟩
  ·cases x';cases x;simp_all
  ·exact absurd h6 hni
end
end Go.Vc
namespace Go.Vc
open Go
section
variable {P:Program} {okf:Ctx} {S:Nat→Prop} {w0:World} {nE:Nat}
def dW_ (S:Nat→Prop) (w0:World) (m:List Nat) (lk:Nat→Bool) (σ0:Sy) (K:Exit→Sy→Prop) (e:Exit) (a:Act) (w:World):Prop:=
 (∀c,e≠.panic c)∧e≠.outgrown∧∃σ,a=act (denE σ.env)∧Beh m lk S w0 σ0 σ w∧K e σ
theorem ne_ {H:List Bk} {drop:List Nat} {i:Nat} (h:ic_ H drop i=true):i<H.length:=by
 simp only [ic_,Bool.and_eq_true,fj_] at h
 exact Nat.le_of_ble_eq_true h.1
theorem Rel.drew {σ:Sy} {w:World} (r:Rel S w0 σ w):Rel S w0 ⟨σ.env,σ.H,σ.M,σ.wp,true⟩ w.drew:=⟨r.fr.more (Chg.drew w),r.env,r.H,λh=>by cases h⟩
theorem hB_ (hok:∀n,okf.fns.contains n=true→okFn P n=true) (c:Code):∀ {an:An} {lk:Nat→Bool} {σ:Sy} {K:Exit→Sy→Prop} {w:World},vc3 P okf S w0 nE c an lk σ K→Rel S w0 σ w→
  c.wp P (dW_ S w0 (writes c) lk σ K) (act (denE σ.env)) w:=by
 have tr:∀ {m:List Nat} {lk:Nat→Bool} {σ σ1:Sy} {w1:World} {K:Exit→Sy→Prop} {e:Exit} {a:Act} {w:World},Beh m lk S w0 σ σ1 w1→dW_ S w0 m lk σ1 K e a w→dW_ S w0 m lk σ K e a w:=by
  rintro m lk σ σ1 w1 K e a w hb ⟨h1,h2,σ2,rfl,hb2,hK⟩
  exact ⟨h1,h2,σ2,rfl,hb.trans hb2,hK⟩
 induction c with
 | skip=>intro an lk σ K w h r;exact wp_skip ⟨by simp,by simp,σ,rfl,⟨r,.refl _ _,.refl _ _⟩,h⟩
 | label l=>intro an lk σ K w h r;exact wp_label ⟨by simp,by simp,σ,rfl,⟨r,.refl _ _,.refl _ _⟩,h⟩
 | exit id=>intro an lk σ K w h r;exact wp_exit ⟨by simp,by simp,σ,rfl,⟨r,.refl _ _,.refl _ _⟩,h⟩
 | ret=>intro an lk σ K w h r;exact wp_ret ⟨by simp,by simp,σ,rfl,⟨r,.refl _ _,.refl _ _⟩,h⟩
 | region id ops d=>
  intro an lk σ K w h r
  simp only [vc3] at h
  obtain ⟨σf,h,rf,hHf,hef⟩:=a7_ h r
  have hbf:Beh (dsts ops) lk S w0 σ σf w:=⟨rf,hef ▸ .refl _ _,hHf⟩
  rw [← hef]
  refine wp_mono (Q:=dW_ S w0 (dsts ops) lk σf K) ?_ (λe a w h=>tr hbf h)
  cases d with
  | false=>exact wp_region (nN_ hok (σ0:=σf) (λσ' w' hb hK=>⟨by simp,by simp,σ',rfl,hb,hK⟩) ⟨rf,.refl _ _,.refl _ _⟩ h)
  | true=>
   simp only at h
   split at h
   ·rename_i hd
    simp only [rY_,Bool.and_eq_true] at hd
    have lk2:∀i,lk i=true→(lk i || ic_ σf.H (dc_ σf.env an.ra.drop) i)=true:=λi h=>by simp [h]
    have lk3:∀i,ic_ σf.H (dc_ σf.env an.ra.drop) i=true→(lk i || ic_ σf.H (dc_ σf.env an.ra.drop) i)=true:=λi h=>by simp [h]
    split at h
    ·refine wp_region_any hd.1 (gM_ (S:=SReg σf.H (ic_ σf.H (dc_ σf.env an.ra.drop)) λ_=>True) _ _ _ _ ?_)
     exact jG_ hok (σ0:=⟨σf.env,σf.H,σf.M,σf.wp,true⟩) (σ:=⟨σf.env,σf.H,σf.M,σf.wp,true⟩) hd.2 (λc a w d v h=>absurd rfl (h.1 c)) lk3 (λi hi=>ne_ hi) (λ_ _=>trivial)
      (λσ' w' hb hK=>⟨by simp,by simp,σ',rfl,⟨hb.rel,hb.env,hb.H.mono lk2⟩,hK⟩) (c8_.init _ _) ⟨rf.drew,.refl _ _,.refl _ _⟩ trivial h
    ·refine wp_region_any hd.1 (gM_ (S:=λ_=>True) _ _ _ _ ?_)
     refine nM_ hok (σ0:=⟨σf.env,σf.H,σf.M,σf.wp,true⟩) (σ:=⟨σf.env,σf.H,σf.M,σf.wp,true⟩) hd.2 (λc a w d v h=>absurd rfl (h.1 c)) (λn listed σp wp hclp hbp h=>?_) (c8_.init _ _) ⟨rf.drew,.refl _ _,.refl _ _⟩ h
     obtain ⟨σ1,⟨Su,hSu,h⟩,r1,he,hH⟩:=a0_ h hbp.rel
     have he:σ1.env=σp.env:=he
     have hH:σ1.H=σp.H:=hH
     rw [← he]
     refine lG_ (S1:=SReg σ1.H (ic_ σ1.H (dc_ σ1.env an.ra.drop)) Su) (λ_ _=>trivial) _ _ _ _ ?_
     exact jG_ hok (σ0:=σ1) hd.2 (λc a w d v h=>absurd rfl (h.1 c)) (λi h=>by simp [h]) (λi hi=>ne_ hi) (λh=>by cases h)
      (λσ' w' hb hK=>⟨by simp,by simp,σ',rfl,⟨hb.rel,hbp.env.trans (he ▸ hb.env),hbp.H.trans (hH ▸ hb.H.mono λi h=>by simp [h])⟩,hK⟩) hclp ⟨r1,.refl _ _,.refl _ _⟩ hSu h
   ·exact h.elim
 | seq a b iha ihb=>
  intro an lk σ K w h r
  simp only [vc3] at h
  have upa:∀i,i∈writes a→i∈writes (a.seq b):=λi hi=>by simp [writes,hi]
  have upb:∀i,i∈writes b→i∈writes (a.seq b):=λi hi=>by simp [writes,hi]
  split at h
  ·refine wp_seq (wp_mono (iha h r) ?_)
   rintro e a' w' ⟨h1,h2,σ',rfl,hb,hK⟩
   have hb':=hb.mono upa λ_ h=>h
   cases e with
   | normal=>
    refine wp_mono (ihb hK hb.rel) ?_
    rintro e a'' w'' ⟨h1,h2,σ'',rfl,hb2,hK'⟩
    exact ⟨h1,h2,σ'',rfl,hb'.trans (hb2.mono upb λ_ h=>h),hK'⟩
   | exit id=>exact ⟨h1,h2,σ',rfl,hb',hK⟩
   | goto l=>exact ⟨h1,h2,σ',rfl,hb',hK⟩
   | ret=>exact ⟨h1,h2,σ',rfl,hb',hK⟩
   | panic c=>exact absurd rfl (h1 c)
   | outgrown=>exact absurd rfl h2
  ·rename_i live gl _
   rw [pM_] at h
   generalize gsOf P σ.env σ.H gl []=gs at h
   split at h
   ·rename_i hgl
    simp only [Bool.and_eq_true] at hgl
    obtain ⟨J,h,hJ⟩:=h
    have lkm:∀i,lk i=true→lock σ.H gs lk i=true:=λi h=>by simp [lock,h]
    refine wp_seq (wp_mono (iha h r) ?_)
    rintro e a' w' ⟨h1,h2,σ',rfl,hb,hK⟩
    have hb':=hb.mono upa lkm
    cases e with
    | normal=>
     simp only [d7_] at hK
     split at hK
     ·rename_i hlv
      obtain ⟨σ1,hK,r1,he,hH⟩:=a0_ hK hb.rel
      have hb1:Beh (writes a) (lock σ.H gs lk) S w0 σ σ1 w':=⟨r1,he ▸ hb.env,hH ▸ hb.H⟩
      obtain ⟨p,hp,hl⟩:=fv_ (by simp [aT_,cN_]) hK
      obtain ⟨rh,hden,hea,hHa⟩:=dz_ r hgl.1 hgl.2 hb1 (hH ▸ hlv)
      have hbb:=hl _ hJ (λi=>(nthS σ1.env i).den) w' hp rh.fr.fr
      rw [pN_,ix_] at hbb
      have e1:denE σ1.env=denE σ'.env:=by rw [he]
      rw [← e1,← hden]
      refine wp_mono (ihb hbb rh) ?_
      rintro e a'' w'' ⟨h1,h2,σ'',rfl,hb2,hK'⟩
      exact ⟨h1,h2,σ'',rfl,⟨hb2.rel,(hea.mono upa).trans (hb2.env.mono upb),(hHa.mono lkm).trans hb2.H⟩,hK'⟩
     ·exact hK.elim
    | exit id=>exact ⟨h1,h2,σ',rfl,hb',hK⟩
    | goto l=>exact ⟨h1,h2,σ',rfl,hb',hK⟩
    | ret=>exact ⟨h1,h2,σ',rfl,hb',hK⟩
    | panic c=>exact absurd rfl (h1 c)
    | outgrown=>exact absurd rfl h2
   ·exact h.elim
 | cond c a b iha ihb=>
  intro an lk σ K w h r
  simp only [vc3] at h
  have ta:vc3 P okf S w0 nE a an.fst lk σ K→ev (denE σ.env) c=.bool true→(Code.cond c a b).wp P (dW_ S w0 (writes (.cond c a b)) lk σ K) (act (denE σ.env)) w:=λh he=>by
   refine wp_cond_true (by rw [i1_];exact he) (wp_mono (iha h r) ?_)
   rintro e a' w' ⟨h1,h2,σ',rfl,hb,hK⟩
   exact ⟨h1,h2,σ',rfl,hb.mono (λi hi=>by simp [writes,hi]) λ_ h=>h,hK⟩
  have tb:vc3 P okf S w0 nE b an.snd lk σ K→ev (denE σ.env) c=.bool false→(Code.cond c a b).wp P (dW_ S w0 (writes (.cond c a b)) lk σ K) (act (denE σ.env)) w:=λh he=>by
   refine wp_cond_false (by rw [i1_];exact he) (wp_mono (ihb h r) ?_)
   rintro e a' w' ⟨h1,h2,σ',rfl,hb,hK⟩
   exact ⟨h1,h2,σ',rfl,hb.mono (λi hi=>by simp [writes,hi]) λ_ h=>h,hK⟩
  split at h
  ·rename_i he;exact ta h (by rw [← aB_,he];rfl)
  ·rename_i he;exact tb h (by rw [← aB_,he];rfl)
  ·rename_i he;exact ta h (by rw [← aB_,he];rfl)
  ·rename_i he;exact tb h (by rw [← aB_,he];rfl)
  ·exact h.elim
 | block id a iha=>
  intro an lk σ K w h r
  refine wp_block (wp_mono (iha h r) ?_)
  rintro e a' w' ⟨h1,h2,σ',rfl,hb,hK⟩
  cases e with
  | normal=>exact ⟨h1,h2,σ',rfl,hb,hK⟩
  | exit i=>
   simp only [rA_] at hK
   simp only [Exit.inBlock]
   split at hK <;> rename_i hi
   ·rw [if_pos hi];exact ⟨by simp,by simp,σ',rfl,hb,hK⟩
   ·rw [if_neg hi];exact ⟨h1,h2,σ',rfl,hb,hK⟩
  | goto l=>exact ⟨h1,h2,σ',rfl,hb,hK⟩
  | ret=>exact ⟨h1,h2,σ',rfl,hb,hK⟩
  | panic c=>exact absurd rfl (h1 c)
  | outgrown=>exact absurd rfl h2
 | scope a iha=>
  intro an lk σ K w h r
  refine wp_scope_straight (wp_mono (iha h r) ?_)
  rintro e a' w' ⟨h1,h2,σ',rfl,hb,hK⟩
  cases e with
  | normal=>exact ⟨h1,h2,σ',rfl,hb,hK⟩
  | exit i=>exact ⟨h1,h2,σ',rfl,hb,hK⟩
  | goto l=>exact hK.elim
  | ret=>exact ⟨h1,h2,σ',rfl,hb,hK⟩
  | panic c=>exact absurd rfl (h1 c)
  | outgrown=>exact absurd rfl h2
 | loop a iha=>
  intro an lk σ1 K w h r1
  simp only [vc3] at h
  obtain ⟨σ2,h,r2,hH2,he2⟩:=a7_ h r1
  obtain ⟨σ3,h,r3,he3,hH3⟩:=a0_ h r2
  obtain ⟨σ,h,r,hH4,he4⟩:=a7_ h r3
  have hef:σ.env=σ1.env:=he4.trans (he3.trans he2)
  have hHf:AgrH lk σ1.H σ.H:=hH2.trans (hH3 ▸ hH4)
  rw [← hef]
  refine wp_mono (Q:=dW_ S w0 (writes a) lk σ K) ?_ (λe a w h=>tr (σ1:=σ) ⟨r,hef ▸ .refl _ _,hHf⟩ h)
  clear hHf hef r1 he2 he3 he4 hH2 hH3 hH4 r2 r3
  rw [pM_] at h
  generalize gsOf P σ.env σ.H an.live.2 []=gs at h
  split at h
  ·rename_i hgl
   simp only [Bool.and_eq_true] at hgl
   obtain ⟨I,⟨m,h0⟩,hI⟩:=h
   obtain ⟨σ0,rfl⟩:∃σ0,σ0=σ:=⟨_,rfl⟩
   have r0:=r
   have he0:σ0.env=σ0.env:=rfl
   have hH0:σ0.H=σ0.H:=rfl
   have hg0:gsOk σ0.H lk gs=true:=hgl.1
   have lkm:∀i,lk i=true→lock σ0.H gs lk i=true:=λi h=>by simp [lock,h]
   have hb0:Beh (writes a) lk S w0 σ0 σ0 w:=⟨r0,.refl _ _,.refl _ _⟩
   have lv0:bo_ σ0.H gs=true:=by
    have:∀g:List (Nat × Sk),gsOk σ0.H lk g=true→bo_ σ0.H g=true:=by
     intro g
     induction g with
     | nil=>intro _;rfl
     | cons x g ih=>
      obtain ⟨i,k⟩:=x
      intro h
      simp only [gsOk,Bool.and_eq_true] at h
      simp only [bo_,Bool.and_eq_true]
      refine ⟨?_,ih h.2⟩
      have h1:=h.1.2
      split at h1
      ·rename_i hx;rw [hx]
      ·rename_i hx;rw [hx]
      ·cases h1
    exact this _ hg0
   refine mT_ (λn a' w'=>∃σ1 p,a'=act (denE σ1.env)∧Beh (writes a) (lock σ0.H gs lk) S w0 σ0 σ1 w'∧bo_ σ1.H gs=true∧p n w'∧
    ∀L:List Value→(Nat→World→Prop)→Prop,allT (aT_ an.live.1 gs) I L→L (cN_ σ1 an.live.1 gs) p) ?_ (n:=m) ?_
   ·rintro n a' w' ⟨σ1,p,rfl,hb1,hlv,hp,hl⟩
    obtain ⟨rh,hden,hea,hHa⟩:=dz_ r0 hg0 hgl.2 hb1 hlv
    have hbb:=hl _ hI (λi=>(nthS σ1.env i).den) n w' hp rh.fr.fr
    rw [pN_,ix_] at hbb
    have:=iha hbb rh
    rw [hden] at this
    refine wp_mono this ?_
    rintro e a'' w'' ⟨h1,h2,σ2,rfl,hb2,hK⟩
    have hb2':Beh (writes a) (lock σ0.H gs lk) S w0 σ0 σ2 w'':=⟨hb2.rel,hea.trans hb2.env,hHa.trans hb2.H⟩
    have out:Beh (writes a) lk S w0 σ0 σ2 w'':=hb0.trans (hb2'.mono (λ_ h=>h) lkm)
    cases e with
    | normal=>
     simp only [d7_] at hK
     split at hK
     ·rename_i hlv2
      obtain ⟨σ3,⟨m',hm',hK⟩,r3,he3,hH3⟩:=a0_ hK hb2.rel
      obtain ⟨p',hp',hl'⟩:=fv_ (by simp [aT_,cN_]) hK
      exact ⟨m',hm',σ3,p',by rw [he3],⟨r3,he3 ▸ hb2'.env,hH3 ▸ hb2'.H⟩,hH3 ▸ hlv2,hp',hl'⟩
     ·exact hK.elim
    | exit id=>exact ⟨h1,h2,σ2,rfl,out,hK⟩
    | goto l=>exact ⟨h1,h2,σ2,rfl,out,hK⟩
    | ret=>exact ⟨h1,h2,σ2,rfl,out,hK⟩
    | panic c=>exact absurd rfl (h1 c)
    | outgrown=>exact absurd rfl h2
   ·obtain ⟨p,hp,hl⟩:=fv_ (by simp [aT_,cN_]) h0
    exact ⟨σ0,p,rfl,⟨r0,.refl _ _,.refl _ _⟩,lv0,hp,hl⟩
  ·exact h.elim
 | rangeFunc=>intro an lk σ K w h;exact h.elim
 | goto=>intro an lk σ K w h;exact h.elim
 | refuse=>intro an lk σ K w h;exact h.elim
theorem gg_ {σ:Sy} {w:World} (r:Rel S w0 σ w):∀ {rs:List ResultVar} {K:List Value→Prop},resK P σ.H σ.env rs K→
  ∃vs,K vs∧(rs.mapM (fun | .tmp t=>pure (nth (denE σ.env) t) | .cell a t=>do loadVar t (← asAddr (nth (denE σ.env) a))):Sem (List Value)).run P w=.ok vs w:=by
 intro rs
 induction rs with
 | nil=>intro K h;exact ⟨[],h,rfl⟩
 | cons x rs ih=>
  intro K h
  have fin:∀v,resK P σ.H σ.env rs (λvs=>K (v :: vs))→(((fun | .tmp t=>pure (nth (denE σ.env) t) | .cell a t=>do loadVar t (← asAddr (nth (denE σ.env) a))):ResultVar→Sem Value) x).run P w=.ok v w→
    ∃vs,K vs∧((x :: rs).mapM (fun | .tmp t=>pure (nth (denE σ.env) t) | .cell a t=>do loadVar t (← asAddr (nth (denE σ.env) a))):Sem (List Value)).run P w=.ok vs w:=by
   intro v h hr
   obtain ⟨vs,hK,hvs⟩:=ih h
   refine ⟨v :: vs,hK,?_⟩
   rw [List.mapM_cons,Sem.run_bind,hr]
   simp only [Result.andThen_ok,Sem.run_bind]
   rw [hvs];rfl
  cases x with
  | tmp t=>
   simp only [resK] at h
   rw [dR_] at h
   exact fin _ h rfl
  | cell a t=>
   simp only [resK] at h
   split at h
   ·rename_i i b lit o ha
    have ea:nth (denE σ.env) a=.pointer (some ⟨b,o,none⟩):=by rw [← dR_,ha];rfl
    have hwf:=ow_ r.env a;rw [ha] at hwf
    have hwf:(bsH σ.H)[i]? = some b:=hwf
    rw [dT_] at hwf
    have go:∀s:SV,∀x A,nthH σ.H i=some x→x.cs.arr=some A→(∀(w:World) T,w.heap[b]? = some (.cells A T (0,0))→(loadVar t ⟨b,o,none⟩).run P w=.ok s.den w)→
      resK P σ.H σ.env rs (λvs=>K (s.den :: vs))→_:=λs x A hx hA hr hK=>fin s.den hK (by
     rw [hx] at hwf
     have hb:x.b=b:=by simpa using hwf
     have:=hr w x.T (hb ▸ r.fr.loc i x A hx hA)
     simp [ea,asAddr,this])
    split at h
    ·rename_i b' cs T wr hx
     have hcs:=r.H i _ cs hx rfl
     split at h
     ·obtain ⟨s,hK,_,hr,_⟩:=kl_ h (bsH σ.H) hcs
      exact go s _ _ hx rfl (λw T hT=>hr b w T hT) hK
     ·obtain ⟨s,hK,_,hr⟩:=kk_ h (bsH σ.H)
      exact go s _ _ hx rfl (λw T hT=>hr b w T hT) hK
    ·rename_i b' A T wr hx
     obtain ⟨s,hK,_,hr⟩:=kk_ h (bsH σ.H)
     exact go s _ _ hx rfl (λw T hT=>hr b w T hT) hK
    ·exact h.elim
   ·exact h.elim
theorem e4_ {fn:Func} {env:List Value} {w:World} {vs:List Value}
  (h:(fn.results.toList.mapM (fun | .tmp t=>pure (nth env t) | .cell a t=>do loadVar t (← asAddr (nth env a))):Sem (List Value)).run P w=.ok vs w) :
  (results fn env.toArray).run P w=.ok (oneV vs) w:=by
 have h2:(Array.toList <$> (fn.results.mapM (fun | .tmp t=>pure (nth env t) | .cell a t=>do loadVar t (← asAddr (nth env a))):Sem (Array Value))).run P w=.ok vs w:=by
  rw [Array.toList_mapM];exact h
 rw [Sem.run_map] at h2
 have h3:(fn.results.mapM (fun | .tmp t=>pure (nth env t) | .cell a t=>do loadVar t (← asAddr (nth env a))):Sem (Array Value)).run P w=.ok ⟨vs⟩ w:=by
  cases hx:(fn.results.mapM (fun | .tmp t=>pure (nth env t) | .cell a t=>do loadVar t (← asAddr (nth env a))):Sem (Array Value)).run P w with
  | halt x w'=>rw [hx] at h2;simp at h2
  | ok a w'=>
   rw [hx] at h2
   simp only [Result.andThen_ok,Result.ok.injEq] at h2
   obtain ⟨h3,rfl⟩:=h2
   congr 1
   apply Array.toList_inj.1
   simpa using h3
 have e:(results fn env.toArray)=(do
   let vs ← fn.results.mapM (fun | .tmp t=>pure (nth env t) | .cell a t=>do loadVar t (← asAddr (nth env a)))
   pure (if h:vs.size=1 then vs[0] else .tuple vs):Sem Value):=by
  unfold results
  congr 2
  funext x
  cases x <;> simp [rS_]
 rw [e,Sem.run_bind,h3]
 simp only [Result.andThen_ok,Sem.run_pure]
 congr 1
 cases vs with
 | nil=>rfl
 | cons v vs=>cases vs <;> rfl
def qB_ (bs:List Nat):List Cel→Prop
 | []=>True
 | x :: l=>wfC bs x∧qB_ bs l
def wfE'.wfS' (bs:List Nat):SV→Prop
 | .c x=>wfC bs x
 | .a l=>qB_ bs l
def wfE' (bs:List Nat):List SV→Prop
 | []=>True
 | x :: l=>wfE'.wfS' bs x∧wfE' bs l
def wfH' (bs:List Nat):List Bk→Prop
 | []=>True
 | ⟨_,.l cs,_,_⟩ :: H=>qB_ bs cs∧wfH' bs H
 | _ :: H=>wfH' bs H
theorem jQ_ {bs:List Nat} : ∀ {l:List Cel},qB_ bs l→wfCs bs l
 | [],_,x,hx=>by cases hx
 | y :: l,h,x,hx=>by
  rcases List.mem_cons.1 hx with rfl | hx
  ·exact h.1
  ·exact jQ_ h.2 x hx
theorem jO_ {bs:List Nat} : ∀ {l:List SV},wfE' bs l→wfE bs l
 | [],_,x,hx=>by cases hx
 | y :: l,h,x,hx=>by
  rcases List.mem_cons.1 hx with rfl | hx
  ·cases x with
   | c x=>exact h.1
   | a l=>exact jQ_ h.1
  ·exact jO_ h.2 x hx
theorem hu_ {bs:List Nat} : ∀ {H:List Bk},wfH' bs H→wfH bs H
 | [],_,i,x,cs,hx,e=>by cases hx
 | ⟨b,c,T,w⟩ :: H,h,0,x,cs,hx,e=>by
  cases hx
  have e:c=.l cs:=e
  subst e
  exact jQ_ h.1
 | ⟨b,c,T,w⟩ :: H,h,i+1,x,cs,hx,e=>by
  cases c with
  | l c=>exact hu_ (H:=H) h.2 i x cs hx e
  | _=>exact hu_ (H:=H) h i x cs hx e
theorem kz_:∀ {H:List Bk},((LH H).map (·.b)).Nodup→∀i j x y,nthH H i=some x→nthH H j=some y→x.cs.arr.isSome=true→y.cs.arr.isSome=true→x.b=y.b→i=j
 | [],_,i,j,x,y,hx,_,_,_,_=>by cases hx
 | ⟨b,c,T,w⟩ :: H,h,i,j,x,y,hx,hy,h1,h2,e=>by
  have tl:((LH H).map (·.b)).Nodup:=by
   unfold LH at h;split at h
   ·rw [List.map_cons,List.nodup_cons] at h;exact h.2
   ·exact h
  have mem:∀j y,nthH H j=some y→y.cs.arr.isSome=true→c.arr.isSome=true→y.b=b→False:=by
   intro j y hy h2 h1 e
   cases hA:y.cs.arr with
   | none=>rw [hA] at h2;cases h2
   | some A=>
    cases hc:c.arr with
    | none=>rw [hc] at h1;cases h1
    | some B=>
     unfold LH at h;rw [hc] at h
     simp only [List.map_cons,List.nodup_cons] at h
     exact h.1 (List.mem_map.2 ⟨_,fS_.2 ⟨j,y,A,hy,hA,rfl⟩,e⟩)
  cases i with
  | zero=>
   cases hx
   cases j with
   | zero=>rfl
   | succ j=>exact (mem j y hy h2 h1 e.symm).elim
  | succ i=>
   cases j with
   | zero=>cases hy;exact (mem i x hx h1 h2 e).elim
   | succ j=>rw [kz_ tl i j x y hx hy h1 h2 e]
def nR_ (S:Nat→Prop):List Bk→Prop
 | []=>True
 | ⟨b,_,_,true⟩ :: H=>S b∧nR_ S H
 | ⟨_,_,_,false⟩ :: H=>nR_ S H
theorem fQ_ {S:Nat→Prop} : ∀ {H:List Bk},nR_ S H→∀x,x∈H→x.wr=true→S x.b
 | [],_,x,hx,_=>by cases hx
 | ⟨b,c,T,true⟩ :: H,h,x,hx,hw=>by
  rcases List.mem_cons.1 hx with rfl | hx
  ·exact h.1
  ·exact fQ_ h.2 x hx hw
 | ⟨b,c,T,false⟩ :: H,h,x,hx,hw=>by
  rcases List.mem_cons.1 hx with rfl | hx
  ·cases hw
  ·exact fQ_ (H:=H) h x hx hw
theorem ab_ (hok:∀n,okf.fns.contains n=true→okFn P n=true) {f:FuncId} {fn:Func} {args:List SV} {H:List Bk} {w:World} {K:Value→World→Prop} (an:An)
  (hf:P.funcs[f]? = some fn) (hb:fn.body.isSome=true) (hwe:wfE' (bsH H) args) (hwh:wfH' (bsH H) H) (hF:Fs S w (LH H) w) (hnew:nR_ S H)
  (h:vc3 P okf S w (lenH H) (body fn) an (λ_=>false) ⟨args++List.replicate (fn.ntmps - args.length) (.c (.v undef)),H,[],w,false⟩ (s8_ P S w (lenH H) fn K)):aa_ P f ⟨denE args⟩ w K:=by
 cases hc:fn.body with
 | none=>simp [hc] at hb
 | some c=>
  have hbody:body fn=c:=by simp [body,hc]
  rw [hbody] at h
  have r:Rel S w ⟨args++List.replicate (fn.ntmps - args.length) (.c (.v undef)),H,[],w,false⟩ w:=by
   refine ⟨⟨hF.chg,.refl _ _,λi x A hx hA=>hF.loc ⟨x.b,A,x.T,x.wr⟩ (fS_.2 ⟨i,x,A,hx,hA,rfl⟩),kz_ hF.nodup,λi x hx hw=>.inl (fQ_ hnew x (by rw [di_] at hx;exact List.mem_of_getElem? hx) hw)⟩,?_,hu_ hwh,λ_=>rfl⟩
   intro s hs
   rcases List.mem_append.1 hs with hs | hs
   ·exact jO_ hwe s hs
   ·rw [List.mem_replicate] at hs;rw [hs.2];exact trivial
  refine calls_of_wp hf hc ?_
  have happ:∀(a b:List SV),denE (a++b)=denE a++denE b:=by
   intro a b
   induction a with
   | nil=>rfl
   | cons x a ih=>simp [cQ_,ih]
  have hrep:∀n,denE (List.replicate n (.c (.v undef)))=List.replicate n undef:=by
   intro n
   induction n with
   | zero=>rfl
   | succ n ih=>simp only [List.replicate_succ,cQ_,ih];rfl
  have henv:({ tmps:=(⟨denE args⟩:Array Value)++Array.replicate (fn.ntmps - (⟨denE args⟩:Array Value).size) undef,defers:=[] } : Act)=act (denE (args++List.replicate (fn.ntmps - args.length) (.c (.v undef)))):=by
   rw [happ,hrep]
   simp [act,fY_]
  rw [henv]
  refine wp_mono (hB_ hok c h r) ?_
  rintro e a' w' ⟨h1,h2,σ',rfl,hb',hK⟩
  have fin:(resK P σ'.H σ'.env fn.results.toList λvs=>forget (some []) (lenH H) (λ_=>false) σ' λσ=>vis S w σ λw _=>K (oneV vs) w)→
    (act (denE σ'.env)).defers=[]∧∃v,(results fn (act (denE σ'.env)).tmps).run P w'=.ok v w'∧∃v',Ending.returned v=Ending.returned v'∧K v' w':=λh=>by
   obtain ⟨vs,hK,hr⟩:=gg_ hb'.rel h
   obtain ⟨σ2,hK,r2,_,_⟩:=a7_ hK hb'.rel
   obtain ⟨σ3,hK,_⟩:=a0_ hK r2
   exact ⟨rfl,oneV vs,e4_ hr,_,rfl,hK⟩
  cases e with
  | normal=>exact fin hK
  | ret=>exact fin hK
  | exit i=>exact hK.elim
  | goto l=>exact hK.elim
  | panic c=>exact absurd rfl (h1 c)
  | outgrown=>exact absurd rfl h2
end
end Go.Vc
namespace Go.Vc
open Go
def okL:List Nat:=[2,3,4,5,6,7,8,9,10,11,12,13,14,15,16,17,18,19,20,21,22,23,24,25,26,27,28,29,30,31,32,33,34,35,36,37,38,39,40,41,42,43,44,45,46,47,48,49,50,51,52,53,54,55,56,57,58,59,60,61,62,63,64,65,66,67,68,69,70,71,72,73,74,75,76,77,78,79,80,81,82,83,84,85,86,87,88,89,90,91,92,93,95,99,100,101,102,103,104,105,106,107,108,109,110,111,112,113,114,115,116,117,118,119,120,121,122,123,124,125,126,127,128,129,130,131,132,133,134,135,136,137,138,139,140,141,142,143,146,147,148,149,150,151,152,153,154,155,156,157,158,159,160,161,162,163,164,165,166,167,168,169,170,171,172,173,174,175,176,177,178,179,180,181,182,183,184,185,186,187,188,189,190,191,192,193,194,195,196,197,198,199,200,201,202,203,204,205,206,207,208,209,210,211,212,213,214,215,216,218,219,220,221,222,223,224,225,226,227,228,229,231,232,233,234,235,236,237,238,239,240,241,267,285]
theorem sj_:okL.all (okFn Go.Proofs.Tryz.prog)=true:=by kernel_rfl
theorem ag_:∀n,okL.contains n=true→okFn Go.Proofs.Tryz.prog n=true:=λn h=>
 List.all_eq_true.1 sj_ n (by simpa using h)
noncomputable abbrev PR:Program:=Go.Proofs.Tryz.prog
abbrev SP:=Nat→Prop
abbrev KP:=Value→World→Prop
abbrev Iv (n:Int):Value:=.int .i64 n
abbrev Uv (n:Int):Value:=.int .u32 n
end Go.Vc
