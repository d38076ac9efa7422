/-
  A part of the proof of the statement HeadAgainCardSaid, in Lean: Ed2, Ed3, Fra1, Ed4, Ed5, MirP6, Dk1, Jr1, Jr2, Mf1, Mf2. By an AI agent.
-/
import Derived.Test.YtoopcoeonbkedaaGreatDoorP08
import Derived.Test.YtoopcoeonbkedaaGreatDoorP04
import Derived.Test.YtoopcoeonbkedaaGreatDoorP07
import Derived.Test.YtoopcoeonbkedaaGreatDoorP03
import Derived.Test.YtoopcoeonbkedaaGreatDoorP02
import Derived.Test.YtoopcoeonbkedaaGreatDoorP06
set_option linter.unusedSimpArgs false
set_option linter.unusedVariables false
set_option maxRecDepth 100000
namespace Go.Vc
open Go
theorem nV_ {l:List (Int × Int)} {k:Nat} (h:k<l.length):(encE l)[k*2]? = some (iv l[k].1)∧(encE l)[k*2+1]? = some (iv l[k].2):=by
 induction l generalizing k with
 | nil=>simp at h
 | cons x l ih=>
  have hc:encE (x :: l)=[iv x.1,iv x.2]++encE l:=rfl
  cases k with
  | zero=>exact ⟨rfl,rfl⟩
  | succ k=>
   have:=ih (k:=k) (by simpa using h)
   rw [hc]
   refine ⟨?_,?_⟩
   ·rw [List.getElem?_append_right (by simp;omega),show (k+1)*2 - [iv x.1,iv x.2].length=k*2 by simp;omega];exact this.1
   ·rw [List.getElem?_append_right (by simp;omega),show (k+1)*2+1 - [iv x.1,iv x.2].length=k*2+1 by simp;omega];exact this.2
theorem Sl.rd2 {w:World} {q:Option Addr} {l:List (Int × Int)} (h:Sl w q (encE l)) {n:Int} {k m:Nat} {K:Addr→Prop} (hn:n=k) (hk:k<l.length) (hm:k<m)
  (hK:∀a,w.cell? (Addr.add a 0)=some (.int .i64 l[k].1)→w.cell? (Addr.add a 1)=some (.int .i64 l[k].2)→K a):Dr q (λa=>0≤n∧n<((m:Nat):Int)∧Dr (some (Addr.add a (n.toNat*2))) K):=by
 subst hn
 have hel:=aL_ l
 obtain ⟨b,o,rfl,hc⟩:=h.ex (by intro e;rw [e] at hel;simp at hel;omega)
 obtain ⟨e1,e2⟩:=nV_ hk
 refine ad_.2 ⟨by omega,by omega,ad_.2 ?_⟩
 rw [an_,Int.toNat_natCast]
 refine hK _ ?_ ?_
 ·rw [an_,Nat.add_zero,hc _ (by omega),e1];rfl
 ·rw [an_,Nat.add_assoc,hc _ (by omega),e2];rfl
theorem r8_ {l:List (Int × Int)} {k:Nat} (h:k<l.length) (x:Int × Int):encE (l.set k x)=((encE l).set (k*2) (iv x.1)).set (k*2+1) (iv x.2):=by
 induction l generalizing k with
 | nil=>simp at h
 | cons y l ih=>
  cases k with
  | zero=>rfl
  | succ k=>
   have:=ih (k:=k) (by simpa using h)
   have hc:∀(y:Int × Int) l,encE (y :: l)=iv y.1 :: iv y.2 :: encE l:=λ_ _=>rfl
   rw [List.set_cons_succ,hc,hc,this,show (k+1)*2=k*2+1+1 by omega]
   rfl
theorem Own.st {e:TypeId} {k:Nat} {w:World} {b o c:Nat} {xs:List Value} (h:Own e k w (some ⟨b,o,none⟩) c xs) {i:Nat} (hi:i<xs.length) {v:Value} (hv:oneC v=true) {K:World→Prop}
  (hK:∀w',Own e k w' (some ⟨b,o,none⟩) c (xs.set i v)→Chg (aS_ (some ⟨b,o,none⟩)) w w'→w'.heap.size=w.heap.size→K w'):StC w ⟨b,o+i,none⟩ v K:=by
 rcases h with ⟨h,_,_⟩ | ⟨b',o',cs,h,hb,h1,h2,h3,h4⟩
 ·cases h
 ·cases h
  refine stC hb (by omega) hv λw' hb' hs g=>hK w' (.inr ⟨b,o,_,rfl,hb',by simpa using h1,h2,by simpa using h3,λj hj=>?_⟩) (g.mono λk _ h=>⟨_,rfl,h⟩) hs
  simp only [List.length_set] at hj
  by_cases e:j=i
  ·subst e
   have:o+j<cs.size:=by omega
   simp [this,hi]
  ·rw [Array.getElem?_setIfInBounds_ne (by omega),h4 j hj,List.getElem?_set_ne (by omega)]
theorem Own.st2 {e:TypeId} {w:World} {b o c:Nat} {l:List (Int × Int)} (h:Own e 2 w (some ⟨b,o,none⟩) c (encE l)) {k:Nat} (hk:k<l.length) (x y:Int) {K:World→Prop}
  (hK:∀w',Own e 2 w' (some ⟨b,o,none⟩) c (encE (l.set k (x,y)))→Chg (aS_ (some ⟨b,o,none⟩)) w w'→K w') :
  StC w (Addr.add ⟨b,o+k*2,none⟩ 0) (.int .i64 x) λw1=>StC w1 (Addr.add ⟨b,o+k*2,none⟩ 1) (.int .i64 y) K:=by
 have hel:=aL_ l
 rw [an_,an_]
 refine h.st (i:=k*2) (by omega) rfl λw1 h1 g1 _=>?_
 refine h1.st (i:=k*2+1) (by simp;omega) rfl λw2 h2 g2 _=>hK w2 ?_ (g1.trans g2 λ_ _ h=>h)
 rw [r8_ hk];exact h2
def cmpN (l:List (Int × Int)):Nat→List (Int × Int)
 | 0=>[]
 | j+1=>if 0<j∧l.getD j (0,0)=l.getD (j - 1) (0,0) then cmpN l j else cmpN l j++[l.getD j (0,0)]
theorem n0_ (l:List (Int × Int)):∀j,(cmpN l j).length≤j
 | 0=>by simp [cmpN]
 | j+1=>by
  have:=n0_ l j
  unfold cmpN;split
  ·omega
  ·simp;exact this
theorem oD_ {w:World} {b o c:Nat} {l:List (Int × Int)} {k n cc:Nat} (ho:Own T.av_ 2 w (some ⟨b,o,none⟩) c (encE l)) (hk:k≤l.length) (hn:n=l.length - k) {K:Value→World→Prop}
  (hK:∀w',Own T.av_ 2 w' (some ⟨b,o,none⟩) c (encE (l.take k))→Chg (aS_ (some ⟨b,o,none⟩)) w w'→K (.tuple #[]) w') :
  rn PR (Builtin.clear_ #[T.bA_] 0 #[.slice (some ⟨b,o+k*2,none⟩) n cc]) K w:=by
 have hshort:∀ {w':World} {xs:List Value},Own T.av_ 2 w' (some ⟨b,o,none⟩) c xs→(∀j,j<k*2→xs[j]? = (encE l)[j]?)→k*2≤xs.length→Own T.av_ 2 w' (some ⟨b,o,none⟩) c (encE (l.take k)):=by
  intro w' xs h hx hle
  have e1:encE (l.take k)=(encE l).take (k*2):=by
   have:encE l=encE (l.take k)++encE (l.drop k):=by simp only [encE];rw [← List.flatMap_append,List.take_append_drop]
   rw [this,List.take_left']
   rw [aL_,List.length_take,Nat.min_eq_left hk]
  rcases h with ⟨h,_,_⟩ | ⟨b',o',cs,h,hb,h1,h2,h3,h4⟩
  ·cases h
  ·cases h
   have hel:=aL_ l
   refine .inr ⟨b,o,cs,rfl,hb,h1,h2,?_,λj hj=>?_⟩
   ·rw [aL_,List.length_take,Nat.min_eq_left hk];omega
   ·rw [aL_,List.length_take,Nat.min_eq_left hk] at hj
    rw [h4 j (by omega),hx j hj,e1,List.getElem?_take_of_lt hj]
 by_cases h0:n=0
 ·subst h0
  have hkl:k=l.length:=by omega
  refine ⟨.tuple #[],w,?_,hK w (hshort ho (λ_ _=>rfl) (by rw [aL_];omega)) (.refl _ _)⟩
  simp [Builtin.clear_,run_underlying mw_]
 ·obtain ⟨i,hi,hk2,hb2,hz⟩:=j2_
  have hz2:(Value.agg #[.int .i64 0,.int .i64 0]).cells=#[.int .i64 0,.int .i64 0]:=rfl
  refine cO_ ?_
  unfold Builtin.clear_
  simp only [List.getElem?_toArray,List.getElem?_cons_zero,aG_,ar_ mw_]
  obtain ⟨n',rfl⟩:∃n',n=n'+1:=⟨n - 1,by omega⟩
  simp only [bH_ hi hz,a1_]
  rcases ho with ⟨h,_,_⟩ | ⟨b',o',cs,h,hb,h1,h2,h3,h4⟩
  ·cases h
  ·cases h
   have hel:=aL_ l
   have hzl:(Builtin.zeroCells (Value.agg #[.int .i64 0,.int .i64 0]).cells (n'+1)).toList.length=(n'+1)*2:=by simp [Builtin.zeroCells,hz2]
   refine bR_ (o:=o+k*2) _ 0 cs w hb (by rw [hzl];omega) (λy hy=>?_) λw' cs' hb' hs' hout hin hsz g=>?_
   ·simp only [Builtin.zeroCells,hz2,Array.toList_map,List.mem_map] at hy
    obtain ⟨t,_,rfl⟩:=hy
    have:t%2=0∨t%2=1:=by omega
    rcases this with e | e <;> simp [e,oneC]
   ·have hO:Own T.av_ 2 w' (some ⟨b,o,none⟩) c ((encE l).take (k*2)):=.inr ⟨b,o,cs',rfl,hb',by omega,h2,by rw [List.length_take];omega,λj hj=>by
     rw [List.length_take] at hj
     rw [hout (o+j) (by omega),h4 j (by omega),List.getElem?_take_of_lt (by omega)]⟩
    exact hK w' (hshort hO (λj hj=>by rw [List.getElem?_take_of_lt hj]) (by rw [List.length_take];omega)) (g.mono λk _ h=>⟨_,rfl,h⟩)
end Go.Vc
namespace Go.Vc
open Go
theorem getD_eq {l:List (Int × Int)} {k:Nat} (h:k<l.length):l.getD k (0,0)=l[k]:=by simp [h]
theorem iA_ {l:List (Int × Int)} {k:Nat} (hk:k≤l.length) (h:∀j,0<j→j<k→l.getD j (0,0)≠l.getD (j - 1) (0,0)):cmpN l k=l.take k:=by
 induction k with
 | zero=>simp [cmpN]
 | succ k ih=>
  unfold cmpN
  rw [if_neg (λhh=>h k hh.1 (by omega) hh.2),ih (by omega) (λj h1 h2=>h j h1 (by omega)),aV_ (by omega),getD_eq (by omega)]
theorem mq_ {l:List (Int × Int)} {q:Option Addr} {n c:Nat} {w:World} (ho:Own T.av_ 2 w q c (encE l)) (hl:n=l.length) (hnc:n≤c) (hn:n≤1000000) {K:Value→World→Prop}
  (hK:∀w',Own T.av_ 2 w' q c (encE (cmpN l l.length))→Chg (aS_ q) w w'→K (.slice q (cmpN l l.length).length c) w') :
  aa_ PR F.bx_ ⟨[.slice q n c]⟩ w K:=by
 subst hl
 refine bY_ q l.length c (aS_ q) K w ⟨λh=>?_,λhge=>?_⟩
 ·have e:cmpN l l.length=l:=by
   rw [iA_ (Nat.le_refl _) (λj h1 h2=>by omega),List.take_length]
  rw [e] at hK
  exact hK w ho (.refl _ _)
 ·rcases ho with ⟨_,_,h⟩ | hoo
  ·have:=aL_ l;rw [h] at this;simp at this;omega
  obtain ⟨b,o,cs,rfl,hb⟩:=hoo
  have ho:Own T.av_ 2 w (some ⟨b,o,none⟩) c (encE l):=.inr ⟨b,o,cs,rfl,hb⟩
  clear hb
  have hq:∀m,(if c=m then some (⟨b,o,none⟩:Addr) else Option.map (λa=>Addr.add a (m*2)) (some ⟨b,o,none⟩))=if c=m then some ⟨b,o,none⟩ else some ⟨b,o+m*2,none⟩:=by
   intro m;split
   ·rfl
   ·simp [an_]
  refine ⟨λi m w'=>∃k:Nat,i=k∧1≤k∧k≤l.length∧m=l.length - k∧(∀j,0<j→j<k→l.getD j (0,0)≠l.getD (j - 1) (0,0))∧Own T.av_ 2 w' (some ⟨b,o,none⟩) c (encE l),⟨_,1,rfl,by omega,by omega,rfl,(λj h1 h2=>by omega),ho⟩,?_⟩
  rintro i D m w0 ⟨k,rfl,hk1,hk,rfl,hd,ho0⟩ hF0
  refine ⟨λhlt w1 h1=>?_,λhge=>?_⟩
  ·have hk':k<l.length:=by omega
   have g1:Grow w0 w1:=h1.grow
   have ho1:=ho0.grow g1
   have em:IntKind.wrap .i64 ((k:Int) - 1)=((k - 1:Nat):Int):=wrP (by omega) (by omega)
   rw [em]
   refine ⟨(· = w1),rfl,?_⟩
   refine ho1.sl.rd2 rfl hk' hk' λa ha1 ha2=>⟨l[k].1,λw2 e=>e ▸ ha1,l[k].2,λw2 e=>e ▸ ha2,?_⟩
   refine ho1.sl.rd2 (k:=k - 1) rfl (by omega) (by omega) λa ha1 ha2=>⟨l[k - 1].1,λw2 e=>e ▸ ha1,l[k - 1].2,λw2 e=>e ▸ ha2,?_⟩
   refine ⟨λheq=>⟨by omega,by omega,?_⟩,λhne=>⟨_,?_,k+1,wr1 (by omega),by omega,by omega,rfl,?_,ho1⟩⟩
   ·have hdup:l.getD k (0,0)=l.getD (k - 1) (0,0):=by
     rw [getD_eq hk',getD_eq (by omega)];exact Prod.ext heq.1 heq.2.1
    have hc0:cmpN l (k+1)=l.take k:=by
     unfold cmpN;rw [if_pos ⟨by omega,hdup⟩,iA_ hk hd]
    rw [Int.toNat_natCast]
    simp only [hq]
    refine ⟨λx y m w'=>∃(j:Nat) (A:List (Int × Int)),y=j∧1≤j∧k+j≤l.length∧m=l.length - j∧x=((cmpN l (k+j)).length:Nat)∧(cmpN l (k+j)).length+1≤k+j∧A.length=l.length∧A.take (cmpN l (k+j)).length=cmpN l (k+j)∧
     (∀t,(cmpN l (k+j)).length≤t→t<l.length→A.getD t (0,0)=l.getD t (0,0))∧Own T.av_ 2 w' (some ⟨b,o,none⟩) c (encE A),⟨_,1,l,rfl,by omega,by omega,rfl,?_,?_,rfl,?_,(λt _ _=>rfl),ho1⟩,?_⟩
    ·rw [hc0,List.length_take,Nat.min_eq_left hk]
    ·rw [hc0,List.length_take,Nat.min_eq_left hk];exact Nat.le_refl _
    ·rw [hc0,List.length_take,Nat.min_eq_left hk]
    rintro x y D m w6 ⟨j,A,rfl,hj1,hj,rfl,rfl,hcl,hA,hAt,hAr,ho6⟩ hF6
    have hsubc:((l.length - k:Nat):Int)=(l.length:Int) - k:=by omega
    refine ⟨λhlt w7 h7=>?_,λhge=>?_⟩
    ·have hj':k+j<l.length:=by omega
     have ho7:=ho6.grow h7.grow
     have hck:¬c=k:=by omega
     rw [if_neg hck]
     have em:IntKind.wrap .i64 ((j:Int) - 1)=((j - 1:Nat):Int):=wrP (by omega) (by omega)
     rw [em]
     have rdT:∀ {K:Addr→Prop} (t:Nat),k+t<l.length→(∀a,w7.cell? (Addr.add a 0)=some (.int .i64 (A.getD (k+t) (0,0)).1)→w7.cell? (Addr.add a 1)=some (.int .i64 (A.getD (k+t) (0,0)).2)→K a)→
       Dr (some (⟨b,o+k*2,none⟩:Addr)) (λa=>0≤(t:Int)∧(t:Int)<((l.length - k:Nat):Int)∧Dr (some (Addr.add a ((t:Int).toNat*2))) K):=by
      intro K t ht hK
      have hel:=aL_ A
      obtain ⟨e1,e2⟩:=nV_ (l:=A) (k:=k+t) (by omega)
      obtain ⟨b',o',hbo,hc⟩:=ho7.sl.ex (by intro e;rw [e] at hel;simp at hel;omega)
      cases hbo
      refine ad_.2 ⟨by omega,by omega,ad_.2 ?_⟩
      rw [an_,Int.toNat_natCast,show o+k*2+t*2=o+(k+t)*2 by omega]
      refine hK _ ?_ ?_
      ·rw [an_,Nat.add_zero,hc _ (by omega),e1,getD_eq (by omega)];rfl
      ·rw [an_,Nat.add_assoc,hc _ (by omega),e2,getD_eq (by omega)];rfl
     have v1:A.getD (k+j) (0,0)=l.getD (k+j) (0,0):=hAr _ (by omega) hj'
     have v2:A.getD (k+(j - 1)) (0,0)=l.getD (k+j - 1) (0,0):=by
      rw [hAr _ (by omega) (by omega)];congr 1;omega
     refine ⟨(· = w7),rfl,?_⟩
     refine rdT j hj' λa ha1 ha2=>⟨_,λw2 e=>e ▸ ha1,_,λw2 e=>e ▸ ha2,?_⟩
     refine rdT (j - 1) (by omega) λa ha1 ha2=>⟨_,λw2 e=>e ▸ ha1,_,λw2 e=>e ▸ ha2,?_⟩
     rw [v1,v2]
     refine ⟨λheq=>?_,λhne=>?_⟩
     ·have hdup2:l.getD (k+j) (0,0)=l.getD (k+j - 1) (0,0):=Prod.ext heq.1 heq.2.1
      have hc1:cmpN l (k+(j+1))=cmpN l (k+j):=by
       rw [← Nat.add_assoc];conv=>lhs;unfold cmpN
       rw [if_pos ⟨by omega,hdup2⟩]
      refine ⟨l.length - (j+1),by omega,j+1,A,wr1 (by omega),by omega,by omega,rfl,?_,?_,hA,?_,?_,ho7⟩
      ·rw [hc1]
      ·rw [hc1];omega
      ·rw [hc1];exact hAt
      ·rw [hc1];exact hAr
     ·have hnd:¬(0<k+j∧l.getD (k+j) (0,0)=l.getD (k+j - 1) (0,0)):=λhh=>hne ⟨congrArg Prod.fst hh.2,congrArg Prod.snd hh.2,trivial⟩
      have hc1:cmpN l (k+(j+1))=cmpN l (k+j)++[l.getD (k+j) (0,0)]:=by
       rw [← Nat.add_assoc];conv=>lhs;unfold cmpN
       rw [if_neg hnd]
      refine rdT j hj' λa ha1 ha2=>⟨_,ha1,_,ha2,?_⟩
      rw [v1]
      generalize hcl':(cmpN l (k+j)).length=p at *
      refine ad_.2 ⟨by omega,by omega,ad_.2 ?_⟩
      rw [an_,Int.toNat_natCast]
      refine ho7.st2 (k:=p) (by omega) _ _ λw13 ho13 g13=>?_
      have hF13:Fs (aS_ (some ⟨b,o,none⟩)) w [] w13:=h7.reset.step g13 (λx hx=>by cases hx) λ_ _ h=>h
      have hc1l:(cmpN l (k+(j+1))).length=p+1:=by rw [hc1,List.length_append,hcl'];rfl
      refine ⟨hF13,l.length - (j+1),by omega,j+1,_,wr1 (by omega),by omega,by omega,rfl,?_,?_,by simpa using hA,?_,?_,ho13⟩
      ·rw [hc1l,wr1 (by omega)]
      ·rw [hc1l];omega
      ·rw [hc1l,aV_ (by simp;omega),List.take_set_of_le (Nat.le_refl _),hAt,hc1]
       simp
      ·intro t ht1 ht2
       rw [hc1l] at ht1
       have:=hAr t (by omega) ht2
       simp only [List.getD_eq_getElem?_getD] at this ⊢
       rw [List.getElem?_set_ne (by omega)];exact this
    ·have e:k+j=l.length:=by omega
     rw [e] at hAt hcl ⊢
     generalize hp:(cmpN l l.length).length=p at *
     refine ⟨by omega,by omega,?_⟩
     rw [Int.toNat_natCast,if_neg (show ¬c=p by omega)]
     refine oD_ ho6 (by omega) (by omega) λw14 ho14 g14=>?_
     have hF14:Fs (aS_ (some ⟨b,o,none⟩)) w [] w14:=hF6.step g14 (λx hx=>by cases hx) λ_ _ h=>h
     refine ⟨rfl,hF14,by omega,by omega,?_⟩
     have hq0:(if c=0 then some (⟨b,o,none⟩:Addr) else some ⟨b,o+0*2,none⟩)=some ⟨b,o,none⟩:=by split <;> simp
     rw [hq0,Nat.sub_zero,Nat.sub_zero]
     rw [hAt] at ho14
     exact hK w14 ho14 hF14.chg
   ·omega
   ·intro j h1 h2
    by_cases e:j=k
    ·subst e
     rw [getD_eq hk',getD_eq (by omega)]
     exact λhh=>hne ⟨congrArg Prod.fst hh,congrArg Prod.snd hh,trivial⟩
    ·exact hd j h1 (by omega)
  ·have e:k=l.length:=by omega
   subst e
   have e2:cmpN l l.length=l:=by rw [iA_ hk hd,List.take_length]
   rw [e2] at hK
   exact hK w0 ho0 hF0.chg
end Go.Vc
namespace Go.Vc
open Go
def e7_ (n x:Int):Prop:=0≤x∧x<256 ^ n.toNat
theorem jK_ {x:Int} (h0:0≤x) (k:Nat):Int.fdiv x (2 ^ (8*k))=((x.toNat / 256 ^ k:Nat):Int):=by
 obtain ⟨m,rfl⟩:=Int.eq_ofNat_of_zero_le h0
 have hp:(2:Int) ^ (8*k)=((256 ^ k:Nat):Int):=by rw [Int.pow_mul];simp
 rw [hp,Int.fdiv_eq_ediv_of_nonneg _ (Int.natCast_nonneg _)]
 simp
theorem Own.set {e:TypeId} {w:World} {q:Option Addr} {c:Nat} {xs:List Value} (h:Own e 1 w q c xs) {i:Nat} (hi:i<xs.length) {v:Value} (hv:oneC v=true) {K:World→Prop}
  (hK:∀w',Own e 1 w' q c (xs.set i v)→Chg (aS_ q) w w'→w'.heap.size=w.heap.size→K w'):Dr q λa=>StC w (a.add i) v K:=by
 rcases h with ⟨_,_,rfl⟩ | ⟨b,o,cs,rfl,hb,h1,h2,h3,h4⟩
 ·simp at hi
 ·rw [ad_,an_]
  refine stC hb (by omega) hv λw' hb' hs g=>hK w' (.inr ⟨b,o,_,rfl,hb',by simpa using h1,h2,by simpa using h3,λj hj=>?_⟩) (g.mono λk _ h=>⟨_,rfl,h⟩) hs
  simp only [List.length_set] at hj
  by_cases e:j=i
  ·subst e
   have:o+j<cs.size:=by omega
   simp [this,hi]
  ·rw [Array.getElem?_setIfInBounds_ne (by omega),h4 j hj,List.getElem?_set_ne (by omega)]
theorem fX_ {n x:Int} {w:World} {K:Value→World→Prop} (hx:x≤9223372036854775807)
  (h1:¬(1≤n∧n≤7)→K (.tuple #[.string (str []),E 1]) w)
  (h2:1≤n→n≤7→¬e7_ n x→K (.tuple #[.string (str []),E 2]) w)
  (h3:1≤n→n≤7→e7_ n x→∀w',Grow w w'→K (.tuple #[.string (str (as_ n.toNat x.toNat)),.nilIface]) w') :
  aa_ PR F.c7_ ⟨[.int .i64 n,.int .i64 x]⟩ w K:=by
 refine c7_ n x S0 K w ⟨λh=>h1 (by omega),λh=>⟨λh'=>h1 (by omega),λh'=>⟨λh0=>h2 (by omega) (by omega) (λhk=>by have:=hk.1;omega),λh0=>?_⟩⟩⟩
 rw [aI_ (n:=8*n) (by omega) (by omega)]
 have hmin:min (Int.toNat (8*n)) 64=8*n.toNat:=by show min (Int.toNat (8*n)) 64=_;omega
 rw [hmin,jK_ (by omega)]
 have hiff:e7_ n x↔x.toNat / 256 ^ n.toNat=0:=by
  unfold e7_
  rw [Nat.div_eq_zero_iff_lt (Nat.pow_pos (by omega))]
  have hp:(256:Int) ^ n.toNat=((256 ^ n.toNat:Nat):Int):=by simp
  rw [hp];omega
 refine ⟨by omega,λhz=>?_,λhz=>h2 (by omega) (by omega) λhk=>hz (by rw [hiff.1 hk];rfl)⟩
 have hok:e7_ n x:=hiff.2 (by omega)
 obtain ⟨i8,hi8,hk8,hb8,hz8⟩:=t_u8
 refine cO_ <| cQ_ (i:=i8) (by_:=1) cz_ hi8 hz8 rfl hk8 hb8 (by omega) (by omega) (by omega) λb w0 hb hs0 g0 ho=>⟨_,_,_,rfl,(Fr.init _ w).after g0,?_⟩
 refine ⟨λi m w'=>0≤i∧i≤n∧m=(n - i).toNat∧Grow w w'∧Own T.uint8 1 w' (some ⟨b,0,none⟩) n.toNat (((as_ n.toNat x.toNat).take i.toNat).map bv++List.replicate (n - i).toNat (.int .u8 0)),
  ⟨_,by omega,by omega,rfl,g0,by simpa using ho⟩,?_⟩
 rintro i D m w1 ⟨hi0,hi1,rfl,g1,ho⟩ hF1
 have hlen:((as_ n.toNat x.toNat).take i.toNat).length=i.toNat:=by rw [List.length_take,aN_];omega
 refine ⟨λhlt=>?_,λhge=>?_⟩
 ·have hi:i<n:=by omega
  rw [aI_ (n:=8*i) (by omega) (by omega)]
  have hmin2:min (Int.toNat (8*i)) 64=8*i.toNat:=by show min (Int.toNat (8*i)) 64=_;omega
  rw [hmin2,jK_ (by omega),wrap_u8,aI_ (n:=i+1) (by omega) (by omega)]
  refine ⟨by omega,?_⟩
  have hset:=ho.set (i:=i.toNat) (v:=.int .u8 (((x.toNat / 256 ^ i.toNat:Nat):Int)%256)) (by rw [List.length_append,List.length_map,hlen,List.length_replicate];omega) rfl (K:=λw2=>Fs S0 w [] w2∧∃k1,k1<(n - i).toNat∧0≤i+1∧i+1≤n∧k1=(n - (i+1)).toNat∧Grow w w2∧
    Own T.uint8 1 w2 (some ⟨b,0,none⟩) n.toNat (((as_ n.toNat x.toNat).take (i+1).toNat).map bv++List.replicate (n - (i+1)).toNat (.int .u8 0))) ?_
  ·rw [ad_] at hset ⊢
   refine ⟨by omega,by omega,?_⟩
   rw [ad_,Nat.mul_one]
   exact hset
  ·intro w2 ho2 g2 hs2
   refine ⟨(Fr.init _ w).after (g1.own g2 (.fresh (by omega))),_,?_,by omega,by omega,rfl,g1.own g2 (.fresh (by omega)),?_⟩
   ·omega
   ·have e:(((as_ n.toNat x.toNat).take i.toNat).map bv++List.replicate (n - i).toNat (Value.int .u8 0)).set i.toNat (.int .u8 (((x.toNat / 256 ^ i.toNat:Nat):Int)%256)) =
        ((as_ n.toNat x.toNat).take (i+1).toNat).map bv++List.replicate (n - (i+1)).toNat (.int .u8 0):=by
     have e1:(i+1).toNat=i.toNat+1:=by omega
     have e2:(n - i).toNat=(n - (i+1)).toNat+1:=by omega
     rw [e1,e2,List.take_add_one,lm_ _ _ _ (by omega),List.replicate_succ,List.set_append_right _ _ (by rw [List.length_map,hlen];exact Nat.le_refl _)]
     simp only [List.length_map,hlen,Nat.sub_self,List.set_cons_zero,Option.toList_some,List.map_append,List.map_cons,List.map_nil,List.append_assoc,List.cons_append,List.nil_append]
     rw [qM_]
     have e3:UInt8.ofNat (x.toNat / 256 ^ i.toNat)=UInt8.ofNat (x.toNat / 256 ^ i.toNat%256):=by
      apply UInt8.toNat_inj.1;simp
     rw [e3]
    rw [e] at ho2;exact ho2
 ·have e:i=n:=by omega
  subst e
  have hfull:(as_ i.toNat x.toNat).take i.toNat=as_ i.toNat x.toNat:=List.take_of_length_le (by rw [aN_];omega)
  rw [hfull] at ho
  refine a8_ (bs:=as_ i.toNat x.toNat) (by have:=ho.sl;simpa using this) (by rw [aN_]) ⟨_,rfl,hF1,h3 (by omega) (by omega) hok _ g1⟩
def qI_ (n:Int):Int:=if IntKind.wrap .u32 (((BitVec.toNat (BitVec.ofInt 32 n &&& BitVec.ofInt 32 1)):Nat):Int)=1 then IntKind.wrap .u32 (((BitVec.toNat (BitVec.ofInt 32 (Int.fdiv n 2) ^^^ BitVec.ofInt 32 2197175160)):Nat):Int) else Int.fdiv n 2
def qH_:Nat→Int→Int
 | 0,x=>x
 | k+1,x=>qI_ (qH_ k x)
def qG_ (x:Int) (b:UInt8):Int:=qH_ 8 (IntKind.wrap .u32 (((BitVec.toNat (BitVec.ofInt 32 x ^^^ BitVec.ofInt 32 (IntKind.wrap .u32 (b.toNat:Int)))):Nat):Int))
def crcL (x:Int) (l:List UInt8):Int:=l.foldl qG_ x
def crcN (l:List UInt8):Nat:=(IntKind.wrap .u32 (((BitVec.toNat (BitVec.ofInt 32 4294967295 ^^^ BitVec.ofInt 32 (crcL 4294967295 l))):Nat):Int)).toNat
theorem m6_ (l:List UInt8):crcN l<256 ^ 4:=by unfold crcN;rw [wrap_u32];omega
theorem sd_ (x:Int) (a b:List UInt8):crcL x (a++b)=crcL (crcL x a) b:=List.foldl_append
theorem pi_ {x:Int} {b:UInt8} {w:World} {K:Value→World→Prop} (hK:∀w',Grow w w'→K (.int .u32 (qG_ x b)) w'):aa_ PR F.gu_ ⟨[.int .u32 x,.int .u8 (b.toNat:Int)]⟩ w K:=by
 refine gu_ x b.toNat S0 K w ⟨λy i m w'=>∃k:Nat,i=k∧k≤8∧m=8 - k∧y=qH_ k (IntKind.wrap .u32 (((BitVec.toNat (BitVec.ofInt 32 x ^^^ BitVec.ofInt 32 (IntKind.wrap .u32 (b.toNat:Int)))):Nat):Int)),⟨_,0,rfl,by omega,rfl,rfl⟩,?_⟩
 rintro y i D m w1 ⟨k,rfl,hk,rfl,rfl⟩ hF
 refine ⟨λhlt=>⟨λh=>⟨_,?_,k+1,wr1 (by omega),by omega,rfl,?_⟩,λh=>⟨_,?_,k+1,wr1 (by omega),by omega,rfl,?_⟩⟩,λhge=>?_⟩
 ·omega
 ·rw [qH_,qI_,if_pos h]
 ·omega
 ·rw [qH_,qI_,if_neg h]
 ·have e:k=8:=by omega
  subst e
  exact hK _ hF.gr
def sv8 (l:List UInt8):Value:=.string (str l)
theorem n7_ {q:Option Addr} {n c:Nat} {xs:List (List UInt8)} {w:World} (hs:Sl w q (xs.map sv8)) (hl:n=xs.length) (hn:xs.length≤1000000) (hb:∀x∈xs,x.length≤1000000000) {K:Value→World→Prop}
  (hK:∀w',Grow w w'→K (.int .i64 (crcN xs.flatten)) w'):aa_ PR F.ij_ ⟨[.slice q n c]⟩ w K:=by
 subst hl
 refine ij_ q xs.length c S0 K w ⟨λy i m w'=>∃k:Nat,i=k∧k≤xs.length∧m=xs.length - k∧y=crcL 4294967295 (xs.take k).flatten,⟨_,0,rfl,by omega,rfl,rfl⟩,?_⟩
 rintro y i D m w1 ⟨k,rfl,hk,rfl,rfl⟩ hF
 refine ⟨λhlt=>?_,λhge=>?_⟩
 ·have hk':k<xs.length:=by omega
  refine (hs.grow hF.gr).rd (v:=sv8 xs[k]) (by simp) (by omega) (by simp [hk']) λa ha=>⟨str xs[k],ha,?_⟩
  have hx:=hb _ (List.getElem_mem hk')
  refine ⟨λy i m w'=>∃j:Nat,i=j∧j≤xs[k].length∧m=xs[k].length - j∧y=crcL 4294967295 ((xs.take k).flatten++xs[k].take j),⟨_,0,rfl,by omega,rfl,by simp⟩,?_⟩
  rintro y i D m w2 ⟨j,rfl,hj,rfl,rfl⟩ hF2
  rw [af_]
  refine ⟨λhlt=>⟨by omega,by omega,?_⟩,λhge=>?_⟩
  ·have hj':j<xs[k].length:=by omega
   have eb:aE_ (str xs[k]) (Int.toNat (j:Int))=xs[k][j].toNat:=by
    rw [qL_ (by rw [be_];simpa using hj')];simp [be_]
   rw [eb]
   refine pi_ λw3 g3=>⟨_,rfl,hF2.after g3,_,?_,j+1,wr1 (by omega),by omega,rfl,?_⟩
   ·omega
   ·rw [aV_ hj',← List.append_assoc,sd_ _ (_++_)];rfl
  ·have e:j=xs[k].length:=by omega
   subst e
   refine ⟨_,?_,k+1,wr1 (by omega),by omega,rfl,?_⟩
   ·omega
   ·rw [aV_ hk',List.flatten_append,List.take_length];simp
 ·have e:k=xs.length:=by omega
  subst e
  rw [List.take_length]
  have:∀n:Int,IntKind.wrap .i64 (IntKind.wrap .u32 n)=IntKind.wrap .u32 n:=λn=>by rw [wrap_u32,aI_ (by omega) (by omega)]
  rw [this]
  have hK:=hK w1 hF.gr
  unfold crcN at hK
  rw [Int.toNat_of_nonneg (by rw [wrap_u32];omega)] at hK
  exact hK
theorem okF2 {n:Nat} (h:n≤60000):e7_ 2 (n:Int):=by
 refine ⟨by omega,?_⟩
 have:(256:Int) ^ Int.toNat 2=65536:=by decide
 omega
theorem okF4 {n:Nat} (h:n<256 ^ 4):e7_ 4 (n:Int):=by
 refine ⟨by omega,?_⟩
 have:(256:Int) ^ Int.toNat 4=4294967296:=by decide
 omega
theorem mb_ {s:List UInt8} (hs:s.length≤60000) {w:World} {K:Value→World→Prop} (hK:∀w',Grow w w'→K (.tuple #[.string (str (bg_ crcN s)),.nilIface]) w'):aa_ PR F.ew_ ⟨[.string (str s)]⟩ w K:=by
 have hlt:=m6_ (as_ 2 s.length++s)
 have l2:=aN_ 2 s.length
 have l4:=aN_ 4 (crcN (as_ 2 s.length++s))
 refine ew_ (str s) S0 K w ⟨λh=>by rw [af_] at h;omega,λ_=>?_⟩
 rw [af_]
 refine fX_ (by omega) (λh=>by omega) (λ_ _ h=>absurd (okF2 hs) h) λ_ _ _ w1 g1=>⟨_,_,rfl,(Fr.init _ w).after g1,?_⟩
 intro b hb w2 h2
 have hsl:Sl w2 (some ⟨b,0,none⟩) ([as_ 2 s.length,s].map sv8):=h2.sl 0 rfl
 refine n7_ hsl rfl (by simp) (λx hx=>by simp at hx;rcases hx with rfl | rfl <;> omega) λw3 g3=>⟨_,rfl,h2.after g3,?_⟩
 have ef:[as_ 2 s.length,s].flatten=as_ 2 s.length++s:=by simp
 rw [ef]
 refine fX_ (by omega) (λh=>by omega) (λ_ _ h=>absurd (okF4 hlt) h) λ_ _ _ w4 g4=>⟨_,_,rfl,(h2.after g3).after g4,?_,?_,?_⟩
 ·simp only [af_];simp only [Int.toNat_natCast];simp [aN_]
 ·simp only [ai_,af_];simp [aN_];omega
 ·simp only [ai_]
  exact hK _ ((h2.after g3).after g4).chg
end Go.Vc
namespace Go.Vc
open Go
def fS_ (nodes:Int) (l:List (Int × Int)):Prop:=0≤nodes∧nodes≤4096∧l.length≤20000∧∀e∈l,0≤e.1∧e.1<nodes∧0≤e.2∧e.2<nodes
def t9_ (v:Value):Prop:=∃t x,v=.iface t x
def isEC (c:Int) (v:Value):Prop:=v=.iface T.am_ (.int .i64 c)∨∃a:Int,v=.iface T.iG_ (.agg #[.int .i64 a,.iface T.am_ (.int .i64 c)])
theorem isEC.err {c:Int} {v:Value} (h:isEC c v):t9_ v:=by
 rcases h with rfl | ⟨a,rfl⟩ <;> exact ⟨_,_,rfl⟩
theorem dI_ {n c:Int} {w:World} {K:Value→World→Prop} (hK:∀x,isEC c x→K x w):aa_ PR F.dJ_ ⟨[.int .i64 n,.iface T.am_ (.int .i64 c)]⟩ w K:=
 dJ_ n _ S0 K w ⟨rfl,hK _ (.inr ⟨n,rfl⟩)⟩
theorem oZ_ {nodes:Int} {l:List (Int × Int)} {q:Option Addr} {n c:Nat} {w:World} (hs:Sl w q (encE l)) (hl:n=l.length) {K:Value→World→Prop}
  (h1:fS_ nodes l→∀w',Grow w w'→K .nilIface w') (h2:¬fS_ nodes l→∀w' v,Grow w w'→isEC 10 v→K v w'):aa_ PR F.fj_ ⟨[.int .i64 nodes,.slice q n c]⟩ w K:=by
 subst hl
 refine fj_ nodes q l.length c S0 K w ⟨λh=>?_,λh0=>⟨λh=>?_,λhm=>⟨λh=>?_,λhlen=>?_⟩⟩⟩
 ·exact dI_ λx hx=>⟨_,rfl,.init _ w,h2 (λhg=>by have:=hg.1;omega) w _ (.refl _ _) hx⟩
 ·exact dI_ λx hx=>⟨_,rfl,.init _ w,h2 (λhg=>by have:=hg.2.1;omega) w _ (.refl _ _) hx⟩
 ·exact dI_ λx hx=>⟨_,rfl,.init _ w,h2 (λhg=>by have:=hg.2.2.1;omega) w _ (.refl _ _) hx⟩
 ·refine ⟨λi m w'=>∃k:Nat,i=k∧k≤l.length∧m=l.length - k∧∀j,(hj:j<l.length)→j<k→0≤l[j].1∧l[j].1<nodes∧0≤l[j].2∧l[j].2<nodes,⟨_,0,rfl,by omega,rfl,λj hj h=>by omega⟩,?_⟩
  rintro i D m w3 ⟨k,rfl,hk,rfl,hd⟩ hF
  refine ⟨λhlt=>?_,λhge=>?_⟩
  ·have hk':k<l.length:=by omega
   refine (hs.grow hF.gr).rd2 rfl hk' hk' λa ha1 ha2=>⟨_,ha1,_,ha2,λb hb=>?_⟩
   have bad:(l[k].1<0∨l[k].2<0∨nodes≤l[k].1∨nodes≤l[k].2)→∀w4,Fr S0 w w3 [b] [] w4→aa_ PR F.dJ_ #[.int .i64 k,.iface T.am_ (.int .i64 10)] w4 (λv6 w5=>∃v7,v6=v7∧Fs S0 w [] w5∧K v7 w5):=λhb w4 h4=>
    dI_ λx hx=>⟨_,rfl,h4.reset,h2 (λhg=>by have:=hg.2.2.2 _ (List.getElem_mem hk');omega) w4 _ h4.chg hx⟩
   refine ⟨λh=>bad ?_,λhmin=>⟨λh=>bad ?_,λhmax w8 h8=>⟨_,?_,k+1,wr1 (by omega),by omega,rfl,λj hj hj2=>?_⟩⟩⟩
   ·split at h <;> omega
   ·split at h <;> omega
   ·omega
   ·by_cases e:j=k
    ·subst e
     split at hmin <;> split at hmax <;> omega
    ·exact hd j hj (by omega)
  ·refine h1 ⟨by omega,by omega,by omega,λe he=>?_⟩ w3 hF.gr
   obtain ⟨j,hj,rfl⟩:=List.getElem_of_mem he
   exact hd j hj (by omega)
def ltE (x y:Int × Int):Prop:=x.1<y.1∨(x.1=y.1∧x.2<y.2)
theorem jO_ {l:List (Int × Int)} (hs:l.Pairwise leE):∀j,j≤l.length→(cmpN l j).Pairwise ltE∧(∀x∈cmpN l j,x∈l)∧(∀x∈cmpN l j,leE x (l.getD (j - 1) (0,0)))∧∀i,i<j→l.getD i (0,0)∈cmpN l j
 | 0,_=>by simp [cmpN]
 | j+1,hj=>by
  obtain ⟨h1,h2,h3,h4⟩:=jO_ hs j (by omega)
  have hjl:j<l.length:=by omega
  have hstep:∀(hj0:0<j),leE (l.getD (j - 1) (0,0)) (l.getD j (0,0)):=λhj0=>by
   have:=List.pairwise_iff_getElem.1 hs (j - 1) j (by omega) hjl (by omega)
   rw [getD_eq (by omega),getD_eq hjl];exact this
  have hmem:l.getD j (0,0)∈l:=by rw [getD_eq hjl];exact List.getElem_mem hjl
  unfold cmpN
  split
  ·rename_i hd
   refine ⟨h1,h2,λx hx=>?_,λi hi=>?_⟩
   ·have:=h3 x hx
    rw [Nat.add_sub_cancel,hd.2];exact this
   ·by_cases e:i=j
    ·subst e;rw [hd.2];exact h4 (i - 1) (by omega)
    ·exact h4 i (by omega)
  ·rename_i hd
   have hlt:∀x∈cmpN l j,ltE x (l.getD j (0,0)):=λx hx=>by
    have hj0:0<j:=by
     rcases Nat.eq_zero_or_pos j with e | e
     ·subst e;simp [cmpN] at hx
     ·exact e
    have a:=h3 x hx
    have b:=hstep hj0
    have hne:l.getD j (0,0)≠l.getD (j - 1) (0,0):=λe=>hd ⟨hj0,e⟩
    unfold leE at a b;unfold ltE
    have:¬((l.getD j (0,0)).1=(l.getD (j - 1) (0,0)).1∧(l.getD j (0,0)).2=(l.getD (j - 1) (0,0)).2):=λh=>hne (Prod.ext h.1 h.2)
    omega
   refine ⟨?_,?_,?_,?_⟩
   ·rw [List.pairwise_append]
    refine ⟨h1,List.pairwise_singleton _ _,λx hx y hy=>?_⟩
    simp at hy;subst hy
    have:=hlt x hx
    simpa using this
   ·intro x hx
    rcases List.mem_append.1 hx with hx | hx
    ·exact h2 x hx
    ·simp only [List.mem_singleton] at hx;subst hx;exact hmem
   ·intro x hx
    rw [Nat.add_sub_cancel]
    rcases List.mem_append.1 hx with hx | hx
    ·have:=hlt x hx;unfold ltE at this;unfold leE;omega
    ·simp only [List.mem_singleton] at hx;subst hx;unfold leE;omega
   ·intro i hi
    by_cases e:i=j
    ·subst e;simp
    ·exact List.mem_append_left _ (h4 i (by omega))
structure mf_ (nodes:Int) (l N:List (Int × Int)):Prop where
 lt:N.Pairwise ltE
 mem:∀x,x∈N↔x∈l
 good:∀e∈N,0≤e.1∧e.1<nodes∧0≤e.2∧e.2<nodes
 len:N.length≤l.length
theorem q0_ {nodes:Int} {l:List (Int × Int)} {q:Option Addr} {n c:Nat} {w:World} (hs:Sl w q (encE l)) (hl:n=l.length) (hn:n≤1000000) {K:Value→World→Prop}
  (h1:fS_ nodes l→∀w' N q' c',Grow w w'→mf_ nodes l N→Sl w' q' (encE N)→K (.tuple #[.slice q' N.length c',.nilIface]) w')
  (h2:¬fS_ nodes l→∀w' v,Grow w w'→isEC 10 v→K (.tuple #[.slice none 0 0,v]) w'):aa_ PR F.gw_ ⟨[.int .i64 nodes,.slice q n c]⟩ w K:=by
 subst hl
 refine gw_ nodes q l.length c S0 K w ?_
 refine oZ_ hs rfl (λhg w1 g1=>⟨_,rfl,(Fr.init _ w).after g1,λ_=>?_,(λt x h=>by cases h),.inl rfl⟩) λhg w1 v g1 hv=>⟨_,rfl,(Fr.init _ w).after g1,(λh=>by obtain ⟨t,x,rfl⟩:=hv.err;cases h),λt x h=>h2 hg w1 v g1 hv,.inr (by obtain ⟨t,x,h⟩:=hv.err;exact ⟨t,x,h⟩)⟩
 refine i9_ (hs.grow g1) rfl hn λw2 q2 c2 g2 ho2 hc2 hof2=>⟨_,_,_,rfl,(Fr.init _ w).after (g1.trans g2),?_⟩
 have hoff:Off (λk=>k<w.heap.size) q2:=hof2.mono g1.size
 refine pq_ ho2 rfl hn λw3 l3 hp hsrt ho3 g3=>?_
 have hF3:Fs S0 w [] w3:=((Fr.init _ w).after (g1.trans g2)).step g3 (λx hx=>by cases hx) λk hk ⟨a,ha,e⟩=>by have:=hoff.le a ha;omega
 refine ⟨rfl,hF3,?_⟩
 have hl3:l3.length=l.length:=hp.length_eq
 rw [← hl3]
 refine mq_ ho3 rfl (by omega) (by omega) λw4 ho4 g4=>?_
 have hF4:Fs S0 w [] w4:=hF3.step g4 (λx hx=>by cases hx) λk hk ⟨a,ha,e⟩=>by have:=hoff.le a ha;omega
 refine ⟨_,_,_,rfl,hF4,?_⟩
 obtain ⟨p1,p2,p3,p4⟩:=jO_ hsrt l3.length (Nat.le_refl _)
 have hcl:=n0_ l3 l3.length
 refine h1 hg w4 _ q2 c2 hF4.chg ⟨p1,λx=>⟨λhx=>hp.mem_iff.1 (p2 x hx),λhx=>?_⟩,λe he=>hg.2.2.2 e (hp.mem_iff.1 (p2 e he)),by omega⟩ ho4.sl
 obtain ⟨i,hi,rfl⟩:=List.getElem_of_mem (hp.mem_iff.2 hx)
 have:=p4 i hi
 rw [getD_eq hi] at this
 exact this
end Go.Vc
namespace Go.Vc
open Go
def ltN (N:List (Int × Int)) (v:Int):Nat:=N.countP λe=>decide (e.1<v)
theorem sC_ {N:List (Int × Int)} (hs:N.Pairwise ltE) (v:Int):∀i,(hi:i<N.length)→(N[i].1<v↔i<ltN N v):=by
 induction N with
 | nil=>intro i hi;simp at hi
 | cons x N ih=>
  obtain ⟨hx,hs'⟩:=List.pairwise_cons.1 hs
  have ih:=ih hs'
  intro i hi
  by_cases h:x.1<v
  ·have e:ltN (x :: N) v=ltN N v+1:=by unfold ltN;rw [List.countP_cons_of_pos (by simpa using h)]
   rw [e]
   cases i with
   | zero=>simp [h]
   | succ i=>have:=ih i (by simpa using hi);simp only [List.getElem_cons_succ];rw [this];omega
  ·have e:ltN (x :: N) v=0:=by
    unfold ltN
    rw [List.countP_eq_zero]
    intro y hy
    rcases List.mem_cons.1 hy with rfl | hy
    ·simpa using h
    ·have:=hx y hy;unfold ltE at this;simp;omega
   rw [e]
   refine ⟨λhlt=>?_,λh=>by omega⟩
   exfalso
   cases i with
   | zero=>exact h hlt
   | succ i=>
    have:=hx _ (List.getElem_mem (show i<N.length by simpa using hi))
    simp only [List.getElem_cons_succ] at hlt
    unfold ltE at this;omega
theorem sB_ (N:List (Int × Int)) (v:Int):ltN N v≤N.length:=List.countP_le_length
theorem rP_ (N:List (Int × Int)) {v u:Int} (h:v≤u):ltN N v≤ltN N u:=List.countP_mono_left λx _ hx=>by simp at hx ⊢;omega
theorem rO_ (N:List (Int × Int)) (v:Int):ltN N (v+1)=(N.countP λe=>decide (e.1+1=v+1))+ltN N v:=by
 induction N with
 | nil=>rfl
 | cons x N ih=>
  unfold ltN at *
  simp only [List.countP_cons,ih]
  by_cases h:x.1<v
  ·have h1:¬x.1+1=v+1:=by omega
   have h2:x.1<v+1:=by omega
   simp [h,h1,h2];omega
  ·by_cases h':x.1=v
   ·have h1:x.1+1=v+1:=by omega
    have h2:x.1<v+1:=by omega
    simp [h,h1,h2];omega
   ·have h1:¬x.1+1=v+1:=by omega
    have h2:¬x.1<v+1:=by omega
    simp [h,h1,h2]
def begL (nodes:Nat) (N:List (Int × Int)):List Int:=(List.range (nodes+1)).map λ(v:Nat)=>((ltN N (v:Int):Nat):Int)
theorem gz_ {nodes:Nat} {N:List (Int × Int)} {v:Nat} (h:v≤nodes):(begL nodes N).getD v 0=((ltN N v:Nat):Int):=by
 simp [begL,show v<nodes+1 by omega]
theorem um_ {nodes:Nat} {l N:List (Int × Int)} (h:mf_ nodes l N) (hl:N.length≤100000):CsrL nodes (begL nodes N) (N.map (·.2)):=by
 have key:∀v,v<nodes→∀i,i<(rowOf (begL nodes N) (N.map (·.2)) v).length→∃hi:ltN N v+i<N.length,N[ltN N v+i].1=v∧(rowOf (begL nodes N) (N.map (·.2)) v).getD i 0=N[ltN N v+i].2:=by
  intro v hv i hi
  unfold rowOf at hi ⊢
  rw [gz_ (by omega),gz_ (by omega)] at hi ⊢
  simp only [Int.toNat_natCast,List.length_take,List.length_drop,List.length_map] at hi
  have hlt:ltN N v+i<N.length:=by omega
  have hlt2:ltN N v+i<ltN N (v+1:Nat):=by omega
  refine ⟨hlt,?_,?_⟩
  ·have a:=(sC_ h.lt ((v+1:Nat):Int) _ hlt).2 hlt2
   have b:=mt (sC_ h.lt (v:Int) _ hlt).1 (by omega)
   omega
  ·simp only [Int.toNat_natCast,List.getD_eq_getElem?_getD]
   rw [List.getElem?_take_of_lt (by omega),List.getElem?_drop,List.getElem?_map,List.getElem?_eq_getElem hlt]
   rfl
 refine ⟨by simp [begL],λv hv=>?_,λv hv=>?_,λv hv=>⟨λi hi=>?_,λi hi=>?_⟩,by simpa using hl⟩
 ·rw [gz_ hv];have:=sB_ N v;simp;omega
 ·rw [gz_ (by omega),gz_ (by omega)]
  have:=rP_ N (show (v:Int)≤((v+1:Nat):Int) by omega)
  omega
 ·obtain ⟨h1,h2,h3⟩:=key v hv i hi
  have:=h.good _ (List.getElem_mem h1)
  rw [h3];exact ⟨this.2.2.1,this.2.2.2⟩
 ·obtain ⟨h1,h2,h3⟩:=key v hv i (by omega)
  obtain ⟨h4,h5,h6⟩:=key v hv (i+1) hi
  rw [h3,h6]
  have:=List.pairwise_iff_getElem.1 h.lt (ltN N v+i) (ltN N v+(i+1)) h1 h4 (by omega)
  unfold ltE at this;omega
theorem Own.setI {e:TypeId} {w:World} {q:Option Addr} {c:Nat} {l:List Int} (h:Own e 1 w q c (l.map iv)) {n:Int} {i m:Nat} (hn:n=i) (hi:i<l.length) (hm:m=l.length) {x:Int} {K:World→Prop}
  (hK:∀w',Own e 1 w' q c ((l.set i x).map iv)→Chg (aS_ q) w w'→w'.heap.size=w.heap.size→K w'):Dr q (λa=>0≤n∧n<((m:Nat):Int)∧Dr (some (Addr.add a (n.toNat*1))) λa=>StC w a (.int .i64 x) K):=by
 subst hn;subst hm
 have:=h.set (i:=i) (by simpa using hi) (v:=iv x) rfl (K:=K) (λw' h1 h2 h3=>hK w' (by rw [List.map_set];exact h1) h2 h3)
 obtain ⟨a,ha,hh⟩:=this
 refine ⟨a,ha,by omega,by omega,ad_.2 ?_⟩
 rw [Int.toNat_natCast,Nat.mul_one];exact hh
theorem pD_ {nodes:Nat} {l N:List (Int × Int)} {q:Option Addr} {c:Nat} {w:World} (hn:nodes≤4096) (hN:mf_ nodes l N) (hl:N.length≤100000) (hs:Sl w q (encE N)) {K:Value→World→Prop}
  (hK:∀w' b,Grow w w'→he_ w' b nodes (begL nodes N) (N.map (·.2))→w.heap.size≤b→K (.pointer (some ⟨b,0,none⟩)) w'):aa_ PR F.kO_ ⟨[.int .i64 nodes,.slice q N.length c]⟩ w K:=by
 refine kO_ nodes q N.length c S0 K w ?_
 rw [w64 (n:=(nodes:Int)+1) (by omega) (by omega)]
 obtain ⟨ii,hii,hki,hbi,hzi⟩:=sS_
 refine cO_ <| cQ_ (i:=ii) (by_:=8) o5_ hii hzi rfl hki hbi (by omega) (by omega) (by omega) λbb w0 hbb hs0 g0 ho0=>⟨_,_,_,rfl,(Fr.init _ w).after g0,λb2 hb2 w1 hF1=>?_⟩
 have en:((nodes:Int)+1).toNat=nodes+1:=by omega
 rw [en] at ho0 ⊢
 have hne:bb≠b2:=by omega
 have hb1:bb<w1.heap.size:=by have:=hF1.grow.size;omega
 have hb21:b2<w1.heap.size:=hF1.lt _ List.mem_cons_self
 let cnt (k:Nat) (j:Nat):Nat:=(N.take k).countP λe=>decide (e.1+1=(j:Int))
 have hoffb:∀j,j<w.heap.size→¬aS_ (some ⟨bb,0,none⟩) j:=by rintro j hj ⟨a,ha,e⟩;cases ha;simp only [] at e;omega
 have ho1:Own T.int 1 w1 (some ⟨bb,0,none⟩) (nodes+1) ((List.replicate (nodes+1) (0:Int)).map iv):=by
  have:=ho0.grow hF1.grow
  simpa [iv] using this
 refine ⟨λi q1 l1 c1 q2 l2 c2 m w'=>∃(k:Nat) (C:List Int),i=k∧k≤N.length∧m=N.length - k∧q1=some ⟨bb,0,none⟩∧l1=nodes+1∧c1=nodes+1∧C.length=nodes+1∧(∀j,j≤nodes→C.getD j 0=cnt k j)∧Own T.int 1 w' (some ⟨bb,0,none⟩) (nodes+1) (C.map iv)∧
  Own T.int 1 w' q2 c2 (((N.take k).map (·.2)).map iv)∧k=l2∧l2≤c2∧Off (λj=>j<w1.heap.size) q2∧w1.heap.size≤w'.heap.size,⟨_,0,List.replicate (nodes+1) 0,rfl,by omega,rfl,rfl,rfl,rfl,by simp,(λj hj=>by simp [cnt,show j<nodes+1 by omega]),ho1,.nil _ _ _,rfl,Nat.le_refl _,.none _,Nat.le_refl _⟩,?_⟩
 rintro i q1 l1 c1 q2 l2 c2 D m w2 ⟨k,C,rfl,hk,rfl,rfl,rfl,rfl,hCl,hC,hoC,hoT,rfl,hkc,hof,hsz⟩ hF2
 refine ⟨λhlt=>?_,λhge=>?_⟩
 ·have hk':k<N.length:=by omega
  have hgood:=hN.good _ (List.getElem_mem hk')
  obtain ⟨f,hf⟩:=Int.eq_ofNat_of_zero_le hgood.1
  refine (hs.grow hF2.gr).rd2 rfl hk' hk' λa ha1 ha2=>⟨_,ha1,_,ha2,λb9 hb9 w3 hF3=>?_⟩
  have g23:Chg (· = b9) w2 w3:=hF3.stp.mono λj _ hj=>by simpa using hj
  have hoC3:Own T.int 1 w3 (some ⟨bb,0,none⟩) (nodes+1) (C.map iv):=hoC.keep g23 λa ha e=>by cases ha;have e':bb=b9:=e;omega
  have hoT3:Own T.int 1 w3 q2 c2 (((N.take k).map (·.2)).map iv):=hoT.keep g23 λa ha e=>by have:=hoT.lt a ha;have e':a.block=b9:=e;omega
  have ev:IntKind.wrap .i64 (N[k].1+1)=((f+1:Nat):Int):=by rw [w64 (by omega) (by omega)];omega
  rw [ev]
  have hf':f+1<C.length:=by omega
  have cle:cnt k (f+1)≤k:=by
   have:cnt k (f+1)≤(N.take k).length:=List.countP_le_length
   rw [List.length_take] at this;omega
  refine ⟨(· = w3),rfl,?_⟩
  refine hoC3.sl.rd (v:=iv (C.getD (f+1) 0)) (by simp [hCl]) (by omega) (ia_ hf') λa3 ha3=>⟨_,λw4 e=>e ▸ ha3,?_⟩
  rw [hC _ (by omega),wr1 (by omega)]
  refine hoC3.setI rfl hf' hCl.symm λw5 hoC5 g5 hs5=>?_
  have hF5:Fs S0 w [⟨b2,#[.slice (some ⟨bb,0,none⟩) (nodes+1) (nodes+1),.slice q2 k c2],T.m5_,true⟩,⟨b9,#[iv N[k].1,iv N[k].2],T.av_,true⟩] w5:=hF3.step g5 (λx hx ⟨a,ha,e⟩=>by
   cases ha
   rcases List.mem_cons.1 hx with rfl | hx
   ·simp only [] at e;exact hne e.symm
   ·simp at hx;subst hx;simp only [] at e;omega) λj hj h=>absurd h (hoffb j hj)
  refine ⟨hF5,λw6 hF6=>?_⟩
  have g56:Grow w5 w6:=hF6.grow
  have hof':Off (aS_ (some ⟨bb,0,none⟩)) q2:=λa ha ⟨a',ha',e⟩=>by cases ha';simp only [] at e;have:=hof.le a ha;omega
  have hoT5:Own T.int 1 w5 q2 c2 (((N.take k).map (·.2)).map iv):=hoT3.keep g5 hof'
  refine ⟨λx=>x.cell? ⟨b2,1,none⟩=some (.slice q2 k c2),hF6.ld 0 1 rfl rfl rfl,ad_.2 ⟨_,_,_,λw7 h=>h,λb12 hb12 w8 hF8=>⟨hF8.ld 0 1 rfl rfl rfl,?_⟩⟩⟩
  have g68:Grow w6 w8:=hF8.grow
  have s23:=g23.size
  have s56:=g56.size
  have s68:=g68.size
  refine gQ_ ((hoT5.grow g56).grow g68) (by simp;omega) hkc (ys:=[N[k].2]) (hF8.sl 2 rfl) rfl (by omega) λq2' c2' w9 hoT9 hc9 g9 hq9=>?_
  have hF9:=hF8.app2 g9 w1.heap.size w2.heap.size hof (λa ha=>by have:=hoT.lt a ha;omega) (λy hy=>by
   rcases List.mem_cons.1 hy with rfl | hy
   ·exact .inl hb21
   rcases List.mem_cons.1 hy with rfl | hy
   ·exact .inr hb9
   ·simp at hy;subst hy;exact .inr (by simp only [];omega)) hF1.chg.size
  refine ⟨_,_,_,rfl,hF9,hF9.ld 0 1 rfl rfl rfl,λw10 hF10=>?_⟩
  have g910:Chg (· = b2) w9 w10:=hF10.stp.mono λj _ hj=>by simpa using hj
  have hoffT':Off (λj=>j<w1.heap.size) q2':=hof.next hq9 (by omega)
  have hoT10:Own T.int 1 w10 q2' c2' (((N.take k).map (·.2)++[N[k].2]).map iv):=hoT9.keep g910 λa ha e=>by have:=hoffT'.le a ha;have e':a.block=b2:=e;omega
  have hoC10:Own T.int 1 w10 (some ⟨bb,0,none⟩) (nodes+1) ((C.set (f+1) ((cnt k (f+1)+1:Nat):Int)).map iv):=(((hoC5.grow g56).grow g68).keep g9 (λa ha ⟨a',ha',e⟩=>by cases ha;simp only [] at e;have:=hof.le a' ha';omega)).keep g910 λa ha e=>by cases ha;exact hne e
  refine ⟨N.length - (k+1),by omega,k+1,_,wr1 (by omega),by omega,rfl,rfl,rfl,rfl,by simpa using hCl,?_,hoC10,?_,rfl,hc9,hoffT',by have:=g9.size;have:=g910.size;omega⟩
  ·intro j hj
   have hcn:cnt (k+1) j=cnt k j+if N[k].1+1=(j:Int) then 1 else 0:=by
    show ((N.take (k+1)).countP _)=_
    rw [aV_ hk',List.countP_append,List.countP_singleton]
    simp only [decide_eq_true_eq];rfl
   by_cases e:j=f+1
   ·subst e
    have:N[k].1+1=((f+1:Nat):Int):=by omega
    rw [hcn,if_pos this]
    simp [hf']
   ·have:¬N[k].1+1=(j:Int):=by omega
    have hcn2:cnt (k+1) j=cnt k j:=by rw [hcn,if_neg this];exact Nat.add_zero _
    rw [hcn2,← hC j hj]
    simp only [List.getD_eq_getElem?_getD]
    rw [List.getElem?_set_ne (by omega)]
  ·rw [aV_ hk',List.map_append];exact hoT10
 ·have e:k=N.length:=by omega
  subst e
  rw [List.take_length] at hoT
  have hC':∀j,j≤nodes→C.getD j 0=((N.countP λe=>decide (e.1+1=(j:Int)):Nat):Int):=λj hj=>by
   have:=hC j hj
   simp only [cnt,List.take_length] at this;exact this
  refine ⟨λv m w'=>∃(k:Nat) (C:List Int),v=k∧k≤nodes∧m=nodes - k∧C.length=nodes+1∧(∀j,j≤k→C.getD j 0=ltN N j)∧(∀j,k<j→j≤nodes→C.getD j 0=((N.countP λe=>decide (e.1+1=(j:Int)):Nat):Int))∧Own T.int 1 w' (some ⟨bb,0,none⟩) (nodes+1) (C.map iv)∧
   Own T.int 1 w' q2 c2 ((N.map (·.2)).map iv),⟨_,0,C,rfl,by omega,rfl,hCl,(λj hj=>?_),(λj h1 h2=>hC' j h2),hoC,hoT⟩,?_⟩
  ·have:j=0:=by omega
   subst this
   rw [hC' 0 (by omega)]
   have h1:(N.countP λe=>decide (e.1+1=((0:Nat):Int)))=0:=by
    rw [List.countP_eq_zero];intro x hx;have:=(hN.good x hx).1;simp;omega
   have h2:ltN N ((0:Nat):Int)=0:=by
    unfold ltN;rw [List.countP_eq_zero];intro x hx;have:=(hN.good x hx).1;simp;omega
   rw [h1,h2]
  ·rintro v D m w11 ⟨v,C,rfl,hv,rfl,hCl,hCa,hCb,hoC,hoT⟩ hF11
   refine ⟨λhlt w12 hF12=>?_,λhge=>?_⟩
   ·have hv':v<nodes:=by omega
    have g12:Grow w11 w12:=hF12.grow
    have hoC12:=hoC.grow g12
    rw [wr1 (by omega)]
    refine ⟨(· = w12),rfl,?_⟩
    refine hoC12.sl.rd (v:=iv (C.getD (v+1) 0)) (by simp [hCl]) (by omega) (ia_ (by omega)) λa ha=>⟨_,λw4 e=>e ▸ ha,?_⟩
    refine hoC12.sl.rd (v:=iv (C.getD v 0)) (by simp [hCl]) (by omega) (ia_ (by omega)) λa ha=>⟨_,λw4 e=>e ▸ ha,?_⟩
    have hstep:=rO_ N v
    have e1:((v:Int)+1)=((v+1:Nat):Int):=by omega
    rw [e1] at hstep
    have hle:=sB_ N ((v+1:Nat):Int)
    rw [hCa v (Nat.le_refl _),hCb (v+1) (by omega) (by omega),w64 (by omega) (by omega)]
    refine hoC12.setI rfl (by omega) hCl.symm λw15 hoC15 g15 hs15=>?_
    have hF15:Fs S0 w [⟨b2,#[.slice (some ⟨bb,0,none⟩) (nodes+1) (nodes+1),.slice q2 N.length c2],T.m5_,true⟩] w15:=hF12.step g15 (λx hx ⟨a,ha,e⟩=>by
     cases ha
     simp at hx;subst hx
     exact hne e.symm) λj hj h=>absurd h (hoffb j hj)
    refine ⟨hF15,nodes - (v+1),by omega,v+1,_,rfl,by omega,rfl,by simpa using hCl,(λj hj=>?_),(λj h1 h2=>?_),hoC15,(hoT.grow g12).keep g15 λa ha ⟨a',ha',e⟩=>by cases ha';simp only [] at e;have:=hof.le a ha;omega⟩
    ·by_cases e:j=v+1
     ·subst e
      simp only [List.getD_eq_getElem?_getD]
      rw [List.getElem?_set_self (by omega)]
      simp only [Option.getD_some];omega
     ·rw [← hCa j (by omega)]
      simp only [List.getD_eq_getElem?_getD]
      rw [List.getElem?_set_ne (by omega)]
    ·rw [← hCb j (by omega) h2]
     simp only [List.getD_eq_getElem?_getD]
     rw [List.getElem?_set_ne (by omega)]
   ·have e:v=nodes:=by omega
    subst e
    have hCe:C=begL v N:=by
     apply List.ext_getElem?
     intro j
     rcases Nat.lt_or_ge j (v+1) with h | h
     ·have a:=hCa j (by omega)
      have b:=gz_ (N:=N) (show j≤v by omega)
      rw [kD_ (by omega)] at a
      rw [kD_ (by simp [begL];omega)] at b
      rw [List.getElem?_eq_getElem (by omega),List.getElem?_eq_getElem (by simp [begL];omega),a,b]
     ·rw [List.getElem?_eq_none (by omega),List.getElem?_eq_none (by simp [begL];omega)]
    rw [hCe] at hoC
    refine hK w11 b2 hF11.gr ⟨_,v+1,_,c2,?_,?_,hoC.sl,hoT.sl⟩ (by have:=g0.size;omega)
    ·have:=hF11.blk 0 rfl
     rw [List.length_map];exact this
    ·rw [List.length_map];exact hkc
theorem o0_ {nodes:Int} {l:List (Int × Int)} {q:Option Addr} {n c:Nat} {w:World} (hs:Sl w q (encE l)) (hl:n=l.length) (hn:n≤100000) {K:Value→World→Prop}
  (h1:fS_ nodes l→∀w' b N,Grow w w'→mf_ nodes l N→he_ w' b nodes.toNat (begL nodes.toNat N) (N.map (·.2))→CsrL nodes.toNat (begL nodes.toNat N) (N.map (·.2))→K (.tuple #[.pointer (some ⟨b,0,none⟩),.nilIface]) w')
  (h2:¬fS_ nodes l→∀w' v,Grow w w'→isEC 10 v→K (.tuple #[.pointer none,v]) w'):aa_ PR F.iv_ ⟨[.int .i64 nodes,.slice q n c]⟩ w K:=by
 subst hl
 refine iv_ nodes q l.length c S0 K w ?_
 refine q0_ hs rfl (by omega) (λhg w1 N q1 c1 g1 hN hs1=>⟨_,_,_,_,rfl,(Fr.init _ w).after g1,λ_=>?_,(λt x h=>by cases h),.inl rfl⟩) λhg w1 v g1 hv=>⟨_,_,_,_,rfl,(Fr.init _ w).after g1,(λh=>by obtain ⟨t,x,rfl⟩:=hv.err;cases h),λt x h=>h2 hg w1 v g1 hv,.inr (by obtain ⟨t,x,h⟩:=hv.err;exact ⟨t,x,h⟩)⟩
 obtain ⟨m,rfl⟩:=Int.eq_ofNat_of_zero_le hg.1
 have hm:=hg.2.1
 have hNl:=hN.len
 refine pD_ (by omega) hN (by omega) hs1 λw2 b g2 hc hb=>⟨_,rfl,(Fr.init _ w).after (g1.trans g2),?_⟩
 exact h1 hg w2 b N (g1.trans g2) hN (by rw [Int.toNat_natCast];exact hc) (by rw [Int.toNat_natCast];exact um_ hN (by omega))
end Go.Vc
namespace Go.Vc
open Go
theorem qx_ (k0:Nat) (m1:Int) (t2:Bool) (z3:ByteArray) (y4:Option Addr) (ly4:Nat) (cy4:Nat) (z5:ByteArray) (y6:Option Addr) (ly6:Nat) (cy6:Nat) (y7:Option Addr) (ly7:Nat) (cy7:Nat) (S:SP) (K:KP) (w:World) (hF:Fs S w [⟨k0,#[.int .i64 m1,.bool t2,.string z3,.slice y4 ly4 cy4,.string z5,.slice y6 ly6 cy6,.slice y7 ly7 cy7],91,true⟩] w) (hS:S k0∧True) (h:(m1=0→∀w0,Fr S w w [k0] [⟨k0,#[Iv (-1),.bool true,.string z3,.slice y4 ly4 cy4,.string z5,.slice y6 ly6 cy6,.slice y7 ly7 cy7],91,true⟩] w0→K (.iface 80 (Iv 8)) w0)∧(¬(m1=0)→(m1>0→∀w1,Fr S w w [k0] [⟨k0,#[Iv (IntKind.wrap .i64 (m1 - 1)),.bool t2,.string z3,.slice y4 ly4 cy4,.string z5,.slice y6 ly6 cy6,.slice y7 ly7 cy7],91,true⟩] w1→K .nilIface w1)∧(¬(m1>0)→K .nilIface w))):aa_ PR 39 ⟨[.pointer (some ⟨k0,0,none⟩)]⟩ w K:=
 ab_ (okf:=⟨okL,[]⟩) ag_ (args:=[.c (.p 0 k0 true 0)]) (H:=[⟨k0,.l [.v (.int .i64 m1),.v (.bool t2),.v (.string z3),.v (.slice y4 ly4 cy4),.v (.string z5),.v (.slice y6 ly6 cy6),.v (.slice y7 ly7 cy7)],91,true⟩]) (.s .z (.s (.b (.s .z (.c (.s (.r ⟨(some [0]),false,[],[]⟩) .z) (.s .z (.c (.r ⟨(some [0]),false,[],[]⟩) .z))))) .z)) Go.Proofs.Tryz.func39 rfl ⟨rfl,trivial⟩ ⟨⟨trivial,⟨trivial,⟨trivial,⟨trivial,⟨trivial,⟨trivial,⟨trivial,trivial⟩⟩⟩⟩⟩⟩⟩,trivial⟩ hF hS (ae_ (by kernel_rfl) h)
theorem r__ (k0:Nat) (m1:Int) (t2:Bool) (z3:ByteArray) (y4:Option Addr) (ly4:Nat) (cy4:Nat) (z5:ByteArray) (y6:Option Addr) (ly6:Nat) (cy6:Nat) (y7:Option Addr) (ly7:Nat) (cy7:Nat) (m8:Int) (z9:ByteArray) (S:SP) (K:KP) (w:World) (hF:Fs S w [⟨k0,#[.int .i64 m1,.bool t2,.string z3,.slice y4 ly4 cy4,.string z5,.slice y6 ly6 cy6,.slice y7 ly7 cy7],91,true⟩] w) (hS:S k0∧True) (h:∀l0,w.heap.size≤l0→(m8=(-1)→∀w0,Fr S w w [] [⟨k0,#[Iv m1,.bool t2,.string z3,.slice y4 ly4 cy4,.string z5,.slice y6 ly6 cy6,.slice y7 ly7 cy7],91,true⟩,⟨l0,#[Iv m8,.string z9],163,true⟩] w0→∃I0:World→Prop,I0 w0∧Dr (some (⟨k0,2,none⟩)) λa0=>∃s0,(∀w1,I0 w1→World.cell? w1 a0=some (.string s0))∧((ByteArray.size s0+(ByteArray.size z9)):Nat)≤9223372036854775807∧∀w2,Fr S w w0 [k0] [⟨k0,#[Iv m1,.bool t2,.string (s0++z9),.slice y4 ly4 cy4,.string z5,.slice y6 ly6 cy6,.slice y7 ly7 cy7],91,true⟩] w2→K (.tuple #[]) w2)∧(¬(m8=(-1))→∀w3,Fr S w w [] [⟨k0,#[Iv m1,.bool t2,.string z3,.slice y4 ly4 cy4,.string z5,.slice y6 ly6 cy6,.slice y7 ly7 cy7],91,true⟩,⟨l0,#[Iv m8,.string z9],163,true⟩] w3→∃I1:World→Prop,I1 w3∧Dr y4 λa1=>(0:Int)≤m8∧m8<(ly4:Int)∧Dr (some (Addr.add a1 (Int.toNat m8*1))) λa2=>StC w3 a2 (.string z9) λw4=>Fs S w [⟨k0,#[Iv m1,.bool t2,.string z3,.slice y4 ly4 cy4,.string z5,.slice y6 ly6 cy6,.slice y7 ly7 cy7],91,true⟩,⟨l0,#[Iv m8,.string z9],163,true⟩] w4∧K (.tuple #[]) w4)):aa_ PR 81 ⟨[.pointer (some ⟨k0,2,none⟩),.agg #[.int .i64 m8,.string z9]]⟩ w K:=
 ab_ (okf:=⟨okL,[]⟩) ag_ (args:=[.c (.p 0 k0 true 2),.a [.v (.int .i64 m8),.v (.string z9)]]) (H:=[⟨k0,.l [.v (.int .i64 m1),.v (.bool t2),.v (.string z3),.v (.slice y4 ly4 cy4),.v (.string z5),.v (.slice y6 ly6 cy6),.v (.slice y7 ly7 cy7)],91,true⟩]) (.s (.r ⟨(some [0]),true,[],[]⟩) (.s (.s .z (.c (.s (.r ⟨(some [0,3]),true,[0],[]⟩) .z) .z)) (.r ⟨(some [0,3]),true,[],[]⟩))) Go.Proofs.Tryz.func81 rfl ⟨rfl,⟨trivial,trivial,trivial⟩,trivial⟩ ⟨⟨trivial,⟨trivial,⟨trivial,⟨trivial,⟨trivial,⟨trivial,⟨trivial,trivial⟩⟩⟩⟩⟩⟩⟩,trivial⟩ hF hS (ae_ (by kernel_rfl) h)
end Go.Vc
namespace Go.Vc
open Go
def dskC (f:Int) (d:Bool) (log lasts:ByteArray) (q0 q1:Option Addr) (c0 c1:Nat) (wq:Option Addr) (wl wc:Nat):Array Value:=
 #[.int .i64 f,.bool d,.string log,.slice q0 0 c0,.string lasts,.slice q1 0 c1,.slice wq wl wc]
def okF (f:Int):Prop:=-1≤f∧f≤9223372036854775807
def cg_ (w:World) (b:Nat) (log:ByteArray):Prop:=∃f q0 q1 c0 c1,okF f∧w.heap[b]? = some (.cells (dskC f false log log q0 q1 c0 c1 none 0 0) T.ax_ (0,0))
def wrC (s:ByteArray):List Value:=[.int .i64 (-1),.string s]
def DskW (n:Nat) (w:World) (b:Nat) (log s:ByteArray):Prop:=∃f q0 q1 c0 c1 wq wc,okF f∧w.heap[b]? = some (.cells (dskC f false (log++s) log q0 q1 c0 c1 wq 1 wc) T.ax_ (0,0))∧Sl w wq (wrC s)∧Off (· < n) wq
def DskD (n:Nat) (w:World) (b:Nat) (L:ByteArray) (ws:List ByteArray):Prop:=∃f now q0 q1 c0 c1 wq wc,w.heap[b]? = some (.cells (dskC f true now L q0 q1 c0 c1 wq ws.length wc) T.ax_ (0,0))∧Sl w wq (ws.flatMap wrC)∧Off (· < n) wq∧b<n
def NoF (w:World) (b:Nat):Prop:=w.cell? ⟨b,0,none⟩=some (.int .i64 (-1))
theorem NoF.keep {S:Nat→Prop} {w w':World} {b:Nat} (h:NoF w b) (g:Chg S w w') (hn:¬S b):NoF w' b:=by
 have hlt:b<w.heap.size:=by
  rcases Nat.lt_or_ge b w.heap.size with h' | h'
  ·exact h'
  ·unfold NoF World.cell? at h;simp [Array.getElem?_eq_none h'] at h
 unfold NoF World.cell? at *
 rw [g.block b hlt hn];exact h
theorem NoF.mk {w:World} {b:Nat} {d:Bool} {log lasts:ByteArray} {q0 q1 wq:Option Addr} {c0 c1 wl wc:Nat} {T:TypeId} {fz:Nat × Nat} (h:w.heap[b]? = some (.cells (dskC (-1) d log lasts q0 q1 c0 c1 wq wl wc) T fz)):NoF w b:=by
 unfold NoF;rw [ap_ h];rfl
theorem NoF.eq {w:World} {b:Nat} {f:Int} {d:Bool} {log lasts:ByteArray} {q0 q1 wq:Option Addr} {c0 c1 wl wc:Nat} {T:TypeId} {fz:Nat × Nat} (h:w.heap[b]? = some (.cells (dskC f d log lasts q0 q1 c0 c1 wq wl wc) T fz)) (hn:NoF w b):f = -1:=by
 unfold NoF at hn;rw [ap_ h] at hn
 have e:(dskC f d log lasts q0 q1 c0 c1 wq wl wc)[0]? = some (.int .i64 f):=rfl
 rw [e] at hn
 injection hn with hn
 injection hn
theorem cg_.keep {S:Nat→Prop} {w w':World} {b:Nat} {log:ByteArray} (h:cg_ w b log) (g:Chg S w w') (hn:¬S b):cg_ w' b log:=by
 obtain ⟨f,q0,q1,c0,c1,hf,h⟩:=h;exact ⟨f,q0,q1,c0,c1,hf,g.get h hn⟩
theorem DskW.keep {S:Nat→Prop} {n:Nat} {w w':World} {b:Nat} {log s:ByteArray} (h:DskW n w b log s) (g:Chg S w w') (hn:¬S b) (hS:∀k,S k→k<n):DskW n w' b log s:=by
 obtain ⟨f,q0,q1,c0,c1,wq,wc,hf,h,hs,ho⟩:=h;exact ⟨f,q0,q1,c0,c1,wq,wc,hf,g.get h hn,hs.keep g λa ha e=>ho a ha (hS _ e),ho⟩
theorem DskD.keep {S:Nat→Prop} {n:Nat} {w w':World} {b:Nat} {L:ByteArray} {ws:List ByteArray} (h:DskD n w b L ws) (g:Chg S w w') (hn:¬S b) (hS:∀k,S k→k<n):DskD n w' b L ws:=by
 obtain ⟨f,now,q0,q1,c0,c1,wq,wc,h,hs,ho,hb⟩:=h;exact ⟨f,now,q0,q1,c0,c1,wq,wc,g.get h hn,hs.keep g λa ha e=>ho a ha (hS _ e),ho,hb⟩
theorem ey_ {w:World} {b:Nat} {f:Int} {log lasts:ByteArray} {q0 q1 wq:Option Addr} {c0 c1 wl wc:Nat} (h:w.heap[b]? = some (.cells (dskC f false log lasts q0 q1 c0 c1 wq wl wc) T.ax_ (0,0))) {K:Value→World→Prop} (hK:K .nilIface w):aa_ PR F.g1_ ⟨[.pointer (some ⟨b,0,none⟩)]⟩ w K:=
 i7_ b f false log q0 0 c0 lasts q1 0 c1 wq wl wc (· = b) K w ((Fr.init _ w).entry h (λx h=>by cases h) λ_=>rfl) ⟨rfl,trivial⟩ ⟨(λh=>by cases h),λ_=>hK⟩
theorem iD_ {w:World} {b:Nat} {f:Int} {log lasts:ByteArray} {q0 q1 wq:Option Addr} {c0 c1 wl wc:Nat} (h:w.heap[b]? = some (.cells (dskC f false log lasts q0 q1 c0 c1 wq wl wc) T.ax_ (0,0))) (hf:okF f) {K:Value→World→Prop}
  (h1:∀w' f',okF f'→(f = -1→f' = -1)→w'.heap[b]? = some (.cells (dskC f' false log lasts q0 q1 c0 c1 wq wl wc) T.ax_ (0,0))→Chg (· = b) w w'→K .nilIface w')
  (h2:∀w',f≠-1→w'.heap[b]? = some (.cells (dskC (-1) true log lasts q0 q1 c0 c1 wq wl wc) T.ax_ (0,0))→Chg (· = b) w w'→K (.iface T.am_ (.int .i64 8)) w'):aa_ PR F.gZ_ ⟨[.pointer (some ⟨b,0,none⟩)]⟩ w K:=by
 obtain ⟨f1,f2⟩:=hf
 refine qx_ b f false log q0 0 c0 lasts q1 0 c1 wq wl wc (· = b) K w ((Fr.init _ w).entry h (λx h=>by cases h) λ_=>rfl) ⟨rfl,trivial⟩ ⟨λe w0 hF0=>h2 w0 (by omega) (hF0.blk 0 rfl) (hF0.stp.mono λk _ e=>by simpa using e),λhne=>⟨λhp w1 hF1=>?_,λhnp=>h1 w f ⟨f1,f2⟩ (λe=>e) h (.refl _ _)⟩⟩
 have e:IntKind.wrap .i64 (f - 1)=f - 1:=w64 (by omega) (by omega)
 rw [e] at hF1
 exact h1 w1 (f - 1) ⟨by omega,by omega⟩ (λe=>by omega) (hF1.blk 0 rfl) (hF1.stp.mono λk _ e=>by simpa using e)
theorem n9_ {w:World} {b:Nat} {log:ByteArray} (h:cg_ w b log) {K:Value→World→Prop} (hK:K (.tuple #[.string log,.nilIface]) w):aa_ PR F.hY_ ⟨[.pointer (some ⟨b,0,none⟩)]⟩ w K:=by
 obtain ⟨f,q0,q1,c0,c1,hf,h⟩:=h
 have h0:Fs (· = b) w [⟨b,dskC f false log log q0 q1 c0 c1 none 0 0,T.ax_,true⟩] w:=(Fr.init _ w).entry h (λx h=>by cases h) λ_=>rfl
 exact kK_ b f false log q0 0 c0 log q1 0 c1 none 0 0 (· = b) K w h0 ⟨rfl,trivial⟩ (ey_ h ⟨_,rfl,h0,λ_=>hK,(λt x h=>by cases h),.inl rfl⟩)
theorem gC_ {w:World} {b:Nat} {log:ByteArray} (h:cg_ w b log) {K:Value→World→Prop} (hK:K (.int .i64 0) w):aa_ PR F.gf_ ⟨[.pointer (some ⟨b,0,none⟩)]⟩ w K:=by
 obtain ⟨f,q0,q1,c0,c1,hf,h⟩:=h
 exact ir_ b f false log q0 0 c0 log q1 0 c1 none 0 0 (· = b) K w ((Fr.init _ w).entry h (λx h=>by cases h) λ_=>rfl) ⟨rfl,trivial⟩ hK
theorem qv_ {w:World} {b:Nat} {f:Int} {log lasts s:ByteArray} {q0 q1 wq:Option Addr} {c0 c1 wl wc:Nat} (h:w.heap[b]? = some (.cells (dskC f false log lasts q0 q1 c0 c1 wq wl wc) T.ax_ (0,0))) (hroom:log.size+s.size≤9223372036854775807) {K:Value→World→Prop}
  (hK:∀w',w'.heap[b]? = some (.cells (dskC f false (log++s) lasts q0 q1 c0 c1 wq wl wc) T.ax_ (0,0))→Chg (· = b) w w'→K (.tuple #[]) w') :
  aa_ PR F.fD_ ⟨[.pointer (some ⟨b,2,none⟩),.agg #[.int .i64 (-1),.string s]]⟩ w K:=by
 refine r__ b f false log q0 0 c0 lasts q1 0 c1 wq wl wc (-1) s (· = b) K w ((Fr.init _ w).entry h (λx h=>by cases h) λ_=>rfl) ⟨rfl,trivial⟩ λb0 hb0=>⟨λ_ w0 hF0=>⟨(· = w0),rfl,ad_.2 ⟨log,λw1 e=>by subst e;exact hF0.ld 0 2 rfl rfl rfl,hroom,λw2 hF2=>?_⟩⟩,λh=>absurd rfl h⟩
 exact hK w2 (hF2.blk 0 rfl) (hF0.chg.trans (hF2.stp.mono λi _ hi=>by simpa using hi) λ_ _ e=>e)
theorem rj_:PR.underlying T.j6_=some (.slice T.cy_):=by kernel_rfl
theorem o6_:∃i,PR.info? T.cy_=some i∧i.size=2∧i.bytes=24∧i.zero=some (.agg #[.int .i64 0,.string ⟨#[]⟩]):=by
 have h:(match PR.info? T.cy_ with | some i=>i.size == 2 && i.bytes == 24 && (match i.zero with | some (.agg ⟨[.int .i64 0,.string ⟨⟨[]⟩⟩]⟩)=>true | _=>false) | none=>false)=true:=by kernel_rfl
 split at h
 ·rename_i i hi
  simp only [Bool.and_eq_true,beq_iff_eq] at h
  refine ⟨i,hi,h.1.1,h.1.2,?_⟩
  have h2:=h.2
  split at h2
  ·assumption
  ·cases h2
 ·cases h
theorem qw_ {w:World} {b:Nat} {log s:ByteArray} (h:cg_ w b log) (hroom:log.size+s.size≤9223372036854775807) (hs:s≠⟨#[]⟩) {K:Value→World→Prop}
  (h1:∀w',DskW w.heap.size w' b log s→(NoF w b→NoF w' b)→Chg (· = b) w w'→K .nilIface w')
  (h2:∀w',¬NoF w b→DskD w.heap.size w' b log []→Chg (· = b) w w'→K (.iface T.am_ (.int .i64 8)) w') :
  aa_ PR F.g0_ ⟨[.pointer (some ⟨b,0,none⟩),.agg #[.int .i64 (-1),.string s]]⟩ w K:=by
 obtain ⟨f,q0,q1,c0,c1,hf,h⟩:=h
 have hblt:=aj_ h
 refine i6_ b f false log q0 0 c0 log q1 0 c1 none 0 0 (-1) s (· = b) K w ((Fr.init _ w).entry h (λx h=>by cases h) λ_=>rfl) ⟨rfl,trivial⟩ λb0 hb0 w0 hF0=>?_
 have hne:¬b0=b:=by omega
 have hF0r:=hF0.reset
 refine iD_ (hF0.blk 0 rfl) hf (λw1 f' hf' hff hb1 g1=>?_) λw1 hff hb1 g1=>?_
 ·have hF1:Fs (· = b) w [⟨b,dskC f' false log log q0 q1 c0 c1 none 0 0,T.ax_,true⟩,⟨b0,#[.int .i64 (-1),.string s],T.cy_,true⟩] w1:=hF0.mod1 g1 hb1
  refine ⟨_,rfl,_,_,_,_,_,_,_,_,_,_,_,_,_,hF1,λ_=>⟨λ_=>⟨λh=>absurd h hs,λ_ w2 hF2=>⟨λ_=>True,trivial,?_⟩⟩,λh=>absurd rfl h⟩,(λt x h=>by cases h),.inl rfl⟩
  have hb2:=hF2.blk 0 rfl
  refine qv_ hb2 hroom λw3 hb3 g3=>?_
  have hF3:Fs (· = b) w [⟨b,dskC f' false (log++s) log q0 q1 c0 c1 none 0 0,T.ax_,true⟩,⟨b0,#[.int .i64 (-1),.string s],T.cy_,true⟩] w3:=hF2.mod1 g3 hb3
  refine ⟨rfl,_,_,_,_,_,_,_,_,_,_,_,_,_,hF3,λw4 hF4=>⟨λx=>x.cell? ⟨b,6,none⟩=some (.slice none 0 0),hF4.ld 0 6 rfl rfl rfl,ad_.2 ⟨_,_,_,λw5 h=>h,λb5 hb5 w6 hF6=>⟨hF6.ld 0 6 rfl rfl rfl,?_⟩⟩⟩⟩
  have sz:w.heap.size≤w6.heap.size:=by have:=hF0.chg.size;have:=g1.size;have:=hF2.chg.size;have:=g3.size;have:=hF4.chg.size;have:=hF6.chg.size;omega
  refine app0 (k:=2) rj_ o6_ rfl (by decide) (by decide) (.nil _ _ _) (hF6.sl 2 rfl) (by simp) (by simp [oneC]) (by omega) λq' c' w7 ho7 hc7 g7 hq7=>⟨_,_,_,rfl,hF6.after g7,(hF6.after g7).ld 0 6 rfl rfl rfl,λw8 hF8=>?_⟩
  have g8:Chg (· = b) w7 w8:=hF8.stp.mono λk _ e=>by simpa using e
  have hqf:Off (· < w.heap.size) q':=λa ha e=>by
   rcases hq7 a ha with h' | h'
   ·cases h'
   ·have e':a.block<w.heap.size:=e;omega
  refine h1 w8 ⟨f',q0,q1,c0,c1,q',c',hf',hF8.blk 0 rfl,ho7.sl.keep g8 λa ha e=>?_,hqf⟩ (λhn=>?_) hF8.chg
  ·have e':a.block=b:=e
   exact hqf a ha (show a.block<w.heap.size by omega)
  ·have:=hff (hn.eq h);subst this
   exact .mk (hF8.blk 0 rfl)
 ·have hF1:Fs (· = b) w [⟨b,dskC (-1) true log log q0 q1 c0 c1 none 0 0,T.ax_,true⟩,⟨b0,#[.int .i64 (-1),.string s],T.cy_,true⟩] w1:=hF0.mod1 g1 hb1
  exact ⟨_,rfl,_,_,_,_,_,_,_,_,_,_,_,_,_,hF1,(λh=>by cases h),(λt x _=>h2 w1 (λhn=>hff (hn.eq h)) ⟨_,_,_,_,_,_,none,0,hb1,.nil _ _,(λa h=>by cases h),hblt⟩ hF1.chg),.inr ⟨_,_,rfl⟩⟩
theorem mp_ {w:World} {b:Nat} {log s:ByteArray} (h:cg_ w b log) (hroom:log.size+s.size≤9223372036854775807) (hs:s≠⟨#[]⟩) {K:Value→World→Prop}
  (h1:∀w',DskW w.heap.size w' b log s→(NoF w b→NoF w' b)→Chg (· = b) w w'→K .nilIface w')
  (h2:∀w',¬NoF w b→DskD w.heap.size w' b log []→Chg (· = b) w w'→K (.iface T.am_ (.int .i64 8)) w') :
  aa_ PR F.fF_ ⟨[.pointer (some ⟨b,0,none⟩),.string s]⟩ w K:=by
 have hd:=h
 obtain ⟨f,q0,q1,c0,c1,hf,h⟩:=h
 have h0:Fs (· = b) w [⟨b,dskC f false log log q0 q1 c0 c1 none 0 0,T.ax_,true⟩] w:=(Fr.init _ w).entry h (λx h=>by cases h) λ_=>rfl
 refine hc_ b f false log q0 0 c0 log q1 0 c1 none 0 0 s (· = b) K w h0 ⟨rfl,trivial⟩ (ey_ h ⟨_,rfl,h0,λ_=>?_,(λt x h=>by cases h),.inl rfl⟩)
 refine qw_ hd hroom hs (λw1 hd1 hn g1=>?_) λw1 hn hd1 g1=>?_
 ·have hk:=h1 w1 hd1 hn g1
  obtain ⟨f1,q01,q11,c01,c11,wq,wc,_,hb1,_⟩:=hd1
  exact ⟨_,rfl,_,_,_,_,_,_,_,_,_,_,_,_,_,h0.mod1 g1 hb1,hk⟩
 ·have hk:=h2 w1 hn hd1 g1
  obtain ⟨f1,now,q01,q11,c01,c11,wq,wc,hb1,_⟩:=hd1
  exact ⟨_,rfl,_,_,_,_,_,_,_,_,_,_,_,_,_,h0.mod1 g1 hb1,hk⟩
theorem iw_ {s:ByteArray} {q:Option Addr} {c:Nat} {w:World} {K:Value→World→Prop} (hK:∀w' q' c',Grow w w'→K (.agg #[.string s,.slice q' 0 c']) w'):aa_ PR F.bF_ ⟨[.agg #[.string s,.slice q 0 c]]⟩ w K:=by
 refine bF_ s q 0 c S0 K w λb0 hb0 b1 hb1 w0 hF0=>?_
 refine fV_ (l:=[]) (Sl.nil _ _) rfl (by decide) λw1 q' c' g1 ho hc hof=>⟨_,_,_,rfl,hF0.after g1,λw2 hF2=>hK w2 q' c' hF2.chg⟩
theorem gH_ {w:World} {b:Nat} {f:Int} {log lasts:ByteArray} {q0 q1 wq:Option Addr} {c0 c1 wl wc:Nat} (h:w.heap[b]? = some (.cells (dskC f false log lasts q0 q1 c0 c1 wq wl wc) T.ax_ (0,0))) {K:Value→World→Prop}
  (hK:∀w' q' c',w'.heap[b]? = some (.cells (dskC f false log log q0 q' c0 c' none 0 0) T.ax_ (0,0))→Chg (· = b) w w'→K (.tuple #[]) w'):aa_ PR F.fE_ ⟨[.pointer (some ⟨b,0,none⟩)]⟩ w K:=by
 have h0:Fs (· = b) w [⟨b,dskC f false log lasts q0 q1 c0 c1 wq wl wc,T.ax_,true⟩] w:=(Fr.init _ w).entry h (λx h=>by cases h) λ_=>rfl
 refine hb_ b f false log q0 0 c0 lasts q1 0 c1 wq wl wc (· = b) K w h0 ⟨rfl,trivial⟩ (iw_ λw1 q' c' g1=>⟨_,_,_,_,rfl,h0.after g1,λw2 hF2=>?_⟩)
 exact hK w2 q' c' (hF2.blk 0 rfl) hF2.chg
theorem no_ {w:World} {b:Nat} {f:Int} {log lasts:ByteArray} {q0 q1 wq:Option Addr} {c0 c1 wl wc:Nat} (h:w.heap[b]? = some (.cells (dskC f false log lasts q0 q1 c0 c1 wq wl wc) T.ax_ (0,0))) (hf:okF f) {K:Value→World→Prop}
  (h1:∀w' f' q' c',okF f'→(f = -1→f' = -1)→w'.heap[b]? = some (.cells (dskC f' false log log q0 q' c0 c' none 0 0) T.ax_ (0,0))→Chg (· = b) w w'→K .nilIface w')
  (h2:∀w',f≠-1→w'.heap[b]? = some (.cells (dskC (-1) true log lasts q0 q1 c0 c1 wq wl wc) T.ax_ (0,0))→Chg (· = b) w w'→K (.iface T.am_ (.int .i64 8)) w'):aa_ PR F.dS_ ⟨[.pointer (some ⟨b,0,none⟩)]⟩ w K:=by
 have h0:Fs (· = b) w [⟨b,dskC f false log lasts q0 q1 c0 c1 wq wl wc,T.ax_,true⟩] w:=(Fr.init _ w).entry h (λx h=>by cases h) λ_=>rfl
 refine i8_ b f false log q0 0 c0 lasts q1 0 c1 wq wl wc (· = b) K w h0 ⟨rfl,trivial⟩ (ey_ h ⟨_,rfl,h0,λ_=>?_,(λt x h=>by cases h),.inl rfl⟩)
 refine iD_ h hf (λw1 f' hf' hff hb1 g1=>⟨_,rfl,_,_,_,_,_,_,_,_,_,_,_,_,_,h0.mod1 g1 hb1,λ_=>?_,(λt x h=>by cases h),.inl rfl⟩) λw1 hff hb1 g1=>⟨_,rfl,_,_,_,_,_,_,_,_,_,_,_,_,_,h0.mod1 g1 hb1,(λh=>by cases h),(λt x _=>h2 w1 hff hb1 g1),.inr ⟨_,_,rfl⟩⟩
 refine gH_ hb1 λw2 q' c' hb2 g2=>?_
 exact ⟨rfl,_,_,_,_,_,_,_,_,_,_,_,_,_,(h0.mod1 g1 hb1).mod1 g2 hb2,h1 w2 f' q' c' hf' hff hb2 (g1.trans g2 λ_ _ e=>e)⟩
theorem oU_ {n:Nat} {w:World} {b:Nat} {log s:ByteArray} (h:DskW n w b log s) (hn:b<n) {K:Value→World→Prop}
  (h1:∀w',cg_ w' b (log++s)→(NoF w b→NoF w' b)→Chg (· = b) w w'→K .nilIface w')
  (h2:∀w',¬NoF w b→DskD n w' b log [s]→Chg (· = b) w w'→K (.iface T.am_ (.int .i64 8)) w'):aa_ PR F.dS_ ⟨[.pointer (some ⟨b,0,none⟩)]⟩ w K:=by
 obtain ⟨f,q0,q1,c0,c1,wq,wc,hf,h,hs,ho⟩:=h
 refine no_ h hf (λw' f' q' c' hf' hff hb g=>h1 w' ⟨_,_,_,_,_,hf',hb⟩ (λhn=>?_) g) λw' hff hb g=>h2 w' (λhn=>hff (hn.eq h)) ⟨_,_,_,_,_,_,wq,wc,hb,?_,ho,hn⟩ g
 ·have:=hff (hn.eq h);subst this
  exact .mk hb
 ·show Sl w' wq (wrC s++[])
  rw [List.append_nil]
  exact hs.keep g λa ha e=>ho a ha (show a.block<n by have e':a.block=b:=e;omega)
theorem q__ {w:World} {K:Value→World→Prop} (hK:∀w' b,Grow w w'→w.heap.size≤b→cg_ w' b ⟨#[]⟩→NoF w' b→K (.pointer (some ⟨b,0,none⟩)) w'):aa_ PR F.sa_ ⟨[.int .i64 0]⟩ w K:=by
 obtain ⟨i,hi,hk,hb,hz⟩:=pf_
 have mk:∀ {w:World} {K:Value→World→Prop},(∀w' q,Grow w w'→K (.slice q 0 0) w')→rn PR (Instr.makeSlice T.aP_ (.int .i64 0) (.int .i64 0)) K w:=λh=>
  cO_ <| cQ_ (i:=i) (by_:=16) k2_ hi hz rfl hk hb (by omega) (by omega) (by omega) λb w' hbb hs g ho=>h w' _ g
 have e:(if (4096:Int)<(if (0:Int)>0 then 0 else 0) then (4096:Int) else (if (0:Int)>0 then 0 else 0))=0:=by decide
 refine qy_ 0 S0 K w ?_
 rw [e]
 refine ⟨λw0 hF0=>mk λw1 q1 g1=>⟨_,_,_,rfl,hF0.after g1,mk λw2 q2 g2=>⟨_,_,_,rfl,(hF0.after g1).after g2,λb4 hb4 w3 hF3=>?_⟩⟩,λw0 hF0=>mk λw1 q1 g1=>⟨_,_,_,rfl,hF0.after g1,mk λw2 q2 g2=>⟨_,_,_,rfl,(hF0.after g1).after g2,λb4 hb4 w3 hF3=>?_⟩⟩⟩
 ·exact hK w3 b4 hF3.chg (by have:=hF0.chg.size;have:=g1.size;have:=g2.size;omega) ⟨-1,q1,q2,0,0,⟨by decide,by decide⟩,hF3.blk 0 rfl⟩ (.mk (hF3.blk 0 rfl))
 ·exact hK w3 b4 hF3.chg (by have:=hF0.chg.size;have:=g1.size;have:=g2.size;omega) ⟨-1,q2,q1,0,0,⟨by decide,by decide⟩,hF3.blk 0 rfl⟩ (.mk (hF3.blk 0 rfl))
end Go.Vc
namespace Go.Vc
open Go
def logL (recs:List (List UInt8)):List UInt8:=recs.flatMap (bg_ crcN)
theorem cJ_ (recs:List (List UInt8)) (s:List UInt8):logL (recs++[s])=logL recs++bg_ crcN s:=by simp [logL]
structure cs_ (w:World) (bj bd:Nat) (q:Option Addr) (c:Nat) (recs:List (List UInt8)):Prop where
 blk:w.heap[bj]? = some (.cells #[.pointer (some ⟨bd,0,none⟩),.slice q recs.length c,.int .i64 (logL recs).length] T.aJ_ (0,0))
 own:Own T.string 1 w q c (recs.map sv8')
 cap:recs.length≤c
 dsk:cg_ w bd (str (logL recs))
 ne:bj≠bd
 off:∀a,q=some a→a.block≠bj∧a.block≠bd
def jrnS (bj bd:Nat) (q:Option Addr):Nat→Prop:=λk=>k=bj∨k=bd∨aS_ q k
theorem cs_.keep {S:Nat→Prop} {w w':World} {bj bd:Nat} {q:Option Addr} {c:Nat} {recs:List (List UInt8)} (h:cs_ w bj bd q c recs) (g:Chg S w w') (h1:∀k,S k→¬jrnS bj bd q k):cs_ w' bj bd q c recs:=
 ⟨g.get h.blk (λhs=>h1 _ hs (.inl rfl)),h.own.keep g (λa ha hs=>h1 _ hs (.inr (.inr ⟨a,ha,rfl⟩))),h.cap,h.dsk.keep g (λhs=>h1 _ hs (.inr (.inl rfl))),h.ne,h.off⟩
theorem cs_.grow {w w':World} {bj bd:Nat} {q:Option Addr} {c:Nat} {recs:List (List UInt8)} (h:cs_ w bj bd q c recs) (g:Grow w w'):cs_ w' bj bd q c recs:=h.keep g λ_ h=>h.elim
theorem nk_ {w:World} {bj bd:Nat} {q:Option Addr} {c:Nat} {recs:List (List UInt8)} (h:cs_ w bj bd q c recs) {y:Option Addr} {cy:Nat} {s:List UInt8} (hy:Sl w y [sv8' s]) (hyo:∀a,y=some a→¬jrnS bj bd q a.block) (hs:s.length≤60000) (hb:(logL recs).length≤1099511627776) (hr:recs.length≤1099511627776) {K:Value→World→Prop}
  (hK:∀w' q' c',cs_ w' bj bd q' c' (recs++[s])→(NoF w bd→NoF w' bd)→Chg (jrnS bj bd q) w w'→(∀a,q'=some a→q=some a∨w.heap.size≤a.block)→K .nilIface w')
  (hE:∀w' n ws,¬NoF w bd→DskD n w' bd (str (logL recs)) ws→w.heap.size≤n→(ws=[]∨ws=[str (bg_ crcN s)])→Chg (jrnS bj bd q) w w'→K (.iface T.am_ (.int .i64 8)) w') :
  aa_ PR F.dB_ ⟨[.pointer (some ⟨bj,0,none⟩),.slice y 1 cy]⟩ w K:=by
 have hlen:=bh_ crcN s
 have h0:Fs (jrnS bj bd q) w [⟨bj,#[.pointer (some ⟨bd,0,none⟩),.slice q recs.length c,.int .i64 (logL recs).length],T.aJ_,true⟩] w:=(Fr.init _ w).entry h.blk (λx h=>by cases h) λ_=>.inl rfl
 have hbj:=aj_ h.blk
 refine ee_ bj (some ⟨bd,0,none⟩) q recs.length c (logL recs).length y 1 cy (jrnS bj bd q) K w h0 ⟨.inl rfl,trivial⟩ ?_
 have put:∀(K':Value→World→Prop),(∀w' q' c',w'.heap[bj]? = some (.cells #[.pointer (some ⟨bd,0,none⟩),.slice q' (recs++[s]).length c',.int .i64 (logL (recs++[s])).length] T.aJ_ (0,0))→Own T.string 1 w' q' c' ((recs++[s]).map sv8')→(recs++[s]).length≤c'→(∃n,DskW n w' bd (str (logL recs)) (str (bg_ crcN s))∧w.heap.size≤n)→(NoF w bd→NoF w' bd)→
   (∀a,q'=some a→q=some a∨w.heap.size≤a.block)→Chg (jrnS bj bd q) w w'→K' .nilIface w')→(∀w' n,¬NoF w bd→DskD n w' bd (str (logL recs)) []→w.heap.size≤n→w'.heap[bj]? = some (.cells #[.pointer (some ⟨bd,0,none⟩),.slice q recs.length c,.int .i64 (logL recs).length] T.aJ_ (0,0))→Chg (jrnS bj bd q) w w'→K' (.iface T.am_ (.int .i64 8)) w')→aa_ PR F.d5_ #[.pointer (some ⟨bj,0,none⟩),.slice y 1 cy] w K':=by
  intro K' hK' hE'
  refine ff_ bj (some ⟨bd,0,none⟩) q recs.length c (logL recs).length y 1 cy (jrnS bj bd q) K' w h0 ⟨.inl rfl,trivial⟩ ?_
  refine ⟨λt i m w'=>∃k:Nat,i=k∧k≤1∧m=1 - k∧t=str (if k=0 then [] else bg_ crcN s)∧Grow w w',⟨_,0,rfl,by omega,rfl,rfl,.refl _ _⟩,?_⟩
  rintro t i D m w1 ⟨k,rfl,hk,rfl,rfl,g1⟩ hF1
  refine ⟨λhlt=>?_,λhge=>?_⟩
  ·have hk0:k=0:=by omega
   subst hk0
   refine (hy.grow g1).rd (v:=sv8' s) (by simp) (by omega) rfl λa ha=>⟨_,ha,?_⟩
   refine mb_ hs λw2 g2=>⟨_,_,rfl,hF1.after g2,λ_=>⟨?_,_,?_,1,rfl,by omega,rfl,?_,g1.trans g2⟩,(λt x h=>by cases h),.inl rfl⟩
   ·rw [af_,af_,hlen];simp;omega
   ·omega
   ·rw [ai_];rfl
  ·have hk1:k=1:=by omega
   subst hk1
   rw [if_neg (by omega),af_]
   have hsn:str (bg_ crcN s)≠⟨#[]⟩:=λe=>by have:=congrArg ByteArray.size e;rw [af_,hlen,show ByteArray.size ⟨#[]⟩=0 from rfl] at this;omega
   have nf1:NoF w bd→NoF w1 bd:=λhn=>hn.keep g1 λe=>e
   have nf1':¬NoF w1 bd→¬NoF w bd:=λhn h=>hn (nf1 h)
   have s1:=g1.size
   have hblt:bd<w.heap.size:=by obtain ⟨_,_,_,_,_,_,hh⟩:=h.dsk;exact aj_ hh
   refine mp_ (h.grow g1).dsk (by rw [af_,af_,hlen];omega) hsn (λw2 hd2 hn2 g2=>?_) λw2 hn2 hd2 g2=>?_
   rotate_left
   ·exact ⟨_,rfl,hF1.step g2 (λx hx=>by simp at hx;subst hx;exact h.ne) (λk _ e=>.inr (.inl e)),(λh=>by cases h),(λt x _=>hE' w2 _ (nf1' hn2) hd2 s1 (g2.get (hF1.blk 0 rfl) h.ne) (g1.then g2 |>.mono λk _ e=>.inr (.inl e))),.inr ⟨_,_,rfl⟩⟩
   have hbd:∀k,k=bd→jrnS bj bd q k:=λk e=>.inr (.inl e)
   have hF2:=hF1.step g2 (λx hx=>by simp at hx;subst hx;exact h.ne) λk _ e=>hbd k e
   refine ⟨_,rfl,hF2,λ_=>?_,(λt x h=>by cases h),.inl rfl⟩
   have ho2:Own T.string 1 w2 q c (recs.map sv8'):=(h.own.grow g1).keep g2 λa ha e=>(h.off a ha).2 e
   have hy2:Sl w2 y [sv8' s]:=(hy.grow g1).keep g2 λa ha e=>hyo a ha (.inr (.inl e))
   refine gA_ ho2 rfl h.cap (ys:=[s]) hy2 rfl (by omega) λq' c' w3 ho3 hc3 g3 hq3=>?_
   have hF3:=hF2.step g3 (λx hx ⟨a,ha,e⟩=>by simp at hx;subst hx;exact (h.off a ha).1 e.symm) λk _ e=>.inr (.inr e)
   refine ⟨_,_,_,rfl,hF3,λw4 hF4=>?_⟩
   have g4:Chg (· = bj) w3 w4:=hF4.stp.mono λi _ hi=>by simpa using hi
   have s2:=g1.size
   have s3:=g2.size
   have hq':∀a,q'=some a→q=some a∨w.heap.size≤a.block:=λa ha=>by
    rcases hq3 a ha with e | e
    ·exact .inl e
    ·subst e;exact .inr (by simp only [];omega)
   have hqb:∀a,q'=some a→a.block≠bj:=λa ha=>by
    rcases hq' a ha with e | e
    ·exact (h.off a e).1
    ·omega
   have hl2:(recs++[s]).length=recs.length+1:=by simp
   refine hK' w4 q' c' ?_ (ho3.keep g4 λa ha e=>hqb a ha e) (by rw [hl2];exact hc3) ⟨_,?_,s1⟩ (λhn=>?_) hq' hF4.chg
   ·have hb4:=hF4.blk 0 rfl
    simp only [] at hb4
    rw [w64 (by rw [hlen];omega) (by rw [hlen];omega)] at hb4
    rw [hb4,hl2,cJ_,List.length_append]
    simp
   ·have hqn:∀k,aS_ q k→k<w1.heap.size:=λk ⟨a,ha,e⟩=>by have:=h.own.lt a ha;omega
    exact (hd2.keep g3 (λ⟨a,ha,e⟩=>(h.off a ha).2 e.symm) hqn).keep g4 (λe=>h.ne e.symm) λk e=>by omega
   ·exact ((hn2 (nf1 hn)).keep g3 λ⟨a,ha,e⟩=>(h.off a ha).2 e.symm).keep g4 λe=>h.ne e.symm
 have hblt:bd<w.heap.size:=by obtain ⟨_,_,_,_,_,_,hh⟩:=h.dsk;exact aj_ hh
 refine put _ (λw1 q1 c1 hb1 ho1 hc1 ⟨n,hd1,hsn⟩ hn1 hq1 g1=>?_) λw1 n hn hd1 hsn hb1 g1=>?_
 rotate_left
 ·exact ⟨_,rfl,_,_,_,_,_,h0.mod g1 hb1 (λx hx=>by cases hx) (λ_ _ h=>h),(λh=>by cases h),(λt x _=>hE w1 n [] hn hd1 hsn (.inl rfl) g1),.inr ⟨_,_,rfl⟩⟩
 have hF1:Fs (jrnS bj bd q) w [⟨bj,#[.pointer (some ⟨bd,0,none⟩),.slice q1 (recs++[s]).length c1,.int .i64 (logL (recs++[s])).length],T.aJ_,true⟩] w1:=h0.mod g1 hb1 (λx hx=>by cases hx) λ_ _ h=>h
 refine ⟨_,rfl,_,_,_,_,_,hF1,λ_=>?_,(λt x h=>by cases h),.inl rfl⟩
 have h1:Fs (λk=>k=bj∨k=bd) w1 [⟨bj,#[.pointer (some ⟨bd,0,none⟩),.slice q1 (recs++[s]).length c1,.int .i64 (logL (recs++[s])).length],T.aJ_,true⟩] w1:=(Fr.init _ w1).entry hb1 (λx h=>by cases h) λ_=>.inl rfl
 refine ef_ bj (some ⟨bd,0,none⟩) q1 (recs++[s]).length c1 (logL (recs++[s])).length (λk=>k=bj∨k=bd) _ w1 h1 ⟨.inl rfl,trivial⟩ ?_
 refine oU_ hd1 (by omega) (λw2 hd2 hn2 g2=>⟨_,rfl,h1.step g2 (λx hx=>by simp at hx;subst hx;exact h.ne) λk _ e=>.inr e,?_⟩) λw2 hn2 hd2 g2=>⟨_,rfl,h1.step g2 (λx hx=>by simp at hx;subst hx;exact h.ne) λk _ e=>.inr e,⟨_,rfl,_,_,_,_,_,hF1.step g2 (λx hx=>by simp at hx;subst hx;exact h.ne) (λk _ e=>.inr (.inl e)),hE w2 n _ (λh=>hn2 (hn1 h)) hd2 hsn (.inr rfl) (g1.trans g2 λ_ _ e=>.inr (.inl e))⟩⟩
 rw [ai_,← cJ_] at hd2
 have hF2:=hF1.step g2 (λx hx=>by simp at hx;subst hx;exact h.ne) λk _ e=>.inr (.inl e)
 refine ⟨_,rfl,_,_,_,_,_,hF2,hK w2 q1 c1 ⟨hF2.blk 0 rfl,ho1.keep g2 ?_,hc1,hd2,h.ne,?_⟩ (λhn=>hn2 (hn1 hn)) (g1.trans g2 λ_ _ e=>.inr (.inl e)) hq1⟩
 ·intro a ha e
  rcases hq1 a ha with e' | e'
  ·exact (h.off a e').2 e
  ·have e2:a.block=bd:=e;omega
 ·intro a ha
  rcases hq1 a ha with e' | e'
  ·exact h.off a e'
  ·omega
end Go.Vc
namespace Go.Vc
open Go
theorem jg_ {w:World} {K:Value→World→Prop} (hK:∀w' v,Grow w w'→t9_ v→K (.tuple #[.string ⟨#[]⟩,.int .i64 0,v]) w'):aa_ PR F.dq_ ⟨[.string ⟨#[]⟩,.int .i64 0]⟩ w K:=by
 refine dq_ ⟨#[]⟩ 0 S0 K w λb hb=>⟨λh=>by omega,λ_=>⟨λh=>absurd h (by decide),λ_=>⟨λ_ w4 hF4=>?_,λh=>absurd (by decide) h⟩⟩⟩
 have h4:Fs S0 w4 [⟨b,#[.int .i64 0],T.int,false⟩] w4:=(Fr.init _ w4).entry (hF4.blk 0 rfl) (λx h=>by cases h) λh=>by cases h
 refine jI_ _ b 0 S0 _ w4 h4 ⟨rfl,λw5 hF5=>⟨_,_,_,rfl,hF4.after hF5.grow,hK w5 _ (hF4.grow.trans hF5.grow) ⟨_,_,rfl⟩⟩⟩
theorem kZ_ {w:World} {K:Value→World→Prop} (hK:∀w',Grow w w'→K (.tuple #[.slice none 0 0,.int .i64 0]) w'):aa_ PR F.ej_ ⟨[.string ⟨#[]⟩]⟩ w K:=by
 refine ej_ ⟨#[]⟩ S0 K w ⟨λq l c n m w'=>q=none∧l=0∧c=0∧n=0,⟨0,rfl,rfl,rfl,rfl⟩,?_⟩
 rintro q l c n D m w0 ⟨rfl,rfl,rfl,rfl⟩ hF
 refine jg_ λw1 v g1 hv=>⟨_,_,_,rfl,hF.after g1,(λh=>by obtain ⟨t,x,rfl⟩:=hv;cases h),λt x h=>hK w1 (hF.gr.trans g1),.inr (by obtain ⟨t,x,h⟩:=hv;exact ⟨t,x,h⟩)⟩
theorem nl_ {w:World} {bd:Nat} (h:cg_ w bd ⟨#[]⟩) {K:Value→World→Prop} (hK:∀w' bj,Grow w w'→w.heap.size≤bj→cs_ w' bj bd none 0 []→K (.tuple #[.pointer (some ⟨bj,0,none⟩),.nilIface]) w'):aa_ PR F.gK_ ⟨[.pointer (some ⟨bd,0,none⟩)]⟩ w K:=by
 have hfr:∀ {w':World},Grow w w'→Fs S0 w [] w':=λg=>(Fr.init _ w).after g
 have hlt:bd<w.heap.size:=by obtain ⟨_,_,_,_,_,_,hh⟩:=h;exact aj_ hh
 refine fQ_ (some ⟨bd,0,none⟩) S0 K w ?_
 refine n9_ h ⟨_,_,rfl,.init _ w,λ_=>?_,(λt x h=>by cases h),.inl rfl⟩
 refine kZ_ λw1 g1=>⟨_,_,_,_,rfl,hfr g1,λh=>absurd h (by decide),λ_=>⟨λ_=>?_,(λt x h=>by cases h),.inl rfl⟩⟩
 refine gC_ (h.keep g1 id) ⟨_,rfl,hfr g1,λh=>by omega,λ_=>⟨λ_ b hb w2 hF2=>?_,(λt x h=>by cases h),.inl rfl⟩⟩
 have s1:=g1.size
 refine hK w2 b hF2.chg (by omega) ⟨hF2.blk 0 rfl,.nil _ _ _,Nat.le_refl _,h.keep hF2.chg id,by omega,λa h=>by cases h⟩
theorem mi_ {w:World} {bj bd:Nat} {q:Option Addr} {c:Nat} {recs:List (List UInt8)} (h:cs_ w bj bd q c recs) (hn:recs.length≤1000000) {K:Value→World→Prop}
  (hK:∀w' q' c',Grow w w'→Own T.string 1 w' q' c' (recs.map sv8')→K (.slice q' recs.length c') w'):aa_ PR F.d6_ ⟨[.pointer (some ⟨bj,0,none⟩)]⟩ w K:=by
 have h0:Fs (· = bj) w [⟨bj,#[.pointer (some ⟨bd,0,none⟩),.slice q recs.length c,.int .i64 (logL recs).length],T.aJ_,true⟩] w:=(Fr.init _ w).entry h.blk (λx h=>by cases h) λ_=>rfl
 refine fg_ bj (some ⟨bd,0,none⟩) q recs.length c (logL recs).length (· = bj) K w h0 ⟨rfl,trivial⟩ ?_
 have e:recs.map sv8'=(recs.map str).map sv1:=by rw [List.map_map];rfl
 have hs:=h.own.sl
 rw [e] at hs
 refine fV_ hs (by simp) hn λw1 q' c' g1 ho hc hof=>⟨_,_,_,rfl,h0.after g1,hK w1 q' c' g1 (by rw [e];exact ho)⟩
theorem nm_ {w:World} {bj bd:Nat} {q:Option Addr} {c:Nat} {recs:List (List UInt8)} (h:cs_ w bj bd q c recs) {K:Value→World→Prop} (hK:K (.int .i64 (logL recs).length) w):aa_ PR F.dC_ ⟨[.pointer (some ⟨bj,0,none⟩)]⟩ w K:=
 eg_ bj (some ⟨bd,0,none⟩) q recs.length c (logL recs).length (· = bj) K w ((Fr.init _ w).entry h.blk (λx h=>by cases h) λ_=>rfl) ⟨rfl,trivial⟩ hK
end Go.Vc
namespace Go.Vc
open Go
def ao_ (xs:List (List UInt8)):List UInt8:=(xs.map λs=>ac_ s.length++s).flatten
theorem j__ {xs:List (List UInt8)} {k:Nat} (h:k<xs.length):ao_ (xs.take (k+1))=ao_ (xs.take k)++(ac_ xs[k].length++xs[k]):=by
 unfold ao_;rw [aV_ h,List.map_append,List.flatten_append];simp
theorem hQ_ (xs:List (List UInt8)) (k:Nat):(ao_ (xs.take k)).length≤(ao_ xs).length:=by
 have:ao_ xs=ao_ (xs.take k)++ao_ (xs.drop k):=by
  unfold ao_;rw [← List.flatten_append,← List.map_append,List.take_append_drop]
 rw [this,List.length_append];omega
theorem au_ {q:Option Addr} {n c:Nat} {xs:List (List UInt8)} {w:World} (hs:Sl w q (xs.map sv8')) (hl:n=xs.length) (hn:n≤1000000) (hb:(ao_ xs).length≤35184372088832) {K:Value→World→Prop}
  (hK:∀w',Grow w w'→K (.string (str (ao_ xs))) w'):aa_ PR F.kl_ ⟨[.slice q n c]⟩ w K:=by
 subst hl
 refine i0_ q xs.length c S0 K w λb hb0 w0 hF0=>?_
 have hbb:=hF0.blk 0 rfl
 have hbl:b<w0.heap.size:=aj_ hbb
 have off0:∀ {q:Option Addr} {bs:List UInt8} {p:Option Addr} {l c:Nat} {w':World},BldP w' b w0.heap.size p q l c bs→∀j,j<w.heap.size→¬(j=b∨aS_ q j):=by
  rintro q bs p l c w' h j hj (e | ⟨a,ha,e⟩)
  ·omega
  ·have:=h.off.le a ha;have:=hF0.chg.size;omega
 have hmod:∀ {w1 w2:World} {p q p' q':Option Addr} {l c l' c':Nat} {bs bs':List UInt8},Fs S0 w [⟨b,#[.pointer p,.slice q l c],T.ah_,true⟩] w1→BldP w1 b w0.heap.size p q l c bs→BldP w2 b w0.heap.size p' q' l' c' bs'→Chg (λk=>k=b∨aS_ q k) w1 w2→
   Fs S0 w [⟨b,#[.pointer p',.slice q' l' c'],T.ah_,true⟩] w2:=λhF h1 h2 g=>hF.mod g h2.blk (λx hx=>by cases hx) λj hj hs=>absurd hs (off0 h1 j hj)
 refine ⟨λi p q l c m w'=>∃k:Nat,i=k∧k≤xs.length∧m=xs.length - k∧BldP w' b w0.heap.size p q l c (ao_ (xs.take k))∧w0.heap.size≤w'.heap.size,⟨_,0,rfl,by omega,rfl,.new hbb hbl,Nat.le_refl _⟩,?_⟩
 rintro i p q1 l c1 D m w1 ⟨k,rfl,hk,rfl,hB,hsz⟩ hF
 have hle:=hQ_ xs k
 refine ⟨λhlt=>?_,λhge=>?_⟩
 ·have hk':k<xs.length:=by omega
  have hnx:=j__ hk'
  have hle2:=hQ_ xs (k+1)
  rw [hnx,List.length_append,List.length_append] at hle2
  refine (hs.grow hF.gr).rd (v:=sv8' xs[k]) (by simp) (by omega) (by simp [hk']) λa ha=>⟨_,ha,?_⟩
  rw [af_]
  refine f6_ (by omega) (by omega) λw2 g2=>⟨_,rfl,hF.after g2,?_⟩
  rw [Int.toNat_natCast]
  simp only [af_,ai_]
  have hB2:=hB.grow g2
  have hl:=hB2.len
  refine ⟨by omega,?_⟩
  refine aZ_ hB2 (by have:=g2.size;omega) (by rw [af_,List.length_append];omega) λw3 p' q' l' c' hB3 g3 hq3=>⟨_,_,rfl,p',q',l',c',hmod (hF.after g2) hB2 hB3 g3,xs.length - (k+1),by omega,k+1,wr1 (by omega),by omega,rfl,?_,by have:=g2.size;have:=g3.size;omega⟩
  rw [be_] at hB3
  rw [hnx];exact hB3
 ·have e:k=xs.length:=by omega
  subst e
  rw [List.take_length] at hB
  refine dO_ hB λw2 g2=>⟨_,rfl,hF.step g2 (λx hx ⟨a,ha,e⟩=>?_) (λj hj hj'=>off0 hB j hj (.inr hj')),?_⟩
  ·simp at hx;subst hx
   have:=hB.off.le a ha;simp only [] at e;omega
  ·exact hK w2 (Chg.trans hF.gr g2 λj hj hj'=>absurd (.inr hj') (off0 hB j hj))
def mval (m:Man) (q:Option Addr) (c:Nat):Value:=.agg #[.int .i64 m.version,.int .i64 m.nodes,.int .i64 m.edges,.slice q m.shards.length c,.int .i64 m.blocks,.string (str m.root)]
theorem lI_ {n a b:Int} (h:a≤n∧n≤b) {w:World} {K:Value→World→Prop} (hK:K (.bool true) w):aa_ PR F.fd_ ⟨[.int .i64 n,.int .i64 a,.int .i64 b]⟩ w K:=
 fd_ n a b S0 K w ⟨λ_=>⟨λ_=>hK,λh'=>by omega⟩,λh'=>by omega⟩
theorem r0_ {m:Man} (h:m.ok) {q:Option Addr} {c:Nat} {w:World} {K:Value→World→Prop} (hK:∀w',Grow w w'→K (.int .i64 (-1)) w'):aa_ PR F.c__ ⟨[mval m q c]⟩ w K:=by
 have hs:=h.shards
 have hiff:m.shards.length=0↔m.nodes=0:=by rw [← hs.2];exact List.length_eq_zero_iff
 refine c__ m.version m.nodes m.edges q m.shards.length c m.blocks (str m.root) S0 K w λb hb w0 hF0=>?_
 refine lI_ h.version ⟨true,rfl,λ_=>⟨hF0.reset,lI_ h.nodes ⟨true,rfl,λ_=>⟨hF0.reset,lI_ h.edges ⟨true,rfl,λ_=>⟨hF0.reset,λh'=>by omega,λ_=>⟨λh0=>⟨λ_=>hK w0 hF0.chg,λh1=>by omega⟩,λh0=>⟨λh1=>by omega,λ_=>hK w0 hF0.chg⟩⟩⟩,(λh=>by cases h)⟩⟩,(λh=>by cases h)⟩⟩,(λh=>by cases h)⟩
theorem pe_ {nodes:Int} : ∀ {l:List (Int × Int)} {p:Option Int},my_ nodes p l→∀k,(hk:k<l.length)→(3≤l[k].2∧l[k].2≤1048576)∧(k=0→p=none→l[k].1=0)∧((hk0:0<k)→l[k - 1].1+1≤l[k].1∧l[k].1≤nodes - 1)
 | [],_,_,k,hk=>by simp at hk
 | (f,b) :: l,none,h,k,hk=>by
  obtain ⟨h0,h1,h2,h3⟩:=h
  cases k with
  | zero=>exact ⟨⟨h1,h2⟩,λ_ _=>h0,λh=>by omega⟩
  | succ k=>
   have ih:=pe_ h3 k (by simpa using hk)
   refine ⟨ih.1,λh=>by omega,λ_=>?_⟩
   cases k with
   | zero=>
    match l,h3,hk with
    | (f',b') :: l',h3,_=>obtain ⟨a1,a2,_⟩:=h3;exact ⟨a1,a2⟩
   | succ k=>exact ih.2.2 (by omega)
 | (f,b) :: l,some p,h,k,hk=>by
  obtain ⟨h0,h0',h1,h2,h3⟩:=h
  cases k with
  | zero=>exact ⟨⟨h1,h2⟩,(λ_ h=>by cases h),λh=>by omega⟩
  | succ k=>
   have ih:=pe_ h3 k (by simpa using hk)
   refine ⟨ih.1,λh=>by omega,λ_=>?_⟩
   cases k with
   | zero=>
    match l,h3,hk with
    | (f',b') :: l',h3,_=>obtain ⟨a1,a2,_⟩:=h3;exact ⟨a1,a2⟩
   | succ k=>exact ih.2.2 (by omega)
theorem pd_ {m:Man} (h:m.ok) {q:Option Addr} {c:Nat} {w:World} (hs:Sl w q (encE m.shards)) {K:Value→World→Prop} (hK:∀w',Grow w w'→K (.int .i64 (-1)) w'):aa_ PR F.cI_ ⟨[mval m q c]⟩ w K:=by
 have hsl:=h.shards.1
 have hno:=h.nodes
 refine cI_ m.version m.nodes m.edges q m.shards.length c m.blocks (str m.root) S0 K w λb hb w0 hF0=>?_
 refine ⟨λi k w'=>∃j:Nat,i=j∧j≤m.shards.length∧k=m.shards.length - j,⟨_,0,rfl,by omega,rfl⟩,?_⟩
 rintro i D k w1 ⟨j,rfl,hj,rfl⟩ hF
 refine ⟨λhlt=>?_,λhge=>hK w1 hF.gr⟩
 have hj':j<m.shards.length:=by omega
 obtain ⟨hb1,hz,hp⟩:=pe_ h.tab j hj'
 have fin:∃l4:Nat,l4<m.shards.length - j∧∃j1:Nat,IntKind.wrap .i64 ((j:Int)+1)=j1∧j1≤m.shards.length∧l4=m.shards.length - j1:=⟨m.shards.length - (j+1),by omega,j+1,wr1 (by omega),by omega,rfl⟩
 refine (hs.grow hF.gr).rd2 rfl hj' hj' λa ha1 ha2=>⟨_,ha1,_,ha2,λb3 hb3=>?_⟩
 refine ⟨λh0=>⟨λhj0 w2 hF2=>⟨(· = w2),rfl,?_⟩,λhj0 w6 hF6=>?_⟩,λh0=>⟨λhj0 w8 hF8=>⟨(· = w8),rfl,?_⟩,λhj0 w12 hF12=>?_⟩⟩
 ·have hj1:0<j:=by omega
  have:=hp hj1
  rw [wrP hj1 (by omega)]
  refine (hs.grow hF2.chg).rd2 (k:=j - 1) rfl (by omega) (by omega) λa ha1 ha2=>ad_.2 ⟨_,λw3 e=>e ▸ ha1,?_⟩
  have hbd:=cu_ hno.2 (λ_ h=>by cases h) h.tab _ (List.getElem_mem (show j - 1<m.shards.length by omega))
  rw [w64 (n:=m.shards[j - 1].1+1) (by omega) (by omega),w64 (n:=m.nodes - 1) (by omega) (by omega)]
  exact lI_ this ⟨true,rfl,λ_=>⟨hF2.reset,rfl,lI_ hb1 ⟨true,rfl,λ_=>⟨hF2.reset,fin⟩,(λh=>by cases h)⟩⟩,(λh=>by cases h)⟩
 ·exact lI_ hb1 ⟨true,rfl,λ_=>⟨hF6.reset,fin⟩,(λh=>by cases h)⟩
 ·have hj1:0<j:=by omega
  have:=hp hj1
  rw [wrP hj1 (by omega)]
  refine (hs.grow hF8.chg).rd2 (k:=j - 1) rfl (by omega) (by omega) λa ha1 ha2=>ad_.2 ⟨_,λw3 e=>e ▸ ha1,?_⟩
  have hbd:=cu_ hno.2 (λ_ h=>by cases h) h.tab _ (List.getElem_mem (show j - 1<m.shards.length by omega))
  rw [w64 (n:=m.shards[j - 1].1+1) (by omega) (by omega),w64 (n:=m.nodes - 1) (by omega) (by omega)]
  exact lI_ this ⟨true,rfl,λ_=>⟨hF8.reset,rfl,lI_ hb1 ⟨true,rfl,λ_=>⟨hF8.reset,fin⟩,(λh=>by cases h)⟩⟩,(λh=>by cases h)⟩
 ·exact absurd (hz (by omega) rfl) h0
end Go.Vc
namespace Go.Vc
open Go
theorem fr_ {l:List Int} {k:Nat} (h:k<l.length):(l.take (k+1)).sum=(l.take k).sum+l[k]:=by
 rw [aV_ h,List.sum_append];simp
theorem oH_ {m:Man} (h:m.ok) {q:Option Addr} {c:Nat} {w:World} (hs:Sl w q (encE m.shards)) {K:Value→World→Prop} (hK:∀w',Grow w w'→0≤m.total→m.total≤67108864→K (.int .i64 m.total) w'):aa_ PR F.da_ ⟨[mval m q c]⟩ w K:=by
 have hsl:=h.shards.1
 have hno:=h.nodes
 have hbd:∀k,k≤m.shards.length→0≤((m.shards.map (·.2)).take k).sum∧((m.shards.map (·.2)).take k).sum≤k*1048576:=by
  intro k
  induction k with
  | zero=>intro _;simp
  | succ k ih=>
   intro hk
   have hk':k<m.shards.length:=hk
   have i:=ih (by omega)
   have:=cu_ hno.2 (λ_ h=>by cases h) h.tab _ (List.getElem_mem hk')
   rw [fr_ (by simpa using hk'),List.getElem_map]
   omega
 refine da_ m.version m.nodes m.edges q m.shards.length c m.blocks (str m.root) S0 K w λb hb w0 hF0=>?_
 refine ⟨λx i k w'=>∃j:Nat,i=j∧j≤m.shards.length∧k=m.shards.length - j∧x=((m.shards.map (·.2)).take j).sum,⟨_,0,rfl,by omega,rfl,by simp⟩,?_⟩
 rintro x i D k w1 ⟨j,rfl,hj,rfl,rfl⟩ hF
 refine ⟨λhlt=>?_,λhge=>?_⟩
 ·have hj':j<m.shards.length:=by omega
  have b1:=hbd j hj
  have b2:=hbd (j+1) (by omega)
  have hn:=fr_ (l:=m.shards.map (·.2)) (k:=j) (by simpa using hj')
  rw [List.getElem_map] at hn
  refine (hs.grow hF.gr).rd2 rfl hj' hj' λa ha1 ha2=>⟨_,ha1,_,ha2,λb3 hb3 w2 hF2=>⟨_,?_,j+1,wr1 (by omega),by omega,rfl,?_⟩⟩
  ·omega
  ·rw [w64 (by omega) (by omega),hn]
 ·have e:j=m.shards.length:=by omega
  subst e
  have b1:=hbd _ (Nat.le_refl m.shards.length)
  have e2:((m.shards.map (·.2)).take m.shards.length).sum=m.total:=by rw [List.take_of_length_le (by simp)];rfl
  rw [e2] at b1 ⊢
  exact hK w1 hF.gr b1.1 (by omega)
theorem rz_ {m:Man} (h:m.ok) {q:Option Addr} {c:Nat} {w:World} (hs:Sl w q (encE m.shards)) {K:Value→World→Prop} (hK:∀w',Grow w w'→K (.int .i64 (-1)) w'):aa_ PR F.c9_ ⟨[mval m q c]⟩ w K:=by
 refine c9_ m.version m.nodes m.edges q m.shards.length c m.blocks (str m.root) S0 K w λb hb w0 hF0=>?_
 refine r0_ h λw1 g1=>⟨_,rfl,hF0.after g1,λh=>by omega,λ_=>?_⟩
 have hF1:=hF0.after g1
 refine pd_ h (hs.grow hF1.chg) λw2 g2=>⟨_,rfl,hF1.after g2,λh=>by omega,λ_ w3 hF3=>?_⟩
 refine oH_ h (hs.grow hF3.chg) λw4 g4 ht0 ht1=>⟨_,rfl,hF3.after g4,?_⟩
 have hF4:=hF3.after g4
 obtain ⟨t,ht⟩:=Int.eq_ofNat_of_zero_le ht0
 rw [ht]
 refine gE_ (by omega) ⟨_,rfl,hF4,?_⟩
 have hb1:=h.blocks
 rw [ht,jM_] at hb1
 refine ⟨λ_=>⟨λh=>by omega,λ_=>⟨λ_=>hK w4 hF4.chg,λh'=>absurd (by rw [af_,h.root];rfl) h'⟩⟩,λh'=>absurd hb1.1 h'⟩
theorem mh_ {m:Man} (h:m.ok) {q:Option Addr} {c:Nat} {w:World} (hs:Sl w q (encE m.shards)) {K:Value→World→Prop} (hK:∀w',Grow w w'→K .nilIface w'):aa_ PR F.db_ ⟨[mval m q c]⟩ w K:=by
 refine db_ m.version m.nodes m.edges q m.shards.length c m.blocks (str m.root) S0 K w λb hb w0 hF0=>?_
 refine rz_ h (hs.grow hF0.chg) λw1 g1=>⟨_,rfl,hF0.after g1,λh=>by omega,λ_=>hK w1 (hF0.after g1).chg⟩
theorem hG_ {l:List Int} {k:Nat} (h:k<l.length):aM_ (l.take (k+1))=aM_ (l.take k)++ac_ l[k].toNat:=by
 unfold aM_;rw [aV_ h,List.flatMap_append];simp
theorem es_ {l:List Int} (h:∀n∈l,0≤n∧n≤72057594037927935):(aM_ l).length≤8*l.length:=by
 induction l with
 | nil=>simp [aM_]
 | cons x l ih=>
  have i:=ih λn hn=>h n (List.mem_cons_of_mem _ hn)
  have:=al_ (n:=x.toNat) (by have:=h x List.mem_cons_self;omega)
  simp only [aM_,List.flatMap_cons,List.length_append,List.length_cons] at i ⊢;omega
theorem q4_ {m:Man} (h:m.ok) {q:Option Addr} {c:Nat} {w:World} (hs:Sl w q (encE m.shards)) {K:Value→World→Prop} (hK:∀w',Grow w w'→K (.tuple #[.string (str (aH_ m)),.nilIface]) w'):aa_ PR F.eb_ ⟨[mval m q c]⟩ w K:=by
 have hsl:=h.shards.1
 have hnums:=h.nums
 have hroot:=h.root
 have hnl:m.nums.length=5+2*m.shards.length:=by simp [Man.nums,b1_];omega
 have hsh:=es_ hnums
 refine eb_ m.version m.nodes m.edges q m.shards.length c m.blocks (str m.root) S0 K w λb hb w0 hF0=>?_
 refine mh_ h (hs.grow hF0.chg) λw1 g1=>⟨_,rfl,hF0.after g1,λ_=>?_,(λt x h=>by cases h),.inl rfl⟩
 intro b1 hb1 w2 hF2
 have hbl:b<w2.heap.size:=hF2.lt _ List.mem_cons_self
 let pre (k:Nat):List Int:=[m.version,m.nodes,m.edges,(m.shards.length:Int)]++eK_ (m.shards.take k)
 have hprel:∀k,k≤m.shards.length→(pre k).length=4+2*k:=λk hk=>by simp [pre,b1_,Nat.min_eq_left hk];omega
 refine ⟨λq1 l1 c1 i k w'=>∃j:Nat,i=j∧j≤m.shards.length∧k=m.shards.length - j∧Own T.int 1 w' q1 c1 ((pre j).map iv)∧4+2*j=l1∧l1≤c1∧Off (λx=>x<w1.heap.size) q1∧w1.heap.size≤w'.heap.size,⟨_,0,rfl,by omega,rfl,?_,rfl,Nat.le_refl _,?_,hF2.grow.size⟩,?_⟩
 ·have:pre 0=[m.version,m.nodes,m.edges,(m.shards.length:Int)]:=by simp [pre,eK_]
  rw [this]
  exact hF2.own 1 rfl rfl (by omega)
 ·intro a ha hlt;cases ha;simp only [] at hlt;omega
 rintro q1 l1 c1 i D k w3 ⟨j,rfl,hj,rfl,ho,rfl,hlc,hof,hsz⟩ hF3
 have hF0b:b<w1.heap.size:=by have:=hF0.lt _ List.mem_cons_self;have:=g1.size;simp only [] at *;omega
 refine ⟨λhlt=>?_,λhge=>?_⟩
 ·have hj':j<m.shards.length:=by omega
  refine (hs.grow hF3.gr).rd2 rfl hj' hj' λa ha1 ha2=>⟨_,ha1,_,ha2,λb6 hb6 b7 hb7 w4 hF4=>?_⟩
  have g34:Chg (· = b6) w3 w4:=hF4.stp.mono λx _ hx=>by simpa using hx
  have ho4:Own T.int 1 w4 q1 c1 ((pre j).map iv):=ho.keep g34 λa ha e=>by have:=ho.lt a ha;have e':a.block=b6:=e;omega
  refine gQ_ ho4 (by rw [hprel j hj]) hlc (ys:=[m.shards[j].1,m.shards[j].2]) (hF4.sl 2 rfl) rfl (by omega) λq2 c2 w5 ho5 hc5 g5 hq5=>?_
  have hF5:=hF4.app2 g5 w1.heap.size w3.heap.size hof (λa ha=>ho.lt a ha) (λy hy=>by
   rcases List.mem_cons.1 hy with rfl | hy
   ·exact .inl hF0b
   rcases List.mem_cons.1 hy with rfl | hy
   ·exact .inr hb6
   ·simp at hy;subst hy;exact .inr hb7) (by have:=hF0.chg.size;have:=g1.size;omega)
  refine ⟨_,_,_,rfl,hF5,m.shards.length - (j+1),by omega,j+1,wr1 (by omega),by omega,rfl,?_,by omega,hc5,hof.next hq5 (by have:=g34.size;omega),by have:=g34.size;have:=g5.size;omega⟩
  have:pre (j+1)=pre j++[m.shards[j].1,m.shards[j].2]:=by
   simp only [pre,eK_,aV_ hj',List.flatMap_append,List.append_assoc];simp
  rw [this];exact ho5
 ·have e:j=m.shards.length:=by omega
  subst e
  have hpe:pre m.shards.length++[m.blocks]=m.nums:=by simp [pre,Man.nums]
  intro b11 hb11 w6 hF6
  have g36:Grow w3 w6:=hF6.grow
  refine gQ_ (ho.grow g36) (by rw [hprel _ (Nat.le_refl _)]) hlc (ys:=[m.blocks]) (hF6.sl 1 rfl) rfl (by omega) λq2 c2 w7 ho7 hc7 g7 hq7=>?_
  rw [hpe] at ho7
  have hF7:=hF6.app2 g7 w1.heap.size w3.heap.size hof (λa ha=>ho.lt a ha) (λy hy=>by
   rcases List.mem_cons.1 hy with rfl | hy
   ·exact .inl hF0b
   ·simp at hy;subst hy;exact .inr hb11) (by have:=hF0.chg.size;have:=g1.size;omega)
  have hl2:4+2*m.shards.length+1=m.nums.length:=by omega
  rw [hl2]
  refine ⟨_,_,_,rfl,hF7,λs i k w'=>∃j:Nat,i=j∧j≤m.nums.length∧k=m.nums.length - j∧s=str (aM_ (m.nums.take j))∧Sl w' q2 (m.nums.map iv),⟨_,0,rfl,by omega,rfl,by simp [aM_,str],ho7.sl⟩,?_⟩
  rintro s i D k w8 ⟨j,rfl,hj,rfl,rfl,hs8⟩ hF8
  have hsj:=es_ (l:=m.nums.take j) λn hn=>hnums n (List.mem_of_mem_take hn)
  rw [List.length_take] at hsj
  refine ⟨λhlt=>?_,λhge=>?_⟩
  ·have hj':j<m.nums.length:=by omega
   have hn:=hnums _ (List.getElem_mem hj')
   refine hs8.rd (v:=iv (m.nums.getD j 0)) (by simp) (by omega) (ia_ hj') λa ha=>⟨_,ha,?_⟩
   rw [kD_ hj']
   have h8:=al_ (n:=m.nums[j].toNat) (by omega)
   refine a0_ hn λw9 g9=>⟨_,_,rfl,hF8.after g9,?_,m.nums.length - (j+1),by omega,j+1,wr1 (by omega),by omega,rfl,?_,hs8.grow g9⟩
   ·rw [af_,af_];omega
   ·rw [ai_,hG_ hj']
  ·have e:j=m.nums.length:=by omega
   subst e
   rw [List.take_length]
   intro b17 hb17 w10 hF10
   refine au_ (xs:=[m.root]) (hF10.sl 1 rfl) rfl (by simp) (by have:=al_ (n:=m.root.length) (by omega);simp [ao_];omega) λw11 g11=>⟨_,rfl,hF10.after g11,?_,?_⟩
   ·have:=al_ (n:=m.root.length) (by omega)
    rw [af_,af_];simp [ao_];omega
   ·rw [ai_]
    have:aM_ m.nums++ao_ [m.root]=aH_ m:=by simp [aH_,ao_]
    rw [this]
    exact hK w11 (hF10.after g11).chg
theorem f__ {m:Man} (h:m.ok):(aH_ m).length≤1200:=by
 have hnl:m.nums.length=5+2*m.shards.length:=by simp [Man.nums,b1_];omega
 have hsh:=es_ h.nums
 have:=h.shards.1
 have:=al_ (n:=m.root.length) (by have:=h.root;omega)
 have:=h.root
 simp only [aH_,List.length_append];omega
end Go.Vc
