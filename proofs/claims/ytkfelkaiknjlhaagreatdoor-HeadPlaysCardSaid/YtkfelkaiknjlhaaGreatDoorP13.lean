/-
  A part of the proof of the statement HeadPlaysCardSaid, in Lean: Ac4, MirP14, Ac5, Ac6, MirH3, Pr4, Pr5, Pr6, Hd1, Hd2, Hd3, Is1, Hd4, Hd5, Hd6, MirH4, Hd7, Hp1, Hp2. By an AI agent.
-/
import Derived.Test.YtkfelkaiknjlhaaGreatDoorP12
import Derived.Test.YtkfelkaiknjlhaaGreatDoorP02
import Derived.Test.YtkfelkaiknjlhaaGreatDoorP07
import Derived.Test.YtkfelkaiknjlhaaGreatDoorP10
set_option linter.unusedSimpArgs false
set_option linter.unusedVariables false
set_option maxRecDepth 100000
namespace Go.Vc
open Go Go.MapKept
structure OutV where
 to:Int
 m:MsgV
def outC (o:OutV):List Value:=[.int .i64 o.to,.int .i64 o.m.kind,.int .i64 o.m.ver,.int .i64 o.m.i,.string o.m.text,.slice none 0 0]
theorem mN_ (o:OutV):(outC o).length=6:=rfl
theorem rn_:PR.underlying T.cE_=some (.slice T.bN_):=by kernel_rfl
theorem rL_:∃i z,PR.info? T.bN_=some i∧i.size=6∧i.bytes=72∧i.zero=some z∧z.cells.size=6:=by
 have h:(match PR.info? T.bN_ with | some i=>i.size == 6 && i.bytes == 72 && (match i.zero with | some z=>z.cells.size == 6 | _=>false) | none=>false)=true:=by kernel_rfl
 split at h
 ·rename_i i hi
  simp only [Bool.and_eq_true,beq_iff_eq] at h
  have h2:=h.2
  split at h2
  ·rename_i z hz
   exact ⟨i,z,hi,h.1.1,h.1.2,hz,by simpa using h2⟩
  ·cases h2
 ·cases h
theorem pM_ {w:World} {q q2:Option Addr} {l c l2 c2:Nat} {xs ys:List OutV} {K:Value→World→Prop}
  (ho:Own T.bN_ 6 w q c (xs.flatMap outC)) (hl:l=xs.length) (hlc:l≤c) (hs:Sl w q2 (ys.flatMap outC)) (hl2:l2=ys.length) (hroom:l+l2≤1000000)
  (hK:∀q' c' w',Own T.bN_ 6 w' q' c' ((xs++ys).flatMap outC)→l+l2≤c'→Chg (aM_ q) w w'→(∀a,q'=some a→q=some a∨a=⟨w.heap.size,0,none⟩)→K (.slice q' (l+l2) c') w') :
  rn PR (Builtin.append_ #[T.cE_,T.cE_] T.cE_ #[.slice q l c,.slice q2 l2 c2]) K w:=by
 obtain ⟨i,z,hi,hk,hb,hz,hzs⟩:=rL_
 refine cA_ <| fK_ (i:=i) (k:=6) (by_:=72) rn_ rn_ hi hz hk hb hzs (by decide) ho (by rw [bE_ mN_,hl]) hlc hs (by rw [bE_ mN_,hl2]) (λy hy=>?_) (by omega) λq' c' w' h=>hK q' c' w' (by rw [List.flatMap_append];exact h)
 obtain ⟨m,_,hm⟩:=List.mem_flatMap.1 hy
 simp [outC] at hm
 rcases hm with rfl | rfl | rfl | rfl | rfl | rfl <;> rfl
def outN (s:ActS) (now:Int):Nat→List OutV
 | 0=>[]
 | k+1=>outN s now k++(match s.reps[k]? with | some r=>(bg_ s r now).map λm=>⟨((k+1:Nat):Int),m⟩ | none=>[])
theorem hi_ (s:ActS) (r:Rp) (now:Int):(bg_ s r now).length≤5:=by
 unfold bg_ jr_ comL
 rw [List.length_append,List.length_append]
 split <;> split <;> (try split) <;> simp
theorem gW_ (s:ActS) (now:Int):∀k,(outN s now k).length≤5*k
 | 0=>Nat.le_refl _
 | k+1=>by
  have:=gW_ s now k
  rw [outN,List.length_append]
  split
  ·rename_i r _
   have:=hi_ s r now
   rw [List.length_map];omega
  ·simp;omega
theorem fD_ {N:Nat} {w:World} {s:ActS} (h:a0_ N w s) (hN:N≤w.heap.size) {now:Int} (hn:0≤now∧now≤1000000) (hd:∀r∈s.reps,0≤r.done) {K:Value→World→Prop}
  (h1:∀w' q c,¬dE_ s now→Grow w w'→Sl w' q ((outN s now s.reps.length).flatMap outC)→Off (λj=>j<w.heap.size) q→K (.tuple #[.slice q (outN s now s.reps.length).length c,.nilIface]) w')
  (h2:∀w' s' q c,dE_ s now→a0_ N w' s'→Chg s.x.reg w w'→s'.a=s.a→s'.reps=s.reps→s'.x.p=s.x.p→s'.x.last=s.x.last→s'.x.com=s.x.last→s'.bn=s.bn→s'.x.recs=s.x.recs++[recC s.x.last]→s'.x.man=s.x.man→s'.x.each=s.x.each→s'.x.bd=s.x.bd→s'.x.ex=s.x.ex→(∀k,s'.x.reg k→s.x.reg k∨w.heap.size≤k)→(recC s.x.last).length+6≤s.x.room→Sl w' q ((outN s' now s'.reps.length).flatMap outC)→Off (λj=>j<w.heap.size) q→K (.tuple #[.slice q (outN s' now s'.reps.length).length c,.nilIface]) w')
  (h3:∀w',dE_ s now→s.x.room<(recC s.x.last).length+6→Grow w w'→K (.tuple #[.slice none 0 0,.iface T.ax_ (.int .i64 7)]) w') :
  aa_ PR F.ew_ ⟨[.pointer (some ⟨s.a,0,none⟩),.int .i64 now]⟩ w K:=by
 have ha:=ak_ h.blk
 have h4:=h.n4
 obtain ⟨hsl,hsc,hsr⟩:=h.pub.small
 have h0:Fs (λk=>k=s.a∨s.x.reg k) w [⟨s.a,actC s,T.bc_,true⟩] w:=(Fr.init _ w).entry h.blk (λx h=>by cases h) λ_=>.inl rfl
 refine lm_ s.a _ _ _ _ now (λk=>k=s.a∨s.x.reg k) K w h0 ⟨.inl rfl,trivial⟩ ?_
 refine mo_ h hn λw0 t g0 ht=>⟨t,rfl,λhtt=>?_,λhtf=>?_⟩
 ·have hag:=ht.1 htt
  have htg:=hag.1
  have hlt:s.x.com<s.x.last:=by unfold ActS.tgt at htg;split at htg <;> omega
  have htl:s.tgt=s.x.last:=by unfold ActS.tgt;rw [if_neg (by omega)]
  have hF0:=h0.after g0
  refine ⟨hF0,λw1 hF1=>?_⟩
  have g01:=g0.trans hF1.grow
  refine bw_ (h.grow g01) λw2 g2=>⟨_,rfl,hF1.reset.after g2,?_⟩
  have hF2:=hF1.reset.after g2
  have g02:=g01.trans g2
  have hp2:=h.pub.grow g02
  rw [htl]
  refine mw_ hp2 (by have:=g02.size;omega) ⟨by omega,by omega⟩ (λw3 x3 fr0 frm hx3 g3 f1 f2 f3 f4 f5 f6 f7 fr fm fl fx f8=>?_) λw3 v cc g3 hx3 hv hcc hno=>?_
  ·have hF3:=hF2.step g3 (λy hy=>by simp at hy;subst hy;exact h.off.1) (λk _ e=>.inr e)
   have h2':=h.grow g02
   have hlt2:=h.pub.lt
   have hbn:=ak_ h.row
   have s02:=g02.size
   have h3':a0_ N w3 ⟨x3,s.a,s.bn,s.reps⟩:=by
    refine ⟨?_,g3.get h2'.row h.off.2,hx3,h.la,h.ln,h.n1,h.n4,⟨λe=>?_,λe=>?_⟩,by show x3.ex s.bn;rw [fx];exact h.ex⟩
    ·have:=g3.get h2'.blk h.off.1
     show w3.heap[s.a]? = some (.cells #[.pointer (some ⟨x3.p,0,none⟩),.slice (some ⟨s.bn,0,none⟩) s.reps.length s.reps.length] T.bc_ (0,0))
     rw [f1];exact this
    ·rcases f8 _ e with e | e
     ·exact h.off.1 e
     ·have e':w2.heap.size≤s.a:=e;omega
    ·rcases f8 _ e with e | e
     ·exact h.off.2 e
     ·have e':w2.heap.size≤s.bn:=e;omega
   have hcom:x3.com=s.x.last:=by omega
   refine ⟨_,rfl,hF3,λ_=>?_,(λt x h=>by cases h),.inl rfl⟩
   have sz:w.heap.size≤w3.heap.size:=by have:=g3.size;omega
   have ha3:s.a<w3.heap.size:=by omega
   refine ⟨λq l c i m w'=>∃k:Nat,i=k∧k≤s.reps.length∧m=s.reps.length - k∧Own T.bN_ 6 w' q c ((outN (⟨x3,s.a,s.bn,s.reps⟩:ActS) now k).flatMap outC)∧l=(outN (⟨x3,s.a,s.bn,s.reps⟩:ActS) now k).length∧l≤c∧Off (λj=>j<w3.heap.size) q∧Grow w3 w',⟨_,0,rfl,by omega,rfl,.nil _ _ _,rfl,Nat.le_refl _,(λa h=>by cases h),.refl _ _⟩,?_⟩
   rintro q l c i D m w4 ⟨k,rfl,hk,rfl,ho,rfl,hlc,of,gS⟩ hF4
   refine ⟨λhlt=>?_,λhge=>?_⟩
   ·have hk':k<s.reps.length:=by omega
    refine (h3'.grow gS).sl.rdN cR_ (by decide) rfl hk' hk' λa hc=>?_
    have hkk:IntKind.wrap .i64 ((k:Int)+1)=((k+1:Nat):Int):=by rw [w64 (by omega) (by omega)];omega
    rw [hkk]
    refine ⟨_,hc 0 _ rfl,_,hc 1 _ rfl,_,hc 2 _ rfl,_,hc 3 _ rfl,_,hc 4 _ rfl,λl4 hl4 w5 hF5=>?_⟩
    have g45:Grow w4 w5:=(hF5.unM hl4).grow
    have gS5:=gS.trans g45
    refine kB_ (h3'.grow gS5) (hd _ (List.getElem_mem hk')) λw6 qs cs g6 hsay hqs=>⟨_,_,_,rfl,(hF5.unM hl4).after g6,?_⟩
    have gS6:=gS5.trans g6
    have hnext:outN (⟨x3,s.a,s.bn,s.reps⟩:ActS) now (k+1)=outN (⟨x3,s.a,s.bn,s.reps⟩:ActS) now k++(bg_ (⟨x3,s.a,s.bn,s.reps⟩:ActS) s.reps[k] now).map λm=>(⟨((k+1:Nat):Int),m⟩:OutV):=by
     show outN (⟨x3,s.a,s.bn,s.reps⟩:ActS) now k++(match s.reps[k]? with | some r=>(bg_ (⟨x3,s.a,s.bn,s.reps⟩:ActS) r now).map λm=>(⟨((k+1:Nat):Int),m⟩:OutV) | none=>[])=_
     rw [List.getElem?_eq_getElem hk']
    have hsl5:=hi_ (⟨x3,s.a,s.bn,s.reps⟩:ActS) s.reps[k] now
    have hol:=gW_ (⟨x3,s.a,s.bn,s.reps⟩:ActS) now k
    generalize hM:bg_ (⟨x3,s.a,s.bn,s.reps⟩:ActS) s.reps[k] now=M at hsay hnext hsl5 ⊢
    refine ⟨λq l c i m w'=>∃j:Nat,i=j∧j≤M.length∧m=M.length - j∧Own T.bN_ 6 w' q c ((outN (⟨x3,s.a,s.bn,s.reps⟩:ActS) now k++(M.take j).map λm=>(⟨((k+1:Nat):Int),m⟩:OutV)).flatMap outC)∧l=(outN (⟨x3,s.a,s.bn,s.reps⟩:ActS) now k).length+j∧l≤c∧Off (λj=>j<w3.heap.size) q∧Grow w3 w'∧w6.heap.size≤w'.heap.size∧Sl w' qs (M.flatMap msgC)∧(∀a b,q=some a→qs=some b→a.block≠b.block),⟨_,0,rfl,by omega,rfl,?_,rfl,hlc,of,gS6,Nat.le_refl _,hsay,λa b ha hb e=>by have:=ho.lt a ha;have:=(hqs b hb).1;have:=g45.size;omega⟩,?_⟩
    ·rw [List.take_zero,List.map_nil,List.append_nil];exact ho.grow (g45.trans g6)
    ·rintro q2 l2 c2 i D m w7 ⟨j,rfl,hj,rfl,ho7,rfl,hlc7,of7,gS7,s67,hsay7,hne7⟩ hF7
     refine ⟨λhlt=>?_,λhge=>?_⟩
     ·have hj':j<M.length:=by omega
      refine hsay7.rdN gY_ (by decide) rfl hj' hj' λa hc=>?_
      refine ⟨_,hc 0 _ rfl,_,hc 1 _ rfl,_,hc 2 _ rfl,_,hc 3 _ rfl,_,_,_,hc 4 _ rfl,λl13 hl13 l14 hl14 w8 hF8=>?_⟩
      have hF8':=hF8.unM hl13
      refine pM_ (ys:=[(⟨((k+1:Nat):Int),M[j]⟩:OutV)]) (ho7.grow hF8'.grow) (by rw [List.length_append,List.length_map,List.length_take,Nat.min_eq_left hj]) hlc7 (hF8'.sl 2 rfl) rfl (by omega) λq9 c9 w9 ho9 hc9 g9 hq9=>?_
      have gS8:=gS7.trans hF8'.grow
      have gS9:Grow w3 w9:=Chg.trans gS8 g9 λi hi ⟨a,ha,e⟩=>by have:=of7.le a ha;omega
      have sS:=gS8.size
      have hF9:=hF8'.app2 g9 w3.heap.size w7.heap.size of7 (λa ha=>ho7.lt a ha) (λx hx=>by simp at hx;rcases hx with rfl | rfl | rfl;exact .inl (by simp only [];omega);exact .inr hl13;exact .inr hl14) sz
      have s78:=hF8'.grow.size
      have hsay9:=(hsay7.grow hF8'.grow).keep g9 (λb hb ⟨a,ha,e⟩=>hne7 a b ha hb e.symm)
      have hne9:∀a b,q9=some a→qs=some b→a.block≠b.block:=λa b ha hb e=>by
       rcases hq9 a ha with h' | h'
       ·exact hne7 a b h' hb e
       ·subst h';have:=(hqs b hb).2;simp only [] at e;omega
      refine ⟨_,_,_,rfl,hF9,M.length - (j+1),by omega,j+1,by rw [w64 (by omega) (by omega)];rfl,by omega,rfl,?_,by omega,hc9,of7.next hq9 sS,gS9,by have:=g9.size;omega,hsay9,hne9⟩
      rw [List.take_succ_eq_append_getElem hj',List.map_append,← List.append_assoc];exact ho9
     ·have:j=M.length:=by omega
      subst this
      rw [List.take_length,← hnext] at ho7
      exact ⟨s.reps.length - (k+1),by omega,k+1,rfl,by omega,rfl,ho7,by rw [hnext,List.length_append,List.length_map],hlc7,of7,gS7⟩
   ·have:k=s.reps.length:=by omega
    subst this
    exact h2 w4 ⟨x3,s.a,s.bn,s.reps⟩ q c hag (h3'.grow gS) ((g02.then g3).grow gS) rfl rfl f1 f4 hcom rfl (by show x3.recs=_;rw [fr0,hcom]) fm f3 f2 fx (λk e=>(f8 k e).imp id λh=>Nat.le_trans s02 h) (by rw [← hcom];exact frm) ho.sl (λa ha e=>of a ha (Nat.lt_of_lt_of_le e sz))
  ·have hF3:=hF2.after g3
   rcases hcc with ⟨rfl,hcc⟩ | ⟨rfl,_,hcc⟩
   ·exact absurd ⟨by omega,by omega,by omega⟩ hcc
   ·rw [Int.toNat_natCast] at hcc
    subst hv
    exact ⟨_,rfl,hF3,(λh=>by cases h),(λt' v' he=>h3 w3 hag hcc (g02.trans g3)),.inr ⟨_,_,rfl⟩⟩
 ·have hna:¬dE_ s now:=λhh=>by rw [ht.2 hh] at htf;cases htf
  have hF0:=h0.after g0
  have h0':=h.grow g0
  have sz:=g0.size
  have ha3:s.a<w0.heap.size:=by omega
  refine ⟨hF0,?_⟩
  refine ⟨λq l c i m w'=>∃k:Nat,i=k∧k≤s.reps.length∧m=s.reps.length - k∧Own T.bN_ 6 w' q c ((outN s now k).flatMap outC)∧l=(outN s now k).length∧l≤c∧Off (λj=>j<w0.heap.size) q∧Grow w0 w',⟨_,0,rfl,by omega,rfl,.nil _ _ _,rfl,Nat.le_refl _,(λa h=>by cases h),.refl _ _⟩,?_⟩
  rintro q l c i D m w4 ⟨k,rfl,hk,rfl,ho,rfl,hlc,of,gS⟩ hF4
  refine ⟨λhlt=>?_,λhge=>?_⟩
  ·have hk':k<s.reps.length:=by omega
   refine (h0'.grow gS).sl.rdN cR_ (by decide) rfl hk' hk' λa hc=>?_
   have hkk:IntKind.wrap .i64 ((k:Int)+1)=((k+1:Nat):Int):=by rw [w64 (by omega) (by omega)];omega
   rw [hkk]
   refine ⟨_,hc 0 _ rfl,_,hc 1 _ rfl,_,hc 2 _ rfl,_,hc 3 _ rfl,_,hc 4 _ rfl,λl4 hl4 w5 hF5=>?_⟩
   have g45:Grow w4 w5:=(hF5.unM hl4).grow
   have gS5:=gS.trans g45
   refine kB_ (h0'.grow gS5) (hd _ (List.getElem_mem hk')) λw6 qs cs g6 hsay hqs=>⟨_,_,_,rfl,(hF5.unM hl4).after g6,?_⟩
   have gS6:=gS5.trans g6
   have hnext:outN s now (k+1)=outN s now k++(bg_ s s.reps[k] now).map λm=>(⟨((k+1:Nat):Int),m⟩:OutV):=by
    show outN s now k++(match s.reps[k]? with | some r=>(bg_ s r now).map λm=>(⟨((k+1:Nat):Int),m⟩:OutV) | none=>[])=_
    rw [List.getElem?_eq_getElem hk']
   have hsl5:=hi_ s s.reps[k] now
   have hol:=gW_ s now k
   generalize hM:bg_ s s.reps[k] now=M at hsay hnext hsl5 ⊢
   refine ⟨λq l c i m w'=>∃j:Nat,i=j∧j≤M.length∧m=M.length - j∧Own T.bN_ 6 w' q c ((outN s now k++(M.take j).map λm=>(⟨((k+1:Nat):Int),m⟩:OutV)).flatMap outC)∧l=(outN s now k).length+j∧l≤c∧Off (λj=>j<w0.heap.size) q∧Grow w0 w'∧w6.heap.size≤w'.heap.size∧Sl w' qs (M.flatMap msgC)∧(∀a b,q=some a→qs=some b→a.block≠b.block),⟨_,0,rfl,by omega,rfl,?_,rfl,hlc,of,gS6,Nat.le_refl _,hsay,λa b ha hb e=>by have:=ho.lt a ha;have:=(hqs b hb).1;have:=g45.size;omega⟩,?_⟩
   ·rw [List.take_zero,List.map_nil,List.append_nil];exact ho.grow (g45.trans g6)
   ·rintro q2 l2 c2 i D m w7 ⟨j,rfl,hj,rfl,ho7,rfl,hlc7,of7,gS7,s67,hsay7,hne7⟩ hF7
    refine ⟨λhlt=>?_,λhge=>?_⟩
    ·have hj':j<M.length:=by omega
     refine hsay7.rdN gY_ (by decide) rfl hj' hj' λa hc=>?_
     refine ⟨_,hc 0 _ rfl,_,hc 1 _ rfl,_,hc 2 _ rfl,_,hc 3 _ rfl,_,_,_,hc 4 _ rfl,λl13 hl13 l14 hl14 w8 hF8=>?_⟩
     have hF8':=hF8.unM hl13
     refine pM_ (ys:=[(⟨((k+1:Nat):Int),M[j]⟩:OutV)]) (ho7.grow hF8'.grow) (by rw [List.length_append,List.length_map,List.length_take,Nat.min_eq_left hj]) hlc7 (hF8'.sl 2 rfl) rfl (by omega) λq9 c9 w9 ho9 hc9 g9 hq9=>?_
     have gS8:=gS7.trans hF8'.grow
     have gS9:Grow w0 w9:=Chg.trans gS8 g9 λi hi ⟨a,ha,e⟩=>by have:=of7.le a ha;omega
     have sS:=gS8.size
     have hF9:=hF8'.app2 g9 w0.heap.size w7.heap.size of7 (λa ha=>ho7.lt a ha) (λx hx=>by simp at hx;rcases hx with rfl | rfl | rfl;exact .inl (by simp only [];omega);exact .inr hl13;exact .inr hl14) sz
     have s78:=hF8'.grow.size
     have hsay9:=(hsay7.grow hF8'.grow).keep g9 (λb hb ⟨a,ha,e⟩=>hne7 a b ha hb e.symm)
     have hne9:∀a b,q9=some a→qs=some b→a.block≠b.block:=λa b ha hb e=>by
      rcases hq9 a ha with h' | h'
      ·exact hne7 a b h' hb e
      ·subst h';have:=(hqs b hb).2;simp only [] at e;omega
     refine ⟨_,_,_,rfl,hF9,M.length - (j+1),by omega,j+1,by rw [w64 (by omega) (by omega)];rfl,by omega,rfl,?_,by omega,hc9,of7.next hq9 sS,gS9,by have:=g9.size;omega,hsay9,hne9⟩
     rw [List.take_succ_eq_append_getElem hj',List.map_append,← List.append_assoc];exact ho9
    ·have:j=M.length:=by omega
     subst this
     rw [List.take_length,← hnext] at ho7
     exact ⟨s.reps.length - (k+1),by omega,k+1,rfl,by omega,rfl,ho7,by rw [hnext,List.length_append,List.length_map],hlc7,of7,gS7⟩
  ·have:k=s.reps.length:=by omega
   subst this
   exact h1 w4 q c hna (g0.trans gS) ho.sl (λa ha e=>of a ha (Nat.lt_of_lt_of_le e sz))
end Go.Vc
namespace Go.Vc
open Go
theorem kN_ (p0:Option Addr) (m1:Int) (m2:Int) (m3:Int) (z4:ByteArray) (y5:Option Addr) (ly5:Nat) (cy5:Nat) (S:SP) (K:KP) (w:World) (h:∀l0,w.heap.size≤l0→(m1=11→Dr p0 λa0=>∀w0,Fr S w w [] [⟨l0,#[Iv m1,Iv m2,Iv m3,.string z4,.slice y5 ly5 cy5],41,true⟩] w0→Dr (some a0) λa1=>StC w0 (Addr.add a1 0) (Iv m2) λw1=>StC w1 (Addr.add a1 1) (Iv m2) λw2=>StC w2 (Addr.add a1 2) (Iv m2) λw3=>StC w3 (Addr.add a1 3) (.bool false) λw4=>StC w4 (Addr.add a1 4) (Iv 0) λw5=>Fs S w [⟨l0,#[Iv m1,Iv m2,Iv m3,.string z4,.slice y5 ly5 cy5],41,true⟩] w5∧K (.bool true) w5)∧(¬(m1=11)→(m1=9→∀w6,Fr S w w [] [⟨l0,#[Iv m1,Iv m2,Iv m3,.string z4,.slice y5 ly5 cy5],41,true⟩] w6→let B0:Blk:=⟨l0,#[Iv m1,Iv m2,Iv m3,.string z4,.slice y5 ly5 cy5],41,true⟩;∃I0:World→Prop,I0 w6∧Dr p0 λa2=>Dr (some a2) λa3=>Dr (some (Addr.add a3 2)) λa4=>∃n0,(∀w7,I0 w7→World.cell? w7 a4=some (Iv n0))∧Dr p0 λa5=>Dr (some a5) λa6=>Dr (some (Addr.add a6 2)) λa7=>StC w6 a7 (Iv (if m2>n0 then m2 else n0)) λw8=>Fs S w [B0] w8∧∀w9,Fr S w w8 [] [B0] w9→∃I1:World→Prop,I1 w9∧Dr p0 λa8=>Dr (some a8) λa9=>Dr (some (Addr.add a9 1)) λa10=>∃n1,(∀w10,I1 w10→World.cell? w10 a10=some (Iv n1))∧Dr p0 λa11=>Dr (some a11) λa12=>Dr (some (Addr.add a12 1)) λa13=>StC w9 a13 (Iv (if m2>n1 then m2 else n1)) λw11=>Fs S w [B0] w11∧∀w12,Fr S w w11 [] [B0] w12→∃I2:World→Prop,I2 w12∧Dr p0 λa14=>Dr (some a14) λa15=>Dr (some (Addr.add a15 0)) λa16=>∃n2,(∀w13,I2 w13→World.cell? w13 a16=some (Iv n2))∧Dr p0 λa17=>Dr (some a17) λa18=>Dr (some (Addr.add a18 0)) λa19=>StC w12 a19 (Iv (if m2>n2 then m2 else n2)) λw14=>Fs S w [B0] w14∧K (.bool true) w14)∧(¬(m1=9)→(m1=7→∀w15,Fr S w w [] [⟨l0,#[Iv m1,Iv m2,Iv m3,.string z4,.slice y5 ly5 cy5],41,true⟩] w15→let B1:Blk:=⟨l0,#[Iv m1,Iv m2,Iv m3,.string z4,.slice y5 ly5 cy5],41,true⟩;∃I3:World→Prop,I3 w15∧Dr p0 λa20=>Dr (some a20) λa21=>Dr (some (Addr.add a21 1)) λa22=>∃n3,(∀w16,I3 w16→World.cell? w16 a22=some (Iv n3))∧Dr p0 λa23=>Dr (some a23) λa24=>Dr (some (Addr.add a24 1)) λa25=>StC w15 a25 (Iv (if m2>n3 then m2 else n3)) λw17=>Fs S w [B1] w17∧∀w18,Fr S w w17 [] [B1] w18→∃I4:World→Prop,I4 w18∧Dr p0 λa26=>Dr (some a26) λa27=>Dr (some (Addr.add a27 0)) λa28=>∃n4,(∀w19,I4 w19→World.cell? w19 a28=some (Iv n4))∧Dr p0 λa29=>Dr (some a29) λa30=>Dr (some (Addr.add a30 0)) λa31=>StC w18 a31 (Iv (if m2>n4 then m2 else n4)) λw20=>Fs S w [B1] w20∧K (.bool true) w20)∧(¬(m1=7)→(m1=5→∀w21,Fr S w w [] [⟨l0,#[Iv m1,Iv m2,Iv m3,.string z4,.slice y5 ly5 cy5],41,true⟩] w21→∃I5:World→Prop,I5 w21∧Dr p0 λa32=>Dr (some a32) λa33=>Dr (some (Addr.add a33 0)) λa34=>∃n5,(∀w22,I5 w22→World.cell? w22 a34=some (Iv n5))∧Dr p0 λa35=>Dr (some a35) λa36=>Dr (some (Addr.add a36 0)) λa37=>StC w21 a37 (Iv (if m2>n5 then m2 else n5)) λw23=>Fs S w [⟨l0,#[Iv m1,Iv m2,Iv m3,.string z4,.slice y5 ly5 cy5],41,true⟩] w23∧K (.bool true) w23)∧(¬(m1=5)→(m1=2→∀w24,Fr S w w [] [] w24→K (.bool true) w24)∧(¬(m1=2)→∀w25,Fr S w w [] [] w25→K (.bool false) w25)))))):aa_ PR 58 ⟨[.pointer p0,.agg #[.int .i64 m1,.int .i64 m2,.int .i64 m3,.string z4,.slice y5 ly5 cy5]]⟩ w K:=
 ab_ (okf:=⟨okL,[]⟩) ah_ (args:=[.c (.v (.pointer p0)),.a [.v (.int .i64 m1),.v (.int .i64 m2),.v (.int .i64 m3),.v (.string z4),.v (.slice y5 ly5 cy5)]]) (H:=[]) (.s (.r ⟨(some []),true,[],[]⟩) (.s (.s .z (.b (.s (.b (.s (.b (.s (.b (.s (.b (.s (.b (.s .z (.s (.r ⟨(some [3]),true,[],[]⟩) .z))) (.r ⟨(some [3]),true,[],[]⟩))) (.r ⟨(some [3]),true,[],[]⟩))) (.s (.r ⟨(some [3]),true,[],[]⟩) .z))) .z)) .z))) .z)) Go.Proofs.Tryz.func58 rfl ⟨trivial,⟨trivial,trivial,trivial,trivial,trivial,trivial⟩,trivial⟩ trivial (Fr.init S w) trivial (ad_ (by kernel_rfl) h)
end Go.Vc
namespace Go.Vc
open Go Go.MapKept
def rp0:Rp:=⟨0,0,0,false,0⟩
theorem qk_:PR.underlying T.gh_=some (.slice T.aS_):=by kernel_rfl
theorem n8_:∃i,PR.info? T.aS_=some i∧i.size=5∧i.bytes=40∧i.zero=some (.agg #[.int .i64 0,.int .i64 0,.int .i64 0,.bool false,.int .i64 0]):=by
 have h:(match PR.info? T.aS_ with | some i=>i.size == 5 && i.bytes == 40 && (match i.zero with | some (.agg ⟨[.int .i64 0,.int .i64 0,.int .i64 0,.bool false,.int .i64 0]⟩)=>true | _=>false) | none=>false)=true:=by kernel_rfl
 split at h
 ·rename_i i hi
  simp only [Bool.and_eq_true,beq_iff_eq] at h
  refine ⟨i,hi,h.1.1,h.1.2,?_⟩
  have h2:=h.2
  split at h2
  ·assumption
  ·cases h2
 ·cases h
theorem kU_ {n:Nat} (h1:1≤n) (h4:n≤4) {w:World} {K:Value→World→Prop}
  (hK:∀b w',b=w.heap.size→Grow w w'→w'.heap[b]? = some (.cells ((List.replicate n rp0).flatMap rpC).toArray T.aS_ (0,0))→K (.slice (some ⟨b,0,none⟩) n n) w') :
  rn PR (Instr.makeSlice T.gh_ (.int .i64 (n:Int)) (.int .i64 (n:Int))) K w:=by
 obtain ⟨i,hi,hk,hb,hz⟩:=n8_
 refine cA_ ?_
 have hw:=aF_ (n:=(n:Int)) (by omega) (by omega)
 have hlt:¬((i.bytes:Int)*n>2 ^ 48):=by
  have:(2:Int) ^ 48=281474976710656:=by decide
  rw [hb];omega
 unfold Instr.makeSlice
 simp only [aE_,aq_ qk_,asInt,asIntOf,aY_,bq_ hi,hw,g7_,c1_,bJ_ hi,hk]
 have e1:¬(n:Int)<0:=by omega
 have e2:¬(n:Int)>n:=by omega
 simp only [e1,e2,hlt,decide_false,Bool.or_self,Bool.false_eq_true,if_false,Int.toNat_natCast]
 have key:∀(cs:Array Value),cs=((List.replicate n rp0).flatMap rpC).toArray→sv PR (newRow T.aS_ cs) (λa w=>K (.slice (some a) n n) w) w:=by
  intro cs hcs
  subst hcs
  unfold newRow
  rw [aE_,dI_]
  exact newV λb w' hb hb' hs g=>hK b w' hb g hb'
 rw [if_neg (by omega),bx_ hi hz]
 refine key _ ?_
 have:n=1∨n=2∨n=3∨n=4:=by omega
 rcases this with rfl | rfl | rfl | rfl <;> (apply Array.toList_inj.1;rw [Array.toList_map,Array.toList_range];rfl)
theorem rg_ {N:Nat} {w:World} {x:PubS} (h:aJ_ N w x) (hN:N≤w.heap.size) {n:Int} {K:Value→World→Prop}
  (h1:∀w' s (k:Nat),n=k→1≤k→k≤4→Grow w w'→a0_ N w' s→s.x = { x with ex:=λk=>k=s.bn }→s.reps=List.replicate k rp0→w.heap.size≤s.a→w.heap.size≤s.bn→K (.tuple #[.pointer (some ⟨s.a,0,none⟩),.nilIface]) w')
  (h2:n<1∨4<n→K (.tuple #[.pointer none,.iface T.ax_ (.int .i64 1)]) w):aa_ PR F.pR_ ⟨[.pointer (some ⟨x.p,0,none⟩),.int .i64 n]⟩ w K:=by
 refine m__ (some ⟨x.p,0,none⟩) n S0 K w ⟨(λh=>by cases h),λa ha=>⟨λh=>h2 (.inl h),λhge=>⟨λh=>h2 (.inr (by omega)),λhle=>?_⟩⟩⟩
 obtain ⟨k,rfl⟩:=Int.eq_ofNat_of_zero_le (a:=n) (by omega)
 refine kU_ (by omega) (by omega) λb w1 hb g1 hbb=>⟨_,_,_,rfl,(Fr.init _ w).after g1,λl2 hl2 w2 hF2=>?_⟩
 have g2:Grow w1 w2:=hF2.grow
 have g12:=g1.trans g2
 have s1:=g1.size
 have hlt:=h.lt
 have hp2:=h.grow g12
 have hbl:b<w2.heap.size:=by have:=g2.size;have:=ak_ hbb;omega
 have hx':aJ_ N w2 { x with ex:=λk=>k=b }:=by
  refine ⟨hp2.blk,hp2.jrn,hp2.map,λk v hr=>?_,hp2.has,hp2.com_le,hp2.last_le,hp2.room,hp2.each1,hp2.each2,hp2.lo,λk hk=>by have hk':k=b:=hk;omega,hp2.only,hp2.rep⟩
  exact (h.kept k v hr).keep g12 (λ_ _ e=>e.elim) (λk hk e=>e.elim .inl λe=>by have e':k=b:=e;omega) (Nat.le_refl _) (λ_ h=>h)
 refine h1 w2 ⟨{ x with ex:=λk=>k=b },l2,b,List.replicate k rp0⟩ k rfl (by omega) (by omega) g12 ⟨?_,Grow.get g2 hbb,hx',by show N≤l2;omega,by show N≤b;omega,by rw [List.length_replicate];omega,by rw [List.length_replicate];omega,⟨λe=>?_,λe=>?_⟩,rfl⟩ rfl rfl (by show w.heap.size≤l2;omega) (by show w.heap.size≤b;omega)
 ·have:=hF2.blk 0 rfl
  show w2.heap[l2]? = some (.cells #[.pointer (some ⟨x.p,0,none⟩),.slice (some ⟨b,0,none⟩) (List.replicate k rp0).length (List.replicate k rp0).length] T.bc_ (0,0))
  rw [List.length_replicate];exact this
 ·have:=hlt _ e;simp only [] at this;omega
 ·have:=hlt _ e;simp only [] at this;omega
def e1_ (r:Rp) (kind ver:Int):Rp:=
 if kind=11 then ⟨ver,ver,ver,false,0⟩
 else if kind=9 then { r with ready:=if ver>r.ready then ver else r.ready,prepared:=if ver>r.prepared then ver else r.prepared,done:=if ver>r.done then ver else r.done }
 else if kind=7 then { r with ready:=if ver>r.ready then ver else r.ready,prepared:=if ver>r.prepared then ver else r.prepared }
 else if kind=5 then { r with ready:=if ver>r.ready then ver else r.ready }
 else r
def qV_ (kind:Int):Bool:=kind == 11 || kind == 9 || kind == 7 || kind == 5 || kind == 2
theorem q0_ {j i:Nat} {v:Value} {r':Rp} : ∀ {reps:List Rp},(hj:j<reps.length)→i<5→rpC r'=(rpC reps[j]).set i v→(reps.flatMap rpC).set (j*5+i) v=(reps.set j r').flatMap rpC:=by
 induction j with
 | zero=>
  intro reps hj hi hr
  match reps,hj with
  | r :: l,_=>
   rw [List.flatMap_cons,List.set_append_left _ _ (by rw [cR_];omega),Nat.zero_mul,Nat.zero_add]
   show _=rpC r'++l.flatMap rpC
   rw [hr];rfl
 | succ j ih=>
  intro reps hj hi hr
  match reps,hj with
  | r :: l,hj=>
   have hj':j<l.length:=by simpa using hj
   have e:(j+1)*5+i=5+(j*5+i):=by omega
   rw [List.flatMap_cons,e,List.set_append_right _ _ (by rw [cR_];omega),cR_,Nat.add_sub_cancel_left,ih hj' hi hr]
   rfl
theorem eC_ {w:World} {bn j i:Nat} {reps:List Rp} {r r':Rp} {v:Value} (hb:w.heap[bn]? = some (.cells ((reps.set j r).flatMap rpC).toArray T.aS_ (0,0))) (hj:j<reps.length) (hi:i<5) (hr:rpC r'=(rpC r).set i v) (hv:oneC v=true) {K:World→Prop}
  (hK:∀w',w'.heap[bn]? = some (.cells ((reps.set j r').flatMap rpC).toArray T.aS_ (0,0))→Chg (· = bn) w w'→K w'):StC w ((⟨bn,j*5,none⟩:Addr).add i) v K:=by
 rw [am_]
 have hjs:j<(reps.set j r).length:=by rw [List.length_set];exact hj
 have hlen:j*5+i<((reps.set j r).flatMap rpC).length:=by
  rw [bE_ cR_];omega
 have hs:=q0_ (reps:=reps.set j r) (r':=r') hjs hi (by rw [List.getElem_set_self];exact hr)
 rw [List.set_set] at hs
 refine stC hb (by rw [List.size_toArray];exact hlen) hv λw' hw' _ g=>hK w' ?_ g
 rw [hw',← hs]
 simp
theorem fQ_ {w:World} {bn j i:Nat} {reps:List Rp} {r:Rp} {v:Value} (hb:w.heap[bn]? = some (.cells ((reps.set j r).flatMap rpC).toArray T.aS_ (0,0))) (hj:j<reps.length) (hi:i<5) (hv:(rpC r)[i]? = some v):w.cell? ((⟨bn,j*5,none⟩:Addr).add i)=some v:=by
 have hjs:j<(reps.set j r).length:=by rw [List.length_set];exact hj
 rw [am_,ap_ hb,List.getElem?_toArray,fz_ cR_ hjs hi,List.getElem_set_self,hv]
theorem kO_ {w:World} {bn j:Nat} {reps:List Rp} {r:Rp} (hb:w.heap[bn]? = some (.cells ((reps.set j r).flatMap rpC).toArray T.aS_ (0,0))) (hj:j<reps.length) {kind ver i:Int} {z:ByteArray} {y:Option Addr} {ly cy:Nat} {K:Value→World→Prop}
  (hK:∀w',w'.heap[bn]? = some (.cells ((reps.set j (e1_ r kind ver)).flatMap rpC).toArray T.aS_ (0,0))→Chg (· = bn) w w'→K (.bool (qV_ kind)) w') :
  aa_ PR F.gE_ ⟨[.pointer (some ⟨bn,j*5,none⟩),.agg #[.int .i64 kind,.int .i64 ver,.int .i64 i,.string z,.slice y ly cy]]⟩ w K:=by
 have hbl:=ak_ hb
 refine kN_ (some ⟨bn,j*5,none⟩) kind ver i z y ly cy (· = bn) K w λl0 hl0=>?_
 have hne:∀x∈[(⟨l0,#[.int .i64 kind,.int .i64 ver,.int .i64 i,.string z,.slice y ly cy],T.bL_,true⟩:Blk)],¬x.b=bn:=λx hx e=>by simp at hx;subst hx;simp only [] at e;omega
 refine ⟨λh11=>ac_.2 λw0 hF0=>ac_.2 ?_,λh11=>⟨λh9 w0 hF0=>?_,λh9=>⟨λh7 w0 hF0=>?_,λh7=>⟨λh5 w0 hF0=>?_,λh5=>⟨λh2 w0 hF0=>?_,λh2 w0 hF0=>?_⟩⟩⟩⟩⟩
 ·have g0:Grow w w0:=hF0.grow
  refine eC_ (r':=⟨ver,r.prepared,r.done,r.heard,r.at_⟩) (Grow.get g0 hb) hj (by decide) rfl rfl λw1 b1 g1=>?_
  refine eC_ (r':=⟨ver,ver,r.done,r.heard,r.at_⟩) b1 hj (by decide) rfl rfl λw2 b2 g2=>?_
  refine eC_ (r':=⟨ver,ver,ver,r.heard,r.at_⟩) b2 hj (by decide) rfl rfl λw3 b3 g3=>?_
  refine eC_ (r':=⟨ver,ver,ver,false,r.at_⟩) b3 hj (by decide) rfl rfl λw4 b4 g4=>?_
  refine eC_ (r':=⟨ver,ver,ver,false,0⟩) b4 hj (by decide) rfl rfl λw5 b5 g5=>?_
  have hF5:=((((hF0.step g1 hne λ_ _ e=>e).step g2 hne λ_ _ e=>e).step g3 hne λ_ _ e=>e).step g4 hne λ_ _ e=>e).step g5 hne λ_ _ e=>e
  subst h11
  exact ⟨hF5,hK w5 (by rw [e1_,if_pos rfl];exact b5) hF5.chg⟩
 ·have g0:Grow w w0:=hF0.grow
  have b0:=Grow.get g0 hb
  refine ⟨(· = w0),rfl,ac_.2 (ac_.2 (ac_.2 ⟨r.done,λw' e=>e ▸ fQ_ b0 hj (by decide) rfl,ac_.2 (ac_.2 (ac_.2 ?_))⟩))⟩
  refine eC_ (r':={ r with done:=if ver>r.done then ver else r.done }) b0 hj (by decide) rfl rfl λw1 b1 g1=>?_
  have hF1:=hF0.step g1 hne λ_ _ e=>e
  refine ⟨hF1,λw2 hF2=>?_⟩
  have b2:=Grow.get hF2.grow b1
  refine ⟨(· = w2),rfl,ac_.2 (ac_.2 (ac_.2 ⟨r.prepared,λw' e=>e ▸ fQ_ b2 hj (by decide) rfl,ac_.2 (ac_.2 (ac_.2 ?_))⟩))⟩
  refine eC_ (r':={ r with done:=if ver>r.done then ver else r.done,prepared:=if ver>r.prepared then ver else r.prepared }) b2 hj (by decide) rfl rfl λw3 b3 g3=>?_
  have hF3:=hF2.step g3 hne λ_ _ e=>e
  refine ⟨hF3,λw4 hF4=>?_⟩
  have b4:=Grow.get hF4.grow b3
  refine ⟨(· = w4),rfl,ac_.2 (ac_.2 (ac_.2 ⟨r.ready,λw' e=>e ▸ fQ_ b4 hj (by decide) rfl,ac_.2 (ac_.2 (ac_.2 ?_))⟩))⟩
  refine eC_ (r':={ r with done:=if ver>r.done then ver else r.done,prepared:=if ver>r.prepared then ver else r.prepared,ready:=if ver>r.ready then ver else r.ready }) b4 hj (by decide) rfl rfl λw5 b5 g5=>?_
  have hF5:=hF4.step g5 hne λ_ _ e=>e
  subst h9
  exact ⟨hF5,hK w5 (by rw [e1_,if_neg h11,if_pos rfl];exact b5) hF5.chg⟩
 ·have g0:Grow w w0:=hF0.grow
  have b0:=Grow.get g0 hb
  refine ⟨(· = w0),rfl,ac_.2 (ac_.2 (ac_.2 ⟨r.prepared,λw' e=>e ▸ fQ_ b0 hj (by decide) rfl,ac_.2 (ac_.2 (ac_.2 ?_))⟩))⟩
  refine eC_ (r':={ r with prepared:=if ver>r.prepared then ver else r.prepared }) b0 hj (by decide) rfl rfl λw3 b3 g3=>?_
  have hF3:=hF0.step g3 hne λ_ _ e=>e
  refine ⟨hF3,λw4 hF4=>?_⟩
  have b4:=Grow.get hF4.grow b3
  refine ⟨(· = w4),rfl,ac_.2 (ac_.2 (ac_.2 ⟨r.ready,λw' e=>e ▸ fQ_ b4 hj (by decide) rfl,ac_.2 (ac_.2 (ac_.2 ?_))⟩))⟩
  refine eC_ (r':={ r with prepared:=if ver>r.prepared then ver else r.prepared,ready:=if ver>r.ready then ver else r.ready }) b4 hj (by decide) rfl rfl λw5 b5 g5=>?_
  have hF5:=hF4.step g5 hne λ_ _ e=>e
  subst h7
  exact ⟨hF5,hK w5 (by rw [e1_,if_neg h11,if_neg h9,if_pos rfl];exact b5) hF5.chg⟩
 ·have g0:Grow w w0:=hF0.grow
  have b0:=Grow.get g0 hb
  refine ⟨(· = w0),rfl,ac_.2 (ac_.2 (ac_.2 ⟨r.ready,λw' e=>e ▸ fQ_ b0 hj (by decide) rfl,ac_.2 (ac_.2 (ac_.2 ?_))⟩))⟩
  refine eC_ (r':={ r with ready:=if ver>r.ready then ver else r.ready }) b0 hj (by decide) rfl rfl λw5 b5 g5=>?_
  have hF5:=hF0.step g5 hne λ_ _ e=>e
  subst h5
  exact ⟨hF5,hK w5 (by rw [e1_,if_neg h11,if_neg h9,if_neg h7,if_pos rfl];exact b5) hF5.chg⟩
 ·subst h2
  exact hK w0 (by rw [e1_,if_neg h11,if_neg h9,if_neg h7,if_neg h5];exact Grow.get hF0.grow hb) hF0.chg
 ·have e:qV_ kind=false:=by simp [qV_,h11,h9,h7,h5,h2]
  have:=hK w0 (by rw [e1_,if_neg h11,if_neg h9,if_neg h7,if_neg h5];exact Grow.get hF0.grow hb) hF0.chg
  rw [e] at this;exact this
end Go.Vc
namespace Go.Vc
open Go Go.MapKept
def bB_ (r:Rp) (kind ver now:Int):Rp:=if qV_ kind then { e1_ r kind ver with heard:=true,at_:=now } else e1_ r kind ver
theorem p7_ {N:Nat} {w:World} {s:ActS} (h:a0_ N w s) {j:Nat} (hj:j<s.reps.length) {kind ver i now:Int} (h2:kind≠2) {z:ByteArray} {y:Option Addr} {ly cy:Nat} {K:Value→World→Prop}
  (hK:∀w' s',a0_ N w' s'→Chg (· = s.bn) w w'→s'.a=s.a→s'.bn=s.bn→s'.x=s.x→s'.reps=s.reps.set j (bB_ s.reps[j] kind ver now)→K (.tuple #[.slice none 0 0,.nilIface]) w') :
  aa_ PR F.bl_ ⟨[.pointer (some ⟨s.a,0,none⟩),.int .i64 ((j+1:Nat):Int),.agg #[.int .i64 kind,.int .i64 ver,.int .i64 i,.string z,.slice y ly cy],.int .i64 now]⟩ w K:=by
 have h4:=h.n4
 have ha:=ak_ h.blk
 have hbl:=ak_ h.row
 have hab:s.a≠s.bn:=cv_ h.blk h.row (by decide)
 have h0:Fs (λk=>k=s.a∨k=s.bn) w [⟨s.a,actC s,T.bc_,true⟩] w:=(Fr.init _ w).entry h.blk (λx h=>by cases h) λ_=>.inl rfl
 refine lo_ s.a _ _ _ _ ((j+1:Nat):Int) kind ver i z y ly cy now (λk=>k=s.a∨k=s.bn) K w h0 ⟨.inl rfl,trivial⟩ λl0 hl0=>⟨λh=>by omega,λ_=>⟨λh=>by omega,λ_=>?_⟩⟩
 have ej:IntKind.wrap .i64 (((j+1:Nat):Int) - 1)=(j:Int):=by rw [w64 (by omega) (by omega)];omega
 rw [ej]
 refine ac_.2 ⟨by omega,by omega,λw2 hF2=>?_⟩
 have g2:Grow w w2:=hF2.grow
 rw [am_,Int.toNat_natCast,Nat.zero_add]
 have hb0:w2.heap[s.bn]? = some (.cells ((s.reps.set j s.reps[j]).flatMap rpC).toArray T.aS_ (0,0)):=by
  rw [List.set_getElem_self];exact Grow.get g2 h.row
 have hoff:∀x∈[(⟨s.a,actC s,T.bc_,true⟩:Blk),⟨l0,#[.int .i64 kind,.int .i64 ver,.int .i64 i,.string z,.slice y ly cy],T.bL_,true⟩],¬x.b=s.bn:=λx hx e=>by
  simp at hx;rcases hx with rfl | rfl
  ·exact hab e
  ·simp only [] at e;omega
 have fin:∀ {w':World} {r':Rp},Chg (· = s.bn) w w'→w'.heap[s.bn]? = some (.cells ((s.reps.set j r').flatMap rpC).toArray T.aS_ (0,0))→a0_ N w' ⟨s.x,s.a,s.bn,s.reps.set j r'⟩:=λ{w' r'} g hb=>by
  refine ⟨?_,hb,h.pub.mU_ g (λk e=>by subst e;exact h.ex) (λk e=>by subst e;exact h.off.2),h.la,h.ln,by rw [List.length_set];exact h.n1,by rw [List.length_set];exact h.n4,h.off,h.ex⟩
  have:=g.get h.blk hab
  show w'.heap[s.a]? = some (.cells #[.pointer (some ⟨s.x.p,0,none⟩),.slice (some ⟨s.bn,0,none⟩) (s.reps.set j r').length (s.reps.set j r').length] T.bc_ (0,0))
  rw [List.length_set];exact this
 refine kO_ hb0 hj λw3 hb3 g3=>⟨_,rfl,λhh=>?_,λhh=>?_⟩
 ·have hF3:=hF2.step g3 hoff λk _ e=>.inr e
  refine ⟨hF3,ac_.2 (ac_.2 (ac_.2 ?_))⟩
  refine eC_ (r':={ e1_ s.reps[j] kind ver with heard:=true }) hb3 hj (by decide) rfl rfl λw4 hb4 g4=>?_
  have hF4:=hF3.step g4 hoff λk _ e=>.inr e
  refine ⟨hF4,ac_.2 (ac_.2 (ac_.2 ?_))⟩
  refine eC_ (r':={ e1_ s.reps[j] kind ver with heard:=true,at_:=now }) hb4 hj (by decide) rfl rfl λw5 hb5 g5=>?_
  have hF5:=hF4.step g5 hoff λk _ e=>.inr e
  have g:=((g2.then g3).trans g4 λ_ _ e=>e).trans g5 λ_ _ e=>e
  exact ⟨hF5,λe=>absurd e h2,λ_=>hK w5 _ (fin g hb5) g rfl rfl rfl (by rw [bB_,if_pos hh])⟩
 ·have hF3:=hF2.step g3 hoff λk _ e=>.inr e
  have g:=g2.then g3
  exact ⟨hF3,hK w3 _ (fin g hb3) g rfl rfl rfl (by rw [bB_,if_neg (by rw [hh];decide)])⟩
theorem a0_.oI_ {N:Nat} {w w':World} {s:ActS} (h:a0_ N w s) {x':PubS} (hx:aJ_ N w' x') (g:Chg s.x.reg w w') (hp:x'.p=s.x.p) (hex:x'.ex=s.x.ex) (hreg:∀k,x'.reg k→s.x.reg k∨w.heap.size≤k):a0_ N w' ⟨x',s.a,s.bn,s.reps⟩:=by
 have ha:=ak_ h.blk
 have hbl:=ak_ h.row
 refine ⟨?_,g.get h.row h.off.2,hx,h.la,h.ln,h.n1,h.n4,⟨λe=>?_,λe=>?_⟩,by show x'.ex s.bn;rw [hex];exact h.ex⟩
 ·have:=g.get h.blk h.off.1
  show w'.heap[s.a]? = some (.cells #[.pointer (some ⟨x'.p,0,none⟩),.slice (some ⟨s.bn,0,none⟩) s.reps.length s.reps.length] T.bc_ (0,0))
  rw [hp];exact this
 ·rcases hreg _ e with e | e
  ·exact h.off.1 e
  ·have e':w.heap.size≤s.a:=e;omega
 ·rcases hreg _ e with e | e
  ·exact h.off.2 e
  ·have e':w.heap.size≤s.bn:=e;omega
theorem nO_ {N:Nat} {w:World} {x:PubS} {a bn:Nat} {reps:List Rp} (h:a0_ N w ⟨x,a,bn,reps⟩) {j:Nat} (hj:j<reps.length) {kind ver i now:Int} (h2:kind≠2) {z:ByteArray} {y:Option Addr} {ly cy:Nat} {K:Value→World→Prop}
  (hK:∀w',a0_ N w' ⟨x,a,bn,reps.set j (bB_ reps[j] kind ver now)⟩→Chg (· = bn) w w'→K (.tuple #[.slice none 0 0,.nilIface]) w') :
  aa_ PR F.bl_ ⟨[.pointer (some ⟨a,0,none⟩),.int .i64 ((j+1:Nat):Int),.agg #[.int .i64 kind,.int .i64 ver,.int .i64 i,.string z,.slice y ly cy],.int .i64 now]⟩ w K:=
 p7_ h hj h2 λw' s' hs' g a1 a2 a3 a4=>hK w' (by
  obtain ⟨sx,sa,sb,sr⟩:=s'
  simp only [] at a1 a2 a3 a4
  subst a1 a2 a3 a4
  exact hs') g
end Go.Vc
namespace Go.Vc
open Go
theorem kh_ (k0:Nat) (p1:Option Addr) (y2:Option Addr) (ly2:Nat) (cy2:Nat) (m3:Int) (m4:Int) (m5:Int) (m6:Int) (z7:ByteArray) (y8:Option Addr) (ly8:Nat) (cy8:Nat) (m9:Int) (S:SP) (K:KP) (w:World) (hF:Fs S w [⟨k0,#[.pointer p1,.slice y2 ly2 cy2],66,true⟩] w) (hS:S k0∧True) (h:∀l0,w.heap.size≤l0→(m3<1→∀w0,Fr S w w [] [⟨k0,#[.pointer p1,.slice y2 ly2 cy2],66,true⟩] w0→K (.tuple #[.slice none 0 0,.iface 93 (Iv 1)]) w0)∧(¬(m3<1)→(m3>(ly2:Int)→∀w1,Fr S w w [] [⟨k0,#[.pointer p1,.slice y2 ly2 cy2],66,true⟩] w1→K (.tuple #[.slice none 0 0,.iface 93 (Iv 1)]) w1)∧(¬(m3>(ly2:Int))→Dr y2 λa0=>(0:Int)≤IntKind.wrap .i64 (m3 - 1)∧IntKind.wrap .i64 (m3 - 1)<(ly2:Int)∧∀w2,Fr S w w [] [⟨k0,#[.pointer p1,.slice y2 ly2 cy2],66,true⟩,⟨l0,#[Iv m4,Iv m5,Iv m6,.string z7,.slice y8 ly8 cy8],41,true⟩] w2→let B1:Blk:=⟨l0,#[Iv m4,Iv m5,Iv m6,.string z7,.slice y8 ly8 cy8],41,true⟩;let B0:Blk:=⟨k0,#[.pointer p1,.slice y2 ly2 cy2],66,true⟩;aa_ PR 58 #[.pointer (some (Addr.add a0 (Int.toNat (IntKind.wrap .i64 (m3 - 1))*5))),.agg #[Iv m4,Iv m5,Iv m6,.string z7,.slice y8 ly8 cy8]] w2 λv0 w3=>∃b0,v0=.bool b0∧(b0=true→Fs S w [B0,B1] w3∧Dr (some (Addr.add a0 (Int.toNat (IntKind.wrap .i64 (m3 - 1))*5))) λa1=>Dr (some a1) λa2=>Dr (some (Addr.add a2 3)) λa3=>StC w3 a3 (.bool true) λw4=>Fs S w [B0,B1] w4∧Dr (some (Addr.add a0 (Int.toNat (IntKind.wrap .i64 (m3 - 1))*5))) λa4=>Dr (some a4) λa5=>Dr (some (Addr.add a5 4)) λa6=>StC w4 a6 (Iv m9) λw5=>Fs S w [B0,B1] w5∧(m4=2→aa_ PR 59 #[.pointer (some (⟨k0,0,none⟩)),.agg #[Iv m4,Iv m5,Iv m6,.string z7,.slice y8 ly8 cy8]] w5 λv1 w6=>∃n0 n1 n2 s0 q0 l1 l2,v1=.agg #[Iv n0,Iv n1,Iv n2,.string s0,.slice q0 l1 l2]∧Fs S w [B0,B1] w6∧∀l3,w6.heap.size≤l3→∀w7,Fr S w w6 [] [B0,⟨l3,#[Iv m3,Iv n0,Iv n1,Iv n2,.string s0,.slice q0 l1 l2],130,true⟩] w7→K (.tuple #[.slice (some (⟨l3,0,none⟩)) 1 1,.nilIface]) w7)∧(¬(m4=2)→K (.tuple #[.slice none 0 0,.nilIface]) w5))∧(b0=false→Fs S w [B0,B1] w3∧K (.tuple #[.slice none 0 0,.nilIface]) w3)))):aa_ PR 17 ⟨[.pointer (some ⟨k0,0,none⟩),.int .i64 m3,.agg #[.int .i64 m4,.int .i64 m5,.int .i64 m6,.string z7,.slice y8 ly8 cy8],.int .i64 m9]⟩ w K:=
 bb_ (okf:=⟨okL,[]⟩) ah_ (args:=[.c (.p 0 k0 true 0),.c (.v (.int .i64 m3)),.a [.v (.int .i64 m4),.v (.int .i64 m5),.v (.int .i64 m6),.v (.string z7),.v (.slice y8 ly8 cy8)],.c (.v (.int .i64 m9))]) (H:=[⟨k0,.l [.v (.pointer p1),.v (.slice y2 ly2 cy2)],66,true⟩]) (.s (.r ⟨(some [0]),false,[],[]⟩) (.s .z (.s .z (.s (.s (.r ⟨(some [0,6,10]),false,[],[(2,[999])]⟩) .z) (.s (.r ⟨(some [0,6,10]),false,[],[]⟩) (.s (.s .z (.c (.s (.r ⟨(some [0,6]),false,[],[]⟩) .z) .z)) .z)))))) Go.Proofs.Tryz.func17 rfl ⟨rfl,trivial,⟨trivial,trivial,trivial,trivial,trivial,trivial⟩,trivial,trivial⟩ ⟨⟨trivial,⟨trivial,trivial⟩⟩,trivial⟩ hF hS (ad_ (by kernel_rfl) h)
theorem pt_ (k0:Nat) (m1:Int) (t2:Bool) (z3:ByteArray) (y4:Option Addr) (ly4:Nat) (cy4:Nat) (z5:ByteArray) (y6:Option Addr) (ly6:Nat) (cy6:Nat) (y7:Option Addr) (ly7:Nat) (cy7:Nat) (S:SP) (K:KP) (w:World) (hF:Fs S w [⟨k0,#[.int .i64 m1,.bool t2,.string z3,.slice y4 ly4 cy4,.string z5,.slice y6 ly6 cy6,.slice y7 ly7 cy7],108,true⟩] w) (hS:S k0∧True) (h:(t2=true→K (.bool true) w)∧(t2=false→K (.bool false) w)):aa_ PR 71 ⟨[.pointer (some ⟨k0,0,none⟩)]⟩ w K:=
 ab_ (okf:=⟨okL,[]⟩) ah_ (args:=[.c (.p 0 k0 true 0)]) (H:=[⟨k0,.l [.v (.int .i64 m1),.v (.bool t2),.v (.string z3),.v (.slice y4 ly4 cy4),.v (.string z5),.v (.slice y6 ly6 cy6),.v (.slice y7 ly7 cy7)],108,true⟩]) .z Go.Proofs.Tryz.func71 rfl ⟨rfl,trivial⟩ ⟨⟨trivial,⟨trivial,⟨trivial,⟨trivial,⟨trivial,⟨trivial,⟨trivial,trivial⟩⟩⟩⟩⟩⟩⟩,trivial⟩ hF hS (ad_ (by kernel_rfl) h)
end Go.Vc
namespace Go.Vc
open Go Go.MapKept
def AnsR (x:PubS) (ver i:Int) (m:MsgL):Prop:=BlkR x ver i m∨(∀m',¬BlkR x ver i m')∧m=⟨4,ver,i,[],[]⟩
theorem AnsR.uniq {x y:PubS} {N:Nat} {w:World} (hx:aJ_ N w x) (e1:x.recs=y.recs) (e2:x.last=y.last) (e3:x.com=y.com) (e4:x.man=y.man) {ver i:Int} {m m':MsgL} (h:AnsR x ver i m) (h':AnsR y ver i m'):m=m':=by
 have tr:∀ {m:MsgL},BlkR x ver i m→BlkR y ver i m:=λ{m} h=>by
  obtain ⟨v,j,list,a1,a2,a3,a4,a5,a6,a7,a8,a9⟩:=h
  rw [e2] at a4 a5;rw [e3] at a5;rw [e4] at a6 a7;rw [e1] at a7
  exact ⟨v,j,list,a1,a2,a3,a4,a5,a6,a7,a8,a9⟩
 have tr':∀ {m:MsgL},BlkR y ver i m→BlkR x ver i m:=λ{m} h=>by
  obtain ⟨v,j,list,a1,a2,a3,a4,a5,a6,a7,a8,a9⟩:=h
  rw [← e2] at a4 a5;rw [← e3] at a5;rw [← e4] at a6 a7;rw [← e1] at a7
  exact ⟨v,j,list,a1,a2,a3,a4,a5,a6,a7,a8,a9⟩
 rcases h with h | ⟨h,rfl⟩
 ·rcases h' with h' | ⟨h',rfl⟩
  ·exact BlkR.uniq hx e1 e4 h h'
  ·exact absurd (tr h) (h' _)
 ·rcases h' with h' | ⟨h',rfl⟩
  ·exact absurd (tr' h') (h _)
  ·rfl
theorem mn_ {N:Nat} {w:World} {s:ActS} (h:a0_ N w s) {ver i kind:Int} {z:ByteArray} {y:Option Addr} {ly cy:Nat} (hv : -9223372036854775808≤ver∧ver≤9223372036854775807) {K:Value→World→Prop}
  (hK:∀w' m q c,Grow w w'→AnsR s.x ver i m→Own T.string 1 w' q c (m.proof.map sv8')→m.proof.length≤c→Off (λk=>k<w.heap.size) q→K (eU_ m q c) w'):aa_ PR F.gG_ ⟨[.pointer (some ⟨s.a,0,none⟩),.agg #[.int .i64 kind,.int .i64 ver,.int .i64 i,.string z,.slice y ly cy]]⟩ w K:=by
 have h0:Fs (· = s.a) w [⟨s.a,actC s,T.bc_,true⟩] w:=(Fr.init _ w).entry h.blk (λx h=>by cases h) λ_=>rfl
 refine iC_ s.a (some ⟨s.x.p,0,none⟩) (some ⟨s.bn,0,none⟩) s.reps.length s.reps.length kind ver i z y ly cy (· = s.a) K w h0 ⟨rfl,trivial⟩ λl0 hl0 l1 hl1=>⟨λw0 hF0=>?_,λl6 hl6 w4 hF4=>?_⟩
 ·have g0:Grow w w0:=hF0.grow
  refine ji_ (h.pub.grow g0) hv (λw1 m q c g1 hm ho hc hof=>⟨_,_,_,_,_,_,_,_,rfl,hF0.after g1,λl4 hl4=>⟨λ_ w2 hF2=>?_,(λt x h=>by cases h),.inl rfl⟩⟩) λw1 c g1 hno=>⟨_,_,_,_,_,_,_,_,rfl,hF0.after g1,λl4 hl4=>⟨(λh=>by cases h),(λt x he w2 hF2=>?_),.inr ⟨_,_,rfl⟩⟩⟩
  ·refine hK w2 m q c (hF2.chg.same h.blk (hF2.blk 0 rfl)) (.inl hm) (ho.keep hF2.stp λa ha e=>?_) hc (hof.mono g0.size)
   have:=hof a ha
   have h1:=ho.lt a ha
   have e':a.block=l1∨a.block=l4:=by simpa using e
   have:=hF0.lt _ (List.mem_of_getElem? (i:=2) rfl)
   simp only [] at *
   omega
  ·have:=hK w2 ⟨4,ver,i,[],[]⟩ none 0 (hF2.chg.same h.blk (hF2.blk 0 rfl)) (.inr ⟨hno,rfl⟩) (.nil _ _ _) (Nat.le_refl _) (.none _)
   exact this
 ·have g0:Grow w w4:=hF4.grow
  refine ji_ (h.pub.grow g0) hv (λw1 m q c g1 hm ho hc hof=>⟨_,_,_,_,_,_,_,_,rfl,hF4.after g1,⟨λ_ w2 hF2=>?_,(λt x h=>by cases h),.inl rfl⟩⟩) λw1 c g1 hno=>⟨_,_,_,_,_,_,_,_,rfl,hF4.after g1,⟨(λh=>by cases h),(λt x he w2 hF2=>?_),.inr ⟨_,_,rfl⟩⟩⟩
  ·refine hK w2 m q c (hF2.chg.same h.blk (hF2.blk 0 rfl)) (.inl hm) (ho.keep hF2.stp λa ha e=>?_) hc (hof.mono g0.size)
   have:=hof a ha
   have e':a.block=l1∨a.block=l6:=by simpa using e
   have:=hF4.lt _ (List.mem_of_getElem? (i:=2) rfl)
   have:=hF4.lt _ (List.mem_of_getElem? (i:=3) rfl)
   simp only [] at *
   omega
  ·have:=hK w2 ⟨4,ver,i,[],[]⟩ none 0 (hF2.chg.same h.blk (hF2.blk 0 rfl)) (.inr ⟨hno,rfl⟩) (.nil _ _ _) (Nat.le_refl _) (.none _)
   exact this
end Go.Vc
namespace Go.Vc
open Go Go.MapKept
def oN_ (o:(Int × MsgL) × (Option Addr × Nat)):List Value:=[.int .i64 o.1.1,.int .i64 o.1.2.kind,.int .i64 o.1.2.ver,.int .i64 o.1.2.i,.string (str o.1.2.text),.slice o.2.1 o.1.2.proof.length o.2.2]
theorem fq_ (o:(Int × MsgL) × (Option Addr × Nat)):(oN_ o).length=6:=rfl
def b6_ (w:World) (q:Option Addr) (outs:List (Int × MsgL)):Prop:=
 ∃ps:List (Option Addr × Nat),ps.length=outs.length∧Sl w q ((outs.zip ps).flatMap oN_)∧∀k,(hk:k<outs.length)→(hp:k<ps.length)→Sl w ps[k].1 (outs[k].2.proof.map sv8')
theorem b6_.nil (w:World):b6_ w none []:=⟨[],rfl,.inl rfl,λk hk=>absurd hk (by simp)⟩
theorem b6_.grow {w w':World} {q:Option Addr} {outs:List (Int × MsgL)} (h:b6_ w q outs) (g:Grow w w'):b6_ w' q outs:=by
 obtain ⟨ps,h1,h2,h3⟩:=h
 exact ⟨ps,h1,h2.grow g,λk hk hp=>(h3 k hk hp).grow g⟩
theorem nP_ {N:Nat} {w:World} {s:ActS} (h:a0_ N w s) {j:Nat} (hj:j<s.reps.length) {ver i now:Int} {z:ByteArray} {y:Option Addr} {ly cy:Nat} (hv : -9223372036854775808≤ver∧ver≤9223372036854775807) {K:Value→World→Prop}
  (hK:∀w' q m,a0_ N w' ⟨s.x,s.a,s.bn,s.reps.set j (bB_ s.reps[j] 2 ver now)⟩→Chg (· = s.bn) w w'→AnsR s.x ver i m→b6_ w' q [(((j+1:Nat):Int),m)]→K (.tuple #[.slice q 1 1,.nilIface]) w') :
  aa_ PR F.bl_ ⟨[.pointer (some ⟨s.a,0,none⟩),.int .i64 ((j+1:Nat):Int),.agg #[.int .i64 2,.int .i64 ver,.int .i64 i,.string z,.slice y ly cy],.int .i64 now]⟩ w K:=by
 have h4:=h.n4
 have ha:=ak_ h.blk
 have hbl:=ak_ h.row
 have hab:s.a≠s.bn:=cv_ h.blk h.row (by decide)
 have h0:Fs (λk=>k=s.a∨k=s.bn) w [⟨s.a,actC s,T.bc_,true⟩] w:=(Fr.init _ w).entry h.blk (λx h=>by cases h) λ_=>.inl rfl
 refine kh_ s.a _ _ _ _ ((j+1:Nat):Int) 2 ver i z y ly cy now (λk=>k=s.a∨k=s.bn) K w h0 ⟨.inl rfl,trivial⟩ λl0 hl0=>⟨λh=>by omega,λ_=>⟨λh=>by omega,λ_=>?_⟩⟩
 have ej:IntKind.wrap .i64 (((j+1:Nat):Int) - 1)=(j:Int):=by rw [w64 (by omega) (by omega)];omega
 rw [ej]
 refine ac_.2 ⟨by omega,by omega,λw2 hF2=>?_⟩
 have g2:Grow w w2:=hF2.grow
 rw [am_,Int.toNat_natCast,Nat.zero_add]
 have hb0:w2.heap[s.bn]? = some (.cells ((s.reps.set j s.reps[j]).flatMap rpC).toArray T.aS_ (0,0)):=by
  rw [List.set_getElem_self];exact Grow.get g2 h.row
 have hoff:∀x∈[(⟨s.a,actC s,T.bc_,true⟩:Blk),⟨l0,#[.int .i64 2,.int .i64 ver,.int .i64 i,.string z,.slice y ly cy],T.bL_,true⟩],¬x.b=s.bn:=λx hx e=>by
  simp at hx;rcases hx with rfl | rfl
  ·exact hab e
  ·simp only [] at e;omega
 have fin:∀ {w':World} {r':Rp},Chg (· = s.bn) w w'→w'.heap[s.bn]? = some (.cells ((s.reps.set j r').flatMap rpC).toArray T.aS_ (0,0))→a0_ N w' ⟨s.x,s.a,s.bn,s.reps.set j r'⟩:=λ{w' r'} g hb=>by
  refine ⟨?_,hb,h.pub.mU_ g (λk e=>by subst e;exact h.ex) (λk e=>by subst e;exact h.off.2),h.la,h.ln,by rw [List.length_set];exact h.n1,by rw [List.length_set];exact h.n4,h.off,h.ex⟩
  have:=g.get h.blk hab
  show w'.heap[s.a]? = some (.cells #[.pointer (some ⟨s.x.p,0,none⟩),.slice (some ⟨s.bn,0,none⟩) (s.reps.set j r').length (s.reps.set j r').length] T.bc_ (0,0))
  rw [List.length_set];exact this
 refine kO_ hb0 hj λw3 hb3 g3=>⟨_,rfl,λhh=>?_,λhh=>by cases hh⟩
 have hF3:=hF2.step g3 hoff λk _ e=>.inr e
 refine ⟨hF3,ac_.2 (ac_.2 (ac_.2 ?_))⟩
 refine eC_ (r':={ e1_ s.reps[j] 2 ver with heard:=true }) hb3 hj (by decide) rfl rfl λw4 hb4 g4=>?_
 have hF4:=hF3.step g4 hoff λk _ e=>.inr e
 refine ⟨hF4,ac_.2 (ac_.2 (ac_.2 ?_))⟩
 refine eC_ (r':={ e1_ s.reps[j] 2 ver with heard:=true,at_:=now }) hb4 hj (by decide) rfl rfl λw5 hb5 g5=>?_
 have hF5:=hF4.step g5 hoff λk _ e=>.inr e
 have g:=((g2.then g3).trans g4 λ_ _ e=>e).trans g5 λ_ _ e=>e
 refine ⟨hF5,λ_=>?_,λe=>absurd rfl e⟩
 have hA5:=fin g hb5
 refine mn_ hA5 hv λw6 m q c g6 hm ho hc hof=>⟨_,_,_,_,_,_,_,rfl,hF5.after g6,λl3 hl3 w7 hF7=>?_⟩
 have g7:Grow w6 w7:=hF7.grow
 have gA:Grow w5 w7:=g6.trans g7
 have hb7:=gA.get hb5
 refine hK w7 (some ⟨l3,0,none⟩) m ?_ (g.trans gA λ_ _ e=>e.elim) hm ⟨[(q,c)],rfl,hF7.sl 1 rfl,λk hk hp=>?_⟩
 ·have:=fin (g.trans gA λ_ _ e=>e.elim) hb7
  rw [bB_,if_pos (by rfl)]
  exact this
 ·have:k=0:=by simpa using hk
  subst this
  exact (ho.grow g7).sl
end Go.Vc
namespace Go.Vc
open Go Go.MapKept
theorem lI_ {xs:List (List UInt8)} {q q2:Option Addr} {n c c2:Nat} {w:World} (h1:Sl w q (xs.map sv8')) (h2:Sl w q2 (xs.map sv8')) (hn:n=xs.length) (hl:n≤1000000) {K:Value→World→Prop} (hK:∀w',Grow w w'→K (.bool true) w') :
  aa_ PR F.b7_ ⟨[.slice q n c,.slice q2 n c2]⟩ w K:=by
 subst hn
 refine cx_ q xs.length c q2 xs.length c2 S0 K w ⟨λ_=>⟨λi m w'=>∃k:Nat,i=k∧k≤xs.length∧m=xs.length - k,⟨_,0,rfl,by omega,rfl⟩,?_⟩,λh=>absurd rfl h⟩
 rintro i D m w1 ⟨k,rfl,hk,rfl⟩ hF1
 refine ⟨λhlt w2 hF2=>⟨(· = w2),rfl,?_⟩,λ_=>hK w1 hF1.gr⟩
 have hk':k<xs.length:=by omega
 have g2:=hF1.gr.trans hF2.grow
 refine (h1.grow g2).rd (v:=sv8' xs[k]) (by simp) (by omega) (by simp [hk']) λa ha=>⟨_,λw' e=>e ▸ ha,?_⟩
 refine (h2.grow g2).rd (v:=sv8' xs[k]) (by simp) (by omega) (by simp [hk']) λa ha=>⟨_,λw' e=>e ▸ ha,λ_=>⟨xs.length - (k+1),by omega,k+1,by rw [w64 (by omega) (by omega)];rfl,by omega,rfl⟩,λh=>absurd rfl h⟩
theorem nM_ {m:MsgL} {q q2:Option Addr} {c c2:Nat} {w:World} (h1:Sl w q (m.proof.map sv8')) (h2:Sl w q2 (m.proof.map sv8')) (hl:m.proof.length≤1000000) {K:Value→World→Prop} (hK:∀w',Grow w w'→K (.bool true) w') :
  aa_ PR F.qJ_ ⟨[eU_ m q c,eU_ m q2 c2]⟩ w K:=by
 refine oX_ m.kind m.ver m.i (str m.text) q m.proof.length c m.kind m.ver m.i (str m.text) q2 m.proof.length c2 S0 K w λl0 hl0 l1 hl1=>⟨λ_=>⟨λ_=>⟨λ_=>⟨λ_ w0 hF0=>?_,λh=>absurd rfl h⟩,λh=>absurd rfl h⟩,λh=>absurd rfl h⟩,λh=>absurd rfl h⟩
 exact lI_ (h1.grow hF0.gr) (h2.grow hF0.gr) rfl hl λw1 g1=>⟨true,rfl,(λ_=>⟨hF0.reset.after g1,hK w1 (hF0.reset.after g1).gr⟩),λh=>by cases h⟩
theorem add_add (a:Addr) (i j:Nat):(a.add i).add j=a.add (i+j):=by
 obtain ⟨b,o,r⟩:=a
 simp only [Addr.add]
 by_cases hi:i=0
 ·subst hi;simp
 ·by_cases hj:j=0
  ·subst hj;simp [hi]
  ·simp [hi,hj,Nat.add_assoc]
theorem Grow.cell {w w':World} (g:Grow w w') {a:Addr} {v:Value} (h:w.cell? a=some v):w'.cell? a=some v:=by
 unfold World.cell? at h ⊢
 cases hb:w.heap[a.block]? with
 | none=>simp [hb] at h
 | some o=>rw [g.get hb];rw [hb] at h;exact h
theorem hj_ {outs:List (Int × MsgL)} {q q2:Option Addr} {c c2 n:Nat} {w:World} (h1:b6_ w q outs) (h2:b6_ w q2 outs) (hn:n=outs.length) (hl:n≤1000000) (hp:∀o∈outs,o.2.proof.length≤1000000) {K:Value→World→Prop} (hK:∀w',Grow w w'→K (.bool true) w') :
  aa_ PR F.au_ ⟨[.slice q n c,.slice q2 n c2]⟩ w K:=by
 subst hn
 obtain ⟨ps,hps,hs,hpr⟩:=h1
 obtain ⟨ps2,hps2,hs2,hpr2⟩:=h2
 refine au_ q outs.length c q2 outs.length c2 S0 K w ⟨λ_=>⟨λi m w'=>∃k:Nat,i=k∧k≤outs.length∧m=outs.length - k,⟨_,0,rfl,by omega,rfl⟩,?_⟩,λh=>absurd rfl h⟩
 rintro i D m w1 ⟨k,rfl,hk,rfl⟩ hF1
 refine ⟨λhlt w2 hF2=>⟨λw'=>Grow w2 w',.refl _ _,?_⟩,λ_=>hK w1 hF1.gr⟩
 have hk':k<outs.length:=by omega
 have g2:=hF1.gr.trans hF2.grow
 have z1:k<(outs.zip ps).length:=by rw [List.length_zip];omega
 have z2:k<(outs.zip ps2).length:=by rw [List.length_zip];omega
 have e1:(outs.zip ps)[k]=(outs[k],ps[k]):=List.getElem_zip
 have e2:(outs.zip ps2)[k]=(outs[k],ps2[k]):=List.getElem_zip
 refine (hs.grow g2).rdN fq_ (by decide) rfl z1 hk' λa hc=>?_
 rw [e1] at hc
 refine ac_.2 ⟨_,λw' e=>Grow.cell e (hc 0 _ rfl),?_⟩
 refine (hs2.grow g2).rdN fq_ (by decide) rfl z2 hk' λa2 hc2=>?_
 rw [e2] at hc2
 refine ac_.2 ⟨_,λw' e=>Grow.cell e (hc2 0 _ rfl),λ_=>?_,λh=>absurd rfl h⟩
 refine (hs.grow g2).rdN fq_ (by decide) rfl z1 hk' λa hc=>?_
 rw [e1] at hc
 refine ac_.2 ⟨_,λw' e=>by rw [add_add];exact Grow.cell e (hc 1 _ rfl),_,λw' e=>by rw [add_add];exact Grow.cell e (hc 2 _ rfl),_,λw' e=>by rw [add_add];exact Grow.cell e (hc 3 _ rfl),_,λw' e=>by rw [add_add];exact Grow.cell e (hc 4 _ rfl),_,_,_,λw' e=>by rw [add_add];exact Grow.cell e (hc 5 _ rfl),?_⟩
 refine (hs2.grow g2).rdN fq_ (by decide) rfl z2 hk' λa2 hc2=>?_
 rw [e2] at hc2
 refine ac_.2 ⟨_,λw' e=>by rw [add_add];exact Grow.cell e (hc2 1 _ rfl),_,λw' e=>by rw [add_add];exact Grow.cell e (hc2 2 _ rfl),_,λw' e=>by rw [add_add];exact Grow.cell e (hc2 3 _ rfl),_,λw' e=>by rw [add_add];exact Grow.cell e (hc2 4 _ rfl),_,_,_,λw' e=>by rw [add_add];exact Grow.cell e (hc2 5 _ rfl),?_⟩
 exact nM_ (m:=outs[k].2) ((hpr k hk' (by omega)).grow g2) ((hpr2 k hk' (by omega)).grow g2) (hp _ (List.getElem_mem hk')) λw3 g3=>⟨true,rfl,(λ_=>⟨hF2.reset.after g3,g3,outs.length - (k+1),by omega,k+1,by rw [w64 (by omega) (by omega)];rfl,by omega,rfl⟩),λh=>by cases h⟩
end Go.Vc
namespace Go.Vc
open Go Go.MapKept
def outL (o:OutV):Int × MsgL:=(o.to,⟨o.m.kind,o.m.ver,o.m.i,o.m.text.data.toList,[]⟩)
theorem eb_ (t:ByteArray):str t.data.toList=t:=by
 apply ByteArray.ext
 simp [str]
theorem b6_.of {w:World} {q:Option Addr} {l:List OutV} (h:Sl w q (l.flatMap outC)):b6_ w q (l.map outL):=by
 refine ⟨List.replicate l.length (none,0),by simp,?_,λk hk hp=>?_⟩
 ·have e:∀l:List OutV,((l.map outL).zip (List.replicate l.length ((none:Option Addr),0))).flatMap oN_=l.flatMap outC:=λl=>by
   induction l with
   | nil=>rfl
   | cons o l ih=>
    rw [List.map_cons,List.length_cons,List.replicate_succ,List.zip_cons_cons,List.flatMap_cons,List.flatMap_cons,ih]
    have e1:oN_ (outL o,none,0)=outC o:=by simp only [oN_,outL,outC,eb_,List.length_nil]
    rw [e1]
  rw [e];exact h
 ·rw [List.getElem_map]
  exact .inl rfl
theorem r0_ {s t:ActS} (e1:s.x.last=t.x.last) (e2:s.x.com=t.x.com) (e3:s.x.man=t.x.man) (e4:s.reps=t.reps) (now:Int):∀n,outN s now n=outN t now n:=by
 have et:s.tgt=t.tgt:=by unfold ActS.tgt;rw [e1,e2]
 have es:∀r,bg_ s r now=bg_ t r now:=λr=>by unfold bg_ jr_ comL;rw [et,e2,e3]
 intro n
 induction n with
 | zero=>rfl
 | succ k ih=>
  show outN s now k++(match s.reps[k]? with | some r=>(bg_ s r now).map λm=>(⟨((k+1:Nat):Int),m⟩:OutV) | none=>[])=outN t now k++(match t.reps[k]? with | some r=>(bg_ t r now).map λm=>(⟨((k+1:Nat):Int),m⟩:OutV) | none=>[])
  rw [ih,e4]
  simp only [es]
theorem pP_ {s t:ActS} (e1:s.x.last=t.x.last) (e2:s.x.com=t.x.com) (e4:s.reps=t.reps) (now:Int):dE_ s now↔dE_ t now:=by
 have et:s.tgt=t.tgt:=by unfold ActS.tgt;rw [e1,e2]
 unfold dE_
 rw [et,e4]
end Go.Vc
namespace Go.Vc
open Go Go.MapKept
def s5_ (s:ActS) (now:Nat):Array Value:=#[.pointer (some ⟨s.a,0,none⟩),.pointer (some ⟨s.x.bd,0,none⟩),.int .i64 (s.reps.length:Nat),.int .i64 (now:Nat)]
structure a9_ (N:Nat) (w:World) (k0:Nat) (s:ActS) (now:Nat):Prop where
 blk:w.heap[k0]? = some (.cells (s5_ s now) T.aR_ (0,0))
 act:a0_ N w s
 lo:N≤k0
 off:¬s.x.reg k0
 ex:s.x.ex k0
theorem a9_.grow {N:Nat} {w w':World} {k0:Nat} {s:ActS} {now:Nat} (h:a9_ N w k0 s now) (g:Grow w w'):a9_ N w' k0 s now:=⟨Grow.get g h.blk,h.act.grow g,h.lo,h.off,h.ex⟩
theorem a9_.fs {N:Nat} {w:World} {k0:Nat} {s:ActS} {now:Nat} (h:a9_ N w k0 s now) {S:Nat→Prop} (hS:S k0):Fs S w [⟨k0,s5_ s now,T.aR_,true⟩] w:=(Fr.init _ w).entry h.blk (λx h=>by cases h) λ_=>hS
theorem nV_ {w:World} {b:Nat} {log:ByteArray} (h:DskW w b log) {K:Value→World→Prop} (hK:K (.bool false) w):aa_ PR F.gD_ ⟨[.pointer (some ⟨b,0,none⟩)]⟩ w K:=by
 obtain ⟨lasts,q0,q1,c0,c1,wq,wl,wc,h⟩:=h
 exact pt_ b (-1) false log q0 0 c0 lasts q1 0 c1 wq wl wc (· = b) K w ((Fr.init _ w).entry h (λx h=>by cases h) λ_=>rfl) ⟨rfl,trivial⟩ ⟨(λh=>by cases h),λ_=>hK⟩
theorem nR_ {N:Nat} {w:World} {k0:Nat} {s:ActS} {now:Nat} (h:a9_ N w k0 s now) {K:Value→World→Prop} (hK:K (.bool false) w):aa_ PR F.gy_ ⟨[.pointer (some ⟨k0,0,none⟩)]⟩ w K:=by
 have hF:=h.fs (S:=(· = k0)) rfl
 exact pf_ k0 _ _ _ _ (· = k0) K w hF ⟨rfl,trivial⟩ ⟨(λh=>by cases h),λa0 _=>nV_ h.act.pub.jrn.dsk.w ⟨false,rfl,(λh=>by cases h),λ_=>⟨hF,hK⟩⟩⟩
theorem f3_ {N:Nat} {w:World} {k0:Nat} {s:ActS} {now:Nat} (h:a9_ N w k0 s now) {K:Value→World→Prop} (hK:K .nilIface w):aa_ PR F.gx_ ⟨[.pointer (some ⟨k0,0,none⟩)]⟩ w K:=by
 have hF:=h.fs (S:=(· = k0)) rfl
 exact pc_ k0 _ _ _ _ (· = k0) K w hF ⟨rfl,trivial⟩ (nR_ h ⟨false,rfl,(λh=>by cases h),λ_=>⟨hF,hK⟩⟩)
theorem p8_ {N:Nat} {w:World} {k0:Nat} {s:ActS} {now:Nat} (h:a9_ N w k0 s now) {K:Value→World→Prop} (hK:K (.int .i64 (now:Nat)) w):aa_ PR F.dQ_ ⟨[.pointer (some ⟨k0,0,none⟩)]⟩ w K:=
 qX_ k0 _ _ _ _ (· = k0) K w (h.fs rfl) ⟨rfl,trivial⟩ hK
theorem ez_ {N:Nat} {w:World} {k0:Nat} {s:ActS} {now:Nat} (h:a9_ N w k0 s now) {K:Value→World→Prop} (hK:K (.int .i64 (s.reps.length:Nat)) w):aa_ PR F.bh_ ⟨[.pointer (some ⟨k0,0,none⟩)]⟩ w K:=
 j0_ k0 _ _ _ _ (· = k0) K w (h.fs rfl) ⟨rfl,trivial⟩ hK
theorem fH_ {N:Nat} {w:World} {k0:Nat} {s:ActS} {now:Nat} (h:a9_ N w k0 s now) (hN:N≤w.heap.size) {nodes:Int} {l:List (Int × Int)} {y:Option Addr} {n cy:Nat} (hs:Sl w y (encE l)) (hl:n=l.length) (hn:n≤100000) {K:Value→World→Prop}
  (h1:∀w' x' mn list,mr_ s.x nodes l mn list→x'.recs=s.x.recs++[recV mn list]→(x'.man=λi=>if i=s.x.last+1 then mn else s.x.man i)→a9_ N w' k0 ⟨x',s.a,s.bn,s.reps⟩ now→Chg s.x.reg w w'→x'.each=s.x.each→x'.last=s.x.last+1→x'.com=s.x.com→x'.ex=s.x.ex→(∀k,x'.reg k→s.x.reg k∨w.heap.size≤k)→K (.tuple #[.int .i64 (x'.last:Nat),.nilIface]) w')
  (h2:∀w' v c,Grow w w'→isEC c v→ey_ s.x nodes l c→¬snug s.x nodes l→K (.tuple #[.int .i64 0,v]) w'):aa_ PR F.cp_ ⟨[.pointer (some ⟨k0,0,none⟩),.int .i64 nodes,.slice y n cy]⟩ w K:=by
 have hF:=h.fs (S:=λk=>k=k0∨s.x.reg k) (.inl rfl)
 have hk0:=ak_ h.blk
 refine k2_ k0 _ _ _ _ nodes y n cy (λk=>k=k0∨s.x.reg k) K w hF ⟨.inl rfl,trivial⟩ (f3_ h ⟨_,rfl,hF,λ_=>ac_.2 (ac_.2 (ac_.2 ⟨_,by rw [am_,ap_ h.act.blk];rfl,?_⟩)),(λt x h=>by cases h),.inl rfl⟩)
 refine d__ h.act.pub hN hs hl hn (λw1 x' mn list hok er em hx' g f1 f2 f3 f4 f5 f6 f7 f8 f9 f10=>?_) λw1 v c g hx' hv hpe hsn=>?_
 ·have hA:=h.act.oI_ hx' g f1 f8 f9
  have hb:=g.get h.blk h.off
  have:=h1 w1 x' mn list hok er em ⟨by show w1.heap[k0]? = some (.cells #[.pointer (some ⟨s.a,0,none⟩),.pointer (some ⟨x'.bd,0,none⟩),.int .i64 (s.reps.length:Nat),.int .i64 (now:Nat)] T.aR_ (0,0));rw [f2];exact hb,hA,h.lo,λe=>(f9 _ e).elim h.off λe=>by omega,by show x'.ex k0;rw [f8];exact h.ex⟩ g f3 f4 f5 f8 f9
  exact ⟨_,_,rfl,hF.step g (λx hx e=>by simp at hx;subst hx;exact h.off e) (λk _ e=>.inr e),this⟩
 ·exact ⟨_,_,rfl,hF.after g,h2 w1 v c g hv hpe hsn⟩
end Go.Vc
namespace Go.Vc
open Go Go.MapKept
def OutR (x:PubS) (j:Nat) (m:MsgL) (outs:List (Int × MsgL)):Prop:=(m.kind≠2∧outs=[])∨(m.kind=2∧∃r,AnsR x m.ver m.i r∧outs=[(((j+1:Nat):Int),r)])
theorem OutR.uniq {x y:PubS} {N:Nat} {w:World} (hx:aJ_ N w x) (e1:x.recs=y.recs) (e2:x.last=y.last) (e3:x.com=y.com) (e4:x.man=y.man) {j:Nat} {m:MsgL} {o o':List (Int × MsgL)} (h:OutR x j m o) (h':OutR y j m o'):o=o':=by
 rcases h with ⟨h1,rfl⟩ | ⟨h1,r,hr,rfl⟩
 ·rcases h' with ⟨_,rfl⟩ | ⟨h2,_⟩
  ·rfl
  ·exact absurd h2 h1
 ·rcases h' with ⟨h2,_⟩ | ⟨_,r',hr',rfl⟩
  ·exact absurd h1 h2
  ·rw [AnsR.uniq hx e1 e2 e3 e4 hr hr']
theorem AnsR.small {x:PubS} {ver i:Int} {m:MsgL} (h:AnsR x ver i m):m.proof.length≤1000000:=by
 rcases h with ⟨v,j,list,_,_,_,_,_,hL,_,_,rfl⟩ | ⟨_,rfl⟩
 ·have hbl:=hL.ok.blocks.2
  have hb2:=hL.blocks
  have:∀(leaves:List (List UInt8)) (f i a n:Nat),(be_ leaves f i a n).length≤f:=by
   intro leaves f
   induction f with
   | zero=>intro i a n;simp [be_]
   | succ f ih=>
    intro i a n
    unfold be_
    split
    ·simp
    ·split
     ·have:=ih i a (aw_ n);simp;omega
     ·have:=ih i (a+aw_ n) (n - aw_ n);simp;omega
  have:=this (list.map bi_) list.length j 0 list.length
  show (be_ _ _ _ _ _).length≤_
  omega
 ·simp
theorem OutR.small {x:PubS} {j:Nat} {m:MsgL} {o:List (Int × MsgL)} (h:OutR x j m o):o.length≤1∧∀p∈o,p.2.proof.length≤1000000:=by
 rcases h with ⟨_,rfl⟩ | ⟨_,r,hr,rfl⟩
 ·exact ⟨by simp,λp hp=>by cases hp⟩
 ·exact ⟨by simp,λp hp=>by rw [List.mem_singleton.1 hp];exact hr.small⟩
theorem jj_ {N:Nat} {w:World} {s:ActS} (h:a0_ N w s) {j:Nat} (hj:j<s.reps.length) {m:MsgL} {now:Int} {y:Option Addr} {cy:Nat} (hv : -9223372036854775808≤m.ver∧m.ver≤9223372036854775807) {K:Value→World→Prop}
  (hK:∀w' q outs c,a0_ N w' ⟨s.x,s.a,s.bn,s.reps.set j (bB_ s.reps[j] m.kind m.ver now)⟩→Chg (· = s.bn) w w'→OutR s.x j m outs→b6_ w' q outs→K (.tuple #[.slice q outs.length c,.nilIface]) w') :
  aa_ PR F.bl_ ⟨[.pointer (some ⟨s.a,0,none⟩),.int .i64 ((j+1:Nat):Int),eU_ m y cy,.int .i64 now]⟩ w K:=by
 by_cases hk:m.kind=2
 ·have e:eU_ m y cy=.agg #[.int .i64 2,.int .i64 m.ver,.int .i64 m.i,.string (str m.text),.slice y m.proof.length cy]:=by unfold eU_;rw [hk]
  rw [e]
  refine nP_ h hj hv λw' q r hA g hr ho=>?_
  rw [← hk] at hA
  exact hK w' q _ 1 hA g (.inr ⟨hk,r,hr,rfl⟩) ho
 ·obtain ⟨x,a,bn,reps⟩:=s
  exact nO_ h hj hk λw' hA g=>hK w' none [] 0 hA g (.inl ⟨hk,rfl⟩) (.nil _)
theorem k4_ {S:List UInt8→Nat} {l:List UInt8} {m:MsgL} (h:cJ_ S l=.inl m):fs_ m:=by
 unfold cJ_ at h
 split at h
 ·cases h
 ·rw [f4_] at h
  split at h
  ·cases h
  ·split at h
   ·cases h
   ·split at h
    ·cases h
    ·split at h
     ·rename_i hk
      cases h;exact hk
     ·cases h
theorem ge_ {N:Nat} {w:World} {k0:Nat} {s:ActS} {now:Nat} (h:a9_ N w k0 s now) {fr:Int} {l:List UInt8} (hl:l.length≤1099511627776) {K:Value→World→Prop}
  (h1:¬(1≤fr∧fr≤s.reps.length)→K (.tuple #[.slice none 0 0,.nilIface]) w)
  (h2:∀w' c v,1≤fr→fr≤s.reps.length→Grow w w'→cJ_ crcN l=.inr c→isEC c v→K (.tuple #[.slice none 0 0,v]) w')
  (h3:∀w' j m q outs c,(hj:j<s.reps.length)→fr=((j+1:Nat):Int)→cJ_ crcN l=.inl m→a9_ N w' k0 ⟨s.x,s.a,s.bn,s.reps.set j (bB_ s.reps[j] m.kind m.ver (now:Nat))⟩ now→Chg (· = s.bn) w w'→OutR s.x j m outs→b6_ w' q outs→K (.tuple #[.slice q outs.length c,.nilIface]) w') :
  aa_ PR F.cb_ ⟨[.pointer (some ⟨k0,0,none⟩),.int .i64 fr,.string (str l)]⟩ w K:=by
 have hF:=h.fs (S:=λk=>k=k0∨k=s.bn) (.inl rfl)
 have hk0:=ak_ h.blk
 have hbn:k0≠s.bn:=cv_ h.blk h.act.row (by decide)
 refine pe_ k0 _ _ _ _ fr (str l) (λk=>k=k0∨k=s.bn) K w hF ⟨.inl rfl,trivial⟩ (f3_ h ⟨_,rfl,hF,λ_=>⟨λhlt=>h1 (by omega),λhge=>⟨λhgt=>h1 (by omega),λhle=>?_⟩⟩,(λt x h=>by cases h),.inl rfl⟩)
 refine if_ hl (λw1 m q c g1 hm ho hc hof=>?_) λw1 c v g1 hm hv=>?_
 ·have hF1:=hF.after g1
  refine ⟨_,_,_,_,_,_,_,_,rfl,hF1,λl2 hl2=>⟨λ_ w2 hF2=>?_,(λt x h=>by cases h),.inl rfl⟩⟩
  have g2:Grow w1 w2:=(hF2.unM hl2).grow
  obtain ⟨j,hjf⟩:∃j:Nat,fr=((j+1:Nat):Int):=⟨fr.toNat - 1,by omega⟩
  have hj:j<s.reps.length:=by omega
  have hok:=k4_ hm
  have h2':=h.grow (g1.trans g2)
  rw [hjf]
  refine jj_ (m:=m) h2'.act hj ⟨by have:=hok.1;omega,by have:=hok.1;omega⟩ λw3 q3 outs c3 hA g3 hr ho3=>?_
  have hb3:=g3.get h2'.blk hbn
  refine ⟨_,_,_,_,rfl,hF2.reset.step g3 (λx hx e=>?_) (λk _ e=>.inr e),?_⟩
  ·have e':x.b=s.bn:=e
   have hbl:=ak_ h.act.row
   have s1:=g1.size
   simp at hx
   rcases hx with rfl | rfl
   ·exact hbn e'
   ·simp only [] at e';omega
  ·refine h3 w3 j m q3 outs c3 hj hjf hm ⟨?_,hA,h.lo,h.off,h.ex⟩ ((g1.trans g2).then g3) hr ho3
   show w3.heap[k0]? = some (.cells #[.pointer (some ⟨s.a,0,none⟩),.pointer (some ⟨s.x.bd,0,none⟩),.int .i64 ((s.reps.set j _).length:Nat),.int .i64 (now:Nat)] T.aR_ (0,0))
   rw [List.length_set];exact hb3
 ·have hF1:=hF.after g1
  refine ⟨_,_,_,_,_,_,_,_,rfl,hF1,λl2 hl2=>⟨(λh=>by obtain ⟨t,x,rfl⟩:=hv.err;cases h),(λt x he w4 hF4=>h2 w4 c _ (by omega) (by omega) (g1.trans (hF4.unM hl2).grow) hm hv),.inr (by obtain ⟨t,x,h⟩:=hv.err;exact ⟨t,x,h⟩)⟩⟩
end Go.Vc
namespace Go.Vc
open Go Go.RowKit Go.Extern.Stop Go.Stop Go.Extern Go.Proofs
theorem mi_ (w:World):((Extern.ReflectliteType.method λt=>do Extern.Rtype.noPackHeld "Comparable" t;(λa=>Value.bool a.comparable) <$> typeInfo t) #[.agg #[.pointer (some ⟨2,93,none⟩)]]).run Tryz.prog w=.ok (.bool true) w:=by kernel_rfl
theorem gJ_ (h:Value) (w:World):(Go.method 494 258 (.agg #[h]) "Comparable").run Tryz.prog w=.ok (285,.agg #[h]) w:=by kernel_rfl
theorem tb_ (w:World):(binOp .eql 27 .nilIface (.iface 93 (.int .i64 7))).run Tryz.prog w=.ok (.bool false) w:=by kernel_rfl
theorem sc_ (w:World):(binOp .eql 27 (.iface 93 (.int .i64 7)) (.iface 93 (.int .i64 7))).run Tryz.prog w=.ok (.bool true) w:=by kernel_rfl
theorem tm_ (w:World):Calls Tryz.prog 61 #[.nilIface,.iface 93 (.int .i64 7)] w λe w'=>e=.returned (.bool false)∧w'=w:=by
 have hn:=tb_ w
 go_enter Tryz.func61,Tryz.ntmps61
 go_wp2
 go_ret
 exact ⟨rfl,rfl⟩
theorem sn_ (w:World):Calls Tryz.prog 61 #[.iface 93 (.int .i64 7),.iface 93 (.int .i64 7)] w λe w'=>e=.returned (.bool true)∧w'=w:=by
 have h8:=@run_callFunc_extern Tryz.prog 118 _ Extern.ReflectliteType.typeOf Tryz.func118 (by kernel_rfl) (by kernel_rfl) (by kernel_rfl) (by kernel_rfl)
 have h32:=@run_callFunc_extern Tryz.prog 285 _ (Extern.ReflectliteType.method λt=>do Extern.Rtype.noPackHeld "Comparable" t;pure (.bool (← typeInfo t).comparable)) Tryz.func285 (by kernel_rfl) (by kernel_rfl) (by kernel_rfl) (by kernel_rfl)
 have tT:=lF_
 have cT:=mi_
 have mR:=gJ_
 have hn:=sc_ w
 go_enter Tryz.func61,Tryz.ntmps61
 go_wp2
 refine wp_loop_rounds 1 ?_
 rw [rounds_succ]
 go_wp2
 go_ret
 exact ⟨rfl,rfl⟩
theorem ig_ {w:World} {K:Value→World→Prop} (hK:K (.bool false) w):aa_ PR F.k9_ #[.nilIface,.iface T.ax_ (.int .i64 7)] w K:=
 en_ (tm_ w) λe w' ⟨he,g⟩=>⟨_,he,g ▸ hK⟩
theorem ls_ {w:World} {K:Value→World→Prop} (hK:K (.bool true) w):aa_ PR F.k9_ #[.iface T.ax_ (.int .i64 7),.iface T.ax_ (.int .i64 7)] w K:=
 en_ (sn_ w) λe w' ⟨he,g⟩=>⟨_,he,g ▸ hK⟩
end Go.Vc
namespace Go.Vc
open Go Go.MapKept
theorem jh_ {N:Nat} {w:World} {k0:Nat} {s:ActS} {now:Nat} (h:a9_ N w k0 s now) (hN:N≤w.heap.size) (hn:now+1≤1000000) (hd:∀r∈s.reps,0≤r.done) {K:Value→World→Prop}
  (h1:∀w' q c,¬dE_ s ((now+1:Nat):Int)→a9_ N w' k0 s (now+1)→Chg (· = k0) w w'→Sl w' q ((outN s ((now+1:Nat):Int) s.reps.length).flatMap outC)→Off (λj=>j<w.heap.size) q→K (.tuple #[.slice q (outN s ((now+1:Nat):Int) s.reps.length).length c,.nilIface]) w')
  (h2:∀w' s' q c,dE_ s ((now+1:Nat):Int)→a9_ N w' k0 s' (now+1)→Chg (λk=>k=k0∨s.x.reg k) w w'→s'.a=s.a→s'.reps=s.reps→s'.x.last=s.x.last→s'.x.com=s.x.last→s'.bn=s.bn→s'.x.recs=s.x.recs++[recC s.x.last]→s'.x.man=s.x.man→s'.x.each=s.x.each→s'.x.ex=s.x.ex→(∀k,s'.x.reg k→s.x.reg k∨w.heap.size≤k)→(recC s.x.last).length+6≤s.x.room→Sl w' q ((outN s' ((now+1:Nat):Int) s'.reps.length).flatMap outC)→Off (λj=>j<w.heap.size) q→K (.tuple #[.slice q (outN s' ((now+1:Nat):Int) s'.reps.length).length c,.nilIface]) w')
  (h3:∀w',dE_ s ((now+1:Nat):Int)→s.x.room<(recC s.x.last).length+6→a9_ N w' k0 s (now+1)→Chg (· = k0) w w'→K (.tuple #[.slice none 0 0,.nilIface]) w') :
  aa_ PR F.dC_ ⟨[.pointer (some ⟨k0,0,none⟩)]⟩ w K:=by
 have hF:=h.fs (S:=λk=>k=k0∨s.x.reg k) (.inl rfl)
 have hk0:=ak_ h.blk
 have hka:k0≠s.a:=cv_ h.blk h.act.blk (by decide)
 have hkb:k0≠s.bn:=cv_ h.blk h.act.row (by decide)
 refine pd_ k0 _ _ _ _ (λk=>k=k0∨s.x.reg k) K w hF ⟨.inl rfl,trivial⟩ λw0 hF0=>?_
 have en:IntKind.wrap .i64 ((now:Int)+1)=((now+1:Nat):Int):=by rw [w64 (by omega) (by omega)];omega
 rw [en] at hF0 ⊢
 have g0:Chg (· = k0) w w0:=hF0.stp.mono λk _ e=>by simpa using e
 have hA0:a0_ N w0 s:=⟨g0.get h.act.blk λe=>hka e.symm,g0.get h.act.row λe=>hkb e.symm,h.act.pub.mU_ g0 (λk e=>by subst e;exact h.ex) (λk e=>by subst e;exact h.off),h.act.la,h.act.ln,h.act.n1,h.act.n4,h.act.off,h.act.ex⟩
 have hH0:a9_ N w0 k0 s (now+1):=⟨hF0.blk 0 rfl,hA0,h.lo,h.off,h.ex⟩
 have s0:=g0.size
 refine f3_ hH0 ⟨_,rfl,hF0.reset,λ_ w2 hF2=>?_,(λt x h=>by cases h),.inl rfl⟩
 have g2:Grow w0 w2:=hF2.grow
 have s2:=g2.size
 have hH2:=hH0.grow g2
 refine fD_ hH2.act (by omega) ⟨by omega,by omega⟩ hd (λw3 q c hna g3 hs ho=>?_) (λw3 s' q c hag hA g3 a1 a2 a3 a4 a5 a6 a7 a8 a9 a10 a11 a12 a13 hs ho=>?_) λw3 hag hr g3=>?_
 ·have hF3:=hF2.reset.after g3
  exact ⟨_,_,_,_,rfl,hF3,ig_ ⟨false,rfl,(λh=>by cases h),λ_=>⟨hF3,h1 w3 q c hna (hH2.grow g3) (g0.grow (g2.trans g3)) hs (λa ha e=>ho a ha (by have e':a.block<w.heap.size:=e;show a.block<w2.heap.size;omega))⟩⟩⟩
 ·have hF3:=hF2.reset.step g3 (λx hx e=>by simp at hx;subst hx;exact h.off e) λk _ e=>.inr e
  have hb3:=g3.get hH2.blk h.off
  refine ⟨_,_,_,_,rfl,hF3,ig_ ⟨false,rfl,(λh=>by cases h),λ_=>⟨hF3,h2 w3 s' q c hag ⟨?_,hA,h.lo,λe=>(a12 _ e).elim h.off λe=>by omega,by rw [a11];exact h.ex⟩ hF3.chg a1 a2 a4 a5 a6 a7 a8 a9 a11 (λk e=>(a12 k e).imp id λh=>by omega) a13 hs (λa ha e=>ho a ha (by have e':a.block<w.heap.size:=e;show a.block<w2.heap.size;omega))⟩⟩⟩
  show w3.heap[k0]? = some (.cells #[.pointer (some ⟨s'.a,0,none⟩),.pointer (some ⟨s'.x.bd,0,none⟩),.int .i64 (s'.reps.length:Nat),.int .i64 ((now+1:Nat):Int)] T.aR_ (0,0))
  rw [a1,a10,a2];exact hb3
 ·have hF3:=hF2.reset.after g3
  exact ⟨_,_,_,_,rfl,hF3,ls_ ⟨true,rfl,(λ_=>⟨hF3,h3 w3 hag hr (hH2.grow g3) (g0.grow (g2.trans g3))⟩),λh=>by cases h⟩⟩
end Go.Vc
namespace Go.Vc
open Go Go.MapKept
theorem aJ_.sF_ {N:Nat} {w:World} {x:PubS} (h:aJ_ N w x) (h0:x.last=0) {ex:Nat→Prop} (hex:∀k,ex k→k<w.heap.size):aJ_ N w { x with ex:=ex }:=
 ⟨h.blk,h.jrn,h.map,λk v hr=>by obtain ⟨i,b,c,mn,list,h1,h2,_⟩:=h.kept k v hr;omega,h.has,h.com_le,h.last_le,h.room,h.each1,h.each2,h.lo,hex,h.only,h.rep⟩
theorem tl_ {N:Nat} {w:World} {x:PubS} (h:aJ_ N w x) (hN:N≤w.heap.size) {n:Int} {K:Value→World→Prop}
  (h1:∀w' s (k:Nat),n=k→1≤k→k≤4→Grow w w'→a0_ N w' s→s.x = { x with ex:=λk=>k=s.bn∨x.ex k }→s.reps=List.replicate k rp0→w.heap.size≤s.a→w.heap.size≤s.bn→K (.tuple #[.pointer (some ⟨s.a,0,none⟩),.nilIface]) w')
  (h2:n<1∨4<n→K (.tuple #[.pointer none,.iface T.ax_ (.int .i64 1)]) w):aa_ PR F.pR_ ⟨[.pointer (some ⟨x.p,0,none⟩),.int .i64 n]⟩ w K:=by
 refine m__ (some ⟨x.p,0,none⟩) n S0 K w ⟨(λh=>by cases h),λa ha=>⟨λh=>h2 (.inl h),λhge=>⟨λh=>h2 (.inr (by omega)),λhle=>?_⟩⟩⟩
 obtain ⟨k,rfl⟩:=Int.eq_ofNat_of_zero_le (a:=n) (by omega)
 refine kU_ (by omega) (by omega) λb w1 hb g1 hbb=>⟨_,_,_,rfl,(Fr.init _ w).after g1,λl2 hl2 w2 hF2=>?_⟩
 have g2:Grow w1 w2:=hF2.grow
 have g12:=g1.trans g2
 have s1:=g1.size
 have hlt:=h.lt
 have hp2:=h.grow g12
 have hbl:b<w2.heap.size:=by have:=g2.size;have:=ak_ hbb;omega
 have hx':aJ_ N w2 { x with ex:=λk=>k=b∨x.ex k }:=by
  refine ⟨hp2.blk,hp2.jrn,hp2.map,λk v hr=>?_,hp2.has,hp2.com_le,hp2.last_le,hp2.room,hp2.each1,hp2.each2,hp2.lo,λk hk=>by have hk':k=b∨x.ex k:=hk;rcases hk' with h' | h';omega;exact hp2.exlt k h',hp2.only,hp2.rep⟩
  exact (h.kept k v hr).keep g12 (λ_ _ e=>e.elim) (λk hk e=>e.elim .inl λe=>by have e':k=b∨x.ex k:=e;rcases e' with h' | h';omega;exact .inr h') (Nat.le_refl _) (λ_ h=>h)
 refine h1 w2 ⟨{ x with ex:=λk=>k=b∨x.ex k },l2,b,List.replicate k rp0⟩ k rfl (by omega) (by omega) g12 ⟨?_,Grow.get g2 hbb,hx',by show N≤l2;omega,by show N≤b;omega,by rw [List.length_replicate];omega,by rw [List.length_replicate];omega,⟨λe=>?_,λe=>?_⟩,.inl rfl⟩ rfl rfl (by show w.heap.size≤l2;omega) (by show w.heap.size≤b;omega)
 ·have:=hF2.blk 0 rfl
  show w2.heap[l2]? = some (.cells #[.pointer (some ⟨x.p,0,none⟩),.slice (some ⟨b,0,none⟩) (List.replicate k rp0).length (List.replicate k rp0).length] T.bc_ (0,0))
  rw [List.length_replicate];exact this
 ·have:=hlt _ e;simp only [] at this;omega
 ·have:=hlt _ e;simp only [] at this;omega
theorem nQ_ {N:Nat} {w:World} {k0 bd:Nat} {n:Int} (hb:w.heap[k0]? = some (.cells #[.pointer none,.pointer (some ⟨bd,0,none⟩),.int .i64 n,.int .i64 0] T.aR_ (0,0))) (hd:eu_ w bd ⟨#[]⟩) (hN:N≤bd) (hk:N≤k0) {K:Value→World→Prop}
  (h1:∀w' s (k:Nat),n=k→1≤k→k≤4→Chg (· = k0) w w'→a9_ N w' k0 s 0→s.reps=List.replicate k rp0→s.x.each=10→s.x.last=0→s.x.com=0→s.x.recs=[]→K .nilIface w')
  (h2:∀w',n<1∨4<n→Chg (· = k0) w w'→w'.heap[k0]? = some (.cells #[.pointer none,.pointer (some ⟨bd,0,none⟩),.int .i64 n,.int .i64 0] T.aR_ (0,0))→K (.iface T.ax_ (.int .i64 1)) w') :
  aa_ PR F.gw_ ⟨[.pointer (some ⟨k0,0,none⟩)]⟩ w K:=by
 have hF:Fs (· = k0) w [⟨k0,#[.pointer none,.pointer (some ⟨bd,0,none⟩),.int .i64 n,.int .i64 0],T.aR_,true⟩] w:=(Fr.init _ w).entry hb (λx h=>by cases h) λ_=>rfl
 have hk0:=ak_ hb
 refine pb_ k0 none _ n 0 (· = k0) K w hF ⟨rfl,trivial⟩ λw0 hF0=>?_
 have g0:Grow w w0:=hF0.chg.same hb (hF0.blk 0 rfl)
 have s0:=g0.size
 refine jf_ (N:=N) (each:=10) (hd.keep g0 λe=>e) hN (by omega) (by omega) (by omega) λw1 x g1 hx e1 e2 e3 e4 e5 e6=>⟨_,_,rfl,hF0.reset.after g1,λ_=>?_,(λt x h=>by cases h),.inl rfl⟩
 have hF1:=hF0.reset.after g1
 have s1:=g1.size
 have hx':=hx.sF_ e3 (ex:=λk=>k=k0) λk e=>by have e':k=k0:=e;omega
 have hoff:¬x.reg k0:=by
  rintro (e | e | e)
  ·omega
  ·obtain ⟨n',hm⟩:=hx.map
   exact hD_ (hF1.blk 0 rfl) hm e
  ·have hbk:=hF1.blk 0 rfl
   rcases e with e | e | ⟨a,ha,e⟩
   ·exact cv_ hbk hx.jrn.blk (show T.aR_≠T.aP_ by decide) e
   ·obtain ⟨_,_,_,_,_,hh⟩:=hx.jrn.dsk;exact cv_ hbk hh (show T.aR_≠T.bn_ by decide) e
   ·obtain ⟨cs,hh⟩:=hx.jrn.own.ty ha
    exact cv_ hbk hh (show T.aR_≠T.string by decide) e
 refine tl_ hx' (by omega) (λw2 s k e k1 k2 g2 hA hsx hr ha hbn=>⟨_,_,rfl,hF1.after g2,λw3 hF3=>?_⟩) λhbad=>⟨_,_,rfl,hF1,λw3 hF3=>h2 w3 hbad hF3.chg (hF3.blk 0 rfl)⟩
 have hk3:w3.heap[k0]? = some (.cells #[.pointer (some ⟨s.a,0,none⟩),.pointer (some ⟨bd,0,none⟩),.int .i64 n,.int .i64 0] T.aR_ (0,0)):=hF3.blk 0 rfl
 have g3:Chg (· = k0) w2 w3:=hF3.stp.mono λk _ e=>by simpa using e
 have eP:s.x.p=x.p:=by rw [hsx]
 have eex:s.x.ex=λk=>k=s.bn∨k=k0:=by rw [hsx]
 have ereg:s.x.reg=x.reg:=by rw [hsx];rfl
 have hk2:=(g1.trans g2).size
 have hA3:a0_ N w3 s:=⟨g3.get hA.blk (λe=>by have e':s.a=k0:=e;omega),g3.get hA.row (λe=>by have e':s.bn=k0:=e;omega),hA.pub.mU_ g3 (λk e=>by rw [eex];exact .inr e) (λk e=>by rw [ereg,e];exact hoff),hA.la,hA.ln,hA.n1,hA.n4,hA.off,hA.ex⟩
 refine h1 w3 s k e k1 k2 hF3.chg ⟨?_,hA3,hk,by rw [ereg];exact hoff,by rw [eex];exact .inr rfl⟩ hr (by rw [hsx];exact e2) (by rw [hsx];exact e3) (by rw [hsx];exact e4) (by rw [hsx];exact e5)
 show w3.heap[k0]? = some (.cells #[.pointer (some ⟨s.a,0,none⟩),.pointer (some ⟨s.x.bd,0,none⟩),.int .i64 (s.reps.length:Nat),.int .i64 (0:Nat)] T.aR_ (0,0))
 rw [hr,List.length_replicate,hk3,hsx,← e1,e];rfl
end Go.Vc
namespace Go.Vc
open Go Go.MapKept
theorem Rep.zero {recs:List (List UInt8)} {last com:Nat} {man:Nat→Man} (h:Rep recs last com man) (e:recs=[]):man=PSt.zero.man:=by
 obtain ⟨_,rs,h1,_,h3⟩:=h
 subst e
 have:rs=[]:=List.map_eq_nil_iff.1 h1.symm
 subst this
 exact (congrArg PSt.man h3).symm
theorem lt_ {w:World} {n:Int} {K:Value→World→Prop}
  (h1:∀w' k0 s (k:Nat),n=k→1≤k→k≤4→Grow w w'→a9_ w.heap.size w' k0 s 0→s.reps=List.replicate k rp0→s.x.each=10→s.x.last=0→s.x.com=0→s.x.recs=[]→K (.tuple #[.pointer (some ⟨k0,0,none⟩),.nilIface]) w')
  (h2:∀w',n<1∨4<n→Grow w w'→K (.tuple #[.pointer none,.iface T.ax_ (.int .i64 1)]) w'):aa_ PR F.j1_ ⟨[.int .i64 n]⟩ w K:=by
 have h0:Fs S0 w [] w:=Fr.init _ w
 refine j1_ n S0 K w (lw_ λw0 bd g0 hbd hd=>⟨_,rfl,h0.after g0,λl0 hl0 w1 hF1=>?_⟩)
 have g1:Grow w0 w1:=hF1.grow
 have s0:=g0.size
 have up:∀ {w2:World},Chg (· = l0) w1 w2→Grow w w2:=λg=>(g0.trans g1).then g |>.mono λk hk e=>by have e':k=l0:=e;omega
 have hF:∀ {w2:World} {cs:Array Value},Chg (· = l0) w1 w2→w2.heap[l0]? = some (.cells cs T.aR_ (0,0))→Fs S0 w [⟨l0,cs,T.aR_,true⟩] w2:=λg hb=>hF1.reset.it_ 0 rfl _ rfl g hb
 refine nQ_ (N:=w.heap.size) (hF1.blk 0 rfl) (hd.keep g1 λe=>e) hbd (show w.heap.size≤l0 by omega) (λw2 s k e k1 k2 g hH hr e2 e3 e4 e5=>⟨_,rfl,_,_,_,_,hF g hH.blk,λ_=>h1 w2 l0 s k e k1 k2 (up g) hH hr e2 e3 e4 e5,(λt x h=>by cases h),.inl rfl⟩) λw2 hbad g hb=>⟨_,rfl,_,_,_,_,hF g hb,(λh=>by cases h),(λt x he=>h2 w2 hbad (up g)),.inr ⟨_,_,rfl⟩⟩
end Go.Vc
namespace Go.Vc
open Go
theorem k0_ (y0:Option Addr) (ly0:Nat) (cy0:Nat) (k1:Nat) (p2:Option Addr) (y3:Option Addr) (ly3:Nat) (cy3:Nat) (S:SP) (K:KP) (w:World) (hF:Fs S w [⟨k1,#[.pointer p2,.slice y3 ly3 cy3],66,true⟩] w) (hS:S k1∧True) (h:∃I0:Int→Nat→World→Prop,(∃l0,I0 0 l0 w)∧∀n0,∀D0:Nat→Value,∀l1 w0,I0 n0 l1 w0→Fs S w [⟨k1,#[.pointer p2,.slice y3 ly3 cy3],66,true⟩] w0→(n0<(ly0:Int)→Dr y0 λa0=>(0:Int)≤n0∧n0<(ly0:Int)∧Dr (some (Addr.add a0 (Int.toNat n0*5))) λa1=>∃n1,World.cell? w0 (Addr.add a1 0)=some (Iv n1)∧∃n2,World.cell? w0 (Addr.add a1 1)=some (Iv n2)∧∃n3,World.cell? w0 (Addr.add a1 2)=some (Iv n3)∧∃b0,World.cell? w0 (Addr.add a1 3)=some (.bool b0)∧∃n4,World.cell? w0 (Addr.add a1 4)=some (Iv n4)∧aa_ PR 70 #[.pointer (some (⟨k1,0,none⟩)),.agg #[Iv n1,Iv n2,Iv n3,.bool b0,Iv n4]] w0 λv0 w1=>∃b1,v0=.bool b1∧(b1=true→Fs S w [⟨k1,#[.pointer p2,.slice y3 ly3 cy3],66,true⟩] w1∧K (Iv n0) w1)∧(b1=false→Fs S w [⟨k1,#[.pointer p2,.slice y3 ly3 cy3],66,true⟩] w1∧∃l2,l2<l1∧I0 (IntKind.wrap .i64 (n0+1)) l2 w1))∧(¬(n0<(ly0:Int))→K (Iv (-1)) w0)):aa_ PR 127 ⟨[.slice y0 ly0 cy0,.func (.func 70) #[.pointer (some ⟨k1,0,none⟩)] #[]]⟩ w K:=
 ab_ (okf:=⟨okL,[]⟩) ah_ (args:=[.c (.v (.slice y0 ly0 cy0)),.c (.v (.func (.func 70) #[.pointer (some ⟨k1,0,none⟩)] #[]))]) (H:=[⟨k1,.l [.v (.pointer p2),.v (.slice y3 ly3 cy3)],66,true⟩]) (.s .z (.s (.s .z (.b (.l (some []) (some []) [(8,.c (.int .i64))] [] (.s .z (.s .z (.s (.b (.s .z (.s (.r ⟨(some []),false,[],[]⟩) .z))) .z)))))) .z)) Go.Proofs.Tryz.func127 rfl ⟨trivial,trivial,trivial⟩ ⟨⟨trivial,⟨trivial,trivial⟩⟩,trivial⟩ hF hS (ad_ (by kernel_rfl) h)
theorem h4_ (y0:Option Addr) (ly0:Nat) (cy0:Nat) (k1:Nat) (p2:Option Addr) (y3:Option Addr) (ly3:Nat) (cy3:Nat) (S:SP) (K:KP) (w:World) (hF:Fs S w [⟨k1,#[.pointer p2,.slice y3 ly3 cy3],66,true⟩] w) (hS:S k1∧True) (h:aa_ PR 127 #[.slice y0 ly0 cy0,.func (.func 70) #[.pointer (some (⟨k1,0,none⟩))] #[]] w λv0 w0=>∃n0,v0=Iv n0∧Fs S w [⟨k1,#[.pointer p2,.slice y3 ly3 cy3],66,true⟩] w0∧(n0≥0→K (.bool true) w0)∧(¬(n0≥0)→K (.bool false) w0)):aa_ PR 69 ⟨[.slice y0 ly0 cy0,.func (.func 70) #[.pointer (some ⟨k1,0,none⟩)] #[]]⟩ w K:=
 ab_ (okf:=⟨okL,[]⟩) ah_ (args:=[.c (.v (.slice y0 ly0 cy0)),.c (.v (.func (.func 70) #[.pointer (some ⟨k1,0,none⟩)] #[]))]) (H:=[⟨k1,.l [.v (.pointer p2),.v (.slice y3 ly3 cy3)],66,true⟩]) (.s .z (.s (.r ⟨(some []),false,[],[]⟩) .z)) Go.Proofs.Tryz.func69 rfl ⟨trivial,trivial,trivial⟩ ⟨⟨trivial,⟨trivial,trivial⟩⟩,trivial⟩ hF hS (ad_ (by kernel_rfl) h)
end Go.Vc
namespace Go.Vc
open Go Go.MapKept
theorem ea_ {N:Nat} {w:World} {s:ActS} (h:a0_ N w s) {K:Value→World→Prop} (hK:∀w',Grow w w'→K (.bool (decide (s.tgt=0∧∀r∈s.reps,¬r.done<(s.x.com:Int)))) w'):aa_ PR F.ce_ ⟨[.pointer (some ⟨s.a,0,none⟩)]⟩ w K:=by
 have h4:=h.n4
 have h0:Fs (· = s.a) w [⟨s.a,actC s,T.bc_,true⟩] w:=(Fr.init _ w).entry h.blk (λx h=>by cases h) λ_=>rfl
 refine sj_ s.a _ _ _ _ (· = s.a) K w h0 ⟨rfl,trivial⟩ (bw_ h λw1 g1=>⟨_,rfl,h0.after g1,λht=>?_,λht=>?_⟩)
 ·have ht':s.tgt=0:=by omega
  have hF1:=h0.after g1
  have h1:=h.grow g1
  have f1:Fs (· = s.a) w1 [⟨s.a,actC s,T.bc_,true⟩] w1:=(Fr.init _ w1).entry h1.blk (λx h=>by cases h) λ_=>rfl
  refine h4_ _ _ _ s.a _ _ _ _ (· = s.a) _ w1 f1 ⟨rfl,trivial⟩ (k0_ _ _ _ s.a _ _ _ _ (· = s.a) _ w1 f1 ⟨rfl,trivial⟩ ⟨λi m w'=>∃k:Nat,i=k∧k≤s.reps.length∧m=s.reps.length - k∧∀j,(hj:j<s.reps.length)→j<k→¬s.reps[j].done<(s.x.com:Int),⟨_,0,rfl,by omega,rfl,λj hj h=>by omega⟩,?_⟩)
  rintro i D m w2 ⟨k,rfl,hk,rfl,hall⟩ hF2
  have g2:Grow w1 w2:=hF2.chg.same h1.blk (hF2.blk 0 rfl)
  refine ⟨λhlt=>?_,λhge=>?_⟩
  ·have hk':k<s.reps.length:=by omega
   refine (h1.grow g2).sl.rdN cR_ (by decide) rfl hk' hk' λa hc=>?_
   refine ⟨_,hc 0 _ rfl,_,hc 1 _ rfl,_,hc 2 _ rfl,_,hc 3 _ rfl,_,hc 4 _ rfl,?_⟩
   refine cw_ (h1.grow g2) λw3 t g3 hbt=>⟨_,rfl,λhb=>?_,λhb=>?_⟩
   ·refine ⟨hF2.after g3,_,rfl,hF2.after g3,λ_=>⟨true,rfl,(λ_=>⟨hF1.after (g2.trans g3),?_⟩),λh=>by cases h⟩,λh=>by omega⟩
    have hbb:=hbt.1 hb
    have:=hK w3 (g1.trans (g2.trans g3))
    rw [decide_eq_false λhh=>hh.2 _ (List.getElem_mem hk') hbb] at this
    exact this
   ·have hbb:¬s.reps[k].done<(s.x.com:Int):=λe=>by rw [hbt.2 e] at hb;cases hb
    refine ⟨hF2.after g3,s.reps.length - (k+1),by omega,k+1,by rw [w64 (by omega) (by omega)];rfl,by omega,rfl,λj hj hjk=>?_⟩
    by_cases e:j=k
    ·subst e;exact hbb
    ·exact hall j hj (by omega)
  ·refine ⟨_,rfl,hF2,(λh=>by omega),λ_=>⟨false,rfl,(λh=>by cases h),λ_=>⟨hF1.after g2,?_⟩⟩⟩
   have:=hK w2 (g1.trans g2)
   rw [decide_eq_true ⟨ht',λr hr=>by
    obtain ⟨j,hj,rfl⟩:=List.getElem_of_mem hr
    exact hall j hj (by omega)⟩] at this
   exact this
 ·have:=hK w1 g1
  rw [decide_eq_false λhh=>ht (by omega)] at this
  exact this
end Go.Vc
namespace Go.Vc
open Go Go.MapKept
structure OpH where
 k:Int
 n:Int
 q:Option Addr
 c:Nat
 l:List (Int × Int)
 m:MsgL
 mq:Option Addr
 mc:Nat
 s:List UInt8
 pq:Option Addr
 pl:Nat
 pc:Nat
 pn:Int
def opHC (o:OpH):List Value:=[.int .i64 o.k,.int .i64 o.n,.slice o.q o.l.length o.c,.int .i64 o.m.kind,.int .i64 o.m.ver,.int .i64 o.m.i,.string (str o.m.text),.slice o.mq o.m.proof.length o.mc,.string (str o.s),.slice o.pq o.pl o.pc,.int .i64 o.pn]
theorem jH_ (o:OpH):(opHC o).length=11:=rfl
structure OpsH (w:World) (y:Option Addr) (ops:List OpH):Prop where
 row:Sl w y (ops.flatMap opHC)
 l:∀o∈ops,Sl w o.q (encE o.l)
 m:∀o∈ops,Sl w o.mq (o.m.proof.map sv8')
theorem OpsH.grow {w w':World} {y:Option Addr} {ops:List OpH} (h:OpsH w y ops) (g:Grow w w'):OpsH w' y ops:=⟨h.row.grow g,λo ho=>(h.l o ho).grow g,λo ho=>(h.m o ho).grow g⟩
def rr_ (m:MsgL):Prop:=m.text.length≤6000∧m.proof.length≤30∧∀p∈m.proof,p.length≤100
def rq_ (o:OpH):Prop:=o.l.length≤60∧o.s.length≤300∧o.pl≤50∧rr_ o.m∧(o.k=0→o.n≤100)
theorem lv_ {m:MsgL} {q:Option Addr} {c:Nat} {w:World} (hs:Sl w q (m.proof.map sv8')) {K:Value→World→Prop} (hK:∀w' t,Grow w w'→(t=false→rr_ m)→K (.bool t) w') :
  aa_ PR F.bX_ ⟨[eU_ m q c]⟩ w K:=by
 refine bX_ m.kind m.ver m.i (str m.text) q m.proof.length c S0 K w λl0 hl0=>⟨λh w0 hF=>hK w0 true hF.gr (λh=>by cases h),λht=>⟨λh w1 hF=>hK w1 true hF.gr (λh=>by cases h),λhp w2 hF2=>?_⟩⟩
 rw [af_] at ht
 refine ⟨λi mm w'=>∃k:Nat,i=k∧k≤m.proof.length∧mm=m.proof.length - k∧∀j,(hj:j<m.proof.length)→j<k→m.proof[j].length≤100,⟨_,0,rfl,by omega,rfl,λj hj h=>by omega⟩,?_⟩
 rintro i D mm w3 ⟨k,rfl,hk,rfl,hall⟩ hF3
 refine ⟨λhlt=>?_,λhge=>hK w3 false hF3.gr λ_=>⟨by omega,by omega,λp hp=>?_⟩⟩
 ·have hk':k<m.proof.length:=by omega
  refine (hs.grow hF3.gr).rd (v:=sv8' m.proof[k]) (by simp) (by omega) (by simp [hk']) λa ha=>⟨_,ha,λh=>hK w3 true hF3.gr (λh=>by cases h),λh=>⟨m.proof.length - (k+1),by omega,k+1,by rw [w64 (by omega) (by omega)];rfl,by omega,rfl,λj hj hjk=>?_⟩⟩
  by_cases e:j=k
  ·subst e;rw [af_] at h;omega
  ·exact hall j hj (by omega)
 ·obtain ⟨j,hj,rfl⟩:=List.getElem_of_mem hp
  exact hall j hj (by omega)
theorem lu_ {ops:List OpH} {y:Option Addr} {c n:Nat} {w:World} (h:OpsH w y ops) (hn:n=ops.length) {K:Value→World→Prop} (hK:∀w' t,Grow w w'→(t=false→ops.length≤50∧∀o∈ops,rq_ o)→K (.bool t) w') :
  aa_ PR F.bV_ ⟨[.slice y n c]⟩ w K:=by
 subst hn
 refine bV_ y ops.length c S0 K w ⟨λh=>hK w true (.refl _ _) (λh=>by cases h),λhle=>?_⟩
 refine ⟨λi mm w'=>∃k:Nat,i=k∧k≤ops.length∧mm=ops.length - k∧∀j,(hj:j<ops.length)→j<k→rq_ ops[j],⟨_,0,rfl,by omega,rfl,λj hj h=>by omega⟩,?_⟩
 rintro i D mm w0 ⟨k,rfl,hk,rfl,hall⟩ hF0
 refine ⟨λhlt=>?_,λhge=>hK w0 false hF0.gr λ_=>⟨by omega,λo ho=>?_⟩⟩
 ·have hk':k<ops.length:=by omega
  have h0:=h.grow hF0.gr
  have hm:=List.getElem_mem hk'
  refine h0.row.rdN jH_ (by decide) rfl hk' hk' λa hc=>?_
  refine ⟨_,hc 0 _ rfl,_,hc 1 _ rfl,_,_,_,hc 2 _ rfl,_,hc 3 _ rfl,_,hc 4 _ rfl,_,hc 5 _ rfl,_,hc 6 _ rfl,_,_,_,hc 7 _ rfl,_,hc 8 _ rfl,_,_,_,hc 9 _ rfl,_,hc 10 _ rfl,λl8 hl8=>⟨λh w1 hF=>hK w1 true (hF0.gr.trans (hF.unM hl8).grow) (λh=>by cases h),λa1=>⟨λh w1 hF=>hK w1 true (hF0.gr.trans (hF.unM hl8).grow) (λh=>by cases h),λa2=>⟨λh w1 hF=>hK w1 true (hF0.gr.trans (hF.unM hl8).grow) (λh=>by cases h),λa3 w4 hF4=>?_⟩⟩⟩⟩
  rw [af_] at a2
  have g4:Grow w0 w4:=(hF4.unM hl8).grow
  have hF4':=(hF4.unM hl8)
  refine lv_ (m:=ops[k].m) ((h0.m _ hm).grow g4) λw5 t g5 ht=>⟨t,rfl,λe=>⟨hF4.reset.after g5,by subst e;exact hK w5 true (hF0.gr.trans (g4.trans g5)) (λh=>by cases h)⟩,λe=>⟨hF4.reset.after g5,λe0=>⟨λh=>hK w5 true (hF0.gr.trans (g4.trans g5)) (λh=>by cases h),λa4=>?_⟩,λe0=>?_⟩⟩
  all_goals
   refine ⟨ops.length - (k+1),by omega,k+1,by rw [w64 (by omega) (by omega)];rfl,by omega,rfl,λj hj hjk=>?_⟩
   by_cases e':j=k
   ·subst e';exact ⟨by omega,by omega,by omega,ht e,λhk0=>by omega⟩
   ·exact hall j hj (by omega)
 ·obtain ⟨j,hj,rfl⟩:=List.getElem_of_mem ho
  exact hall j hj (by omega)
end Go.Vc
namespace Go.Vc
open Go Go.MapKept
theorem lk_ {w:World} {K:Value→World→Prop} (hK:∀w',Grow w w'→K (.bool true) w'):aa_ PR F.bW_ ⟨[]⟩ w K:=by
 have h0:Fs S0 w [] w:=Fr.init _ w
 refine bW_ S0 K w (lt_ (λw0 k0 s k ek k1 k4 g0 hH hr e1 e2 e3 e4=>?_) λw0 hbad g0=>absurd hbad (by omega))
 obtain rfl:k=1:=by omega
 have hF0:=h0.after g0
 refine ⟨_,_,rfl,hF0,λ_=>⟨(λh=>by cases h),λa0 ha0 l0 hl0 w1 hF1=>?_⟩,(λt x h=>by cases h),.inl rfl⟩
 cases ha0
 have g1:Grow w0 w1:=hF1.grow
 have hH1:=hH.grow g1
 have s1:=hF1.chg.size
 have old:∀ {L:List Blk} {wa wb:World} {S:Nat→Prop},Fs S0 w L wa→Chg S wa wb→(∀k,S k→w.heap.size≤k)→(∀y,y∈L→¬S y.b)→Fs S0 w L wb:=λhF g hS hL=>hF.step g hL λk hk e=>by have:=hS k e;omega
 have hk0:=hH.lo
 have hlt1:=hH1.act.pub.lt
 refine fH_ hH1 (by omega) (l:=[(0,1)]) (hF1.sl 0 rfl) rfl (by decide) (λw2 x2 mn list hok er em hH2 g2 f3 f4 f5 f8 f9=>?_) λw2 v c g2 hv _ hno=>?_
 rotate_left
 ·refine absurd ⟨⟨⟨by decide,by decide,by decide,λe he=>?_⟩,by rw [e1];decide,by decide⟩,by decide,?_⟩ hno
  ·rw [List.mem_singleton.1 he];decide
  ·unfold PubS.room;rw [e4];decide
 have hF2:=old hF1.reset g2 (λk e=>hH1.act.pub.lo k e) (λy hy e=>by
  simp at hy;subst hy
  have:=hH.act.pub.lt _ e
  simp only [] at this;omega)
 refine ⟨_,_,rfl,_,_,hF2,?_⟩
 have hm:fs_ ⟨7,1,0,[],[]⟩:=⟨⟨by decide,by decide⟩,⟨by decide,by decide⟩,by decide,by decide,(λp hp=>by cases hp),by decide⟩
 have hF2':=hF2.sub (List.nil_sublist _)
 refine nc_ (m:=⟨7,1,0,[],[]⟩) (q:=none) (c:=0) (.inl rfl) (λ_ w3 g3=>⟨_,_,rfl,hF2'.after g3,?_⟩) λno=>absurd hm no
 have hF3:=hF2'.after g3
 have hH3:=hH2.grow g3
 have hrl:s.reps.length=1:=by rw [hr];rfl
 have hlen:(cz_ crcN (a7_ ⟨7,1,0,[],[]⟩)).length≤1099511627776:=by
  rw [b4_];have:=e8_ hm;omega
 have noL:∀ {S:Nat→Prop} (y:Blk),y∈([]:List Blk)→¬S y.b:=λy hy=>by cases hy
 refine ge_ hH3 hlen (λhbad=>absurd ⟨by omega,by show (1:Int)≤(s.reps.length:Nat);omega⟩ hbad) (λw4 c v _ _ _ hg _=>by rw [ej_ hm] at hg;cases hg) λw4 j m q outs c hj hfr hg hH4 g4 hout ho=>?_
 rw [ej_ hm] at hg
 cases hg
 obtain rfl:j=0:=by omega
 have hF4:=old hF3 g4 (λk e=>by subst e;exact hH3.act.ln) (λy hy=>by cases hy)
 refine ⟨_,_,_,_,rfl,hF4,?_⟩
 have hr0:s.reps[0]'(by omega)=rp0:=by simp [hr]
 have ereps:s.reps.set 0 (bB_ (s.reps[0]'(by omega)) 7 1 0)=[bB_ rp0 7 1 0]:=by rw [hr0,hr];rfl
 have ereps':(⟨x2,s.a,s.bn,s.reps.set 0 (bB_ (s.reps[0]'(by omega)) 7 1 ((0:Nat):Int))⟩:ActS).reps=[bB_ rp0 7 1 0]:=ereps
 have htg:(⟨x2,s.a,s.bn,s.reps.set 0 (bB_ (s.reps[0]'(by omega)) 7 1 ((0:Nat):Int))⟩:ActS).tgt=1:=by
  unfold ActS.tgt;simp only [];rw [f4,f5,e2,e3];rfl
 have hag:dE_ (⟨x2,s.a,s.bn,s.reps.set 0 (bB_ (s.reps[0]'(by omega)) 7 1 ((0:Nat):Int))⟩:ActS) ((0+1:Nat):Int):=by
  refine ⟨by rw [htg];decide,⟨bB_ rp0 7 1 0,by rw [ereps'];exact List.mem_singleton.2 rfl,rfl,by decide⟩,λr hr' _ _=>?_⟩
  rw [ereps',List.mem_singleton] at hr'
  subst hr'
  rw [htg];decide
 refine jh_ hH4 hF4.gr.size (by decide) (λr hr'=>by rw [ereps',List.mem_singleton] at hr';subst hr';decide) (λw5 q5 c5 hna=>absurd hag hna) (λw5 s5 q5 c5 _ hH5 g5 b1 b2 b4 b5 b6 b7 b8 b9 b11 b12 b13 _ _=>?_) λw5 _ hroom=>?_
 ·have hF5:=old hF4 g5 (λk e=>e.elim (λe=>by subst e;exact hH4.lo) λe=>hH4.act.pub.lo k e) (λy hy=>by cases hy)
  refine ⟨_,_,_,_,rfl,hF5,λ_=>?_,λhne=>absurd (by show ((x2.last:Nat):Int)=1;rw [f4,e2];rfl) hne⟩
  have ec:s5.x.com=1:=by rw [b5];show x2.last=1;rw [f4,e2]
  have I:∀ {J:Nat→Value→Prop},∀t x,(Value.nilIface:Value)=.iface t x→J t x:=λt x h=>by cases h
  exact ⟨λ_=>⟨λ_=>⟨λ_=>⟨λ_=>ac_.2 (ac_.2 (ac_.2 ⟨_,by rw [am_,ap_ hH5.blk];rfl,ac_.2 (ac_.2 (ac_.2 ⟨_,by rw [am_,ap_ hH5.act.blk];rfl,aj_ hH5.act.pub ⟨_,rfl,hF5,λ_=>hK w5 hF5.gr,λhne=>absurd (by rw [ec];rfl) hne⟩⟩))⟩)),(λt x h=>by cases h),.inl rfl⟩,(λt x h=>by cases h),.inl rfl⟩,(λt x h=>by cases h),.inl rfl⟩,(λt x h=>by cases h),.inl rfl⟩
 ·exfalso
  have hroom':x2.room<(recC x2.last).length+6:=hroom
  have h5:(recC x2.last).length=1+(ae_ x2.last).length:=by simp [recC];omega
  have h6:=al_ (n:=x2.last) (by rw [f4,e2];decide)
  have h7:=hok.2.2.2.2.1
  unfold PubS.room at hroom'
  rw [er,e4,dX_,List.length_append,b4_] at hroom'
  simp [logL] at hroom'
  omega
end Go.Vc
