/-
  A part of the proof of the statement FetchOrderSaid, in Lean: Fe3, MirF4, Po1, Bg1, Bg2, Fo1, Fd0, Aw20, MirF10, Fd1, MirF9, Fo2. By an AI agent.
-/
import Derived.Test.YthcpblejnhhhdaaGreatP11
import Derived.Test.YthcpblejnhhhdaaGreatP02
import Derived.Test.YthcpblejnhhhdaaGreatP06
import Derived.Test.YthcpblejnhhhdaaGreatP10
import Derived.Test.YthcpblejnhhhdaaGreatP08
import Derived.Test.YthcpblejnhhhdaaGreatP07
set_option linter.unusedSimpArgs false
set_option linter.unusedVariables false
set_option maxRecDepth 100000
namespace Go.Vc
open Go Go.MapKept
def askC (ver:Int) (o:Int × Int):List Value:=[.int .i64 o.1,.int .i64 2,.int .i64 ver,.int .i64 o.2,.string ⟨#[]⟩,.slice none 0 0]
theorem jO_ (ver:Int) (o:Int × Int):(askC ver o).length=6:=rfl
theorem nz_:PR.underlying T.cz_=some (.slice T.bx_):=by kernel_rfl
theorem ps_:∃i z,PR.info? T.bx_=some i∧i.size=6∧i.bytes=72∧i.zero=some z∧z.cells.size=6:=by
 have h:(match PR.info? T.bx_ with | some i=>i.size == 6 && i.bytes == 72 && (match i.zero with | some z=>z.cells.size == 6 | _=>false) | none=>false)=true:=by kernel_rfl
 split at h
 ·rename_i i hi
  simp only [Bool.and_eq_true,beq_iff_eq] at h
  have h2:=h.2
  split at h2
  ·rename_i z hz
   exact ⟨i,z,hi,h.1.1,h.1.2,hz,by simpa using h2⟩
  ·cases h2
 ·cases h
theorem rf_ {ver:Int} {w:World} {q q2:Option Addr} {l c l2 c2:Nat} {xs ys:List (Int × Int)} {K:Value→World→Prop}
  (ho:Own T.bx_ 6 w q c (xs.flatMap (askC ver))) (hl:l=xs.length) (hlc:l≤c) (hs:Sl w q2 (ys.flatMap (askC ver))) (hl2:l2=ys.length) (hroom:l+l2≤1000000)
  (hK:∀q' c' w',Own T.bx_ 6 w' q' c' ((xs++ys).flatMap (askC ver))→l+l2≤c'→Chg (aj_ q) w w'→(∀a,q'=some a→q=some a∨a=⟨w.heap.size,0,none⟩)→K (.slice q' (l+l2) c') w') :
  rn PR (Builtin.append_ #[T.cz_,T.cz_] T.cz_ #[.slice q l c,.slice q2 l2 c2]) K w:=by
 obtain ⟨i,z,hi,hk,hb,hz,hzs⟩:=ps_
 refine cN_ <| fn_ (i:=i) (k:=6) (by_:=72) nz_ nz_ hi hz hk hb hzs (by decide) ho (by rw [ce_ (jO_ ver),hl]) hlc hs (by rw [ce_ (jO_ ver),hl2]) (λy hy=>?_) (by omega) λq' c' w' h=>hK q' c' w' (by rw [List.flatMap_append];exact h)
 obtain ⟨m,_,hm⟩:=List.mem_flatMap.1 hy
 simp [askC] at hm
 rcases hm with rfl | rfl | rfl | rfl | rfl | rfl <;> rfl
def bB_ (l:List (Int × Int)) (i:Int):Int:=match l.find? (λp=>p.1 == i) with
 | some p=>p.2
 | none=>0
def trUp (l:List (Int × Int)) (i:Int):List (Int × Int):=if (l.any λp=>p.1 == i) then l.map (λp=>if p.1=i then (i,p.2+1) else p) else l++[(i,1)]
theorem j4_ {l:List (Int × Int)} (hn:(l.map (·.1)).Nodup) {i t:Int} (h:(i,t)∈l):bB_ l i=t:=by
 unfold bB_
 cases hf:l.find? (λp=>p.1 == i) with
 | none=>exact absurd (List.find?_eq_none.1 hf _ h) (by simp)
 | some p=>
  have h1:=List.mem_of_find?_eq_some hf
  have h2:p.1=i:=by simpa using List.find?_some hf
  obtain ⟨a,ha⟩:=List.getElem?_of_mem h1
  obtain ⟨b,hb⟩:=List.getElem?_of_mem h
  have:a=b:=cn_ hn (a:=i) (by rw [List.getElem?_map,ha];simp [h2]) (by rw [List.getElem?_map,hb];rfl)
  subst this
  rw [ha] at hb
  have:=Option.some.inj hb
  subst this;rfl
theorem ik_ {l:List (Int × Int)} {i:Int} (h:∀p∈l,p.1≠i):bB_ l i=0:=by
 unfold bB_
 rw [List.find?_eq_none.2 λp hp=>by simpa using h p hp]
theorem qM_ {l:List (Int × Int)} (hn:(l.map (·.1)).Nodup) {i:Int} : putI (aI l) i (.int .i64 (bB_ l i+1))=aI (trUp l i):=by
 have ha:((aI l).any λp=>p.1 == i)=l.any λp=>p.1 == i:=by
  unfold aI;rw [List.any_map];rfl
 unfold putI trUp
 rw [ha]
 split
 ·unfold aI
  rw [List.map_map,List.map_map]
  refine List.map_congr_left λp hp=>?_
  show (if p.1=i then (i,Value.int .i64 (bB_ l i+1)) else (p.1,Value.int .i64 p.2))=((if p.1=i then (i,p.2+1) else p).1,Value.int .i64 (if p.1=i then (i,p.2+1) else p).2)
  split
  ·rename_i e
   have:=j4_ hn (i:=i) (t:=p.2) (by rw [← e];exact hp)
   rw [this]
  ·rfl
 ·rename_i h
  rw [ik_ λp hp e=>h (by simp only [List.any_eq_true,beq_iff_eq];exact ⟨p,hp,e⟩)]
  simp [aI]
theorem pS_ {l:List (Int × Int)} {i:Int} {p:Int × Int} (h:p∈trUp l i):(p∈l∧p.1≠i)∨(∃t,(i,t)∈l∧p=(i,t+1))∨p=(i,1):=by
 unfold trUp at h
 split at h
 ·obtain ⟨x,hx,rfl⟩:=List.mem_map.1 h
  split
  ·rename_i e
   exact .inr (.inl ⟨x.2,by rw [← e];exact hx,rfl⟩)
  ·rename_i e;exact .inl ⟨hx,e⟩
 ·rename_i hn
  rcases List.mem_append.1 h with h | h
  ·exact .inl ⟨h,λe=>hn (by simp only [List.any_eq_true,beq_iff_eq];exact ⟨p,h,e⟩)⟩
  ·simp at h;exact .inr (.inr h)
theorem sc_ {w:World} {r:Nat} {l:List (Int × Int)} (h:MapI w r (aI l)):(l.map (·.1)).Nodup:=by
 have:=h.nd
 unfold aI at this
 rw [List.map_map] at this
 exact this
theorem k__ {l:List (Int × Int)} {i j:Int} (hne:j≠i):bB_ (trUp l i) j=bB_ l j:=by
 unfold trUp
 split
 ·unfold bB_
  induction l with
  | nil=>rfl
  | cons p l ih=>
   by_cases e:p.1=i
   ·have e1:(if p.1=i then (i,p.2+1) else p)=(i,p.2+1):=if_pos e
    rw [List.map_cons,e1,List.find?_cons,List.find?_cons]
    have h1:(((i,p.2+1):Int × Int).1 == j)=false:=by simpa using λ(h:i=j)=>hne h.symm
    have h2:(p.1 == j)=false:=by simpa [e] using λ(h:i=j)=>hne h.symm
    rw [h1,h2]
    by_cases hany:(l.any λp=>p.1 == i)=true
    ·exact ih hany
    ·have:l.map (λp=>if p.1=i then (i,p.2+1) else p)=l:=by
      have h3:∀x∈l,x.1≠i:=λx hx e=>hany (by simp only [List.any_eq_true,beq_iff_eq];exact ⟨x,hx,e⟩)
      conv=>rhs;rw [← List.map_id l]
      exact List.map_congr_left λx hx=>if_neg (h3 x hx)
     rw [this]
   ·have e1:(if p.1=i then (i,p.2+1) else p)=p:=if_neg e
    rw [List.map_cons,e1,List.find?_cons,List.find?_cons]
    by_cases hj:(p.1 == j)=true
    ·rw [hj]
    ·have hj':(p.1 == j)=false:=by simpa using hj
     rw [hj']
     have hany:(l.any λp=>p.1 == i)=true:=by
      rename_i hh
      rw [List.any_cons] at hh
      have:(p.1 == i)=false:=by simpa using e
      rw [this] at hh;simpa using hh
     exact ih hany
 ·unfold bB_
  rw [List.find?_append]
  cases hf:l.find? (λp=>p.1 == j) with
  | some p=>rfl
  | none=>
   have:[((i,1):Int × Int)].find? (λp=>p.1 == j)=none:=by
    rw [List.find?_eq_none];intro x hx;simp at hx;subst hx;simpa using λ(h:i=j)=>hne h.symm
   rw [this];rfl
theorem kr_ (v:HV):(bK_ v).Pairwise (· < ·):=by
 unfold bK_ fc_
 refine List.Pairwise.filter _ ?_
 rw [List.pairwise_map]
 exact List.pairwise_lt_range.imp λh=>by omega
def ic_ (v:HV) (askd:List (Int × Int)):List Int:=(bK_ v).filter λi=>decide (∀p∈askd,p.1≠i)
theorem kI_ (v:HV) (askd:List (Int × Int)):(ic_ v askd).Pairwise (· < ·):=(kr_ v).filter _
theorem dK_ {v:HV} {askd:List (Int × Int)} {i:Int} : i∈ic_ v askd↔i∈bK_ v∧∀p∈askd,p.1≠i:=by
 unfold ic_;rw [List.mem_filter,decide_eq_true_iff]
def dt_ (f:FS) (now:Int):List (Int × Int):=f.wt.askd.filter λp=>decide (now<p.2)
def goL (f:FS) (v:HV) (now:Int) (n:Nat):List Int:=if n=0 then [] else (ic_ v (dt_ f now)).take (f.wt.win - (dt_ f now).length).toNat
def FS.tick (f:FS) (v:HV) (now:Int) (n:Nat):FS:={ f with wt:={ f.wt with askd:=dt_ f now++(goL f v now n).map λi=>(i,now+f.wt.tmo) },trs:=(goL f v now n).foldl trUp f.trs }
def toV (f:FS) (ps:List Int) (i:Int):Int:=ps.getD ((i+bB_ f.trs i)%(ps.length:Int)).toNat 0
theorem pu_ {l:List (Int × Int)} {i M:Int} (h:∀p∈l,0≤p.2∧p.2≤M) (hM:1≤M):∀p∈trUp l i,0≤p.2∧p.2≤M+1:=λp hp=>by
 rcases pS_ hp with ⟨h1,_⟩ | ⟨t,h1,rfl⟩ | rfl
 ·have:=h p h1;omega
 ·have:=h _ h1;simp only [] at this ⊢;omega
 ·simp only [];omega
theorem mZ_ {l:List Int} {k:Nat} (hk:k<l.length) (t:List (Int × Int)):(l.take (k+1)).foldl trUp t=trUp ((l.take k).foldl trUp t) l[k]:=by
 rw [aA_ hk,List.foldl_append];rfl
theorem la_ {l:List Int} {j:Int} (h:j∉l) (t:List (Int × Int)):bB_ (l.foldl trUp t) j=bB_ t j:=by
 induction l generalizing t with
 | nil=>rfl
 | cons a l ih=>
  rw [List.foldl_cons,ih (λh'=>h (List.mem_cons_of_mem _ h')),k__ λe=>h (by rw [e];exact List.mem_cons_self)]
theorem p7_ {l:List Int} {M:Int} (hM:1≤M) {t:List (Int × Int)} (h:∀p∈t,0≤p.2∧p.2≤M):∀p∈l.foldl trUp t,0≤p.2∧p.2≤M+l.length:=by
 induction l generalizing t M with
 | nil=>simpa using h
 | cons a l ih=>
  intro p hp
  have:=ih (M:=M+1) (by omega) (pu_ h hM) p hp
  simp only [List.length_cons];omega
theorem pt_ {l:List (Int × Int)} {M:Int} (hM:0≤M) (h:∀p∈l,0≤p.2∧p.2≤M) (i:Int):0≤bB_ l i∧bB_ l i≤M:=by
 unfold bB_
 cases hf:l.find? (λp=>p.1 == i) with
 | none=>simp only [];omega
 | some p=>exact h p (List.mem_of_find?_eq_some hf)
theorem Sl.q0_ {S:Nat→Prop} {w w':World} {q:Option Addr} {ps:List Int} (h:Sl w q (ps.map iv)) (c:Chg S w w') (hn:ps≠[]→∀a,q=some a→¬S a.block):Sl w' q (ps.map iv):=by
 by_cases e:ps=[]
 ·subst e;exact .inl rfl
 ·exact h.keep c (hn e)
theorem lZ_ {w:World} {f:FS} {v:HV} (H:aZ_ w f v) {now:Int} (hn:0≤now∧now≤1000000000) (htr:∀p∈f.trs,0≤p.2∧p.2≤1000000) {ps:List Int} (hpl:ps.length≤1000000) {y:Option Addr} {cy:Nat} (hs:Sl w y (ps.map iv)) (hyo:ps≠[]→∀a,y=some a→a.block≠f.wt.ak∧a.block≠f.tr) {K:Value→World→Prop}
  (hK:∀w' q c,aZ_ w' (f.tick v now ps.length) v→Own T.bx_ 6 w' q c (((goL f v now ps.length).map λi=>(toV f ps i,i)).flatMap (askC f.ver))→Chg (feS f) w w'→(∀a,q=some a→w.heap.size≤a.block)→Sl w' y (ps.map iv)→K (.slice q (goL f v now ps.length).length c) w') :
  aa_ PR F.bv_ ⟨[.pointer (some ⟨f.b,0,none⟩),.int .i64 now,.slice y ps.length cy]⟩ w K:=by
 have H0:=H.at_
 have hF0:=H0.fs
 have hlt:=H0.lt
 have hwin:=H0.wat.win
 have htmo:=H0.wat.tmo
 refine gu_ f.b (some ⟨f.wt.b,0,none⟩) (some ⟨f.h.bh,0,none⟩) f.ver (some f.tr) now y ps.length cy (feS f) K w hF0 ⟨.inl rfl,trivial⟩ ?_
 refine mA_ H0.wat hn λw0 q0 l0 c0 W0 c00=>⟨_,_,_,rfl,?_⟩
 have akS:∀k,k=f.wt.ak→wS f.wt k:=λk e=>.inr (.inr e)
 have hF1:=hF0.step c00 (λz hz e=>by simp at hz;subst hz;exact H0.dbw (akS _ e)) λk _ e=>.inr (.inl (akS _ e))
 have A0:WAt w0 { f.wt with miss:=f.wt.miss,askd:=dt_ f now }:=W0
 have HA:=H0.setW (c00.mono λk _ e=>akS _ e) A0
 generalize hst:dt_ f now=A at A0 HA
 let C:List Int:=ic_ v A
 have hCl:C.length≤2048:=by
  have h1:=List.length_filter_le (λi=>decide (∀p∈A,p.1≠i)) (bK_ v)
  have h2:=jk_ v v.man.blocks.toNat
  have h3:=(H0.hat.vs v H.mem).ok.blocks.2
  show (ic_ v A).length≤2048
  unfold ic_
  unfold bK_ at h1 ⊢
  omega
 have hCs:C.Pairwise (· < ·):=kI_ v A
 let Ak (k:Nat):List (Int × Int):=A++(C.take k).map λi=>(i,now+f.wt.tmo)
 let fk (k:Nat):FS:={ f with wt:={ f.wt with askd:=Ak k },trs:=(C.take k).foldl trUp f.trs }
 let outs (k:Nat):List (Int × Int):=(C.take k).map λi=>(toV f ps i,i)
 let B:=(f.wt.win - A.length).toNat
 have hs0:Sl w0 y (ps.map iv):=hs.q0_ c00 λhne a ha e=>(hyo hne a ha).1 e
 have e0:Ak 0=A:=by simp [Ak]
 have sz0:=c00.size
 have wlt:=H0.wat.lt
 have tlt:=H0.tm.lt
 have hmiss:∀i,f.wt.miss i↔i∈bK_ v:=H.miss
 have hbd:∀i∈C,0≤i∧i<4096:=λi hi=>H0.wat.sm i ((hmiss i).2 (dK_.1 hi).1)
 refine ⟨hF1,λq l c lv w'=>∃k:Nat,k≤C.length∧k≤B∧lv=C.length - k∧aM_ w' (fk k)∧Own T.bx_ 6 w' q c ((outs k).flatMap (askC f.ver))∧l=(outs k).length∧l≤c∧Off (λx=>x<w.heap.size) q∧Chg (feS f) w w'∧Sl w' y (ps.map iv)∧(ps.length=0→k=0),⟨_,0,by omega,by omega,rfl,?_,.nil _ _ _,rfl,Nat.le_refl _,.none _,c00.mono λk _ e=>.inr (.inl (akS _ e)),hs0,λ_=>rfl⟩,?_⟩
 ·show aM_ w0 { f with wt:={ f.wt with askd:=Ak 0 },trs:=f.trs }
  rw [e0];exact HA
 rintro q l c D lv w1 ⟨k,hkC,hkB,rfl,H1,ho,rfl,hlc,hof,c1,hs1,hz⟩ hF2
 have s1:=c1.size
 have hol:(outs k).length=k:=by simp [outs,Nat.min_eq_left hkC]
 have fin:(C.take k=goL f v now ps.length)→K (.slice q (outs k).length c) w1:=λhg=>by
  have e1:fk k=f.tick v now ps.length:=by
   show ({ f with wt:={ f.wt with askd:=A++(C.take k).map λi=>(i,now+f.wt.tmo) },trs:=(C.take k).foldl trUp f.trs } : FS)=_
   rw [hg,← hst];rfl
  have e2:outs k=(goL f v now ps.length).map λi=>(toV f ps i,i):=by
   show (C.take k).map _=_
   rw [hg]
  have:=hK w1 q c ⟨by rw [← e1];exact H1,H.mem,H.ver,H.miss⟩ (by rw [← e2];exact ho) c1 (λa ha=>Nat.le_of_not_lt (hof a ha)) hs1
  rw [e2,List.length_map];exact this
 have hAl:(Ak k).length=A.length+k:=by simp [Ak,Nat.min_eq_left hkC]
 refine ⟨λhpos=>?_,λhnp=>?_⟩
 ·have hn0:ps.length≠0:=by omega
  refine mB_ H1.wat hn (λw2 g2 hend=>⟨_,false,rfl,(λh=>by cases h),λ_=>⟨hF2.after g2,?_⟩⟩) λw2 i hwl hmi hna hmin W2 c2=>⟨_,true,rfl,(λ_=>⟨hF2.step c2 (λz hz e=>by simp at hz;subst hz;exact H0.dbw (akS _ e)) (λj _ e=>.inr (.inl (akS _ e))),?_⟩),λh=>by cases h⟩
  ·have hg:C.take k=goL f v now ps.length:=by
    unfold goL
    rw [if_neg hn0,hst]
    show C.take k=C.take B
    rcases hend with h | h
    ·have h':(((Ak k).length:Nat):Int)≥f.wt.win:=h
     rw [hAl] at h'
     have:k=B:=by show k=(f.wt.win - A.length).toNat;omega
     rw [this]
    ·have hall:k=C.length:=by
      rcases Nat.lt_or_ge k C.length with hlt | hge
      ·exfalso
       have hin:=dK_.1 (List.getElem_mem hlt:C[k]∈C)
       obtain ⟨p,hp,ep⟩:=h C[k] ((hmiss _).2 hin.1)
       rcases List.mem_append.1 hp with hp | hp
       ·exact hin.2 p hp ep
       ·obtain ⟨j,hj,rfl⟩:=List.mem_map.1 hp
        exact bG_ hCs hlt (by have e:j=C[k]:=ep;rw [← e];exact hj)
      ·omega
     rw [hall,List.take_of_length_le (Nat.le_refl _),List.take_of_length_le (by omega)]
   have:=hK w2 q c
   have H2:=H1.grow g2
   have e1:fk k=f.tick v now ps.length:=by
    show ({ f with wt:={ f.wt with askd:=A++(C.take k).map λi=>(i,now+f.wt.tmo) },trs:=(C.take k).foldl trUp f.trs } : FS)=_
    rw [hg,← hst];rfl
   have e2:outs k=(goL f v now ps.length).map λi=>(toV f ps i,i):=by
    show (C.take k).map _=_
    rw [hg]
   have:=hK w2 q c ⟨by rw [← e1];exact H2,H.mem,H.ver,H.miss⟩ (by rw [← e2];exact ho.grow g2) (c1.grow g2) (λa ha=>Nat.le_of_not_lt (hof a ha)) (hs1.grow g2)
   rw [e2,List.length_map];exact this
  ·
   have hiC:i∈C:=dK_.2 ⟨(hmiss i).1 hmi,λp hp=>hna p (List.mem_append_left _ hp)⟩
   have hnt:i∉C.take k:=λhm=>hna (i,now+f.wt.tmo) (List.mem_append_right _ (List.mem_map.2 ⟨i,hm,rfl⟩)) rfl
   have hkl:k<C.length:=by
    rcases Nat.lt_or_ge k C.length with h | h
    ·exact h
    ·rw [List.take_of_length_le h] at hnt;exact absurd hiC hnt
   have hik:i=C[k]:=by
    obtain ⟨m,hm,rfl⟩:=List.getElem_of_mem hiC
    rcases Nat.lt_trichotomy m k with h | h | h
    ·exact absurd (List.mem_take_iff_getElem.2 ⟨m,by omega,rfl⟩) hnt
    ·subst h;rfl
    ·exfalso
     have hlt:=List.pairwise_iff_getElem.1 hCs k m hkl hm h
     have hin:=dK_.1 (List.getElem_mem hkl:C[k]∈C)
     obtain ⟨p,hp,ep⟩:=hmin C[k] ((hmiss _).2 hin.1) hlt
     rcases List.mem_append.1 hp with hp | hp
     ·exact hin.2 p hp ep
     ·obtain ⟨j,hj,rfl⟩:=List.mem_map.1 hp
      exact bG_ hCs hkl (by have e:j=C[k]:=ep;rw [← e];exact hj)
   have hkB2:k+1≤B:=by
    have h':(((Ak k).length:Nat):Int)<f.wt.win:=hwl
    rw [hAl] at h'
    show k+1≤(f.wt.win - A.length).toNat
    omega
   have hib:=hbd i hiC
   have hfit:bd_ i:=⟨by omega,by omega⟩
   have eA:Ak k++[(i,now+f.wt.tmo)]=Ak (k+1):=by
    show (A++_)++_=A++_
    rw [aA_ hkl,List.map_append,List.append_assoc,hik];rfl
   have c2':Chg (wS f.wt) w1 w2:=c2.mono λj _ e=>akS _ e
   have H2:aM_ w2 { fk k with wt:={ f.wt with askd:=Ak (k+1) } }:=by
    have W2':WAt w2 { (fk k).wt with miss:=f.wt.miss,askd:=Ak (k+1) }:=by rw [← eA];exact W2
    exact H1.setW c2' W2'
   have hF3:=hF2.step c2 (λz hz e=>by simp at hz;subst hz;exact H0.dbw (akS _ e)) (λj _ e=>.inr (.inl (akS _ e)))
   have tm2:MapI w2 f.tr (aI ((C.take k).foldl trUp f.trs)):=H2.tm
   have tnd:=sc_ tm2
   have hto:bB_ ((C.take k).foldl trUp f.trs) i=bB_ f.trs i:=la_ hnt _
   have hbt:=pt_ (M:=1000000) (by omega) htr i
   have look:∀ {w':World} {K':Value→World→Prop},MapI w' f.tr (aI ((C.take k).foldl trUp f.trs))→K' (.int .i64 (bB_ f.trs i)) w'→rn PR (Instr.lookup T.eI_ (.map (some f.tr)) (.int .i64 i) false) K' w':=λ{w' K'} hm hk=>by
    refine aR_ eg_ hm hfit false eX_ (λx hx=>?_) λhno=>?_
    ·obtain ⟨p,hp,e⟩:=List.mem_map.1 hx
     have e1:p.1=i:=congrArg Prod.fst e
     have e2:x=.int .i64 p.2:=(congrArg Prod.snd e).symm
     subst e2
     have:=j4_ tnd (i:=i) (t:=p.2) (by rw [← e1];exact hp)
     rw [hto] at this
     rw [this] at hk;exact hk
    ·have:=ik_ (l:=(C.take k).foldl trUp f.trs) (i:=i) λp hp e=>hno _ (List.mem_map.2 ⟨p,hp,rfl⟩) e
     rw [hto] at this
     rw [this] at hk;exact hk
   refine look tm2 ⟨_,rfl,hF3,by omega,?_⟩
   have hs2:Sl w2 y (ps.map iv):=hs1.q0_ c2 λhne a ha e=>(hyo hne a ha).1 e
   have em:Int.tmod (IntKind.wrap .i64 (i+bB_ f.trs i)) (ps.length:Int)=(((i+bB_ f.trs i)%(ps.length:Int)).toNat:Int):=by
    rw [w64 (by omega) (by omega),Int.tmod_eq_emod_of_nonneg (by omega)]
    have:=Int.emod_nonneg (i+bB_ f.trs i) (b:=(ps.length:Int)) (by omega)
    omega
   have hm1:((i+bB_ f.trs i)%(ps.length:Int)).toNat<ps.length:=by
    have h1:=Int.emod_nonneg (i+bB_ f.trs i) (b:=(ps.length:Int)) (by omega)
    have h2:=Int.emod_lt_of_pos (i+bB_ f.trs i) (b:=(ps.length:Int)) (by omega)
    omega
   rw [em]
   refine hs2.rd (v:=iv (toV f ps i)) (by simp) (by omega) ?_ λa ha=>⟨_,ha,?_⟩
   ·rw [Int.toNat_natCast]
    unfold toV
    exact gr_ hm1
   refine look tm2 ⟨_,rfl,hF3,?_⟩
   rw [w64 (by omega) (by omega)]
   refine cV_ eg_ tm2 hfit λw5 tm5 c5 s5=>?_
   have eT:putI (aI ((C.take k).foldl trUp f.trs)) i (.int .i64 (bB_ f.trs i+1))=aI ((C.take (k+1)).foldl trUp f.trs):=by
    rw [mZ_ hkl,← hik,← hto]
    exact qM_ tnd
   rw [eT] at tm5
   have hF5:=hF3.step c5 (λz hz e=>by simp at hz;subst hz;exact H0.bt e) (λj _ e=>.inr (.inr (.inr e)))
   have H5:aM_ w5 (fk (k+1)):=⟨c5.get H2.blk (λe=>H0.bt e),H2.wat.keep c5 λj hj e=>H0.dtw (by have e':j=f.tr:=e;rw [← e'];exact hj),H2.hat.keep c5 λj hj e=>H0.dth (by have e':j=f.tr:=e;rw [← e'];exact hj),tm5,H0.dwh,H0.dth,H0.dtw,H0.dbh,H0.dbw⟩
   refine ⟨hF5,λl6 hl6 w6 hF6=>?_⟩
   have g6:Grow w5 w6:=hF6.grow
   have offq:∀a,q=some a→w.heap.size≤a.block:=λa ha=>Nat.le_of_not_lt (hof a ha)
   have akl:=wlt f.wt.ak (.inr (.inr rfl))
   have ho5:Own T.bx_ 6 w5 q c ((outs k).flatMap (askC f.ver)):=(ho.keep c2 λa ha e=>by have:=offq a ha;have e':a.block=f.wt.ak:=e;omega).keep c5 λa ha e=>by have:=offq a ha;have e':a.block=f.tr:=e;omega
   have ho6:=ho5.grow g6
   have hs5:Sl w5 y (ps.map iv):=hs2.q0_ c5 λhne a ha e=>(hyo hne a ha).2 e
   have s2:=c2.size
   have s6:=g6.size
   have hol6:(outs k).length≤2048:=by rw [hol];omega
   refine rf_ ho6 rfl hlc (ys:=[(toV f ps i,i)]) (hF6.sl 1 rfl) rfl (by simp only [List.length_singleton] at *;omega) λq7 c7 w7 ho7 hc7 g7 hq7=>?_
   have bl:=hlt f.b (.inl rfl)
   have hF7:=hF6.step g7 (λz hz ⟨a,ha,e⟩=>by
    have h1:=offq a ha
    have h2:=ho5.lt a ha
    simp only [List.mem_cons,List.not_mem_nil,or_false] at hz
    rcases hz with rfl | rfl <;> (simp only [] at e;omega)) λj hj ⟨a,ha,e⟩=>by have h1:=offq a ha;omega
   have eo:outs k++[(toV f ps i,i)]=outs (k+1):=by
    show (C.take k).map _++_=(C.take (k+1)).map _
    rw [aA_ hkl,List.map_append,hik];rfl
   have c17:Chg (feS f) w w7:=(((c1.trans c2 λj _ e=>.inr (.inl (akS _ e))).trans c5 λj _ e=>.inr (.inr (.inr e))).grow g6).trans g7 λj hj ⟨a,ha,e⟩=>by have h1:=offq a ha;omega
   have low:∀j,feA (fk (k+1)) j→j<w.heap.size:=λj hj=>hlt j hj
   rw [eo] at ho7
   have el:(outs (k+1)).length=(outs k).length+1:=by rw [← eo,List.length_append];rfl
   refine ⟨_,_,_,rfl,hF7,C.length - (k+1),by omega,k+1,by omega,hkB2,rfl,(H5.grow g6).keep g7 (λj hj ⟨a,ha,e⟩=>by have h1:=offq a ha;have h2:=low j hj;omega),ho7,by rw [el],hc7,λa ha hlt'=>?_,c17,(hs5.grow g6).keep g7 (λa ha ⟨a2,ha2,e⟩=>?_),λh=>absurd h hn0⟩
   ·rcases hq7 a ha with h | h
    ·exact hof a h hlt'
    ·subst h
     have h':w6.heap.size<w.heap.size:=hlt'
     omega
   ·have h1:=offq a2 ha2
    rcases hs with h | ⟨b0,o0,e0',cs,T0,fz,hh,_⟩
    ·have hp0:ps=[]:=by simpa using h
     rw [hp0] at hn0;exact hn0 rfl
    ·rw [e0'] at ha;cases ha
     have:=ak_ hh
     simp only [] at e;omega
 ·have hz0:=hz (by omega)
  subst hz0
  refine fin ?_
  unfold goL
  rw [if_pos (by omega)];rfl
theorem iQ_ {w:World} {f:FS} {v:HV} (H:aZ_ w f v) {now:Int} (hn:0≤now∧now≤1000000000) (htr:∀p∈f.trs,0≤p.2∧p.2≤1000000) {ps:List Int} (hpl:ps.length≤1000000) {y:Option Addr} {cy:Nat} (hs:Sl w y (ps.map iv)) (hyo:∀a,y=some a→a.block≠f.wt.ak∧a.block≠f.tr) {K:Value→World→Prop}
  (hK:∀w' q c,aZ_ w' (f.tick v now ps.length) v→Own T.bx_ 6 w' q c (((goL f v now ps.length).map λi=>(toV f ps i,i)).flatMap (askC f.ver))→Chg (feS f) w w'→(∀a,q=some a→w.heap.size≤a.block)→Sl w' y (ps.map iv)→K (.slice q (goL f v now ps.length).length c) w') :
  aa_ PR F.bv_ ⟨[.pointer (some ⟨f.b,0,none⟩),.int .i64 now,.slice y ps.length cy]⟩ w K:=lZ_ H hn htr hpl hs (λ_=>hyo) hK
end Go.Vc
namespace Go.Vc
open Go
theorem b7_ (y0:Option Addr) (ly0:Nat) (cy0:Nat) (S:SP) (K:KP) (w:World) (h:((ly0:Int)>6→K (.slice none 0 0) w)∧(¬((ly0:Int)>6)→∃I0:(Option Addr)→Nat→Nat→Int→Nat→World→Prop,(∃l0,I0 none 0 0 0 l0 w)∧∀q0 l1 l2 n0,∀D0:Nat→Value,∀l3 w0,I0 q0 l1 l2 n0 l3 w0→Fs S w [] w0→(n0<(ly0:Int)→Dr y0 λa0=>(0:Int)≤n0∧n0<(ly0:Int)∧Dr (some (Addr.add a0 (Int.toNat n0*1))) λa1=>∃q1 l4 l5,World.cell? w0 a1=some (.slice q1 l4 l5)∧((l4:Int)>60→K (.slice none 0 0) w0)∧(¬((l4:Int)>60)→aa_ PR 13 #[Iv (IntKind.wrap .i64 (n0+1)),Iv 40,Iv 10,.slice q1 l4 l5] w0 λv0 w1=>∃q2 v1,v0=.tuple #[.pointer q2,v1]∧Fs S w [] w1∧(v1=.nilIface→(q2=none→K (.slice none 0 0) w1)∧∀a2:Addr,q2=some a2→∀l6,w1.heap.size≤l6→∀w2,Fr S w w1 [] [⟨l6,#[.pointer q2],28,true⟩] w2→rn PR (Builtin.append_ #[25,25] 25 #[.slice q0 l1 l2,.slice (some (⟨l6,0,none⟩)) 1 1]) (λv2 w3=>∃q3 l7 l8,v2=.slice q3 l7 l8∧Fs S w [⟨l6,#[.pointer q2],28,true⟩] w3∧∃l9,l9<l3∧I0 q3 l7 l8 (IntKind.wrap .i64 (n0+1)) l9 w3) w2)∧(∀x0 v3,v1=.iface x0 v3→K (.slice none 0 0) w1)∧(v1=.nilIface∨∃l10 v4,v1=.iface l10 v4)))∧(¬(n0<(ly0:Int))→K (.slice q0 l1 l2) w0))):aa_ PR 6 ⟨[.slice y0 ly0 cy0]⟩ w K:=
 ab_ (okf:=⟨okL,[]⟩) ag_ (args:=[.c (.v (.slice y0 ly0 cy0))]) (H:=[]) (.s .z (.s .z (.s .z (.s (.s .z (.b (.l (some []) (some []) [(3,.c (.sl)),(13,.c (.int .i64))] [] (.s .z (.s .z (.s (.b (.s .z (.s .z (.s (.r ⟨(some []),false,[],[]⟩) (.s .z (.r ⟨(some []),false,[],[]⟩)))))) .z)))))) .z)))) Go.Proofs.Tryz.func6 rfl ⟨trivial,trivial⟩ trivial (Fr.init S w) trivial (ac_ (by kernel_rfl) h)
end Go.Vc
namespace Go.Vc
open Go Go.MapKept
theorem rm_:PR.underlying T.dv_=some (.slice T.cA_):=by kernel_rfl
theorem rt_:tyI T.cA_ 1 8 (.pointer none):=j3_ (by kernel_rfl)
structure ri_ (l:List (Int × Int)) (m:Man) (list:List (List UInt8)):Prop where
 ver:VerL m list
 one:m.version=1
 len:list.length≤40
 pos:1≤list.length
 mkr:ih_ 1 40 10 l m list
 sh:m.shards≠[]
theorem VerL.len {m:Man} {list:List (List UInt8)} (h:VerL m list):list.length=aY_ list.flatten.length:=by
 have:=congrArg List.length h.cut
 rw [hQ_] at this
 exact this.symm
theorem iO_ {w:World} {y:Option Addr} {cy:Nat} {q:Option Addr} {c:Nat} {l:List (Int × Int)} (hy:Sl w y [.slice q l.length c]) (hs:Sl w q (encE l)) {K:Value→World→Prop}
  (h1:∀w' a pc b m list,Grow w w'→Sl w' (some a) [.pointer (some ⟨b,0,none⟩)]→VerO (λj=>j<w.heap.size) w' b m list→ri_ l m list→l.length≤60→eO_ 40 l→K (.slice (some a) 1 pc) w')
  (h2:∀w',Grow w w'→¬(l.length≤60∧eO_ 40 l)→K (.slice none 0 0) w'):aa_ PR F.b7_ ⟨[.slice y 1 cy]⟩ w K:=by
 refine b7_ y 1 cy S0 K w ⟨λh=>by omega,λ_=>?_⟩
 refine ⟨λpq l1 l2 n lv w'=>(n=0∧pq=none∧l1=0∧l2=0∧lv=1∧Grow w w')∨(n=1∧l1=1∧lv=0∧∃a b m list,pq=some a∧Sl w' (some a) [.pointer (some ⟨b,0,none⟩)]∧VerO (λj=>j<w.heap.size) w' b m list∧ri_ l m list∧l.length≤60∧eO_ 40 l∧Grow w w'),⟨1,.inl ⟨rfl,rfl,rfl,rfl,rfl,.refl _ _⟩⟩,?_⟩
 rintro pq l1 l2 n D lv w1 (⟨rfl,rfl,rfl,rfl,rfl,g1⟩ | ⟨rfl,rfl,rfl,a,b,m,list,rfl,k1,k2,k3,k4,k5,g1⟩) hF1
 ·refine ⟨λ_=>?_,λh=>absurd h (by decide)⟩
  refine (hy.grow g1).rd (v:=.slice q l.length c) rfl (by omega) rfl λa ha=>⟨_,_,_,ha,λhgt=>h2 w1 g1 (λhh=>by omega),λhle=>?_⟩
  have hl60:l.length≤60:=by omega
  have e1:IntKind.wrap .i64 ((0:Int)+1)=1:=by decide
  rw [e1]
  refine pc_ (version:=1) (nodes:=40) (each:=10) (by decide) (by decide) (hs.grow g1) rfl (by omega) (λw2 b m list g2 hb hv hL hm1 hfl hg h64 hmk hl2=>⟨_,_,rfl,hF1.after g2,λ_=>⟨(λh=>by cases h),λa2 ha2 l6 hl6 w3 hF3=>?_⟩,(λt x h=>by cases h),.inl rfl⟩) (by decide) λw2 v cc g2 hv hE hno=>⟨_,_,rfl,hF1.after g2,(λh=>by obtain ⟨t,x,rfl⟩:=hv.err;cases h),(λt x _=>h2 w2 (g1.trans g2) λhh=>hno ⟨hh.2,by omega,by omega⟩),.inr (by obtain ⟨t,x,h⟩:=hv.err;exact ⟨t,x,h⟩)⟩
  have g3:Grow w2 w3:=hF3.grow
  refine app1 rm_ rt_ rfl (by decide) (.nil _ _ w3) rfl (Nat.le_refl _) (ys:=[.pointer (some ⟨b,0,none⟩)]) (hF3.sl 0 rfl) rfl (by simp [oneC]) (by omega) λq' c' w4 ho4 hc4 g4 hq4=>?_
  have g4':Grow w3 w4:=g4.mono λk _ ⟨a,ha,_⟩=>by cases ha
  have s1:=g1.size
  have hvw:VerO (λj=>j<w.heap.size) w4 b m list:=(hv.keep (D':=λj=>j<w.heap.size) (g3.trans g4') (λ_ _ e=>e.elim) λk _ e=>by show k<w1.heap.size;have e':k<w.heap.size:=e;omega)
  have hlen:=hL.len
  have h7:=hL.ok.shards.2
  have hn40:m.nodes=40:=by
   obtain ⟨nn,N,k,e,_,_,_,em⟩:=hmk
   have:=congrArg (λz:Man × List (List UInt8)=>z.1.nodes) em
   simp only [ly_] at this
   omega
  have hshn:m.shards≠[]:=λh=>by have:=h7.1 h;omega
  have hpos:1≤list.length:=by
   have h5:=hL.ok
   have h6:=hL.blocks
   have h8:=h5.tab
   have hb:=h5.blocks.1
   have ht:3≤m.total:=by
    unfold Man.total
    cases hsh:m.shards with
    | nil=>have:=h7.1 hsh;omega
    | cons x r=>
     rw [hsh] at h8
     have h9:3≤x.2:=by unfold gf_ at h8;exact h8.2.1
     have h10:∀(p:Option Int) (z:List (Int × Int)),gf_ m.nodes p z→0≤(z.map (·.2)).sum:=by
      intro p z
      induction z generalizing p with
      | nil=>intro _;simp
      | cons y z ih=>
       intro hz
       rw [List.map_cons,List.sum_cons]
       cases p with
       | none=>unfold gf_ at hz;have:=ih _ hz.2.2.2;omega
       | some p=>unfold gf_ at hz;have:=ih _ hz.2.2.2.2;omega
     have h11:=h10 _ r (by unfold gf_ at h8;exact h8.2.2.2)
     rw [List.map_cons,List.sum_cons];omega
   have:1≤m.blocks:=by rw [hb];unfold ga_;rw [if_neg (by omega)];omega
   omega
  refine ⟨_,_,_,rfl,hF3.after g4',0,by omega,.inr ⟨rfl,rfl,rfl,?_⟩⟩
  have hsl:=ho4.sl
  simp only [List.nil_append] at hsl
  cases q' with
  | none=>
   rcases hsl with h | ⟨b0,o0,h,_⟩
   ·cases h
   ·cases h
  | some a=>exact ⟨a,b,m,list,rfl,hsl,hvw,⟨hL,hm1,by rw [hlen];exact oT_ (by omega),hpos,hmk,hshn⟩,hl60,hg,((g1.trans g2).trans g3).trans g4'⟩
 ·exact ⟨λh=>absurd h (by decide),λ_=>h1 w1 a l2 b m list g1 k1 k2 k3 k4 k5⟩
theorem rV_ {m:Man} {list:List (List UInt8)} (h:ri_ [(0,1)] m list):list.length=1:=by
 obtain ⟨nn,N,k,e1,hN,hk1,hk2,e⟩:=h.mkr
 have e2:list=cutL (a9_ (begL nn N) (N.map (·.2)) 10 nn k).flatten:=congrArg Prod.snd e
 have en:nn=40:=by omega
 subst en
 have eN:N=[(0,1)]:=eo_ hN.lt (by simp) hN.mem
 subst eN
 have ek:k=4:=by
  rcases Nat.lt_trichotomy k 4 with h | h | h
  ·omega
  ·exact h
  ·have:=hk2 4 h;omega
 subst ek
 rw [e2,hQ_]
 decide +kernel
end Go.Vc
namespace Go.Vc
open Go Go.MapKept
theorem iJ_ {D:Nat→Prop} {w:World} {b:Nat} {m:Man} {list:List (List UInt8)} (hv:VerO D w b m list) (hL:VerL m list) (hne:m.shards≠[]) {n:Nat} (hn:n≤4096) {K:Value→World→Prop}
  (hK:∀w' f v,aZ_ w' f v→f.h.vs=[v]→v.man=m→v.bl=[]→v.ol=[]→f.ver=m.version→f.trs=[]→f.wt.askd=[]→f.wt.win=4→f.wt.tmo=6→f.h.d.sl.length=n→(logL f.h.recs).length≤2000→f.h.recs.length≤1→f.h.d.ws.length≤1→Grow w w'→(∀k,feA f k→w.heap.size≤k)→K (.tuple #[.pointer (some ⟨f.h.bh,0,none⟩),.pointer (some ⟨f.b,0,none⟩),.bool true]) w') :
  aa_ PR F.bM_ ⟨[.pointer (some ⟨b,0,none⟩),.int .i64 n]⟩ w K:=by
 have hF0:Fs S0 w [] w:=.init _ w
 obtain ⟨qm,cm,ql,cl,hb,_,hqm,_,_⟩:=hv
 have hsh:=hL.ok.shards.1
 have hver:=hL.ok.version
 have hbl:=ak_ hb
 refine bM_ (some ⟨b,0,none⟩) n S0 K w ?_
 refine nn_ hn λw0 bd p g0 hfr hd=>⟨_,rfl,hF0.after g0,?_⟩
 have hl0:(DM.empty n).sl.length=n:=by simp [DM.empty]
 refine lY_ hd rfl rfl (by rw [hl0];exact hn) λw1 bh bj mp j g1 H1 hA1=>⟨_,_,rfl,(hF0.after g0).after g1,λ_=>?_,(λt x h=>by cases h),.inl rfl⟩
 have g01:=g0.trans g1
 have hb1:=Grow.get g01 hb
 have cell:∀ {w':World} {k:Nat} {x:Value},w'.heap[b]? = some (.cells (verC m qm cm list ql cl) T.a5_ (0,0))→(verC m qm cm list ql cl)[k]? = some x→w'.cell? (Addr.add (Addr.add ⟨b,0,none⟩ 0) k)=some x:=λhb hk=>by
  rw [as_,as_,au_ hb];simpa using hk
 refine ad_.2 (ad_.2 (ad_.2 ⟨_,cell hb1 (k:=0) rfl,_,cell hb1 (k:=1) rfl,_,cell hb1 (k:=2) rfl,_,_,_,cell hb1 (k:=3) rfl,_,cell hb1 (k:=4) rfl,_,cell hb1 (k:=5) rfl,?_⟩))
 have s0:=g0.size
 have low:∀k,hA (HS.zero bh bj mp j (DM.empty n)) k→w.heap.size≤k:=λk hk=>(hA1 k hk).elim (hfr k) λh=>Nat.le_trans s0 h
 have hqlt:∀a,qm=some a→m.shards≠[]→a.block<w.heap.size:=λa ha hne=>by
  rcases hqm with h | ⟨b0,o0,e0,⟨cs,T0,fz,hh,_⟩,_⟩
  ·exfalso
   have:=congrArg List.length h
   rw [aF_] at this
   have h2:0<m.shards.length:=List.length_pos_iff.2 hne
   simp at this;omega
  ·rw [e0] at ha;cases ha;exact ak_ hh
 refine qq_ (m:=m) (q:=qm) (c:=cm) H1 ⟨by simp [HS.zero,logL],by simp [HS.zero],by simp [HS.zero,DM.empty]⟩ hL.ok (hqm.sl.grow g01) (λa ha e=>?_) (λx hx=>by cases hx) (by show (0:Int)<_;omega) (by show 0<3;decide) λw2 j2 v H2 hvm hvb hvo c2 hfv hst=>?_
 ·have h1:=hqlt a ha hne
  have h2:=low a.block (.inl (.inr (.inl e)))
  omega
 have hF1:=(hF0.after g0).after g1
 have s1:=g1.size
 have hF2:=hF1.step c2 (λz hz=>by cases hz) λk hk e=>by have:=low k (.inl e);omega
 refine ⟨_,rfl,hF2,λ_=>?_,(λt x h=>by cases h),.inl rfl⟩
 have hb2:=c2.get hb1 λe=>by have:=low b (.inl e);omega
 refine ad_.2 (ad_.2 (ad_.2 (ad_.2 ⟨_,by rw [as_,as_,au_ hb2];rfl,?_⟩)))
 have hvs:v∈((HS.zero bh bj mp j (DM.empty n)).addM j2 v).vs:=by show v∈[]++[v];simp
 have s2:=c2.size
 refine pi_ H2 (n:=m.version) ⟨by omega,by omega⟩ (λw3 f v3 H3 efh efv eft efa efw efm g3 hfl=>?_) λw3 g3 hno=>absurd (by rw [hvm]) (hno v hvs)
 have hv3:v3=v:=by
  have:=H3.mem
  rw [efh] at this
  have h':v3∈[]++[v]:=this
  simpa using h'
 subst hv3
 refine ⟨_,_,rfl,hF2.after g3,(λ_ w4 hF4=>?_),(λt x h=>by cases h),.inl rfl⟩
 have H4:=H3.grow hF4.grow
 have hb':f.h.bh=bh:=by rw [efh];rfl
 have lows:∀k,hA ((HS.zero bh bj mp j (DM.empty n)).addM j2 v3) k→w.heap.size≤k:=by
  rintro k (hk | ⟨x,hx,hk⟩)
  ·rcases hst k hk with h | h
   ·exact low k (.inl h)
   ·omega
  ·have:x=v3:=by simpa [HS.addM,HS.zero] using hx
   subst this
   have:=hfv k hk
   omega
 rw [← hb']
 refine hK w4 f v3 H4 (by rw [efh];rfl) hvm hvb hvo efv eft efa efw efm ?_ ?_ ?_ ?_ hF4.gr λk hk=>(hfl k hk).elim (lows k) λh=>by omega
 ·rw [efh];show ((DM.empty n).put (-1) _).sl.length=n
  rw [ln_];exact hl0
 ·rw [efh];show (logL ([]++[recM v3.man])).length≤_
  rw [fd_,List.length_append,g6_]
  have:=mb_ (m:=v3.man) (by rw [hvm];exact hL.ok)
  have e0:(logL []).length=0:=rfl
  omega
 ·rw [efh];show ([]++[recM v3.man]).length≤_
  simp
 ·rw [efh];show ((DM.empty n).put (-1) _).ws.length≤_
  unfold DM.put DM.now;rw [if_pos rfl];simp [DM.empty]
noncomputable def blkM (m:Man) (list:List (List UInt8)) (i:Nat):MsgL:=⟨3,m.version,i,list.getD i [],bf_ (list.map ax_) list.length i 0 list.length⟩
end Go.Vc
namespace Go.Vc
open Go Go.MapKept
theorem ge_ {D:Nat→Prop} {w:World} {b:Nat} {m:Man} {list:List (List UInt8)} (hv:VerO D w b m list) (hL:VerL m list) {i:Int} {K:Value→World→Prop}
  (h1:∀w' q c,0≤i→i<list.length→Grow w w'→Sl w' q ((blkM m list i.toNat).proof.map sv8')→Off (λk=>k<w.heap.size) q→K (mS_ (blkM m list i.toNat) q c) w')
  (h2:∀w',¬(0≤i∧i<list.length)→Grow w w'→K (.agg #[.int .i64 4,.int .i64 m.version,.int .i64 i,.string ⟨#[]⟩,.slice none 0 0]) w'):aa_ PR F.bO_ ⟨[.pointer (some ⟨b,0,none⟩),.int .i64 i]⟩ w K:=by
 have hv':=hv
 obtain ⟨qm,cm,ql,cl,hb,hDb,hqm,hql,hlc⟩:=hv
 have hbl:=hL.ok.blocks.2
 have hb2:=hL.blocks
 have cell:∀ {w':World} {k:Nat} {x:Value},Grow w w'→(verC m qm cm list ql cl)[k]? = some x→w'.cell? (Addr.add ⟨b,0,none⟩ k)=some x:=λg hk=>by
  rw [as_,au_ (Grow.get g hb)];simpa using hk
 have cell0:∀ {w':World} {k:Nat} {x:Value},Grow w w'→(verC m qm cm list ql cl)[k]? = some x→w'.cell? (Addr.add (Addr.add ⟨b,0,none⟩ 0) k)=some x:=λg hk=>by
  rw [as_,as_,au_ (Grow.get g hb)];simpa using hk
 refine bO_ (some ⟨b,0,none⟩) i S0 K w λl0 hl0=>⟨λhneg=>?_,λhnn=>?_⟩
 ·exact ad_.2 (ad_.2 (ad_.2 λw0 hF0=>ad_.2 ⟨_,cell0 hF0.gr (k:=0) rfl,λw1 hF1=>h2 w1 (by omega) hF1.gr⟩))
 ·refine ad_.2 (ad_.2 λw2 hF2=>ad_.2 ⟨ql,list.length,cl,cell hF2.gr (k:=6) rfl,λhge=>?_,λhlt=>?_⟩)
  ·exact ad_.2 (ad_.2 (ad_.2 (ad_.2 ⟨_,cell0 hF2.gr (k:=0) rfl,λw3 hF3=>h2 w3 (by omega) hF3.gr⟩)))
  ·have g2:Grow w w2:=hF2.gr
   have hv2:VerO D w2 b m list:=hv'.keep (D':=D) g2 (λ_ _ e=>e.elim) λ_ _ e=>e
   have hl02:l0<w2.heap.size:=ak_ (hF2.blk 0 rfl)
   refine rg_ hv2 hL λw4 c4 g4 hT=>⟨_,rfl,hF2.reset.after g4,?_⟩
   have hF4:=hF2.reset.after g4
   refine nc_ hT (i:=i) (by omega) (λw5 q cq hi0 hi1 g5 ho hc hof=>⟨_,_,_,_,rfl,hF4.after g5,λw6 hF6=>?_⟩) λhbad=>absurd ⟨by omega,by omega⟩ hbad
   obtain ⟨j,rfl⟩:=Int.eq_ofNat_of_zero_le hi0
   have hj:j<list.length:=by omega
   have g6:Grow w w6:=hF6.gr
   have s4:=g4.size
   refine ⟨(· = w6),rfl,?_⟩
   refine ad_.2 (ad_.2 (ad_.2 (ad_.2 ⟨_,λw' e=>e ▸ cell0 g6 (k:=0) rfl,?_⟩)))
   refine ad_.2 (ad_.2 (ad_.2 ⟨_,_,_,λw' e=>e ▸ cell g6 (k:=6) rfl,?_⟩))
   refine (hql.sl.grow g6).rd (v:=sv8' list[j]) (by simp) (by omega) (by simp [hj]) λa ha=>⟨_,λw' e=>e ▸ ha,λw10 hF10=>?_⟩
   have hoo:Own T.string 1 w10 q cq ((bf_ (list.map ax_) list.length j 0 list.length).map sv8'):=(ho.grow hF6.grow).keep hF10.stp λa ha e=>by
    have h3:¬a.block<w4.heap.size:=hof a ha
    have e':a.block=l0:=by simpa using e
    omega
   have:=h1 w10 q cq hi0 hi1 hF10.gr hoo.sl (λa ha e=>hof a ha (by have e':a.block<w.heap.size:=e;have:=g2.size;show a.block<w4.heap.size;omega))
   have eg:list.getD j []=list[j]:=by simp [List.getD,hj]
   unfold mS_ blkM at this
   rw [Int.toNat_natCast,eg] at this
   exact this
theorem hm_ {m:Man} {list:List (List UInt8)} (hL:VerL m list) {j:Nat} (hj:j<list.length):ba_ (j:Int) m.blocks (ax_ (blkM m list j).text) (blkM m list j).proof m.root:=by
 have hbl:=hL.ok.blocks.2
 have hb2:=hL.blocks
 rw [hb2,hL.root];exact mO_ hj (by omega)
theorem kN_ {m:Man} {list:List (List UInt8)} (hL:VerL m list) {j:Nat} (hj:j<list.length):(blkM m list j).text.length≤64:=by
 show (list.getD j []).length≤64
 have e:list.getD j []=list[j]:=by simp [List.getD,hj]
 rw [e];exact hL.small _ (List.getElem_mem hj)
end Go.Vc
namespace Go.Vc
open Go Go.MapKept
structure Fill (f:FS) (v:HV) (m:Man):Prop where
 one:f.h.vs=[v]
 man:v.man=m
 old:v.ol=[]
 nd:(v.bl.map (·.1)).Nodup
 win:f.wt.win=4
 tmo:f.wt.tmo=6
 ver:f.ver=m.version
 sl:f.h.d.sl.length=100
 log:(logL f.h.recs).length≤2000+2000*v.bl.length
 recs:f.h.recs.length≤1+v.bl.length
 ws:f.h.d.ws.length≤1+2*v.bl.length
theorem oi_:∀ {n:Nat} {l:List Int},l.Nodup→(∀i∈l,0≤i∧i<n)→l.length≤n
 | 0,l,_,h=>by
  cases l with
  | nil=>exact Nat.le_refl _
  | cons a l=>have:=h a List.mem_cons_self;omega
 | n+1,l,hn,h=>by
  have h1:=oi_ (n:=n) (l:=l.erase (n:Int)) (hn.erase _) λi hi=>by
   have h2:=(hn.mem_erase_iff).1 hi
   have h3:=h i h2.2
   have h4:i≠(n:Int):=h2.1
   omega
  have h5:=List.length_erase (a:=(n:Int)) (l:=l)
  split at h5 <;> omega
theorem rB_:∀ {n:Nat} {l:List Int},l.Nodup→(∀i∈l,0≤i∧i<n)→l.length=n→∀i:Int,0≤i→i<n→i∈l:=by
 intro n l hn h hl i h0 h1
 refine Classical.byContradiction λhno=>?_
 have h2:=oi_ (n:=n) (l:=i :: l) (List.nodup_cons.2 ⟨hno,hn⟩) λj hj=>by
  rcases List.mem_cons.1 hj with rfl | hj
  ·exact ⟨h0,h1⟩
  ·exact h j hj
 simp at h2;omega
theorem Fill.le {w:World} {f:FS} {v:HV} {m:Man} (F:Fill f v m) (H:aZ_ w f v) {n:Nat} (hb:m.blocks=n):v.bl.length≤n:=by
 have h1:=(H.at_.hat.vs v H.mem).inB
 rw [F.man,hb] at h1
 have:=oi_ (n:=n) F.nd λi hi=>by obtain ⟨p,hp,rfl⟩:=List.mem_map.1 hi;exact h1 p hp
 simpa using this
theorem Fill.whole {w:World} {f:FS} {v:HV} {m:Man} (F:Fill f v m) (H:aZ_ w f v) {n:Nat} (hb:m.blocks=n):v.bl.length=n↔∀i,¬f.wt.miss i:=by
 have h1:=(H.at_.hat.vs v H.mem).inB
 rw [F.man,hb] at h1
 have h2:∀i∈v.bl.map (·.1),0≤i∧i<(n:Int):=λi hi=>by obtain ⟨p,hp,rfl⟩:=List.mem_map.1 hi;exact h1 p hp
 constructor
 ·intro hl i hi
  have h3:=bg_.1 ((H.miss i).1 hi)
  rw [F.man,hb] at h3
  obtain ⟨p,hp,e⟩:=List.mem_map.1 (rB_ F.nd h2 (by simpa using hl) i h3.1.1 h3.1.2)
  exact h3.2 p hp e
 ·intro hno
  have h4:=oi_ (n:=n) F.nd h2
  have h5:=oi_ (n:=(v.bl.map (·.1)).length) (l:=(List.range n).map λk:Nat=>(k:Int))
  refine Nat.le_antisymm (by simpa using h4) ?_
  have h6:∀k:Nat,k<n→(k:Int)∈v.bl.map (·.1):=λk hk=>Classical.byContradiction λhn=>hno k ((H.miss k).2 (bg_.2 ⟨⟨by omega,by rw [F.man,hb];omega⟩,λp hp e=>hn (List.mem_map.2 ⟨p,hp,e⟩)⟩))
  have h7:=(List.nodup_range (n:=n)).length_le_of_subset (l₂:=(v.bl.map (·.1)).map Int.toNat) λk hk=>List.mem_map.2 ⟨(k:Int),h6 k (List.mem_range.1 hk),by simp⟩
  simpa using h7
theorem Fill.tick {f:FS} {v:HV} {m:Man} (F:Fill f v m) (now:Int) (n:Nat):Fill (f.tick v now n) v m:=⟨F.one,F.man,F.old,F.nd,F.win,F.tmo,F.ver,F.sl,F.log,F.recs,F.ws⟩
theorem Fill.again {f:FS} {v:HV} {m:Man} (F:Fill f v m) (i:Int):Fill (f.again i) v m:=⟨F.one,F.man,F.old,F.nd,F.win,F.tmo,F.ver,F.sl,F.log,F.recs,F.ws⟩
theorem Fill.room {f:FS} {v:HV} {m:Man} (F:Fill f v m) (h:v.bl.length≤40):qp_ f.h:=⟨by have:=F.log;omega,by have:=F.recs;omega,by have:=F.ws;omega⟩
theorem qz_ (d:DM) (n:Int) (z:List UInt8):(d.put n z).ws.length=d.ws.length+1:=by
 unfold DM.put
 simp only [List.length_append,List.length_cons,List.length_nil]
theorem Fill.put {f:FS} {v:HV} {m:Man} (F:Fill f v m) {j:JP} {i sl:Int} {t:List UInt8} (hv:0≤m.version∧m.version≤1000000000) (hi:0≤i∧i≤1000000000) (hs:0≤sl∧sl≤1000000000) (hnew:∀p∈v.bl,p.1≠i):Fill (f.put j v i sl t) (v.putB i sl t) m:=by
 have hlen:(v.putB i sl t).bl.length=v.bl.length+1:=by simp [HV.putB]
 have hr:(recB v.man.version i (sl,ax_ t)).length≤1+24+1008:=mc_ (by rw [F.man];exact ⟨hv.1,by omega⟩) ⟨hi.1,by omega⟩ ⟨hs.1,by show sl≤_;omega⟩ (by show (ax_ t).length≤_;rw [dO_];omega)
 refine ⟨?_,F.man,?_,?_,F.win,F.tmo,F.ver,?_,?_,?_,?_⟩
 ·show setV f.h.vs (v.putB i sl t)=[v.putB i sl t]
  rw [F.one]
  show [if v.man.version=v.man.version then v.putB i sl t else v]=_
  rw [if_pos rfl]
 ·show v.ol.filter _=[]
  rw [F.old];rfl
 ·show ((v.bl++[(i,sl,ax_ t)]).map (·.1)).Nodup
  rw [List.map_append]
  refine List.nodup_append.2 ⟨F.nd,by simp,λa ha b hb=>?_⟩
  obtain ⟨p,hp,rfl⟩:=List.mem_map.1 ha
  simp at hb;subst hb
  exact hnew p hp
 ·show (((f.h.d.put sl t).put (-1) _).sl).length=100
  rw [ln_,md_ (by omega),List.length_set];exact F.sl
 ·show (logL (f.h.recs++[_])).length≤_
  rw [fd_,List.length_append,g6_,hlen]
  have:=F.log;omega
 ·show (f.h.recs++[_]).length≤_
  rw [hlen];simp;have:=F.recs;omega
 ·show (((f.h.d.put sl t).put (-1) _).ws).length≤_
  rw [qz_,qz_,hlen];have:=F.ws;omega
theorem gd_ {w:World} {f:FS} {v:HV} {m:Man} {list:List (List UInt8)} (H:aZ_ w f v) (Fi:Fill f v m) (hL:VerL m list) (hl40:list.length≤40) (hver:0≤m.version∧m.version≤1000000000) {j:Nat} (hj:j<list.length) {y:Option Addr} {cy:Nat} (hs:Sl w y ((blkM m list j).proof.map sv8')) {K:Value→World→Prop}
  (hI:∀w',(∃p∈v.bl,p.1=(j:Int))→Grow w w'→K (.tuple #[.bool false,.nilIface]) w')
  (hK:∀w' f' v' sl,(∀p∈v.bl,p.1≠(j:Int))→v'.bl=v.bl++[((j:Int),sl,ax_ (blkM m list j).text)]→f'.trs=f.trs→f'.b=f.b→f'.h.bh=f.h.bh→f'.wt.ak=f.wt.ak→f'.tr=f.tr→f'.wt.askd=f.wt.askd.filter (λp=>p.1 != (j:Int))→aZ_ w' f' v'→Fill f' v' m→Chg (feS f) w w'→(∀k,feA f' k→feA f k∨w.heap.size≤k)→K (.tuple #[.bool true,.nilIface]) w') :
  aa_ PR F.aT_ ⟨[.pointer (some ⟨f.b,0,none⟩),mS_ (blkM m list j) y cy]⟩ w K:=by
 have hb:m.blocks=(list.length:Int):=hL.blocks
 have hle:=Fi.le H hb
 have hok:=hm_ hL hj
 have htx:=kN_ hL hj
 refine f3_ H (Fi.room (by omega)) (m:=blkM m list j) hs (by omega) ⟨by rw [Fi.ver];exact ⟨by omega,by omega⟩,by show bd_ (j:Int);exact ⟨by omega,by omega⟩⟩ (λw' _ h=>?_) (λw' _ _ _ h=>?_) (λw' e c f' _ _ _ _ hn _ _ _=>?_) (λw' _ _ _ hin g=>hI w' hin g) (λw' c _ _ _ _ hc _=>?_) λw' jp sl _ _ _ hnew _ H' c' hgr hsl0=>?_
 ·rcases h with h | ⟨h,_⟩
  ·exact absurd Fi.ver.symm h
  ·exact absurd rfl h
 ·cases h
 ·rw [Fi.man] at hn;exact absurd hok hn
 ·rcases hc with ⟨_,hall⟩ | ⟨_,h⟩
  ·obtain ⟨n,hn1,hn2⟩:=kB_ f.h (by rw [Fi.one,Fi.sl];simp [Fi.old];omega)
   exact absurd (hall n hn1) hn2
  ·omega
 ·have hslu:sl≤1000000000:=by
   have h1:=H'.at_.hat.sl (v.putB (blkM m list j).i sl (blkM m list j).text) H'.mem ((blkM m list j).i,sl,ax_ (blkM m list j).text) (by simp [HV.putB])
   have h2:=H'.at_.hat.dl
   have h3:sl<((f.put jp v (blkM m list j).i sl (blkM m list j).text).h.d.sl.length:Int):=h1.2
   omega
  exact hK w' (f.put jp v (blkM m list j).i sl (blkM m list j).text) (v.putB (blkM m list j).i sl (blkM m list j).text) sl hnew rfl rfl rfl rfl rfl rfl rfl H' (Fi.put hver ⟨by show (0:Int)≤(j:Int);omega,by show (j:Int)≤_;omega⟩ ⟨hsl0,hslu⟩ hnew) c' hgr
end Go.Vc
namespace Go.Vc
open Go Go.MapKept
def JA (f:FS) (now:Int) (N:Nat):Prop:=(∀i,¬f.wt.miss i)∨(now≤7*(N:Int)∧∀p∈f.wt.askd,p.2≤7*(N:Int))
theorem JA.sub {f f':FS} {now:Int} {N:Nat} (h:JA f now N) (h1:∀i,f'.wt.miss i→f.wt.miss i) (h2:∀p∈f'.wt.askd,p∈f.wt.askd):JA f' now N:=by
 rcases h with h | ⟨h3,h4⟩
 ·exact .inl λi hi=>h i (h1 i hi)
 ·exact .inr ⟨h3,λp hp=>h4 p (h2 p hp)⟩
theorem JA.tick {w:World} {f:FS} {v:HV} {m:Man} {now:Int} {N:Nat} (h:JA f now N) (Fi:Fill f v m) (H:aZ_ w f v) {np:Nat} (hp:np≠0):JA (f.tick v now np) (now+1) (N+(goL f v now np).length):=by
 rcases h with h | ⟨h1,h2⟩
 ·exact .inl h
 by_cases hno:∀i,¬f.wt.miss i
 ·exact .inl hno
 have hstill:∀p∈dt_ f now,p∈f.wt.askd∧now<p.2:=λp hp=>by
  have h3:=List.mem_filter.1 hp
  exact ⟨h3.1,of_decide_eq_true h3.2⟩
 have hlen:goL f v now np=[]→dt_ f now≠[]:=by
  intro hg hs
  obtain ⟨i,hi⟩:=Classical.not_forall.1 hno
  have hi':i∈bK_ v:=(H.miss i).1 (Classical.not_not.1 hi)
  unfold goL at hg
  rw [if_neg hp,hs,Fi.win] at hg
  have hc:i∈ic_ v []:=dK_.2 ⟨hi',λp hp=>by cases hp⟩
  cases hcl:ic_ v [] with
  | nil=>rw [hcl] at hc;cases hc
  | cons a l=>rw [hcl] at hg;simp at hg
 right
 by_cases hg:goL f v now np=[]
 ·obtain ⟨p,hp0⟩:=List.exists_mem_of_ne_nil _ (hlen hg)
  have h5:=hstill p hp0
  have h6:=h2 p h5.1
  refine ⟨by rw [hg];simp only [List.length_nil,Nat.add_zero];omega,λq hq=>?_⟩
  have hq':q∈dt_ f now++(goL f v now np).map λi=>(i,now+f.wt.tmo):=hq
  rw [hg] at hq' ⊢
  simp only [List.map_nil,List.append_nil] at hq'
  have:=h2 q (hstill q hq').1
  simp only [List.length_nil,Nat.add_zero];omega
 ·have hpos:1≤(goL f v now np).length:=by
   cases hgl:goL f v now np with
   | nil=>exact absurd hgl hg
   | cons a l=>simp
  refine ⟨by omega,λq hq=>?_⟩
  have hq':q∈dt_ f now++(goL f v now np).map λi=>(i,now+f.wt.tmo):=hq
  rcases List.mem_append.1 hq' with hq' | hq'
  ·have:=h2 q (hstill q hq').1;omega
  ·obtain ⟨i,_,rfl⟩:=List.mem_map.1 hq'
   show now+f.wt.tmo≤_
   rw [Fi.tmo];omega
theorem qD_ {f:FS} {v:HV} {m:Man} (Fi:Fill f v m) (now:Int) (np:Nat):(goL f v now np).length≤4:=by
 unfold goL
 split
 ·simp
 ·rw [List.length_take,Fi.win];omega
theorem Grow.off {S:Nat→Prop} {a b c:World} (g:Grow a b) (h:Chg S b c) (hn:∀i,i<a.heap.size→¬S i):Grow a c:=(g.then h).mono λi hi e=>(hn i hi e).elim
theorem h7_ {f:FS} : ∀k,feS f k→feA f k:=λk hk=>by
 rcases hk with h | h | h | h
 ·exact .inl h
 ·exact .inr (.inl h)
 ·exact .inr (.inr (.inl (.inl h)))
 ·exact .inr (.inr (.inr h))
end Go.Vc
namespace Go.Vc
open Go Go.MapKept
theorem o3_ (a:Addr):a.add 0=a:=by unfold Addr.add;simp
theorem kj_ {w:World} {a:Addr} {v:Value} (h:Sl w (some a) [v]) {K:Addr→Prop} (hK:∀a2,w.cell? a2=some v→K a2):Dr (some a) (λa1=>(0:Int)≤0∧(0:Int)<((1:Nat):Int)∧Dr (some (Addr.add a1 0)) K):=by
 have:=h.rd (n:=0) (l:=1) (v:=v) (K:=K) rfl (Int.le_refl 0) rfl hK
 simpa using this
theorem Sl.r5_ {w:World} {a:Addr} {v:Value} (h:Sl w (some a) [v]):a.block<w.heap.size:=by
 rcases h with h | ⟨b,o,e,cs,T0,fz,hh,_⟩
 ·cases h
 ·cases e;exact ak_ hh
theorem fK_ {v:HV} (hb:v.bl=[]) {B:Nat} (hB:v.man.blocks=B):bK_ v=(List.range B).map λn:Nat=>(n:Int):=by
 unfold bK_ fc_
 rw [hB,Int.toNat_natCast]
 exact List.filter_eq_self.2 λi _=>by rw [hb];simp
theorem oz_ {f:FS} {v:HV} (ha:f.wt.askd=[]) (hb:v.bl=[]) (hw:f.wt.win=4) {now:Int} {n:Nat} (hn:n≠0) {B:Nat} (hB:v.man.blocks=B):goL f v now n=((List.range B).map λn:Nat=>(n:Int)).take 4:=by
 have e1:dt_ f now=[]:=by unfold dt_;rw [ha];rfl
 unfold goL
 rw [if_neg hn,e1,hw]
 unfold ic_
 rw [fK_ hb hB,List.filter_eq_self.2 λi _=>by simp]
 rfl
theorem kP_ {w:World} {K:Value→World→Prop} (hK:∀w',Grow w w'→K (.bool true) w'):aa_ PR F.bN_ ⟨[]⟩ w K:=by
 refine bN_ S0 K w λl0 hl0 l1 hl1 w0 hF0=>?_
 refine iO_ (l:=[(0,1)]) (hF0.sl 1 rfl) (hF0.sl 0 rfl) (λw1 a pc b m list g1 hsa hv hP _ hg=>⟨_,_,_,rfl,hF0.reset.after g1,(λh=>by cases h),λa0 ha0=>?_⟩) λw1 g1 hno=>absurd ⟨by decide,by decide,by decide,by decide,λe he=>by simp at he;subst he;decide⟩ hno
 have hF1:Fs S0 w [] w1:=(hF0.reset.sub (L':=[]) (List.nil_sublist _)).after g1
 have hlen:=rV_ hP
 have hL:=hP.ver
 have hal:=hsa.r5_
 have sw1:w.heap.size≤w1.heap.size:=hF1.gr.size
 obtain ⟨qm,cm,ql,cl,hb,hDb,hqm,hql,hlc⟩:=id hv
 have hbl:=ak_ hb
 refine kj_ hsa λa2 ha2=>⟨_,ha2,?_⟩
 refine iJ_ hv hL hP.sh (n:=9) (by decide) λw2 f v HF hvs hvm hvb hvo hver htr has hwin htmo hsl hlg hrl hws g2 hlow=>⟨_,_,true,rfl,(λ_=>⟨hF1.after g2,λl4 hl4 w3 hF3=>?_⟩),λh=>by cases h⟩
 have hB:v.man.blocks=((1:Nat):Int):=by rw [hvm,hL.blocks,hlen]
 have g3:Grow w2 w3:=hF3.grow
 have hfl:=HF.at_.lt
 have s2:=g2.size
 have s3:=g3.size
 have feSA:∀k,feS f k→feA f k:=λk hk=>by
  rcases hk with h | h | h | h
  ·exact .inl h
  ·exact .inr (.inl h)
  ·exact .inr (.inr (.inl (.inl h)))
  ·exact .inr (.inr (.inr h))
 have hgo:goL f v 0 [(0:Int)].length=[0]:=by
  rw [oz_ has hvb hwin (by decide) hB];rfl
 refine iQ_ (HF.grow g3) (now:=0) ⟨by decide,by decide⟩ (by rw [htr];intro p hp;cases hp) (ps:=[0]) (by decide) (hF3.sl 0 rfl) (λa ha=>by
  cases ha
  have h1:=hfl f.wt.ak (.inr (.inl (.inr (.inr rfl))))
  have h2:=hfl f.tr (.inr (.inr (.inr rfl)))
  exact ⟨by show l4≠_;omega,by show l4≠_;omega⟩) λw4 q4 c4 HT ho4 ch4 hq4 _=>?_
 rw [hgo] at ho4 ⊢
 have hF4:=hF3.step ch4 (λz hz e=>by simp at hz;subst hz;have:=hfl _ (feSA _ e);simp only [] at this;omega) λk hk e=>by have:=hlow k (feSA k e);omega
 have keep1:∀k,k<w1.heap.size→¬feS f k:=λk hk e=>by have:=hlow k (feSA k e);omega
 have g13:Grow w1 w3:=g2.trans g3
 have hsa4:Sl w4 (some a) [.pointer (some ⟨b,0,none⟩)]:=(hsa.grow g13).keep ch4 λa' ha'=>by cases ha';exact keep1 _ hal
 have hb4:=ch4.get (Grow.get g13 hb) (keep1 b hbl)
 have hF4':Fs S0 w [] w4:=hF4.sub (L':=[]) (List.nil_sublist _)
 have hqs:Sl w4 q4 ([((toV f [0] 0,0):Int × Int)].flatMap (askC f.ver)):=ho4.sl
 refine ⟨_,_,_,rfl,_,hF4,?_⟩
 refine kj_ hsa4 λa4 ha4=>⟨_,ha4,ad_.2 (ad_.2 (ad_.2 ⟨ql,list.length,cl,by rw [as_,au_ hb4];rfl,λ_=>?_,λhne=>absurd (by rw [hlen];rfl) hne⟩))⟩
 have rdq:∀ {K':Addr→Prop},(∀a8,(∀j v',(askC f.ver (toV f [0] 0,0))[j]? = some v'→w4.cell? (a8.add j)=some v')→K' a8)→Dr q4 (λa8=>(0:Int)≤0∧(0:Int)<(([(0:Int)].length:Nat):Int)∧Dr (some (Addr.add a8 0)) K'):=λ{K'} h=>by
  have:=hqs.rdN (jO_ f.ver) (by decide) (n:=0) (k:=0) (m:=1) (K:=K') rfl (by simp) (by decide) h
  simpa using this
 have hto:toV f [0] 0=0:=by
  unfold toV
  have:(0+bB_ f.trs 0)%(([(0:Int)].length:Nat):Int)=0:=by
   show (0+bB_ f.trs 0)%1=0
   omega
  rw [this];rfl
 refine rdq λa8 h8=>ad_.2 (ad_.2 ⟨_,by rw [o3_];exact h8 1 _ rfl,λ_=>?_,λh=>absurd rfl h⟩)
 refine rdq λa8 h8=>ad_.2 ⟨_,h8 0 _ rfl,λ_=>?_,λh=>absurd hto h⟩
 have e0:(0:Int)∈bK_ v:=by rw [fK_ hvb hB];simp
 refine bc_ HT.at_ (λw5 g5 hall=>absurd ((HT.miss 0).2 e0) (hall 0)) λw5 i5 g5 hi5=>⟨false,rfl,(λh=>by cases h),λ_=>⟨hF4'.after g5,?_⟩⟩
 have hF5:=hF4'.after g5
 refine kj_ (hsa4.grow g5) λa15 ha15=>⟨_,ha15,ad_.2 (ad_.2 (ad_.2 ⟨ql,list.length,cl,by rw [as_,au_ (Grow.get g5 hb4)];rfl,?_⟩))⟩
 have HT5:=HT.grow g5
 have g5s:=g5.size
 have ch3s:=ch4.size
 refine ⟨λn lv w'=>(n=0∧lv=1∧Grow w5 w')∨(n=1∧lv=0∧∃f2 v2,aZ_ w' f2 v2∧f2.b=f.b∧∀i,¬f2.wt.miss i),⟨1,.inl ⟨rfl,rfl,.refl _ _⟩⟩,?_⟩
 rintro n D lv w6 (⟨rfl,rfl,g6⟩ | ⟨rfl,rfl,f2,v2,H2,hb2,hnm⟩) hF6
 ·refine ⟨λ_=>?_,λh=>absurd (by rw [hlen];decide) h⟩
  have g46:=g5.trans g6
  refine kj_ (hsa4.grow g46) λa20 ha20=>⟨_,ha20,?_⟩
  have hv6:VerO (λj=>j<w0.heap.size) w6 b m list:=by
   have h3:=hv.keep (D':=λj=>j<w0.heap.size) g13 (λ_ _ e=>e.elim) λ_ _ e=>e
   have s01:=g1.size
   refine ⟨qm,cm,ql,cl,Grow.get g46 hb4,hDb,?_,?_,hlc⟩
   ·obtain ⟨_,_,_,_,hb3,_,hq3,hl3,_⟩:=h3
    have e1:=Grow.get g13 hb
    rcases hqm with h | ⟨b0,o0,e0',hr,hd⟩
    ·exact .inl h
    ·have hlt:b0<w1.heap.size:=by obtain ⟨cs,T0,fz,hh,_⟩:=hr;exact ak_ hh
     refine .inr ⟨b0,o0,e0',?_,hd⟩
     obtain ⟨cs,T0,fz,hh,hc⟩:=hr
     exact ⟨cs,T0,fz,Grow.get g46 (ch4.get (Grow.get g13 hh) (keep1 b0 hlt)),hc⟩
   ·rcases hql with h | ⟨b0,o0,e0',hr,hd⟩
    ·exact .inl h
    ·have hlt:b0<w1.heap.size:=by obtain ⟨cs,T0,fz,hh,_⟩:=hr;exact ak_ hh
     refine .inr ⟨b0,o0,e0',?_,hd⟩
     obtain ⟨cs,T0,fz,hh,hc⟩:=hr
     exact ⟨cs,T0,fz,Grow.get g46 (ch4.get (Grow.get g13 hh) (keep1 b0 hlt)),hc⟩
  refine ge_ hv6 hL (i:=0) (λw7 q7 c7 _ _ g7 hs7 _=>⟨_,_,_,_,_,_,_,rfl,hF6.after g7,?_⟩) λw7 hno _=>absurd ⟨by decide,by rw [hlen];decide⟩ hno
  have HT7:=HT5.grow (g6.trans g7)
  have hj0:0<list.length:=by omega
  have hokP:=hm_ hL hj0
  have hvman:v.man=m:=hvm
  have hkv:(blkM m list 0).ver=(f.tick v 0 [(0:Int)].length).ver:=by show m.version=f.ver;rw [hver]
  have htext:=kN_ hL hj0
  have hvv:=hL.ok.version
  refine f3_ HT7 (m:=blkM m list 0) ⟨by show (logL f.h.recs).length≤_;omega,by show f.h.recs.length≤_;omega,by show f.h.d.ws.length≤_;omega⟩ hs7 (by omega) ⟨by show bd_ f.ver;rw [hver];exact ⟨by omega,by omega⟩,by show bd_ (((0:Nat):Int));exact ⟨by decide,by decide⟩⟩ (λw' _ h=>?_) (λw' _ _ _ h=>?_) (λw' e c f' _ _ _ _ hn _ _ _=>?_) (λw' _ _ _ hin _=>?_) (λw' c _ _ _ _ hc _=>?_) λw8 j sl _ _ _ hnew hle H8 ch8 hgr8 _=>?_
  ·rcases h with h | ⟨h,_⟩
   ·exact absurd hkv h
   ·exact absurd rfl h
  ·cases h
  ·rw [hvman] at hn;exact absurd hokP hn
  ·obtain ⟨p,hp,_⟩:=hin
   rw [hvb] at hp;cases hp
  ·rcases hc with ⟨_,hall⟩ | ⟨_,hgt⟩
   ·obtain ⟨n0,hn1,hn2⟩:=kB_ f.h (by rw [hvs,hsl];simp [hvb,hvo])
    exact absurd (hall n0 hn1) hn2
   ·omega
  ·have hF8:=(hF6.after g7).step ch8 (λz hz=>by cases hz) λk hk e=>by
    have:=hlow k (feSA k e);omega
   refine ⟨true,.nilIface,rfl,(λ_=>⟨hF8,λ_=>⟨0,by decide,.inr ⟨by decide,rfl,_,_,H8,rfl,λi hi=>?_⟩⟩,(λt x h=>by cases h),.inl rfl⟩),λh=>by cases h⟩
   have h1:=(HT.miss i).1 hi.1
   rw [fK_ hvb hB] at h1
   have h2:i=0:=by simpa using h1
   exact hi.2 h2
 ·refine ⟨λh=>absurd h (by rw [hlen];decide),λ_=>?_⟩
  rw [← hb2]
  exact bc_ H2.at_ (λw9 g9 _=>⟨true,rfl,(λ_=>⟨hF6.after g9,hK w9 (hF6.after g9).gr⟩),λh=>by cases h⟩) λw9 i9 g9 hi9=>absurd hi9 (hnm i9)
end Go.Vc
namespace Go.Vc
open Go
end Go.Vc
namespace Go.Vc
open Go Go.MapKept
structure FdI (wP:World) (X:Nat→Prop) (b bh:Nat) (m:Man) (A N:Nat) (t:Int) (M:Nat) (w:World) (f:FS) (v:HV):Prop where
 ok:aZ_ w f v
 fl:Fill f v m
 b:f.b=b
 bh:f.h.bh=bh
 ja:JA f t M
 cnt:N≤A+v.bl.length
 tr:∀p∈f.trs,0≤p.2∧p.2≤1+4*t
 hi:∀k,feA f k→wP.heap.size≤k∧¬X k
 gr:Grow wP w
theorem FdI.grow {wP:World} {X:Nat→Prop} {b bh:Nat} {m:Man} {A N:Nat} {t:Int} {M:Nat} {w w':World} {f:FS} {v:HV} (h:FdI wP X b bh m A N t M w f v) (g:Grow w w'):FdI wP X b bh m A N t M w' f v:=
 ⟨h.ok.grow g,h.fl,h.b,h.bh,h.ja,h.cnt,h.tr,h.hi,h.gr.trans g⟩
theorem FdI.blk {wP:World} {X:Nat→Prop} {b bh:Nat} {m:Man} {list:List (List UInt8)} {A N:Nat} {t:Int} {M:Nat} {w:World} {f:FS} {v:HV} (h:FdI wP X b bh m A N t M w f v) (hL:VerL m list) (hl40:list.length≤40) (hver:0≤m.version∧m.version≤1000000000) {j:Nat} (hj:j<list.length) (hnew:∀p∈v.bl,p.1≠(j:Int)) (hX:∀k,X k→k<w.heap.size) {y:Option Addr} {cy:Nat} (hs:Sl w y ((blkM m list j).proof.map sv8')) {K:Value→World→Prop}
  (hK:∀w' f' v' sl,FdI wP X b bh m A (N+1) t M w' f' v'→v'.bl=v.bl++[((j:Int),sl,ax_ (blkM m list j).text)]→f'.h.bh=f.h.bh→Chg (feS f) w w'→(∀k,feA f' k→feA f k∨w.heap.size≤k)→K (.tuple #[.bool true,.nilIface]) w') :
  aa_ PR F.aT_ ⟨[.pointer (some ⟨b,0,none⟩),mS_ (blkM m list j) y cy]⟩ w K:=by
 have hb:=h.b
 subst hb
 refine gd_ h.ok h.fl hL hl40 hver hj hs (λw' hin _=>?_) λw' f' v' sl hn hbl htr hb hbh hak htr' hask H' F' c hgr=>hK w' f' v' sl ⟨H',F',hb,hbh.trans h.bh,h.ja.sub (λi hi=>?_) (λp hp=>?_),?_,by rw [htr];exact h.tr,λk hk=>?_,h.gr.off c λi hi e=>?_⟩ hbl hbh c hgr
 ·obtain ⟨p,hp,e⟩:=hin
  exact absurd e (hnew p hp)
 ·refine (h.ok.miss i).2 ?_
  have h1:=bg_.1 ((H'.miss i).1 hi)
  rw [F'.man,← h.fl.man] at h1
  exact bg_.2 ⟨h1.1,λp hp=>h1.2 p (by rw [hbl];exact List.mem_append_left _ hp)⟩
 ·rw [hask] at hp
  exact (List.mem_filter.1 hp).1
 ·rw [hbl];simp only [List.length_append,List.length_cons,List.length_nil];have:=h.cnt;omega
 ·rcases hgr k hk with e | e
  ·exact h.hi k e
  ·have:=h.gr.size
   exact ⟨by omega,λhx=>by have:=hX k hx;omega⟩
 ·have:=(h.hi i (h7_ i e)).1;omega
theorem FdI.no {wP:World} {X:Nat→Prop} {b bh:Nat} {m:Man} {A N:Nat} {t:Int} {M:Nat} {w:World} {f:FS} {v:HV} (h:FdI wP X b bh m A N t M w f v) (hone:m.version=1) (hbl:v.bl.length≤40) {i:Int} (hi:bd_ i) (hN:N<A) {K:Value→World→Prop}
  (hK:∀w' f',FdI wP X b bh m A (N+1) t M w' f' v→Chg (feS f) w w'→(∀k,feA f' k→feA f k)→K (.tuple #[.bool false,.nilIface]) w') :
  aa_ PR F.aT_ ⟨[.pointer (some ⟨b,0,none⟩),.agg #[.int .i64 4,.int .i64 1,.int .i64 i,.string ⟨#[]⟩,.slice none 0 0]]⟩ w K:=by
 have hb:=h.b
 subst hb
 have hv1:f.ver=1:=by rw [h.fl.ver,hone]
 refine f3_ h.ok (h.fl.room hbl) (m:=⟨4,1,i,[],[]⟩) (y:=none) (cy:=0) (.inl rfl) (by show (0:Nat)≤1000000;decide) ⟨by rw [hv1];exact ⟨by decide,by decide⟩,hi⟩ (λw' _ e=>?_) (λw' H' c _ _=>hK w' (f.again i) ⟨H',h.fl.again i,rfl,h.bh,h.ja.sub (λn hn=>hn) (λp hp=>(List.mem_filter.1 hp).1),by have:=h.cnt;omega,h.tr,h.hi,h.gr.off c λk hk e=>?_⟩ c (λk hk=>hk)) (λw' e c f' _ _ _ hk _ _ _ _=>?_) (λw' _ hk _ _ _=>?_) (λw' c _ hk _ _ _ _=>?_) λw' j sl _ hk _ _ _ _ _ _ _=>?_
 ·rcases e with e | ⟨_,e⟩
  ·exact absurd hv1.symm e
  ·exact absurd rfl e
 ·have:=(h.hi k (h7_ k e)).1;omega
 ·cases hk
 ·cases hk
 ·cases hk
 ·cases hk
theorem FdI.tick {wP:World} {X:Nat→Prop} {b bh:Nat} {m:Man} {A N:Nat} {t:Int} {w:World} {f:FS} {v:HV} (h:FdI wP X b bh m A N t N w f v) (ht:0≤t∧t≤100000) {ps:List Int} (hp:ps.length≠0∧ps.length≤4) {y:Option Addr} {cy:Nat} (hs:Sl w y (ps.map iv)) (hy:∀a,y=some a→X a.block) {K:Value→World→Prop}
  (hK:∀w' q c,FdI wP (λk=>X k∨aj_ q k) b bh m A N (t+1) (N+(goL f v t ps.length).length) w' (f.tick v t ps.length) v→Sl w' q (((goL f v t ps.length).map λi=>(toV f ps i,i)).flatMap (askC f.ver))→Chg (feS f) w w'→K (.slice q (goL f v t ps.length).length c) w') :
  aa_ PR F.bv_ ⟨[.pointer (some ⟨b,0,none⟩),.int .i64 t,.slice y ps.length cy]⟩ w K:=by
 have hb:=h.b
 subst hb
 have hlt:=h.ok.at_.lt
 refine iQ_ h.ok ⟨ht.1,by omega⟩ (λp hp'=>by have:=h.tr p hp';omega) (by omega) hs (λa ha=>⟨λe=>?_,λe=>?_⟩) λw' q c H' o' c' hq _=>hK w' q c ⟨H',h.fl.tick t ps.length,rfl,h.bh,h.ja.tick h.fl h.ok hp.1,h.cnt,λp hp'=>?_,λk hk=>⟨(h.hi k hk).1,?_⟩,h.gr.off c' λi hi e=>?_⟩ o'.sl c'
 ·have:=hy a ha
  rw [e] at this
  exact (h.hi f.wt.ak (.inr (.inl (.inr (.inr rfl))))).2 this
 ·have:=hy a ha
  rw [e] at this
  exact (h.hi f.tr (.inr (.inr (.inr rfl)))).2 this
 ·have h1:=p7_ (l:=goL f v t ps.length) (M:=1+4*t) (by omega) h.tr p hp'
  have h2:=qD_ h.fl t ps.length
  omega
 ·rintro (e | ⟨a,ha,e⟩)
  ·exact (h.hi k hk).2 e
  ·have h3:=hq a ha
   have h4:=hlt k hk
   omega
 ·have:=(h.hi i (h7_ i e)).1;omega
theorem FdI.less {wP:World} {X X':Nat→Prop} {b bh:Nat} {m:Man} {A N:Nat} {t:Int} {M:Nat} {w:World} {f:FS} {v:HV} (h:FdI wP X b bh m A N t M w f v) (hX:∀k,X' k→X k):FdI wP X' b bh m A N t M w f v:=
 ⟨h.ok,h.fl,h.b,h.bh,h.ja,h.cnt,h.tr,λk hk=>⟨(h.hi k hk).1,λe=>(h.hi k hk).2 (hX k e)⟩,h.gr⟩
theorem FdI.skip {wP:World} {X:Nat→Prop} {b bh:Nat} {m:Man} {A N:Nat} {t:Int} {M:Nat} {w:World} {f:FS} {v:HV} (h:FdI wP X b bh m A N t M w f v) (hN:N<A):FdI wP X b bh m A (N+1) t M w f v:=
 ⟨h.ok,h.fl,h.b,h.bh,h.ja,by have:=h.cnt;omega,h.tr,h.hi,h.gr⟩
end Go.Vc
namespace Go.Vc
open Go
theorem a8_ (y0:Option Addr) (ly0:Nat) (cy0:Nat) (y1:Option Addr) (ly1:Nat) (cy1:Nat) (S:SP) (K:KP) (w:World) (h:aa_ PR 5 #[] w λv0 w0=>∃b0,v0=.bool b0∧(b0=true→Fs S w [] w0∧∀l0,w0.heap.size≤l0→∀w1,Fr S w w0 [] [⟨l0,#[.slice y0 ly0 cy0],22,true⟩] w1→aa_ PR 6 #[.slice (some (⟨l0,0,none⟩)) 1 1] w1 λv1 w2=>∃q0 l1 l2,v1=.slice q0 l1 l2∧Fs S w [⟨l0,#[.slice y0 ly0 cy0],22,true⟩] w2∧(q0=none→K (.bool true) w2)∧∀a0:Addr,q0=some a0→((ly1:Int)>60→K (.bool true) w2)∧(¬((ly1:Int)>60)→Dr q0 λa1=>(0:Int)≤0∧(0:Int)<(l1:Int)∧Dr (some (Addr.add a1 0)) λa2=>∃q1,World.cell? w2 a2=some (.pointer q1)∧aa_ PR 7 #[.pointer q1,Iv 100] w2 λv2 w3=>∃q2 q3 b1,v2=.tuple #[.pointer q2,.pointer q3,.bool b1]∧(b1=true→Fs S w [] w3∧rn PR (Instr.makeMap 53 none) (λv3 w4=>∃q4,v3=.map q4∧Fs S w [] w4∧∀l3,w4.heap.size≤l3→∀w5,Fr S w w4 [] [⟨l3,#[],5,true⟩] w5→rn PR (Builtin.append_ #[23,23] 23 #[.slice (some (⟨l3,0,none⟩)) 0 0,.slice y1 ly1 cy1]) (λv4 w6=>∃q5 l4 l5,v4=.slice q5 l4 l5∧Fs S w [⟨l3,#[],5,true⟩] w6∧Dr q1 λa3=>Dr (some a3) λa4=>Dr (some (Addr.add a4 6)) λa5=>∃q6 l6 l7,World.cell? w6 a5=some (.slice q6 l6 l7)∧∃I0:(Option Addr)→Nat→Nat→Int→Nat→World→Prop,(∃l8,I0 q5 l4 l5 0 l8 w6)∧∀q7 l9 l10 n0,∀D0:Nat→Value,∀l11 w7,I0 q7 l9 l10 n0 l11 w7→Fs S w [] w7→(n0<(l6:Int)→∀l12,w7.heap.size≤l12→∀w8,Fr S w w7 [] [⟨l12,#[.int .u8 (IntKind.wrap .u8 n0)],5,true⟩] w8→rn PR (Builtin.append_ #[23,23] 23 #[.slice q7 l9 l10,.slice (some (⟨l12,0,none⟩)) 1 1]) (λv5 w9=>∃q8 l13 l14,v5=.slice q8 l13 l14∧Fs S w [⟨l12,#[.int .u8 (IntKind.wrap .u8 n0)],5,true⟩] w9∧∃l15,l15<l11∧I0 q8 l13 l14 (IntKind.wrap .i64 (n0+1)) l15 w9) w8)∧(¬(n0<(l6:Int))→∃I1:Int→Nat→World→Prop,(∃l16,I1 0 l16 w7)∧∀n1,∀D1:Nat→Value,∀l17 w10,I1 n1 l17 w10→Fs S w [] w10→(n1<(l9:Int)→Dr q7 λa6=>(0:Int)≤n1∧n1<(l9:Int)∧Dr (some (Addr.add a6 (Int.toNat n1*1))) λa7=>∃n2,World.cell? w10 a7=some (.int .u8 n2)∧Dr q1 λa8=>Dr (some a8) λa9=>Dr (some (Addr.add a9 6)) λa10=>∃q9 l18 l19,World.cell? w10 a10=some (.slice q9 l18 l19)∧(l18:Int)≠0∧∃I2:World→Prop,((Int.tmod n1 3=1→∀l20,w10.heap.size≤l20→∀w11,Fr S w w10 [] [⟨l20,#[Iv 0],3,true⟩] w11→aa_ PR 8 #[.pointer q3,Iv n1,.slice (some (⟨l20,0,none⟩)) 1 1] w11 λv6 w12=>∃q10 l21 l22,v6=.slice q10 l21 l22∧∃n3,Fs S w [⟨l20,#[Iv n3],3,true⟩] w12∧I2 w12)∧(¬(Int.tmod n1 3=1)→I2 w10))∧∀D2:Nat→Value,∀w13,I2 w13→Fs S w [] w13→aa_ PR 10 #[.pointer q1,Iv (Int.tmod (IntKind.wrap .i64 n2) (l18:Int))] w13 λv7 w14=>∃n4 n5 n6 s0 q11 l23 l24,v7=.agg #[Iv n4,Iv n5,Iv n6,.string s0,.slice q11 l23 l24]∧Fs S w [] w14∧aa_ PR 9 #[.pointer q3,.agg #[Iv n4,Iv n5,Iv n6,.string s0,.slice q11 l23 l24]] w14 λv8 w15=>∃b2 v9,v8=.tuple #[.bool b2,v9]∧(b2=true→Fs S w [] w15∧∃I3:World→Prop,((v9=.nilIface→rn PR (Instr.lookup 53 (.map q4) (Iv (Int.tmod (IntKind.wrap .i64 n2) (l18:Int))) false) (λv10 w16=>∃b3,v10=.bool b3∧(b3=true→Fs S w [] w16∧K (.bool false) w16)∧(b3=false→Fs S w [] w16∧I3 w16)) w15)∧(∀x0 v11,v9=.iface x0 v11→K (.bool false) w15)∧(v9=.nilIface∨∃l25 v12,v9=.iface l25 v12))∧∀D3:Nat→Value,∀w17,I3 w17→Fs S w [] w17→rn PR (Instr.mapUpdate 53 (.map q4) (Iv (Int.tmod (IntKind.wrap .i64 n2) (l18:Int))) (.bool true)) (λx1 w18=>Fs S w [] w18∧∀w19,Fr S w w18 [] [] w19→∃I4:World→Prop,I4 w19∧Dr q1 λa11=>Dr (some a11) λa12=>Dr (some (Addr.add a12 6)) λa13=>∃q12 l26 l27,(∀w20,I4 w20→World.cell? w20 a13=some (.slice q12 l26 l27))∧aa_ PR 11 #[.pointer q3] w19 λv13 w21=>∃b4,v13=.bool b4∧(b4=true→Fs S w [] w21∧I4 w21∧rn PR (Builtin.len_ #[53] 3 #[.map q4]) (λv14 w22=>∃n7,v14=Iv n7∧Fs S w [] w22∧I4 w22∧(n7=(l26:Int)→aa_ PR 11 #[.pointer q3] w22 λv15 w23=>∃b5,v15=.bool b5∧(b5=true→Fs S w [] w23∧I4 w23∧aa_ PR 12 #[.pointer q2,Iv 1] w23 λv16 w24=>∃b6,v16=.bool b6∧(b6=true→Fs S w [] w24∧I4 w24∧∃l28,l28<l17∧I1 (IntKind.wrap .i64 (n1+1)) l28 w24)∧(b6=false→Fs S w [] w24∧I4 w24∧K (.bool false) w24))∧(b5=false→Fs S w [] w23∧I4 w23∧aa_ PR 12 #[.pointer q2,Iv 1] w23 λv17 w25=>∃b7,v17=.bool b7∧(b7=true→Fs S w [] w25∧I4 w25∧K (.bool false) w25)∧(b7=false→Fs S w [] w25∧I4 w25∧∃l29,l29<l17∧I1 (IntKind.wrap .i64 (n1+1)) l29 w25)))∧(¬(n7=(l26:Int))→K (.bool false) w22)) w21)∧(b4=false→Fs S w [] w21∧I4 w21∧rn PR (Builtin.len_ #[53] 3 #[.map q4]) (λv18 w26=>∃n8,v18=Iv n8∧Fs S w [] w26∧I4 w26∧(n8=(l26:Int)→K (.bool false) w26)∧(¬(n8=(l26:Int))→aa_ PR 11 #[.pointer q3] w26 λv19 w27=>∃b8,v19=.bool b8∧(b8=true→Fs S w [] w27∧I4 w27∧aa_ PR 12 #[.pointer q2,Iv 1] w27 λv20 w28=>∃b9,v20=.bool b9∧(b9=true→Fs S w [] w28∧I4 w28∧∃l30,l30<l17∧I1 (IntKind.wrap .i64 (n1+1)) l30 w28)∧(b9=false→Fs S w [] w28∧I4 w28∧K (.bool false) w28))∧(b8=false→Fs S w [] w27∧I4 w27∧aa_ PR 12 #[.pointer q2,Iv 1] w27 λv21 w29=>∃b10,v21=.bool b10∧(b10=true→Fs S w [] w29∧I4 w29∧K (.bool false) w29)∧(b10=false→Fs S w [] w29∧I4 w29∧∃l31,l31<l17∧I1 (IntKind.wrap .i64 (n1+1)) l31 w29)))) w21)) w17)∧(b2=false→Fs S w [] w15∧∃I5:World→Prop,((v9=.nilIface→rn PR (Instr.lookup 53 (.map q4) (Iv (Int.tmod (IntKind.wrap .i64 n2) (l18:Int))) false) (λv22 w30=>∃b11,v22=.bool b11∧(b11=true→Fs S w [] w30∧I5 w30)∧(b11=false→Fs S w [] w30∧K (.bool false) w30)) w15)∧(∀x2 v23,v9=.iface x2 v23→K (.bool false) w15)∧(v9=.nilIface∨∃l32 v24,v9=.iface l32 v24))∧∀D4:Nat→Value,∀w31,I5 w31→Fs S w [] w31→rn PR (Instr.mapUpdate 53 (.map q4) (Iv (Int.tmod (IntKind.wrap .i64 n2) (l18:Int))) (.bool true)) (λx3 w32=>Fs S w [] w32∧∀w33,Fr S w w32 [] [] w33→∃I6:World→Prop,I6 w33∧Dr q1 λa14=>Dr (some a14) λa15=>Dr (some (Addr.add a15 6)) λa16=>∃q13 l33 l34,(∀w34,I6 w34→World.cell? w34 a16=some (.slice q13 l33 l34))∧aa_ PR 11 #[.pointer q3] w33 λv25 w35=>∃b12,v25=.bool b12∧(b12=true→Fs S w [] w35∧I6 w35∧rn PR (Builtin.len_ #[53] 3 #[.map q4]) (λv26 w36=>∃n9,v26=Iv n9∧Fs S w [] w36∧I6 w36∧(n9=(l33:Int)→aa_ PR 11 #[.pointer q3] w36 λv27 w37=>∃b13,v27=.bool b13∧(b13=true→Fs S w [] w37∧I6 w37∧aa_ PR 12 #[.pointer q2,Iv 1] w37 λv28 w38=>∃b14,v28=.bool b14∧(b14=true→Fs S w [] w38∧I6 w38∧∃l35,l35<l17∧I1 (IntKind.wrap .i64 (n1+1)) l35 w38)∧(b14=false→Fs S w [] w38∧I6 w38∧K (.bool false) w38))∧(b13=false→Fs S w [] w37∧I6 w37∧aa_ PR 12 #[.pointer q2,Iv 1] w37 λv29 w39=>∃b15,v29=.bool b15∧(b15=true→Fs S w [] w39∧I6 w39∧K (.bool false) w39)∧(b15=false→Fs S w [] w39∧I6 w39∧∃l36,l36<l17∧I1 (IntKind.wrap .i64 (n1+1)) l36 w39)))∧(¬(n9=(l33:Int))→K (.bool false) w36)) w35)∧(b12=false→Fs S w [] w35∧I6 w35∧rn PR (Builtin.len_ #[53] 3 #[.map q4]) (λv30 w40=>∃n10,v30=Iv n10∧Fs S w [] w40∧I6 w40∧(n10=(l33:Int)→K (.bool false) w40)∧(¬(n10=(l33:Int))→aa_ PR 11 #[.pointer q3] w40 λv31 w41=>∃b16,v31=.bool b16∧(b16=true→Fs S w [] w41∧I6 w41∧aa_ PR 12 #[.pointer q2,Iv 1] w41 λv32 w42=>∃b17,v32=.bool b17∧(b17=true→Fs S w [] w42∧I6 w42∧∃l37,l37<l17∧I1 (IntKind.wrap .i64 (n1+1)) l37 w42)∧(b17=false→Fs S w [] w42∧I6 w42∧K (.bool false) w42))∧(b16=false→Fs S w [] w41∧I6 w41∧aa_ PR 12 #[.pointer q2,Iv 1] w41 λv33 w43=>∃b18,v33=.bool b18∧(b18=true→Fs S w [] w43∧I6 w43∧K (.bool false) w43)∧(b18=false→Fs S w [] w43∧I6 w43∧∃l38,l38<l17∧I1 (IntKind.wrap .i64 (n1+1)) l38 w43)))) w35)) w31))∧(¬(n1<(l9:Int))→aa_ PR 11 #[.pointer q3] w10 λv34 w44=>∃b19,v34=.bool b19∧(b19=true→Fs S w [] w44∧K (.bool true) w44)∧(b19=false→Fs S w [] w44∧K (.bool false) w44)))) w5) w3)∧(b1=false→Fs S w [] w3∧K (.bool false) w3)))∧(b0=false→Fs S w [] w0∧K (.bool false) w0)):aa_ PR 4 ⟨[.slice y0 ly0 cy0,.slice y1 ly1 cy1]⟩ w K:=
 ab_ (okf:=⟨okL,[]⟩) ag_ (args:=[.c (.v (.slice y0 ly0 cy0)),.c (.v (.slice y1 ly1 cy1))]) (H:=[]) (.s .z (.s (.s (.r ⟨(some []),true,[],[]⟩) .z) (.s (.r ⟨(some []),true,[],[]⟩) (.s .z (.s .z (.s (.r ⟨(some []),true,[],[]⟩) (.s .z (.s (.r ⟨(some []),true,[],[]⟩) (.s (.r ⟨(some []),true,[],[]⟩) (.s (.s .z (.b (.l (some []) (some []) [(11,.c (.sl)),(50,.c (.int .i64))] [] (.s .z (.s .z (.s (.b (.s .z (.r ⟨(some []),true,[],[]⟩))) .z)))))) (.s (.s .z (.b (.l (some []) (some []) [(61,.c (.int .i64))] [] (.s .z (.s .z (.s (.b (.s .z (.s .z (.cut [] [] (.s .z (.c (.r ⟨(some []),true,[],[(3,[999])]⟩) .z)) (.s (.r ⟨(some []),true,[],[(4,[999])]⟩) (.cut [] [] (.s (.r ⟨(some []),true,[],[]⟩) .z) (.s (.r ⟨(some []),true,[],[]⟩) (.s (.r ⟨(some []),true,[],[]⟩) .z)))))))) .z)))))) (.s (.r ⟨(some []),true,[],[]⟩) .z)))))))))))) Go.Proofs.Tryz.func4 rfl ⟨trivial,trivial,trivial⟩ trivial (Fr.init S w) trivial (ac_ (by kernel_rfl) h)
end Go.Vc
namespace Go.Vc
open Go Go.MapKept
theorem FdI.setX {wP:World} {X X':Nat→Prop} {b bh:Nat} {m:Man} {A N:Nat} {t:Int} {M:Nat} {w:World} {f:FS} {v:HV} (h:FdI wP X b bh m A N t M w f v) (hX:∀k,feA f k→¬X' k):FdI wP X' b bh m A N t M w f v:=
 ⟨h.ok,h.fl,h.b,h.bh,h.ja,h.cnt,h.tr,λk hk=>⟨(h.hi k hk).1,hX k hk⟩,h.gr⟩
theorem FdI.up {wP:World} {X:Nat→Prop} {b bh:Nat} {m:Man} {A N A' N':Nat} {t t':Int} {M M':Nat} {w:World} {f:FS} {v:HV} (h:FdI wP X b bh m A N t M w f v) (ht:t≤t') (hM:M≤M') (htM:t'≤7*(M':Int)) (hN:N'≤A'):FdI wP X b bh m A' N' t' M' w f v:=
 ⟨h.ok,h.fl,h.b,h.bh,h.ja.elim .inl λh1=>.inr ⟨htM,λp hp=>by have:=h1.2 p hp;omega⟩,by omega,λp hp=>by have:=h.tr p hp;omega,h.hi,h.gr⟩
theorem FdI.rH_ {wP:World} {X S:Nat→Prop} {b bh:Nat} {m:Man} {A N:Nat} {t:Int} {M:Nat} {w w':World} {f:FS} {v:HV} (h:FdI wP X b bh m A N t M w f v) (c:Chg S w w') (hS:∀k,S k→X k∧wP.heap.size≤k):FdI wP X b bh m A N t M w' f v:=
 ⟨⟨h.ok.at_.keep c λk hk e=>(h.hi k hk).2 (hS k e).1,h.ok.mem,h.ok.ver,h.ok.miss⟩,h.fl,h.b,h.bh,h.ja,h.cnt,h.tr,h.hi,h.gr.off c λi hi e=>by have:=(hS i e).2;omega⟩
theorem FdI.hear {wP:World} {X:Nat→Prop} {b bh:Nat} {m:Man} {list:List (List UInt8)} {A N:Nat} {t:Int} {M:Nat} {w:World} {f:FS} {v:HV} (h:FdI wP X b bh m A N t M w f v) (hL:VerL m list) (hl40:list.length≤40) (hver:0≤m.version∧m.version≤1000000000) {j:Nat} (hj:j<list.length) (hX:∀k,X k→k<w.heap.size) {y:Option Addr} {cy:Nat} (hs:Sl w y ((blkM m list j).proof.map sv8')) {K:Value→World→Prop}
  (hI:∀w',(∃p∈v.bl,p.1=(j:Int))→Grow w w'→K (.tuple #[.bool false,.nilIface]) w')
  (hK:∀w' f' v' sl,(∀p∈v.bl,p.1≠(j:Int))→FdI wP X b bh m (A+1) N t M w' f' v'→v'.bl=v.bl++[((j:Int),sl,ax_ (blkM m list j).text)]→Chg (feS f) w w'→K (.tuple #[.bool true,.nilIface]) w') :
  aa_ PR F.aT_ ⟨[.pointer (some ⟨b,0,none⟩),mS_ (blkM m list j) y cy]⟩ w K:=by
 by_cases hin:∃p∈v.bl,p.1=(j:Int)
 ·have hb:=h.b
  subst hb
  exact gd_ h.ok h.fl hL hl40 hver hj hs (λw' _ g=>hI w' hin g) λw' f' v' sl hn _ _ _ _ _ _ _ _ _ _ _=>by
   obtain ⟨p,hp,e⟩:=hin
   exact absurd e (hn p hp)
 ·have hnew:∀p∈v.bl,p.1≠(j:Int):=λp hp e=>hin ⟨p,hp,e⟩
  refine h.blk hL hl40 hver hj hnew hX hs λw' f' v' sl I hbl _ c _=>hK w' f' v' sl hnew ⟨I.ok,I.fl,I.b,I.bh,I.ja,by have:=I.cnt;omega,I.tr,I.hi,I.gr⟩ hbl c
theorem hZ_ {w:World} {y:Option Addr} {c:Nat} {l:List (Int × Int)} (hs:Sl w y (encE l)) {y1:Option Addr} {c1:Nat} {os:List UInt8} (ho:Sl w y1 (os.map bv)) {K:Value→World→Prop} (hK:∀w',Grow w w'→K (.bool true) w') :
  aa_ PR F.a8_ ⟨[.slice y l.length c,.slice y1 os.length c1]⟩ w K:=by
 refine a8_ y l.length c y1 os.length c1 S0 K w ?_
 have hF00:Fs S0 w [] w:=.init _ w
 refine kP_ λw1 g1=>⟨true,rfl,(λ_=>⟨hF00.after g1,λl1 hl1 w2 hF2=>?_⟩),λh=>by cases h⟩
 refine iO_ (l:=l) (hF2.sl 0 rfl) (hs.grow hF2.gr) (λw3 a pc b m list g3 hsa hv hP hl60 hg=>⟨_,_,_,rfl,hF2.reset.after g3,(λh=>by cases h),λa0 ha0=>⟨λ_=>hK w3 (hF2.reset.after g3).gr,λh60=>?_⟩⟩) λw3 g3 hno=>⟨_,_,_,rfl,hF2.reset.after g3,(λ_=>hK w3 (hF2.reset.after g3).gr),λa h=>by cases h⟩
 have hF3:Fs S0 w [] w3:=(hF2.reset.after g3).sub (L':=[]) (List.nil_sublist _)
 have hL:=hP.ver
 have hl40:=hP.len
 have hpos:=hP.pos
 have hvv:=hL.ok.version
 have hblk:=hL.blocks
 have hone:=hP.one
 have ho3:Sl w3 y1 (os.map bv):=ho.grow hF3.gr
 refine kj_ hsa λa2 ha2=>⟨_,ha2,?_⟩
 refine iJ_ hv hL hP.sh (n:=100) (by decide) λw4 f0 v0 HF hvs hvm hvb hvo hver htr has hwin htmo hsl hlg hrl hws g4 hlow=>⟨_,_,true,rfl,(λ_=>⟨hF3.after g4,?_⟩),λh=>by cases h⟩
 have hF4:=hF3.after g4
 have hlt0:=HF.at_.lt
 have s34:=g4.size
 have s03:=hF3.gr.size
 refine aV_ λw5 r hr mp5 g5=>⟨_,rfl,hF4.after g5,λl3 hl3 w6 hF6=>?_⟩
 have s45:=g5.size
 have r5:r<w5.heap.size:=mp5.lt
 have g6:Grow w5 w6:=hF6.grow
 refine app0 b2_ t_u8 rfl (by decide) (by decide) (.empty (hF6.blk 0 rfl)) ((ho3.grow (g4.trans g5)).grow g6) (by simp) (λy hy=>by obtain ⟨b,_,rfl⟩:=List.mem_map.1 hy;rfl) (by omega) λq7 c7 w7 o7 hc7 g7 hq7=>⟨_,_,_,rfl,hF6.reset.after g7,?_⟩
 obtain ⟨qm,cm,ql,cl,hb,hDb,hqm,hql,hlc⟩:=id hv
 have cellL:∀ {w':World},Grow w3 w'→w'.cell? (Addr.add ⟨b,0,none⟩ 6)=some (.slice ql list.length cl):=λg=>by
  rw [as_,au_ (Grow.get g hb)];rfl
 have g57:=g6.trans g7
 have g37:=(g4.trans g5).trans g57
 have s57:=g57.size
 refine ad_.2 (ad_.2 (ad_.2 ⟨ql,list.length,cl,cellL g37,?_⟩))
 refine ⟨λq l c n lv w'=>∃j:Nat,n=j∧j≤list.length∧l=os.length+j∧l≤c∧lv=list.length - j∧Own T.uint8 1 w' q c ((os++(List.range j).map UInt8.ofNat).map bv)∧Off (λk=>k<w5.heap.size) q∧Grow w5 w',⟨_,0,rfl,Nat.zero_le _,rfl,hc7,rfl,by simpa using o7,λa ha=>?_,g57⟩,?_⟩
 ·show ¬a.block<w5.heap.size
  rcases hq7 a ha with e | e
  ·cases e;show ¬l3<_;omega
  ·have:=g6.size;omega
 rintro q8 l8 c8 n8 D8 lv8 w8 ⟨j,rfl,hjl,rfl,hlc8,rfl,o8,off8,g58⟩ hF8
 refine ⟨λhlt l12 hl12 w9 hF9=>?_,λhge=>?_⟩
 ·have g9:Grow w8 w9:=hF9.grow
  have hval:(Value.int .u8 (IntKind.wrap .u8 (j:Int)))=bv (UInt8.ofNat j):=by
   unfold bv
   rw [wrap_u8]
   congr 1
  rw [hval] at hF9 ⊢
  refine ei_ (xs:=os++(List.range j).map UInt8.ofNat) (ys:=[UInt8.ofNat j]) (o8.grow g9) (by simp) hlc8 (hF9.sl 0 rfl) rfl (by omega) λq10 c10 w10 o10 hc10 ch10 hq10=>?_
  have off10:∀k,aj_ q8 k→w5.heap.size≤k:=λk ⟨a,ha,e⟩=>by have h:=off8 a ha;subst e;exact Nat.le_of_not_lt h
  have s58:=g58.size
  have s89:=g9.size
  refine ⟨_,_,_,rfl,hF9.reset.step ch10 (λz hz e=>?_) (λk hk e=>by have:=off10 k e;omega),_,?_,j+1,by rw [w64 (by omega) (by omega)];rfl,by omega,by omega,hc10,rfl,?_,λa ha=>?_,(g58.trans g9).off ch10 λi hi e=>by have:=off10 i e;omega⟩
  ·simp only [List.mem_cons,List.not_mem_nil,or_false] at hz;subst hz
   obtain ⟨a,ha,e⟩:=e
   have:=o8.lt a ha
   simp only [] at e;omega
  ·omega
  ·rw [List.range_succ,List.map_append (f:=UInt8.ofNat),← List.append_assoc];exact o10
  ·rcases hq10 a ha with e | e
   ·exact off8 a e
   ·subst e;show ¬w9.heap.size<_;omega
 have hje:j=list.length:=by omega
 subst hje
 have s58:=g58.size
 have hfl0:Fill f0 v0 m:=⟨hvs,hvm,hvo,by rw [hvb];exact List.nodup_nil,hwin,htmo,hver,hsl,by omega,by omega,by omega⟩
 have g38:Grow w3 w8:=(g4.trans g5).trans g58
 have off8':∀k,aj_ q8 k→w5.heap.size≤k:=λk ⟨a,ha,e⟩=>by have h:=off8 a ha;subst e;exact Nat.le_of_not_lt h
 have I0:FdI w3 (λz=>z=r∨aj_ q8 z) f0.b f0.h.bh m 1000 1000 0 1000 w8 f0 v0:=⟨HF.grow (g5.trans g58),hfl0,rfl,rfl,.inr ⟨by omega,λp hp=>by rw [has] at hp;cases hp⟩,by omega,(λp hp=>by rw [htr] at hp;cases hp),λk hk=>⟨hlow k hk,λe=>by
  have:=hlt0 k hk
  rcases e with e | e
  ·omega
  ·have:=off8' k e;omega⟩,g38⟩
 have mk8:aB_ w8 r (λn=>∃p∈v0.bl,p.1=n):=⟨[],mp5.grow g58,(λp hp=>by cases hp),λn=>⟨(λ⟨p,hp,_⟩=>by cases hp),(λ⟨p,hp,_⟩=>by rw [hvb] at hp;cases hp)⟩⟩
 have alen:(os++(List.range list.length).map UInt8.ofNat).length=os.length+list.length:=by simp
 refine ⟨λn lv w'=>∃k:Nat,n=k∧k≤os.length+list.length∧lv=os.length+list.length - k∧∃f v,FdI w3 (λz=>z=r∨aj_ q8 z) f0.b f0.h.bh m (1000+4*k) (1000+4*k) (k:Int) (1000+4*k) w' f v∧aB_ w' r (λn=>∃p∈v.bl,p.1=n)∧Sl w' q8 ((os++(List.range list.length).map UInt8.ofNat).map bv)∧∀(i:Nat) (x:UInt8),i<k→(os++(List.range list.length).map UInt8.ofNat)[i]? = some x→∃p∈v.bl,p.1=((x.toNat%list.length:Nat):Int),⟨_,0,rfl,Nat.zero_le _,rfl,f0,v0,I0,mk8,o8.sl,λi x hi _=>absurd hi (Nat.not_lt_zero _)⟩,?_⟩
 rintro n1 D1 lv w10 ⟨k,rfl,hkl,rfl,f,v,I,Mk,o,kn⟩ hF10
 have offs:∀ {f':FS} {X:Nat→Prop} {A':Nat} {t:Int} {N' M:Nat} {w':World} {v':HV},FdI w3 X f0.b f0.h.bh m A' N' t M w' f' v'→∀k,k<w.heap.size→feS f' k→S0 k:=λI' k hk e=>by
  have h1:=(I'.hi k (h7_ k e)).1
  omega
 refine ⟨λhlt=>?_,λhge=>?_⟩
 ·have hk:k<os.length+list.length:=by omega
  obtain ⟨x,hx0⟩:∃x,(os++(List.range list.length).map UInt8.ofNat)[k]? = some x:=⟨_,List.getElem?_eq_getElem (by omega)⟩
  refine o.rd (n:=(k:Int)) (v:=bv x) (by rw [List.length_map,alen]) (by omega) (by rw [Int.toNat_natCast,List.getElem?_map,hx0];rfl) λa7 h7=>⟨_,h7,?_⟩
  refine ad_.2 (ad_.2 (ad_.2 ⟨ql,list.length,cl,cellL I.gr,by omega,?_⟩))
  have hxlt:x.toNat<256:=x.toNat_lt
  have hj:Int.tmod (IntKind.wrap .i64 (x.toNat:Int)) (list.length:Int)=((x.toNat%list.length:Nat):Int):=by
   rw [w64 (by omega) (by omega),Int.tmod_eq_emod_of_nonneg (by omega)];rfl
  rw [hj]
  have hjlt:x.toNat%list.length<list.length:=Nat.mod_lt _ (by omega)
  generalize hje:x.toNat%list.length=j at hjlt ⊢
  have q7r:∀a,q8=some a→¬a.block=r:=λa ha e=>by have:=off8' a.block ⟨a,ha,rfl⟩;omega
  have hXlt:∀ {w':World},Grow w10 w'→∀z,(z=r∨aj_ q8 z)→z<w'.heap.size:=λ{w'} g z hz=>by
   have:=g.size
   have h10:w5.heap.size≤w10.heap.size∨True:=.inr trivial
   rcases hz with rfl | ⟨a,ha,rfl⟩
   ·have:=Mk.lt;omega
   ·rcases o with h | ⟨b',o',e,cs,T',fz,hh,_⟩
    ·exfalso
     have h':=congrArg List.length h
     rw [List.length_map,alen] at h'
     have:os.length+list.length=0:=h'
     omega
    ·rw [ha] at e;cases e;exact Nat.lt_of_lt_of_le (ak_ hh) this
  refine ⟨λw'=>∃f,FdI w3 (λz=>z=r∨aj_ q8 z) f0.b f0.h.bh m (1004+4*k) (1004+4*k) ((k:Int)+1) (1004+4*k) w' f v∧aB_ w' r (λn=>∃p∈v.bl,p.1=n)∧Sl w' q8 ((os++(List.range list.length).map UInt8.ofNat).map bv)∧(∀z,(z=r∨aj_ q8 z)→z<w'.heap.size),⟨λhmod l20 hl20 w11 hF11=>?_,λ_=>⟨f,I.up (by omega) (by omega) (by omega) (by omega),Mk,o,hXlt (.refl _ _)⟩⟩,?_⟩
  ·have g11:Grow w10 w11:=hF11.grow
   have I11:FdI w3 (λz=>(z=r∨aj_ q8 z)∨z=l20) f0.b f0.h.bh m (1000+4*k) (1000+4*k) (k:Int) (1000+4*k) w11 f v:=(I.grow g11).setX λz hz e=>by
    rcases e with e | e
    ·exact (I.hi z hz).2 e
    ·have:=I.ok.at_.lt z hz;omega
   refine I11.tick (ps:=[0]) ⟨by omega,by omega⟩ ⟨by decide,by decide⟩ (hF11.sl 0 rfl) (λa ha=>by cases ha;exact .inr rfl) λw12 q12 c12 I12 _ ch12=>⟨_,_,_,rfl,_,hF11.reset.step ch12 (λz hz e=>?_) (offs I11),f.tick v k 1,?_,(Mk.grow g11).keep ch12 λe=>(I11.hi _ (h7_ _ e)).2 (.inl (.inl rfl)),(o.grow g11).keep ch12 λa ha e=>(I11.hi _ (h7_ _ e)).2 (.inl (.inr ⟨a,ha,rfl⟩)),λz hz=>Nat.lt_of_lt_of_le (hXlt g11 z hz) ch12.size⟩
   ·simp only [List.mem_cons,List.not_mem_nil,or_false] at hz;subst hz
    exact (I11.hi _ (h7_ _ e)).2 (.inr rfl)
   ·have hg4:=qD_ I.fl (k:Int) [(0:Int)].length
    exact (I12.less λz hz=>.inl (.inl hz)).up (by omega) (by omega) (by omega) (by omega)
  rintro D2 w13 ⟨f,I,Mk,o,hXlt⟩ hF13
  have hv13:VerO (λk=>k<w2.heap.size) w13 b m list:=hv.keep (D':=λk=>k<w2.heap.size) I.gr (λ_ _ e=>e.elim) λ_ _ e=>e
  refine ge_ hv13 hL (i:=(j:Int)) (λw14 qb cb hi0 hi1 gb hsb _=>⟨_,_,_,_,_,_,_,rfl,hF13.after gb,?_⟩) λw14 hno _=>absurd ⟨by omega,by omega⟩ hno
  rw [Int.toNat_natCast] at hsb ⊢
  have hF14:=hF13.after gb
  refine (I.grow gb).hear hL hl40 ⟨by omega,by omega⟩ hjlt (λz hz=>Nat.lt_of_lt_of_le (hXlt z hz) gb.size) hsb (λw15 hin g15=>⟨false,.nilIface,rfl,(λh=>by cases h),λ_=>⟨hF14.after g15,?_⟩⟩) λw15 f' v' sl hnew I15 hbl c15=>⟨true,.nilIface,rfl,(λ_=>⟨hF14.step c15 (λz hz e=>by cases hz) (offs I),?_⟩),λh=>by cases h⟩
  ·
   refine ⟨λw'=>∃f v old,FdI w3 (λz=>z=r∨aj_ q8 z) f0.b f0.h.bh m (1004+4*k) (1004+4*k) ((k:Int)+1) (1004+4*k) w' f v∧aB_ w' r old∧(∀n,(old n∨n=(j:Int))↔∃p∈v.bl,p.1=n)∧Sl w' q8 ((os++(List.range list.length).map UInt8.ofNat).map bv)∧(∀(i:Nat) (x:UInt8),i<k→(os++(List.range list.length).map UInt8.ofNat)[i]? = some x→∃p∈v.bl,p.1=((x.toNat%list.length:Nat):Int)),⟨λ_=>?_,(λx v h=>by cases h),.inl rfl⟩,?_⟩
   ·refine (Mk.grow (gb.trans g15)).look (m:=(j:Int)) ⟨by omega,by omega⟩ (λ_=>⟨true,rfl,(λ_=>⟨hF14.after g15,f,v,_,(I.grow gb).grow g15,Mk.grow (gb.trans g15),λn=>⟨λh=>h.elim id λe=>by rw [e];exact hin,.inl⟩,o.grow (gb.trans g15),kn⟩),λh=>by cases h⟩) λhn=>absurd hin hn
   ·rintro D3 w17 ⟨f,v,old,I,Mk,hold,o,kn⟩ hF17
    refine Mk.put (m:=(j:Int)) ⟨by omega,by omega⟩ λw18 Mk18 c18 s18=>?_
    have rn18:∀k,k<w.heap.size→k=r→S0 k:=λk hk e=>by subst e;omega
    have hF18:=hF17.step c18 (λz hz e=>by cases hz) rn18
    have I18:FdI w3 (λz=>z=r∨aj_ q8 z) f0.b f0.h.bh m (1004+4*k) (1004+4*k) ((k:Int)+1) (1004+4*k) w18 f v:=I.rH_ c18 λz hz=>⟨.inl hz,by have hz':z=r:=hz;omega⟩
    have Mk18':aB_ w18 r (λn=>∃p∈v.bl,p.1=n):=Mk18.cong hold
    have o18:Sl w18 q8 ((os++(List.range list.length).map UInt8.ofNat).map bv):=o.keep c18 λa ha e=>q7r a ha e
    refine ⟨hF18,λw19 hF19=>?_⟩
    have g19:Grow w18 w19:=hF19.grow
    have I19:=I18.grow g19
    have hF19':=hF19.reset
    refine ⟨λw'=>Grow w3 w',I19.gr,ad_.2 (ad_.2 (ad_.2 ⟨ql,list.length,cl,λw20 g=>cellL g,?_⟩))⟩
    have mk18:=Mk18'
    obtain ⟨tl,tm,_,tk⟩:=Mk18'
    have htl:tl.length=v.bl.length:=by
     have h1:=bb_ (tl.map (·.1)) (v.bl.map (·.1)) tm.nd λx hx=>by
      obtain ⟨p,hp,rfl⟩:=List.mem_map.1 hx
      obtain ⟨p2,hp2,e2⟩:=(tk p.1).1 ⟨p,hp,rfl⟩
      exact List.mem_map.2 ⟨p2,hp2,e2⟩
     have h2:=bb_ (v.bl.map (·.1)) (tl.map (·.1)) I.fl.nd λx hx=>by
      obtain ⟨p,hp,rfl⟩:=List.mem_map.1 hx
      obtain ⟨p2,hp2,e2⟩:=(tk p.1).2 ⟨p,hp,rfl⟩
      exact List.mem_map.2 ⟨p2,hp2,e2⟩
     simp only [List.length_map] at h1 h2
     omega
    have hwhole:=I.fl.whole I.ok hblk
    have hvm2:v.man.version=1:=by rw [I.fl.man,hone]
    have hbb:=I.b
    have hhh:=I.bh
    have next:∀ {w':World},Grow w18 w'→∃l28:Nat,l28<os.length+list.length - k∧(∃k2:Nat,IntKind.wrap .i64 ((k:Int)+1)=k2∧k2≤os.length+list.length∧l28=os.length+list.length - k2∧∃f v,FdI w3 (λz=>z=r∨aj_ q8 z) f0.b f0.h.bh m (1000+4*k2) (1000+4*k2) (k2:Int) (1000+4*k2) w' f v∧aB_ w' r (λn=>∃p∈v.bl,p.1=n)∧Sl w' q8 ((os++(List.range list.length).map UInt8.ofNat).map bv)∧∀(i:Nat) (x:UInt8),i<k2→(os++(List.range list.length).map UInt8.ofNat)[i]? = some x→∃p∈v.bl,p.1=((x.toNat%list.length:Nat):Int)):=λ{w'} g=>by
     refine ⟨os.length+list.length - (k+1),by omega,k+1,by rw [w64 (by omega) (by omega)];rfl,by omega,rfl,f,v,?_,mk18.grow g,o18.grow g,λi x hi hx=>?_⟩
     ·exact (I18.grow g).up (by omega) (by omega) (by omega) (by omega)
     ·by_cases e:i=k
      ·subst e
       rw [hx0] at hx
       cases hx
       obtain ⟨p,hp,e2⟩:=(hold (j:Int)).1 (.inr rfl)
       exact ⟨p,hp,by rw [e2,hje]⟩
      ·exact kn i x (by omega) hx
    rw [← hbb,← hhh]
    rw [← hbb,← hhh] at next
    have whole:∀ {w20:World} {Kx:Value→World→Prop},Grow w18 w20→(∀w',Grow w18 w'→Grow w20 w'→Kx (.bool (decide (v.bl.length=list.length))) w')→aa_ PR F.bJ_ ⟨[.pointer (some ⟨f.h.bh,0,none⟩),.int .i64 1]⟩ w20 Kx:=λ{w20 Kx} g hk=>by
     refine iM_ (I18.grow g).ok.at_.hat (n:=1) ⟨by decide,by decide⟩ (λw' g' u hu _=>?_) λw' g' hno=>absurd hvm2 (hno v I.ok.mem)
     have hu':u=v:=by rw [I.fl.one] at hu;simpa using hu
     subst hu'
     have e:decide ((u.bl.length:Int)=u.man.blocks)=decide (u.bl.length=list.length):=by
      rw [I.fl.man,hblk]
      exact decide_eq_decide.2 ⟨λe=>by omega,λe=>by omega⟩
     rw [e]
     exact hk w' (g.trans g') g'
    refine bc_ I19.ok.at_ (λw21 g21 hall=>⟨true,rfl,(λ_=>⟨hF19'.after g21,I19.gr.trans g21,?_⟩),λh=>by cases h⟩) λw21 i21 g21 hi=>⟨false,rfl,(λh=>by cases h),λ_=>⟨hF19'.after g21,I19.gr.trans g21,?_⟩⟩
    ·have hfull:=hwhole.2 hall
     refine eK_ hq_ (tm.grow (g19.trans g21)) ⟨_,rfl,hF19'.after g21,I19.gr.trans g21,λ_=>?_,λhne=>absurd (by rw [htl,hfull]) hne⟩
     refine bc_ (I19.grow g21).ok.at_ (λw23 g23 _=>⟨true,rfl,(λ_=>⟨(hF19'.after g21).after g23,(I19.gr.trans g21).trans g23,?_⟩),λh=>by cases h⟩) λw23 i23 g23 hi=>absurd hi (hall i23)
     have gg:=(g19.trans g21).trans g23
     refine whole gg λw24 g24 g24'=>?_
     rw [decide_eq_true hfull]
     exact ⟨true,rfl,(λ_=>⟨((hF19'.after g21).after g23).after g24',((I19.gr.trans g21).trans g23).trans g24',next g24⟩),λh=>by cases h⟩
    ·have hnf:¬v.bl.length=list.length:=λe=>hwhole.1 e i21 hi
     refine eK_ hq_ (tm.grow (g19.trans g21)) ⟨_,rfl,hF19'.after g21,I19.gr.trans g21,λe=>absurd (by omega) hnf,λ_=>?_⟩
     refine bc_ (I19.grow g21).ok.at_ (λw23 g23 hall=>absurd hi (hall i21)) λw23 i23 g23 hi3=>⟨false,rfl,(λh=>by cases h),λ_=>⟨(hF19'.after g21).after g23,(I19.gr.trans g21).trans g23,?_⟩⟩
     have gg:=(g19.trans g21).trans g23
     refine whole gg λw24 g24 g24'=>?_
     rw [decide_eq_false hnf]
     exact ⟨false,rfl,(λh=>by cases h),λ_=>⟨((hF19'.after g21).after g23).after g24',((I19.gr.trans g21).trans g23).trans g24',next g24⟩⟩
  ·
   refine ⟨λw'=>∃f v old,FdI w3 (λz=>z=r∨aj_ q8 z) f0.b f0.h.bh m (1004+4*k) (1004+4*k) ((k:Int)+1) (1004+4*k) w' f v∧aB_ w' r old∧(∀n,(old n∨n=(j:Int))↔∃p∈v.bl,p.1=n)∧Sl w' q8 ((os++(List.range list.length).map UInt8.ofNat).map bv)∧(∀(i:Nat) (x:UInt8),i<k→(os++(List.range list.length).map UInt8.ofNat)[i]? = some x→∃p∈v.bl,p.1=((x.toNat%list.length:Nat):Int)),⟨λ_=>?_,(λx v h=>by cases h),.inl rfl⟩,?_⟩
   ·refine ((Mk.grow gb).keep c15 λe=>(I.hi _ (h7_ _ e)).2 (.inl rfl)).look (m:=(j:Int)) ⟨by omega,by omega⟩ (λhin=>absurd hin λ⟨p,hp,e⟩=>hnew p hp e) λ_=>⟨false,rfl,(λh=>by cases h),λ_=>⟨hF14.step c15 (λz hz e=>by cases hz) (offs I),f',v',_,I15.up (by omega) (by omega) (by omega) (by omega),(Mk.grow gb).keep c15 (λe=>(I.hi _ (h7_ _ e)).2 (.inl rfl)),λn=>?_,(o.grow gb).keep c15 λa ha e=>(I.hi _ (h7_ _ e)).2 (.inr ⟨a,ha,rfl⟩),λi x hi hx=>?_⟩⟩
    ·rw [hbl]
     constructor
     ·rintro (⟨p,hp,e⟩ | e)
      ·exact ⟨p,List.mem_append_left _ hp,e⟩
      ·exact ⟨_,List.mem_append_right _ List.mem_cons_self,e.symm⟩
     ·rintro ⟨p,hp,e⟩
      rcases List.mem_append.1 hp with h | h
      ·exact .inl ⟨p,h,e⟩
      ·simp at h;subst h;exact .inr e.symm
    ·obtain ⟨p,hp,e⟩:=kn i x hi hx
     exact ⟨p,by rw [hbl];exact List.mem_append_left _ hp,e⟩
   ·rintro D3 w17 ⟨f,v,old,I,Mk,hold,o,kn⟩ hF17
    refine Mk.put (m:=(j:Int)) ⟨by omega,by omega⟩ λw18 Mk18 c18 s18=>?_
    have rn18:∀k,k<w.heap.size→k=r→S0 k:=λk hk e=>by subst e;omega
    have hF18:=hF17.step c18 (λz hz e=>by cases hz) rn18
    have I18:FdI w3 (λz=>z=r∨aj_ q8 z) f0.b f0.h.bh m (1004+4*k) (1004+4*k) ((k:Int)+1) (1004+4*k) w18 f v:=I.rH_ c18 λz hz=>⟨.inl hz,by have hz':z=r:=hz;omega⟩
    have Mk18':aB_ w18 r (λn=>∃p∈v.bl,p.1=n):=Mk18.cong hold
    have o18:Sl w18 q8 ((os++(List.range list.length).map UInt8.ofNat).map bv):=o.keep c18 λa ha e=>q7r a ha e
    refine ⟨hF18,λw19 hF19=>?_⟩
    have g19:Grow w18 w19:=hF19.grow
    have I19:=I18.grow g19
    have hF19':=hF19.reset
    refine ⟨λw'=>Grow w3 w',I19.gr,ad_.2 (ad_.2 (ad_.2 ⟨ql,list.length,cl,λw20 g=>cellL g,?_⟩))⟩
    have mk18:=Mk18'
    obtain ⟨tl,tm,_,tk⟩:=Mk18'
    have htl:tl.length=v.bl.length:=by
     have h1:=bb_ (tl.map (·.1)) (v.bl.map (·.1)) tm.nd λx hx=>by
      obtain ⟨p,hp,rfl⟩:=List.mem_map.1 hx
      obtain ⟨p2,hp2,e2⟩:=(tk p.1).1 ⟨p,hp,rfl⟩
      exact List.mem_map.2 ⟨p2,hp2,e2⟩
     have h2:=bb_ (v.bl.map (·.1)) (tl.map (·.1)) I.fl.nd λx hx=>by
      obtain ⟨p,hp,rfl⟩:=List.mem_map.1 hx
      obtain ⟨p2,hp2,e2⟩:=(tk p.1).2 ⟨p,hp,rfl⟩
      exact List.mem_map.2 ⟨p2,hp2,e2⟩
     simp only [List.length_map] at h1 h2
     omega
    have hwhole:=I.fl.whole I.ok hblk
    have hvm2:v.man.version=1:=by rw [I.fl.man,hone]
    have hbb:=I.b
    have hhh:=I.bh
    have next:∀ {w':World},Grow w18 w'→∃l28:Nat,l28<os.length+list.length - k∧(∃k2:Nat,IntKind.wrap .i64 ((k:Int)+1)=k2∧k2≤os.length+list.length∧l28=os.length+list.length - k2∧∃f v,FdI w3 (λz=>z=r∨aj_ q8 z) f0.b f0.h.bh m (1000+4*k2) (1000+4*k2) (k2:Int) (1000+4*k2) w' f v∧aB_ w' r (λn=>∃p∈v.bl,p.1=n)∧Sl w' q8 ((os++(List.range list.length).map UInt8.ofNat).map bv)∧∀(i:Nat) (x:UInt8),i<k2→(os++(List.range list.length).map UInt8.ofNat)[i]? = some x→∃p∈v.bl,p.1=((x.toNat%list.length:Nat):Int)):=λ{w'} g=>by
     refine ⟨os.length+list.length - (k+1),by omega,k+1,by rw [w64 (by omega) (by omega)];rfl,by omega,rfl,f,v,?_,mk18.grow g,o18.grow g,λi x hi hx=>?_⟩
     ·exact (I18.grow g).up (by omega) (by omega) (by omega) (by omega)
     ·by_cases e:i=k
      ·subst e
       rw [hx0] at hx
       cases hx
       obtain ⟨p,hp,e2⟩:=(hold (j:Int)).1 (.inr rfl)
       exact ⟨p,hp,by rw [e2,hje]⟩
      ·exact kn i x (by omega) hx
    rw [← hbb,← hhh]
    rw [← hbb,← hhh] at next
    have whole:∀ {w20:World} {Kx:Value→World→Prop},Grow w18 w20→(∀w',Grow w18 w'→Grow w20 w'→Kx (.bool (decide (v.bl.length=list.length))) w')→aa_ PR F.bJ_ ⟨[.pointer (some ⟨f.h.bh,0,none⟩),.int .i64 1]⟩ w20 Kx:=λ{w20 Kx} g hk=>by
     refine iM_ (I18.grow g).ok.at_.hat (n:=1) ⟨by decide,by decide⟩ (λw' g' u hu _=>?_) λw' g' hno=>absurd hvm2 (hno v I.ok.mem)
     have hu':u=v:=by rw [I.fl.one] at hu;simpa using hu
     subst hu'
     have e:decide ((u.bl.length:Int)=u.man.blocks)=decide (u.bl.length=list.length):=by
      rw [I.fl.man,hblk]
      exact decide_eq_decide.2 ⟨λe=>by omega,λe=>by omega⟩
     rw [e]
     exact hk w' (g.trans g') g'
    refine bc_ I19.ok.at_ (λw21 g21 hall=>⟨true,rfl,(λ_=>⟨hF19'.after g21,I19.gr.trans g21,?_⟩),λh=>by cases h⟩) λw21 i21 g21 hi=>⟨false,rfl,(λh=>by cases h),λ_=>⟨hF19'.after g21,I19.gr.trans g21,?_⟩⟩
    ·have hfull:=hwhole.2 hall
     refine eK_ hq_ (tm.grow (g19.trans g21)) ⟨_,rfl,hF19'.after g21,I19.gr.trans g21,λ_=>?_,λhne=>absurd (by rw [htl,hfull]) hne⟩
     refine bc_ (I19.grow g21).ok.at_ (λw23 g23 _=>⟨true,rfl,(λ_=>⟨(hF19'.after g21).after g23,(I19.gr.trans g21).trans g23,?_⟩),λh=>by cases h⟩) λw23 i23 g23 hi=>absurd hi (hall i23)
     have gg:=(g19.trans g21).trans g23
     refine whole gg λw24 g24 g24'=>?_
     rw [decide_eq_true hfull]
     exact ⟨true,rfl,(λ_=>⟨((hF19'.after g21).after g23).after g24',((I19.gr.trans g21).trans g23).trans g24',next g24⟩),λh=>by cases h⟩
    ·have hnf:¬v.bl.length=list.length:=λe=>hwhole.1 e i21 hi
     refine eK_ hq_ (tm.grow (g19.trans g21)) ⟨_,rfl,hF19'.after g21,I19.gr.trans g21,λe=>absurd (by omega) hnf,λ_=>?_⟩
     refine bc_ (I19.grow g21).ok.at_ (λw23 g23 hall=>absurd hi (hall i21)) λw23 i23 g23 hi3=>⟨false,rfl,(λh=>by cases h),λ_=>⟨(hF19'.after g21).after g23,(I19.gr.trans g21).trans g23,?_⟩⟩
     have gg:=(g19.trans g21).trans g23
     refine whole gg λw24 g24 g24'=>?_
     rw [decide_eq_false hnf]
     exact ⟨false,rfl,(λh=>by cases h),λ_=>⟨((hF19'.after g21).after g23).after g24',((I19.gr.trans g21).trans g23).trans g24',next g24⟩⟩
 ·have hke:k=os.length+list.length:=by omega
  have hbb:=I.b
  rw [← hbb]
  refine bc_ I.ok.at_ (λw44 g44 _=>⟨true,rfl,(λ_=>⟨hF10.after g44,hK w44 (hF10.after g44).gr⟩),λh=>by cases h⟩) λw44 i44 g44 hi=>?_
  have h1:=bg_.1 ((I.ok.miss i44).1 hi)
  rw [I.fl.man,hblk] at h1
  obtain ⟨n,rfl⟩:=Int.eq_ofNat_of_zero_le h1.1.1
  have hn:n<list.length:=by omega
  obtain ⟨p,hp,e⟩:=kn (os.length+n) (UInt8.ofNat n) (by omega) (by
   rw [List.getElem?_append_right (by omega),List.getElem?_map]
   simp [hn])
  have e2:(UInt8.ofNat n).toNat%list.length=n:=by
   rw [UInt8.toNat_ofNat',Nat.mod_eq_of_lt (a:=n) (b:=2 ^ 8) (by omega),Nat.mod_eq_of_lt hn]
  rw [e2] at e
  exact absurd e (h1.2 p hp)
end Go.Vc
