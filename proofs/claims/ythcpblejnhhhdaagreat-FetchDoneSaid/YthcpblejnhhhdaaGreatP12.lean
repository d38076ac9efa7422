/-
  A part of the proof of the statement FetchDoneSaid, in Lean: Fe3, MirF4, Po1, Bg1, Bg2, Fo1, Fd0, Aw20, MirF10, Fd1, RoFD. By an AI agent.
-/
import Derived.Test.YthcpblejnhhhdaaGreatP11
import Derived.Test.YthcpblejnhhhdaaGreatP02
import Derived.Test.YthcpblejnhhhdaaGreatP06
import Derived.Test.YthcpblejnhhhdaaGreatP10
import Derived.Test.YthcpblejnhhhdaaGreatP08
import Derived.Test.YthcpblejnhhhdaaGreatP07
import Derived.Test.YthcpblejnhhhdaaGreatRows
import Derived.MakeChecks
import Derived.Deep.DeepHandedRow
import Derived.Deep.DeepWitnessRowRef
set_option linter.unusedSimpArgs false
set_option linter.unusedVariables false
set_option maxRecDepth 1000000
namespace Go.Vc
open Go Go.MapKept
def askC (ver:Int) (o:Int × Int):List Value:=[.int .i64 o.1,.int .i64 2,.int .i64 ver,.int .i64 o.2,.string ⟨#[]⟩,.slice none 0 0]
theorem fg_ (ver:Int) (o:Int × Int):(askC ver o).length=6:=rfl
theorem ny_:PR.underlying T.cx_=some (.slice T.bw_):=by kernel_rfl
theorem pt_:∃i z,PR.info? T.bw_=some i∧i.size=6∧i.bytes=72∧i.zero=some z∧z.cells.size=6:=by
 have h:(match PR.info? T.bw_ with | some i=>i.size == 6 && i.bytes == 72 && (match i.zero with | some z=>z.cells.size == 6 | _=>false) | none=>false)=true:=by kernel_rfl
 split at h
 ·rename_i i hi
  simp only [Bool.and_eq_true,beq_iff_eq] at h
  have h2:=h.2
  split at h2
  ·rename_i z hz
   exact ⟨i,z,hi,h.1.1,h.1.2,hz,by simpa using h2⟩
  ·cases h2
 ·cases h
theorem rj_ {ver:Int} {w:World} {q q2:Option Addr} {l c l2 c2:Nat} {xs ys:List (Int × Int)} {K:Value→World→Prop}
  (ho:Own T.bw_ 6 w q c (xs.flatMap (askC ver))) (hl:l=xs.length) (hlc:l≤c) (hs:Sl w q2 (ys.flatMap (askC ver))) (hl2:l2=ys.length) (hroom:l+l2≤1000000)
  (hK:∀q' c' w',Own T.bw_ 6 w' q' c' ((xs++ys).flatMap (askC ver))→l+l2≤c'→Chg (ak_ q) w w'→(∀a,q'=some a→q=some a∨a=⟨w.heap.size,0,none⟩)→K (.slice q' (l+l2) c') w') :
  rn PR (Builtin.append_ #[T.cx_,T.cx_] T.cx_ #[.slice q l c,.slice q2 l2 c2]) K w:=by
 obtain ⟨i,z,hi,hk,hb,hz,hzs⟩:=pt_
 refine cL_ <| fm_ (i:=i) (k:=6) (by_:=72) ny_ ny_ hi hz hk hb hzs (by decide) ho (by rw [bM_ (fg_ ver),hl]) hlc hs (by rw [bM_ (fg_ ver),hl2]) (λy hy=>?_) (by omega) λq' c' w' h=>hK q' c' w' (by rw [List.flatMap_append];exact h)
 obtain ⟨m,_,hm⟩:=List.mem_flatMap.1 hy
 simp [askC] at hm
 rcases hm with rfl | rfl | rfl | rfl | rfl | rfl <;> rfl
def bA_ (l:List (Int × Int)) (i:Int):Int:=match l.find? (λp=>p.1 == i) with
 | some p=>p.2
 | none=>0
def trUp (l:List (Int × Int)) (i:Int):List (Int × Int):=if (l.any λp=>p.1 == i) then l.map (λp=>if p.1=i then (i,p.2+1) else p) else l++[(i,1)]
theorem j2_ {l:List (Int × Int)} (hn:(l.map (·.1)).Nodup) {i t:Int} (h:(i,t)∈l):bA_ l i=t:=by
 unfold bA_
 cases hf:l.find? (λp=>p.1 == i) with
 | none=>exact absurd (List.find?_eq_none.1 hf _ h) (by simp)
 | some p=>
  have h1:=List.mem_of_find?_eq_some hf
  have h2:p.1=i:=by simpa using List.find?_some hf
  obtain ⟨a,ha⟩:=List.getElem?_of_mem h1
  obtain ⟨b,hb⟩:=List.getElem?_of_mem h
  have:a=b:=cl_ hn (a:=i) (by rw [List.getElem?_map,ha];simp [h2]) (by rw [List.getElem?_map,hb];rfl)
  subst this
  rw [ha] at hb
  have:=Option.some.inj hb
  subst this;rfl
theorem ik_ {l:List (Int × Int)} {i:Int} (h:∀p∈l,p.1≠i):bA_ l i=0:=by
 unfold bA_
 rw [List.find?_eq_none.2 λp hp=>by simpa using h p hp]
theorem qP_ {l:List (Int × Int)} (hn:(l.map (·.1)).Nodup) {i:Int} : putI (aI l) i (.int .i64 (bA_ l i+1))=aI (trUp l i):=by
 have ha:((aI l).any λp=>p.1 == i)=l.any λp=>p.1 == i:=by
  unfold aI;rw [List.any_map];rfl
 unfold putI trUp
 rw [ha]
 split
 ·unfold aI
  rw [List.map_map,List.map_map]
  refine List.map_congr_left λp hp=>?_
  show (if p.1=i then (i,Value.int .i64 (bA_ l i+1)) else (p.1,Value.int .i64 p.2))=((if p.1=i then (i,p.2+1) else p).1,Value.int .i64 (if p.1=i then (i,p.2+1) else p).2)
  split
  ·rename_i e
   have:=j2_ hn (i:=i) (t:=p.2) (by rw [← e];exact hp)
   rw [this]
  ·rfl
 ·rename_i h
  rw [ik_ λp hp e=>h (by simp only [List.any_eq_true,beq_iff_eq];exact ⟨p,hp,e⟩)]
  simp [aI]
theorem pT_ {l:List (Int × Int)} {i:Int} {p:Int × Int} (h:p∈trUp l i):(p∈l∧p.1≠i)∨(∃t,(i,t)∈l∧p=(i,t+1))∨p=(i,1):=by
 unfold trUp at h
 split at h
 ·obtain ⟨x,hx,rfl⟩:=List.mem_map.1 h
  split
  ·rename_i e
   exact .inr (.inl ⟨x.2,by rw [← e];exact hx,rfl⟩)
  ·rename_i e;exact .inl ⟨hx,e⟩
 ·rename_i hn
  rcases List.mem_append.1 h with h | h
  ·exact .inl ⟨h,λe=>hn (by simp only [List.any_eq_true,beq_iff_eq];exact ⟨p,h,e⟩)⟩
  ·simp at h;exact .inr (.inr h)
theorem sf_ {w:World} {r:Nat} {l:List (Int × Int)} (h:MapI w r (aI l)):(l.map (·.1)).Nodup:=by
 have:=h.nd
 unfold aI at this
 rw [List.map_map] at this
 exact this
theorem k8_ {l:List (Int × Int)} {i j:Int} (hne:j≠i):bA_ (trUp l i) j=bA_ l j:=by
 unfold trUp
 split
 ·unfold bA_
  induction l with
  | nil=>rfl
  | cons p l ih=>
   by_cases e:p.1=i
   ·have e1:(if p.1=i then (i,p.2+1) else p)=(i,p.2+1):=if_pos e
    rw [List.map_cons,e1,List.find?_cons,List.find?_cons]
    have h1:(((i,p.2+1):Int × Int).1 == j)=false:=by simpa using λ(h:i=j)=>hne h.symm
    have h2:(p.1 == j)=false:=by simpa [e] using λ(h:i=j)=>hne h.symm
    rw [h1,h2]
    by_cases hany:(l.any λp=>p.1 == i)=true
    ·exact ih hany
    ·have:l.map (λp=>if p.1=i then (i,p.2+1) else p)=l:=by
      have h3:∀x∈l,x.1≠i:=λx hx e=>hany (by simp only [List.any_eq_true,beq_iff_eq];exact ⟨x,hx,e⟩)
      conv=>rhs;rw [← List.map_id l]
      exact List.map_congr_left λx hx=>if_neg (h3 x hx)
     rw [this]
   ·have e1:(if p.1=i then (i,p.2+1) else p)=p:=if_neg e
    rw [List.map_cons,e1,List.find?_cons,List.find?_cons]
    by_cases hj:(p.1 == j)=true
    ·rw [hj]
    ·have hj':(p.1 == j)=false:=by simpa using hj
     rw [hj']
     have hany:(l.any λp=>p.1 == i)=true:=by
      rename_i hh
      rw [List.any_cons] at hh
      have:(p.1 == i)=false:=by simpa using e
      rw [this] at hh;simpa using hh
     exact ih hany
 ·unfold bA_
  rw [List.find?_append]
  cases hf:l.find? (λp=>p.1 == j) with
  | some p=>rfl
  | none=>
   have:[((i,1):Int × Int)].find? (λp=>p.1 == j)=none:=by
    rw [List.find?_eq_none];intro x hx;simp at hx;subst hx;simpa using λ(h:i=j)=>hne h.symm
   rw [this];rfl
theorem kp_ (v:HV):(bj_ v).Pairwise (· < ·):=by
 unfold bj_ e__
 refine List.Pairwise.filter _ ?_
 rw [List.pairwise_map]
 exact List.pairwise_lt_range.imp λh=>by omega
def hU_ (v:HV) (askd:List (Int × Int)):List Int:=(bj_ v).filter λi=>decide (∀p∈askd,p.1≠i)
theorem gd_ (v:HV) (askd:List (Int × Int)):(hU_ v askd).Pairwise (· < ·):=(kp_ v).filter _
theorem c1_ {v:HV} {askd:List (Int × Int)} {i:Int} : i∈hU_ v askd↔i∈bj_ v∧∀p∈askd,p.1≠i:=by
 unfold hU_;rw [List.mem_filter,decide_eq_true_iff]
def ds_ (f:FS) (now:Int):List (Int × Int):=f.wt.askd.filter λp=>decide (now<p.2)
def goL (f:FS) (v:HV) (now:Int) (n:Nat):List Int:=if n=0 then [] else (hU_ v (ds_ f now)).take (f.wt.win - (ds_ f now).length).toNat
def FS.tick (f:FS) (v:HV) (now:Int) (n:Nat):FS:={ f with wt:={ f.wt with askd:=ds_ f now++(goL f v now n).map λi=>(i,now+f.wt.tmo) },trs:=(goL f v now n).foldl trUp f.trs }
def toV (f:FS) (ps:List Int) (i:Int):Int:=ps.getD ((i+bA_ f.trs i)%(ps.length:Int)).toNat 0
theorem pv_ {l:List (Int × Int)} {i M:Int} (h:∀p∈l,0≤p.2∧p.2≤M) (hM:1≤M):∀p∈trUp l i,0≤p.2∧p.2≤M+1:=λp hp=>by
 rcases pT_ hp with ⟨h1,_⟩ | ⟨t,h1,rfl⟩ | rfl
 ·have:=h p h1;omega
 ·have:=h _ h1;simp only [] at this ⊢;omega
 ·simp only [];omega
theorem mY_ {l:List Int} {k:Nat} (hk:k<l.length) (t:List (Int × Int)):(l.take (k+1)).foldl trUp t=trUp ((l.take k).foldl trUp t) l[k]:=by
 rw [aA_ hk,List.foldl_append];rfl
theorem k9_ {l:List Int} {j:Int} (h:j∉l) (t:List (Int × Int)):bA_ (l.foldl trUp t) j=bA_ t j:=by
 induction l generalizing t with
 | nil=>rfl
 | cons a l ih=>
  rw [List.foldl_cons,ih (λh'=>h (List.mem_cons_of_mem _ h')),k8_ λe=>h (by rw [e];exact List.mem_cons_self)]
theorem p9_ {l:List Int} {M:Int} (hM:1≤M) {t:List (Int × Int)} (h:∀p∈t,0≤p.2∧p.2≤M):∀p∈l.foldl trUp t,0≤p.2∧p.2≤M+l.length:=by
 induction l generalizing t M with
 | nil=>simpa using h
 | cons a l ih=>
  intro p hp
  have:=ih (M:=M+1) (by omega) (pv_ h hM) p hp
  simp only [List.length_cons];omega
theorem pu_ {l:List (Int × Int)} {M:Int} (hM:0≤M) (h:∀p∈l,0≤p.2∧p.2≤M) (i:Int):0≤bA_ l i∧bA_ l i≤M:=by
 unfold bA_
 cases hf:l.find? (λp=>p.1 == i) with
 | none=>simp only [];omega
 | some p=>exact h p (List.mem_of_find?_eq_some hf)
theorem Sl.q4_ {S:Nat→Prop} {w w':World} {q:Option Addr} {ps:List Int} (h:Sl w q (ps.map iv)) (c:Chg S w w') (hn:ps≠[]→∀a,q=some a→¬S a.block):Sl w' q (ps.map iv):=by
 by_cases e:ps=[]
 ·subst e;exact .inl rfl
 ·exact h.keep c (hn e)
theorem lY_ {w:World} {f:FS} {v:HV} (H:aY_ w f v) {now:Int} (hn:0≤now∧now≤1000000000) (htr:∀p∈f.trs,0≤p.2∧p.2≤1000000) {ps:List Int} (hpl:ps.length≤1000000) {y:Option Addr} {cy:Nat} (hs:Sl w y (ps.map iv)) (hyo:ps≠[]→∀a,y=some a→a.block≠f.wt.ak∧a.block≠f.tr) {K:Value→World→Prop}
  (hK:∀w' q c,aY_ w' (f.tick v now ps.length) v→Own T.bw_ 6 w' q c (((goL f v now ps.length).map λi=>(toV f ps i,i)).flatMap (askC f.ver))→Chg (feS f) w w'→(∀a,q=some a→w.heap.size≤a.block)→Sl w' y (ps.map iv)→K (.slice q (goL f v now ps.length).length c) w') :
  aa_ PR F.bu_ ⟨[.pointer (some ⟨f.b,0,none⟩),.int .i64 now,.slice y ps.length cy]⟩ w K:=by
 have H0:=H.at_
 have hF0:=H0.fs
 have hlt:=H0.lt
 have hwin:=H0.wat.win
 have htmo:=H0.wat.tmo
 refine gv_ f.b (some ⟨f.wt.b,0,none⟩) (some ⟨f.h.bh,0,none⟩) f.ver (some f.tr) now y ps.length cy (feS f) K w hF0 ⟨.inl rfl,trivial⟩ ?_
 refine mz_ H0.wat hn λw0 q0 l0 c0 W0 c00=>⟨_,_,_,rfl,?_⟩
 have akS:∀k,k=f.wt.ak→wS f.wt k:=λk e=>.inr (.inr e)
 have hF1:=hF0.step c00 (λz hz e=>by simp at hz;subst hz;exact H0.dbw (akS _ e)) λk _ e=>.inr (.inl (akS _ e))
 have A0:WAt w0 { f.wt with miss:=f.wt.miss,askd:=ds_ f now }:=W0
 have HA:=H0.setW (c00.mono λk _ e=>akS _ e) A0
 generalize hst:ds_ f now=A at A0 HA
 let C:List Int:=hU_ v A
 have hCl:C.length≤2048:=by
  have h1:=List.length_filter_le (λi=>decide (∀p∈A,p.1≠i)) (bj_ v)
  have h2:=jj_ v v.man.blocks.toNat
  have h3:=(H0.hat.vs v H.mem).ok.blocks.2
  show (hU_ v A).length≤2048
  unfold hU_
  unfold bj_ at h1 ⊢
  omega
 have hCs:C.Pairwise (· < ·):=gd_ v A
 let Ak (k:Nat):List (Int × Int):=A++(C.take k).map λi=>(i,now+f.wt.tmo)
 let fk (k:Nat):FS:={ f with wt:={ f.wt with askd:=Ak k },trs:=(C.take k).foldl trUp f.trs }
 let outs (k:Nat):List (Int × Int):=(C.take k).map λi=>(toV f ps i,i)
 let B:=(f.wt.win - A.length).toNat
 have hs0:Sl w0 y (ps.map iv):=hs.q4_ c00 λhne a ha e=>(hyo hne a ha).1 e
 have e0:Ak 0=A:=by simp [Ak]
 have sz0:=c00.size
 have wlt:=H0.wat.lt
 have tlt:=H0.tm.lt
 have hmiss:∀i,f.wt.miss i↔i∈bj_ v:=H.miss
 have hbd:∀i∈C,0≤i∧i<4096:=λi hi=>H0.wat.sm i ((hmiss i).2 (c1_.1 hi).1)
 refine ⟨hF1,λq l c lv w'=>∃k:Nat,k≤C.length∧k≤B∧lv=C.length - k∧aL_ w' (fk k)∧Own T.bw_ 6 w' q c ((outs k).flatMap (askC f.ver))∧l=(outs k).length∧l≤c∧Off (λx=>x<w.heap.size) q∧Chg (feS f) w w'∧Sl w' y (ps.map iv)∧(ps.length=0→k=0),⟨_,0,by omega,by omega,rfl,?_,.nil _ _ _,rfl,Nat.le_refl _,.none _,c00.mono λk _ e=>.inr (.inl (akS _ e)),hs0,λ_=>rfl⟩,?_⟩
 ·show aL_ w0 { f with wt:={ f.wt with askd:=Ak 0 },trs:=f.trs }
  rw [e0];exact HA
 rintro q l c D lv w1 ⟨k,hkC,hkB,rfl,H1,ho,rfl,hlc,hof,c1,hs1,hz⟩ hF2
 have s1:=c1.size
 have hol:(outs k).length=k:=by simp [outs,Nat.min_eq_left hkC]
 have fin:(C.take k=goL f v now ps.length)→K (.slice q (outs k).length c) w1:=λhg=>by
  have e1:fk k=f.tick v now ps.length:=by
   show ({ f with wt:={ f.wt with askd:=A++(C.take k).map λi=>(i,now+f.wt.tmo) },trs:=(C.take k).foldl trUp f.trs } : FS)=_
   rw [hg,← hst];rfl
  have e2:outs k=(goL f v now ps.length).map λi=>(toV f ps i,i):=by
   show (C.take k).map _=_
   rw [hg]
  have:=hK w1 q c ⟨by rw [← e1];exact H1,H.mem,H.ver,H.miss⟩ (by rw [← e2];exact ho) c1 (λa ha=>Nat.le_of_not_lt (hof a ha)) hs1
  rw [e2,List.length_map];exact this
 have hAl:(Ak k).length=A.length+k:=by simp [Ak,Nat.min_eq_left hkC]
 refine ⟨λhpos=>?_,λhnp=>?_⟩
 ·have hn0:ps.length≠0:=by omega
  refine mA_ H1.wat hn (λw2 g2 hend=>⟨_,false,rfl,(λh=>by cases h),λ_=>⟨hF2.after g2,?_⟩⟩) λw2 i hwl hmi hna hmin W2 c2=>⟨_,true,rfl,(λ_=>⟨hF2.step c2 (λz hz e=>by simp at hz;subst hz;exact H0.dbw (akS _ e)) (λj _ e=>.inr (.inl (akS _ e))),?_⟩),λh=>by cases h⟩
  ·have hg:C.take k=goL f v now ps.length:=by
    unfold goL
    rw [if_neg hn0,hst]
    show C.take k=C.take B
    rcases hend with h | h
    ·have h':(((Ak k).length:Nat):Int)≥f.wt.win:=h
     rw [hAl] at h'
     have:k=B:=by show k=(f.wt.win - A.length).toNat;omega
     rw [this]
    ·have hall:k=C.length:=by
      rcases Nat.lt_or_ge k C.length with hlt | hge
      ·exfalso
       have hin:=c1_.1 (List.getElem_mem hlt:C[k]∈C)
       obtain ⟨p,hp,ep⟩:=h C[k] ((hmiss _).2 hin.1)
       rcases List.mem_append.1 hp with hp | hp
       ·exact hin.2 p hp ep
       ·obtain ⟨j,hj,rfl⟩:=List.mem_map.1 hp
        exact bF_ hCs hlt (by have e:j=C[k]:=ep;rw [← e];exact hj)
      ·omega
     rw [hall,List.take_of_length_le (Nat.le_refl _),List.take_of_length_le (by omega)]
   have:=hK w2 q c
   have H2:=H1.grow g2
   have e1:fk k=f.tick v now ps.length:=by
    show ({ f with wt:={ f.wt with askd:=A++(C.take k).map λi=>(i,now+f.wt.tmo) },trs:=(C.take k).foldl trUp f.trs } : FS)=_
    rw [hg,← hst];rfl
   have e2:outs k=(goL f v now ps.length).map λi=>(toV f ps i,i):=by
    show (C.take k).map _=_
    rw [hg]
   have:=hK w2 q c ⟨by rw [← e1];exact H2,H.mem,H.ver,H.miss⟩ (by rw [← e2];exact ho.grow g2) (c1.grow g2) (λa ha=>Nat.le_of_not_lt (hof a ha)) (hs1.grow g2)
   rw [e2,List.length_map];exact this
  ·
   have hiC:i∈C:=c1_.2 ⟨(hmiss i).1 hmi,λp hp=>hna p (List.mem_append_left _ hp)⟩
   have hnt:i∉C.take k:=λhm=>hna (i,now+f.wt.tmo) (List.mem_append_right _ (List.mem_map.2 ⟨i,hm,rfl⟩)) rfl
   have hkl:k<C.length:=by
    rcases Nat.lt_or_ge k C.length with h | h
    ·exact h
    ·rw [List.take_of_length_le h] at hnt;exact absurd hiC hnt
   have hik:i=C[k]:=by
    obtain ⟨m,hm,rfl⟩:=List.getElem_of_mem hiC
    rcases Nat.lt_trichotomy m k with h | h | h
    ·exact absurd (List.mem_take_iff_getElem.2 ⟨m,by omega,rfl⟩) hnt
    ·subst h;rfl
    ·exfalso
     have hlt:=List.pairwise_iff_getElem.1 hCs k m hkl hm h
     have hin:=c1_.1 (List.getElem_mem hkl:C[k]∈C)
     obtain ⟨p,hp,ep⟩:=hmin C[k] ((hmiss _).2 hin.1) hlt
     rcases List.mem_append.1 hp with hp | hp
     ·exact hin.2 p hp ep
     ·obtain ⟨j,hj,rfl⟩:=List.mem_map.1 hp
      exact bF_ hCs hkl (by have e:j=C[k]:=ep;rw [← e];exact hj)
   have hkB2:k+1≤B:=by
    have h':(((Ak k).length:Nat):Int)<f.wt.win:=hwl
    rw [hAl] at h'
    show k+1≤(f.wt.win - A.length).toNat
    omega
   have hib:=hbd i hiC
   have hfit:bc_ i:=⟨by omega,by omega⟩
   have eA:Ak k++[(i,now+f.wt.tmo)]=Ak (k+1):=by
    show (A++_)++_=A++_
    rw [aA_ hkl,List.map_append,List.append_assoc,hik];rfl
   have c2':Chg (wS f.wt) w1 w2:=c2.mono λj _ e=>akS _ e
   have H2:aL_ w2 { fk k with wt:={ f.wt with askd:=Ak (k+1) } }:=by
    have W2':WAt w2 { (fk k).wt with miss:=f.wt.miss,askd:=Ak (k+1) }:=by rw [← eA];exact W2
    exact H1.setW c2' W2'
   have hF3:=hF2.step c2 (λz hz e=>by simp at hz;subst hz;exact H0.dbw (akS _ e)) (λj _ e=>.inr (.inl (akS _ e)))
   have tm2:MapI w2 f.tr (aI ((C.take k).foldl trUp f.trs)):=H2.tm
   have tnd:=sf_ tm2
   have hto:bA_ ((C.take k).foldl trUp f.trs) i=bA_ f.trs i:=k9_ hnt _
   have hbt:=pu_ (M:=1000000) (by omega) htr i
   have look:∀ {w':World} {K':Value→World→Prop},MapI w' f.tr (aI ((C.take k).foldl trUp f.trs))→K' (.int .i64 (bA_ f.trs i)) w'→rn PR (Instr.lookup T.eG_ (.map (some f.tr)) (.int .i64 i) false) K' w':=λ{w' K'} hm hk=>by
    refine aR_ ef_ hm hfit false eU_ (λx hx=>?_) λhno=>?_
    ·obtain ⟨p,hp,e⟩:=List.mem_map.1 hx
     have e1:p.1=i:=congrArg Prod.fst e
     have e2:x=.int .i64 p.2:=(congrArg Prod.snd e).symm
     subst e2
     have:=j2_ tnd (i:=i) (t:=p.2) (by rw [← e1];exact hp)
     rw [hto] at this
     rw [this] at hk;exact hk
    ·have:=ik_ (l:=(C.take k).foldl trUp f.trs) (i:=i) λp hp e=>hno _ (List.mem_map.2 ⟨p,hp,rfl⟩) e
     rw [hto] at this
     rw [this] at hk;exact hk
   refine look tm2 ⟨_,rfl,hF3,by omega,?_⟩
   have hs2:Sl w2 y (ps.map iv):=hs1.q4_ c2 λhne a ha e=>(hyo hne a ha).1 e
   have em:Int.tmod (IntKind.wrap .i64 (i+bA_ f.trs i)) (ps.length:Int)=(((i+bA_ f.trs i)%(ps.length:Int)).toNat:Int):=by
    rw [w64 (by omega) (by omega),Int.tmod_eq_emod_of_nonneg (by omega)]
    have:=Int.emod_nonneg (i+bA_ f.trs i) (b:=(ps.length:Int)) (by omega)
    omega
   have hm1:((i+bA_ f.trs i)%(ps.length:Int)).toNat<ps.length:=by
    have h1:=Int.emod_nonneg (i+bA_ f.trs i) (b:=(ps.length:Int)) (by omega)
    have h2:=Int.emod_lt_of_pos (i+bA_ f.trs i) (b:=(ps.length:Int)) (by omega)
    omega
   rw [em]
   refine hs2.rd (v:=iv (toV f ps i)) (by simp) (by omega) ?_ λa ha=>⟨_,ha,?_⟩
   ·rw [Int.toNat_natCast]
    unfold toV
    exact gs_ hm1
   refine look tm2 ⟨_,rfl,hF3,?_⟩
   rw [w64 (by omega) (by omega)]
   refine cT_ ef_ tm2 hfit λw5 tm5 c5 s5=>?_
   have eT:putI (aI ((C.take k).foldl trUp f.trs)) i (.int .i64 (bA_ f.trs i+1))=aI ((C.take (k+1)).foldl trUp f.trs):=by
    rw [mY_ hkl,← hik,← hto]
    exact qP_ tnd
   rw [eT] at tm5
   have hF5:=hF3.step c5 (λz hz e=>by simp at hz;subst hz;exact H0.bt e) (λj _ e=>.inr (.inr (.inr e)))
   have H5:aL_ w5 (fk (k+1)):=⟨c5.get H2.blk (λe=>H0.bt e),H2.wat.keep c5 λj hj e=>H0.dtw (by have e':j=f.tr:=e;rw [← e'];exact hj),H2.hat.keep c5 λj hj e=>H0.dth (by have e':j=f.tr:=e;rw [← e'];exact hj),tm5,H0.dwh,H0.dth,H0.dtw,H0.dbh,H0.dbw⟩
   refine ⟨hF5,λl6 hl6 w6 hF6=>?_⟩
   have g6:Grow w5 w6:=hF6.grow
   have offq:∀a,q=some a→w.heap.size≤a.block:=λa ha=>Nat.le_of_not_lt (hof a ha)
   have akl:=wlt f.wt.ak (.inr (.inr rfl))
   have ho5:Own T.bw_ 6 w5 q c ((outs k).flatMap (askC f.ver)):=(ho.keep c2 λa ha e=>by have:=offq a ha;have e':a.block=f.wt.ak:=e;omega).keep c5 λa ha e=>by have:=offq a ha;have e':a.block=f.tr:=e;omega
   have ho6:=ho5.grow g6
   have hs5:Sl w5 y (ps.map iv):=hs2.q4_ c5 λhne a ha e=>(hyo hne a ha).2 e
   have s2:=c2.size
   have s6:=g6.size
   have hol6:(outs k).length≤2048:=by rw [hol];omega
   refine rj_ ho6 rfl hlc (ys:=[(toV f ps i,i)]) (hF6.sl 1 rfl) rfl (by simp only [List.length_singleton] at *;omega) λq7 c7 w7 ho7 hc7 g7 hq7=>?_
   have bl:=hlt f.b (.inl rfl)
   have hF7:=hF6.step g7 (λz hz ⟨a,ha,e⟩=>by
    have h1:=offq a ha
    have h2:=ho5.lt a ha
    simp only [List.mem_cons,List.not_mem_nil,or_false] at hz
    rcases hz with rfl | rfl <;> (simp only [] at e;omega)) λj hj ⟨a,ha,e⟩=>by have h1:=offq a ha;omega
   have eo:outs k++[(toV f ps i,i)]=outs (k+1):=by
    show (C.take k).map _++_=(C.take (k+1)).map _
    rw [aA_ hkl,List.map_append,hik];rfl
   have c17:Chg (feS f) w w7:=(((c1.trans c2 λj _ e=>.inr (.inl (akS _ e))).trans c5 λj _ e=>.inr (.inr (.inr e))).grow g6).trans g7 λj hj ⟨a,ha,e⟩=>by have h1:=offq a ha;omega
   have low:∀j,feA (fk (k+1)) j→j<w.heap.size:=λj hj=>hlt j hj
   rw [eo] at ho7
   have el:(outs (k+1)).length=(outs k).length+1:=by rw [← eo,List.length_append];rfl
   refine ⟨_,_,_,rfl,hF7,C.length - (k+1),by omega,k+1,by omega,hkB2,rfl,(H5.grow g6).keep g7 (λj hj ⟨a,ha,e⟩=>by have h1:=offq a ha;have h2:=low j hj;omega),ho7,by rw [el],hc7,λa ha hlt'=>?_,c17,(hs5.grow g6).keep g7 (λa ha ⟨a2,ha2,e⟩=>?_),λh=>absurd h hn0⟩
   ·rcases hq7 a ha with h | h
    ·exact hof a h hlt'
    ·subst h
     have h':w6.heap.size<w.heap.size:=hlt'
     omega
   ·have h1:=offq a2 ha2
    rcases hs with h | ⟨b0,o0,e0',cs,T0,fz,hh,_⟩
    ·have hp0:ps=[]:=by simpa using h
     rw [hp0] at hn0;exact hn0 rfl
    ·rw [e0'] at ha;cases ha
     have:=aj_ hh
     simp only [] at e;omega
 ·have hz0:=hz (by omega)
  subst hz0
  refine fin ?_
  unfold goL
  rw [if_pos (by omega)];rfl
theorem f3_ {w:World} {f:FS} {v:HV} (H:aY_ w f v) {now:Int} (hn:0≤now∧now≤1000000000) (htr:∀p∈f.trs,0≤p.2∧p.2≤1000000) {ps:List Int} (hpl:ps.length≤1000000) {y:Option Addr} {cy:Nat} (hs:Sl w y (ps.map iv)) (hyo:∀a,y=some a→a.block≠f.wt.ak∧a.block≠f.tr) {K:Value→World→Prop}
  (hK:∀w' q c,aY_ w' (f.tick v now ps.length) v→Own T.bw_ 6 w' q c (((goL f v now ps.length).map λi=>(toV f ps i,i)).flatMap (askC f.ver))→Chg (feS f) w w'→(∀a,q=some a→w.heap.size≤a.block)→Sl w' y (ps.map iv)→K (.slice q (goL f v now ps.length).length c) w') :
  aa_ PR F.bu_ ⟨[.pointer (some ⟨f.b,0,none⟩),.int .i64 now,.slice y ps.length cy]⟩ w K:=lY_ H hn htr hpl hs (λ_=>hyo) hK
end Go.Vc
namespace Go.Vc
open Go
theorem b4_ (y0:Option Addr) (ly0:Nat) (cy0:Nat) (S:SP) (K:KP) (w:World) (h:((ly0:Int)>6→K (.slice none 0 0) w)∧(¬((ly0:Int)>6)→∃I0:(Option Addr)→Nat→Nat→Int→Nat→World→Prop,(∃l0,I0 none 0 0 0 l0 w)∧∀q0 l1 l2 n0,∀D0:Nat→Value,∀l3 w0,I0 q0 l1 l2 n0 l3 w0→Fs S w [] w0→(n0<(ly0:Int)→Dr y0 λa0=>(0:Int)≤n0∧n0<(ly0:Int)∧Dr (some (Addr.add a0 (Int.toNat n0*1))) λa1=>∃q1 l4 l5,World.cell? w0 a1=some (.slice q1 l4 l5)∧((l4:Int)>60→K (.slice none 0 0) w0)∧(¬((l4:Int)>60)→aa_ PR 13 #[Iv (IntKind.wrap .i64 (n0+1)),Iv 40,Iv 10,.slice q1 l4 l5] w0 λv0 w1=>∃q2 v1,v0=.tuple #[.pointer q2,v1]∧Fs S w [] w1∧(v1=.nilIface→(q2=none→K (.slice none 0 0) w1)∧∀a2:Addr,q2=some a2→∀l6,w1.heap.size≤l6→∀w2,Fr S w w1 [] [⟨l6,#[.pointer q2],28,true⟩] w2→rn PR (Builtin.append_ #[25,25] 25 #[.slice q0 l1 l2,.slice (some (⟨l6,0,none⟩)) 1 1]) (λv2 w3=>∃q3 l7 l8,v2=.slice q3 l7 l8∧Fs S w [⟨l6,#[.pointer q2],28,true⟩] w3∧∃l9,l9<l3∧I0 q3 l7 l8 (IntKind.wrap .i64 (n0+1)) l9 w3) w2)∧(∀x0 v3,v1=.iface x0 v3→K (.slice none 0 0) w1)∧(v1=.nilIface∨∃l10 v4,v1=.iface l10 v4)))∧(¬(n0<(ly0:Int))→K (.slice q0 l1 l2) w0))):aa_ PR 6 ⟨[.slice y0 ly0 cy0]⟩ w K:=
 ab_ (okf:=⟨okL,[]⟩) ag_ (args:=[.c (.v (.slice y0 ly0 cy0))]) (H:=[]) (.s .z (.s .z (.s .z (.s (.s .z (.b (.l (some []) (some []) [(3,.c (.sl)),(13,.c (.int .i64))] [] (.s .z (.s .z (.s (.b (.s .z (.s .z (.s (.r ⟨(some []),false,[],[]⟩) (.s .z (.r ⟨(some []),false,[],[]⟩)))))) .z)))))) .z)))) Go.Proofs.Tryz.func6 rfl ⟨trivial,trivial⟩ trivial (Fr.init S w) trivial (ac_ (by kernel_rfl) h)
end Go.Vc
namespace Go.Vc
open Go Go.MapKept
theorem rq_:PR.underlying T.du_=some (.slice T.cy_):=by kernel_rfl
theorem rx_:tyI T.cy_ 1 8 (.pointer none):=j1_ (by kernel_rfl)
structure rm_ (l:List (Int × Int)) (m:Man) (list:List (List UInt8)):Prop where
 ver:VerL m list
 one:m.version=1
 len:list.length≤40
 pos:1≤list.length
 mkr:ig_ 1 40 10 l m list
 sh:m.shards≠[]
theorem VerL.len {m:Man} {list:List (List UInt8)} (h:VerL m list):list.length=aX_ list.flatten.length:=by
 have:=congrArg List.length h.cut
 rw [hQ_] at this
 exact this.symm
theorem iO_ {w:World} {y:Option Addr} {cy:Nat} {q:Option Addr} {c:Nat} {l:List (Int × Int)} (hy:Sl w y [.slice q l.length c]) (hs:Sl w q (encE l)) {K:Value→World→Prop}
  (h1:∀w' a pc b m list,Grow w w'→Sl w' (some a) [.pointer (some ⟨b,0,none⟩)]→VerO (λj=>j<w.heap.size) w' b m list→rm_ l m list→l.length≤60→eL_ 40 l→K (.slice (some a) 1 pc) w')
  (h2:∀w',Grow w w'→¬(l.length≤60∧eL_ 40 l)→K (.slice none 0 0) w'):aa_ PR F.b4_ ⟨[.slice y 1 cy]⟩ w K:=by
 refine b4_ y 1 cy S0 K w ⟨λh=>by omega,λ_=>?_⟩
 refine ⟨λpq l1 l2 n lv w'=>(n=0∧pq=none∧l1=0∧l2=0∧lv=1∧Grow w w')∨(n=1∧l1=1∧lv=0∧∃a b m list,pq=some a∧Sl w' (some a) [.pointer (some ⟨b,0,none⟩)]∧VerO (λj=>j<w.heap.size) w' b m list∧rm_ l m list∧l.length≤60∧eL_ 40 l∧Grow w w'),⟨1,.inl ⟨rfl,rfl,rfl,rfl,rfl,.refl _ _⟩⟩,?_⟩
 rintro pq l1 l2 n D lv w1 (⟨rfl,rfl,rfl,rfl,rfl,g1⟩ | ⟨rfl,rfl,rfl,a,b,m,list,rfl,k1,k2,k3,k4,k5,g1⟩) hF1
 ·refine ⟨λ_=>?_,λh=>absurd h (by decide)⟩
  refine (hy.grow g1).rd (v:=.slice q l.length c) rfl (by omega) rfl λa ha=>⟨_,_,_,ha,λhgt=>h2 w1 g1 (λhh=>by omega),λhle=>?_⟩
  have hl60:l.length≤60:=by omega
  have e1:IntKind.wrap .i64 ((0:Int)+1)=1:=by decide
  rw [e1]
  refine pd_ (version:=1) (nodes:=40) (each:=10) (by decide) (by decide) (hs.grow g1) rfl (by omega) (λw2 b m list g2 hb hv hL hm1 hfl hg h64 hmk hl2=>⟨_,_,rfl,hF1.after g2,λ_=>⟨(λh=>by cases h),λa2 ha2 l6 hl6 w3 hF3=>?_⟩,(λt x h=>by cases h),.inl rfl⟩) (by decide) λw2 v cc g2 hv hE hno=>⟨_,_,rfl,hF1.after g2,(λh=>by obtain ⟨t,x,rfl⟩:=hv.err;cases h),(λt x _=>h2 w2 (g1.trans g2) λhh=>hno ⟨hh.2,by omega,by omega⟩),.inr (by obtain ⟨t,x,h⟩:=hv.err;exact ⟨t,x,h⟩)⟩
  have g3:Grow w2 w3:=hF3.grow
  refine app1 rq_ rx_ rfl (by decide) (.nil _ _ w3) rfl (Nat.le_refl _) (ys:=[.pointer (some ⟨b,0,none⟩)]) (hF3.sl 0 rfl) rfl (by simp [oneC]) (by omega) λq' c' w4 ho4 hc4 g4 hq4=>?_
  have g4':Grow w3 w4:=g4.mono λk _ ⟨a,ha,_⟩=>by cases ha
  have s1:=g1.size
  have hvw:VerO (λj=>j<w.heap.size) w4 b m list:=(hv.keep (D':=λj=>j<w.heap.size) (g3.trans g4') (λ_ _ e=>e.elim) λk _ e=>by show k<w1.heap.size;have e':k<w.heap.size:=e;omega)
  have hlen:=hL.len
  have h7:=hL.ok.shards.2
  have hn40:m.nodes=40:=by
   obtain ⟨nn,N,k,e,_,_,_,em⟩:=hmk
   have:=congrArg (λz:Man × List (List UInt8)=>z.1.nodes) em
   simp only [lw_] at this
   omega
  have hshn:m.shards≠[]:=λh=>by have:=h7.1 h;omega
  have hpos:1≤list.length:=by
   have h5:=hL.ok
   have h6:=hL.blocks
   have h8:=h5.tab
   have hb:=h5.blocks.1
   have ht:3≤m.total:=by
    unfold Man.total
    cases hsh:m.shards with
    | nil=>have:=h7.1 hsh;omega
    | cons x r=>
     rw [hsh] at h8
     have h9:3≤x.2:=by unfold gg_ at h8;exact h8.2.1
     have h10:∀(p:Option Int) (z:List (Int × Int)),gg_ m.nodes p z→0≤(z.map (·.2)).sum:=by
      intro p z
      induction z generalizing p with
      | nil=>intro _;simp
      | cons y z ih=>
       intro hz
       rw [List.map_cons,List.sum_cons]
       cases p with
       | none=>unfold gg_ at hz;have:=ih _ hz.2.2.2;omega
       | some p=>unfold gg_ at hz;have:=ih _ hz.2.2.2.2;omega
     have h11:=h10 _ r (by unfold gg_ at h8;exact h8.2.2.2)
     rw [List.map_cons,List.sum_cons];omega
   have:1≤m.blocks:=by rw [hb];unfold gc_;rw [if_neg (by omega)];omega
   omega
  refine ⟨_,_,_,rfl,hF3.after g4',0,by omega,.inr ⟨rfl,rfl,rfl,?_⟩⟩
  have hsl:=ho4.sl
  simp only [List.nil_append] at hsl
  cases q' with
  | none=>
   rcases hsl with h | ⟨b0,o0,h,_⟩
   ·cases h
   ·cases h
  | some a=>exact ⟨a,b,m,list,rfl,hsl,hvw,⟨hL,hm1,by rw [hlen];exact oU_ (by omega),hpos,hmk,hshn⟩,hl60,hg,((g1.trans g2).trans g3).trans g4'⟩
 ·exact ⟨λh=>absurd h (by decide),λ_=>h1 w1 a l2 b m list g1 k1 k2 k3 k4 k5⟩
theorem rY_ {m:Man} {list:List (List UInt8)} (h:rm_ [(0,1)] m list):list.length=1:=by
 obtain ⟨nn,N,k,e1,hN,hk1,hk2,e⟩:=h.mkr
 have e2:list=cutL (a7_ (begL nn N) (N.map (·.2)) 10 nn k).flatten:=congrArg Prod.snd e
 have en:nn=40:=by omega
 subst en
 have eN:N=[(0,1)]:=em_ hN.lt (by simp) hN.mem
 subst eN
 have ek:k=4:=by
  rcases Nat.lt_trichotomy k 4 with h | h | h
  ·omega
  ·exact h
  ·have:=hk2 4 h;omega
 subst ek
 rw [e2,hQ_]
 decide +kernel
end Go.Vc
namespace Go.Vc
open Go Go.MapKept
theorem iK_ {D:Nat→Prop} {w:World} {b:Nat} {m:Man} {list:List (List UInt8)} (hv:VerO D w b m list) (hL:VerL m list) (hne:m.shards≠[]) {n:Nat} (hn:n≤4096) {K:Value→World→Prop}
  (hK:∀w' f v,aY_ w' f v→f.h.vs=[v]→v.man=m→v.bl=[]→v.ol=[]→f.ver=m.version→f.trs=[]→f.wt.askd=[]→f.wt.win=4→f.wt.tmo=6→f.h.d.sl.length=n→(logL f.h.recs).length≤2000→f.h.recs.length≤1→f.h.d.ws.length≤1→Grow w w'→(∀k,feA f k→w.heap.size≤k)→K (.tuple #[.pointer (some ⟨f.h.bh,0,none⟩),.pointer (some ⟨f.b,0,none⟩),.bool true]) w') :
  aa_ PR F.bJ_ ⟨[.pointer (some ⟨b,0,none⟩),.int .i64 n]⟩ w K:=by
 have hF0:Fs S0 w [] w:=.init _ w
 obtain ⟨qm,cm,ql,cl,hb,_,hqm,_,_⟩:=hv
 have hsh:=hL.ok.shards.1
 have hver:=hL.ok.version
 have hbl:=aj_ hb
 refine bJ_ (some ⟨b,0,none⟩) n S0 K w ?_
 refine nm_ hn λw0 bd p g0 hfr hd=>⟨_,rfl,hF0.after g0,?_⟩
 have hl0:(DM.empty n).sl.length=n:=by simp [DM.empty]
 refine lX_ hd rfl rfl (by rw [hl0];exact hn) λw1 bh bj mp j g1 H1 hA1=>⟨_,_,rfl,(hF0.after g0).after g1,λ_=>?_,(λt x h=>by cases h),.inl rfl⟩
 have g01:=g0.trans g1
 have hb1:=Grow.get g01 hb
 have cell:∀ {w':World} {k:Nat} {x:Value},w'.heap[b]? = some (.cells (verC m qm cm list ql cl) T.a4_ (0,0))→(verC m qm cm list ql cl)[k]? = some x→w'.cell? (Addr.add (Addr.add ⟨b,0,none⟩ 0) k)=some x:=λhb hk=>by
  rw [as_,as_,au_ hb];simpa using hk
 refine ad_.2 (ad_.2 (ad_.2 ⟨_,cell hb1 (k:=0) rfl,_,cell hb1 (k:=1) rfl,_,cell hb1 (k:=2) rfl,_,_,_,cell hb1 (k:=3) rfl,_,cell hb1 (k:=4) rfl,_,cell hb1 (k:=5) rfl,?_⟩))
 have s0:=g0.size
 have low:∀k,hA (HS.zero bh bj mp j (DM.empty n)) k→w.heap.size≤k:=λk hk=>(hA1 k hk).elim (hfr k) λh=>Nat.le_trans s0 h
 have hqlt:∀a,qm=some a→m.shards≠[]→a.block<w.heap.size:=λa ha hne=>by
  rcases hqm with h | ⟨b0,o0,e0,⟨cs,T0,fz,hh,_⟩,_⟩
  ·exfalso
   have:=congrArg List.length h
   rw [aE_] at this
   have h2:0<m.shards.length:=List.length_pos_iff.2 hne
   simp at this;omega
  ·rw [e0] at ha;cases ha;exact aj_ hh
 refine qs_ (m:=m) (q:=qm) (c:=cm) H1 ⟨by simp [HS.zero,logL],by simp [HS.zero],by simp [HS.zero,DM.empty]⟩ hL.ok (hqm.sl.grow g01) (λa ha e=>?_) (λx hx=>by cases hx) (by show (0:Int)<_;omega) (by show 0<3;decide) λw2 j2 v H2 hvm hvb hvo c2 hfv hst=>?_
 ·have h1:=hqlt a ha hne
  have h2:=low a.block (.inl (.inr (.inl e)))
  omega
 have hF1:=(hF0.after g0).after g1
 have s1:=g1.size
 have hF2:=hF1.step c2 (λz hz=>by cases hz) λk hk e=>by have:=low k (.inl e);omega
 refine ⟨_,rfl,hF2,λ_=>?_,(λt x h=>by cases h),.inl rfl⟩
 have hb2:=c2.get hb1 λe=>by have:=low b (.inl e);omega
 refine ad_.2 (ad_.2 (ad_.2 (ad_.2 ⟨_,by rw [as_,as_,au_ hb2];rfl,?_⟩)))
 have hvs:v∈((HS.zero bh bj mp j (DM.empty n)).addM j2 v).vs:=by show v∈[]++[v];simp
 have s2:=c2.size
 refine pj_ H2 (n:=m.version) ⟨by omega,by omega⟩ (λw3 f v3 H3 efh efv eft efa efw efm g3 hfl=>?_) λw3 g3 hno=>absurd (by rw [hvm]) (hno v hvs)
 have hv3:v3=v:=by
  have:=H3.mem
  rw [efh] at this
  have h':v3∈[]++[v]:=this
  simpa using h'
 subst hv3
 refine ⟨_,_,rfl,hF2.after g3,(λ_ w4 hF4=>?_),(λt x h=>by cases h),.inl rfl⟩
 have H4:=H3.grow hF4.grow
 have hb':f.h.bh=bh:=by rw [efh];rfl
 have lows:∀k,hA ((HS.zero bh bj mp j (DM.empty n)).addM j2 v3) k→w.heap.size≤k:=by
  rintro k (hk | ⟨x,hx,hk⟩)
  ·rcases hst k hk with h | h
   ·exact low k (.inl h)
   ·omega
  ·have:x=v3:=by simpa [HS.addM,HS.zero] using hx
   subst this
   have:=hfv k hk
   omega
 rw [← hb']
 refine hK w4 f v3 H4 (by rw [efh];rfl) hvm hvb hvo efv eft efa efw efm ?_ ?_ ?_ ?_ hF4.gr λk hk=>(hfl k hk).elim (lows k) λh=>by omega
 ·rw [efh];show ((DM.empty n).put (-1) _).sl.length=n
  rw [ll_];exact hl0
 ·rw [efh];show (logL ([]++[recM v3.man])).length≤_
  rw [fa_,List.length_append,g7_]
  have:=ma_ (m:=v3.man) (by rw [hvm];exact hL.ok)
  have e0:(logL []).length=0:=rfl
  omega
 ·rw [efh];show ([]++[recM v3.man]).length≤_
  simp
 ·rw [efh];show ((DM.empty n).put (-1) _).ws.length≤_
  unfold DM.put DM.now;rw [if_pos rfl];simp [DM.empty]
noncomputable def blkM (m:Man) (list:List (List UInt8)) (i:Nat):MsgL:=⟨3,m.version,i,list.getD i [],be_ (list.map ay_) list.length i 0 list.length⟩
end Go.Vc
namespace Go.Vc
open Go Go.MapKept
theorem dW_ {D:Nat→Prop} {w:World} {b:Nat} {m:Man} {list:List (List UInt8)} (hv:VerO D w b m list) (hL:VerL m list) {i:Int} {K:Value→World→Prop}
  (h1:∀w' q c,0≤i→i<list.length→Grow w w'→Sl w' q ((blkM m list i.toNat).proof.map sv8')→Off (λk=>k<w.heap.size) q→K (oi_ (blkM m list i.toNat) q c) w')
  (h2:∀w',¬(0≤i∧i<list.length)→Grow w w'→K (.agg #[.int .i64 4,.int .i64 m.version,.int .i64 i,.string ⟨#[]⟩,.slice none 0 0]) w'):aa_ PR F.bL_ ⟨[.pointer (some ⟨b,0,none⟩),.int .i64 i]⟩ w K:=by
 have hv':=hv
 obtain ⟨qm,cm,ql,cl,hb,hDb,hqm,hql,hlc⟩:=hv
 have hbl:=hL.ok.blocks.2
 have hb2:=hL.blocks
 have cell:∀ {w':World} {k:Nat} {x:Value},Grow w w'→(verC m qm cm list ql cl)[k]? = some x→w'.cell? (Addr.add ⟨b,0,none⟩ k)=some x:=λg hk=>by
  rw [as_,au_ (Grow.get g hb)];simpa using hk
 have cell0:∀ {w':World} {k:Nat} {x:Value},Grow w w'→(verC m qm cm list ql cl)[k]? = some x→w'.cell? (Addr.add (Addr.add ⟨b,0,none⟩ 0) k)=some x:=λg hk=>by
  rw [as_,as_,au_ (Grow.get g hb)];simpa using hk
 refine bL_ (some ⟨b,0,none⟩) i S0 K w λl0 hl0=>⟨λhneg=>?_,λhnn=>?_⟩
 ·exact ad_.2 (ad_.2 (ad_.2 λw0 hF0=>ad_.2 ⟨_,cell0 hF0.gr (k:=0) rfl,λw1 hF1=>h2 w1 (by omega) hF1.gr⟩))
 ·refine ad_.2 (ad_.2 λw2 hF2=>ad_.2 ⟨ql,list.length,cl,cell hF2.gr (k:=6) rfl,λhge=>?_,λhlt=>?_⟩)
  ·exact ad_.2 (ad_.2 (ad_.2 (ad_.2 ⟨_,cell0 hF2.gr (k:=0) rfl,λw3 hF3=>h2 w3 (by omega) hF3.gr⟩)))
  ·have g2:Grow w w2:=hF2.gr
   have hv2:VerO D w2 b m list:=hv'.keep (D':=D) g2 (λ_ _ e=>e.elim) λ_ _ e=>e
   have hl02:l0<w2.heap.size:=aj_ (hF2.blk 0 rfl)
   refine rk_ hv2 hL λw4 c4 g4 hT=>⟨_,rfl,hF2.reset.after g4,?_⟩
   have hF4:=hF2.reset.after g4
   refine nb_ hT (i:=i) (by omega) (λw5 q cq hi0 hi1 g5 ho hc hof=>⟨_,_,_,_,rfl,hF4.after g5,λw6 hF6=>?_⟩) λhbad=>absurd ⟨by omega,by omega⟩ hbad
   obtain ⟨j,rfl⟩:=Int.eq_ofNat_of_zero_le hi0
   have hj:j<list.length:=by omega
   have g6:Grow w w6:=hF6.gr
   have s4:=g4.size
   refine ⟨(· = w6),rfl,?_⟩
   refine ad_.2 (ad_.2 (ad_.2 (ad_.2 ⟨_,λw' e=>e ▸ cell0 g6 (k:=0) rfl,?_⟩)))
   refine ad_.2 (ad_.2 (ad_.2 ⟨_,_,_,λw' e=>e ▸ cell g6 (k:=6) rfl,?_⟩))
   refine (hql.sl.grow g6).rd (v:=sv8' list[j]) (by simp) (by omega) (by simp [hj]) λa ha=>⟨_,λw' e=>e ▸ ha,λw10 hF10=>?_⟩
   have hoo:Own T.string 1 w10 q cq ((be_ (list.map ay_) list.length j 0 list.length).map sv8'):=(ho.grow hF6.grow).keep hF10.stp λa ha e=>by
    have h3:¬a.block<w4.heap.size:=hof a ha
    have e':a.block=l0:=by simpa using e
    omega
   have:=h1 w10 q cq hi0 hi1 hF10.gr hoo.sl (λa ha e=>hof a ha (by have e':a.block<w.heap.size:=e;have:=g2.size;show a.block<w4.heap.size;omega))
   have eg:list.getD j []=list[j]:=by simp [List.getD,hj]
   unfold oi_ blkM at this
   rw [Int.toNat_natCast,eg] at this
   exact this
theorem hn_ {m:Man} {list:List (List UInt8)} (hL:VerL m list) {j:Nat} (hj:j<list.length):a__ (j:Int) m.blocks (ay_ (blkM m list j).text) (blkM m list j).proof m.root:=by
 have hbl:=hL.ok.blocks.2
 have hb2:=hL.blocks
 rw [hb2,hL.root];exact mN_ hj (by omega)
theorem kK_ {m:Man} {list:List (List UInt8)} (hL:VerL m list) {j:Nat} (hj:j<list.length):(blkM m list j).text.length≤64:=by
 show (list.getD j []).length≤64
 have e:list.getD j []=list[j]:=by simp [List.getD,hj]
 rw [e];exact hL.small _ (List.getElem_mem hj)
end Go.Vc
namespace Go.Vc
open Go Go.MapKept
structure Fill (f:FS) (v:HV) (m:Man):Prop where
 one:f.h.vs=[v]
 man:v.man=m
 old:v.ol=[]
 nd:(v.bl.map (·.1)).Nodup
 win:f.wt.win=4
 tmo:f.wt.tmo=6
 ver:f.ver=m.version
 sl:f.h.d.sl.length=100
 log:(logL f.h.recs).length≤2000+2000*v.bl.length
 recs:f.h.recs.length≤1+v.bl.length
 ws:f.h.d.ws.length≤1+2*v.bl.length
theorem oh_:∀ {n:Nat} {l:List Int},l.Nodup→(∀i∈l,0≤i∧i<n)→l.length≤n
 | 0,l,_,h=>by
  cases l with
  | nil=>exact Nat.le_refl _
  | cons a l=>have:=h a List.mem_cons_self;omega
 | n+1,l,hn,h=>by
  have h1:=oh_ (n:=n) (l:=l.erase (n:Int)) (hn.erase _) λi hi=>by
   have h2:=(hn.mem_erase_iff).1 hi
   have h3:=h i h2.2
   have h4:i≠(n:Int):=h2.1
   omega
  have h5:=List.length_erase (a:=(n:Int)) (l:=l)
  split at h5 <;> omega
theorem rF_:∀ {n:Nat} {l:List Int},l.Nodup→(∀i∈l,0≤i∧i<n)→l.length=n→∀i:Int,0≤i→i<n→i∈l:=by
 intro n l hn h hl i h0 h1
 refine Classical.byContradiction λhno=>?_
 have h2:=oh_ (n:=n) (l:=i :: l) (List.nodup_cons.2 ⟨hno,hn⟩) λj hj=>by
  rcases List.mem_cons.1 hj with rfl | hj
  ·exact ⟨h0,h1⟩
  ·exact h j hj
 simp at h2;omega
theorem Fill.le {w:World} {f:FS} {v:HV} {m:Man} (F:Fill f v m) (H:aY_ w f v) {n:Nat} (hb:m.blocks=n):v.bl.length≤n:=by
 have h1:=(H.at_.hat.vs v H.mem).inB
 rw [F.man,hb] at h1
 have:=oh_ (n:=n) F.nd λi hi=>by obtain ⟨p,hp,rfl⟩:=List.mem_map.1 hi;exact h1 p hp
 simpa using this
theorem Fill.whole {w:World} {f:FS} {v:HV} {m:Man} (F:Fill f v m) (H:aY_ w f v) {n:Nat} (hb:m.blocks=n):v.bl.length=n↔∀i,¬f.wt.miss i:=by
 have h1:=(H.at_.hat.vs v H.mem).inB
 rw [F.man,hb] at h1
 have h2:∀i∈v.bl.map (·.1),0≤i∧i<(n:Int):=λi hi=>by obtain ⟨p,hp,rfl⟩:=List.mem_map.1 hi;exact h1 p hp
 constructor
 ·intro hl i hi
  have h3:=ba_.1 ((H.miss i).1 hi)
  rw [F.man,hb] at h3
  obtain ⟨p,hp,e⟩:=List.mem_map.1 (rF_ F.nd h2 (by simpa using hl) i h3.1.1 h3.1.2)
  exact h3.2 p hp e
 ·intro hno
  have h4:=oh_ (n:=n) F.nd h2
  have h5:=oh_ (n:=(v.bl.map (·.1)).length) (l:=(List.range n).map λk:Nat=>(k:Int))
  refine Nat.le_antisymm (by simpa using h4) ?_
  have h6:∀k:Nat,k<n→(k:Int)∈v.bl.map (·.1):=λk hk=>Classical.byContradiction λhn=>hno k ((H.miss k).2 (ba_.2 ⟨⟨by omega,by rw [F.man,hb];omega⟩,λp hp e=>hn (List.mem_map.2 ⟨p,hp,e⟩)⟩))
  have h7:=(List.nodup_range (n:=n)).length_le_of_subset (l₂:=(v.bl.map (·.1)).map Int.toNat) λk hk=>List.mem_map.2 ⟨(k:Int),h6 k (List.mem_range.1 hk),by simp⟩
  simpa using h7
theorem Fill.tick {f:FS} {v:HV} {m:Man} (F:Fill f v m) (now:Int) (n:Nat):Fill (f.tick v now n) v m:=⟨F.one,F.man,F.old,F.nd,F.win,F.tmo,F.ver,F.sl,F.log,F.recs,F.ws⟩
theorem Fill.again {f:FS} {v:HV} {m:Man} (F:Fill f v m) (i:Int):Fill (f.again i) v m:=⟨F.one,F.man,F.old,F.nd,F.win,F.tmo,F.ver,F.sl,F.log,F.recs,F.ws⟩
theorem Fill.room {f:FS} {v:HV} {m:Man} (F:Fill f v m) (h:v.bl.length≤40):qr_ f.h:=⟨by have:=F.log;omega,by have:=F.recs;omega,by have:=F.ws;omega⟩
theorem qB_ (d:DM) (n:Int) (z:List UInt8):(d.put n z).ws.length=d.ws.length+1:=by
 unfold DM.put
 simp only [List.length_append,List.length_cons,List.length_nil]
theorem Fill.put {f:FS} {v:HV} {m:Man} (F:Fill f v m) {j:JP} {i sl:Int} {t:List UInt8} (hv:0≤m.version∧m.version≤1000000000) (hi:0≤i∧i≤1000000000) (hs:0≤sl∧sl≤1000000000) (hnew:∀p∈v.bl,p.1≠i):Fill (f.put j v i sl t) (v.putB i sl t) m:=by
 have hlen:(v.putB i sl t).bl.length=v.bl.length+1:=by simp [HV.putB]
 have hr:(recB v.man.version i (sl,ay_ t)).length≤1+24+1008:=mb_ (by rw [F.man];exact ⟨hv.1,by omega⟩) ⟨hi.1,by omega⟩ ⟨hs.1,by show sl≤_;omega⟩ (by show (ay_ t).length≤_;rw [dM_];omega)
 refine ⟨?_,F.man,?_,?_,F.win,F.tmo,F.ver,?_,?_,?_,?_⟩
 ·show setV f.h.vs (v.putB i sl t)=[v.putB i sl t]
  rw [F.one]
  show [if v.man.version=v.man.version then v.putB i sl t else v]=_
  rw [if_pos rfl]
 ·show v.ol.filter _=[]
  rw [F.old];rfl
 ·show ((v.bl++[(i,sl,ay_ t)]).map (·.1)).Nodup
  rw [List.map_append]
  refine List.nodup_append.2 ⟨F.nd,by simp,λa ha b hb=>?_⟩
  obtain ⟨p,hp,rfl⟩:=List.mem_map.1 ha
  simp at hb;subst hb
  exact hnew p hp
 ·show (((f.h.d.put sl t).put (-1) _).sl).length=100
  rw [ll_,mc_ (by omega),List.length_set];exact F.sl
 ·show (logL (f.h.recs++[_])).length≤_
  rw [fa_,List.length_append,g7_,hlen]
  have:=F.log;omega
 ·show (f.h.recs++[_]).length≤_
  rw [hlen];simp;have:=F.recs;omega
 ·show (((f.h.d.put sl t).put (-1) _).ws).length≤_
  rw [qB_,qB_,hlen];have:=F.ws;omega
theorem kV_ {w:World} {f:FS} {v:HV} {m:Man} {list:List (List UInt8)} (H:aY_ w f v) (Fi:Fill f v m) (hL:VerL m list) (hl40:list.length≤40) (hver:0≤m.version∧m.version≤1000000000) {j:Nat} (hj:j<list.length) {y:Option Addr} {cy:Nat} (hs:Sl w y ((blkM m list j).proof.map sv8')) {K:Value→World→Prop}
  (hI:∀w',(∃p∈v.bl,p.1=(j:Int))→Grow w w'→K (.tuple #[.bool false,.nilIface]) w')
  (hK:∀w' f' v' sl,(∀p∈v.bl,p.1≠(j:Int))→v'.bl=v.bl++[((j:Int),sl,ay_ (blkM m list j).text)]→f'.trs=f.trs→f'.b=f.b→f'.h.bh=f.h.bh→f'.wt.ak=f.wt.ak→f'.tr=f.tr→f'.wt.askd=f.wt.askd.filter (λp=>p.1 != (j:Int))→aY_ w' f' v'→Fill f' v' m→Chg (feS f) w w'→(∀k,feA f' k→feA f k∨w.heap.size≤k)→K (.tuple #[.bool true,.nilIface]) w') :
  aa_ PR F.a8_ ⟨[.pointer (some ⟨f.b,0,none⟩),oi_ (blkM m list j) y cy]⟩ w K:=by
 have hb:m.blocks=(list.length:Int):=hL.blocks
 have hle:=Fi.le H hb
 have hok:=hn_ hL hj
 have htx:=kK_ hL hj
 refine f4_ H (Fi.room (by omega)) (m:=blkM m list j) hs (by omega) ⟨by rw [Fi.ver];exact ⟨by omega,by omega⟩,by show bc_ (j:Int);exact ⟨by omega,by omega⟩⟩ (λw' _ h=>?_) (λw' _ _ _ h=>?_) (λw' e c f' _ _ _ _ hn _ _ _=>?_) (λw' _ _ _ hin g=>hI w' hin g) (λw' c _ _ _ _ hc _=>?_) λw' jp sl _ _ _ hnew _ H' c' hgr hsl0=>?_
 ·rcases h with h | ⟨h,_⟩
  ·exact absurd Fi.ver.symm h
  ·exact absurd rfl h
 ·cases h
 ·rw [Fi.man] at hn;exact absurd hok hn
 ·rcases hc with ⟨_,hall⟩ | ⟨_,h⟩
  ·obtain ⟨n,hn1,hn2⟩:=kz_ f.h (by rw [Fi.one,Fi.sl];simp [Fi.old];omega)
   exact absurd (hall n hn1) hn2
  ·omega
 ·have hslu:sl≤1000000000:=by
   have h1:=H'.at_.hat.sl (v.putB (blkM m list j).i sl (blkM m list j).text) H'.mem ((blkM m list j).i,sl,ay_ (blkM m list j).text) (by simp [HV.putB])
   have h2:=H'.at_.hat.dl
   have h3:sl<((f.put jp v (blkM m list j).i sl (blkM m list j).text).h.d.sl.length:Int):=h1.2
   omega
  exact hK w' (f.put jp v (blkM m list j).i sl (blkM m list j).text) (v.putB (blkM m list j).i sl (blkM m list j).text) sl hnew rfl rfl rfl rfl rfl rfl rfl H' (Fi.put hver ⟨by show (0:Int)≤(j:Int);omega,by show (j:Int)≤_;omega⟩ ⟨hsl0,hslu⟩ hnew) c' hgr
end Go.Vc
namespace Go.Vc
open Go Go.MapKept
def JA (f:FS) (now:Int) (N:Nat):Prop:=(∀i,¬f.wt.miss i)∨(now≤7*(N:Int)∧∀p∈f.wt.askd,p.2≤7*(N:Int))
theorem JA.sub {f f':FS} {now:Int} {N:Nat} (h:JA f now N) (h1:∀i,f'.wt.miss i→f.wt.miss i) (h2:∀p∈f'.wt.askd,p∈f.wt.askd):JA f' now N:=by
 rcases h with h | ⟨h3,h4⟩
 ·exact .inl λi hi=>h i (h1 i hi)
 ·exact .inr ⟨h3,λp hp=>h4 p (h2 p hp)⟩
theorem JA.tick {w:World} {f:FS} {v:HV} {m:Man} {now:Int} {N:Nat} (h:JA f now N) (Fi:Fill f v m) (H:aY_ w f v) {np:Nat} (hp:np≠0):JA (f.tick v now np) (now+1) (N+(goL f v now np).length):=by
 rcases h with h | ⟨h1,h2⟩
 ·exact .inl h
 by_cases hno:∀i,¬f.wt.miss i
 ·exact .inl hno
 have hstill:∀p∈ds_ f now,p∈f.wt.askd∧now<p.2:=λp hp=>by
  have h3:=List.mem_filter.1 hp
  exact ⟨h3.1,of_decide_eq_true h3.2⟩
 have hlen:goL f v now np=[]→ds_ f now≠[]:=by
  intro hg hs
  obtain ⟨i,hi⟩:=Classical.not_forall.1 hno
  have hi':i∈bj_ v:=(H.miss i).1 (Classical.not_not.1 hi)
  unfold goL at hg
  rw [if_neg hp,hs,Fi.win] at hg
  have hc:i∈hU_ v []:=c1_.2 ⟨hi',λp hp=>by cases hp⟩
  cases hcl:hU_ v [] with
  | nil=>rw [hcl] at hc;cases hc
  | cons a l=>rw [hcl] at hg;simp at hg
 right
 by_cases hg:goL f v now np=[]
 ·obtain ⟨p,hp0⟩:=List.exists_mem_of_ne_nil _ (hlen hg)
  have h5:=hstill p hp0
  have h6:=h2 p h5.1
  refine ⟨by rw [hg];simp only [List.length_nil,Nat.add_zero];omega,λq hq=>?_⟩
  have hq':q∈ds_ f now++(goL f v now np).map λi=>(i,now+f.wt.tmo):=hq
  rw [hg] at hq' ⊢
  simp only [List.map_nil,List.append_nil] at hq'
  have:=h2 q (hstill q hq').1
  simp only [List.length_nil,Nat.add_zero];omega
 ·have hpos:1≤(goL f v now np).length:=by
   cases hgl:goL f v now np with
   | nil=>exact absurd hgl hg
   | cons a l=>simp
  refine ⟨by omega,λq hq=>?_⟩
  have hq':q∈ds_ f now++(goL f v now np).map λi=>(i,now+f.wt.tmo):=hq
  rcases List.mem_append.1 hq' with hq' | hq'
  ·have:=h2 q (hstill q hq').1;omega
  ·obtain ⟨i,_,rfl⟩:=List.mem_map.1 hq'
   show now+f.wt.tmo≤_
   rw [Fi.tmo];omega
theorem q1_ {f:FS} {v:HV} {now:Int} {np:Nat} {i:Int} (h:i∈goL f v now np):i∈bj_ v:=by
 unfold goL at h
 split at h
 ·cases h
 ·exact (c1_.1 (List.mem_of_mem_take h)).1
theorem mU_ (f:FS) (v:HV) (now:Int) (np:Nat):(goL f v now np).Pairwise (· < ·):=by
 unfold goL
 split
 ·exact .nil
 ·exact (gd_ _ _).sublist (List.take_sublist _ _)
theorem qF_ {f:FS} {v:HV} {m:Man} (Fi:Fill f v m) (now:Int) (np:Nat):(goL f v now np).length≤4:=by
 unfold goL
 split
 ·simp
 ·rw [List.length_take,Fi.win];omega
theorem p6_ {f:FS} {v:HV} (h:bj_ v=[]) (now:Int) (np:Nat):goL f v now np=[]:=by
 unfold goL hU_
 rw [h];simp
theorem Grow.off {S:Nat→Prop} {a b c:World} (g:Grow a b) (h:Chg S b c) (hn:∀i,i<a.heap.size→¬S i):Grow a c:=(g.then h).mono λi hi e=>(hn i hi e).elim
theorem h7_ {f:FS} : ∀k,feS f k→feA f k:=λk hk=>by
 rcases hk with h | h | h | h
 ·exact .inl h
 ·exact .inr (.inl h)
 ·exact .inr (.inr (.inl (.inl h)))
 ·exact .inr (.inr (.inr h))
end Go.Vc
namespace Go.Vc
open Go Go.MapKept
theorem o4_ (a:Addr):a.add 0=a:=by unfold Addr.add;simp
theorem kh_ {w:World} {a:Addr} {v:Value} (h:Sl w (some a) [v]) {K:Addr→Prop} (hK:∀a2,w.cell? a2=some v→K a2):Dr (some a) (λa1=>(0:Int)≤0∧(0:Int)<((1:Nat):Int)∧Dr (some (Addr.add a1 0)) K):=by
 have:=h.rd (n:=0) (l:=1) (v:=v) (K:=K) rfl (Int.le_refl 0) rfl hK
 simpa using this
theorem Sl.r8_ {w:World} {a:Addr} {v:Value} (h:Sl w (some a) [v]):a.block<w.heap.size:=by
 rcases h with h | ⟨b,o,e,cs,T0,fz,hh,_⟩
 ·cases h
 ·cases e;exact aj_ hh
theorem fK_ {v:HV} (hb:v.bl=[]) {B:Nat} (hB:v.man.blocks=B):bj_ v=(List.range B).map λn:Nat=>(n:Int):=by
 unfold bj_ e__
 rw [hB,Int.toNat_natCast]
 exact List.filter_eq_self.2 λi _=>by rw [hb];simp
theorem oA_ {f:FS} {v:HV} (ha:f.wt.askd=[]) (hb:v.bl=[]) (hw:f.wt.win=4) {now:Int} {n:Nat} (hn:n≠0) {B:Nat} (hB:v.man.blocks=B):goL f v now n=((List.range B).map λn:Nat=>(n:Int)).take 4:=by
 have e1:ds_ f now=[]:=by unfold ds_;rw [ha];rfl
 unfold goL
 rw [if_neg hn,e1,hw]
 unfold hU_
 rw [fK_ hb hB,List.filter_eq_self.2 λi _=>by simp]
 rfl
theorem kM_ {w:World} {K:Value→World→Prop} (hK:∀w',Grow w w'→K (.bool true) w'):aa_ PR F.bK_ ⟨[]⟩ w K:=by
 refine bK_ S0 K w λl0 hl0 l1 hl1 w0 hF0=>?_
 refine iO_ (l:=[(0,1)]) (hF0.sl 1 rfl) (hF0.sl 0 rfl) (λw1 a pc b m list g1 hsa hv hP _ hg=>⟨_,_,_,rfl,hF0.reset.after g1,(λh=>by cases h),λa0 ha0=>?_⟩) λw1 g1 hno=>absurd ⟨by decide,by decide,by decide,by decide,λe he=>by simp at he;subst he;decide⟩ hno
 have hF1:Fs S0 w [] w1:=(hF0.reset.sub (L':=[]) (List.nil_sublist _)).after g1
 have hlen:=rY_ hP
 have hL:=hP.ver
 have hal:=hsa.r8_
 have sw1:w.heap.size≤w1.heap.size:=hF1.gr.size
 obtain ⟨qm,cm,ql,cl,hb,hDb,hqm,hql,hlc⟩:=id hv
 have hbl:=aj_ hb
 refine kh_ hsa λa2 ha2=>⟨_,ha2,?_⟩
 refine iK_ hv hL hP.sh (n:=9) (by decide) λw2 f v HF hvs hvm hvb hvo hver htr has hwin htmo hsl hlg hrl hws g2 hlow=>⟨_,_,true,rfl,(λ_=>⟨hF1.after g2,λl4 hl4 w3 hF3=>?_⟩),λh=>by cases h⟩
 have hB:v.man.blocks=((1:Nat):Int):=by rw [hvm,hL.blocks,hlen]
 have g3:Grow w2 w3:=hF3.grow
 have hfl:=HF.at_.lt
 have s2:=g2.size
 have s3:=g3.size
 have feSA:∀k,feS f k→feA f k:=λk hk=>by
  rcases hk with h | h | h | h
  ·exact .inl h
  ·exact .inr (.inl h)
  ·exact .inr (.inr (.inl (.inl h)))
  ·exact .inr (.inr (.inr h))
 have hgo:goL f v 0 [(0:Int)].length=[0]:=by
  rw [oA_ has hvb hwin (by decide) hB];rfl
 refine f3_ (HF.grow g3) (now:=0) ⟨by decide,by decide⟩ (by rw [htr];intro p hp;cases hp) (ps:=[0]) (by decide) (hF3.sl 0 rfl) (λa ha=>by
  cases ha
  have h1:=hfl f.wt.ak (.inr (.inl (.inr (.inr rfl))))
  have h2:=hfl f.tr (.inr (.inr (.inr rfl)))
  exact ⟨by show l4≠_;omega,by show l4≠_;omega⟩) λw4 q4 c4 HT ho4 ch4 hq4 _=>?_
 rw [hgo] at ho4 ⊢
 have hF4:=hF3.step ch4 (λz hz e=>by simp at hz;subst hz;have:=hfl _ (feSA _ e);simp only [] at this;omega) λk hk e=>by have:=hlow k (feSA k e);omega
 have keep1:∀k,k<w1.heap.size→¬feS f k:=λk hk e=>by have:=hlow k (feSA k e);omega
 have g13:Grow w1 w3:=g2.trans g3
 have hsa4:Sl w4 (some a) [.pointer (some ⟨b,0,none⟩)]:=(hsa.grow g13).keep ch4 λa' ha'=>by cases ha';exact keep1 _ hal
 have hb4:=ch4.get (Grow.get g13 hb) (keep1 b hbl)
 have hF4':Fs S0 w [] w4:=hF4.sub (L':=[]) (List.nil_sublist _)
 have hqs:Sl w4 q4 ([((toV f [0] 0,0):Int × Int)].flatMap (askC f.ver)):=ho4.sl
 refine ⟨_,_,_,rfl,_,hF4,?_⟩
 refine kh_ hsa4 λa4 ha4=>⟨_,ha4,ad_.2 (ad_.2 (ad_.2 ⟨ql,list.length,cl,by rw [as_,au_ hb4];rfl,λ_=>?_,λhne=>absurd (by rw [hlen];rfl) hne⟩))⟩
 have rdq:∀ {K':Addr→Prop},(∀a8,(∀j v',(askC f.ver (toV f [0] 0,0))[j]? = some v'→w4.cell? (a8.add j)=some v')→K' a8)→Dr q4 (λa8=>(0:Int)≤0∧(0:Int)<(([(0:Int)].length:Nat):Int)∧Dr (some (Addr.add a8 0)) K'):=λ{K'} h=>by
  have:=hqs.rdN (fg_ f.ver) (by decide) (n:=0) (k:=0) (m:=1) (K:=K') rfl (by simp) (by decide) h
  simpa using this
 have hto:toV f [0] 0=0:=by
  unfold toV
  have:(0+bA_ f.trs 0)%(([(0:Int)].length:Nat):Int)=0:=by
   show (0+bA_ f.trs 0)%1=0
   omega
  rw [this];rfl
 refine rdq λa8 h8=>ad_.2 (ad_.2 ⟨_,by rw [o4_];exact h8 1 _ rfl,λ_=>?_,λh=>absurd rfl h⟩)
 refine rdq λa8 h8=>ad_.2 ⟨_,h8 0 _ rfl,λ_=>?_,λh=>absurd hto h⟩
 have e0:(0:Int)∈bj_ v:=by rw [fK_ hvb hB];simp
 refine f5_ HT.at_ (λw5 g5 hall=>absurd ((HT.miss 0).2 e0) (hall 0)) λw5 i5 g5 hi5=>⟨false,rfl,(λh=>by cases h),λ_=>⟨hF4'.after g5,?_⟩⟩
 have hF5:=hF4'.after g5
 refine kh_ (hsa4.grow g5) λa15 ha15=>⟨_,ha15,ad_.2 (ad_.2 (ad_.2 ⟨ql,list.length,cl,by rw [as_,au_ (Grow.get g5 hb4)];rfl,?_⟩))⟩
 have HT5:=HT.grow g5
 have g5s:=g5.size
 have ch3s:=ch4.size
 refine ⟨λn lv w'=>(n=0∧lv=1∧Grow w5 w')∨(n=1∧lv=0∧∃f2 v2,aY_ w' f2 v2∧f2.b=f.b∧∀i,¬f2.wt.miss i),⟨1,.inl ⟨rfl,rfl,.refl _ _⟩⟩,?_⟩
 rintro n D lv w6 (⟨rfl,rfl,g6⟩ | ⟨rfl,rfl,f2,v2,H2,hb2,hnm⟩) hF6
 ·refine ⟨λ_=>?_,λh=>absurd (by rw [hlen];decide) h⟩
  have g46:=g5.trans g6
  refine kh_ (hsa4.grow g46) λa20 ha20=>⟨_,ha20,?_⟩
  have hv6:VerO (λj=>j<w0.heap.size) w6 b m list:=by
   have h3:=hv.keep (D':=λj=>j<w0.heap.size) g13 (λ_ _ e=>e.elim) λ_ _ e=>e
   have s01:=g1.size
   refine ⟨qm,cm,ql,cl,Grow.get g46 hb4,hDb,?_,?_,hlc⟩
   ·obtain ⟨_,_,_,_,hb3,_,hq3,hl3,_⟩:=h3
    have e1:=Grow.get g13 hb
    rcases hqm with h | ⟨b0,o0,e0',hr,hd⟩
    ·exact .inl h
    ·have hlt:b0<w1.heap.size:=by obtain ⟨cs,T0,fz,hh,_⟩:=hr;exact aj_ hh
     refine .inr ⟨b0,o0,e0',?_,hd⟩
     obtain ⟨cs,T0,fz,hh,hc⟩:=hr
     exact ⟨cs,T0,fz,Grow.get g46 (ch4.get (Grow.get g13 hh) (keep1 b0 hlt)),hc⟩
   ·rcases hql with h | ⟨b0,o0,e0',hr,hd⟩
    ·exact .inl h
    ·have hlt:b0<w1.heap.size:=by obtain ⟨cs,T0,fz,hh,_⟩:=hr;exact aj_ hh
     refine .inr ⟨b0,o0,e0',?_,hd⟩
     obtain ⟨cs,T0,fz,hh,hc⟩:=hr
     exact ⟨cs,T0,fz,Grow.get g46 (ch4.get (Grow.get g13 hh) (keep1 b0 hlt)),hc⟩
  refine dW_ hv6 hL (i:=0) (λw7 q7 c7 _ _ g7 hs7 _=>⟨_,_,_,_,_,_,_,rfl,hF6.after g7,?_⟩) λw7 hno _=>absurd ⟨by decide,by rw [hlen];decide⟩ hno
  have HT7:=HT5.grow (g6.trans g7)
  have hj0:0<list.length:=by omega
  have hokP:=hn_ hL hj0
  have hvman:v.man=m:=hvm
  have hkv:(blkM m list 0).ver=(f.tick v 0 [(0:Int)].length).ver:=by show m.version=f.ver;rw [hver]
  have htext:=kK_ hL hj0
  have hvv:=hL.ok.version
  refine f4_ HT7 (m:=blkM m list 0) ⟨by show (logL f.h.recs).length≤_;omega,by show f.h.recs.length≤_;omega,by show f.h.d.ws.length≤_;omega⟩ hs7 (by omega) ⟨by show bc_ f.ver;rw [hver];exact ⟨by omega,by omega⟩,by show bc_ (((0:Nat):Int));exact ⟨by decide,by decide⟩⟩ (λw' _ h=>?_) (λw' _ _ _ h=>?_) (λw' e c f' _ _ _ _ hn _ _ _=>?_) (λw' _ _ _ hin _=>?_) (λw' c _ _ _ _ hc _=>?_) λw8 j sl _ _ _ hnew hle H8 ch8 hgr8 _=>?_
  ·rcases h with h | ⟨h,_⟩
   ·exact absurd hkv h
   ·exact absurd rfl h
  ·cases h
  ·rw [hvman] at hn;exact absurd hokP hn
  ·obtain ⟨p,hp,_⟩:=hin
   rw [hvb] at hp;cases hp
  ·rcases hc with ⟨_,hall⟩ | ⟨_,hgt⟩
   ·obtain ⟨n0,hn1,hn2⟩:=kz_ f.h (by rw [hvs,hsl];simp [hvb,hvo])
    exact absurd (hall n0 hn1) hn2
   ·omega
  ·have hF8:=(hF6.after g7).step ch8 (λz hz=>by cases hz) λk hk e=>by
    have:=hlow k (feSA k e);omega
   refine ⟨true,.nilIface,rfl,(λ_=>⟨hF8,λ_=>⟨0,by decide,.inr ⟨by decide,rfl,_,_,H8,rfl,λi hi=>?_⟩⟩,(λt x h=>by cases h),.inl rfl⟩),λh=>by cases h⟩
   have h1:=(HT.miss i).1 hi.1
   rw [fK_ hvb hB] at h1
   have h2:i=0:=by simpa using h1
   exact hi.2 h2
 ·refine ⟨λh=>absurd h (by rw [hlen];decide),λ_=>?_⟩
  rw [← hb2]
  exact f5_ H2.at_ (λw9 g9 _=>⟨true,rfl,(λ_=>⟨hF6.after g9,hK w9 (hF6.after g9).gr⟩),λh=>by cases h⟩) λw9 i9 g9 hi9=>absurd hi9 (hnm i9)
end Go.Vc
namespace Go.Vc
open Go
theorem bb_ (y0:Option Addr) (ly0:Nat) (cy0:Nat) (y1:Option Addr) (ly1:Nat) (cy1:Nat) (m2:Int) (S:SP) (K:KP) (w:World) (h:aa_ PR 5 #[] w λv0 w0=>∃b0,v0=.bool b0∧(b0=true→Fs S w [] w0∧∀l0,w0.heap.size≤l0→∀w1,Fr S w w0 [] [⟨l0,#[.slice y0 ly0 cy0],22,true⟩] w1→aa_ PR 6 #[.slice (some (⟨l0,0,none⟩)) 1 1] w1 λv1 w2=>∃q0 l1 l2,v1=.slice q0 l1 l2∧Fs S w [⟨l0,#[.slice y0 ly0 cy0],22,true⟩] w2∧(q0=none→K (.bool true) w2)∧∀a0:Addr,q0=some a0→((ly1:Int)>60→K (.bool true) w2)∧(¬((ly1:Int)>60)→Dr q0 λa1=>(0:Int)≤0∧(0:Int)<(l1:Int)∧Dr (some (Addr.add a1 0)) λa2=>∃q1,World.cell? w2 a2=some (.pointer q1)∧aa_ PR 7 #[.pointer q1,Iv 100] w2 λv2 w3=>∃q2 q3 b1,v2=.tuple #[.pointer q2,.pointer q3,.bool b1]∧(b1=true→Fs S w [] w3∧∀l3,w3.heap.size≤l3→(0:Int)≤IntKind.wrap .i64 ((1:Int)+(Int.tmod (IntKind.wrap .i64 m2) 4))∧IntKind.wrap .i64 ((1:Int)+(Int.tmod (IntKind.wrap .i64 m2) 4))≤4∧∀w4,Fr S w w3 [] [⟨l3,#[Iv 0,Iv 2,Iv 3,Iv 4],3,true⟩] w4→∃I0:Int→Int→Int→Int→Int→Int→Nat→World→Prop,(∃l4,I0 0 0 0 2 3 4 l4 w4)∧∀n0 n1 n2 n3 n4 n5,∀D0:Nat→Value,∀l5 w5,I0 n0 n1 n2 n3 n4 n5 l5 w5→Fs S w [⟨l3,#[Iv n2,Iv n3,Iv n4,Iv n5],3,true⟩] w5→let B0:Blk:=⟨l3,#[Iv n2,Iv n3,Iv n4,Iv n5],3,true⟩;Dr q1 λa3=>Dr (some a3) λa4=>Dr (some (Addr.add a4 6)) λa5=>∃q4 l6 l7,World.cell? w5 a5=some (.slice q4 l6 l7)∧(n1<IntKind.wrap .i64 ((7:Int)*(IntKind.wrap .i64 (IntKind.wrap .i64 ((ly1:Int)+(l6:Int))+2)))→aa_ PR 8 #[.pointer q3,Iv n1,.slice (some (⟨l3,0,none⟩)) (Int.toNat (IntKind.wrap .i64 ((1:Int)+(Int.tmod (IntKind.wrap .i64 m2) 4))) - 0) 4] w5 λv3 w6=>∃q5 l8 l9,v3=.slice q5 l8 l9∧∃n6 n7 n8 n9,Fs S w [⟨l3,#[Iv n6,Iv n7,Iv n8,Iv n9],3,true⟩] w6∧let B1:Blk:=⟨l3,#[Iv n6,Iv n7,Iv n8,Iv n9],3,true⟩;∃I1:Int→Int→Nat→World→Prop,(∃l10,I1 n0 0 l10 w6)∧∀n10 n11,∀D1:Nat→Value,∀l11 w7,I1 n10 n11 l11 w7→Fs S w [B1] w7→(n11<(l8:Int)→Dr q5 λa6=>(0:Int)≤n11∧n11<(l8:Int)∧Dr (some (Addr.add a6 (Int.toNat n11*6))) λa7=>∃n12,World.cell? w7 (Addr.add a7 0)=some (Iv n12)∧∃n13,World.cell? w7 (Addr.add a7 1)=some (Iv n13)∧∃n14,World.cell? w7 (Addr.add a7 2)=some (Iv n14)∧∃n15,World.cell? w7 (Addr.add a7 3)=some (Iv n15)∧∃s0,World.cell? w7 (Addr.add a7 4)=some (.string s0)∧∃q6 l12 l13,World.cell? w7 (Addr.add a7 5)=some (.slice q6 l12 l13)∧∀l14,w7.heap.size≤l14→(n10<(ly1:Int)→Dr y1 λa8=>(0:Int)≤n10∧n10<(ly1:Int)∧∀w8,Fr S w w7 [l14] [B1,⟨l14,#[Iv n12,Iv n13,Iv n14,Iv n15,.string s0,.slice q6 l12 l13],45,true⟩] w8→let B2:Blk:=⟨l14,#[Iv n12,Iv n13,Iv n14,Iv n15,.string s0,.slice q6 l12 l13],45,true⟩;Dr (some (Addr.add a8 (Int.toNat n10*1))) λa9=>∃n16,World.cell? w8 a9=some (.int .u8 n16)∧(Int.tmod n16 3=0→aa_ PR 10 #[.pointer q1,Iv n15] w8 λv4 w9=>∃n17 n18 n19 s1 q7 l15 l16,v4=.agg #[Iv n17,Iv n18,Iv n19,.string s1,.slice q7 l15 l16]∧Fs S w [B1,B2] w9∧aa_ PR 9 #[.pointer q3,.agg #[Iv n17,Iv n18,Iv n19,.string s1,.slice q7 l15 l16]] w9 λv5 w10=>∃b2 v6,v5=.tuple #[.bool b2,v6]∧(b2=true→Fs S w [B1,B2] w10∧(v6=.nilIface→∃l17,l17<l11∧I1 (IntKind.wrap .i64 (n10+1)) (IntKind.wrap .i64 (n11+1)) l17 w10)∧(∀x0 v7,v6=.iface x0 v7→K (.bool false) w10)∧(v6=.nilIface∨∃l18 v8,v6=.iface l18 v8))∧(b2=false→Fs S w [B1,B2] w10∧K (.bool false) w10))∧(¬(Int.tmod n16 3=0)→(Int.tmod n16 3=1→aa_ PR 9 #[.pointer q3,.agg #[Iv 4,Iv 1,Iv n15,.string ⟨#[]⟩,.slice none 0 0]] w8 λv9 w11=>∃b3 v10,v9=.tuple #[.bool b3,v10]∧(b3=true→Fs S w [B1,B2] w11∧∃l19,l19<l11∧I1 (IntKind.wrap .i64 (n10+1)) (IntKind.wrap .i64 (n11+1)) l19 w11)∧(b3=false→Fs S w [B1,B2] w11∧∃l20,l20<l11∧I1 (IntKind.wrap .i64 (n10+1)) (IntKind.wrap .i64 (n11+1)) l20 w11))∧(¬(Int.tmod n16 3=1)→∃l21,l21<l11∧I1 (IntKind.wrap .i64 (n10+1)) (IntKind.wrap .i64 (n11+1)) l21 w8)))∧(¬(n10<(ly1:Int))→((0:Int)=0→∀w12,Fr S w w7 [l14] [B1,⟨l14,#[Iv n12,Iv n13,Iv n14,Iv n15,.string s0,.slice q6 l12 l13],45,true⟩] w12→let B3:Blk:=⟨l14,#[Iv n12,Iv n13,Iv n14,Iv n15,.string s0,.slice q6 l12 l13],45,true⟩;aa_ PR 10 #[.pointer q1,Iv n15] w12 λv11 w13=>∃n20 n21 n22 s2 q8 l22 l23,v11=.agg #[Iv n20,Iv n21,Iv n22,.string s2,.slice q8 l22 l23]∧Fs S w [B1,B3] w13∧aa_ PR 9 #[.pointer q3,.agg #[Iv n20,Iv n21,Iv n22,.string s2,.slice q8 l22 l23]] w13 λv12 w14=>∃b4 v13,v12=.tuple #[.bool b4,v13]∧(b4=true→Fs S w [B1,B3] w14∧(v13=.nilIface→∃l24,l24<l11∧I1 (IntKind.wrap .i64 (n10+1)) (IntKind.wrap .i64 (n11+1)) l24 w14)∧(∀x1 v14,v13=.iface x1 v14→K (.bool false) w14)∧(v13=.nilIface∨∃l25 v15,v13=.iface l25 v15))∧(b4=false→Fs S w [B1,B3] w14∧K (.bool false) w14))∧(¬((0:Int)=0)→((0:Int)=1→∀w15,Fr S w w7 [l14] [B1,⟨l14,#[Iv n12,Iv n13,Iv n14,Iv n15,.string s0,.slice q6 l12 l13],45,true⟩] w15→let B4:Blk:=⟨l14,#[Iv n12,Iv n13,Iv n14,Iv n15,.string s0,.slice q6 l12 l13],45,true⟩;aa_ PR 9 #[.pointer q3,.agg #[Iv 4,Iv 1,Iv n15,.string ⟨#[]⟩,.slice none 0 0]] w15 λv16 w16=>∃b5 v17,v16=.tuple #[.bool b5,v17]∧(b5=true→Fs S w [B1,B4] w16∧∃l26,l26<l11∧I1 (IntKind.wrap .i64 (n10+1)) (IntKind.wrap .i64 (n11+1)) l26 w16)∧(b5=false→Fs S w [B1,B4] w16∧∃l27,l27<l11∧I1 (IntKind.wrap .i64 (n10+1)) (IntKind.wrap .i64 (n11+1)) l27 w16))∧(¬((0:Int)=1)→∀w17,Fr S w w7 [l14] [B1,⟨l14,#[Iv n12,Iv n13,Iv n14,Iv n15,.string s0,.slice q6 l12 l13],45,true⟩] w17→∃l28,l28<l11∧I1 (IntKind.wrap .i64 (n10+1)) (IntKind.wrap .i64 (n11+1)) l28 w17))))∧(¬(n11<(l8:Int))→∃l29,l29<l5∧I0 n10 (IntKind.wrap .i64 (n1+1)) n6 n7 n8 n9 l29 w7))∧(¬(n1<IntKind.wrap .i64 ((7:Int)*(IntKind.wrap .i64 (IntKind.wrap .i64 ((ly1:Int)+(l6:Int))+2))))→aa_ PR 11 #[.pointer q3] w5 λv18 w18=>∃b6,v18=.bool b6∧(b6=true→Fs S w [B0] w18∧aa_ PR 12 #[.pointer q2,Iv 1] w18 λv19 w19=>∃b7,v19=.bool b7∧(b7=true→Fs S w [B0] w19∧aa_ PR 8 #[.pointer q3,Iv 9999,.slice (some (⟨l3,0,none⟩)) (Int.toNat (IntKind.wrap .i64 ((1:Int)+(Int.tmod (IntKind.wrap .i64 m2) 4))) - 0) 4] w19 λv20 w20=>∃q9 l30 l31,v20=.slice q9 l30 l31∧∃n23 n24 n25 n26,Fs S w [⟨l3,#[Iv n23,Iv n24,Iv n25,Iv n26],3,true⟩] w20∧((l30:Int)=0→K (.bool true) w20)∧(¬((l30:Int)=0)→K (.bool false) w20))∧(b7=false→Fs S w [B0] w19∧K (.bool false) w19))∧(b6=false→Fs S w [B0] w18∧K (.bool false) w18)))∧(b1=false→Fs S w [] w3∧K (.bool false) w3)))∧(b0=false→Fs S w [] w0∧K (.bool false) w0)):aa_ PR 3 ⟨[.slice y0 ly0 cy0,.slice y1 ly1 cy1,.int .u8 m2]⟩ w K:=
 ab_ (okf:=⟨okL,[]⟩) ag_ (args:=[.c (.v (.slice y0 ly0 cy0)),.c (.v (.slice y1 ly1 cy1)),.c (.v (.int .u8 m2))]) (H:=[]) (.s .z (.s (.s (.r ⟨(some []),false,[],[]⟩) .z) (.s (.r ⟨(some []),false,[],[]⟩) (.s .z (.s .z (.s (.r ⟨(some []),false,[],[]⟩) (.s .z (.s (.r ⟨(some []),false,[],[]⟩) (.s .z (.s (.s .z (.b (.l (some [12]) (some [12]) [(13,.c (.int .i64)),(14,.c (.int .i64))] [12] (.s .z (.s (.b (.s (.r ⟨(some [12]),false,[],[(3,[999])]⟩) (.b (.l (some [12]) (some [12]) [(13,.c (.int .i64)),(68,.c (.int .i64))] [] (.s .z (.s .z (.s (.b (.s (.r ⟨(some [12]),false,[],[]⟩) (.s .z (.s .z (.s .z (.s .z (.b (.s .z (.c (.s (.r ⟨(some [12,16]),false,[],[(6,[999])]⟩) .z) (.s .z (.c (.r ⟨(some [12,16]),false,[],[(5,[999])]⟩) .z))))))))))) .z))))))) .z))))) (.s (.r ⟨(some [12]),false,[],[(9,[999])]⟩) .z))))))))))) Go.Proofs.Tryz.func3 rfl ⟨trivial,trivial,trivial,trivial⟩ trivial (Fr.init S w) trivial (ac_ (by kernel_rfl) h)
end Go.Vc
namespace Go.Vc
open Go Go.MapKept
structure FdI (wP:World) (X:Nat→Prop) (b bh:Nat) (m:Man) (A N:Nat) (t:Int) (M:Nat) (w:World) (f:FS) (v:HV):Prop where
 ok:aY_ w f v
 fl:Fill f v m
 b:f.b=b
 bh:f.h.bh=bh
 ja:JA f t M
 cnt:N≤A+v.bl.length
 tr:∀p∈f.trs,0≤p.2∧p.2≤1+4*t
 hi:∀k,feA f k→wP.heap.size≤k∧¬X k
 gr:Grow wP w
theorem FdI.grow {wP:World} {X:Nat→Prop} {b bh:Nat} {m:Man} {A N:Nat} {t:Int} {M:Nat} {w w':World} {f:FS} {v:HV} (h:FdI wP X b bh m A N t M w f v) (g:Grow w w'):FdI wP X b bh m A N t M w' f v:=
 ⟨h.ok.grow g,h.fl,h.b,h.bh,h.ja,h.cnt,h.tr,h.hi,h.gr.trans g⟩
theorem FdI.blk {wP:World} {X:Nat→Prop} {b bh:Nat} {m:Man} {list:List (List UInt8)} {A N:Nat} {t:Int} {M:Nat} {w:World} {f:FS} {v:HV} (h:FdI wP X b bh m A N t M w f v) (hL:VerL m list) (hl40:list.length≤40) (hver:0≤m.version∧m.version≤1000000000) {j:Nat} (hj:j<list.length) (hnew:∀p∈v.bl,p.1≠(j:Int)) (hX:∀k,X k→k<w.heap.size) {y:Option Addr} {cy:Nat} (hs:Sl w y ((blkM m list j).proof.map sv8')) {K:Value→World→Prop}
  (hK:∀w' f' v' sl,FdI wP X b bh m A (N+1) t M w' f' v'→v'.bl=v.bl++[((j:Int),sl,ay_ (blkM m list j).text)]→f'.h.bh=f.h.bh→Chg (feS f) w w'→(∀k,feA f' k→feA f k∨w.heap.size≤k)→K (.tuple #[.bool true,.nilIface]) w') :
  aa_ PR F.a8_ ⟨[.pointer (some ⟨b,0,none⟩),oi_ (blkM m list j) y cy]⟩ w K:=by
 have hb:=h.b
 subst hb
 refine kV_ h.ok h.fl hL hl40 hver hj hs (λw' hin _=>?_) λw' f' v' sl hn hbl htr hb hbh hak htr' hask H' F' c hgr=>hK w' f' v' sl ⟨H',F',hb,hbh.trans h.bh,h.ja.sub (λi hi=>?_) (λp hp=>?_),?_,by rw [htr];exact h.tr,λk hk=>?_,h.gr.off c λi hi e=>?_⟩ hbl hbh c hgr
 ·obtain ⟨p,hp,e⟩:=hin
  exact absurd e (hnew p hp)
 ·refine (h.ok.miss i).2 ?_
  have h1:=ba_.1 ((H'.miss i).1 hi)
  rw [F'.man,← h.fl.man] at h1
  exact ba_.2 ⟨h1.1,λp hp=>h1.2 p (by rw [hbl];exact List.mem_append_left _ hp)⟩
 ·rw [hask] at hp
  exact (List.mem_filter.1 hp).1
 ·rw [hbl];simp only [List.length_append,List.length_cons,List.length_nil];have:=h.cnt;omega
 ·rcases hgr k hk with e | e
  ·exact h.hi k e
  ·have:=h.gr.size
   exact ⟨by omega,λhx=>by have:=hX k hx;omega⟩
 ·have:=(h.hi i (h7_ i e)).1;omega
theorem FdI.no {wP:World} {X:Nat→Prop} {b bh:Nat} {m:Man} {A N:Nat} {t:Int} {M:Nat} {w:World} {f:FS} {v:HV} (h:FdI wP X b bh m A N t M w f v) (hone:m.version=1) (hbl:v.bl.length≤40) {i:Int} (hi:bc_ i) (hN:N<A) {K:Value→World→Prop}
  (hK:∀w' f',FdI wP X b bh m A (N+1) t M w' f' v→Chg (feS f) w w'→(∀k,feA f' k→feA f k)→K (.tuple #[.bool false,.nilIface]) w') :
  aa_ PR F.a8_ ⟨[.pointer (some ⟨b,0,none⟩),.agg #[.int .i64 4,.int .i64 1,.int .i64 i,.string ⟨#[]⟩,.slice none 0 0]]⟩ w K:=by
 have hb:=h.b
 subst hb
 have hv1:f.ver=1:=by rw [h.fl.ver,hone]
 refine f4_ h.ok (h.fl.room hbl) (m:=⟨4,1,i,[],[]⟩) (y:=none) (cy:=0) (.inl rfl) (by show (0:Nat)≤1000000;decide) ⟨by rw [hv1];exact ⟨by decide,by decide⟩,hi⟩ (λw' _ e=>?_) (λw' H' c _ _=>hK w' (f.again i) ⟨H',h.fl.again i,rfl,h.bh,h.ja.sub (λn hn=>hn) (λp hp=>(List.mem_filter.1 hp).1),by have:=h.cnt;omega,h.tr,h.hi,h.gr.off c λk hk e=>?_⟩ c (λk hk=>hk)) (λw' e c f' _ _ _ hk _ _ _ _=>?_) (λw' _ hk _ _ _=>?_) (λw' c _ hk _ _ _ _=>?_) λw' j sl _ hk _ _ _ _ _ _ _=>?_
 ·rcases e with e | ⟨_,e⟩
  ·exact absurd hv1.symm e
  ·exact absurd rfl e
 ·have:=(h.hi k (h7_ k e)).1;omega
 ·cases hk
 ·cases hk
 ·cases hk
 ·cases hk
theorem FdI.tick {wP:World} {X:Nat→Prop} {b bh:Nat} {m:Man} {A N:Nat} {t:Int} {w:World} {f:FS} {v:HV} (h:FdI wP X b bh m A N t N w f v) (ht:0≤t∧t≤100000) {ps:List Int} (hp:ps.length≠0∧ps.length≤4) {y:Option Addr} {cy:Nat} (hs:Sl w y (ps.map iv)) (hy:∀a,y=some a→X a.block) {K:Value→World→Prop}
  (hK:∀w' q c,FdI wP (λk=>X k∨ak_ q k) b bh m A N (t+1) (N+(goL f v t ps.length).length) w' (f.tick v t ps.length) v→Sl w' q (((goL f v t ps.length).map λi=>(toV f ps i,i)).flatMap (askC f.ver))→Chg (feS f) w w'→K (.slice q (goL f v t ps.length).length c) w') :
  aa_ PR F.bu_ ⟨[.pointer (some ⟨b,0,none⟩),.int .i64 t,.slice y ps.length cy]⟩ w K:=by
 have hb:=h.b
 subst hb
 have hlt:=h.ok.at_.lt
 refine f3_ h.ok ⟨ht.1,by omega⟩ (λp hp'=>by have:=h.tr p hp';omega) (by omega) hs (λa ha=>⟨λe=>?_,λe=>?_⟩) λw' q c H' o' c' hq _=>hK w' q c ⟨H',h.fl.tick t ps.length,rfl,h.bh,h.ja.tick h.fl h.ok hp.1,h.cnt,λp hp'=>?_,λk hk=>⟨(h.hi k hk).1,?_⟩,h.gr.off c' λi hi e=>?_⟩ o'.sl c'
 ·have:=hy a ha
  rw [e] at this
  exact (h.hi f.wt.ak (.inr (.inl (.inr (.inr rfl))))).2 this
 ·have:=hy a ha
  rw [e] at this
  exact (h.hi f.tr (.inr (.inr (.inr rfl)))).2 this
 ·have h1:=p9_ (l:=goL f v t ps.length) (M:=1+4*t) (by omega) h.tr p hp'
  have h2:=qF_ h.fl t ps.length
  omega
 ·rintro (e | ⟨a,ha,e⟩)
  ·exact (h.hi k hk).2 e
  ·have h3:=hq a ha
   have h4:=hlt k hk
   omega
 ·have:=(h.hi i (h7_ i e)).1;omega
theorem FdI.less {wP:World} {X X':Nat→Prop} {b bh:Nat} {m:Man} {A N:Nat} {t:Int} {M:Nat} {w:World} {f:FS} {v:HV} (h:FdI wP X b bh m A N t M w f v) (hX:∀k,X' k→X k):FdI wP X' b bh m A N t M w f v:=
 ⟨h.ok,h.fl,h.b,h.bh,h.ja,h.cnt,h.tr,λk hk=>⟨(h.hi k hk).1,λe=>(h.hi k hk).2 (hX k e)⟩,h.gr⟩
theorem FdI.skip {wP:World} {X:Nat→Prop} {b bh:Nat} {m:Man} {A N:Nat} {t:Int} {M:Nat} {w:World} {f:FS} {v:HV} (h:FdI wP X b bh m A N t M w f v) (hN:N<A):FdI wP X b bh m A (N+1) t M w f v:=
 ⟨h.ok,h.fl,h.b,h.bh,h.ja,by have:=h.cnt;omega,h.tr,h.hi,h.gr⟩
theorem ii_ {w:World} {y:Option Addr} {c:Nat} {l:List (Int × Int)} (hs:Sl w y (encE l)) {y1:Option Addr} {c1:Nat} {os:List UInt8} (ho:Sl w y1 (os.map bv)) {k:Int} (hk:0≤k∧k≤255) {K:Value→World→Prop} (hK:∀w',Grow w w'→K (.bool true) w') :
  aa_ PR F.bb_ ⟨[.slice y l.length c,.slice y1 os.length c1,.int .u8 k]⟩ w K:=by
 refine bb_ y l.length c y1 os.length c1 k S0 K w ?_
 have hF00:Fs S0 w [] w:=.init _ w
 refine kM_ λw1 g1=>⟨true,rfl,(λ_=>⟨hF00.after g1,λl1 hl1 w2 hF2=>?_⟩),λh=>by cases h⟩
 refine iO_ (l:=l) (hF2.sl 0 rfl) (hs.grow hF2.gr) (λw3 a pc b m list g3 hsa hv hP hl60 hg=>⟨_,_,_,rfl,hF2.reset.after g3,(λh=>by cases h),λa0 ha0=>⟨λ_=>hK w3 (hF2.reset.after g3).gr,λh60=>?_⟩⟩) λw3 g3 hno=>⟨_,_,_,rfl,hF2.reset.after g3,(λ_=>hK w3 (hF2.reset.after g3).gr),λa h=>by cases h⟩
 have hF3:Fs S0 w [] w3:=(hF2.reset.after g3).sub (L':=[]) (List.nil_sublist _)
 have hL:=hP.ver
 have hl40:=hP.len
 have hpos:=hP.pos
 have hvv:=hL.ok.version
 have hblk:=hL.blocks
 have ho3:Sl w3 y1 (os.map bv):=ho.grow hF3.gr
 refine kh_ hsa λa2 ha2=>⟨_,ha2,?_⟩
 refine iK_ hv hL hP.sh (n:=100) (by decide) λw4 f0 v0 HF hvs hvm hvb hvo hver htr has hwin htmo hsl hlg hrl hws g4 hlow=>⟨_,_,true,rfl,(λ_=>⟨hF3.after g4,λl3 hl3=>?_⟩),λh=>by cases h⟩
 have hnp:Int.tmod (IntKind.wrap .i64 k) 4=k%4:=by rw [w64 (by omega) (by omega),Int.tmod_eq_emod_of_nonneg (by omega)]
 have hnp2:IntKind.wrap .i64 (1+k%4)=1+k%4:=w64 (by omega) (by omega)
 rw [hnp,hnp2]
 refine ⟨by omega,by omega,λw5 hF5=>?_⟩
 obtain ⟨np,hnpe⟩:∃np:Nat,np=(1+k%4).toNat - 0:=⟨_,rfl⟩
 have hnp1:1≤np∧np≤4:=by omega
 rw [← hnpe]
 have hbnum:(w3.heap.size≤w4.heap.size):=g4.size
 have hF5g:Grow w3 w5:=g4.trans hF5.grow
 obtain ⟨qm,cm,ql,cl,hb,hDb,hqm,hql,hlc⟩:=id hv
 have cellL:∀ {w':World},Grow w3 w'→w'.cell? (Addr.add ⟨b,0,none⟩ 6)=some (.slice ql list.length cl):=λg=>by
  rw [as_,au_ (Grow.get g hb)];rfl
 have hps:∀ {w':World},Sl w' (some ⟨l3,0,none⟩) [.int .i64 0,.int .i64 2,.int .i64 3,.int .i64 4]→Sl w' (some ⟨l3,0,none⟩) ((([0,2,3,4]:List Int).take np).map iv):=λh=>by
  rcases h with h | ⟨b',o,e,cs,T,fz,hh,hcs⟩
  ·cases h
  ·exact .inr ⟨b',o,e,cs,T,fz,hh,λi hi=>by
    have hi':i<4:=by
     rw [List.length_map,List.length_take] at hi
     have:([0,2,3,4]:List Int).length=4:=rfl
     omega
    have hi2:i<np:=by rw [List.length_map,List.length_take] at hi;omega
    rw [hcs i (by simpa using hi'),List.getElem?_map,List.getElem?_take,if_pos hi2]
    match i,hi' with
    | 0,_=>rfl
    | 1,_=>rfl
    | 2,_=>rfl
    | 3,_=>rfl⟩
 have hpl:(([0,2,3,4]:List Int).take np).length=np:=by
  rw [List.length_take]
  have:([0,2,3,4]:List Int).length=4:=rfl
  omega
 generalize hpse:([0,2,3,4]:List Int).take np=ps at hps hpl
 obtain ⟨T,hT⟩:∃T:Int,T=7*((os.length:Int)+list.length+2):=⟨_,rfl⟩
 have hTw:IntKind.wrap .i64 (7*IntKind.wrap .i64 (IntKind.wrap .i64 ((os.length:Int)+(list.length:Int))+2))=T:=by
  rw [w64 (n:=(os.length:Int)+(list.length:Int)) (by omega) (by omega),w64 (n:=(os.length:Int)+(list.length:Int)+2) (by omega) (by omega),w64 (by omega) (by omega),hT]
 have hone:=hP.one
 have hfl0:Fill f0 v0 m:=⟨hvs,hvm,hvo,by rw [hvb];exact List.nodup_nil,hwin,htmo,hver,hsl,by omega,by omega,by omega⟩
 have hlt0:=HF.at_.lt
 refine ⟨λn now n2 n3 n4 n5 lv w'=>n2=0∧n3=2∧n4=3∧n5=4∧0≤now∧now≤T∧lv=(T - now).toNat∧∃N:Nat,n=N∧∃f v,FdI w3 (λj=>j=l3) f0.b f0.h.bh m os.length N now N w' f v,
  ⟨_,rfl,rfl,rfl,rfl,Int.le_refl 0,by omega,rfl,0,rfl,f0,v0,⟨HF.grow hF5.grow,hfl0,rfl,rfl,.inr ⟨by omega,λp hp=>by rw [has] at hp;cases hp⟩,by omega,(λp hp=>by rw [htr] at hp;cases hp),λk hk=>⟨hlow k hk,λe=>by have:=hlt0 k hk;omega⟩,hF5g⟩⟩,?_⟩
 rintro n now n2 n3 n4 n5 D lv w6 ⟨rfl,rfl,rfl,rfl,hn0,hnT,hlv,N,rfl,f,v,I⟩ hF6
 have l3lt:l3<w6.heap.size:=aj_ (hF6.blk 0 rfl)
 have hTb:T≤100000:=by omega
 have offs:∀ {f':FS} {X:Nat→Prop} {t:Int} {N' M:Nat} {w':World} {v':HV},FdI w3 X f0.b f0.h.bh m os.length N' t M w' f' v'→∀k,k<w.heap.size→feS f' k→S0 k:=λI' k hk e=>by
  have h1:=(I'.hi k (h7_ k e)).1
  have h2:=hF3.gr.size
  omega
 refine ad_.2 (ad_.2 (ad_.2 ⟨ql,list.length,cl,cellL I.gr,λhlt=>?_,λhge=>?_⟩))
 ·rw [hTw] at hlt
  rw [← hpl]
  refine I.tick ⟨hn0,by omega⟩ (by omega) (hps (hF6.sl 0 rfl)) (λa ha=>by cases ha;rfl) λw7 q7 c7 I7 o7 ch7=>?_
  have hF7:=hF6.step ch7 (λz hz e=>by
   simp only [List.mem_cons,List.not_mem_nil,or_false] at hz;subst hz
   exact (I.hi l3 (h7_ _ e)).2 rfl) (offs I)
  generalize hLe:goL f v now ps.length=L at I7 o7 ⊢
  have hLm:∀i∈L,i∈bj_ v:=λi hi=>by rw [← hLe] at hi;exact q1_ hi
  have hLs:L.Pairwise (· < ·):=by rw [← hLe];exact mU_ _ _ _ _
  have hL4:L.length≤4:=by rw [← hLe];exact qF_ I.fl _ _
  refine ⟨_,_,_,rfl,_,_,_,_,hF7,?_⟩
  refine ⟨λn p lv w'=>∃P N':Nat,p=P∧n=N'∧P≤L.length∧N'=N+P∧lv=L.length - P∧∃f' v',FdI w3 (λk=>k=l3∨ak_ q7 k) f0.b f0.h.bh m os.length N' (now+1) (N+L.length) w' f' v'∧(∀j i,P≤j→L[j]? = some i→∀p∈v'.bl,p.1≠i)∧Sl w' q7 ((L.map λi=>(toV f ps i,i)).flatMap (askC f.ver)),⟨_,0,N,rfl,rfl,Nat.zero_le _,rfl,rfl,_,v,I7,λj i _ hj p hp=>?_,o7⟩,?_⟩
  ·exact (ba_.1 (hLm i (List.mem_of_getElem? hj))).2 p hp
  rintro n p D1 lv1 w8 ⟨P,N',rfl,rfl,hPL,hN',hlv1,f',v',I8,hnew,o8⟩ hF8
  refine ⟨λhlt8=>?_,λhge8=>?_⟩
  ·have hP:P<L.length:=by omega
   have hne:((L.map λi=>(toV f ps i,i)).flatMap (askC f.ver))≠[]:=λe=>by
    have:=bM_ (fg_ f.ver) (L.map λi=>(toV f ps i,i))
    rw [e,List.length_map] at this
    simp at this;omega
   have hXlt:∀k,(k=l3∨ak_ q7 k)→k<w8.heap.size:=by
    rintro k (rfl | ⟨a,ha,rfl⟩)
    ·exact aj_ (hF8.blk 0 rfl)
    ·rcases o8 with h | ⟨b',o',e,cs,T',fz,hh,_⟩
     ·exact absurd h hne
     ·rw [ha] at e;cases e;exact aj_ hh
   have hPm:P<(L.map λi=>(toV f ps i,i)).length:=by rw [List.length_map];exact hP
   refine o8.rdN (fg_ f.ver) (by decide) (n:=(P:Int)) (k:=P) (m:=L.length) rfl hPm hP λa9 h9=>?_
   have el:(L.map λi=>(toV f ps i,i))[P]=(toV f ps L[P],L[P]):=by simp
   rw [el] at h9
   refine ⟨_,h9 0 _ rfl,_,h9 1 _ rfl,_,h9 2 _ rfl,_,h9 3 _ rfl,_,h9 4 _ rfl,_,_,_,h9 5 _ rfl,λl14 hl14=>?_⟩
   have hLP:L[P]? = some L[P]:=List.getElem?_eq_getElem hP
   have hmi:=ba_.1 (hLm L[P] (List.getElem_mem hP))
   obtain ⟨j,hj⟩:=Int.eq_ofNat_of_zero_le hmi.1.1
   have hjl:j<list.length:=by
    have h1:=hmi.1.2
    rw [I.fl.man,hblk,hj] at h1;omega
   have hnj:∀p∈v'.bl,p.1≠(j:Int):=λp hp=>by rw [← hj];exact hnew P L[P] (Nat.le_refl _) hLP p hp
   have hblen:=I8.fl.le I8.ok hblk
   have next:∀ {w':World} {f2:FS} {v2:HV},FdI w3 (λk=>k=l3∨ak_ q7 k) f0.b f0.h.bh m os.length (N'+1) (now+1) (N+L.length) w' f2 v2→(∀p∈v2.bl,p∈v'.bl∨p.1=(j:Int))→Sl w' q7 ((L.map λi=>(toV f ps i,i)).flatMap (askC f.ver))→
     ∃l19:Nat,l19<lv1∧(∃P2 N2:Nat,IntKind.wrap .i64 ((P:Int)+1)=P2∧IntKind.wrap .i64 ((N':Int)+1)=N2∧P2≤L.length∧N2=N+P2∧l19=L.length - P2∧∃f' v',FdI w3 (λk=>k=l3∨ak_ q7 k) f0.b f0.h.bh m os.length N2 (now+1) (N+L.length) w' f' v'∧(∀j i,P2≤j→L[j]? = some i→∀p∈v'.bl,p.1≠i)∧Sl w' q7 ((L.map λi=>(toV f ps i,i)).flatMap (askC f.ver))):=λ{w' f2 v2} I2 hb2 o2=>by
    have hN2:=I8.cnt
    refine ⟨L.length - (P+1),by omega,P+1,N'+1,by rw [w64 (by omega) (by omega)];rfl,by rw [w64 (by omega) (by omega)];rfl,by omega,by omega,rfl,f2,v2,I2,λj' i hj' hi p hp=>?_,o2⟩
    rcases hb2 p hp with h | h
    ·exact hnew j' i (by omega) hi p h
    ·rw [h,← hj]
     have hj'l:j'<L.length:=by
      rcases Nat.lt_or_ge j' L.length with h | h
      ·exact h
      ·rw [List.getElem?_eq_none h] at hi;cases hi
     rw [List.getElem?_eq_getElem hj'l] at hi
     cases hi
     have:=List.pairwise_iff_getElem.1 hLs P j' hP hj'l (by omega)
     omega
   have hbl8:∀ {w':World},Grow w3 w'→VerO (λk=>k<w2.heap.size) w' b m list:=λg=>hv.keep (D':=λk=>k<w2.heap.size) g (λ_ _ e=>e.elim) λ_ _ e=>e
   have o8k:∀ {w9 w':World},Grow w8 w9→Chg (feS f') w9 w'→Sl w' q7 ((L.map λi=>(toV f ps i,i)).flatMap (askC f.ver)):=λg ch=>(o8.grow g).keep ch λa ha e=>(I8.hi a.block (h7_ _ e)).2 (.inr ⟨a,ha,rfl⟩)
   have l14n:¬feS f' l14:=λe=>by have:=I8.ok.at_.lt l14 (h7_ _ e);omega
   have l3n:¬feS f' l3:=λe=>(I8.hi l3 (h7_ _ e)).2 (.inl rfl)
   have hjn:L[P].toNat=j:=by omega
   have offL:∀ {c1 c2:Array Value} {t1 t2:TypeId} {b1 b2:Bool},∀z,z∈[(⟨l3,c1,t1,b1⟩:Blk),⟨l14,c2,t2,b2⟩]→¬feS f' z.b:=λz hz e=>by
    simp only [List.mem_cons,List.not_mem_nil,or_false] at hz
    rcases hz with rfl | rfl
    ·exact l3n e
    ·exact l14n e
   refine ⟨λhlta=>?_,λhgea=>?_⟩
   ·have hos:N'<os.length:=by omega
    have hosne:os.map bv≠[]:=λe=>by rw [List.map_eq_nil_iff] at e;rw [e] at hos;exact absurd hos (by simp)
    obtain ⟨yb,yo,ey,_⟩:=ho3.ex hosne
    have ho9:∀ {w':World},Grow w3 w'→w'.cell? (Addr.add ⟨yb,yo,none⟩ ((N':Int).toNat*1))=some (bv os[N']):=λg=>by
     obtain ⟨yb',yo',ey',hc⟩:=(ho3.grow g).ex hosne
     rw [ey] at ey';cases ey'
     rw [as_,Int.toNat_natCast,Nat.mul_one,hc N' (by simpa using hos)]
     simp [hos]
    rw [ey]
    refine ad_.2 ⟨by omega,by omega,λw9 hF9=>ad_.2 ⟨_,ho9 (I8.gr.trans (hF9.unM hl14).grow),λh0=>?_,λh0=>⟨λh1=>?_,λh1=>?_⟩⟩⟩
    ·have g9:=(hF9.unM hl14).grow
     have hF9':=hF9.reset
     refine dW_ (hbl8 (I8.gr.trans g9)) hL (i:=L[P]) (λw10 qb cb hi0 hi1 gb hsb _=>⟨_,_,_,_,_,_,_,rfl,hF9'.after gb,?_⟩) λw10 hno _=>absurd ⟨by omega,by omega⟩ hno
     rw [hjn] at hsb ⊢
     have hFa:=hF9'.after gb
     have Ia:=I8.grow (g9.trans gb)
     refine Ia.blk hL hl40 ⟨by omega,by omega⟩ hjl hnj (λk hk=>Nat.lt_of_lt_of_le (hXlt k hk) (g9.trans gb).size) hsb λw11 f2 v2 sl I2 hb2 _ ch2 _=>⟨true,.nilIface,rfl,(λ_=>⟨hFa.step ch2 offL (offs I8),λ_=>next I2 (λp hp=>?_) (o8k (g9.trans gb) ch2),(λx v h=>by cases h),.inl rfl⟩),λh=>by cases h⟩
     rw [hb2] at hp
     rcases List.mem_append.1 hp with h | h
     ·exact .inl h
     ·simp at h;subst h;exact .inr rfl
    ·have g9:=(hF9.unM hl14).grow
     have hF9':=hF9.reset
     have Ia:=I8.grow g9
     refine Ia.no hone (by omega) (i:=L[P]) ⟨by omega,by omega⟩ hos λw11 f2 I2 ch2 _=>⟨false,.nilIface,rfl,(λh=>by cases h),λ_=>⟨hF9'.step ch2 offL (offs I8),next I2 (λp hp=>.inl hp) (o8k g9 ch2)⟩⟩
    ·have g9:=(hF9.unM hl14).grow
     exact next ((I8.grow g9).skip hos) (λp hp=>.inl hp) (o8.grow g9)
   ·refine ⟨λ_ w9 hF9=>?_,λh=>absurd rfl h⟩
    have g9:=(hF9.unM hl14).grow
    have hF9':=hF9.reset
    refine dW_ (hbl8 (I8.gr.trans g9)) hL (i:=L[P]) (λw10 qb cb hi0 hi1 gb hsb _=>⟨_,_,_,_,_,_,_,rfl,hF9'.after gb,?_⟩) λw10 hno _=>absurd ⟨by omega,by omega⟩ hno
    rw [hjn] at hsb ⊢
    have hFa:=hF9'.after gb
    have Ia:=I8.grow (g9.trans gb)
    refine Ia.blk hL hl40 ⟨by omega,by omega⟩ hjl hnj (λk hk=>Nat.lt_of_lt_of_le (hXlt k hk) (g9.trans gb).size) hsb λw11 f2 v2 sl I2 hb2 _ ch2 _=>⟨true,.nilIface,rfl,(λ_=>⟨hFa.step ch2 offL (offs I8),λ_=>next I2 (λp hp=>?_) (o8k (g9.trans gb) ch2),(λx v h=>by cases h),.inl rfl⟩),λh=>by cases h⟩
    rw [hb2] at hp
    rcases List.mem_append.1 hp with h | h
    ·exact .inl h
    ·simp at h;subst h;exact .inr rfl
  ·have hPe:P=L.length:=by omega
   subst hPe
   have e1:IntKind.wrap .i64 (now+1)=now+1:=w64 (by omega) (by omega)
   rw [e1]
   refine ⟨(T - (now+1)).toNat,by omega,rfl,rfl,rfl,rfl,by omega,by omega,rfl,N',rfl,f',v',?_⟩
   subst hN'
   exact I8.less λk hk=>.inl hk
 ·rw [hTw] at hge
  have hnowT:now=T:=by omega
  have hble:=I.fl.le I.ok hblk
  have hcnt:=I.cnt
  have hall:∀i,¬f.wt.miss i:=by
   rcases I.ja with h | ⟨h,_⟩
   ·exact h
   ·omega
  have hwh:=(I.fl.whole I.ok hblk).2 hall
  have hmis:bj_ v=[]:=List.eq_nil_iff_forall_not_mem.2 λi hi=>hall i ((I.ok.miss i).2 hi)
  have hbb:=I.b
  have hhh:=I.bh
  rw [← hbb,← hhh]
  refine f5_ I.ok.at_ (λw7 g7 _=>⟨true,rfl,(λ_=>⟨hF6.after g7,?_⟩),λh=>by cases h⟩) λw7 i7 g7 hi7=>absurd hi7 (hall i7)
  have I7:=I.grow g7
  have hF7:=hF6.after g7
  refine m6_ I7.ok.at_.hat (n:=1) ⟨by decide,by decide⟩ (λw8 g8 u hu _=>?_) λw8 g8 hno=>absurd (I.fl.man ▸ hone) (hno v I.ok.mem)
  have hu':u=v:=by rw [I.fl.one] at hu;simpa using hu
  subst hu'
  have hdec:decide ((u.bl.length:Int)=u.man.blocks)=true:=decide_eq_true (by rw [I.fl.man,hblk,hwh])
  rw [hdec]
  refine ⟨true,rfl,(λ_=>⟨hF7.after g8,?_⟩),λh=>by cases h⟩
  have I8:=I7.grow g8
  have hF8:=hF7.after g8
  rw [← hpl]
  refine f3_ I8.ok (now:=9999) ⟨by decide,by decide⟩ (λp hp=>by have:=I.tr p hp;omega) (by omega) (hps (hF8.sl 0 rfl)) (λa ha=>by
   cases ha
   exact ⟨λe=>(I.hi f.wt.ak (.inr (.inl (.inr (.inr rfl))))).2 e.symm,λe=>(I.hi f.tr (.inr (.inr (.inr rfl)))).2 e.symm⟩) λw9 q9 c9 _ _ ch9 _ _=>?_
  rw [p6_ hmis]
  exact ⟨_,_,_,rfl,_,_,_,_,hF8.step ch9 (λz hz e=>by
   simp only [List.mem_cons,List.not_mem_nil,or_false] at hz;subst hz
   exact (I.hi l3 (h7_ _ e)).2 rfl) (offs I),λ_=>hK w9 (hF8.step ch9 (λz hz e=>by
   simp only [List.mem_cons,List.not_mem_nil,or_false] at hz;subst hz
   exact (I.hi l3 (h7_ _ e)).2 rfl) (offs I)).gr,λh=>absurd rfl h⟩
end Go.Vc
namespace Go.Vc
open Go Go.ChangeShapes Go.WideShapes Go.ChangeAt Go.RowKit Go.Deep Go.Proofs Go.Proofs.YthcpblejnhhhdaaGreat
theorem pI_:PR.readableRec T.bG_=true:=by kernel_rfl
theorem qx_:PR.underlying T.bG_=some (.slice T.aq_):=by kernel_rfl
theorem sd_:PR.cellsOf T.aq_=2:=by kernel_rfl
theorem sa_:flds T.aq_=some [(T.int,0),(T.int,1)]:=by kernel_rfl
theorem pJ_:PR.readableRec T.aQ_=true:=by kernel_rfl
theorem qy_:PR.underlying T.aQ_=some (.slice T.uint8):=by kernel_rfl
theorem se_:PR.cellsOf T.uint8=1:=by kernel_rfl
theorem qO_:PR.underlying T.uint8=some (.int .u8):=by kernel_rfl
section
variable {H:Type} {enc:TypeId × Value→H} {w:World} {base:Nat} {spare:Nat→Bool} {held:Bool}
theorem ra_ {n:Nat} {cs:List Value} {x:DataW H × List MemPlace} (hx:DataW.trod enc PR w base spare held n T.aq_ cs=some x) (hlen:cs.length=2):∃e:Int × Int,cs=[.int .i64 e.1,.int .i64 e.2]:=by
 obtain ⟨m,hm⟩:=nI_ sa_ hx
 obtain ⟨y0,h0⟩:=hm 0 _ rfl
 obtain ⟨y1,h1⟩:=hm 1 _ rfl
 match cs,hlen with
 | [v0,v1],_=>
  rw [show PR.cellsOf (T.int,0).1=1 from cInt] at h0
  rw [show PR.cellsOf (T.int,1).1=1 from cInt] at h1
  obtain ⟨n0,e0,_,_⟩:=DataW.trod_int uInt h0
  obtain ⟨n1,e1,_,_⟩:=DataW.trod_int uInt h1
  obtain rfl:v0=.int .i64 n0:=(List.cons.inj e0).1
  obtain rfl:v1=.int .i64 n1:=(List.cons.inj e1).1
  exact ⟨(n0,n1),rfl⟩
theorem qd_ {fuel:Nat} {v:Value} {x:DataW H × List MemPlace} (h:DataW.trod enc PR w base spare held fuel T.bG_ [v]=some x):∃(q:Option Addr) (l:List (Int × Int)) (c:Nat),v=.slice q l.length c∧Sl w q (encE l):=by
 obtain ⟨q,l,c,h1,h2,_,_⟩:=l8_ (α:=Int × Int) (s:=2) (f:=λe=>[.int .i64 e.1,.int .i64 e.2]) (λ_=>rfl) (by decide) qx_ sd_ (G:=λ_=>True) (λn cs x hx hlen=>by
  obtain ⟨e,he⟩:=ra_ hx hlen
  exact ⟨e,he,trivial⟩) h
 exact ⟨q,l,c,h1,h2⟩
theorem iI_ {n:Int} (h:(Lit.int .u8 n).wf=true):0≤n∧n≤255:=by
 simp [Lit.wf,IntKind.min,IntKind.max,IntKind.bits,IntKind.signed] at h;omega
theorem ql_ {fuel:Nat} {v:Value} {x:DataW H × List MemPlace} (h:DataW.trod enc PR w base spare held fuel T.aQ_ [v]=some x):∃(q:Option Addr) (l:List UInt8) (c:Nat),v=.slice q l.length c∧Sl w q (l.map bv):=by
 obtain ⟨q,l,c,h1,h2,_,_⟩:=l8_ (α:=UInt8) (s:=1) (f:=λn=>[bv n]) (λ_=>rfl) (by decide) qy_ se_ (G:=λ_=>True) (λn cs x hx hlen=>by
  obtain ⟨n0,e0,_,hwf⟩:=DataW.trod_int qO_ hx
  have hr:=iI_ hwf
  refine ⟨UInt8.ofNat n0.toNat,?_,trivial⟩
  rw [e0]
  unfold bv
  have e1:((UInt8.ofNat n0.toNat).toNat:Int)=n0:=by
   rw [UInt8.toNat_ofNat',Nat.mod_eq_of_lt (a:=n0.toNat) (b:=2 ^ 8) (by omega)];omega
  rw [e1]) h
 rw [p__] at h2
 exact ⟨q,l,c,h1,h2⟩
end
theorem n7_:Tryz.f3.params=#[T.bG_,T.aQ_,T.uint8]:=by kernel_rfl
theorem r7_:PR.readableRec T.uint8=true:=by kernel_rfl
theorem oV_ (H:Type) (enc:TypeId × Value→H) (W:World) (base:Nat) (args:Array Value) (ds gs:List (DataW H)) (before:List MemPlace)
  (hval:∀(j:Nat) t v,Tryz.f3.params[j]? = some t→args[j]? = some v→Value.okWide Tryz.prog W .any base t v)
  (hW:DataW.Whole enc Tryz.prog Tryz.f3.params.toList Rows.fetchDoneSpec.vars false W args.toList ds gs before) :
  Calls Tryz.prog 3 args W λe W'=>∃v,e=.returned v∧Rows.fetchDoneSpec.post enc Tryz.prog Tryz.f3 false true false false W args v W':=by
 have hW':=hW
 obtain ⟨p,q,hA0,hV,rfl,hfz,hnd⟩:=hW
 have hA:DataW.TrodAll enc Tryz.prog W 0 (λ_=>true) true Tryz.f3.params.toList args.toList ds p:=hA0
 rw [n7_] at hA hval
 obtain ⟨v0,v1,v2,d0,d1,d2,p0,p1,p2,rfl,rfl,rfl,h0,h1,h2⟩:=trodAll_three hA
 obtain ⟨rfl,rfl⟩:=trodVars_none hV
 have h0k:=h0
 have h1k:=h1
 have h2k:=h2
 obtain ⟨q1,l1,c1,rfl⟩:=okWide_slice qx_ (hval 0 _ _ rfl rfl)
 obtain ⟨q2,l2,c2,rfl⟩:=okWide_slice qy_ (hval 1 _ _ rfl rfl)
 obtain ⟨k,rfl⟩:=okWide_int qO_ (hval 2 _ _ rfl rfl)
 obtain ⟨fuel1,hf1⟩:=h0
 obtain ⟨fuel2,hf2⟩:=h1
 obtain ⟨fuel3,hf3⟩:=h2
 obtain ⟨k',e,_,hwf⟩:=DataW.trod_int qO_ hf3
 cases e
 obtain ⟨y,l,c,e,sl⟩:=qd_ (v:=.slice q1 l1 c1) hf1
 cases e
 obtain ⟨y2,os,cc,e,so⟩:=ql_ (v:=.slice q2 l2 c2) hf2
 cases e
 have hl0:∀x∈p0++(p1++p2),x.block<W.heap.size:=λx hx=>hW'.lt x (by simpa using hx)
 refine ii_ sl so (iI_ hwf) λW' g=>?_
 have hb:=jM_ g
 refine i9_ (pa:=p0++(p1++(p2++[]))) (pv:=[]) hW' (λ_ _ _=>trodAll_cons_mk (shut_bool ru_ _) trodAll_mk0)
  (λsp hsp=>?_) (λ_ _=>rfl) (by simp) hb (ok_one (by kernel_rfl) rfl (okWide_bool_mk ru_ _))
 rw [n7_]
 have stay:∀ {t:TypeId} {v:Value} {d:DataW H} {q:List MemPlace},PR.readableRec t=true→decide (t<PR.types.size)=true→(∀x∈q,x∈p0++(p1++p2))→DataW.Trod enc PR W 0 (λ_=>true) true t v d q→DataW.Trod enc PR W' 0 sp true t v d q:=λhr hz hq h=>
  WideElems.Trod_stays layG hr (of_decide_eq_true hz) h (λx hx=>hb.same (hl0 x (hq x hx))) (λx hx=>hsp x (by simpa using hq x hx))
 exact trodAll_cons_mk (stay pI_ (by kernel_rfl) (λx hx=>by simp [hx]) h0k) (trodAll_cons_mk (stay pJ_ (by kernel_rfl) (λx hx=>by simp [hx]) h1k) (trodAll_cons_mk (stay r7_ (by kernel_rfl) (λx hx=>by simp [hx]) h2k) trodAll_mk0))
def zInX:Array Value:=#[.slice none 0 0,.slice none 0 0,.int .u8 0]
theorem rC_ (os:Os) {H:Type} (enc:TypeId × Value→H):∃places,DataW.whole enc Tryz.prog ((World.settled Tryz.prog os).forCall (λ_ _=>0) ⟨#[],zInX,[]⟩).memory Tryz.f3.params.toList Rows.fetchDoneSpec.vars false zInX.toList 8 =
  some ([.nil,.nil,.lit (.int .u8 0)],[],places):=⟨[],by kernel_rfl⟩
theorem q3_ (os:Os) (started:os.Started) (H:Type) (enc:TypeId × Value→H) (F:Stop.Interp) :
  ReturnsInHanded {} Tryz.checked os 3 .any ((OpenSpec.ofChange Rows.fetchDoneSpec).preRow enc Tryz.prog Tryz.f3 Rows.fetchDoneRow.domain false Rows.fetchDoneRow.laid) (((OpenSpec.ofChange Rows.fetchDoneSpec).at F).post enc Tryz.prog Tryz.f3 false true false false):=by
 obtain ⟨places,hx⟩:=rC_ os enc
 refine returnsInHanded_of_row (C:=Tryz.checked) (s:=OpenSpec.ofChange Rows.fetchDoneSpec) ownG started (by kernel_rfl) Tryz.func3
  (witness_row_atRef (enc:=enc) (C:=Tryz.checked) false (World.settled Tryz.prog os) zInX rfl (by kernel_rfl) (by kernel_rfl) (by kernel_rfl)
   (OpenSpec.preRow_of_cond 8 hx (by kernel_rfl) (λk hk=>by cases hk) (by kernel_rfl) (show laidMetH _ [] _ from ⟨[],rfl,List.nodup_nil,λb off h=>by cases h⟩))) ?_
 intro W base args ds gs before hval hW _ _ _ hL hsh _
 exact oV_ H enc W base args ds gs before hval hW
set_option maxHeartbeats 4000000 in
theorem rd_:joinedFacts Tryz.pinned.checked.prog 3 Tryz.f3 (OpenSpec.ofChange Rows.fetchDoneSpec).bare Rows.fetchDoneRow=true:=by
 unfold joinedFacts
 repeat' with_reducible refine Bool.and_eq_true_iff.2 ⟨?_,?_⟩
 all_goals (as_aux_lemma=>kernel_rfl)
theorem rG_:Tryz.pinned.checked.prog.funcNamed Rows.fetchDoneRow.func=some 3:=by kernel_rfl
theorem saidX:Rows.FetchDoneSaid:=
 OpenClaim.holds_of_cond 3 Tryz.f3 rfl rfl rfl rfl rfl rfl rfl ⟨rfl,rfl,rfl,rfl,rfl⟩ rfl rfl rfl rfl rfl rG_ Tryz.func3 rd_
  (of_decide_eq_true (by kernel_rfl)) (by unfold Func.isWrapper;first | (rw [if_pos (by decide +kernel)];kernel_rfl) | (rw [if_neg (by decide +kernel)];exact ⟨rfl,rfl⟩))
  (λos started H enc _ F=>by rw [OpenClaim.pre_eq_preRow];exact q3_ os started H enc F)
end Go.Vc
