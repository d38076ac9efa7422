/-
  A part of the proof of the statement FetchPlaysCardSaid, in Lean: Fp0, Aw20, Fp1, Fp2, MirF13, Fps, Fp3a, Sy10. By an AI agent.
-/
import Derived.Test.YthcpblejnhhhdaaGreatDoorP12
import Derived.Test.YthcpblejnhhhdaaGreatDoorP02
import Derived.Test.YthcpblejnhhhdaaGreatDoorP06
import Derived.Test.YthcpblejnhhhdaaGreatDoorP08
import Derived.Test.YthcpblejnhhhdaaGreatDoorP04
import Derived.Test.YthcpblejnhhhdaaGreatDoorP07
import Derived.Test.YthcpblejnhhhdaaGreatDoorP11
set_option linter.unusedSimpArgs false
set_option linter.unusedVariables false
set_option maxRecDepth 100000
namespace Go.Vc
open Go Go.MapKept
open Go.ChangeMaps (setBlock)
structure eQ_ (w:World) (r ri:Nat) (l:List (Int × Value)) (done:List Int):Prop where
  nd:(l.map (·.1)).Nodup
  fit:∀p∈l,aM_ p.1
  ex:∃es since seen c0 clock,w.heap[r]? = some (.map es clock)∧Stamped es clock∧w.heap[ri]? = some (.mapIter (some r) since seen c0)∧(∀x∈es.toList,x.born<since)∧since≤c0∧since≤clock∧(∀x∈es.toList,∃p∈l,x.key=.int .i64 p.1∧x.val=p.2)∧(∀p∈l,∃x∈es.toList,x.key=.int .i64 p.1∧x.val=p.2)∧∀x∈es.toList,seen.contains x.born=true↔∃i∈done,x.key=.int .i64 i
theorem eQ_.keep {S:Nat→Prop} {w w':World} {r ri:Nat} {l:List (Int × Value)} {done:List Int} (h:eQ_ w r ri l done) (g:Chg S w w') (h1:¬S r) (h2:¬S ri):eQ_ w' r ri l done:=by
  obtain ⟨es,since,seen,c0,clock,e1,e2,e3,e4⟩:=h.ex
  exact ⟨h.nd,h.fit,es,since,seen,c0,clock,g.get e1 h1,e2,g.get e3 h2,e4⟩
theorem eQ_.grow {w w':World} {r ri:Nat} {l:List (Int × Value)} {done:List Int} (h:eQ_ w r ri l done) (g:Grow w w'):eQ_ w' r ri l done:=h.keep g id id
theorem eQ_.lt {w:World} {r ri:Nat} {l:List (Int × Value)} {done:List Int} (h:eQ_ w r ri l done):ri<w.heap.size:=by
  obtain ⟨es,since,seen,c0,clock,e1,e2,e3,e4⟩:=h.ex;exact aj_ e3
theorem eQ_.map {w:World} {r ri:Nat} {l:List (Int × Value)} {done:List Int} (h:eQ_ w r ri l done):MapI w r l:=by
  obtain ⟨es,since,seen,c0,clock,e1,e2,e3,e4,e5,e6,e7,e8,e9⟩:=h.ex
  refine .of (n:=es.size) (R:=grI l) ⟨es,clock,e1,e2,Nat.le_refl _,λx hx=>?_,λkey v=>⟨λ⟨p,hp,h1,h2⟩=>?_,λ⟨x,hx,h1,h2⟩=>?_⟩⟩ h.nd h.fit λkey v=>Iff.rfl
  · obtain ⟨p,hp,k1,_⟩:=e7 x hx
    exact ⟨_,by rw [k1];exact b0_ (h.fit p hp).1 (h.fit p hp).2⟩
  · obtain ⟨x,hx,k1,k2⟩:=e8 p hp
    exact ⟨x,hx,k1.trans h1.symm,k2.trans h2.symm⟩
  · obtain ⟨p,hp,k1,k2⟩:=e7 x hx
    exact ⟨p,hp,h1 ▸ k1,h2 ▸ k2⟩
theorem pd_ {t e:TypeId} (ht:PR.underlying t=some (.map T.int e)) {w:World} {r:Nat} {l:List (Int × Value)} (h:MapI w r l) {K:Value→World→Prop}
    (hK:∀w' ri,ri=w.heap.size→eQ_ w' r ri l []→Grow w w'→K (.pointer (some ⟨ri,0,none⟩)) w'):rn PR (Instr.range t (.map (some r))) K w:=
  hU_ ht h λw' ri e hi g=>hK w' ri e ⟨hi.nd,h.fit,hi.ex⟩ g
theorem q3_ {ty:TypeId} {w:World} {r ri:Nat} {l:List (Int × Value)} {done:List Int} (h:eQ_ w r ri l done) {K:Value→World→Prop}
    (hE:(∀p∈l,p.1∈done)→K (.tuple #[.bool false]) w)
    (hN:∀p w',p∈l→p.1∉done→eQ_ w' r ri l (p.1 :: done)→(Instr.entry (.pointer (some ⟨ri,0,none⟩))).run PR w'=.ok (.tuple #[.int .i64 p.1,p.2]) w'→Chg (· = ri) w w'→w'.heap.size=w.heap.size→K (.tuple #[.bool true,.int .i64 p.1,p.2]) w') :
    rn PR (Instr.next (.pointer (some ⟨ri,0,none⟩)) false ty) K w:=by
  obtain ⟨es,since,seen,c0,clock,e1,e2,e3,e4,e5,e6,e7,e8,e9⟩:=h.ex
  rcases run_next_at (P:=PR) w ty ri r since c0 seen es clock e3 e1 e4 e5 with ⟨h0,hrun⟩ | ⟨x,hx,w1,hal,hrun⟩
  · refine do_ hrun (hE λp hp=>?_)
    obtain ⟨x,hx,k1,k2⟩:=e8 p hp
    obtain ⟨i,hi,k3⟩:=(e9 x hx).1 (all_seen es seen h0 x hx)
    rw [k1] at k3
    rw [int_inj k3];exact hi
  · obtain ⟨hm,hs⟩:=mem_left hx
    obtain ⟨p,hp,k1,k2⟩:=e7 x hm
    have hnd:p.1∉done:=λhd=>by
      have:=(e9 x hm).2 ⟨p.1,hd,k1⟩
      rw [this] at hs;cases hs
    have hri:ri≠r:=λe=>by rw [e,e1] at e3;cases e3
    have g1:Grow w w1:=by rcases hal with rfl | rfl;exact .refl _ _;exact .drew _
    have hr1:w1.heap[ri]? = some (.mapIter (some r) since seen c0):=by rcases hal with rfl | rfl <;> exact e3
    have hb1:w1.heap[r]? = some (.map es clock):=by rcases hal with rfl | rfl <;> exact e1
    have sz:w1.heap.size=w.heap.size:=by rcases hal with rfl | rfl <;> rfl
    have g2:Chg (· = ri) w1 (setBlock w1 ri (.mapIter (some r) since (seen.push x.born) clock)):=hr_ _ _ _
    have hr2:=fZ_ (o':=.mapIter (some r) since (seen.push x.born) clock) hr1
    have hb2:=g2.get hb1 hri.symm
    have sz2:(setBlock w1 ri (.mapIter (some r) since (seen.push x.born) clock)).heap.size=w1.heap.size:=by simp [setBlock]
    refine do_ hrun ?_
    rw [k1,k2]
    refine hN p _ hp hnd ⟨h.nd,h.fit,es,since,seen.push x.born,clock,clock,hb2,e2,hr2,e4,e6,e6,e7,e8,λy hy=>?_⟩ ?_ (g1.chg.trans g2 λk _ e=>e) (by rw [sz2,sz])
    · by_cases hye:y.born=x.born
      · have:y=x:=born_inj e2.2.1 hy hm hye
        subst this
        simp only [Array.contains_push,List.mem_cons]
        exact ⟨λ_=>⟨p.1,.inl rfl,k1⟩,λ_=>by simp⟩
      · have hkey:y.key≠.int .i64 p.1:=λe=>by
          have:y=x:=by
            obtain ⟨i,hi⟩:=List.getElem?_of_mem hy
            obtain ⟨j,hj⟩:=List.getElem?_of_mem hm
            have:i=j:=bs_ e2.2.2 (a:=y.key) (by rw [List.getElem?_map,hi];rfl) (by rw [List.getElem?_map,hj,e,← k1];rfl)
            subst this
            rw [hi] at hj;exact Option.some.inj hj
          exact hye (by rw [this])
        have:(seen.push x.born).contains y.born=seen.contains y.born:=by
          simp [Array.contains_push,hye]
        rw [this,e9 y hy]
        constructor
        · rintro ⟨i,hi,e⟩;exact ⟨i,List.mem_cons_of_mem _ hi,e⟩
        · rintro ⟨i,hi,e⟩
          rcases List.mem_cons.1 hi with rfl | hi
          · exact absurd e hkey
          · exact ⟨i,hi,e⟩
    · rw [← k1,← k2]
      exact run_entry_at _ ri r since seen es clock x hr2 hb2 hm e2.2.1
theorem n0_ {t e ty:TypeId} (ht:PR.underlying t=some (.map T.int e)) {w:World} {r ri:Nat} {l:List (Int × Value)} {done:List Int} (h:eQ_ w r ri l done) {k:Int} (hk:aM_ k) {K:Value→World→Prop}
    (hK:∀w',eQ_ w' r ri (delI l k) done→Chg (· = r) w w'→w'.heap.size=w.heap.size→K (.tuple #[]) w'):rn PR (Builtin.delete_ #[t,T.int] ty #[.map (some r),.int .i64 k]) K w:=by
  obtain ⟨es,since,seen,c0,clock,e1,e2,e3,e4,e5,e6,e7,e8,e9⟩:=h.ex
  have hri:ri≠r:=λe=>by rw [e,e1] at e3;cases e3
  obtain ⟨es',hrun,hst,hsz,hsl,hmem⟩:=jA_ (ty:=ty) nh_ ht e1 e2 (λx hx=>by
    obtain ⟨p,hp,k1,_⟩:=e7 x hx
    exact ⟨_,by rw [k1];exact b0_ (h.fit p hp).1 (h.fit p hp).2⟩) (b0_ hk.1 hk.2)
  have g:=hr_ w r (.map es' clock)
  refine do_ hrun (hK _ ⟨jl_ h.nd,λp hp=>h.fit p (cq_.1 hp).1,es',since,seen,c0,clock,fZ_ e1,hst,g.get e3 hri,λx hx=>e4 x ((hmem x).1 hx).1,e5,e6,λx hx=>?_,λp hp=>?_,λx hx=>e9 x ((hmem x).1 hx).1⟩ g (by simp [setBlock]))
  · obtain ⟨h1,h2⟩:=(hmem x).1 hx
    obtain ⟨p,hp,k1,k2⟩:=e7 x h1
    exact ⟨p,cq_.2 ⟨hp,λe=>h2 (by rw [k1,e])⟩,k1,k2⟩
  · obtain ⟨h1,h2⟩:=cq_.1 hp
    obtain ⟨x,hx,k1,k2⟩:=e8 p h1
    exact ⟨x,(hmem x).2 ⟨hx,λe=>h2 (int_inj (k1.symm.trans e))⟩,k1,k2⟩
def d3_ (b:List (Int × Int)) (now:Int) (done:List Int):List (Int × Int):=b.filter λp=>decide (now<p.2∨p.1∉done)
theorem k4_ (b:List (Int × Int)) (now:Int):d3_ b now []=b:=by
  unfold d3_;rw [List.filter_eq_self];intro p hp;simp
theorem nF_ {b:List (Int × Int)} (hn:(b.map (·.1)).Nodup) {now:Int} {done:List Int} {p:Int × Int} (hp:p∈b) (h:now<p.2):d3_ b now (p.1 :: done)=d3_ b now done:=by
  unfold d3_
  refine List.filter_congr λq hq=>decide_eq_decide.2 ⟨λh1=>h1.imp id λh2 h3=>h2 (List.mem_cons_of_mem _ h3),λh1=>?_⟩
  by_cases e:q.1=p.1
  · have:q=p:=by
      obtain ⟨i,hi⟩:=List.getElem?_of_mem hq
      obtain ⟨j,hj⟩:=List.getElem?_of_mem hp
      have:i=j:=bs_ hn (a:=p.1) (by rw [List.getElem?_map,hi,← e];rfl) (by rw [List.getElem?_map,hj];rfl)
      subst this
      rw [hi] at hj;exact Option.some.inj hj
    subst this;exact .inl h
  · exact h1.imp id λh2 h3=>(List.mem_cons.1 h3).elim e h2
theorem hH_ {b:List (Int × Int)} {now:Int} {done:List Int} {p:Int × Int} (hn:(b.map (·.1)).Nodup) (hp:p∈b) (h:p.2≤now):delI (aI (d3_ b now done)) p.1=aI (d3_ b now (p.1 :: done)):=by
  unfold delI aI d3_
  rw [List.filter_map,List.filter_filter]
  congr 1
  refine List.filter_congr λq hq=>?_
  show ((q.1 != p.1) && decide (now<q.2∨q.1∉done))=decide (now<q.2∨q.1∉p.1 :: done)
  by_cases e:q.1=p.1
  · have:q=p:=by
      obtain ⟨i,hi⟩:=List.getElem?_of_mem hq
      obtain ⟨j,hj⟩:=List.getElem?_of_mem hp
      have:i=j:=bs_ hn (a:=p.1) (by rw [List.getElem?_map,hi,← e];rfl) (by rw [List.getElem?_map,hj];rfl)
      subst this
      rw [hi] at hj;exact Option.some.inj hj
    subst this
    have h1:¬(now<q.2∨q.1∉q.1 :: done):=by
      rintro (h1 | h1)
      · omega
      · exact h1 List.mem_cons_self
    rw [decide_eq_false h1];simp
  · have h1:(q.1 != p.1)=true:=by simpa using e
    rw [h1,Bool.true_and]
    exact decide_eq_decide.2 ⟨λh2=>h2.imp id λh3 h4=>(List.mem_cons.1 h4).elim e h3,λh2=>h2.imp id λh3 h4=>h3 (List.mem_cons_of_mem _ h4)⟩
theorem oW_ {b:List (Int × Int)} {now:Int} {done:List Int} (h:∀p∈d3_ b now done,p.1∈done):d3_ b now done=b.filter λp=>decide (now<p.2):=by
  unfold d3_
  refine List.filter_congr λq hq=>decide_eq_decide.2 ⟨λh1=>?_,.inl⟩
  by_cases h2:now<q.2
  · exact h2
  · have h3:q.1∉done:=h1.resolve_left h2
    exact absurd (h q (List.mem_filter.2 ⟨hq,decide_eq_true h1⟩)) h3
def kj_ (l:List (Int × Value)) (done:List Int):Nat:=(l.filter λp=>decide (p.1∉done)).length
theorem ng_ {l:List (Int × Value)} {done:List Int} {p:Int × Value} (hp:p∈l) (h:p.1∉done):kj_ l (p.1 :: done)<kj_ l done:=by
  unfold kj_
  have h1:(l.filter λq=>decide (q.1∉p.1 :: done))=(l.filter λq=>decide (q.1∉done)).filter λq=>decide (q.1≠p.1):=by
    rw [List.filter_filter]
    refine List.filter_congr λq hq=>?_
    rw [← Bool.decide_and]
    exact decide_eq_decide.2 ⟨λh2=>⟨λe=>h2 (by rw [e];exact List.mem_cons_self),λh3=>h2 (List.mem_cons_of_mem _ h3)⟩,λh2 h3=>(List.mem_cons.1 h3).elim h2.1 h2.2⟩
  rw [h1]
  refine Nat.lt_of_le_of_ne (List.length_filter_le _ _) λe=>?_
  have h2:=List.length_filter_eq_length_iff.1 e p (List.mem_filter.2 ⟨hp,decide_eq_true h⟩)
  simp at h2
theorem pv_ (l:List (Int × Value)) (k:Int) (done:List Int):kj_ (delI l k) done≤kj_ l done:=by
  unfold kj_ delI
  exact (List.filter_sublist.filter _).length_le
theorem ts_ {f:FS} {v:HV} {now:Int} {n:Nat} : goL f v now n=if n=0 then [] else (dS_ v (bg_ f now)).take (f.wt.win - (bg_ f now).length).toNat:=rfl
def upTo (L:List Int) (i:Int):List Int:=L.filter λj=>decide (j<i)
theorem oD_ {L:List Int} (hs:L.Pairwise (· < ·)) {i:Int} (hi:i∈L):upTo L (i+1)=upTo L i++[i]:=by
  induction L with
  | nil=>cases hi
  | cons a L ih=>
    have hs':=List.pairwise_cons.1 hs
    unfold upTo at ih ⊢
    rcases List.mem_cons.1 hi with rfl | hi
    · have h1:L.filter (λj=>decide (j<i+1))=[]:=List.filter_eq_nil_iff.2 λj hj=>by have:=hs'.1 j hj;simp;omega
      have h2:L.filter (λj=>decide (j<i))=[]:=List.filter_eq_nil_iff.2 λj hj=>by have:=hs'.1 j hj;simp;omega
      rw [List.filter_cons,List.filter_cons,h1,h2,if_pos (decide_eq_true (by omega)),if_neg (by simp)];rfl
    · have:=hs'.1 i hi
      rw [List.filter_cons,List.filter_cons,if_pos (decide_eq_true (by omega)),if_pos (decide_eq_true (by omega)),ih hs'.2 hi];rfl
theorem oC_ {L:List Int} {i:Int} (hi:i∉L):upTo L (i+1)=upTo L i:=by
  unfold upTo
  refine List.filter_congr λj hj=>decide_eq_decide.2 ⟨λh=>?_,λh=>by omega⟩
  have:j≠i:=λe=>hi (e ▸ hj)
  omega
theorem kW_ {L:List Int} (h:∀j∈L,0≤j):upTo L 0=[]:=List.filter_eq_nil_iff.2 λj hj=>by have:=h j hj;simp;omega
theorem qE_ {L:List Int} {n:Int} (h:∀j∈L,j<n):upTo L n=L:=List.filter_eq_self.2 λj hj=>decide_eq_true (h j hj)
theorem qD_ {L:List Int} (hs:L.Pairwise (· < ·)) (i:Int):upTo L i=L.take (upTo L i).length:=by
  induction L with
  | nil=>rfl
  | cons a L ih=>
    have hs':=List.pairwise_cons.1 hs
    unfold upTo at ih ⊢
    by_cases h:a<i
    · rw [List.filter_cons,if_pos (decide_eq_true h),List.length_cons,List.take_succ_cons,← ih hs'.2]
    · have h1:L.filter (λj=>decide (j<i))=[]:=List.filter_eq_nil_iff.2 λj hj=>by have:=hs'.1 j hj;simp;omega
      rw [List.filter_cons,if_neg (by simpa using h),h1];rfl
theorem nb_ {L:List Int} {i j:Int} : j∈upTo L i↔j∈L∧j<i:=by
  unfold upTo;rw [List.mem_filter,decide_eq_true_iff]
theorem iu_ (l:List (Int × Int)) (i:Int):delI (aI l) i=aI (l.filter λp=>p.1 != i):=by
  unfold delI aI
  rw [List.filter_map];rfl
theorem hI_:∀ {l m:List Int},l.Pairwise (· < ·)→m.Pairwise (· < ·)→(∀x,x∈l↔x∈m)→l=m
  | [],[],_,_,_=>rfl
  | [],b :: m,_,_,h=>absurd ((h b).2 List.mem_cons_self) (by simp)
  | a :: l,[],_,_,h=>absurd ((h a).1 List.mem_cons_self) (by simp)
  | a :: l,b :: m,h1,h2,h=>by
    have p1:=List.pairwise_cons.1 h1
    have p2:=List.pairwise_cons.1 h2
    have hab:a=b:=by
      rcases List.mem_cons.1 ((h a).1 List.mem_cons_self) with e | e
      · exact e
      · rcases List.mem_cons.1 ((h b).2 List.mem_cons_self) with e' | e'
        · exact e'.symm
        · have:=p2.1 a e;have:=p1.1 b e';omega
    subst hab
    rw [hI_ p1.2 p2.2 λx=>⟨λhx=>?_,λhx=>?_⟩]
    · rcases List.mem_cons.1 ((h x).1 (List.mem_cons_of_mem _ hx)) with e | e
      · have:=p1.1 x hx;omega
      · exact e
    · rcases List.mem_cons.1 ((h x).2 (List.mem_cons_of_mem _ hx)) with e | e
      · have:=p2.1 x hx;omega
      · exact e
theorem ps_ {v:HV} {i sl:Int} {t:List UInt8} (hi:i∈av_ v):((av_ (v.putB i sl t)).length:Int)=(av_ v).length - 1:=by
  have h:av_ (v.putB i sl t)=(av_ v).erase i:=by
    refine hI_ (bm_ _) ((bm_ v).sublist List.erase_sublist) λx=>?_
    have hn:(av_ v).Nodup:=List.nodup_iff_pairwise_ne.2 ((bm_ v).imp λh=>by omega)
    rw [ln_,hn.mem_erase_iff]
    exact And.comm
  rw [h,List.length_erase_of_mem hi]
  have:=List.length_pos_of_mem hi
  omega
end Go.Vc
namespace Go.Vc
open Go Go.MapKept
theorem qe_ (a:Addr):a.add 0=a:=by unfold Addr.add;simp
theorem lg_ {w:World} {a:Addr} {v:Value} (h:Sl w (some a) [v]) {K:Addr→Prop} (hK:∀a2,w.cell? a2=some v→K a2):Dr (some a) (λa1=>(0:Int)≤0∧(0:Int)<((1:Nat):Int)∧Dr (some (Addr.add a1 0)) K):=by
  have:=h.rd (n:=0) (l:=1) (v:=v) (K:=K) rfl (Int.le_refl 0) rfl hK
  simpa using this
theorem Sl.tN_ {w:World} {a:Addr} {v:Value} (h:Sl w (some a) [v]):a.block<w.heap.size:=by
  rcases h with h | ⟨b,o,e,cs,T0,fz,hh,_⟩
  · cases h
  · cases e;exact aj_ hh
theorem gt_ {v:HV} (hb:v.bl=[]) {B:Nat} (hB:v.man.blocks=B):av_ v=(List.range B).map λn:Nat=>(n:Int):=by
  unfold av_ fR_
  rw [hB,Int.toNat_natCast]
  exact List.filter_eq_self.2 λi _=>by rw [hb];simp
theorem pH_ {f:FS} {v:HV} (ha:f.wt.askd=[]) (hb:v.bl=[]) (hw:f.wt.win=4) {now:Int} {n:Nat} (hn:n≠0) {B:Nat} (hB:v.man.blocks=B):goL f v now n=((List.range B).map λn:Nat=>(n:Int)).take 4:=by
  have e1:bg_ f now=[]:=by unfold bg_;rw [ha];rfl
  unfold goL
  rw [if_neg hn,e1,hw]
  unfold dS_
  rw [gt_ hb hB,List.filter_eq_self.2 λi _=>by simp]
  rfl
theorem lF_ {w:World} {K:Value→World→Prop} (hK:∀w',Grow w w'→K (.bool true) w'):aa_ PR F.bX_ ⟨[]⟩ w K:=by
  refine bX_ S0 K w λl0 hl0 l1 hl1 w0 hF0=>?_
  refine jJ_ (l:=[(0,1)]) (hF0.sl 1 rfl) (hF0.sl 0 rfl) (λw1 a pc b m list g1 hsa hv hP _ hg=>⟨_,_,_,rfl,hF0.reset.after g1,(λh=>by cases h),λa0 ha0=>?_⟩) λw1 g1 hno=>absurd ⟨by decide,by decide,by decide,by decide,λe he=>by simp at he;subst he;decide⟩ hno
  have hF1:Fs S0 w [] w1:=(hF0.reset.sub (L':=[]) (List.nil_sublist _)).after g1
  have hlen:=tB_ hP
  have hL:=hP.ver
  have hal:=hsa.tN_
  have sw1:w.heap.size≤w1.heap.size:=hF1.gr.size
  obtain ⟨qm,cm,ql,cl,hb,hDb,hqm,hql,hlc⟩:=id hv
  have hbl:=aj_ hb
  refine lg_ hsa λa2 ha2=>⟨_,ha2,?_⟩
  refine jF_ hv hL hP.sh (n:=9) (by decide) λw2 f v HF hvs hvm hvb hvo hver htr has hwin htmo hsl hlg hrl hws g2 hlow=>⟨_,_,true,rfl,(λ_=>⟨hF1.after g2,λl4 hl4 w3 hF3=>?_⟩),λh=>by cases h⟩
  have hB:v.man.blocks=((1:Nat):Int):=by rw [hvm,hL.blocks,hlen]
  have g3:Grow w2 w3:=hF3.grow
  have hfl:=HF.at_.lt
  have s2:=g2.size
  have s3:=g3.size
  have feSA:∀k,feS f k→feA f k:=λk hk=>by
    rcases hk with h | h | h | h
    · exact .inl h
    · exact .inr (.inl h)
    · exact .inr (.inr (.inl (.inl h)))
    · exact .inr (.inr (.inr h))
  have hgo:goL f v 0 [(0:Int)].length=[0]:=by
    rw [pH_ has hvb hwin (by decide) hB];rfl
  refine on_ (HF.grow g3) (now:=0) ⟨by decide,by decide⟩ (by rw [htr];intro p hp;cases hp) (ps:=[0]) (by decide) (hF3.sl 0 rfl) (λa ha=>by
    cases ha
    have h1:=hfl f.wt.ak (.inr (.inl (.inr (.inr rfl))))
    have h2:=hfl f.tr (.inr (.inr (.inr rfl)))
    exact ⟨by show l4≠_;omega,by show l4≠_;omega⟩) λw4 q4 c4 HT ho4 ch4 hq4 _=>?_
  rw [hgo] at ho4 ⊢
  have hF4:=hF3.step ch4 (λz hz e=>by simp at hz;subst hz;have:=hfl _ (feSA _ e);simp only [] at this;omega) λk hk e=>by have:=hlow k (feSA k e);omega
  have mq_:∀k,k<w1.heap.size→¬feS f k:=λk hk e=>by have:=hlow k (feSA k e);omega
  have g13:Grow w1 w3:=g2.trans g3
  have hsa4:Sl w4 (some a) [.pointer (some ⟨b,0,none⟩)]:=(hsa.grow g13).keep ch4 λa' ha'=>by cases ha';exact mq_ _ hal
  have hb4:=ch4.get (Grow.get g13 hb) (mq_ b hbl)
  have hF4':Fs S0 w [] w4:=hF4.sub (L':=[]) (List.nil_sublist _)
  have hqs:Sl w4 q4 ([((toV f [0] 0,0):Int × Int)].flatMap (askC f.ver)):=ho4.sl
  refine ⟨_,_,_,rfl,_,hF4,?_⟩
  refine lg_ hsa4 λa4 ha4=>⟨_,ha4,ac_.2 (ac_.2 (ac_.2 ⟨ql,list.length,cl,by rw [au_,aw_ hb4];rfl,λ_=>?_,λhne=>absurd (by rw [hlen];rfl) hne⟩))⟩
  have rdq:∀ {K':Addr→Prop},(∀a8,(∀j v',(askC f.ver (toV f [0] 0,0))[j]? = some v'→w4.cell? (a8.add j)=some v')→K' a8)→Dr q4 (λa8=>(0:Int)≤0∧(0:Int)<(([(0:Int)].length:Nat):Int)∧Dr (some (Addr.add a8 0)) K'):=λ{K'} h=>by
    have:=hqs.rdN (dU_ f.ver) (by decide) (n:=0) (k:=0) (m:=1) (K:=K') rfl (by simp) (by decide) h
    simpa using this
  have hto:toV f [0] 0=0:=by
    unfold toV
    have:(0+a8_ f.trs 0)%(([(0:Int)].length:Nat):Int)=0:=by
      show (0+a8_ f.trs 0)%1=0
      omega
    rw [this];rfl
  refine rdq λa8 h8=>ac_.2 (ac_.2 ⟨_,by rw [qe_];exact h8 1 _ rfl,λ_=>?_,λh=>absurd rfl h⟩)
  refine rdq λa8 h8=>ac_.2 ⟨_,h8 0 _ rfl,λ_=>?_,λh=>absurd hto h⟩
  have e0:(0:Int)∈av_ v:=by rw [gt_ hvb hB];simp
  refine gN_ HT.at_ (λw5 g5 hall=>absurd ((HT.miss 0).2 e0) (hall 0)) λw5 i5 g5 hi5=>⟨false,rfl,(λh=>by cases h),λ_=>⟨hF4'.after g5,?_⟩⟩
  have hF5:=hF4'.after g5
  refine lg_ (hsa4.grow g5) λa15 ha15=>⟨_,ha15,ac_.2 (ac_.2 (ac_.2 ⟨ql,list.length,cl,by rw [au_,aw_ (Grow.get g5 hb4)];rfl,?_⟩))⟩
  have HT5:=HT.grow g5
  have g5s:=g5.size
  have ch3s:=ch4.size
  refine ⟨λn lv w'=>(n=0∧lv=1∧Grow w5 w')∨(n=1∧lv=0∧∃f2 v2,aY_ w' f2 v2∧f2.b=f.b∧∀i,¬f2.wt.miss i),⟨1,.inl ⟨rfl,rfl,.refl _ _⟩⟩,?_⟩
  rintro n D lv w6 (⟨rfl,rfl,g6⟩ | ⟨rfl,rfl,f2,v2,H2,hb2,hnm⟩) hF6
  · refine ⟨λ_=>?_,λh=>absurd (by rw [hlen];decide) h⟩
    have g46:=g5.trans g6
    refine lg_ (hsa4.grow g46) λa20 ha20=>⟨_,ha20,?_⟩
    have hv6:VerO (λj=>j<w0.heap.size) w6 b m list:=by
      have h3:=hv.keep (D':=λj=>j<w0.heap.size) g13 (λ_ _ e=>e.elim) λ_ _ e=>e
      have s01:=g1.size
      refine ⟨qm,cm,ql,cl,Grow.get g46 hb4,hDb,?_,?_,hlc⟩
      · obtain ⟨_,_,_,_,hb3,_,hq3,hl3,_⟩:=h3
        have e1:=Grow.get g13 hb
        rcases hqm with h | ⟨b0,o0,e0',hr,hd⟩
        · exact .inl h
        · have hlt:b0<w1.heap.size:=by obtain ⟨cs,T0,fz,hh,_⟩:=hr;exact aj_ hh
          refine .inr ⟨b0,o0,e0',?_,hd⟩
          obtain ⟨cs,T0,fz,hh,hc⟩:=hr
          exact ⟨cs,T0,fz,Grow.get g46 (ch4.get (Grow.get g13 hh) (mq_ b0 hlt)),hc⟩
      · rcases hql with h | ⟨b0,o0,e0',hr,hd⟩
        · exact .inl h
        · have hlt:b0<w1.heap.size:=by obtain ⟨cs,T0,fz,hh,_⟩:=hr;exact aj_ hh
          refine .inr ⟨b0,o0,e0',?_,hd⟩
          obtain ⟨cs,T0,fz,hh,hc⟩:=hr
          exact ⟨cs,T0,fz,Grow.get g46 (ch4.get (Grow.get g13 hh) (mq_ b0 hlt)),hc⟩
    refine ey_ hv6 hL (i:=0) (λw7 q7 c7 _ _ g7 hs7 _=>⟨_,_,_,_,_,_,_,rfl,hF6.after g7,?_⟩) λw7 hno _=>absurd ⟨by decide,by rw [hlen];decide⟩ hno
    have HT7:=HT5.grow (g6.trans g7)
    have hj0:0<list.length:=by omega
    have hokP:=mi_ hL hj0
    have hvman:v.man=m:=hvm
    have hkv:(blkM m list 0).ver=(f.tick v 0 [(0:Int)].length).ver:=by show m.version=f.ver;rw [hver]
    have htext:=f0_ hL hj0
    have hvv:=hL.ok.version
    refine jL_ HT7 (m:=blkM m list 0) ⟨by show (logL f.h.recs).length≤_;omega,by show f.h.recs.length≤_;omega,by show f.h.d.ws.length≤_;omega⟩ hs7 (by omega) ⟨by show aM_ f.ver;rw [hver];exact ⟨by omega,by omega⟩,by show aM_ (((0:Nat):Int));exact ⟨by decide,by decide⟩⟩ (λw' _ h=>?_) (λw' _ _ _ h=>?_) (λw' e c f' _ _ _ _ hn _ _ _=>?_) (λw' _ _ _ hin _=>?_) (λw' c _ _ _ _ hc _=>?_) λw8 j sl _ _ _ hnew hle H8 ch8 hgr8 _=>?_
    · rcases h with h | ⟨h,_⟩
      · exact absurd hkv h
      · exact absurd rfl h
    · cases h
    · rw [hvman] at hn;exact absurd hokP hn
    · obtain ⟨p,hp,_⟩:=hin
      rw [hvb] at hp;cases hp
    · rcases hc with ⟨_,hall⟩ | ⟨_,hgt⟩
      · obtain ⟨n0,hn1,hn2⟩:=pJ_ f.h (by rw [hvs,hsl];simp [hvb,hvo])
        exact absurd (hall n0 hn1) hn2
      · omega
    · have hF8:=(hF6.after g7).step ch8 (λz hz=>by cases hz) λk hk e=>by
        have:=hlow k (feSA k e);omega
      refine ⟨true,.nilIface,rfl,(λ_=>⟨hF8,λ_=>⟨0,by decide,.inr ⟨by decide,rfl,_,_,H8,rfl,λi hi=>?_⟩⟩,(λt x h=>by cases h),.inl rfl⟩),λh=>by cases h⟩
      have h1:=(HT.miss i).1 hi.1
      rw [gt_ hvb hB] at h1
      have h2:i=0:=by simpa using h1
      exact hi.2 h2
  · refine ⟨λh=>absurd h (by rw [hlen];decide),λ_=>?_⟩
    rw [← hb2]
    exact gN_ H2.at_ (λw9 g9 _=>⟨true,rfl,(λ_=>⟨hF6.after g9,hK w9 (hF6.after g9).gr⟩),λh=>by cases h⟩) λw9 i9 g9 hi9=>absurd hi9 (hnm i9)
end Go.Vc
namespace Go.Vc
open Go Go.MapKept
structure SayF where
  k:Int
  i:Int
  m:MsgL
  mq:Option Addr
  mc:Nat
def sayC (o:SayF):List Value:=[.int .i64 o.k,.int .i64 o.i,.int .i64 o.m.kind,.int .i64 o.m.ver,.int .i64 o.m.i,.string (str o.m.text),.slice o.mq o.m.proof.length o.mc]
theorem m6_ (o:SayF):(sayC o).length=7:=rfl
structure qm_ (w:World) (y:Option Addr) (os:List SayF):Prop where
  row:Sl w y (os.flatMap sayC)
  m:∀o∈os,Sl w o.mq (o.m.proof.map sv8')∧aM_ o.i∧aM_ o.m.i
theorem qm_.grow {w w':World} {y:Option Addr} {os:List SayF} (h:qm_ w y os) (g:Grow w w'):qm_ w' y os:=⟨h.row.grow g,λo ho=>⟨(h.m o ho).1.grow g,(h.m o ho).2⟩⟩
inductive nw_ (M:MsgL) (n:Int) (f:FS) (v:HV):FS→HV→Bool→Value→Prop
  | rest (e:Value) (f':FS):(M.ver=1→M.kind=4→f'=f.again M.i)→(M.ver=1→M.kind=3→∃c:Int,errP c e∧(0≤c∧c≤100)∧(c≠11∧f'=f∨c=11∧f'=f.again M.i))→(M.ver≠1∨M.kind≠3∧M.kind≠4→f'=f)→nw_ M n f v f' v false e
  | had:M.ver=1→M.kind=3→(0≤M.i∧M.i<n)→(∃p∈v.bl,p.1=M.i)→nw_ M n f v f v false .nilIface
  | new (f':FS) (v':HV):M.ver=1→M.kind=3→(0≤M.i∧M.i<n)→M.i∈av_ v→((av_ v').length:Int)=(av_ v).length - 1→f'.wt.askd=f.wt.askd.filter (λp=>p.1 != M.i)→nw_ M n f v f' v' true .nilIface
theorem od_ {w:World} {f:FS} {v:HV} {m:Man} (H:aY_ w f v) (Fi:Fill f v m) (hone:m.version=1) {n:Int} (hb:m.blocks=n) (h40:v.bl.length≤40) {M:MsgL} {y:Option Addr} {cy:Nat} (hs:Sl w y (M.proof.map sv8')) (htl:M.text.length≤1000000) (hfi:aM_ M.i) {K:Value→World→Prop}
    (hK:∀w' f' v' got e,nw_ M n f v f' v' got e→aY_ w' f' v'→Fill f' v' m→f'.b=f.b→f'.h.bh=f.h.bh→f'.trs=f.trs→f'.tr=f.tr→Chg (feS f) w w'→(∀k,feA f' k→feA f k∨w.heap.size≤k)→K (.tuple #[.bool got,e]) w') :
    aa_ PR F.c1_ ⟨[.pointer (some ⟨f.b,0,none⟩),pr_ M y cy]⟩ w K:=by
  have hv1:f.ver=1:=by rw [Fi.ver,hone]
  have hinb:∀ {leaf:List UInt8},bd_ M.i v.man.blocks leaf M.proof v.man.root→0≤M.i∧M.i<n:=λh=>by
    obtain ⟨a,b,e1,e2,e3,_⟩:=h
    rw [Fi.man,hb] at e2
    omega
  refine jL_ H (Fi.room h40) hs htl ⟨by rw [hv1];exact ⟨by decide,by decide⟩,hfi⟩ (λw' g h=>hK w' f v false .nilIface (.rest _ f (λh1 h2=>(h.elim (λh=>absurd (h1.trans hv1.symm) h) λh=>absurd h2 h.2)) (λh1 h2=>(h.elim (λh=>absurd (h1.trans hv1.symm) h) λh=>absurd h2 h.1)) λ_=>rfl) (H.grow g) Fi rfl rfl rfl rfl g.chg λk hk=>.inl hk) (λw' H' c hv hk=>hK w' _ v false .nilIface (.rest _ _ (λ_ _=>rfl) (λ_ h=>by rw [hk] at h;exact absurd h (by decide)) λh=>(h.elim (λh=>absurd (by rw [hv,hv1]) h) λh=>absurd hk h.2)) H' (Fi.again _) rfl rfl rfl rfl c λk hk=>.inl hk) (λw' e c f' he hc hv hk _ hbad H' ch=>?_) (λw' hv hk hok hin g=>hK w' f v false .nilIface (.had (by rw [hv,hv1]) hk (hinb hok) hin) (H.grow g) Fi rfl rfl rfl rfl g.chg λk hk=>.inl hk) (λw' c hv hk hok hnew hc g=>?_) λw' j sl hv hk hok hnew hle H' ch hgr hsl0=>?_
  · have hv':M.ver=1:=by rw [hv,hv1]
    have no4:M.ver=1→M.kind=4→f'=f.again M.i:=λ_ h=>by rw [hk] at h;exact absurd h (by decide)
    have nooff:M.ver≠1∨M.kind≠3∧M.kind≠4→f'=f:=λh=>(h.elim (λh=>absurd hv' h) λh=>absurd hk h.1)
    rcases hc with ⟨rfl,rfl⟩ | ⟨rfl,rfl⟩
    · exact hK w' f' v false e (.rest _ _ no4 (λ_ _=>⟨2,he,⟨by decide,by decide⟩,.inl ⟨by decide,rfl⟩⟩) nooff) H' Fi rfl rfl rfl rfl ch λk hk=>.inl hk
    · exact hK w' _ v false e (.rest _ _ no4 (λ_ _=>⟨11,he,⟨by decide,by decide⟩,.inr ⟨rfl,rfl⟩⟩) nooff) H' (Fi.again _) rfl rfl rfl rfl ch λk hk=>.inl hk
  · have hv':M.ver=1:=by rw [hv,hv1]
    refine hK w' f v false _ (.rest _ f (λ_ h=>by rw [hk] at h;exact absurd h (by decide)) (λ_ _=>⟨c,.inl rfl,?_,.inl ⟨?_,rfl⟩⟩) λ_=>rfl) (H.grow g) Fi rfl rfl rfl rfl g.chg λk hk=>.inl hk
    · rcases hc with ⟨rfl,_⟩ | ⟨rfl,_⟩ <;> decide
    · rcases hc with ⟨rfl,_⟩ | ⟨rfl,_⟩ <;> decide
  · have hib:=hinb hok
    have hmi:M.i∈av_ v:=bt_.2 ⟨by rw [Fi.man,hb];exact hib,hnew⟩
    have hbl:=H.at_.hat
    have hslu:sl≤1000000000:=by
      have h1:=H'.at_.hat.sl (v.putB M.i sl M.text) H'.mem (M.i,sl,aC_ M.text) (by simp [HV.putB])
      have h2:=H'.at_.hat.dl
      have h3:sl<((f.put j v M.i sl M.text).h.d.sl.length:Int):=h1.2
      omega
    have hbk:=(hbl.vs v H.mem).ok.blocks.2
    rw [Fi.man,hb] at hbk
    exact hK w' _ _ true .nilIface (.new _ _ (by rw [hv,hv1]) hk hib hmi (ps_ hmi) rfl) H' (Fi.put (by rw [hone];exact ⟨by decide,by decide⟩) ⟨hib.1,by omega⟩ ⟨hsl0,hslu⟩ hnew) rfl rfl rfl rfl ch hgr
structure PlI (wP:World) (b bh:Nat) (m:Man) (ru rt:Nat) (now:Int) (U Tr:List (Int × Int)) (w:World) (f:FS) (v:HV):Prop where
  ok:aY_ w f v
  fl:Fill f v m
  b:f.b=b
  bh:f.h.bh=bh
  um:MapI w ru (aI U)
  tm:MapI w rt (aI Tr)
  tb:∀p∈f.trs,0≤p.2∧p.2≤1+4*now
  hi:∀k,feA f k→wP.heap.size≤k∧k≠ru∧k≠rt
  ne:ru≠rt
  lo:wP.heap.size≤ru∧wP.heap.size≤rt
  gr:Grow wP w
theorem PlI.keep {wP:World} {S:Nat→Prop} {b bh:Nat} {m:Man} {ru rt:Nat} {now:Int} {U Tr:List (Int × Int)} {w w':World} {f:FS} {v:HV} (h:PlI wP b bh m ru rt now U Tr w f v) (c:Chg S w w') (h1:∀k,S k→wP.heap.size≤k∧¬feA f k∧k≠ru∧k≠rt):PlI wP b bh m ru rt now U Tr w' f v:=
  ⟨⟨h.ok.at_.keep c λk hk e=>(h1 k e).2.1 hk,h.ok.mem,h.ok.ver,h.ok.miss⟩,h.fl,h.b,h.bh,h.um.keep c λe=>(h1 _ e).2.2.1 rfl,h.tm.keep c λe=>(h1 _ e).2.2.2 rfl,h.tb,h.hi,h.ne,h.lo,h.gr.off c λi hi e=>by have:=(h1 i e).1;omega⟩
theorem PlI.grow {wP:World} {b bh:Nat} {m:Man} {ru rt:Nat} {now:Int} {U Tr:List (Int × Int)} {w w':World} {f:FS} {v:HV} (h:PlI wP b bh m ru rt now U Tr w f v) (g:Grow w w'):PlI wP b bh m ru rt now U Tr w' f v:=h.keep g λk e=>e.elim
theorem PlI.lt {wP:World} {b bh:Nat} {m:Man} {ru rt:Nat} {now:Int} {U Tr:List (Int × Int)} {w:World} {f:FS} {v:HV} (h:PlI wP b bh m ru rt now U Tr w f v):∀k,feA f k→k<w.heap.size:=h.ok.at_.lt
theorem PlI.mq_ {wP:World} {b bh:Nat} {m:Man} {ru rt:Nat} {now:Int} {U Tr:List (Int × Int)} {w w':World} {f:FS} {v:HV} {r:Nat} (h:PlI wP b bh m ru rt now U Tr w f v) (c:Chg (· = r) w w') (hr:wP.heap.size≤r) (h1:∀k,feA f k→k≠r) (h2:r≠ru) (h3:r≠rt):PlI wP b bh m ru rt now U Tr w' f v:=
  h.keep c λk e=>by subst e;exact ⟨hr,λhk=>h1 k hk rfl,h2,h3⟩
theorem PlI.setU {wP:World} {b bh:Nat} {m:Man} {ru rt:Nat} {now:Int} {U U' Tr:List (Int × Int)} {w w':World} {f:FS} {v:HV} (h:PlI wP b bh m ru rt now U Tr w f v) (c:Chg (· = ru) w w') (hU:MapI w' ru (aI U')):PlI wP b bh m ru rt now U' Tr w' f v:=
  ⟨⟨h.ok.at_.keep c λk hk e=>(h.hi k hk).2.1 e,h.ok.mem,h.ok.ver,h.ok.miss⟩,h.fl,h.b,h.bh,hU,h.tm.keep c λe=>h.ne e.symm,h.tb,h.hi,h.ne,h.lo,h.gr.off c λi hi e=>by have e':i=ru:=e;have:=h.lo.1;omega⟩
theorem PlI.setT {wP:World} {b bh:Nat} {m:Man} {ru rt:Nat} {now:Int} {U Tr Tr':List (Int × Int)} {w w':World} {f:FS} {v:HV} (h:PlI wP b bh m ru rt now U Tr w f v) (c:Chg (· = rt) w w') (hT:MapI w' rt (aI Tr')):PlI wP b bh m ru rt now U Tr' w' f v:=
  ⟨⟨h.ok.at_.keep c λk hk e=>(h.hi k hk).2.2 e,h.ok.mem,h.ok.ver,h.ok.miss⟩,h.fl,h.b,h.bh,h.um.keep c λe=>h.ne e,hT,h.tb,h.hi,h.ne,h.lo,h.gr.off c λi hi e=>by have e':i=rt:=e;have:=h.lo.2;omega⟩
theorem PlI.go {wP:World} {b bh:Nat} {m:Man} {ru rt:Nat} {now now':Int} {U Tr:List (Int × Int)} {w w':World} {f f':FS} {v v':HV} (h:PlI wP b bh m ru rt now U Tr w f v) (H':aY_ w' f' v') (F':Fill f' v' m) (hb:f'.b=f.b) (hbh:f'.h.bh=f.h.bh) (ht:∀p∈f'.trs,0≤p.2∧p.2≤1+4*now') (c:Chg (feS f) w w') (hgr:∀k,feA f' k→feA f k∨w.heap.size≤k):PlI wP b bh m ru rt now' U Tr w' f' v':=
  ⟨H',F',hb.trans h.b,hbh.trans h.bh,h.um.keep c λe=>(h.hi _ (hd_ _ e)).2.1 rfl,h.tm.keep c λe=>(h.hi _ (hd_ _ e)).2.2 rfl,ht,λk hk=>by
    rcases hgr k hk with e | e
    · exact h.hi k e
    · have h1:=h.gr.size
      have h2:=h.um.lt
      have h3:=h.tm.lt
      exact ⟨by omega,by omega,by omega⟩,h.ne,h.lo,h.gr.off c λi hi e=>by have:=(h.hi i (hd_ i e)).1;omega⟩
theorem aA_.lenL {w:World} {r:Nat} {L:List Int} (h:aA_ w r λn=>n∈L) (hn:L.Nodup):∃l,MapI w r l∧l.length=L.length:=by
  obtain ⟨l,h1,h2,h3⟩:=h
  refine ⟨l,h1,?_⟩
  have e1:=bJ_ (l.map (·.1)) L h1.nd λx hx=>by
    obtain ⟨p,hp,rfl⟩:=List.mem_map.1 hx
    exact (h3 _).1 ⟨p,hp,rfl⟩
  have e2:=bJ_ L (l.map (·.1)) hn λx hx=>by
    obtain ⟨p,hp,e⟩:=(h3 x).2 hx
    exact List.mem_map.2 ⟨p,hp,e⟩
  simp only [List.length_map] at e1 e2
  omega
end Go.Vc
namespace Go.Vc
open Go Go.MapKept
theorem mQ_ {w:World} {f:FS} {v:HV} (H:aY_ w f v) (hfv:aM_ f.ver) {K:Value→World→Prop}
    (hK:∀w',aY_ w' f v→Chg (feS f) w w'→K (.int .i64 (av_ v).length) w'):aa_ PR F.cG_ ⟨[.pointer (some ⟨f.b,0,none⟩)]⟩ w K:=by
  have H0:=H.at_
  have hF0:=H0.fs
  have hlt:=H0.lt
  have hwlt:=H0.wat.lt
  refine dA_ f.b (some ⟨f.wt.b,0,none⟩) (some ⟨f.h.bh,0,none⟩) f.ver (some f.tr) (feS f) K w hF0 ⟨.inl rfl,trivial⟩ λw0 hFa=>?_
  have g0:Grow w w0:=hFa.grow
  refine cr_ (H0.hat.grow g0) hfv (λw1 u q c hu hun g1 ho hof=>⟨_,_,_,rfl,hFa.reset.after g1,(λh=>by cases h),λa4 ha4=>?_⟩) λw1 g1 hno=>absurd H.ver (hno v H.mem)
  have:u=v:=H0.hat.uniq hu H.mem (by rw [hun,H.ver])
  subst this
  have hbd:=fe_ (H0.hat.vs u hu)
  have hlen:=eD_ u u.man.blocks.toNat
  have hbk:=(H0.hat.vs u hu).ok.blocks.2
  have hmiss:=H.miss
  have hls:(av_ u).Pairwise (· < ·):=bm_ u
  generalize hLe:av_ u=L at ho hbd hK hmiss hls
  have hLl:L.length≤2048:=by rw [← hLe];unfold av_;omega
  have s0:=g0.size
  have s1:=g1.size
  have hs1:Sl w1 q (L.map iv):=ho.sl
  have g01:=g0.trans g1
  refine aQ_ λw2 rs hrs hm2 g2=>⟨_,rfl,(hFa.reset.after g1).after g2,?_⟩
  have hrn:∀k,feA f k→k≠rs:=λk hk e=>by have:=hlt k hk;omega
  have hqn:∀a,q=some a→a.block<w1.heap.size:=λa ha=>ho.lt a ha
  refine ⟨λi lv w'=>∃k:Nat,i=k∧k≤L.length∧lv=L.length - k∧aA_ w' rs (λj=>j∈L.take k)∧aF_ w' f∧Sl w' q (L.map iv)∧Chg (feS f) w w',⟨_,0,rfl,by omega,rfl,⟨[],hm2,(λp hp=>by cases hp),λj=>⟨(λ⟨p,hp,_⟩=>by cases hp),λh=>by simp at h⟩⟩,H0.grow (g01.trans g2),hs1.grow g2,(g01.trans g2).chg⟩,?_⟩
  rintro i D lv w5 ⟨k,rfl,hk,rfl,M5,H5,hs5,c5⟩ hF5
  refine ⟨λhlt'=>?_,λhge=>?_⟩
  · have hk':k<L.length:=by omega
    have hb5:=hbd _ (List.getElem_mem hk')
    refine hs5.rd (v:=iv L[k]) (by simp) (by omega) (by simp [hk']) λa ha=>⟨_,ha,?_⟩
    refine M5.put ⟨by omega,by omega⟩ λw6 M6 c6 s6=>⟨hF5.step c6 (λz hz e=>by simp at hz;subst hz;exact hrn f.b (.inl rfl) e) (λj hj e=>by have e':j=rs:=e;omega),L.length - (k+1),by omega,k+1,wr1 (by omega),by omega,rfl,M6.cong λj=>?_,H5.keep c6 hrn,hs5.keep c6 λa ha e=>?_,c5.trans c6 λj hj e=>by have e':j=rs:=e;omega⟩
    · rw [ar_ hk',List.mem_append,List.mem_singleton]
    · have:=hqn a ha
      have e':a.block=rs:=e
      omega
  · have hkL:k=L.length:=by omega
    subst hkL
    rw [List.take_length] at M5
    refine cn_ H5.wat λw7 q7 c7 L7 g7 hs7 hm7 hp7 hl7=>⟨_,_,_,rfl,hF5.after g7,?_⟩
    refine ⟨λi lv w'=>∃k:Nat,i=k∧k≤L7.length∧lv=L7.length - k∧aA_ w' rs (λj=>j∈L)∧aF_ w' f∧Sl w' q (L.map iv)∧Sl w' q7 (L7.map Iv)∧Chg (feS f) w w',⟨_,0,rfl,by omega,rfl,M5.grow g7,H5.grow g7,hs5.grow g7,hs7,c5.grow g7⟩,?_⟩
    rintro i D1 lv w8 ⟨k,rfl,hk,rfl,M8,H8,hs8,hs78,c8⟩ hF8
    refine ⟨λhlt'=>?_,λhge'=>?_⟩
    · have hk':k<L7.length:=by omega
      have hin:L7[k]∈L:=(hmiss _).1 ((hm7 _).1 (List.getElem_mem hk'))
      have hb8:=hbd _ hin
      refine hs78.rd (v:=Iv L7[k]) (by simp) (by omega) (by simp [hk']) λa ha=>⟨_,ha,?_⟩
      exact M8.look ⟨by omega,by omega⟩ (λ_=>⟨true,rfl,(λ_=>⟨hF8,L7.length - (k+1),by omega,k+1,wr1 (by omega),by omega,rfl,M8,H8,hs8,hs78,c8⟩),λh=>by cases h⟩) λhn=>absurd hin hn
    · refine fx_ (xs:=L) H8.wat hs8 (λa ha e=>?_) hbd (by omega) λw9 W9 c9=>⟨rfl,hF8.step c9 (λz hz e=>by
        simp at hz;subst hz
        exact H0.dbw (.inr (.inl e))) (λj hj e=>.inr (.inl (.inr (.inl e)))),?_⟩
      · have h1:¬a.block<w0.heap.size:=hof a ha
        have h2:=hwlt f.wt.mi (.inr (.inl rfl))
        omega
      · have hiff:∀n,(f.wt.miss n∨n∈L)↔f.wt.miss n:=λn=>⟨λh=>h.elim id (hmiss n).2,.inl⟩
        have c9':Chg (wS f.wt) w8 w9:=c9.mono λk _ e=>.inr (.inl e)
        have W9':WAt w9 { f.wt with miss:=f.wt.miss,askd:=f.wt.askd }:=⟨W9.blk,W9.mm.cong hiff,W9.am,W9.ne,H0.wat.sm,H0.wat.sub,W9.win,W9.tmo⟩
        exact hK w9 ⟨H8.setW c9' W9',H.mem,H.ver,λi=>by rw [hLe];exact hmiss i⟩ (c8.trans c9' λk _ e=>.inr (.inl e))
end Go.Vc
namespace Go.Vc
open Go
theorem cj_ (y0:Option Addr) (ly0:Nat) (cy0:Nat) (y1:Option Addr) (ly1:Nat) (cy1:Nat) (S:Nat→Prop) (K:Value→World→Prop) (w:World) (h:(((ly0:Nat):Int)=((ly1:Nat):Int)→∃I0:Int→Nat→World→Prop,(∃l0:Nat,I0 0 l0 w)∧∀n0:Int,∀D0:Nat→Value,∀l1:Nat,∀w0:World,I0 n0 l1 w0→Fs S w [] w0→(n0<((ly0:Nat):Int)→∀w1:World,Fr S w w0 [] [] w1→∃I1:World→Prop,I1 w1∧Dr y0 (λa0=>(0:Int)≤n0∧n0<((ly0:Nat):Int)∧Dr (some (Addr.add a0 ((Int.toNat n0*1)))) (λa1=>∃n1:Int,(∀w2:World,I1 w2→(World.cell? w2 a1:Option Value)=some (.int .i64 n1))∧Dr y1 (λa2=>(0:Int)≤n0∧n0<((ly1:Nat):Int)∧Dr (some (Addr.add a2 ((Int.toNat n0*1)))) (λa3=>∃n2:Int,(∀w3:World,I1 w3→(World.cell? w3 a3:Option Value)=some (.int .i64 n2))∧(n1=n2→∃l2:Nat,l2<l1∧I0 (IntKind.wrap .i64 ((n0+1))) l2 w1)∧(¬(n1=n2)→K (.bool false) w1))))))∧(¬(n0<((ly0:Nat):Int))→K (.bool true) w0))∧(¬(((ly0:Nat):Int)=((ly1:Nat):Int))→K (.bool false) w)):aa_ Go.Proofs.Tryz.prog 29 ⟨[.slice y0 ly0 cy0,.slice y1 ly1 cy1]⟩ w K:=
  ab_ (okf:=⟨okL,[]⟩) ag_ (args:=[.c (.v (.slice y0 ly0 cy0)),.c (.v (.slice y1 ly1 cy1))]) (H:=[]) (.s .z (.s .z (.s (.s .z (.b (.l (some []) (some []) [(5,.c (.int .i64))] [] (.s .z (.s (.b (.s (.r ⟨(some []),true,[],[]⟩) .z)) .z))))) .z))) Go.Proofs.Tryz.func29 rfl ⟨trivial,trivial,trivial⟩ trivial (Fr.init S w) trivial (ad_ (by kernel_rfl) h)
end Go.Vc
namespace Go.Vc
open Go Go.MapKept
theorem ErrT.tP_ {w w':World} (h:ErrT w) (g:Grow w w'):ErrT w':=by
  unfold ErrT at h ⊢
  unfold World.cell? at h ⊢
  cases hb:w.heap[0]? with
  | none=>simp [hb] at h
  | some o=>
    have:=Grow.get g hb
    simp only [this]
    simpa [hb] using h
theorem Sl.rdG {w:World} {q:Option Addr} {xs:List Value} (h:Sl w q xs) {n:Int} {l:Nat} {v:Value} {K:Addr→Prop} (hl:l=xs.length) (h0:0≤n) (hv:xs[n.toNat]? = some v)
    (hK:∀a,(∀w',Grow w w'→w'.cell? a=some v)→K a):Dr q (λa=>0≤n∧n<((l:Nat):Int)∧Dr (some (Addr.add a (n.toNat*1))) K):=by
  subst hl
  have hl:n.toNat<xs.length:=by
    rcases Nat.lt_or_ge n.toNat xs.length with hl | hl
    · exact hl
    · simp [List.getElem?_eq_none hl] at hv
  rcases h with h | ⟨b,o,rfl,h⟩
  · subst h;simp at hl
  refine ac_.2 ⟨h0,by omega,ac_.2 ?_⟩
  rw [au_,Nat.mul_one]
  exact hK _ λw' g=>(h.keep g id).cell hv
theorem r7_ {α:Type} {xs ys:List α} {k:Nat} (h:k<xs.length) (h':k<ys.length) (hne:xs[k]≠ys[k]):xs≠ys:=λe=>by subst e;exact hne rfl
theorem k1_ {α:Type} {xs ys:List α} {k:Nat} (h:k<xs.length) (h':k<ys.length) (he:xs[k]=ys[k]) (ht:xs.take k=ys.take k):xs.take (k+1)=ys.take (k+1):=by
  rw [ar_ h,ar_ h',ht,he]
theorem om_ {q q':Option Addr} {l c l' c':Nat} {xs ys:List Int} {w:World} {K:Value→World→Prop} (hx:Sl w q (xs.map iv)) (hy:Sl w q' (ys.map iv)) (hl:l=xs.length) (hl':l'=ys.length) (hb:l≤1000000)
    (hK:∀w',Grow w w'→K (.bool (decide (xs=ys))) w'):aa_ PR F.cj_ ⟨[.slice q l c,.slice q' l' c']⟩ w K:=by
  have no:xs≠ys→∀w',Grow w w'→K (.bool false) w':=λh w' g=>by have:=hK w' g;rwa [decide_eq_false h] at this
  refine cj_ q l c q' l' c' (λ_=>False) K w ⟨λhe=>?_,λhe=>no (λe=>by subst e;omega) w (.refl _ _)⟩
  refine ⟨λn m w'=>∃k:Nat,n=k∧k≤xs.length∧m=xs.length - k∧xs.take k=ys.take k,⟨_,0,rfl,by omega,rfl,rfl⟩,?_⟩
  rintro n D m w0 ⟨k,rfl,hk,rfl,ht⟩ hF
  refine ⟨λhlt w1 h1=>⟨λw'=>Grow w w',h1.gr,?_⟩,λhge=>?_⟩
  · have k1:k<xs.length:=by omega
    have k2:k<ys.length:=by omega
    refine hx.rdG (by simp [hl]) (by omega) (v:=iv xs[k]) (by simp [k1]) λa ha=>⟨xs[k],ha,?_⟩
    refine hy.rdG (by simp [hl']) (by omega) (v:=iv ys[k]) (by simp [k2]) λb hb'=>⟨ys[k],hb',λe=>?_,λe=>no (r7_ k1 k2 e) w1 h1.gr⟩
    exact ⟨xs.length - (k+1),by omega,k+1,wr1 (by omega),by omega,rfl,k1_ k1 k2 e ht⟩
  · have:=hK w0 hF.gr
    have e:xs=ys:=by
      rw [List.take_of_length_le (by omega),List.take_of_length_le (by omega)] at ht;exact ht
    rwa [decide_eq_true e] at this
theorem ob_ {kd vr i:Int} {t:ByteArray} {w:World} {K:Value→World→Prop} (hK:∀w',Grow w w'→K (.bool true) w') :
    aa_ PR F.kf_ ⟨[.agg #[.int .i64 kd,.int .i64 vr,.int .i64 i,.string t,.slice none 0 0],.agg #[.int .i64 kd,.int .i64 vr,.int .i64 i,.string t,.slice none 0 0]]⟩ w K:=by
  refine kf_ kd vr i t none 0 0 kd vr i t none 0 0 S0 K w λl0 hl0 l1 hl1=>⟨λ_=>⟨λ_=>⟨λ_=>⟨λ_ w0 hF0=>?_,λh=>absurd rfl h⟩,λh=>absurd rfl h⟩,λh=>absurd rfl h⟩,λh=>absurd rfl h⟩
  refine cT_ none 0 0 none 0 0 S0 _ w0 ⟨λ_=>⟨λi m w'=>i=0∧w'=w0,⟨0,rfl,rfl⟩,?_⟩,λh=>absurd rfl h⟩
  rintro i D m w1 ⟨rfl,rfl⟩ hF1
  exact ⟨λh=>absurd h (by decide),λ_=>⟨true,rfl,(λ_=>⟨hF0.reset,hK w1 hF0.gr⟩),λh=>by cases h⟩⟩
end Go.Vc
namespace Go.Vc
open Go Go.MapKept
theorem q__ {w:World} {r:Nat} {l:List (Int × Int)} (hm:MapI w r (aI l)) {i:Int} (hi:aM_ i) {K:Value→World→Prop} (hK:K (.int .i64 (a8_ l i)) w):rn PR (Instr.lookup T.cK_ (.map (some r)) (.int .i64 i) false) K w:=by
  have nd:=qg_ hm
  refine aJ_ bu_ hm hi false cW_ (λx hx=>?_) λhno=>?_
  · obtain ⟨p,hp,e⟩:=List.mem_map.1 hx
    have e1:p.1=i:=congrArg Prod.fst e
    have e2:x=.int .i64 p.2:=(congrArg Prod.snd e).symm
    subst e2
    have:=fy_ nd (i:=i) (t:=p.2) (by rw [← e1];exact hp)
    rw [this] at hK;exact hK
  · have:=ez_ (l:=l) (i:=i) λp hp e=>hno _ (List.mem_map.2 ⟨p,hp,rfl⟩) e
    rw [this] at hK;exact hK
theorem sP_ {w:World} {f:FS} (H:aF_ w f) {i:Int} (hi:aM_ i) {K:Value→World→Prop} (hK:K (.int .i64 (a8_ f.trs i)) w):aa_ PR F.bz_ ⟨[.pointer (some ⟨f.b,0,none⟩),.int .i64 i]⟩ w K:=by
  have nd:=qg_ H.tm
  exact mP_ H hi (λt ht=>by rw [fy_ nd ht] at hK;exact hK) λhno=>by rw [ez_ hno] at hK;exact hK
theorem kS_ {w:World} {f:FS} (H:aF_ w f) {K:Value→World→Prop} (hK:K (.int .i64 f.ver) w):aa_ PR F.cc_ ⟨[.pointer (some ⟨f.b,0,none⟩)]⟩ w K:=by
  refine fo_ f.b (some ⟨f.wt.b,0,none⟩) (some ⟨f.h.bh,0,none⟩) f.ver (some f.tr) (feS f) K w H.fs ⟨.inl rfl,trivial⟩ ?_
  exact hK
theorem sE_ {w:World} (hE:ErrT w) {c:Int} {e:Value} (he:errP c e) (hc:0≤c∧c≤100) {K:Value→World→Prop} (hK:∀w',Grow w w'→K (.int .i64 c) w'):aa_ PR F.kN_ #[e] w K:=by
  rcases he with rfl | ⟨rfl,a,rfl⟩
  · exact iS_ hE (by omega) (by omega) hK
  · exact iR_ hE hK
theorem errP.iface {c:Int} {e:Value} (h:errP c e):∃t v,e=.iface t v:=by
  rcases h with rfl | ⟨_,a,rfl⟩ <;> exact ⟨_,_,rfl⟩
theorem ss_ {f:FS} {v:HV} {now:Int} {np:Nat} (hw:f.wt.win=4) {i n:Int} (hn:∀j∈av_ v,j<n) (h0:np=0→i=0) (hp:∀j∈av_ v,0≤j) (hl:(upTo (dS_ v (bg_ f now)) i).length≤(4 - ((bg_ f now).length:Int)).toNat) (he:i=n∨4≤((bg_ f now).length:Int)+(upTo (dS_ v (bg_ f now)) i).length∨np=0):upTo (dS_ v (bg_ f now)) i=goL f v now np:=by
  have hs:=es_ v (bg_ f now)
  have hsub:∀j∈dS_ v (bg_ f now),j∈av_ v:=λj hj=>(bK_.1 hj).1
  rw [ts_]
  generalize bg_ f now=A at hl he hs hsub ⊢
  by_cases hz:np=0
  · rw [if_pos hz,h0 hz]
    exact kW_ λj hj=>hp j (hsub j hj)
  · rw [if_neg hz,hw]
    have hpre:=qD_ hs i
    have hB:(4:Int) - (A.length:Int)=((4:Int) - A.length):=rfl
    rcases he with he | he | he
    · have hall:upTo (dS_ v A) i=dS_ v A:=by rw [he];exact qE_ λj hj=>hn j (hsub j hj)
      rw [hall] at hl ⊢
      rw [List.take_of_length_le hl]
    · have:(upTo (dS_ v A) i).length=(4 - (A.length:Int)).toNat:=by omega
      rw [hpre,this]
    · exact absurd he hz
section
variable {wP:World} {b bh:Nat} {m:Man} {ru rt:Nat} {now:Int} {U Tr:List (Int × Int)} {w:World} {f:FS} {v:HV}
theorem PlI.tries (I:PlI wP b bh m ru rt now U Tr w f v) {i:Int} (hi:aM_ i) {K:Value→World→Prop} (hK:K (.int .i64 (a8_ f.trs i)) w):aa_ PR F.bz_ ⟨[.pointer (some ⟨b,0,none⟩),.int .i64 i]⟩ w K:=by
  have e:=I.b
  subst e
  exact sP_ I.ok.at_ hi hK
theorem PlI.version (I:PlI wP b bh m ru rt now U Tr w f v) (hone:m.version=1) {K:Value→World→Prop} (hK:K (.int .i64 1) w):aa_ PR F.cc_ ⟨[.pointer (some ⟨b,0,none⟩)]⟩ w K:=by
  have e:=I.b
  subst e
  refine kS_ I.ok.at_ ?_
  rw [I.fl.ver,hone];exact hK
theorem PlI.ro_ (I:PlI wP b bh m ru rt now U Tr w f v) {K:Value→World→Prop} (hK:∀w' q c,Grow w w'→Sl w' q ((av_ v).map iv)→K (.slice q (av_ v).length c) w'):aa_ PR F.cd_ ⟨[.pointer (some ⟨b,0,none⟩)]⟩ w K:=by
  have e:=I.b
  subst e
  refine f4_ I.ok.at_ λw' q c L g hs hm hp hl=>?_
  have eL:L=av_ v:=hI_ hp (bm_ v) λx=>(hm x).trans (I.ok.miss x)
  subst eL
  exact hK w' q c g hs
theorem PlI.missing (I:PlI wP b bh m ru rt now U Tr w f v) (hone:m.version=1) {K:Value→World→Prop} (hK:∀w' q c,Grow w w'→Sl w' q ((av_ v).map iv)→K (.slice q (av_ v).length c) w'):aa_ PR F.cE_ ⟨[.pointer (some ⟨bh,0,none⟩),.int .i64 1]⟩ w K:=by
  have e:=I.bh
  subst e
  refine cr_ I.ok.at_.hat (n:=1) ⟨by decide,by decide⟩ (λw' u q c hu hun g ho _=>?_) λw' g hno=>absurd (I.fl.man ▸ hone) (hno v I.ok.mem)
  have hu':v=u:=by
    rw [I.fl.one] at hu
    exact (List.mem_singleton.1 hu).symm
  subst hu'
  exact hK w' q c g ho.sl
theorem PlI.done (I:PlI wP b bh m ru rt now U Tr w f v) {n:Nat} (hb:m.blocks=n) {K:Value→World→Prop} (hK:∀w' t,Grow w w'→(t=true↔v.bl.length=n)→K (.bool t) w'):aa_ PR F.c2_ ⟨[.pointer (some ⟨b,0,none⟩)]⟩ w K:=by
  have e:=I.b
  subst e
  have hw:=I.fl.whole I.ok hb
  refine gN_ I.ok.at_ (λw' g hall=>hK w' true g ⟨λ_=>hw.2 hall,λ_=>rfl⟩) λw' i g hi=>hK w' false g ⟨(λh=>by cases h),λh=>absurd hi (hw.1 h i)⟩
theorem PlI.whole (I:PlI wP b bh m ru rt now U Tr w f v) (hone:m.version=1) {n:Nat} (hb:m.blocks=n) {K:Value→World→Prop} (hK:∀w' t,Grow w w'→(t=true↔v.bl.length=n)→K (.bool t) w'):aa_ PR F.du_ ⟨[.pointer (some ⟨bh,0,none⟩),.int .i64 1]⟩ w K:=by
  have e:=I.bh
  subst e
  refine n6_ I.ok.at_.hat (n:=1) ⟨by decide,by decide⟩ (λw' g u hu _=>?_) λw' g hno=>absurd (I.fl.man ▸ hone) (hno v I.ok.mem)
  have hu':v=u:=by
    rw [I.fl.one] at hu
    exact (List.mem_singleton.1 hu).symm
  subst hu'
  refine hK w' _ g ?_
  rw [decide_eq_true_iff,I.fl.man,hb]
  omega
end
end Go.Vc
namespace Go.Vc
open Go
inductive An5 where
  | p (x:An)
  | s (a b:An5)
  | cut (live:List (Nat × Sk)) (gs:List Nat) (a b:An5)
  | o (live:List (Nat × Sk)) (gs:List Nat) (a b:An5)
  | h (a b:An5)
  | l (keep keep2:Option (List Nat)) (live:List (Nat × Sk)) (gs:List Nat) (b:An5)
  | b (a:An5)
inductive Md where
  | n
  | e
  | r
def preW:Code→An5→List Nat
  | .seq a b,.s _ y=>writes a++preW b y
  | .seq a b,.cut _ _ _ y=>writes a++preW b y
  | .seq a _,.h _ _=>writes a
  | _,_=>[]
def nK_:Code→An5→Code
  | .seq _ b,.s _ y=>nK_ b y
  | .seq _ b,.cut _ _ _ y=>nK_ b y
  | .seq _ b,.h _ _=>b
  | c,_=>c
section
variable (P:Program) (okf:Ctx) (S:Nat→Prop) (w0:World) (nE:Nat)
def vc5:Code→An5→Md→(Nat→Bool)→Sy→(Sy→Prop)→(Exit→Sy→Prop)→Prop
  | c,.p x,.n,lk,σ,_,K=>vc3 P okf S w0 nE c x lk σ K
  | .seq a b,.s x y,.n,lk,σ,Kn,K=>vc5 a x .n lk σ Kn (d7_ (λσ=>vc5 b y .n lk σ Kn K) K)
  | .seq a b,.s x y,.e,lk,σ,Kn,K=>vc5 a x .n lk σ Kn (d7_ (λσ=>vc5 b y .e lk σ Kn K) K)
  | .seq _ b,.s _ y,.r,lk,σ,Kn,K=>vc5 b y .r lk σ Kn K
  | .seq a _,.h x _,.e,lk,σ,Kn,K=>vc5 a x .n lk σ Kn (d7_ Kn K)
  | .seq _ b,.h _ y,.r,lk,σ,Kn,K=>vc5 b y .n lk σ Kn K
  | .seq a b,.cut live gl x y,.n,lk,σ,Kn,K=>fG (gsOf P σ.env σ.H gl []) λgs=>
      (match gsOk σ.H lk gs && lvOk (writes a) live with
      | true=>∃J:CurT (aT_ live gs) (World→Prop),
          vc5 a x .n (lock σ.H gs lk) σ Kn (d7_ (λσ1=>match bo_ σ1.H gs with | true=>vis S w0 σ1 λw σ1=>atT (aT_ live gs) J (cN_ σ1 live gs) λp=>p w | false=>False) K)∧
          allT (aT_ live gs) J λvals p=>∀(D:Nat→Value) (w:World),p w→Fs S w0 (LH (ci_ σ.H gs (d1_ live vals))) w→
            fE (bl_ (cm_ σ.env (writes a) D) live vals) λe=>fH (ci_ σ.H gs (d1_ live vals)) λH=>vc5 b y .n lk ⟨e,H,[],w,false⟩ Kn K
      | false=>False)
  | .seq a b,.cut live gl x y,.e,lk,σ,Kn,K=>fG (gsOf P σ.env σ.H gl []) λgs=>
      (match gsOk σ.H lk gs && lvOk (writes a) live with
      | true=>∃J:CurT (aT_ live gs) (World→Prop),
          vc5 a x .n (lock σ.H gs lk) σ Kn (d7_ (λσ1=>match bo_ σ1.H gs with | true=>vis S w0 σ1 λw σ1=>atT (aT_ live gs) J (cN_ σ1 live gs) λp=>p w | false=>False) K)∧
          allT (aT_ live gs) J λvals p=>∀(D:Nat→Value) (w:World),p w→Fs S w0 (LH (ci_ σ.H gs (d1_ live vals))) w→
            fE (bl_ (cm_ σ.env (writes a) D) live vals) λe=>fH (ci_ σ.H gs (d1_ live vals)) λH=>vc5 b y .e lk ⟨e,H,[],w,false⟩ Kn K
      | false=>False)
  | .seq _ b,.cut _ _ _ y,.r,lk,σ,Kn,K=>vc5 b y .r lk σ Kn K
  | .seq a b,.o live gl x y,.n,lk,σ,Kn,K=>fG (gsOf P σ.env σ.H gl []) λgs=>
      (match gsOk σ.H lk gs && lvOk (writes a++preW b y) live with
      | true=>∃J:CurT (aT_ live gs) (World→Prop),
          vc5 a x .n (lock σ.H gs lk) σ Kn (d7_ (λσ2=>vc5 b y .e (lock σ.H gs lk) σ2 (λσ1=>match bo_ σ1.H gs with | true=>vis S w0 σ1 λw σ1=>atT (aT_ live gs) J (cN_ σ1 live gs) λp=>p w | false=>False) K) K)∧
          allT (aT_ live gs) J λvals p=>∀(D:Nat→Value) (w:World),p w→Fs S w0 (LH (ci_ σ.H gs (d1_ live vals))) w→
            fE (bl_ (cm_ σ.env (writes a++preW b y) D) live vals) λe=>fH (ci_ σ.H gs (d1_ live vals)) λH=>vc5 b y .r lk ⟨e,H,[],w,false⟩ Kn K
      | false=>False)
  | .block id a,.b x,.n,lk,σ,Kn,K=>vc5 a x .n lk σ Kn (rA_ id K)
  | .loop a,.l kp kp2 live gl x,.n,lk,σ,Kn,K=>
    forget kp nE lk σ λσ=>vis S w0 σ λw σ=>forget kp2 nE lk σ λσ=>
    fG (gsOf P σ.env σ.H gl []) λgs=>
    (match gsOk σ.H lk gs && lvOk (writes a) live with
     | true=>∃I:CurT (aT_ live gs) (Nat→World→Prop),
        (∃m,atT (aT_ live gs) I (cN_ σ live gs) λp=>p m w)∧
        allT (aT_ live gs) I λvals p=>∀(D:Nat→Value) (m:Nat) (w:World),p m w→Fs S w0 (LH (ci_ σ.H gs (d1_ live vals))) w→
          fE (bl_ (cm_ σ.env (writes a) D) live vals) λe=>fH (ci_ σ.H gs (d1_ live vals)) λH=>
          vc5 a x .n (lock σ.H gs lk) ⟨e,H,[],w,false⟩ Kn
            (d7_ (λσ1=>match bo_ σ1.H gs with | true=>vis S w0 σ1 λw1 σ1=>∃m',m'<m∧atT (aT_ live gs) I (cN_ σ1 live gs) λp=>p m' w1 | false=>False) K)
     | false=>False)
  | _,_,_,_,_,_,_=>False
end
section
variable {P:Program} {okf:Ctx} {S:Nat→Prop} {w0:World} {nE:Nat}
theorem dW_.other {m m':List Nat} {lk lk':Nat→Bool} {σ:Sy} {N:Sy→Prop} {K:Exit→Sy→Prop} {e:Exit} {a:Act} {w:World} (hm:∀i,i∈m→i∈m') (hl:∀i,lk' i=true→lk i=true) (hn:e≠.normal) (h:dW_ S w0 m lk σ (d7_ N K) e a w):dW_ S w0 m' lk' σ K e a w:=by
  obtain ⟨h1,h2,σ',rfl,hb,hK⟩:=h
  refine ⟨h1,h2,σ',rfl,hb.mono hm hl,?_⟩
  cases e with
  | normal=>exact absurd rfl hn
  | exit id=>exact hK
  | goto l=>exact hK
  | ret=>exact hK
  | panic c=>exact absurd rfl (h1 c)
  | outgrown=>exact absurd rfl h2
theorem dW_.from {m m' m1:List Nat} {lk lk':Nat→Bool} {σ σ1:Sy} {w1:World} {K:Exit→Sy→Prop} {e:Exit} {a:Act} {w:World} (hb:Beh m1 lk' S w0 σ σ1 w1) (h1:∀i,i∈m1→i∈m') (hm:∀i,i∈m→i∈m') (hl:∀i,lk' i=true→lk i=true) (h:dW_ S w0 m lk σ1 K e a w):dW_ S w0 m' lk' σ K e a w:=by
  obtain ⟨g1,g2,σ',rfl,hb2,hK⟩:=h
  exact ⟨g1,g2,σ',rfl,(hb.mono h1 λ_ h=>h).trans (hb2.mono hm hl),hK⟩
theorem oz_ (hok:∀n,okf.fns.contains n=true→okFn P n=true) (c:Code) :
    (∀ {x:An5} {m:Md} {lk:Nat→Bool} {σ:Sy} {Kn:Sy→Prop} {K:Exit→Sy→Prop} {w:World} {Q:Exit→Act→World→Prop},m≠.r→vc5 P okf S w0 nE c x m lk σ Kn K→Rel S w0 σ w→
      (∀e a w1,dW_ S w0 (writes c) lk σ K e a w1→Q e a w1)→(m=.e→∀σ1 w1,Beh (preW c x) lk S w0 σ σ1 w1→Kn σ1→(nK_ c x).wp P Q (act (denE σ1.env)) w1)→c.wp P Q (act (denE σ.env)) w)∧
    (∀ {x:An5} {lk:Nat→Bool} {σ:Sy} {Kn:Sy→Prop} {K:Exit→Sy→Prop} {w:World} {Q:Exit→Act→World→Prop},vc5 P okf S w0 nE c x .r lk σ Kn K→Rel S w0 σ w→
      (∀e a w1,dW_ S w0 (writes c) lk σ K e a w1→Q e a w1)→(nK_ c x).wp P Q (act (denE σ.env)) w):=by
  have plain:∀ {c:Code} {x:An} {lk:Nat→Bool} {σ:Sy} {K:Exit→Sy→Prop} {w:World} {Q:Exit→Act→World→Prop},vc3 P okf S w0 nE c x lk σ K→Rel S w0 σ w→(∀e a w1,dW_ S w0 (writes c) lk σ K e a w1→Q e a w1)→c.wp P Q (act (denE σ.env)) w:=
    λh r hQ=>wp_mono (hB_ hok _ h r) hQ
  induction c with
  | seq a b iha ihb=>
    obtain ⟨Va,Ra⟩:=iha
    obtain ⟨Vb,Rb⟩:=ihb
    have upa:∀i,i∈writes a→i∈writes (a.seq b):=λi hi=>by simp [writes,hi]
    have upb:∀i,i∈writes b→i∈writes (a.seq b):=λi hi=>by simp [writes,hi]
    have next:∀ {x y:An5} {m:Md} {lk:Nat→Bool} {σ:Sy} {Kn Kn2:Sy→Prop} {K:Exit→Sy→Prop} {w:World} {Q:Exit→Act→World→Prop},m≠.r→vc5 P okf S w0 nE a x .n lk σ Kn2 (d7_ (λσ=>vc5 P okf S w0 nE b y m lk σ Kn K) K)→Rel S w0 σ w→
        (∀e a' w1,dW_ S w0 (writes (a.seq b)) lk σ K e a' w1→Q e a' w1)→(m=.e→∀σ1 w1,Beh (writes a++preW b y) lk S w0 σ σ1 w1→Kn σ1→(nK_ b y).wp P Q (act (denE σ1.env)) w1)→(a.seq b).wp P Q (act (denE σ.env)) w:=λ{x y m lk σ Kn Kn2 K w Q} hm h r hQ hJ=>by
      refine wp_seq (Va (by simp) h r (λe a' w' hp=>?_) λh=>by cases h)
      by_cases he:e=.normal
      · subst he
        obtain ⟨h1,h2,σ',rfl,hb,hK⟩:=hp
        exact Vb hm hK hb.rel (λe a'' w'' hp2=>hQ e a'' w'' (hp2.from hb upa upb λ_ h=>h)) λhme σ1 w1 hb1 hk=>hJ hme σ1 w1 ((hb.mono (λi hi=>List.mem_append_left _ hi) λ_ h=>h).trans (hb1.mono (λi hi=>List.mem_append_right _ hi) λ_ h=>h)) hk
      · have:=hQ e a' w' (hp.other upa (λ_ h=>h) he)
        cases e with
        | normal=>exact absurd rfl he
        | exit id=>exact this
        | goto l=>exact this
        | ret=>exact this
        | panic c=>exact this
        | outgrown=>exact this
    have cut:∀ {x y:An5} {live:List (Nat × Sk)} {gl:List Nat} {m:Md} {lk:Nat→Bool} {σ:Sy} {Kn:Sy→Prop} {K:Exit→Sy→Prop} {w:World} {Q:Exit→Act→World→Prop},m≠.r→
        (fG (gsOf P σ.env σ.H gl []) λgs=>
          (match gsOk σ.H lk gs && lvOk (writes a) live with
          | true=>∃J:CurT (aT_ live gs) (World→Prop),
              vc5 P okf S w0 nE a x .n (lock σ.H gs lk) σ Kn (d7_ (λσ1=>match bo_ σ1.H gs with | true=>vis S w0 σ1 λw σ1=>atT (aT_ live gs) J (cN_ σ1 live gs) λp=>p w | false=>False) K)∧
              allT (aT_ live gs) J λvals p=>∀(D:Nat→Value) (w:World),p w→Fs S w0 (LH (ci_ σ.H gs (d1_ live vals))) w→
                fE (bl_ (cm_ σ.env (writes a) D) live vals) λe=>fH (ci_ σ.H gs (d1_ live vals)) λH=>vc5 P okf S w0 nE b y m lk ⟨e,H,[],w,false⟩ Kn K
          | false=>False))→Rel S w0 σ w→
        (∀e a' w1,dW_ S w0 (writes (a.seq b)) lk σ K e a' w1→Q e a' w1)→(m=.e→∀σ1 w1,Beh (writes a++preW b y) lk S w0 σ σ1 w1→Kn σ1→(nK_ b y).wp P Q (act (denE σ1.env)) w1)→(a.seq b).wp P Q (act (denE σ.env)) w:=λ{x y live gl m lk σ Kn K w Q} hm h r hQ hJ=>by
      rw [pM_] at h
      generalize gsOf P σ.env σ.H gl []=gs at h
      split at h
      · rename_i hgl
        simp only [Bool.and_eq_true] at hgl
        obtain ⟨J,h,hA⟩:=h
        have lkm:∀i,lk i=true→lock σ.H gs lk i=true:=λi h=>by simp [lock,h]
        refine wp_seq (Va (by simp) h r (λe a' w' hp=>?_) λh=>by cases h)
        by_cases he:e=.normal
        · subst he
          obtain ⟨h1,h2,σ',rfl,hb,hK⟩:=hp
          simp only [d7_] at hK
          split at hK
          · rename_i hlv
            obtain ⟨σ1,hK,r1,he,hH⟩:=a0_ hK hb.rel
            have hb1:Beh (writes a) (lock σ.H gs lk) S w0 σ σ1 w':=⟨r1,he ▸ hb.env,hH ▸ hb.H⟩
            obtain ⟨p,hp,hl⟩:=fv_ (by simp [aT_,cN_]) hK
            obtain ⟨rh,hden,hea,hHa⟩:=dz_ r hgl.1 hgl.2 hb1 (hH ▸ hlv)
            have hbb:=hl _ hA (λi=>(nthS σ1.env i).den) w' hp rh.fr.fr
            rw [pN_,ix_] at hbb
            have e1:denE σ1.env=denE σ'.env:=by rw [he]
            have hbh:Beh (writes a) lk S w0 σ _ w':=⟨rh,hea,hHa.mono lkm⟩
            show b.wp P Q (act (denE σ'.env)) w'
            rw [← e1,← hden]
            exact Vb hm hbb rh (λe a'' w'' hp2=>hQ e a'' w'' (hp2.from hbh upa upb λ_ h=>h)) λhme σ2 w2 hb2 hk=>hJ hme σ2 w2 ((hbh.mono (λi hi=>List.mem_append_left _ hi) λ_ h=>h).trans (hb2.mono (λi hi=>List.mem_append_right _ hi) λ_ h=>h)) hk
          · exact hK.elim
        · have:=hQ e a' w' (hp.other upa lkm he)
          cases e with
          | normal=>exact absurd rfl he
          | exit id=>exact this
          | goto l=>exact this
          | ret=>exact this
          | panic c=>exact this
          | outgrown=>exact this
      · exact h.elim
    refine ⟨λ{x m lk σ Kn K w Q} hm h r hQ hJ=>?_,λ{x lk σ Kn K w Q} h r hQ=>?_⟩
    · cases x with
      | p x=>cases m with
        | n=>exact plain h r hQ
        | e=>exact h.elim
        | r=>exact absurd rfl hm
      | s x y=>cases m with
        | n=>exact next (m:=.n) (by simp) h r hQ λh=>by cases h
        | e=>exact next (m:=.e) (by simp) h r hQ hJ
        | r=>exact absurd rfl hm
      | cut live gl x y=>cases m with
        | n=>exact cut (m:=.n) (by simp) h r hQ λh=>by cases h
        | e=>exact cut (m:=.e) (by simp) h r hQ hJ
        | r=>exact absurd rfl hm
      | h x y=>cases m with
        | n=>exact h.elim
        | e=>
          refine wp_seq (Va (by simp) h r (λe a' w' hp=>?_) λh=>by cases h)
          by_cases he:e=.normal
          · subst he
            obtain ⟨h1,h2,σ',rfl,hb,hK⟩:=hp
            exact hJ rfl σ' w' hb hK
          · have:=hQ e a' w' (hp.other upa (λ_ h=>h) he)
            cases e with
            | normal=>exact absurd rfl he
            | exit id=>exact this
            | goto l=>exact this
            | ret=>exact this
            | panic c=>exact this
            | outgrown=>exact this
        | r=>exact absurd rfl hm
      | l kp kp2 live gl x=>cases m <;> first | exact h.elim | exact absurd rfl hm
      | b x=>cases m <;> first | exact h.elim | exact absurd rfl hm
      | o live gl x y=>cases m with
        | n=>
          simp only [vc5] at h
          rw [pM_] at h
          generalize gsOf P σ.env σ.H gl []=gs at h
          split at h
          · rename_i hgl
            simp only [Bool.and_eq_true] at hgl
            obtain ⟨J,h,hA⟩:=h
            have lkm:∀i,lk i=true→lock σ.H gs lk i=true:=λi h=>by simp [lock,h]
            refine wp_seq (Va (by simp) h r (λe a' w' hp=>?_) λh=>by cases h)
            by_cases he:e=.normal
            · subst he
              obtain ⟨h1,h2,σ',rfl,hb,hK⟩:=hp
              show b.wp P Q (act (denE σ'.env)) w'
              refine Vb (m:=.e) (by simp) hK hb.rel (λe a'' w'' hp2=>hQ e a'' w'' ?_) λ_ σ3 w3 hb3 hk=>?_
              · obtain ⟨g1,g2,σ4,rfl,hb4,hK4⟩:=hp2
                exact ⟨g1,g2,σ4,rfl,(hb.mono upa lkm).trans (hb4.mono upb lkm),hK4⟩
              · have hbx:Beh (writes a++preW b y) (lock σ.H gs lk) S w0 σ σ3 w3:=(hb.mono (λi hi=>List.mem_append_left _ hi) λ_ h=>h).trans (hb3.mono (λi hi=>List.mem_append_right _ hi) λ_ h=>h)
                split at hk
                · rename_i hlv
                  obtain ⟨σ1,hK,r1,he,hH⟩:=a0_ hk hbx.rel
                  have hb1:Beh (writes a++preW b y) (lock σ.H gs lk) S w0 σ σ1 w3:=⟨r1,he ▸ hbx.env,hH ▸ hbx.H⟩
                  obtain ⟨p,hp,hl⟩:=fv_ (by simp [aT_,cN_]) hK
                  obtain ⟨rh,hden,hea,hHa⟩:=dz_ r hgl.1 hgl.2 hb1 (hH ▸ hlv)
                  have hbb:=hl _ hA (λi=>(nthS σ1.env i).den) w3 hp rh.fr.fr
                  rw [pN_,ix_] at hbb
                  have e1:denE σ1.env=denE σ3.env:=by rw [he]
                  have hpw:∀(c:Code) (y:An5) i,i∈preW c y→i∈writes c:=by
                    intro c
                    induction c with
                    | seq a b _ ihb=>
                      intro y i hi
                      cases y with
                      | s _ y=>simp only [preW,List.mem_append] at hi;simp only [writes,List.mem_append];exact hi.imp id (ihb y i)
                      | cut _ _ _ y=>simp only [preW,List.mem_append] at hi;simp only [writes,List.mem_append];exact hi.imp id (ihb y i)
                      | h _ _=>simp only [preW] at hi;simp only [writes,List.mem_append];exact .inl hi
                      | _=>simp [preW] at hi
                    | _=>intro y i hi;simp [preW] at hi
                  have hbh:Beh (writes a++preW b y) lk S w0 σ _ w3:=⟨rh,hea,hHa.mono lkm⟩
                  rw [← e1,← hden]
                  refine Rb hbb rh λe a'' w'' hp2=>hQ e a'' w'' (hp2.from hbh (λi hi=>?_) upb λ_ h=>h)
                  rcases List.mem_append.1 hi with hi | hi
                  · exact upa i hi
                  · exact upb i (hpw b y i hi)
                · exact hk.elim
            · have:=hQ e a' w' (hp.other upa lkm he)
              cases e with
              | normal=>exact absurd rfl he
              | exit id=>exact this
              | goto l=>exact this
              | ret=>exact this
              | panic c=>exact this
              | outgrown=>exact this
          · exact h.elim
        | e=>exact h.elim
        | r=>exact absurd rfl hm
    · cases x with
      | s x y=>exact Rb h r λe a' w' hp=>hQ e a' w' (by
          obtain ⟨g1,g2,σ4,rfl,hb4,hK4⟩:=hp
          exact ⟨g1,g2,σ4,rfl,hb4.mono upb λ_ h=>h,hK4⟩)
      | cut live gl x y=>exact Rb h r λe a' w' hp=>hQ e a' w' (by
          obtain ⟨g1,g2,σ4,rfl,hb4,hK4⟩:=hp
          exact ⟨g1,g2,σ4,rfl,hb4.mono upb λ_ h=>h,hK4⟩)
      | h x y=>exact Vb (m:=.n) (by simp) h r (λe a' w' hp=>hQ e a' w' (by
          obtain ⟨g1,g2,σ4,rfl,hb4,hK4⟩:=hp
          exact ⟨g1,g2,σ4,rfl,hb4.mono upb λ_ h=>h,hK4⟩)) λh=>by cases h
      | p x=>exact h.elim
      | o live gl x y=>exact h.elim
      | l kp kp2 live gl x=>exact h.elim
      | b x=>exact h.elim
  | block id a iha=>
    refine ⟨λ{x m lk σ Kn K w Q} hm h r hQ hJ=>?_,λ{x lk σ Kn K w Q} h r hQ=>?_⟩
    · cases x with
      | p x=>cases m with
        | n=>exact plain h r hQ
        | e=>exact h.elim
        | r=>exact absurd rfl hm
      | b x=>cases m with
        | n=>
          refine wp_block (iha.1 (m:=.n) (by simp) h r (λe a' w' hp=>?_) λh=>by cases h)
          obtain ⟨h1,h2,σ',rfl,hb,hK⟩:=hp
          cases e with
          | normal=>exact hQ _ _ _ ⟨h1,h2,σ',rfl,hb,hK⟩
          | exit i=>
            simp only [rA_] at hK
            simp only [Exit.inBlock]
            split at hK <;> rename_i hi
            · rw [if_pos hi];exact hQ _ _ _ ⟨by simp,by simp,σ',rfl,hb,hK⟩
            · rw [if_neg hi];exact hQ _ _ _ ⟨h1,h2,σ',rfl,hb,hK⟩
          | goto l=>exact hQ _ _ _ ⟨h1,h2,σ',rfl,hb,hK⟩
          | ret=>exact hQ _ _ _ ⟨h1,h2,σ',rfl,hb,hK⟩
          | panic c=>exact absurd rfl (h1 c)
          | outgrown=>exact absurd rfl h2
        | e=>exact h.elim
        | r=>exact absurd rfl hm
      | s x y=>cases m <;> first | exact h.elim | exact absurd rfl hm
      | cut live gl x y=>cases m <;> first | exact h.elim | exact absurd rfl hm
      | o live gl x y=>cases m <;> first | exact h.elim | exact absurd rfl hm
      | h x y=>cases m <;> first | exact h.elim | exact absurd rfl hm
      | l kp kp2 live gl x=>cases m <;> first | exact h.elim | exact absurd rfl hm
    · cases x <;> exact h.elim
  | loop a iha=>
    refine ⟨λ{x m lk σ1 Kn K w Q} hm h r1 hQ hJ=>?_,λ{x lk σ Kn K w Q} h r hQ=>?_⟩
    · cases x with
      | p x=>cases m with
        | n=>exact plain h r1 hQ
        | e=>exact h.elim
        | r=>exact absurd rfl hm
      | l kp kp2 live gl x=>cases m with
        | n=>
          simp only [vc5] at h
          obtain ⟨σ2,h,r2,hH2,he2⟩:=a7_ h r1
          obtain ⟨σ3,h,r3,he3,hH3⟩:=a0_ h r2
          obtain ⟨σ,h,r,hH4,he4⟩:=a7_ h r3
          have hef:σ.env=σ1.env:=he4.trans (he3.trans he2)
          have hHf:AgrH lk σ1.H σ.H:=hH2.trans (hH3 ▸ hH4)
          rw [← hef]
          have hQ':∀e a' w1,dW_ S w0 (writes a) lk σ K e a' w1→Q e a' w1:=λe a' w1 hp=>hQ e a' w1 (hp.from (m1:=writes a) ⟨r,hef ▸ .refl _ _,hHf⟩ (λ_ h=>h) (λ_ h=>h) λ_ h=>h)
          clear hHf hef r1 he2 he3 he4 hH2 hH3 hH4 r2 r3 hQ
          rw [pM_] at h
          generalize gsOf P σ.env σ.H gl []=gs at h
          split at h
          · rename_i hgl
            simp only [Bool.and_eq_true] at hgl
            obtain ⟨I,⟨m,h0⟩,hI⟩:=h
            have hg0:gsOk σ.H lk gs=true:=hgl.1
            have lkm:∀i,lk i=true→lock σ.H gs lk i=true:=λi h=>by simp [lock,h]
            have lv0:bo_ σ.H gs=true:=by
              have:∀g:List (Nat × Sk),gsOk σ.H lk g=true→bo_ σ.H g=true:=by
                intro g
                induction g with
                | nil=>intro _;rfl
                | cons x g ih=>
                  obtain ⟨i,k⟩:=x
                  intro h
                  simp only [gsOk,Bool.and_eq_true] at h
                  simp only [bo_,Bool.and_eq_true]
                  refine ⟨?_,ih h.2⟩
                  have h1:=h.1.2
                  split at h1
                  · rename_i hx;rw [hx]
                  · rename_i hx;rw [hx]
                  · cases h1
              exact this _ hg0
            refine mT_ (λn a' w'=>∃σ1 p,a'=act (denE σ1.env)∧Beh (writes a) (lock σ.H gs lk) S w0 σ σ1 w'∧bo_ σ1.H gs=true∧p n w'∧
              ∀L:List Value→(Nat→World→Prop)→Prop,allT (aT_ live gs) I L→L (cN_ σ1 live gs) p) ?_ (n:=m) ?_
            · rintro n a' w' ⟨σ1,p,rfl,hb1,hlv,hp,hl⟩
              obtain ⟨rh,hden,hea,hHa⟩:=dz_ r hg0 hgl.2 hb1 hlv
              have hbb:=hl _ hI (λi=>(nthS σ1.env i).den) n w' hp rh.fr.fr
              rw [pN_,ix_] at hbb
              rw [← hden]
              refine iha.1 (m:=.n) (by simp) hbb rh (λe a'' w'' hp2=>?_) λh=>by cases h
              obtain ⟨h1,h2,σ2,rfl,hb2,hK⟩:=hp2
              have hb2':Beh (writes a) (lock σ.H gs lk) S w0 σ σ2 w'':=⟨hb2.rel,hea.trans hb2.env,hHa.trans hb2.H⟩
              have out:Beh (writes a) lk S w0 σ σ2 w'':=hb2'.mono (λ_ h=>h) lkm
              cases e with
              | normal=>
                simp only [d7_] at hK
                split at hK
                · rename_i hlv2
                  obtain ⟨σ3,⟨m',hm',hK⟩,r3,he3,hH3⟩:=a0_ hK hb2.rel
                  obtain ⟨p',hp',hl'⟩:=fv_ (by simp [aT_,cN_]) hK
                  exact ⟨m',hm',σ3,p',by rw [he3],⟨r3,he3 ▸ hb2'.env,hH3 ▸ hb2'.H⟩,hH3 ▸ hlv2,hp',hl'⟩
                · exact hK.elim
              | exit id=>exact hQ' _ _ _ ⟨h1,h2,σ2,rfl,out,hK⟩
              | goto l=>exact hQ' _ _ _ ⟨h1,h2,σ2,rfl,out,hK⟩
              | ret=>exact hQ' _ _ _ ⟨h1,h2,σ2,rfl,out,hK⟩
              | panic c=>exact absurd rfl (h1 c)
              | outgrown=>exact absurd rfl h2
            · obtain ⟨p,hp,hl⟩:=fv_ (by simp [aT_,cN_]) h0
              exact ⟨σ,p,rfl,⟨r,.refl _ _,.refl _ _⟩,lv0,hp,hl⟩
          · exact h.elim
        | e=>exact h.elim
        | r=>exact absurd rfl hm
      | s x y=>cases m <;> first | exact h.elim | exact absurd rfl hm
      | cut live gl x y=>cases m <;> first | exact h.elim | exact absurd rfl hm
      | o live gl x y=>cases m <;> first | exact h.elim | exact absurd rfl hm
      | h x y=>cases m <;> first | exact h.elim | exact absurd rfl hm
      | b x=>cases m <;> first | exact h.elim | exact absurd rfl hm
    · cases x <;> exact h.elim
  | _=>
    refine ⟨λ{x m lk σ Kn K w Q} hm h r hQ hJ=>?_,λ{x lk σ Kn K w Q} h r hQ=>?_⟩
    · cases x <;> cases m <;> first | exact plain h r hQ | exact h.elim | exact absurd rfl hm
    · cases x <;> exact h.elim
theorem mE_ (hok:∀n,okf.fns.contains n=true→okFn P n=true) {f:FuncId} {fn:Func} {args:List SV} {H:List Bk} {w:World} {K:Value→World→Prop} (an:An5)
    (hf:P.funcs[f]? = some fn) (hb:fn.body.isSome=true) (hwe:wfE' (bsH H) args) (hwh:wfH' (bsH H) H) (hF:Fs S w (LH H) w) (hnew:nR_ S H)
    (h:vc5 P okf S w (lenH H) (body fn) an .n (λ_=>false) ⟨args++List.replicate (fn.ntmps - args.length) (.c (.v undef)),H,[],w,false⟩ (λ_=>False) (s8_ P S w (lenH H) fn K)):aa_ P f ⟨denE args⟩ w K:=by
  cases hc:fn.body with
  | none=>simp [hc] at hb
  | some c=>
    have hbody:body fn=c:=by simp [body,hc]
    rw [hbody] at h
    have r:Rel S w ⟨args++List.replicate (fn.ntmps - args.length) (.c (.v undef)),H,[],w,false⟩ w:=by
      refine ⟨⟨hF.chg,.refl _ _,λi x A hx hA=>hF.loc ⟨x.b,A,x.T,x.wr⟩ (fS_.2 ⟨i,x,A,hx,hA,rfl⟩),kz_ hF.nodup,λi x hx hw=>.inl (fQ_ hnew x (by rw [di_] at hx;exact List.mem_of_getElem? hx) hw)⟩,?_,hu_ hwh,λ_=>rfl⟩
      intro s hs
      rcases List.mem_append.1 hs with hs | hs
      · exact jO_ hwe s hs
      · rw [List.mem_replicate] at hs;rw [hs.2];exact trivial
    refine calls_of_wp hf hc ?_
    have happ:∀(a b:List SV),denE (a++b)=denE a++denE b:=by
      intro a b
      induction a with
      | nil=>rfl
      | cons x a ih=>simp [cQ_,ih]
    have hrep:∀n,denE (List.replicate n (.c (.v undef)))=List.replicate n undef:=by
      intro n
      induction n with
      | zero=>rfl
      | succ n ih=>simp only [List.replicate_succ,cQ_,ih];rfl
    have henv:({ tmps:=(⟨denE args⟩:Array Value)++Array.replicate (fn.ntmps - (⟨denE args⟩:Array Value).size) undef,defers:=[] } : Act)=act (denE (args++List.replicate (fn.ntmps - args.length) (.c (.v undef)))):=by
      rw [happ,hrep]
      simp [act,fY_]
    rw [henv]
    refine (oz_ hok c).1 (m:=.n) (by simp) h r (λe a' w' hp=>?_) λh=>by cases h
    obtain ⟨h1,h2,σ',rfl,hb',hK⟩:=hp
    have fin:(resK P σ'.H σ'.env fn.results.toList λvs=>forget (some []) (lenH H) (λ_=>false) σ' λσ=>vis S w σ λw _=>K (oneV vs) w)→
        (act (denE σ'.env)).defers=[]∧∃v,(results fn (act (denE σ'.env)).tmps).run P w'=.ok v w'∧∃v',Ending.returned v=Ending.returned v'∧K v' w':=λh=>by
      obtain ⟨vs,hK,hr⟩:=gg_ hb'.rel h
      obtain ⟨σ2,hK,r2,_,_⟩:=a7_ hK hb'.rel
      obtain ⟨σ3,hK,_⟩:=a0_ hK r2
      exact ⟨rfl,oneV vs,e4_ hr,_,rfl,hK⟩
    cases e with
    | normal=>exact fin hK
    | ret=>exact fin hK
    | exit i=>exact hK.elim
    | goto l=>exact hK.elim
    | panic c=>exact absurd rfl (h1 c)
    | outgrown=>exact absurd rfl h2
end
end Go.Vc
