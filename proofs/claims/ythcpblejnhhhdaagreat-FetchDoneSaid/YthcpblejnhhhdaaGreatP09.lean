/-
  A part of the proof of the statement FetchDoneSaid, in Lean: Ml1, Hs1, MirF1, Df3, MirF2, Hs2, Hn1. By an AI agent.
-/
import Derived.Test.YthcpblejnhhhdaaGreatP07
import Derived.Test.YthcpblejnhhhdaaGreatP08
import Derived.Test.YthcpblejnhhhdaaGreatP02
import Derived.Test.YthcpblejnhhhdaaGreatP06
set_option linter.unusedSimpArgs false
set_option linter.unusedVariables false
set_option maxRecDepth 100000
namespace Go.Vc
open Go Go.MapKept
open Go.ChangeMaps (setBlock)
def bc_ (i:Int):Prop:=-9223372036854775808≤i∧i≤9223372036854775807
theorem ck_ {α:Type} : ∀(l m:List α),l.Nodup→(∀x∈l,x∈m)→l.length≤m.length
 | [],m,_,_=>Nat.zero_le _
 | a :: l,m,hn,hs=>by
  classical
  have hn':=List.nodup_cons.1 hn
  have h1:=ck_ l (m.erase a) hn'.2 λx hx=>(List.mem_erase_of_ne (λe=>hn'.1 (by rw [← e];exact hx))).2 (hs x (List.mem_cons_of_mem _ hx))
  have ha:=hs a List.mem_cons_self
  have:=List.length_pos_of_mem ha
  rw [List.length_erase_of_mem ha] at h1
  simp only [List.length_cons];omega
structure MapI (w:World) (r:Nat) (l:List (Int × Value)):Prop where
 nd:(l.map (·.1)).Nodup
 fit:∀p∈l,bc_ p.1
 ex:∃es clock,w.heap[r]? = some (.map es clock)∧Stamped es clock∧es.size=l.length∧(∀x∈es.toList,∃p∈l,x.key=.int .i64 p.1∧x.val=p.2)∧∀p∈l,∃x∈es.toList,x.key=.int .i64 p.1∧x.val=p.2
def grI (l:List (Int × Value)):Value→Value→Prop:=λkey v=>∃p∈l,key=.int .i64 p.1∧v=p.2
theorem MapI.keep {S:Nat→Prop} {w w':World} {r:Nat} {l:List (Int × Value)} (h:MapI w r l) (g:Chg S w w') (hn:¬S r):MapI w' r l:=by
 obtain ⟨es,clock,h1,h2⟩:=h.ex
 exact ⟨h.nd,h.fit,es,clock,g.get h1 hn,h2⟩
theorem MapI.grow {w w':World} {r:Nat} {l:List (Int × Value)} (h:MapI w r l) (g:Grow w w'):MapI w' r l:=h.keep g id
theorem MapI.lt {w:World} {r:Nat} {l:List (Int × Value)} (h:MapI w r l):r<w.heap.size:=by
 obtain ⟨es,clock,h1,h2⟩:=h.ex;exact aj_ h1
theorem MapI.ne {w:World} {r k:Nat} {l:List (Int × Value)} {cs:Array Value} {t:TypeId} {a:Nat × Nat} (h:MapI w r l) (hb:w.heap[k]? = some (.cells cs t a)):k≠r:=by
 rintro rfl
 obtain ⟨es,clock,h1,h2⟩:=h.ex
 rw [hb] at h1;cases h1
theorem MapI.mapP {w:World} {r:Nat} {l:List (Int × Value)} (h:MapI w r l):MapP w T.int r l.length (grI l):=by
 obtain ⟨es,clock,h1,h2,h3,h4,h5⟩:=h.ex
 refine ⟨es,clock,h1,h2,Nat.le_of_eq h3,λx hx=>?_,λkey v=>⟨λ⟨p,hp,e1,e2⟩=>?_,λ⟨x,hx,e1,e2⟩=>?_⟩⟩
 ·obtain ⟨p,hp,e1,_⟩:=h4 x hx
  exact ⟨_,by rw [e1];exact cS_ (h.fit p hp).1 (h.fit p hp).2⟩
 ·obtain ⟨x,hx,k1,k2⟩:=h5 p hp
  exact ⟨x,hx,k1.trans e1.symm,k2.trans e2.symm⟩
 ·obtain ⟨p,hp,k1,k2⟩:=h4 x hx
  exact ⟨p,hp,e1 ▸ k1,e2 ▸ k2⟩
theorem int_inj {a b:Int} (h:Value.int .i64 a=Value.int .i64 b):a=b:=by cases h;rfl
theorem oe_ {l:List (Int × Value)} (h:(l.map (·.1)).Nodup):(l.map λp=>Value.int .i64 p.1).Nodup:=by
 rw [List.nodup_iff_pairwise_ne,List.pairwise_map] at *
 exact h.imp λhn e=>hn (int_inj e)
theorem MapI.of {w:World} {r n:Nat} {R:Value→Value→Prop} {l:List (Int × Value)} (h:MapP w T.int r n R) (hn:(l.map (·.1)).Nodup) (hf:∀p∈l,bc_ p.1) (hR:∀key v,R key v↔grI l key v):MapI w r l:=by
 obtain ⟨es,clock,h1,h2,h3,h4,h5⟩:=h
 have a1:∀x∈es.toList,∃p∈l,x.key=.int .i64 p.1∧x.val=p.2:=λx hx=>(hR _ _).1 ((h5 _ _).2 ⟨x,hx,rfl,rfl⟩)
 have a2:∀p∈l,∃x∈es.toList,x.key=.int .i64 p.1∧x.val=p.2:=λp hp=>(h5 _ _).1 ((hR _ _).2 ⟨p,hp,rfl,rfl⟩)
 have hk:=h2.2.2
 refine ⟨hn,hf,es,clock,h1,h2,?_,a1,a2⟩
 have b1:=ck_ (es.toList.map (·.key)) (l.map λp=>Value.int .i64 p.1) hk λv hv=>by
  obtain ⟨x,hx,rfl⟩:=List.mem_map.1 hv
  obtain ⟨p,hp,e,_⟩:=a1 x hx
  exact List.mem_map.2 ⟨p,hp,e.symm⟩
 have b2:=ck_ (l.map λp=>Value.int .i64 p.1) (es.toList.map (·.key)) (oe_ hn) λv hv=>by
  obtain ⟨p,hp,rfl⟩:=List.mem_map.1 hv
  obtain ⟨x,hx,e,_⟩:=a2 p hp
  exact List.mem_map.2 ⟨x,hx,e⟩
 simp only [List.length_map,Array.length_toList] at b1 b2
 omega
theorem nv_ {l:List (Int × Value)} (hn:(l.map (·.1)).Nodup) {p q:Int × Value} (hp:p∈l) (hq:q∈l) (e:p.1=q.1):p=q:=by
 obtain ⟨i,hi⟩:=List.getElem?_of_mem hp
 obtain ⟨j,hj⟩:=List.getElem?_of_mem hq
 have:i=j:=cl_ hn (a:=p.1) (by rw [List.getElem?_map,hi];rfl) (by rw [List.getElem?_map,hj,e];rfl)
 subst this
 rw [hi] at hj;exact Option.some.inj hj
theorem aU_ {t:TypeId} {w:World} {K:Value→World→Prop} (hK:∀w' r,r=w.heap.size→MapI w' r []→Grow w w'→K (.map (some r)) w'):rn PR (Instr.makeMap t Option.none) K w:=
 ol_ (k:=T.int) λw' r hr hm g=>hK w' r hr (.of hm .nil (λp hp=>by cases hp) λkey v=>⟨λh=>h.elim,λ⟨p,hp,_⟩=>by cases hp⟩) g
theorem aR_ {t e:TypeId} (ht:PR.underlying t=some (.map T.int e)) {w:World} {r:Nat} {l:List (Int × Value)} (h:MapI w r l) {k:Int} (hk:bc_ k) (c:Bool) {z:Value} (hz:∀w:World,(zeroValue e).run PR w=.ok z w) {K:Value→World→Prop}
  (h1:∀v,(k,v)∈l→K (if c then .tuple #[v,.bool true] else v) w) (h2:(∀p∈l,p.1≠k)→K (if c then .tuple #[z,.bool false] else z) w):rn PR (Instr.lookup t (.map (some r)) (.int .i64 k) c) K w:=
 hr_ os_ ht h.mapP (cS_ hk.1 hk.2) c hz (λv ⟨p,hp,e1,e2⟩=>h1 v (by have:=int_inj e1;subst this;subst e2;exact hp)) λhn=>h2 λp hp e=>hn p.2 ⟨p,hp,by rw [e],rfl⟩
def putI (l:List (Int × Value)) (k:Int) (v:Value):List (Int × Value):=if (l.any λp=>p.1 == k) then l.map (λp=>if p.1=k then (k,v) else p) else l++[(k,v)]
def delI (l:List (Int × Value)) (k:Int):List (Int × Value):=l.filter λp=>p.1 != k
theorem jP_ {l:List (Int × Value)} {k:Int} : (l.any λp=>p.1 == k)=true↔∃p∈l,p.1=k:=by simp
theorem gF_ {l:List (Int × Value)} {k:Int} {v:Value} (h:∀p∈l,p.1≠k):putI l k v=l++[(k,v)]:=by
 unfold putI
 rw [if_neg (λe=>by obtain ⟨p,hp,e⟩:=jP_.1 e;exact h p hp e)]
theorem i7_ {l:List (Int × Value)} {k:Int} {v:Value} (h:∃p∈l,p.1=k):(putI l k v).map (·.1)=l.map (·.1):=by
 unfold putI
 rw [if_pos (jP_.2 h),List.map_map]
 refine List.map_congr_left λp hp=>?_
 show (if p.1=k then (k,v) else p).1=p.1
 split
 ·rename_i e;exact e.symm
 ·rfl
theorem b7_ {l:List (Int × Value)} {k:Int} {v:Value} {p:Int × Value} : p∈putI l k v↔p=(k,v)∨p∈l∧p.1≠k:=by
 unfold putI
 split
 ·rename_i h
  obtain ⟨q,hq,e⟩:=jP_.1 h
  rw [List.mem_map]
  constructor
  ·rintro ⟨x,hx,rfl⟩
   split
   ·exact .inl rfl
   ·rename_i hne;exact .inr ⟨hx,hne⟩
  ·rintro (rfl | ⟨hp,hne⟩)
   ·exact ⟨q,hq,by rw [if_pos e]⟩
   ·exact ⟨p,hp,by rw [if_neg hne]⟩
 ·rename_i h
  rw [List.mem_append,List.mem_singleton]
  constructor
  ·rintro (hp | rfl)
   ·exact .inr ⟨hp,λe=>h (jP_.2 ⟨p,hp,e⟩)⟩
   ·exact .inl rfl
  ·rintro (rfl | ⟨hp,_⟩)
   ·exact .inr rfl
   ·exact .inl hp
theorem mO_ {l:List (Int × Value)} (hn:(l.map (·.1)).Nodup) {k:Int} {v:Value} : ((putI l k v).map (·.1)).Nodup:=by
 by_cases h:∃p∈l,p.1=k
 ·rw [i7_ h];exact hn
 ·have h':∀p∈l,p.1≠k:=λp hp e=>h ⟨p,hp,e⟩
  rw [gF_ h',List.map_append,List.nodup_append]
  refine ⟨hn,by simp,λa ha b hb e=>?_⟩
  obtain ⟨p,hp,rfl⟩:=List.mem_map.1 ha
  simp at hb
  exact h' p hp (e.trans hb)
theorem d0_ {l:List (Int × Value)} {k:Int} {p:Int × Value} : p∈delI l k↔p∈l∧p.1≠k:=by simp [delI]
theorem mP_ {l:List (Int × Value)} (hn:(l.map (·.1)).Nodup) {k:Int} : ((delI l k).map (·.1)).Nodup:=by
 rw [List.nodup_iff_pairwise_ne,List.pairwise_map] at *
 exact hn.filter _
theorem cT_ {t e:TypeId} (ht:PR.underlying t=some (.map T.int e)) {w:World} {r:Nat} {l:List (Int × Value)} (h:MapI w r l) {k:Int} (hk:bc_ k) {v:Value} {K:Unit→World→Prop}
  (hK:∀w',MapI w' r (putI l k v)→Chg (· = r) w w'→w'.heap.size=w.heap.size→K () w'):rn PR (Instr.mapUpdate t (.map (some r)) (.int .i64 k) v) K w:=by
 refine jY_ os_ ht h.mapP (cS_ hk.1 hk.2) λw' hm g hs=>hK w' (.of hm (mO_ h.nd) (λp hp=>?_) λkey x=>?_) g hs
 ·rcases b7_.1 hp with rfl | ⟨hp,_⟩
  ·exact hk
  ·exact h.fit p hp
 ·constructor
  ·rintro (⟨rfl,rfl⟩ | ⟨hne,p,hp,rfl,rfl⟩)
   ·exact ⟨(k,x),b7_.2 (.inl rfl),rfl,rfl⟩
   ·exact ⟨p,b7_.2 (.inr ⟨hp,λe=>hne (by rw [e])⟩),rfl,rfl⟩
  ·rintro ⟨p,hp,rfl,rfl⟩
   rcases b7_.1 hp with rfl | ⟨hp,hne⟩
   ·exact .inl ⟨rfl,rfl⟩
   ·exact .inr ⟨λe=>hne (int_inj e),p,hp,rfl,rfl⟩
theorem d4_ {t e ty:TypeId} (ht:PR.underlying t=some (.map T.int e)) {w:World} {r:Nat} {l:List (Int × Value)} (h:MapI w r l) {k:Int} (hk:bc_ k) {K:Value→World→Prop}
  (hK:∀w',MapI w' r (delI l k)→Chg (· = r) w w'→w'.heap.size=w.heap.size→K (.tuple #[]) w'):rn PR (Builtin.delete_ #[t,T.int] ty #[.map (some r),.int .i64 k]) K w:=by
 obtain ⟨es,clock,h1,h2,h3,h4,h5⟩:=h.mapP
 obtain ⟨es',hrun,hst,hsz,hsl,hmem⟩:=m0_ (ty:=ty) os_ ht h1 h2 h4 (cS_ hk.1 hk.2)
 refine ee_ hrun (hK _ (.of (n:=l.length) (R:=λkey v=>grI l key v∧key≠.int .i64 k) ⟨es',clock,kJ_ h1,hst,by omega,λx hx=>h4 x (hsl.subset hx),λkey v=>?_⟩ (mP_ h.nd) (λp hp=>h.fit p (d0_.1 hp).1) λkey v=>?_) (mt_ _ _ _) (by simp [setBlock]))
 ·constructor
  ·rintro ⟨hg,hne⟩
   obtain ⟨x,hx,e1,e2⟩:=(h5 _ _).1 hg
   exact ⟨x,(hmem x).2 ⟨hx,by rw [e1];exact hne⟩,e1,e2⟩
  ·rintro ⟨x,hx,rfl,rfl⟩
   have:=(hmem x).1 hx
   exact ⟨(h5 _ _).2 ⟨x,this.1,rfl,rfl⟩,this.2⟩
 ·constructor
  ·rintro ⟨⟨p,hp,rfl,rfl⟩,hne⟩
   exact ⟨p,d0_.2 ⟨hp,λe=>hne (by rw [e])⟩,rfl,rfl⟩
  ·rintro ⟨p,hp,rfl,rfl⟩
   have:=d0_.1 hp
   exact ⟨⟨p,this.1,rfl,rfl⟩,λe=>this.2 (int_inj e)⟩
structure dr_ (w:World) (r ri:Nat) (l:List (Int × Value)) (done:List Int):Prop where
 nd:(l.map (·.1)).Nodup
 dn:done.Nodup
 sub:∀i∈done,i∈l.map (·.1)
 ex:∃es since seen c0 clock,w.heap[r]? = some (.map es clock)∧Stamped es clock∧w.heap[ri]? = some (.mapIter (some r) since seen c0)∧(∀x∈es.toList,x.born<since)∧since≤c0∧since≤clock∧(∀x∈es.toList,∃p∈l,x.key=.int .i64 p.1∧x.val=p.2)∧(∀p∈l,∃x∈es.toList,x.key=.int .i64 p.1∧x.val=p.2)∧∀x∈es.toList,seen.contains x.born=true↔∃i∈done,x.key=.int .i64 i
theorem dr_.keep {S:Nat→Prop} {w w':World} {r ri:Nat} {l:List (Int × Value)} {done:List Int} (h:dr_ w r ri l done) (g:Chg S w w') (h1:¬S r) (h2:¬S ri):dr_ w' r ri l done:=by
 obtain ⟨es,since,seen,c0,clock,e1,e2,e3,e4⟩:=h.ex
 exact ⟨h.nd,h.dn,h.sub,es,since,seen,c0,clock,g.get e1 h1,e2,g.get e3 h2,e4⟩
theorem dr_.grow {w w':World} {r ri:Nat} {l:List (Int × Value)} {done:List Int} (h:dr_ w r ri l done) (g:Grow w w'):dr_ w' r ri l done:=h.keep g id id
theorem dr_.lt {w:World} {r ri:Nat} {l:List (Int × Value)} {done:List Int} (h:dr_ w r ri l done):ri<w.heap.size:=by
 obtain ⟨es,since,seen,c0,clock,e1,e2,e3,e4⟩:=h.ex;exact aj_ e3
theorem dr_.ne {w:World} {r ri k:Nat} {l:List (Int × Value)} {done:List Int} {cs:Array Value} {t:TypeId} {a:Nat × Nat} (h:dr_ w r ri l done) (hb:w.heap[k]? = some (.cells cs t a)):k≠ri:=by
 rintro rfl
 obtain ⟨es,since,seen,c0,clock,e1,e2,e3,e4⟩:=h.ex
 rw [hb] at e3;cases e3
theorem ki_ {t e:TypeId} (ht:PR.underlying t=some (.map T.int e)) {w:World} {r:Nat} {l:List (Int × Value)} (h:MapI w r l) {K:Value→World→Prop}
  (hK:∀w' ri,ri=w.heap.size→dr_ w' r ri l []→Grow w w'→K (.pointer (some ⟨ri,0,none⟩)) w'):rn PR (Instr.range t (.map (some r))) K w:=by
 obtain ⟨es,clock,h1,h2,h3,h4,h5⟩:=h.ex
 refine ee_ (run_range_map w t T.int e r es clock ht h1) (hK _ _ rfl ⟨h.nd,.nil,(λi hi=>by cases hi),es,clock,#[],clock,clock,?_,h2,?_,h2.1,Nat.le_refl _,Nat.le_refl _,h4,h5,λx hx=>⟨λhs=>by simp at hs,λ⟨i,hi,_⟩=>by cases hi⟩⟩ (Chg.alloc _ _))
 ·exact Grow.get (Chg.alloc _ _) h1
 ·show (w.heap.push _)[_]? = _;simp
structure EntI (w:World) (r ri:Nat) (l:List (Int × Value)) (done:List Int) (p:Int × Value):Prop where
 it:dr_ w r ri l (p.1 :: done)
 ent:(Instr.entry (.pointer (some ⟨ri,0,none⟩))).run PR w=.ok (.tuple #[.int .i64 p.1,p.2]) w
theorem me_ {ty:TypeId} {w:World} {r ri:Nat} {l:List (Int × Value)} {done:List Int} (h:dr_ w r ri l done) {K:Value→World→Prop}
  (hE:(∀p∈l,p.1∈done)→K (.tuple #[.bool false]) w)
  (hN:∀p w',p∈l→p.1∉done→done.length<l.length→EntI w' r ri l done p→Chg (· = ri) w w'→w'.heap.size=w.heap.size→K (.tuple #[.bool true,.int .i64 p.1,p.2]) w') :
  rn PR (Instr.next (.pointer (some ⟨ri,0,none⟩)) false ty) K w:=by
 obtain ⟨es,since,seen,c0,clock,e1,e2,e3,e4,e5,e6,e7,e8,e9⟩:=h.ex
 rcases run_next_at (P:=PR) w ty ri r since c0 seen es clock e3 e1 e4 e5 with ⟨h0,hrun⟩ | ⟨x,hx,w1,hal,hrun⟩
 ·refine ee_ hrun (hE λp hp=>?_)
  obtain ⟨x,hx,k1,k2⟩:=e8 p hp
  obtain ⟨i,hi,k3⟩:=(e9 x hx).1 (all_seen es seen h0 x hx)
  rw [k1] at k3
  rw [int_inj k3];exact hi
 ·obtain ⟨hm,hs⟩:=mem_left hx
  obtain ⟨p,hp,k1,k2⟩:=e7 x hm
  have hnd:p.1∉done:=λhd=>by
   have:=(e9 x hm).2 ⟨p.1,hd,k1⟩
   rw [this] at hs;cases hs
  have hri:ri≠r:=λe=>by rw [e,e1] at e3;cases e3
  have g1:Grow w w1:=by rcases hal with rfl | rfl;exact .refl _ _;exact .drew _
  have hr1:w1.heap[ri]? = some (.mapIter (some r) since seen c0):=by rcases hal with rfl | rfl <;> exact e3
  have hb1:w1.heap[r]? = some (.map es clock):=by rcases hal with rfl | rfl <;> exact e1
  have sz:w1.heap.size=w.heap.size:=by rcases hal with rfl | rfl <;> rfl
  have g2:Chg (· = ri) w1 (setBlock w1 ri (.mapIter (some r) since (seen.push x.born) clock)):=mt_ _ _ _
  have hr2:=kJ_ (o':=.mapIter (some r) since (seen.push x.born) clock) hr1
  have hb2:=g2.get hb1 hri.symm
  have sz2:(setBlock w1 ri (.mapIter (some r) since (seen.push x.born) clock)).heap.size=w1.heap.size:=by simp [setBlock]
  have hlen:done.length<l.length:=by
   have:=ck_ (p.1 :: done) (l.map (·.1)) (List.nodup_cons.2 ⟨hnd,h.dn⟩) λi hi=>by
    rcases List.mem_cons.1 hi with rfl | hi
    ·exact List.mem_map.2 ⟨p,hp,rfl⟩
    ·exact h.sub i hi
   simp at this;omega
  refine ee_ hrun ?_
  rw [k1,k2]
  refine hN p _ hp hnd hlen ⟨⟨h.nd,List.nodup_cons.2 ⟨hnd,h.dn⟩,λi hi=>?_,es,since,seen.push x.born,clock,clock,hb2,e2,hr2,e4,e6,e6,e7,e8,λy hy=>?_⟩,?_⟩ (g1.chg.trans g2 λk _ e=>e) (by rw [sz2,sz])
  ·rcases List.mem_cons.1 hi with rfl | hi
   ·exact List.mem_map.2 ⟨p,hp,rfl⟩
   ·exact h.sub i hi
  ·by_cases hye:y.born=x.born
   ·have:y=x:=born_inj e2.2.1 hy hm hye
    subst this
    simp only [Array.contains_push,List.mem_cons]
    exact ⟨λ_=>⟨p.1,.inl rfl,k1⟩,λ_=>by simp⟩
   ·have hkey:y.key≠.int .i64 p.1:=λe=>by
     have:y=x:=by
      obtain ⟨i,hi⟩:=List.getElem?_of_mem hy
      obtain ⟨j,hj⟩:=List.getElem?_of_mem hm
      have:i=j:=cl_ e2.2.2 (a:=y.key) (by rw [List.getElem?_map,hi];rfl) (by rw [List.getElem?_map,hj,e,← k1];rfl)
      subst this
      rw [hi] at hj;exact Option.some.inj hj
     exact hye (by rw [this])
    have:(seen.push x.born).contains y.born=seen.contains y.born:=by
     simp [Array.contains_push,hye]
    rw [this,e9 y hy]
    constructor
    ·rintro ⟨i,hi,e⟩;exact ⟨i,List.mem_cons_of_mem _ hi,e⟩
    ·rintro ⟨i,hi,e⟩
     rcases List.mem_cons.1 hi with rfl | hi
     ·exact absurd e hkey
     ·exact ⟨i,hi,e⟩
  ·rw [← k1,← k2]
   exact run_entry_at _ ri r since seen es clock x hr2 hb2 hm e2.2.1
end Go.Vc
namespace Go.Vc
open Go Go.MapKept
structure HV where
 man:Man
 q:Option Addr
 c:Nat
 b:Nat
 bm:Nat
 om:Nat
 bl:List (Int × Int × List UInt8)
 ol:List (Int × Int × List UInt8)
def plV (x:Int × List UInt8):Value:=.agg #[.int .i64 x.1,.string (str x.2)]
def blI (l:List (Int × Int × List UInt8)):List (Int × Value):=l.map λp=>(p.1,plV p.2)
def hvC (v:HV):Array Value:=#[.int .i64 v.man.version,.int .i64 v.man.nodes,.int .i64 v.man.edges,.slice v.q v.man.shards.length v.c,.int .i64 v.man.blocks,.string (str v.man.root),.map (some v.bm),.map (some v.om)]
structure HVAt (w:World) (v:HV):Prop where
 blk:w.heap[v.b]? = some (.cells (hvC v) T.aH_ (0,0))
 own:Own T.aK_ 2 w v.q v.c (encE v.man.shards)
 bm:MapI w v.bm (blI v.bl)
 om:MapI w v.om (blI v.ol)
 ok:v.man.ok
 inB:∀p∈v.bl,0≤p.1∧p.1<v.man.blocks
def vS (v:HV):Nat→Prop:=λk=>k=v.b∨k=v.bm∨k=v.om∨ak_ v.q k
theorem HVAt.keep {S:Nat→Prop} {w w':World} {v:HV} (h:HVAt w v) (g:Chg S w w') (hn:∀k,vS v k→¬S k):HVAt w' v:=
 ⟨g.get h.blk (hn _ (.inl rfl)),h.own.keep g (ak_.off λk hk=>hn k (.inr (.inr (.inr hk)))),h.bm.keep g (hn _ (.inr (.inl rfl))),h.om.keep g (hn _ (.inr (.inr (.inl rfl)))),h.ok,h.inB⟩
theorem HVAt.grow {w w':World} {v:HV} (h:HVAt w v) (g:Grow w w'):HVAt w' v:=h.keep g λ_ _ e=>e
theorem HVAt.lt {w:World} {v:HV} (h:HVAt w v):∀k,vS v k→k<w.heap.size:=by
 rintro k (rfl | rfl | rfl | ⟨a,ha,rfl⟩)
 ·exact aj_ h.blk
 ·exact h.bm.lt
 ·exact h.om.lt
 ·exact h.own.lt a ha
structure HS where
 bh:Nat
 bj:Nat
 m:Nat
 j:JP
 recs:List (List UInt8)
 d:DM
 vs:List HV
 act:Int
 prep:Int
 lv:Int
 li:Int
def hsC (s:HS):Array Value:=#[.pointer (some ⟨s.bj,0,none⟩),.map (some s.m),.int .i64 s.act,.int .i64 s.prep,.int .i64 s.lv,.int .i64 s.li]
def ptV (v:HV):Int × Value:=(v.man.version,.pointer (some ⟨v.b,0,none⟩))
structure ax_ (w:World) (s:HS):Prop where
 blk:w.heap[s.bh]? = some (.cells (hsC s) T.ar_ (0,0))
 jr:JrnF w s.bj s.j s.recs s.d
 mp:MapI w s.m (s.vs.map ptV)
 vs:∀v∈s.vs,HVAt w v
 nd:(s.m :: s.vs.flatMap λv=>[v.bm,v.om]).Nodup
 sl:∀v∈s.vs,∀p∈v.bl++v.ol,0≤p.2.1∧p.2.1<s.d.sl.length
 few:s.vs.length≤3
 dl:s.d.sl.length≤4096
def hS (s:HS):Nat→Prop:=λk=>k=s.bh∨jfS s.bj s.j k∨k=s.m∨∃v∈s.vs,k=v.bm∨k=v.om
def hA (s:HS):Nat→Prop:=λk=>hS s k∨∃v∈s.vs,vS v k
theorem ax_.keep {S:Nat→Prop} {w w':World} {s:HS} (h:ax_ w s) (g:Chg S w w') (hn:∀k,hA s k→¬S k):ax_ w' s:=
 ⟨g.get h.blk (hn _ (.inl (.inl rfl))),h.jr.keep g λk hk=>hn k (.inl (.inr (.inl hk))),h.mp.keep g (hn _ (.inl (.inr (.inr (.inl rfl))))),λv hv=>(h.vs v hv).keep g λk hk=>hn k (.inr ⟨v,hv,hk⟩),h.nd,h.sl,h.few,h.dl⟩
theorem ax_.grow {w w':World} {s:HS} (h:ax_ w s) (g:Grow w w'):ax_ w' s:=h.keep g λ_ _ e=>e
theorem ax_.lt {w:World} {s:HS} (h:ax_ w s):∀k,hA s k→k<w.heap.size:=by
 rintro k ((rfl | hk | rfl | ⟨v,hv,rfl | rfl⟩) | ⟨v,hv,hk⟩)
 ·exact aj_ h.blk
 ·exact h.jr.lt k hk
 ·exact h.mp.lt
 ·exact (h.vs v hv).bm.lt
 ·exact (h.vs v hv).om.lt
 ·exact (h.vs v hv).lt k hk
theorem JrnF.cells {w:World} {bj:Nat} {j:JP} {recs:List (List UInt8)} {d:DM} (h:JrnF w bj j recs d) {k:Nat} (hk:jfS bj j k):∃cs t f,w.heap[k]? = some (.cells cs t f)∧(t=T.bv_∨t=T.cq_∨t=T.string∨t=T.bO_):=by
 rcases hk with rfl | (rfl | ⟨a,ha,rfl⟩ | ⟨a,ha,rfl⟩ | ⟨a,ha,rfl⟩) | ⟨a,ha,rfl⟩
 ·exact ⟨_,_,_,h.blk,.inl rfl⟩
 ·exact ⟨_,_,_,h.dsk.blk,.inr (.inl rfl)⟩
 ·obtain ⟨cs,hh⟩:=h.dsk.o0.ty ha;exact ⟨_,_,_,hh,.inr (.inr (.inl rfl))⟩
 ·obtain ⟨cs,hh⟩:=h.dsk.o1.ty ha;exact ⟨_,_,_,hh,.inr (.inr (.inl rfl))⟩
 ·obtain ⟨cs,hh⟩:=h.dsk.ow.ty ha;exact ⟨_,_,_,hh,.inr (.inr (.inr rfl))⟩
 ·obtain ⟨cs,hh⟩:=h.own.ty ha;exact ⟨_,_,_,hh,.inr (.inr (.inl rfl))⟩
theorem JrnF.other {w:World} {bj:Nat} {j:JP} {recs:List (List UInt8)} {d:DM} (h:JrnF w bj j recs d) {k:Nat} {cs:Array Value} {t:TypeId} {f:Nat × Nat} (hb:w.heap[k]? = some (.cells cs t f)) (ht:t=T.ar_∨t=T.aH_∨t=T.aK_):¬jfS bj j k:=λhk=>by
 obtain ⟨ds,u,g,hh,hu⟩:=h.cells hk
 rw [hb] at hh
 cases hh
 rcases ht with rfl | rfl | rfl <;> rcases hu with e | e | e | e <;> exact absurd e (by decide)
theorem JrnF.map {w:World} {bj r:Nat} {j:JP} {recs:List (List UInt8)} {d:DM} {l:List (Int × Value)} (h:JrnF w bj j recs d) (hm:MapI w r l):¬jfS bj j r:=λhk=>by
 obtain ⟨ds,u,g,hh,hu⟩:=h.cells hk
 exact hm.ne hh rfl
theorem HVAt.off {w:World} {v:HV} (h:HVAt w v) {k:Nat} (hk:k=v.b∨ak_ v.q k):∃cs t f,w.heap[k]? = some (.cells cs t f)∧(t=T.aH_∨t=T.aK_):=by
 rcases hk with rfl | ⟨a,ha,rfl⟩
 ·exact ⟨_,_,_,h.blk,.inl rfl⟩
 ·obtain ⟨cs,hh⟩:=h.own.ty ha;exact ⟨_,_,_,hh,.inr rfl⟩
theorem ax_.bhj {w:World} {s:HS} (h:ax_ w s):¬jfS s.bj s.j s.bh:=h.jr.other h.blk (.inl rfl)
theorem ax_.mj {w:World} {s:HS} (h:ax_ w s):¬jfS s.bj s.j s.m:=h.jr.map h.mp
theorem ax_.fs {w:World} {s:HS} (h:ax_ w s):Fs (hS s) w [⟨s.bh,hsC s,T.ar_,true⟩] w:=(Fr.init _ w).entry h.blk (λx h=>by cases h) λ_=>.inl rfl
theorem ax_.uniq {w:World} {s:HS} (h:ax_ w s) {a b:HV} (ha:a∈s.vs) (hb:b∈s.vs) (e:a.man.version=b.man.version):a=b:=by
 have hn:=h.mp.nd
 rw [List.map_map] at hn
 obtain ⟨i,hi⟩:=List.getElem?_of_mem ha
 obtain ⟨j,hj⟩:=List.getElem?_of_mem hb
 have:i=j:=cl_ hn (a:=a.man.version) (by rw [List.getElem?_map,hi];rfl) (by rw [List.getElem?_map,hj];exact congrArg some e.symm)
 subst this
 rw [hi] at hj;exact Option.some.inj hj
def h2_ (s:HS) (n:Int):Prop:=∃v∈s.vs,∃p∈v.bl++v.ol,p.2.1=n
theorem kz_ (s:HS) (h:(s.vs.flatMap λv=>v.bl++v.ol).length<s.d.sl.length):∃n:Nat,n<s.d.sl.length∧¬h2_ s n:=by
 refine Classical.byContradiction λhc=>?_
 have h1:=ck_ ((List.range s.d.sl.length).map λn:Nat=>(n:Int)) ((s.vs.flatMap λv=>v.bl++v.ol).map (·.2.1)) ?_ λx hx=>?_
 ·simp only [List.length_map,List.length_range] at h1;omega
 ·rw [List.nodup_iff_pairwise_ne,List.pairwise_map]
  exact (List.nodup_iff_pairwise_ne.1 List.nodup_range).imp λhn e=>hn (by omega)
 ·obtain ⟨n,hn,rfl⟩:=List.mem_map.1 hx
  have hu:h2_ s n:=Classical.byContradiction λhu=>hc ⟨n,List.mem_range.1 hn,hu⟩
  obtain ⟨v,hv,p,hp,e⟩:=hu
  exact List.mem_map.2 ⟨p,List.mem_flatMap.2 ⟨v,hv,hp⟩,e⟩
end Go.Vc
namespace Go.Vc
open Go
theorem oI_ (k0:Nat) (m1:Int) (t2:Bool) (z3:ByteArray) (y4:Option Addr) (ly4:Nat) (cy4:Nat) (z5:ByteArray) (y6:Option Addr) (ly6:Nat) (cy6:Nat) (y7:Option Addr) (ly7:Nat) (cy7:Nat) (m8:Int) (S:SP) (K:KP) (w:World) (hF:Fs S w [⟨k0,#[.int .i64 m1,.bool t2,.string z3,.slice y4 ly4 cy4,.string z5,.slice y6 ly6 cy6,.slice y7 ly7 cy7],121,true⟩] w) (hS:S k0∧True) (h:aa_ PR 120 #[.pointer (some (⟨k0,0,none⟩))] w λv0 w0=>∃v1,v0=v1∧Fs S w [⟨k0,#[Iv m1,.bool t2,.string z3,.slice y4 ly4 cy4,.string z5,.slice y6 ly6 cy6,.slice y7 ly7 cy7],121,true⟩] w0∧(v1=.nilIface→(m8<0→K (.iface 73 (Iv 2)) w0)∧(¬(m8<0)→(m8≥(ly4:Int)→K (.iface 73 (Iv 2)) w0)∧(¬(m8≥(ly4:Int))→K .nilIface w0)))∧(∀x0 v2,v1=.iface x0 v2→K v1 w0)∧(v1=.nilIface∨∃l0 v3,v1=.iface l0 v3)):aa_ PR 101 ⟨[.pointer (some ⟨k0,0,none⟩),.int .i64 m8]⟩ w K:=
 ab_ (okf:=⟨okL,[]⟩) ag_ (args:=[.c (.p 0 k0 true 0),.c (.v (.int .i64 m8))]) (H:=[⟨k0,.l [.v (.int .i64 m1),.v (.bool t2),.v (.string z3),.v (.slice y4 ly4 cy4),.v (.string z5),.v (.slice y6 ly6 cy6),.v (.slice y7 ly7 cy7)],121,true⟩]) (.s .z (.s (.s (.r ⟨(some [0]),false,[],[]⟩) .z) .z)) Go.Proofs.Tryz.func101 rfl ⟨rfl,trivial,trivial⟩ ⟨⟨trivial,⟨trivial,⟨trivial,⟨trivial,⟨trivial,⟨trivial,⟨trivial,trivial⟩⟩⟩⟩⟩⟩⟩,trivial⟩ hF hS (ac_ (by kernel_rfl) h)
theorem jC_ (k0:Nat) (m1:Int) (t2:Bool) (z3:ByteArray) (y4:Option Addr) (ly4:Nat) (cy4:Nat) (z5:ByteArray) (y6:Option Addr) (ly6:Nat) (cy6:Nat) (y7:Option Addr) (ly7:Nat) (cy7:Nat) (m8:Int) (z9:ByteArray) (S:SP) (K:KP) (w:World) (hF:Fs S w [⟨k0,#[.int .i64 m1,.bool t2,.string z3,.slice y4 ly4 cy4,.string z5,.slice y6 ly6 cy6,.slice y7 ly7 cy7],121,true⟩] w) (hS:S k0∧True) (h:aa_ PR 101 #[.pointer (some (⟨k0,0,none⟩)),Iv m8] w λv0 w0=>∃v1,v0=v1∧Fs S w [⟨k0,#[Iv m1,.bool t2,.string z3,.slice y4 ly4 cy4,.string z5,.slice y6 ly6 cy6,.slice y7 ly7 cy7],121,true⟩] w0∧(v1=.nilIface→(((ByteArray.size z9:Nat):Int)>64→K (.iface 73 (Iv 6)) w0)∧(¬(((ByteArray.size z9:Nat):Int)>64)→aa_ PR 102 #[.pointer (some (⟨k0,0,none⟩)),.agg #[Iv m8,.string z9]] w0 λv2 w1=>∃v3,v2=v3∧∃n0 b0 s0 q0 l0 l1 s1 q1 l2 l3 q2 l4 l5,Fs S w [⟨k0,#[Iv n0,.bool b0,.string s0,.slice q0 l0 l1,.string s1,.slice q1 l2 l3,.slice q2 l4 l5],121,true⟩] w1∧K v3 w1))∧(∀x0 v4,v1=.iface x0 v4→K v1 w0)∧(v1=.nilIface∨∃l6 v5,v1=.iface l6 v5)):aa_ PR 53 ⟨[.pointer (some ⟨k0,0,none⟩),.int .i64 m8,.string z9]⟩ w K:=
 ab_ (okf:=⟨okL,[]⟩) ag_ (args:=[.c (.p 0 k0 true 0),.c (.v (.int .i64 m8)),.c (.v (.string z9))]) (H:=[⟨k0,.l [.v (.int .i64 m1),.v (.bool t2),.v (.string z3),.v (.slice y4 ly4 cy4),.v (.string z5),.v (.slice y6 ly6 cy6),.v (.slice y7 ly7 cy7)],121,true⟩]) (.s .z (.s (.s (.r ⟨(some [0]),false,[],[]⟩) .z) (.s .z (.s (.r ⟨(some [0]),false,[],[(4,[999])]⟩) .z)))) Go.Proofs.Tryz.func53 rfl ⟨rfl,trivial,trivial,trivial⟩ ⟨⟨trivial,⟨trivial,⟨trivial,⟨trivial,⟨trivial,⟨trivial,⟨trivial,trivial⟩⟩⟩⟩⟩⟩⟩,trivial⟩ hF hS (ac_ (by kernel_rfl) h)
theorem hN_ (k0:Nat) (m1:Int) (t2:Bool) (z3:ByteArray) (y4:Option Addr) (ly4:Nat) (cy4:Nat) (z5:ByteArray) (y6:Option Addr) (ly6:Nat) (cy6:Nat) (y7:Option Addr) (ly7:Nat) (cy7:Nat) (S:SP) (K:KP) (w:World) (hF:Fs S w [⟨k0,#[.int .i64 m1,.bool t2,.string z3,.slice y4 ly4 cy4,.string z5,.slice y6 ly6 cy6,.slice y7 ly7 cy7],121,true⟩] w) (hS:S k0∧True) (h:K (Iv (ly4:Int)) w):aa_ PR 99 ⟨[.pointer (some ⟨k0,0,none⟩)]⟩ w K:=
 ab_ (okf:=⟨okL,[]⟩) ag_ (args:=[.c (.p 0 k0 true 0)]) (H:=[⟨k0,.l [.v (.int .i64 m1),.v (.bool t2),.v (.string z3),.v (.slice y4 ly4 cy4),.v (.string z5),.v (.slice y6 ly6 cy6),.v (.slice y7 ly7 cy7)],121,true⟩]) .z Go.Proofs.Tryz.func99 rfl ⟨rfl,trivial⟩ ⟨⟨trivial,⟨trivial,⟨trivial,⟨trivial,⟨trivial,⟨trivial,⟨trivial,trivial⟩⟩⟩⟩⟩⟩⟩,trivial⟩ hF hS (ac_ (by kernel_rfl) h)
theorem dH_ (m0:Int) (m1:Int) (S:SP) (K:KP) (w:World) (h:∃I0:Int→Int→(Option Addr)→Nat→Nat→Nat→World→Prop,(∃l0,I0 m0 m1 none 0 0 l0 w)∧∀n0 n1 q0 l1 l2,∀D0:Nat→Value,∀l3 w0,I0 n0 n1 q0 l1 l2 l3 w0→Fs S w [] w0→(n1>1→aa_ PR 60 #[Iv n1] w0 λv0 w1=>∃n2,v0=Iv n2∧Fs S w [] w1∧(n0<n2→∀l4,w1.heap.size≤l4→∀w2,Fr S w w1 [] [⟨l4,#[.bool true],4,true⟩] w2→rn PR (Builtin.append_ #[245,245] 245 #[.slice q0 l1 l2,.slice (some (⟨l4,0,none⟩)) 1 1]) (λv1 w3=>∃q1 l5 l6,v1=.slice q1 l5 l6∧Fs S w [⟨l4,#[.bool true],4,true⟩] w3∧∃l7,l7<l3∧I0 n0 n2 q1 l5 l6 l7 w3) w2)∧(¬(n0<n2)→∀l8,w1.heap.size≤l8→∀w4,Fr S w w1 [] [⟨l8,#[.bool false],4,true⟩] w4→rn PR (Builtin.append_ #[245,245] 245 #[.slice q0 l1 l2,.slice (some (⟨l8,0,none⟩)) 1 1]) (λv2 w5=>∃q2 l9 l10,v2=.slice q2 l9 l10∧Fs S w [⟨l8,#[.bool false],4,true⟩] w5∧∃l11,l11<l3∧I0 (IntKind.wrap .i64 (n0 - n2)) (IntKind.wrap .i64 (n1 - n2)) q2 l9 l10 l11 w5) w4))∧(¬(n1>1)→K (.slice q0 l1 l2) w0)):aa_ PR 138 ⟨[.int .i64 m0,.int .i64 m1]⟩ w K:=
 ab_ (okf:=⟨okL,[]⟩) ag_ (args:=[.c (.v (.int .i64 m0)),.c (.v (.int .i64 m1))]) (H:=[]) (.s .z (.s .z (.s (.b (.l (some []) (some []) [(0,.c (.int .i64)),(1,.c (.int .i64)),(5,.c (.sl))] [] (.s .z (.b (.s (.r ⟨(some []),false,[],[]⟩) (.s (.s .z (.c (.s (.r ⟨(some []),false,[],[]⟩) .z) .z)) (.r ⟨(some []),false,[],[]⟩))))))) .z))) Go.Proofs.Tryz.func138 rfl ⟨trivial,trivial,trivial⟩ trivial (Fr.init S w) trivial (ac_ (by kernel_rfl) h)
theorem f8_ (m0:Int) (m1:Int) (S:SP) (K:KP) (w:World) (h:(m0≥0→(m0<m1→(m1≤1048576→K (.bool true) w)∧(¬(m1≤1048576)→K (.bool false) w))∧(¬(m0<m1)→K (.bool false) w))∧(¬(m0≥0)→K (.bool false) w)):aa_ PR 137 ⟨[.int .i64 m0,.int .i64 m1]⟩ w K:=
 ab_ (okf:=⟨okL,[]⟩) ag_ (args:=[.c (.v (.int .i64 m0)),.c (.v (.int .i64 m1))]) (H:=[]) .z Go.Proofs.Tryz.func137 rfl ⟨trivial,trivial,trivial⟩ trivial (Fr.init S w) trivial (ac_ (by kernel_rfl) h)
theorem hp_ (m0:Int) (m1:Int) (z2:ByteArray) (y3:Option Addr) (ly3:Nat) (cy3:Nat) (S:SP) (K:KP) (w:World) (h:aa_ PR 137 #[Iv m0,Iv m1] w λv0 w0=>∃b0,v0=.bool b0∧(b0=true→Fs S w [] w0∧aa_ PR 138 #[Iv m0,Iv m1] w0 λv1 w1=>∃q0 l0 l1,v1=.slice q0 l0 l1∧Fs S w [] w1∧((ly3:Int)=(l0:Int)→(((ByteArray.size z2:Nat):Int)=32→∃I0:ByteArray→Int→Nat→World→Prop,(∃l2,I0 z2 0 l2 w1)∧∀s0 n0,∀D0:Nat→Value,∀l3 w2,I0 s0 n0 l3 w2→Fs S w [] w2→(n0<(ly3:Int)→Dr y3 λa0=>(0:Int)≤n0∧n0<(ly3:Int)∧Dr (some (Addr.add a0 (Int.toNat n0*1))) λa1=>∃s1,World.cell? w2 a1=some (.string s1)∧(((ByteArray.size s1:Nat):Int)=32→Dr q0 λa2=>(0:Int)≤IntKind.wrap .i64 (IntKind.wrap .i64 ((l0:Int) - 1) - n0)∧IntKind.wrap .i64 (IntKind.wrap .i64 ((l0:Int) - 1) - n0)<(l0:Int)∧Dr (some (Addr.add a2 (Int.toNat (IntKind.wrap .i64 (IntKind.wrap .i64 ((l0:Int) - 1) - n0))*1))) λa3=>∃b1,World.cell? w2 a3=some (.bool b1)∧(b1=true→aa_ PR 139 #[.string s0,.string s1] w2 λv2 w3=>∃s2,v2=.string s2∧Fs S w [] w3∧∃l4,l4<l3∧I0 s2 (IntKind.wrap .i64 (n0+1)) l4 w3)∧(b1=false→aa_ PR 139 #[.string s1,.string s0] w2 λv3 w4=>∃s3,v3=.string s3∧Fs S w [] w4∧∃l5,l5<l3∧I0 s3 (IntKind.wrap .i64 (n0+1)) l5 w4))∧(¬(((ByteArray.size s1:Nat):Int)=32)→K (.tuple #[.string ⟨#[]⟩,.iface 73 (Iv 11)]) w2))∧(¬(n0<(ly3:Int))→K (.tuple #[.string s0,.nilIface]) w2))∧(¬(((ByteArray.size z2:Nat):Int)=32)→K (.tuple #[.string ⟨#[]⟩,.iface 73 (Iv 11)]) w1))∧(¬((ly3:Int)=(l0:Int))→K (.tuple #[.string ⟨#[]⟩,.iface 73 (Iv 11)]) w1))∧(b0=false→Fs S w [] w0∧K (.tuple #[.string ⟨#[]⟩,.iface 73 (Iv 2)]) w0)):aa_ PR 97 ⟨[.int .i64 m0,.int .i64 m1,.string z2,.slice y3 ly3 cy3]⟩ w K:=
 ab_ (okf:=⟨okL,[]⟩) ag_ (args:=[.c (.v (.int .i64 m0)),.c (.v (.int .i64 m1)),.c (.v (.string z2)),.c (.v (.slice y3 ly3 cy3))]) (H:=[]) (.s .z (.s (.s (.r ⟨(some []),false,[],[]⟩) .z) (.s (.r ⟨(some []),false,[],[]⟩) (.s .z (.s .z (.s (.s .z (.b (.l (some []) (some []) [(11,.c (.str)),(36,.c (.int .i64))] [] (.s .z (.s .z (.s (.b (.s .z (.b (.s .z (.c .z (.s .z (.c (.r ⟨(some []),false,[],[]⟩) (.r ⟨(some []),false,[],[]⟩)))))))) .z)))))) .z)))))) Go.Proofs.Tryz.func97 rfl ⟨trivial,trivial,trivial,trivial,trivial⟩ trivial (Fr.init S w) trivial (ac_ (by kernel_rfl) h)
theorem dI_ (z0:ByteArray) (m1:Int) (m2:Int) (z3:ByteArray) (y4:Option Addr) (ly4:Nat) (cy4:Nat) (S:SP) (K:KP) (w:World) (h:aa_ PR 52 #[.string z3] w λv0 w0=>∃s0,v0=.string s0∧Fs S w [] w0∧aa_ PR 97 #[Iv m1,Iv m2,.string s0,.slice y4 ly4 cy4] w0 λv1 w1=>∃s1 v2,v1=.tuple #[.string s1,v2]∧Fs S w [] w1∧(v2=.nilIface→(s1=z0→K .nilIface w1)∧(¬(s1=z0)→(true:Bool)=true∧K (.iface 192 (.agg #[Iv m1,.iface 73 (Iv 11)])) w1))∧(∀x0 v3,v2=.iface x0 v3→K v2 w1)∧(v2=.nilIface∨∃l0 v4,v2=.iface l0 v4)):aa_ PR 50 ⟨[.string z0,.int .i64 m1,.int .i64 m2,.string z3,.slice y4 ly4 cy4]⟩ w K:=
 ab_ (okf:=⟨okL,[]⟩) ag_ (args:=[.c (.v (.string z0)),.c (.v (.int .i64 m1)),.c (.v (.int .i64 m2)),.c (.v (.string z3)),.c (.v (.slice y4 ly4 cy4))]) (H:=[]) (.s .z (.s (.r ⟨(some []),false,[],[]⟩) .z)) Go.Proofs.Tryz.func50 rfl ⟨trivial,trivial,trivial,trivial,trivial,trivial⟩ trivial (Fr.init S w) trivial (ac_ (by kernel_rfl) h)
theorem dO_ (y0:Option Addr) (ly0:Nat) (cy0:Nat) (S:SP) (K:KP) (w:World) (h:∃I0:ByteArray→Int→Nat→World→Prop,(∃l0,I0 ⟨#[]⟩ 0 l0 w)∧∀s0 n0,∀D0:Nat→Value,∀l1 w0,I0 s0 n0 l1 w0→Fs S w [] w0→(n0<(ly0:Int)→Dr y0 λa0=>(0:Int)≤n0∧n0<(ly0:Int)∧Dr (some (Addr.add a0 (Int.toNat n0*1))) λa1=>∃n1,World.cell? w0 a1=some (Iv n1)∧aa_ PR 87 #[Iv n1] w0 λv0 w1=>∃s1 v1,v0=.tuple #[.string s1,v1]∧Fs S w [] w1∧((ByteArray.size s0+(ByteArray.size s1)):Nat)≤9223372036854775807∧∃l2,l2<l1∧I0 (s0++s1) (IntKind.wrap .i64 (n0+1)) l2 w1)∧(¬(n0<(ly0:Int))→K (.string s0) w0)):aa_ PR 103 ⟨[.slice y0 ly0 cy0]⟩ w K:=
 ab_ (okf:=⟨okL,[]⟩) ag_ (args:=[.c (.v (.slice y0 ly0 cy0))]) (H:=[]) (.s .z (.s .z (.s (.s .z (.b (.l (some []) (some []) [(3,.c (.str)),(10,.c (.int .i64))] [] (.s .z (.s .z (.s (.b (.s .z (.s (.r ⟨(some []),false,[],[]⟩) .z))) .z)))))) .z))) Go.Proofs.Tryz.func103 rfl ⟨trivial,trivial⟩ trivial (Fr.init S w) trivial (ac_ (by kernel_rfl) h)
theorem b5_ (m0:Int) (m1:Int) (m2:Int) (z3:ByteArray) (S:SP) (K:KP) (w:World) (h:∀l0,w.heap.size≤l0→(∀l1,w.heap.size≤l1→(∀w0,Fr S w w [] [⟨l0,#[Iv m2,.string z3],112,true⟩,⟨l1,#[Iv m0,Iv m1,Iv m2],3,true⟩] w0→aa_ PR 103 #[.slice (some (⟨l1,0,none⟩)) 3 3] w0 λv0 w1=>∃s0,v0=.string s0∧Fs S w [⟨l0,#[Iv m2,.string z3],112,true⟩,⟨l1,#[Iv m0,Iv m1,Iv m2],3,true⟩] w1∧((1+(ByteArray.size s0)):Nat)≤9223372036854775807∧∀l2,w1.heap.size≤l2→∀w2,Fr S w w1 [] [⟨l0,#[Iv m2,.string z3],112,true⟩,⟨l1,#[Iv m0,Iv m1,Iv m2],3,true⟩,⟨l2,#[.string z3],9,true⟩] w2→aa_ PR 88 #[.slice (some (⟨l2,0,none⟩)) 1 1] w2 λv1 w3=>∃s1,v1=.string s1∧Fs S w [⟨l0,#[Iv m2,.string z3],112,true⟩,⟨l1,#[Iv m0,Iv m1,Iv m2],3,true⟩,⟨l2,#[.string z3],9,true⟩] w3∧((ByteArray.size ((⟨#[66]⟩:ByteArray)++s0)+(ByteArray.size s1)):Nat)≤9223372036854775807∧K (.string ((((⟨#[66]⟩:ByteArray)++s0):ByteArray)++s1)) w3)∧∀l3,w.heap.size≤l3→∀w4,Fr S w w [] [⟨l0,#[Iv m2,.string z3],112,true⟩,⟨l1,#[Iv m0,Iv m1,Iv m2],3,true⟩,⟨l3,#[.string z3],9,true⟩] w4→aa_ PR 103 #[.slice (some (⟨l1,0,none⟩)) 3 3] w4 λv2 w5=>∃s2,v2=.string s2∧Fs S w [⟨l0,#[Iv m2,.string z3],112,true⟩,⟨l1,#[Iv m0,Iv m1,Iv m2],3,true⟩,⟨l3,#[.string z3],9,true⟩] w5∧((1+(ByteArray.size s2)):Nat)≤9223372036854775807∧aa_ PR 88 #[.slice (some (⟨l3,0,none⟩)) 1 1] w5 λv3 w6=>∃s3,v3=.string s3∧Fs S w [⟨l0,#[Iv m2,.string z3],112,true⟩,⟨l1,#[Iv m0,Iv m1,Iv m2],3,true⟩,⟨l3,#[.string z3],9,true⟩] w6∧((ByteArray.size ((⟨#[66]⟩:ByteArray)++s2)+(ByteArray.size s3)):Nat)≤9223372036854775807∧K (.string ((((⟨#[66]⟩:ByteArray)++s2):ByteArray)++s3)) w6)∧∀l4,w.heap.size≤l4→∀l5,w.heap.size≤l5→∀w7,Fr S w w [] [⟨l0,#[Iv m2,.string z3],112,true⟩,⟨l4,#[.string z3],9,true⟩,⟨l5,#[Iv m0,Iv m1,Iv m2],3,true⟩] w7→aa_ PR 103 #[.slice (some (⟨l5,0,none⟩)) 3 3] w7 λv4 w8=>∃s4,v4=.string s4∧Fs S w [⟨l0,#[Iv m2,.string z3],112,true⟩,⟨l4,#[.string z3],9,true⟩,⟨l5,#[Iv m0,Iv m1,Iv m2],3,true⟩] w8∧((1+(ByteArray.size s4)):Nat)≤9223372036854775807∧aa_ PR 88 #[.slice (some (⟨l4,0,none⟩)) 1 1] w8 λv5 w9=>∃s5,v5=.string s5∧Fs S w [⟨l0,#[Iv m2,.string z3],112,true⟩,⟨l4,#[.string z3],9,true⟩,⟨l5,#[Iv m0,Iv m1,Iv m2],3,true⟩] w9∧((ByteArray.size ((⟨#[66]⟩:ByteArray)++s4)+(ByteArray.size s5)):Nat)≤9223372036854775807∧K (.string ((((⟨#[66]⟩:ByteArray)++s4):ByteArray)++s5)) w9):aa_ PR 54 ⟨[.int .i64 m0,.int .i64 m1,.agg #[.int .i64 m2,.string z3]]⟩ w K:=
 ab_ (okf:=⟨okL,[]⟩) ag_ (args:=[.c (.v (.int .i64 m0)),.c (.v (.int .i64 m1)),.a [.v (.int .i64 m2),.v (.string z3)]]) (H:=[]) (.s (.r ⟨(some []),false,[],[]⟩) (.s (.r ⟨(some [5]),false,[],[]⟩) .z)) Go.Proofs.Tryz.func54 rfl ⟨trivial,trivial,⟨trivial,trivial,trivial⟩,trivial⟩ trivial (Fr.init S w) trivial (ac_ (by kernel_rfl) h)
end Go.Vc
namespace Go.Vc
open Go
theorem mG_ {w:World} {b:Nat} {p:DP} {d:DM} (h:DskF w b p d) {n:Int} {K:Value→World→Prop} (h1:0≤n→n<d.sl.length→K .nilIface w) (h2:¬(0≤n∧n<d.sl.length)→K (.iface T.an_ (.int .i64 2)) w):aa_ PR F.gn_ ⟨[.pointer (some ⟨b,0,none⟩),.int .i64 n]⟩ w K:=
 oI_ b (-1) false (str d.log) p.q0 d.sl.length p.c0 (str d.llog) p.q1 d.lsl.length p.c1 p.wq d.ws.length p.wc n (dfS b p) K w h.fs ⟨.inl rfl,trivial⟩ (f1_ h ⟨_,rfl,h.fs,λ_=>⟨λhn=>h2 (by omega),λhn=>⟨λhg=>h2 (by omega),λhg=>h1 (by omega) (by omega)⟩⟩,(λt x h=>by cases h),.inl rfl⟩)
theorem nl_ {w:World} {b:Nat} {p:DP} {d:DM} (h:DskF w b p d) {n:Int} (hn:0≤n∧n<d.sl.length) {s:List UInt8} (hroom:d.log.length+s.length≤9223372036854775807) (hw:d.ws.length≤1000000) {K:Value→World→Prop}
  (h1:s.length≤64→∀w' q' c',DskF w' b { p with wq:=q',wc:=c' } (d.put n s)→Chg (dfS b p) w w'→(∀a,q'=some a→p.wq=some a∨w.heap.size≤a.block)→K .nilIface w')
  (h2:64<s.length→K (.iface T.an_ (.int .i64 6)) w) :
  aa_ PR F.dC_ ⟨[.pointer (some ⟨b,0,none⟩),.int .i64 n,.string (str s)]⟩ w K:=by
 refine jC_ b (-1) false (str d.log) p.q0 d.sl.length p.c0 (str d.llog) p.q1 d.lsl.length p.c1 p.wq d.ws.length p.wc n (str s) (dfS b p) K w h.fs ⟨.inl rfl,trivial⟩ (mG_ h (λ_ _=>⟨_,rfl,h.fs,λ_=>⟨λhg=>h2 (by rw [ai_] at hg;omega),λhg=>?_⟩,(λt x h=>by cases h),.inl rfl⟩) λhc=>absurd hn hc)
 refine iE_ h (.inr hn) hroom hw λw1 q' c' h1' g1 hq=>?_
 exact ⟨_,rfl,_,_,_,_,_,_,_,_,_,_,_,_,_,h.fs.mod g1 h1'.blk (λx hx=>by cases hx) λ_ _ e=>e,h1 (by rw [ai_] at hg;omega) w1 q' c' h1' g1 hq⟩
theorem kX_ {w:World} {b:Nat} {p:DP} {d:DM} (h:DskF w b p d) {K:Value→World→Prop} (hK:K (.int .i64 d.sl.length) w):aa_ PR F.fG_ ⟨[.pointer (some ⟨b,0,none⟩)]⟩ w K:=
 hN_ b (-1) false (str d.log) p.q0 d.sl.length p.c0 (str d.llog) p.q1 d.lsl.length p.c1 p.wq d.ws.length p.wc (dfS b p) K w h.fs ⟨.inl rfl,trivial⟩ hK
def DM.empty (n:Nat):DM:=⟨[],List.replicate n [],[],List.replicate n [],[]⟩
theorem nm_ {n:Nat} (hn:n≤4096) {w:World} {K:Value→World→Prop} (hK:∀w' b p,Grow w w'→(∀k,dfS b p k→w.heap.size≤k)→DskF w' b p (DM.empty n)→K (.pointer (some ⟨b,0,none⟩)) w'):aa_ PR F.qf_ ⟨[.int .i64 n]⟩ w K:=by
 obtain ⟨i,hi,hk,hb,hz⟩:=nG_
 have mk:∀ {w:World} {K:Value→World→Prop},(∀w' b,b=w.heap.size→w'.heap.size=b+1→Grow w w'→Own T.string 1 w' (some ⟨b,0,none⟩) n (List.replicate n (.string ⟨#[]⟩))→K (.slice (some ⟨b,0,none⟩) n n) w')→rn PR (Instr.makeSlice T.a9_ (.int .i64 n) (.int .i64 n)) K w:=λh=>
  cL_ <| cw_ (i:=i) (by_:=16) jZ_ hi hz rfl hk hb (by omega) (by omega) (by omega) λb w' hbb hs g ho=>h w' b hbb hs g (by simpa using ho)
 have e:(if (4096:Int)<(if (0:Int)>(n:Int) then 0 else (n:Int)) then (4096:Int) else (if (0:Int)>(n:Int) then 0 else (n:Int)))=(n:Int):=by
  rw [if_neg (by omega:¬(0:Int)>(n:Int)),if_neg (by omega)]
 have fin:∀ {w1 w2 w3:World} {b1 b2 b4:Nat} {q0 q1:Option Addr},Grow w w1→b1<b2→w.heap.size≤b1→b2<w2.heap.size→w2.heap.size≤b4→(q0=some ⟨b1,0,none⟩∧q1=some ⟨b2,0,none⟩∨q0=some ⟨b2,0,none⟩∧q1=some ⟨b1,0,none⟩)→Grow w w3→
   Own T.string 1 w3 q0 n (List.replicate n (.string ⟨#[]⟩))→Own T.string 1 w3 q1 n (List.replicate n (.string ⟨#[]⟩))→
   w3.heap[b4]? = some (.cells #[.int .i64 (-1),.bool false,.string ⟨#[]⟩,.slice q0 n n,.string ⟨#[]⟩,.slice q1 n n,.slice none 0 0] T.cq_ (0,0))→K (.pointer (some ⟨b4,0,none⟩)) w3:=by
  intro w1 w2 w3 b1 b2 b4 q0 q1 g1 h12 hb1 h2 hb4 hq g3 o0 o1 hblk
  have hrep:(List.replicate n ([]:List UInt8)).map sv8'=List.replicate n (.string ⟨#[]⟩):=by rw [List.map_replicate];rfl
  have hs:∀k,ak_ q0 k∨ak_ q1 k→k=b1∨k=b2:=by
   rintro k (⟨a,ha,rfl⟩ | ⟨a,ha,rfl⟩) <;> rcases hq with ⟨e1,e2⟩ | ⟨e1,e2⟩
   all_goals first | (rw [e1] at ha;cases ha;simp) | (rw [e2] at ha;cases ha;simp)
  have hd:∀k,ak_ q0 k→¬ak_ q1 k:=by
   rintro k ⟨a,ha,rfl⟩ ⟨a',ha',e'⟩
   rcases hq with ⟨e1,e2⟩ | ⟨e1,e2⟩
   all_goals
    rw [e1] at ha;rw [e2] at ha';cases ha;cases ha'
    simp only [] at e'
    omega
  have hno:∀k:Nat,¬ak_ (none:Option Addr) k:=λk ⟨a,ha,_⟩=>by cases ha
  refine hK w3 b4 ⟨q0,q1,none,n,n,0⟩ g3 ?_ ⟨by have e0:str []=⟨#[]⟩:=rfl;simpa [dfC,DM.empty,e0] using hblk,by show Own T.string 1 w3 q0 n ((List.replicate n []).map sv8');rw [hrep];exact o0,by show Own T.string 1 w3 q1 n ((List.replicate n []).map sv8');rw [hrep];exact o1,.nil _ _ _,λe=>?_,λe=>?_,hno b4,hd,λk _ e=>hno k e,λk _ e=>hno k e,Nat.le_refl _⟩
  ·rintro k (rfl | hk | hk | hk)
   ·omega
   ·rcases hs k (.inl hk) with rfl | rfl <;> omega
   ·rcases hs k (.inr hk) with rfl | rfl <;> omega
   ·exact absurd hk (hno k)
  ·rcases hs b4 (.inl e) with h | h <;> omega
  ·rcases hs b4 (.inr e) with h | h <;> omega
 refine oK_ n S0 K w ?_
 rw [e]
 refine ⟨λw0 hF0=>mk λw1 b1 hb1 hs1 g1 o1=>⟨_,_,_,rfl,hF0.after g1,mk λw2 b2 hb2 hs2 g2 o2=>⟨_,_,_,rfl,(hF0.after g1).after g2,λb4 hb4 w3 hF3=>?_⟩⟩,λw0 hF0=>mk λw1 b1 hb1 hs1 g1 o1=>⟨_,_,_,rfl,hF0.after g1,mk λw2 b2 hb2 hs2 g2 o2=>⟨_,_,_,rfl,(hF0.after g1).after g2,λb4 hb4 w3 hF3=>?_⟩⟩⟩
 ·have sz:=hF0.chg.size
  exact fin (hF0.chg.trans g1 λ_ _ e=>e) (by omega) (by omega) (by omega:b2<w2.heap.size) hb4 (.inl ⟨rfl,rfl⟩) hF3.chg ((o1.grow g2).grow hF3.grow) (o2.grow hF3.grow) (hF3.blk 0 rfl)
 ·have sz:=hF0.chg.size
  exact fin (hF0.chg.trans g1 λ_ _ e=>e) (by omega) (by omega) (by omega:b2<w2.heap.size) hb4 (.inr ⟨rfl,rfl⟩) hF3.chg (o2.grow hF3.grow) ((o1.grow g2).grow hF3.grow) (hF3.blk 0 rfl)
end Go.Vc
namespace Go.Vc
open Go
theorem hw_ (k0:Nat) (p1:Option Addr) (g2:Option Nat) (m3:Int) (m4:Int) (m5:Int) (m6:Int) (m7:Int) (S:SP) (K:KP) (w:World) (hF:Fs S w [⟨k0,#[.pointer p1,.map g2,.int .i64 m3,.int .i64 m4,.int .i64 m5,.int .i64 m6],104,true⟩] w) (hS:S k0∧True) (h:rn PR (Instr.lookup 100 (.map g2) (Iv m7) false) (λv0 w0=>∃q0,v0=.pointer q0∧Fs S w [⟨k0,#[.pointer p1,.map g2,Iv m3,Iv m4,Iv m5,Iv m6],104,true⟩] w0∧(q0=none→K (.tuple #[.pointer none,.iface 73 (Iv 13)]) w0)∧∀a0:Addr,q0=some a0→rn PR (Instr.lookup 100 (.map g2) (Iv m7) false) (λv1 w1=>∃q1,v1=.pointer q1∧Fs S w [⟨k0,#[.pointer p1,.map g2,Iv m3,Iv m4,Iv m5,Iv m6],104,true⟩] w1∧K (.tuple #[.pointer q1,.nilIface]) w1) w0) w):aa_ PR 27 ⟨[.pointer (some ⟨k0,0,none⟩),.int .i64 m7]⟩ w K:=
 ab_ (okf:=⟨okL,[]⟩) ag_ (args:=[.c (.p 0 k0 true 0),.c (.v (.int .i64 m7))]) (H:=[⟨k0,.l [.v (.pointer p1),.v (.map g2),.v (.int .i64 m3),.v (.int .i64 m4),.v (.int .i64 m5),.v (.int .i64 m6)],104,true⟩]) (.s .z (.s (.b (.s .z (.c .z (.s (.r ⟨(some [0]),false,[],[]⟩) .z)))) (.s (.r ⟨(some [0]),false,[],[]⟩) .z))) Go.Proofs.Tryz.func27 rfl ⟨rfl,trivial,trivial⟩ ⟨⟨trivial,⟨trivial,⟨trivial,⟨trivial,⟨trivial,⟨trivial,trivial⟩⟩⟩⟩⟩⟩,trivial⟩ hF hS (ac_ (by kernel_rfl) h)
theorem fd_ (k0:Nat) (p1:Option Addr) (g2:Option Nat) (m3:Int) (m4:Int) (m5:Int) (m6:Int) (S:SP) (K:KP) (w:World) (hF:Fs S w [⟨k0,#[.pointer p1,.map g2,.int .i64 m3,.int .i64 m4,.int .i64 m5,.int .i64 m6],104,true⟩] w) (hS:S k0∧True) (h:aa_ PR 81 #[.map g2] w λv0 w0=>∃v1,v0=v1∧Fs S w [⟨k0,#[.pointer p1,.map g2,Iv m3,Iv m4,Iv m5,Iv m6],104,true⟩] w0∧aa_ PR 38 #[v1] w0 λv2 w1=>∃q0 l0 l1,v2=.slice q0 l0 l1∧Fs S w [⟨k0,#[.pointer p1,.map g2,Iv m3,Iv m4,Iv m5,Iv m6],104,true⟩] w1∧K (.slice q0 l0 l1) w1):aa_ PR 37 ⟨[.pointer (some ⟨k0,0,none⟩)]⟩ w K:=
 ab_ (okf:=⟨okL,[]⟩) ag_ (args:=[.c (.p 0 k0 true 0)]) (H:=[⟨k0,.l [.v (.pointer p1),.v (.map g2),.v (.int .i64 m3),.v (.int .i64 m4),.v (.int .i64 m5),.v (.int .i64 m6)],104,true⟩]) (.s .z (.s .z (.s (.r ⟨(some [0]),false,[],[]⟩) .z))) Go.Proofs.Tryz.func37 rfl ⟨rfl,trivial⟩ ⟨⟨trivial,⟨trivial,⟨trivial,⟨trivial,⟨trivial,⟨trivial,trivial⟩⟩⟩⟩⟩⟩,trivial⟩ hF hS (ac_ (by kernel_rfl) h)
theorem fe_ (k0:Nat) (p1:Option Addr) (g2:Option Nat) (m3:Int) (m4:Int) (m5:Int) (m6:Int) (m7:Int) (S:SP) (K:KP) (w:World) (hF:Fs S w [⟨k0,#[.pointer p1,.map g2,.int .i64 m3,.int .i64 m4,.int .i64 m5,.int .i64 m6],104,true⟩] w) (hS:S k0∧True) (h:∀l0,w.heap.size≤l0→∀w0,Fr S w w [] [⟨k0,#[.pointer p1,.map g2,Iv m3,Iv m4,Iv m5,Iv m6],104,true⟩,⟨l0,#[Iv 0,Iv 0,Iv 0,.slice none 0 0,Iv 0,.string ⟨#[]⟩],36,true⟩] w0→let B0:Blk:=⟨k0,#[.pointer p1,.map g2,Iv m3,Iv m4,Iv m5,Iv m6],104,true⟩;aa_ PR 27 #[.pointer (some (⟨k0,0,none⟩)),Iv m7] w0 λv0 w1=>∃q0 v1,v0=.tuple #[.pointer q0,v1]∧Fs S w [B0,⟨l0,#[Iv 0,Iv 0,Iv 0,.slice none 0 0,Iv 0,.string ⟨#[]⟩],36,true⟩] w1∧(v1=.nilIface→Dr q0 λa0=>Dr (some a0) λa1=>Dr (some (Addr.add a1 0)) λa2=>∃n0,World.cell? w1 (Addr.add a2 0)=some (Iv n0)∧∃n1,World.cell? w1 (Addr.add a2 1)=some (Iv n1)∧∃n2,World.cell? w1 (Addr.add a2 2)=some (Iv n2)∧∃q1 l1 l2,World.cell? w1 (Addr.add a2 3)=some (.slice q1 l1 l2)∧∃n3,World.cell? w1 (Addr.add a2 4)=some (Iv n3)∧∃s0,World.cell? w1 (Addr.add a2 5)=some (.string s0)∧aa_ PR 92 #[.agg #[Iv n0,Iv n1,Iv n2,.slice q1 l1 l2,Iv n3,.string s0]] w1 λv2 w2=>∃n4 n5 n6 q2 l3 l4 n7 s1,v2=.agg #[Iv n4,Iv n5,Iv n6,.slice q2 l3 l4,Iv n7,.string s1]∧Fs S w [B0,⟨l0,#[Iv 0,Iv 0,Iv 0,.slice none 0 0,Iv 0,.string ⟨#[]⟩],36,true⟩] w2∧∀w3,Fr S w w2 [l0] [B0] w3→K (.tuple #[.agg #[Iv n4,Iv n5,Iv n6,.slice q2 l3 l4,Iv n7,.string s1],.nilIface]) w3)∧(∀x0 v3,v1=.iface x0 v3→∀w4,Fr S w w1 [l0] [B0] w4→K (.tuple #[.agg #[Iv 0,Iv 0,Iv 0,.slice none 0 0,Iv 0,.string ⟨#[]⟩],v1]) w4)∧(v1=.nilIface∨∃l5 v4,v1=.iface l5 v4)):aa_ PR 45 ⟨[.pointer (some ⟨k0,0,none⟩),.int .i64 m7]⟩ w K:=
 ab_ (okf:=⟨okL,[]⟩) ag_ (args:=[.c (.p 0 k0 true 0),.c (.v (.int .i64 m7))]) (H:=[⟨k0,.l [.v (.pointer p1),.v (.map g2),.v (.int .i64 m3),.v (.int .i64 m4),.v (.int .i64 m5),.v (.int .i64 m6)],104,true⟩]) (.s (.r ⟨(some [0]),false,[],[]⟩) (.s (.r ⟨(some [0,4]),false,[],[]⟩) (.s (.s .z (.c (.s (.r ⟨(some [4]),false,[],[]⟩) .z) .z)) (.s (.r ⟨(some [4]),false,[],[]⟩) .z)))) Go.Proofs.Tryz.func45 rfl ⟨rfl,trivial,trivial⟩ ⟨⟨trivial,⟨trivial,⟨trivial,⟨trivial,⟨trivial,⟨trivial,trivial⟩⟩⟩⟩⟩⟩,trivial⟩ hF hS (ac_ (by kernel_rfl) h)
theorem jt_ (k0:Nat) (p1:Option Addr) (g2:Option Nat) (m3:Int) (m4:Int) (m5:Int) (m6:Int) (m7:Int) (m8:Int) (m9:Int) (y10:Option Addr) (ly10:Nat) (cy10:Nat) (m11:Int) (z12:ByteArray) (S:SP) (K:KP) (w:World) (hF:Fs S w [⟨k0,#[.pointer p1,.map g2,.int .i64 m3,.int .i64 m4,.int .i64 m5,.int .i64 m6],104,true⟩] w) (hS:S k0∧True) (h:∀l0,w.heap.size≤l0→∀w0,Fr S w w [] [⟨k0,#[.pointer p1,.map g2,Iv m3,Iv m4,Iv m5,Iv m6],104,true⟩,⟨l0,#[Iv m7,Iv m8,Iv m9,.slice y10 ly10 cy10,Iv m11,.string z12],36,true⟩] w0→let B1:Blk:=⟨l0,#[Iv m7,Iv m8,Iv m9,.slice y10 ly10 cy10,Iv m11,.string z12],36,true⟩;let B0:Blk:=⟨k0,#[.pointer p1,.map g2,Iv m3,Iv m4,Iv m5,Iv m6],104,true⟩;aa_ PR 41 #[.agg #[Iv m7,Iv m8,Iv m9,.slice y10 ly10 cy10,Iv m11,.string z12]] w0 λv0 w1=>∃s0 v1,v0=.tuple #[.string s0,v1]∧Fs S w [B0,B1] w1∧(v1=.nilIface→∀w2,Fr S w w1 [] [B0,B1] w2→∃I0:World→Prop,I0 w2∧rn PR (Instr.lookup 100 (.map g2) (Iv m7) false) (λv2 w3=>∃q0,v2=.pointer q0∧Fs S w [B0,B1] w3∧I0 w3∧∀w4,Fr S w w3 [] [B0,B1] w4→∃I1:World→Prop,I1 w4∧(q0=none→∀w5,Fr S w w4 [] [B0,B1] w5→∃I2:World→Prop,I2 w5∧(q0=none→(m7≤m3→K (.iface 73 (Iv 13)) w5)∧(¬(m7≤m3)→rn PR (Builtin.len_ #[100] 3 #[.map g2]) (λv3 w6=>∃n0,v3=Iv n0∧Fs S w [B0,B1] w6∧(n0≥3→K (.iface 73 (Iv 7)) w6)∧(¬(n0≥3)→((1+(ByteArray.size s0)):Nat)≤9223372036854775807∧∀l1,w6.heap.size≤l1→∀w7,Fr S w w6 [] [B0,B1,⟨l1,#[.string ((⟨#[77]⟩:ByteArray)++s0)],9,true⟩] w7→aa_ PR 43 #[.pointer p1,.slice (some (⟨l1,0,none⟩)) 1 1] w7 λv4 w8=>∃v5,v4=v5∧∃s1,Fs S w [B0,B1,⟨l1,#[.string s1],9,true⟩] w8∧(v5=.nilIface→aa_ PR 44 #[.pointer (some (⟨k0,0,none⟩)),.agg #[Iv m7,Iv m8,Iv m9,.slice y10 ly10 cy10,Iv m11,.string z12]] w8 λv6 w9=>v6=.tuple #[]∧∃q1 q2 n1 n2 n3 n4,Fs S w [⟨k0,#[.pointer q1,.map q2,Iv n1,Iv n2,Iv n3,Iv n4],104,true⟩,B1] w9∧K .nilIface w9)∧(∀x0 v7,v5=.iface x0 v7→K v5 w8)∧(v5=.nilIface∨∃l2 v8,v5=.iface l2 v8))) w5))∧∀a0:Addr,q0=some a0→K (.iface 73 (Iv 13)) w5)∧∀a1:Addr,q0=some a1→Dr q0 λa2=>Dr (some a2) λa3=>Dr (some (Addr.add a3 0)) λa4=>∃n5,(∀w10,I1 w10→World.cell? w10 (Addr.add a4 0)=some (Iv n5))∧∃n6,(∀w11,I1 w11→World.cell? w11 (Addr.add a4 1)=some (Iv n6))∧∃n7,(∀w12,I1 w12→World.cell? w12 (Addr.add a4 2)=some (Iv n7))∧∃q3 l3 l4,(∀w13,I1 w13→World.cell? w13 (Addr.add a4 3)=some (.slice q3 l3 l4))∧∃n8,(∀w14,I1 w14→World.cell? w14 (Addr.add a4 4)=some (Iv n8))∧∃s2,(∀w15,I1 w15→World.cell? w15 (Addr.add a4 5)=some (.string s2))∧aa_ PR 42 #[.agg #[Iv n5,Iv n6,Iv n7,.slice q3 l3 l4,Iv n8,.string s2],.agg #[Iv m7,Iv m8,Iv m9,.slice y10 ly10 cy10,Iv m11,.string z12]] w4 λv9 w16=>∃b0,v9=.bool b0∧(b0=true→Fs S w [B0,B1] w16∧I1 w16∧K .nilIface w16)∧(b0=false→Fs S w [B0,B1] w16∧I1 w16∧∀w17,Fr S w w16 [] [B0,B1] w17→∃I3:World→Prop,I3 w17∧(q0=none→(m7≤m3→K (.iface 73 (Iv 13)) w17)∧(¬(m7≤m3)→rn PR (Builtin.len_ #[100] 3 #[.map g2]) (λv10 w18=>∃n9,v10=Iv n9∧Fs S w [B0,B1] w18∧(n9≥3→K (.iface 73 (Iv 7)) w18)∧(¬(n9≥3)→((1+(ByteArray.size s0)):Nat)≤9223372036854775807∧∀l5,w18.heap.size≤l5→∀w19,Fr S w w18 [] [B0,B1,⟨l5,#[.string ((⟨#[77]⟩:ByteArray)++s0)],9,true⟩] w19→aa_ PR 43 #[.pointer p1,.slice (some (⟨l5,0,none⟩)) 1 1] w19 λv11 w20=>∃v12,v11=v12∧∃s3,Fs S w [B0,B1,⟨l5,#[.string s3],9,true⟩] w20∧(v12=.nilIface→aa_ PR 44 #[.pointer (some (⟨k0,0,none⟩)),.agg #[Iv m7,Iv m8,Iv m9,.slice y10 ly10 cy10,Iv m11,.string z12]] w20 λv13 w21=>v13=.tuple #[]∧∃q4 q5 n10 n11 n12 n13,Fs S w [⟨k0,#[.pointer q4,.map q5,Iv n10,Iv n11,Iv n12,Iv n13],104,true⟩,B1] w21∧K .nilIface w21)∧(∀x1 v14,v12=.iface x1 v14→K v12 w20)∧(v12=.nilIface∨∃l6 v15,v12=.iface l6 v15))) w17))∧∀a5:Addr,q0=some a5→K (.iface 73 (Iv 13)) w17)) w2)∧(∀x2 v16,v1=.iface x2 v16→K v1 w1)∧(v1=.nilIface∨∃l7 v17,v1=.iface l7 v17)):aa_ PR 16 ⟨[.pointer (some ⟨k0,0,none⟩),.agg #[.int .i64 m7,.int .i64 m8,.int .i64 m9,.slice y10 ly10 cy10,.int .i64 m11,.string z12]]⟩ w K:=
 ab_ (okf:=⟨okL,[]⟩) ag_ (args:=[.c (.p 0 k0 true 0),.a [.v (.int .i64 m7),.v (.int .i64 m8),.v (.int .i64 m9),.v (.slice y10 ly10 cy10),.v (.int .i64 m11),.v (.string z12)]]) (H:=[⟨k0,.l [.v (.pointer p1),.v (.map g2),.v (.int .i64 m3),.v (.int .i64 m4),.v (.int .i64 m5),.v (.int .i64 m6)],104,true⟩]) (.s (.r ⟨(some [0]),true,[],[]⟩) (.s .z (.s (.r ⟨(some [0,3]),true,[],[]⟩) (.s .z (.s (.r ⟨(some [0,3]),true,[],[]⟩) (.s (.b (.s (.r ⟨(some [0,3]),true,[],[]⟩) (.c .z (.s (.r ⟨(some [0,3]),true,[],[]⟩) (.c .z (.s (.r ⟨(some [0,3]),true,[],[]⟩) .z)))))) (.s (.s (.r ⟨(some [0,3]),true,[],[(7,[999])]⟩) .z) (.s (.r ⟨(some [0,3]),true,[],[(2,[999])]⟩) .z)))))))) Go.Proofs.Tryz.func16 rfl ⟨rfl,⟨trivial,trivial,trivial,trivial,trivial,trivial,trivial⟩,trivial⟩ ⟨⟨trivial,⟨trivial,⟨trivial,⟨trivial,⟨trivial,⟨trivial,trivial⟩⟩⟩⟩⟩⟩,trivial⟩ hF hS (ac_ (by kernel_rfl) h)
theorem p4_ (k0:Nat) (p1:Option Addr) (g2:Option Nat) (m3:Int) (m4:Int) (m5:Int) (m6:Int) (m7:Int) (m8:Int) (m9:Int) (y10:Option Addr) (ly10:Nat) (cy10:Nat) (m11:Int) (z12:ByteArray) (S:SP) (K:KP) (w:World) (hF:Fs S w [⟨k0,#[.pointer p1,.map g2,.int .i64 m3,.int .i64 m4,.int .i64 m5,.int .i64 m6],104,true⟩] w) (hS:S k0∧True) (h:∀l0,w.heap.size≤l0→(∀w0,Fr S w w [] [⟨k0,#[.pointer p1,.map g2,Iv m3,Iv m4,Iv m5,Iv m6],104,true⟩,⟨l0,#[Iv m7,Iv m8,Iv m9,.slice y10 ly10 cy10,Iv m11,.string z12],36,true⟩] w0→let B1:Blk:=⟨l0,#[Iv m7,Iv m8,Iv m9,.slice y10 ly10 cy10,Iv m11,.string z12],36,true⟩;let B0:Blk:=⟨k0,#[.pointer p1,.map g2,Iv m3,Iv m4,Iv m5,Iv m6],104,true⟩;aa_ PR 92 #[.agg #[Iv m7,Iv m8,Iv m9,.slice y10 ly10 cy10,Iv m11,.string z12]] w0 λv0 w1=>∃n0 n1 n2 q0 l1 l2 n3 s0,v0=.agg #[Iv n0,Iv n1,Iv n2,.slice q0 l1 l2,Iv n3,.string s0]∧Fs S w [B0,B1] w1∧rn PR (Instr.makeMap 85 none) (λv1 w2=>∃q1,v1=.map q1∧Fs S w [B0,B1] w2∧rn PR (Instr.makeMap 85 none) (λv2 w3=>∃q2,v2=.map q2∧Fs S w [B0,B1] w3∧∀l3,w3.heap.size≤l3→∀w4,Fr S w w3 [] [B0,B1,⟨l3,#[Iv n0,Iv n1,Iv n2,.slice q0 l1 l2,Iv n3,.string s0,.map q1,.map q2],87,true⟩] w4→rn PR (Instr.mapUpdate 100 (.map g2) (Iv m7) (.pointer (some (⟨l3,0,none⟩)))) (λx0 w5=>Fs S w [B0,B1,⟨l3,#[Iv n0,Iv n1,Iv n2,.slice q0 l1 l2,Iv n3,.string s0,.map q1,.map q2],87,true⟩] w5∧K (.tuple #[]) w5) w4) w2) w1∧rn PR (Instr.makeMap 85 none) (λv3 w6=>∃q3,v3=.map q3∧Fs S w [B0,B1] w6∧rn PR (Instr.makeMap 85 none) (λv4 w7=>∃q4,v4=.map q4∧Fs S w [B0,B1] w7∧∀l4,w7.heap.size≤l4→∀w8,Fr S w w7 [] [B0,B1,⟨l4,#[Iv n0,Iv n1,Iv n2,.slice q0 l1 l2,Iv n3,.string s0,.map q4,.map q3],87,true⟩] w8→rn PR (Instr.mapUpdate 100 (.map g2) (Iv m7) (.pointer (some (⟨l4,0,none⟩)))) (λx1 w9=>Fs S w [B0,B1,⟨l4,#[Iv n0,Iv n1,Iv n2,.slice q0 l1 l2,Iv n3,.string s0,.map q4,.map q3],87,true⟩] w9∧K (.tuple #[]) w9) w8) w6) w1)∧(∀w10,Fr S w w [] [⟨k0,#[.pointer p1,.map g2,Iv m3,Iv m4,Iv m5,Iv m6],104,true⟩,⟨l0,#[Iv m7,Iv m8,Iv m9,.slice y10 ly10 cy10,Iv m11,.string z12],36,true⟩] w10→let B3:Blk:=⟨l0,#[Iv m7,Iv m8,Iv m9,.slice y10 ly10 cy10,Iv m11,.string z12],36,true⟩;let B2:Blk:=⟨k0,#[.pointer p1,.map g2,Iv m3,Iv m4,Iv m5,Iv m6],104,true⟩;rn PR (Instr.makeMap 85 none) (λv5 w11=>∃q5,v5=.map q5∧Fs S w [B2,B3] w11∧aa_ PR 92 #[.agg #[Iv m7,Iv m8,Iv m9,.slice y10 ly10 cy10,Iv m11,.string z12]] w11 (λv6 w12=>∃n4 n5 n6 q6 l5 l6 n7 s1,v6=.agg #[Iv n4,Iv n5,Iv n6,.slice q6 l5 l6,Iv n7,.string s1]∧Fs S w [B2,B3] w12∧rn PR (Instr.makeMap 85 none) (λv7 w13=>∃q7,v7=.map q7∧Fs S w [B2,B3] w13∧∀l7,w13.heap.size≤l7→∀w14,Fr S w w13 [] [B2,B3,⟨l7,#[Iv n4,Iv n5,Iv n6,.slice q6 l5 l6,Iv n7,.string s1,.map q5,.map q7],87,true⟩] w14→rn PR (Instr.mapUpdate 100 (.map g2) (Iv m7) (.pointer (some (⟨l7,0,none⟩)))) (λx2 w15=>Fs S w [B2,B3,⟨l7,#[Iv n4,Iv n5,Iv n6,.slice q6 l5 l6,Iv n7,.string s1,.map q5,.map q7],87,true⟩] w15∧K (.tuple #[]) w15) w14) w12)∧rn PR (Instr.makeMap 85 none) (λv8 w16=>∃q8,v8=.map q8∧Fs S w [B2,B3] w16∧aa_ PR 92 #[.agg #[Iv m7,Iv m8,Iv m9,.slice y10 ly10 cy10,Iv m11,.string z12]] w16 λv9 w17=>∃n8 n9 n10 q9 l8 l9 n11 s2,v9=.agg #[Iv n8,Iv n9,Iv n10,.slice q9 l8 l9,Iv n11,.string s2]∧Fs S w [B2,B3] w17∧∀l10,w17.heap.size≤l10→∀w18,Fr S w w17 [] [B2,B3,⟨l10,#[Iv n8,Iv n9,Iv n10,.slice q9 l8 l9,Iv n11,.string s2,.map q5,.map q8],87,true⟩] w18→rn PR (Instr.mapUpdate 100 (.map g2) (Iv m7) (.pointer (some (⟨l10,0,none⟩)))) (λx3 w19=>Fs S w [B2,B3,⟨l10,#[Iv n8,Iv n9,Iv n10,.slice q9 l8 l9,Iv n11,.string s2,.map q5,.map q8],87,true⟩] w19∧K (.tuple #[]) w19) w18) w11) w10)∧∀w20,Fr S w w [] [⟨k0,#[.pointer p1,.map g2,Iv m3,Iv m4,Iv m5,Iv m6],104,true⟩,⟨l0,#[Iv m7,Iv m8,Iv m9,.slice y10 ly10 cy10,Iv m11,.string z12],36,true⟩] w20→let B5:Blk:=⟨l0,#[Iv m7,Iv m8,Iv m9,.slice y10 ly10 cy10,Iv m11,.string z12],36,true⟩;let B4:Blk:=⟨k0,#[.pointer p1,.map g2,Iv m3,Iv m4,Iv m5,Iv m6],104,true⟩;rn PR (Instr.makeMap 85 none) (λv10 w21=>∃q10,v10=.map q10∧Fs S w [B4,B5] w21∧aa_ PR 92 #[.agg #[Iv m7,Iv m8,Iv m9,.slice y10 ly10 cy10,Iv m11,.string z12]] w21 (λv11 w22=>∃n12 n13 n14 q11 l11 l12 n15 s3,v11=.agg #[Iv n12,Iv n13,Iv n14,.slice q11 l11 l12,Iv n15,.string s3]∧Fs S w [B4,B5] w22∧rn PR (Instr.makeMap 85 none) (λv12 w23=>∃q12,v12=.map q12∧Fs S w [B4,B5] w23∧∀l13,w23.heap.size≤l13→∀w24,Fr S w w23 [] [B4,B5,⟨l13,#[Iv n12,Iv n13,Iv n14,.slice q11 l11 l12,Iv n15,.string s3,.map q12,.map q10],87,true⟩] w24→rn PR (Instr.mapUpdate 100 (.map g2) (Iv m7) (.pointer (some (⟨l13,0,none⟩)))) (λx4 w25=>Fs S w [B4,B5,⟨l13,#[Iv n12,Iv n13,Iv n14,.slice q11 l11 l12,Iv n15,.string s3,.map q12,.map q10],87,true⟩] w25∧K (.tuple #[]) w25) w24) w22)∧rn PR (Instr.makeMap 85 none) (λv13 w26=>∃q13,v13=.map q13∧Fs S w [B4,B5] w26∧aa_ PR 92 #[.agg #[Iv m7,Iv m8,Iv m9,.slice y10 ly10 cy10,Iv m11,.string z12]] w26 λv14 w27=>∃n16 n17 n18 q14 l14 l15 n19 s4,v14=.agg #[Iv n16,Iv n17,Iv n18,.slice q14 l14 l15,Iv n19,.string s4]∧Fs S w [B4,B5] w27∧∀l16,w27.heap.size≤l16→∀w28,Fr S w w27 [] [B4,B5,⟨l16,#[Iv n16,Iv n17,Iv n18,.slice q14 l14 l15,Iv n19,.string s4,.map q13,.map q10],87,true⟩] w28→rn PR (Instr.mapUpdate 100 (.map g2) (Iv m7) (.pointer (some (⟨l16,0,none⟩)))) (λx5 w29=>Fs S w [B4,B5,⟨l16,#[Iv n16,Iv n17,Iv n18,.slice q14 l14 l15,Iv n19,.string s4,.map q13,.map q10],87,true⟩] w29∧K (.tuple #[]) w29) w28) w21) w20):aa_ PR 44 ⟨[.pointer (some ⟨k0,0,none⟩),.agg #[.int .i64 m7,.int .i64 m8,.int .i64 m9,.slice y10 ly10 cy10,.int .i64 m11,.string z12]]⟩ w K:=
 ab_ (okf:=⟨okL,[]⟩) ag_ (args:=[.c (.p 0 k0 true 0),.a [.v (.int .i64 m7),.v (.int .i64 m8),.v (.int .i64 m9),.v (.slice y10 ly10 cy10),.v (.int .i64 m11),.v (.string z12)]]) (H:=[⟨k0,.l [.v (.pointer p1),.v (.map g2),.v (.int .i64 m3),.v (.int .i64 m4),.v (.int .i64 m5),.v (.int .i64 m6)],104,true⟩]) (.s (.r ⟨(some [0]),false,[],[]⟩) (.r ⟨(some [0,3]),false,[],[]⟩)) Go.Proofs.Tryz.func44 rfl ⟨rfl,⟨trivial,trivial,trivial,trivial,trivial,trivial,trivial⟩,trivial⟩ ⟨⟨trivial,⟨trivial,⟨trivial,⟨trivial,⟨trivial,⟨trivial,trivial⟩⟩⟩⟩⟩⟩,trivial⟩ hF hS (ac_ (by kernel_rfl) h)
theorem h5_ (k0:Nat) (p1:Option Addr) (g2:Option Nat) (m3:Int) (m4:Int) (m5:Int) (m6:Int) (S:SP) (K:KP) (w:World) (hF:Fs S w [⟨k0,#[.pointer p1,.map g2,.int .i64 m3,.int .i64 m4,.int .i64 m5,.int .i64 m6],104,true⟩] w) (hS:S k0∧True) (h:rn PR (Instr.makeMap 53 none) (λv0 w0=>∃q0,v0=.map q0∧Fs S w [⟨k0,#[.pointer p1,.map g2,Iv m3,Iv m4,Iv m5,Iv m6],104,true⟩] w0∧let B0:Blk:=⟨k0,#[.pointer p1,.map g2,Iv m3,Iv m4,Iv m5,Iv m6],104,true⟩;rn PR (Instr.range 100 (.map g2)) (λv1 w1=>Fs S w [B0] w1∧∃I0:Nat→World→Prop,(∃l0,I0 l0 w1)∧∀D0:Nat→Value,∀l1 w2,I0 l1 w2→Fs S w [B0] w2→rn PR (Instr.next v1 false 0) (λv2 w3=>(v2=.tuple #[.bool false]∧Fs S w [B0] w3∧K (.map q0) w3)∨∃v3 v4,v2=.tuple #[.bool true,v3,v4]∧Fs S w [B0] w3∧rn PR (Instr.entry v1) (λv5 w4=>∃v6 v7,v5=.tuple #[v6,v7]∧Fs S w [B0] w4∧∃q1,v7=.pointer q1∧∀w5,Fr S w w4 [] [B0] w5→∃I1:World→Prop,I1 w5∧Dr q1 λa0=>Dr (some a0) λa1=>Dr (some (Addr.add a1 6)) λa2=>∃q2,(∀w6,I1 w6→World.cell? w6 a2=some (.map q2))∧Dr q1 λa3=>Dr (some a3) λa4=>Dr (some (Addr.add a4 7)) λa5=>∃q3,(∀w7,I1 w7→World.cell? w7 a5=some (.map q3))∧∀l2,w5.heap.size≤l2→∀w8,Fr S w w5 [] [B0,⟨l2,#[.map q2,.map q3],85,true⟩] w8→let B1:Blk:=⟨l2,#[.map q2,.map q3],85,true⟩;I1 w8∧∃I2:Int→Nat→World→Prop,(∃l3,I2 0 l3 w8)∧∀n0,∀D1:Nat→Value,∀l4 w9,I2 n0 l4 w9→Fs S w [B0,B1] w9→(n0<2→(0:Int)≤n0∧n0<2∧∃q4,((#[.map q2,.map q3]:Array Value)[((0:Nat)+(Int.toNat n0*1))]? : Option Value)=some (.map q4)∧rn PR (Instr.range 85 (.map q4)) (λv8 w10=>Fs S w [B0,B1] w10∧∃I3:Nat→World→Prop,(∃l5,I3 l5 w10)∧∀D2:Nat→Value,∀l6 w11,I3 l6 w11→Fs S w [B0,B1] w11→rn PR (Instr.next v8 false 0) (λv9 w12=>(v9=.tuple #[.bool false]∧Fs S w [B0,B1] w12∧∃l7,l7<l4∧I2 (IntKind.wrap .i64 (n0+1)) l7 w12)∨∃v10 v11,v9=.tuple #[.bool true,v10,v11]∧Fs S w [B0,B1] w12∧rn PR (Instr.entry v8) (λv12 w13=>∃v13 v14,v12=.tuple #[v13,v14]∧Fs S w [B0,B1] w13∧∃n1 s0,v14=.agg #[Iv n1,.string s0]∧∀l8,w13.heap.size≤l8→∀w14,Fr S w w13 [l8] [B0,B1,⟨l8,#[Iv n1,.string s0],112,true⟩] w14→rn PR (Instr.mapUpdate 53 (.map q0) (Iv n1) (.bool true)) (λx0 w15=>Fs S w [B0,B1,⟨l8,#[Iv n1,.string s0],112,true⟩] w15∧∃l9,l9<l6∧I3 l9 w15) w14) w12) w11) w9)∧(¬(n0<2)→∃l10,l10<l1∧I0 l10 w9)) w3) w2) w0) w):aa_ PR 98 ⟨[.pointer (some ⟨k0,0,none⟩)]⟩ w K:=
 ab_ (okf:=⟨okL,[39,19]⟩) ag_ (args:=[.c (.p 0 k0 true 0)]) (H:=[⟨k0,.l [.v (.pointer p1),.v (.map g2),.v (.int .i64 m3),.v (.int .i64 m4),.v (.int .i64 m5),.v (.int .i64 m6)],104,true⟩]) (.s .z (.s (.r ⟨(some [0]),true,[],[]⟩) (.s (.s (.r ⟨(some [0]),true,[],[]⟩) (.b (.l (some []) (some []) [] [] (.s (.r ⟨(some []),true,[],[]⟩) (.s .z (.b (.s (.r ⟨(some []),true,[],[]⟩) (.s (.r ⟨(some []),true,[],[]⟩) (.b (.l (some [28]) (some [28]) [(30,.c (.int .i64))] [] (.s .z (.s .z (.s (.b (.s .z (.s (.r ⟨(some [7,28]),true,[],[]⟩) (.b (.l (some [28]) (some [28]) [] [] (.s (.r ⟨(some [28]),true,[],[]⟩) (.s .z (.b (.s (.r ⟨(some [28]),true,[],[]⟩) (.r ⟨(some [9,28]),true,[],[]⟩)))))))))) .z))))))))))))) .z))) Go.Proofs.Tryz.func98 rfl ⟨rfl,trivial⟩ ⟨⟨trivial,⟨trivial,⟨trivial,⟨trivial,⟨trivial,⟨trivial,trivial⟩⟩⟩⟩⟩⟩,trivial⟩ hF hS (ac_ (by kernel_rfl) h)
theorem h6_ (k0:Nat) (p1:Option Addr) (g2:Option Nat) (m3:Int) (m4:Int) (m5:Int) (m6:Int) (k7:Nat) (m8:Int) (m9:Int) (m10:Int) (y11:Option Addr) (ly11:Nat) (cy11:Nat) (m12:Int) (z13:ByteArray) (g14:Option Nat) (g15:Option Nat) (m16:Int) (S:SP) (K:KP) (w:World) (hF:Fs S w [⟨k0,#[.pointer p1,.map g2,.int .i64 m3,.int .i64 m4,.int .i64 m5,.int .i64 m6],104,true⟩,⟨k7,#[.int .i64 m8,.int .i64 m9,.int .i64 m10,.slice y11 ly11 cy11,.int .i64 m12,.string z13,.map g14,.map g15],87,false⟩] w) (hS:S k0∧True) (h:rn PR (Instr.lookup 85 (.map g15) (Iv m16) true) (λv0 w0=>∃n0 s0 b0,v0=.tuple #[.agg #[Iv n0,.string s0],.bool b0]∧(b0=true→Fs S w [⟨k0,#[.pointer p1,.map g2,Iv m3,Iv m4,Iv m5,Iv m6],104,true⟩,⟨k7,#[Iv m8,Iv m9,Iv m10,.slice y11 ly11 cy11,Iv m12,.string z13,.map g14,.map g15],87,false⟩] w0∧∀l0,w0.heap.size≤l0→∀w1,Fr S w w0 [l0] [⟨k0,#[.pointer p1,.map g2,Iv m3,Iv m4,Iv m5,Iv m6],104,true⟩,⟨k7,#[Iv m8,Iv m9,Iv m10,.slice y11 ly11 cy11,Iv m12,.string z13,.map g14,.map g15],87,false⟩] w1→K (.tuple #[Iv n0,.bool true]) w1)∧(b0=false→Fs S w [⟨k0,#[.pointer p1,.map g2,Iv m3,Iv m4,Iv m5,Iv m6],104,true⟩,⟨k7,#[Iv m8,Iv m9,Iv m10,.slice y11 ly11 cy11,Iv m12,.string z13,.map g14,.map g15],87,false⟩] w0∧let B1:Blk:=⟨k7,#[Iv m8,Iv m9,Iv m10,.slice y11 ly11 cy11,Iv m12,.string z13,.map g14,.map g15],87,false⟩;let B0:Blk:=⟨k0,#[.pointer p1,.map g2,Iv m3,Iv m4,Iv m5,Iv m6],104,true⟩;∀l1,w0.heap.size≤l1→∀w2,Fr S w w0 [l1] [B0,B1] w2→aa_ PR 98 #[.pointer (some (⟨k0,0,none⟩))] w2 λv1 w3=>∃q0,v1=.map q0∧Fs S w [B0,B1] w3∧Dr p1 λa0=>Dr (some a0) λa1=>Dr (some (Addr.add a1 0)) λa2=>∃q1,World.cell? w3 a2=some (.pointer q1)∧aa_ PR 99 #[.pointer q1] w3 λv2 w4=>∃n1,v2=Iv n1∧Fs S w [B0,B1] w4∧∃I0:Int→Nat→World→Prop,(∃l2,I0 0 l2 w4)∧∀n2,∀D0:Nat→Value,∀l3 w5,I0 n2 l3 w5→Fs S w [B0,B1] w5→(n2<n1→rn PR (Instr.lookup 53 (.map q0) (Iv n2) false) (λv3 w6=>∃b1,v3=.bool b1∧(b1=true→Fs S w [B0,B1] w6∧∃l4,l4<l3∧I0 (IntKind.wrap .i64 (n2+1)) l4 w6)∧(b1=false→Fs S w [B0,B1] w6∧K (.tuple #[Iv n2,.bool true]) w6)) w5)∧(¬(n2<n1)→K (.tuple #[Iv 0,.bool false]) w5))) w):aa_ PR 51 ⟨[.pointer (some ⟨k0,0,none⟩),.pointer (some ⟨k7,0,none⟩),.int .i64 m16]⟩ w K:=
 ab_ (okf:=⟨okL,[]⟩) ag_ (args:=[.c (.p 0 k0 true 0),.c (.p 1 k7 true 0),.c (.v (.int .i64 m16))]) (H:=[⟨k0,.l [.v (.pointer p1),.v (.map g2),.v (.int .i64 m3),.v (.int .i64 m4),.v (.int .i64 m5),.v (.int .i64 m6)],104,true⟩,⟨k7,.l [.v (.int .i64 m8),.v (.int .i64 m9),.v (.int .i64 m10),.v (.slice y11 ly11 cy11),.v (.int .i64 m12),.v (.string z13),.v (.map g14),.v (.map g15)],87,false⟩]) (.s .z (.s (.s (.r ⟨(some [0,1]),false,[],[]⟩) .z) (.s (.r ⟨(some [0]),false,[],[]⟩) (.s (.s (.r ⟨(some [0]),false,[],[]⟩) (.b (.l (some []) (some []) [(34,.c (.int .i64))] [] (.s .z (.s .z (.s (.b (.s .z (.s (.r ⟨(some []),false,[],[]⟩) .z))) .z)))))) .z)))) Go.Proofs.Tryz.func51 rfl ⟨rfl,rfl,trivial,trivial⟩ ⟨⟨trivial,⟨trivial,⟨trivial,⟨trivial,⟨trivial,⟨trivial,trivial⟩⟩⟩⟩⟩⟩,⟨⟨trivial,⟨trivial,⟨trivial,⟨trivial,⟨trivial,⟨trivial,⟨trivial,⟨trivial,trivial⟩⟩⟩⟩⟩⟩⟩⟩,trivial⟩⟩ hF hS (ac_ (by kernel_rfl) h)
theorem js_ (k0:Nat) (p1:Option Addr) (g2:Option Nat) (m3:Int) (m4:Int) (m5:Int) (m6:Int) (m7:Int) (m8:Int) (z9:ByteArray) (y10:Option Addr) (ly10:Nat) (cy10:Nat) (S:SP) (K:KP) (w:World) (hF:Fs S w [⟨k0,#[.pointer p1,.map g2,.int .i64 m3,.int .i64 m4,.int .i64 m5,.int .i64 m6],104,true⟩] w) (hS:S k0∧True) (h:aa_ PR 27 #[.pointer (some (⟨k0,0,none⟩)),Iv m7] w λv0 w0=>∃q0 v1,v0=.tuple #[.pointer q0,v1]∧Fs S w [⟨k0,#[.pointer p1,.map g2,Iv m3,Iv m4,Iv m5,Iv m6],104,true⟩] w0∧let B0:Blk:=⟨k0,#[.pointer p1,.map g2,Iv m3,Iv m4,Iv m5,Iv m6],104,true⟩;(v1=.nilIface→∀w1,Fr S w w0 [] [B0] w1→∃I0:World→Prop,I0 w1∧Dr q0 λa0=>Dr (some a0) λa1=>Dr (some (Addr.add a1 0)) λa2=>Dr (some (Addr.add a2 5)) λa3=>∃s0,(∀w2,I0 w2→World.cell? w2 a3=some (.string s0))∧Dr q0 λa4=>Dr (some a4) λa5=>Dr (some (Addr.add a5 0)) λa6=>Dr (some (Addr.add a6 4)) λa7=>∃n0,(∀w3,I0 w3→World.cell? w3 a7=some (Iv n0))∧aa_ PR 50 #[.string s0,Iv m8,Iv n0,.string z9,.slice y10 ly10 cy10] w1 λv2 w4=>∃v3,v2=v3∧Fs S w [B0] w4∧I0 w4∧(v3=.nilIface→Dr q0 λa8=>Dr (some a8) λa9=>Dr (some (Addr.add a9 6)) λa10=>∃q1,World.cell? w4 a10=some (.map q1)∧rn PR (Instr.lookup 85 (.map q1) (Iv m8) true) (λv4 w5=>∃n1 s1 b0,v4=.tuple #[.agg #[Iv n1,.string s1],.bool b0]∧(b0=true→Fs S w [B0] w5∧∀l0,w5.heap.size≤l0→∀w6,Fr S w w5 [l0] [B0] w6→K .nilIface w6)∧(b0=false→Fs S w [B0] w5∧∀l1,w5.heap.size≤l1→∀w7,Fr S w w5 [l1] [B0] w7→aa_ PR 51 #[.pointer (some (⟨k0,0,none⟩)),.pointer q0,Iv m8] w7 λv5 w8=>∃n2 b1,v5=.tuple #[Iv n2,.bool b1]∧(b1=true→Fs S w [B0] w8∧aa_ PR 52 #[.string z9] w8 λv6 w9=>∃s2,v6=.string s2∧Fs S w [B0] w9∧∀l2,w9.heap.size≤l2→Dr p1 λa11=>Dr (some a11) λa12=>∀w10,Fr S w w9 [l2] [B0,⟨l2,#[Iv n2,.string s2],112,true⟩] w10→let B1:Blk:=⟨l2,#[Iv n2,.string s2],112,true⟩;Dr (some (Addr.add a12 0)) λa13=>∃q2,World.cell? w10 a13=some (.pointer q2)∧aa_ PR 53 #[.pointer q2,Iv n2,.string z9] w10 λv7 w11=>∃v8,v7=v8∧Fs S w [B0,B1] w11∧(v8=.nilIface→∀w12,Fr S w w11 [] [B0,B1] w12→∃I1:World→Prop,I1 w12∧aa_ PR 54 #[Iv m7,Iv m8,.agg #[Iv n2,.string s2]] w12 λv9 w13=>∃s3,v9=.string s3∧Fs S w [B0,B1] w13∧I1 w13∧∀l3,w13.heap.size≤l3→∀w14,Fr S w w13 [] [B0,B1,⟨l3,#[.string s3],9,true⟩] w14→I1 w14∧aa_ PR 43 #[.pointer p1,.slice (some (⟨l3,0,none⟩)) 1 1] w14 λv10 w15=>∃v11,v10=v11∧∃s4,Fs S w [B0,B1,⟨l3,#[.string s4],9,true⟩] w15∧I1 w15∧(v11=.nilIface→∀w16,Fr S w w15 [] [B0,B1] w16→∃I2:World→Prop,I2 w16∧Dr q0 λa14=>Dr (some a14) λa15=>Dr (some (Addr.add a15 6)) λa16=>∃q3,(∀w17,I2 w17→World.cell? w17 a16=some (.map q3))∧rn PR (Instr.mapUpdate 85 (.map q3) (Iv m8) (.agg #[Iv n2,.string s2])) (λx0 w18=>Fs S w [B0,B1] w18∧Dr q0 λa17=>Dr (some a17) λa18=>Dr (some (Addr.add a18 7)) λa19=>∃q4,World.cell? w18 a19=some (.map q4)∧rn PR (Builtin.delete_ #[85,3] 0 #[.map q4,Iv m8]) (λv12 w19=>v12=.tuple #[]∧Fs S w [B0] w19∧K .nilIface w19) w18) w16)∧(∀x1 v13,v11=.iface x1 v13→K v11 w15)∧(v11=.nilIface∨∃l4 v14,v11=.iface l4 v14))∧(∀x2 v15,v8=.iface x2 v15→K v8 w11)∧(v8=.nilIface∨∃l5 v16,v8=.iface l5 v16))∧(b1=false→Fs S w [B0] w8∧K (.iface 73 (Iv 7)) w8))) w4)∧(∀x3 v17,v3=.iface x3 v17→K v3 w4)∧(v3=.nilIface∨∃l6 v18,v3=.iface l6 v18))∧(∀x4 v19,v1=.iface x4 v19→K v1 w0)∧(v1=.nilIface∨∃l7 v20,v1=.iface l7 v20)):aa_ PR 20 ⟨[.pointer (some ⟨k0,0,none⟩),.int .i64 m7,.int .i64 m8,.string z9,.slice y10 ly10 cy10]⟩ w K:=
 ab_ (okf:=⟨okL,[]⟩) ag_ (args:=[.c (.p 0 k0 true 0),.c (.v (.int .i64 m7)),.c (.v (.int .i64 m8)),.c (.v (.string z9)),.c (.v (.slice y10 ly10 cy10))]) (H:=[⟨k0,.l [.v (.pointer p1),.v (.map g2),.v (.int .i64 m3),.v (.int .i64 m4),.v (.int .i64 m5),.v (.int .i64 m6)],104,true⟩]) (.s .z (.s (.r ⟨(some [0]),true,[],[]⟩) (.s .z (.s (.s (.r ⟨(some [0]),true,[],[]⟩) .z) (.s (.s (.r ⟨(some [0]),true,[],[]⟩) .z) (.s (.r ⟨(some [0]),true,[],[]⟩) (.s .z (.s (.r ⟨(some [0]),true,[],[]⟩) (.s (.s (.r ⟨(some [0,18]),true,[],[(9,[999])]⟩) .z) (.s (.s (.r ⟨(some [0,18]),true,[],[(9,[999])]⟩) .z) (.s (.r ⟨(some [18]),true,[],[]⟩) (.s (.r ⟨(some []),true,[],[]⟩) .z)))))))))))) Go.Proofs.Tryz.func20 rfl ⟨rfl,trivial,trivial,trivial,trivial,trivial⟩ ⟨⟨trivial,⟨trivial,⟨trivial,⟨trivial,⟨trivial,⟨trivial,trivial⟩⟩⟩⟩⟩⟩,trivial⟩ hF hS (ac_ (by kernel_rfl) h)
theorem fP_ (k0:Nat) (p1:Option Addr) (g2:Option Nat) (m3:Int) (m4:Int) (m5:Int) (m6:Int) (m7:Int) (S:SP) (K:KP) (w:World) (hF:Fs S w [⟨k0,#[.pointer p1,.map g2,.int .i64 m3,.int .i64 m4,.int .i64 m5,.int .i64 m6],104,true⟩] w) (hS:S k0∧True) (h:aa_ PR 27 #[.pointer (some (⟨k0,0,none⟩)),Iv m7] w λv0 w0=>∃q0 v1,v0=.tuple #[.pointer q0,v1]∧Fs S w [⟨k0,#[.pointer p1,.map g2,Iv m3,Iv m4,Iv m5,Iv m6],104,true⟩] w0∧let B0:Blk:=⟨k0,#[.pointer p1,.map g2,Iv m3,Iv m4,Iv m5,Iv m6],104,true⟩;(v1=.nilIface→Dr q0 λa0=>Dr (some a0) λa1=>Dr (some (Addr.add a1 0)) λa2=>Dr (some (Addr.add a2 4)) λa3=>∃n0,World.cell? w0 a3=some (Iv n0)∧∃I0:(Option Addr)→Nat→Nat→Int→Nat→World→Prop,(∃l0,I0 none 0 0 0 l0 w0)∧∀q1 l1 l2 n1,∀D0:Nat→Value,∀l3 w1,I0 q1 l1 l2 n1 l3 w1→Fs S w [B0] w1→(n1<n0→Dr q0 λa4=>Dr (some a4) λa5=>Dr (some (Addr.add a5 6)) λa6=>∃q2,World.cell? w1 a6=some (.map q2)∧rn PR (Instr.lookup 85 (.map q2) (Iv n1) true) (λv2 w2=>∃n2 s0 b0,v2=.tuple #[.agg #[Iv n2,.string s0],.bool b0]∧(b0=true→Fs S w [B0] w2∧∀l4,w2.heap.size≤l4→∀w3,Fr S w w2 [l4] [B0,⟨l4,#[Iv n2,.string s0],112,true⟩] w3→∃l5,l5<l3∧I0 q1 l1 l2 (IntKind.wrap .i64 (n1+1)) l5 w3)∧(b0=false→Fs S w [B0] w2∧∀l6,w2.heap.size≤l6→∀l7,w2.heap.size≤l7→∀w4,Fr S w w2 [l6] [B0,⟨l7,#[Iv n1],3,true⟩] w4→rn PR (Builtin.append_ #[33,33] 33 #[.slice q1 l1 l2,.slice (some (⟨l7,0,none⟩)) 1 1]) (λv3 w5=>∃q3 l8 l9,v3=.slice q3 l8 l9∧Fs S w [B0,⟨l7,#[Iv n1],3,true⟩] w5∧∃l10,l10<l3∧I0 q3 l8 l9 (IntKind.wrap .i64 (n1+1)) l10 w5) w4)) w1)∧(¬(n1<n0)→K (.slice q1 l1 l2) w1))∧(∀x0 v4,v1=.iface x0 v4→K (.slice none 0 0) w0)∧(v1=.nilIface∨∃l11 v5,v1=.iface l11 v5)):aa_ PR 93 ⟨[.pointer (some ⟨k0,0,none⟩),.int .i64 m7]⟩ w K:=
 ab_ (okf:=⟨okL,[]⟩) ag_ (args:=[.c (.p 0 k0 true 0),.c (.v (.int .i64 m7))]) (H:=[⟨k0,.l [.v (.pointer p1),.v (.map g2),.v (.int .i64 m3),.v (.int .i64 m4),.v (.int .i64 m5),.v (.int .i64 m6)],104,true⟩]) (.s .z (.s (.r ⟨(some [0]),false,[],[]⟩) (.s .z (.s .z (.s (.s .z (.b (.l (some []) (some []) [(7,.c (.sl)),(24,.c (.int .i64))] [] (.s .z (.s .z (.s (.b (.s .z (.s (.r ⟨(some []),false,[],[]⟩) (.s .z (.c (.r ⟨(some []),false,[],[]⟩) .z))))) .z)))))) .z))))) Go.Proofs.Tryz.func93 rfl ⟨rfl,trivial,trivial⟩ ⟨⟨trivial,⟨trivial,⟨trivial,⟨trivial,⟨trivial,⟨trivial,trivial⟩⟩⟩⟩⟩⟩,trivial⟩ hF hS (ac_ (by kernel_rfl) h)
theorem hx_ (k0:Nat) (p1:Option Addr) (g2:Option Nat) (m3:Int) (m4:Int) (m5:Int) (m6:Int) (m7:Int) (S:SP) (K:KP) (w:World) (hF:Fs S w [⟨k0,#[.pointer p1,.map g2,.int .i64 m3,.int .i64 m4,.int .i64 m5,.int .i64 m6],104,true⟩] w) (hS:S k0∧True) (h:aa_ PR 27 #[.pointer (some (⟨k0,0,none⟩)),Iv m7] w λv0 w0=>∃q0 v1,v0=.tuple #[.pointer q0,v1]∧Fs S w [⟨k0,#[.pointer p1,.map g2,Iv m3,Iv m4,Iv m5,Iv m6],104,true⟩] w0∧∀w1,Fr S w w0 [] [⟨k0,#[.pointer p1,.map g2,Iv m3,Iv m4,Iv m5,Iv m6],104,true⟩] w1→∃I0:World→Prop,I0 w1∧(v1=.nilIface→Dr q0 λa0=>Dr (some a0) λa1=>Dr (some (Addr.add a1 6)) λa2=>∃q1,(∀w2,I0 w2→World.cell? w2 a2=some (.map q1))∧Dr q0 λa3=>Dr (some a3) λa4=>Dr (some (Addr.add a4 0)) λa5=>Dr (some (Addr.add a5 4)) λa6=>∃n0,(∀w3,I0 w3→World.cell? w3 a6=some (Iv n0))∧rn PR (Builtin.len_ #[85] 3 #[.map q1]) (λv2 w4=>∃n1,v2=Iv n1∧Fs S w [⟨k0,#[.pointer p1,.map g2,Iv m3,Iv m4,Iv m5,Iv m6],104,true⟩] w4∧I0 w4∧(n1=n0→K (.bool true) w4)∧(¬(n1=n0)→K (.bool false) w4)) w1)∧(∀x0 v3,v1=.iface x0 v3→K (.bool false) w1)∧(v1=.nilIface∨∃l0 v4,v1=.iface l0 v4)):aa_ PR 12 ⟨[.pointer (some ⟨k0,0,none⟩),.int .i64 m7]⟩ w K:=
 ab_ (okf:=⟨okL,[]⟩) ag_ (args:=[.c (.p 0 k0 true 0),.c (.v (.int .i64 m7))]) (H:=[⟨k0,.l [.v (.pointer p1),.v (.map g2),.v (.int .i64 m3),.v (.int .i64 m4),.v (.int .i64 m5),.v (.int .i64 m6)],104,true⟩]) (.s .z (.s (.r ⟨(some [0]),true,[],[]⟩) (.s (.r ⟨(some []),true,[],[]⟩) .z))) Go.Proofs.Tryz.func12 rfl ⟨rfl,trivial,trivial⟩ ⟨⟨trivial,⟨trivial,⟨trivial,⟨trivial,⟨trivial,⟨trivial,trivial⟩⟩⟩⟩⟩⟩,trivial⟩ hF hS (ac_ (by kernel_rfl) h)
theorem hv_ (p0:Option Addr) (S:SP) (K:KP) (w:World) (h:aa_ PR 34 #[.pointer p0] w λv0 w0=>∃q0 v1,v0=.tuple #[.pointer q0,v1]∧Fs S w [] w0∧(v1=.nilIface→rn PR (Instr.makeMap 100 none) (λv2 w1=>∃q1,v2=.map q1∧Fs S w [] w1∧∀l0,w1.heap.size≤l0→∀w2,Fr S w w1 [] [⟨l0,#[.pointer q0,.map q1,Iv 0,Iv 0,Iv 0,Iv 0],104,true⟩] w2→aa_ PR 35 #[.pointer q0] w2 λv3 w3=>∃q2 l1 l2,v3=.slice q2 l1 l2∧Fs S w [⟨l0,#[.pointer q0,.map q1,Iv 0,Iv 0,Iv 0,Iv 0],104,true⟩] w3∧∃I0:Int→(Option Addr)→(Option Nat)→Int→Int→Int→Int→Nat→World→Prop,(∃l3,I0 0 q0 q1 0 0 0 0 l3 w3)∧∀n0 q3 q4 n1 n2 n3 n4,∀D0:Nat→Value,∀l4 w4,I0 n0 q3 q4 n1 n2 n3 n4 l4 w4→Fs S w [⟨l0,#[.pointer q3,.map q4,Iv n1,Iv n2,Iv n3,Iv n4],104,true⟩] w4→(n0<(l1:Int)→Dr q2 λa0=>(0:Int)≤n0∧n0<(l1:Int)∧Dr (some (Addr.add a0 (Int.toNat n0*1))) λa1=>∃s0,World.cell? w4 a1=some (.string s0)∧aa_ PR 36 #[.pointer (some (⟨l0,0,none⟩)),.string s0] w4 λv4 w5=>v4=.tuple #[]∧∃q5 q6 n5 n6 n7 n8,Fs S w [⟨l0,#[.pointer q5,.map q6,Iv n5,Iv n6,Iv n7,Iv n8],104,true⟩] w5∧∃l5,l5<l4∧I0 (IntKind.wrap .i64 (n0+1)) q5 q6 n5 n6 n7 n8 l5 w5)∧(¬(n0<(l1:Int))→aa_ PR 37 #[.pointer (some (⟨l0,0,none⟩))] w4 λv5 w6=>∃q7 l6 l7,v5=.slice q7 l6 l7∧Fs S w [⟨l0,#[.pointer q3,.map q4,Iv n1,Iv n2,Iv n3,Iv n4],104,true⟩] w6∧∃I1:Int→(Option Addr)→(Option Nat)→Int→Int→Int→Int→Nat→World→Prop,(∃l8,I1 0 q3 q4 n1 n2 n3 n4 l8 w6)∧∀n9 q8 q9 n10 n11 n12 n13,∀D1:Nat→Value,∀l9 w7,I1 n9 q8 q9 n10 n11 n12 n13 l9 w7→Fs S w [⟨l0,#[.pointer q8,.map q9,Iv n10,Iv n11,Iv n12,Iv n13],104,true⟩] w7→let B0:Blk:=⟨l0,#[.pointer q8,.map q9,Iv n10,Iv n11,Iv n12,Iv n13],104,true⟩;(n9<(l6:Int)→Dr q7 λa2=>(0:Int)≤n9∧n9<(l6:Int)∧Dr (some (Addr.add a2 (Int.toNat n9*1))) λa3=>∃n14,World.cell? w7 a3=some (Iv n14)∧rn PR (Instr.lookup 100 (.map q9) (Iv n14) false) (λv6 w8=>∃q10,v6=.pointer q10∧Fs S w [B0] w8∧Dr q10 λa4=>Dr (some a4) λa5=>Dr (some (Addr.add a5 6)) λa6=>∃q11,World.cell? w8 a6=some (.map q11)∧aa_ PR 39 #[.map q11] w8 λv7 w9=>∃v8,v7=v8∧Fs S w [B0] w9∧aa_ PR 38 #[v8] w9 λv9 w10=>∃q12 l10 l11,v9=.slice q12 l10 l11∧Fs S w [B0] w10∧∃I2:Int→(Option Addr)→(Option Nat)→Int→Int→Int→Int→Nat→World→Prop,(∃l12,I2 0 q8 q9 n10 n11 n12 n13 l12 w10)∧∀n15 q13 q14 n16 n17 n18 n19,∀D2:Nat→Value,∀l13 w11,I2 n15 q13 q14 n16 n17 n18 n19 l13 w11→Fs S w [⟨l0,#[.pointer q13,.map q14,Iv n16,Iv n17,Iv n18,Iv n19],104,true⟩] w11→(n15<(l10:Int)→Dr q12 λa7=>(0:Int)≤n15∧n15<(l10:Int)∧Dr (some (Addr.add a7 (Int.toNat n15*1))) λa8=>∃n20,World.cell? w11 a8=some (Iv n20)∧aa_ PR 40 #[.pointer (some (⟨l0,0,none⟩)),Iv n14,Iv n20] w11 λv10 w12=>∃s1 v11,v10=.tuple #[.string s1,v11]∧∃q15 q16 n21 n22 n23 n24,Fs S w [⟨l0,#[.pointer q15,.map q16,Iv n21,Iv n22,Iv n23,Iv n24],104,true⟩] w12∧aa_ PR 22 #[v11,.iface 73 (Iv 8)] w12 λv12 w13=>∃b0,v12=.bool b0∧(b0=true→Fs S w [⟨l0,#[.pointer q15,.map q16,Iv n21,Iv n22,Iv n23,Iv n24],104,true⟩] w13∧K (.tuple #[.pointer none,v11]) w13)∧(b0=false→Fs S w [⟨l0,#[.pointer q15,.map q16,Iv n21,Iv n22,Iv n23,Iv n24],104,true⟩] w13∧∃l14,l14<l13∧I2 (IntKind.wrap .i64 (n15+1)) q15 q16 n21 n22 n23 n24 l14 w13))∧(¬(n15<(l10:Int))→∃l15,l15<l9∧I1 (IntKind.wrap .i64 (n9+1)) q13 q14 n16 n17 n18 n19 l15 w11)) w7)∧(¬(n9<(l6:Int))→K (.tuple #[.pointer (some (⟨l0,0,none⟩)),.nilIface]) w7))) w0)∧(∀x0 v13,v1=.iface x0 v13→K (.tuple #[.pointer none,v1]) w0)∧(v1=.nilIface∨∃l16 v14,v1=.iface l16 v14)):aa_ PR 14 ⟨[.pointer p0]⟩ w K:=
 ab_ (okf:=⟨okL,[]⟩) ag_ (args:=[.c (.v (.pointer p0))]) (H:=[]) (.s .z (.s (.r ⟨(some []),false,[],[]⟩) (.s .z (.s (.r ⟨(some []),false,[],[]⟩) (.s (.s (.r ⟨(some [6]),false,[],[]⟩) (.b (.l (some [6]) (some [6]) [(30,.c (.int .i64))] [6] (.s .z (.s .z (.s (.b (.s .z (.r ⟨(some [6]),false,[],[(2,[999])]⟩))) .z)))))) (.s (.s (.r ⟨(some [6]),false,[],[]⟩) (.b (.l (some [6]) (some [6]) [(41,.c (.int .i64))] [6] (.s .z (.s .z (.s (.b (.s .z (.s (.r ⟨(some [6]),false,[],[]⟩) (.b (.l (some [6]) (some [6]) [(57,.c (.int .i64))] [6] (.s .z (.s .z (.s (.b (.s .z (.s (.r ⟨(some [6]),false,[],[(3,[999])]⟩) (.s (.r ⟨(some [6]),false,[],[]⟩) .z)))) .z)))))))) .z)))))) .z)))))) Go.Proofs.Tryz.func14 rfl ⟨trivial,trivial⟩ trivial (Fr.init S w) trivial (ac_ (by kernel_rfl) h)
end Go.Vc
namespace Go.Vc
open Go Go.MapKept
theorem d1_:PR.underlying T.cn_=some (.map T.int T.ch_):=by kernel_rfl
theorem bI_:PR.underlying T.ap_=some (.map T.int T.a2_):=by kernel_rfl
theorem ok_:PR.underlying T.bY_=some (.map T.int T.bool):=by kernel_rfl
theorem ps_:∃i,PR.info? T.ch_=some i∧i.zero=some (.pointer none):=by
 have h:(PR.info? T.ch_).map (·.zero)=some (some (.pointer none)):=by kernel_rfl
 cases hi:PR.info? T.ch_ with
 | none=>rw [hi] at h;cases h
 | some i=>rw [hi] at h;exact ⟨i,rfl,by simpa using h⟩
theorem gM_:∀w:World,(zeroValue T.ch_).run PR w=.ok (.pointer none) w:=λw=>by
 obtain ⟨i,hi,hz⟩:=ps_
 simp [zeroValue,typeInfo,hi,hz]
theorem mB_:∃i,PR.info? T.a2_=some i∧i.zero=some (.agg #[.int .i64 0,.string ⟨#[]⟩]):=by
 have h:(PR.info? T.a2_).map (·.zero)=some (some (.agg #[.int .i64 0,.string ⟨#[]⟩])):=by kernel_rfl
 cases hi:PR.info? T.a2_ with
 | none=>rw [hi] at h;cases h
 | some i=>rw [hi] at h;exact ⟨i,rfl,by simpa using h⟩
theorem eh_:∀w:World,(zeroValue T.a2_).run PR w=.ok (.agg #[.int .i64 0,.string ⟨#[]⟩]) w:=λw=>by
 obtain ⟨i,hi,hz⟩:=mB_
 simp [zeroValue,typeInfo,hi,hz]
theorem np_:∀w:World,(zeroValue T.bool).run PR w=.ok (.bool false) w:=λw=>by
 obtain ⟨i,hi,hk,hb,hz⟩:=qz_
 simp [zeroValue,typeInfo,hi,hz]
theorem lx_ {t e ty:TypeId} (ht:PR.underlying t=some (.map T.int e)) {w:World} {r:Nat} {l:List (Int × Value)} (h:MapI w r l) {K:Value→World→Prop} (hK:K (.int .i64 l.length) w):rn PR (Builtin.len_ #[t] ty #[.map (some r)]) K w:=by
 obtain ⟨es,clock,hb,h2,h3,_⟩:=h.ex
 refine ee_ (a:=.int .i64 es.size) ?_ (by rw [h3];exact hK)
 simp [Builtin.len_,run_underlying ht,MapKept.run_getObj_map hb,goInt,Result.andThen]
theorem d2_ {w:World} {s:HS} (h:ax_ w s) {n:Int} (hn:bc_ n) {K:Value→World→Prop} (h1:∀v∈s.vs,v.man.version=n→K (.tuple #[.pointer (some ⟨v.b,0,none⟩),.nilIface]) w) (h2:(∀v∈s.vs,v.man.version≠n)→K (.tuple #[.pointer none,.iface T.an_ (.int .i64 13)]) w) :
  aa_ PR F.fD_ ⟨[.pointer (some ⟨s.bh,0,none⟩),.int .i64 n]⟩ w K:=by
 refine hw_ s.bh (some ⟨s.bj,0,none⟩) (some s.m) s.act s.prep s.lv s.li n (hS s) K w h.fs ⟨.inl rfl,trivial⟩ ?_
 refine aR_ d1_ h.mp hn false gM_ (λx hx=>?_) λhno=>?_
 ·obtain ⟨v,hv,e⟩:=List.mem_map.1 hx
  have e1:v.man.version=n:=congrArg Prod.fst e
  have e2:x=.pointer (some ⟨v.b,0,none⟩):=(congrArg Prod.snd e).symm
  subst e2
  refine ⟨_,rfl,h.fs,(λhc=>by cases hc),λa ha=>?_⟩
  refine aR_ d1_ h.mp hn false gM_ (λx' hx'=>?_) λhno=>absurd rfl (hno _ hx)
  have:((n,x'):Int × Value)=(n,.pointer (some ⟨v.b,0,none⟩)):=nv_ h.mp.nd hx' hx rfl
  have:=congrArg Prod.snd this
  simp only [] at this
  subst this
  exact ⟨_,rfl,h.fs,h1 v hv e1⟩
 ·refine ⟨none,rfl,h.fs,λ_=>h2 λv hv e=>hno _ (List.mem_map.2 ⟨v,hv,rfl⟩) e,λa ha=>by cases ha⟩
theorem cp_ {w:World} {v:HV} (h:w.heap[v.b]? = some (.cells (hvC v) T.aH_ (0,0))) {k:Nat} {x:Value} (hk:(hvC v)[k]? = some x):w.cell? (Addr.add ⟨v.b,0,none⟩ k)=some x:=by
 rw [as_,au_ h,Nat.zero_add];exact hk
theorem c2_ {w:World} {v:HV} (h:w.heap[v.b]? = some (.cells (hvC v) T.aH_ (0,0))) {k:Nat} {x:Value} (hk:(hvC v)[k]? = some x):w.cell? (Addr.add (Addr.add ⟨v.b,0,none⟩ 0) k)=some x:=by
 rw [as_,as_,au_ h];simpa using hk
theorem m6_ {w:World} {s:HS} (h:ax_ w s) {n:Int} (hn:bc_ n) {K:Value→World→Prop} (h1:∀w',Grow w w'→∀v∈s.vs,v.man.version=n→K (.bool (decide ((v.bl.length:Int)=v.man.blocks))) w') (h2:∀w',Grow w w'→(∀v∈s.vs,v.man.version≠n)→K (.bool false) w') :
  aa_ PR F.fE_ ⟨[.pointer (some ⟨s.bh,0,none⟩),.int .i64 n]⟩ w K:=by
 refine hx_ s.bh (some ⟨s.bj,0,none⟩) (some s.m) s.act s.prep s.lv s.li n (hS s) K w h.fs ⟨.inl rfl,trivial⟩ ?_
 refine d2_ h hn (λv hv e=>⟨_,_,rfl,h.fs,λw1 hF1=>⟨λw'=>w'.heap[v.b]? = some (.cells (hvC v) T.aH_ (0,0)),hF1.grow.get (h.vs v hv).blk,λ_=>?_,(λt x h=>by cases h),.inl rfl⟩⟩) λhno=>⟨_,_,rfl,h.fs,λw1 hF1=>⟨λ_=>True,trivial,(λh=>by cases h),(λt x _=>h2 w1 hF1.grow hno),.inr ⟨_,_,rfl⟩⟩⟩
 refine ad_.2 (ad_.2 (ad_.2 ⟨_,λw' hb=>cp_ hb (k:=6) rfl,ad_.2 (ad_.2 (ad_.2 (ad_.2 ⟨_,λw' hb=>c2_ hb (k:=4) rfl,?_⟩)))⟩))
 refine lx_ bI_ ((h.vs v hv).bm.grow hF1.grow) ⟨_,rfl,hF1.reset,hF1.grow.get (h.vs v hv).blk,λe1=>?_,λe1=>?_⟩
 ·have:=h1 w1 hF1.grow v hv e
  rw [decide_eq_true (by simpa [blI] using e1)] at this;exact this
 ·have:=h1 w1 hF1.grow v hv e
  rw [decide_eq_false (by simpa [blI] using e1)] at this;exact this
def aM_ (w:World) (r:Nat) (X:Int→Prop):Prop:=∃l,MapI w r l∧(∀p∈l,p.2=.bool true)∧∀n,(∃p∈l,p.1=n)↔X n
theorem aM_.keep {S:Nat→Prop} {w w':World} {r:Nat} {X:Int→Prop} (h:aM_ w r X) (g:Chg S w w') (hn:¬S r):aM_ w' r X:=by
 obtain ⟨l,h1,h2⟩:=h;exact ⟨l,h1.keep g hn,h2⟩
theorem aM_.grow {w w':World} {r:Nat} {X:Int→Prop} (h:aM_ w r X) (g:Grow w w'):aM_ w' r X:=h.keep g id
theorem aM_.cong {w:World} {r:Nat} {X Y:Int→Prop} (h:aM_ w r X) (hx:∀n,X n↔Y n):aM_ w r Y:=by
 obtain ⟨l,h1,h2,h3⟩:=h;exact ⟨l,h1,h2,λn=>(h3 n).trans (hx n)⟩
theorem aM_.lt {w:World} {r:Nat} {X:Int→Prop} (h:aM_ w r X):r<w.heap.size:=by
 obtain ⟨l,h1,_⟩:=h;exact h1.lt
theorem aM_.ne {w:World} {r k:Nat} {X:Int→Prop} {cs:Array Value} {t:TypeId} {a:Nat × Nat} (h:aM_ w r X) (hb:w.heap[k]? = some (.cells cs t a)):k≠r:=by
 obtain ⟨l,h1,_⟩:=h;exact h1.ne hb
theorem aM_.put {w:World} {r:Nat} {X:Int→Prop} (h:aM_ w r X) {m:Int} (hm:bc_ m) {K:Unit→World→Prop} (hK:∀w',aM_ w' r (λn=>X n∨n=m)→Chg (· = r) w w'→w'.heap.size=w.heap.size→K () w'):rn PR (Instr.mapUpdate T.bY_ (.map (some r)) (.int .i64 m) (.bool true)) K w:=by
 obtain ⟨l,h1,h2,h3⟩:=h
 refine cT_ ok_ h1 hm λw' hm' g hs=>hK w' ⟨_,hm',λp hp=>?_,λn=>?_⟩ g hs
 ·rcases b7_.1 hp with rfl | ⟨hp,_⟩
  ·rfl
  ·exact h2 p hp
 ·constructor
  ·rintro ⟨p,hp,rfl⟩
   rcases b7_.1 hp with rfl | ⟨hp,_⟩
   ·exact .inr rfl
   ·exact .inl ((h3 _).1 ⟨p,hp,rfl⟩)
  ·rintro (hx | rfl)
   ·by_cases e:n=m
    ·subst e;exact ⟨_,b7_.2 (.inl rfl),rfl⟩
    ·obtain ⟨p,hp,rfl⟩:=(h3 n).2 hx
     exact ⟨p,b7_.2 (.inr ⟨hp,e⟩),rfl⟩
   ·exact ⟨_,b7_.2 (.inl rfl),rfl⟩
theorem aM_.look {w:World} {r:Nat} {X:Int→Prop} (h:aM_ w r X) {m:Int} (hm:bc_ m) {K:Value→World→Prop} (h1:X m→K (.bool true) w) (h2:¬X m→K (.bool false) w):rn PR (Instr.lookup T.bY_ (.map (some r)) (.int .i64 m) false) K w:=by
 obtain ⟨l,a1,a2,a3⟩:=h
 refine aR_ ok_ a1 hm false np_ (λv hv=>?_) λhno=>h2 λhx=>?_
 ·have e:v=.bool true:=a2 _ hv
  subst e
  exact h1 ((a3 m).1 ⟨_,hv,rfl⟩)
 ·obtain ⟨p,hp,e⟩:=(a3 m).2 hx
  exact hno p hp e
theorem iB_ {w:World} {s:HS} (h:ax_ w s) {v:HV} (hv:v∈s.vs) {p:Int × Int × List UInt8} (hp:p∈v.bl++v.ol):bc_ p.2.1:=by
 have h1:=h.sl v hv p hp
 have h2:=h.dl
 exact ⟨by omega,by omega⟩
theorem nt_ {w:World} {s:HS} (h:ax_ w s) {K:Value→World→Prop} (hK:∀w' r,Grow w w'→w.heap.size≤r→aM_ w' r (h2_ s)→K (.map (some r)) w'):aa_ PR F.gk_ ⟨[.pointer (some ⟨s.bh,0,none⟩)]⟩ w K:=by
 have h0:Fs (· = s.bh) w [⟨s.bh,hsC s,T.ar_,true⟩] w:=(Fr.init _ w).entry h.blk (λx h=>by cases h) λ_=>rfl
 have hbl:=aj_ h.blk
 have hml:=h.mp.lt
 refine h5_ s.bh (some ⟨s.bj,0,none⟩) (some s.m) s.act s.prep s.lv s.li (· = s.bh) K w h0 ⟨rfl,trivial⟩ ?_
 refine aU_ λw0 rq hrq hm0 g0=>⟨_,rfl,h0.after g0,?_⟩
 have M0:aM_ w0 rq (λ_=>False):=⟨[],hm0,(λp hp=>by cases hp),λn=>⟨(λ⟨p,hp,_⟩=>by cases hp),λh=>h.elim⟩⟩
 have hrql:=hm0.lt
 refine ki_ d1_ (h.mp.grow g0) λw1 ri hri it1 g1=>⟨(h0.after g0).after g1,?_⟩
 refine ⟨λlv w'=>∃done,dr_ w' s.m ri (s.vs.map ptV) done∧aM_ w' rq (λn=>∃v∈s.vs,v.man.version∈done∧∃p∈v.bl++v.ol,p.2.1=n)∧lv=s.vs.length - done.length,⟨_,[],it1,(M0.grow g1).cong λn=>⟨λh=>h.elim,λ⟨v,_,hv,_⟩=>by cases hv⟩,rfl⟩,?_⟩
 rintro D lv w2 ⟨done,it2,M2,rfl⟩ hF2
 have gr:∀ {w':World} {L:List Blk} {M:List Nat} {wp:World},Fr (· = s.bh) w wp M (⟨s.bh,hsC s,T.ar_,true⟩ :: L) w'→Grow w w':=λhF=>hF.chg.same h.blk (hF.blk 0 rfl)
 refine me_ it2 (λhall=>.inl ⟨rfl,hF2,hK w2 rq (gr hF2) (by omega) (M2.cong λn=>⟨λ⟨v,hv,_,hp⟩=>⟨v,hv,hp⟩,λ⟨v,hv,hp⟩=>⟨v,hv,hall _ (List.mem_map.2 ⟨v,hv,rfl⟩),hp⟩⟩)⟩) λp w3 hp hnd hlt E g3 s3=>.inr ⟨_,_,rfl,?_⟩
 rw [List.length_map] at hlt
 have hrine:ri≠s.m:=by omega
 have hriq:ri≠rq:=by omega
 have hF3:=hF2.step g3 (λx hx=>by simp at hx;subst hx;show ¬s.bh=ri;omega) (λk hk e=>by have e':k=ri:=e;omega)
 have M3:=M2.keep g3 hriq.symm
 refine ⟨hF3,ml_ E.ent ⟨_,_,rfl,hF3,?_⟩⟩
 obtain ⟨v,hv,rfl⟩:=List.mem_map.1 hp
 have it3:=E.it
 have hv0:=h.vs v hv
 refine ⟨_,rfl,λw5 hF5=>⟨λw'=>w'.heap[v.b]? = some (.cells (hvC v) T.aH_ (0,0)),Grow.get (gr hF5) hv0.blk,?_⟩⟩
 refine ad_.2 (ad_.2 (ad_.2 ⟨_,λw' hb=>cp_ hb (k:=6) rfl,ad_.2 (ad_.2 (ad_.2 ⟨_,λw' hb=>cp_ hb (k:=7) rfl,λl2 hl2 w8 hF8=>⟨Grow.get (gr hF8) hv0.blk,?_⟩⟩))⟩))
 have g38:Grow w3 w8:=hF5.grow.trans hF8.grow
 let X:Int→Prop:=λn=>∃v∈s.vs,v.man.version∈done∧∃p∈v.bl++v.ol,p.2.1=n
 refine ⟨λn lv w'=>∃t:Nat,n=t∧t≤2∧lv=2 - t∧dr_ w' s.m ri (s.vs.map ptV) (v.man.version :: done)∧aM_ w' rq (λn=>X n∨(0<t∧∃p∈v.bl,p.2.1=n)∨(1<t∧∃p∈v.ol,p.2.1=n)),⟨_,0,rfl,by omega,rfl,it3.grow g38,(M3.grow g38).cong λn=>⟨.inl,λh=>h.elim id λh=>h.elim (λh=>absurd h.1 (by omega)) λh=>absurd h.1 (by omega)⟩⟩,?_⟩
 rintro n D lv w9 ⟨t,rfl,ht,rfl,it9,M9⟩ hF9
 refine ⟨λhlt9=>⟨by omega,hlt9,?_⟩,λhge=>?_⟩
 ·have inner:∀(L:List (Int × Int × List UInt8)) (r4:Nat),MapI w9 r4 (blI L)→r4<w.heap.size→(∀p∈L,bc_ p.2.1)→∀(t':Nat),t'=t+1→t'≤2→(∀n,((X n∨(0<t∧∃p∈v.bl,p.2.1=n)∨(1<t∧∃p∈v.ol,p.2.1=n))∨∃p∈L,p.2.1=n)↔(X n∨(0<t'∧∃p∈v.bl,p.2.1=n)∨(1<t'∧∃p∈v.ol,p.2.1=n)))→
      rn PR (Instr.range T.ap_ (.map (some r4))) (λv8 w10=>Fs (· = s.bh) w [⟨s.bh,hsC s,T.ar_,true⟩,⟨l2,#[.map (some v.bm),.map (some v.om)],T.ap_,true⟩] w10∧∃I3:Nat→World→Prop,(∃l5:Nat,I3 l5 w10)∧∀D2:Nat→Value,∀l6:Nat,∀w11:World,I3 l6 w11→Fs (· = s.bh) w [⟨s.bh,hsC s,T.ar_,true⟩,⟨l2,#[.map (some v.bm),.map (some v.om)],T.ap_,true⟩] w11→rn PR (Instr.next v8 false 0) (λv9 w12=>(v9=.tuple (#[.bool false])∧Fs (· = s.bh) w [⟨s.bh,hsC s,T.ar_,true⟩,⟨l2,#[.map (some v.bm),.map (some v.om)],T.ap_,true⟩] w12∧∃l7:Nat,l7<2 - t∧∃t2:Nat,(t':Int)=t2∧t2≤2∧l7=2 - t2∧dr_ w12 s.m ri (s.vs.map ptV) (v.man.version :: done)∧aM_ w12 rq (λn=>X n∨(0<t2∧∃p∈v.bl,p.2.1=n)∨(1<t2∧∃p∈v.ol,p.2.1=n)))∨∃v10:Value,∃v11:Value,v9=.tuple (#[.bool true,v10,v11])∧Fs (· = s.bh) w [⟨s.bh,hsC s,T.ar_,true⟩,⟨l2,#[.map (some v.bm),.map (some v.om)],T.ap_,true⟩] w12∧rn PR (Instr.entry v8) (λv12 w13=>∃v13:Value,∃v14:Value,v12=.tuple (#[v13,v14])∧Fs (· = s.bh) w [⟨s.bh,hsC s,T.ar_,true⟩,⟨l2,#[.map (some v.bm),.map (some v.om)],T.ap_,true⟩] w13∧∃n1:Int,∃s0:ByteArray,(v14:Value)=.agg (#[.int .i64 n1,.string s0])∧∀l8:Nat,w13.heap.size≤l8→∀w14:World,Fr (· = s.bh) w w13 [l8] [⟨s.bh,hsC s,T.ar_,true⟩,⟨l2,#[.map (some v.bm),.map (some v.om)],T.ap_,true⟩,⟨l8,#[.int .i64 n1,.string s0],T.a2_,true⟩] w14→rn PR (Instr.mapUpdate T.bY_ (.map (some rq)) (.int .i64 n1) (.bool true)) (λx0 w15=>Fs (· = s.bh) w [⟨s.bh,hsC s,T.ar_,true⟩,⟨l2,#[.map (some v.bm),.map (some v.om)],T.ap_,true⟩,⟨l8,#[.int .i64 n1,.string s0],T.a2_,true⟩] w15∧∃l9:Nat,l9<l6∧I3 l9 w15) w14) w12) w11) w9:=by
   intro L r4 hm4 hr4 hfit t' ht' ht2 hX
   refine ki_ bI_ hm4 λw10 ri3 hri3 it10 g10=>⟨hF9.after g10,?_⟩
   have hri9:=it9.lt
   have hrq9:=M9.lt
   have hl2b:=hF9.lt ⟨l2,#[.map (some v.bm),.map (some v.om)],T.ap_,true⟩ (by simp)
   simp only [] at hl2b
   refine ⟨λlv w'=>∃d3,dr_ w' r4 ri3 (blI L) d3∧dr_ w' s.m ri (s.vs.map ptV) (v.man.version :: done)∧aM_ w' rq (λn=>(X n∨(0<t∧∃p∈v.bl,p.2.1=n)∨(1<t∧∃p∈v.ol,p.2.1=n))∨∃p∈L,p.1∈d3∧p.2.1=n)∧lv=L.length - d3.length,⟨_,[],it10,it9.grow g10,(M9.grow g10).cong λn=>⟨.inl,λh=>h.elim id λ⟨p,_,hp,_⟩=>by cases hp⟩,rfl⟩,?_⟩
   rintro D2 l6 w11 ⟨d3,it11,ot11,M11,rfl⟩ hF11
   refine me_ it11 (λhall=>.inl ⟨rfl,hF11,2 - t',by omega,t',rfl,ht2,rfl,ot11,M11.cong λn=>?_⟩) λp w12 hp hnd3 hlt3 E3 g12 s12=>.inr ⟨_,_,rfl,?_⟩
   ·rw [← hX n]
    exact ⟨λh=>h.imp id λ⟨p,hp,_,e⟩=>⟨p,hp,e⟩,λh=>h.imp id λ⟨p,hp,e⟩=>⟨p,hp,hall _ (List.mem_map.2 ⟨p,hp,rfl⟩),e⟩⟩
   rw [blI,List.length_map] at hlt3
   have hF12:=hF11.step g12 (λx hx=>by
    simp only [List.mem_cons,List.not_mem_nil,or_false] at hx
    rcases hx with rfl | rfl
    ·show ¬s.bh=ri3;omega
    ·show ¬l2=ri3;omega) (λk hk e=>by have e':k=ri3:=e;omega)
   refine ⟨hF12,ml_ E3.ent ⟨_,_,rfl,hF12,?_⟩⟩
   obtain ⟨x,hx,rfl⟩:=List.mem_map.1 hp
   refine ⟨x.2.1,str x.2.2,rfl,λl8 hl8 w14 hF14=>?_⟩
   have hF14':=hF14.unM hl8
   have g14:Grow w12 w14:=hF14'.grow
   have it14:=E3.it.grow g14
   have ot14:=(ot11.keep g12 (show ¬s.m=ri3 by omega) (show ¬ri=ri3 by omega)).grow g14
   have M14:=(M11.keep g12 (show ¬rq=ri3 by omega)).grow g14
   refine M14.put (hfit x hx) λw15 M15 g15 s15=>⟨hF14'.step g15 (λy hy=>?_) (λk hk e=>by have e':k=rq:=e;omega),L.length - (d3.length+1),by omega,x.1 :: d3,it14.keep g15 (show ¬r4=rq by omega) (show ¬ri3=rq by omega),ot14.keep g15 (show ¬s.m=rq by omega) (show ¬ri=rq from hriq),M15.cong λn=>?_,rfl⟩
   ·have:=M14.lt
    simp only [List.mem_cons,List.not_mem_nil,or_false] at hy
    rcases hy with rfl | rfl | rfl
    ·show ¬s.bh=rq;omega
    ·exact λe=>M14.ne (hF14'.blk 1 rfl) e
    ·exact λe=>M14.ne (hF14'.blk 2 rfl) e
   ·constructor
    ·rintro ((h | ⟨p,hp,hd,e⟩) | rfl)
     ·exact .inl h
     ·exact .inr ⟨p,hp,List.mem_cons_of_mem _ hd,e⟩
     ·exact .inr ⟨x,hx,List.mem_cons_self,rfl⟩
    ·rintro (h | ⟨p,hp,hd,e⟩)
     ·exact .inl (.inl h)
     ·rcases List.mem_cons.1 hd with hd | hd
      ·have hpx:((p.1,plV p.2):Int × Value)=(x.1,plV x.2):=nv_ it11.nd (List.mem_map.2 ⟨p,hp,rfl⟩) (List.mem_map.2 ⟨x,hx,rfl⟩) hd
       have h2:plV p.2=plV x.2:=congrArg Prod.snd hpx
       have h3:p.2.1=x.2.1:=by
        unfold plV at h2
        simp at h2;exact h2.1
       exact .inr (by rw [← e,h3])
      ·exact .inl (.inr ⟨p,hp,hd,e⟩)
  have hbm9:=hv0.bm.grow (gr hF9)
  have hom9:=hv0.om.grow (gr hF9)
  rcases (by omega:t=0∨t=1) with rfl | rfl
  ·refine ⟨some v.bm,rfl,inner v.bl v.bm hbm9 hv0.bm.lt (λp hp=>iB_ h hv (List.mem_append_left _ hp)) 1 rfl (by omega) λn=>?_⟩
   simp
  ·refine ⟨some v.om,rfl,inner v.ol v.om hom9 hv0.om.lt (λp hp=>iB_ h hv (List.mem_append_right _ hp)) 2 rfl (by omega) λn=>?_⟩
   simp [or_assoc]
 ·have:t=2:=by omega
  subst this
  refine ⟨s.vs.length - (done.length+1),by omega,v.man.version :: done,it9,M9.cong λn=>?_,rfl⟩
  constructor
  ·rintro (⟨u,hu,hd,hp⟩ | ⟨_,p,hp,e⟩ | ⟨_,p,hp,e⟩)
   ·exact ⟨u,hu,List.mem_cons_of_mem _ hd,hp⟩
   ·exact ⟨v,hv,List.mem_cons_self,p,List.mem_append_left _ hp,e⟩
   ·exact ⟨v,hv,List.mem_cons_self,p,List.mem_append_right _ hp,e⟩
  ·rintro ⟨u,hu,hd,p,hpp,e⟩
   rcases List.mem_cons.1 hd with hd | hd
   ·have:u=v:=h.uniq hu hv hd
    subst this
    rcases List.mem_append.1 hpp with hq | hq
    ·exact .inr (.inl ⟨by omega,p,hq,e⟩)
    ·exact .inr (.inr ⟨by omega,p,hq,e⟩)
   ·exact .inl ⟨u,hu,hd,p,hpp,e⟩
end Go.Vc
namespace Go.Vc
open Go
def recM (m:Man):List UInt8:=[77]++iq_ m
def recB (ver i:Int) (x:Int × List UInt8):List UInt8:=([66]++bX_ [ver,i,x.1])++aG_ [x.2]
def je_ (n:Int):Prop:=0≤n∧n≤72057594037927935
theorem dE_ {l:List Int} (hl:∀n∈l,je_ n) (hn:l.length≤1000) {y:Option Addr} {cy:Nat} {w:World} (hs:Sl w y (l.map iv)) {K:Value→World→Prop} (hK:∀w',Grow w w'→K (.string (str (bX_ l))) w'):aa_ PR F.dO_ ⟨[.slice y l.length cy]⟩ w K:=by
 refine dO_ y l.length cy S0 K w ⟨λs n lv w'=>∃k:Nat,n=k∧k≤l.length∧lv=l.length - k∧s=str (bX_ (l.take k))∧Grow w w',⟨_,0,rfl,by omega,rfl,rfl,.refl _ _⟩,?_⟩
 rintro s n D lv w1 ⟨k,rfl,hk,rfl,rfl,g1⟩ hF1
 refine ⟨λhlt=>?_,λhge=>?_⟩
 ·have hk':k<l.length:=by omega
  refine (hs.grow g1).rd (v:=iv l[k]) (by simp) (by omega) (by simp [hk']) λa ha=>⟨_,ha,?_⟩
  refine bz_ (hl _ (List.getElem_mem hk')) λw2 g2=>⟨_,_,rfl,hF1.after g2,?_,l.length - (k+1),by omega,k+1,wr1 (by omega),by omega,rfl,?_,g1.trans g2⟩
  ·rw [ai_,ai_]
   have h1:=b__ (l:=l.take k) λn hn=>hl n (List.mem_of_mem_take hn)
   have h2:=am_ (n:=l[k].toNat) (by have:=hl _ (List.getElem_mem hk');unfold je_ at this;omega)
   rw [List.length_take] at h1
   omega
  ·rw [g2_ hk',aC_]
 ·have:k=l.length:=by omega
  subst this
  rw [List.take_of_length_le (Nat.le_refl _)]
  exact hK w1 g1
theorem mb_ {ver i:Int} {x:Int × List UInt8} (h1:je_ ver) (h2:je_ i) (h3:je_ x.1) (h4:x.2.length≤1000):(recB ver i x).length≤1+24+1008:=by
 have a:=b__ (l:=[ver,i,x.1]) λn hn=>by simp at hn;rcases hn with rfl | rfl | rfl;exact h1;exact h2;exact h3
 have b:=am_ (n:=x.2.length) (by omega)
 simp only [recB,aG_,List.length_append,List.map_cons,List.map_nil,List.flatten_cons,List.flatten_nil,List.length_nil,List.length_cons] at a ⊢
 omega
theorem gz_ {ver i:Int} {x:Int × List UInt8} (h1:je_ ver) (h2:je_ i) (h3:je_ x.1) (h4:x.2.length≤1000) {w:World} {K:Value→World→Prop} (hK:∀w',Grow w w'→K (.string (str (recB ver i x))) w'):aa_ PR F.b5_ ⟨[.int .i64 ver,.int .i64 i,plV x]⟩ w K:=by
 have hl:∀n∈[ver,i,x.1],je_ n:=λn hn=>by simp at hn;rcases hn with rfl | rfl | rfl;exact h1;exact h2;exact h3
 have a:=b__ (l:=[ver,i,x.1]) hl
 have b:=am_ (n:=x.2.length) (by omega)
 simp only [List.length_cons,List.length_nil] at a
 have hpt:(aG_ [x.2]).length≤1008:=by
  simp only [aG_,List.map_cons,List.map_nil,List.flatten_cons,List.flatten_nil,List.length_append,List.length_nil];omega
 have e66:(⟨#[66]⟩:ByteArray)++str (bX_ [ver,i,x.1])=str ([66]++bX_ [ver,i,x.1]):=by rw [← aC_];rfl
 have z1:1+(str (bX_ [ver,i,x.1])).size≤9223372036854775807:=by rw [ai_];omega
 have z2:(str ([66]++bX_ [ver,i,x.1])).size+(str (aG_ [x.2])).size≤9223372036854775807:=by rw [ai_,ai_,List.length_append];simp only [List.length_cons,List.length_nil];omega
 refine b5_ ver i x.1 (str x.2) S0 K w λl0 hl0=>⟨λl1 hl1=>⟨λw0 hF0=>?_,λl3 hl3 w4 hF4=>?_⟩,λl4 hl4 l5 hl5 w7 hF7=>?_⟩
 ·refine dE_ hl (by simp) (hF0.sl 1 rfl) λw1 g1=>⟨_,rfl,hF0.after g1,z1,λl2 hl2 w2 hF2=>?_⟩
  rw [e66]
  refine cC_ (xs:=[x.2]) (hF2.sl 2 rfl) rfl (by simp) (by omega) λw3 g3=>⟨_,rfl,hF2.after g3,z2,?_⟩
  rw [aC_]
  exact hK w3 (hF2.after g3).gr
 ·refine dE_ hl (by simp) (hF4.sl 1 rfl) λw1 g1=>⟨_,rfl,hF4.after g1,z1,?_⟩
  rw [e66]
  have hF1:=hF4.after g1
  refine cC_ (xs:=[x.2]) (hF1.sl 2 rfl) rfl (by simp) (by omega) λw3 g3=>⟨_,rfl,hF1.after g3,z2,?_⟩
  rw [aC_]
  exact hK w3 (hF1.after g3).gr
 ·refine dE_ hl (by simp) (hF7.sl 2 rfl) λw1 g1=>⟨_,rfl,hF7.after g1,z1,?_⟩
  rw [e66]
  have hF1:=hF7.after g1
  refine cC_ (xs:=[x.2]) (hF1.sl 1 rfl) rfl (by simp) (by omega) λw3 g3=>⟨_,rfl,hF1.after g3,z2,?_⟩
  rw [aC_]
  exact hK w3 (hF1.after g3).gr
end Go.Vc
