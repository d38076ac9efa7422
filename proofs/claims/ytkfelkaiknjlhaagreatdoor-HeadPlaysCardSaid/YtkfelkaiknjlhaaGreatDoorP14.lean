/-
  A part of the proof of the statement HeadPlaysCardSaid, in Lean: Hp3, MirH2, Aw2, Cn, Kp1, MirR1, Fu1, Hp4, Hp5, Hp6, RoH. By an AI agent.
-/
import Derived.Test.YtkfelkaiknjlhaaGreatDoorP13
import Derived.Test.YtkfelkaiknjlhaaGreatDoorP02
import Derived.Test.YtkfelkaiknjlhaaGreatDoorP07
import Derived.Test.YtkfelkaiknjlhaaGreatDoorP10
import Derived.Test.YtkfelkaiknjlhaaGreatDoorP06
import Derived.Test.YtkfelkaiknjlhaaGreatDoorShelfC
import Derived.Maps.OwnSet
set_option linter.unusedSimpArgs false
set_option linter.unusedVariables false
set_option maxRecDepth 1000000
namespace Go.Vc
open Go Go.MapKept
theorem aJ_.l6_ {S:Nat→Prop} {N:Nat} {w w':World} {x:PubS} (h:aJ_ N w x) (g:Chg S w w') (hS:∀k,k<w.heap.size→S k→x.ex k) (hn:∀k,S k→¬x.reg k) {e:Nat→Prop} (he:∀k,e k→k<w'.heap.size) (he2:∀k,k<w.heap.size→e k→x.ex k):aJ_ N w' { x with ex:=λk=>x.ex k∨e k }:=by
 obtain ⟨n,hm⟩:=h.map
 refine ⟨g.get h.blk λe=>hn _ e (.inl rfl),h.jrn.keep g λk e hk=>hn k e (.inr (.inr hk)),⟨n,hm.keep g λe=>hn _ e (.inr (.inl rfl))⟩,λk v hr=>(h.kept k v hr).keep g (λk hk e=>.inr (hS k hk e)) (λk hk e=>?_) (Nat.le_refl _) (λ_ h=>h),h.has,h.com_le,h.last_le,h.room,h.each1,h.each2,h.lo,λk hk=>hk.elim (λhk=>Nat.lt_of_lt_of_le (h.exlt k hk) g.size) (he k),h.only,h.rep⟩
 rcases e with e | e | e
 ·exact .inl e
 ·exact .inr e
 ·exact .inr (he2 k hk e)
structure Sep (N:Nat) (L:Nat→Prop) (w:World) (k0:Nat) (s t:ActS) (now:Nat):Prop where
 hd:a9_ N w k0 s now
 ac:a0_ N w t
 st:∀k,s.x.reg k→t.x.ex k
 ts:∀k,t.x.reg k→s.x.ex k
 off:∀k,s.x.reg k→¬t.x.reg k
 hx:t.x.ex k0∧t.x.ex s.bn∧s.x.ex t.bn
 ho:¬t.x.reg k0∧¬t.x.reg s.bn∧¬t.x.reg s.a∧¬s.x.reg t.bn∧¬s.x.reg t.a
 ne:k0≠t.bn∧k0≠t.a∧s.bn≠t.bn∧s.bn≠t.a∧s.a≠t.bn
 kp:∀k,L k→k<w.heap.size∧¬s.x.reg k∧¬t.x.reg k∧k≠k0∧k≠s.bn∧k≠t.bn
theorem Sep.grow {N:Nat} {L:Nat→Prop} {w w':World} {k0:Nat} {s t:ActS} {now:Nat} (h:Sep N L w k0 s t now) (g:Grow w w'):Sep N L w' k0 s t now:=⟨h.hd.grow g,h.ac.grow g,h.st,h.ts,h.off,h.hx,h.ho,h.ne,λk hk=>⟨Nat.lt_of_lt_of_le (h.kp k hk).1 g.size,(h.kp k hk).2⟩⟩
theorem Sep.head {N:Nat} {L:Nat→Prop} {w w':World} {k0:Nat} {s t s':ActS} {now now':Nat} (h:Sep N L w k0 s t now) (hs:a9_ N w' k0 s' now') (g:Chg (λk=>k=k0∨k=s.bn∨s.x.reg k) w w') (ea:s'.a=s.a) (eb:s'.bn=s.bn) (ex:s'.x.ex=s.x.ex) (hr:∀k,s'.x.reg k→s.x.reg k∨w.heap.size≤k) :
  Sep N L w' k0 s' ⟨{ t.x with ex:=λk=>t.x.ex k∨s'.x.reg k },t.a,t.bn,t.reps⟩ now':=by
 have hta:=ak_ h.ac.blk
 have htb:=ak_ h.ac.row
 have hk0:=ak_ h.hd.blk
 refine ⟨hs,⟨g.get h.ac.blk ?_,g.get h.ac.row ?_,h.ac.pub.l6_ g ?_ ?_ (λk hk=>hs.act.pub.lt k hk) ?_,h.ac.la,h.ac.ln,h.ac.n1,h.ac.n4,h.ac.off,.inl h.ac.ex⟩,λk hk=>.inr hk,λk hk=>by rw [ex];exact h.ts k hk,?_,⟨.inl h.hx.1,.inl (by rw [eb];exact h.hx.2.1),by rw [ex];exact h.hx.2.2⟩,⟨h.ho.1,by rw [eb];exact h.ho.2.1,by rw [ea];exact h.ho.2.2.1,?_,?_⟩,by rw [ea,eb];exact h.ne,λk hk=>⟨Nat.lt_of_lt_of_le (h.kp k hk).1 g.size,λe=>(hr k e).elim (h.kp k hk).2.1 λe=>by have:=(h.kp k hk).1;omega,(h.kp k hk).2.2.1,(h.kp k hk).2.2.2.1,by rw [eb];exact (h.kp k hk).2.2.2.2.1,(h.kp k hk).2.2.2.2.2⟩⟩
 ·rintro (e | e | e)
  ·exact h.ne.2.1 e.symm
  ·exact h.ne.2.2.2.1 e.symm
  ·exact h.ho.2.2.2.2 e
 ·rintro (e | e | e)
  ·exact h.ne.1 e.symm
  ·exact h.ne.2.2.1 e.symm
  ·exact h.ho.2.2.2.1 e
 ·rintro k - (rfl | rfl | e)
  ·exact h.hx.1
  ·exact h.hx.2.1
  ·exact h.st k e
 ·rintro k (rfl | rfl | e)
  ·exact h.ho.1
  ·exact h.ho.2.1
  ·exact h.off k e
 ·intro k hk e
  rcases hr k e with e | e
  ·exact h.st k e
  ·omega
 ·intro k e e2
  have e2:t.x.reg k:=e2
  rcases hr k e with e | e
  ·exact h.off k e e2
  ·have:=h.ac.pub.lt k e2;omega
 ·intro e
  rcases hr _ e with e | e
  ·exact h.ho.2.2.2.1 e
  ·exact absurd (show w.heap.size≤t.bn from e) (by omega)
 ·intro e
  rcases hr _ e with e | e
  ·exact h.ho.2.2.2.2 e
  ·exact absurd (show w.heap.size≤t.a from e) (by omega)
theorem Sep.act {N:Nat} {L:Nat→Prop} {w w':World} {k0:Nat} {s t t':ActS} {now:Nat} (h:Sep N L w k0 s t now) (ht:a0_ N w' t') (g:Chg (λk=>k=t.bn∨t.x.reg k) w w') (ea:t'.a=t.a) (eb:t'.bn=t.bn) (ex:t'.x.ex=t.x.ex) (hr:∀k,t'.x.reg k→t.x.reg k∨w.heap.size≤k) :
  Sep N L w' k0 ⟨{ s.x with ex:=λk=>s.x.ex k∨t'.x.reg k },s.a,s.bn,s.reps⟩ t' now:=by
 have hta:=ak_ h.hd.act.blk
 have htb:=ak_ h.hd.act.row
 have hk0:=ak_ h.hd.blk
 refine ⟨⟨g.get h.hd.blk ?_,⟨g.get h.hd.act.blk ?_,g.get h.hd.act.row ?_,h.hd.act.pub.l6_ g ?_ ?_ (λk hk=>ht.pub.lt k hk) ?_,h.hd.act.la,h.hd.act.ln,h.hd.act.n1,h.hd.act.n4,h.hd.act.off,.inl h.hd.act.ex⟩,h.hd.lo,h.hd.off,.inl h.hd.ex⟩,ht,λk hk=>by rw [ex];exact h.st k hk,λk hk=>.inr hk,?_,⟨by rw [ex];exact h.hx.1,by rw [ex];exact h.hx.2.1,.inl (by rw [eb];exact h.hx.2.2)⟩,⟨?_,?_,?_,by rw [eb];exact h.ho.2.2.2.1,by rw [ea];exact h.ho.2.2.2.2⟩,by rw [ea,eb];exact h.ne,λk hk=>⟨Nat.lt_of_lt_of_le (h.kp k hk).1 g.size,(h.kp k hk).2.1,λe=>(hr k e).elim (h.kp k hk).2.2.1 λe=>by have:=(h.kp k hk).1;omega,(h.kp k hk).2.2.2.1,(h.kp k hk).2.2.2.2.1,by rw [eb];exact (h.kp k hk).2.2.2.2.2⟩⟩
 ·rintro (e | e)
  ·exact h.ne.1 e
  ·exact h.ho.1 e
 ·rintro (e | e)
  ·exact h.ne.2.2.2.2 e
  ·exact h.ho.2.2.1 e
 ·rintro (e | e)
  ·exact h.ne.2.2.1 e
  ·exact h.ho.2.1 e
 ·rintro k - (rfl | e)
  ·exact h.hx.2.2
  ·exact h.ts k e
 ·rintro k (rfl | e)
  ·exact h.ho.2.2.2.1
  ·exact λe2=>h.off k e2 e
 ·intro k hk e
  rcases hr k e with e | e
  ·exact h.ts k e
  ·omega
 ·intro k e e2
  have e:s.x.reg k:=e
  rcases hr k e2 with e2 | e2
  ·exact h.off k e e2
  ·have:=h.hd.act.pub.lt k e;omega
 all_goals
  intro e
  rcases hr _ e with e | e
 ·exact h.ho.1 e
 ·omega
 ·exact h.ho.2.1 e
 ·exact absurd (show w.heap.size≤s.bn from e) (by omega)
 ·exact h.ho.2.2.1 e
 ·exact absurd (show w.heap.size≤s.a from e) (by omega)
theorem aJ_.low {N N':Nat} {w:World} {x:PubS} (h:aJ_ N' w x) (hN:N≤N'):aJ_ N w x:=⟨h.blk,h.jrn,h.map,h.kept,h.has,h.com_le,h.last_le,h.room,h.each1,h.each2,λk hk=>Nat.le_trans hN (h.lo k hk),h.exlt,h.only,h.rep⟩
theorem Sep.init {N:Nat} {w1 w:World} {k0:Nat} {s t:ActS} (hd:a9_ N w1 k0 s 0) (g:Grow w1 w) (ht:a0_ w1.heap.size w t) (h0:t.x.last=0) (hN:N≤w1.heap.size) :
  Sep N (λ_=>False) w k0 ⟨{ s.x with ex:=λk=>s.x.ex k∨(t.x.reg k∨k=t.bn) },s.a,s.bn,s.reps⟩ ⟨{ t.x with ex:=λk=>k=t.bn∨s.x.reg k∨k=k0∨k=s.bn },t.a,t.bn,t.reps⟩ 0:=by
 have hk0:=ak_ hd.blk
 have hsa:=ak_ hd.act.blk
 have hsb:=ak_ hd.act.row
 have hta:=ht.la
 have htb:=ht.ln
 have htb2:=ak_ ht.row
 have hz:=g.size
 have hp:aJ_ N w { s.x with ex:=λk=>s.x.ex k∨(t.x.reg k∨k=t.bn) }:=hd.act.pub.l6_ g (λ_ _ e=>e.elim) (λ_ e=>e.elim) (λk hk=>hk.elim (ht.pub.lt k) (λe=>by omega)) λk hk e=>by
  rcases e with e | e
  ·have:=ht.pub.lo k e;omega
  ·omega
 have hq:aJ_ N w { t.x with ex:=λk=>k=t.bn∨s.x.reg k∨k=k0∨k=s.bn }:=(ht.pub.low hN).sF_ h0 λk hk=>by
  rcases hk with e | e | e | e
  ·omega
  ·have:=hd.act.pub.lt k e;omega
  ·omega
  ·omega
 have up:∀k,t.x.reg k→w1.heap.size≤k:=λk e=>ht.pub.lo k e
 have lt:∀k,s.x.reg k→k<w1.heap.size:=λk e=>hd.act.pub.lt k e
 refine ⟨⟨Grow.get g hd.blk,⟨Grow.get g hd.act.blk,Grow.get g hd.act.row,hp,hd.act.la,hd.act.ln,hd.act.n1,hd.act.n4,hd.act.off,.inl hd.act.ex⟩,hd.lo,hd.off,.inl hd.ex⟩,⟨ht.blk,ht.row,hq,by show N≤t.a;omega,by show N≤t.bn;omega,ht.n1,ht.n4,ht.off,.inl rfl⟩,λk e=>.inr (.inl e),λk e=>.inr (.inl e),λk e e2=>?_,⟨.inr (.inr (.inl rfl)),.inr (.inr (.inr rfl)),.inr (.inr rfl)⟩,⟨λe=>?_,λe=>?_,λe=>?_,λe=>?_,λe=>?_⟩,?_,λk e=>e.elim⟩
 ·have:=up k e2;have:=lt k e;omega
 ·have:=up _ e;omega
 ·have:=up _ e;simp only [] at this;omega
 ·have:=up _ e;simp only [] at this;omega
 ·have:=lt _ e;simp only [] at this;omega
 ·have:=lt _ e;simp only [] at this;omega
 ·simp only [];omega
theorem Sep.with {N:Nat} {L:Nat→Prop} {w w':World} {k0:Nat} {s t:ActS} {now:Nat} (h:Sep N L w k0 s t now) (g:Grow w w') {L':Nat→Prop} (hL:∀k,L' k→w.heap.size≤k∧k<w'.heap.size):Sep N L' w' k0 s t now:=by
 have hk0:=ak_ h.hd.blk
 have hsb:=ak_ h.hd.act.row
 have htb:=ak_ h.ac.row
 exact ⟨h.hd.grow g,h.ac.grow g,h.st,h.ts,h.off,h.hx,h.ho,h.ne,λk hk=>⟨(hL k hk).2,λe=>by have:=h.hd.act.pub.lt k e;have:=hL k hk;omega,λe=>by have:=h.ac.pub.lt k e;have:=hL k hk;omega,by have:=hL k hk;omega,by have:=hL k hk;omega,by have:=hL k hk;omega⟩⟩
theorem Sep.none {N:Nat} {L:Nat→Prop} {w:World} {k0:Nat} {s t:ActS} {now:Nat} (h:Sep N L w k0 s t now):Sep N (λ_=>False) w k0 s t now:=⟨h.hd,h.ac,h.st,h.ts,h.off,h.hx,h.ho,h.ne,λk e=>e.elim⟩
theorem oC_ {reps:List Rp} {i:Nat} {v:Value} (h:(reps.flatMap rpC)[i]? = some v) (z:ByteArray):v≠.string z:=by
 rintro rfl
 obtain ⟨r,_,hr⟩:=List.mem_flatMap.1 (List.mem_of_getElem? h)
 simp [rpC] at hr
theorem Sl.jY_ {w w':World} {b:Nat} {reps:List Rp} {T:TypeId} (hb:w.heap[b]? = some (.cells (reps.flatMap rpC).toArray T (0,0))) (g:Chg (· = b) w w') {q:Option Addr} {xs:List Value} (h:Sl w q xs) (hx:xs=[]∨∃(i:Nat) (z:ByteArray),xs[i]? = some (Value.string z)):Sl w' q xs:=by
 rcases hx with rfl | ⟨i,z,hi⟩
 ·exact .nil _ _
 rcases h with rfl | ⟨b',o,rfl,h⟩
 ·cases hi
 refine Sl.keep (.inr ⟨b',o,rfl,h⟩) g λa ha e=>?_
 cases ha
 have e':b'=b:=e
 subst e'
 obtain ⟨cs,T',fz,hb',hc⟩:=h
 rw [hb] at hb'
 injection hb' with hb'
 injection hb' with e1 e2 e3
 subst e1
 have hl:i<xs.length:=by
  rcases Nat.lt_or_ge i xs.length with hl | hl
  ·exact hl
  ·simp [List.getElem?_eq_none hl] at hi
 have:=hc i hl
 rw [hi,List.getElem?_toArray] at this
 exact oC_ this z rfl
theorem b6_.jY_ {w w':World} {b:Nat} {reps:List Rp} {T:TypeId} (hb:w.heap[b]? = some (.cells (reps.flatMap rpC).toArray T (0,0))) (g:Chg (· = b) w w') {q:Option Addr} {outs:List (Int × MsgL)} (h:b6_ w q outs):b6_ w' q outs:=by
 obtain ⟨ps,hl,hs,hp⟩:=h
 refine ⟨ps,hl,hs.jY_ hb g ?_,λk hk hk2=>(hp k hk hk2).jY_ hb g ?_⟩
 ·cases outs with
  | nil=>exact .inl rfl
  | cons o r=>
   cases ps with
   | nil=>cases hl
   | cons p ps=>exact .inr ⟨4,str o.2.text,by rw [List.zip_cons_cons,List.flatMap_cons];rfl⟩
 ·cases hpr:outs[k].2.proof with
  | nil=>exact .inl rfl
  | cons p r=>exact .inr ⟨0,str p,rfl⟩
structure Alike (s t:ActS):Prop where
 recs:s.x.recs=t.x.recs
 last:s.x.last=t.x.last
 com:s.x.com=t.x.com
 man:s.x.man=t.x.man
 reps:s.reps=t.reps
 each:s.x.each=t.x.each
 dn:∀r∈s.reps,0≤r.done
theorem Alike.tgt {s t:ActS} (h:Alike s t):s.tgt=t.tgt:=by unfold ActS.tgt;rw [h.last,h.com]
theorem Alike.room {s t:ActS} (h:Alike s t):s.x.room=t.x.room:=by unfold PubS.room;rw [h.recs]
theorem p1_.uniq {nodes:Int} {each:Nat} {l:List (Int × Int)} {c c':Int} (h:p1_ nodes each l c) (h':p1_ nodes each l c'):c=c':=by
 rcases h with ⟨a,b⟩ | ⟨a,b,d⟩ | ⟨a,b,d,e⟩ <;> rcases h' with ⟨a',b'⟩ | ⟨a',b',d'⟩ | ⟨a',b',d',e'⟩ <;> first | (exact absurd b' b) | (exact absurd b b') | omega
theorem ey_.uniq {x y:PubS} (e1:x.each=y.each) {nodes:Int} {l:List (Int × Int)} {c c':Int} (h:ey_ x nodes l c) (h':ey_ y nodes l c'):c=c':=by
 unfold ey_ at h h'
 rw [e1] at h
 rcases h with h | ⟨h,mn,list,h2,h3,_⟩ <;> rcases h' with h' | ⟨h',mn',list',h2',h3',_⟩
 ·exact h.uniq h'
 ·rcases h with ⟨a,b⟩ | ⟨a,b,d⟩ | ⟨a,b,d,e⟩
  ·exact absurd h2' b
  ·omega
  ·omega
 ·rcases h' with ⟨a,b⟩ | ⟨a,b,d⟩ | ⟨a,b,d,e⟩
  ·exact absurd h2 b
  ·omega
  ·omega
 ·omega
theorem mr_.rA_ {x y:PubS} (e1:x.each=y.each) (e2:x.last=y.last) (e3:x.recs=y.recs) (he:1≤x.each) {nodes:Int} {l:List (Int × Int)} {mn:Man} {list:List (List UInt8)} {c:Int} (h:mr_ x nodes l mn list) (h':ey_ y nodes l c):False:=by
 obtain ⟨a1,a2,a3,a4,a5,a6⟩:=h
 unfold ey_ at h'
 have er:x.room=y.room:=by unfold PubS.room;rw [e3]
 rw [← e1,← e2,← er] at h'
 rcases h' with (⟨a,b⟩ | ⟨a,b,d⟩ | ⟨a,b,d,e⟩) | ⟨_,mn',list',b2,b3,b4,b5⟩
 ·exact b a1
 ·omega
 ·have:=e _ _ _ a3;omega
 ·obtain ⟨rfl,rfl⟩:=a3.uniq he b4
  exact b5 ⟨a5,a6⟩
theorem ey_.small {x:PubS} {nodes:Int} {l:List (Int × Int)} {c:Int} (h:ey_ x nodes l c):0≤c∧c≤100:=by
 rcases h with (⟨a,b⟩ | ⟨a,b,d⟩ | ⟨a,b,d,e⟩) | ⟨a,_⟩ <;> omega
theorem mr_.uniq {x y:PubS} (e1:x.each=y.each) (e2:x.last=y.last) (he:1≤x.each) {nodes:Int} {l:List (Int × Int)} {mn mn':Man} {list list':List (List UInt8)} (h:mr_ x nodes l mn list) (h':mr_ y nodes l mn' list'):mn=mn'∧list=list':=by
 obtain ⟨a1,a2,a3,a4,a5,a6⟩:=h
 obtain ⟨b1,b2,b3,b4,b5,b6⟩:=h'
 rw [← e1,← e2] at b3
 exact a3.uniq he b3
theorem i1_ {r:Rp} {kind ver:Int} (h:0≤r.done) (hv:0≤ver):0≤(e1_ r kind ver).done:=by
 unfold e1_
 split
 ·exact hv
 ·split
  ·show 0≤(if ver>r.done then ver else r.done)
   split
   ·exact hv
   ·exact h
  ·split
   ·exact h
   ·split <;> exact h
theorem l7_ {r:Rp} {kind ver now:Int} (h:0≤r.done) (hv:0≤ver):0≤(bB_ r kind ver now).done:=by
 unfold bB_
 split
 ·exact i1_ h hv
 ·exact i1_ h hv
theorem rt_ {l:List UInt8} {a c:Nat} (h:shL l a=.inr c):c≤100:=by
 unfold shL at h
 split at h
 ·cases h
 ·rename_i hg
  cases h
  rcases e2_ _ _ _ _ hg with h | h <;> omega
theorem sz_ {l:List UInt8} {a c:Nat} (h:txL l a=.inr c):c≤100:=by
 unfold txL at h
 split at h
 ·rename_i hg;cases h;exact rt_ hg
 ·split at h
  ·cases h;omega
  ·cases h
def rsOk (s:RS):Prop:=∀c,s.2=some c→c≤100
theorem oA_ {l:List UInt8} {s:RS} (h:rsOk s):rsOk (rsS l s).2:=by
 unfold rsS
 split
 ·exact h
 ·split
  ·intro c e;cases e
  ·rename_i hg;intro c e;cases e;exact rt_ hg
theorem rw_ {l:List UInt8} {s:RS} (h:rsOk s):rsOk (rsT l s).2:=by
 unfold rsT
 split
 ·exact h
 ·split
  ·intro c e;cases e
  ·rename_i hg;intro c e;cases e;exact sz_ hg
theorem oy_ {l:List UInt8} : ∀(k:Nat) {s:RS},rsOk s→rsOk (rsTs l k s).2
 | 0,s,h=>h
 | k+1,s,h=>rw_ (oy_ k h)
theorem sJ_ (l:List UInt8):rsOk (rs0 l):=by
 unfold rs0
 split
 ·intro c e;cases e;omega
 ·intro c e;cases e
theorem nx_ {l:List UInt8} {c:Nat} (h:hP_ l=.inr c):c≤100:=by
 unfold hP_ at h
 simp only [] at h
 split at h
 ·cases h;omega
 ·split at h
  ·rename_i hg
   cases h
   exact oy_ _ (oA_ (rw_ (oA_ (oA_ (sJ_ l))))) _ hg
  ·split at h
   ·cases h;omega
   ·split at h
    ·cases h
    ·cases h;omega
theorem qG_ (l:List UInt8):l1_ l≤100:=by
 unfold l1_
 split
 ·decide
 ·split
  ·decide
  ·split <;> decide
theorem pi_ {S:List UInt8→Nat} {l:List UInt8} {c:Nat} (h:cJ_ S l=.inr c):c≤100:=by
 unfold cJ_ at h
 split at h
 ·rename_i hg
  cases h
  unfold gI_ at hg
  split at hg
  ·cases hg;exact qG_ l
  ·split at hg
   ·cases hg;omega
   ·cases hg
 ·exact nx_ h
end Go.Vc
namespace Go.Vc
open Go
theorem a__ (m0:Int) (y1:Option Addr) (ly1:Nat) (cy1:Nat) (S:SP) (K:KP) (w:World) (h:aa_ PR 6 #[] w λv0 w0=>∃b0,v0=.bool b0∧(b0=true→Fs S w [] w0∧aa_ PR 7 #[.slice y1 ly1 cy1] w0 λv1 w1=>∃b1,v1=.bool b1∧(b1=true→Fs S w [] w1∧K (.bool true) w1)∧(b1=false→Fs S w [] w1∧aa_ PR 8 #[Iv (IntKind.wrap .i64 ((1:Int)+(Int.tmod (IntKind.wrap .i64 m0) 4)))] w1 λv2 w2=>∃q0 v3,v2=.tuple #[.pointer q0,v3]∧Fs S w [] w2∧aa_ PR 10 #[Iv 0] w2 λv4 w3=>∃q1,v4=.pointer q1∧Fs S w [] w3∧aa_ PR 9 #[.pointer q1,Iv 10] w3 λv5 w4=>∃q2 v6,v5=.tuple #[.pointer q2,v6]∧Fs S w [] w4∧(v3=.nilIface→(v6=.nilIface→aa_ PR 11 #[.pointer q2,Iv (IntKind.wrap .i64 ((1:Int)+(Int.tmod (IntKind.wrap .i64 m0) 4)))] w4 λv7 w5=>∃q3 v8,v7=.tuple #[.pointer q3,v8]∧Fs S w [] w5∧(v8=.nilIface→∃I0:Int→Int→Nat→World→Prop,(∃l0,I0 0 0 l0 w5)∧∀n0 n1,∀D0:Nat→Value,∀l1 w6,I0 n0 n1 l1 w6→Fs S w [] w6→(n1<(ly1:Int)→Dr y1 λa0=>(0:Int)≤n1∧n1<(ly1:Int)∧Dr (some (Addr.add a0 (Int.toNat n1*11))) λa1=>∃n2,World.cell? w6 (Addr.add a1 0)=some (Iv n2)∧∃n3,World.cell? w6 (Addr.add a1 1)=some (Iv n3)∧∃q4 l2 l3,World.cell? w6 (Addr.add a1 2)=some (.slice q4 l2 l3)∧∃n4,World.cell? w6 (Addr.add a1 3)=some (Iv n4)∧∃n5,World.cell? w6 (Addr.add a1 4)=some (Iv n5)∧∃n6,World.cell? w6 (Addr.add a1 5)=some (Iv n6)∧∃s0,World.cell? w6 (Addr.add a1 6)=some (.string s0)∧∃q5 l4 l5,World.cell? w6 (Addr.add a1 7)=some (.slice q5 l4 l5)∧∃s1,World.cell? w6 (Addr.add a1 8)=some (.string s1)∧∃q6 l6 l7,World.cell? w6 (Addr.add a1 9)=some (.slice q6 l6 l7)∧∃n7,World.cell? w6 (Addr.add a1 10)=some (Iv n7)∧∀l8,w6.heap.size≤l8→∃I1:Int→World→Prop,((n2=0→∀w7,Fr S w w6 [l8] [⟨l8,#[Iv n2,Iv n3,.slice q4 l2 l3,Iv n4,Iv n5,Iv n6,.string s0,.slice q5 l4 l5,.string s1,.slice q6 l6 l7,Iv n7],46,true⟩] w7→let B0:Blk:=⟨l8,#[Iv n2,Iv n3,.slice q4 l2 l3,Iv n4,Iv n5,Iv n6,.string s0,.slice q5 l4 l5,.string s1,.slice q6 l6 l7,Iv n7],46,true⟩;aa_ PR 12 #[.pointer q0,Iv n3,.slice q4 l2 l3] w7 λv9 w8=>∃n8 v10,v9=.tuple #[Iv n8,v10]∧Fs S w [B0] w8∧aa_ PR 13 #[.pointer q2,Iv n3,.slice q4 l2 l3] w8 λv11 w9=>∃n9 v12,v11=.tuple #[Iv n9,v12]∧Fs S w [B0] w9∧(n8=n9→aa_ PR 14 #[v10] w9 λv13 w10=>∃n10,v13=Iv n10∧Fs S w [B0] w10∧aa_ PR 14 #[v12] w10 λv14 w11=>∃n11,v14=Iv n11∧Fs S w [B0] w11∧(n10=n11→I1 n0 w11)∧(¬(n10=n11)→K (.bool false) w11))∧(¬(n8=n9)→K (.bool false) w9))∧(¬(n2=0)→(n2=1→∀w12,Fr S w w6 [l8] [⟨l8,#[Iv n2,Iv n3,.slice q4 l2 l3,Iv n4,Iv n5,Iv n6,.string s0,.slice q5 l4 l5,.string s1,.slice q6 l6 l7,Iv n7],46,true⟩] w12→let B1:Blk:=⟨l8,#[Iv n2,Iv n3,.slice q4 l2 l3,Iv n4,Iv n5,Iv n6,.string s0,.slice q5 l4 l5,.string s1,.slice q6 l6 l7,Iv n7],46,true⟩;aa_ PR 15 #[.agg #[Iv n4,Iv n5,Iv n6,.string s0,.slice q5 l4 l5]] w12 λv15 w13=>∃s2 v16,v15=.tuple #[.string s2,v16]∧Fs S w [B1] w13∧(v16=.nilIface→aa_ PR 16 #[.pointer q0,Iv n3,.string s2] w13 λv17 w14=>∃q7 l9 l10 v18,v17=.tuple #[.slice q7 l9 l10,v18]∧Fs S w [B1] w14∧(n3≥1→(n3≤IntKind.wrap .i64 ((1:Int)+(Int.tmod (IntKind.wrap .i64 m0) 4))→aa_ PR 17 #[.pointer q3,Iv n3,.agg #[Iv n4,Iv n5,Iv n6,.string s0,.slice q5 l4 l5],Iv n0] w14 λv19 w15=>∃q8 l11 l12 v20,v19=.tuple #[.slice q8 l11 l12,v20]∧Fs S w [B1] w15∧(v18=.nilIface→aa_ PR 18 #[.slice q7 l9 l10,.slice q8 l11 l12] w15 λv21 w16=>∃b2,v21=.bool b2∧(b2=true→Fs S w [B1] w16∧I1 n0 w16)∧(b2=false→Fs S w [B1] w16∧K (.bool false) w16))∧(∀x0 v22,v18=.iface x0 v22→K (.bool false) w15)∧(v18=.nilIface∨∃l13 v23,v18=.iface l13 v23))∧(¬(n3≤IntKind.wrap .i64 ((1:Int)+(Int.tmod (IntKind.wrap .i64 m0) 4)))→(v18=.nilIface→aa_ PR 18 #[.slice q7 l9 l10,.slice none 0 0] w14 λv24 w17=>∃b3,v24=.bool b3∧(b3=true→Fs S w [B1] w17∧I1 n0 w17)∧(b3=false→Fs S w [B1] w17∧K (.bool false) w17))∧(∀x1 v25,v18=.iface x1 v25→K (.bool false) w14)∧(v18=.nilIface∨∃l14 v26,v18=.iface l14 v26)))∧(¬(n3≥1)→(v18=.nilIface→aa_ PR 18 #[.slice q7 l9 l10,.slice none 0 0] w14 λv27 w18=>∃b4,v27=.bool b4∧(b4=true→Fs S w [B1] w18∧I1 n0 w18)∧(b4=false→Fs S w [B1] w18∧K (.bool false) w18))∧(∀x2 v28,v18=.iface x2 v28→K (.bool false) w14)∧(v18=.nilIface∨∃l15 v29,v18=.iface l15 v29)))∧(∀x3 v30,v16=.iface x3 v30→∃l16,l16<l1∧I0 n0 (IntKind.wrap .i64 (n1+1)) l16 w13)∧(v16=.nilIface∨∃l17 v31,v16=.iface l17 v31))∧(¬(n2=1)→(n2=2→∀w19,Fr S w w6 [l8] [⟨l8,#[Iv n2,Iv n3,.slice q4 l2 l3,Iv n4,Iv n5,Iv n6,.string s0,.slice q5 l4 l5,.string s1,.slice q6 l6 l7,Iv n7],46,true⟩] w19→let B2:Blk:=⟨l8,#[Iv n2,Iv n3,.slice q4 l2 l3,Iv n4,Iv n5,Iv n6,.string s0,.slice q5 l4 l5,.string s1,.slice q6 l6 l7,Iv n7],46,true⟩;aa_ PR 19 #[.pointer q0] w19 λv32 w20=>∃q9 l18 l19 v33,v32=.tuple #[.slice q9 l18 l19,v33]∧Fs S w [B2] w20∧aa_ PR 20 #[.pointer q3,Iv (IntKind.wrap .i64 (n0+1))] w20 λv34 w21=>∃q10 l20 l21 v35,v34=.tuple #[.slice q10 l20 l21,v35]∧Fs S w [B2] w21∧aa_ PR 14 #[v35] w21 λv36 w22=>∃n12,v36=Iv n12∧Fs S w [B2] w22∧(n12=7→aa_ PR 14 #[v33] w22 λv37 w23=>∃n13,v37=Iv n13∧Fs S w [B2] w23∧aa_ PR 14 #[.nilIface] w23 λv38 w24=>∃n14,v38=Iv n14∧Fs S w [B2] w24∧(n13=n14→aa_ PR 18 #[.slice q9 l18 l19,.slice q10 l20 l21] w24 λv39 w25=>∃b5,v39=.bool b5∧(b5=true→Fs S w [B2] w25∧I1 (IntKind.wrap .i64 (n0+1)) w25)∧(b5=false→Fs S w [B2] w25∧K (.bool false) w25))∧(¬(n13=n14)→K (.bool false) w24))∧(¬(n12=7)→aa_ PR 14 #[v33] w22 λv40 w26=>∃n15,v40=Iv n15∧Fs S w [B2] w26∧aa_ PR 14 #[v35] w26 λv41 w27=>∃n16,v41=Iv n16∧Fs S w [B2] w27∧(n15=n16→aa_ PR 18 #[.slice q9 l18 l19,.slice q10 l20 l21] w27 λv42 w28=>∃b6,v42=.bool b6∧(b6=true→Fs S w [B2] w28∧I1 (IntKind.wrap .i64 (n0+1)) w28)∧(b6=false→Fs S w [B2] w28∧K (.bool false) w28))∧(¬(n15=n16)→K (.bool false) w27)))∧(¬(n2=2)→(n2=5→∀w29,Fr S w w6 [l8] [⟨l8,#[Iv n2,Iv n3,.slice q4 l2 l3,Iv n4,Iv n5,Iv n6,.string s0,.slice q5 l4 l5,.string s1,.slice q6 l6 l7,Iv n7],46,true⟩] w29→let B3:Blk:=⟨l8,#[Iv n2,Iv n3,.slice q4 l2 l3,Iv n4,Iv n5,Iv n6,.string s0,.slice q5 l4 l5,.string s1,.slice q6 l6 l7,Iv n7],46,true⟩;aa_ PR 21 #[.string s1] w29 λv43 w30=>∃n17 n18 n19 s3 q11 l22 l23 v44,v43=.tuple #[.agg #[Iv n17,Iv n18,Iv n19,.string s3,.slice q11 l22 l23],v44]∧Fs S w [B3] w30∧∀l24,w30.heap.size≤l24→∀w31,Fr S w w30 [l24] [B3] w31→aa_ PR 16 #[.pointer q0,Iv n3,.string s1] w31 λv45 w32=>∃q12 l25 l26 v46,v45=.tuple #[.slice q12 l25 l26,v46]∧Fs S w [B3] w32∧(n3≥1→(n3≤IntKind.wrap .i64 ((1:Int)+(Int.tmod (IntKind.wrap .i64 m0) 4))→(v44=.nilIface→(n3<1→(v46=.nilIface→(v44=.nilIface→K (.bool true) w32)∧(∀x4 v47,v44=.iface x4 v47→I1 n0 w32)∧(v44=.nilIface∨∃l27 v48,v44=.iface l27 v48))∧(∀x5 v49,v46=.iface x5 v49→K (.bool false) w32)∧(v46=.nilIface∨∃l28 v50,v46=.iface l28 v50))∧(¬(n3<1)→(n3>IntKind.wrap .i64 ((1:Int)+(Int.tmod (IntKind.wrap .i64 m0) 4))→(v46=.nilIface→(v44=.nilIface→K (.bool true) w32)∧(∀x6 v51,v44=.iface x6 v51→I1 n0 w32)∧(v44=.nilIface∨∃l29 v52,v44=.iface l29 v52))∧(∀x7 v53,v46=.iface x7 v53→K (.bool false) w32)∧(v46=.nilIface∨∃l30 v54,v46=.iface l30 v54))∧(¬(n3>IntKind.wrap .i64 ((1:Int)+(Int.tmod (IntKind.wrap .i64 m0) 4)))→(v44=.nilIface→K (.bool true) w32)∧(∀x8 v55,v44=.iface x8 v55→I1 n0 w32)∧(v44=.nilIface∨∃l31 v56,v44=.iface l31 v56))))∧(∀x9 v57,v44=.iface x9 v57→aa_ PR 14 #[v46] w32 λv58 w33=>∃n20,v58=Iv n20∧Fs S w [B3] w33∧aa_ PR 14 #[v44] w33 λv59 w34=>∃n21,v59=Iv n21∧Fs S w [B3] w34∧(n20=n21→(n3<1→(v46=.nilIface→(v44=.nilIface→K (.bool true) w34)∧(∀x10 v60,v44=.iface x10 v60→I1 n0 w34)∧(v44=.nilIface∨∃l32 v61,v44=.iface l32 v61))∧(∀x11 v62,v46=.iface x11 v62→K (.bool false) w34)∧(v46=.nilIface∨∃l33 v63,v46=.iface l33 v63))∧(¬(n3<1)→(n3>IntKind.wrap .i64 ((1:Int)+(Int.tmod (IntKind.wrap .i64 m0) 4))→(v46=.nilIface→(v44=.nilIface→K (.bool true) w34)∧(∀x12 v64,v44=.iface x12 v64→I1 n0 w34)∧(v44=.nilIface∨∃l34 v65,v44=.iface l34 v65))∧(∀x13 v66,v46=.iface x13 v66→K (.bool false) w34)∧(v46=.nilIface∨∃l35 v67,v46=.iface l35 v67))∧(¬(n3>IntKind.wrap .i64 ((1:Int)+(Int.tmod (IntKind.wrap .i64 m0) 4)))→(v44=.nilIface→K (.bool true) w34)∧(∀x14 v68,v44=.iface x14 v68→I1 n0 w34)∧(v44=.nilIface∨∃l36 v69,v44=.iface l36 v69))))∧(¬(n20=n21)→K (.bool false) w34))∧(v44=.nilIface∨∃l37 v70,v44=.iface l37 v70))∧(¬(n3≤IntKind.wrap .i64 ((1:Int)+(Int.tmod (IntKind.wrap .i64 m0) 4)))→(n3<1→(v46=.nilIface→(v44=.nilIface→K (.bool true) w32)∧(∀x15 v71,v44=.iface x15 v71→I1 n0 w32)∧(v44=.nilIface∨∃l38 v72,v44=.iface l38 v72))∧(∀x16 v73,v46=.iface x16 v73→K (.bool false) w32)∧(v46=.nilIface∨∃l39 v74,v46=.iface l39 v74))∧(¬(n3<1)→(n3>IntKind.wrap .i64 ((1:Int)+(Int.tmod (IntKind.wrap .i64 m0) 4))→(v46=.nilIface→(v44=.nilIface→K (.bool true) w32)∧(∀x17 v75,v44=.iface x17 v75→I1 n0 w32)∧(v44=.nilIface∨∃l40 v76,v44=.iface l40 v76))∧(∀x18 v77,v46=.iface x18 v77→K (.bool false) w32)∧(v46=.nilIface∨∃l41 v78,v46=.iface l41 v78))∧(¬(n3>IntKind.wrap .i64 ((1:Int)+(Int.tmod (IntKind.wrap .i64 m0) 4)))→(v44=.nilIface→K (.bool true) w32)∧(∀x19 v79,v44=.iface x19 v79→I1 n0 w32)∧(v44=.nilIface∨∃l42 v80,v44=.iface l42 v80)))))∧(¬(n3≥1)→(n3<1→(v46=.nilIface→(v44=.nilIface→K (.bool true) w32)∧(∀x20 v81,v44=.iface x20 v81→I1 n0 w32)∧(v44=.nilIface∨∃l43 v82,v44=.iface l43 v82))∧(∀x21 v83,v46=.iface x21 v83→K (.bool false) w32)∧(v46=.nilIface∨∃l44 v84,v46=.iface l44 v84))∧(¬(n3<1)→(n3>IntKind.wrap .i64 ((1:Int)+(Int.tmod (IntKind.wrap .i64 m0) 4))→(v46=.nilIface→(v44=.nilIface→K (.bool true) w32)∧(∀x22 v85,v44=.iface x22 v85→I1 n0 w32)∧(v44=.nilIface∨∃l45 v86,v44=.iface l45 v86))∧(∀x23 v87,v46=.iface x23 v87→K (.bool false) w32)∧(v46=.nilIface∨∃l46 v88,v46=.iface l46 v88))∧(¬(n3>IntKind.wrap .i64 ((1:Int)+(Int.tmod (IntKind.wrap .i64 m0) 4)))→(v44=.nilIface→K (.bool true) w32)∧(∀x24 v89,v44=.iface x24 v89→I1 n0 w32)∧(v44=.nilIface∨∃l47 v90,v44=.iface l47 v90)))))∧(¬(n2=5)→∀w35,Fr S w w6 [l8] [⟨l8,#[Iv n2,Iv n3,.slice q4 l2 l3,Iv n4,Iv n5,Iv n6,.string s0,.slice q5 l4 l5,.string s1,.slice q6 l6 l7,Iv n7],46,true⟩] w35→I1 n0 w35)))))∧∀n22,∀D1:Nat→Value,∀w36,I1 n22 w36→Fs S w [⟨l8,#[Iv n2,Iv n3,.slice q4 l2 l3,Iv n4,Iv n5,Iv n6,.string s0,.slice q5 l4 l5,.string s1,.slice q6 l6 l7,Iv n7],46,true⟩] w36→aa_ PR 22 #[.pointer q0] w36 λv91 w37=>∃n23,v91=Iv n23∧Fs S w [] w37∧(n23=n22→Dr q0 λa2=>Dr (some a2) λa3=>Dr (some (Addr.add a3 0)) λa4=>∃q13,World.cell? w37 a4=some (.pointer q13)∧Dr q13 λa5=>Dr (some a5) λa6=>Dr (some (Addr.add a6 0)) λa7=>∃q14,World.cell? w37 a7=some (.pointer q14)∧aa_ PR 23 #[.pointer q14] w37 λv92 w38=>∃n24,v92=Iv n24∧Fs S w [] w38∧aa_ PR 23 #[.pointer q2] w38 λv93 w39=>∃n25,v93=Iv n25∧Fs S w [] w39∧(n24=n25→Dr q0 λa8=>Dr (some a8) λa9=>Dr (some (Addr.add a9 0)) λa10=>∃q15,World.cell? w39 a10=some (.pointer q15)∧Dr q15 λa11=>Dr (some a11) λa12=>Dr (some (Addr.add a12 0)) λa13=>∃q16,World.cell? w39 a13=some (.pointer q16)∧aa_ PR 24 #[.pointer q16] w39 λv94 w40=>∃n26,v94=Iv n26∧Fs S w [] w40∧aa_ PR 24 #[.pointer q2] w40 λv95 w41=>∃n27,v95=Iv n27∧Fs S w [] w41∧(n26=n27→Dr q0 λa14=>Dr (some a14) λa15=>Dr (some (Addr.add a15 0)) λa16=>∃q17,World.cell? w41 a16=some (.pointer q17)∧aa_ PR 25 #[.pointer q17] w41 λv96 w42=>∃n28,v96=Iv n28∧Fs S w [] w42∧aa_ PR 25 #[.pointer q3] w42 λv97 w43=>∃n29,v97=Iv n29∧Fs S w [] w43∧(n28=n29→Dr q0 λa17=>Dr (some a17) λa18=>Dr (some (Addr.add a18 0)) λa19=>∃q18,World.cell? w43 a19=some (.pointer q18)∧aa_ PR 26 #[.pointer q18] w43 λv98 w44=>∃b7,v98=.bool b7∧(b7=true→Fs S w [] w44∧aa_ PR 26 #[.pointer q3] w44 λv99 w45=>∃b8,v99=.bool b8∧(b8=true→Fs S w [] w45∧aa_ PR 27 #[.pointer q0] w45 λv100 w46=>∃n30,v100=Iv n30∧Fs S w [] w46∧(n30=IntKind.wrap .i64 ((1:Int)+(Int.tmod (IntKind.wrap .i64 m0) 4))→∃l48,l48<l1∧I0 n22 (IntKind.wrap .i64 (n1+1)) l48 w46)∧(¬(n30=IntKind.wrap .i64 ((1:Int)+(Int.tmod (IntKind.wrap .i64 m0) 4)))→K (.bool false) w46))∧(b8=false→Fs S w [] w45∧K (.bool false) w45))∧(b7=false→Fs S w [] w44∧aa_ PR 26 #[.pointer q3] w44 λv101 w47=>∃b9,v101=.bool b9∧(b9=true→Fs S w [] w47∧K (.bool false) w47)∧(b9=false→Fs S w [] w47∧aa_ PR 27 #[.pointer q0] w47 λv102 w48=>∃n31,v102=Iv n31∧Fs S w [] w48∧(n31=IntKind.wrap .i64 ((1:Int)+(Int.tmod (IntKind.wrap .i64 m0) 4))→∃l49,l49<l1∧I0 n22 (IntKind.wrap .i64 (n1+1)) l49 w48)∧(¬(n31=IntKind.wrap .i64 ((1:Int)+(Int.tmod (IntKind.wrap .i64 m0) 4)))→K (.bool false) w48))))∧(¬(n28=n29)→K (.bool false) w43))∧(¬(n26=n27)→K (.bool false) w41))∧(¬(n24=n25)→K (.bool false) w39))∧(¬(n23=n22)→K (.bool false) w37))∧(¬(n1<(ly1:Int))→K (.bool true) w6))∧(∀x25 v103,v8=.iface x25 v103→K (.bool false) w5)∧(v8=.nilIface∨∃l50 v104,v8=.iface l50 v104))∧(∀x26 v105,v6=.iface x26 v105→K (.bool false) w4)∧(v6=.nilIface∨∃l51 v106,v6=.iface l51 v106))∧(∀x27 v107,v3=.iface x27 v107→K (.bool false) w4)∧(v3=.nilIface∨∃l52 v108,v3=.iface l52 v108)))∧(b0=false→Fs S w [] w0∧K (.bool false) w0)):aa_ PR 3 ⟨[.int .u8 m0,.slice y1 ly1 cy1]⟩ w K:=
 ab_ (okf:=⟨okL,[]⟩) ah_ (args:=[.c (.v (.int .u8 m0)),.c (.v (.slice y1 ly1 cy1))]) (H:=[]) (.s .z (.s (.s (.r ⟨(some []),false,[],[]⟩) .z) (.s (.s (.r ⟨(some []),false,[],[]⟩) .z) (.s .z (.s (.r ⟨(some []),false,[],[]⟩) (.s (.r ⟨(some []),false,[],[]⟩) (.s .z (.s (.r ⟨(some []),false,[],[]⟩) (.s .z (.s .z (.s (.s .z (.b (.l (some []) (some []) [(12,.c (.int .i64)),(66,.c (.int .i64))] [] (.s .z (.s .z (.s (.b (.s (.r ⟨(some []),false,[],[]⟩) (.cut [(12,.c (.int .i64))] [] (.s .z (.b (.s .z (.c (.s (.r ⟨(some [14]),false,[],[(5,[999])]⟩) (.s (.r ⟨(some [14]),false,[],[(5,[999])]⟩) (.s (.r ⟨(some []),false,[],[]⟩) .z))) (.s .z (.c (.s (.r ⟨(some [14]),false,[],[]⟩) (.s .z (.s (.r ⟨(some [14]),false,[],[(4,[999])]⟩) (.s .z (.s (.s .z (.c (.r ⟨(some [14]),false,[],[(6,[999])]⟩) .z)) (.s (.r ⟨(some []),false,[],[]⟩) .z)))))) (.s .z (.c (.s .z (.s (.r ⟨(some []),false,[],[(1,[999])]⟩) (.s (.r ⟨(some []),false,[],[(2,[999])]⟩) (.s (.s (.r ⟨(some []),false,[],[]⟩) .z) (.s (.r ⟨(some []),false,[],[]⟩) .z))))) (.s .z (.c (.s (.r ⟨(some [14]),false,[],[]⟩) (.s (.s (.r ⟨(some [14]),false,[],[(5,[999])]⟩) (.s (.r ⟨(some [14]),false,[],[]⟩) .z)) .z)) .z)))))))))) (.s (.r ⟨(some []),false,[],[]⟩) .z)))) .z)))))) .z))))))))))) Go.Proofs.Tryz.func3 rfl ⟨trivial,trivial,trivial⟩ trivial (Fr.init S w) trivial (ad_ (by kernel_rfl) h)
end Go.Vc
namespace Go.Vc
open Go
end Go.Vc
namespace Go.Vc
open Go Go.RowKit Go.Extern.Stop Go.Stop Go.Extern Go.Proofs
theorem rl_ (w:World):Calls Tryz.prog 14 #[.nilIface] w λev w'=>ev=.returned (.int .i64 0)∧w'=w:=by
 go_enter Tryz.func14,Tryz.ntmps14
 go_wp2
 go_ret
 exact ⟨rfl,rfl⟩
theorem mx_ {w:World} {K:Value→World→Prop} (hK:∀w',Grow w w'→K (.int .i64 0) w'):aa_ PR F.aT_ #[.nilIface] w K:=
 en_ (rl_ w) λe w' ⟨he,hw⟩=>⟨_,he,by subst hw;exact hK _ (.refl _ _)⟩
end Go.Vc
namespace Go.Vc
open Go Go.RowKit Go.Maps Go.Sort Go.Shelf Go.Proofs Go.MapKept
open Go.WideElems (Fit rd rg rd_mk)
theorem jM_:∀(N:Nat) (l:List Nat),l.Nodup→(∀x∈l,x<N)→l.length≤N
 | 0,l,_,h=>by
  cases l with
  | nil=>simp
  | cons a l=>exact absurd (h a List.mem_cons_self) (by omega)
 | N+1,l,hn,h=>by
  by_cases hm:N∈l
  ·have h1:=jM_ N (l.erase N) (hn.erase N) λx hx=>by
    have:=(hn.mem_erase_iff).1 hx
    have:=h x this.2
    omega
   rw [List.length_erase_of_mem hm] at h1
   omega
  ·have:=jM_ N l hn λx hx=>by
    have:=h x hx
    rcases Nat.lt_or_ge x N with h2 | h2
    ·exact h2
    ·have:x=N:=by omega
     subst this;exact absurd hx hm
   omega
theorem aJ_.keys {N:Nat} {w:World} {x:PubS} (h:aJ_ N w x):∃es clock,w.heap[x.m]? = some (.map es clock)∧Stamped es clock∧(∀y∈es.toList,∃l,keyOf PR T.int y.key=some l)∧es.size≤1000000:=by
 obtain ⟨n,es,clock,h1,h2,h3,h4,h5⟩:=h.map
 refine ⟨es,clock,h1,h2,h4,?_⟩
 have hs:=h.small
 have hkey:∀y∈es.toList,∃i:Nat,y.key=.int .i64 (i:Int)∧i≤200000:=λy hy=>by
  obtain ⟨i,b,c,mn,list,k1,k2,k3,_⟩:=h.kept y.key y.val ((h5 _ _).2 ⟨y,hy,rfl,rfl⟩)
  exact ⟨i,k3,by omega⟩
 let nat:Value→Nat:=λv=>match v with | .int _ i=>i.toNat | _=>0
 have hnd:((es.toList.map (·.key)).map nat).Nodup:=by
  refine List.pairwise_map.2 (h2.2.2.imp_of_mem λ{a b} ha hb hne e=>hne ?_)
  obtain ⟨y,hy,rfl⟩:=List.mem_map.1 ha
  obtain ⟨z,hz,rfl⟩:=List.mem_map.1 hb
  obtain ⟨i,e1,_⟩:=hkey y hy
  obtain ⟨j,e2,_⟩:=hkey z hz
  rw [e1,e2] at e ⊢
  have:i=j:=by simpa [nat] using e
  rw [this]
 have:=jM_ 200001 _ hnd λv hv=>by
  obtain ⟨k,hk,rfl⟩:=List.mem_map.1 hv
  obtain ⟨y,hy,rfl⟩:=List.mem_map.1 hk
  obtain ⟨i,e1,hi⟩:=hkey y hy
  rw [e1]
  show i<200001
  omega
 simp only [List.length_map,Array.length_toList] at this
 omega
end Go.Vc
namespace Go.Vc
open Go
end Go.Vc
namespace Go.Vc
open Go Go.MapKept
theorem ErrT.grow {w w':World} (h:ErrT w) (g:Grow w w'):ErrT w':=by
 unfold ErrT at h ⊢
 unfold World.cell? at h ⊢
 cases hb:w.heap[0]? with
 | none=>simp [hb] at h
 | some o=>
  have:=Grow.get g hb
  simp only [this]
  simp only [hb] at h
  exact h
theorem p__ {w:World} {c:Int} {v:Value} {K:Value→World→Prop} (h:ErrT w) (hv:isEC c v) (hc:0≤c∧c≤100) (hK:∀w',Grow w w'→K (.int .i64 c) w'):aa_ PR F.aT_ #[v] w K:=by
 rcases hv with rfl | ⟨a,rfl⟩
 ·exact ii_ h (by omega) (by omega) hK
 ·exact ih_ h hK
end Go.Vc
namespace Go.Vc
open Go Go.MapKept
structure Duo (N:Nat) (L:Nat→Prop) (k0 pp aa rr:Nat) (w:World) (s t:ActS) (now:Nat):Prop where
 sep:Sep N L w k0 s t now
 al:Alike s t
 ep:t.x.p=pp
 ea:t.a=aa
 er:s.reps.length=rr
 sz:N≤w.heap.size
def Kp (N:Nat) (L:Nat→Prop) (P:World→Prop):Prop:=∀(S:Nat→Prop) (w1 w2:World),Chg S w1 w2→(∀k,S k→N≤k)→(∀k,L k→¬S k)→P w1→P w2
theorem Kp.grow {N:Nat} {L:Nat→Prop} {P:World→Prop} (h:Kp N L P) {w1 w2:World} (g:Grow w1 w2) (hp:P w1):P w2:=h _ w1 w2 g (λ_ e=>e.elim) (λ_ _ e=>e) hp
theorem Duo.grow {N:Nat} {L:Nat→Prop} {k0 pp aa rr:Nat} {w w':World} {s t:ActS} {now:Nat} (h:Duo N L k0 pp aa rr w s t now) (g:Grow w w'):Duo N L k0 pp aa rr w' s t now:=⟨h.sep.grow g,h.al,h.ep,h.ea,h.er,Nat.le_trans h.sz g.size⟩
variable {N:Nat} {L:Nat→Prop} {P:World→Prop} {k0 pp aa rr:Nat} {w:World} {s t:ActS} {now:Nat}
theorem Duo.rW_ (hP:Kp N L P) (hE:∀w,P w→ErrT w) (h:Duo N L k0 pp aa rr w s t now) (hp:P w) {nodes:Int} {l:List (Int × Int)} {q:Option Addr} {n c:Nat} (hs:∀w,P w→Sl w q (encE l)) (hl:n=l.length) (hn:n≤100000) {K bad:World→Prop}
  (hK:∀w' s' t',Duo N L k0 pp aa rr w' s' t' now→P w'→K w') :
  aa_ PR F.cp_ ⟨[.pointer (some ⟨k0,0,none⟩),.int .i64 nodes,.slice q n c]⟩ w λv9 w8=>∃n8 v10,v9=.tuple #[.int .i64 n8,v10]∧P w8∧
   aa_ PR F.c7_ ⟨[.pointer (some ⟨pp,0,none⟩),.int .i64 nodes,.slice q n c]⟩ w8 λv11 w9=>∃n9 v12,v11=.tuple #[.int .i64 n9,v12]∧P w9∧
    (n8=n9→aa_ PR F.aT_ #[v10] w9 λv13 w10=>∃n10,v13=.int .i64 n10∧P w10∧aa_ PR F.aT_ #[v12] w10 λv14 w11=>∃n11,v14=.int .i64 n11∧P w11∧(n10=n11→K w11)∧(¬(n10=n11)→bad w11))∧(¬(n8=n9)→bad w9):=by
 have hsz:=h.sz
 have he1:=h.sep.hd.act.pub.each1
 obtain ⟨e1,e2,e3,e4,e5,e6,e7⟩:=h.al
 have ep:=h.ep
 subst ep
 refine fH_ h.sep.hd hsz (hs w hp) hl hn (λw8 x' mn list hok er em hH g f3 f4 f5 f8 f9=>?_) λw8 v cc g hv hpe _=>?_
 ·have hsep:=h.sep.head hH (g.mono λk _ e=>.inr (.inr e)) rfl rfl f8 f9
  have hp8:P w8:=hP _ _ _ g (λk e=>h.sep.hd.act.pub.lo k e) (λk hk=>(h.sep.kp k hk).2.1) hp
  have s8:=g.size
  refine ⟨_,_,rfl,hp8,?_⟩
  refine d__ hsep.ac.pub (by omega) (hs w8 hp8) hl hn (λw9 y' mn' list' hok' er' em' hy' g' a1 a2 a3 a4 a5 a6 a7 a8 a9 a10=>?_) λw9 v cc g' _ hv hpe _=>?_
  ·have hA:=hsep.ac.oI_ hy' g' a1 a8 a9
   have hsep':=hsep.act hA (g'.mono λk _ e=>.inr e) rfl rfl a8 a9
   have hp9:P w9:=hP _ _ _ g' (λk e=>hsep.ac.pub.lo k e) (λk hk=>(hsep.kp k hk).2.2.1) hp8
   have s9:=g'.size
   obtain ⟨rfl,rfl⟩:=hok.uniq e6 e2 he1 hok'
   have a4':y'.last=t.x.last+1:=a4
   have hd:Duo N L k0 t.x.p aa rr w9 _ _ now:=⟨hsep',⟨by show x'.recs=y'.recs;rw [er,er',e1],by show x'.last=y'.last;rw [f4,a4,e2],by show x'.com=y'.com;rw [f5,a5,e3],by show x'.man=y'.man;rw [em,em',e2,e4],e5,by show x'.each=y'.each;rw [f3,a3,e6],e7⟩,a1,h.ea,h.er,by omega⟩
   refine ⟨_,_,rfl,hp9,λ_=>mx_ λw10 g10=>⟨_,rfl,hP.grow g10 hp9,mx_ λw11 g11=>⟨_,rfl,hP.grow g11 (hP.grow g10 hp9),λ_=>hK w11 _ _ (hd.grow (g10.trans g11)) (hP.grow g11 (hP.grow g10 hp9)),λhne=>absurd rfl hne⟩⟩,λhne=>absurd (by rw [f4,a4',e2]) hne⟩
  ·exact (hok.rA_ e6 e2 e1 he1 hpe).elim
 ·have hd:=h.grow g
  have hp8:=hP.grow g hp
  refine ⟨_,_,rfl,hp8,?_⟩
  refine d__ hd.sep.ac.pub hd.sz (hs w8 hp8) hl hn (λw9 y' mn' list' hok' er' em' hy' g' a1 a2 a3 a4 a5 a6 a7 a8 a9 a10=>?_) λw9 v' cc' g' _ hv' hpe' _=>?_
  ·exact (hok'.rA_ e6.symm e2.symm e1.symm (by rw [← e6];exact he1) hpe).elim
  ·have hp9:=hP.grow g' hp8
   obtain rfl:=hpe.uniq e6 hpe'
   have hc:=hpe.small
   refine ⟨_,_,rfl,hp9,λ_=>p__ (hE _ hp9) hv hc λw10 g10=>⟨_,rfl,hP.grow g10 hp9,p__ (hE _ (hP.grow g10 hp9)) hv' hc λw11 g11=>⟨_,rfl,hP.grow g11 (hP.grow g10 hp9),λ_=>hK w11 s t (hd.grow (g'.trans (g10.trans g11))) (hP.grow g11 (hP.grow g10 hp9)),λhne=>absurd rfl hne⟩⟩,λhne=>absurd rfl hne⟩
theorem jy_ {w:World} {c c2:Nat} {K:Value→World→Prop} (hK:∀w',Grow w w'→K (.bool true) w'):aa_ PR F.au_ ⟨[.slice none 0 c,.slice none 0 c2]⟩ w K:=
 hj_ (outs:=[]) (.nil _) (.nil _) rfl (by decide) (λo ho=>by cases ho) hK
theorem Duo.hear (hP:Kp N L P) (h:Duo N L k0 pp aa rr w s t now) (hp:P w) {m:MsgL} {q:Option Addr} {c:Nat} (hs:Sl w q (m.proof.map sv8')) {fr nn:Int} (hnn:nn=(rr:Nat)) {K bad C:World→Prop}
  (hK:∀w' s' t',Duo N L k0 pp aa rr w' s' t' now→P w'→K w') (hC:∀w',Grow w w'→P w'→C w') :
  aa_ PR F.jN_ ⟨[eU_ m q c]⟩ w λv15 w13=>∃s2 v16,v15=.tuple #[.string s2,v16]∧P w13∧
   (v16=.nilIface→aa_ PR F.cb_ ⟨[.pointer (some ⟨k0,0,none⟩),.int .i64 fr,.string s2]⟩ w13 λv17 w14=>∃q7 l9 l10 v18,v17=.tuple #[.slice q7 l9 l10,v18]∧P w14∧
    (fr≥1→(fr≤nn→aa_ PR F.bl_ ⟨[.pointer (some ⟨aa,0,none⟩),.int .i64 fr,eU_ m q c,.int .i64 (now:Nat)]⟩ w14 λv19 w15=>∃q8 l11 l12 v20,v19=.tuple #[.slice q8 l11 l12,v20]∧P w15∧
      (v18=.nilIface→aa_ PR F.au_ ⟨[.slice q7 l9 l10,.slice q8 l11 l12]⟩ w15 λv21 w16=>∃b2,v21=.bool b2∧(b2=true→P w16∧K w16)∧(b2=false→P w16∧bad w16))∧(∀x0 v22,v18=.iface x0 v22→bad w15)∧(v18=.nilIface∨∃l13 v23,v18=.iface l13 v23))∧
     (¬(fr≤nn)→(v18=.nilIface→aa_ PR F.au_ ⟨[.slice q7 l9 l10,.slice none 0 0]⟩ w14 λv24 w17=>∃b3,v24=.bool b3∧(b3=true→P w17∧K w17)∧(b3=false→P w17∧bad w17))∧(∀x1 v25,v18=.iface x1 v25→bad w14)∧(v18=.nilIface∨∃l14 v26,v18=.iface l14 v26)))∧
    (¬(fr≥1)→(v18=.nilIface→aa_ PR F.au_ ⟨[.slice q7 l9 l10,.slice none 0 0]⟩ w14 λv27 w18=>∃b4,v27=.bool b4∧(b4=true→P w18∧K w18)∧(b4=false→P w18∧bad w18))∧(∀x2 v28,v18=.iface x2 v28→bad w14)∧(v18=.nilIface∨∃l15 v29,v18=.iface l15 v29)))∧
   (∀x3 v30,v16=.iface x3 v30→C w13)∧(v16=.nilIface∨∃l17 v31,v16=.iface l17 v31):=by
 have hsz:=h.sz
 have ea:=h.ea
 subst ea
 obtain ⟨e1,e2,e3,e4,e5,e6,e7⟩:=h.al
 have I:∀ {J:Nat→Value→Prop},∀t x,(Value.nilIface:Value)=.iface t x→J t x:=λt x h=>by cases h
 refine nc_ hs (λhm w13 g1=>⟨_,_,rfl,hP.grow g1 hp,λ_=>?_,I,.inl rfl⟩) λhno w13 g1=>⟨_,_,rfl,hP.grow g1 hp,(λe=>by cases e),(λ_ _ _=>hC w13 g1 (hP.grow g1 hp)),.inr ⟨_,_,rfl⟩⟩
 have hp13:=hP.grow g1 hp
 have hd:=h.grow g1
 have hlen:(cz_ crcN (a7_ m)).length≤1099511627776:=by
  rw [b4_];have:=e8_ hm;omega
 have hrr:s.reps.length=rr:=h.er
 refine ge_ hd.sep.hd hlen (λhbad=>⟨_,_,_,_,rfl,hp13,λhge=>⟨λhle=>absurd ⟨by omega,by omega⟩ hbad,λ_=>⟨λ_=>jy_ λw17 g17=>⟨true,rfl,λ_=>⟨hP.grow g17 hp13,hK w17 s t (hd.grow g17) (hP.grow g17 hp13)⟩,λe=>by cases e⟩,I,.inl rfl⟩⟩,λ_=>⟨λ_=>jy_ λw17 g17=>⟨true,rfl,λ_=>⟨hP.grow g17 hp13,hK w17 s t (hd.grow g17) (hP.grow g17 hp13)⟩,λe=>by cases e⟩,I,.inl rfl⟩⟩) (λw4 c v _ _ _ hg _=>by rw [ej_ hm] at hg;cases hg) λw14 j m' q7 outs c7 hj hfr hg hH g4 hout ho=>?_
 rw [ej_ hm] at hg
 cases hg
 have hsep:=hd.sep.head hH (g4.mono λk _ e=>.inr (.inl e)) rfl rfl rfl λk e=>.inl e
 have hp14:P w14:=hP _ _ _ g4 (λk e=>by subst e;exact hd.sep.hd.act.ln) (λk hk e=>(hd.sep.kp k hk).2.2.2.2.1 e) hp13
 have s4:=g4.size
 have s1:=g1.size
 have hjt:j<t.reps.length:=by rw [← e5];exact hj
 refine ⟨_,_,_,_,rfl,hp14,λhge=>⟨λhle=>?_,λhnle=>absurd (by omega) hnle⟩,λhnge=>absurd (by omega) hnge⟩
 subst hfr
 refine jj_ hsep.ac hjt (by have:=hm.1;omega) λw15 q8 outs' c8 hA g5 hout' ho'=>?_
 have hsep':=hsep.act hA (g5.mono λk _ e=>.inl e) rfl rfl rfl λk e=>.inl e
 have hp15:P w15:=hP _ _ _ g5 (λk e=>by subst e;exact hsep.ac.ln) (λk hk e=>(hsep.kp k hk).2.2.2.2.2 e) hp14
 have s5:=g5.size
 have heq:outs=outs':=hout.uniq hd.sep.hd.act.pub e1 e2 e3 e4 hout'
 subst heq
 have ho2:=ho.jY_ hsep.ac.row g5
 have hsm:=hout.small
 have hj7:∀r∈s.reps.set j (bB_ s.reps[j] m.kind m.ver (now:Nat)),0≤r.done:=λr hr=>by
  rcases List.mem_or_eq_of_mem_set hr with hr | rfl
  ·exact e7 r hr
  ·have h0:=e7 _ (List.getElem_mem hj)
   have hv:=hm.1.1
   exact l7_ h0 hv
 have hdu:Duo N L k0 pp t.a rr w15 _ _ now:=⟨hsep',⟨e1,e2,e3,e4,by show s.reps.set j (bB_ s.reps[j] m.kind m.ver (now:Nat))=t.reps.set j (bB_ t.reps[j] m.kind m.ver (now:Nat));simp only [e5],e6,hj7⟩,h.ep,rfl,by show (s.reps.set j _).length=rr;rw [List.length_set];exact h.er,by omega⟩
 refine ⟨_,_,_,_,rfl,hp15,λ_=>hj_ ho2 ho' rfl (by omega) hsm.2 λw16 g16=>⟨true,rfl,λ_=>⟨hP.grow g16 hp15,hK w16 _ _ (hdu.grow g16) (hP.grow g16 hp15)⟩,λe=>by cases e⟩,I,.inl rfl⟩
end Go.Vc
namespace Go.Vc
open Go Go.MapKept
variable {N:Nat} {L:Nat→Prop} {P:World→Prop} {k0 pp aa rr:Nat} {w:World} {s t:ActS} {now:Nat}
theorem oM_ {s t:ActS} (h:Alike s t) (now:Int):outN s now s.reps.length=outN t now t.reps.length:=by
 rw [show s.reps.length=t.reps.length by rw [h.reps]]
 exact r0_ h.last h.com h.man h.reps now _
theorem Duo.tick (hP:Kp N L P) (hE:∀w,P w→ErrT w) (h:Duo N L k0 pp aa rr w s t now) (hp:P w) (hn:now+1≤1000000) {n1:Int} (hn1:n1=((now+1:Nat):Int)) {K bad:World→Prop}
  (hK:∀w' s' t',Duo N L k0 pp aa rr w' s' t' (now+1)→P w'→K w') :
  aa_ PR F.dC_ ⟨[.pointer (some ⟨k0,0,none⟩)]⟩ w λv32 w20=>∃q9 l18 l19 v33,v32=.tuple #[.slice q9 l18 l19,v33]∧P w20∧
   aa_ PR F.ew_ ⟨[.pointer (some ⟨aa,0,none⟩),.int .i64 n1]⟩ w20 λv34 w21=>∃q10 l20 l21 v35,v34=.tuple #[.slice q10 l20 l21,v35]∧P w21∧
    aa_ PR F.aT_ #[v35] w21 λv36 w22=>∃n12,v36=.int .i64 n12∧P w22∧
     (n12=7→aa_ PR F.aT_ #[v33] w22 λv37 w23=>∃n13,v37=.int .i64 n13∧P w23∧aa_ PR F.aT_ #[.nilIface] w23 λv38 w24=>∃n14,v38=.int .i64 n14∧P w24∧
      (n13=n14→aa_ PR F.au_ ⟨[.slice q9 l18 l19,.slice q10 l20 l21]⟩ w24 λv39 w25=>∃b5,v39=.bool b5∧(b5=true→P w25∧K w25)∧(b5=false→P w25∧bad w25))∧(¬(n13=n14)→bad w24))∧
     (¬(n12=7)→aa_ PR F.aT_ #[v33] w22 λv40 w26=>∃n15,v40=.int .i64 n15∧P w26∧aa_ PR F.aT_ #[v35] w26 λv41 w27=>∃n16,v41=.int .i64 n16∧P w27∧
      (n15=n16→aa_ PR F.au_ ⟨[.slice q9 l18 l19,.slice q10 l20 l21]⟩ w27 λv42 w28=>∃b6,v42=.bool b6∧(b6=true→P w28∧K w28)∧(b6=false→P w28∧bad w28))∧(¬(n15=n16)→bad w27)):=by
 have hsz:=h.sz
 subst hn1
 have ea:=h.ea
 subst ea
 obtain ⟨e1,e2,e3,e4,e5,e6,e7⟩:=h.al
 have hroom:=h.al.room
 have e7':∀r∈t.reps,0≤r.done:=by rw [← e5];exact e7
 have hag:=pP_ e2 e3 e5 ((now+1:Nat):Int)
 have low:∀ {s' t':ActS} {w8 w9:World} {q9 q10:Option Addr} {c9 c10:Nat},(outN s' ((now+1:Nat):Int) s'.reps.length)=(outN t' ((now+1:Nat):Int) t'.reps.length)→
   Sl w9 q9 ((outN s' ((now+1:Nat):Int) s'.reps.length).flatMap outC)→Sl w9 q10 ((outN t' ((now+1:Nat):Int) t'.reps.length).flatMap outC)→s'.reps.length≤4→(∀w',Grow w9 w'→P w'∧K w')→
   aa_ PR F.au_ ⟨[.slice q9 (outN s' ((now+1:Nat):Int) s'.reps.length).length c9,.slice q10 (outN t' ((now+1:Nat):Int) t'.reps.length).length c10]⟩ w9 λv w'=>∃b,v=.bool b∧(b=true→P w'∧K w')∧(b=false→P w'∧bad w'):=by
  intro s' t' w8 w9 q9 q10 c9 c10 heq h1 h2 h4 hk
  have hl:=gW_ s' ((now+1:Nat):Int) s'.reps.length
  rw [← heq] at h2 ⊢
  exact hj_ (b6_.of h1) (b6_.of h2) (by rw [List.length_map]) (by omega) (λo ho=>by
   obtain ⟨o',_,rfl⟩:=List.mem_map.1 ho
   simp [outL]) λw' g=>⟨true,rfl,λ_=>hk w' g,λe=>by cases e⟩
 have fin:∀ {w9:World} {s' t' sd td:ActS} {q9 q10:Option Addr} {c9 c10:Nat},P w9→Duo N L k0 pp t.a rr w9 sd td (now+1)→s'.reps.length≤4→(outN s' ((now+1:Nat):Int) s'.reps.length)=(outN t' ((now+1:Nat):Int) t'.reps.length)→
   Sl w9 q9 ((outN s' ((now+1:Nat):Int) s'.reps.length).flatMap outC)→Sl w9 q10 ((outN t' ((now+1:Nat):Int) t'.reps.length).flatMap outC)→
   aa_ PR F.aT_ #[.nilIface] w9 λv36 w22=>∃n12,v36=.int .i64 n12∧P w22∧
     (n12=7→aa_ PR F.aT_ #[.nilIface] w22 λv37 w23=>∃n13,v37=.int .i64 n13∧P w23∧aa_ PR F.aT_ #[.nilIface] w23 λv38 w24=>∃n14,v38=.int .i64 n14∧P w24∧
      (n13=n14→aa_ PR F.au_ ⟨[.slice q9 (outN s' ((now+1:Nat):Int) s'.reps.length).length c9,.slice q10 (outN t' ((now+1:Nat):Int) t'.reps.length).length c10]⟩ w24 λv39 w25=>∃b5,v39=.bool b5∧(b5=true→P w25∧K w25)∧(b5=false→P w25∧bad w25))∧(¬(n13=n14)→bad w24))∧
     (¬(n12=7)→aa_ PR F.aT_ #[.nilIface] w22 λv40 w26=>∃n15,v40=.int .i64 n15∧P w26∧aa_ PR F.aT_ #[.nilIface] w26 λv41 w27=>∃n16,v41=.int .i64 n16∧P w27∧
      (n15=n16→aa_ PR F.au_ ⟨[.slice q9 (outN s' ((now+1:Nat):Int) s'.reps.length).length c9,.slice q10 (outN t' ((now+1:Nat):Int) t'.reps.length).length c10]⟩ w27 λv42 w28=>∃b6,v42=.bool b6∧(b6=true→P w28∧K w28)∧(b6=false→P w28∧bad w28))∧(¬(n15=n16)→bad w27)):=by
  intro w9 s' t' sd td q9 q10 c9 c10 hp9 hd h4 heq h1 h2
  exact mx_ λw22 g22=>⟨_,rfl,hP.grow g22 hp9,(λe=>absurd e (by decide)),λ_=>mx_ λw26 g26=>⟨_,rfl,hP.grow g26 (hP.grow g22 hp9),mx_ λw27 g27=>⟨_,rfl,hP.grow g27 (hP.grow g26 (hP.grow g22 hp9)),λ_=>low (w8:=w9) heq (h1.grow (g22.trans (g26.trans g27))) (h2.grow (g22.trans (g26.trans g27))) h4 λw' g'=>⟨hP.grow (g22.trans (g26.trans (g27.trans g'))) hp9,hK w' sd td (hd.grow (g22.trans (g26.trans (g27.trans g')))) (hP.grow (g22.trans (g26.trans (g27.trans g'))) hp9)⟩,λhne=>absurd rfl hne⟩⟩⟩
 refine jh_ h.sep.hd hsz hn e7 (λw8 q9 c9 hna hH g hs ho=>?_) (λw8 s' q9 c9 hya hH g a1 a2 a3 a4 a5 a6 a7 a8 a9 a10 a11 hs ho=>?_) λw8 hya hr hH g=>?_
 ·have hsep:=h.sep.head hH (g.mono λk _ e=>.inl e) rfl rfl rfl λk e=>.inl e
  have hp8:P w8:=hP _ _ _ g (λk e=>by subst e;exact h.sep.hd.lo) (λk hk e=>(h.sep.kp k hk).2.2.2.1 e) hp
  have s8:=g.size
  refine ⟨_,_,_,_,rfl,hp8,?_⟩
  refine fD_ hsep.ac (by omega) ⟨by omega,by omega⟩ e7' (λw9 q10 c10 _ g9 hs9 _=>?_) (λw9 t' q10 c10 hya=>absurd (hag.2 hya) hna) λw9 hya=>absurd (hag.2 hya) hna
  have hp9:=hP.grow g9 hp8
  have hal0:Alike s ⟨{ t.x with ex:=λk=>t.x.ex k∨s.x.reg k },t.a,t.bn,t.reps⟩:=⟨e1,e2,e3,e4,e5,e6,e7⟩
  refine ⟨_,_,_,_,rfl,hp9,fin (s':=s) hp9 ⟨hsep.grow g9,⟨e1,e2,e3,e4,e5,e6,e7⟩,h.ep,rfl,h.er,by have:=g9.size;omega⟩ h.sep.hd.act.n4 (oM_ hal0 _) (hs.grow g9) hs9⟩
 ·have hsep:=h.sep.head hH (g.mono λk _ e=>e.elim .inl λe=>.inr (.inr e)) a1 a5 a9 a10
  have hp8:P w8:=hP _ _ _ g (λk e=>e.elim (λe=>by subst e;exact h.sep.hd.lo) λe=>h.sep.hd.act.pub.lo k e) (λk hk e=>e.elim (λe=>(h.sep.kp k hk).2.2.2.1 e) λe=>(h.sep.kp k hk).2.1 e) hp
  have s8:=g.size
  refine ⟨_,_,_,_,rfl,hp8,?_⟩
  refine fD_ hsep.ac (by omega) ⟨by omega,by omega⟩ e7' (λw9 q10 c10 hna=>absurd (hag.1 hya) hna) (λw9 t' q10 c10 _ hA g9 b1 b2 b3 b4 b5 b6 b7 b8 b9 b10 b11 b12 b13 hs9 _=>?_) λw9 _ hr=>?_
  ·have hsep':=hsep.act hA (g9.mono λk _ e=>.inr e) b1 b6 b11 b12
   have hp9:P w9:=hP _ _ _ g9 (λk e=>hsep.ac.pub.lo k e) (λk hk=>(hsep.kp k hk).2.2.1) hp8
   have s9:=g9.size
   have b7':t'.x.recs=t.x.recs++[recC t.x.last]:=b7
   have b8':t'.x.man=t.x.man:=b8
   have b9':t'.x.each=t.x.each:=b9
   have b4':t'.x.last=t.x.last:=b4
   have b5':t'.x.com=t.x.last:=b5
   have b2':t'.reps=t.reps:=b2
   have hal0:Alike s' t':=⟨by rw [a6,b7',e1,e2],by rw [a3,b4',e2],by rw [a4,b5',e2],by rw [a7,b8',e4],by rw [a2,b2',e5],by rw [a8,b9',e6],by rw [a2];exact e7⟩
   exact ⟨_,_,_,_,rfl,hp9,fin (s':=s') hp9 ⟨hsep',⟨hal0.recs,hal0.last,hal0.com,hal0.man,hal0.reps,hal0.each,hal0.dn⟩,b3.trans h.ep,b1,by show s'.reps.length=_;rw [a2];exact h.er,by omega⟩ hH.act.n4 (oM_ hal0 _) (Sl.keep hs g9 λa ha e=>ho a ha (h.sep.ac.pub.lt _ e)) hs9⟩
  ·exfalso
   have hr':t.x.room<(recC t.x.last).length+6:=hr
   rw [← hroom,← e2] at hr'
   omega
 ·have hsep:=h.sep.head hH (g.mono λk _ e=>.inl e) rfl rfl rfl λk e=>.inl e
  have hp8:P w8:=hP _ _ _ g (λk e=>by subst e;exact h.sep.hd.lo) (λk hk e=>(h.sep.kp k hk).2.2.2.1 e) hp
  have s8:=g.size
  refine ⟨_,_,_,_,rfl,hp8,?_⟩
  refine fD_ hsep.ac (by omega) ⟨by omega,by omega⟩ e7' (λw9 q10 c10 hna=>absurd (hag.1 hya) hna) (λw9 t' q10 c10 _ hA g9 b1 b2 b3 b4 b5 b6 b7 b8 b9 b10 b11 b12 b13 hs9 _=>?_) λw9 _ _ g9=>?_
  ·exfalso
   have hr':(recC t.x.last).length+6≤t.x.room:=b13
   rw [← hroom,← e2] at hr'
   omega
  ·have hp9:=hP.grow g9 hp8
   have hd:Duo N L k0 pp t.a rr w9 _ _ (now+1):=⟨hsep.grow g9,⟨e1,e2,e3,e4,e5,e6,e7⟩,h.ep,rfl,h.er,by have:=g9.size;omega⟩
   exact ⟨_,_,_,_,rfl,hp9,p__ (hE _ hp9) (.inl rfl) (by decide) λw22 g22=>⟨_,rfl,hP.grow g22 hp9,(λ_=>mx_ λw23 g23=>⟨_,rfl,hP.grow g23 (hP.grow g22 hp9),mx_ λw24 g24=>⟨_,rfl,hP.grow g24 (hP.grow g23 (hP.grow g22 hp9)),(λ_=>jy_ λw25 g25=>⟨true,rfl,(λ_=>⟨hP.grow (g22.trans (g23.trans (g24.trans g25))) hp9,hK w25 _ _ (hd.grow (g22.trans (g23.trans (g24.trans g25)))) (hP.grow (g22.trans (g23.trans (g24.trans g25))) hp9)⟩),λe=>by cases e⟩),λhne=>absurd rfl hne⟩⟩),λhne=>absurd rfl hne⟩⟩
abbrev GT (v44:Value) (good J:World→Prop) (w:World):Prop:=(v44=.nilIface→good w)∧(∀(x:Nat) (v:Value),v44=.iface x v→J w)∧(v44=.nilIface∨∃(l:Nat) (v:Value),v44=.iface l v)
abbrev G1 (v44 v46:Value) (good J bad:World→Prop) (w:World):Prop:=(v46=.nilIface→GT v44 good J w)∧(∀(x:Nat) (v:Value),v46=.iface x v→bad w)∧(v46=.nilIface∨∃(l:Nat) (v:Value),v46=.iface l v)
abbrev GB (fr nn:Int) (v44 v46:Value) (good J bad:World→Prop) (w:World):Prop:=(fr<1→G1 v44 v46 good J bad w)∧(¬(fr<1)→(fr>nn→G1 v44 v46 good J bad w)∧(¬(fr>nn)→GT v44 good J w))
theorem isEC.iface {c:Int} {v:Value} (h:isEC c v):∃l x,v=.iface l x:=by
 rcases h with rfl | ⟨a,rfl⟩
 ·exact ⟨_,_,rfl⟩
 ·exact ⟨_,_,rfl⟩
theorem Duo.get (hP:Kp N L P) (hE:∀w,P w→ErrT w) (h:Duo N L k0 pp aa rr w s t now) (hp:P w) {l:List UInt8} (hl:l.length≤1099511627776) {fr nn:Int} (hnn:nn=(rr:Nat)) {v44:Value} (hv:(v44=.nilIface∧∃m,cJ_ crcN l=.inl m)∨∃c:Nat,cJ_ crcN l=.inr c∧isEC c v44) {good J bad:World→Prop} (hg:∀w',P w'→good w') (hJ:∀w',Grow w w'→P w'→J w') :
  aa_ PR F.cb_ ⟨[.pointer (some ⟨k0,0,none⟩),.int .i64 fr,.string (str l)]⟩ w λv45 w32=>∃q12 l25 l26 v46,v45=.tuple #[.slice q12 l25 l26,v46]∧P w32∧
   (fr≥1→(fr≤nn→(v44=.nilIface→GB fr nn v44 v46 good J bad w32)∧(∀(x:Nat) (v:Value),v44=.iface x v→aa_ PR F.aT_ #[v46] w32 λv58 w33=>∃n20,v58=.int .i64 n20∧P w33∧aa_ PR F.aT_ #[v44] w33 λv59 w34=>∃n21,v59=.int .i64 n21∧P w34∧(n20=n21→GB fr nn v44 v46 good J bad w34)∧(¬(n20=n21)→bad w34))∧(v44=.nilIface∨∃(l:Nat) (v:Value),v44=.iface l v))∧
    (¬(fr≤nn)→GB fr nn v44 v46 good J bad w32))∧(¬(fr≥1)→GB fr nn v44 v46 good J bad w32):=by
 have I:∀ {J:Nat→Value→Prop},∀t x,(Value.nilIface:Value)=.iface t x→J t x:=λt x h=>by cases h
 have hor:v44=.nilIface∨∃(l:Nat) (v:Value),v44=.iface l v:=by
  rcases hv with ⟨e,_⟩ | ⟨c,_,e⟩
  ·exact .inl e
  ·exact .inr e.iface
 have hrr:=h.er
 have T:∀ {w'},Grow w w'→P w'→GT v44 good J w':=λg hp'=>⟨λ_=>hg _ hp',λ_ _ _=>hJ _ g hp',hor⟩
 have nilB:∀ {w'},Grow w w'→P w'→GB fr nn v44 .nilIface good J bad w':=λg hp'=>⟨λ_=>⟨λ_=>T g hp',I,.inl rfl⟩,λ_=>⟨λ_=>⟨λ_=>T g hp',I,.inl rfl⟩,λ_=>T g hp'⟩⟩
 refine ge_ h.sep.hd hl (λhbad=>⟨_,_,_,_,rfl,hp,λhge=>⟨λhle=>absurd ⟨by omega,by omega⟩ hbad,λ_=>nilB (.refl _ _) hp⟩,λ_=>nilB (.refl _ _) hp⟩) (λw32 c v46 h1 h2 g hgm hv46=>?_) λw32 j m q outs c hj hfr hgm hH g hout ho=>?_
 ·have hp':=hP.grow g hp
  refine ⟨_,_,_,_,rfl,hp',λhge=>⟨λhle=>?_,λhnle=>absurd (by omega) hnle⟩,λhnge=>absurd (by omega) hnge⟩
  rcases hv with ⟨_,m,e⟩ | ⟨c',e,hv44⟩
  ·rw [e] at hgm;cases hgm
  rw [e] at hgm;cases hgm
  have hc:=pi_ e
  refine ⟨λe'=>?_,λx v _=>?_,hor⟩
  ·obtain ⟨_,_,e2⟩:=hv44.iface
   rw [e2] at e';cases e'
  ·refine p__ (hE _ hp') hv46 (by omega) λw33 g33=>⟨_,rfl,hP.grow g33 hp',p__ (hE _ (hP.grow g33 hp')) hv44 (by omega) λw34 g34=>⟨_,rfl,hP.grow g34 (hP.grow g33 hp'),λ_=>⟨λh=>absurd h (by omega),λ_=>⟨λh=>absurd h (by omega),λ_=>T (g.trans (g33.trans g34)) (hP.grow g34 (hP.grow g33 hp'))⟩⟩,λhne=>absurd rfl hne⟩⟩
 ·have hp':P w32:=hP _ _ _ g (λk e=>by subst e;exact h.sep.hd.act.ln) (λk hk e=>(h.sep.kp k hk).2.2.2.2.1 e) hp
  rcases hv with ⟨e44,m',e⟩ | ⟨c',e,hv44⟩
  ·subst e44
   have T':GT .nilIface good J w32:=⟨λ_=>hg _ hp',I,.inl rfl⟩
   have B':GB fr nn .nilIface .nilIface good J bad w32:=⟨λ_=>⟨λ_=>T',I,.inl rfl⟩,λ_=>⟨λ_=>⟨λ_=>T',I,.inl rfl⟩,λ_=>T'⟩⟩
   exact ⟨_,_,_,_,rfl,hp',λ_=>⟨λ_=>⟨λ_=>B',I,.inl rfl⟩,λ_=>B'⟩,λ_=>B'⟩
  ·rw [e] at hgm;cases hgm
theorem Duo.tail (hG:∀w1 w2,Grow w1 w2→P w1→P w2) (h:Duo N L k0 pp aa rr w s t now) (hp:P w) {nn:Int} (hnn:nn=(rr:Nat)) {K bad:World→Prop} (hK:∀w',Grow w w'→P w'→K w') :
  aa_ PR F.dQ_ (#[.pointer (some ⟨k0,0,none⟩)]) w (λv91 w37=>∃n23:Int,v91=.int .i64 n23∧P w37∧(n23=(now:Int)→Dr (some ⟨k0,0,none⟩) (λa2=>Dr (some a2) (λa3=>Dr (some (Addr.add a3 0)) (λa4=>∃q13:Option Addr,(World.cell? w37 a4:Option Value)=some (.pointer q13)∧Dr q13 (λa5=>Dr (some a5) (λa6=>Dr (some (Addr.add a6 0)) (λa7=>∃q14:Option Addr,(World.cell? w37 a7:Option Value)=some (.pointer q14)∧aa_ PR F.cS_ (#[.pointer q14]) w37 (λv92 w38=>∃n24:Int,v92=.int .i64 n24∧P w38∧aa_ PR F.cS_ (#[.pointer (some ⟨pp,0,none⟩)]) w38 (λv93 w39=>∃n25:Int,v93=.int .i64 n25∧P w39∧(n24=n25→Dr (some ⟨k0,0,none⟩) (λa8=>Dr (some a8) (λa9=>Dr (some (Addr.add a9 0)) (λa10=>∃q15:Option Addr,(World.cell? w39 a10:Option Value)=some (.pointer q15)∧Dr q15 (λa11=>Dr (some a11) (λa12=>Dr (some (Addr.add a12 0)) (λa13=>∃q16:Option Addr,(World.cell? w39 a13:Option Value)=some (.pointer q16)∧aa_ PR F.bt_ (#[.pointer q16]) w39 (λv94 w40=>∃n26:Int,v94=.int .i64 n26∧P w40∧aa_ PR F.bt_ (#[.pointer (some ⟨pp,0,none⟩)]) w40 (λv95 w41=>∃n27:Int,v95=.int .i64 n27∧P w41∧(n26=n27→Dr (some ⟨k0,0,none⟩) (λa14=>Dr (some a14) (λa15=>Dr (some (Addr.add a15 0)) (λa16=>∃q17:Option Addr,(World.cell? w41 a16:Option Value)=some (.pointer q17)∧aa_ PR F.cc_ (#[.pointer q17]) w41 (λv96 w42=>∃n28:Int,v96=.int .i64 n28∧P w42∧aa_ PR F.cc_ (#[.pointer (some ⟨aa,0,none⟩)]) w42 (λv97 w43=>∃n29:Int,v97=.int .i64 n29∧P w43∧(n28=n29→Dr (some ⟨k0,0,none⟩) (λa17=>Dr (some a17) (λa18=>Dr (some (Addr.add a18 0)) (λa19=>∃q18:Option Addr,(World.cell? w43 a19:Option Value)=some (.pointer q18)∧aa_ PR F.ce_ (#[.pointer q18]) w43 (λv98 w44=>∃b7:Bool,v98=.bool b7∧(b7=true→P w44∧aa_ PR F.ce_ (#[.pointer (some ⟨aa,0,none⟩)]) w44 (λv99 w45=>∃b8:Bool,v99=.bool b8∧(b8=true→P w45∧aa_ PR F.bh_ (#[.pointer (some ⟨k0,0,none⟩)]) w45 (λv100 w46=>∃n30:Int,v100=.int .i64 n30∧P w46∧(n30=nn→K w46)∧(¬(n30=nn)→bad w46)))∧(b8=false→P w45∧bad w45)))∧(b7=false→P w44∧aa_ PR F.ce_ (#[.pointer (some ⟨aa,0,none⟩)]) w44 (λv101 w47=>∃b9:Bool,v101=.bool b9∧(b9=true→P w47∧bad w47)∧(b9=false→P w47∧aa_ PR F.bh_ (#[.pointer (some ⟨k0,0,none⟩)]) w47 (λv102 w48=>∃n31:Int,v102=.int .i64 n31∧P w48∧(n31=nn→K w48)∧(¬(n31=nn)→bad w48))))))))))∧(¬(n28=n29)→bad w43)))))))∧(¬(n26=n27)→bad w41))))))))))∧(¬(n24=n25)→bad w39))))))))))∧(¬(n23=(now:Int))→bad w37)):=by
 have hH:∀ {w'},Grow w w'→a9_ N w' k0 s now:=λg=>h.sep.hd.grow g
 have hA:∀ {w'},Grow w w'→a0_ N w' t:=λg=>h.sep.ac.grow g
 have e1:=h.al.last
 have e2:=h.al.com
 have e3:=h.al.tgt
 have e4:=h.al.reps
 have e5:=h.er
 have ep:=h.ep
 have ea:=h.ea
 subst ep
 subst ea
 refine p8_ h.sep.hd ⟨_,rfl,hp,λ_=>ac_.2 (ac_.2 (ac_.2 ⟨_,by rw [am_,ap_ h.sep.hd.blk];rfl,ac_.2 (ac_.2 (ac_.2 ⟨_,by rw [am_,ap_ h.sep.hd.act.blk];rfl,?_⟩))⟩)),λhne=>absurd rfl hne⟩
 refine fG_ h.sep.hd.act.pub ⟨_,rfl,hp,fG_ h.sep.ac.pub ⟨_,rfl,hp,λ_=>ac_.2 (ac_.2 (ac_.2 ⟨_,by rw [am_,ap_ h.sep.hd.blk];rfl,ac_.2 (ac_.2 (ac_.2 ⟨_,by rw [am_,ap_ h.sep.hd.act.blk];rfl,?_⟩))⟩)),λhne=>absurd (by rw [e1]) hne⟩⟩
 refine aj_ h.sep.hd.act.pub ⟨_,rfl,hp,aj_ h.sep.ac.pub ⟨_,rfl,hp,λ_=>ac_.2 (ac_.2 (ac_.2 ⟨_,by rw [am_,ap_ h.sep.hd.blk];rfl,?_⟩)),λhne=>absurd (by rw [e2]) hne⟩⟩
 refine bw_ h.sep.hd.act λw1 g1=>⟨_,rfl,hG _ _ g1 hp,bw_ (hA g1) λw2 g2=>⟨_,rfl,hG _ _ g2 (hG _ _ g1 hp),λ_=>ac_.2 (ac_.2 (ac_.2 ⟨_,by rw [am_,ap_ (hH (g1.trans g2)).blk];rfl,?_⟩)),λhne=>absurd (by rw [e3]) hne⟩⟩
 have hp2:=hG _ _ g2 (hG _ _ g1 hp)
 have g12:=g1.trans g2
 have hdec:decide (s.tgt=0∧∀r∈s.reps,¬r.done<(s.x.com:Int))=decide (t.tgt=0∧∀r∈t.reps,¬r.done<(t.x.com:Int)):=by rw [e3,e4,e2]
 refine ea_ (hH g12).act λw3 g3=>⟨_,rfl,λht=>⟨hG _ _ g3 hp2,ea_ (hA (g12.trans g3)) λw4 g4=>⟨_,rfl,λ_=>⟨hG _ _ g4 (hG _ _ g3 hp2),ez_ (hH (g12.trans (g3.trans g4))) ⟨_,rfl,hG _ _ g4 (hG _ _ g3 hp2),λ_=>hK _ (g12.trans (g3.trans g4)) (hG _ _ g4 (hG _ _ g3 hp2)),λhne=>absurd (by rw [hnn,e5]) hne⟩⟩,λhf=>absurd (hf.symm.trans (hdec.symm.trans ht)) (by decide)⟩⟩,λhf=>⟨hG _ _ g3 hp2,ea_ (hA (g12.trans g3)) λw4 g4=>⟨_,rfl,λht=>absurd (ht.symm.trans (hdec.symm.trans hf)) (by decide),λ_=>⟨hG _ _ g4 (hG _ _ g3 hp2),ez_ (hH (g12.trans (g3.trans g4))) ⟨_,rfl,hG _ _ g4 (hG _ _ g3 hp2),λ_=>hK _ (g12.trans (g3.trans g4)) (hG _ _ g4 (hG _ _ g3 hp2)),λhne=>absurd (by rw [hnn,e5]) hne⟩⟩⟩⟩⟩
end Go.Vc
namespace Go.Vc
open Go Go.MapKept
theorem iI_ {m0:Int} (hm0:0≤m0∧m0≤255) {ops:List OpH} {y:Option Addr} {n c:Nat} {w:World} (h:OpsH w y ops) (hn:n=ops.length) (hE:ErrT w) {K:Value→World→Prop} (hK:∀w',Grow w w'→K (.bool true) w') :
  aa_ PR F.a__ ⟨[.int .u8 m0,.slice y n c]⟩ w K:=by
 have h0:Fs S0 w [] w:=Fr.init _ w
 have I:∀ {J:Nat→Value→Prop},∀t x,(Value.nilIface:Value)=.iface t x→J t x:=λt x h=>by cases h
 subst hn
 refine a__ m0 y ops.length c S0 K w (lk_ λw0 g0=>⟨true,rfl,λ_=>⟨h0.after g0,?_⟩,λe=>by cases e⟩)
 refine lu_ (h.grow g0) rfl λw1 t g1 ht=>⟨t,rfl,λe=>⟨(h0.after g0).after g1,hK w1 (g0.trans g1)⟩,λe=>⟨(h0.after g0).after g1,?_⟩⟩
 obtain ⟨hlen,hsm⟩:=ht e
 have g01:=g0.trans g1
 have hF1:=(h0.after g0).after g1
 have hw0:IntKind.wrap .i64 m0=m0:=w64 (by omega) (by omega)
 have htm:0≤Int.tmod m0 4∧Int.tmod m0 4≤3:=by
  rw [Int.tmod_eq_emod_of_nonneg hm0.1];omega
 have hnn:IntKind.wrap .i64 (1+Int.tmod (IntKind.wrap .i64 m0) 4)=1+Int.tmod m0 4:=by rw [hw0];exact w64 (by omega) (by omega)
 rw [hnn]
 generalize hq:1+Int.tmod m0 4=nn at *
 refine lt_ (λw2 k0 s rr ek k1 k4 g2 hH hr e1 e2 e3 e4=>?_) λw2 hbad=>absurd hbad (by omega)
 have hN:=g2.size
 refine ⟨_,_,rfl,hF1.after g2,lw_ λw3 bd g3 hbd hd=>⟨_,rfl,(hF1.after g2).after g3,?_⟩⟩
 have hF3:=(hF1.after g2).after g3
 refine jf_ (N:=w2.heap.size) hd (by omega) g3.size (by decide) (by decide) λw4 x g4 hx x1 x2 x3 x4 x5 x6=>⟨_,_,rfl,hF3.after g4,λ_=>⟨λ_=>?_,I,.inl rfl⟩,I,.inl rfl⟩
 have hF4:=hF3.after g4
 have g34:=g3.trans g4
 refine rg_ hx g34.size (λw5 t k et k1' k4' g5 ht htx htr ha hb=>⟨_,_,rfl,hF4.after g5,λ_=>?_,I,.inl rfl⟩) λhbad=>absurd hbad (by omega)
 have hF5:=hF4.after g5
 obtain rfl:k=rr:=by omega
 have hx0:t.x.last=0:=by rw [htx];exact x3
 have hsep:=Sep.init hH (g34.trans g5) ht hx0 hN
 have hrep1:s.x.man=PSt.zero.man:=hH.act.pub.rep.zero e4
 have hrep2:x.man=PSt.zero.man:=hx.rep.zero x5
 have hlen':s.reps.length=k:=by rw [hr];simp
 have htp:t.x.p=x.p:=by rw [htx]
 have hd0:Duo w1.heap.size (λ_=>False) k0 x.p t.a k w5 _ _ 0:=⟨hsep,⟨by show s.x.recs=t.x.recs;rw [htx,e4];exact x5.symm,by show s.x.last=t.x.last;rw [htx,e2];exact x3.symm,by show s.x.com=t.x.com;rw [htx,e3];exact x4.symm,by show s.x.man=t.x.man;rw [htx,hrep1];exact hrep2.symm,by show s.reps=t.reps;rw [hr,htr],by show s.x.each=t.x.each;rw [htx,e1];exact x2.symm,by show ∀r∈s.reps,_;rw [hr];intro r hr';rw [List.eq_of_mem_replicate hr'];decide⟩,htp,rfl,hlen',by have:=(g34.trans g5).size;omega⟩
 have hGE:∀ {w':World},Grow w w'→ErrT w':=λg=>hE.grow g
 generalize haa:t.a=aa at hd0 ⊢
 generalize hpp:x.p=pp at hd0 ⊢
 have sz1:w.heap.size≤w1.heap.size:=g01.size
 refine ⟨λa i mm w'=>∃(k1 now:Nat),i=k1∧k1≤ops.length∧mm=ops.length - k1∧a=now∧now≤k1∧∃s t,Duo w1.heap.size (λ_=>False) k0 pp aa k w' s t now,⟨_,0,0,rfl,by omega,rfl,rfl,Nat.le_refl _,_,_,hd0⟩,?_⟩
 clear hd0 hsep hrep1 hrep2 hlen' htp hx0
 rintro a i D mm w6 ⟨k1,now,rfl,hk1,rfl,rfl,hnow,s,t,hd⟩ hF6
 refine ⟨λhlt=>?_,λ_=>hK w6 hF6.gr⟩
 have hk':k1<ops.length:=by omega
 have h6:=h.grow hF6.gr
 have hm:=List.getElem_mem hk'
 have hso:=hsm _ hm
 have hnext:IntKind.wrap .i64 ((k1:Int)+1)=((k1+1:Nat):Int):=by rw [w64 (by omega) (by omega)];rfl
 have hnow1:IntKind.wrap .i64 ((now:Int)+1)=((now+1:Nat):Int):=by rw [w64 (by omega) (by omega)];rfl
 refine h6.row.rdN jH_ (by decide) rfl hk' hk' λa hc=>?_
 refine ⟨_,hc 0 _ rfl,_,hc 1 _ rfl,_,_,_,hc 2 _ rfl,_,hc 3 _ rfl,_,hc 4 _ rfl,_,hc 5 _ rfl,_,hc 6 _ rfl,_,_,_,hc 7 _ rfl,_,hc 8 _ rfl,_,_,_,hc 9 _ rfl,_,hc 10 _ rfl,λl8 hl8=>?_⟩
 have hKp:∀(cs:Array Value) (T:TypeId),Kp w1.heap.size (· = l8) (λw'=>Fs S0 w [⟨l8,cs,T,true⟩] w'):=λcs T S wa wb g hS hL hp=>hp.step g (λy hy e=>by simp at hy;subst hy;exact hL _ rfl e) (λj hj e=>by have:=hS j e;omega)
 have start:∀ {w7:World} {cs:Array Value} {T:TypeId},Fr S0 w w6 [l8] [⟨l8,cs,T,true⟩] w7→Duo w1.heap.size (· = l8) k0 pp aa k w7 s t now:=λhF7=>by
  have g7:=(hF7.unM hl8).grow
  exact ⟨hd.sep.with g7 (λj e=>by subst e;exact ⟨hl8,hF7.lt _ List.mem_cons_self⟩),hd.al,hd.ep,hd.ea,hd.er,Nat.le_trans hd.sz g7.size⟩
 have none:∀ {w':World} {s' t':ActS} {now':Nat},Duo w1.heap.size (· = l8) k0 pp aa k w' s' t' now'→Duo w1.heap.size (λ_=>False) k0 pp aa k w' s' t' now':=λhd=>⟨hd.sep.none,hd.al,hd.ep,hd.ea,hd.er,hd.sz⟩
 refine ⟨λa w'=>∃(now':Nat) (s t:ActS),a=now'∧now'≤k1+1∧Duo w1.heap.size (· = l8) k0 pp aa k w' s t now',?_,?_⟩
 ·refine ⟨λ_ w7 hF7=>?_,λ_=>⟨λ_ w7 hF7=>?_,λ_=>⟨λ_ w7 hF7=>?_,λ_=>⟨λ_ w7 hF7=>?_,λ_ w7 hF7=>⟨now,s,t,rfl,by omega,start hF7⟩⟩⟩⟩⟩
  ·exact Duo.rW_ (hKp _ _) (λ_ hp=>hGE (Fr.gr hp)) (start hF7) (hF7.unM hl8).reset (l:=ops[k1].l) (λw' hp=>(h.l _ hm).grow (Fr.gr hp)) rfl (by have:=hso.1;omega) λw' s' t' hd' hp'=>⟨now,s',t',rfl,by omega,hd'⟩
  ·exact Duo.hear (hKp _ _) (start hF7) (hF7.unM hl8).reset (m:=ops[k1].m) ((h.m _ hm).grow hF7.gr) ek (λw' s' t' hd' hp'=>⟨now,s',t',rfl,by omega,hd'⟩) λw' g hp'=>⟨ops.length - (k1+1),by omega,k1+1,now,hnext,by omega,rfl,rfl,by omega,s,t,none ((start hF7).grow g)⟩
  ·exact Duo.tick (hKp _ _) (λ_ hp=>hGE (Fr.gr hp)) (start hF7) (hF7.unM hl8).reset (by omega) hnow1 λw' s' t' hd' hp'=>⟨now+1,s',t',hnow1,by omega,hd'⟩
  ·have hF7':=(hF7.unM hl8).reset
   have hs:=hso.2.1
   refine if_ (l:=ops[k1].s) (by omega) (λw30 m q c g hg _ _ _=>⟨_,_,_,_,_,_,_,_,rfl,hF7'.after g,λl24 hl24 w31 hF31=>?_⟩) λw30 c v g hg hv=>⟨_,_,_,_,_,_,_,_,rfl,hF7'.after g,λl24 hl24 w31 hF31=>?_⟩
   ·exact Duo.get (hKp _ _) (λ_ hp=>hGE (Fr.gr hp)) ((start hF7).grow (g.trans (hF31.unM hl24).grow)) (hF31.unM hl24).reset (by omega) ek (.inl ⟨rfl,m,hg⟩) (λw' hp=>hK w' (Fr.gr hp)) λw' g' hp=>⟨now,s,t,rfl,by omega,((start hF7).grow (g.trans (hF31.unM hl24).grow)).grow g'⟩
   ·exact Duo.get (hKp _ _) (λ_ hp=>hGE (Fr.gr hp)) ((start hF7).grow (g.trans (hF31.unM hl24).grow)) (hF31.unM hl24).reset (by omega) ek (.inr ⟨c,hg,hv⟩) (λw' hp=>hK w' (Fr.gr hp)) λw' g' hp=>⟨now,s,t,rfl,by omega,((start hF7).grow (g.trans (hF31.unM hl24).grow)).grow g'⟩
 ·rintro a D1 w36 ⟨now',s',t',rfl,hn',hd'⟩ hF36
  exact Duo.tail (P:=λw'=>Fs S0 w [] w') (λ_ _ g hp=>hp.after g) hd' (hF36.sub (List.nil_sublist _)) ek λw' g hp=>⟨ops.length - (k1+1),by omega,k1+1,now',hnext,by omega,rfl,rfl,by omega,s',t',none (hd'.grow g)⟩
end Go.Vc
namespace Go.Vc
open Go Go.ChangeShapes Go.WideShapes Go.ChangeAt Go.RowKit Go.Deep Go.Proofs Go.Proofs.YtkfelkaiknjlhaaGreatDoor
theorem lY_:Tryz.f3.params=#[T.uint8,T.aL_]:=by kernel_rfl
theorem uU8:PR.underlying T.uint8=some (.int .u8):=by kernel_rfl
theorem uOps:PR.underlying T.aL_=some (.slice T.b0_):=by kernel_rfl
theorem cOp:PR.cellsOf T.b0_=11:=by kernel_rfl
theorem fOp:flds T.b0_=some [(T.int,0),(T.int,1),(T.bs_,2),(T.bL_,3),(T.string,8),(T.d5_,9)]:=by kernel_rfl
theorem st_:PR.underlying T.bs_=some (.slice T.av_):=by kernel_rfl
theorem th_:PR.cellsOf T.bs_=1:=by kernel_rfl
theorem tI_:PR.cellsOf T.av_=2:=by kernel_rfl
theorem tC_:flds T.av_=some [(T.int,0),(T.int,1)]:=by kernel_rfl
theorem tB_:flds T.bL_=some [(T.int,0),(T.int,1),(T.int,2),(T.string,3),(T.aK_,4)]:=by kernel_rfl
theorem tH_:PR.cellsOf T.bL_=5:=by kernel_rfl
theorem tA_:flds T.d5_=some [(T.hb_,0),(T.int,1)]:=by kernel_rfl
theorem tG_:PR.cellsOf T.d5_=2:=by kernel_rfl
theorem su_:PR.underlying T.hb_=some (.slice T.bool):=by kernel_rfl
theorem ti_:PR.cellsOf T.hb_=1:=by kernel_rfl
theorem tv_:PR.readableRec T.uint8=true:=by kernel_rfl
theorem sN_:PR.readableRec T.aL_=true:=by kernel_rfl
theorem sP_ {n:Int} (h:(Lit.int .u8 n).wf=true):0≤n∧n≤255:=by
 simp [Lit.wf,IntKind.min,IntKind.max,IntKind.bits,IntKind.signed] at h;omega
section
variable {H:Type} {enc:TypeId × Value→H} {w:World} {base:Nat} {spare:Nat→Bool} {held:Bool}
theorem se_ {n:Nat} {cs:List Value} {x:DataW H × List MemPlace} (hx:DataW.trod enc PR w base spare held n T.av_ cs=some x) (hlen:cs.length=2):∃e:Int × Int,cs=[.int .i64 e.1,.int .i64 e.2]:=by
 obtain ⟨m,hm⟩:=fc_ tC_ hx
 obtain ⟨y0,h0⟩:=hm 0 _ rfl
 obtain ⟨y1,h1⟩:=hm 1 _ rfl
 match cs,hlen with
 | [v0,v1],_=>
  rw [show PR.cellsOf (T.int,0).1=1 from cInt] at h0
  rw [show PR.cellsOf (T.int,1).1=1 from cInt] at h1
  obtain ⟨n0,e0,_,_⟩:=DataW.trod_int uInt h0
  obtain ⟨n1,e1,_,_⟩:=DataW.trod_int uInt h1
  obtain rfl:v0=.int .i64 n0:=(List.cons.inj e0).1
  obtain rfl:v1=.int .i64 n1:=(List.cons.inj e1).1
  exact ⟨(n0,n1),rfl⟩
theorem q5_ {fuel:Nat} {v:Value} {x:DataW H × List MemPlace} (h:DataW.trod enc PR w base spare held fuel T.bs_ [v]=some x):∃(q:Option Addr) (l:List (Int × Int)) (c:Nat),v=.slice q l.length c∧Sl w q (encE l):=by
 obtain ⟨q,l,c,h1,h2,_,_⟩:=jt_ (α:=Int × Int) (s:=2) (f:=λe=>[.int .i64 e.1,.int .i64 e.2]) (λ_=>rfl) (by decide) st_ tI_ (G:=λ_=>True) (λn cs x hx hlen=>by
  obtain ⟨e,he⟩:=se_ hx hlen
  exact ⟨e,he,trivial⟩) h
 exact ⟨q,l,c,h1,h2⟩
theorem r4_ {n:Nat} {cs:List Value} {x:DataW H × List MemPlace} (hx:DataW.trod enc PR w base spare held n T.bL_ cs=some x) (hlen:cs.length=5) :
  ∃(m:MsgL) (q:Option Addr) (c:Nat),cs=[.int .i64 m.kind,.int .i64 m.ver,.int .i64 m.i,.string (str m.text),.slice q m.proof.length c]∧Sl w q (m.proof.map sv8'):=by
 obtain ⟨m,hm⟩:=fc_ tB_ hx
 obtain ⟨y0,h0⟩:=hm 0 _ rfl
 obtain ⟨y1,h1⟩:=hm 1 _ rfl
 obtain ⟨y2,h2⟩:=hm 2 _ rfl
 obtain ⟨y3,h3⟩:=hm 3 _ rfl
 obtain ⟨y4,h4⟩:=hm 4 _ rfl
 match cs,hlen with
 | [v0,v1,v2,v3,v4],_=>
  rw [show PR.cellsOf (T.int,0).1=1 from cInt] at h0
  rw [show PR.cellsOf (T.int,1).1=1 from cInt] at h1
  rw [show PR.cellsOf (T.int,2).1=1 from cInt] at h2
  rw [show PR.cellsOf (T.string,3).1=1 from cStr] at h3
  rw [show PR.cellsOf (T.aK_,4).1=1 from tF_] at h4
  obtain ⟨n0,e0,_,_⟩:=DataW.trod_int uInt h0
  obtain ⟨n1,e1,_,_⟩:=DataW.trod_int uInt h1
  obtain ⟨n2,e2,_,_⟩:=DataW.trod_int uInt h2
  obtain ⟨s,e3,_⟩:=DataW.trod_string uStr h3
  obtain ⟨q,l,c,e4,s4⟩:=rS_ (v:=v4) h4
  obtain rfl:v0=.int .i64 n0:=(List.cons.inj e0).1
  obtain rfl:v1=.int .i64 n1:=(List.cons.inj e1).1
  obtain rfl:v2=.int .i64 n2:=(List.cons.inj e2).1
  obtain rfl:v3=.string s:=(List.cons.inj e3).1
  subst e4
  refine ⟨⟨n0,n1,n2,s.data.toList,l.map (·.data.toList)⟩,q,c,?_,?_⟩
  ·simp only [eb_,List.length_map]
  ·rw [List.map_map]
   have:(sv8' ∘ λx:ByteArray=>x.data.toList)=Value.string:=by
    funext x;simp only [Function.comp,sv8',eb_]
   rw [this];exact s4
theorem rX_ {n:Nat} {cs:List Value} {x:DataW H × List MemPlace} (hx:DataW.trod enc PR w base spare held n T.d5_ cs=some x) (hlen:cs.length=2):∃(q:Option Addr) (l c:Nat) (k:Int),cs=[.slice q l c,.int .i64 k]:=by
 obtain ⟨m,hm⟩:=fc_ tA_ hx
 obtain ⟨y0,h0⟩:=hm 0 _ rfl
 obtain ⟨y1,h1⟩:=hm 1 _ rfl
 match cs,hlen with
 | [v0,v1],_=>
  rw [show PR.cellsOf (T.hb_,0).1=1 from ti_] at h0
  rw [show PR.cellsOf (T.int,1).1=1 from cInt] at h1
  have h0':DataW.trod enc PR w base spare held m T.hb_ [v0]=some y0:=h0
  obtain ⟨n1,e1,_,_⟩:=DataW.trod_int uInt h1
  obtain rfl:v1=.int .i64 n1:=(List.cons.inj e1).1
  rcases open_slice su_ h0' with ⟨e,_⟩ | ⟨a,len,cap,_,_,_,_,e,_⟩
  ·cases e;exact ⟨none,0,0,n1,rfl⟩
  ·cases e;exact ⟨some a,len,cap,n1,rfl⟩
theorem tw_ {n:Nat} {cs:List Value} {x:DataW H × List MemPlace} (hx:DataW.trod enc PR w base spare held n T.b0_ cs=some x) (hlen:cs.length=11) :
  ∃o:OpH,cs=opHC o∧Sl w o.q (encE o.l)∧Sl w o.mq (o.m.proof.map sv8'):=by
 obtain ⟨m,hm⟩:=fc_ fOp hx
 obtain ⟨y0,h0⟩:=hm 0 _ rfl
 obtain ⟨y1,h1⟩:=hm 1 _ rfl
 obtain ⟨y2,h2⟩:=hm 2 _ rfl
 obtain ⟨y3,h3⟩:=hm 3 _ rfl
 obtain ⟨y4,h4⟩:=hm 4 _ rfl
 obtain ⟨y5,h5⟩:=hm 5 _ rfl
 match cs,hlen with
 | [v0,v1,v2,v3,v4,v5,v6,v7,v8,v9,v10],_=>
  rw [show PR.cellsOf (T.int,0).1=1 from cInt] at h0
  rw [show PR.cellsOf (T.int,1).1=1 from cInt] at h1
  rw [show PR.cellsOf (T.bs_,2).1=1 from th_] at h2
  rw [show PR.cellsOf (T.bL_,3).1=5 from tH_] at h3
  rw [show PR.cellsOf (T.string,8).1=1 from cStr] at h4
  rw [show PR.cellsOf (T.d5_,9).1=2 from tG_] at h5
  obtain ⟨n0,e0,_,_⟩:=DataW.trod_int uInt h0
  obtain ⟨n1,e1,_,_⟩:=DataW.trod_int uInt h1
  obtain ⟨q,l,c,e2,s2⟩:=q5_ (v:=v2) h2
  obtain ⟨mm,mq,mc,e3,s3⟩:=r4_ (cs:=[v3,v4,v5,v6,v7]) h3 rfl
  obtain ⟨s,e4,_⟩:=DataW.trod_string uStr h4
  obtain ⟨pq,pl,pc,pn,e5⟩:=rX_ (cs:=[v9,v10]) h5 rfl
  obtain rfl:v0=.int .i64 n0:=(List.cons.inj e0).1
  obtain rfl:v1=.int .i64 n1:=(List.cons.inj e1).1
  obtain rfl:v8=.string s:=(List.cons.inj e4).1
  injection e3 with a3 e3
  injection e3 with a4 e3
  injection e3 with a5 e3
  injection e3 with a6 e3
  injection e3 with a7 e3
  injection e5 with a9 e5
  injection e5 with a10 e5
  subst e2 a3 a4 a5 a6 a7 a9 a10
  exact ⟨⟨n0,n1,q,c,l,mm,mq,mc,s.data.toList,pq,pl,pc,pn⟩,by simp only [opHC,eb_],s2,s3⟩
theorem r1_ {fuel:Nat} {v:Value} {x:DataW H × List MemPlace} (h:DataW.trod enc PR w base spare held fuel T.aL_ [v]=some x):∃(q:Option Addr) (ops:List OpH) (c:Nat),v=.slice q ops.length c∧OpsH w q ops:=by
 obtain ⟨q,l,c,h1,h2,h3,_⟩:=jt_ (α:=OpH) (s:=11) (f:=opHC) jH_ (by decide) uOps cOp (G:=λo=>Sl w o.q (encE o.l)∧Sl w o.mq (o.m.proof.map sv8')) (λn cs x hx hlen=>tw_ hx hlen) h
 exact ⟨q,l,c,h1,⟨h2,λo ho=>(h3 o ho).1,λo ho=>(h3 o ho).2⟩⟩
end
theorem pF_ (H:Type) (enc:TypeId × Value→H) (W:World) (base:Nat) (args:Array Value) (ds gs:List (DataW H)) (before:List MemPlace)
  (hval:∀(j:Nat) t v,Tryz.f3.params[j]? = some t→args[j]? = some v→Value.okWide Tryz.prog W .any base t v)
  (hW:DataW.Whole enc Tryz.prog Tryz.f3.params.toList Rows.headPlaysSpec.vars false W args.toList ds gs before) (hL:laidMetH Tryz.prog Rows.headPlaysRow.laid W) :
  Calls Tryz.prog 3 args W λe W'=>∃v,e=.returned v∧Rows.headPlaysSpec.post enc Tryz.prog Tryz.f3 false true false false W args v W':=by
 have hW':=hW
 obtain ⟨p,q,hA0,hV,rfl,hfz,hnd⟩:=hW
 have hA:DataW.TrodAll enc Tryz.prog W 0 (λ_=>true) true Tryz.f3.params.toList args.toList ds p:=hA0
 rw [lY_] at hA hval
 obtain ⟨v0,v1,d0,d1,p0,p1,rfl,rfl,rfl,h0,h1⟩:=trodAll_two hA
 obtain ⟨rfl,rfl⟩:=trodVars_none hV
 have h0k:=h0
 have h1k:=h1
 obtain ⟨n,rfl⟩:=okWide_int uU8 (hval 0 _ _ rfl rfl)
 obtain ⟨q1,l1,c1,rfl⟩:=okWide_slice uOps (hval 1 _ _ rfl rfl)
 obtain ⟨fuel0,hf0⟩:=h0
 obtain ⟨n',e0,_,r0⟩:=DataW.trod_int uU8 (show DataW.trod enc PR W 0 (λ_=>true) true fuel0 T.uint8 [.int .u8 n]=some (d0,p0) from hf0)
 obtain rfl:n=n':=by injection e0 with e0;injection e0
 obtain ⟨fuel1,hf1⟩:=h1
 obtain ⟨y,ops,c,e,hops⟩:=r1_ (v:=.slice q1 l1 c1) hf1
 cases e
 have hl0:∀x∈p0++p1,x.block<W.heap.size:=λx hx=>hW'.lt x (by simpa using hx)
 refine iI_ (sP_ r0) hops rfl (sb_ hL) λW' g=>?_
 have hb:=ke_ g
 refine jC_ (pa:=p0++(p1++[])) (pv:=[]) hW' (λ_ _ _=>trodAll_cons_mk (shut_bool sv_ _) trodAll_mk0)
  (λsp hsp=>?_) (λ_ _=>rfl) (by simp) hb (ok_one (by kernel_rfl) rfl (okWide_bool_mk sv_ _))
 rw [lY_]
 have stay:∀ {t:TypeId} {v:Value} {d:DataW H} {q:List MemPlace},PR.readableRec t=true→decide (t<PR.types.size)=true→(∀x∈q,x∈p0++p1)→DataW.Trod enc PR W 0 (λ_=>true) true t v d q→DataW.Trod enc PR W' 0 sp true t v d q:=λhr hz hq h=>
  WideElems.Trod_stays layG hr (of_decide_eq_true hz) h (λx hx=>hb.same (hl0 x (hq x hx))) (λx hx=>hsp x (by simpa using hq x hx))
 exact trodAll_cons_mk (stay tv_ (by kernel_rfl) (λx hx=>by simp [hx]) h0k) (trodAll_cons_mk (stay sN_ (by kernel_rfl) (λx hx=>by simp [hx]) h1k) trodAll_mk0)
def zInH:Array Value:=#[.int .u8 0,.slice none 0 0]
theorem sO_ (os:Os) {H:Type} (enc:TypeId × Value→H):∃places,DataW.whole enc Tryz.prog ((hH_ os).forCall (λ_ _=>0) ⟨#[],zInH,[]⟩).memory Tryz.f3.params.toList Rows.headPlaysSpec.vars false zInH.toList 8 =
  some ([.lit (.int .u8 0),.nil],[],places):=
 ⟨[],by kernel_rfl⟩
theorem r6_ (os:Os) (started:os.Started) (H:Type) (enc:TypeId × Value→H) (F:Stop.Interp) :
  ReturnsInHanded {} Tryz.checked os 3 .any ((OpenSpec.ofChange Rows.headPlaysSpec).preRow enc Tryz.prog Tryz.f3 Rows.headPlaysRow.domain false Rows.headPlaysRow.laid) (((OpenSpec.ofChange Rows.headPlaysSpec).at F).post enc Tryz.prog Tryz.f3 false true false false):=by
 obtain ⟨places,hx⟩:=sO_ os enc
 refine returnsInHanded_of_row (C:=Tryz.checked) (s:=OpenSpec.ofChange Rows.headPlaysSpec) ownG started (by kernel_rfl) Tryz.func3
  (witness_row_atRef (enc:=enc) (C:=Tryz.checked) false (hH_ os) zInH rfl (by kernel_rfl) (by kernel_rfl) (by kernel_rfl)
   (OpenSpec.preRow_of_cond 8 hx (by kernel_rfl) (λk hk=>by cases hk) (by kernel_rfl) (qS_ os _))) ?_
 intro W base args ds gs before hval hW _ _ _ hL hsh _
 exact pF_ H enc W base args ds gs before hval hW hL
theorem sG_:Rows.HeadPlaysSaid:=
 OpenClaim.holds_of_cond 3 Tryz.f3 rfl rfl rfl rfl rfl rfl rfl ⟨rfl,rfl,rfl,rfl,rfl⟩ rfl rfl rfl rfl rfl (by kernel_rfl) Tryz.func3 (by kernel_rfl)
  (of_decide_eq_true (by kernel_rfl)) (by unfold Func.isWrapper;first | (rw [if_pos (by decide +kernel)];kernel_rfl) | (rw [if_neg (by decide +kernel)];exact ⟨rfl,rfl⟩))
  (λos started H enc _ F=>by rw [OpenClaim.pre_eq_preRow];exact r6_ os started H enc F)
theorem sQ_ (f:FuncId) (fn:Func) (hf:Tryz.pinned.checked.prog.funcNamed "lading/ladinglaw26.HeadPlays" = some f) (hfn:Tryz.pinned.checked.prog.funcs[f]? = some fn) :
  true=Tryz.pinned.checked.prog.looks []∧∀(j:Nat) t,fn.params[j]? = some t→Tryz.pinned.checked.prog.wantsStandIn t=false:=by
 obtain rfl:f=3:=Option.some.inj ((show Tryz.prog.funcNamed "lading/ladinglaw26.HeadPlays" = some 3 by kernel_rfl).symm.trans hf) |>.symm
 obtain rfl:fn=Tryz.f3:=(Option.some.inj (Tryz.func3.symm.trans hfn)).symm
 refine ⟨by kernel_rfl,λj t ht=>?_⟩
 rw [lY_] at ht
 have ht:t=T.uint8∨t=T.aL_:=by simpa using Array.mem_of_getElem? ht
 rcases ht with rfl | rfl
 ·exact (show Tryz.prog.wantsStandIn T.uint8=false by kernel_rfl)
 ·exact (show Tryz.prog.wantsStandIn T.aL_=false by kernel_rfl)
theorem cardH:Rows.HeadPlaysCardSaid:=
 Claim7.holds_tied_plain_at .later [] _ _ _ _ sG_ (λ_ h=>by cases h) (by kernel_rfl) (λ_ h=>by cases h) headPlays_row_tie rfl ⟨rfl,rfl⟩ (by kernel_rfl) rfl sQ_ (by kernel_rfl)
end Go.Vc
