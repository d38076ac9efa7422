/-
  A part of the proof of the statement HeadAgainCardSaid, in Lean: Hd5, Hd6, Hp1, Hp2, Op1, Op2, Op3, MirD1, MirD3, Dk2, Hd8, Cn, Ce, Hd9, Ha0, Ha1, Ha2, Kp1, MirR1, Kp2. By an AI agent.
-/
import Derived.Test.YtoopcoeonbkedaaGreatDoorP13
import Derived.Test.YtoopcoeonbkedaaGreatDoorP11
import Derived.Test.YtoopcoeonbkedaaGreatDoorP10
import Derived.Test.YtoopcoeonbkedaaGreatDoorP02
import Derived.Test.YtoopcoeonbkedaaGreatDoorP07
import Derived.Test.YtoopcoeonbkedaaGreatDoorShelfC
import Derived.Maps.OwnSet
set_option linter.unusedSimpArgs false
set_option linter.unusedVariables false
set_option maxRecDepth 100000
namespace Go.Vc
open Go Go.MapKept
theorem aK_.tL_ {N:Nat} {w:World} {x:PubS} (h:aK_ N w x) (h0:x.last=0) {ex:Nat→Prop} (hex:∀k,ex k→k<w.heap.size):aK_ N w { x with ex:=ex }:=
  ⟨h.blk,h.jrn,h.map,λk v hr=>by obtain ⟨i,b,c,mn,list,h1,h2,_⟩:=h.kept k v hr;omega,h.has,h.com_le,h.last_le,h.room,h.each1,h.each2,h.lo,hex,h.only,h.rep⟩
theorem sJ_ {N:Nat} {w:World} {x:PubS} (h:aK_ N w x) (hN:N≤w.heap.size) {n:Int} {K:Value→World→Prop}
    (h1:∀w' s (k:Nat),n=k→1≤k→k≤4→Grow w w'→ba_ N w' s→s.x = { x with ex:=λk=>k=s.bn∨x.ex k }→s.reps=List.replicate k rp0→w.heap.size≤s.a→w.heap.size≤s.bn→K (.tuple #[.pointer (some ⟨s.a,0,none⟩),.nilIface]) w')
    (h2:n<1∨4<n→K (.tuple #[.pointer none,.iface T.am_ (.int .i64 1)]) w):aa_ PR F.tp_ ⟨[.pointer (some ⟨x.p,0,none⟩),.int .i64 n]⟩ w K:=by
  refine sh_ (some ⟨x.p,0,none⟩) n S0 K w ⟨(λh=>by cases h),λa ha=>⟨λh=>h2 (.inl h),λhge=>⟨λh=>h2 (.inr (by omega)),λhle=>?_⟩⟩⟩
  obtain ⟨k,rfl⟩:=Int.eq_ofNat_of_zero_le (a:=n) (by omega)
  refine p4_ (by omega) (by omega) λb w1 hb g1 hbb=>⟨_,_,_,rfl,(Fr.init _ w).after g1,λl2 hl2 w2 hF2=>?_⟩
  have g2:Grow w1 w2:=hF2.grow
  have g12:=g1.trans g2
  have s1:=g1.size
  have hlt:=h.lt
  have hp2:=h.grow g12
  have hbl:b<w2.heap.size:=by have:=g2.size;have:=aj_ hbb;omega
  have hx':aK_ N w2 { x with ex:=λk=>k=b∨x.ex k }:=by
    refine ⟨hp2.blk,hp2.jrn,hp2.map,λk v hr=>?_,hp2.has,hp2.com_le,hp2.last_le,hp2.room,hp2.each1,hp2.each2,hp2.lo,λk hk=>by have hk':k=b∨x.ex k:=hk;rcases hk' with h' | h';omega;exact hp2.exlt k h',hp2.only,hp2.rep⟩
    exact (h.kept k v hr).keep g12 (λ_ _ e=>e.elim) (λk hk e=>e.elim .inl λe=>by have e':k=b∨x.ex k:=e;rcases e' with h' | h';omega;exact .inr h') (Nat.le_refl _) (λ_ h=>h)
  refine h1 w2 ⟨{ x with ex:=λk=>k=b∨x.ex k },l2,b,List.replicate k rp0⟩ k rfl (by omega) (by omega) g12 ⟨?_,Grow.get g2 hbb,hx',by show N≤l2;omega,by show N≤b;omega,by rw [List.length_replicate];omega,by rw [List.length_replicate];omega,⟨λe=>?_,λe=>?_⟩,.inl rfl⟩ rfl rfl (by show w.heap.size≤l2;omega) (by show w.heap.size≤b;omega)
  · have:=hF2.blk 0 rfl
    show w2.heap[l2]? = some (.cells #[.pointer (some ⟨x.p,0,none⟩),.slice (some ⟨b,0,none⟩) (List.replicate k rp0).length (List.replicate k rp0).length] T.bG_ (0,0))
    rw [List.length_replicate];exact this
  · have:=hlt _ e;simp only [] at this;omega
  · have:=hlt _ e;simp only [] at this;omega
theorem oQ_ {N:Nat} {w:World} {k0 bd:Nat} {n:Int} (hb:w.heap[k0]? = some (.cells #[.pointer none,.pointer (some ⟨bd,0,none⟩),.int .i64 n,.int .i64 0] T.aD_ (0,0))) (hd:cg_ w bd ⟨#[]⟩) (hN:N≤bd) (hk:N≤k0) {K:Value→World→Prop}
    (h1:∀w' s (k:Nat),n=k→1≤k→k≤4→Chg (· = k0) w w'→aA_ N w' k0 s 0→s.reps=List.replicate k rp0→s.x.each=10→s.x.last=0→s.x.com=0→s.x.recs=[]→(NoF w bd→NoF w' s.x.bd)→K .nilIface w')
    (h2:∀w',n<1∨4<n→Chg (· = k0) w w'→w'.heap[k0]? = some (.cells #[.pointer none,.pointer (some ⟨bd,0,none⟩),.int .i64 n,.int .i64 0] T.aD_ (0,0))→K (.iface T.am_ (.int .i64 1)) w') :
    aa_ PR F.dR_ ⟨[.pointer (some ⟨k0,0,none⟩)]⟩ w K:=by
  have hF:Fs (· = k0) w [⟨k0,#[.pointer none,.pointer (some ⟨bd,0,none⟩),.int .i64 n,.int .i64 0],T.aD_,true⟩] w:=(Fr.init _ w).entry hb (λx h=>by cases h) λ_=>rfl
  have hk0:=aj_ hb
  refine lJ_ k0 none _ n 0 (· = k0) K w hF ⟨rfl,trivial⟩ λw0 hF0=>?_
  have g0:Grow w w0:=hF0.chg.same hb (hF0.blk 0 rfl)
  have s0:=g0.size
  refine oM_ (N:=N) (each:=10) (hd.keep g0 λe=>e) hN (by omega) (by omega) (by omega) λw1 x g1 hx e1 e2 e3 e4 e5 e6 e7=>⟨_,_,rfl,hF0.reset.after g1,λ_=>?_,(λt x h=>by cases h),.inl rfl⟩
  have hF1:=hF0.reset.after g1
  have s1:=g1.size
  have hx':=hx.tL_ e3 (ex:=λk=>k=k0) λk e=>by have e':k=k0:=e;omega
  have hoff:¬x.reg k0:=by
    rintro (e | e | e)
    · omega
    · obtain ⟨n',hm⟩:=hx.map
      exact gl_ (hF1.blk 0 rfl) hm e
    · have hbk:=hF1.blk 0 rfl
      rcases e with e | e | ⟨a,ha,e⟩
      · exact co_ hbk hx.jrn.blk (show T.aD_≠T.aJ_ by decide) e
      · obtain ⟨_,_,_,_,_,_,hh⟩:=hx.jrn.dsk;exact co_ hbk hh (show T.aD_≠T.ax_ by decide) e
      · obtain ⟨cs,hh⟩:=hx.jrn.own.ty ha
        exact co_ hbk hh (show T.aD_≠T.string by decide) e
  refine sJ_ hx' (by omega) (λw2 s k e k1 k2 g2 hA hsx hr ha hbn=>⟨_,_,rfl,hF1.after g2,λw3 hF3=>?_⟩) λhbad=>⟨_,_,rfl,hF1,λw3 hF3=>h2 w3 hbad hF3.chg (hF3.blk 0 rfl)⟩
  have hk3:w3.heap[k0]? = some (.cells #[.pointer (some ⟨s.a,0,none⟩),.pointer (some ⟨bd,0,none⟩),.int .i64 n,.int .i64 0] T.aD_ (0,0)):=hF3.blk 0 rfl
  have g3:Chg (· = k0) w2 w3:=hF3.stp.mono λk _ e=>by simpa using e
  have eP:s.x.p=x.p:=by rw [hsx]
  have eex:s.x.ex=λk=>k=s.bn∨k=k0:=by rw [hsx]
  have ereg:s.x.reg=x.reg:=by rw [hsx];rfl
  have hk2:=(g1.trans g2).size
  have hA3:ba_ N w3 s:=⟨g3.get hA.blk (λe=>by have e':s.a=k0:=e;omega),g3.get hA.row (λe=>by have e':s.bn=k0:=e;omega),hA.pub.jB_ g3 (λk e=>by rw [eex];exact .inr e) (λk e=>by rw [ereg,e];exact hoff),hA.la,hA.ln,hA.n1,hA.n4,hA.off,hA.ex⟩
  refine h1 w3 s k e k1 k2 hF3.chg ⟨?_,hA3,hk,by rw [ereg];exact hoff,by rw [eex];exact .inr rfl⟩ hr (by rw [hsx];exact e2) (by rw [hsx];exact e3) (by rw [hsx];exact e4) (by rw [hsx];exact e5) (λhn=>by
    have h1:NoF w1 x.bd:=e7 (hn.keep g0 λe=>e)
    have h3:=(h1.keep g2 λe=>e).keep g3 λe=>hoff (.inr (.inr (.inr (.inl e.symm))))
    rw [hsx];exact h3)
  show w3.heap[k0]? = some (.cells #[.pointer (some ⟨s.a,0,none⟩),.pointer (some ⟨s.x.bd,0,none⟩),.int .i64 (s.reps.length:Nat),.int .i64 (0:Nat)] T.aD_ (0,0))
  rw [hr,List.length_replicate,hk3,hsx,← e1,e];rfl
end Go.Vc
namespace Go.Vc
open Go Go.MapKept
theorem Rep.zero {recs:List (List UInt8)} {last com:Nat} {man:Nat→Man} (h:Rep recs last com man) (e:recs=[]):man=PSt.zero.man:=by
  obtain ⟨_,rs,h1,_,h3⟩:=h
  subst e
  have:rs=[]:=List.map_eq_nil_iff.1 h1.symm
  subst this
  exact (congrArg PSt.man h3).symm
theorem iM_ {w:World} {n:Int} {K:Value→World→Prop}
    (h1:∀w' k0 s (k:Nat),n=k→1≤k→k≤4→Grow w w'→aA_ w.heap.size w' k0 s 0→s.reps=List.replicate k rp0→s.x.each=10→s.x.last=0→s.x.com=0→s.x.recs=[]→NoF w' s.x.bd→K (.tuple #[.pointer (some ⟨k0,0,none⟩),.nilIface]) w')
    (h2:∀w',n<1∨4<n→Grow w w'→K (.tuple #[.pointer none,.iface T.am_ (.int .i64 1)]) w'):aa_ PR F.kC_ ⟨[.int .i64 n]⟩ w K:=by
  have h0:Fs S0 w [] w:=Fr.init _ w
  refine kC_ n S0 K w (q__ λw0 bd g0 hbd hd hnf=>⟨_,rfl,h0.after g0,λl0 hl0 w1 hF1=>?_⟩)
  have g1:Grow w0 w1:=hF1.grow
  have s0:=g0.size
  have up:∀ {w2:World},Chg (· = l0) w1 w2→Grow w w2:=λg=>(g0.trans g1).then g |>.mono λk hk e=>by have e':k=l0:=e;omega
  have hF:∀ {w2:World} {cs:Array Value},Chg (· = l0) w1 w2→w2.heap[l0]? = some (.cells cs T.aD_ (0,0))→Fs S0 w [⟨l0,cs,T.aD_,true⟩] w2:=λg hb=>hF1.reset.c8_ 0 rfl _ rfl g hb
  refine oQ_ (N:=w.heap.size) (hF1.blk 0 rfl) (hd.keep g1 λe=>e) hbd (show w.heap.size≤l0 by omega) (λw2 s k e k1 k2 g hH hr e2 e3 e4 e5 e6=>⟨_,rfl,_,_,_,_,hF g hH.blk,λ_=>h1 w2 l0 s k e k1 k2 (up g) hH hr e2 e3 e4 e5 (e6 (hnf.keep g1 λe=>e)),(λt x h=>by cases h),.inl rfl⟩) λw2 hbad g hb=>⟨_,rfl,_,_,_,_,hF g hb,(λh=>by cases h),(λt x he=>h2 w2 hbad (up g)),.inr ⟨_,_,rfl⟩⟩
end Go.Vc
namespace Go.Vc
open Go Go.MapKept
structure OpH where
  k:Int
  n:Int
  q:Option Addr
  c:Nat
  l:List (Int × Int)
  m:MsgL
  mq:Option Addr
  mc:Nat
  s:List UInt8
  pq:Option Addr
  pl:Nat
  pc:Nat
  pn:Int
def opHC (o:OpH):List Value:=[.int .i64 o.k,.int .i64 o.n,.slice o.q o.l.length o.c,.int .i64 o.m.kind,.int .i64 o.m.ver,.int .i64 o.m.i,.string (str o.m.text),.slice o.mq o.m.proof.length o.mc,.string (str o.s),.slice o.pq o.pl o.pc,.int .i64 o.pn]
theorem ki_ (o:OpH):(opHC o).length=11:=rfl
structure OpsH (w:World) (y:Option Addr) (ops:List OpH):Prop where
  row:Sl w y (ops.flatMap opHC)
  l:∀o∈ops,Sl w o.q (encE o.l)
  m:∀o∈ops,Sl w o.mq (o.m.proof.map sv8')
theorem OpsH.grow {w w':World} {y:Option Addr} {ops:List OpH} (h:OpsH w y ops) (g:Grow w w'):OpsH w' y ops:=⟨h.row.grow g,λo ho=>(h.l o ho).grow g,λo ho=>(h.m o ho).grow g⟩
def st_ (m:MsgL):Prop:=m.text.length≤6000∧m.proof.length≤30∧∀p∈m.proof,p.length≤100
def ss_ (o:OpH):Prop:=o.l.length≤60∧o.s.length≤300∧o.pl≤50∧st_ o.m∧(o.k=0→o.n≤100)
theorem mn_ {m:MsgL} {q:Option Addr} {c:Nat} {w:World} (hs:Sl w q (m.proof.map sv8')) {K:Value→World→Prop} (hK:∀w' t,Grow w w'→(t=false→st_ m)→K (.bool t) w') :
    aa_ PR F.b6_ ⟨[fM_ m q c]⟩ w K:=by
  refine b6_ m.kind m.ver m.i (str m.text) q m.proof.length c S0 K w λl0 hl0=>⟨λh w0 hF=>hK w0 true hF.gr (λh=>by cases h),λht=>⟨λh w1 hF=>hK w1 true hF.gr (λh=>by cases h),λhp w2 hF2=>?_⟩⟩
  rw [af_] at ht
  refine ⟨λi mm w'=>∃k:Nat,i=k∧k≤m.proof.length∧mm=m.proof.length - k∧∀j,(hj:j<m.proof.length)→j<k→m.proof[j].length≤100,⟨_,0,rfl,by omega,rfl,λj hj h=>by omega⟩,?_⟩
  rintro i D mm w3 ⟨k,rfl,hk,rfl,hall⟩ hF3
  refine ⟨λhlt=>?_,λhge=>hK w3 false hF3.gr λ_=>⟨by omega,by omega,λp hp=>?_⟩⟩
  · have hk':k<m.proof.length:=by omega
    refine (hs.grow hF3.gr).rd (v:=sv8' m.proof[k]) (by simp) (by omega) (by simp [hk']) λa ha=>⟨_,ha,λh=>hK w3 true hF3.gr (λh=>by cases h),λh=>⟨m.proof.length - (k+1),by omega,k+1,by rw [w64 (by omega) (by omega)];rfl,by omega,rfl,λj hj hjk=>?_⟩⟩
    by_cases e:j=k
    · subst e;rw [af_] at h;omega
    · exact hall j hj (by omega)
  · obtain ⟨j,hj,rfl⟩:=List.getElem_of_mem hp
    exact hall j hj (by omega)
theorem mm_ {ops:List OpH} {y:Option Addr} {c n:Nat} {w:World} (h:OpsH w y ops) (hn:n=ops.length) {K:Value→World→Prop} (hK:∀w' t,Grow w w'→(t=false→ops.length≤50∧∀o∈ops,ss_ o)→K (.bool t) w') :
    aa_ PR F.b4_ ⟨[.slice y n c]⟩ w K:=by
  subst hn
  refine b4_ y ops.length c S0 K w ⟨λh=>hK w true (.refl _ _) (λh=>by cases h),λhle=>?_⟩
  refine ⟨λi mm w'=>∃k:Nat,i=k∧k≤ops.length∧mm=ops.length - k∧∀j,(hj:j<ops.length)→j<k→ss_ ops[j],⟨_,0,rfl,by omega,rfl,λj hj h=>by omega⟩,?_⟩
  rintro i D mm w0 ⟨k,rfl,hk,rfl,hall⟩ hF0
  refine ⟨λhlt=>?_,λhge=>hK w0 false hF0.gr λ_=>⟨by omega,λo ho=>?_⟩⟩
  · have hk':k<ops.length:=by omega
    have h0:=h.grow hF0.gr
    have hm:=List.getElem_mem hk'
    refine h0.row.rdN ki_ (by decide) rfl hk' hk' λa hc=>?_
    refine ⟨_,hc 0 _ rfl,_,hc 1 _ rfl,_,_,_,hc 2 _ rfl,_,hc 3 _ rfl,_,hc 4 _ rfl,_,hc 5 _ rfl,_,hc 6 _ rfl,_,_,_,hc 7 _ rfl,_,hc 8 _ rfl,_,_,_,hc 9 _ rfl,_,hc 10 _ rfl,λl8 hl8=>⟨λh w1 hF=>hK w1 true (hF0.gr.trans (hF.unM hl8).grow) (λh=>by cases h),λa1=>⟨λh w1 hF=>hK w1 true (hF0.gr.trans (hF.unM hl8).grow) (λh=>by cases h),λa2=>⟨λh w1 hF=>hK w1 true (hF0.gr.trans (hF.unM hl8).grow) (λh=>by cases h),λa3 w4 hF4=>?_⟩⟩⟩⟩
    rw [af_] at a2
    have g4:Grow w0 w4:=(hF4.unM hl8).grow
    have hF4':=(hF4.unM hl8)
    refine mn_ (m:=ops[k].m) ((h0.m _ hm).grow g4) λw5 t g5 ht=>⟨t,rfl,λe=>⟨hF4.reset.after g5,by subst e;exact hK w5 true (hF0.gr.trans (g4.trans g5)) (λh=>by cases h)⟩,λe=>⟨hF4.reset.after g5,λe0=>⟨λh=>hK w5 true (hF0.gr.trans (g4.trans g5)) (λh=>by cases h),λa4=>?_⟩,λe0=>?_⟩⟩
    all_goals
      refine ⟨ops.length - (k+1),by omega,k+1,by rw [w64 (by omega) (by omega)];rfl,by omega,rfl,λj hj hjk=>?_⟩
      by_cases e':j=k
      · subst e';exact ⟨by omega,by omega,by omega,ht e,λhk0=>by omega⟩
      · exact hall j hj (by omega)
  · obtain ⟨j,hj,rfl⟩:=List.getElem_of_mem ho
    exact hall j hj (by omega)
end Go.Vc
namespace Go.Vc
open Go Go.MapKept
theorem l1_ {w:World} {K:Value→World→Prop} (hK:∀w',Grow w w'→K (.bool true) w'):aa_ PR F.b5_ ⟨[]⟩ w K:=by
  have h0:Fs S0 w [] w:=Fr.init _ w
  refine b5_ S0 K w (iM_ (λw0 k0 s k ek k1 k4 g0 hH hr e1 e2 e3 e4 hnf=>?_) λw0 hbad g0=>absurd hbad (by omega))
  obtain rfl:k=1:=by omega
  have hF0:=h0.after g0
  refine ⟨_,_,rfl,hF0,λ_=>⟨(λh=>by cases h),λa0 ha0 l0 hl0 w1 hF1=>?_⟩,(λt x h=>by cases h),.inl rfl⟩
  cases ha0
  have g1:Grow w0 w1:=hF1.grow
  have hH1:=hH.grow g1
  have s1:=hF1.chg.size
  have old:∀ {L:List Blk} {wa wb:World} {S:Nat→Prop},Fs S0 w L wa→Chg S wa wb→(∀k,S k→w.heap.size≤k)→(∀y,y∈L→¬S y.b)→Fs S0 w L wb:=λhF g hS hL=>hF.step g hL λk hk e=>by have:=hS k e;omega
  have hk0:=hH.lo
  have hlt1:=hH1.act.pub.lt
  refine ct_ hH1 (by omega) (l:=[(0,1)]) (hF1.sl 0 rfl) rfl (by decide) (λw2 x2 mn list hok er em hH2 g2 f3 f4 f5 f8 f9 f2 f11=>?_) (λw2 n hn=>absurd (hnf.keep g1 λe=>e) hn) λw2 v c g2 hv _ hno=>?_
  rotate_left
  · refine absurd ⟨⟨⟨by decide,by decide,by decide,λe he=>?_⟩,by rw [e1];decide,by decide⟩,by decide,?_⟩ hno
    · rw [List.mem_singleton.1 he];decide
    · unfold PubS.room;rw [e4];decide
  have hF2:=old hF1.reset g2 (λk e=>hH1.act.pub.lo k e) (λy hy e=>by
    simp at hy;subst hy
    have:=hH.act.pub.lt _ e
    simp only [] at this;omega)
  refine ⟨_,_,rfl,_,_,hF2,?_⟩
  have hm:e6_ ⟨7,1,0,[],[]⟩:=⟨⟨by decide,by decide⟩,⟨by decide,by decide⟩,by decide,by decide,(λp hp=>by cases hp),by decide⟩
  have hF2':=hF2.sub (List.nil_sublist _)
  refine n8_ (m:=⟨7,1,0,[],[]⟩) (q:=none) (c:=0) (.inl rfl) (λ_ w3 g3=>⟨_,_,rfl,hF2'.after g3,?_⟩) λno=>absurd hm no
  have hF3:=hF2'.after g3
  have hH3:=hH2.grow g3
  have hrl:s.reps.length=1:=by rw [hr];rfl
  have hlen:(bg_ crcN (a3_ ⟨7,1,0,[],[]⟩)).length≤1099511627776:=by
    rw [bh_];have:=fn_ hm;omega
  have noL:∀ {S:Nat→Prop} (y:Blk),y∈([]:List Blk)→¬S y.b:=λy hy=>by cases hy
  refine eC_ hH3 hlen (λhbad=>absurd ⟨by omega,by show (1:Int)≤(s.reps.length:Nat);omega⟩ hbad) (λw4 c v _ _ _ hg _=>by rw [b8_ hm] at hg;cases hg) λw4 j m q outs c hj hfr hg hH4 g4 hout ho=>?_
  rw [b8_ hm] at hg
  cases hg
  obtain rfl:j=0:=by omega
  have hF4:=old hF3 g4 (λk e=>by subst e;exact hH3.act.ln) (λy hy=>by cases hy)
  refine ⟨_,_,_,_,rfl,hF4,?_⟩
  have hr0:s.reps[0]'(by omega)=rp0:=by simp [hr]
  have ereps:s.reps.set 0 (bK_ (s.reps[0]'(by omega)) 7 1 0)=[bK_ rp0 7 1 0]:=by rw [hr0,hr];rfl
  have ereps':(⟨x2,s.a,s.bn,s.reps.set 0 (bK_ (s.reps[0]'(by omega)) 7 1 ((0:Nat):Int))⟩:ActS).reps=[bK_ rp0 7 1 0]:=ereps
  have htg:(⟨x2,s.a,s.bn,s.reps.set 0 (bK_ (s.reps[0]'(by omega)) 7 1 ((0:Nat):Int))⟩:ActS).tgt=1:=by
    unfold ActS.tgt;simp only [];rw [f4,f5,e2,e3];rfl
  have hag:dW_ (⟨x2,s.a,s.bn,s.reps.set 0 (bK_ (s.reps[0]'(by omega)) 7 1 ((0:Nat):Int))⟩:ActS) ((0+1:Nat):Int):=by
    refine ⟨by rw [htg];decide,⟨bK_ rp0 7 1 0,by rw [ereps'];exact List.mem_singleton.2 rfl,rfl,by decide⟩,λr hr' _ _=>?_⟩
    rw [ereps',List.mem_singleton] at hr'
    subst hr'
    rw [htg];decide
  have nf2:NoF w2 x2.bd:=by rw [f2];exact f11 (hnf.keep g1 λe=>e)
  have nf4:NoF w4 x2.bd:=(nf2.keep g3 λe=>e).keep g4 λe=>hH3.act.off.2 (.inr (.inr (.inr (.inl e.symm))))
  refine du_ hH4 hF4.gr.size (by decide) (λr hr'=>by rw [ereps',List.mem_singleton] at hr';subst hr';decide) (λw5 q5 c5 hna=>absurd hag hna) (λw5 s5 q5 c5 _ hH5 g5 b1 b2 b4 b5 b6 b7 b8 b9 b11 b12 b13 _ _ _ _=>?_) (λw5 n hn=>absurd nf4 hn) λw5 _ hroom=>?_
  · have hF5:=old hF4 g5 (λk e=>e.elim (λe=>by subst e;exact hH4.lo) λe=>hH4.act.pub.lo k e) (λy hy=>by cases hy)
    refine ⟨_,_,_,_,rfl,hF5,λ_=>?_,λhne=>absurd (by show ((x2.last:Nat):Int)=1;rw [f4,e2];rfl) hne⟩
    have ec:s5.x.com=1:=by rw [b5];show x2.last=1;rw [f4,e2]
    have I:∀ {J:Nat→Value→Prop},∀t x,(Value.nilIface:Value)=.iface t x→J t x:=λt x h=>by cases h
    exact ⟨λ_=>⟨λ_=>⟨λ_=>⟨λ_=>ad_.2 (ad_.2 (ad_.2 ⟨_,by rw [an_,ap_ hH5.blk];rfl,ad_.2 (ad_.2 (ad_.2 ⟨_,by rw [an_,ap_ hH5.act.blk];rfl,ak_ hH5.act.pub ⟨_,rfl,hF5,λ_=>hK w5 hF5.gr,λhne=>absurd (by rw [ec];rfl) hne⟩⟩))⟩)),(λt x h=>by cases h),.inl rfl⟩,(λt x h=>by cases h),.inl rfl⟩,(λt x h=>by cases h),.inl rfl⟩,(λt x h=>by cases h),.inl rfl⟩
  · exfalso
    have hroom':x2.room<(recC x2.last).length+6:=hroom
    have h5:(recC x2.last).length=1+(ac_ x2.last).length:=by simp [recC];omega
    have h6:=al_ (n:=x2.last) (by rw [f4,e2];decide)
    have h7:=hok.2.2.2.2.1
    unfold PubS.room at hroom'
    rw [er,e4,cJ_,List.length_append,bh_] at hroom'
    simp [logL] at hroom'
    omega
end Go.Vc
namespace Go.Vc
open Go
theorem l4_ {part:List UInt8} (hp:d9_ crcN part=none):∀(k:Nat) (ts:List (List UInt8)),(∀t∈ts,t.length≤60000)→ts.length<k→
    allL crcN k (ts.flatMap (bg_ crcN)++part)=(ts,(ts.flatMap (bg_ crcN)).length)
  | k,[],_,_=>by
    rw [List.flatMap_nil,List.nil_append,l6_ hp];rfl
  | 0,t :: ts,_,h=>by simp at h
  | k+1,t :: ts,ht,h=>by
    have h1:=ju_ m6_ (ht t List.mem_cons_self) (ts.flatMap (bg_ crcN)++part)
    have ih:=l4_ hp k ts (λx hx=>ht x (List.mem_cons_of_mem _ hx)) (by simp at h;omega)
    have hsl:=bh_ crcN t
    rw [List.flatMap_cons,List.append_assoc,l5_ h1]
    have hd:(bg_ crcN t++(ts.flatMap (bg_ crcN)++part)).drop (6+t.length)=ts.flatMap (bg_ crcN)++part:=by
      rw [show 6+t.length=(bg_ crcN t).length by omega,List.drop_left]
    rw [hd,ih,List.length_append]
    simp only [Prod.mk.injEq,true_and];omega
theorem pY_:d9_ crcN []=none:=by unfold d9_;rfl
def sQ_ (part:List UInt8):Prop:=part.length≤200000∧d9_ crcN part=none
theorem rp_ (l:List UInt8) (n:Nat):(str l).extract 0 n=str (l.take n):=by
  apply ByteArray.ext
  apply Array.ext'
  rw [ByteArray.data_extract]
  simp [str]
theorem ra_ {w:World} {b:Nat} {l:List UInt8} (h:cg_ w b (str l)) (hn:NoF w b) {n:Nat} (hl:n≤l.length) {K:Value→World→Prop} (hK:∀w',cg_ w' b (str (l.take n))→NoF w' b→Chg (· = b) w w'→K .nilIface w'):aa_ PR F.hZ_ ⟨[.pointer (some ⟨b,0,none⟩),.int .i64 (n:Nat)]⟩ w K:=by
  obtain ⟨f,q0,q1,c0,c1,hf,h⟩:=h
  have hf1:=hn.eq h
  have h0:Fs (· = b) w [⟨b,dskC f false (str l) (str l) q0 q1 c0 c1 none 0 0,T.ax_,true⟩] w:=(Fr.init _ w).entry h (λx h=>by cases h) λ_=>rfl
  refine kL_ b f false (str l) q0 0 c0 (str l) q1 0 c1 none 0 0 n (· = b) K w h0 ⟨rfl,trivial⟩ (ey_ h ⟨_,rfl,h0,λ_=>⟨λh=>by omega,λ_=>⟨λh=>by rw [af_] at h;omega,λ_=>?_⟩⟩,(λt x h=>by cases h),.inl rfl⟩)
  refine iD_ h hf (λw1 f' hf' hff hb1 g1=>⟨_,rfl,_,_,_,_,_,_,_,_,_,_,_,_,_,h0.mod1 g1 hb1,λ_=>⟨by omega,by rw [af_];omega,λw2 hF2=>?_⟩,(λt x h=>by cases h),.inl rfl⟩) λw1 hff=>absurd hf1 hff
  have e:f' = -1:=hff hf1
  subst e
  have hb2:=hF2.blk 0 rfl
  have hF2':=hF2.reset
  have g2:Chg (· = b) w1 w2:=hF2.stp.mono λk _ e=>by simpa using e
  rw [Int.toNat_natCast,rp_] at hb2 hF2'
  refine gH_ hb2 λw3 q' c' hb3 g3=>⟨rfl,_,_,_,_,_,_,_,_,_,_,_,_,_,hF2'.mod1 g3 hb3,hK w3 ⟨_,_,_,_,_,hf',hb3⟩ (.mk hb3) ((g1.trans g2 λ_ _ e=>e).trans g3 λ_ _ e=>e)⟩
theorem oN_ {w:World} {bd:Nat} {recs:List (List UInt8)} {part:List UInt8} (h:cg_ w bd (str (logL recs++part))) (hn:NoF w bd) (hp:sQ_ part) (hr:∀s∈recs,s.length≤60000) (hl:(logL recs).length≤200000) {K:Value→World→Prop} (hK:∀w' bj q c,Chg (· = bd) w w'→w.heap.size≤bj→cs_ w' bj bd q c recs→NoF w' bd→Off (λj=>j<w.heap.size) q→K (.tuple #[.pointer (some ⟨bj,0,none⟩),.nilIface]) w'):aa_ PR F.gK_ ⟨[.pointer (some ⟨bd,0,none⟩)]⟩ w K:=by
  have hfr:∀ {w':World},Chg (· = bd) w w'→Fs (· = bd) w [] w':=λg=>(Fr.init _ w).step g (λx hx=>by cases hx) λ_ _ e=>e
  have hlt:bd<w.heap.size:=by obtain ⟨_,_,_,_,_,_,hh⟩:=h;exact aj_ hh
  refine fQ_ (some ⟨bd,0,none⟩) (· = bd) K w ?_
  refine n9_ h ⟨_,_,rfl,.init _ w,λ_=>?_,(λt x h=>by cases h),.inl rfl⟩
  obtain ⟨hp1,hp2⟩:=hp
  refine sn_ (by rw [List.length_append];omega) λw1 q c g1 ho hc hof=>?_
  have hall:allL crcN ((logL recs++part).length+1) (logL recs++part)=(recs,(logL recs).length):=l4_ hp2 _ recs hr (by have:=ku_ recs;rw [List.length_append];omega)
  rw [hall] at ho hc ⊢
  have g1':Chg (· = bd) w w1:=g1.mono λ_ _ e=>e.elim
  have s1:=g1.size
  have fin:∀ {w1 w2:World} {b:Nat},Grow w1 w2→w1.heap.size≤b→w.heap.size≤w1.heap.size→Chg (· = bd) w w1→Own T.string 1 w1 q c (recs.map sv8')→cg_ w1 bd (str (logL recs))→NoF w1 bd→w2.heap[b]? = some (.cells #[.pointer (some ⟨bd,0,none⟩),.slice q recs.length c,.int .i64 (logL recs).length] T.aJ_ (0,0))→K (.tuple #[.pointer (some ⟨b,0,none⟩),.nilIface]) w2:=λg2 hb s1 gg ho hd hn hbb=>
    hK _ _ q c (gg.grow g2) (by omega) ⟨hbb,ho.grow g2,hc,hd.keep g2 id,by omega,λa ha=>⟨by have:=ho.lt a ha;omega,by have:=hof a ha;omega⟩⟩ (hn.keep g2 id) hof
  refine ⟨_,_,_,_,rfl,hfr g1',λhlt'=>?_,λhge=>⟨λ_=>?_,(λt x h=>by cases h),.inl rfl⟩⟩
  · refine ra_ (h.keep g1 id) (hn.keep g1 id) (by rw [List.length_append];omega) λw2 hd2 hn2 g2=>⟨_,rfl,hfr (g1.then g2 |>.mono λ_ _ e=>e),λ_=>?_,(λt x h=>by cases h),.inl rfl⟩
    rw [List.take_left] at hd2
    have gg:Chg (· = bd) w w2:=g1.then g2
    have s2:=g2.size
    refine gC_ hd2 ⟨_,rfl,hfr gg,λh=>by omega,λ_=>⟨λ_ b hb w3 hF3=>?_,(λt x h=>by cases h),.inl rfl⟩⟩
    exact fin hF3.grow hb (by omega) gg (ho.keep g2 λa ha e=>by have:=hof a ha;have e':a.block=bd:=e;omega) hd2 hn2 (hF3.blk 0 rfl)
  · have hpn:part=[]:=by
      rw [af_,List.length_append] at hge
      exact List.eq_nil_of_length_eq_zero (by omega)
    subst hpn
    rw [List.append_nil] at h
    refine gC_ (h.keep g1 id) ⟨_,rfl,hfr g1',λh=>by omega,λ_=>⟨λ_ b hb w2 hF2=>?_,(λt x h=>by cases h),.inl rfl⟩⟩
    exact fin hF2.grow hb s1 g1' ho (h.keep g1 id) (hn.keep g1 id) (hF2.blk 0 rfl)
end Go.Vc
namespace Go.Vc
open Go
theorem oo_ {mn:Man} {list:List (List UInt8)} (hL:VerL mn list) (hlen:(recV mn list).length≤60000) {w:World} {K:Value→World→Prop}
    (hK:∀w' b,Grow w w'→w.heap.size≤b→VerO (λj=>j<w.heap.size) w' b mn list→K (.tuple #[.pointer (some ⟨b,0,none⟩),.bool true]) w'):aa_ PR F.pG_ ⟨[.string (str (recV mn list))]⟩ w K:=by
  have hm:=f__ hL.ok
  have e:recV mn list=[86]++(ac_ (aH_ mn).length++(aH_ mn++list.flatten)):=by unfold recV;rw [nG_];simp
  have hp:=dy_ (aH_ mn).length (by omega)
  have hfl:(recV mn list).length=1+((ac_ (aH_ mn).length).length+((aH_ mn).length+list.flatten.length)):=by rw [e,List.length_append,List.length_append,List.length_append];rfl
  have hbl:=hL.blocks
  have hb2:=hL.ok.blocks.2
  have d1:(recV mn list).drop 1=ac_ (aH_ mn).length++(aH_ mn++list.flatten):=by rw [e];rfl
  have d2:(recV mn list).drop (1+(ac_ (aH_ mn).length).length)=aH_ mn++list.flatten:=by rw [← List.drop_drop,d1,List.drop_left' rfl]
  have d3:(recV mn list).drop (1+(ac_ (aH_ mn).length).length+(aH_ mn).length)=list.flatten:=by rw [← List.drop_drop,d2,List.drop_left' rfl]
  generalize hP:(ac_ (aH_ mn).length).length=P at *
  refine ok_ _ S0 K w ?_
  refine cX_ (at_:=1) (n:=(((aH_ mn).length:Nat):Int)) (by omega) (by omega) (by omega) d1 ?_
  rw [Int.toNat_natCast,hP]
  refine ⟨_,_,_,rfl,.init _ w,λ_=>⟨λh=>?_,λ_=>?_⟩,(λt x h=>by cases h),.inl rfl⟩
  · rw [af_,w64 (by omega) (by omega)] at h;omega
  rw [af_,w64 (by omega) (by omega)]
  have en:Int.toNat (((1+P:Nat):Int)+(((aH_ mn).length:Nat):Int))=1+P+(aH_ mn).length:=by omega
  have ex1:ByteArray.extract (str (recV mn list)) (Int.toNat ((1+P:Nat):Int)) (1+P+(aH_ mn).length)=str (aH_ mn):=by
    rw [a6_,Int.toNat_natCast,d2,List.take_left' (by omega)]
  have ex2:ByteArray.extract (str (recV mn list)) (1+P+(aH_ mn).length) ((recV mn list).length)=str list.flatten:=by
    rw [a6_,d3,List.take_of_length_le (by omega)]
  rw [en,ex1]
  refine ⟨by omega,by omega,by omega,by omega,?_⟩
  refine tt_ hL.ok λw1 q c g1 ho hc hof=>⟨_,_,_,_,_,_,_,_,_,rfl,(Fr.init _ w).after g1,λl2 hl2=>⟨λ_=>⟨by omega,by omega,λl3 hl3 w2 hF2=>?_⟩,(λt x h=>by cases h),.inl rfl⟩⟩
  have hF2':=(hF2.unM hl2)
  rw [ex2] at hF2'
  have g12:Grow w1 w2:=hF2'.grow
  have cf:[list.flatten].flatten=list.flatten:=by simp
  refine ob_ (xs:=[list.flatten]) (hF2'.sl 1 rfl) rfl (Nat.le_refl _) (by simp) (by rw [cf];omega) λw3 q1 c1 g3 ho1 hc1 hof1=>?_
  rw [cf,hL.cut] at ho1 hc1 ⊢
  refine ⟨_,_,_,rfl,?_,λ_ w4 hF4=>?_,λhne=>absurd hbl.symm hne⟩
  · rw [ex2];exact hF2'.reset.after g3
  have g4:Grow w3 w4:=hF4.grow
  refine md_ (ho1.sl.grow g4) rfl (by omega) (λx hx=>by have:=hL.small x hx;omega) λw5 g5=>⟨_,rfl,hF4.reset.after g5,λ_ l6 hl6 w6 hF6=>?_,λhne=>absurd (by rw [hL.root]) hne⟩
  have s1:=g1.size
  have s2:=g12.size
  have s3:=g3.size
  have s4:=g4.size
  have s5:=g5.size
  have g6:Grow w5 w6:=hF6.grow
  have g26:Grow w2 w6:=((g3.trans g4).trans g5).trans g6
  have hofq:∀ {n:Nat} {q:Option Addr},Off (λj=>j<n) q→w.heap.size≤n→Off (λj=>j<w.heap.size) q:=λh hn=>h.mono hn
  refine hK w6 l6 (((g1.trans g12).trans g26)) (by omega) ⟨q,c,q1,c1,hF6.blk 0 rfl,by omega,(((ho.grow g12).grow g26).sl).out hof,((((ho1.grow g4).grow g5).grow g6).sl).out (hof1.mono (by omega)),hc1⟩
theorem dc_ {s p:ByteArray} {w:World} {K:Value→World→Prop} (hK:K (.bool (decide (p.size≤s.size∧s.extract 0 p.size=p))) w):aa_ PR F.strings_HasPrefix ⟨[.string s,.string p]⟩ w K:=by
  have h0:Fs S0 w [] w:=Fr.init _ w
  refine strings_HasPrefix s p S0 K w (a5_ s p S0 _ w ⟨λhge=>⟨by omega,by omega,λhe=>?_,λhne=>?_⟩,λhlt=>?_⟩)
  · rw [decide_eq_true ⟨by omega,he⟩] at hK
    exact ⟨true,rfl,λ_=>⟨h0,hK⟩,λh=>by cases h⟩
  · rw [decide_eq_false (λh=>hne h.2)] at hK
    exact ⟨false,rfl,(λh=>by cases h),λ_=>⟨h0,hK⟩⟩
  · rw [decide_eq_false (λh=>by omega)] at hK
    exact ⟨false,rfl,(λh=>by cases h),λ_=>⟨h0,hK⟩⟩
theorem jq_ {c:UInt8} {l:List UInt8} : decide ((str [c]).size≤(str (c :: l)).size∧(str (c :: l)).extract 0 (str [c]).size=str [c])=true:=by
  apply decide_eq_true
  refine ⟨by simp [af_],?_⟩
  rw [a6_,af_];simp
theorem pI_ {c d:UInt8} {l:List UInt8} (h:d≠c):decide ((str [c]).size≤(str (d :: l)).size∧(str (d :: l)).extract 0 (str [c]).size=str [c])=false:=by
  apply decide_eq_false
  rintro ⟨_,h1⟩
  rw [a6_,af_] at h1
  have:=str_inj h1
  simp at this
  exact h this
end Go.Vc
namespace Go.Vc
open Go Go.MapKept
structure PubR (recs:List (List UInt8)) (D:Nat→Prop) (w:World) (p bj m each:Nat) (s:PSt) (R:Value→Value→Prop):Prop where
  blk:w.heap[p]? = some (.cells (pubC bj each s.last s.com m) T.aR_ (0,0))
  map:∃n,MapP w T.int m n R
  kept:∀k v,R k v→KeptAt D w recs s.last s.man k v
  has:∀i:Nat,1≤i→i≤s.last→s.last<i+3∨i=s.com→∃v,R (.int .i64 (i:Int)) v
  only:∀(i:Nat) v,R (.int .i64 (i:Int)) v→s.last<i+3∨i=s.com
  com_le:s.com≤s.last
theorem KeptAt.shown {D:Nat→Prop} {w:World} {recs:List (List UInt8)} {last:Nat} {man:Nat→Man} {R:Value→Value→Prop} (hl:last≤1000000) (h:∀k v,R k v→KeptAt D w recs last man k v):hF_ R:=by
  intro k v hr
  obtain ⟨i,b,c,mn,list,h1,h2,h3,h4,_⟩:=h k v hr
  exact ⟨i,b,c,by omega,h3,h4⟩
theorem mK_ {recs:List (List UInt8)} {D:Nat→Prop} {w:World} {p bj m each:Nat} {s:PSt} {R:Value→Value→Prop} (h:PubR recs D w p bj m each s R) (hD:∀k,D k→k<w.heap.size) (hp:D p) (hm:D m) (hl:s.last≤200000) {r:RecO} (hr:r.ok s) (hlen:r.bytes.length≤60000) (hin:r.bytes∈recs) {K:Value→World→Prop}
    (hK:∀w' R',Chg (λk=>k=p∨k=m) w w'→PubR recs D w' p bj m each (r.step s) R'→K (.tuple #[]) w'):aa_ PR F.gU_ ⟨[.pointer (some ⟨p,0,none⟩),.string (str r.bytes)]⟩ w K:=by
  obtain ⟨n,hmap⟩:=h.map
  have hpm:=gl_ h.blk hmap
  have hsh:hF_ R:=KeptAt.shown (by omega) h.kept
  have hcl:=h.com_le
  have h0:Fs (λk=>k=p∨k=m) w [⟨p,pubC bj each s.last s.com m,T.aR_,true⟩] w:=(Fr.init _ w).entry h.blk (λx h=>by cases h) λ_=>.inl rfl
  have hS:∀k,(k=p∨k=m)→D k:=λk e=>by rcases e with rfl | rfl;exact hp;exact hm
  refine iQ_ p (some ⟨bj,0,none⟩) each s.last s.com (some m) (str r.bytes) (λk=>k=p∨k=m) K w h0 ⟨.inl rfl,trivial⟩ ?_
  cases r with
  | ver mn list=>
    obtain ⟨hL,hv⟩:=hr
    have e:recV mn list=86 :: (ao_ [aH_ mn]++list.flatten):=by simp [recV]
    have hpre:=jq_ (c:=86) (l:=ao_ [aH_ mn]++list.flatten)
    rw [← e] at hpre
    refine dc_ (s:=str (recV mn list)) (p:=str [86]) ?_
    rw [hpre]
    refine ⟨true,rfl,λ_=>⟨h0,?_⟩,λh=>by cases h⟩
    refine oo_ hL hlen λw1 b g1 hb hvo=>⟨_,true,rfl,λ_=>⟨h0.after g1,λw2 hF2=>?_⟩,λh=>by cases h⟩
    have g2:Grow w1 w2:=hF2.grow
    have hvo2:VerO D w2 b mn list:=(hvo.keep (D':=D) (.refl (λ_=>False) _) (λ_ _ e=>e.elim) λk _ e=>hD k e).keep g2 (λ_ _ e=>e.elim) λ_ _ e=>e
    have hc:w2.cell? ⟨b,0,none⟩=some (.int .i64 ((s.last+1:Nat):Int)):=by
      obtain ⟨q,c,ql,cl,h1,_⟩:=hvo2
      rw [ap_ h1,← hv];rfl
    refine ⟨λw'=>w'.cell? ⟨b,0,none⟩=some (.int .i64 ((s.last+1:Nat):Int)),hc,?_⟩
    refine ad_.2 (ad_.2 (ad_.2 (ad_.2 ⟨_,λw3 h=>h,λ_=>?_,λhh=>absurd (show ((s.last+1:Nat):Int)>(s.last:Nat) by omega) hh⟩)))
    have g02:Grow w w2:=g1.trans g2
    refine lb_ (ver:=s.last+1) (mn:=mn) (list:=list) (hF2.blk 0 rfl) (hmap.grow g02) hsh (hvo2.keep (.refl (λ_=>False) _) (λ_ _ e=>e.elim) λk _ e=>hS k e) hL hv (by omega) λw3 c n3 g3 hb3 hm3 hT3=>?_
    have hF3:=hF2.reset.mod g3 hb3 (λx hx=>by cases hx) λk _ e=>e
    refine ⟨rfl,_,_,_,_,_,hF3,hK w3 _ hF3.chg ⟨hb3,⟨n3,hm3⟩,?_,?_,λi v hr=>kj_ hr.2,by show s.com≤s.last+1;omega⟩⟩
    · rintro k v ⟨hr,_⟩
      rcases hr with ⟨rfl,rfl⟩ | ⟨hne,hr⟩
      · exact ⟨s.last+1,b,c,mn,list,by omega,Nat.le_refl _,rfl,rfl,hvo2.keep g3 (λk _ e=>hS k e) (λ_ _ e=>e),hL,hv,by show mn=if s.last+1=s.last+1 then mn else s.man (s.last+1);rw [if_pos rfl],hT3.keep (.refl (λ_=>False) _) (λ_ _ e=>e.elim) (λk _ e=>Nat.lt_of_lt_of_le (hD k e) g02.size),hin⟩
      · obtain ⟨i,b',c',mn',list',k1,k2,k3,k4,k5,k6,k7,k8,k9,k10⟩:=h.kept k v hr
        exact ⟨i,b',c',mn',list',k1,by show i≤s.last+1;omega,k3,k4,(k5.keep g02 (λ_ _ e=>e.elim) (λ_ _ e=>e)).keep g3 (λk _ e=>hS k e) (λ_ _ e=>e),k6,k7,(by show mn'=if i=s.last+1 then mn else s.man i;rw [if_neg (by omega)];exact k8),(k9.keep g02 (λ_ _ e=>e.elim) (λ_ _ e=>e)).keep g3 (λk _ e=>hS k e) (λ_ _ e=>e),k10⟩
    · intro i hi1 hi2 hi3
      have hi2':i≤s.last+1:=hi2
      have hi3':s.last+1<i+3∨i=s.com:=hi3
      have hnd:¬delP ((s.last+1:Nat):Int) s.com (.int .i64 (i:Int)):=by
        rintro ⟨j,hj,k1,k2⟩
        have e2:(i:Int)=j:=by injection hj
        subst e2
        rcases hi3' with h' | h'
        · omega
        · exact k2 (by rw [h'])
      by_cases hi:i=s.last+1
      · subst hi;exact ⟨_,.inl ⟨rfl,rfl⟩,hnd⟩
      · obtain ⟨v,hv⟩:=h.has i hi1 (by omega) (hi3'.imp (λh=>by omega) id)
        refine ⟨v,.inr ⟨λe=>hi ?_,hv⟩,hnd⟩
        have e2:(i:Int)=((s.last+1:Nat):Int):=by injection e
        omega
  | com ver=>
    obtain ⟨h1,h2,h3⟩:=hr
    have h1':s.com<ver:=h1
    have h2':ver≤s.last:=h2
    have h3':s.last<ver+3:=h3
    have e:recC ver=67 :: ac_ ver:=rfl
    refine dc_ (s:=str (recC ver)) (p:=str [86]) ?_
    rw [e,pI_ (by decide)]
    refine ⟨false,rfl,(λh=>by cases h),λ_=>⟨h0,?_⟩⟩
    refine dc_ (s:=str (recC ver)) (p:=str [67]) ?_
    rw [e,jq_]
    refine ⟨true,rfl,λ_=>⟨h0,?_⟩,λh=>by cases h⟩
    have hp8:=dy_ ver (by omega)
    refine cX_ (at_:=1) (l:=67 :: ac_ ver) (n:=((ver:Nat):Int)) (r:=[]) (by simp;omega) (by omega) (by simp) (by simp) ?_
    rw [Int.toNat_natCast]
    refine ⟨_,_,_,rfl,h0,λ_=>⟨λ_=>?_,λhne=>absurd (by show _=((ByteArray.size (str (67 :: ac_ ver)):Nat):Int);rw [af_,List.length_cons,Nat.add_comm]) hne⟩,(λt x h=>by cases h),.inl rfl⟩
    obtain ⟨v,hv⟩:=h.has ver (by omega) h2' (.inl h3')
    refine iz_ h.blk hmap hsh (by omega) hv h1' λw1 n1 g1 hb1 hm1=>?_
    have hF1:=h0.mod g1 hb1 (λx hx=>by cases hx) λk _ e=>e
    refine ⟨rfl,_,_,_,_,_,hF1,hK w1 _ hF1.chg ⟨hb1,⟨n1,hm1⟩,λk v hr=>(h.kept k v hr.1).keep g1 (λk _ e=>hS k e) (λ_ _ e=>e) (Nat.le_refl _) (λ_ h=>h),λi hi1 hi2 hi3=>?_,λi v hr=>kj_ hr.2,h2'⟩⟩
    have hi3':s.last<i+3∨i=ver:=hi3
    have hnd:¬delP s.last ver (.int .i64 (i:Int)):=by
      rintro ⟨j',hj',a1,a2⟩
      have e2:(i:Int)=j':=by injection hj'
      subst e2
      rcases hi3' with h' | h'
      · omega
      · exact a2 (by rw [h'])
    rcases hi3' with h' | rfl
    · obtain ⟨v,hv⟩:=h.has i hi1 hi2 (.inl h')
      exact ⟨v,hv,hnd⟩
    · exact ⟨_,hv,hnd⟩
theorem py_ {rs:List RecO} : ∀(k:Nat) (s:PSt),okR s rs→(hk:k<rs.length)→rs[k].ok (runR s (rs.take k))∧runR s (rs.take (k+1))=rs[k].step (runR s (rs.take k)):=by
  induction rs with
  | nil=>intro k s _ hk;simp at hk
  | cons r rs ih=>
    intro k s h hk
    cases k with
    | zero=>exact ⟨h.1,rfl⟩
    | succ k=>exact ih k (r.step s) h.2 (by simpa using hk)
theorem li_ {rs:List RecO} : ∀(s:PSt),(runR s rs).last≤s.last+rs.length:=by
  induction rs with
  | nil=>intro s;simp [runR]
  | cons r rs ih=>
    intro s
    have:=ih (r.step s)
    have h1:(r.step s).last≤s.last+1:=by cases r <;> simp [RecO.step]
    simp only [runR,List.length_cons];omega
theorem qZ_ {N:Nat} {w:World} {bd each:Nat} {recs:List (List UInt8)} {last com:Nat} {man:Nat→Man} {part:List UInt8} (hd:cg_ w bd (str (logL recs++part))) (hnf:NoF w bd) (hpart:sQ_ part) (hrep:Rep recs last com man) (hlog:(logL recs).length≤200000) (hN:N≤bd) (hN2:N≤w.heap.size) (he:1≤each) (he2:each≤4096) {K:Value→World→Prop}
    (hK:∀w' x,Chg (· = bd) w w'→aK_ N w' x→NoF w' bd→x.bd=bd→x.each=each→x.last=last→x.com=com→x.recs=recs→x.man=man→w.heap.size≤x.p→(x.ex=λk=>k<w.heap.size)→(∀k,x.reg k→k=bd∨w.heap.size≤k)→K (.tuple #[.pointer (some ⟨x.p,0,none⟩),.nilIface]) w'):aa_ PR F.nI_ ⟨[.pointer (some ⟨bd,0,none⟩),.int .i64 each]⟩ w K:=by
  have hf:∀ {w':World},Chg (· = bd) w w'→Fs (· = bd) w [] w':=λg=>(Fr.init _ w).step g (λx hx=>by cases hx) λ_ _ e=>e
  obtain ⟨hr0,rs,hrs,hok,hrun⟩:=id hrep
  have hrl:=ku_ recs
  have hrsl:rs.length=recs.length:=by rw [hrs,List.length_map]
  refine lr_ (some ⟨bd,0,none⟩) each (· = bd) K w ⟨λh=>by omega,λ_=>⟨λh=>by omega,λ_=>?_⟩⟩
  refine oN_ hd hnf hpart hr0 hlog λw1 bj q c g1 hbj hj hn1 hqof=>⟨_,_,rfl,hf g1,λ_=>?_,(λt x h=>by cases h),.inl rfl⟩
  refine mT_ (k:=T.int) λw2 m hme hm g2=>⟨_,rfl,hf (g1.grow g2),λp hp w3 hF3=>?_⟩
  have g3:Grow w2 w3:=hF3.grow
  have hj3:=(hj.grow g2).grow g3
  refine mi_ hj3 (by omega) λw4 q' c' g4 ho4=>⟨_,_,_,rfl,hF3.after g4,?_⟩
  have hF4:=hF3.after g4
  have hj4:=hj3.grow g4
  have s1:=g1.size
  have s2:=g2.size
  have s3:=g3.size
  have s4:=g4.size
  have hml:=hm.lt
  have hpl:p<w4.heap.size:=hF4.lt _ List.mem_cons_self
  have hm4:=(hm.grow g3).grow g4
  have hjp:¬jrnS bj bd q p:=hj4.pub (hF4.blk 0 rfl)
  have hjm:¬jrnS bj bd q m:=hj4.mapb hm4
  let D:Nat→Prop:=λk=>(k=p∨k=m∨jrnS bj bd q k)∨k<w.heap.size
  have hD4:∀k,D k→k<w4.heap.size:=by
    rintro k ((rfl | rfl | h) | h)
    · exact hpl
    · omega
    · exact hj4.lt k h
    · omega
  have hq4p:Off (λk=>k=p∨k=m) q':=by
    intro a ha e
    rcases ho4 with ⟨h,_⟩ | ⟨b,o,cs,h,hb,_⟩
    · rw [h] at ha;cases ha
    · rw [h] at ha;cases ha
      rcases e with e | e
      · exact co_ hb (hF4.blk 0 rfl) (show T.string≠T.aR_ by decide) e
      · exact gl_ hb hm4 e
  have hwp:∀k,(k=p∨k=m)→w.heap.size≤k:=by rintro k (rfl | rfl) <;> omega
  refine ⟨λi qq n1 n2 n3 q4 l w'=>∃(k:Nat) (R:Value→Value→Prop),i=k∧k≤rs.length∧l=rs.length - k∧qq=some ⟨bj,0,none⟩∧n1=each∧n2=(runR .zero (rs.take k)).last∧n3=(runR .zero (rs.take k)).com∧q4=some m∧PubR recs D w' p bj m each (runR .zero (rs.take k)) R∧Chg (λk=>k=p∨k=m) w4 w',⟨_,0,λ_ _=>False,rfl,by omega,rfl,rfl,rfl,rfl,rfl,rfl,
    ⟨hF4.blk 0 rfl,⟨0,hm4⟩,λk v h=>h.elim,λi h1 h2 _=>absurd (Nat.le_trans h1 h2) (by simp [runR,PSt.zero]),λi v h=>h.elim,Nat.le_refl _⟩,.refl _ _⟩,?_⟩
  rintro i qq n1 n2 n3 q4 Dv l w5 ⟨k,R,rfl,hk,rfl,rfl,rfl,rfl,rfl,rfl,hR,g5⟩ hF5
  have hD5:∀k,D k→k<w5.heap.size:=λk hk=>Nat.lt_of_lt_of_le (hD4 k hk) g5.size
  refine ⟨λhlt=>?_,λhge=>?_⟩
  · have hk':k<rs.length:=by omega
    have hk2:k<recs.length:=by omega
    obtain ⟨hok1,hstep⟩:=py_ k .zero hok hk'
    have hsl:Sl w5 q' (recs.map sv8'):=(ho4.keep g5 hq4p).sl
    have hlast:(runR .zero (rs.take k)).last≤200000:=by
      have:=li_ (rs:=rs.take k) .zero
      rw [List.length_take] at this
      have hz:PSt.zero.last=0:=rfl
      omega
    have hbl:rs[k].bytes.length≤60000:=hr0 _ (by rw [hrs];exact List.mem_map.2 ⟨_,List.getElem_mem hk',rfl⟩)
    refine hsl.rd (v:=sv8' (rs[k].bytes)) (by simp) (by omega) (by rw [Int.toNat_natCast,hrs];simp [hk']) λa ha=>⟨_,ha,?_⟩
    refine mK_ hR hD5 (.inl (.inl rfl)) (.inl (.inr (.inl rfl))) hlast hok1 hbl (by rw [hrs];exact List.mem_map.2 ⟨_,List.getElem_mem hk',rfl⟩) λw6 R6 g6 hR6=>?_
    rw [← hstep] at hR6
    refine ⟨rfl,_,_,_,_,_,hF5.mod g6 hR6.blk (λx hx=>by cases hx) (λk hk e=>absurd (hwp k e) (by omega)),rs.length - (k+1),by omega,k+1,R6,by rw [w64 (by omega) (by omega)];rfl,by omega,rfl,rfl,rfl,rfl,rfl,rfl,hR6,g5.trans g6 λk _ e=>e⟩
  · have hk':k=rs.length:=by omega
    subst hk'
    rw [List.take_length,hrun] at hR
    obtain ⟨n,hmap⟩:=hR.map
    have hj5:cs_ w5 bj bd q c recs:=hj4.keep g5 λk e hk=>by rcases e with rfl | rfl;exact hjp hk;exact hjm hk
    have gg:Chg (· = bd) w w4:=((g1.grow g2).grow g3).grow g4
    have gw:Chg (· = bd) w w5:=gg.trans g5 λk hk e=>absurd (hwp k e) (by omega)
    have hbdl:bd<w.heap.size:=by obtain ⟨_,_,_,_,_,_,hh⟩:=hd;exact aj_ hh
    have hn5:NoF w5 bd:=((((hn1.keep g2 id).keep g3 id).keep g4 id)).keep g5 λe=>by have:=hwp _ e;omega
    have hlst:last≤recs.length:=by
      have:=li_ (rs:=rs) .zero
      rw [hrun] at this
      have hz:PSt.zero.last=0:=rfl
      simp only [] at this
      omega
    have hrg:∀k,(k=p∨k=m∨jrnS bj bd q k)→k=bd∨w.heap.size≤k:=by
      rintro k (e | e | e | e | ⟨a,ha,e⟩)
      · exact .inr (by omega)
      · exact .inr (by omega)
      · exact .inr (by omega)
      · exact .inl e
      · have:=hqof a ha;exact .inr (by omega)
    refine hK w5 ⟨p,bj,bd,m,each,q,c,last,com,recs,R,man,λk=>k<w.heap.size⟩ gw ⟨hR.blk,hj5,⟨n,hmap⟩,λk v hr=>(hR.kept k v hr).keep (.refl (λ_=>False) _) (λ_ _ e=>e.elim) (λk _ e=>e) (Nat.le_refl _) (λ_ h=>h),hR.has,hR.com_le,hlst,hlog,he,he2,?_,λk hk=>Nat.lt_of_lt_of_le hk gw.size,hR.only,hrep⟩ hn5 rfl rfl rfl rfl rfl rfl (by show w.heap.size≤p;omega) rfl hrg
    rintro k (e | e | e | e | ⟨a,ha,e⟩)
    · have e':k=p:=e
      omega
    · have e':k=m:=e
      omega
    · have e':k=bj:=e
      omega
    · have e':k=bd:=e
      omega
    · have:=hqof a ha;omega
end Go.Vc
namespace Go.Vc
open Go
theorem oA_ (k0:Nat) (m1:Int) (t2:Bool) (z3:ByteArray) (y4:Option Addr) (ly4:Nat) (cy4:Nat) (z5:ByteArray) (y6:Option Addr) (ly6:Nat) (cy6:Nat) (y7:Option Addr) (ly7:Nat) (cy7:Nat) (y8:Option Addr) (ly8:Nat) (cy8:Nat) (m9:Int) (S:SP) (K:KP) (w:World) (hF:Fs S w [⟨k0,#[.int .i64 m1,.bool t2,.string z3,.slice y4 ly4 cy4,.string z5,.slice y6 ly6 cy6,.slice y7 ly7 cy7],91,true⟩] w) (hS:S k0∧True) (h:∀l0,w.heap.size≤l0→∀w0,Fr S w w [] [⟨k0,#[Iv m1,.bool t2,.string z3,.slice y4 ly4 cy4,.string z5,.slice y6 ly6 cy6,.slice y7 ly7 cy7],91,true⟩,⟨l0,#[.slice y8 ly8 cy8,Iv m9],29,true⟩] w0→let B0:Blk:=⟨l0,#[.slice y8 ly8 cy8,Iv m9],29,true⟩;∃I0:World→Prop,I0 w0∧(0:Int)≤(if (ly7:Int)<(ly8:Int) then (ly7:Int) else (ly8:Int))∧((if (ly7:Int)<(ly8:Int) then (ly7:Int) else (ly8:Int)):Int)≤(cy8:Int)∧∃I1:ByteArray→Int→Int→Bool→ByteArray→(Option Addr)→Nat→Nat→ByteArray→(Option Addr)→Nat→Nat→(Option Addr)→Nat→Nat→Nat→World→Prop,(∃l1,I1 ⟨#[]⟩ 0 m1 t2 z3 y4 ly4 cy4 z5 y6 ly6 cy6 y7 ly7 cy7 l1 w0)∧∀s0 n0 n1 b0 s1 q0 l2 l3 s2 q1 l4 l5 q2 l6 l7,∀D0:Nat→Value,∀l8 w1,I1 s0 n0 n1 b0 s1 q0 l2 l3 s2 q1 l4 l5 q2 l6 l7 l8 w1→Fs S w [⟨k0,#[Iv n1,.bool b0,.string s1,.slice q0 l2 l3,.string s2,.slice q1 l4 l5,.slice q2 l6 l7],91,true⟩,B0] w1→let B1:Blk:=⟨k0,#[Iv n1,.bool b0,.string s1,.slice q0 l2 l3,.string s2,.slice q1 l4 l5,.slice q2 l6 l7],91,true⟩;(n0<(((Int.toNat (if (ly7:Int)<(ly8:Int) then (ly7:Int) else (ly8:Int)) - 0):Nat):Int)→Dr (if cy8=0 then y8 else Option.map (λa0=>Addr.add a0 0) y8) λa1=>(0:Int)≤n0∧n0<(((Int.toNat (if (ly7:Int)<(ly8:Int) then (ly7:Int) else (ly8:Int)) - 0):Nat):Int)∧Dr (some (Addr.add a1 (Int.toNat n0*1))) λa2=>∃b1,World.cell? w1 a2=some (.bool b1)∧(b1=true→Dr q2 λa3=>(0:Int)≤n0∧n0<(l6:Int)∧Dr (some (Addr.add a3 (Int.toNat n0*2))) λa4=>∃n2,World.cell? w1 (Addr.add a4 0)=some (Iv n2)∧∃s3,World.cell? w1 (Addr.add a4 1)=some (.string s3)∧∀l9,w1.heap.size≤l9→(0:Int)≤IntKind.wrap .i64 (n0+1)∧IntKind.wrap .i64 (n0+1)≤(((Int.toNat (if (ly7:Int)<(ly8:Int) then (ly7:Int) else (ly8:Int)) - 0):Nat):Int)∧∀w2,Fr S w w1 [l9] [B1,B0,⟨l9,#[Iv n2,.string s3],163,true⟩] w2→let B2:Blk:=⟨l9,#[Iv n2,.string s3],163,true⟩;aa_ PR 79 #[.slice (if ((cy8 - 0):Nat)=Int.toNat (IntKind.wrap .i64 (n0+1)) then (if cy8=0 then y8 else Option.map (λa5=>Addr.add a5 0) y8) else Option.map (λa6=>Addr.add a6 (Int.toNat (IntKind.wrap .i64 (n0+1))*1)) (if cy8=0 then y8 else Option.map (λa7=>Addr.add a7 0) y8)) (((Int.toNat (if (ly7:Int)<(ly8:Int) then (ly7:Int) else (ly8:Int)) - 0):Nat) - (Int.toNat (IntKind.wrap .i64 (n0+1)))) (((cy8 - 0):Nat) - (Int.toNat (IntKind.wrap .i64 (n0+1)))),.bool true] w2 λv0 w3=>∃b2,v0=.bool b2∧(b2=true→Fs S w [B1,B0,B2] w3∧(n2=(-1)→((ByteArray.size s0+(ByteArray.size s3)):Nat)≤9223372036854775807∧∀w4,Fr S w w3 [l9] [B1,B0,⟨l9,#[Iv n2,.string (s0++s3)],163,true⟩] w4→∃I2:World→Prop,I2 w4∧aa_ PR 81 #[.pointer (some (⟨k0,4,none⟩)),.agg #[Iv n2,.string (s0++s3)]] w4 λv1 w5=>v1=.tuple #[]∧∃n3 b3 s4 q3 l10 l11 s5 q4 l12 l13 q5 l14 l15,Fs S w [⟨k0,#[Iv n3,.bool b3,.string s4,.slice q3 l10 l11,.string s5,.slice q4 l12 l13,.slice q5 l14 l15],91,true⟩,B0,⟨l9,#[Iv n2,.string (s0++s3)],163,true⟩] w5∧∃l16,l16<l8∧I1 ⟨#[]⟩ (IntKind.wrap .i64 (n0+1)) n3 b3 s4 q3 l10 l11 s5 q4 l12 l13 q5 l14 l15 l16 w5)∧(¬(n2=(-1))→∀w6,Fr S w w3 [] [B1,B0,B2] w6→∃I3:World→Prop,I3 w6∧aa_ PR 81 #[.pointer (some (⟨k0,4,none⟩)),.agg #[Iv n2,.string s3]] w6 λv2 w7=>v2=.tuple #[]∧∃n4 b4 s6 q6 l17 l18 s7 q7 l19 l20 q8 l21 l22,Fs S w [⟨k0,#[Iv n4,.bool b4,.string s6,.slice q6 l17 l18,.string s7,.slice q7 l19 l20,.slice q8 l21 l22],91,true⟩,B0,B2] w7∧∃l23,l23<l8∧I1 s0 (IntKind.wrap .i64 (n0+1)) n4 b4 s6 q6 l17 l18 s7 q7 l19 l20 q8 l21 l22 l23 w7))∧(b2=false→Fs S w [B1,B0,B2] w3∧∀w8,Fr S w w3 [] [B1,B0,B2] w8→∃I4:World→Prop,I4 w8∧Dr (some (⟨l9,0,none⟩)) λa8=>∃n5,(∀w9,I4 w9→World.cell? w9 (Addr.add a8 0)=some (Iv n5))∧∃s8,(∀w10,I4 w10→World.cell? w10 (Addr.add a8 1)=some (.string s8))∧aa_ PR 80 #[.pointer (some (⟨k0,4,none⟩)),.agg #[Iv n5,.string s8],Iv m9] w8 λv3 w11=>∃n6 s9,v3=.agg #[Iv n6,.string s9]∧Fs S w [B1,B0,B2] w11∧I4 w11∧(n6=(-1)→((ByteArray.size s0+(ByteArray.size s9)):Nat)≤9223372036854775807∧∀w12,Fr S w w11 [l9,l9] [B1,B0,⟨l9,#[Iv n6,.string (s0++s9)],163,true⟩] w12→∃I5:World→Prop,I5 w12∧aa_ PR 81 #[.pointer (some (⟨k0,4,none⟩)),.agg #[Iv n6,.string (s0++s9)]] w12 λv4 w13=>v4=.tuple #[]∧∃n7 b5 s10 q9 l24 l25 s11 q10 l26 l27 q11 l28 l29,Fs S w [⟨k0,#[Iv n7,.bool b5,.string s10,.slice q9 l24 l25,.string s11,.slice q10 l26 l27,.slice q11 l28 l29],91,true⟩,B0,⟨l9,#[Iv n6,.string (s0++s9)],163,true⟩] w13∧∃l30,l30<l8∧I1 ⟨#[]⟩ (IntKind.wrap .i64 (n0+1)) n7 b5 s10 q9 l24 l25 s11 q10 l26 l27 q11 l28 l29 l30 w13)∧(¬(n6=(-1))→∀w14,Fr S w w11 [l9] [B1,B0,⟨l9,#[Iv n6,.string s9],163,true⟩] w14→∃I6:World→Prop,I6 w14∧aa_ PR 81 #[.pointer (some (⟨k0,4,none⟩)),.agg #[Iv n6,.string s9]] w14 λv5 w15=>v5=.tuple #[]∧∃n8 b6 s12 q12 l31 l32 s13 q13 l33 l34 q14 l35 l36,Fs S w [⟨k0,#[Iv n8,.bool b6,.string s12,.slice q12 l31 l32,.string s13,.slice q13 l33 l34,.slice q14 l35 l36],91,true⟩,B0,⟨l9,#[Iv n6,.string s9],163,true⟩] w15∧∃l37,l37<l8∧I1 s0 (IntKind.wrap .i64 (n0+1)) n8 b6 s12 q12 l31 l32 s13 q13 l33 l34 q14 l35 l36 l37 w15)))∧(b1=false→Dr q2 λa9=>(0:Int)≤n0∧n0<(l6:Int)∧Dr (some (Addr.add a9 (Int.toNat n0*2))) λa10=>∃n9,World.cell? w1 (Addr.add a10 0)=some (Iv n9)∧∃s14,World.cell? w1 (Addr.add a10 1)=some (.string s14)∧∀l38,w1.heap.size≤l38→(n9=(-1)→∀w16,Fr S w w1 [l38] [B1,B0,⟨l38,#[Iv n9,.string s14],163,true⟩] w16→rn PR (Instr.makeSlice 100 (Iv ((ByteArray.size s14:Nat):Int)) (Iv ((ByteArray.size s14:Nat):Int))) (λv6 w17=>∃q15 l39 l40,v6=.slice q15 l39 l40∧Fs S w [B1,B0,⟨l38,#[Iv n9,.string s14],163,true⟩] w17∧rn PR (convert 100 9 (.slice q15 l39 l40)) (λv7 w18=>∃s15,v7=.string s15∧Fs S w [B1,B0,⟨l38,#[Iv n9,.string s14],163,true⟩] w18∧((ByteArray.size s0+(ByteArray.size s15)):Nat)≤9223372036854775807∧∃l41,l41<l8∧I1 (s0++s15) (IntKind.wrap .i64 (n0+1)) n1 b0 s1 q0 l2 l3 s2 q1 l4 l5 q2 l6 l7 l41 w18) w17) w16)∧(¬(n9=(-1))→∀w19,Fr S w w1 [l38] [B1,B0,⟨l38,#[Iv n9,.string s14],163,true⟩] w19→∃l42,l42<l8∧I1 s0 (IntKind.wrap .i64 (n0+1)) n1 b0 s1 q0 l2 l3 s2 q1 l4 l5 q2 l6 l7 l42 w19)))∧(¬(n0<(((Int.toNat (if (ly7:Int)<(ly8:Int) then (ly7:Int) else (ly8:Int)) - 0):Nat):Int))→aa_ PR 71 #[.agg #[.string s2,.slice q1 l4 l5]] w1 λv8 w20=>∃s16 q16 l43 l44,v8=.agg #[.string s16,.slice q16 l43 l44]∧Fs S w [B1] w20∧∀w21,Fr S w w20 [k0,k0,k0] [⟨k0,#[Iv (-1),.bool false,.string s16,.slice q16 l43 l44,.string s2,.slice q1 l4 l5,.slice none 0 0],91,true⟩] w21→K (.tuple #[]) w21)):aa_ PR 43 ⟨[.pointer (some ⟨k0,0,none⟩),.agg #[.slice y8 ly8 cy8,.int .i64 m9]]⟩ w K:=
  ab_ (okf:=⟨okL,[]⟩) ag_ (args:=[.c (.p 0 k0 true 0),.a [.v (.slice y8 ly8 cy8),.v (.int .i64 m9)]]) (H:=[⟨k0,.l [.v (.int .i64 m1),.v (.bool t2),.v (.string z3),.v (.slice y4 ly4 cy4),.v (.string z5),.v (.slice y6 ly6 cy6),.v (.slice y7 ly7 cy7)],91,true⟩]) (.s (.r ⟨(some [0]),true,[],[]⟩) (.s .z (.s (.r ⟨(some [0,3]),true,[],[]⟩) (.s .z (.s (.s .z (.b (.l (some [0,3,4,23]) (some [0,3,4,23]) [(5,.c (.str)),(25,.c (.int .i64))] [0] (.s .z (.s .z (.s (.b (.s .z (.s (.r ⟨(some [0,3,4,7,23]),true,[],[]⟩) (.s (.b (.s (.b (.s .z (.r ⟨(some [0,3,4,8,23]),true,[],[]⟩))) .z)) (.s (.s (.r ⟨(some [0,3,4,8,23]),true,[],[]⟩) (.c (.r ⟨(some [0,3,4,8,23]),true,[8],[]⟩) .z)) (.s (.s .z (.c (.r ⟨(some [0,3,4,8,23]),true,[],[]⟩) .z)) (.r ⟨(some [0,3,4,8,23]),true,[0],[(4,[999])]⟩))))))) .z)))))) (.r ⟨(some [0]),true,[],[]⟩)))))) Go.Proofs.Tryz.func43 rfl ⟨rfl,⟨trivial,trivial,trivial⟩,trivial⟩ ⟨⟨trivial,⟨trivial,⟨trivial,⟨trivial,⟨trivial,⟨trivial,⟨trivial,trivial⟩⟩⟩⟩⟩⟩⟩,trivial⟩ hF hS (ae_ (by kernel_rfl) h)
theorem ov_ (k0:Nat) (p1:Option Addr) (p2:Option Addr) (m3:Int) (m4:Int) (y5:Option Addr) (ly5:Nat) (cy5:Nat) (m6:Int) (S:SP) (K:KP) (w:World) (hF:Fs S w [⟨k0,#[.pointer p1,.pointer p2,.int .i64 m3,.int .i64 m4],56,true⟩] w) (hS:S k0∧True) (h:∀l0,w.heap.size≤l0→∀w0,Fr S w w [] [⟨k0,#[.pointer p1,.pointer p2,Iv m3,Iv m4],56,true⟩,⟨l0,#[.slice y5 ly5 cy5,Iv m6],29,true⟩] w0→aa_ PR 43 #[.pointer p2,.agg #[.slice y5 ly5 cy5,Iv m6]] w0 λv0 w1=>v0=.tuple #[]∧Fs S w [⟨k0,#[.pointer p1,.pointer p2,Iv m3,Iv m4],56,true⟩,⟨l0,#[.slice y5 ly5 cy5,Iv m6],29,true⟩] w1∧aa_ PR 31 #[.pointer (some (⟨k0,0,none⟩))] w1 λv1 w2=>∃v2,v1=v2∧∃q0 q1 n0 n1,Fs S w [⟨k0,#[.pointer q0,.pointer q1,Iv n0,Iv n1],56,true⟩] w2∧K v2 w2):aa_ PR 17 ⟨[.pointer (some ⟨k0,0,none⟩),.agg #[.slice y5 ly5 cy5,.int .i64 m6]]⟩ w K:=
  ab_ (okf:=⟨okL,[]⟩) ag_ (args:=[.c (.p 0 k0 true 0),.a [.v (.slice y5 ly5 cy5),.v (.int .i64 m6)]]) (H:=[⟨k0,.l [.v (.pointer p1),.v (.pointer p2),.v (.int .i64 m3),.v (.int .i64 m4)],56,true⟩]) (.s (.r ⟨(some [0]),false,[],[]⟩) (.s .z (.s (.r ⟨(some [0,3]),false,[],[(5,[999])]⟩) (.s (.r ⟨(some [0]),false,[],[(1,[999])]⟩) .z)))) Go.Proofs.Tryz.func17 rfl ⟨rfl,⟨trivial,trivial,trivial⟩,trivial⟩ ⟨⟨trivial,⟨trivial,⟨trivial,⟨trivial,trivial⟩⟩⟩⟩,trivial⟩ hF hS (ae_ (by kernel_rfl) h)
theorem ql_ (k0:Nat) (p1:Option Addr) (p2:Option Addr) (m3:Int) (m4:Int) (S:SP) (K:KP) (w:World) (hF:Fs S w [⟨k0,#[.pointer p1,.pointer p2,.int .i64 m3,.int .i64 m4],56,true⟩] w) (hS:S k0∧True) (h:K (.pointer p2) w):aa_ PR 11 ⟨[.pointer (some ⟨k0,0,none⟩)]⟩ w K:=
  ab_ (okf:=⟨okL,[]⟩) ag_ (args:=[.c (.p 0 k0 true 0)]) (H:=[⟨k0,.l [.v (.pointer p1),.v (.pointer p2),.v (.int .i64 m3),.v (.int .i64 m4)],56,true⟩]) .z Go.Proofs.Tryz.func11 rfl ⟨rfl,trivial⟩ ⟨⟨trivial,⟨trivial,⟨trivial,⟨trivial,trivial⟩⟩⟩⟩,trivial⟩ hF hS (ae_ (by kernel_rfl) h)
end Go.Vc
namespace Go.Vc
open Go
end Go.Vc
namespace Go.Vc
open Go
end Go.Vc
namespace Go.Vc
open Go Go.MapKept
theorem aK_.fuse {N:Nat} {w w':World} {x:PubS} (h:aK_ N w x) (g:Chg (· = x.bd) w w') (hd:cg_ w' x.bd (str (logL x.recs))):aK_ N w' x:=by
  obtain ⟨n,hm⟩:=h.map
  have hp:=h.jrn.pub h.blk
  have hmj:=h.jrn.mapb hm
  refine ⟨g.get h.blk λe=>hp (.inr (.inl e)),⟨g.get h.jrn.blk h.jrn.ne,h.jrn.own.keep g λa ha e=>(h.jrn.off a ha).2 e,h.jrn.cap,hd,h.jrn.ne,h.jrn.off⟩,⟨n,hm.keep g λe=>hmj (.inr (.inl e))⟩,λk v hr=>(h.kept k v hr).keep g (λk _ e=>.inl (.inr (.inr (.inr (.inl e))))) (λ_ _ e=>e) (Nat.le_refl _) (λ_ h=>h),h.has,h.com_le,h.last_le,h.room,h.each1,h.each2,h.lo,λk hk=>Nat.lt_of_lt_of_le (h.exlt k hk) g.size,h.only,h.rep⟩
theorem aA_.fuse {N:Nat} {w w':World} {k0:Nat} {s:ActS} {now:Nat} (h:aA_ N w k0 s now) (g:Chg (· = s.x.bd) w w') (hd:cg_ w' s.x.bd (str (logL s.x.recs))):aA_ N w' k0 s now:=by
  have rb:s.x.reg s.x.bd:=.inr (.inr (.inr (.inl rfl)))
  have ne:∀k,¬s.x.reg k→¬k=s.x.bd:=λk hk e=>hk (by rw [e];exact rb)
  exact ⟨g.get h.blk (ne _ h.off),⟨g.get h.act.blk (ne _ h.act.off.1),g.get h.act.row (ne _ h.act.off.2),h.act.pub.fuse g hd,h.act.la,h.act.ln,h.act.n1,h.act.n4,h.act.off,h.act.ex⟩,h.lo,h.off,h.ex⟩
def i3_ (w:World) (k0:Nat) (p1 p2:Option Addr) (r now:Int):Prop:=w.heap[k0]? = some (.cells #[.pointer p1,.pointer p2,.int .i64 r,.int .i64 now] T.aD_ (0,0))
theorem i3_.fs {w:World} {k0:Nat} {p1 p2:Option Addr} {r now:Int} (h:i3_ w k0 p1 p2 r now) {S:Nat→Prop} (hS:S k0):Fs S w [⟨k0,#[.pointer p1,.pointer p2,.int .i64 r,.int .i64 now],T.aD_,true⟩] w:=(Fr.init _ w).entry h (λx h=>by cases h) λ_=>hS
theorem jT_ {w:World} {k0:Nat} {p1 p2:Option Addr} {r now:Int} (h:i3_ w k0 p1 p2 r now) {K:Value→World→Prop} (hK:K (.pointer p2) w):aa_ PR F.cn_ ⟨[.pointer (some ⟨k0,0,none⟩)]⟩ w K:=
  ql_ k0 p1 p2 r now (· = k0) K w (h.fs rfl) ⟨rfl,trivial⟩ hK
end Go.Vc
namespace Go.Vc
open Go Go.RowKit Go.Extern.Stop Go.Stop Go.Extern Go.Proofs
theorem sm_ (w:World):Calls Tryz.prog 8 #[.nilIface] w λev w'=>ev=.returned (.int .i64 0)∧w'=w:=by
  go_enter Tryz.func8,Tryz.ntmps8
  go_wp2
  go_ret
  exact ⟨rfl,rfl⟩
theorem uT_ {w:World} {K:Value→World→Prop} (hK:∀w',Grow w w'→K (.int .i64 0) w'):aa_ PR F.cW_ #[.nilIface] w K:=
  cr_ (sm_ w) λe w' ⟨he,hw⟩=>⟨_,he,by subst hw;exact hK _ (.refl _ _)⟩
end Go.Vc
namespace Go.Vc
open Go Go.MapKept
theorem ErrT.grow {w w':World} (h:ErrT w) (g:Grow w w'):ErrT w':=by
  unfold ErrT at h ⊢
  unfold World.cell? at h ⊢
  cases hb:w.heap[0]? with
  | none=>simp [hb] at h
  | some o=>
    have:=Grow.get g hb
    simp only [this]
    simp only [hb] at h
    exact h
end Go.Vc
namespace Go.Vc
open Go Go.MapKept
theorem mo_ {w:World} {b:Nat} {L:List UInt8} (h:cg_ w b (str L)) {m:Int} {K:Value→World→Prop} (hK:∀w',cg_ w' b (str L)→NoF w' b→Chg (· = b) w w'→K (.tuple #[]) w') :
    aa_ PR F.gg_ ⟨[.pointer (some ⟨b,0,none⟩),.agg #[.slice none 0 0,.int .i64 m]]⟩ w K:=by
  obtain ⟨f,q0,q1,c0,c1,hf,h⟩:=h
  refine oA_ b f false (str L) q0 0 c0 (str L) q1 0 c1 none 0 0 none 0 0 m (· = b) K w ((Fr.init _ w).entry h (λx h=>by cases h) λ_=>rfl) ⟨rfl,trivial⟩ λl0 hl0 w0 hF0=>⟨λ_=>True,trivial,by decide,by decide,?_⟩
  refine ⟨λs0 n0 n1 b0 s1 p0 l2 l3 s2 p1 l4 l5 p2 l6 l7 fu w'=>n0=0∧n1=f∧b0=false∧s1=str L∧p0=q0∧l2=0∧l3=c0∧s2=str L∧p1=q1∧l4=0∧l5=c1∧p2=none∧l6=0∧l7=0,⟨0,rfl,rfl,rfl,rfl,rfl,rfl,rfl,rfl,rfl,rfl,rfl,rfl,rfl,rfl⟩,?_⟩
  rintro s0 n0 n1 b0 s1 p0 l2 l3 s2 p1 l4 l5 p2 l6 l7 Dv fu w1 ⟨rfl,rfl,rfl,rfl,rfl,rfl,rfl,rfl,rfl,rfl,rfl,rfl,rfl,rfl⟩ hF1
  refine ⟨λhlt=>absurd hlt (by decide),λ_=>?_⟩
  refine iw_ λw20 q' c' g20=>⟨_,_,_,_,rfl,(hF1.after g20).sub (List.Sublist.cons_cons _ (List.nil_sublist _)),λw21 hF21=>?_⟩
  have hb21:=hF21.blk 0 rfl
  exact hK w21 ⟨-1,_,_,_,_,⟨by decide,by decide⟩,hb21⟩ (.mk hb21) hF21.chg
theorem nn_ {N:Nat} {w:World} {k0 bd:Nat} {p1:Option Addr} {k now:Nat} {recs:List (List UInt8)} {part:List UInt8} {last com:Nat} {man:Nat→Man} (hb:i3_ w k0 p1 (some ⟨bd,0,none⟩) (k:Nat) (now:Nat)) (k1:1≤k) (k4:k≤4) (hd:cg_ w bd (str (logL recs++part))) (hn:NoF w bd) (hp:sQ_ part) (hr:Rep recs last com man) (hl:(logL recs).length≤200000) (hne:k0≠bd) (hNk:N≤k0) (hNb:N≤bd) {K:Value→World→Prop}
    (hK:∀w' s,aA_ N w' k0 s now→s.reps=List.replicate k rp0→s.x.each=10→s.x.last=last→s.x.com=com→s.x.recs=recs→s.x.man=man→s.x.bd=bd→NoF w' bd→Chg (λj=>j=k0∨j=bd) w w'→K .nilIface w') :
    aa_ PR F.dR_ ⟨[.pointer (some ⟨k0,0,none⟩)]⟩ w K:=by
  have hF:=i3_.fs (S:=λj=>j=k0∨j=bd) hb (.inl rfl)
  have hk0:=aj_ hb
  refine lJ_ k0 p1 _ (k:Nat) (now:Nat) (λj=>j=k0∨j=bd) K w hF ⟨.inl rfl,trivial⟩ λw0 hF0=>?_
  have g0:Chg (· = k0) w w0:=hF0.stp.mono λj _ e=>by simpa using e
  have s0:=g0.size
  refine qZ_ (N:=N) (each:=10) (hd.keep g0 λe=>hne e.symm) (hn.keep g0 λe=>hne e.symm) hp hr hl hNb (by omega) (by decide) (by decide) λw1 x g1 hx hn1 x1 x2 x3 x4 x5 x6 x7 x8 x9=>⟨_,_,rfl,hF0.reset.step g1 (λy hy e=>by simp at hy;subst hy;exact hne e) (λj _ e=>.inr e),λ_=>?_,(λt x h=>by cases h),.inl rfl⟩
  have hF1:=hF0.reset.step g1 (λy hy e=>by simp at hy;subst hy;exact hne e) (λj _ e=>.inr e)
  have s1:=g1.size
  have hoff:¬x.reg k0:=λe=>(x9 _ e).elim hne λe=>by omega
  refine sJ_ hx (by omega) (λw2 s k' ek _ _ g2 hA hsx hreps ha hbn=>⟨_,_,rfl,hF1.after g2,λw3 hF3=>?_⟩) λhbad=>absurd hbad (by omega)
  obtain rfl:k'=k:=by omega
  have g3:Chg (· = k0) w2 w3:=hF3.stp.mono λj _ e=>by simpa using e
  have ereg:s.x.reg=x.reg:=by rw [hsx];rfl
  have eex:s.x.ex=λj=>j=s.bn∨x.ex j:=by rw [hsx]
  have hex:s.x.ex k0:=by rw [eex,x8];exact .inr (by show k0<w0.heap.size;omega)
  have hA3:ba_ N w3 s:=⟨g3.get hA.blk (λe=>by have e':s.a=k0:=e;omega),g3.get hA.row (λe=>by have e':s.bn=k0:=e;omega),hA.pub.jB_ g3 (λj e=>by subst e;exact hex) (λj e=>by subst e;rw [ereg];exact hoff),hA.la,hA.ln,hA.n1,hA.n4,hA.off,hA.ex⟩
  have hk3:w3.heap[k0]? = some (.cells #[.pointer (some ⟨s.a,0,none⟩),.pointer (some ⟨bd,0,none⟩),.int .i64 (k':Nat),.int .i64 (now:Nat)] T.aD_ (0,0)):=hF3.blk 0 rfl
  refine hK w3 s ⟨?_,hA3,hNk,by rw [ereg];exact hoff,hex⟩ hreps (by rw [hsx];exact x2) (by rw [hsx];exact x3) (by rw [hsx];exact x4) (by rw [hsx];exact x5) (by rw [hsx];exact x6) (by rw [hsx];exact x1) ((hn1.keep g2 id).keep g3 λe=>hne e.symm) hF3.chg
  show w3.heap[k0]? = some (.cells #[.pointer (some ⟨s.a,0,none⟩),.pointer (some ⟨s.x.bd,0,none⟩),.int .i64 (s.reps.length:Nat),.int .i64 (now:Nat)] T.aD_ (0,0))
  rw [hreps,List.length_replicate,hk3,hsx,← x1]
theorem ml_ {N:Nat} {w:World} {k0:Nat} {s:ActS} {now:Nat} (h:aA_ N w k0 s now) (hN:N≤w.heap.size) {m:Int} {K:Value→World→Prop}
    (hK:∀w' s',aA_ N w' k0 s' now→s'.reps=List.replicate s.reps.length rp0→s'.x.last=s.x.last→s'.x.com=s.x.com→s'.x.recs=s.x.recs→s'.x.man=s.x.man→Chg (λj=>j=k0∨j=s.x.bd) w w'→K .nilIface w') :
    aa_ PR F.ge_ ⟨[.pointer (some ⟨k0,0,none⟩),.agg #[.slice none 0 0,.int .i64 m]]⟩ w K:=by
  have hrb:s.x.reg s.x.bd:=.inr (.inr (.inr (.inl rfl)))
  have hne:k0≠s.x.bd:=λe=>h.off (by rw [e];exact hrb)
  have hblk:i3_ w k0 (some ⟨s.a,0,none⟩) (some ⟨s.x.bd,0,none⟩) (s.reps.length:Nat) (now:Nat):=h.blk
  have hF:=i3_.fs (S:=λj=>j=k0∨j=s.x.bd) hblk (.inl rfl)
  refine ov_ k0 _ _ (s.reps.length:Nat) (now:Nat) none 0 0 m (λj=>j=k0∨j=s.x.bd) K w hF ⟨.inl rfl,trivial⟩ λl0 hl0 w0 hF0=>?_
  have g0:Grow w w0:=hF0.grow
  have hbl:=h.act.pub.lt _ hrb
  refine mo_ (h.act.pub.jrn.dsk.keep g0 id) λw1 hd1 hn1 g1=>?_
  have hF1:=hF0.step g1 (λy hy e=>by
    rcases List.mem_cons.1 hy with rfl | hy
    · exact hne e
    · simp at hy;subst hy
      simp only [] at e;omega) (λj _ e=>.inr e)
  refine ⟨rfl,hF1,?_⟩
  have hbk:i3_ w1 k0 _ _ _ _:=hF1.blk 0 rfl
  rw [← List.append_nil (logL s.x.recs)] at hd1
  exact nn_ hbk h.act.n1 h.act.n4 hd1 hn1 ⟨by decide,pY_⟩ h.act.pub.rep h.act.pub.room hne h.lo (h.act.pub.lo _ hrb) λw2 s' hH e1 _ e3 e4 e5 e6 e7 _ g2=>⟨_,rfl,_,_,_,_,(hF1.sub (List.Sublist.cons_cons _ (List.nil_sublist _))).mod (S':=λj=>j=k0∨j=s.x.bd) g2 hH.blk (λz hz=>by cases hz) (λ_ _ e=>e),hK w2 s' hH e1 e3 e4 e5 e6 (hF1.chg.trans g2 λ_ _ e=>e)⟩
end Go.Vc
namespace Go.Vc
open Go Go.MapKept
theorem aK_.qb_ {S:Nat→Prop} {N:Nat} {w w':World} {x:PubS} (h:aK_ N w x) (g:Chg S w w') (hS:∀k,k<w.heap.size→S k→x.ex k) (hn:∀k,S k→¬x.reg k) {e:Nat→Prop} (he:∀k,e k→k<w'.heap.size) (he2:∀k,k<w.heap.size→e k→x.ex k):aK_ N w' { x with ex:=λk=>x.ex k∨e k }:=by
  obtain ⟨n,hm⟩:=h.map
  refine ⟨g.get h.blk λe=>hn _ e (.inl rfl),h.jrn.keep g λk e hk=>hn k e (.inr (.inr hk)),⟨n,hm.keep g λe=>hn _ e (.inr (.inl rfl))⟩,λk v hr=>(h.kept k v hr).keep g (λk hk e=>.inr (hS k hk e)) (λk hk e=>?_) (Nat.le_refl _) (λ_ h=>h),h.has,h.com_le,h.last_le,h.room,h.each1,h.each2,h.lo,λk hk=>hk.elim (λhk=>Nat.lt_of_lt_of_le (h.exlt k hk) g.size) (he k),h.only,h.rep⟩
  rcases e with e | e | e
  · exact .inl e
  · exact .inr e
  · exact .inr (he2 k hk e)
theorem aK_.low {N N':Nat} {w:World} {x:PubS} (h:aK_ N' w x) (hN:N≤N'):aK_ N w x:=⟨h.blk,h.jrn,h.map,h.kept,h.has,h.com_le,h.last_le,h.room,h.each1,h.each2,λk hk=>Nat.le_trans hN (h.lo k hk),h.exlt,h.only,h.rep⟩
theorem pC_ {reps:List Rp} {i:Nat} {v:Value} (h:(reps.flatMap rpC)[i]? = some v) (z:ByteArray):v≠.string z:=by
  rintro rfl
  obtain ⟨r,_,hr⟩:=List.mem_flatMap.1 (List.mem_of_getElem? h)
  simp [rpC] at hr
theorem Sl.kB_ {w w':World} {b:Nat} {reps:List Rp} {T:TypeId} (hb:w.heap[b]? = some (.cells (reps.flatMap rpC).toArray T (0,0))) (g:Chg (· = b) w w') {q:Option Addr} {xs:List Value} (h:Sl w q xs) (hx:xs=[]∨∃(i:Nat) (z:ByteArray),xs[i]? = some (Value.string z)):Sl w' q xs:=by
  rcases hx with rfl | ⟨i,z,hi⟩
  · exact .nil _ _
  rcases h with rfl | ⟨b',o,rfl,h⟩
  · cases hi
  refine Sl.keep (.inr ⟨b',o,rfl,h⟩) g λa ha e=>?_
  cases ha
  have e':b'=b:=e
  subst e'
  obtain ⟨cs,T',fz,hb',hc⟩:=h
  rw [hb] at hb'
  injection hb' with hb'
  injection hb' with e1 e2 e3
  subst e1
  have hl:i<xs.length:=by
    rcases Nat.lt_or_ge i xs.length with hl | hl
    · exact hl
    · simp [List.getElem?_eq_none hl] at hi
  have:=hc i hl
  rw [hi,List.getElem?_toArray] at this
  exact pC_ this z rfl
theorem bX_.kB_ {w w':World} {b:Nat} {reps:List Rp} {T:TypeId} (hb:w.heap[b]? = some (.cells (reps.flatMap rpC).toArray T (0,0))) (g:Chg (· = b) w w') {q:Option Addr} {outs:List (Int × MsgL)} (h:bX_ w q outs):bX_ w' q outs:=by
  obtain ⟨ps,hl,hs,hp⟩:=h
  refine ⟨ps,hl,hs.kB_ hb g ?_,λk hk hk2=>(hp k hk hk2).kB_ hb g ?_⟩
  · cases outs with
    | nil=>exact .inl rfl
    | cons o r=>
      cases ps with
      | nil=>cases hl
      | cons p ps=>exact .inr ⟨4,str o.2.text,by rw [List.zip_cons_cons,List.flatMap_cons];rfl⟩
  · cases hpr:outs[k].2.proof with
    | nil=>exact .inl rfl
    | cons p r=>exact .inr ⟨0,str p,rfl⟩
structure Alike (s t:ActS):Prop where
  recs:s.x.recs=t.x.recs
  last:s.x.last=t.x.last
  com:s.x.com=t.x.com
  man:s.x.man=t.x.man
  reps:s.reps=t.reps
  each:s.x.each=t.x.each
  dn:∀r∈s.reps,0≤r.done
theorem Alike.tgt {s t:ActS} (h:Alike s t):s.tgt=t.tgt:=by unfold ActS.tgt;rw [h.last,h.com]
theorem Alike.room {s t:ActS} (h:Alike s t):s.x.room=t.x.room:=by unfold PubS.room;rw [h.recs]
theorem q3_.uniq {nodes:Int} {each:Nat} {l:List (Int × Int)} {c c':Int} (h:q3_ nodes each l c) (h':q3_ nodes each l c'):c=c':=by
  rcases h with ⟨a,b⟩ | ⟨a,b,d⟩ | ⟨a,b,d,e⟩ <;> rcases h' with ⟨a',b'⟩ | ⟨a',b',d'⟩ | ⟨a',b',d',e'⟩ <;> first | (exact absurd b' b) | (exact absurd b b') | omega
theorem eO_.uniq {x y:PubS} (e1:x.each=y.each) {nodes:Int} {l:List (Int × Int)} {c c':Int} (h:eO_ x nodes l c) (h':eO_ y nodes l c'):c=c':=by
  unfold eO_ at h h'
  rw [e1] at h
  rcases h with h | ⟨h,mn,list,h2,h3,_⟩ <;> rcases h' with h' | ⟨h',mn',list',h2',h3',_⟩
  · exact h.uniq h'
  · rcases h with ⟨a,b⟩ | ⟨a,b,d⟩ | ⟨a,b,d,e⟩
    · exact absurd h2' b
    · omega
    · omega
  · rcases h' with ⟨a,b⟩ | ⟨a,b,d⟩ | ⟨a,b,d,e⟩
    · exact absurd h2 b
    · omega
    · omega
  · omega
theorem ng_.sA_ {x y:PubS} (e1:x.each=y.each) (e2:x.last=y.last) (e3:x.recs=y.recs) (he:1≤x.each) {nodes:Int} {l:List (Int × Int)} {mn:Man} {list:List (List UInt8)} {c:Int} (h:ng_ x nodes l mn list) (h':eO_ y nodes l c):False:=by
  obtain ⟨a1,a2,a3,a4,a5,a6⟩:=h
  unfold eO_ at h'
  have er:x.room=y.room:=by unfold PubS.room;rw [e3]
  rw [← e1,← e2,← er] at h'
  rcases h' with (⟨a,b⟩ | ⟨a,b,d⟩ | ⟨a,b,d,e⟩) | ⟨_,mn',list',b2,b3,b4,b5⟩
  · exact b a1
  · omega
  · have:=e _ _ _ a3;omega
  · obtain ⟨rfl,rfl⟩:=a3.uniq he b4
    exact b5 ⟨a5,a6⟩
theorem eO_.small {x:PubS} {nodes:Int} {l:List (Int × Int)} {c:Int} (h:eO_ x nodes l c):0≤c∧c≤100:=by
  rcases h with (⟨a,b⟩ | ⟨a,b,d⟩ | ⟨a,b,d,e⟩) | ⟨a,_⟩ <;> omega
theorem ng_.uniq {x y:PubS} (e1:x.each=y.each) (e2:x.last=y.last) (he:1≤x.each) {nodes:Int} {l:List (Int × Int)} {mn mn':Man} {list list':List (List UInt8)} (h:ng_ x nodes l mn list) (h':ng_ y nodes l mn' list'):mn=mn'∧list=list':=by
  obtain ⟨a1,a2,a3,a4,a5,a6⟩:=h
  obtain ⟨b1,b2,b3,b4,b5,b6⟩:=h'
  rw [← e1,← e2] at b3
  exact a3.uniq he b3
theorem jC_ {r:Rp} {kind ver:Int} (h:0≤r.done) (hv:0≤ver):0≤(fh_ r kind ver).done:=by
  unfold fh_
  split
  · exact hv
  · split
    · show 0≤(if ver>r.done then ver else r.done)
      split
      · exact hv
      · exact h
    · split
      · exact h
      · split <;> exact h
theorem mV_ {r:Rp} {kind ver now:Int} (h:0≤r.done) (hv:0≤ver):0≤(bK_ r kind ver now).done:=by
  unfold bK_
  split
  · exact jC_ h hv
  · exact jC_ h hv
end Go.Vc
namespace Go.Vc
open Go Go.MapKept
structure Sep2 (N:Nat) (L:Nat→Prop) (w:World) (k0:Nat) (s:ActS) (n1:Nat) (k1:Nat) (t:ActS) (n2:Nat):Prop where
  ha:aA_ N w k0 s n1
  hb:aA_ N w k1 t n2
  st:∀k,s.x.reg k→t.x.ex k
  ts:∀k,t.x.reg k→s.x.ex k
  off:∀k,s.x.reg k→¬t.x.reg k
  hx:t.x.ex k0∧t.x.ex s.bn∧s.x.ex k1∧s.x.ex t.bn
  ho:¬t.x.reg k0∧¬t.x.reg s.bn∧¬t.x.reg s.a∧¬s.x.reg k1∧¬s.x.reg t.bn∧¬s.x.reg t.a
  ne:k0≠k1∧k0≠t.bn∧k0≠t.a∧s.bn≠k1∧s.bn≠t.bn∧s.bn≠t.a∧s.a≠k1∧s.a≠t.bn
  kp:∀k,L k→k<w.heap.size∧¬s.x.reg k∧¬t.x.reg k∧k≠k0∧k≠s.bn∧k≠k1∧k≠t.bn
  nf:NoF w s.x.bd∧NoF w t.x.bd
theorem Sep2.swap {N:Nat} {L:Nat→Prop} {w:World} {k0 k1:Nat} {s t:ActS} {n1 n2:Nat} (h:Sep2 N L w k0 s n1 k1 t n2):Sep2 N L w k1 t n2 k0 s n1:=
  ⟨h.hb,h.ha,h.ts,h.st,λk e e2=>h.off k e2 e,⟨h.hx.2.2.1,h.hx.2.2.2,h.hx.1,h.hx.2.1⟩,⟨h.ho.2.2.2.1,h.ho.2.2.2.2.1,h.ho.2.2.2.2.2,h.ho.1,h.ho.2.1,h.ho.2.2.1⟩,
    ⟨h.ne.1.symm,h.ne.2.2.2.1.symm,h.ne.2.2.2.2.2.2.1.symm,h.ne.2.1.symm,h.ne.2.2.2.2.1.symm,h.ne.2.2.2.2.2.2.2.symm,h.ne.2.2.1.symm,h.ne.2.2.2.2.2.1.symm⟩,
    λk hk=>have a:=h.kp k hk;⟨a.1,a.2.2.1,a.2.1,a.2.2.2.2.2.1,a.2.2.2.2.2.2,a.2.2.2.1,a.2.2.2.2.1⟩,⟨h.nf.2,h.nf.1⟩⟩
theorem Sep2.grow {N:Nat} {L:Nat→Prop} {w w':World} {k0 k1:Nat} {s t:ActS} {n1 n2:Nat} (h:Sep2 N L w k0 s n1 k1 t n2) (g:Grow w w'):Sep2 N L w' k0 s n1 k1 t n2:=
  ⟨h.ha.grow g,h.hb.grow g,h.st,h.ts,h.off,h.hx,h.ho,h.ne,λk hk=>⟨Nat.lt_of_lt_of_le (h.kp k hk).1 g.size,(h.kp k hk).2⟩,⟨h.nf.1.keep g id,h.nf.2.keep g id⟩⟩
theorem Sep2.left {N:Nat} {L:Nat→Prop} {w w':World} {k0 k1:Nat} {s t s':ActS} {n1 n1' n2:Nat} (h:Sep2 N L w k0 s n1 k1 t n2) (hs:aA_ N w' k0 s' n1') (g:Chg (λk=>k=k0∨k=s.bn∨s.x.reg k) w w') (ea:s'.a=s.a) (eb:s'.bn=s.bn) (ex:s'.x.ex=s.x.ex) (hr:∀k,s'.x.reg k→s.x.reg k∨w.heap.size≤k) (nf:NoF w' s'.x.bd) :
    Sep2 N L w' k0 s' n1' k1 ⟨{ t.x with ex:=λk=>t.x.ex k∨s'.x.reg k },t.a,t.bn,t.reps⟩ n2:=by
  have hta:=aj_ h.hb.act.blk
  have htb:=aj_ h.hb.act.row
  have hk0:=aj_ h.ha.blk
  have hk1:=aj_ h.hb.blk
  obtain ⟨n1,n2,n3,n4,n5,n6,n7,n8⟩:=h.ne
  obtain ⟨o1,o2,o3,o4,o5,o6⟩:=h.ho
  have nS:∀k,k≠k0→k≠s.bn→¬s.x.reg k→¬(k=k0∨k=s.bn∨s.x.reg k):=λk a b c e=>e.elim a λe=>e.elim b c
  refine ⟨hs,⟨g.get h.hb.blk (nS _ n1.symm n4.symm o4),⟨g.get h.hb.act.blk (nS _ n3.symm n6.symm o6),g.get h.hb.act.row (nS _ n2.symm n5.symm o5),h.hb.act.pub.qb_ g ?_ ?_ (λk hk=>hs.act.pub.lt k hk) ?_,h.hb.act.la,h.hb.act.ln,h.hb.act.n1,h.hb.act.n4,h.hb.act.off,.inl h.hb.act.ex⟩,h.hb.lo,h.hb.off,.inl h.hb.ex⟩,λk hk=>.inr hk,λk hk=>by rw [ex];exact h.ts k hk,?_,⟨.inl h.hx.1,.inl (by rw [eb];exact h.hx.2.1),by rw [ex];exact h.hx.2.2.1,by rw [ex];exact h.hx.2.2.2⟩,⟨o1,by rw [eb];exact o2,by rw [ea];exact o3,?_,?_,?_⟩,by rw [ea,eb];exact h.ne,λk hk=>?_,⟨nf,h.nf.2.keep g ?_⟩⟩
  · rintro k - (rfl | rfl | e)
    · exact h.hx.1
    · exact h.hx.2.1
    · exact h.st k e
  · rintro k (rfl | rfl | e)
    · exact o1
    · exact o2
    · exact h.off k e
  · intro k hk e
    rcases hr k e with e | e
    · exact h.st k e
    · omega
  · intro k e e2
    have e2:t.x.reg k:=e2
    rcases hr k e with e | e
    · exact h.off k e e2
    · have:=h.hb.act.pub.lt k e2;omega
  · intro e
    rcases hr _ e with e | e
    · exact o4 e
    · omega
  · intro e
    rcases hr _ e with e | e
    · exact o5 e
    · exact absurd (show w.heap.size≤t.bn from e) (by omega)
  · intro e
    rcases hr _ e with e | e
    · exact o6 e
    · exact absurd (show w.heap.size≤t.a from e) (by omega)
  · obtain ⟨a1,a2,a3,a4,a5,a6,a7⟩:=h.kp k hk
    exact ⟨Nat.lt_of_lt_of_le a1 g.size,λe=>(hr k e).elim a2 λe=>by omega,a3,a4,by rw [eb];exact a5,a6,a7⟩
  · have hrb:t.x.reg t.x.bd:=.inr (.inr (.inr (.inl rfl)))
    rintro (e | e | e)
    · exact o1 (by rw [← e];exact hrb)
    · exact o2 (by rw [← e];exact hrb)
    · exact h.off _ e hrb
theorem Sep2.init {N:Nat} {w1 w:World} {k0 k1:Nat} {s t:ActS} (hd:aA_ N w1 k0 s 0) (hn:NoF w1 s.x.bd) (g:Grow w1 w) (ht:aA_ w1.heap.size w k1 t 0) (hn2:NoF w t.x.bd) (h0:t.x.last=0) (hN:N≤w1.heap.size) :
    Sep2 N (λ_=>False) w k0 ⟨{ s.x with ex:=λk=>s.x.ex k∨(t.x.reg k∨k=t.bn∨k=k1) },s.a,s.bn,s.reps⟩ 0 k1 ⟨{ t.x with ex:=λk=>k=t.bn∨k=k1∨s.x.reg k∨k=k0∨k=s.bn },t.a,t.bn,t.reps⟩ 0:=by
  have hk0:=aj_ hd.blk
  have hsa:=aj_ hd.act.blk
  have hsb:=aj_ hd.act.row
  have hta:=ht.act.la
  have htb:=ht.act.ln
  have htk:=ht.lo
  have htb2:=aj_ ht.act.row
  have hk1:=aj_ ht.blk
  have hz:=g.size
  have up:∀k,t.x.reg k→w1.heap.size≤k:=λk e=>ht.act.pub.lo k e
  have lt:∀k,s.x.reg k→k<w1.heap.size:=λk e=>hd.act.pub.lt k e
  have hp:aK_ N w { s.x with ex:=λk=>s.x.ex k∨(t.x.reg k∨k=t.bn∨k=k1) }:=hd.act.pub.qb_ g (λ_ _ e=>e.elim) (λ_ e=>e.elim) (λk hk=>hk.elim (ht.act.pub.lt k) (λe=>e.elim (λe=>by omega) λe=>by omega)) λk hk e=>by
    rcases e with e | e | e
    · have:=up k e;omega
    · omega
    · omega
  have hq:aK_ N w { t.x with ex:=λk=>k=t.bn∨k=k1∨s.x.reg k∨k=k0∨k=s.bn }:=(ht.act.pub.low hN).tL_ h0 λk hk=>by
    rcases hk with e | e | e | e | e
    · omega
    · omega
    · have:=lt k e;omega
    · omega
    · omega
  refine ⟨⟨Grow.get g hd.blk,⟨Grow.get g hd.act.blk,Grow.get g hd.act.row,hp,hd.act.la,hd.act.ln,hd.act.n1,hd.act.n4,hd.act.off,.inl hd.act.ex⟩,hd.lo,hd.off,.inl hd.ex⟩,⟨ht.blk,⟨ht.act.blk,ht.act.row,hq,by show N≤t.a;omega,by show N≤t.bn;omega,ht.act.n1,ht.act.n4,ht.act.off,.inl rfl⟩,by omega,ht.off,.inr (.inl rfl)⟩,λk e=>.inr (.inr (.inl e)),λk e=>.inr (.inl e),λk e e2=>?_,⟨.inr (.inr (.inr (.inl rfl))),.inr (.inr (.inr (.inr rfl))),.inr (.inr (.inr rfl)),.inr (.inr (.inl rfl))⟩,⟨λe=>?_,λe=>?_,λe=>?_,λe=>?_,λe=>?_,λe=>?_⟩,?_,λk e=>e.elim,⟨hn.keep g id,hn2⟩⟩
  · have:=up k e2;have:=lt k e;omega
  · have:=up _ e;omega
  · have:=up _ e;simp only [] at this;omega
  · have:=up _ e;simp only [] at this;omega
  · have:=lt _ e;omega
  · have:=lt _ e;simp only [] at this;omega
  · have:=lt _ e;simp only [] at this;omega
  · simp only [];omega
theorem Sep2.with {N:Nat} {L:Nat→Prop} {w w':World} {k0 k1:Nat} {s t:ActS} {n1 n2:Nat} (h:Sep2 N L w k0 s n1 k1 t n2) (g:Grow w w') {L':Nat→Prop} (hL:∀k,L' k→w.heap.size≤k∧k<w'.heap.size):Sep2 N L' w' k0 s n1 k1 t n2:=by
  have hk0:=aj_ h.ha.blk
  have hk1:=aj_ h.hb.blk
  have hsb:=aj_ h.ha.act.row
  have htb:=aj_ h.hb.act.row
  have h':=h.grow g
  exact ⟨h'.ha,h'.hb,h.st,h.ts,h.off,h.hx,h.ho,h.ne,λk hk=>⟨(hL k hk).2,λe=>by have:=h.ha.act.pub.lt k e;have:=hL k hk;omega,λe=>by have:=h.hb.act.pub.lt k e;have:=hL k hk;omega,by have:=hL k hk;omega,by have:=hL k hk;omega,by have:=hL k hk;omega,by have:=hL k hk;omega⟩,h'.nf⟩
theorem Sep2.none {N:Nat} {L:Nat→Prop} {w:World} {k0 k1:Nat} {s t:ActS} {n1 n2:Nat} (h:Sep2 N L w k0 s n1 k1 t n2):Sep2 N (λ_=>False) w k0 s n1 k1 t n2:=⟨h.ha,h.hb,h.st,h.ts,h.off,h.hx,h.ho,h.ne,λk e=>e.elim,h.nf⟩
end Go.Vc
namespace Go.Vc
open Go Go.MapKept
structure Twin (N:Nat) (L:Nat→Prop) (k0 k1 rr:Nat) (w:World) (s t:ActS) (now:Nat):Prop where
  sep:Sep2 N L w k0 s now k1 t now
  al:Alike s t
  er:s.reps.length=rr
  sz:N≤w.heap.size
def Kp (N:Nat) (L:Nat→Prop) (P:World→Prop):Prop:=∀(S:Nat→Prop) (w1 w2:World),Chg S w1 w2→(∀k,S k→N≤k)→(∀k,L k→¬S k)→P w1→P w2
theorem Kp.grow {N:Nat} {L:Nat→Prop} {P:World→Prop} (h:Kp N L P) {w1 w2:World} (g:Grow w1 w2) (hp:P w1):P w2:=h _ w1 w2 g (λ_ e=>e.elim) (λ_ _ e=>e) hp
theorem Twin.grow {N:Nat} {L:Nat→Prop} {k0 k1 rr:Nat} {w w':World} {s t:ActS} {now:Nat} (h:Twin N L k0 k1 rr w s t now) (g:Grow w w'):Twin N L k0 k1 rr w' s t now:=⟨h.sep.grow g,h.al,h.er,Nat.le_trans h.sz g.size⟩
def mc_ (w:World) (q:Option Addr) (l:Nat) (q':Option Addr) (l':Nat):Prop:=∃outs:List (Int × MsgL),bX_ w q outs∧bX_ w q' outs∧l=outs.length∧l'=outs.length∧l≤1000000∧∀o∈outs,o.2.proof.length≤1000000
theorem mc_.nil (w:World):mc_ w none 0 none 0:=⟨[],.nil _,.nil _,rfl,rfl,by decide,λo h=>by cases h⟩
variable {N:Nat} {L:Nat→Prop} {P:World→Prop} {k0 k1 rr:Nat} {w:World} {s t:ActS} {now:Nat}
theorem Twin.sZ_ (hP:Kp N L P) (hE:∀w,P w→ErrT w) (h:Twin N L k0 k1 rr w s t now) (hp:P w) {nodes:Int} {l:List (Int × Int)} {q:Option Addr} {n c:Nat} (hs:∀w,P w→Sl w q (encE l)) (hl:n=l.length) (hn:n≤100000) {K bad:World→Prop}
    (hK:∀w' s' t',Twin N L k0 k1 rr w' s' t' now→P w'→K w') (h0:∀w K',(∀w',Grow w w'→K' (.int .i64 0) w')→aa_ PR F.cW_ #[.nilIface] w K') (hC:∀w v c K',ErrT w→isEC c v→0≤c∧c≤100→(∀w',Grow w w'→K' (.int .i64 c) w')→aa_ PR F.cW_ #[v] w K') :
    aa_ PR F.bC_ ⟨[.pointer (some ⟨k0,0,none⟩),.int .i64 nodes,.slice q n c]⟩ w λv9 w8=>∃n8 v10,v9=.tuple #[.int .i64 n8,v10]∧P w8∧
      aa_ PR F.bC_ ⟨[.pointer (some ⟨k1,0,none⟩),.int .i64 nodes,.slice q n c]⟩ w8 λv11 w9=>∃n9 v12,v11=.tuple #[.int .i64 n9,v12]∧P w9∧
        (n8=n9→aa_ PR F.cW_ #[v10] w9 λv13 w10=>∃n10,v13=.int .i64 n10∧P w10∧aa_ PR F.cW_ #[v12] w10 λv14 w11=>∃n11,v14=.int .i64 n11∧P w11∧(n10=n11→K w11)∧(¬(n10=n11)→bad w11))∧(¬(n8=n9)→bad w9):=by
  have hsz:=h.sz
  have he1:=h.sep.ha.act.pub.each1
  obtain ⟨e1,e2,e3,e4,e5,e6,e7⟩:=h.al
  refine ct_ h.sep.ha hsz (hs w hp) hl hn (λw8 x' mn list hok er em hH g f3 f4 f5 f8 f9 f2 f11=>?_) (λw8 n hno=>absurd h.sep.nf.1 hno) λw8 v cc g hv hpe _=>?_
  · have hsep:=h.sep.left hH (g.mono λk _ e=>.inr (.inr e)) rfl rfl f8 f9 (by show NoF w8 x'.bd;rw [f2];exact f11 h.sep.nf.1)
    have hp8:P w8:=hP _ _ _ g (λk e=>h.sep.ha.act.pub.lo k e) (λk hk=>(h.sep.kp k hk).2.1) hp
    have s8:=g.size
    refine ⟨_,_,rfl,hp8,?_⟩
    refine ct_ hsep.hb (by omega) (hs w8 hp8) hl hn (λw9 y' mn' list' hok' er' em' hH' g' a3 a4 a5 a8 a9 a2 a11=>?_) (λw9 n hno=>absurd hsep.nf.2 hno) λw9 v cc g' hv hpe _=>?_
    · have hsep':=(hsep.swap.left hH' (g'.mono λk _ e=>.inr (.inr e)) rfl rfl a8 a9 (by show NoF w9 y'.bd;rw [a2];exact a11 hsep.nf.2)).swap
      have hp9:P w9:=hP _ _ _ g' (λk e=>hsep.hb.act.pub.lo k e) (λk hk=>(hsep.kp k hk).2.2.1) hp8
      have s9:=g'.size
      obtain ⟨rfl,rfl⟩:=hok.uniq e6 e2 he1 hok'
      have a4':y'.last=t.x.last+1:=a4
      have hd:Twin N L k0 k1 rr w9 _ _ now:=⟨hsep',⟨by show x'.recs=y'.recs;rw [er,er',e1],by show x'.last=y'.last;rw [f4,a4,e2],by show x'.com=y'.com;rw [f5,a5,e3],by show x'.man=y'.man;rw [em,em',e2,e4],e5,by show x'.each=y'.each;rw [f3,a3,e6],e7⟩,h.er,by omega⟩
      refine ⟨_,_,rfl,hp9,λ_=>h0 _ _ λw10 g10=>⟨_,rfl,hP.grow g10 hp9,h0 _ _ λw11 g11=>⟨_,rfl,hP.grow g11 (hP.grow g10 hp9),λ_=>hK w11 _ _ (hd.grow (g10.trans g11)) (hP.grow g11 (hP.grow g10 hp9)),λhne=>absurd rfl hne⟩⟩,λhne=>absurd (by rw [f4,a4',e2]) hne⟩
    · exact (hok.sA_ e6 e2 e1 he1 hpe).elim
  · have hd:=h.grow g
    have hp8:=hP.grow g hp
    refine ⟨_,_,rfl,hp8,?_⟩
    refine ct_ hd.sep.hb hd.sz (hs w8 hp8) hl hn (λw9 y' mn' list' hok' er' em' hH' g' a3 a4 a5 a8 a9 a2 a11=>?_) (λw9 n hno=>absurd hd.sep.nf.2 hno) λw9 v' cc' g' hv' hpe' _=>?_
    · exact (hok'.sA_ e6.symm e2.symm e1.symm (by rw [← e6];exact he1) hpe).elim
    · have hp9:=hP.grow g' hp8
      obtain rfl:=hpe.uniq e6 hpe'
      have hc:=hpe.small
      refine ⟨_,_,rfl,hp9,λ_=>hC _ _ _ _ (hE _ hp9) hv hc λw10 g10=>⟨_,rfl,hP.grow g10 hp9,hC _ _ _ _ (hE _ (hP.grow g10 hp9)) hv' hc λw11 g11=>⟨_,rfl,hP.grow g11 (hP.grow g10 hp9),λ_=>hK w11 s t (hd.grow (g'.trans (g10.trans g11))) (hP.grow g11 (hP.grow g10 hp9)),λhne=>absurd rfl hne⟩⟩,λhne=>absurd rfl hne⟩
theorem Twin.hear (hP:Kp N L P) (h:Twin N L k0 k1 rr w s t now) (hp:P w) {m:MsgL} (hm:e6_ m) {fr:Int} {J:Option Addr→Nat→Nat→Option Addr→Nat→Nat→World→Prop}
    (hK:∀w' s' t' q l c q' l' c',Twin N L k0 k1 rr w' s' t' now→P w'→mc_ w' q l q' l'→J q l c q' l' c' w') :
    aa_ PR F.a__ ⟨[.pointer (some ⟨k0,0,none⟩),.int .i64 fr,.string (str (bg_ crcN (a3_ m)))]⟩ w λv17 w14=>∃q7 l9 l10 v18,v17=.tuple #[.slice q7 l9 l10,v18]∧P w14∧
      aa_ PR F.a__ ⟨[.pointer (some ⟨k1,0,none⟩),.int .i64 fr,.string (str (bg_ crcN (a3_ m)))]⟩ w14 λv19 w15=>∃q8 l11 l12 v20,v19=.tuple #[.slice q8 l11 l12,v20]∧P w15∧J q7 l9 l10 q8 l11 l12 w15:=by
  have hsz:=h.sz
  obtain ⟨e1,e2,e3,e4,e5,e6,e7⟩:=h.al
  have hlen:(bg_ crcN (a3_ m)).length≤1099511627776:=by
    rw [bh_];have:=fn_ hm;omega
  have hrl:s.reps.length=t.reps.length:=by rw [e5]
  refine eC_ h.sep.ha hlen (λhbad=>⟨_,_,_,_,rfl,hp,?_⟩) (λw4 c v _ _ _ hg _=>by rw [b8_ hm] at hg;cases hg) λw14 j m' q7 outs c7 hj hfr hg hH g4 hout ho=>?_
  · refine eC_ h.sep.hb hlen (λ_=>⟨_,_,_,_,rfl,hp,hK w s t _ _ _ _ _ _ h hp (.nil w)⟩) (λw4 c v _ _ _ hg _=>by rw [b8_ hm] at hg;cases hg) λw14 j m' q7 outs c7 hj hfr _ _ _ _ _=>absurd ⟨by omega,by omega⟩ hbad
  · rw [b8_ hm] at hg
    cases hg
    have hrb:s.x.reg s.x.bd:=.inr (.inr (.inr (.inl rfl)))
    have hsep:=h.sep.left hH (g4.mono λk _ e=>.inr (.inl e)) rfl rfl rfl (λk e=>.inl e) (h.sep.nf.1.keep g4 λe=>h.sep.ha.act.off.2 (by rw [← e];exact hrb))
    have hp14:P w14:=hP _ _ _ g4 (λk e=>by subst e;exact h.sep.ha.act.ln) (λk hk e=>(h.sep.kp k hk).2.2.2.2.1 e) hp
    have s4:=g4.size
    refine ⟨_,_,_,_,rfl,hp14,?_⟩
    refine eC_ hsep.hb hlen (λhbad=>absurd ⟨by omega,by show fr≤((t.reps.length:Nat):Int);omega⟩ hbad) (λw4 c v _ _ _ hg _=>by rw [b8_ hm] at hg;cases hg) λw15 j' m' q8 outs' c8 hj' hfr' hg hH' g5 hout' ho'=>?_
    rw [b8_ hm] at hg
    cases hg
    obtain rfl:j'=j:=by omega
    have hrb2:t.x.reg t.x.bd:=.inr (.inr (.inr (.inl rfl)))
    have hsep':=(hsep.swap.left hH' (g5.mono λk _ e=>.inr (.inl e)) rfl rfl rfl (λk e=>.inl e) (hsep.nf.2.keep g5 λe=>h.sep.hb.act.off.2 (by have e':t.x.bd=t.bn:=e;rw [← e'];exact hrb2))).swap
    have hp15:P w15:=hP _ _ _ g5 (λk e=>by subst e;exact hsep.hb.act.ln) (λk hk e=>(hsep.kp k hk).2.2.2.2.2.2 e) hp14
    have s5:=g5.size
    have heq:outs=outs':=hout.uniq h.sep.ha.act.pub e1 e2 e3 e4 hout'
    subst heq
    have ho2:=ho.kB_ hsep.hb.act.row g5
    have hsm:=hout.small
    have hj7:∀r∈s.reps.set j' (bK_ s.reps[j'] m.kind m.ver (now:Nat)),0≤r.done:=λr hr=>by
      rcases List.mem_or_eq_of_mem_set hr with hr | rfl
      · exact e7 r hr
      · exact mV_ (e7 _ (List.getElem_mem hj)) hm.1.1
    have hdu:Twin N L k0 k1 rr w15 _ _ now:=⟨hsep',⟨e1,e2,e3,e4,by show s.reps.set j' (bK_ s.reps[j'] m.kind m.ver (now:Nat))=t.reps.set j' (bK_ t.reps[j'] m.kind m.ver (now:Nat));simp only [e5],e6,hj7⟩,by show (s.reps.set j' _).length=rr;rw [List.length_set];exact h.er,by omega⟩
    exact ⟨_,_,_,_,rfl,hp15,hK w15 _ _ _ _ _ _ _ _ hdu hp15 ⟨outs,ho2,ho',rfl,rfl,by omega,hsm.2⟩⟩
theorem pO_ {s t:ActS} (h:Alike s t) (now:Int):outN s now s.reps.length=outN t now t.reps.length:=by
  rw [show s.reps.length=t.reps.length by rw [h.reps]]
  exact s4_ h.last h.com h.man h.reps now _
theorem nC_ {w:World} {q q':Option Addr} {s t:ActS} {now:Int} (heq:outN s now s.reps.length=outN t now t.reps.length) (h1:Sl w q ((outN s now s.reps.length).flatMap outC)) (h2:Sl w q' ((outN t now t.reps.length).flatMap outC)) (h4:s.reps.length≤4):mc_ w q (outN s now s.reps.length).length q' (outN t now t.reps.length).length:=by
  have hl:=hj_ s now s.reps.length
  rw [← heq] at h2 ⊢
  exact ⟨_,bX_.of h1,bX_.of h2,by rw [List.length_map],by rw [List.length_map],by omega,λo ho=>by
    obtain ⟨o',_,rfl⟩:=List.mem_map.1 ho
    simp [outL]⟩
theorem Twin.tick (hP:Kp N L P) (h:Twin N L k0 k1 rr w s t now) (hp:P w) (hn:now+1≤1000000) {J:Option Addr→Nat→Nat→Option Addr→Nat→Nat→World→Prop}
    (hK:∀w' s' t' q l c q' l' c',Twin N L k0 k1 rr w' s' t' (now+1)→P w'→mc_ w' q l q' l'→J q l c q' l' c' w') :
    aa_ PR F.cm_ ⟨[.pointer (some ⟨k0,0,none⟩)]⟩ w λv32 w20=>∃q9 l18 l19 v33,v32=.tuple #[.slice q9 l18 l19,v33]∧P w20∧
      aa_ PR F.cm_ ⟨[.pointer (some ⟨k1,0,none⟩)]⟩ w20 λv34 w21=>∃q10 l20 l21 v35,v34=.tuple #[.slice q10 l20 l21,v35]∧P w21∧J q9 l18 l19 q10 l20 l21 w21:=by
  have hsz:=h.sz
  obtain ⟨e1,e2,e3,e4,e5,e6,e7⟩:=h.al
  have hroom:=h.al.room
  have e7':∀r∈t.reps,0≤r.done:=by rw [← e5];exact e7
  have hag:=qT_ e2 e3 e5 ((now+1:Nat):Int)
  have hrb:s.x.reg s.x.bd:=.inr (.inr (.inr (.inl rfl)))
  have hrb2:t.x.reg t.x.bd:=.inr (.inr (.inr (.inl rfl)))
  have keep0:∀ {w8:World},aA_ N w8 k0 s (now+1)→Chg (· = k0) w w8→P w8∧Sep2 N L w8 k0 s (now+1) k1 ⟨{ t.x with ex:=λk=>t.x.ex k∨s.x.reg k },t.a,t.bn,t.reps⟩ now:=λhH g=>
    ⟨hP _ _ _ g (λk e=>by subst e;exact h.sep.ha.lo) (λk hk e=>(h.sep.kp k hk).2.2.2.1 e) hp,h.sep.left hH (g.mono λk _ e=>.inl e) rfl rfl rfl (λk e=>.inl e) (h.sep.nf.1.keep g λe=>h.sep.ha.off (by rw [← e];exact hrb))⟩
  have keep1:∀ {w8 w9:World} {s':ActS} {n1:Nat} {e:Nat→Prop},Sep2 N L w8 k0 s' n1 k1 ⟨{ t.x with ex:=e },t.a,t.bn,t.reps⟩ now→P w8→aA_ N w9 k1 ⟨{ t.x with ex:=e },t.a,t.bn,t.reps⟩ (now+1)→Chg (· = k1) w8 w9→P w9∧Sep2 N L w9 k0 ⟨{ s'.x with ex:=λk=>s'.x.ex k∨t.x.reg k },s'.a,s'.bn,s'.reps⟩ n1 k1 ⟨{ t.x with ex:=e },t.a,t.bn,t.reps⟩ (now+1):=λhs hp8 hH g=>
    ⟨hP _ _ _ g (λk e=>by subst e;exact hs.hb.lo) (λk hk e=>(hs.kp k hk).2.2.2.2.2.1 e) hp8,(hs.swap.left hH (g.mono λk _ e=>.inl e) rfl rfl rfl (λk e=>.inl e) (hs.nf.2.keep g λe=>hs.hb.off (by rw [← e];exact hrb2))).swap⟩
  refine du_ h.sep.ha hsz hn e7 (λw8 q9 c9 hna hH g hs ho=>?_) (λw8 s' q9 c9 hya hH g a1 a2 a3 a4 a5 a6 a7 a8 a9 a10 a11 hs ho a12 a13=>?_) (λw8 n hno=>absurd h.sep.nf.1 hno) λw8 hya hr hH g=>?_
  · obtain ⟨hp8,hsep⟩:=keep0 hH g
    have s8:=g.size
    refine ⟨_,_,_,_,rfl,hp8,?_⟩
    refine du_ hsep.hb (by omega) hn e7' (λw9 q10 c10 _ hH9 g9 hs9 _=>?_) (λw9 t' q10 c10 hya=>absurd (hag.2 hya) hna) (λw9 n hno=>absurd hsep.nf.2 hno) λw9 hya=>absurd (hag.2 hya) hna
    obtain ⟨hp9,hsep9⟩:=keep1 hsep hp8 hH9 g9
    have s9:=g9.size
    have hal0:Alike s ⟨{ t.x with ex:=λk=>t.x.ex k∨s.x.reg k },t.a,t.bn,t.reps⟩:=⟨e1,e2,e3,e4,e5,e6,e7⟩
    have hk1:=aj_ h.sep.hb.blk
    exact ⟨_,_,_,_,rfl,hp9,hK w9 _ _ _ _ _ _ _ _ ⟨hsep9,⟨e1,e2,e3,e4,e5,e6,e7⟩,h.er,by omega⟩ hp9 (nC_ (pO_ hal0 _) (Sl.keep hs g9 λa ha e=>ho a ha (by have e':a.block=k1:=e;show a.block<w.heap.size;omega)) hs9 h.sep.ha.act.n4)⟩
  · have hsep:=h.sep.left hH (g.mono λk _ e=>e.elim .inl λe=>.inr (.inr e)) a1 a5 a9 a10 (by rw [a12];exact a13 h.sep.nf.1)
    have hp8:P w8:=hP _ _ _ g (λk e=>e.elim (λe=>by subst e;exact h.sep.ha.lo) λe=>h.sep.ha.act.pub.lo k e) (λk hk e=>e.elim (λe=>(h.sep.kp k hk).2.2.2.1 e) λe=>(h.sep.kp k hk).2.1 e) hp
    have s8:=g.size
    refine ⟨_,_,_,_,rfl,hp8,?_⟩
    refine du_ hsep.hb (by omega) hn e7' (λw9 q10 c10 hna=>absurd (hag.1 hya) hna) (λw9 t' q10 c10 _ hH9 g9 b1 b2 b4 b5 b6 b7 b8 b9 b11 b12 b13 hs9 _ b14 b15=>?_) (λw9 n hno=>absurd hsep.nf.2 hno) λw9 _ hr=>?_
    · have hsep':=(hsep.swap.left hH9 (g9.mono λk _ e=>e.elim .inl λe=>.inr (.inr e)) b1 b6 b11 b12 (by rw [b14];exact b15 hsep.nf.2)).swap
      have hp9:P w9:=hP _ _ _ g9 (λk e=>e.elim (λe=>by subst e;exact hsep.hb.lo) λe=>hsep.hb.act.pub.lo k e) (λk hk e=>e.elim (λe=>(hsep.kp k hk).2.2.2.2.2.1 e) λe=>(hsep.kp k hk).2.2.1 e) hp8
      have s9:=g9.size
      have b7':t'.x.recs=t.x.recs++[recC t.x.last]:=b7
      have b8':t'.x.man=t.x.man:=b8
      have b9':t'.x.each=t.x.each:=b9
      have b4':t'.x.last=t.x.last:=b4
      have b5':t'.x.com=t.x.last:=b5
      have b2':t'.reps=t.reps:=b2
      have hal0:Alike s' t':=⟨by rw [a6,b7',e1,e2],by rw [a3,b4',e2],by rw [a4,b5',e2],by rw [a7,b8',e4],by rw [a2,b2',e5],by rw [a8,b9',e6],by rw [a2];exact e7⟩
      have hk1:=aj_ h.sep.hb.blk
      exact ⟨_,_,_,_,rfl,hp9,hK w9 _ _ _ _ _ _ _ _ ⟨hsep',⟨hal0.recs,hal0.last,hal0.com,hal0.man,hal0.reps,hal0.each,hal0.dn⟩,by show s'.reps.length=_;rw [a2];exact h.er,by omega⟩ hp9 (nC_ (pO_ hal0 _) (Sl.keep hs g9 λa ha e=>ho a ha (e.elim (λe=>by show a.block<w.heap.size;omega) λe=>h.sep.hb.act.pub.lt _ e)) hs9 hH.act.n4)⟩
    · exfalso
      have hr':t.x.room<(recC t.x.last).length+6:=hr
      rw [← hroom,← e2] at hr'
      omega
  · obtain ⟨hp8,hsep⟩:=keep0 hH g
    have s8:=g.size
    refine ⟨_,_,_,_,rfl,hp8,?_⟩
    refine du_ hsep.hb (by omega) hn e7' (λw9 q10 c10 hna=>absurd (hag.1 hya) hna) (λw9 t' q10 c10 _ hH9 g9 b1 b2 b4 b5 b6 b7 b8 b9 b11 b12 b13 hs9 _ b14 b15=>?_) (λw9 n hno=>absurd hsep.nf.2 hno) λw9 _ _ hH9 g9=>?_
    · exfalso
      have hr':(recC t.x.last).length+6≤t.x.room:=b13
      rw [← hroom,← e2] at hr'
      omega
    · obtain ⟨hp9,hsep9⟩:=keep1 hsep hp8 hH9 g9
      have s9:=g9.size
      exact ⟨_,_,_,_,rfl,hp9,hK w9 _ _ _ _ _ _ _ _ ⟨hsep9,⟨e1,e2,e3,e4,e5,e6,e7⟩,h.er,by omega⟩ hp9 (.nil w9)⟩
end Go.Vc
namespace Go.Vc
open Go Go.RowKit Go.Maps Go.Sort Go.Shelf Go.Proofs Go.MapKept
open Go.WideElems (Fit rd rg rd_mk)
theorem jF_ {w w':World} (h:Below w.heap.size w w'):Grow w w':=⟨h.os,h.tape,h.output,h.size,λk hk _=>h.block k hk⟩
theorem tJ_ (m:Nat):AnyZI.SortsIn Tryz.prog Tryz.sortedA_ren Fence.wide m:=
  ⟨λblk off cap ss W hH hblk hsz=>callsIn_wide.2 (AnyM.slices_Sort_int Tryz.sortA blk off cap ss W hH hblk hsz),
   λp cap W=>callsIn_wide.2 (AnyM.slices_Sort_int_none Tryz.sortA p cap W)⟩
theorem q7_ {w:World} {mb:Option Nat} {K:Value→World→Prop} (hK:∀w' b,Grow w w'→b<w'.heap.size→w'.cell? ⟨b,0,none⟩=some (.map mb)→K (.func (.func 92) #[] #[.pointer (some ⟨b,0,none⟩)]) w'):aa_ PR 50 #[.map mb] w K:=by
  have cK:CallsIn Fence.wide 5 Tryz.prog 50 #[.map mb] w λe w'=>e=.returned (.func (.func 92) #[] #[.pointer (some ⟨w.heap.size,0,none⟩)])∧w'=w.alloc (.cells #[.map mb] T.b3_):=AnyZI.keys_in Tryz.keysA Fence.wide 5 trivial rfl mb w
  refine cr_ ((callsIn_wide (n:=5)).1 cK) λe w' ⟨he,hw⟩=>⟨_,he,?_⟩
  subst hw
  exact hK _ _ (Chg.alloc w _) (by simp) (by simp)
theorem hk_:∀(N:Nat) (l:List Nat),l.Nodup→(∀x∈l,x<N)→l.length≤N
  | 0,l,_,h=>by
    cases l with
    | nil=>simp
    | cons a l=>exact absurd (h a List.mem_cons_self) (by omega)
  | N+1,l,hn,h=>by
    by_cases hm:N∈l
    · have h1:=hk_ N (l.erase N) (hn.erase N) λx hx=>by
        have:=(hn.mem_erase_iff).1 hx
        have:=h x this.2
        omega
      rw [List.length_erase_of_mem hm] at h1
      omega
    · have:=hk_ N l hn λx hx=>by
        have:=h x hx
        rcases Nat.lt_or_ge x N with h2 | h2
        · exact h2
        · have:x=N:=by omega
          subst this;exact absurd hx hm
      omega
theorem aK_.keys {N:Nat} {w:World} {x:PubS} (h:aK_ N w x):∃es clock,w.heap[x.m]? = some (.map es clock)∧Stamped es clock∧(∀y∈es.toList,∃l,keyOf PR T.int y.key=some l)∧es.size≤1000000:=by
  obtain ⟨n,es,clock,h1,h2,h3,h4,h5⟩:=h.map
  refine ⟨es,clock,h1,h2,h4,?_⟩
  have hs:=h.small
  have hkey:∀y∈es.toList,∃i:Nat,y.key=.int .i64 (i:Int)∧i≤200000:=λy hy=>by
    obtain ⟨i,b,c,mn,list,k1,k2,k3,_⟩:=h.kept y.key y.val ((h5 _ _).2 ⟨y,hy,rfl,rfl⟩)
    exact ⟨i,k3,by omega⟩
  let nat:Value→Nat:=λv=>match v with | .int _ i=>i.toNat | _=>0
  have hnd:((es.toList.map (·.key)).map nat).Nodup:=by
    refine List.pairwise_map.2 (h2.2.2.imp_of_mem λ{a b} ha hb hne e=>hne ?_)
    obtain ⟨y,hy,rfl⟩:=List.mem_map.1 ha
    obtain ⟨z,hz,rfl⟩:=List.mem_map.1 hb
    obtain ⟨i,e1,_⟩:=hkey y hy
    obtain ⟨j,e2,_⟩:=hkey z hz
    rw [e1,e2] at e ⊢
    have:i=j:=by simpa [nat] using e
    rw [this]
  have:=hk_ 200001 _ hnd λv hv=>by
    obtain ⟨k,hk,rfl⟩:=List.mem_map.1 hv
    obtain ⟨y,hy,rfl⟩:=List.mem_map.1 hk
    obtain ⟨i,e1,hi⟩:=hkey y hy
    rw [e1]
    show i<200001
    omega
  simp only [List.length_map,Array.length_toList] at this
  omega
end Go.Vc
namespace Go.Vc
open Go
theorem ry_ (k0:Nat) (p1:Option Addr) (m2:Int) (m3:Int) (m4:Int) (g5:Option Nat) (S:SP) (K:KP) (w:World) (hF:Fs S w [⟨k0,#[.pointer p1,.int .i64 m2,.int .i64 m3,.int .i64 m4,.map g5],108,true⟩] w) (hS:S k0∧True) (h:aa_ PR 50 #[.map g5] w λv0 w0=>∃v1,v0=v1∧Fs S w [⟨k0,#[.pointer p1,Iv m2,Iv m3,Iv m4,.map g5],108,true⟩] w0∧aa_ PR 49 #[v1] w0 λv2 w1=>∃q0 l0 l1,v2=.slice q0 l0 l1∧Fs S w [⟨k0,#[.pointer p1,Iv m2,Iv m3,Iv m4,.map g5],108,true⟩] w1∧K (.slice q0 l0 l1) w1):aa_ PR 25 ⟨[.pointer (some ⟨k0,0,none⟩)]⟩ w K:=
  ab_ (okf:=⟨okL,[]⟩) ag_ (args:=[.c (.p 0 k0 true 0)]) (H:=[⟨k0,.l [.v (.pointer p1),.v (.int .i64 m2),.v (.int .i64 m3),.v (.int .i64 m4),.v (.map g5)],108,true⟩]) (.s .z (.s .z (.s (.r ⟨(some [0]),false,[],[]⟩) .z))) Go.Proofs.Tryz.func25 rfl ⟨rfl,trivial⟩ ⟨⟨trivial,⟨trivial,⟨trivial,⟨trivial,⟨trivial,trivial⟩⟩⟩⟩⟩,trivial⟩ hF hS (ae_ (by kernel_rfl) h)
end Go.Vc
namespace Go.Vc
open Go Go.RowKit Go.Maps Go.Sort Go.Shelf Go.Proofs Go.MapKept
open Go.WideElems (Fit rd rg rd_mk)
theorem p3_ {H:Type} {a x:Lit × DataW H} : ∀l:List (Lit × DataW H),x∈DataW.insert a l→x=a∨x∈l
  | [],h=>.inl (by simpa [DataW.insert] using h)
  | y :: r,h=>by
    unfold DataW.insert at h
    split at h
    · rcases List.mem_cons.1 h with h | h
      · exact .inl h
      · exact .inr h
    · rcases List.mem_cons.1 h with h | h
      · exact .inr (by rw [h];exact List.mem_cons_self)
      · exact (p3_ r h).imp id λh=>List.mem_cons_of_mem _ h
theorem lB_ {H:Type} {x:Lit × DataW H} : ∀l:List (Lit × DataW H),x∈l.foldr DataW.insert []→x∈l
  | [],h=>by cases h
  | a :: l,h=>(p3_ _ h).elim (λe=>by rw [e];exact List.mem_cons_self) λh=>List.mem_cons_of_mem _ (lB_ l h)
theorem ne_ {w:World} {b m:Nat} {es:Array MapEntry} {clock:Nat} (hB:w.cell? ⟨b,0,none⟩=some (.map (some m))) (hbl:b<w.heap.size) (hm:w.heap[m]? = some (.map es clock)) (hst:Stamped es clock) (hk:∀x∈es.toList,∃l,keyOf PR T.int x.key=some l) (hsz:es.size≤1000000) {K:Value→World→Prop}
    (hK:∀w' q c (ss:List Int),Grow w w'→ss.length=es.size→Sl w' q (ss.map Iv)→(∀v∈ss,∃y∈es.toList,y.key=.int .i64 v)→K (.slice q es.size c) w'):aa_ PR 49 #[.func (.func 92) #[] #[.pointer (some ⟨b,0,none⟩)]] w K:=by
  let R0:Value→Option (DataW Unit × List MemPlace):=λ_=>some (.nil,[])
  have F0:Fit PR T.int R0 es clock:=⟨Nat.le_trans hsz (by decide),hst,λx hx=>by
    obtain ⟨l,hl⟩:=hk x hx
    exact ⟨_,rd_mk (born:=x.born) hl rfl⟩⟩
  have hown:w.ownsMap PR T.int R0 m es.size _:=World.ownsMap_of_fit hm F0 (λ_ _ _ h=>h)
  have hlen:=length_read (P:=PR) (k:=T.int) (R0:=R0) es
  have hsize:Maps.size (.map ((es.toList.map (rg PR T.int R0)).foldr DataW.insert []))=es.size:=hlen
  have hseq:SeqGives Fence.wide 2 Tryz.prog 92 #[.pointer (some ⟨b,0,none⟩)] encZ (λss=>ss.Perm (intKeys (.map ((es.toList.map (rg PR T.int R0)).foldr DataW.insert [])))) (Maps.size (.map ((es.toList.map (rg PR T.int R0)).foldr DataW.insert []))) w:=
    AnyZI.keys_gives (ρ:=Tryz.keysA_ren) { Tryz.keysA with } Fence.wide _ trivial rfl (by omega) b m es.size _ w hbl hB hown
  have cS:=AnyZI.sorted_in Tryz.sortedA Fence.wide 5 trivial trivial trivial trivial rfl (by omega) (tJ_ _) (enters_of Tryz.func91 (by kernel_rfl) rfl) 92 #[.pointer (some ⟨b,0,none⟩)] trivial (enters_of Tryz.func92 (by kernel_rfl) rfl) _ _ (by rw [hsize];exact Nat.le_trans hsz (by decide)) (by rw [hsize];omega) _ hseq
  change CallsIn _ _ Tryz.prog 49 _ _ _ at cS
  refine cr_ ((callsIn_wide (n:=5)).1 cS) λe w' ⟨v,ss,he,hS,hrow,hnil,hb⟩=>⟨v,he,?_⟩
  have hl:ss.length=es.size:=by
    rw [hS.length_eq,← hlen]
    show (List.map _ _).length=_
    rw [List.length_map]
  have hl2:(ss.mergeSort λx y=>decide (x≤y)).length=es.size:=by rw [List.length_mergeSort,hl]
  have hmem:∀v∈(ss.mergeSort λx y=>decide (x≤y)),∃y∈es.toList,y.key=.int .i64 v:=λv hv=>by
    have h1:v∈ss:=(List.mergeSort_perm ss _).mem_iff.1 hv
    have h2:=hS.mem_iff.1 h1
    obtain ⟨p,hp,hpv⟩:=List.mem_map.1 h2
    obtain ⟨y,hy,rfl⟩:=List.mem_map.1 (lB_ _ hp)
    obtain ⟨l,hkl⟩:=hk y hy
    obtain ⟨z,e1,e2,_⟩:=Maps.keyOf_i64 (k:=T.int) (show PR.underlying T.int=some (.int .i64) by kernel_rfl) hkl
    refine ⟨y,hy,?_⟩
    have e3:rg PR T.int R0 y=(l,.nil):=by
      unfold WideElems.rg WideElems.rd
      rw [hkl];rfl
    rw [e3,e2] at hpv
    rw [e1]
    have:z=v:=hpv
    rw [this]
  obtain ⟨hrl,hrow⟩:=hrow
  rcases hrow with ⟨rfl,hz⟩ | ⟨gb,cap,cur,rfl,_,hheap,_,_,_,htake⟩
  · have:=hK w' none 0 _ (jF_ hb) hl2 (.inl (by
      have:ss=[]:=List.eq_nil_of_length_eq_zero hz
      subst this;simp)) hmem
    rw [← hl,hz] at this
    exact this
  · rw [hl]
    refine hK w' _ _ _ (jF_ hb) hl2 (.inr ⟨gb,0,rfl,cur,_,_,hheap,λi hi=>?_⟩) hmem
    have e:((ss.mergeSort λx y=>decide (x≤y)).map Iv)=cur.toList.take (ss.length*1):=htake.symm
    rw [e] at hi ⊢
    rw [List.length_take] at hi
    rw [Nat.zero_add,List.getElem?_take_of_lt (by omega),Array.getElem?_toList]
def gn_ (x:PubS) (i:Nat):Prop:=1≤i∧i≤x.last∧(x.last<i+3∨i=x.com)
theorem aK_.uF_ {N:Nat} {w:World} {x:PubS} (h:aK_ N w x):∃es clock,w.heap[x.m]? = some (.map es clock)∧Stamped es clock∧(∀y∈es.toList,∃l,keyOf PR T.int y.key=some l)∧es.size≤1000000∧(∀y∈es.toList,∃i:Nat,y.key=.int .i64 (i:Int)∧gn_ x i)∧∃ns:List Nat,ns.length=es.size∧ns.Nodup∧∀i,i∈ns↔gn_ x i:=by
  obtain ⟨n,es,clock,h1,h2,h3,h4,h5⟩:=h.map
  have hs:=h.small
  have hkey:∀y∈es.toList,∃i:Nat,y.key=.int .i64 (i:Int)∧gn_ x i:=λy hy=>by
    have hr:=(h5 y.key y.val).2 ⟨y,hy,rfl,rfl⟩
    obtain ⟨i,b,c,mn,list,k1,k2,k3,_⟩:=h.kept y.key y.val hr
    rw [k3] at hr
    exact ⟨i,k3,k1,k2,h.only i _ hr⟩
  let nat:Value→Nat:=λv=>match v with | .int _ i=>i.toNat | _=>0
  have hnd:((es.toList.map (·.key)).map nat).Nodup:=by
    refine List.pairwise_map.2 (h2.2.2.imp_of_mem λ{a b} ha hb hne e=>hne ?_)
    obtain ⟨y,hy,rfl⟩:=List.mem_map.1 ha
    obtain ⟨z,hz,rfl⟩:=List.mem_map.1 hb
    obtain ⟨i,e1,_⟩:=hkey y hy
    obtain ⟨j,e2,_⟩:=hkey z hz
    rw [e1,e2] at e ⊢
    have:i=j:=by simpa [nat] using e
    rw [this]
  have hmem:∀i,i∈((es.toList.map (·.key)).map nat)↔gn_ x i:=λi=>by
    constructor
    · intro hi
      obtain ⟨k,hk,rfl⟩:=List.mem_map.1 hi
      obtain ⟨y,hy,rfl⟩:=List.mem_map.1 hk
      obtain ⟨j,e1,hj⟩:=hkey y hy
      rw [e1];exact hj
    · rintro ⟨a,b,c⟩
      obtain ⟨v,hv⟩:=h.has i a b c
      obtain ⟨y,hy,e1,_⟩:=(h5 _ _).1 hv
      exact List.mem_map.2 ⟨y.key,List.mem_map.2 ⟨y,hy,rfl⟩,by rw [e1];rfl⟩
  refine ⟨es,clock,h1,h2,h4,?_,hkey,_,by simp,hnd,hmem⟩
  have:=hk_ 200001 _ hnd λv hv=>by
    have:=(hmem v).1 hv
    have:=this.2.1
    omega
  simp only [List.length_map,Array.length_toList] at this
  omega
theorem iK_ {N:Nat} {w:World} {x:PubS} (h:aK_ N w x) {K:Value→World→Prop}
    (hK:∀w' q n c (ss:List Int) (ns:List Nat),Grow w w'→ss.length=n→n≤1000000→Sl w' q (ss.map Iv)→(∀v∈ss,∃i:Nat,v=i∧gn_ x i)→ns.length=n→ns.Nodup→(∀i,i∈ns↔gn_ x i)→K (.slice q n c) w'):aa_ PR F.iX_ ⟨[.pointer (some ⟨x.p,0,none⟩)]⟩ w K:=by
  obtain ⟨es,clock,hm,hst,hk,hsz,hkey,ns,n1,n2,n3⟩:=h.uF_
  have hF:Fs (· = x.p) w [⟨x.p,pubC x.bj x.each x.last x.com x.m,T.aR_,true⟩] w:=(Fr.init _ w).entry h.blk (λx h=>by cases h) λ_=>rfl
  refine ry_ x.p (some ⟨x.bj,0,none⟩) x.each x.last x.com (some x.m) (· = x.p) K w hF ⟨rfl,trivial⟩ ?_
  refine q7_ λw1 b g1 hb hc=>⟨_,rfl,hF.after g1,?_⟩
  refine ne_ hc hb (Grow.get g1 hm) hst hk hsz λw2 q c ss g2 hl hs hv=>⟨_,_,_,rfl,(hF.after g1).after g2,hK w2 q _ c ss ns (g1.trans g2) hl hsz hs (λv hv'=>?_) n1 n2 n3⟩
  obtain ⟨y,hy,e⟩:=hv v hv'
  obtain ⟨i,e2,hi⟩:=hkey y hy
  rw [e] at e2
  injection e2 with _ e2
  exact ⟨i,e2,hi⟩
theorem rY_ {x y:PubS} (e1:x.last=y.last) (e2:x.com=y.com) {ns ms:List Nat} (h1:ns.Nodup) (h2:ms.Nodup) (k1:∀i,i∈ns↔gn_ x i) (k2:∀i,i∈ms↔gn_ y i):ns.length=ms.length:=
  ((List.perm_ext_iff_of_nodup h1 h2).2 λi=>by rw [k1,k2];unfold gn_;rw [e1,e2]).length_eq
end Go.Vc
