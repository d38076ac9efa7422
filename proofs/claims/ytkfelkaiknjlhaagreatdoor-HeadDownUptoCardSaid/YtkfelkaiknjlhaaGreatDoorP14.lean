/-
  A part of the proof of the statement HeadDownUptoCardSaid, in Lean: Hd7, Hp1, Hp2, Op1, Op2, Op3, MirD1, MirD3, Dk2, Hd8, Cn, Ce, Hq1, Hq2. By an AI agent.
-/
import Derived.Test.YtkfelkaiknjlhaaGreatDoorP13
import Derived.Test.YtkfelkaiknjlhaaGreatDoorP11
import Derived.Test.YtkfelkaiknjlhaaGreatDoorP10
import Derived.Test.YtkfelkaiknjlhaaGreatDoorP02
import Derived.Test.YtkfelkaiknjlhaaGreatDoorP07
set_option linter.unusedSimpArgs false
set_option linter.unusedVariables false
set_option maxRecDepth 100000
namespace Go.Vc
open Go Go.MapKept
end Go.Vc
namespace Go.Vc
open Go Go.MapKept
structure OpH where
 k:Int
 n:Int
 q:Option Addr
 c:Nat
 l:List (Int × Int)
 m:MsgL
 mq:Option Addr
 mc:Nat
 s:List UInt8
 pq:Option Addr
 pl:Nat
 pc:Nat
 pn:Int
def opHC (o:OpH):List Value:=[.int .i64 o.k,.int .i64 o.n,.slice o.q o.l.length o.c,.int .i64 o.m.kind,.int .i64 o.m.ver,.int .i64 o.m.i,.string (str o.m.text),.slice o.mq o.m.proof.length o.mc,.string (str o.s),.slice o.pq o.pl o.pc,.int .i64 o.pn]
theorem dB_ (o:OpH):(opHC o).length=11:=rfl
structure OpsH (w:World) (y:Option Addr) (ops:List OpH):Prop where
 row:Sl w y (ops.flatMap opHC)
 l:∀o∈ops,Sl w o.q (encE o.l)
 m:∀o∈ops,Sl w o.mq (o.m.proof.map sv8')
theorem OpsH.grow {w w':World} {y:Option Addr} {ops:List OpH} (h:OpsH w y ops) (g:Grow w w'):OpsH w' y ops:=⟨h.row.grow g,λo ho=>(h.l o ho).grow g,λo ho=>(h.m o ho).grow g⟩
def sm_ (m:MsgL):Prop:=m.text.length≤6000∧m.proof.length≤30∧∀p∈m.proof,p.length≤100
def nA_ (o:OpH):Prop:=o.l.length≤60∧o.s.length≤300∧o.pl≤50∧sm_ o.m∧(o.k=0→o.n≤100)
theorem mj_ {m:MsgL} {q:Option Addr} {c:Nat} {w:World} (hs:Sl w q (m.proof.map sv8')) {K:Value→World→Prop} (hK:∀w' t,Grow w w'→(t=false→sm_ m)→K (.bool t) w') :
  aa_ PR F.b6_ ⟨[h1_ m q c]⟩ w K:=by
 refine b6_ m.kind m.ver m.i (str m.text) q m.proof.length c S0 K w λl0 hl0=>⟨λh w0 hF=>hK w0 true hF.gr (λh=>by cases h),λht=>⟨λh w1 hF=>hK w1 true hF.gr (λh=>by cases h),λhp w2 hF2=>?_⟩⟩
 rw [ae_] at ht
 refine ⟨λi mm w'=>∃k:Nat,i=k∧k≤m.proof.length∧mm=m.proof.length - k∧∀j,(hj:j<m.proof.length)→j<k→m.proof[j].length≤100,⟨_,0,rfl,by omega,rfl,λj hj h=>by omega⟩,?_⟩
 rintro i D mm w3 ⟨k,rfl,hk,rfl,hall⟩ hF3
 refine ⟨λhlt=>?_,λhge=>hK w3 false hF3.gr λ_=>⟨by omega,by omega,λp hp=>?_⟩⟩
 ·have hk':k<m.proof.length:=by omega
  refine (hs.grow hF3.gr).rd (v:=sv8' m.proof[k]) (by simp) (by omega) (by simp [hk']) λa ha=>⟨_,ha,λh=>hK w3 true hF3.gr (λh=>by cases h),λh=>⟨m.proof.length - (k+1),by omega,k+1,by rw [w64 (by omega) (by omega)];rfl,by omega,rfl,λj hj hjk=>?_⟩⟩
  by_cases e:j=k
  ·subst e;rw [ae_] at h;omega
  ·exact hall j hj (by omega)
 ·obtain ⟨j,hj,rfl⟩:=List.getElem_of_mem hp
  exact hall j hj (by omega)
theorem mi_ {ops:List OpH} {y:Option Addr} {c n:Nat} {w:World} (h:OpsH w y ops) (hn:n=ops.length) {K:Value→World→Prop} (hK:∀w' t,Grow w w'→(t=false→ops.length≤50∧∀o∈ops,nA_ o)→K (.bool t) w') :
  aa_ PR F.bo_ ⟨[.slice y n c]⟩ w K:=by
 subst hn
 refine bo_ y ops.length c S0 K w ⟨λh=>hK w true (.refl _ _) (λh=>by cases h),λhle=>?_⟩
 refine ⟨λi mm w'=>∃k:Nat,i=k∧k≤ops.length∧mm=ops.length - k∧∀j,(hj:j<ops.length)→j<k→nA_ ops[j],⟨_,0,rfl,by omega,rfl,λj hj h=>by omega⟩,?_⟩
 rintro i D mm w0 ⟨k,rfl,hk,rfl,hall⟩ hF0
 refine ⟨λhlt=>?_,λhge=>hK w0 false hF0.gr λ_=>⟨by omega,λo ho=>?_⟩⟩
 ·have hk':k<ops.length:=by omega
  have h0:=h.grow hF0.gr
  have hm:=List.getElem_mem hk'
  refine h0.row.rdN dB_ (by decide) rfl hk' hk' λa hc=>?_
  refine ⟨_,hc 0 _ rfl,_,hc 1 _ rfl,_,_,_,hc 2 _ rfl,_,hc 3 _ rfl,_,hc 4 _ rfl,_,hc 5 _ rfl,_,hc 6 _ rfl,_,_,_,hc 7 _ rfl,_,hc 8 _ rfl,_,_,_,hc 9 _ rfl,_,hc 10 _ rfl,λl8 hl8=>⟨λh w1 hF=>hK w1 true (hF0.gr.trans (hF.unM hl8).grow) (λh=>by cases h),λa1=>⟨λh w1 hF=>hK w1 true (hF0.gr.trans (hF.unM hl8).grow) (λh=>by cases h),λa2=>⟨λh w1 hF=>hK w1 true (hF0.gr.trans (hF.unM hl8).grow) (λh=>by cases h),λa3 w4 hF4=>?_⟩⟩⟩⟩
  rw [ae_] at a2
  have g4:Grow w0 w4:=(hF4.unM hl8).grow
  have hF4':=(hF4.unM hl8)
  refine mj_ (m:=ops[k].m) ((h0.m _ hm).grow g4) λw5 t g5 ht=>⟨t,rfl,λe=>⟨hF4.reset.after g5,by subst e;exact hK w5 true (hF0.gr.trans (g4.trans g5)) (λh=>by cases h)⟩,λe=>⟨hF4.reset.after g5,λe0=>⟨λh=>hK w5 true (hF0.gr.trans (g4.trans g5)) (λh=>by cases h),λa4=>?_⟩,λe0=>?_⟩⟩
  all_goals
   refine ⟨ops.length - (k+1),by omega,k+1,by rw [w64 (by omega) (by omega)];rfl,by omega,rfl,λj hj hjk=>?_⟩
   by_cases e':j=k
   ·subst e';exact ⟨by omega,by omega,by omega,ht e,λhk0=>by omega⟩
   ·exact hall j hj (by omega)
 ·obtain ⟨j,hj,rfl⟩:=List.getElem_of_mem ho
  exact hall j hj (by omega)
end Go.Vc
namespace Go.Vc
open Go Go.MapKept
theorem lY_ {w:World} {K:Value→World→Prop} (hK:∀w',Grow w w'→K (.bool true) w'):aa_ PR F.b5_ ⟨[]⟩ w K:=by
 have h0:Fs S0 w [] w:=Fr.init _ w
 refine b5_ S0 K w (mh_ (λw0 k0 s k ek k1 k4 g0 hH hr e1 e2 e3 e4 hnf=>?_) λw0 hbad g0=>absurd hbad (by omega))
 obtain rfl:k=1:=by omega
 have hF0:=h0.after g0
 refine ⟨_,_,rfl,hF0,λ_=>⟨(λh=>by cases h),λa0 ha0 l0 hl0 w1 hF1=>?_⟩,(λt x h=>by cases h),.inl rfl⟩
 cases ha0
 have g1:Grow w0 w1:=hF1.grow
 have hH1:=hH.grow g1
 have s1:=hF1.chg.size
 have old:∀ {L:List Blk} {wa wb:World} {S:Nat→Prop},Fs S0 w L wa→Chg S wa wb→(∀k,S k→w.heap.size≤k)→(∀y,y∈L→¬S y.b)→Fs S0 w L wb:=λhF g hS hL=>hF.step g hL λk hk e=>by have:=hS k e;omega
 have hk0:=hH.lo
 have hlt1:=hH1.act.pub.lt
 refine fW_ hH1 (by omega) (l:=[(0,1)]) (hF1.sl 0 rfl) rfl (by decide) (λw2 x2 mn list hok er em hH2 g2 f3 f4 f5 f8 f9 f2 f11=>?_) (λw2 n hn=>absurd (hnf.keep g1 λe=>e) hn) λw2 v c g2 hv _ hno=>?_
 rotate_left
 ·refine absurd ⟨⟨⟨by decide,by decide,by decide,λe he=>?_⟩,by rw [e1];decide,by decide⟩,by decide,?_⟩ hno
  ·rw [List.mem_singleton.1 he];decide
  ·unfold PubS.room;rw [e4];decide
 have hF2:=old hF1.reset g2 (λk e=>hH1.act.pub.lo k e) (λy hy e=>by
  simp at hy;subst hy
  have:=hH.act.pub.lt _ e
  simp only [] at this;omega)
 refine ⟨_,_,rfl,_,_,hF2,?_⟩
 have hm:fE_ ⟨7,1,0,[],[]⟩:=⟨⟨by decide,by decide⟩,⟨by decide,by decide⟩,by decide,by decide,(λp hp=>by cases hp),by decide⟩
 have hF2':=hF2.sub (List.nil_sublist _)
 refine sc_ (m:=⟨7,1,0,[],[]⟩) (q:=none) (c:=0) (.inl rfl) (λ_ w3 g3=>⟨_,_,rfl,hF2'.after g3,?_⟩) λno=>absurd hm no
 have hF3:=hF2'.after g3
 have hH3:=hH2.grow g3
 have hrl:s.reps.length=1:=by rw [hr];rfl
 have hlen:(a3_ crcN (bn_ ⟨7,1,0,[],[]⟩)).length≤1099511627776:=by
  rw [a9_];have:=iy_ hm;omega
 have noL:∀ {S:Nat→Prop} (y:Blk),y∈([]:List Blk)→¬S y.b:=λy hy=>by cases hy
 refine oZ_ hH3 hlen (λhbad=>absurd ⟨by omega,by show (1:Int)≤(s.reps.length:Nat);omega⟩ hbad) (λw4 c v _ _ _ hg _=>by rw [js_ hm] at hg;cases hg) λw4 j m q outs c hj hfr hg hH4 g4 hout ho=>?_
 rw [js_ hm] at hg
 cases hg
 obtain rfl:j=0:=by omega
 have hF4:=old hF3 g4 (λk e=>by subst e;exact hH3.act.ln) (λy hy=>by cases hy)
 refine ⟨_,_,_,_,rfl,hF4,?_⟩
 have hr0:s.reps[0]'(by omega)=rp0:=by simp [hr]
 have ereps:s.reps.set 0 (cI_ (s.reps[0]'(by omega)) 7 1 0)=[cI_ rp0 7 1 0]:=by rw [hr0,hr];rfl
 have ereps':(⟨x2,s.a,s.bn,s.reps.set 0 (cI_ (s.reps[0]'(by omega)) 7 1 ((0:Nat):Int))⟩:ActS).reps=[cI_ rp0 7 1 0]:=ereps
 have htg:(⟨x2,s.a,s.bn,s.reps.set 0 (cI_ (s.reps[0]'(by omega)) 7 1 ((0:Nat):Int))⟩:ActS).tgt=1:=by
  unfold ActS.tgt;simp only [];rw [f4,f5,e2,e3];rfl
 have hag:fT_ (⟨x2,s.a,s.bn,s.reps.set 0 (cI_ (s.reps[0]'(by omega)) 7 1 ((0:Nat):Int))⟩:ActS) ((0+1:Nat):Int):=by
  refine ⟨by rw [htg];decide,⟨cI_ rp0 7 1 0,by rw [ereps'];exact List.mem_singleton.2 rfl,rfl,by decide⟩,λr hr' _ _=>?_⟩
  rw [ereps',List.mem_singleton] at hr'
  subst hr'
  rw [htg];decide
 have nf2:NoF w2 x2.bd:=by rw [f2];exact f11 (hnf.keep g1 λe=>e)
 have nf4:NoF w4 x2.bd:=(nf2.keep g3 λe=>e).keep g4 λe=>hH3.act.off.2 (.inr (.inr (.inr (.inl e.symm))))
 refine jG_ hH4 hF4.gr.size (by decide) (λr hr'=>by rw [ereps',List.mem_singleton] at hr';subst hr';decide) (λw5 q5 c5 hna=>absurd hag hna) (λw5 s5 q5 c5 _ hH5 g5 b1 b2 b4 b5 b6 b7 b8 b9 b11 b12 b13 _ _ _ _=>?_) (λw5 n hn=>absurd nf4 hn) λw5 _ hroom=>?_
 ·have hF5:=old hF4 g5 (λk e=>e.elim (λe=>by subst e;exact hH4.lo) λe=>hH4.act.pub.lo k e) (λy hy=>by cases hy)
  refine ⟨_,_,_,_,rfl,hF5,λ_=>?_,λhne=>absurd (by show ((x2.last:Nat):Int)=1;rw [f4,e2];rfl) hne⟩
  have ec:s5.x.com=1:=by rw [b5];show x2.last=1;rw [f4,e2]
  have I:∀ {J:Nat→Value→Prop},∀t x,(Value.nilIface:Value)=.iface t x→J t x:=λt x h=>by cases h
  exact ⟨λ_=>⟨λ_=>⟨λ_=>⟨λ_=>af_.2 (af_.2 (af_.2 ⟨_,by rw [an_,ar_ hH5.blk];rfl,af_.2 (af_.2 (af_.2 ⟨_,by rw [an_,ar_ hH5.act.blk];rfl,ak_ hH5.act.pub ⟨_,rfl,hF5,λ_=>hK w5 hF5.gr,λhne=>absurd (by rw [ec];rfl) hne⟩⟩))⟩)),(λt x h=>by cases h),.inl rfl⟩,(λt x h=>by cases h),.inl rfl⟩,(λt x h=>by cases h),.inl rfl⟩,(λt x h=>by cases h),.inl rfl⟩
 ·exfalso
  have hroom':x2.room<(recC x2.last).length+6:=hroom
  have h5:(recC x2.last).length=1+(ac_ x2.last).length:=by simp [recC];omega
  have h6:=am_ (n:=x2.last) (by rw [f4,e2];decide)
  have h7:=hok.2.2.2.2.1
  unfold PubS.room at hroom'
  rw [er,e4,bW_,List.length_append,a9_] at hroom'
  simp [logL] at hroom'
  omega
end Go.Vc
namespace Go.Vc
open Go
theorem ot_ {r:List UInt8} (hr:r.length≤60000) {k:Nat} (hk:k<(a3_ crcN r).length):dE_ crcN ((a3_ crcN r).take k)=none:=by
 have hsl:=a9_ crcN r
 have hl:((a3_ crcN r).take k).length=k:=by rw [List.length_take];omega
 unfold dE_
 rw [hl]
 by_cases h6:k<6
 ·rw [if_pos h6]
 ·have e:(((a3_ crcN r).take k).drop 4).take 2=av_ 2 r.length:=by
   rw [List.drop_take,List.take_take,Nat.min_eq_left (by omega)]
   unfold a3_
   rw [List.append_assoc,List.drop_append_of_le_length (by rw [aC_];decide),List.drop_eq_nil_of_le (by rw [aC_];decide),List.nil_append,List.take_append_of_le_length (by rw [aC_];decide),List.take_of_length_le (by rw [aC_];decide)]
  have e2:fixed (av_ 2 r.length)=r.length:=fO_ 2 _ (by omega)
  rw [if_neg h6,e,e2,if_neg (by omega),if_pos (by omega)]
theorem l0_ {part:List UInt8} (hp:dE_ crcN part=none):∀(k:Nat) (ts:List (List UInt8)),(∀t∈ts,t.length≤60000)→ts.length<k→
  allL crcN k (ts.flatMap (a3_ crcN)++part)=(ts,(ts.flatMap (a3_ crcN)).length)
 | k,[],_,_=>by
  rw [List.flatMap_nil,List.nil_append,l2_ hp];rfl
 | 0,t :: ts,_,h=>by simp at h
 | k+1,t :: ts,ht,h=>by
  have h1:=jk_ m5_ (ht t List.mem_cons_self) (ts.flatMap (a3_ crcN)++part)
  have ih:=l0_ hp k ts (λx hx=>ht x (List.mem_cons_of_mem _ hx)) (by simp at h;omega)
  have hsl:=a9_ crcN t
  rw [List.flatMap_cons,List.append_assoc,l1_ h1]
  have hd:(a3_ crcN t++(ts.flatMap (a3_ crcN)++part)).drop (6+t.length)=ts.flatMap (a3_ crcN)++part:=by
   rw [show 6+t.length=(a3_ crcN t).length by omega,List.drop_left]
  rw [hd,ih,List.length_append]
  simp only [Prod.mk.injEq,true_and];omega
theorem lp_:dE_ crcN []=none:=by unfold dE_;rfl
def rh_ (part:List UInt8):Prop:=part.length≤200000∧dE_ crcN part=none
theorem ny_ (l:List UInt8) (n:Nat):(str l).extract 0 n=str (l.take n):=by
 apply ByteArray.ext
 apply Array.ext'
 rw [ByteArray.data_extract]
 simp [str]
theorem q6_ {w:World} {b:Nat} {l:List UInt8} (h:bP_ w b (str l)) (hn:NoF w b) {n:Nat} (hl:n≤l.length) {K:Value→World→Prop} (hK:∀w',bP_ w' b (str (l.take n))→NoF w' b→Chg (· = b) w w'→K .nilIface w'):aa_ PR F.hU_ ⟨[.pointer (some ⟨b,0,none⟩),.int .i64 (n:Nat)]⟩ w K:=by
 obtain ⟨f,q0,q1,c0,c1,hf,h⟩:=h
 have hf1:=hn.eq h
 have h0:Fs (· = b) w [⟨b,dskC f false (str l) (str l) q0 q1 c0 c1 none 0 0,T.au_,true⟩] w:=(Fr.init _ w).entry h (λx h=>by cases h) λ_=>rfl
 refine kA_ b f false (str l) q0 0 c0 (str l) q1 0 c1 none 0 0 n (· = b) K w h0 ⟨rfl,trivial⟩ (dr_ h ⟨_,rfl,h0,λ_=>⟨λh=>by omega,λ_=>⟨λh=>by rw [ae_] at h;omega,λ_=>?_⟩⟩,(λt x h=>by cases h),.inl rfl⟩)
 refine ix_ h hf (λw1 f' hf' hff hb1 g1=>⟨_,rfl,_,_,_,_,_,_,_,_,_,_,_,_,_,h0.mod1 g1 hb1,λ_=>⟨by omega,by rw [ae_];omega,λw2 hF2=>?_⟩,(λt x h=>by cases h),.inl rfl⟩) λw1 hff=>absurd hf1 hff
 have e:f' = -1:=hff hf1
 subst e
 have hb2:=hF2.blk 0 rfl
 have hF2':=hF2.reset
 have g2:Chg (· = b) w1 w2:=hF2.stp.mono λk _ e=>by simpa using e
 rw [Int.toNat_natCast,ny_] at hb2 hF2'
 refine gF_ hb2 λw3 q' c' hb3 g3=>⟨rfl,_,_,_,_,_,_,_,_,_,_,_,_,_,hF2'.mod1 g3 hb3,hK w3 ⟨_,_,_,_,_,hf',hb3⟩ (.mk hb3) ((g1.trans g2 λ_ _ e=>e).trans g3 λ_ _ e=>e)⟩
theorem oU_ {w:World} {bd:Nat} {recs:List (List UInt8)} {part:List UInt8} (h:bP_ w bd (str (logL recs++part))) (hn:NoF w bd) (hp:rh_ part) (hr:∀s∈recs,s.length≤60000) (hl:(logL recs).length≤200000) {K:Value→World→Prop} (hK:∀w' bj q c,Chg (· = bd) w w'→w.heap.size≤bj→ct_ w' bj bd q c recs→NoF w' bd→Off (λj=>j<w.heap.size) q→K (.tuple #[.pointer (some ⟨bj,0,none⟩),.nilIface]) w'):aa_ PR F.gI_ ⟨[.pointer (some ⟨bd,0,none⟩)]⟩ w K:=by
 have hfr:∀ {w':World},Chg (· = bd) w w'→Fs (· = bd) w [] w':=λg=>(Fr.init _ w).step g (λx hx=>by cases hx) λ_ _ e=>e
 have hlt:bd<w.heap.size:=by obtain ⟨_,_,_,_,_,_,hh⟩:=h;exact aj_ hh
 refine fL_ (some ⟨bd,0,none⟩) (· = bd) K w ?_
 refine oa_ h ⟨_,_,rfl,.init _ w,λ_=>?_,(λt x h=>by cases h),.inl rfl⟩
 obtain ⟨hp1,hp2⟩:=hp
 refine sg_ (by rw [List.length_append];omega) λw1 q c g1 ho hc hof=>?_
 have hall:allL crcN ((logL recs++part).length+1) (logL recs++part)=(recs,(logL recs).length):=l0_ hp2 _ recs hr (by have:=kf_ recs;rw [List.length_append];omega)
 rw [hall] at ho hc ⊢
 have g1':Chg (· = bd) w w1:=g1.mono λ_ _ e=>e.elim
 have s1:=g1.size
 have fin:∀ {w1 w2:World} {b:Nat},Grow w1 w2→w1.heap.size≤b→w.heap.size≤w1.heap.size→Chg (· = bd) w w1→Own T.string 1 w1 q c (recs.map sv8')→bP_ w1 bd (str (logL recs))→NoF w1 bd→w2.heap[b]? = some (.cells #[.pointer (some ⟨bd,0,none⟩),.slice q recs.length c,.int .i64 (logL recs).length] T.aK_ (0,0))→K (.tuple #[.pointer (some ⟨b,0,none⟩),.nilIface]) w2:=λg2 hb s1 gg ho hd hn hbb=>
  hK _ _ q c (gg.grow g2) (by omega) ⟨hbb,ho.grow g2,hc,hd.keep g2 id,by omega,λa ha=>⟨by have:=ho.lt a ha;omega,by have:=hof a ha;omega⟩⟩ (hn.keep g2 id) hof
 refine ⟨_,_,_,_,rfl,hfr g1',λhlt'=>?_,λhge=>⟨λ_=>?_,(λt x h=>by cases h),.inl rfl⟩⟩
 ·refine q6_ (h.keep g1 id) (hn.keep g1 id) (by rw [List.length_append];omega) λw2 hd2 hn2 g2=>⟨_,rfl,hfr (g1.then g2 |>.mono λ_ _ e=>e),λ_=>?_,(λt x h=>by cases h),.inl rfl⟩
  rw [List.take_left] at hd2
  have gg:Chg (· = bd) w w2:=g1.then g2
  have s2:=g2.size
  refine gx_ hd2 ⟨_,rfl,hfr gg,λh=>by omega,λ_=>⟨λ_ b hb w3 hF3=>?_,(λt x h=>by cases h),.inl rfl⟩⟩
  exact fin hF3.grow hb (by omega) gg (ho.keep g2 λa ha e=>by have:=hof a ha;have e':a.block=bd:=e;omega) hd2 hn2 (hF3.blk 0 rfl)
 ·have hpn:part=[]:=by
   rw [ae_,List.length_append] at hge
   exact List.eq_nil_of_length_eq_zero (by omega)
  subst hpn
  rw [List.append_nil] at h
  refine gx_ (h.keep g1 id) ⟨_,rfl,hfr g1',λh=>by omega,λ_=>⟨λ_ b hb w2 hF2=>?_,(λt x h=>by cases h),.inl rfl⟩⟩
  exact fin hF2.grow hb s1 g1' ho (h.keep g1 id) (hn.keep g1 id) (hF2.blk 0 rfl)
end Go.Vc
namespace Go.Vc
open Go
theorem or_ {mn:Man} {list:List (List UInt8)} (hL:VerL mn list) (hlen:(recV mn list).length≤60000) {w:World} {K:Value→World→Prop}
  (hK:∀w' b,Grow w w'→w.heap.size≤b→VerO (λj=>j<w.heap.size) w' b mn list→K (.tuple #[.pointer (some ⟨b,0,none⟩),.bool true]) w'):aa_ PR F.pN_ ⟨[.string (str (recV mn list))]⟩ w K:=by
 have hm:=f5_ hL.ok
 have e:recV mn list=[86]++(ac_ (aI_ mn).length++(aI_ mn++list.flatten)):=by unfold recV;rw [nG_];simp
 have hp:=dw_ (aI_ mn).length (by omega)
 have hfl:(recV mn list).length=1+((ac_ (aI_ mn).length).length+((aI_ mn).length+list.flatten.length)):=by rw [e,List.length_append,List.length_append,List.length_append];rfl
 have hbl:=hL.blocks
 have hb2:=hL.ok.blocks.2
 have d1:(recV mn list).drop 1=ac_ (aI_ mn).length++(aI_ mn++list.flatten):=by rw [e];rfl
 have d2:(recV mn list).drop (1+(ac_ (aI_ mn).length).length)=aI_ mn++list.flatten:=by rw [← List.drop_drop,d1,List.drop_left' rfl]
 have d3:(recV mn list).drop (1+(ac_ (aI_ mn).length).length+(aI_ mn).length)=list.flatten:=by rw [← List.drop_drop,d2,List.drop_left' rfl]
 generalize hP:(ac_ (aI_ mn).length).length=P at *
 refine oo_ _ S0 K w ?_
 refine cS_ (at_:=1) (n:=(((aI_ mn).length:Nat):Int)) (by omega) (by omega) (by omega) d1 ?_
 rw [Int.toNat_natCast,hP]
 refine ⟨_,_,_,rfl,.init _ w,λ_=>⟨λh=>?_,λ_=>?_⟩,(λt x h=>by cases h),.inl rfl⟩
 ·rw [ae_,w64 (by omega) (by omega)] at h;omega
 rw [ae_,w64 (by omega) (by omega)]
 have en:Int.toNat (((1+P:Nat):Int)+(((aI_ mn).length:Nat):Int))=1+P+(aI_ mn).length:=by omega
 have ex1:ByteArray.extract (str (recV mn list)) (Int.toNat ((1+P:Nat):Int)) (1+P+(aI_ mn).length)=str (aI_ mn):=by
  rw [a7_,Int.toNat_natCast,d2,List.take_left' (by omega)]
 have ex2:ByteArray.extract (str (recV mn list)) (1+P+(aI_ mn).length) ((recV mn list).length)=str list.flatten:=by
  rw [a7_,d3,List.take_of_length_le (by omega)]
 rw [en,ex1]
 refine ⟨by omega,by omega,by omega,by omega,?_⟩
 refine th_ hL.ok λw1 q c g1 ho hc hof=>⟨_,_,_,_,_,_,_,_,_,rfl,(Fr.init _ w).after g1,λl2 hl2=>⟨λ_=>⟨by omega,by omega,λl3 hl3 w2 hF2=>?_⟩,(λt x h=>by cases h),.inl rfl⟩⟩
 have hF2':=(hF2.unM hl2)
 rw [ex2] at hF2'
 have g12:Grow w1 w2:=hF2'.grow
 have cf:[list.flatten].flatten=list.flatten:=by simp
 refine oe_ (xs:=[list.flatten]) (hF2'.sl 1 rfl) rfl (Nat.le_refl _) (by simp) (by rw [cf];omega) λw3 q1 c1 g3 ho1 hc1 hof1=>?_
 rw [cf,hL.cut] at ho1 hc1 ⊢
 refine ⟨_,_,_,rfl,?_,λ_ w4 hF4=>?_,λhne=>absurd hbl.symm hne⟩
 ·rw [ex2];exact hF2'.reset.after g3
 have g4:Grow w3 w4:=hF4.grow
 refine l9_ (ho1.sl.grow g4) rfl (by omega) (λx hx=>by have:=hL.small x hx;omega) λw5 g5=>⟨_,rfl,hF4.reset.after g5,λ_ l6 hl6 w6 hF6=>?_,λhne=>absurd (by rw [hL.root]) hne⟩
 have s1:=g1.size
 have s2:=g12.size
 have s3:=g3.size
 have s4:=g4.size
 have s5:=g5.size
 have g6:Grow w5 w6:=hF6.grow
 have g26:Grow w2 w6:=((g3.trans g4).trans g5).trans g6
 have hofq:∀ {n:Nat} {q:Option Addr},Off (λj=>j<n) q→w.heap.size≤n→Off (λj=>j<w.heap.size) q:=λh hn=>h.mono hn
 refine hK w6 l6 (((g1.trans g12).trans g26)) (by omega) ⟨q,c,q1,c1,hF6.blk 0 rfl,by omega,(((ho.grow g12).grow g26).sl).out hof,((((ho1.grow g4).grow g5).grow g6).sl).out (hof1.mono (by omega)),hc1⟩
theorem c6_ {s p:ByteArray} {w:World} {K:Value→World→Prop} (hK:K (.bool (decide (p.size≤s.size∧s.extract 0 p.size=p))) w):aa_ PR F.strings_HasPrefix ⟨[.string s,.string p]⟩ w K:=by
 have h0:Fs S0 w [] w:=Fr.init _ w
 refine strings_HasPrefix s p S0 K w (a5_ s p S0 _ w ⟨λhge=>⟨by omega,by omega,λhe=>?_,λhne=>?_⟩,λhlt=>?_⟩)
 ·rw [decide_eq_true ⟨by omega,he⟩] at hK
  exact ⟨true,rfl,λ_=>⟨h0,hK⟩,λh=>by cases h⟩
 ·rw [decide_eq_false (λh=>hne h.2)] at hK
  exact ⟨false,rfl,(λh=>by cases h),λ_=>⟨h0,hK⟩⟩
 ·rw [decide_eq_false (λh=>by omega)] at hK
  exact ⟨false,rfl,(λh=>by cases h),λ_=>⟨h0,hK⟩⟩
theorem jg_ {c:UInt8} {l:List UInt8} : decide ((str [c]).size≤(str (c :: l)).size∧(str (c :: l)).extract 0 (str [c]).size=str [c])=true:=by
 apply decide_eq_true
 refine ⟨by simp [ae_],?_⟩
 rw [a7_,ae_];simp
theorem pP_ {c d:UInt8} {l:List UInt8} (h:d≠c):decide ((str [c]).size≤(str (d :: l)).size∧(str (d :: l)).extract 0 (str [c]).size=str [c])=false:=by
 apply decide_eq_false
 rintro ⟨_,h1⟩
 rw [a7_,ae_] at h1
 have:=str_inj h1
 simp at this
 exact h this
end Go.Vc
namespace Go.Vc
open Go Go.MapKept
structure PubR (recs:List (List UInt8)) (D:Nat→Prop) (w:World) (p bj m each:Nat) (s:PSt) (R:Value→Value→Prop):Prop where
 blk:w.heap[p]? = some (.cells (pubC bj each s.last s.com m) T.aW_ (0,0))
 map:∃n,MapP w T.int m n R
 kept:∀k v,R k v→KeptAt D w recs s.last s.man k v
 has:∀i:Nat,1≤i→i≤s.last→s.last<i+3∨i=s.com→∃v,R (.int .i64 (i:Int)) v
 only:∀(i:Nat) v,R (.int .i64 (i:Int)) v→s.last<i+3∨i=s.com
 com_le:s.com≤s.last
theorem KeptAt.shown {D:Nat→Prop} {w:World} {recs:List (List UInt8)} {last:Nat} {man:Nat→Man} {R:Value→Value→Prop} (hl:last≤1000000) (h:∀k v,R k v→KeptAt D w recs last man k v):hA_ R:=by
 intro k v hr
 obtain ⟨i,b,c,mn,list,h1,h2,h3,h4,_⟩:=h k v hr
 exact ⟨i,b,c,by omega,h3,h4⟩
theorem mH_ {recs:List (List UInt8)} {D:Nat→Prop} {w:World} {p bj m each:Nat} {s:PSt} {R:Value→Value→Prop} (h:PubR recs D w p bj m each s R) (hD:∀k,D k→k<w.heap.size) (hp:D p) (hm:D m) (hl:s.last≤200000) {r:RecO} (hr:r.ok s) (hlen:r.bytes.length≤60000) (hin:r.bytes∈recs) {K:Value→World→Prop}
  (hK:∀w' R',Chg (λk=>k=p∨k=m) w w'→PubR recs D w' p bj m each (r.step s) R'→K (.tuple #[]) w'):aa_ PR F.gT_ ⟨[.pointer (some ⟨p,0,none⟩),.string (str r.bytes)]⟩ w K:=by
 obtain ⟨n,hmap⟩:=h.map
 have hpm:=gf_ h.blk hmap
 have hsh:hA_ R:=KeptAt.shown (by omega) h.kept
 have hcl:=h.com_le
 have h0:Fs (λk=>k=p∨k=m) w [⟨p,pubC bj each s.last s.com m,T.aW_,true⟩] w:=(Fr.init _ w).entry h.blk (λx h=>by cases h) λ_=>.inl rfl
 have hS:∀k,(k=p∨k=m)→D k:=λk e=>by rcases e with rfl | rfl;exact hp;exact hm
 refine iH_ p (some ⟨bj,0,none⟩) each s.last s.com (some m) (str r.bytes) (λk=>k=p∨k=m) K w h0 ⟨.inl rfl,trivial⟩ ?_
 cases r with
 | ver mn list=>
  obtain ⟨hL,hv⟩:=hr
  have e:recV mn list=86 :: (ao_ [aI_ mn]++list.flatten):=by simp [recV]
  have hpre:=jg_ (c:=86) (l:=ao_ [aI_ mn]++list.flatten)
  rw [← e] at hpre
  refine c6_ (s:=str (recV mn list)) (p:=str [86]) ?_
  rw [hpre]
  refine ⟨true,rfl,λ_=>⟨h0,?_⟩,λh=>by cases h⟩
  refine or_ hL hlen λw1 b g1 hb hvo=>⟨_,true,rfl,λ_=>⟨h0.after g1,λw2 hF2=>?_⟩,λh=>by cases h⟩
  have g2:Grow w1 w2:=hF2.grow
  have hvo2:VerO D w2 b mn list:=(hvo.keep (D':=D) (.refl (λ_=>False) _) (λ_ _ e=>e.elim) λk _ e=>hD k e).keep g2 (λ_ _ e=>e.elim) λ_ _ e=>e
  have hc:w2.cell? ⟨b,0,none⟩=some (.int .i64 ((s.last+1:Nat):Int)):=by
   obtain ⟨q,c,ql,cl,h1,_⟩:=hvo2
   rw [ar_ h1,← hv];rfl
  refine ⟨λw'=>w'.cell? ⟨b,0,none⟩=some (.int .i64 ((s.last+1:Nat):Int)),hc,?_⟩
  refine af_.2 (af_.2 (af_.2 (af_.2 ⟨_,λw3 h=>h,λ_=>?_,λhh=>absurd (show ((s.last+1:Nat):Int)>(s.last:Nat) by omega) hh⟩)))
  have g02:Grow w w2:=g1.trans g2
  refine k4_ (ver:=s.last+1) (mn:=mn) (list:=list) (hF2.blk 0 rfl) (hmap.grow g02) hsh (hvo2.keep (.refl (λ_=>False) _) (λ_ _ e=>e.elim) λk _ e=>hS k e) hL hv (by omega) λw3 c n3 g3 hb3 hm3 hT3=>?_
  have hF3:=hF2.reset.mod g3 hb3 (λx hx=>by cases hx) λk _ e=>e
  refine ⟨rfl,_,_,_,_,_,hF3,hK w3 _ hF3.chg ⟨hb3,⟨n3,hm3⟩,?_,?_,λi v hr=>j6_ hr.2,by show s.com≤s.last+1;omega⟩⟩
  ·rintro k v ⟨hr,_⟩
   rcases hr with ⟨rfl,rfl⟩ | ⟨hne,hr⟩
   ·exact ⟨s.last+1,b,c,mn,list,by omega,Nat.le_refl _,rfl,rfl,hvo2.keep g3 (λk _ e=>hS k e) (λ_ _ e=>e),hL,hv,by show mn=if s.last+1=s.last+1 then mn else s.man (s.last+1);rw [if_pos rfl],hT3.keep (.refl (λ_=>False) _) (λ_ _ e=>e.elim) (λk _ e=>Nat.lt_of_lt_of_le (hD k e) g02.size),hin⟩
   ·obtain ⟨i,b',c',mn',list',k1,k2,k3,k4,k5,k6,k7,k8,k9,k10⟩:=h.kept k v hr
    exact ⟨i,b',c',mn',list',k1,by show i≤s.last+1;omega,k3,k4,(k5.keep g02 (λ_ _ e=>e.elim) (λ_ _ e=>e)).keep g3 (λk _ e=>hS k e) (λ_ _ e=>e),k6,k7,(by show mn'=if i=s.last+1 then mn else s.man i;rw [if_neg (by omega)];exact k8),(k9.keep g02 (λ_ _ e=>e.elim) (λ_ _ e=>e)).keep g3 (λk _ e=>hS k e) (λ_ _ e=>e),k10⟩
  ·intro i hi1 hi2 hi3
   have hi2':i≤s.last+1:=hi2
   have hi3':s.last+1<i+3∨i=s.com:=hi3
   have hnd:¬delP ((s.last+1:Nat):Int) s.com (.int .i64 (i:Int)):=by
    rintro ⟨j,hj,k1,k2⟩
    have e2:(i:Int)=j:=by injection hj
    subst e2
    rcases hi3' with h' | h'
    ·omega
    ·exact k2 (by rw [h'])
   by_cases hi:i=s.last+1
   ·subst hi;exact ⟨_,.inl ⟨rfl,rfl⟩,hnd⟩
   ·obtain ⟨v,hv⟩:=h.has i hi1 (by omega) (hi3'.imp (λh=>by omega) id)
    refine ⟨v,.inr ⟨λe=>hi ?_,hv⟩,hnd⟩
    have e2:(i:Int)=((s.last+1:Nat):Int):=by injection e
    omega
 | com ver=>
  obtain ⟨h1,h2,h3⟩:=hr
  have h1':s.com<ver:=h1
  have h2':ver≤s.last:=h2
  have h3':s.last<ver+3:=h3
  have e:recC ver=67 :: ac_ ver:=rfl
  refine c6_ (s:=str (recC ver)) (p:=str [86]) ?_
  rw [e,pP_ (by decide)]
  refine ⟨false,rfl,(λh=>by cases h),λ_=>⟨h0,?_⟩⟩
  refine c6_ (s:=str (recC ver)) (p:=str [67]) ?_
  rw [e,jg_]
  refine ⟨true,rfl,λ_=>⟨h0,?_⟩,λh=>by cases h⟩
  have hp8:=dw_ ver (by omega)
  refine cS_ (at_:=1) (l:=67 :: ac_ ver) (n:=((ver:Nat):Int)) (r:=[]) (by simp;omega) (by omega) (by simp) (by simp) ?_
  rw [Int.toNat_natCast]
  refine ⟨_,_,_,rfl,h0,λ_=>⟨λ_=>?_,λhne=>absurd (by show _=((ByteArray.size (str (67 :: ac_ ver)):Nat):Int);rw [ae_,List.length_cons,Nat.add_comm]) hne⟩,(λt x h=>by cases h),.inl rfl⟩
  obtain ⟨v,hv⟩:=h.has ver (by omega) h2' (.inl h3')
  refine it_ h.blk hmap hsh (by omega) hv h1' λw1 n1 g1 hb1 hm1=>?_
  have hF1:=h0.mod g1 hb1 (λx hx=>by cases hx) λk _ e=>e
  refine ⟨rfl,_,_,_,_,_,hF1,hK w1 _ hF1.chg ⟨hb1,⟨n1,hm1⟩,λk v hr=>(h.kept k v hr.1).keep g1 (λk _ e=>hS k e) (λ_ _ e=>e) (Nat.le_refl _) (λ_ h=>h),λi hi1 hi2 hi3=>?_,λi v hr=>j6_ hr.2,h2'⟩⟩
  have hi3':s.last<i+3∨i=ver:=hi3
  have hnd:¬delP s.last ver (.int .i64 (i:Int)):=by
   rintro ⟨j',hj',a1,a2⟩
   have e2:(i:Int)=j':=by injection hj'
   subst e2
   rcases hi3' with h' | h'
   ·omega
   ·exact a2 (by rw [h'])
  rcases hi3' with h' | rfl
  ·obtain ⟨v,hv⟩:=h.has i hi1 hi2 (.inl h')
   exact ⟨v,hv,hnd⟩
  ·exact ⟨_,hv,hnd⟩
theorem pF_ {rs:List RecO} : ∀(k:Nat) (s:PSt),okR s rs→(hk:k<rs.length)→rs[k].ok (runR s (rs.take k))∧runR s (rs.take (k+1))=rs[k].step (runR s (rs.take k)):=by
 induction rs with
 | nil=>intro k s _ hk;simp at hk
 | cons r rs ih=>
  intro k s h hk
  cases k with
  | zero=>exact ⟨h.1,rfl⟩
  | succ k=>exact ih k (r.step s) h.2 (by simpa using hk)
theorem la_ {rs:List RecO} : ∀(s:PSt),(runR s rs).last≤s.last+rs.length:=by
 induction rs with
 | nil=>intro s;simp [runR]
 | cons r rs ih=>
  intro s
  have:=ih (r.step s)
  have h1:(r.step s).last≤s.last+1:=by cases r <;> simp [RecO.step]
  simp only [runR,List.length_cons];omega
theorem qU_ {N:Nat} {w:World} {bd each:Nat} {recs:List (List UInt8)} {last com:Nat} {man:Nat→Man} {part:List UInt8} (hd:bP_ w bd (str (logL recs++part))) (hnf:NoF w bd) (hpart:rh_ part) (hrep:Rep recs last com man) (hlog:(logL recs).length≤200000) (hN:N≤bd) (hN2:N≤w.heap.size) (he:1≤each) (he2:each≤4096) {K:Value→World→Prop}
  (hK:∀w' x,Chg (· = bd) w w'→aX_ N w' x→NoF w' bd→x.bd=bd→x.each=each→x.last=last→x.com=com→x.recs=recs→x.man=man→w.heap.size≤x.p→(x.ex=λk=>k<w.heap.size)→(∀k,x.reg k→k=bd∨w.heap.size≤k)→K (.tuple #[.pointer (some ⟨x.p,0,none⟩),.nilIface]) w'):aa_ PR F.nI_ ⟨[.pointer (some ⟨bd,0,none⟩),.int .i64 each]⟩ w K:=by
 have hf:∀ {w':World},Chg (· = bd) w w'→Fs (· = bd) w [] w':=λg=>(Fr.init _ w).step g (λx hx=>by cases hx) λ_ _ e=>e
 obtain ⟨hr0,rs,hrs,hok,hrun⟩:=id hrep
 have hrl:=kf_ recs
 have hrsl:rs.length=recs.length:=by rw [hrs,List.length_map]
 refine lj_ (some ⟨bd,0,none⟩) each (· = bd) K w ⟨λh=>by omega,λ_=>⟨λh=>by omega,λ_=>?_⟩⟩
 refine oU_ hd hnf hpart hr0 hlog λw1 bj q c g1 hbj hj hn1 hqof=>⟨_,_,rfl,hf g1,λ_=>?_,(λt x h=>by cases h),.inl rfl⟩
 refine mR_ (k:=T.int) λw2 m hme hm g2=>⟨_,rfl,hf (g1.grow g2),λp hp w3 hF3=>?_⟩
 have g3:Grow w2 w3:=hF3.grow
 have hj3:=(hj.grow g2).grow g3
 refine me_ hj3 (by omega) λw4 q' c' g4 ho4=>⟨_,_,_,rfl,hF3.after g4,?_⟩
 have hF4:=hF3.after g4
 have hj4:=hj3.grow g4
 have s1:=g1.size
 have s2:=g2.size
 have s3:=g3.size
 have s4:=g4.size
 have hml:=hm.lt
 have hpl:p<w4.heap.size:=hF4.lt _ List.mem_cons_self
 have hm4:=(hm.grow g3).grow g4
 have hjp:¬jrnS bj bd q p:=hj4.pub (hF4.blk 0 rfl)
 have hjm:¬jrnS bj bd q m:=hj4.mapb hm4
 let D:Nat→Prop:=λk=>(k=p∨k=m∨jrnS bj bd q k)∨k<w.heap.size
 have hD4:∀k,D k→k<w4.heap.size:=by
  rintro k ((rfl | rfl | h) | h)
  ·exact hpl
  ·omega
  ·exact hj4.lt k h
  ·omega
 have hq4p:Off (λk=>k=p∨k=m) q':=by
  intro a ha e
  rcases ho4 with ⟨h,_⟩ | ⟨b,o,cs,h,hb,_⟩
  ·rw [h] at ha;cases ha
  ·rw [h] at ha;cases ha
   rcases e with e | e
   ·exact co_ hb (hF4.blk 0 rfl) (show T.string≠T.aW_ by decide) e
   ·exact gf_ hb hm4 e
 have hwp:∀k,(k=p∨k=m)→w.heap.size≤k:=by rintro k (rfl | rfl) <;> omega
 refine ⟨λi qq n1 n2 n3 q4 l w'=>∃(k:Nat) (R:Value→Value→Prop),i=k∧k≤rs.length∧l=rs.length - k∧qq=some ⟨bj,0,none⟩∧n1=each∧n2=(runR .zero (rs.take k)).last∧n3=(runR .zero (rs.take k)).com∧q4=some m∧PubR recs D w' p bj m each (runR .zero (rs.take k)) R∧Chg (λk=>k=p∨k=m) w4 w',⟨_,0,λ_ _=>False,rfl,by omega,rfl,rfl,rfl,rfl,rfl,rfl,
  ⟨hF4.blk 0 rfl,⟨0,hm4⟩,λk v h=>h.elim,λi h1 h2 _=>absurd (Nat.le_trans h1 h2) (by simp [runR,PSt.zero]),λi v h=>h.elim,Nat.le_refl _⟩,.refl _ _⟩,?_⟩
 rintro i qq n1 n2 n3 q4 Dv l w5 ⟨k,R,rfl,hk,rfl,rfl,rfl,rfl,rfl,rfl,hR,g5⟩ hF5
 have hD5:∀k,D k→k<w5.heap.size:=λk hk=>Nat.lt_of_lt_of_le (hD4 k hk) g5.size
 refine ⟨λhlt=>?_,λhge=>?_⟩
 ·have hk':k<rs.length:=by omega
  have hk2:k<recs.length:=by omega
  obtain ⟨hok1,hstep⟩:=pF_ k .zero hok hk'
  have hsl:Sl w5 q' (recs.map sv8'):=(ho4.keep g5 hq4p).sl
  have hlast:(runR .zero (rs.take k)).last≤200000:=by
   have:=la_ (rs:=rs.take k) .zero
   rw [List.length_take] at this
   have hz:PSt.zero.last=0:=rfl
   omega
  have hbl:rs[k].bytes.length≤60000:=hr0 _ (by rw [hrs];exact List.mem_map.2 ⟨_,List.getElem_mem hk',rfl⟩)
  refine hsl.rd (v:=sv8' (rs[k].bytes)) (by simp) (by omega) (by rw [Int.toNat_natCast,hrs];simp [hk']) λa ha=>⟨_,ha,?_⟩
  refine mH_ hR hD5 (.inl (.inl rfl)) (.inl (.inr (.inl rfl))) hlast hok1 hbl (by rw [hrs];exact List.mem_map.2 ⟨_,List.getElem_mem hk',rfl⟩) λw6 R6 g6 hR6=>?_
  rw [← hstep] at hR6
  refine ⟨rfl,_,_,_,_,_,hF5.mod g6 hR6.blk (λx hx=>by cases hx) (λk hk e=>absurd (hwp k e) (by omega)),rs.length - (k+1),by omega,k+1,R6,by rw [w64 (by omega) (by omega)];rfl,by omega,rfl,rfl,rfl,rfl,rfl,rfl,hR6,g5.trans g6 λk _ e=>e⟩
 ·have hk':k=rs.length:=by omega
  subst hk'
  rw [List.take_length,hrun] at hR
  obtain ⟨n,hmap⟩:=hR.map
  have hj5:ct_ w5 bj bd q c recs:=hj4.keep g5 λk e hk=>by rcases e with rfl | rfl;exact hjp hk;exact hjm hk
  have gg:Chg (· = bd) w w4:=((g1.grow g2).grow g3).grow g4
  have gw:Chg (· = bd) w w5:=gg.trans g5 λk hk e=>absurd (hwp k e) (by omega)
  have hbdl:bd<w.heap.size:=by obtain ⟨_,_,_,_,_,_,hh⟩:=hd;exact aj_ hh
  have hn5:NoF w5 bd:=((((hn1.keep g2 id).keep g3 id).keep g4 id)).keep g5 λe=>by have:=hwp _ e;omega
  have hlst:last≤recs.length:=by
   have:=la_ (rs:=rs) .zero
   rw [hrun] at this
   have hz:PSt.zero.last=0:=rfl
   simp only [] at this
   omega
  have hrg:∀k,(k=p∨k=m∨jrnS bj bd q k)→k=bd∨w.heap.size≤k:=by
   rintro k (e | e | e | e | ⟨a,ha,e⟩)
   ·exact .inr (by omega)
   ·exact .inr (by omega)
   ·exact .inr (by omega)
   ·exact .inl e
   ·have:=hqof a ha;exact .inr (by omega)
  refine hK w5 ⟨p,bj,bd,m,each,q,c,last,com,recs,R,man,λk=>k<w.heap.size⟩ gw ⟨hR.blk,hj5,⟨n,hmap⟩,λk v hr=>(hR.kept k v hr).keep (.refl (λ_=>False) _) (λ_ _ e=>e.elim) (λk _ e=>e) (Nat.le_refl _) (λ_ h=>h),hR.has,hR.com_le,hlst,hlog,he,he2,?_,λk hk=>Nat.lt_of_lt_of_le hk gw.size,hR.only,hrep⟩ hn5 rfl rfl rfl rfl rfl rfl (by show w.heap.size≤p;omega) rfl hrg
  rintro k (e | e | e | e | ⟨a,ha,e⟩)
  ·have e':k=p:=e
   omega
  ·have e':k=m:=e
   omega
  ·have e':k=bj:=e
   omega
  ·have e':k=bd:=e
   omega
  ·have:=hqof a ha;omega
end Go.Vc
namespace Go.Vc
open Go
theorem qt_ (k0:Nat) (m1:Int) (t2:Bool) (z3:ByteArray) (y4:Option Addr) (ly4:Nat) (cy4:Nat) (z5:ByteArray) (y6:Option Addr) (ly6:Nat) (cy6:Nat) (y7:Option Addr) (ly7:Nat) (cy7:Nat) (m8:Int) (S:SP) (K:KP) (w:World) (hF:Fs S w [⟨k0,#[.int .i64 m1,.bool t2,.string z3,.slice y4 ly4 cy4,.string z5,.slice y6 ly6 cy6,.slice y7 ly7 cy7],108,true⟩] w) (hS:S k0∧True) (h:∀w0,Fr S w w [k0] [⟨k0,#[Iv (if ((-1):Int)>m8 then (-1) else m8),.bool t2,.string z3,.slice y4 ly4 cy4,.string z5,.slice y6 ly6 cy6,.slice y7 ly7 cy7],108,true⟩] w0→K (.tuple #[]) w0):aa_ PR 29 ⟨[.pointer (some ⟨k0,0,none⟩),.int .i64 m8]⟩ w K:=
 ab_ (okf:=⟨okL,[]⟩) ag_ (args:=[.c (.p 0 k0 true 0),.c (.v (.int .i64 m8))]) (H:=[⟨k0,.l [.v (.int .i64 m1),.v (.bool t2),.v (.string z3),.v (.slice y4 ly4 cy4),.v (.string z5),.v (.slice y6 ly6 cy6),.v (.slice y7 ly7 cy7)],108,true⟩]) (.s .z (.c (.r ⟨(some [0]),false,[],[]⟩) .z)) Go.Proofs.Tryz.func29 rfl ⟨rfl,trivial,trivial⟩ ⟨⟨trivial,⟨trivial,⟨trivial,⟨trivial,⟨trivial,⟨trivial,⟨trivial,trivial⟩⟩⟩⟩⟩⟩⟩,trivial⟩ hF hS (ad_ (by kernel_rfl) h)
theorem cA_ (y0:Option Addr) (ly0:Nat) (cy0:Nat) (S:SP) (K:KP) (w:World) (h:aa_ PR 167 #[.slice y0 ly0 cy0,.bool true] w λv0 w0=>∃n0,v0=Iv n0∧Fs S w [] w0∧(n0≥0→K (.bool true) w0)∧(¬(n0≥0)→K (.bool false) w0)):aa_ PR 129 ⟨[.slice y0 ly0 cy0,.bool true]⟩ w K:=
 ab_ (okf:=⟨okL,[]⟩) ag_ (args:=[.c (.v (.slice y0 ly0 cy0)),.c (.k true)]) (H:=[]) (.s .z (.s (.r ⟨(some []),false,[],[]⟩) .z)) Go.Proofs.Tryz.func129 rfl ⟨trivial,trivial,trivial⟩ trivial (Fr.init S w) trivial (ad_ (by kernel_rfl) h)
theorem oG_ (k0:Nat) (m1:Int) (t2:Bool) (z3:ByteArray) (y4:Option Addr) (ly4:Nat) (cy4:Nat) (z5:ByteArray) (y6:Option Addr) (ly6:Nat) (cy6:Nat) (y7:Option Addr) (ly7:Nat) (cy7:Nat) (y8:Option Addr) (ly8:Nat) (cy8:Nat) (m9:Int) (S:SP) (K:KP) (w:World) (hF:Fs S w [⟨k0,#[.int .i64 m1,.bool t2,.string z3,.slice y4 ly4 cy4,.string z5,.slice y6 ly6 cy6,.slice y7 ly7 cy7],108,true⟩] w) (hS:S k0∧True) (h:∀l0,w.heap.size≤l0→∀w0,Fr S w w [] [⟨k0,#[Iv m1,.bool t2,.string z3,.slice y4 ly4 cy4,.string z5,.slice y6 ly6 cy6,.slice y7 ly7 cy7],108,true⟩,⟨l0,#[.slice y8 ly8 cy8,Iv m9],44,true⟩] w0→let B0:Blk:=⟨l0,#[.slice y8 ly8 cy8,Iv m9],44,true⟩;∃I0:World→Prop,I0 w0∧(0:Int)≤(if (ly7:Int)<(ly8:Int) then (ly7:Int) else (ly8:Int))∧((if (ly7:Int)<(ly8:Int) then (ly7:Int) else (ly8:Int)):Int)≤(cy8:Int)∧∃I1:ByteArray→Int→Int→Bool→ByteArray→(Option Addr)→Nat→Nat→ByteArray→(Option Addr)→Nat→Nat→(Option Addr)→Nat→Nat→Nat→World→Prop,(∃l1,I1 ⟨#[]⟩ 0 m1 t2 z3 y4 ly4 cy4 z5 y6 ly6 cy6 y7 ly7 cy7 l1 w0)∧∀s0 n0 n1 b0 s1 q0 l2 l3 s2 q1 l4 l5 q2 l6 l7,∀D0:Nat→Value,∀l8 w1,I1 s0 n0 n1 b0 s1 q0 l2 l3 s2 q1 l4 l5 q2 l6 l7 l8 w1→Fs S w [⟨k0,#[Iv n1,.bool b0,.string s1,.slice q0 l2 l3,.string s2,.slice q1 l4 l5,.slice q2 l6 l7],108,true⟩,B0] w1→let B1:Blk:=⟨k0,#[Iv n1,.bool b0,.string s1,.slice q0 l2 l3,.string s2,.slice q1 l4 l5,.slice q2 l6 l7],108,true⟩;(n0<(((Int.toNat (if (ly7:Int)<(ly8:Int) then (ly7:Int) else (ly8:Int)) - 0):Nat):Int)→Dr (if cy8=0 then y8 else Option.map (λa0=>Addr.add a0 0) y8) λa1=>(0:Int)≤n0∧n0<(((Int.toNat (if (ly7:Int)<(ly8:Int) then (ly7:Int) else (ly8:Int)) - 0):Nat):Int)∧Dr (some (Addr.add a1 (Int.toNat n0*1))) λa2=>∃b1,World.cell? w1 a2=some (.bool b1)∧(b1=true→Dr q2 λa3=>(0:Int)≤n0∧n0<(l6:Int)∧Dr (some (Addr.add a3 (Int.toNat n0*2))) λa4=>∃n2,World.cell? w1 (Addr.add a4 0)=some (Iv n2)∧∃s3,World.cell? w1 (Addr.add a4 1)=some (.string s3)∧∀l9,w1.heap.size≤l9→(0:Int)≤IntKind.wrap .i64 (n0+1)∧IntKind.wrap .i64 (n0+1)≤(((Int.toNat (if (ly7:Int)<(ly8:Int) then (ly7:Int) else (ly8:Int)) - 0):Nat):Int)∧∀w2,Fr S w w1 [l9] [B1,B0,⟨l9,#[Iv n2,.string s3],221,true⟩] w2→let B2:Blk:=⟨l9,#[Iv n2,.string s3],221,true⟩;aa_ PR 129 #[.slice (if ((cy8 - 0):Nat)=Int.toNat (IntKind.wrap .i64 (n0+1)) then (if cy8=0 then y8 else Option.map (λa5=>Addr.add a5 0) y8) else Option.map (λa6=>Addr.add a6 (Int.toNat (IntKind.wrap .i64 (n0+1))*1)) (if cy8=0 then y8 else Option.map (λa7=>Addr.add a7 0) y8)) (((Int.toNat (if (ly7:Int)<(ly8:Int) then (ly7:Int) else (ly8:Int)) - 0):Nat) - (Int.toNat (IntKind.wrap .i64 (n0+1)))) (((cy8 - 0):Nat) - (Int.toNat (IntKind.wrap .i64 (n0+1)))),.bool true] w2 λv0 w3=>∃b2,v0=.bool b2∧(b2=true→Fs S w [B1,B0,B2] w3∧(n2=(-1)→((ByteArray.size s0+(ByteArray.size s3)):Nat)≤9223372036854775807∧∀w4,Fr S w w3 [l9] [B1,B0,⟨l9,#[Iv n2,.string (s0++s3)],221,true⟩] w4→∃I2:World→Prop,I2 w4∧aa_ PR 131 #[.pointer (some (⟨k0,4,none⟩)),.agg #[Iv n2,.string (s0++s3)]] w4 λv1 w5=>v1=.tuple #[]∧∃n3 b3 s4 q3 l10 l11 s5 q4 l12 l13 q5 l14 l15,Fs S w [⟨k0,#[Iv n3,.bool b3,.string s4,.slice q3 l10 l11,.string s5,.slice q4 l12 l13,.slice q5 l14 l15],108,true⟩,B0,⟨l9,#[Iv n2,.string (s0++s3)],221,true⟩] w5∧∃l16,l16<l8∧I1 ⟨#[]⟩ (IntKind.wrap .i64 (n0+1)) n3 b3 s4 q3 l10 l11 s5 q4 l12 l13 q5 l14 l15 l16 w5)∧(¬(n2=(-1))→∀w6,Fr S w w3 [] [B1,B0,B2] w6→∃I3:World→Prop,I3 w6∧aa_ PR 131 #[.pointer (some (⟨k0,4,none⟩)),.agg #[Iv n2,.string s3]] w6 λv2 w7=>v2=.tuple #[]∧∃n4 b4 s6 q6 l17 l18 s7 q7 l19 l20 q8 l21 l22,Fs S w [⟨k0,#[Iv n4,.bool b4,.string s6,.slice q6 l17 l18,.string s7,.slice q7 l19 l20,.slice q8 l21 l22],108,true⟩,B0,B2] w7∧∃l23,l23<l8∧I1 s0 (IntKind.wrap .i64 (n0+1)) n4 b4 s6 q6 l17 l18 s7 q7 l19 l20 q8 l21 l22 l23 w7))∧(b2=false→Fs S w [B1,B0,B2] w3∧∀w8,Fr S w w3 [] [B1,B0,B2] w8→∃I4:World→Prop,I4 w8∧Dr (some (⟨l9,0,none⟩)) λa8=>∃n5,(∀w9,I4 w9→World.cell? w9 (Addr.add a8 0)=some (Iv n5))∧∃s8,(∀w10,I4 w10→World.cell? w10 (Addr.add a8 1)=some (.string s8))∧aa_ PR 130 #[.pointer (some (⟨k0,4,none⟩)),.agg #[Iv n5,.string s8],Iv m9] w8 λv3 w11=>∃n6 s9,v3=.agg #[Iv n6,.string s9]∧Fs S w [B1,B0,B2] w11∧I4 w11∧(n6=(-1)→((ByteArray.size s0+(ByteArray.size s9)):Nat)≤9223372036854775807∧∀w12,Fr S w w11 [l9,l9] [B1,B0,⟨l9,#[Iv n6,.string (s0++s9)],221,true⟩] w12→∃I5:World→Prop,I5 w12∧aa_ PR 131 #[.pointer (some (⟨k0,4,none⟩)),.agg #[Iv n6,.string (s0++s9)]] w12 λv4 w13=>v4=.tuple #[]∧∃n7 b5 s10 q9 l24 l25 s11 q10 l26 l27 q11 l28 l29,Fs S w [⟨k0,#[Iv n7,.bool b5,.string s10,.slice q9 l24 l25,.string s11,.slice q10 l26 l27,.slice q11 l28 l29],108,true⟩,B0,⟨l9,#[Iv n6,.string (s0++s9)],221,true⟩] w13∧∃l30,l30<l8∧I1 ⟨#[]⟩ (IntKind.wrap .i64 (n0+1)) n7 b5 s10 q9 l24 l25 s11 q10 l26 l27 q11 l28 l29 l30 w13)∧(¬(n6=(-1))→∀w14,Fr S w w11 [l9] [B1,B0,⟨l9,#[Iv n6,.string s9],221,true⟩] w14→∃I6:World→Prop,I6 w14∧aa_ PR 131 #[.pointer (some (⟨k0,4,none⟩)),.agg #[Iv n6,.string s9]] w14 λv5 w15=>v5=.tuple #[]∧∃n8 b6 s12 q12 l31 l32 s13 q13 l33 l34 q14 l35 l36,Fs S w [⟨k0,#[Iv n8,.bool b6,.string s12,.slice q12 l31 l32,.string s13,.slice q13 l33 l34,.slice q14 l35 l36],108,true⟩,B0,⟨l9,#[Iv n6,.string s9],221,true⟩] w15∧∃l37,l37<l8∧I1 s0 (IntKind.wrap .i64 (n0+1)) n8 b6 s12 q12 l31 l32 s13 q13 l33 l34 q14 l35 l36 l37 w15)))∧(b1=false→Dr q2 λa9=>(0:Int)≤n0∧n0<(l6:Int)∧Dr (some (Addr.add a9 (Int.toNat n0*2))) λa10=>∃n9,World.cell? w1 (Addr.add a10 0)=some (Iv n9)∧∃s14,World.cell? w1 (Addr.add a10 1)=some (.string s14)∧∀l38,w1.heap.size≤l38→(n9=(-1)→∀w16,Fr S w w1 [l38] [B1,B0,⟨l38,#[Iv n9,.string s14],221,true⟩] w16→rn PR (Instr.makeSlice 124 (Iv ((ByteArray.size s14:Nat):Int)) (Iv ((ByteArray.size s14:Nat):Int))) (λv6 w17=>∃q15 l39 l40,v6=.slice q15 l39 l40∧Fs S w [B1,B0,⟨l38,#[Iv n9,.string s14],221,true⟩] w17∧rn PR (convert 124 9 (.slice q15 l39 l40)) (λv7 w18=>∃s15,v7=.string s15∧Fs S w [B1,B0,⟨l38,#[Iv n9,.string s14],221,true⟩] w18∧((ByteArray.size s0+(ByteArray.size s15)):Nat)≤9223372036854775807∧∃l41,l41<l8∧I1 (s0++s15) (IntKind.wrap .i64 (n0+1)) n1 b0 s1 q0 l2 l3 s2 q1 l4 l5 q2 l6 l7 l41 w18) w17) w16)∧(¬(n9=(-1))→∀w19,Fr S w w1 [l38] [B1,B0,⟨l38,#[Iv n9,.string s14],221,true⟩] w19→∃l42,l42<l8∧I1 s0 (IntKind.wrap .i64 (n0+1)) n1 b0 s1 q0 l2 l3 s2 q1 l4 l5 q2 l6 l7 l42 w19)))∧(¬(n0<(((Int.toNat (if (ly7:Int)<(ly8:Int) then (ly7:Int) else (ly8:Int)) - 0):Nat):Int))→aa_ PR 128 #[.agg #[.string s2,.slice q1 l4 l5]] w1 λv8 w20=>∃s16 q16 l43 l44,v8=.agg #[.string s16,.slice q16 l43 l44]∧Fs S w [B1] w20∧∀w21,Fr S w w20 [k0,k0,k0] [⟨k0,#[Iv (-1),.bool false,.string s16,.slice q16 l43 l44,.string s2,.slice q1 l4 l5,.slice none 0 0],108,true⟩] w21→K (.tuple #[]) w21)):aa_ PR 75 ⟨[.pointer (some ⟨k0,0,none⟩),.agg #[.slice y8 ly8 cy8,.int .i64 m9]]⟩ w K:=
 ab_ (okf:=⟨okL,[]⟩) ag_ (args:=[.c (.p 0 k0 true 0),.a [.v (.slice y8 ly8 cy8),.v (.int .i64 m9)]]) (H:=[⟨k0,.l [.v (.int .i64 m1),.v (.bool t2),.v (.string z3),.v (.slice y4 ly4 cy4),.v (.string z5),.v (.slice y6 ly6 cy6),.v (.slice y7 ly7 cy7)],108,true⟩]) (.s (.r ⟨(some [0]),true,[],[]⟩) (.s .z (.s (.r ⟨(some [0,3]),true,[],[]⟩) (.s .z (.s (.s .z (.b (.l (some [0,3,4,23]) (some [0,3,4,23]) [(5,.c (.str)),(25,.c (.int .i64))] [0] (.s .z (.s .z (.s (.b (.s .z (.s (.r ⟨(some [0,3,4,7,23]),true,[],[]⟩) (.s (.b (.s (.b (.s .z (.r ⟨(some [0,3,4,8,23]),true,[],[]⟩))) .z)) (.s (.s (.r ⟨(some [0,3,4,8,23]),true,[],[]⟩) (.c (.r ⟨(some [0,3,4,8,23]),true,[8],[]⟩) .z)) (.s (.s .z (.c (.r ⟨(some [0,3,4,8,23]),true,[],[]⟩) .z)) (.r ⟨(some [0,3,4,8,23]),true,[0],[(4,[999])]⟩))))))) .z)))))) (.r ⟨(some [0]),true,[],[]⟩)))))) Go.Proofs.Tryz.func75 rfl ⟨rfl,⟨trivial,trivial,trivial⟩,trivial⟩ ⟨⟨trivial,⟨trivial,⟨trivial,⟨trivial,⟨trivial,⟨trivial,⟨trivial,trivial⟩⟩⟩⟩⟩⟩⟩,trivial⟩ hF hS (ad_ (by kernel_rfl) h)
theorem oB_ (k0:Nat) (p1:Option Addr) (p2:Option Addr) (m3:Int) (m4:Int) (y5:Option Addr) (ly5:Nat) (cy5:Nat) (m6:Int) (S:SP) (K:KP) (w:World) (hF:Fs S w [⟨k0,#[.pointer p1,.pointer p2,.int .i64 m3,.int .i64 m4],63,true⟩] w) (hS:S k0∧True) (h:∀l0,w.heap.size≤l0→∀w0,Fr S w w [] [⟨k0,#[.pointer p1,.pointer p2,Iv m3,Iv m4],63,true⟩,⟨l0,#[.slice y5 ly5 cy5,Iv m6],44,true⟩] w0→aa_ PR 75 #[.pointer p2,.agg #[.slice y5 ly5 cy5,Iv m6]] w0 λv0 w1=>v0=.tuple #[]∧Fs S w [⟨k0,#[.pointer p1,.pointer p2,Iv m3,Iv m4],63,true⟩,⟨l0,#[.slice y5 ly5 cy5,Iv m6],44,true⟩] w1∧aa_ PR 43 #[.pointer (some (⟨k0,0,none⟩))] w1 λv1 w2=>∃v2,v1=v2∧∃q0 q1 n0 n1,Fs S w [⟨k0,#[.pointer q0,.pointer q1,Iv n0,Iv n1],63,true⟩] w2∧K v2 w2):aa_ PR 32 ⟨[.pointer (some ⟨k0,0,none⟩),.agg #[.slice y5 ly5 cy5,.int .i64 m6]]⟩ w K:=
 ab_ (okf:=⟨okL,[]⟩) ag_ (args:=[.c (.p 0 k0 true 0),.a [.v (.slice y5 ly5 cy5),.v (.int .i64 m6)]]) (H:=[⟨k0,.l [.v (.pointer p1),.v (.pointer p2),.v (.int .i64 m3),.v (.int .i64 m4)],63,true⟩]) (.s (.r ⟨(some [0]),false,[],[]⟩) (.s .z (.s (.r ⟨(some [0,3]),false,[],[(5,[999])]⟩) (.s (.r ⟨(some [0]),false,[],[(1,[999])]⟩) .z)))) Go.Proofs.Tryz.func32 rfl ⟨rfl,⟨trivial,trivial,trivial⟩,trivial⟩ ⟨⟨trivial,⟨trivial,⟨trivial,⟨trivial,trivial⟩⟩⟩⟩,trivial⟩ hF hS (ad_ (by kernel_rfl) h)
theorem qg_ (k0:Nat) (p1:Option Addr) (p2:Option Addr) (m3:Int) (m4:Int) (S:SP) (K:KP) (w:World) (hF:Fs S w [⟨k0,#[.pointer p1,.pointer p2,.int .i64 m3,.int .i64 m4],63,true⟩] w) (hS:S k0∧True) (h:K (.pointer p2) w):aa_ PR 28 ⟨[.pointer (some ⟨k0,0,none⟩)]⟩ w K:=
 ab_ (okf:=⟨okL,[]⟩) ag_ (args:=[.c (.p 0 k0 true 0)]) (H:=[⟨k0,.l [.v (.pointer p1),.v (.pointer p2),.v (.int .i64 m3),.v (.int .i64 m4)],63,true⟩]) .z Go.Proofs.Tryz.func28 rfl ⟨rfl,trivial⟩ ⟨⟨trivial,⟨trivial,⟨trivial,⟨trivial,trivial⟩⟩⟩⟩,trivial⟩ hF hS (ad_ (by kernel_rfl) h)
theorem kn_  (S:SP) (K:KP) (w:World) (h:((none:Option Addr)=none→K (.iface 93 (Iv 1)) w)∧∀a0:Addr,(none:Option Addr)=some a0→aa_ PR 30 #[.pointer none] w λv0 w0=>∃b0,v0=.bool b0∧(b0=true→Fs S w [] w0∧K (.iface 93 (Iv 8)) w0)∧(b0=false→Fs S w [] w0∧K .nilIface w0)):aa_ PR 47 ⟨[.pointer none]⟩ w K:=
 ab_ (okf:=⟨okL,[]⟩) ag_ (args:=[.c (.v (.pointer none))]) (H:=[]) (.s .z (.s (.b (.s .z (.c .z (.s (.r ⟨(some []),false,[],[]⟩) .z)))) .z)) Go.Proofs.Tryz.func47 rfl ⟨trivial,trivial⟩ trivial (Fr.init S w) trivial (ad_ (by kernel_rfl) h)
theorem kq_ (m0:Int) (z1:ByteArray) (S:SP) (K:KP) (w:World) (h:aa_ PR 47 #[.pointer none] w λv0 w0=>∃v1,v0=v1∧Fs S w [] w0∧(v1=.nilIface→(m0<1→K (.tuple #[.slice none 0 0,.nilIface]) w0)∧(¬(m0<1)→Dr none λa0=>Dr (some a0) λa1=>Dr (some (Addr.add a1 2)) λa2=>∃n0,World.cell? w0 a2=some (Iv n0)∧(m0>n0→K (.tuple #[.slice none 0 0,.nilIface]) w0)∧(¬(m0>n0)→aa_ PR 21 #[.string z1] w0 λv2 w1=>∃n1 n2 n3 s0 q0 l0 l1 v3,v2=.tuple #[.agg #[Iv n1,Iv n2,Iv n3,.string s0,.slice q0 l0 l1],v3]∧Fs S w [] w1∧∀l2,w1.heap.size≤l2→(v3=.nilIface→∀w2,Fr S w w1 [l2] [⟨l2,#[Iv n1,Iv n2,Iv n3,.string s0,.slice q0 l0 l1],41,true⟩] w2→∃I0:World→Prop,I0 w2∧Dr none λa3=>Dr (some a3) λa4=>Dr (some (Addr.add a4 0)) λa5=>∃q1,(∀w3,I0 w3→World.cell? w3 a5=some (.pointer q1))∧Dr none λa6=>Dr (some a6) λa7=>Dr (some (Addr.add a7 3)) λa8=>∃n4,(∀w4,I0 w4→World.cell? w4 a8=some (Iv n4))∧aa_ PR 17 #[.pointer q1,Iv m0,.agg #[Iv n1,Iv n2,Iv n3,.string s0,.slice q0 l0 l1],Iv n4] w2 λv4 w5=>∃q2 l3 l4 v5,v4=.tuple #[.slice q2 l3 l4,v5]∧Fs S w [⟨l2,#[Iv n1,Iv n2,Iv n3,.string s0,.slice q0 l0 l1],41,true⟩] w5∧I0 w5∧K (.tuple #[.slice q2 l3 l4,v5]) w5)∧(∀x0 v6,v3=.iface x0 v6→∀w6,Fr S w w1 [l2] [] w6→K (.tuple #[.slice none 0 0,v3]) w6)∧(v3=.nilIface∨∃l5 v7,v3=.iface l5 v7))))∧(∀x1 v8,v1=.iface x1 v8→K (.tuple #[.slice none 0 0,v1]) w0)∧(v1=.nilIface∨∃l6 v9,v1=.iface l6 v9)):aa_ PR 16 ⟨[.pointer none,.int .i64 m0,.string z1]⟩ w K:=
 ab_ (okf:=⟨okL,[]⟩) ag_ (args:=[.c (.v (.pointer none)),.c (.v (.int .i64 m0)),.c (.v (.string z1))]) (H:=[]) (.s .z (.s (.s (.r ⟨(some []),true,[],[]⟩) .z) (.s .z (.s (.r ⟨(some []),true,[],[]⟩) (.s .z (.s (.r ⟨(some [9]),true,[],[(10,[999])]⟩) .z)))))) Go.Proofs.Tryz.func16 rfl ⟨trivial,trivial,trivial,trivial⟩ trivial (Fr.init S w) trivial (ad_ (by kernel_rfl) h)
theorem ko_  (S:SP) (K:KP) (w:World) (h:((none:Option Addr)=none→K (.tuple #[.slice none 0 0,.iface 93 (Iv 1)]) w)∧∀a0:Addr,(none:Option Addr)=some a0→Dr none λa1=>Dr (some a1) λa2=>Dr (some (Addr.add a2 3)) λa3=>∃n0,World.cell? w a3=some (Iv n0)∧Dr none λa4=>Dr (some a4) λa5=>Dr (some (Addr.add a5 3)) λa6=>StC w a6 (Iv (IntKind.wrap .i64 (n0+1))) λw0=>Fs S w [] w0∧aa_ PR 47 #[.pointer none] w0 λv0 w1=>∃v1,v0=v1∧Fs S w [] w1∧(v1=.nilIface→∀w2,Fr S w w1 [] [] w2→∃I0:World→Prop,I0 w2∧Dr none λa7=>Dr (some a7) λa8=>Dr (some (Addr.add a8 0)) λa9=>∃q0,(∀w3,I0 w3→World.cell? w3 a9=some (.pointer q0))∧Dr none λa10=>Dr (some a10) λa11=>Dr (some (Addr.add a11 3)) λa12=>∃n1,(∀w4,I0 w4→World.cell? w4 a12=some (Iv n1))∧aa_ PR 20 #[.pointer q0,Iv n1] w2 λv2 w5=>∃q1 l0 l1 v3,v2=.tuple #[.slice q1 l0 l1,v3]∧Fs S w [] w5∧I0 w5∧aa_ PR 61 #[v3,.iface 93 (Iv 7)] w5 λv4 w6=>∃b0,v4=.bool b0∧(b0=true→Fs S w [] w6∧K (.tuple #[.slice none 0 0,.nilIface]) w6)∧(b0=false→Fs S w [] w6∧K (.tuple #[.slice q1 l0 l1,v3]) w6))∧(∀x0 v5,v1=.iface x0 v5→K (.tuple #[.slice none 0 0,v1]) w1)∧(v1=.nilIface∨∃l2 v6,v1=.iface l2 v6)):aa_ PR 19 ⟨[.pointer none]⟩ w K:=
 ab_ (okf:=⟨okL,[]⟩) ag_ (args:=[.c (.v (.pointer none))]) (H:=[]) (.s .z (.s .z (.s (.r ⟨(some []),true,[],[]⟩) (.s (.s (.r ⟨(some []),true,[],[]⟩) .z) (.s (.r ⟨(some []),true,[],[(8,[999])]⟩) (.s (.s (.r ⟨(some []),true,[],[]⟩) .z) .z)))))) Go.Proofs.Tryz.func19 rfl ⟨trivial,trivial⟩ trivial (Fr.init S w) trivial (ad_ (by kernel_rfl) h)
theorem g8_ (m0:Int) (y1:Option Addr) (ly1:Nat) (cy1:Nat) (S:SP) (K:KP) (w:World) (h:aa_ PR 47 #[.pointer none] w λv0 w0=>∃v1,v0=v1∧Fs S w [] w0∧(v1=.nilIface→Dr none λa0=>Dr (some a0) λa1=>Dr (some (Addr.add a1 0)) λa2=>∃q0,World.cell? w0 a2=some (.pointer q0)∧Dr q0 λa3=>Dr (some a3) λa4=>Dr (some (Addr.add a4 0)) λa5=>∃q1,World.cell? w0 a5=some (.pointer q1)∧aa_ PR 13 #[.pointer q1,Iv m0,.slice y1 ly1 cy1] w0 λv2 w1=>∃n0 v3,v2=.tuple #[Iv n0,v3]∧Fs S w [] w1∧K (.tuple #[Iv n0,v3]) w1)∧(∀x0 v4,v1=.iface x0 v4→K (.tuple #[Iv 0,v1]) w0)∧(v1=.nilIface∨∃l0 v5,v1=.iface l0 v5)):aa_ PR 12 ⟨[.pointer none,.int .i64 m0,.slice y1 ly1 cy1]⟩ w K:=
 ab_ (okf:=⟨okL,[]⟩) ag_ (args:=[.c (.v (.pointer none)),.c (.v (.int .i64 m0)),.c (.v (.slice y1 ly1 cy1))]) (H:=[]) (.s .z (.s (.s (.r ⟨(some []),false,[],[]⟩) .z) (.s (.r ⟨(some []),false,[],[(9,[999])]⟩) .z))) Go.Proofs.Tryz.func12 rfl ⟨trivial,trivial,trivial,trivial⟩ trivial (Fr.init S w) trivial (ad_ (by kernel_rfl) h)
theorem iT_ (y0:Option Addr) (ly0:Nat) (cy0:Nat) (m1:Int) (S:SP) (K:KP) (w:World) (h:∀l0,w.heap.size≤l0→((none:Option Addr)=none→∀w0,Fr S w w [] [] w0→K (.iface 93 (Iv 1)) w0)∧∀a0:Addr,(none:Option Addr)=some a0→∀w1,Fr S w w [] [⟨l0,#[.slice y0 ly0 cy0,Iv m1],44,true⟩] w1→∃I0:World→Prop,I0 w1∧Dr none λa1=>Dr (some a1) λa2=>Dr (some (Addr.add a2 1)) λa3=>∃q0,(∀w2,I0 w2→World.cell? w2 a3=some (.pointer q0))∧aa_ PR 75 #[.pointer q0,.agg #[.slice y0 ly0 cy0,Iv m1]] w1 λv0 w3=>v0=.tuple #[]∧Fs S w [⟨l0,#[.slice y0 ly0 cy0,Iv m1],44,true⟩] w3∧aa_ PR 43 #[.pointer none] w3 λv1 w4=>∃v2,v1=v2∧Fs S w [] w4∧K v2 w4):aa_ PR 32 ⟨[.pointer none,.agg #[.slice y0 ly0 cy0,.int .i64 m1]]⟩ w K:=
 ab_ (okf:=⟨okL,[]⟩) ag_ (args:=[.c (.v (.pointer none)),.a [.v (.slice y0 ly0 cy0),.v (.int .i64 m1)]]) (H:=[]) (.s (.r ⟨(some []),true,[],[]⟩) (.s .z (.s (.r ⟨(some [3]),true,[],[(5,[999])]⟩) (.s (.r ⟨(some []),true,[],[(1,[999])]⟩) .z)))) Go.Proofs.Tryz.func32 rfl ⟨trivial,⟨trivial,trivial,trivial⟩,trivial⟩ trivial (Fr.init S w) trivial (ad_ (by kernel_rfl) h)
theorem kr_  (S:SP) (K:KP) (w:World) (h:((none:Option Addr)=none→K (.bool true) w)∧∀a0:Addr,(none:Option Addr)=some a0→Dr none λa1=>Dr (some a1) λa2=>Dr (some (Addr.add a2 0)) λa3=>∃q0,World.cell? w a3=some (.pointer q0)∧(q0=none→K (.bool true) w)∧∀a4:Addr,q0=some a4→Dr none λa5=>Dr (some a5) λa6=>Dr (some (Addr.add a6 1)) λa7=>∃q1,World.cell? w a7=some (.pointer q1)∧aa_ PR 71 #[.pointer q1] w λv0 w0=>∃b0,v0=.bool b0∧(b0=true→Fs S w [] w0∧K (.bool true) w0)∧(b0=false→Fs S w [] w0∧K (.bool false) w0)):aa_ PR 30 ⟨[.pointer none]⟩ w K:=
 ab_ (okf:=⟨okL,[]⟩) ag_ (args:=[.c (.v (.pointer none))]) (H:=[]) (.s .z (.s (.r ⟨(some []),false,[],[]⟩) .z)) Go.Proofs.Tryz.func30 rfl ⟨trivial,trivial⟩ trivial (Fr.init S w) trivial (ad_ (by kernel_rfl) h)
theorem lE_  (S:SP) (K:KP) (w:World) (h:((none:Option Addr)=none→K (Iv 0) w)∧∀a0:Addr,(none:Option Addr)=some a0→Dr none λa1=>Dr (some a1) λa2=>Dr (some (Addr.add a2 3)) λa3=>∃n0,World.cell? w a3=some (Iv n0)∧K (Iv n0) w):aa_ PR 22 ⟨[.pointer none]⟩ w K:=
 ab_ (okf:=⟨okL,[]⟩) ag_ (args:=[.c (.v (.pointer none))]) (H:=[]) .z Go.Proofs.Tryz.func22 rfl ⟨trivial,trivial⟩ trivial (Fr.init S w) trivial (ad_ (by kernel_rfl) h)
theorem gk_  (S:SP) (K:KP) (w:World) (h:((none:Option Addr)=none→K (Iv 0) w)∧∀a0:Addr,(none:Option Addr)=some a0→Dr none λa1=>Dr (some a1) λa2=>Dr (some (Addr.add a2 2)) λa3=>∃n0,World.cell? w a3=some (Iv n0)∧K (Iv n0) w):aa_ PR 27 ⟨[.pointer none]⟩ w K:=
 ab_ (okf:=⟨okL,[]⟩) ag_ (args:=[.c (.v (.pointer none))]) (H:=[]) .z Go.Proofs.Tryz.func27 rfl ⟨trivial,trivial⟩ trivial (Fr.init S w) trivial (ad_ (by kernel_rfl) h)
theorem ks_  (S:SP) (K:KP) (w:World) (h:((none:Option Addr)=none→K (.pointer none) w)∧∀a0:Addr,(none:Option Addr)=some a0→Dr none λa1=>Dr (some a1) λa2=>Dr (some (Addr.add a2 1)) λa3=>∃q0,World.cell? w a3=some (.pointer q0)∧K (.pointer q0) w):aa_ PR 28 ⟨[.pointer none]⟩ w K:=
 ab_ (okf:=⟨okL,[]⟩) ag_ (args:=[.c (.v (.pointer none))]) (H:=[]) .z Go.Proofs.Tryz.func28 rfl ⟨trivial,trivial⟩ trivial (Fr.init S w) trivial (ad_ (by kernel_rfl) h)
end Go.Vc
namespace Go.Vc
open Go
theorem qr_ (k0:Nat) (m1:Int) (t2:Bool) (z3:ByteArray) (y4:Option Addr) (ly4:Nat) (cy4:Nat) (z5:ByteArray) (y6:Option Addr) (ly6:Nat) (cy6:Nat) (y7:Option Addr) (ly7:Nat) (cy7:Nat) (m8:Int) (z9:ByteArray) (S:SP) (K:KP) (w:World) (hF:Fs S w [⟨k0,#[.int .i64 m1,.bool t2,.string z3,.slice y4 ly4 cy4,.string z5,.slice y6 ly6 cy6,.slice y7 ly7 cy7],108,true⟩] w) (hS:S k0∧True) (h:∀l0,w.heap.size≤l0→(m8=(-1)→∀w0,Fr S w w [] [⟨k0,#[Iv m1,.bool t2,.string z3,.slice y4 ly4 cy4,.string z5,.slice y6 ly6 cy6,.slice y7 ly7 cy7],108,true⟩,⟨l0,#[Iv m8,.string z9],221,true⟩] w0→∃I0:World→Prop,I0 w0∧Dr (some (⟨k0,4,none⟩)) λa0=>∃s0,(∀w1,I0 w1→World.cell? w1 a0=some (.string s0))∧((ByteArray.size s0+(ByteArray.size z9)):Nat)≤9223372036854775807∧∀w2,Fr S w w0 [k0] [⟨k0,#[Iv m1,.bool t2,.string z3,.slice y4 ly4 cy4,.string (s0++z9),.slice y6 ly6 cy6,.slice y7 ly7 cy7],108,true⟩] w2→K (.tuple #[]) w2)∧(¬(m8=(-1))→∀w3,Fr S w w [] [⟨k0,#[Iv m1,.bool t2,.string z3,.slice y4 ly4 cy4,.string z5,.slice y6 ly6 cy6,.slice y7 ly7 cy7],108,true⟩,⟨l0,#[Iv m8,.string z9],221,true⟩] w3→∃I1:World→Prop,I1 w3∧Dr y6 λa1=>(0:Int)≤m8∧m8<(ly6:Int)∧Dr (some (Addr.add a1 (Int.toNat m8*1))) λa2=>StC w3 a2 (.string z9) λw4=>Fs S w [⟨k0,#[Iv m1,.bool t2,.string z3,.slice y4 ly4 cy4,.string z5,.slice y6 ly6 cy6,.slice y7 ly7 cy7],108,true⟩,⟨l0,#[Iv m8,.string z9],221,true⟩] w4∧K (.tuple #[]) w4)):aa_ PR 131 ⟨[.pointer (some ⟨k0,4,none⟩),.agg #[.int .i64 m8,.string z9]]⟩ w K:=
 ab_ (okf:=⟨okL,[]⟩) ag_ (args:=[.c (.p 0 k0 true 4),.a [.v (.int .i64 m8),.v (.string z9)]]) (H:=[⟨k0,.l [.v (.int .i64 m1),.v (.bool t2),.v (.string z3),.v (.slice y4 ly4 cy4),.v (.string z5),.v (.slice y6 ly6 cy6),.v (.slice y7 ly7 cy7)],108,true⟩]) (.s (.r ⟨(some [0]),true,[],[]⟩) (.s (.s .z (.c (.s (.r ⟨(some [0,3]),true,[0],[]⟩) .z) .z)) (.r ⟨(some [0,3]),true,[],[]⟩))) Go.Proofs.Tryz.func131 rfl ⟨rfl,⟨trivial,trivial,trivial⟩,trivial⟩ ⟨⟨trivial,⟨trivial,⟨trivial,⟨trivial,⟨trivial,⟨trivial,⟨trivial,trivial⟩⟩⟩⟩⟩⟩⟩,trivial⟩ hF hS (ad_ (by kernel_rfl) h)
theorem oF_ (k0:Nat) (m1:Int) (t2:Bool) (z3:ByteArray) (y4:Option Addr) (ly4:Nat) (cy4:Nat) (z5:ByteArray) (y6:Option Addr) (ly6:Nat) (cy6:Nat) (y7:Option Addr) (ly7:Nat) (cy7:Nat) (m8:Int) (z9:ByteArray) (m10:Int) (S:SP) (K:KP) (w:World) (hF:Fs S w [⟨k0,#[.int .i64 m1,.bool t2,.string z3,.slice y4 ly4 cy4,.string z5,.slice y6 ly6 cy6,.slice y7 ly7 cy7],108,true⟩] w) (hS:S k0∧True) (h:∀l0,w.heap.size≤l0→∀l1,w.heap.size≤l1→(0:Int)≤IntKind.wrap .i64 (((ByteArray.size z9:Nat):Int) - (if ((ByteArray.size z9:Nat):Int)<(if (0:Int)>m10 then 0 else m10) then ((ByteArray.size z9:Nat):Int) else (if (0:Int)>m10 then 0 else m10)))∧IntKind.wrap .i64 (((ByteArray.size z9:Nat):Int) - (if ((ByteArray.size z9:Nat):Int)<(if (0:Int)>m10 then 0 else m10) then ((ByteArray.size z9:Nat):Int) else (if (0:Int)>m10 then 0 else m10)))≤((ByteArray.size z9:Nat):Int)∧(m8=(-1)→∀w0,Fr S w w [l1] [⟨k0,#[Iv m1,.bool t2,.string z3,.slice y4 ly4 cy4,.string z5,.slice y6 ly6 cy6,.slice y7 ly7 cy7],108,true⟩] w0→K (.agg #[Iv m8,.string (ByteArray.extract z9 0 (Int.toNat (IntKind.wrap .i64 (((ByteArray.size z9:Nat):Int) - (if ((ByteArray.size z9:Nat):Int)<(if (0:Int)>m10 then 0 else m10) then ((ByteArray.size z9:Nat):Int) else (if (0:Int)>m10 then 0 else m10))))))]) w0)∧(¬(m8=(-1))→(IntKind.wrap .i64 (((ByteArray.size z9:Nat):Int) - (if ((ByteArray.size z9:Nat):Int)<(if (0:Int)>m10 then 0 else m10) then ((ByteArray.size z9:Nat):Int) else (if (0:Int)>m10 then 0 else m10)))<((ByteArray.size z9:Nat):Int)→∀w1,Fr S w w [] [⟨k0,#[Iv m1,.bool t2,.string z3,.slice y4 ly4 cy4,.string z5,.slice y6 ly6 cy6,.slice y7 ly7 cy7],108,true⟩,⟨l0,#[Iv m8,.string z9],221,true⟩,⟨l1,#[Iv 0,.string ⟨#[]⟩],221,true⟩] w1→∃I0:World→Prop,I0 w1∧Dr y6 λa0=>(0:Int)≤m8∧m8<(ly6:Int)∧Dr (some (Addr.add a0 (Int.toNat m8*1))) λa1=>∃s0,(∀w2,I0 w2→World.cell? w2 a1=some (.string s0))∧(0:Int)≤(if ((ByteArray.size s0:Nat):Int)<IntKind.wrap .i64 (((ByteArray.size z9:Nat):Int) - (if ((ByteArray.size z9:Nat):Int)<(if (0:Int)>m10 then 0 else m10) then ((ByteArray.size z9:Nat):Int) else (if (0:Int)>m10 then 0 else m10))) then ((ByteArray.size s0:Nat):Int) else IntKind.wrap .i64 (((ByteArray.size z9:Nat):Int) - (if ((ByteArray.size z9:Nat):Int)<(if (0:Int)>m10 then 0 else m10) then ((ByteArray.size z9:Nat):Int) else (if (0:Int)>m10 then 0 else m10))))∧((if ((ByteArray.size s0:Nat):Int)<IntKind.wrap .i64 (((ByteArray.size z9:Nat):Int) - (if ((ByteArray.size z9:Nat):Int)<(if (0:Int)>m10 then 0 else m10) then ((ByteArray.size z9:Nat):Int) else (if (0:Int)>m10 then 0 else m10))) then ((ByteArray.size s0:Nat):Int) else IntKind.wrap .i64 (((ByteArray.size z9:Nat):Int) - (if ((ByteArray.size z9:Nat):Int)<(if (0:Int)>m10 then 0 else m10) then ((ByteArray.size z9:Nat):Int) else (if (0:Int)>m10 then 0 else m10)))):Int)≤((ByteArray.size s0:Nat):Int)∧((ByteArray.size (ByteArray.extract z9 0 (Int.toNat (IntKind.wrap .i64 (((ByteArray.size z9:Nat):Int) - (if ((ByteArray.size z9:Nat):Int)<(if (0:Int)>m10 then 0 else m10) then ((ByteArray.size z9:Nat):Int) else (if (0:Int)>m10 then 0 else m10))))))+(ByteArray.size (ByteArray.extract s0 (Int.toNat (if ((ByteArray.size s0:Nat):Int)<IntKind.wrap .i64 (((ByteArray.size z9:Nat):Int) - (if ((ByteArray.size z9:Nat):Int)<(if (0:Int)>m10 then 0 else m10) then ((ByteArray.size z9:Nat):Int) else (if (0:Int)>m10 then 0 else m10))) then ((ByteArray.size s0:Nat):Int) else IntKind.wrap .i64 (((ByteArray.size z9:Nat):Int) - (if ((ByteArray.size z9:Nat):Int)<(if (0:Int)>m10 then 0 else m10) then ((ByteArray.size z9:Nat):Int) else (if (0:Int)>m10 then 0 else m10))))) (ByteArray.size s0)))):Nat)≤9223372036854775807∧∀w3,Fr S w w1 [l1] [⟨k0,#[Iv m1,.bool t2,.string z3,.slice y4 ly4 cy4,.string z5,.slice y6 ly6 cy6,.slice y7 ly7 cy7],108,true⟩] w3→K (.agg #[Iv m8,.string ((ByteArray.extract z9 0 (Int.toNat (IntKind.wrap .i64 (((ByteArray.size z9:Nat):Int) - (if ((ByteArray.size z9:Nat):Int)<(if (0:Int)>m10 then 0 else m10) then ((ByteArray.size z9:Nat):Int) else (if (0:Int)>m10 then 0 else m10))))):ByteArray)++(ByteArray.extract s0 (Int.toNat (if ((ByteArray.size s0:Nat):Int)<IntKind.wrap .i64 (((ByteArray.size z9:Nat):Int) - (if ((ByteArray.size z9:Nat):Int)<(if (0:Int)>m10 then 0 else m10) then ((ByteArray.size z9:Nat):Int) else (if (0:Int)>m10 then 0 else m10))) then ((ByteArray.size s0:Nat):Int) else IntKind.wrap .i64 (((ByteArray.size z9:Nat):Int) - (if ((ByteArray.size z9:Nat):Int)<(if (0:Int)>m10 then 0 else m10) then ((ByteArray.size z9:Nat):Int) else (if (0:Int)>m10 then 0 else m10))))) (ByteArray.size s0)))]) w3)∧(¬(IntKind.wrap .i64 (((ByteArray.size z9:Nat):Int) - (if ((ByteArray.size z9:Nat):Int)<(if (0:Int)>m10 then 0 else m10) then ((ByteArray.size z9:Nat):Int) else (if (0:Int)>m10 then 0 else m10)))<((ByteArray.size z9:Nat):Int))→∀w4,Fr S w w [l1] [⟨k0,#[Iv m1,.bool t2,.string z3,.slice y4 ly4 cy4,.string z5,.slice y6 ly6 cy6,.slice y7 ly7 cy7],108,true⟩] w4→K (.agg #[Iv m8,.string (ByteArray.extract z9 0 (Int.toNat (IntKind.wrap .i64 (((ByteArray.size z9:Nat):Int) - (if ((ByteArray.size z9:Nat):Int)<(if (0:Int)>m10 then 0 else m10) then ((ByteArray.size z9:Nat):Int) else (if (0:Int)>m10 then 0 else m10))))))]) w4))):aa_ PR 130 ⟨[.pointer (some ⟨k0,4,none⟩),.agg #[.int .i64 m8,.string z9],.int .i64 m10]⟩ w K:=
 ab_ (okf:=⟨okL,[]⟩) ag_ (args:=[.c (.p 0 k0 true 4),.a [.v (.int .i64 m8),.v (.string z9)],.c (.v (.int .i64 m10))]) (H:=[⟨k0,.l [.v (.int .i64 m1),.v (.bool t2),.v (.string z3),.v (.slice y4 ly4 cy4),.v (.string z5),.v (.slice y6 ly6 cy6),.v (.slice y7 ly7 cy7)],108,true⟩]) (.s (.r ⟨(some [0]),true,[],[]⟩) (.s .z (.s .z (.s (.s .z (.c (.s (.r ⟨(some [0,4,6,8]),true,[],[]⟩) .z) .z)) (.s (.r ⟨(some [4,6,8]),true,[],[]⟩) .z))))) Go.Proofs.Tryz.func130 rfl ⟨rfl,⟨trivial,trivial,trivial⟩,trivial,trivial⟩ ⟨⟨trivial,⟨trivial,⟨trivial,⟨trivial,⟨trivial,⟨trivial,⟨trivial,trivial⟩⟩⟩⟩⟩⟩⟩,trivial⟩ hF hS (ad_ (by kernel_rfl) h)
theorem c__ (y0:Option Addr) (ly0:Nat) (cy0:Nat) (S:SP) (K:KP) (w:World) (h:∃I0:Int→Nat→World→Prop,(∃l0,I0 0 l0 w)∧∀n0,∀D0:Nat→Value,∀l1 w0,I0 n0 l1 w0→Fs S w [] w0→(n0<(ly0:Int)→Dr y0 λa0=>(0:Int)≤n0∧n0<(ly0:Int)∧Dr (some (Addr.add a0 (Int.toNat n0*1))) λa1=>∃b0,World.cell? w0 a1=some (.bool b0)∧(b0=true→K (Iv n0) w0)∧(b0=false→∃l2,l2<l1∧I0 (IntKind.wrap .i64 (n0+1)) l2 w0))∧(¬(n0<(ly0:Int))→K (Iv (-1)) w0)):aa_ PR 167 ⟨[.slice y0 ly0 cy0,.bool true]⟩ w K:=
 ab_ (okf:=⟨okL,[]⟩) ag_ (args:=[.c (.v (.slice y0 ly0 cy0)),.c (.k true)]) (H:=[]) (.s .z (.s (.s .z (.b (.l (some []) (some []) [(8,.c (.int .i64))] [] .z))) .z)) Go.Proofs.Tryz.func167 rfl ⟨trivial,trivial,trivial⟩ trivial (Fr.init S w) trivial (ad_ (by kernel_rfl) h)
end Go.Vc
namespace Go.Vc
open Go
theorem gB_ {w:World} {b:Nat} {f:Int} {d:Bool} {log lasts:ByteArray} {q0 q1 wq:Option Addr} {c0 c1 wl wc:Nat} (h:w.heap[b]? = some (.cells (dskC f d log lasts q0 q1 c0 c1 wq wl wc) T.au_ (0,0))) {n:Int} {K:Value→World→Prop}
  (hK:∀w',w'.heap[b]? = some (.cells (dskC (if (-1:Int)>n then -1 else n) d log lasts q0 q1 c0 c1 wq wl wc) T.au_ (0,0))→Chg (· = b) w w'→K (.tuple #[]) w'):aa_ PR F.ba_ ⟨[.pointer (some ⟨b,0,none⟩),.int .i64 n]⟩ w K:=
 qt_ b f d log q0 0 c0 lasts q1 0 c1 wq wl wc n (· = b) K w ((Fr.init _ w).entry h (λx h=>by cases h) λ_=>rfl) ⟨rfl,trivial⟩ λw0 hF0=>hK w0 (hF0.blk 0 rfl) (hF0.stp.mono λk _ e=>by simpa using e)
theorem ry_ {n:Int} (h:n≤9223372036854775807):okF (if (-1:Int)>n then -1 else n):=by
 unfold okF;split <;> omega
theorem pM_ {w:World} {b:Nat} {f:Int} {d:Bool} {log lasts s:ByteArray} {q0 q1 wq:Option Addr} {c0 c1 wl wc:Nat} (h:w.heap[b]? = some (.cells (dskC f d log lasts q0 q1 c0 c1 wq wl wc) T.au_ (0,0))) (hroom:lasts.size+s.size≤9223372036854775807) {K:Value→World→Prop}
  (hK:∀w',w'.heap[b]? = some (.cells (dskC f d log (lasts++s) q0 q1 c0 c1 wq wl wc) T.au_ (0,0))→Chg (· = b) w w'→K (.tuple #[]) w') :
  aa_ PR F.cO_ ⟨[.pointer (some ⟨b,4,none⟩),.agg #[.int .i64 (-1),.string s]]⟩ w K:=by
 refine qr_ b f d log q0 0 c0 lasts q1 0 c1 wq wl wc (-1) s (· = b) K w ((Fr.init _ w).entry h (λx h=>by cases h) λ_=>rfl) ⟨rfl,trivial⟩ λb0 hb0=>⟨λ_ w0 hF0=>⟨(· = w0),rfl,af_.2 ⟨lasts,λw1 e=>by subst e;exact hF0.ld 0 4 rfl rfl rfl,hroom,λw2 hF2=>?_⟩⟩,λh=>absurd rfl h⟩
 exact hK w2 (hF2.blk 0 rfl) (hF0.chg.trans (hF2.stp.mono λi _ hi=>by simpa using hi) λ_ _ e=>e)
theorem oh_ {w:World} {b:Nat} {f:Int} {d:Bool} {log lasts:ByteArray} {s:List UInt8} {q0 q1 wq:Option Addr} {c0 c1 wl wc:Nat} (h:w.heap[b]? = some (.cells (dskC f d log lasts q0 q1 c0 c1 wq wl wc) T.au_ (0,0))) (hs:s.length≤1000000) {m:Int} {K:Value→World→Prop}
  (hK:∀w' k,k≤s.length→w'.heap[b]? = some (.cells (dskC f d log lasts q0 q1 c0 c1 wq wl wc) T.au_ (0,0))→Grow w w'→K (.agg #[.int .i64 (-1),.string (str (s.take k))]) w') :
  aa_ PR F.e3_ ⟨[.pointer (some ⟨b,4,none⟩),.agg #[.int .i64 (-1),.string (str s)],.int .i64 m]⟩ w K:=by
 have hz:((ByteArray.size (str s):Nat):Int)=(s.length:Nat):=by rw [ae_]
 refine oF_ b f d log q0 0 c0 lasts q1 0 c1 wq wl wc (-1) (str s) m (· = b) K w ((Fr.init _ w).entry h (λx h=>by cases h) λ_=>rfl) ⟨rfl,trivial⟩ λl0 hl0 l1 hl1=>?_
 rw [hz]
 obtain ⟨k,hk,hk2⟩:∃k:Nat,(if ((s.length:Nat):Int)<(if (0:Int)>m then 0 else m) then ((s.length:Nat):Int) else (if (0:Int)>m then 0 else m))=(k:Int)∧k≤s.length:=by
  by_cases hm:(0:Int)>m
  ·rw [if_pos hm,if_neg (by omega)];exact ⟨0,rfl,Nat.zero_le _⟩
  ·rw [if_neg hm]
   by_cases h2:((s.length:Nat):Int)<m
   ·rw [if_pos h2];exact ⟨s.length,rfl,Nat.le_refl _⟩
   ·rw [if_neg h2]
    obtain ⟨k,rfl⟩:=Int.eq_ofNat_of_zero_le (a:=m) (by omega)
    exact ⟨k,rfl,by omega⟩
 rw [hk,w64 (by omega) (by omega)]
 refine ⟨by omega,by omega,λ_ w0 hF0=>?_,λh=>absurd rfl h⟩
 have e:((s.length:Nat):Int) - (k:Int)=((s.length - k:Nat):Int):=by omega
 rw [e,Int.toNat_natCast,ny_]
 have hF0':=hF0.unM hl1
 exact hK w0 (s.length - k) (Nat.sub_le _ _) (hF0'.blk 0 rfl) hF0'.grow
theorem i6_ {q:Option Addr} {c:Nat} {w:World} {K:Value→World→Prop} (hK:K (.bool false) w):aa_ PR F.cq_ ⟨[.slice q 0 c,.bool true]⟩ w K:=by
 have h0:Fs S0 w [] w:=Fr.init _ w
 refine cA_ q 0 c S0 K w (c__ q 0 c S0 _ w ⟨λi m w'=>i=0∧w'=w,⟨0,rfl,rfl⟩,?_⟩)
 rintro i D m w0 ⟨rfl,rfl⟩ hF
 exact ⟨λh=>absurd h (by decide),λ_=>⟨_,rfl,hF,λh=>absurd h (by decide),λ_=>hK⟩⟩
theorem u8z:∃i,PR.info? T.uint8=some i∧i.size=1∧i.bytes=1∧i.zero=some (.int .u8 0):=by
 have h:(match PR.info? T.uint8 with | some i=>i.size == 1 && i.bytes == 1 && (match i.zero with | some (.int .u8 0)=>true | _=>false) | none=>false)=true:=by kernel_rfl
 split at h
 ·rename_i i hi
  simp only [Bool.and_eq_true,beq_iff_eq] at h
  refine ⟨i,hi,h.1.1,h.1.2,?_⟩
  have h2:=h.2
  split at h2
  ·assumption
  ·cases h2
 ·cases h
theorem np_ {n:Nat} {w:World} {b:Nat} {L:List UInt8} {ws:List (List UInt8)} (h:DskD n w b (str L) (ws.map str)) (hw:ws.length≤1) (hL:L.length≤1000000) (hW:∀x∈ws,x.length≤1000000) {pq:Option Addr} {pl pc:Nat} {bits:List Bool} (hb:Sl w pq (bits.map .bool)) (hpl:pl=bits.length) (hpc:pl≤pc) {m:Int} {K:Value→World→Prop}
  (hK:∀w' part,bP_ w' b (str (L++part))→NoF w' b→Chg (· = b) w w'→(part=[]∨∃x k,ws=[x]∧part=x.take k)→K (.tuple #[]) w') :
  aa_ PR F.ga_ ⟨[.pointer (some ⟨b,0,none⟩),.agg #[.slice pq pl pc,.int .i64 m]]⟩ w K:=by
 subst hpl
 obtain ⟨f,now,q0,q1,c0,c1,wq,wc,h,hs,ho,hbn⟩:=h
 rw [List.length_map] at h
 have hblt:=aj_ h
 refine oG_ b f true now q0 0 c0 (str L) q1 0 c1 wq ws.length wc pq bits.length pc m (· = b) K w ((Fr.init _ w).entry h (λx h=>by cases h) λ_=>rfl) ⟨rfl,trivial⟩ λl0 hl0 w0 hF0=>⟨λ_=>True,trivial,?_⟩
 have hD:(if ((ws.length:Nat):Int)<((bits.length:Nat):Int) then ((ws.length:Nat):Int) else ((bits.length:Nat):Int))=((min ws.length bits.length:Nat):Int):=by
  split <;> omega
 rw [hD]
 have hmn:min ws.length bits.length≤1:=by omega
 refine ⟨by omega,by omega,?_⟩
 rw [Int.toNat_natCast,Nat.sub_zero]
 have g0:Grow w w0:=hF0.grow
 generalize hDD:min ws.length bits.length=D at hmn
 have hW1:IntKind.wrap .i64 (((0:Nat):Int)+1)=((1:Nat):Int):=by rw [w64 (by omega) (by omega)];rfl
 refine ⟨λs0 n0 n1 b0 s1 p0 l2 l3 s2 p1 l4 l5 p2 l6 l7 fu w'=>n1=f∧b0=true∧s1=now∧p0=q0∧l2=0∧l3=c0∧p1=q1∧l4=0∧l5=c1∧p2=wq∧l6=ws.length∧l7=wc∧∃(k:Nat) (part:List UInt8),n0=k∧k≤D∧fu=D - k∧s2=str (L++part)∧(k=0→s0=⟨#[]⟩∧part=[]∧Grow w w')∧(part=[]∨∃x k,ws=[x]∧part=x.take k),
  ⟨_,rfl,rfl,rfl,rfl,rfl,rfl,rfl,rfl,rfl,rfl,rfl,rfl,0,[],rfl,Nat.zero_le _,rfl,by rw [List.append_nil],λ_=>⟨rfl,rfl,g0⟩,.inl rfl⟩,?_⟩
 rintro s0 n0 n1 b0 s1 p0 l2 l3 s2 p1 l4 l5 p2 l6 l7 Dv fu w1 ⟨rfl,rfl,rfl,rfl,rfl,rfl,rfl,rfl,rfl,rfl,rfl,rfl,k,part,rfl,hk,rfl,rfl,hk0,hpart⟩ hF1
 refine ⟨λhlt=>?_,λhge=>?_⟩
 ·have hkz:k=0:=by omega
  subst hkz
  have hD1:D=1:=by omega
  subst hD1
  obtain ⟨rfl,rfl,g1⟩:=hk0 rfl
  rw [hW1,Int.toNat_natCast,Int.toNat_natCast]
  have hwl:ws.length=1:=by omega
  obtain ⟨x,rfl⟩:=List.length_eq_one_iff.1 hwl
  have hbl:1≤bits.length:=by omega
  obtain ⟨b1,bs,rfl⟩:∃b1 bs,bits=b1 :: bs:=by
   cases bits with
   | nil=>simp at hbl
   | cons b1 bs=>exact ⟨b1,bs,rfl⟩
  have hb1:=hb.grow g1
  rcases hb1 with hb1 | ⟨bk,o,rfl,hb1⟩
  ·cases hb1
  have hx:=hW x List.mem_cons_self
  have hs1:=hs.grow g1
  rw [if_neg (show ¬pc=0 by omega)]
  refine af_.2 ⟨by omega,by omega,af_.2 ⟨b1,?_,λhbt=>?_,λhbf=>?_⟩⟩
  ·show w1.cell? (((⟨bk,o,none⟩:Addr).add 0).add (0*1))=_
   rw [an_,an_];exact hb1.cell (i:=0) rfl
  ·refine Sl.rdN (f:=wrC) (s:=2) (l:=[x].map str) (λ_=>rfl) (by decide) hs1 rfl (k:=0) (by simp) (by simp) λa hc=>⟨_,hc 0 _ rfl,_,hc 1 _ rfl,λl9 hl9=>⟨by omega,by omega,λw2 hF2=>?_⟩⟩
   refine i6_ ⟨false,rfl,(λh=>by cases h),λ_=>⟨(hF2.unM hl9).reset,λw8 hF8=>⟨λy=>y.cell? ⟨l9,0,none⟩=some (.int .i64 (-1))∧y.cell? ⟨l9,1,none⟩=some (.string (str x)),⟨hF8.ld 2 0 rfl rfl rfl,hF8.ld 2 1 rfl rfl rfl⟩,af_.2 ⟨_,λy hy=>by rw [an_];exact hy.1,_,λy hy=>by rw [an_];exact hy.2,?_⟩⟩⟩⟩
   refine oh_ (hF8.blk 0 rfl) hx λw11 k hk hb11 g11=>⟨_,_,rfl,hF8.after g11,⟨(hF8.after g11).ld 2 0 rfl rfl rfl,(hF8.after g11).ld 2 1 rfl rfl rfl⟩,λ_=>⟨by rw [ae_,List.length_take];show (0+_:Nat)≤_;omega,λw12 hF12=>⟨λ_=>True,trivial,?_⟩⟩,λh=>absurd rfl h⟩
   have e0:(⟨#[]⟩:ByteArray)++str (x.take k)=str (x.take k):=by apply ByteArray.ext;simp
   rw [e0]
   have sz:w11.heap.size≤w12.heap.size:=hF12.stp.size
   have g12:Chg (· = l9) w11 w12:=hF12.stp.mono λk _ e=>by simpa using e
   refine pM_ (hF12.blk 0 rfl) (by rw [ae_,ae_,List.length_take,List.append_nil];omega) λw13 hb13 g13=>?_
   have hF13:=hF12.reset.cL_ 0 rfl _ rfl g13 hb13
   refine ⟨rfl,_,_,_,_,_,_,_,_,_,_,_,_,_,hF13,0,by decide,rfl,rfl,rfl,rfl,rfl,rfl,rfl,rfl,rfl,rfl,rfl,rfl,1,x.take k,rfl,Nat.le_refl _,rfl,?_,(λh=>by cases h),.inr ⟨x,k,rfl,rfl⟩⟩
   rw [List.append_nil,ai_]
  ·refine Sl.rdN (f:=wrC) (s:=2) (l:=[x].map str) (λ_=>rfl) (by decide) hs1 rfl (k:=0) (by simp) (by simp) λa hc=>⟨_,hc 0 _ rfl,_,hc 1 _ rfl,λl9 hl9=>⟨λ_ w16 hF16=>?_,λh=>absurd rfl h⟩⟩
   obtain ⟨i,hi,hk,hb,hz⟩:=u8z
   have hxs:(([x].map str)[0]'(by simp)).size=x.length:=by show (str x).size=_;rw [ae_]
   rw [hxs]
   refine cr_ <| ca_ (i:=i) (by_:=1) cf_ hi hz rfl hk hb (by omega) (by omega) (by omega) λb2 w17 hbb hsz g17 ho17=>⟨_,_,_,rfl,(hF16.unM hl9).after g17,?_⟩
   rw [Int.toNat_natCast] at ho17 ⊢
   refine a4_ (bs:=List.replicate x.length 0) (by rw [List.map_replicate];exact ho17.sl) (by rw [List.length_replicate]) ⟨_,rfl,(hF16.unM hl9).after g17,?_,0,by decide,rfl,rfl,rfl,rfl,rfl,rfl,rfl,rfl,rfl,rfl,rfl,rfl,1,[],rfl,Nat.le_refl _,rfl,rfl,(λh=>by cases h),.inl rfl⟩
   rw [ae_,List.length_replicate];show (0+_:Nat)≤_;omega
 ·refine iq_ λw20 q' c' g20=>⟨_,_,_,_,rfl,(hF1.after g20).sub (List.Sublist.cons_cons _ (List.nil_sublist _)),λw21 hF21=>?_⟩
  have hb21:=hF21.blk 0 rfl
  exact hK w21 part ⟨-1,_,_,_,_,⟨by decide,by decide⟩,hb21⟩ (.mk hb21) hF21.chg hpart
end Go.Vc
namespace Go.Vc
open Go Go.MapKept
theorem aX_.fuse {N:Nat} {w w':World} {x:PubS} (h:aX_ N w x) (g:Chg (· = x.bd) w w') (hd:bP_ w' x.bd (str (logL x.recs))):aX_ N w' x:=by
 obtain ⟨n,hm⟩:=h.map
 have hp:=h.jrn.pub h.blk
 have hmj:=h.jrn.mapb hm
 refine ⟨g.get h.blk λe=>hp (.inr (.inl e)),⟨g.get h.jrn.blk h.jrn.ne,h.jrn.own.keep g λa ha e=>(h.jrn.off a ha).2 e,h.jrn.cap,hd,h.jrn.ne,h.jrn.off⟩,⟨n,hm.keep g λe=>hmj (.inr (.inl e))⟩,λk v hr=>(h.kept k v hr).keep g (λk _ e=>.inl (.inr (.inr (.inr (.inl e))))) (λ_ _ e=>e) (Nat.le_refl _) (λ_ h=>h),h.has,h.com_le,h.last_le,h.room,h.each1,h.each2,h.lo,λk hk=>Nat.lt_of_lt_of_le (h.exlt k hk) g.size,h.only,h.rep⟩
theorem br_.fuse {N:Nat} {w w':World} {k0:Nat} {s:ActS} {now:Nat} (h:br_ N w k0 s now) (g:Chg (· = s.x.bd) w w') (hd:bP_ w' s.x.bd (str (logL s.x.recs))):br_ N w' k0 s now:=by
 have rb:s.x.reg s.x.bd:=.inr (.inr (.inr (.inl rfl)))
 have ne:∀k,¬s.x.reg k→¬k=s.x.bd:=λk hk e=>hk (by rw [e];exact rb)
 exact ⟨g.get h.blk (ne _ h.off),⟨g.get h.act.blk (ne _ h.act.off.1),g.get h.act.row (ne _ h.act.off.2),h.act.pub.fuse g hd,h.act.la,h.act.ln,h.act.n1,h.act.n4,h.act.off,h.act.ex⟩,h.lo,h.off,h.ex⟩
def dl_ (w:World) (k0:Nat) (p1 p2:Option Addr) (r now:Int):Prop:=w.heap[k0]? = some (.cells #[.pointer p1,.pointer p2,.int .i64 r,.int .i64 now] T.aL_ (0,0))
theorem dl_.fs {w:World} {k0:Nat} {p1 p2:Option Addr} {r now:Int} (h:dl_ w k0 p1 p2 r now) {S:Nat→Prop} (hS:S k0):Fs S w [⟨k0,#[.pointer p1,.pointer p2,.int .i64 r,.int .i64 now],T.aL_,true⟩] w:=(Fr.init _ w).entry h (λx h=>by cases h) λ_=>hS
theorem gz_ {w:World} {k0:Nat} {p1 p2:Option Addr} {r now:Int} (h:dl_ w k0 p1 p2 r now) {K:Value→World→Prop} (hK:K (.pointer p2) w):aa_ PR F.dS_ ⟨[.pointer (some ⟨k0,0,none⟩)]⟩ w K:=
 qg_ k0 p1 p2 r now (· = k0) K w (h.fs rfl) ⟨rfl,trivial⟩ hK
theorem gy_ {w:World} {k0:Nat} {p1 p2:Option Addr} {r now:Int} (h:dl_ w k0 p1 p2 r now) {K:Value→World→Prop} (hK:K (.int .i64 now) w):aa_ PR F.d5_ ⟨[.pointer (some ⟨k0,0,none⟩)]⟩ w K:=
 rV_ k0 p1 p2 r now (· = k0) K w (h.fs rfl) ⟨rfl,trivial⟩ hK
theorem nm_ {w:World} {k0 a bd:Nat} {r now:Int} {log:ByteArray} (h:dl_ w k0 (some ⟨a,0,none⟩) (some ⟨bd,0,none⟩) r now) (hd:bP_ w bd log) {K:Value→World→Prop} (hK:K (.bool false) w):aa_ PR F.bB_ ⟨[.pointer (some ⟨k0,0,none⟩)]⟩ w K:=
 h__ k0 _ _ r now (· = k0) K w (h.fs rfl) ⟨rfl,trivial⟩ ⟨(λh=>by cases h),λa0 _=>jI_ hd ⟨false,rfl,(λh=>by cases h),λ_=>⟨h.fs rfl,hK⟩⟩⟩
theorem fn_ {n:Nat} {w:World} {k0 bd a:Nat} {r now:Int} (h:cJ_ n w k0 bd a r now) {K:Value→World→Prop} (hK:K (.bool true) w):aa_ PR F.bB_ ⟨[.pointer (some ⟨k0,0,none⟩)]⟩ w K:=by
 have hF:=dl_.fs (S:=(· = k0)) h.blk rfl
 obtain ⟨recs,ws,⟨f,nw,q0,q1,c0,c1,wq,wc,hb,_⟩,_⟩:=h.brn
 exact h__ k0 _ _ r now (· = k0) K w hF ⟨rfl,trivial⟩ ⟨(λh=>by cases h),λa0 _=>lP_ bd f true nw q0 0 c0 _ q1 0 c1 wq ws.length wc (· = bd) _ w ((Fr.init _ w).entry hb (λx h=>by cases h) λ_=>rfl) ⟨rfl,trivial⟩ ⟨λ_=>⟨true,rfl,λ_=>⟨hF,hK⟩,λh=>by cases h⟩,λh=>by cases h⟩⟩
abbrev E1:Value:=.iface T.al_ (.int .i64 1)
abbrev E8:Value:=.iface T.al_ (.int .i64 8)
theorem ff_ {n:Nat} {w:World} {k0 bd a:Nat} {r now:Int} (h:cJ_ n w k0 bd a r now) {K:Value→World→Prop} (hK:K E8 w):aa_ PR F.cl_ ⟨[.pointer (some ⟨k0,0,none⟩)]⟩ w K:=by
 have hF:=dl_.fs (S:=(· = k0)) h.blk rfl
 exact lC_ k0 _ _ r now (· = k0) K w hF ⟨rfl,trivial⟩ (fn_ h ⟨true,rfl,λ_=>⟨hF,hK⟩,λh=>by cases h⟩)
theorem nl_ {n:Nat} {w:World} {k0 bd a:Nat} {r now fr:Int} {z:ByteArray} (h:cJ_ n w k0 bd a r now) {K:Value→World→Prop} (hK:K (.tuple #[.slice none 0 0,E8]) w):aa_ PR F.cm_ ⟨[.pointer (some ⟨k0,0,none⟩),.int .i64 fr,.string z]⟩ w K:=by
 have hF:=dl_.fs (S:=(· = k0)) h.blk rfl
 exact lF_ k0 _ _ r now fr z (· = k0) K w hF ⟨rfl,trivial⟩ (ff_ h ⟨_,rfl,hF,(λh=>by cases h),(λt x _=>hK),.inr ⟨_,_,rfl⟩⟩)
theorem eN_ {n:Nat} {w:World} {k0 bd a:Nat} {r now nodes:Int} {y:Option Addr} {l c:Nat} (h:cJ_ n w k0 bd a r now) {K:Value→World→Prop} (hK:K (.tuple #[.int .i64 0,E8]) w):aa_ PR F.a6_ ⟨[.pointer (some ⟨k0,0,none⟩),.int .i64 nodes,.slice y l c]⟩ w K:=by
 have hF:=dl_.fs (S:=(· = k0)) h.blk rfl
 exact gK_ k0 _ _ r now nodes y l c (· = k0) K w hF ⟨rfl,trivial⟩ (ff_ h ⟨_,rfl,hF,(λh=>by cases h),(λt x _=>hK),.inr ⟨_,_,rfl⟩⟩)
theorem iE_ {n:Nat} {w:World} {k0 bd a:Nat} {r now:Int} (h:cJ_ n w k0 bd a r now) (hne:k0≠bd) {K:Value→World→Prop} (hK:∀w',cJ_ n w' k0 bd a r (IntKind.wrap .i64 (now+1))→Chg (· = k0) w w'→K (.tuple #[.slice none 0 0,E8]) w'):aa_ PR F.bA_ ⟨[.pointer (some ⟨k0,0,none⟩)]⟩ w K:=by
 have hF:=dl_.fs (S:=(· = k0)) h.blk rfl
 refine lD_ k0 _ _ r now (· = k0) K w hF ⟨rfl,trivial⟩ λw0 hF0=>?_
 have g0:Chg (· = k0) w w0:=hF0.stp.mono λk _ e=>by simpa using e
 have h0:cJ_ n w0 k0 bd a r (IntKind.wrap .i64 (now+1)):=⟨hF0.blk 0 rfl,h.brn.keep g0 (λe=>hne e.symm) (λk e=>by subst e;exact h.lt),h.lt⟩
 exact ff_ h0 ⟨_,rfl,hF0.reset,(λh=>by cases h),(λt x _=>hK w0 h0 g0),.inr ⟨_,_,rfl⟩⟩
theorem o1_ {n:Nat} {w:World} {bd:Nat} (h:i7_ n w bd) {m:Int} {K:Value→World→Prop} (hK:∀w',i7_ n w' bd→Chg (· = bd) w w'→K (.tuple #[]) w'):aa_ PR F.ba_ ⟨[.pointer (some ⟨bd,0,none⟩),.int .i64 m]⟩ w K:=by
 obtain ⟨recs,ws,⟨f,nw,q0,q1,c0,c1,wq,wc,hb,hs,ho,hbn⟩,h2⟩:=h
 exact gB_ hb λw' hb' g=>hK w' ⟨recs,ws,⟨_,nw,q0,q1,c0,c1,wq,wc,hb',hs.keep g (λa ha e=>ho a ha (show a.block<n by have e':a.block=bd:=e;omega)),ho,hbn⟩,h2⟩ g
theorem o0_ {w:World} {bd:Nat} {log:ByteArray} (h:bP_ w bd log) {m:Int} (hm:m≤9223372036854775807) {K:Value→World→Prop} (hK:∀w',bP_ w' bd log→Chg (· = bd) w w'→K (.tuple #[]) w'):aa_ PR F.ba_ ⟨[.pointer (some ⟨bd,0,none⟩),.int .i64 m]⟩ w K:=by
 obtain ⟨f,q0,q1,c0,c1,hf,h⟩:=h
 exact gB_ h λw' hb g=>hK w' ⟨_,q0,q1,c0,c1,ry_ hm,hb⟩ g
theorem o7_ {w:World} {bd:Nat} {recs:List (List UInt8)} (h:bP_ w bd (str (logL recs))) (hr:RepE recs) {K:Value→World→Prop}
  (hK:∀w1,Chg (· = bd) w w1→aa_ PR F.cn_ ⟨[.pointer (some ⟨bd,0,none⟩)]⟩ w1 (λv w'=>v=E8∧i7_ w.heap.size w' bd∧Chg (· = bd) w1 w')→K (.tuple #[]) w1):aa_ PR F.ba_ ⟨[.pointer (some ⟨bd,0,none⟩),.int .i64 0]⟩ w K:=by
 obtain ⟨f,q0,q1,c0,c1,hf,h⟩:=h
 have hlt:=aj_ h
 refine gB_ h λw1 hb g=>hK w1 g ?_
 rw [if_neg (by decide)] at hb
 have h0:Fs (· = bd) w1 [⟨bd,dskC 0 false (str (logL recs)) (str (logL recs)) q0 q1 c0 c1 none 0 0,T.au_,true⟩] w1:=(Fr.init _ w1).entry hb (λx h=>by cases h) λ_=>rfl
 refine eK_ bd 0 false (str (logL recs)) q0 0 c0 (str (logL recs)) q1 0 c1 none 0 0 (· = bd) _ w1 h0 ⟨rfl,trivial⟩ (dr_ hb ⟨_,rfl,h0,λ_=>?_,(λt x h=>by cases h),.inl rfl⟩)
 refine lO_ bd 0 false (str (logL recs)) q0 0 c0 (str (logL recs)) q1 0 c1 none 0 0 (· = bd) _ w1 h0 ⟨rfl,trivial⟩ ⟨λ_ w2 hF2=>?_,λh=>absurd rfl h⟩
 have hb2:=hF2.blk 0 rfl
 have g2:Chg (· = bd) w1 w2:=hF2.stp.mono λk _ e=>by simpa using e
 exact ⟨_,rfl,_,_,_,_,_,_,_,_,_,_,_,_,_,hF2.reset,(λh=>by cases h),(λt x _=>⟨rfl,⟨recs,[],⟨-1,_,q0,q1,c0,c1,none,0,hb2,.nil _ _,(λa h=>by cases h),hlt⟩,hr,.inl rfl⟩,g2⟩),.inr ⟨_,_,rfl⟩⟩
theorem nk_ {w:World} {k0 bd:Nat} {p1:Option Addr} {k:Nat} {now:Int} {recs:List (List UInt8)} {part:List UInt8} (hb:dl_ w k0 p1 (some ⟨bd,0,none⟩) (k:Nat) now) (k1:1≤k) (k4:k≤4) (hd:bP_ w bd (str (logL recs++part))) (hn:NoF w bd) (hp:rh_ part) (hrep:RepE recs) (hne:k0≠bd) {K:Value→World→Prop}
  (hK:∀w' a bn p log,dl_ w' k0 (some ⟨a,0,none⟩) (some ⟨bd,0,none⟩) (k:Nat) now→w'.heap[a]? = some (.cells #[.pointer p,.slice (some ⟨bn,0,none⟩) (List.replicate k rp0).length (List.replicate k rp0).length] T.bg_ (0,0))→w'.heap[bn]? = some (.cells ((List.replicate k rp0).flatMap rpC).toArray T.aM_ (0,0))→bP_ w' bd log→Chg (λj=>j=k0∨j=bd) w w'→K .nilIface w') :
  aa_ PR F.ck_ ⟨[.pointer (some ⟨k0,0,none⟩)]⟩ w K:=by
 obtain ⟨⟨last,com,man,hr⟩,hl⟩:=hrep
 have hF:=dl_.fs (S:=λj=>j=k0∨j=bd) hb (.inl rfl)
 have hk0:=aj_ hb
 refine lB_ k0 p1 _ (k:Nat) now (λj=>j=k0∨j=bd) K w hF ⟨.inl rfl,trivial⟩ λw0 hF0=>?_
 have g0:Chg (· = k0) w w0:=hF0.stp.mono λj _ e=>by simpa using e
 have s0:=g0.size
 refine qU_ (N:=0) (each:=10) (hd.keep g0 λe=>hne e.symm) (hn.keep g0 λe=>hne e.symm) hp hr hl (Nat.zero_le _) (Nat.zero_le _) (by decide) (by decide) λw1 x g1 hx hn1 x1 x2 x3 x4 x5 x6 x7 _ _=>⟨_,_,rfl,hF0.reset.step g1 (λy hy e=>by simp at hy;subst hy;exact hne e) (λj _ e=>.inr e),λ_=>?_,(λt x h=>by cases h),.inl rfl⟩
 have hF1:=hF0.reset.step g1 (λy hy e=>by simp at hy;subst hy;exact hne e) (λj _ e=>.inr e)
 have s1:=g1.size
 refine sd_ hx (Nat.zero_le _) (λw2 s k' ek _ _ g2 hA hsx hreps ha hbn=>⟨_,_,rfl,hF1.after g2,λw3 hF3=>?_⟩) λhbad=>absurd hbad (by omega)
 obtain rfl:k'=k:=by omega
 have g3:Chg (· = k0) w2 w3:=hF3.stp.mono λj _ e=>by simpa using e
 have hblk:=g3.get hA.blk (λe=>by have e':s.a=k0:=e;omega)
 have hrow:=g3.get hA.row (λe=>by have e':s.bn=k0:=e;omega)
 unfold actC at hblk
 rw [hreps] at hblk hrow
 have hds:bP_ w3 bd (str (logL x.recs)):=by
  have:=hx.jrn.dsk
  rw [x1] at this
  exact (this.keep g2 id).keep g3 λe=>hne e.symm
 exact hK w3 s.a s.bn _ _ (hF3.blk 0 rfl) hblk hrow hds hF3.chg
theorem nn_ {n:Nat} {w:World} {k0 bd a k:Nat} {now:Int} (h:cJ_ n w k0 bd a (k:Nat) now) (k1:1≤k) (k4:k≤4) (hne:k0≠bd) {pq:Option Addr} {pl pc:Nat} {bits:List Bool} (hb:Sl w pq (bits.map .bool)) (hpl:pl=bits.length) (hpc:pl≤pc) {m:Int} {K:Value→World→Prop}
  (hK:∀w' a bn p log,dl_ w' k0 (some ⟨a,0,none⟩) (some ⟨bd,0,none⟩) (k:Nat) now→w'.heap[a]? = some (.cells #[.pointer p,.slice (some ⟨bn,0,none⟩) (List.replicate k rp0).length (List.replicate k rp0).length] T.bg_ (0,0))→w'.heap[bn]? = some (.cells ((List.replicate k rp0).flatMap rpC).toArray T.aM_ (0,0))→bP_ w' bd log→Chg (λj=>j=k0∨j=bd) w w'→K .nilIface w') :
  aa_ PR F.df_ ⟨[.pointer (some ⟨k0,0,none⟩),.agg #[.slice pq pl pc,.int .i64 m]]⟩ w K:=by
 obtain ⟨hblk,⟨recs,ws,hd,hrep,hws⟩,hlt⟩:=h
 have hF:=dl_.fs (S:=λj=>j=k0∨j=bd) hblk (.inl rfl)
 have hk0:=aj_ hblk
 obtain ⟨xs,hxs,hx1,hx2⟩:∃xs:List (List UInt8),ws=xs.map str∧xs.length≤1∧∀x∈xs,∃r,x=a3_ crcN r∧RepE (recs++[r]):=by
  rcases hws with rfl | ⟨r,rfl,hr⟩
  ·exact ⟨[],rfl,by decide,λx hx=>by cases hx⟩
  ·exact ⟨[a3_ crcN r],rfl,by simp,λx hx=>by rw [List.mem_singleton.1 hx];exact ⟨r,rfl,hr⟩⟩
 subst hxs
 have hl1:=hrep.2
 have hlx:∀x∈xs,x.length≤1000000:=λx hx=>by
  obtain ⟨r,rfl,⟨_,h2⟩⟩:=hx2 x hx
  rw [bW_,List.length_append] at h2
  omega
 refine oB_ k0 _ _ (k:Nat) now pq pl pc m (λj=>j=k0∨j=bd) K w hF ⟨.inl rfl,trivial⟩ λl0 hl0 w0 hF0=>?_
 have g0:Grow w w0:=hF0.grow
 refine np_ (hd.keep g0 id λ_ e=>e.elim) hx1 (by omega) hlx (hb.grow g0) hpl hpc λw1 part hd1 hn1 g1 hpart=>?_
 have hF1:=hF0.step g1 (λy hy e=>by
  rcases List.mem_cons.1 hy with rfl | hy
  ·exact hne e
  ·simp at hy;subst hy
   obtain ⟨_,_,_,_,_,_,_,_,hbb,_⟩:=hd
   have:=aj_ hbb
   simp only [] at e;omega) (λj _ e=>.inr e)
 refine ⟨rfl,hF1,?_⟩
 have hbk:dl_ w1 k0 _ _ _ _:=hF1.blk 0 rfl
 have fin:∀(recs':List (List UInt8)) (part':List UInt8),logL recs++part=logL recs'++part'→rh_ part'→RepE recs'→aa_ PR F.ck_ #[.pointer (some ⟨k0,0,none⟩)] w1 (λv1 w2=>∃v2,v1=v2∧∃q0 q1 n0 n1,Fs (λj=>j=k0∨j=bd) w [⟨k0,#[.pointer q0,.pointer q1,.int .i64 n0,.int .i64 n1],T.aL_,true⟩] w2∧K v2 w2):=λrecs' part' e ht hr=>by
  rw [e] at hd1
  exact nk_ hbk k1 k4 hd1 hn1 ht hr hne λw2 a' bn p log h1 h2 h3 h4 g2=>⟨_,rfl,_,_,_,_,(hF1.sub (List.Sublist.cons_cons _ (List.nil_sublist _))).mod (S':=λj=>j=k0∨j=bd) g2 h1 (λz hz=>by cases hz) (λ_ _ e=>e),hK w2 a' bn p log h1 h2 h3 h4 (hF1.chg.trans g2 λ_ _ e=>e)⟩
 rcases hpart with rfl | ⟨x,j,rfl,rfl⟩
 ·exact fin recs [] rfl ⟨by decide,lp_⟩ hrep
 ·obtain ⟨r,rfl,hr⟩:=hx2 x List.mem_cons_self
  have hr60:r.length≤60000:=by
   obtain ⟨⟨_,_,_,h1,_⟩,_⟩:=hr
   exact h1 r (List.mem_append_right _ List.mem_cons_self)
  have hsl:=a9_ crcN r
  by_cases hj:j<(a3_ crcN r).length
  ·exact fin recs _ rfl ⟨by rw [List.length_take];omega,ot_ hr60 hj⟩ hrep
  ·refine fin (recs++[r]) [] ?_ ⟨by decide,lp_⟩ hr
   rw [List.take_of_length_le (by omega),List.append_nil,bW_]
theorem sv_ {w:World} {K:Value→World→Prop} (hK:K E1 w):aa_ PR F.cl_ ⟨[.pointer none]⟩ w K:=kn_ S0 K w ⟨λ_=>hK,λa h=>by cases h⟩
theorem uj_ {n:Int} {z:ByteArray} {w:World} {K:Value→World→Prop} (hK:K (.tuple #[.slice none 0 0,E1]) w):aa_ PR F.cm_ ⟨[.pointer none,.int .i64 n,.string z]⟩ w K:=
 kq_ n z S0 K w (sv_ ⟨_,rfl,.init _ w,(λh=>by cases h),(λt x _=>hK),.inr ⟨_,_,rfl⟩⟩)
theorem ui_ {w:World} {K:Value→World→Prop} (hK:K (.tuple #[.slice none 0 0,E1]) w):aa_ PR F.bA_ ⟨[.pointer none]⟩ w K:=ko_ S0 K w ⟨λ_=>hK,λa h=>by cases h⟩
theorem q3_ {n:Int} {y:Option Addr} {l c:Nat} {w:World} {K:Value→World→Prop} (hK:K (.tuple #[.int .i64 0,E1]) w):aa_ PR F.a6_ ⟨[.pointer none,.int .i64 n,.slice y l c]⟩ w K:=
 g8_ n y l c S0 K w (sv_ ⟨_,rfl,.init _ w,(λh=>by cases h),(λt x _=>hK),.inr ⟨_,_,rfl⟩⟩)
theorem tk_ {y:Option Addr} {l c:Nat} {m:Int} {w:World} {K:Value→World→Prop} (hK:∀w',Grow w w'→K E1 w'):aa_ PR F.df_ ⟨[.pointer none,.agg #[.slice y l c,.int .i64 m]]⟩ w K:=
 iT_ y l c m S0 K w λl0 hl0=>⟨λ_ w0 hF0=>hK w0 hF0.gr,λa h=>by cases h⟩
theorem uk_ {w:World} {K:Value→World→Prop} (hK:K (.bool true) w):aa_ PR F.bB_ ⟨[.pointer none]⟩ w K:=kr_ S0 K w ⟨λ_=>hK,λa h=>by cases h⟩
theorem uS_ {w:World} {K:Value→World→Prop} (hK:K (.int .i64 0) w):aa_ PR F.d5_ ⟨[.pointer none]⟩ w K:=lE_ S0 K w ⟨λ_=>hK,λa h=>by cases h⟩
theorem oX_ {w:World} {K:Value→World→Prop} (hK:K (.int .i64 0) w):aa_ PR F.eF_ ⟨[.pointer none]⟩ w K:=gk_ S0 K w ⟨λ_=>hK,λa h=>by cases h⟩
theorem ul_ {w:World} {K:Value→World→Prop} (hK:K (.pointer none) w):aa_ PR F.dS_ ⟨[.pointer none]⟩ w K:=ks_ S0 K w ⟨λ_=>hK,λa h=>by cases h⟩
end Go.Vc
namespace Go.Vc
open Go Go.RowKit Go.Extern.Stop Go.Stop Go.Extern Go.Proofs
end Go.Vc
namespace Go.Vc
open Go Go.MapKept
theorem ErrT.grow {w w':World} (h:ErrT w) (g:Grow w w'):ErrT w':=by
 unfold ErrT at h ⊢
 unfold World.cell? at h ⊢
 cases hb:w.heap[0]? with
 | none=>simp [hb] at h
 | some o=>
  have:=Grow.get g hb
  simp only [this]
  simp only [hb] at h
  exact h
theorem mm_ {w:World} {c:Int} {K:Value→World→Prop} (h:ErrT w) (hc:0≤c∧c≤100) (hK:∀w',Grow w w'→K (.int .i64 c) w'):aa_ PR F.kJ_ #[.iface T.al_ (.int .i64 c)] w K:=iF_ h (by omega) (by omega) hK
end Go.Vc
namespace Go.Vc
open Go Go.MapKept
theorem rf_:PR.underlying T.ap_=some (.slice T.aw_):=by kernel_rfl
theorem sl_:∃i z,PR.info? T.aw_=some i∧i.size=11∧i.bytes=152∧i.zero=some z∧z.cells.size=11:=by
 have h:(match PR.info? T.aw_ with | some i=>i.size == 11 && i.bytes == 152 && (match i.zero with | some z=>z.cells.size == 11 | _=>false) | none=>false)=true:=by kernel_rfl
 split at h
 ·rename_i i hi
  simp only [Bool.and_eq_true,beq_iff_eq] at h
  have h2:=h.2
  split at h2
  ·rename_i z hz
   exact ⟨i,z,hi,h.1.1,h.1.2,hz,by simpa using h2⟩
  ·cases h2
 ·cases h
theorem sV_ {o:OpH} {y:Value} (hy:y∈opHC o):oneC y=true:=by
 simp only [opHC,List.mem_cons,List.not_mem_nil,or_false] at hy
 rcases hy with rfl | rfl | rfl | rfl | rfl | rfl | rfl | rfl | rfl | rfl | rfl <;> rfl
theorem tN_ {ops:List OpH} {y:Value} (hy:y∈ops.flatMap opHC):oneC y=true:=by
 obtain ⟨o,_,ho⟩:=List.mem_flatMap.1 hy
 exact sV_ ho
theorem m__ {w:World} {l1:Nat} (hb:w.heap[l1]? = some (.cells #[] T.aw_ (0,0))) {y:Option Addr} {cy:Nat} {ops:List OpH} (hs:Sl w y (ops.flatMap opHC)) (hl:ops.length≤1048576) {K:Value→World→Prop}
  (hK:∀w' q c,Own T.aw_ 11 w' q c (ops.flatMap opHC)→ops.length≤c→Grow w w'→(∀a,q=some a→w.heap.size≤a.block∨c=0)→K (.slice q ops.length c) w') :
  rn PR (Builtin.append_ #[T.ap_,T.ap_] T.ap_ #[.slice (some ⟨l1,0,none⟩) 0 0,.slice y ops.length cy]) K w:=by
 obtain ⟨i,z,hi,hk,hby,hz,hzs⟩:=sl_
 refine app0 (k:=11) (by_:=152) rf_ ⟨i,hi,hk,hby,hz⟩ hzs (by decide) (by decide) (.inr ⟨l1,0,#[],rfl,hb,rfl,by decide,by simp,λi hi=>by simp at hi⟩) hs (by rw [bd_ dB_]) (λy hy=>tN_ hy) (by omega) λq c w' ho hc g hq=>hK w' q c ho hc g λa ha=>?_
 rcases hq a ha with h | h
 ·right
  cases h
  rcases ho with ⟨h,_⟩ | ⟨b,o,cs,h,hb',hsz,_⟩
  ·rw [h] at ha;cases ha
  ·rw [h] at ha
   cases ha
   rw [Grow.get g hb] at hb'
   injection hb' with hb'
   injection hb' with e1
   subst e1
   simp at hsz;omega
 ·exact .inl h
theorem m9_ {w:World} {q z:Option Addr} {c cz M:Nat} {ops:List OpH} {o:OpH} (ho:Own T.aw_ 11 w q c (ops.flatMap opHC)) (hlc:ops.length≤c) (hq:∀a,q=some a→M≤a.block∨c=0) (hs:Sl w z (opHC o)) (hl:ops.length≤1048576) {K:Value→World→Prop}
  (hK:∀w' q' c',Sl w' q' ((ops++[o]).flatMap opHC)→Chg (λk=>aR_ q k∧M≤k) w w'→K (.slice q' (ops.length+1) c') w') :
  rn PR (Builtin.append_ #[T.ap_,T.ap_] T.ap_ #[.slice q ops.length c,.slice z 1 cz]) K w:=by
 obtain ⟨i,zz,hi,hk,hby,hz,hzs⟩:=sl_
 by_cases hc:c=0
 ·subst hc
  have h0:ops=[]:=List.eq_nil_of_length_eq_zero (by omega)
  subst h0
  refine app0 (k:=11) (by_:=152) (l2:=1) rf_ ⟨i,hi,hk,hby,hz⟩ hzs (by decide) (by decide) ho hs (by rw [dB_]) (λy hy=>sV_ hy) (by decide) λq' c' w' ho' _ g _=>?_
  have:=hK w' q' c' (by show Sl w' q' (opHC o++[]);rw [List.append_nil];exact ho'.sl) (g.mono λ_ _ e=>e.elim)
  exact this
 ·refine cr_ <| eo_ (i:=i) (k:=11) (by_:=152) rf_ rf_ hi hz hk hby hzs (by decide) ho (by rw [bd_ dB_]) hlc hs (by rw [dB_]) (λy hy=>sV_ hy) (by omega) λq' c' w' ho' _ g _=>?_
  refine hK w' q' c' (by rw [List.flatMap_append];show Sl w' q' (_++(opHC o++[]));rw [List.append_nil];exact ho'.sl) (g.mono λk _ e=>⟨e,?_⟩)
  obtain ⟨a,ha,e⟩:=e
  rcases hq a ha with h | h
  ·omega
  ·exact absurd h hc
end Go.Vc
namespace Go.Vc
open Go Go.MapKept
def HSt (N:Nat) (w:World) (k0 bd r now:Nat):Prop:=
 (∃s:ActS,br_ N w k0 s now∧s.x.bd=bd∧s.reps.length=r∧∀x∈s.reps,0≤x.done)∨(∃n a,cJ_ n w k0 bd a (r:Nat) (now:Nat)∧N≤k0∧N≤bd)
theorem HSt.keep {N:Nat} {w w':World} {k0 bd r now:Nat} (h:HSt N w k0 bd r now) (g:Grow w w'):HSt N w' k0 bd r now:=by
 rcases h with ⟨s,h1,h2⟩ | ⟨n,a,h1,h2⟩
 ·exact .inl ⟨s,h1.grow g,h2⟩
 ·exact .inr ⟨n,a,⟨Grow.get g h1.blk,h1.brn.keep g id λ_ e=>e.elim,h1.lt⟩,h2⟩
theorem cJ_.blkB {n:Nat} {w:World} {k0 bd a:Nat} {r now:Int} (h:cJ_ n w k0 bd a r now):dl_ w k0 (some ⟨a,0,none⟩) (some ⟨bd,0,none⟩) r now:=h.blk
theorem HSt.b {N:Nat} {w:World} {k0 bd r now:Nat} (h:HSt N w k0 bd r now):∃a,dl_ w k0 (some ⟨a,0,none⟩) (some ⟨bd,0,none⟩) (r:Nat) (now:Nat):=by
 rcases h with ⟨s,h1,rfl,rfl,_⟩ | ⟨n,a,h1,_⟩
 ·exact ⟨s.a,h1.blk⟩
 ·exact ⟨a,h1.blk⟩
theorem HSt.lt {N:Nat} {w:World} {k0 bd r now:Nat} (h:HSt N w k0 bd r now):k0<w.heap.size:=by
 obtain ⟨a,h⟩:=h.b;exact aj_ h
theorem HSt.bdlt {N:Nat} {w:World} {k0 bd r now:Nat} (h:HSt N w k0 bd r now):bd<w.heap.size:=by
 rcases h with ⟨s,h1,rfl,_⟩ | ⟨n,a,h1,_⟩
 ·exact h1.act.pub.lt _ (.inr (.inr (.inr (.inl rfl))))
 ·obtain ⟨recs,ws,⟨_,_,_,_,_,_,_,_,hb,_⟩,_⟩:=h1.brn
  exact aj_ hb
theorem HSt.sO_ {N:Nat} {w wc:World} {k0 bd r now:Nat} (h:HSt N w k0 bd r now) (gc:Grow w wc) (hN:N≤w.heap.size) {nodes:Int} {l:List (Int × Int)} {y:Option Addr} {n cy:Nat} (hs:Sl wc y (encE l)) (hl:n=l.length) (hn:n≤100000) {K:Value→World→Prop}
  (hK:∀w' v e,HSt N w' k0 bd r now→Chg (λk=>N≤k∧k<w.heap.size) wc w'→K (.tuple #[.int .i64 v,e]) w'):aa_ PR F.a6_ ⟨[.pointer (some ⟨k0,0,none⟩),.int .i64 nodes,.slice y n cy]⟩ wc K:=by
 have hcN:N≤wc.heap.size:=Nat.le_trans hN gc.size
 rcases h with ⟨s,h1,rfl,rfl,hd⟩ | ⟨n',a,h1,h2⟩
 ·have hreg:∀k,k<wc.heap.size→s.x.reg k→N≤k∧k<w.heap.size:=λk hk e=>⟨h1.act.pub.lo k e,h1.act.pub.lt k e⟩
  exact fW_ (h1.grow gc) hcN hs hl hn (λw' x' mn list _ _ _ hH g _ _ _ _ _ hbd _=>hK w' _ _ (.inl ⟨_,hH,hbd,rfl,hd⟩) (g.mono hreg))
   (λw' n _ hD g=>hK w' _ _ (.inr ⟨n,_,hD,h1.lo,h1.act.pub.lo _ (.inr (.inr (.inr (.inl rfl))))⟩) (g.mono hreg))
   λw' v c g _ _ _=>hK w' _ _ (.inl ⟨s,h1.grow (gc.trans g),rfl,rfl,hd⟩) (g.mono λ_ _ e=>e.elim)
 ·have hk:HSt N wc k0 bd r now:=HSt.keep (.inr ⟨n',a,h1,h2⟩) gc
  exact eN_ ⟨Grow.get gc h1.blk,h1.brn.keep gc id (λ_ e=>e.elim),h1.lt⟩ (hK wc _ _ hk (.refl _ _))
theorem HSt.tick {N:Nat} {w wc:World} {k0 bd r now:Nat} (h:HSt N w k0 bd r now) (gc:Grow w wc) (hne:k0≠bd) (hN:N≤w.heap.size) (hn:now+1≤1000000) {K:Value→World→Prop}
  (hK:∀w' q l c e,HSt N w' k0 bd r (now+1)→Chg (λk=>N≤k∧k<w.heap.size) wc w'→K (.tuple #[.slice q l c,e]) w'):aa_ PR F.bA_ ⟨[.pointer (some ⟨k0,0,none⟩)]⟩ wc K:=by
 have hcN:N≤wc.heap.size:=Nat.le_trans hN gc.size
 have hk0:=h.lt
 rcases h with ⟨s,h1,rfl,rfl,hd⟩ | ⟨n',a,h1,h2⟩
 ·have hreg:∀k,k<wc.heap.size→(k=k0∨s.x.reg k)→N≤k∧k<w.heap.size:=λk hk e=>⟨e.elim (λe=>by rw [e];exact h1.lo) (h1.act.pub.lo k),e.elim (λe=>by rw [e];exact hk0) (h1.act.pub.lt k)⟩
  exact jG_ (h1.grow gc) hcN hn hd (λw' q c _ hH g _ _=>hK w' _ _ _ _ (.inl ⟨s,hH,rfl,rfl,hd⟩) (g.mono λk hk e=>hreg k hk (.inl e)))
   (λw' s' q c _ hH g a1 a2 a3 a4 a5 a6 a7 a8 a9 a10 _ _ _ a11 _=>hK w' _ _ _ _ (.inl ⟨s',hH,a11,by rw [a2],by rw [a2];exact hd⟩) (g.mono hreg))
   (λw' n _ hD g=>hK w' _ _ _ _ (.inr ⟨n,_,hD,h1.lo,h1.act.pub.lo _ (.inr (.inr (.inr (.inl rfl))))⟩) (g.mono hreg))
   λw' _ _ hH g=>hK w' _ _ _ _ (.inl ⟨s,hH,rfl,rfl,hd⟩) (g.mono λk hk e=>hreg k hk (.inl e))
 ·have e:IntKind.wrap .i64 ((now:Int)+1)=((now+1:Nat):Int):=by rw [w64 (by omega) (by omega)];rfl
  exact iE_ ⟨Grow.get gc h1.blk,h1.brn.keep gc id (λ_ e=>e.elim),h1.lt⟩ hne λw' h' g=>hK w' _ _ _ _ (.inr ⟨n',a,by rw [e] at h';exact h',h2⟩) (g.mono λk hk e=>⟨by omega,by omega⟩)
theorem HSt.fuse {N:Nat} {w wc:World} {k0 bd r now:Nat} (h:HSt N w k0 bd r now) (gc:Grow w wc) (hne:k0≠bd) {m:Int} (hm:m≤9223372036854775807) {K:Value→World→Prop}
  (hK:∀w',HSt N w' k0 bd r now→Chg (λk=>N≤k∧k<w.heap.size) wc w'→K (.tuple #[]) w'):aa_ PR F.ba_ ⟨[.pointer (some ⟨bd,0,none⟩),.int .i64 m]⟩ wc K:=by
 have hbl:=h.bdlt
 rcases h with ⟨s,h1,rfl,rfl,hd⟩ | ⟨n',a,h1,h2⟩
 ·have hlo:=h1.act.pub.lo _ (show s.x.reg s.x.bd from .inr (.inr (.inr (.inl rfl))))
  have h1':=h1.grow gc
  exact o0_ h1'.act.pub.jrn.dsk hm λw' hd' g=>hK w' (.inl ⟨s,h1'.fuse g hd',rfl,rfl,hd⟩) (g.mono λk hk e=>⟨by omega,by omega⟩)
 ·exact o1_ (h1.brn.keep gc id λ_ e=>e.elim) λw' hb g=>hK w' (.inr ⟨n',a,⟨g.get (Grow.get gc h1.blk) hne,hb,h1.lt⟩,h2⟩) (g.mono λk hk e=>⟨by omega,by omega⟩)
theorem jo_ (now:Int) (k:Nat):∀n,bs_ (List.replicate k rp0) now n=[]
 | 0=>rfl
 | n+1=>by
  rw [bs_,jo_ now k n]
  by_cases h:n<k
  ·rw [List.getElem?_replicate,if_pos h];rfl
  ·rw [List.getElem?_replicate,if_neg h];rfl
end Go.Vc
