/-
  A part of the proof of the statement HeadAgainCardSaid, in Lean: Ms4, Ms5, Ms6, MirH1, Pr1, MirP13, Ac1, Pr2, Pr3, Ac2. By an AI agent.
-/
import Derived.Test.YtoopcoeonbkedaaGreatDoorP11
import Derived.Test.YtoopcoeonbkedaaGreatDoorP02
import Derived.Test.YtoopcoeonbkedaaGreatDoorP07
import Derived.Test.YtoopcoeonbkedaaGreatDoorP10
import Derived.Test.YtoopcoeonbkedaaGreatDoorP08
set_option linter.unusedSimpArgs false
set_option linter.unusedVariables false
set_option maxRecDepth 100000
namespace Go.Vc
open Go
theorem oS_ {l:List UInt8} (hl:l.length≤1099511627776) {w:World} {K:Value→World→Prop}
  (h1:∀w' t,Grow w w'→h1_ crcN l=.inl t→K (.tuple #[.string (str t),.nilIface]) w')
  (h2:∀w' c v,Grow w w'→h1_ crcN l=.inr c→isEC c v→K (.tuple #[.string ⟨#[]⟩,v]) w'):aa_ PR F.gv_ ⟨[.string (str l)]⟩ w K:=by
 have h0:Fs S0 w [] w:=Fr.init _ w
 refine gv_ (str l) S0 K w (mg_ (at_:=0) hl (by omega) (λw1 e g1 he hn=>⟨_,_,_,rfl,h0.after g1,(λh=>?_),(λt x h=>?_),.inr ?_⟩) λw1 t n g1 hn=>⟨_,_,_,rfl,h0.after g1,(λ_=>⟨λh=>?_,λh=>?_⟩),(λt x h=>by cases h),.inl rfl⟩)
 ·obtain ⟨t,x,rfl⟩:=he.err;cases h
 ·rw [List.drop_zero] at he hn
  exact h2 w1 _ _ g1 (by unfold h1_;rw [hn]) he
 ·obtain ⟨t,x,rfl⟩:=he.err;exact ⟨_,_,rfl⟩
 ·rw [List.drop_zero] at hn
  rw [af_] at h
  exact ⟨rfl,h2 w1 4 _ g1 (by unfold h1_;rw [hn];simp only [];rw [if_pos (by omega)]) (F_ec _ 4)⟩
 ·rw [List.drop_zero] at hn
  rw [af_] at h
  exact h1 w1 t g1 (by unfold h1_;rw [hn];simp only [];rw [if_neg (by omega)])
theorem rC_ {S:List UInt8→Nat} {l t:List UInt8} (h:h1_ S l=.inl t):t.length≤60000:=by
 unfold h1_ at h
 split at h
 ·cases h
 ·rename_i t' n hn
  split at h
  ·cases h
  ·cases h;exact (nM_ hn).2.2.2
theorem ot_ {t:List UInt8} (hl:t.length≤1099511627776) {w:World} {K:Value→World→Prop} (hK:∀v,errV (rs0 t).2 v→K (.tuple #[.int .i64 (lF_ t),.int .i64 ((rs0 t).1:Int),v]) w):aa_ PR F.cG_ ⟨[.string (str t),.int .i64 0,.int .i64 1]⟩ w K:=by
 have h0:Fs S0 w [] w:=Fr.init _ w
 cases t with
 | nil=>
  refine cG_ (str []) 0 1 S0 K w (f0_ (λ_=>⟨true,rfl,(λ_=>⟨h0,λh=>by omega,λ_=>⟨λh=>by omega,λ_=>⟨λh=>?_,λh=>?_⟩⟩⟩),λh=>by cases h⟩) λh=>absurd ⟨by omega,by omega⟩ h)
  ·exact cx_ (n:=((ByteArray.size (str []):Nat):Int)) (v:=E 3) rfl ⟨_,rfl,h0,hK _ (F_ec _ 3)⟩
  ·exact absurd (by decide) h
 | cons a r=>
  have hs:(str (a :: r)).size=r.length+1:=by rw [af_];rfl
  refine gD_ (s:=str (a :: r)) (at_:=0) (k:=1) (by omega) (by omega) (by rw [hs];omega) (by rw [hs];simp only [List.length_cons] at hl;omega) ?_
  rw [be_]
  exact hK .nilIface rfl
def mg1 (t:List UInt8):=rsS t (rs0 t)
def mg2 (t:List UInt8):=rsS t (mg1 t).2
def mg3 (t:List UInt8):=rsT t (mg2 t).2
def mg4 (t:List UInt8):=rsS t (mg3 t).2
def mgP (t:List UInt8):=rsTs t (mg4 t).1 (mg4 t).2
def mgM (t:List UInt8):MsgL:=⟨lF_ t,(mg1 t).1,(mg2 t).1,(mg3 t).1,(mgP t).1⟩
open Classical in
theorem gr_ (t:List UInt8):mW_ t=if (mg4 t).1>20 then .inr 4 else match (mgP t).2.2 with
 | some c=>.inr c
 | none=>if (mgP t).2.1<t.length then .inr 4 else if e6_ (mgM t) then .inl (mgM t) else .inr 4:=rfl
theorem ig_ {S:List UInt8→Nat} {l t:List UInt8} (h:h1_ S l=.inl t):eM_ S l=mW_ t:=by unfold eM_;rw [h]
theorem tO_ (t:List UInt8):(rs0 t).1≤t.length:=by
 unfold rs0
 split
 ·simp
 ·rename_i h
  have:t.length≠0:=λe=>h (List.eq_nil_of_length_eq_zero e)
  simp only [];omega
def msg0:Value:=.agg #[.int .i64 0,.int .i64 0,.int .i64 0,.string ⟨#[]⟩,.slice none 0 0]
theorem nj_ {l:List UInt8} (hl:l.length≤1099511627776) {w:World} {K:Value→World→Prop}
  (h1:∀w' m q c,Grow w w'→eM_ crcN l=.inl m→Own T.string 1 w' q c (m.proof.map sv8')→m.proof.length≤c→Off (λj=>j<w.heap.size) q→K (.tuple #[fM_ m q c,.nilIface]) w')
  (h2:∀w' c v,Grow w w'→eM_ crcN l=.inr c→isEC c v→K (.tuple #[msg0,v]) w'):aa_ PR F.mQ_ ⟨[.string (str l)]⟩ w K:=by
 refine mQ_ (str l) S0 K w λl0 hl0 w0 hF0=>oS_ hl (λw1 t g1 ho=>?_) λw1 c v g1 ho hv=>?_
 rotate_left
 ·have hF1:=hF0.after g1
  refine ⟨_,_,rfl,hF1,(λh=>by obtain ⟨t,x,rfl⟩:=hv.err;cases h),(λt x h w2 hF2=>h2 w2 c _ hF2.gr (by unfold eM_;rw [ho]) hv),.inr ?_⟩
  obtain ⟨t,x,rfl⟩:=hv.err
  exact ⟨_,_,rfl⟩
 have hF1:=hF0.after g1
 have htl:=rC_ ho
 have hle:t.length≤1099511627776:=by omega
 have eG:=ig_ ho
 rw [gr_] at eG
 refine ⟨_,_,rfl,hF1,(λ_=>ot_ hle λv0 hv0=>?_),(λt x h=>by cases h),.inl rfl⟩
 have hv0c:oneC v0=true:=by
  rcases hv0.cases with rfl | ⟨a,b,rfl⟩ <;> rfl
 refine ⟨_,_,_,rfl,hF1,hv0c,λl1 hl1 w3 hF3=>?_⟩
 have e0:=tO_ t
 refine fa_ hle e0 hv0 (hF3.blk 1 rfl) λw4 v4 hv4 hb4 g4=>⟨_,rfl,_,_,_,hF3.c8_ 1 rfl _ rfl g4 hb4,?_⟩
 have hF4:=hF3.c8_ 1 rfl _ rfl g4 hb4
 have e1:(mg1 t).2.1≤t.length:=(nE_ e0).2
 refine fa_ hle e1 hv4 (hF4.blk 1 rfl) λw5 v5 hv5 hb5 g5=>⟨_,rfl,_,_,_,hF4.c8_ 1 rfl _ rfl g5 hb5,?_⟩
 have hF5:=hF4.c8_ 1 rfl _ rfl g5 hb5
 have e2:(mg2 t).2.1≤t.length:=(nE_ e1).2
 refine jv_ hle e2 hv5 (hF5.blk 1 rfl) λw6 v6 hv6 hb6 g6=>⟨_,rfl,_,_,_,hF5.c8_ 1 rfl _ rfl g6 hb6,?_⟩
 have hF6:=hF5.c8_ 1 rfl _ rfl g6 hb6
 have e3:(mg3 t).2.1≤t.length:=sw_ e2
 intro l2 hl2 w7 hF7
 refine fa_ hle e3 hv6 (hF7.blk 1 rfl) λw8 v8 hv8 hb8 g8=>⟨_,rfl,_,_,_,hF7.c8_ 1 rfl _ rfl g8 hb8,?_⟩
 have hF8:=hF7.c8_ 1 rfl _ rfl g8 hb8
 have e4:(mg4 t).2.1≤t.length:=(nE_ e3).2
 have b0:l0<w8.heap.size:=hF8.lt _ (List.mem_of_getElem? (i:=0) rfl)
 have b1:l1<w8.heap.size:=hF8.lt _ (List.mem_of_getElem? (i:=1) rfl)
 have b2:l2<w8.heap.size:=hF8.lt _ (List.mem_of_getElem? (i:=2) rfl)
 have hw8:w.heap.size≤w8.heap.size:=hF8.gr.size
 have h4:(mg4 t).1<72057594037927936:=(nE_ e3).1
 have en:(rsS t (mg3 t).2).1=(mg4 t).1:=rfl
 refine ⟨λhgt=>?_,λhngt=>?_⟩
 ·rw [en] at hgt
  rw [if_pos (by omega)] at eG
  refine fK_ 0 S0 _ w8 ⟨rfl,_,rfl,hF8.reset.sub (by simp),λw9 hF9=>h2 w9 4 _ hF9.gr eG (F_ec _ 4)⟩
 rw [en] at hngt
 rw [if_neg (by omega)] at eG
 rw [en]
 refine ⟨λi s' p er kd vr ii tx q l c mm w'=>∃k:Nat,i=k∧k≤(mg4 t).1∧mm=(mg4 t).1 - k∧s'=str t∧p=((rsTs t k (mg4 t).2).2.1:Nat)∧errV (rsTs t k (mg4 t).2).2.2 er∧kd=lF_ t∧vr=((mg1 t).1:Nat)∧ii=((mg2 t).1:Nat)∧tx=str (mg3 t).1∧
  Own T.string 1 w' q c ((rsTs t k (mg4 t).2).1.map sv8')∧l=k∧l≤c∧Off (λj=>j<w8.heap.size) q∧w8.heap.size≤w'.heap.size,⟨_,0,rfl,by omega,rfl,rfl,rfl,hv8,rfl,rfl,rfl,rfl,.nil _ _ _,rfl,Nat.le_refl _,.none _,Nat.le_refl _⟩,?_⟩
 rintro i s' p er kd vr ii tx q l c D mm w9 ⟨k,rfl,hk,rfl,rfl,rfl,her,rfl,rfl,rfl,rfl,ho9,rfl,hlc,hof,hsz⟩ hF9
 have hat:(rsTs t l (mg4 t).2).2.1≤t.length:=pz_ l e4
 have hln:=nD_ t l (mg4 t).2
 refine ⟨λhlt w10 hF10=>?_,λhge=>?_⟩
 ·refine ⟨λw'=>w'.cell? ⟨l2,4,none⟩=some (.slice q l c),hF10.ld 2 4 rfl rfl rfl,ad_.2 ⟨_,_,_,λw' h=>h,?_⟩⟩
  refine jv_ hle hat her (hF10.blk 1 rfl) λw11 v11 hv11 hb11 g11=>?_
  have hF11:=hF10.c8_ 1 rfl _ rfl g11 hb11
  refine ⟨_,rfl,_,_,_,hF11,hF11.ld 2 4 rfl rfl rfl,λl3 hl3 w12 hF12=>⟨hF12.ld 2 4 rfl rfl rfl,?_⟩⟩
  have g11':Chg (· = l1) w10 w11:=g11
  have ho11:=(ho9.grow hF10.grow).keep g11' λa ha e=>by have:=hof a ha;have e':a.block=l1:=e;omega
  have g12:Grow w11 w12:=hF12.grow
  have s911:w9.heap.size≤w11.heap.size:=Nat.le_trans hF10.grow.size g11'.size
  refine gA_ (ho11.grow g12) hln.symm hlc (ys:=[(rsT t (rsTs t l (mg4 t).2).2).1]) (hF12.sl 3 rfl) rfl (by omega) λq2 c2 w13 ho13 hc13 g13 hq13=>?_
  have hF13:=hF12.app2 g13 w8.heap.size w11.heap.size hof (λa ha=>ho11.lt a ha) (λy hy=>by
   simp only [List.mem_cons,List.not_mem_nil,or_false] at hy
   rcases hy with rfl | rfl | rfl | rfl
   ·exact .inl b0
   ·exact .inl b1
   ·exact .inl b2
   ·exact .inr hl3) hw8
  have hof2:Off (λj=>j<w8.heap.size) q2:=hof.next hq13 (by have:=g12.size;omega)
  refine ⟨_,_,_,rfl,hF13,hF13.ld 2 4 rfl rfl rfl,λw14 hF14=>⟨(mg4 t).1 - (l+1),by omega,l+1,by rw [w64 (by omega) (by omega)];rfl,by omega,rfl,rfl,rfl,hv11,rfl,rfl,rfl,rfl,?_,rfl,hc13,hof2,?_⟩⟩
  ·exact ho13.keep hF14.stp λa ha e=>by
    have:=hof2 a ha
    have e':a.block=l2:=by simpa using e
    omega
  ·have:=hF14.stp.size;have:=g13.size;have:=g12.size;omega
 ·have hkl:l=(mg4 t).1:=by omega
  subst hkl
  have eP:rsTs t (mg4 t).1 (mg4 t).2=mgP t:=rfl
  rw [eP] at her hat ho9 hln
  refine ⟨λhn=>?_,λx v he w10 hF10=>?_,her.cases⟩
  ·have he2:(mgP t).2.2=none:=by
    cases h:(mgP t).2.2 with
    | none=>rfl
    | some c=>
     rw [h] at her
     obtain ⟨t,x,e⟩:=isEC.err her
     rw [hn] at e;cases e
   rw [he2] at eG
   simp only [] at eG
   refine ⟨λhlt=>?_,λhnlt=>?_⟩
   ·rw [eP,af_] at hlt
    rw [if_pos (by omega)] at eG
    exact fK_ _ S0 _ w9 ⟨rfl,_,rfl,hF9.reset.sub (by simp),λw10 hF10=>h2 w10 4 _ hF10.gr eG (F_ec _ 4)⟩
   ·rw [eP,af_] at hnlt
    rw [if_neg (by omega)] at eG
    have hln':(mgM t).proof.length=(mg4 t).1:=hln
    have eC:(Value.agg #[.int .i64 (lF_ t),.int .i64 ((mg1 t).1:Nat),.int .i64 ((mg2 t).1:Nat),.string (str (mg3 t).1),.slice q (mg4 t).1 c])=fM_ (mgM t) q c:=by unfold fM_;rw [hln'];rfl
    refine Eq.mpr (congrArg (λv=>aa_ PR F.fL_ ⟨[v]⟩ w9 _) eC) ?_
    refine fY_ (m:=mgM t) (q:=q) (c:=c) (w:=w9) ho9.sl (λok w10 g10=>⟨_,rfl,(hF9.after g10).sub (by simp),(λ_ w11 hF11=>?_),(λt x h=>by cases h),.inl rfl⟩) λno w10 g10=>⟨_,rfl,(hF9.after g10).sub (by simp),(λh=>by cases h),(λx0 v he=>fK_ 0 S0 _ w10 ⟨rfl,_,rfl,(hF9.after g10).sub (by simp),λw11 hF11=>?_⟩),.inr ⟨_,_,rfl⟩⟩
    ·rw [if_pos ok] at eG
     have ho11:Own T.string 1 w11 q c ((mgM t).proof.map sv8'):=(ho9.grow g10).keep hF11.stp λa ha e=>by
      have:=hof a ha
      have e':a.block=l0:=by simpa using e
      omega
     have:=h1 w11 (mgM t) q c hF11.gr eG ho11 (by omega) (hof.mono hw8)
     rw [← eC] at this
     exact this
    ·rw [if_neg no] at eG
     exact h2 w11 4 _ hF11.gr eG (F_ec _ 4)
  ·cases h:(mgP t).2.2 with
   | none=>rw [h] at her;have e:er=.nilIface:=her;rw [e] at he;cases he
   | some c'=>
    rw [h] at her eG
    exact ⟨λ_=>True,trivial,λw11 hF11=>⟨trivial,h2 w11 c' _ hF11.gr eG her⟩⟩
end Go.Vc
namespace Go.Vc
open Go
theorem hT_ {k v i:Int} {t n:Nat} (h:jr_ k v i t n=true):1≤k∧k≤11:=by
 unfold jr_ at h
 by_cases h1:1≤k∧k≤11
 ·exact h1
 ·rw [if_neg (by omega),if_neg (by omega),if_neg (by omega),if_neg (by omega),if_neg (by omega),if_neg (by omega)] at h
  cases h
theorem eZ_:∀ {ps:List (List UInt8)},(∀p∈ps,p.length=32)→(ao_ ps).length≤40*ps.length
 | [],_=>by simp [ao_]
 | p :: ps,h=>by
  have h1:=eZ_ (ps:=ps) λq hq=>h q (by simp [hq])
  have h2:=h p (by simp)
  have h3:=al_ (n:=p.length) (by omega)
  unfold ao_ at h1 ⊢
  simp only [List.map_cons,List.flatten_cons,List.length_append,List.length_cons] at h1 ⊢
  omega
theorem ds_ (m:MsgL):a3_ m=[UInt8.ofNat m.kind.toNat]++ac_ m.ver.toNat++ac_ m.i.toNat++ao_ [m.text]++ac_ m.proof.length++ao_ m.proof:=by
 unfold a3_ ao_
 rw [List.flatMap_def]
 simp
theorem e6_.text {m:MsgL} (h:e6_ m):(ao_ [m.text]).length≤5008:=by
 have h1:=h.2.2.1
 have h3:=al_ (n:=m.text.length) (by omega)
 unfold ao_
 simp only [List.map_cons,List.map_nil,List.flatten_cons,List.flatten_nil,List.length_append,List.length_nil]
 omega
theorem bc_ {a b c d e f:List UInt8} (hs:(a++b++c++d++e++f).length≤60000) {w:World} {K:Value→World→Prop} (hK:∀w',Grow w w'→K (.tuple #[.string (str (bg_ crcN (a++b++c++d++e++f))),.nilIface]) w'):aa_ PR F.ew_ ⟨[.string (str a++str b++str c++str d++str e++str f)]⟩ w K:=by
 simp only [ai_]
 exact mb_ hs hK
theorem n8_ {m:MsgL} {q:Option Addr} {c:Nat} {w:World} (hs:Sl w q (m.proof.map sv8')) {K:Value→World→Prop}
  (h1:e6_ m→∀w',Grow w w'→K (.tuple #[.string (str (bg_ crcN (a3_ m))),.nilIface]) w')
  (h2:¬e6_ m→∀w',Grow w w'→K (.tuple #[.string ⟨#[]⟩,.iface T.am_ (.int .i64 4)]) w'):aa_ PR F.ko_ ⟨[fM_ m q c]⟩ w K:=by
 refine ko_ m.kind m.ver m.i (str m.text) q m.proof.length c S0 K w λl0 hl0 w0 hF0=>?_
 refine fY_ (hs.grow hF0.gr) (λok w1 g1=>⟨_,rfl,hF0.after g1,(λ_=>?_),(λt x h=>by cases h),.inl rfl⟩) λno w1 g1=>⟨_,rfl,hF0.after g1,(λh=>by cases h),(λx v h=>?_),.inr ⟨_,_,rfl⟩⟩
 rotate_left
 ·have:=h2 no w1 (hF0.after g1).gr
  cases h
  exact this
 have hF1:=hF0.after g1
 have fin:=h1 ok
 rw [ds_] at fin
 obtain ⟨⟨v0,v1⟩,⟨i0,i1⟩,ht,hn,hp,hpt⟩:=ok
 have hT:=e6_.text ⟨⟨v0,v1⟩,⟨i0,i1⟩,ht,hn,hp,hpt⟩
 have hP:=eZ_ hp
 have hk:=hT_ hpt
 have l1:=al_ (n:=m.ver.toNat) (by omega)
 have l2:=al_ (n:=m.i.toNat) (by omega)
 have l3:=al_ (n:=m.proof.length) (by omega)
 have ek:IntKind.wrap .u8 m.kind=((UInt8.ofNat m.kind.toNat).toNat:Int):=by
  rw [show (UInt8.ofNat m.kind.toNat).toNat=m.kind.toNat%256 from rfl]
  rw [wrap_u8];omega
 rw [ek]
 refine a0_ ⟨v0,by omega⟩ λw2 g2=>⟨_,_,rfl,hF1.after g2,?_⟩
 have hF2:=hF1.after g2
 refine a0_ ⟨i0,by omega⟩ λw3 g3=>⟨_,_,rfl,hF2.after g3,?_⟩
 have hF3:=hF2.after g3
 refine a0_ ⟨by omega,by omega⟩ λw4 g4=>⟨_,_,rfl,hF3.after g4,?_⟩
 rw [Int.toNat_natCast]
 have hF:=hF3.after g4
 refine ⟨?_,?_⟩
 ·intro l1 hl1
  refine ⟨?_,?_⟩
  ·intro w' hF
   have hgr:=hF.gr
   refine a8_ (bs:=[UInt8.ofNat m.kind.toNat]) (hF.sl 1 rfl) rfl ⟨_,rfl,hF.reset,?_⟩
   replace hF:=hF.reset
   refine ⟨by simp only [ai_,af_,List.length_append,List.length_cons,List.length_nil];omega,by simp only [ai_,af_,List.length_append,List.length_cons,List.length_nil];omega,?_⟩
   intro l2 hl2
   intro w' hF
   have hgr:=hF.gr
   refine au_ (xs:=[m.text]) (hF.sl 2 rfl) rfl (by simp) (by omega) λw9 g9=>⟨_,rfl,hF.after g9,?_⟩
   replace hF:=hF.after g9
   refine ⟨by simp only [ai_,af_,List.length_append,List.length_cons,List.length_nil];omega,by simp only [ai_,af_,List.length_append,List.length_cons,List.length_nil];omega,?_⟩
   refine au_ (xs:=m.proof) (hs.grow hF.gr) rfl (by omega) (by omega) λw9 g9=>⟨_,rfl,hF.after g9,?_⟩
   replace hF:=hF.after g9
   refine ⟨by simp only [ai_,af_,List.length_append,List.length_cons,List.length_nil];omega,?_⟩
   refine bc_ (by simp only [List.length_append,List.length_cons,List.length_nil];omega) λw9 g9=>⟨_,_,rfl,hF.after g9,?_⟩
   exact fin _ (hF.after g9).gr
  ·intro l3 hl3
   refine ⟨?_,?_⟩
   ·intro w' hF
    have hgr:=hF.gr
    refine a8_ (bs:=[UInt8.ofNat m.kind.toNat]) (hF.sl 1 rfl) rfl ⟨_,rfl,hF.reset,?_⟩
    replace hF:=hF.reset
    refine ⟨by simp only [ai_,af_,List.length_append,List.length_cons,List.length_nil];omega,by simp only [ai_,af_,List.length_append,List.length_cons,List.length_nil];omega,?_⟩
    refine au_ (xs:=[m.text]) (hF.sl 2 rfl) rfl (by simp) (by omega) λw9 g9=>⟨_,rfl,hF.after g9,?_⟩
    replace hF:=hF.after g9
    refine ⟨by simp only [ai_,af_,List.length_append,List.length_cons,List.length_nil];omega,by simp only [ai_,af_,List.length_append,List.length_cons,List.length_nil];omega,?_⟩
    refine au_ (xs:=m.proof) (hs.grow hF.gr) rfl (by omega) (by omega) λw9 g9=>⟨_,rfl,hF.after g9,?_⟩
    replace hF:=hF.after g9
    refine ⟨by simp only [ai_,af_,List.length_append,List.length_cons,List.length_nil];omega,?_⟩
    refine bc_ (by simp only [List.length_append,List.length_cons,List.length_nil];omega) λw9 g9=>⟨_,_,rfl,hF.after g9,?_⟩
    exact fin _ (hF.after g9).gr
   ·intro w' hF
    have hgr:=hF.gr
    refine au_ (xs:=[m.text]) (hF.sl 2 rfl) rfl (by simp) (by omega) λw9 g9=>⟨_,rfl,hF.after g9,?_⟩
    replace hF:=hF.after g9
    refine ⟨?_,?_⟩
    ·refine a8_ (bs:=[UInt8.ofNat m.kind.toNat]) (hF.sl 1 rfl) rfl ⟨_,rfl,hF.reset,?_⟩
     replace hF:=hF.reset
     refine ⟨by simp only [ai_,af_,List.length_append,List.length_cons,List.length_nil];omega,by simp only [ai_,af_,List.length_append,List.length_cons,List.length_nil];omega,by simp only [ai_,af_,List.length_append,List.length_cons,List.length_nil];omega,by simp only [ai_,af_,List.length_append,List.length_cons,List.length_nil];omega,?_⟩
     refine au_ (xs:=m.proof) (hs.grow hF.gr) rfl (by omega) (by omega) λw9 g9=>⟨_,rfl,hF.after g9,?_⟩
     replace hF:=hF.after g9
     refine ⟨by simp only [ai_,af_,List.length_append,List.length_cons,List.length_nil];omega,?_⟩
     refine bc_ (by simp only [List.length_append,List.length_cons,List.length_nil];omega) λw9 g9=>⟨_,_,rfl,hF.after g9,?_⟩
     exact fin _ (hF.after g9).gr
    ·refine au_ (xs:=m.proof) (hs.grow hF.gr) rfl (by omega) (by omega) λw9 g9=>⟨_,rfl,hF.after g9,?_⟩
     replace hF:=hF.after g9
     refine a8_ (bs:=[UInt8.ofNat m.kind.toNat]) (hF.sl 1 rfl) rfl ⟨_,rfl,hF.reset,?_⟩
     replace hF:=hF.reset
     refine ⟨by simp only [ai_,af_,List.length_append,List.length_cons,List.length_nil];omega,by simp only [ai_,af_,List.length_append,List.length_cons,List.length_nil];omega,by simp only [ai_,af_,List.length_append,List.length_cons,List.length_nil];omega,by simp only [ai_,af_,List.length_append,List.length_cons,List.length_nil];omega,by simp only [ai_,af_,List.length_append,List.length_cons,List.length_nil];omega,?_⟩
     refine bc_ (by simp only [List.length_append,List.length_cons,List.length_nil];omega) λw9 g9=>⟨_,_,rfl,hF.after g9,?_⟩
     exact fin _ (hF.after g9).gr
 ·intro l4 hl4
  refine ⟨?_,?_⟩
  ·intro l5 hl5
   refine ⟨?_,?_⟩
   ·intro w' hF
    have hgr:=hF.gr
    refine a8_ (bs:=[UInt8.ofNat m.kind.toNat]) (hF.sl 2 rfl) rfl ⟨_,rfl,hF.reset,?_⟩
    replace hF:=hF.reset
    refine ⟨by simp only [ai_,af_,List.length_append,List.length_cons,List.length_nil];omega,by simp only [ai_,af_,List.length_append,List.length_cons,List.length_nil];omega,?_⟩
    refine au_ (xs:=[m.text]) (hF.sl 1 rfl) rfl (by simp) (by omega) λw9 g9=>⟨_,rfl,hF.after g9,?_⟩
    replace hF:=hF.after g9
    refine ⟨by simp only [ai_,af_,List.length_append,List.length_cons,List.length_nil];omega,by simp only [ai_,af_,List.length_append,List.length_cons,List.length_nil];omega,?_⟩
    refine au_ (xs:=m.proof) (hs.grow hF.gr) rfl (by omega) (by omega) λw9 g9=>⟨_,rfl,hF.after g9,?_⟩
    replace hF:=hF.after g9
    refine ⟨by simp only [ai_,af_,List.length_append,List.length_cons,List.length_nil];omega,?_⟩
    refine bc_ (by simp only [List.length_append,List.length_cons,List.length_nil];omega) λw9 g9=>⟨_,_,rfl,hF.after g9,?_⟩
    exact fin _ (hF.after g9).gr
   ·intro w' hF
    have hgr:=hF.gr
    refine au_ (xs:=[m.text]) (hF.sl 1 rfl) rfl (by simp) (by omega) λw9 g9=>⟨_,rfl,hF.after g9,?_⟩
    replace hF:=hF.after g9
    refine ⟨?_,?_⟩
    ·refine a8_ (bs:=[UInt8.ofNat m.kind.toNat]) (hF.sl 2 rfl) rfl ⟨_,rfl,hF.reset,?_⟩
     replace hF:=hF.reset
     refine ⟨by simp only [ai_,af_,List.length_append,List.length_cons,List.length_nil];omega,by simp only [ai_,af_,List.length_append,List.length_cons,List.length_nil];omega,by simp only [ai_,af_,List.length_append,List.length_cons,List.length_nil];omega,by simp only [ai_,af_,List.length_append,List.length_cons,List.length_nil];omega,?_⟩
     refine au_ (xs:=m.proof) (hs.grow hF.gr) rfl (by omega) (by omega) λw9 g9=>⟨_,rfl,hF.after g9,?_⟩
     replace hF:=hF.after g9
     refine ⟨by simp only [ai_,af_,List.length_append,List.length_cons,List.length_nil];omega,?_⟩
     refine bc_ (by simp only [List.length_append,List.length_cons,List.length_nil];omega) λw9 g9=>⟨_,_,rfl,hF.after g9,?_⟩
     exact fin _ (hF.after g9).gr
    ·refine au_ (xs:=m.proof) (hs.grow hF.gr) rfl (by omega) (by omega) λw9 g9=>⟨_,rfl,hF.after g9,?_⟩
     replace hF:=hF.after g9
     refine a8_ (bs:=[UInt8.ofNat m.kind.toNat]) (hF.sl 2 rfl) rfl ⟨_,rfl,hF.reset,?_⟩
     replace hF:=hF.reset
     refine ⟨by simp only [ai_,af_,List.length_append,List.length_cons,List.length_nil];omega,by simp only [ai_,af_,List.length_append,List.length_cons,List.length_nil];omega,by simp only [ai_,af_,List.length_append,List.length_cons,List.length_nil];omega,by simp only [ai_,af_,List.length_append,List.length_cons,List.length_nil];omega,by simp only [ai_,af_,List.length_append,List.length_cons,List.length_nil];omega,?_⟩
     refine bc_ (by simp only [List.length_append,List.length_cons,List.length_nil];omega) λw9 g9=>⟨_,_,rfl,hF.after g9,?_⟩
     exact fin _ (hF.after g9).gr
  ·intro w' hF
   have hgr:=hF.gr
   refine au_ (xs:=[m.text]) (hF.sl 1 rfl) rfl (by simp) (by omega) λw9 g9=>⟨_,rfl,hF.after g9,?_⟩
   replace hF:=hF.after g9
   refine ⟨?_,?_⟩
   ·intro l6 hl6
    refine ⟨?_,?_⟩
    ·intro w' hF
     have hgr:=hF.gr
     refine a8_ (bs:=[UInt8.ofNat m.kind.toNat]) (hF.sl 2 rfl) rfl ⟨_,rfl,hF.reset,?_⟩
     replace hF:=hF.reset
     refine ⟨by simp only [ai_,af_,List.length_append,List.length_cons,List.length_nil];omega,by simp only [ai_,af_,List.length_append,List.length_cons,List.length_nil];omega,by simp only [ai_,af_,List.length_append,List.length_cons,List.length_nil];omega,by simp only [ai_,af_,List.length_append,List.length_cons,List.length_nil];omega,?_⟩
     refine au_ (xs:=m.proof) (hs.grow hF.gr) rfl (by omega) (by omega) λw9 g9=>⟨_,rfl,hF.after g9,?_⟩
     replace hF:=hF.after g9
     refine ⟨by simp only [ai_,af_,List.length_append,List.length_cons,List.length_nil];omega,?_⟩
     refine bc_ (by simp only [List.length_append,List.length_cons,List.length_nil];omega) λw9 g9=>⟨_,_,rfl,hF.after g9,?_⟩
     exact fin _ (hF.after g9).gr
    ·intro w' hF
     have hgr:=hF.gr
     refine au_ (xs:=m.proof) (hs.grow hF.gr) rfl (by omega) (by omega) λw9 g9=>⟨_,rfl,hF.after g9,?_⟩
     replace hF:=hF.after g9
     refine a8_ (bs:=[UInt8.ofNat m.kind.toNat]) (hF.sl 2 rfl) rfl ⟨_,rfl,hF.reset,?_⟩
     replace hF:=hF.reset
     refine ⟨by simp only [ai_,af_,List.length_append,List.length_cons,List.length_nil];omega,by simp only [ai_,af_,List.length_append,List.length_cons,List.length_nil];omega,by simp only [ai_,af_,List.length_append,List.length_cons,List.length_nil];omega,by simp only [ai_,af_,List.length_append,List.length_cons,List.length_nil];omega,by simp only [ai_,af_,List.length_append,List.length_cons,List.length_nil];omega,?_⟩
     refine bc_ (by simp only [List.length_append,List.length_cons,List.length_nil];omega) λw9 g9=>⟨_,_,rfl,hF.after g9,?_⟩
     exact fin _ (hF.after g9).gr
   ·refine au_ (xs:=m.proof) (hs.grow hF.gr) rfl (by omega) (by omega) λw9 g9=>⟨_,rfl,hF.after g9,?_⟩
    replace hF:=hF.after g9
    intro l7 hl7
    intro w' hF
    have hgr:=hF.gr
    refine a8_ (bs:=[UInt8.ofNat m.kind.toNat]) (hF.sl 2 rfl) rfl ⟨_,rfl,hF.reset,?_⟩
    replace hF:=hF.reset
    refine ⟨by simp only [ai_,af_,List.length_append,List.length_cons,List.length_nil];omega,by simp only [ai_,af_,List.length_append,List.length_cons,List.length_nil];omega,by simp only [ai_,af_,List.length_append,List.length_cons,List.length_nil];omega,by simp only [ai_,af_,List.length_append,List.length_cons,List.length_nil];omega,by simp only [ai_,af_,List.length_append,List.length_cons,List.length_nil];omega,?_⟩
    refine bc_ (by simp only [List.length_append,List.length_cons,List.length_nil];omega) λw9 g9=>⟨_,_,rfl,hF.after g9,?_⟩
    exact fin _ (hF.after g9).gr
end Go.Vc
namespace Go.Vc
open Go
theorem sv_ {l r:List UInt8} {a n:Nat} (hn:n≤72057594037927935) (h:l.drop a=ac_ n++r):∃b,shL l a=.inl (n,b)∧l.drop b=r:=by
 refine ⟨a+(ac_ n).length,?_,?_⟩
 ·unfold shL;rw [h,b7_ hn]
 ·rw [← List.drop_drop,h,List.drop_left' rfl]
theorem nv_ {l t r:List UInt8} {a:Nat} (hn:t.length≤1099511627776) (h:l.drop a=ac_ t.length++(t++r)):∃b,txL l a=.inl (t,b)∧l.drop b=r:=by
 obtain ⟨b,h1,h2⟩:=sv_ (n:=t.length) (by omega) h
 refine ⟨b+t.length,?_,?_⟩
 ·unfold txL;rw [h1]
  have:=congrArg List.length h2
  rw [List.length_drop,List.length_append] at this
  simp only []
  rw [if_neg (by omega),h2,List.take_left' rfl]
 ·rw [← List.drop_drop,h2,List.drop_left' rfl]
theorem pA_ {l r:List UInt8} {a:Nat} {ps:List (List UInt8)} (hp:∀p∈ps,p.length≤1099511627776) (h:l.drop a=ao_ ps++r):∀k,k≤ps.length→∃b,rsTs l k (a,none)=(ps.take k,(b,none))∧l.drop b=ao_ (ps.drop k)++r
 | 0,_=>⟨a,rfl,h⟩
 | k+1,hk=>by
  obtain ⟨b,h1,h2⟩:=pA_ hp h k (by omega)
  have hk':k<ps.length:=by omega
  rw [List.drop_eq_getElem_cons hk'] at h2
  have h3:l.drop b=ac_ ps[k].length++(ps[k]++(ao_ (ps.drop (k+1))++r)):=by
   rw [h2];unfold ao_;rw [List.map_cons,List.flatten_cons,List.append_assoc,List.append_assoc]
  obtain ⟨c,h4,h5⟩:=nv_ (hp _ (List.getElem_mem hk')) h3
  refine ⟨c,?_,h5⟩
  unfold rsTs
  rw [h1]
  have:rsT l (b,none)=(ps[k],(c,none)):=by unfold rsT;simp only [];rw [h4]
  simp only []
  rw [this,aV_ hk']
theorem pB_ {l r:List UInt8} {a n:Nat} (hn:n≤72057594037927935) (h:l.drop a=ac_ n++r):∃b,rsS l (a,none)=(n,(b,none))∧l.drop b=r:=by
 obtain ⟨b,h1,h2⟩:=sv_ hn h
 exact ⟨b,by unfold rsS;simp only [];rw [h1],h2⟩
theorem tN_ {l t r:List UInt8} {a:Nat} (hn:t.length≤1099511627776) (h:l.drop a=ac_ t.length++(t++r)):∃b,rsT l (a,none)=(t,(b,none))∧l.drop b=r:=by
 obtain ⟨b,h1,h2⟩:=nv_ hn h
 exact ⟨b,by unfold rsT;simp only [];rw [h1],h2⟩
theorem fn_ {m:MsgL} (h:e6_ m):(a3_ m).length≤60000:=by
 obtain ⟨⟨v0,v1⟩,⟨i0,i1⟩,ht,hn,hp,hpt⟩:=h
 have hT:=e6_.text ⟨⟨v0,v1⟩,⟨i0,i1⟩,ht,hn,hp,hpt⟩
 have hP:=eZ_ hp
 have l1:=al_ (n:=m.ver.toNat) (by omega)
 have l2:=al_ (n:=m.i.toNat) (by omega)
 have l3:=al_ (n:=m.proof.length) (by omega)
 rw [ds_]
 simp only [List.length_append,List.length_cons,List.length_nil];omega
theorem b8_ {m:MsgL} (h:e6_ m):eM_ crcN (bg_ crcN (a3_ m))=.inl m:=by
 have hb:=fn_ h
 have ho:h1_ crcN (bg_ crcN (a3_ m))=.inl (a3_ m):=by
  have:=ju_ m6_ hb []
  rw [List.append_nil] at this
  unfold h1_
  rw [this]
  simp only []
  rw [if_neg (by unfold bg_;simp only [List.length_append,aN_];omega)]
 have hm:=h
 obtain ⟨⟨v0,v1⟩,⟨i0,i1⟩,ht,hn,hp,hpt⟩:=h
 have hk:=hT_ hpt
 rw [ig_ ho,gr_]
 have e1:(a3_ m).drop 1=ac_ m.ver.toNat++(ac_ m.i.toNat++(ac_ m.text.length++(m.text++(ac_ m.proof.length++(ao_ m.proof++[]))))):=by
  rw [ds_];unfold ao_;simp
 have r0:rs0 (a3_ m)=(1,none):=by rw [ds_];unfold rs0;simp
 have ek:lF_ (a3_ m)=m.kind:=by
  rw [ds_];unfold lF_
  simp only [List.cons_append,List.headD_cons]
  rw [show (UInt8.ofNat m.kind.toNat).toNat=m.kind.toNat%256 from rfl];omega
 obtain ⟨b1,x1,d1⟩:=pB_ (by omega) e1
 obtain ⟨b2,x2,d2⟩:=pB_ (by omega) d1
 obtain ⟨b3,x3,d3⟩:=tN_ (by omega) d2
 obtain ⟨b4,x4,d4⟩:=pB_ (by omega) d3
 obtain ⟨b5,x5,d5⟩:=pA_ (λp hp'=>by have:=hp p hp';omega) d4 m.proof.length (Nat.le_refl _)
 have y1:mg1 (a3_ m)=(m.ver.toNat,(b1,none)):=by unfold mg1;rw [r0,x1]
 have y2:mg2 (a3_ m)=(m.i.toNat,(b2,none)):=by unfold mg2;rw [y1,x2]
 have y3:mg3 (a3_ m)=(m.text,(b3,none)):=by unfold mg3;rw [y2,x3]
 have y4:mg4 (a3_ m)=(m.proof.length,(b4,none)):=by unfold mg4;rw [y3,x4]
 have y5:mgP (a3_ m)=(m.proof,(b5,none)):=by unfold mgP;rw [y4,x5,List.take_length]
 have eM:mgM (a3_ m)=m:=by
  unfold mgM
  rw [ek,y1,y2,y3,y5]
  simp only []
  rw [Int.toNat_of_nonneg v0,Int.toNat_of_nonneg i0]
 rw [y4,y5,eM]
 simp only []
 rw [if_neg (by omega),if_neg,if_pos hm]
 rw [List.drop_length] at d5
 have:=congrArg List.length d5
 rw [List.length_drop] at this
 simp [ao_] at this
 omega
end Go.Vc
namespace Go.Vc
open Go
theorem lA_ (k0:Nat) (y1:Option Addr) (ly1:Nat) (cy1:Nat) (g2:Option Nat) (m3:Int) (S:SP) (K:KP) (w:World) (hF:Fs S w [⟨k0,#[.slice y1 ly1 cy1,.map g2],183,true⟩] w) (hS:S k0∧True) (h:(m3<0→K (.tuple #[.slice none 0 0,.iface 80 (Iv 2)]) w)∧(¬(m3<0)→(m3≥(ly1:Int)→K (.tuple #[.slice none 0 0,.iface 80 (Iv 2)]) w)∧(¬(m3≥(ly1:Int))→∀l0,w.heap.size≤l0→∀w0,Fr S w w [l0] [⟨k0,#[.slice y1 ly1 cy1,.map g2],183,true⟩,⟨l0,#[Iv 0,Iv (ly1:Int)],185,true⟩] w0→let B0:Blk:=⟨k0,#[.slice y1 ly1 cy1,.map g2],183,true⟩;∃I0:(Option Addr)→Nat→Nat→(Option Addr)→Nat→World→Prop,(∃l1,I0 none 0 0 (some (⟨l0,0,none⟩)) l1 w0)∧∀q0 l2 l3 q1,∀D0:Nat→Value,∀l4 w1,I0 q0 l2 l3 q1 l4 w1→Fs S w [B0] w1→Dr q1 λa0=>Dr (some (Addr.add a0 1)) λa1=>∃n0,World.cell? w1 a1=some (Iv n0)∧(n0>1→Dr q1 λa2=>Dr (some (Addr.add a2 1)) λa3=>∃n1,World.cell? w1 a3=some (Iv n1)∧aa_ PR 94 #[Iv n1] w1 λv0 w2=>∃n2,v0=Iv n2∧Fs S w [B0] w2∧∀w3,Fr S w w2 [] [B0] w3→∃I1:World→Prop,I1 w3∧Dr q1 λa4=>Dr (some (Addr.add a4 0)) λa5=>∃n3,(∀w4,I1 w4→World.cell? w4 a5=some (Iv n3))∧Dr q1 λa6=>Dr (some (Addr.add a6 0)) λa7=>∃n4,(∀w5,I1 w5→World.cell? w5 a7=some (Iv n4))∧Dr q1 λa8=>Dr (some (Addr.add a8 1)) λa9=>∃n5,(∀w6,I1 w6→World.cell? w6 a9=some (Iv n5))∧(∀l5,w3.heap.size≤l5→∀w7,Fr S w w3 [] [B0,⟨l5,#[Iv 0,Iv 0],185,true⟩] w7→I1 w7∧∀l6,w7.heap.size≤l6→∀w8,Fr S w w7 [] [B0,⟨l5,#[Iv 0,Iv 0],185,true⟩,⟨l6,#[Iv 0,Iv 0],185,true⟩] w8→I1 w8∧∀w9,Fr S w w8 [l5] [B0,⟨l5,#[Iv n3,Iv n2],185,true⟩,⟨l6,#[Iv 0,Iv 0],185,true⟩] w9→let B1:Blk:=⟨l5,#[Iv n3,Iv n2],185,true⟩;I1 w9∧Dr q1 λa10=>∀w10,Fr S w w9 [l6] [B0,B1,⟨l6,#[Iv (IntKind.wrap .i64 (n4+n2)),Iv (IntKind.wrap .i64 (n5 - n2))],185,true⟩] w10→let B2:Blk:=⟨l6,#[Iv (IntKind.wrap .i64 (n4+n2)),Iv (IntKind.wrap .i64 (n5 - n2))],185,true⟩;Dr (some (Addr.add a10 0)) λa11=>∃n6,World.cell? w10 a11=some (Iv n6)∧(m3<IntKind.wrap .i64 (n6+n2)→∀w11,Fr S w w10 [] [B0,B1,B2] w11→∃I2:World→Prop,I2 w11∧rn PR (Instr.lookup 181 (.map g2) (.agg #[Iv (IntKind.wrap .i64 (n4+n2)),Iv (IntKind.wrap .i64 (n5 - n2))]) false) (λv1 w12=>∃s0,v1=.string s0∧Fs S w [B0,B1,B2] w12∧I2 w12∧∀l7,w12.heap.size≤l7→∀w13,Fr S w w12 [] [B0,B1,B2,⟨l7,#[.string s0],9,true⟩] w13→I2 w13∧rn PR (Builtin.append_ #[24,24] 24 #[.slice (some (⟨l7,0,none⟩)) 1 1,.slice q0 l2 l3]) (λv2 w14=>∃q2 l8 l9,v2=.slice q2 l8 l9∧Fs S w [B0,B1,B2,⟨l7,#[.string s0],9,true⟩] w14∧I2 w14∧Dr q1 λa12=>StC w14 (Addr.add a12 0) (Iv n3) λw15=>StC w15 (Addr.add a12 1) (Iv n2) λw16=>Fs S w [B0,B1,B2,⟨l7,#[.string s0],9,true⟩] w16∧Dr q1 λa13=>∃n7,World.cell? w16 (Addr.add a13 0)=some (Iv n7)∧∃n8,World.cell? w16 (Addr.add a13 1)=some (Iv n8)∧∀l10,w16.heap.size≤l10→∀w17,Fr S w w16 [l10] [B0,⟨l10,#[Iv n7,Iv n8],185,true⟩] w17→∃l11,l11<l4∧I0 q2 l8 l9 (some (⟨l10,0,none⟩)) l11 w17) w13) w11)∧(¬(m3<IntKind.wrap .i64 (n6+n2))→∀w18,Fr S w w10 [] [B0,B1,B2] w18→∃I3:World→Prop,I3 w18∧rn PR (Instr.lookup 181 (.map g2) (.agg #[Iv n3,Iv n2]) false) (λv3 w19=>∃s1,v3=.string s1∧Fs S w [B0,B1,B2] w19∧I3 w19∧∀l12,w19.heap.size≤l12→∀w20,Fr S w w19 [] [B0,B1,B2,⟨l12,#[.string s1],9,true⟩] w20→I3 w20∧rn PR (Builtin.append_ #[24,24] 24 #[.slice (some (⟨l12,0,none⟩)) 1 1,.slice q0 l2 l3]) (λv4 w21=>∃q3 l13 l14,v4=.slice q3 l13 l14∧Fs S w [B0,B1,B2,⟨l12,#[.string s1],9,true⟩] w21∧I3 w21∧Dr q1 λa14=>StC w21 (Addr.add a14 0) (Iv (IntKind.wrap .i64 (n4+n2))) λw22=>StC w22 (Addr.add a14 1) (Iv (IntKind.wrap .i64 (n5 - n2))) λw23=>Fs S w [B0,B1,B2,⟨l12,#[.string s1],9,true⟩] w23∧Dr q1 λa15=>∃n9,World.cell? w23 (Addr.add a15 0)=some (Iv n9)∧∃n10,World.cell? w23 (Addr.add a15 1)=some (Iv n10)∧∀l15,w23.heap.size≤l15→∀w24,Fr S w w23 [l15] [B0,⟨l15,#[Iv n9,Iv n10],185,true⟩] w24→∃l16,l16<l4∧I0 q3 l13 l14 (some (⟨l15,0,none⟩)) l16 w24) w20) w18))∧∀l17,w3.heap.size≤l17→∀w25,Fr S w w3 [] [B0,⟨l17,#[Iv 0,Iv 0],185,true⟩] w25→I1 w25∧∀l18,w25.heap.size≤l18→∀w26,Fr S w w25 [] [B0,⟨l17,#[Iv 0,Iv 0],185,true⟩,⟨l18,#[Iv 0,Iv 0],185,true⟩] w26→I1 w26∧∀w27,Fr S w w26 [l18] [B0,⟨l17,#[Iv 0,Iv 0],185,true⟩,⟨l18,#[Iv n3,Iv n2],185,true⟩] w27→let B3:Blk:=⟨l18,#[Iv n3,Iv n2],185,true⟩;I1 w27∧Dr q1 λa16=>∀w28,Fr S w w27 [l17] [B0,⟨l17,#[Iv (IntKind.wrap .i64 (n4+n2)),Iv (IntKind.wrap .i64 (n5 - n2))],185,true⟩,B3] w28→let B4:Blk:=⟨l17,#[Iv (IntKind.wrap .i64 (n4+n2)),Iv (IntKind.wrap .i64 (n5 - n2))],185,true⟩;Dr (some (Addr.add a16 0)) λa17=>∃n11,World.cell? w28 a17=some (Iv n11)∧(m3<IntKind.wrap .i64 (n11+n2)→∀w29,Fr S w w28 [] [B0,B4,B3] w29→∃I4:World→Prop,I4 w29∧rn PR (Instr.lookup 181 (.map g2) (.agg #[Iv (IntKind.wrap .i64 (n4+n2)),Iv (IntKind.wrap .i64 (n5 - n2))]) false) (λv5 w30=>∃s2,v5=.string s2∧Fs S w [B0,B4,B3] w30∧I4 w30∧∀l19,w30.heap.size≤l19→∀w31,Fr S w w30 [] [B0,B4,B3,⟨l19,#[.string s2],9,true⟩] w31→I4 w31∧rn PR (Builtin.append_ #[24,24] 24 #[.slice (some (⟨l19,0,none⟩)) 1 1,.slice q0 l2 l3]) (λv6 w32=>∃q4 l20 l21,v6=.slice q4 l20 l21∧Fs S w [B0,B4,B3,⟨l19,#[.string s2],9,true⟩] w32∧I4 w32∧Dr q1 λa18=>StC w32 (Addr.add a18 0) (Iv n3) λw33=>StC w33 (Addr.add a18 1) (Iv n2) λw34=>Fs S w [B0,B4,B3,⟨l19,#[.string s2],9,true⟩] w34∧Dr q1 λa19=>∃n12,World.cell? w34 (Addr.add a19 0)=some (Iv n12)∧∃n13,World.cell? w34 (Addr.add a19 1)=some (Iv n13)∧∀l22,w34.heap.size≤l22→∀w35,Fr S w w34 [l22] [B0,⟨l22,#[Iv n12,Iv n13],185,true⟩] w35→∃l23,l23<l4∧I0 q4 l20 l21 (some (⟨l22,0,none⟩)) l23 w35) w31) w29)∧(¬(m3<IntKind.wrap .i64 (n11+n2))→∀w36,Fr S w w28 [] [B0,B4,B3] w36→∃I5:World→Prop,I5 w36∧rn PR (Instr.lookup 181 (.map g2) (.agg #[Iv n3,Iv n2]) false) (λv7 w37=>∃s3,v7=.string s3∧Fs S w [B0,B4,B3] w37∧I5 w37∧∀l24,w37.heap.size≤l24→∀w38,Fr S w w37 [] [B0,B4,B3,⟨l24,#[.string s3],9,true⟩] w38→I5 w38∧rn PR (Builtin.append_ #[24,24] 24 #[.slice (some (⟨l24,0,none⟩)) 1 1,.slice q0 l2 l3]) (λv8 w39=>∃q5 l25 l26,v8=.slice q5 l25 l26∧Fs S w [B0,B4,B3,⟨l24,#[.string s3],9,true⟩] w39∧I5 w39∧Dr q1 λa20=>StC w39 (Addr.add a20 0) (Iv (IntKind.wrap .i64 (n4+n2))) λw40=>StC w40 (Addr.add a20 1) (Iv (IntKind.wrap .i64 (n5 - n2))) λw41=>Fs S w [B0,B4,B3,⟨l24,#[.string s3],9,true⟩] w41∧Dr q1 λa21=>∃n14,World.cell? w41 (Addr.add a21 0)=some (Iv n14)∧∃n15,World.cell? w41 (Addr.add a21 1)=some (Iv n15)∧∀l27,w41.heap.size≤l27→∀w42,Fr S w w41 [l27] [B0,⟨l27,#[Iv n14,Iv n15],185,true⟩] w42→∃l28,l28<l4∧I0 q5 l25 l26 (some (⟨l27,0,none⟩)) l28 w42) w38) w36))∧(¬(n0>1)→K (.tuple #[.slice q0 l2 l3,.nilIface]) w1)))):aa_ PR 53 ⟨[.pointer (some ⟨k0,0,none⟩),.int .i64 m3]⟩ w K:=
 ab_ (okf:=⟨okL,[]⟩) ag_ (args:=[.c (.p 0 k0 true 0),.c (.v (.int .i64 m3))]) (H:=[⟨k0,.l [.v (.slice y1 ly1 cy1),.v (.map g2)],183,true⟩]) (.s .z (.s .z (.s .z (.s (.s (.r ⟨(some [0]),true,[],[]⟩) (.b (.l (some [0,7]) (some [0]) [(6,.c (.sl)),(7,.c (.ptr))] [] (.s .z (.s (.b (.s (.r ⟨(some [0,7]),true,[],[]⟩) (.s (.r ⟨(some [0,7]),true,[],[]⟩) (.s (.s .z (.c (.s (.r ⟨(some [0,7,9,10]),true,[7],[]⟩) .z) .z)) (.r ⟨(some [0,7,9,10]),true,[7],[]⟩))))) (.s .z (.r ⟨(some [0,79]),true,[],[]⟩))))))) .z)))) Go.Proofs.Tryz.func53 rfl ⟨rfl,trivial,trivial⟩ ⟨⟨trivial,⟨trivial,trivial⟩⟩,trivial⟩ hF hS (ae_ (by kernel_rfl) h)
theorem pH_ (k0:Nat) (p1:Option Addr) (m2:Int) (m3:Int) (m4:Int) (g5:Option Nat) (m6:Int) (m7:Int) (S:SP) (K:KP) (w:World) (hF:Fs S w [⟨k0,#[.pointer p1,.int .i64 m2,.int .i64 m3,.int .i64 m4,.map g5],108,true⟩] w) (hS:S k0∧True) (h:∀l0,w.heap.size≤l0→∀w0,Fr S w w [] [⟨k0,#[.pointer p1,Iv m2,Iv m3,Iv m4,.map g5],108,true⟩,⟨l0,#[Iv 0,Iv 0,Iv 0,.string ⟨#[]⟩,.slice none 0 0],26,true⟩] w0→let B1:Blk:=⟨l0,#[Iv 0,Iv 0,Iv 0,.string ⟨#[]⟩,.slice none 0 0],26,true⟩;let B0:Blk:=⟨k0,#[.pointer p1,Iv m2,Iv m3,Iv m4,.map g5],108,true⟩;aa_ PR 51 #[.pointer (some (⟨k0,0,none⟩)),Iv m6] w0 λv0 w1=>∃q0 q1 v1,v0=.tuple #[.agg #[.pointer q0,.pointer q1],v1]∧Fs S w [B0,B1] w1∧∀l1,w1.heap.size≤l1→(v1=.nilIface→∀w2,Fr S w w1 [l1] [B0,B1,⟨l1,#[.pointer q0,.pointer q1],116,true⟩] w2→aa_ PR 53 #[.pointer q1,Iv m7] w2 λv2 w3=>∃q2 l2 l3 v3,v2=.tuple #[.slice q2 l2 l3,v3]∧Fs S w [B0,B1,⟨l1,#[.pointer q0,.pointer q1],116,true⟩] w3∧(v3=.nilIface→Dr q0 λa0=>Dr (some a0) λa1=>Dr (some (Addr.add a1 6)) λa2=>∃q3 l4 l5,World.cell? w3 a2=some (.slice q3 l4 l5)∧Dr q3 λa3=>(0:Int)≤m7∧m7<(l4:Int)∧Dr (some (Addr.add a3 (Int.toNat m7*1))) λa4=>∃s0,World.cell? w3 a4=some (.string s0)∧∀w4,Fr S w w3 [l0] [B0] w4→K (.tuple #[.agg #[Iv 3,Iv m6,Iv m7,.string s0,.slice q2 l2 l3],.nilIface]) w4)∧(∀x0 v4,v3=.iface x0 v4→∀w5,Fr S w w3 [l0] [B0] w5→K (.tuple #[.agg #[Iv 0,Iv 0,Iv 0,.string ⟨#[]⟩,.slice none 0 0],v3]) w5)∧(v3=.nilIface∨∃l6 v5,v3=.iface l6 v5))∧(∀x1 v6,v1=.iface x1 v6→∀w6,Fr S w w1 [l0,l1] [B0] w6→K (.tuple #[.agg #[Iv 0,Iv 0,Iv 0,.string ⟨#[]⟩,.slice none 0 0],v1]) w6)∧(v1=.nilIface∨∃l7 v7,v1=.iface l7 v7)):aa_ PR 27 ⟨[.pointer (some ⟨k0,0,none⟩),.int .i64 m6,.int .i64 m7]⟩ w K:=
 ab_ (okf:=⟨okL,[]⟩) ag_ (args:=[.c (.p 0 k0 true 0),.c (.v (.int .i64 m6)),.c (.v (.int .i64 m7))]) (H:=[⟨k0,.l [.v (.pointer p1),.v (.int .i64 m2),.v (.int .i64 m3),.v (.int .i64 m4),.v (.map g5)],108,true⟩]) (.s (.r ⟨(some [0]),false,[],[]⟩) (.s (.r ⟨(some [0,6]),false,[],[]⟩) (.s (.s .z (.c (.s (.r ⟨(some [6]),false,[],[]⟩) .z) .z)) (.s (.r ⟨(some [6,8]),false,[],[]⟩) (.s (.s .z (.c (.s (.r ⟨(some [6]),false,[],[]⟩) .z) .z)) (.s (.r ⟨(some [6,8]),false,[],[]⟩) .z)))))) Go.Proofs.Tryz.func27 rfl ⟨rfl,trivial,trivial,trivial⟩ ⟨⟨trivial,⟨trivial,⟨trivial,⟨trivial,⟨trivial,trivial⟩⟩⟩⟩⟩,trivial⟩ hF hS (ae_ (by kernel_rfl) h)
theorem kC_ (m0:Int) (S:SP) (K:KP) (w:World) (h:aa_ PR 30 #[Iv 0] w λv0 w0=>∃q0,v0=.pointer q0∧Fs S w [] w0∧∀l0,w0.heap.size≤l0→∀w1,Fr S w w0 [] [⟨l0,#[.pointer none,.pointer q0,Iv m0,Iv 0],56,true⟩] w1→aa_ PR 31 #[.pointer (some (⟨l0,0,none⟩))] w1 λv1 w2=>∃v2,v1=v2∧∃q1 q2 n0 n1,Fs S w [⟨l0,#[.pointer q1,.pointer q2,Iv n0,Iv n1],56,true⟩] w2∧(v2=.nilIface→K (.tuple #[.pointer (some (⟨l0,0,none⟩)),.nilIface]) w2)∧(∀x0 v3,v2=.iface x0 v3→K (.tuple #[.pointer none,v2]) w2)∧(v2=.nilIface∨∃l1 v4,v2=.iface l1 v4)):aa_ PR 7 ⟨[.int .i64 m0]⟩ w K:=
 ab_ (okf:=⟨okL,[]⟩) ag_ (args:=[.c (.v (.int .i64 m0))]) (H:=[]) (.s .z (.s (.r ⟨(some []),false,[],[]⟩) (.s (.s (.r ⟨(some [4]),false,[],[(1,[999])]⟩) .z) .z))) Go.Proofs.Tryz.func7 rfl ⟨trivial,trivial⟩ trivial (Fr.init S w) trivial (ae_ (by kernel_rfl) h)
theorem lJ_ (k0:Nat) (p1:Option Addr) (p2:Option Addr) (m3:Int) (m4:Int) (S:SP) (K:KP) (w:World) (hF:Fs S w [⟨k0,#[.pointer p1,.pointer p2,.int .i64 m3,.int .i64 m4],56,true⟩] w) (hS:S k0∧True) (h:∀w0,Fr S w w [k0] [⟨k0,#[.pointer none,.pointer p2,Iv m3,Iv m4],56,true⟩] w0→aa_ PR 54 #[.pointer p2,Iv 10] w0 λv0 w1=>∃q0 v1,v0=.tuple #[.pointer q0,v1]∧Fs S w [⟨k0,#[.pointer none,.pointer p2,Iv m3,Iv m4],56,true⟩] w1∧(v1=.nilIface→aa_ PR 55 #[.pointer q0,Iv m3] w1 λv2 w2=>∃q1 v3,v2=.tuple #[.pointer q1,v3]∧Fs S w [⟨k0,#[.pointer none,.pointer p2,Iv m3,Iv m4],56,true⟩] w2∧∀w3,Fr S w w2 [k0] [⟨k0,#[.pointer q1,.pointer p2,Iv m3,Iv m4],56,true⟩] w3→K v3 w3)∧(∀x0 v4,v1=.iface x0 v4→K v1 w1)∧(v1=.nilIface∨∃l0 v5,v1=.iface l0 v5)):aa_ PR 31 ⟨[.pointer (some ⟨k0,0,none⟩)]⟩ w K:=
 ab_ (okf:=⟨okL,[]⟩) ag_ (args:=[.c (.p 0 k0 true 0)]) (H:=[⟨k0,.l [.v (.pointer p1),.v (.pointer p2),.v (.int .i64 m3),.v (.int .i64 m4)],56,true⟩]) (.s .z (.s (.r ⟨(some [0]),false,[],[]⟩) (.s (.r ⟨(some [0]),false,[],[]⟩) (.s .z (.s (.r ⟨(some [0]),false,[],[]⟩) .z))))) Go.Proofs.Tryz.func31 rfl ⟨rfl,trivial⟩ ⟨⟨trivial,⟨trivial,⟨trivial,⟨trivial,trivial⟩⟩⟩⟩,trivial⟩ hF hS (ae_ (by kernel_rfl) h)
theorem qk_ (k0:Nat) (p1:Option Addr) (p2:Option Addr) (m3:Int) (m4:Int) (S:SP) (K:KP) (w:World) (hF:Fs S w [⟨k0,#[.pointer p1,.pointer p2,.int .i64 m3,.int .i64 m4],56,true⟩] w) (hS:S k0∧True) (h:(p1=none→K (.bool true) w)∧∀a0:Addr,p1=some a0→aa_ PR 37 #[.pointer p2] w λv0 w0=>∃b0,v0=.bool b0∧(b0=true→Fs S w [⟨k0,#[.pointer p1,.pointer p2,Iv m3,Iv m4],56,true⟩] w0∧K (.bool true) w0)∧(b0=false→Fs S w [⟨k0,#[.pointer p1,.pointer p2,Iv m3,Iv m4],56,true⟩] w0∧K (.bool false) w0)):aa_ PR 13 ⟨[.pointer (some ⟨k0,0,none⟩)]⟩ w K:=
 ab_ (okf:=⟨okL,[]⟩) ag_ (args:=[.c (.p 0 k0 true 0)]) (H:=[⟨k0,.l [.v (.pointer p1),.v (.pointer p2),.v (.int .i64 m3),.v (.int .i64 m4)],56,true⟩]) (.s .z (.s (.r ⟨(some [0]),false,[],[]⟩) .z)) Go.Proofs.Tryz.func13 rfl ⟨rfl,trivial⟩ ⟨⟨trivial,⟨trivial,⟨trivial,⟨trivial,trivial⟩⟩⟩⟩,trivial⟩ hF hS (ae_ (by kernel_rfl) h)
theorem qh_ (k0:Nat) (p1:Option Addr) (p2:Option Addr) (m3:Int) (m4:Int) (S:SP) (K:KP) (w:World) (hF:Fs S w [⟨k0,#[.pointer p1,.pointer p2,.int .i64 m3,.int .i64 m4],56,true⟩] w) (hS:S k0∧True) (h:aa_ PR 13 #[.pointer (some (⟨k0,0,none⟩))] w λv0 w0=>∃b0,v0=.bool b0∧(b0=true→Fs S w [⟨k0,#[.pointer p1,.pointer p2,Iv m3,Iv m4],56,true⟩] w0∧K (.iface 80 (Iv 8)) w0)∧(b0=false→Fs S w [⟨k0,#[.pointer p1,.pointer p2,Iv m3,Iv m4],56,true⟩] w0∧K .nilIface w0)):aa_ PR 33 ⟨[.pointer (some ⟨k0,0,none⟩)]⟩ w K:=
 ab_ (okf:=⟨okL,[]⟩) ag_ (args:=[.c (.p 0 k0 true 0)]) (H:=[⟨k0,.l [.v (.pointer p1),.v (.pointer p2),.v (.int .i64 m3),.v (.int .i64 m4)],56,true⟩]) (.s .z (.s (.b (.s .z (.c .z (.s (.r ⟨(some [0]),false,[],[]⟩) .z)))) .z)) Go.Proofs.Tryz.func33 rfl ⟨rfl,trivial⟩ ⟨⟨trivial,⟨trivial,⟨trivial,⟨trivial,trivial⟩⟩⟩⟩,trivial⟩ hF hS (ae_ (by kernel_rfl) h)
theorem qj_ (k0:Nat) (p1:Option Addr) (p2:Option Addr) (m3:Int) (m4:Int) (m5:Int) (z6:ByteArray) (S:SP) (K:KP) (w:World) (hF:Fs S w [⟨k0,#[.pointer p1,.pointer p2,.int .i64 m3,.int .i64 m4],56,true⟩] w) (hS:S k0∧True) (h:aa_ PR 33 #[.pointer (some (⟨k0,0,none⟩))] w λv0 w0=>∃v1,v0=v1∧Fs S w [⟨k0,#[.pointer p1,.pointer p2,Iv m3,Iv m4],56,true⟩] w0∧let B0:Blk:=⟨k0,#[.pointer p1,.pointer p2,Iv m3,Iv m4],56,true⟩;(v1=.nilIface→(m5<1→K (.tuple #[.slice none 0 0,.nilIface]) w0)∧(¬(m5<1)→(m5>m3→K (.tuple #[.slice none 0 0,.nilIface]) w0)∧(¬(m5>m3)→aa_ PR 41 #[.string z6] w0 λv2 w1=>∃n0 n1 n2 s0 q0 l0 l1 v3,v2=.tuple #[.agg #[Iv n0,Iv n1,Iv n2,.string s0,.slice q0 l0 l1],v3]∧Fs S w [B0] w1∧∀l2,w1.heap.size≤l2→(v3=.nilIface→∀w2,Fr S w w1 [l2] [B0,⟨l2,#[Iv n0,Iv n1,Iv n2,.string s0,.slice q0 l0 l1],26,true⟩] w2→aa_ PR 42 #[.pointer p1,Iv m5,.agg #[Iv n0,Iv n1,Iv n2,.string s0,.slice q0 l0 l1],Iv m4] w2 λv4 w3=>∃q1 l3 l4 v5,v4=.tuple #[.slice q1 l3 l4,v5]∧Fs S w [B0,⟨l2,#[Iv n0,Iv n1,Iv n2,.string s0,.slice q0 l0 l1],26,true⟩] w3∧K (.tuple #[.slice q1 l3 l4,v5]) w3)∧(∀x0 v6,v3=.iface x0 v6→∀w4,Fr S w w1 [l2] [B0] w4→K (.tuple #[.slice none 0 0,v3]) w4)∧(v3=.nilIface∨∃l5 v7,v3=.iface l5 v7))))∧(∀x1 v8,v1=.iface x1 v8→K (.tuple #[.slice none 0 0,v1]) w0)∧(v1=.nilIface∨∃l6 v9,v1=.iface l6 v9)):aa_ PR 16 ⟨[.pointer (some ⟨k0,0,none⟩),.int .i64 m5,.string z6]⟩ w K:=
 ab_ (okf:=⟨okL,[]⟩) ag_ (args:=[.c (.p 0 k0 true 0),.c (.v (.int .i64 m5)),.c (.v (.string z6))]) (H:=[⟨k0,.l [.v (.pointer p1),.v (.pointer p2),.v (.int .i64 m3),.v (.int .i64 m4)],56,true⟩]) (.s .z (.s (.s (.r ⟨(some [0]),false,[],[]⟩) .z) (.s .z (.s (.r ⟨(some [0]),false,[],[]⟩) (.s .z (.s (.r ⟨(some [0,9]),false,[],[(10,[999])]⟩) .z)))))) Go.Proofs.Tryz.func16 rfl ⟨rfl,trivial,trivial,trivial⟩ ⟨⟨trivial,⟨trivial,⟨trivial,⟨trivial,trivial⟩⟩⟩⟩,trivial⟩ hF hS (ae_ (by kernel_rfl) h)
theorem qi_ (k0:Nat) (p1:Option Addr) (p2:Option Addr) (m3:Int) (m4:Int) (S:SP) (K:KP) (w:World) (hF:Fs S w [⟨k0,#[.pointer p1,.pointer p2,.int .i64 m3,.int .i64 m4],56,true⟩] w) (hS:S k0∧True) (h:∀w0,Fr S w w [k0] [⟨k0,#[.pointer p1,.pointer p2,Iv m3,Iv (IntKind.wrap .i64 (m4+1))],56,true⟩] w0→let B0:Blk:=⟨k0,#[.pointer p1,.pointer p2,Iv m3,Iv (IntKind.wrap .i64 (m4+1))],56,true⟩;aa_ PR 33 #[.pointer (some (⟨k0,0,none⟩))] w0 λv0 w1=>∃v1,v0=v1∧Fs S w [B0] w1∧(v1=.nilIface→∀w2,Fr S w w1 [] [B0] w2→aa_ PR 35 #[.pointer p1,Iv (IntKind.wrap .i64 (m4+1))] w2 λv2 w3=>∃q0 l0 l1 v3,v2=.tuple #[.slice q0 l0 l1,v3]∧Fs S w [B0] w3∧aa_ PR 36 #[v3,.iface 80 (Iv 7)] w3 λv4 w4=>∃b0,v4=.bool b0∧(b0=true→Fs S w [B0] w4∧K (.tuple #[.slice none 0 0,.nilIface]) w4)∧(b0=false→Fs S w [B0] w4∧K (.tuple #[.slice q0 l0 l1,v3]) w4))∧(∀x0 v5,v1=.iface x0 v5→K (.tuple #[.slice none 0 0,v1]) w1)∧(v1=.nilIface∨∃l2 v6,v1=.iface l2 v6)):aa_ PR 10 ⟨[.pointer (some ⟨k0,0,none⟩)]⟩ w K:=
 ab_ (okf:=⟨okL,[]⟩) ag_ (args:=[.c (.p 0 k0 true 0)]) (H:=[⟨k0,.l [.v (.pointer p1),.v (.pointer p2),.v (.int .i64 m3),.v (.int .i64 m4)],56,true⟩]) (.s .z (.s .z (.s (.r ⟨(some [0]),false,[],[]⟩) (.s (.s (.r ⟨(some [0]),false,[],[]⟩) .z) (.s (.r ⟨(some [0]),false,[],[(8,[999])]⟩) (.s (.s (.r ⟨(some []),false,[],[]⟩) .z) .z)))))) Go.Proofs.Tryz.func10 rfl ⟨rfl,trivial⟩ ⟨⟨trivial,⟨trivial,⟨trivial,⟨trivial,trivial⟩⟩⟩⟩,trivial⟩ hF hS (ae_ (by kernel_rfl) h)
theorem lK_ (k0:Nat) (p1:Option Addr) (p2:Option Addr) (m3:Int) (m4:Int) (m5:Int) (y6:Option Addr) (ly6:Nat) (cy6:Nat) (S:SP) (K:KP) (w:World) (hF:Fs S w [⟨k0,#[.pointer p1,.pointer p2,.int .i64 m3,.int .i64 m4],56,true⟩] w) (hS:S k0∧True) (h:aa_ PR 33 #[.pointer (some (⟨k0,0,none⟩))] w λv0 w0=>∃v1,v0=v1∧Fs S w [⟨k0,#[.pointer p1,.pointer p2,Iv m3,Iv m4],56,true⟩] w0∧(v1=.nilIface→Dr p1 λa0=>Dr (some a0) λa1=>Dr (some (Addr.add a1 0)) λa2=>∃q0,World.cell? w0 a2=some (.pointer q0)∧aa_ PR 34 #[.pointer q0,Iv m5,.slice y6 ly6 cy6] w0 λv2 w1=>∃n0 v3,v2=.tuple #[Iv n0,v3]∧Fs S w [⟨k0,#[.pointer p1,.pointer p2,Iv m3,Iv m4],56,true⟩] w1∧K (.tuple #[Iv n0,v3]) w1)∧(∀x0 v4,v1=.iface x0 v4→K (.tuple #[Iv 0,v1]) w0)∧(v1=.nilIface∨∃l0 v5,v1=.iface l0 v5)):aa_ PR 9 ⟨[.pointer (some ⟨k0,0,none⟩),.int .i64 m5,.slice y6 ly6 cy6]⟩ w K:=
 ab_ (okf:=⟨okL,[]⟩) ag_ (args:=[.c (.p 0 k0 true 0),.c (.v (.int .i64 m5)),.c (.v (.slice y6 ly6 cy6))]) (H:=[⟨k0,.l [.v (.pointer p1),.v (.pointer p2),.v (.int .i64 m3),.v (.int .i64 m4)],56,true⟩]) (.s .z (.s (.s (.r ⟨(some [0]),false,[],[]⟩) .z) (.s (.r ⟨(some [0]),false,[],[(9,[999])]⟩) .z))) Go.Proofs.Tryz.func9 rfl ⟨rfl,trivial,trivial,trivial⟩ ⟨⟨trivial,⟨trivial,⟨trivial,⟨trivial,trivial⟩⟩⟩⟩,trivial⟩ hF hS (ae_ (by kernel_rfl) h)
theorem bv_ (y0:Option Addr) (ly0:Nat) (cy0:Nat) (y1:Option Addr) (ly1:Nat) (cy1:Nat) (S:SP) (K:KP) (w:World) (h:((ly0:Int)=(ly1:Int)→∃I0:Int→Nat→World→Prop,(∃l0,I0 0 l0 w)∧∀n0,∀D0:Nat→Value,∀l1 w0,I0 n0 l1 w0→Fs S w [] w0→(n0<(ly0:Int)→∀w1,Fr S w w0 [] [] w1→∃I1:World→Prop,I1 w1∧Dr y0 λa0=>(0:Int)≤n0∧n0<(ly0:Int)∧Dr (some (Addr.add a0 (Int.toNat n0*6))) λa1=>Dr (some (Addr.add a1 0)) λa2=>∃n1,(∀w2,I1 w2→World.cell? w2 a2=some (Iv n1))∧Dr y1 λa3=>(0:Int)≤n0∧n0<(ly1:Int)∧Dr (some (Addr.add a3 (Int.toNat n0*6))) λa4=>Dr (some (Addr.add a4 0)) λa5=>∃n2,(∀w3,I1 w3→World.cell? w3 a5=some (Iv n2))∧(n1=n2→Dr y0 λa6=>(0:Int)≤n0∧n0<(ly0:Int)∧Dr (some (Addr.add a6 (Int.toNat n0*6))) λa7=>Dr (some (Addr.add a7 1)) λa8=>∃n3,(∀w4,I1 w4→World.cell? w4 (Addr.add a8 0)=some (Iv n3))∧∃n4,(∀w5,I1 w5→World.cell? w5 (Addr.add a8 1)=some (Iv n4))∧∃n5,(∀w6,I1 w6→World.cell? w6 (Addr.add a8 2)=some (Iv n5))∧∃s0,(∀w7,I1 w7→World.cell? w7 (Addr.add a8 3)=some (.string s0))∧∃q0 l2 l3,(∀w8,I1 w8→World.cell? w8 (Addr.add a8 4)=some (.slice q0 l2 l3))∧Dr y1 λa9=>(0:Int)≤n0∧n0<(ly1:Int)∧Dr (some (Addr.add a9 (Int.toNat n0*6))) λa10=>Dr (some (Addr.add a10 1)) λa11=>∃n6,(∀w9,I1 w9→World.cell? w9 (Addr.add a11 0)=some (Iv n6))∧∃n7,(∀w10,I1 w10→World.cell? w10 (Addr.add a11 1)=some (Iv n7))∧∃n8,(∀w11,I1 w11→World.cell? w11 (Addr.add a11 2)=some (Iv n8))∧∃s1,(∀w12,I1 w12→World.cell? w12 (Addr.add a11 3)=some (.string s1))∧∃q1 l4 l5,(∀w13,I1 w13→World.cell? w13 (Addr.add a11 4)=some (.slice q1 l4 l5))∧aa_ PR 28 #[.agg #[Iv n3,Iv n4,Iv n5,.string s0,.slice q0 l2 l3],.agg #[Iv n6,Iv n7,Iv n8,.string s1,.slice q1 l4 l5]] w1 λv0 w14=>∃b0,v0=.bool b0∧(b0=true→Fs S w [] w14∧I1 w14∧∃l6,l6<l1∧I0 (IntKind.wrap .i64 (n0+1)) l6 w14)∧(b0=false→Fs S w [] w14∧I1 w14∧K (.bool false) w14))∧(¬(n1=n2)→K (.bool false) w1))∧(¬(n0<(ly0:Int))→K (.bool true) w0))∧(¬((ly0:Int)=(ly1:Int))→K (.bool false) w)):aa_ PR 21 ⟨[.slice y0 ly0 cy0,.slice y1 ly1 cy1]⟩ w K:=
 ab_ (okf:=⟨okL,[]⟩) ag_ (args:=[.c (.v (.slice y0 ly0 cy0)),.c (.v (.slice y1 ly1 cy1))]) (H:=[]) (.s .z (.s .z (.s (.s .z (.b (.l (some []) (some []) [(13,.c (.int .i64))] [] (.s .z (.s .z (.s (.b (.s .z (.s (.r ⟨(some []),true,[],[]⟩) .z))) .z)))))) .z))) Go.Proofs.Tryz.func21 rfl ⟨trivial,trivial,trivial⟩ trivial (Fr.init S w) trivial (ae_ (by kernel_rfl) h)
theorem b4_ (y0:Option Addr) (ly0:Nat) (cy0:Nat) (S:SP) (K:KP) (w:World) (h:((ly0:Int)>50→K (.bool true) w)∧(¬((ly0:Int)>50)→∃I0:Int→Nat→World→Prop,(∃l0,I0 0 l0 w)∧∀n0,∀D0:Nat→Value,∀l1 w0,I0 n0 l1 w0→Fs S w [] w0→(n0<(ly0:Int)→Dr y0 λa0=>(0:Int)≤n0∧n0<(ly0:Int)∧Dr (some (Addr.add a0 (Int.toNat n0*11))) λa1=>∃n1,World.cell? w0 (Addr.add a1 0)=some (Iv n1)∧∃n2,World.cell? w0 (Addr.add a1 1)=some (Iv n2)∧∃q0 l2 l3,World.cell? w0 (Addr.add a1 2)=some (.slice q0 l2 l3)∧∃n3,World.cell? w0 (Addr.add a1 3)=some (Iv n3)∧∃n4,World.cell? w0 (Addr.add a1 4)=some (Iv n4)∧∃n5,World.cell? w0 (Addr.add a1 5)=some (Iv n5)∧∃s0,World.cell? w0 (Addr.add a1 6)=some (.string s0)∧∃q1 l4 l5,World.cell? w0 (Addr.add a1 7)=some (.slice q1 l4 l5)∧∃s1,World.cell? w0 (Addr.add a1 8)=some (.string s1)∧∃q2 l6 l7,World.cell? w0 (Addr.add a1 9)=some (.slice q2 l6 l7)∧∃n6,World.cell? w0 (Addr.add a1 10)=some (Iv n6)∧∀l8,w0.heap.size≤l8→((l2:Int)>60→∀w1,Fr S w w0 [l8] [] w1→K (.bool true) w1)∧(¬((l2:Int)>60)→(((ByteArray.size s1:Nat):Int)>300→∀w2,Fr S w w0 [l8] [] w2→K (.bool true) w2)∧(¬(((ByteArray.size s1:Nat):Int)>300)→((l6:Int)>50→∀w3,Fr S w w0 [l8] [] w3→K (.bool true) w3)∧(¬((l6:Int)>50)→∀w4,Fr S w w0 [l8] [⟨l8,#[Iv n1,Iv n2,.slice q0 l2 l3,Iv n3,Iv n4,Iv n5,.string s0,.slice q1 l4 l5,.string s1,.slice q2 l6 l7,Iv n6],31,true⟩] w4→let B0:Blk:=⟨l8,#[Iv n1,Iv n2,.slice q0 l2 l3,Iv n3,Iv n4,Iv n5,.string s0,.slice q1 l4 l5,.string s1,.slice q2 l6 l7,Iv n6],31,true⟩;aa_ PR 29 #[.agg #[Iv n3,Iv n4,Iv n5,.string s0,.slice q1 l4 l5]] w4 λv0 w5=>∃b0,v0=.bool b0∧(b0=true→Fs S w [B0] w5∧K (.bool true) w5)∧(b0=false→Fs S w [B0] w5∧(n1=0→(n2>100→K (.bool true) w5)∧(¬(n2>100)→∃l9,l9<l1∧I0 (IntKind.wrap .i64 (n0+1)) l9 w5))∧(¬(n1=0)→∃l10,l10<l1∧I0 (IntKind.wrap .i64 (n0+1)) l10 w5))))))∧(¬(n0<(ly0:Int))→K (.bool false) w0))):aa_ PR 6 ⟨[.slice y0 ly0 cy0]⟩ w K:=
 ab_ (okf:=⟨okL,[]⟩) ag_ (args:=[.c (.v (.slice y0 ly0 cy0))]) (H:=[]) (.s .z (.s .z (.s (.s .z (.b (.l (some []) (some []) [(10,.c (.int .i64))] [] (.s .z (.s .z (.s (.b (.s (.r ⟨(some []),false,[],[]⟩) (.s (.r ⟨(some [4]),false,[],[]⟩) .z))) .z)))))) .z))) Go.Proofs.Tryz.func6 rfl ⟨trivial,trivial⟩ trivial (Fr.init S w) trivial (ae_ (by kernel_rfl) h)
theorem b5_  (S:SP) (K:KP) (w:World) (h:aa_ PR 7 #[Iv 1] w λv0 w0=>∃q0 v1,v0=.tuple #[.pointer q0,v1]∧Fs S w [] w0∧(v1=.nilIface→(q0=none→K (.bool false) w0)∧∀a0:Addr,q0=some a0→∀l0,w0.heap.size≤l0→∀w1,Fr S w w0 [] [⟨l0,#[Iv 0,Iv 1],77,true⟩] w1→aa_ PR 9 #[.pointer q0,Iv 3,.slice (some (⟨l0,0,none⟩)) 1 1] w1 λv2 w2=>∃n0 v3,v2=.tuple #[Iv n0,v3]∧∃n1 n2,Fs S w [⟨l0,#[Iv n1,Iv n2],77,true⟩] w2∧aa_ PR 20 #[.agg #[Iv 7,Iv 1,Iv 0,.string ⟨#[]⟩,.slice none 0 0]] w2 λv4 w3=>∃s0 v5,v4=.tuple #[.string s0,v5]∧Fs S w [] w3∧aa_ PR 16 #[.pointer q0,Iv 1,.string s0] w3 λv6 w4=>∃q1 l1 l2 v7,v6=.tuple #[.slice q1 l1 l2,v7]∧Fs S w [] w4∧aa_ PR 10 #[.pointer q0] w4 λv8 w5=>∃q2 l3 l4 v9,v8=.tuple #[.slice q2 l3 l4,v9]∧Fs S w [] w5∧(n0=1→(v3=.nilIface→(v5=.nilIface→(v7=.nilIface→(v9=.nilIface→Dr q0 λa1=>Dr (some a1) λa2=>Dr (some (Addr.add a2 0)) λa3=>∃q3,World.cell? w5 a3=some (.pointer q3)∧Dr q3 λa4=>Dr (some a4) λa5=>Dr (some (Addr.add a5 0)) λa6=>∃q4,World.cell? w5 a6=some (.pointer q4)∧aa_ PR 24 #[.pointer q4] w5 λv10 w6=>∃n3,v10=Iv n3∧Fs S w [] w6∧(n3=1→K (.bool true) w6)∧(¬(n3=1)→K (.bool false) w6))∧(∀x0 v11,v9=.iface x0 v11→K (.bool false) w5)∧(v9=.nilIface∨∃l5 v12,v9=.iface l5 v12))∧(∀x1 v13,v7=.iface x1 v13→K (.bool false) w5)∧(v7=.nilIface∨∃l6 v14,v7=.iface l6 v14))∧(∀x2 v15,v5=.iface x2 v15→K (.bool false) w5)∧(v5=.nilIface∨∃l7 v16,v5=.iface l7 v16))∧(∀x3 v17,v3=.iface x3 v17→K (.bool false) w5)∧(v3=.nilIface∨∃l8 v18,v3=.iface l8 v18))∧(¬(n0=1)→K (.bool false) w5))∧(∀x4 v19,v1=.iface x4 v19→K (.bool false) w0)∧(v1=.nilIface∨∃l9 v20,v1=.iface l9 v20)):aa_ PR 5 ⟨[]⟩ w K:=
 ab_ (okf:=⟨okL,[]⟩) ag_ (args:=[]) (H:=[]) (.s .z (.s (.r ⟨(some []),false,[],[]⟩) (.s .z (.s (.r ⟨(some []),false,[],[(3,[999])]⟩) (.s (.r ⟨(some []),false,[],[]⟩) (.s (.r ⟨(some []),false,[],[(2,[999])]⟩) (.s (.r ⟨(some []),false,[],[(1,[999])]⟩) (.s (.r ⟨(some []),false,[],[]⟩) .z)))))))) Go.Proofs.Tryz.func5 rfl trivial trivial (Fr.init S w) trivial (ae_ (by kernel_rfl) h)
end Go.Vc
namespace Go.Vc
open Go
theorem qS_ {w:World} {q2:Option Addr} {l2 c2 b:Nat} {s:List UInt8} {ys:List (List UInt8)} {K:Value→World→Prop}
  (ho:Own T.string 1 w (some ⟨b,0,none⟩) 1 [sv8' s]) (hs:Sl w q2 (ys.map sv8')) (hl2:l2=ys.length) (hroom:l2≤4398046511)
  (hK:∀q' c' w',Own T.string 1 w' q' c' ((s :: ys).map sv8')→1+l2≤c'→Grow w w'→(∀a,q'=some a→a=⟨b,0,none⟩∨a=⟨w.heap.size,0,none⟩)→K (.slice q' (1+l2) c') w') :
  rn PR (Builtin.append_ #[T.aP_,T.aP_] T.aP_ #[.slice (some ⟨b,0,none⟩) 1 1,.slice q2 l2 c2]) K w:=by
 obtain ⟨i,hi,hk,hb,hz⟩:=pf_
 refine cO_ (eP_ (i:=i) (xs:=[sv8' s]) k2_ k2_ hi hz (by rw [hk];rfl) (by rw [hb];decide) (by rw [hk];exact ho) (by rw [hk];rfl) (Nat.le_refl _) hs (by rw [hk];simp [hl2]) (λy hy=>by obtain ⟨b,_,rfl⟩:=List.mem_map.1 hy;rfl) (by rw [hb];omega) λq' c' w' h1 h2 h3 h4 h5=>?_)
 rw [hk] at h1
 refine hK q' c' w' h1 h2 (h5 ?_) λa ha=>(h4 a ha).imp (λe=>by injection e with e;exact e.symm) id
 cases ys with
 | nil=>exact .inr rfl
 | cons y ys=>left;rw [hl2,List.length_cons];omega
noncomputable def bm_ (leaves:List (List UInt8)):Nat→Nat→Nat→Nat→List (List UInt8)
 | 0,_,_,_=>[]
 | f+1,i,a,n=>if n≤1 then [] else if i<a+aw_ n then bm_ leaves f i a (aw_ n)++[bO_ cq_ leaves (n - aw_ n) (a+aw_ n) (n - aw_ n)]
  else bm_ leaves f i (a+aw_ n) (n - aw_ n)++[bO_ cq_ leaves (aw_ n) a (aw_ n)]
theorem cP_.val {R:Value→Value→Prop} {a n:Nat} (h:cP_ R a n):∃v,R (.agg #[.int .i64 (a:Nat),.int .i64 (n:Nat)]) v:=by
 cases h with
 | leaf _ v h=>exact ⟨v,h⟩
 | node _ _ v _ h _ _=>exact ⟨v,h⟩
theorem cP_.parts {R:Value→Value→Prop} {a n:Nat} (h:cP_ R a n) (hn:2≤n):cP_ R a (aw_ n)∧cP_ R (a+aw_ n) (n - aw_ n):=by
 cases h with
 | leaf _ v h=>omega
 | node _ _ v _ h h1 h2=>exact ⟨h1,h2⟩
def PrI (leaves:List (List UInt8)) (R:Value→Value→Prop) (w0:World) (i:Nat) (goal:List (List UInt8)) (q:Option Addr) (l c:Nat) (q1:Option Addr) (mm:Nat) (w':World):Prop:=
 ∃(b a n f:Nat) (pf:List (List UInt8)),q1=some ⟨b,0,none⟩∧w0.heap.size≤b∧w'.heap[b]? = some (.cells #[.int .i64 a,.int .i64 n] T.aq_ (0,0))∧mm=n∧1≤n∧n≤f∧a≤i∧i<a+n∧a+n≤leaves.length∧cP_ R a n∧
  Own T.string 1 w' q c (pf.map sv8')∧l=pf.length∧l≤c∧pf.length+n≤leaves.length∧Off (λk=>k<w0.heap.size) q∧goal=bm_ leaves f i a n++pf
theorem et_ {leaves:List (List UInt8)} {R:Value→Value→Prop} {w w11:World} {k0 m nn b a n f fuel i ka kn a' n':Nat} {B0 B1 B2:Blk} {q:Option Addr} {l c:Nat} {pf goal:List (List UInt8)}
  (hm:MapP w T.aq_ m nn R) (hmk:m≠k0) (hok:pU_ leaves R) (hv:cP_ R ka kn) (hkl:ka+kn≤leaves.length) (hn:leaves.length≤100000)
  (hF:Fs (· = k0) w [B0,B1,B2] w11) (hB0:B0.b=k0) (hk0:k0<w.heap.size) (hB1:w.heap.size≤B1.b) (hB2:w.heap.size≤B2.b) (hb1:b≠B1.b) (hb2:b≠B2.b)
  (hb:w11.heap[b]? = some (.cells #[.int .i64 (a:Nat),.int .i64 (n:Nat)] T.aq_ (0,0))) (hwb:w.heap.size≤b)
  (ho:Own T.string 1 w11 q c (pf.map sv8')) (hl:l=pf.length) (hlc:l≤c) (hpn:pf.length+n≤leaves.length) (hof:Off (λk=>k<w.heap.size) q)
  (hn1:1≤n') (hnn:n'<n) (hfu:fuel=n) (hnf:n'≤f) (hai:a'≤i) (hin:i<a'+n') (hle:a'+n'≤leaves.length) (hall:cP_ R a' n') (hg:goal=bm_ leaves f i a' n'++(bO_ cq_ leaves kn ka kn :: pf)) :
  rn PR (Instr.lookup T.bd_ (.map (some m)) (.agg #[.int .i64 (ka:Nat),.int .i64 (kn:Nat)]) false) (λv1 w12=>∃s0,v1=.string s0∧Fs (· = k0) w [B0,B1,B2] w12∧w12.heap[b]? = some (.cells #[.int .i64 (a:Nat),.int .i64 (n:Nat)] T.aq_ (0,0))∧∀l7,w12.heap.size≤l7→∀w13,Fr (· = k0) w w12 [] [B0,B1,B2,⟨l7,#[.string s0],T.string,true⟩] w13→
   w13.heap[b]? = some (.cells #[.int .i64 (a:Nat),.int .i64 (n:Nat)] T.aq_ (0,0))∧rn PR (Builtin.append_ #[T.aP_,T.aP_] T.aP_ #[.slice (some ⟨l7,0,none⟩) 1 1,.slice q l c]) (λv2 w14=>∃q2,∃l8 l9:Nat,v2=.slice q2 l8 l9∧Fs (· = k0) w [B0,B1,B2,⟨l7,#[.string s0],T.string,true⟩] w14∧w14.heap[b]? = some (.cells #[.int .i64 (a:Nat),.int .i64 (n:Nat)] T.aq_ (0,0))∧
    Dr (some ⟨b,0,none⟩) (λa12=>StC w14 (Addr.add a12 0) (.int .i64 (a':Nat)) λw15=>StC w15 (Addr.add a12 1) (.int .i64 (n':Nat)) λw16=>Fs (· = k0) w [B0,B1,B2,⟨l7,#[.string s0],T.string,true⟩] w16∧Dr (some ⟨b,0,none⟩) λa13=>∃n7:Int,w16.cell? (Addr.add a13 0)=some (.int .i64 n7)∧∃n8:Int,w16.cell? (Addr.add a13 1)=some (.int .i64 n8)∧∀l10,w16.heap.size≤l10→∀w17,Fr (· = k0) w w16 [l10] [B0,⟨l10,#[.int .i64 n7,.int .i64 n8],T.aq_,true⟩] w17→
     ∃l11,l11<fuel∧PrI leaves R w i goal q2 l8 l9 (some ⟨l10,0,none⟩) l11 w17)) w13) w11:=by
 obtain ⟨v,hv⟩:=hv.val
 obtain ⟨ka',kn',ek,hk1,hk2,rfl⟩:=hok _ _ hv
 have e1:ka=ka':=by injection ek with e;injection e with e;injection e with e e';injection e with _ e;omega
 have e2:kn=kn':=by injection ek with e;injection e with e;injection e with e e';injection e' with e e';injection e with _ e;omega
 subst e1;subst e2
 obtain ⟨kl,hkey⟩:=kA_ (a:=ka) (k:=kn) ⟨by omega,by omega⟩ ⟨by omega,by omega⟩
 have hm11:MapP w11 T.aq_ m nn R:=hm.keep hF.chg hmk
 refine ec_ qa_ sL_ hm11 hkey false nr_ (λv' hv'=>?_) λhno=>absurd hv (hno _)
 have:=hm11.inj hv' hv
 subst this
 refine ⟨_,rfl,hF,hb,λl7 hl7 w13 hF13=>?_⟩
 have g13:Grow w11 w13:=hF13.grow
 have hb13:=g13.get hb
 refine ⟨hb13,?_⟩
 have s11:=hF.chg.size
 have hbl:=aj_ hb
 refine qS_ (hF13.own 3 rfl rfl (by decide)) (ho.grow g13).sl hl (by omega) λq2 c2 w14 ho14 hc14 g14 hq14=>?_
 have hF14:=hF13.after g14
 have hb14:=g14.get hb13
 refine ⟨_,_,_,rfl,hF14,hb14,ad_.2 ?_⟩
 have hq2w:∀a,q2=some a→w11.heap.size≤a.block:=λa ha=>by
  rcases hq14 a ha with rfl | rfl
  ·exact hl7
  ·have:=g13.size;exact this
 refine stC hb14 (show 0<2 by omega) rfl λw15 hb15 s15 g15=>?_
 refine stC hb15 (show 1<2 by omega) rfl λw16 hb16 s16 g16=>?_
 have hbn:∀x,x∈[B0,B1,B2,(⟨l7,#[.string (str (bO_ cq_ leaves kn ka kn))],T.string,true⟩:Blk)]→¬(x.b=b):=λx hx=>by
  simp only [List.mem_cons,List.not_mem_nil,or_false] at hx
  rcases hx with rfl | rfl | rfl | rfl
  ·omega
  ·exact λe=>hb1 e.symm
  ·exact λe=>hb2 e.symm
  ·simp only [];omega
 have hF16:=(hF14.step g15 hbn λk hk e=>by have e':k=b:=e;omega).step g16 hbn λk hk e=>by have e':k=b:=e;omega
 have hb16':w16.heap[b]? = some (.cells #[.int .i64 (a':Nat),.int .i64 (n':Nat)] T.aq_ (0,0)):=hb16
 refine ⟨hF16,ad_.2 ⟨_,by rw [an_,ap_ hb16'];rfl,_,by rw [an_,ap_ hb16'];rfl,λl10 hl10 w17 hF17=>⟨n',by omega,l10,a',n',f,bO_ cq_ leaves kn ka kn :: pf,rfl,?_,hF17.blk 1 rfl,rfl,hn1,hnf,hai,hin,hle,hall,?_,by rw [hl,List.length_cons];omega,hc14,by rw [List.length_cons];omega,λa ha hlt=>by have:=hq2w a ha;omega,hg⟩⟩⟩
 ·have:=hF16.chg.size;omega
 ·have o15:=ho14.keep g15 λx hx e=>by have e':x.block=b:=e;have:=hq2w x hx;omega
  have o16:=o15.keep g16 λx hx e=>by have e':x.block=b:=e;have:=hq2w x hx;omega
  exact o16.keep hF17.stp λx hx e=>by
   have e':x.block=l10:=by simpa using e
   rcases o16 with ⟨h,_⟩ | ⟨b',o',cs,h,hbb,_⟩
   ·rw [h] at hx;cases hx
   ·rw [h] at hx;cases hx
    have:=aj_ hbb
    simp only [] at e';omega
theorem oL_ {D:Nat→Prop} {w:World} {k0:Nat} {list:List (List UInt8)} (h:iI_ D w k0 list) {i:Int} (hn:list.length≤100000) {K:Value→World→Prop}
  (h1:∀w' q c,0≤i→i<list.length→Grow w w'→Own T.string 1 w' q c ((bm_ (list.map bp_) list.length i.toNat 0 list.length).map sv8')→(bm_ (list.map bp_) list.length i.toNat 0 list.length).length≤c→Off (λk=>k<w.heap.size) q→K (.tuple #[.slice q (bm_ (list.map bp_) list.length i.toNat 0 list.length).length c,.nilIface]) w')
  (h2:¬(0≤i∧i<list.length)→K (.tuple #[.slice none 0 0,.iface T.am_ (.int .i64 2)]) w):aa_ PR F.e3_ ⟨[.pointer (some ⟨k0,0,none⟩),.int .i64 i]⟩ w K:=by
 obtain ⟨yq,yc,m,R,nn,hb0,_,hsl,hm,_,hok,hA⟩:=h
 have hmk:m≠k0:=(gl_ hb0 hm).symm
 have hk0:=aj_ hb0
 have hll:(list.map bp_).length=list.length:=List.length_map _
 refine lA_ k0 yq list.length yc (some m) i (· = k0) K w ((Fr.init _ w).entry hb0 (λx h=>by cases h) λ_=>rfl) ⟨rfl,trivial⟩ ⟨λh=>h2 (by omega),λh0=>⟨λh=>h2 (by omega),λhlt l0 hl0 w0 hF0=>?_⟩⟩
 have h0':0≤i:=by omega
 have hlt':i<list.length:=by omega
 obtain ⟨j,rfl⟩:∃j:Nat,i=j:=⟨i.toNat,by omega⟩
 have hj:j<list.length:=by omega
 have hne:list≠[]:=λe=>by rw [e] at hj;simp at hj
 rw [Int.toNat_natCast] at h1
 refine ⟨PrI (list.map bp_) R w j (bm_ (list.map bp_) list.length j 0 list.length),⟨list.length,l0,0,list.length,list.length,[],rfl,hl0,hF0.blk 1 rfl,rfl,by omega,Nat.le_refl _,by omega,by omega,by omega,hA hne,.nil _ _ _,rfl,Nat.le_refl _,by simp,.none _,by simp⟩,?_⟩
 rintro q l c q1 Dv mm w1 ⟨b,a,n,f,pf,rfl,hwb,hb,rfl,hn1,hnf,haj,hja,hle,hall,ho,rfl,hlc,hpn,hof,hg⟩ hF1
 have hc:∀ {w':World} (k:Nat) (v:Value),w'.heap[b]? = some (.cells #[.int .i64 (a:Nat),.int .i64 (mm:Nat)] T.aq_ (0,0))→(#[.int .i64 (a:Nat),.int .i64 (mm:Nat)]:Array Value)[k]? = some v→w'.cell? (Addr.add ⟨b,0,none⟩ k)=some v:=λk v hb hv=>by
  rw [an_,ap_ hb,Nat.zero_add];exact hv
 refine ad_.2 (ad_.2 ⟨_,hc 1 _ hb rfl,λhgt=>?_,λhng=>?_⟩)
 ·have h2n:2≤mm:=by omega
  have hh:=hn_ h2n
  have hbl:=aj_ hb
  obtain ⟨hp1,hp2⟩:=hall.parts h2n
  refine ad_.2 (ad_.2 ⟨_,hc 1 _ hb rfl,jm_ h2n (by omega) ⟨_,rfl,hF1,λw3 hF3=>?_⟩⟩)
  have g3:Grow w1 w3:=hF3.grow
  have hb3:=g3.get hb
  have ho3:=ho.grow g3
  have bl3:=aj_ hb3
  refine ⟨λw'=>w'.heap[b]? = some (.cells #[.int .i64 (a:Nat),.int .i64 (mm:Nat)] T.aq_ (0,0)),hb3,?_⟩
  refine ad_.2 (ad_.2 ⟨_,λw' h=>hc 0 _ h rfl,ad_.2 (ad_.2 ⟨_,λw' h=>hc 0 _ h rfl,ad_.2 (ad_.2 ⟨_,λw' h=>hc 1 _ h rfl,?_⟩)⟩)⟩)
  have ea:IntKind.wrap .i64 ((a:Int)+(aw_ mm:Nat))=((a+aw_ mm:Nat):Int):=by rw [w64 (by omega) (by omega)];omega
  have ek:IntKind.wrap .i64 ((mm:Int) - (aw_ mm:Nat))=((mm - aw_ mm:Nat):Int):=by rw [w64 (by omega) (by omega)];omega
  obtain ⟨f',rfl⟩:∃f',f=f'+1:=⟨f - 1,by omega⟩
  have gl:j<a+aw_ mm→bm_ (list.map bp_) list.length j 0 list.length=bm_ (list.map bp_) f' j a (aw_ mm)++(bO_ cq_ (list.map bp_) (mm - aw_ mm) (a+aw_ mm) (mm - aw_ mm) :: pf):=λhlt=>by
   rw [hg];conv=>lhs;unfold bm_
   rw [if_neg (by omega),if_pos hlt,List.append_assoc];rfl
  have gr:¬j<a+aw_ mm→bm_ (list.map bp_) list.length j 0 list.length=bm_ (list.map bp_) f' j (a+aw_ mm) (mm - aw_ mm)++(bO_ cq_ (list.map bp_) (aw_ mm) a (aw_ mm) :: pf):=λhlt=>by
   rw [hg];conv=>lhs;unfold bm_
   rw [if_neg (by omega),if_neg hlt,List.append_assoc];rfl
  have hw1:w.heap.size≤w3.heap.size:=hF3.chg.size
  rw [ea,ek]
  refine ⟨?_,?_⟩
  ·intro l5 hl5 w7 hF7
   have hb7:=hF7.grow.get hb3
   refine ⟨hb7,λl6 hl6 w8 hF8=>?_⟩
   have hb8:=hF8.grow.get hb7
   have s7:=hF7.grow.size
   have s8:=hF8.grow.size
   refine ⟨hb8,λw9 hF9=>?_⟩
   have n9:∀k,k∈[l5]→w3.heap.size≤k:=λk e=>by simp at e;omega
   have hb9:=hF9.stp.get hb8 λe=>by have:=n9 _ e;omega
   have ho9:=((ho3.grow hF7.grow).grow hF8.grow).keep hF9.stp λx hx e=>by have:=n9 _ e;have:=ho3.lt x hx;omega
   refine ⟨hb9,ad_.2 λw10 hF10=>?_⟩
   have n10:∀k,k∈[l6]→w3.heap.size≤k:=λk e=>by simp at e;omega
   have hb10:=hF10.stp.get hb9 λe=>by have:=n10 _ e;omega
   have ho10:=ho9.keep hF10.stp λx hx e=>by have:=n10 _ e;have:=ho3.lt x hx;omega
   refine ad_.2 ⟨_,hc 0 _ hb10 rfl,λhlt2 w11 hF11=>⟨λw'=>w'.heap[b]? = some (.cells #[.int .i64 (a:Nat),.int .i64 (mm:Nat)] T.aq_ (0,0)),hF11.grow.get hb10,?_⟩,λhlt2 w11 hF11=>⟨λw'=>w'.heap[b]? = some (.cells #[.int .i64 (a:Nat),.int .i64 (mm:Nat)] T.aq_ (0,0)),hF11.grow.get hb10,?_⟩⟩
   ·rw [ea] at hlt2
    have hlt3:j<a+aw_ mm:=by omega
    exact et_ (leaves:=list.map bp_) (R:=R) (a:=a) (n:=mm) (f:=f') (ka:=a+aw_ mm) (kn:=mm - aw_ mm) (a':=a) (n':=aw_ mm) (pf:=pf) hm hmk hok hp2 (by omega) (by omega) hF11.reset rfl hk0 (by show _≤l5;omega) (by show _≤l6;omega) (by show b≠l5;omega) (by show b≠l6;omega) (hF11.grow.get hb10) hwb (ho10.grow hF11.grow) rfl hlc hpn hof hh.1 hh.2 rfl (by omega) (by omega) (by omega) (by omega) hp1 (gl hlt3)
   ·rw [ea] at hlt2
    have hlt3:¬j<a+aw_ mm:=by omega
    exact et_ (leaves:=list.map bp_) (R:=R) (a:=a) (n:=mm) (f:=f') (ka:=a) (kn:=aw_ mm) (a':=a+aw_ mm) (n':=mm - aw_ mm) (pf:=pf) hm hmk hok hp1 (by omega) (by omega) hF11.reset rfl hk0 (by show _≤l5;omega) (by show _≤l6;omega) (by show b≠l5;omega) (by show b≠l6;omega) (hF11.grow.get hb10) hwb (ho10.grow hF11.grow) rfl hlc hpn hof (by omega) (by omega) rfl (by omega) (by omega) (by omega) (by omega) hp2 (gr hlt3)
  ·intro l5 hl5 w7 hF7
   have hb7:=hF7.grow.get hb3
   refine ⟨hb7,λl6 hl6 w8 hF8=>?_⟩
   have hb8:=hF8.grow.get hb7
   have s7:=hF7.grow.size
   have s8:=hF8.grow.size
   refine ⟨hb8,λw9 hF9=>?_⟩
   have n9:∀k,k∈[l6]→w3.heap.size≤k:=λk e=>by simp at e;omega
   have hb9:=hF9.stp.get hb8 λe=>by have:=n9 _ e;omega
   have ho9:=((ho3.grow hF7.grow).grow hF8.grow).keep hF9.stp λx hx e=>by have:=n9 _ e;have:=ho3.lt x hx;omega
   refine ⟨hb9,ad_.2 λw10 hF10=>?_⟩
   have n10:∀k,k∈[l5]→w3.heap.size≤k:=λk e=>by simp at e;omega
   have hb10:=hF10.stp.get hb9 λe=>by have:=n10 _ e;omega
   have ho10:=ho9.keep hF10.stp λx hx e=>by have:=n10 _ e;have:=ho3.lt x hx;omega
   refine ad_.2 ⟨_,hc 0 _ hb10 rfl,λhlt2 w11 hF11=>⟨λw'=>w'.heap[b]? = some (.cells #[.int .i64 (a:Nat),.int .i64 (mm:Nat)] T.aq_ (0,0)),hF11.grow.get hb10,?_⟩,λhlt2 w11 hF11=>⟨λw'=>w'.heap[b]? = some (.cells #[.int .i64 (a:Nat),.int .i64 (mm:Nat)] T.aq_ (0,0)),hF11.grow.get hb10,?_⟩⟩
   ·rw [ea] at hlt2
    have hlt3:j<a+aw_ mm:=by omega
    exact et_ (leaves:=list.map bp_) (R:=R) (a:=a) (n:=mm) (f:=f') (ka:=a+aw_ mm) (kn:=mm - aw_ mm) (a':=a) (n':=aw_ mm) (pf:=pf) hm hmk hok hp2 (by omega) (by omega) hF11.reset rfl hk0 (by show _≤l5;omega) (by show _≤l6;omega) (by show b≠l5;omega) (by show b≠l6;omega) (hF11.grow.get hb10) hwb (ho10.grow hF11.grow) rfl hlc hpn hof hh.1 hh.2 rfl (by omega) (by omega) (by omega) (by omega) hp1 (gl hlt3)
   ·rw [ea] at hlt2
    have hlt3:¬j<a+aw_ mm:=by omega
    exact et_ (leaves:=list.map bp_) (R:=R) (a:=a) (n:=mm) (f:=f') (ka:=a) (kn:=aw_ mm) (a':=a+aw_ mm) (n':=mm - aw_ mm) (pf:=pf) hm hmk hok hp1 (by omega) (by omega) hF11.reset rfl hk0 (by show _≤l5;omega) (by show _≤l6;omega) (by show b≠l5;omega) (by show b≠l6;omega) (hF11.grow.get hb10) hwb (ho10.grow hF11.grow) rfl hlc hpn hof (by omega) (by omega) rfl (by omega) (by omega) (by omega) (by omega) hp2 (gr hlt3)
 ·have hm1:mm=1:=by omega
  subst hm1
  have hpf:bm_ (list.map bp_) list.length j 0 list.length=pf:=by
   obtain ⟨f',rfl⟩:∃f',f=f'+1:=⟨f - 1,by omega⟩
   rw [hg];unfold bm_;rw [if_pos (by omega)];rfl
  have:=h1 w1 q c h0' hlt' (hF1.chg.same hb0 (hF1.blk 0 rfl)) (by rw [hpf];exact ho) (by rw [hpf];exact hlc) hof
  rw [hpf] at this
  exact this
end Go.Vc
namespace Go.Vc
open Go
theorem dg_ (y0:Option Addr) (ly0:Nat) (cy0:Nat) (k1:Nat) (p2:Option Addr) (S:SP) (K:KP) (w:World) (hF:Fs S w [⟨k1,#[.pointer p2],54,false⟩] w) (h:∃I0:Int→Nat→World→Prop,(∃l0,I0 0 l0 w)∧∀n0,∀D0:Nat→Value,∀l1 w0,I0 n0 l1 w0→Fs S w [⟨k1,#[.pointer p2],54,false⟩] w0→(n0<(ly0:Int)→Dr y0 λa0=>(0:Int)≤n0∧n0<(ly0:Int)∧Dr (some (Addr.add a0 (Int.toNat n0*1))) λa1=>∃n1,World.cell? w0 a1=some (Iv n1)∧aa_ PR 112 #[Iv n1,.pointer (some (⟨k1,0,none⟩))] w0 λv0 w1=>∃b0,v0=.bool b0∧(b0=true→Fs S w [⟨k1,#[.pointer p2],54,false⟩] w1∧K (Iv n0) w1)∧(b0=false→Fs S w [⟨k1,#[.pointer p2],54,false⟩] w1∧∃l2,l2<l1∧I0 (IntKind.wrap .i64 (n0+1)) l2 w1))∧(¬(n0<(ly0:Int))→K (Iv (-1)) w0)):aa_ PR 154 ⟨[.slice y0 ly0 cy0,.func (.func 112) #[] #[.pointer (some ⟨k1,0,none⟩)]]⟩ w K:=
 ab_ (okf:=⟨okL,[]⟩) ag_ (args:=[.c (.v (.slice y0 ly0 cy0)),.c (.v (.func (.func 112) #[] #[.pointer (some ⟨k1,0,none⟩)]))]) (H:=[⟨k1,.l [.v (.pointer p2)],54,false⟩]) (.s .z (.s (.s .z (.b (.l (some []) (some []) [(8,.c (.int .i64))] [] (.s .z (.s .z (.s (.b (.s .z (.s (.r ⟨(some []),false,[],[]⟩) .z))) .z)))))) .z)) Go.Proofs.Tryz.func154 rfl ⟨trivial,trivial,trivial⟩ ⟨⟨trivial,trivial⟩,trivial⟩ hF trivial (ae_ (by kernel_rfl) h)
end Go.Vc
namespace Go.Vc
open Go Go.MapKept
theorem ni_ {N:Nat} {w:World} {x:PubS} (h:aK_ N w x) {ver:Int} (hi : -9223372036854775808≤ver∧ver≤9223372036854775807) {K:Value→World→Prop}
  (h1:∀w' (i b c:Nat) list,Grow w w'→ver=i→1≤i→i≤x.last→(x.last<i+3∨i=x.com)→VerO x.dom w' b (x.man i) list→VerL (x.man i) list→iI_ x.dom w' c list→recV (x.man i) list∈x.recs→(x.man i).version=i→K (.tuple #[.agg #[.pointer (some ⟨b,0,none⟩),.pointer (some ⟨c,0,none⟩)],.nilIface]) w')
  (h2:∀w',Grow w w'→(∀v,¬x.R (.int .i64 ver) v)→K (.tuple #[.agg #[.pointer none,.pointer none],.iface T.am_ (.int .i64 13)]) w'):aa_ PR F.gI_ ⟨[.pointer (some ⟨x.p,0,none⟩),.int .i64 ver]⟩ w K:=by
 obtain ⟨n,hm⟩:=h.map
 have h0:Fs (· = x.p) w [⟨x.p,pubC x.bj x.each x.last x.com x.m,T.aR_,true⟩] w:=(Fr.init _ w).entry h.blk (λx h=>by cases h) λ_=>rfl
 refine ol_ x.p (some ⟨x.bj,0,none⟩) x.each x.last x.com (some x.m) ver (· = x.p) K w h0 ⟨rfl,trivial⟩ λl0 hl0 w0 hF0=>?_
 have g0:Grow w w0:=hF0.grow
 refine ec_ lG_ do_ (hm.grow g0) (h__ hi.1 hi.2) true kr_ (λv hv=>?_) λhno=>?_
 ·obtain ⟨i,b,c,mn,list,k1,k2,k3,rfl,k5,k6,k7,rfl,k9,k10⟩:=h.kept _ _ hv
  refine ⟨_,_,true,rfl,(λ_=>⟨hF0.reset,λl1 hl1 w2 hF2=>?_⟩),λh=>by cases h⟩
  have g2:Grow w w2:=hF2.chg.same h.blk (hF2.blk 0 rfl)
  have ei:ver=i:=by injection k3
  exact h1 w2 i b c list g2 ei k1 k2 (h.only i _ (by rw [← ei];exact hv)) (k5.keep g2 (λ_ _ e=>e.elim) (λ_ _ e=>e)) k6 (k9.keep g2 (λ_ _ e=>e.elim) (λ_ _ e=>e)) k10 k7
 ·refine ⟨_,_,false,rfl,(λh=>by cases h),λ_=>⟨hF0.reset,λl1 hl1 w2 hF2=>?_⟩⟩
  exact h2 w2 (hF2.chg.same h.blk (hF2.blk 0 rfl)) hno
theorem ts_ {N:Nat} {w:World} {x:PubS} (h:aK_ N w x) {ver:Int} (hi : -9223372036854775808≤ver∧ver≤9223372036854775807) {K:Value→World→Prop}
  (h1:∀w' (i b c:Nat) list,Grow w w'→ver=i→1≤i→i≤x.last→VerO x.dom w' b (x.man i) list→VerL (x.man i) list→K (.tuple #[.agg #[.pointer (some ⟨b,0,none⟩),.pointer (some ⟨c,0,none⟩)],.nilIface]) w')
  (h2:∀w',Grow w w'→(∀v,¬x.R (.int .i64 ver) v)→K (.tuple #[.agg #[.pointer none,.pointer none],.iface T.am_ (.int .i64 13)]) w'):aa_ PR F.gI_ ⟨[.pointer (some ⟨x.p,0,none⟩),.int .i64 ver]⟩ w K:=
 ni_ h hi (λw' i b c list g e k1 k2 _ k5 k6 _ _ _=>h1 w' i b c list g e k1 k2 k5 k6) h2
theorem aU_ {N:Nat} {w:World} {x:PubS} (h:aK_ N w x) {i:Nat} (hi1:1≤i) (hi2:i≤x.last) (hk:x.last<i+3∨i=x.com) {K:Value→World→Prop}
  (hK:∀w',Grow w w'→K (.tuple #[.agg #[.int .i64 1,.int .i64 0,.int .i64 0,.string (str (aH_ (x.man i))),.slice none 0 0],.nilIface]) w'):aa_ PR F.hW_ ⟨[.pointer (some ⟨x.p,0,none⟩),.int .i64 (i:Int)]⟩ w K:=by
 obtain ⟨hsl,hsc,hsr⟩:=h.small
 have h0:Fs (· = x.p) w [⟨x.p,pubC x.bj x.each x.last x.com x.m,T.aR_,true⟩] w:=(Fr.init _ w).entry h.blk (λx h=>by cases h) λ_=>rfl
 refine kb_ x.p (some ⟨x.bj,0,none⟩) x.each x.last x.com (some x.m) i (· = x.p) K w h0 ⟨rfl,trivial⟩ λl0 hl0 w0 hF0=>?_
 have g0:Grow w w0:=hF0.grow
 refine ts_ (h.grow g0) ⟨by omega,by omega⟩ (λw1 j b c list g1 e k1 k2 hv hL=>?_) λw1 g1 hno=>?_
 ·obtain rfl:i=j:=by omega
  have hF1:=hF0.after g1
  refine ⟨_,_,_,rfl,hF1,λl1 hl1=>⟨λ_=>ad_.2 (ad_.2 λw2 hF2=>ad_.2 ?_),(λt x h=>by cases h),.inl rfl⟩⟩
  have g2:Grow w1 w2:=(hF2.unM hl1).grow
  obtain ⟨qm,cm,ql,cl,hb1,hb0,hq1,hq2,hlc⟩:=hv.keep (D':=x.dom) g2 (λ_ _ e=>e.elim) (λ_ _ e=>e)
  have hcell:∀k v,(verC (x.man i) qm cm list ql cl)[k]? = some v→w2.cell? ⟨b,k,none⟩=some v:=λk v hv=>by rw [ap_ hb1];exact hv
  refine ⟨(x.man i).version,by rw [an_,an_];exact hcell 0 _ rfl,(x.man i).nodes,by rw [an_,an_];exact hcell 1 _ rfl,(x.man i).edges,by rw [an_,an_];exact hcell 2 _ rfl,qm,(x.man i).shards.length,cm,by rw [an_,an_];exact hcell 3 _ rfl,(x.man i).blocks,by rw [an_,an_];exact hcell 4 _ rfl,str (x.man i).root,by rw [an_,an_];exact hcell 5 _ rfl,?_⟩
  refine q4_ hL.ok hq1.sl λw3 g3=>⟨_,_,rfl,hF2.reset.after g3,λw4 hF4=>hK w4 (hF4.chg.same h.blk (hF4.blk 0 rfl))⟩
 ·obtain ⟨v,hv⟩:=h.has i hi1 hi2 hk
  exact absurd hv (hno v)
structure Rp where
 ready:Int
 prepared:Int
 done:Int
 heard:Bool
 at_:Int
def rpC (r:Rp):List Value:=[.int .i64 r.ready,.int .i64 r.prepared,.int .i64 r.done,.bool r.heard,.int .i64 r.at_]
theorem dx_ (r:Rp):(rpC r).length=5:=rfl
structure ActS where
 x:PubS
 a:Nat
 bn:Nat
 reps:List Rp
def actC (s:ActS):Array Value:=#[.pointer (some ⟨s.x.p,0,none⟩),.slice (some ⟨s.bn,0,none⟩) s.reps.length s.reps.length]
structure ba_ (N:Nat) (w:World) (s:ActS):Prop where
 blk:w.heap[s.a]? = some (.cells (actC s) T.bG_ (0,0))
 row:w.heap[s.bn]? = some (.cells (s.reps.flatMap rpC).toArray T.aQ_ (0,0))
 pub:aK_ N w s.x
 la:N≤s.a
 ln:N≤s.bn
 n1:1≤s.reps.length
 n4:s.reps.length≤4
 off:¬s.x.reg s.a∧¬s.x.reg s.bn
 ex:s.x.ex s.bn
theorem ba_.grow {N:Nat} {w w':World} {s:ActS} (h:ba_ N w s) (g:Grow w w'):ba_ N w' s:=⟨Grow.get g h.blk,Grow.get g h.row,h.pub.grow g,h.la,h.ln,h.n1,h.n4,h.off,h.ex⟩
theorem ba_.sl {N:Nat} {w:World} {s:ActS} (h:ba_ N w s):Sl w (some ⟨s.bn,0,none⟩) (s.reps.flatMap rpC):=.inr ⟨s.bn,0,rfl,_,_,_,h.row,λi hi=>by simp⟩
theorem ba_.e {N:Nat} {w:World} {s:ActS} (h:ba_ N w s):Fs (· = s.a) w [⟨s.a,actC s,T.bG_,true⟩] w:=(Fr.init _ w).entry h.blk (λx h=>by cases h) λ_=>rfl
def ActS.tgt (s:ActS):Nat:=if s.x.last≤s.x.com then 0 else s.x.last
theorem dN_ {N:Nat} {w:World} {s:ActS} (h:ba_ N w s) {K:Value→World→Prop} (hK:∀w',Grow w w'→K (.int .i64 s.tgt) w'):aa_ PR F.g7_ ⟨[.pointer (some ⟨s.a,0,none⟩)]⟩ w K:=by
 refine jd_ s.a _ _ _ _ (· = s.a) K w h.e ⟨rfl,trivial⟩ λw0 hF0=>?_
 have g0:Grow w w0:=hF0.grow
 have hp:=h.pub.grow g0
 unfold ActS.tgt at hK
 refine fZ_ hp ⟨_,rfl,hF0.reset,ak_ hp ⟨_,rfl,hF0.reset,λhle=>?_,λhgt=>fZ_ hp ⟨_,rfl,hF0.reset,?_⟩⟩⟩
 ·have:=hK w0 g0;rw [if_pos (by omega)] at this;exact this
 ·have:=hK w0 g0;rw [if_neg (by omega)] at this;exact this
def bD_ (reps:List Rp) (now:Int):Nat→List Int
 | 0=>[]
 | k+1=>bD_ reps now k++(match reps[k]? with | some r=>if r.heard=true∧r.at_≥now - 12 then [((k+1:Nat):Int)] else [] | none=>[])
theorem h7_ (reps:List Rp) (now:Int):∀k,(bD_ reps now k).length≤k
 | 0=>Nat.le_refl _
 | k+1=>by
  have:=h7_ reps now k
  rw [bD_,List.length_append]
  split
  ·split <;> simp <;> omega
  ·simp;omega
theorem sj_ {w:World} {ak bn:Nat} {p:Option Addr} {reps:List Rp} (hb:w.heap[ak]? = some (.cells #[.pointer p,.slice (some ⟨bn,0,none⟩) reps.length reps.length] T.bG_ (0,0))) (hr:w.heap[bn]? = some (.cells (reps.flatMap rpC).toArray T.aQ_ (0,0))) (h4:reps.length≤4) {now:Int} (hn:0≤now∧now≤1000000) {K:Value→World→Prop}
  (hK:∀w' q c,Grow w w'→Sl w' q ((bD_ reps now reps.length).map iv)→K (.slice q (bD_ reps now reps.length).length c) w'):aa_ PR F.eL_ ⟨[.pointer (some ⟨ak,0,none⟩),.int .i64 now]⟩ w K:=by
 have ha:=aj_ hb
 have hsl:∀ {w':World},Grow w w'→Sl w' (some ⟨bn,0,none⟩) (reps.flatMap rpC):=λg=>.inr ⟨bn,0,rfl,_,_,_,Grow.get g hr,λi hi=>by simp⟩
 refine l9_ ak _ _ _ _ now (· = ak) K w ((Fr.init _ w).entry hb (λx h=>by cases h) λ_=>rfl) ⟨rfl,trivial⟩ ?_
 refine ⟨λq l c i m w'=>∃k:Nat,i=k∧k≤reps.length∧m=reps.length - k∧Own T.int 1 w' q c ((bD_ reps now k).map iv)∧l=(bD_ reps now k).length∧l≤c∧Off (λj=>j<w.heap.size) q,⟨_,0,rfl,by omega,rfl,.nil _ _ _,rfl,Nat.le_refl _,λa h=>by cases h⟩,?_⟩
 rintro q l c i D m w0 ⟨k,rfl,hk,rfl,ho,rfl,hlc,of⟩ hF0
 have g00:Grow w w0:=hF0.chg.same hb (hF0.blk 0 rfl)
 refine ⟨λhlt=>?_,λhge=>?_⟩
 ·have hk':k<reps.length:=by omega
  refine (hsl g00).rdN dx_ (by decide) rfl hk' hk' λa hc=>?_
  have hnext:bD_ reps now (k+1)=bD_ reps now k++(if reps[k].heard=true∧reps[k].at_≥now - 12 then [((k+1:Nat):Int)] else []):=by
   rw [bD_,List.getElem?_eq_getElem hk']
  have hkk:IntKind.wrap .i64 ((k:Int)+1)=((k+1:Nat):Int):=by rw [w64 (by omega) (by omega)];omega
  refine ⟨_,hc 0 _ rfl,_,hc 1 _ rfl,_,hc 2 _ rfl,_,hc 3 _ rfl,_,hc 4 _ rfl,λl4 hl4=>?_⟩
  rw [w64 (by omega) (by omega)]
  have skip:∀ {L:List Blk} {w4:World},Fr (· = ak) w w0 [l4] L w4→¬(reps[k].heard=true∧reps[k].at_≥now - 12)→∃l9:Nat,l9<reps.length - k∧∃k':Nat,IntKind.wrap .i64 ((k:Int)+1)=k'∧k'≤reps.length∧l9=reps.length - k'∧Own T.int 1 w4 q c ((bD_ reps now k').map iv)∧(bD_ reps now k).length=(bD_ reps now k').length∧(bD_ reps now k).length≤c∧Off (λj=>j<w.heap.size) q:=λhF4 hno=>by
   have e:bD_ reps now (k+1)=bD_ reps now k:=by rw [hnext,if_neg hno,List.append_nil]
   exact ⟨reps.length - (k+1),by omega,k+1,hkk,by omega,rfl,by rw [e];exact ho.grow (hF4.unM hl4).grow,by rw [e],hlc,of⟩
  refine ⟨λhh=>⟨λhat l5 hl5 w1 hF1=>?_,λhat w1 hF1=>skip hF1 (λhy=>hat hy.2)⟩,λhh w1 hF1=>skip hF1 (λhy=>by rw [hh] at hy;exact absurd hy.1 (by decide))⟩
  have hF1':=hF1.unM hl4
  rw [hkk] at hF1' ⊢
  refine gQ_ (ys:=[((k+1:Nat):Int)]) (ho.grow hF1'.grow) (by simp) hlc (hF1'.sl 1 rfl) rfl (by have:=h7_ reps now k;omega) λq2 c2 w2 ho2 hc2 g2 hq2=>?_
  have hF2:=hF1'.app2 g2 w.heap.size w0.heap.size of (λa ha=>ho.lt a ha) (λx hx=>by simp at hx;rcases hx with rfl | rfl;exact .inl ha;exact .inr hl5) (Nat.le_refl _)
  have e:bD_ reps now (k+1)=bD_ reps now k++[((k+1:Nat):Int)]:=by rw [hnext,if_pos ⟨hh,hat⟩]
  exact ⟨_,_,_,rfl,hF2,reps.length - (k+1),by omega,k+1,rfl,by omega,rfl,by rw [e];exact ho2,by rw [e,List.length_append];rfl,hc2,of.next hq2 (by have:=hF1'.chg.size;omega)⟩
 ·have:k=reps.length:=by omega
  subst this
  exact hK w0 q c g00 ho.sl
theorem q5_ {N:Nat} {w:World} {s:ActS} (h:ba_ N w s) {now:Int} (hn:0≤now∧now≤1000000) {K:Value→World→Prop}
  (hK:∀w' q c,Grow w w'→Sl w' q ((bD_ s.reps now s.reps.length).map iv)→K (.slice q (bD_ s.reps now s.reps.length).length c) w'):aa_ PR F.eL_ ⟨[.pointer (some ⟨s.a,0,none⟩),.int .i64 now]⟩ w K:=sj_ h.blk h.row h.n4 hn hK
end Go.Vc
namespace Go.Vc
open Go
theorem sP_ {a b x y:List UInt8} (ha:a.length≤1099511627776) (hb:b.length≤1099511627776) (h:ao_ [a]++x=ao_ [b]++y):a=b∧x=y:=by
 have e:∀(c z:List UInt8),ao_ [c]++z=ac_ c.length++(c++z):=λc z=>by simp [ao_]
 obtain ⟨p,h1,h2⟩:=nv_ (l:=ao_ [a]++x) (a:=0) (t:=a) (r:=x) ha (by rw [List.drop_zero,e])
 obtain ⟨q,h3,h4⟩:=nv_ (l:=ao_ [b]++y) (a:=0) (t:=b) (r:=y) hb (by rw [List.drop_zero,e])
 rw [h] at h1 h2
 rw [h1] at h3
 cases h3
 rw [h2] at h4
 exact ⟨rfl,h4⟩
theorem ta_ {m m':Man} (h1:m.ok) (h2:m'.ok) (h:aH_ m=aH_ m'):m.version=m'.version:=by
 have e:∀(m:Man),∃r,aH_ m=ac_ m.version.toNat++r:=λm=>⟨_,by unfold aH_ Man.nums aM_;simp;rfl⟩
 obtain ⟨r,e1⟩:=e m
 obtain ⟨r',e2⟩:=e m'
 have v1:=h1.version
 have v2:=h2.version
 have g1:=b7_ (n:=m.version.toNat) (by omega) r
 have g2:=b7_ (n:=m'.version.toNat) (by omega) r'
 rw [← e1,h,e2,g2] at g1
 injection g1 with g1
 injection g1 with g1
 omega
theorem kk_ {mn:Man} {list:List (List UInt8)} : ∀ {rs:List RecO} {s:PSt},okR s rs→RecO.ver mn list∈rs→VerL mn list∧((s.last+1:Nat):Int)≤mn.version
 | [],s,_,h=>by cases h
 | r :: rs,s,h,hm=>by
  have hst:s.last≤(r.step s).last:=by cases r <;> simp [RecO.step]
  rcases List.mem_cons.1 hm with e | hm
  ·have h1:=h.1
   rw [← e] at h1
   exact ⟨h1.1,by rw [h1.2];exact Int.le_refl _⟩
  ·have:=kk_ h.2 hm
   exact ⟨this.1,by omega⟩
theorem nK_ {mn mn':Man} {list list':List (List UInt8)} (hv:mn.version=mn'.version):∀ {rs:List RecO} {s:PSt},okR s rs→RecO.ver mn list∈rs→RecO.ver mn' list'∈rs→RecO.ver mn list=RecO.ver mn' list'
 | [],s,_,h,_=>by cases h
 | r :: rs,s,h,hm,hm'=>by
  rcases List.mem_cons.1 hm with e | hm
  ·rcases List.mem_cons.1 hm' with e' | hm'
   ·rw [e,e']
   ·have h1:=h.1
    rw [← e] at h1
    have:=kk_ h.2 hm'
    rw [← e] at this
    have h2:(((s.last+1)+1:Nat):Int)≤mn'.version:=this.2
    have h3:=h1.2
    omega
  ·rcases List.mem_cons.1 hm' with e' | hm'
   ·have h1:=h.1
    rw [← e'] at h1
    have:=kk_ h.2 hm
    rw [← e'] at this
    have h2:(((s.last+1)+1:Nat):Int)≤mn.version:=this.2
    have h3:=h1.2
    omega
   ·exact nK_ hv h.2 hm hm'
theorem nF_ {recs:List (List UInt8)} {last com:Nat} {man:Nat→Man} (h:Rep recs last com man) {mn:Man} {list list':List (List UInt8)} (h1:VerL mn list) (h2:VerL mn list') (m1:recV mn list∈recs) (m2:recV mn list'∈recs):list=list':=by
 obtain ⟨hl,rs,rfl,hok,_⟩:=h
 have find:∀ {ls:List (List UInt8)},VerL mn ls→recV mn ls∈rs.map RecO.bytes→∃mn2 l2,RecO.ver mn2 l2∈rs∧mn2.version=mn.version∧recV mn2 l2=recV mn ls:=λ{ls} hL hm=>by
  have hlen:=hl _ hm
  obtain ⟨r,hr,e⟩:=List.mem_map.1 hm
  cases r with
  | com n=>
   have e':recC n=recV mn ls:=e
   simp [recC,recV] at e'
  | ver mn2 l2=>
   have e':recV mn2 l2=recV mn ls:=e
   have hv:=kk_ hok hr
   refine ⟨mn2,l2,hr,ta_ hv.1.ok hL.ok ?_,e'⟩
   have hlen2:(recV mn2 l2).length≤60000:=by rw [e'];exact hlen
   have b1:(aH_ mn2).length≤(recV mn2 l2).length:=by unfold recV ao_;simp;omega
   have b2:(aH_ mn).length≤(recV mn ls).length:=by unfold recV ao_;simp;omega
   unfold recV at e'
   rw [List.append_assoc,List.append_assoc] at e'
   exact (sP_ (by omega) (by omega) (List.append_cancel_left e')).1
 obtain ⟨a,la,ha,va,ea⟩:=find h1 m1
 obtain ⟨b,lb,hb,vb,eb⟩:=find h2 m2
 have:=nK_ (va.trans vb.symm) hok ha hb
 cases this
 have ef:recV mn list=recV mn list':=ea.symm.trans eb
 unfold recV at ef
 have ef2:=List.append_cancel_left ef
 rw [← h1.cut,← h2.cut,ef2]
end Go.Vc
namespace Go.Vc
open Go
def BlkR (x:PubS) (ver i:Int) (m:MsgL):Prop:=
 ∃(v j:Nat) (list:List (List UInt8)),ver=v∧i=j∧1≤v∧v≤x.last∧(x.last<v+3∨v=x.com)∧VerL (x.man v) list∧recV (x.man v) list∈x.recs∧j<list.length∧
  m=⟨3,ver,i,list.getD j [],bm_ (list.map bp_) list.length j 0 list.length⟩
theorem BlkR.uniq {x y:PubS} {N:Nat} {w:World} (hx:aK_ N w x) (e1:x.recs=y.recs) (e4:x.man=y.man) {ver i:Int} {m m':MsgL} (h:BlkR x ver i m) (h':BlkR y ver i m'):m=m':=by
 obtain ⟨v,j,list,rfl,rfl,_,_,_,hL,hin,hj,rfl⟩:=h
 obtain ⟨v',j',list',ev,ej,_,_,_,hL',hin',hj',rfl⟩:=h'
 have e:v'=v:=by omega
 have e':j'=j:=by omega
 subst e;subst e'
 rw [← e4] at hL' hin'
 rw [← e1] at hin'
 have:=nF_ hx.rep hL hL' hin hin'
 subst this
 rfl
theorem eD_ {N:Nat} {w:World} {x:PubS} (h:aK_ N w x) {ver i:Int} (hv : -9223372036854775808≤ver∧ver≤9223372036854775807) {K:Value→World→Prop}
  (h1:∀w' m q c,Grow w w'→BlkR x ver i m→Own T.string 1 w' q c (m.proof.map sv8')→m.proof.length≤c→Off (λk=>k<w.heap.size) q→K (.tuple #[fM_ m q c,.nilIface]) w')
  (h2:∀w' c,Grow w w'→(∀m,¬BlkR x ver i m)→K (.tuple #[msg0,.iface T.am_ (.int .i64 c)]) w'):aa_ PR F.hX_ ⟨[.pointer (some ⟨x.p,0,none⟩),.int .i64 ver,.int .i64 i]⟩ w K:=by
 obtain ⟨hsl,hsc,hsr⟩:=h.small
 have h0:Fs (· = x.p) w [⟨x.p,pubC x.bj x.each x.last x.com x.m,T.aR_,true⟩] w:=(Fr.init _ w).entry h.blk (λx h=>by cases h) λ_=>rfl
 refine pH_ x.p (some ⟨x.bj,0,none⟩) x.each x.last x.com (some x.m) ver i (· = x.p) K w h0 ⟨rfl,trivial⟩ λl0 hl0 w0 hF0=>?_
 have g0:Grow w w0:=hF0.grow
 refine ni_ (h.grow g0) hv (λw1 v b c list g1 e k1 k2 k3 hver hL hT hin hvv=>?_) λw1 g1 hno=>?_
 ·subst e
  have hF1:=hF0.after g1
  refine ⟨_,_,_,rfl,hF1,λl1 hl1=>⟨λ_ w2 hF2=>?_,(λt x h=>by cases h),.inl rfl⟩⟩
  have g2:Grow w1 w2:=(hF2.unM hl1).grow
  have hT2:=hT.keep (D':=x.dom) g2 (λ_ _ e=>e.elim) (λ_ _ e=>e)
  have hbl:=hL.ok.blocks.2
  have hb2:=hL.blocks
  have g02:w.heap.size≤w2.heap.size:=hF2.chg.size
  refine oL_ hT2 (by omega) (λw3 q cc hi0 hi1 g3 ho hc hof=>⟨_,_,_,_,rfl,hF2.reset.after g3,λ_=>?_,(λt x h=>by cases h),.inl rfl⟩) λhbad=>⟨_,_,_,_,rfl,hF2.reset,(λh=>by cases h),(λt v' he w5 hF5=>?_),.inr ⟨_,_,rfl⟩⟩
  ·obtain ⟨j,rfl⟩:∃j:Nat,i=j:=⟨i.toNat,by omega⟩
   have hj:j<list.length:=by omega
   rw [Int.toNat_natCast] at ho hc ⊢
   obtain ⟨qm,cm,ql,cl,hb1,hb0,hq1,hq2,hlc⟩:=hver.keep (D':=x.dom) (g2.trans g3) (λ_ _ e=>e.elim) (λ_ _ e=>e)
   refine ad_.2 (ad_.2 (ad_.2 ⟨ql,list.length,cl,by rw [an_,ap_ hb1];rfl,?_⟩))
   refine hq2.sl.rd (v:=sv8' list[j]) (by simp) (by omega) (by simp [hj]) λa ha=>⟨_,ha,λw4 hF4=>?_⟩
   have hF3:=hF2.reset.after g3
   have gw:Grow w w4:=hF4.chg.same h.blk (hF4.blk 0 rfl)
   have:=h1 w4 ⟨3,(v:Nat),(j:Nat),list.getD j [],bm_ (list.map bp_) list.length j 0 list.length⟩ q cc gw ⟨v,j,list,rfl,rfl,k1,k2,k3,hL,hin,hj,rfl⟩ (ho.keep hF4.stp λa ha e=>by
    have:=hof a ha
    have e':a.block=l0:=by simpa using e
    have:=hF0.lt _ (List.mem_of_getElem? (i:=1) rfl)
    have:=g1.size
    have:=g2.size
    simp only [] at *
    omega) hc (hof.mono g02)
   have eg:list.getD j []=list[j]:=by simp [List.getD,hj]
   rw [eg] at this
   exact this
  ·have:=h2 w5 2 (hF5.chg.same h.blk (hF5.blk 0 rfl)) λm hm=>?_
   ·exact this
   ·obtain ⟨v',j,list',e1,rfl,_,_,_,hL',hin',hj',_⟩:=hm
    have e:v'=v:=by omega
    subst e
    have:=nF_ h.rep hL hL' hin hin'
    subst this
    exact hbad ⟨by omega,by omega⟩
 ·have hF1:=hF0.after g1
  refine ⟨_,_,_,rfl,hF1,λl1 hl1=>⟨(λh=>by cases h),(λt v' he w6 hF6=>?_),.inr ⟨_,_,rfl⟩⟩⟩
  have hF6':Grow w w6:=hF6.chg.same h.blk (hF6.blk 0 rfl)
  exact h2 w6 13 hF6' λm hm=>by
   obtain ⟨v',j,list',rfl,_,k1,k2,k3,_⟩:=hm
   obtain ⟨v2,hv2⟩:=h.has v' k1 k2 k3
   exact hno v2 hv2
end Go.Vc
namespace Go.Vc
open Go Go.MapKept
theorem kv_ {reps:List Rp} {now:Int} : ∀ {k:Nat},k≤reps.length→∀ {z:Int},z∈bD_ reps now k→∃j:Nat,∃hj:j<reps.length,z=((j+1:Nat):Int)∧reps[j].heard=true∧reps[j].at_≥now - 12
 | 0,_,z,h=>by cases h
 | k+1,hk,z,h=>by
  rw [bD_,List.mem_append] at h
  rcases h with h | h
  ·exact kv_ (by omega) h
  ·rw [List.getElem?_eq_getElem (by omega)] at h
   simp only [] at h
   split at h
   ·rename_i hc
    exact ⟨k,by omega,by simpa using h,hc.1,hc.2⟩
   ·cases h
theorem kp_ {reps:List Rp} {now:Int} {j:Nat} (hj:j<reps.length) (h:reps[j].heard=true∧reps[j].at_≥now - 12):∀ {k:Nat},j<k→((j+1:Nat):Int)∈bD_ reps now k
 | 0,hk=>by cases hk
 | k+1,hk=>by
  rw [bD_,List.mem_append]
  by_cases e:j=k
  ·subst e
   right
   rw [List.getElem?_eq_getElem hj]
   simp only []
   rw [if_pos h];exact List.mem_singleton.2 rfl
  ·exact .inl (kp_ hj h (by omega))
theorem rw_ {N:Nat} {w:World} {s:ActS} (h:ba_ N w s) {j i:Nat} (hj:j<s.reps.length) {v:Value} (hv:(rpC s.reps[j])[i]? = some v) (hi:i<5):w.cell? ⟨s.bn,j*5+i,none⟩=some v:=by
 rw [ap_ h.row]
 have:=fT_ dx_ (l:=s.reps) hj hi
 rw [List.getElem?_toArray,this,hv]
theorem p7_ {N:Nat} {w:World} {s:ActS} (h:ba_ N w s) {bx:Nat} (hb:w.heap[bx]? = some (.cells #[.pointer (some ⟨s.a,0,none⟩)] T.pN_ (0,0))) {j:Nat} (hj:j<s.reps.length) {K:Value→World→Prop}
  (hK:∀w' t,Grow w w'→(t=true↔s.reps[j].prepared<s.tgt)→K (.bool t) w'):aa_ PR F.fG_ ⟨[.int .i64 ((j+1:Nat):Int),.pointer (some ⟨bx,0,none⟩)]⟩ w K:=by
 have h4:=h.n4
 refine hd_ _ _ S0 K w λw0 hF0=>⟨λw'=>Grow w w',hF0.gr,ad_.2 ⟨some ⟨s.a,0,none⟩,λw1 g=>by rw [ap_ (Grow.get g hb)];rfl,ad_.2 (ad_.2 (ad_.2 ⟨some ⟨s.bn,0,none⟩,s.reps.length,s.reps.length,λw1 g=>by rw [an_,ap_ (Grow.get g h.blk)];rfl,ad_.2 ⟨?_,?_,ad_.2 (ad_.2 ⟨s.reps[j].prepared,λw1 g=>?_,ad_.2 ⟨some ⟨s.a,0,none⟩,λw1 g=>by rw [ap_ (Grow.get g hb)];rfl,?_⟩⟩)⟩⟩))⟩⟩
 ·rw [w64 (by omega) (by omega)];omega
 ·rw [w64 (by omega) (by omega)];omega
 ·rw [w64 (by omega) (by omega),an_,an_]
  have e:0+Int.toNat (((j+1:Nat):Int) - 1)*5+1=j*5+1:=by omega
  rw [e]
  exact rw_ (h.grow g) hj rfl (by omega)
 ·refine dN_ (h.grow hF0.gr) λw5 g5=>⟨_,rfl,hF0.reset.after g5,hF0.gr.trans g5,λhlt=>hK w5 true (hF0.gr.trans g5) ⟨λ_=>hlt,λ_=>rfl⟩,λhge=>hK w5 false (hF0.gr.trans g5) ⟨(λh=>by cases h),λh=>absurd h hge⟩⟩
def dW_ (s:ActS) (now:Int):Prop:=0<s.tgt∧(∃r∈s.reps,r.heard=true∧r.at_≥now - 12)∧∀r∈s.reps,r.heard=true→r.at_≥now - 12→(s.tgt:Int)≤r.prepared
theorem nb_ {N:Nat} {w:World} {s:ActS} (h:ba_ N w s) {now:Int} (hn:0≤now∧now≤1000000) {K:Value→World→Prop}
  (hK:∀w' t,Grow w w'→(t=true↔dW_ s now)→K (.bool t) w'):aa_ PR F.g6_ ⟨[.pointer (some ⟨s.a,0,none⟩),.int .i64 now]⟩ w K:=by
 have h4:=h.n4
 refine jc_ s.a _ _ _ _ now (· = s.a) K w h.e ⟨rfl,trivial⟩ λbx hbx w0 hF0=>?_
 have g0:Grow w w0:=hF0.grow
 have hbb:=hF0.blk 1 rfl
 refine q5_ (h.grow g0) hn λw1 q c g1 hsl=>⟨_,_,_,rfl,hF0.reset.after g1,?_⟩
 have g01:=g0.trans g1
 have hF1:=hF0.reset.after g1
 refine dN_ (h.grow g01) λw2 g2=>⟨_,rfl,hF1.after g2,?_⟩
 have hF2:=hF1.after g2
 have g02:=g01.trans g2
 have h2:=h.grow g02
 have hb2:=hF2.blk 1 rfl
 have hll:=h7_ s.reps now s.reps.length
 refine ⟨λhtg=>⟨λhlen=>?_,λhlen=>hK w2 false g02 ⟨(λh=>by cases h),λhh=>?_⟩⟩,λhtg=>hK w2 false g02 ⟨(λh=>by cases h),λhh=>absurd hh.1 (by omega)⟩⟩
 ·have hF20:Fs S0 w2 [] w2:=Fr.init _ w2
  refine cC_ q _ c _ S0 _ w2 ?_
  refine dg_ q _ c bx (some ⟨s.a,0,none⟩) S0 _ w2 ((Fr.init _ w2).entry (wr:=false) hb2 (λx h=>by cases h) (λh=>by cases h)) ?_
  refine ⟨λi m w'=>∃k:Nat,i=k∧k≤(bD_ s.reps now s.reps.length).length∧m=(bD_ s.reps now s.reps.length).length - k∧∀z∈(bD_ s.reps now s.reps.length).take k,∀(j:Nat) (hj:j<s.reps.length),z=((j+1:Nat):Int)→(s.tgt:Int)≤s.reps[j].prepared,⟨_,0,rfl,by omega,rfl,λz hz=>by simp at hz⟩,?_⟩
  rintro i D m w3 ⟨k,rfl,hk,rfl,hall⟩ hF3
  have g3:Grow w2 w3:=hF3.gr
  refine ⟨λhlt=>?_,λhge=>?_⟩
  ·have hk':k<(bD_ s.reps now s.reps.length).length:=by omega
   obtain ⟨j,hj,hz,hhe,hat⟩:=kv_ (Nat.le_refl _) (List.getElem_mem hk')
   refine (hsl.grow (g2.trans g3)).rd (v:=iv (bD_ s.reps now s.reps.length)[k]) (by simp) (by omega) (by simp [hk']) λa ha=>⟨_,ha,?_⟩
   rw [hz]
   refine p7_ (h2.grow g3) (Grow.get g3 hb2) hj λw4 t g4 ht=>⟨t,rfl,λhtt=>?_,λhtf=>?_⟩
   ·have hF4:=hF3.after g4
    refine ⟨hF4,_,rfl,hF4.sub (List.nil_sublist _),λ_=>⟨true,rfl,(λ_=>⟨hF2.after hF4.gr,hK w4 false (g02.trans hF4.gr) ⟨(λh=>by cases h),λhh=>?_⟩⟩),λh=>by cases h⟩,λhlt=>absurd (by omega:(k:Int)≥0) hlt⟩
    have h1:=ht.1 htt
    have h2:=hh.2.2 _ (List.getElem_mem hj) hhe hat
    omega
   ·have hF4:=hF3.after g4
    refine ⟨hF4,(bD_ s.reps now s.reps.length).length - (k+1),by omega,k+1,by rw [w64 (by omega) (by omega)];rfl,by omega,rfl,λz hz' j' hj' e'=>?_⟩
    rw [List.take_succ_eq_append_getElem hk',List.mem_append,List.mem_singleton] at hz'
    rcases hz' with hz' | rfl
    ·exact hall z hz' j' hj' e'
    ·have:j=j':=by omega
     subst this
     have hnot:¬s.reps[j].prepared<s.tgt:=λhlt=>by rw [ht.2 hlt] at htf;cases htf
     omega
  ·refine ⟨_,rfl,hF3.sub (List.nil_sublist _),λh=>absurd h (by omega),λ_=>⟨false,rfl,(λh=>by cases h),λ_=>⟨hF2.after g3,hK w3 true (g02.trans g3) ⟨λ_=>⟨by omega,?_,λr hr hhe hat=>?_⟩,λ_=>rfl⟩⟩⟩⟩
   ·have hne:0<(bD_ s.reps now s.reps.length).length:=by omega
    obtain ⟨j,hj,hz,hhe,hat⟩:=kv_ (Nat.le_refl _) (List.getElem_mem hne)
    exact ⟨_,List.getElem_mem hj,hhe,hat⟩
   ·obtain ⟨j,hj,rfl⟩:=List.getElem_of_mem hr
    refine hall _ ?_ j hj rfl
    rw [List.take_of_length_le (by omega)]
    exact kp_ hj ⟨hhe,hat⟩ hj
 ·obtain ⟨r,hr,hhe,hat⟩:=hh.2.1
  obtain ⟨j,hj,rfl⟩:=List.getElem_of_mem hr
  have:=List.length_pos_of_mem (kp_ hj ⟨hhe,hat⟩ hj)
  omega
end Go.Vc
