/-
  A part of the proof of the statement FetchNoneCardSaid, in Lean: Aw20, MirF7, Fn1, RoFN. By an AI agent.
-/
import Derived.Test.YtcfbeaibcgjihaaGreatDoorP12
import Derived.Test.YtcfbeaibcgjihaaGreatDoorP02
import Derived.Test.YtcfbeaibcgjihaaGreatDoorP06
import Derived.Test.YtcfbeaibcgjihaaGreatDoorP11
import Derived.Test.YtcfbeaibcgjihaaGreatDoorP08
set_option linter.unusedSimpArgs false
set_option linter.unusedVariables false
set_option maxRecDepth 1000000
namespace Go.Vc
open Go Go.MapKept
theorem c9_ (a:Addr):a.add 0=a:=by unfold Addr.add;simp
theorem bP_ {w:World} {a:Addr} {v:Value} (h:Sl w (some a) [v]) {K:Addr→Prop} (hK:∀a2,w.cell? a2=some v→K a2):Dr (some a) (λa1=>(0:Int)≤0∧(0:Int)<((1:Nat):Int)∧Dr (some (Addr.add a1 0)) K):=by
 have:=h.rd (n:=0) (l:=1) (v:=v) (K:=K) rfl (Int.le_refl 0) rfl hK
 simpa using this
theorem Sl.d0_ {w:World} {a:Addr} {v:Value} (h:Sl w (some a) [v]):a.block<w.heap.size:=by
 rcases h with h | ⟨b,o,e,cs,T0,fz,hh,_⟩
 ·cases h
 ·cases e;exact heap_lt hh
theorem aJ_ {v:HV} (hb:v.bl=[]) {B:Nat} (hB:v.man.blocks=B):ak_ v=(List.range B).map λn:Nat=>(n:Int):=by
 unfold ak_ aB_
 rw [hB,Int.toNat_natCast]
 exact List.filter_eq_self.2 λi _=>by rw [hb];simp
theorem c3_ {f:FS} {v:HV} (ha:f.wt.askd=[]) (hb:v.bl=[]) (hw:f.wt.win=4) {now:Int} {n:Nat} (hn:n≠0) {B:Nat} (hB:v.man.blocks=B):goL f v now n=((List.range B).map λn:Nat=>(n:Int)).take 4:=by
 have e1:a4_ f now=[]:=by unfold a4_;rw [ha];rfl
 unfold goL
 rw [if_neg hn,e1,hw]
 unfold bW_
 rw [aJ_ hb hB,List.filter_eq_self.2 λi _=>by simp]
 rfl
theorem bY_ {w:World} {K:Value→World→Prop} (hK:∀w',Grow w w'→K (.bool true) w'):CallV PR F.ladinglaw20_awake ⟨[]⟩ w K:=by
 refine ladinglaw20_awake S0 K w λl0 hl0 l1 hl1 w0 hF0=>?_
 refine bt_ (l:=[(0,1)]) (hF0.sl 1 rfl) (hF0.sl 0 rfl) (λw1 a pc b m list g1 hsa hv hP _ hg=>⟨_,_,_,rfl,hF0.reset.after g1,(λh=>by cases h),λa0 ha0=>?_⟩) λw1 g1 hno=>absurd ⟨by decide,by decide,by decide,by decide,λe he=>by simp at he;subst he;decide⟩ hno
 have hF1:Fs S0 w [] w1:=(hF0.reset.sub (L':=[]) (List.nil_sublist _)).after g1
 have hlen:=dT_ hP
 have hL:=hP.ver
 have hal:=hsa.d0_
 have sw1:w.heap.size≤w1.heap.size:=hF1.gr.size
 obtain ⟨qm,cm,ql,cl,hb,hDb,hqm,hql,hlc⟩:=id hv
 have hbl:=heap_lt hb
 refine bP_ hsa λa2 ha2=>⟨_,ha2,?_⟩
 refine br_ hv hL hP.sh (n:=9) (by decide) λw2 f v HF hvs hvm hvb hvo hver htr has hwin htmo hsl hlg hrl hws g2 hlow=>⟨_,_,true,rfl,(λ_=>⟨hF1.after g2,λl4 hl4 w3 hF3=>?_⟩),λh=>by cases h⟩
 have hB:v.man.blocks=((1:Nat):Int):=by rw [hvm,hL.blocks,hlen]
 have g3:Grow w2 w3:=hF3.grow
 have hfl:=HF.at_.lt
 have s2:=g2.size
 have s3:=g3.size
 have feSA:∀k,feS f k→feA f k:=λk hk=>by
  rcases hk with h | h | h | h
  ·exact .inl h
  ·exact .inr (.inl h)
  ·exact .inr (.inr (.inl (.inl h)))
  ·exact .inr (.inr (.inr h))
 have hgo:goL f v 0 [(0:Int)].length=[0]:=by
  rw [c3_ has hvb hwin (by decide) hB];rfl
 refine cN_ (HF.grow g3) (now:=0) ⟨by decide,by decide⟩ (by rw [htr];intro p hp;cases hp) (ps:=[0]) (by decide) (hF3.sl 0 rfl) (λa ha=>by
  cases ha
  have h1:=hfl f.wt.ak (.inr (.inl (.inr (.inr rfl))))
  have h2:=hfl f.tr (.inr (.inr (.inr rfl)))
  exact ⟨by show l4≠_;omega,by show l4≠_;omega⟩) λw4 q4 c4 HT ho4 ch4 hq4 _=>?_
 rw [hgo] at ho4 ⊢
 have hF4:=hF3.step ch4 (λz hz e=>by simp at hz;subst hz;have:=hfl _ (feSA _ e);simp only [] at this;omega) λk hk e=>by have:=hlow k (feSA k e);omega
 have keep1:∀k,k<w1.heap.size→¬feS f k:=λk hk e=>by have:=hlow k (feSA k e);omega
 have g13:Grow w1 w3:=g2.trans g3
 have hsa4:Sl w4 (some a) [.pointer (some ⟨b,0,none⟩)]:=(hsa.grow g13).keep ch4 λa' ha'=>by cases ha';exact keep1 _ hal
 have hb4:=ch4.get (Grow.get g13 hb) (keep1 b hbl)
 have hF4':Fs S0 w [] w4:=hF4.sub (L':=[]) (List.nil_sublist _)
 have hqs:Sl w4 q4 ([((toV f [0] 0,0):Int × Int)].flatMap (askC f.ver)):=ho4.sl
 refine ⟨_,_,_,rfl,_,hF4,?_⟩
 refine bP_ hsa4 λa4 ha4=>⟨_,ha4,Dr_some.2 (Dr_some.2 (Dr_some.2 ⟨ql,list.length,cl,by rw [add_mk,cell_blk hb4];rfl,λ_=>?_,λhne=>absurd (by rw [hlen];rfl) hne⟩))⟩
 have rdq:∀ {K':Addr→Prop},(∀a8,(∀j v',(askC f.ver (toV f [0] 0,0))[j]? = some v'→w4.cell? (a8.add j)=some v')→K' a8)→Dr q4 (λa8=>(0:Int)≤0∧(0:Int)<(([(0:Int)].length:Nat):Int)∧Dr (some (Addr.add a8 0)) K'):=λ{K'} h=>by
  have:=hqs.rdN (bI_ f.ver) (by decide) (n:=0) (k:=0) (m:=1) (K:=K') rfl (by simp) (by decide) h
  simpa using this
 have hto:toV f [0] 0=0:=by
  unfold toV
  have:(0+ai_ f.trs 0)%(([(0:Int)].length:Nat):Int)=0:=by
   show (0+ai_ f.trs 0)%1=0
   omega
  rw [this];rfl
 refine rdq λa8 h8=>Dr_some.2 (Dr_some.2 ⟨_,by rw [c9_];exact h8 1 _ rfl,λ_=>?_,λh=>absurd rfl h⟩)
 refine rdq λa8 h8=>Dr_some.2 ⟨_,h8 0 _ rfl,λ_=>?_,λh=>absurd hto h⟩
 have e0:(0:Int)∈ak_ v:=by rw [aJ_ hvb hB];simp
 refine aS_ HT.at_ (λw5 g5 hall=>absurd ((HT.miss 0).2 e0) (hall 0)) λw5 i5 g5 hi5=>⟨false,rfl,(λh=>by cases h),λ_=>⟨hF4'.after g5,?_⟩⟩
 have hF5:=hF4'.after g5
 refine bP_ (hsa4.grow g5) λa15 ha15=>⟨_,ha15,Dr_some.2 (Dr_some.2 (Dr_some.2 ⟨ql,list.length,cl,by rw [add_mk,cell_blk (Grow.get g5 hb4)];rfl,?_⟩))⟩
 have HT5:=HT.grow g5
 have g5s:=g5.size
 have ch3s:=ch4.size
 refine ⟨λn lv w'=>(n=0∧lv=1∧Grow w5 w')∨(n=1∧lv=0∧∃f2 v2,al_ w' f2 v2∧f2.b=f.b∧∀i,¬f2.wt.miss i),⟨1,.inl ⟨rfl,rfl,.refl _ _⟩⟩,?_⟩
 rintro n D lv w6 (⟨rfl,rfl,g6⟩ | ⟨rfl,rfl,f2,v2,H2,hb2,hnm⟩) hF6
 ·refine ⟨λ_=>?_,λh=>absurd (by rw [hlen];decide) h⟩
  have g46:=g5.trans g6
  refine bP_ (hsa4.grow g46) λa20 ha20=>⟨_,ha20,?_⟩
  have hv6:VerO (λj=>j<w0.heap.size) w6 b m list:=by
   have h3:=hv.keep (D':=λj=>j<w0.heap.size) g13 (λ_ _ e=>e.elim) λ_ _ e=>e
   have s01:=g1.size
   refine ⟨qm,cm,ql,cl,Grow.get g46 hb4,hDb,?_,?_,hlc⟩
   ·obtain ⟨_,_,_,_,hb3,_,hq3,hl3,_⟩:=h3
    have e1:=Grow.get g13 hb
    rcases hqm with h | ⟨b0,o0,e0',hr,hd⟩
    ·exact .inl h
    ·have hlt:b0<w1.heap.size:=by obtain ⟨cs,T0,fz,hh,_⟩:=hr;exact heap_lt hh
     refine .inr ⟨b0,o0,e0',?_,hd⟩
     obtain ⟨cs,T0,fz,hh,hc⟩:=hr
     exact ⟨cs,T0,fz,Grow.get g46 (ch4.get (Grow.get g13 hh) (keep1 b0 hlt)),hc⟩
   ·rcases hql with h | ⟨b0,o0,e0',hr,hd⟩
    ·exact .inl h
    ·have hlt:b0<w1.heap.size:=by obtain ⟨cs,T0,fz,hh,_⟩:=hr;exact heap_lt hh
     refine .inr ⟨b0,o0,e0',?_,hd⟩
     obtain ⟨cs,T0,fz,hh,hc⟩:=hr
     exact ⟨cs,T0,fz,Grow.get g46 (ch4.get (Grow.get g13 hh) (keep1 b0 hlt)),hc⟩
  refine aT_ hv6 hL (i:=0) (λw7 q7 c7 _ _ g7 hs7 _=>⟨_,_,_,_,_,_,_,rfl,hF6.after g7,?_⟩) λw7 hno _=>absurd ⟨by decide,by rw [hlen];decide⟩ hno
  have HT7:=HT5.grow (g6.trans g7)
  have hj0:0<list.length:=by omega
  have hokP:=a8_ hL hj0
  have hvman:v.man=m:=hvm
  have hkv:(blkM m list 0).ver=(f.tick v 0 [(0:Int)].length).ver:=by show m.version=f.ver;rw [hver]
  have htext:=bX_ hL hj0
  have hvv:=hL.ok.version
  refine bv_ HT7 (m:=blkM m list 0) ⟨by show (logL f.h.recs).length≤_;omega,by show f.h.recs.length≤_;omega,by show f.h.d.ws.length≤_;omega⟩ hs7 (by omega) ⟨by show fitsI f.ver;rw [hver];exact ⟨by omega,by omega⟩,by show fitsI (((0:Nat):Int));exact ⟨by decide,by decide⟩⟩ (λw' _ h=>?_) (λw' _ _ _ h=>?_) (λw' e c f' _ _ _ _ hn _ _ _=>?_) (λw' _ _ _ hin _=>?_) (λw' c _ _ _ _ hc _=>?_) λw8 j sl _ _ _ hnew hle H8 ch8 hgr8 _=>?_
  ·rcases h with h | ⟨h,_⟩
   ·exact absurd hkv h
   ·exact absurd rfl h
  ·cases h
  ·rw [hvman] at hn;exact absurd hokP hn
  ·obtain ⟨p,hp,_⟩:=hin
   rw [hvb] at hp;cases hp
  ·rcases hc with ⟨_,hall⟩ | ⟨_,hgt⟩
   ·obtain ⟨n0,hn1,hn2⟩:=c4_ f.h (by rw [hvs,hsl];simp [hvb,hvo])
    exact absurd (hall n0 hn1) hn2
   ·omega
  ·have hF8:=(hF6.after g7).step ch8 (λz hz=>by cases hz) λk hk e=>by
    have:=hlow k (feSA k e);omega
   refine ⟨true,.nilIface,rfl,(λ_=>⟨hF8,λ_=>⟨0,by decide,.inr ⟨by decide,rfl,_,_,H8,rfl,λi hi=>?_⟩⟩,(λt x h=>by cases h),.inl rfl⟩),λh=>by cases h⟩
   have h1:=(HT.miss i).1 hi.1
   rw [aJ_ hvb hB] at h1
   have h2:i=0:=by simpa using h1
   exact hi.2 h2
 ·refine ⟨λh=>absurd h (by rw [hlen];decide),λ_=>?_⟩
  rw [← hb2]
  exact aS_ H2.at_ (λw9 g9 _=>⟨true,rfl,(λ_=>⟨hF6.after g9,hK w9 (hF6.after g9).gr⟩),λh=>by cases h⟩) λw9 i9 g9 hi9=>absurd hi9 (hnm i9)
end Go.Vc
namespace Go.Vc
open Go
theorem ladinglaw20_FetchNone (y0:Option Addr) (ly0:Nat) (cy0:Nat) (m1:Int) (m2:Int) (m3:Int) (z4:ByteArray) (y5:Option Addr) (ly5:Nat) (cy5:Nat) (S:SP) (K:KP) (w:World) (h:∀l0,w.heap.size≤l0→∀w0,Fr S w w [] [⟨l0,#[Iv m1,Iv m2,Iv m3,.string z4,.slice y5 ly5 cy5],61,true⟩] w0→let B0:Blk:=⟨l0,#[Iv m1,Iv m2,Iv m3,.string z4,.slice y5 ly5 cy5],61,true⟩;CallV PR 27 #[] w0 λv0 w1=>∃b0,v0=.bool b0∧(b0=true→Fs S w [B0] w1∧∀l1,w1.heap.size≤l1→∀w2,Fr S w w1 [] [B0,⟨l1,#[.slice y0 ly0 cy0],28,true⟩] w2→CallV PR 11 #[.slice (some (⟨l1,0,none⟩)) 1 1] w2 λv1 w3=>∃q0 l2 l3,v1=.slice q0 l2 l3∧Fs S w [B0,⟨l1,#[.slice y0 ly0 cy0],28,true⟩] w3∧(q0=none→K (.bool true) w3)∧∀a0:Addr,q0=some a0→CallV PR 28 #[.agg #[Iv m1,Iv m2,Iv m3,.string z4,.slice y5 ly5 cy5]] w3 λv2 w4=>∃b1,v2=.bool b1∧(b1=true→Fs S w [B0] w4∧K (.bool true) w4)∧(b1=false→Fs S w [B0] w4∧Dr q0 λa1=>(0:Int)≤0∧(0:Int)<(l2:Int)∧Dr (some (Addr.add a1 0)) λa2=>∃q1,World.cell? w4 a2=some (.pointer q1)∧CallV PR 29 #[.pointer q1,Iv 0] w4 λv3 w5=>∃q2 q3 b2,v3=.tuple #[.pointer q2,.pointer q3,.bool b2]∧(b2=true→Fs S w [B0] w5∧CallV PR 30 #[.pointer q2,Iv 2] w5 λv4 w6=>∃q4 v5,v4=.tuple #[.pointer q4,v5]∧Fs S w [B0] w6∧CallV PR 30 #[.pointer none,Iv 1] w6 λv6 w7=>∃q5 v7,v6=.tuple #[.pointer q5,v7]∧Fs S w [B0] w7∧CallV PR 32 #[.pointer q1,Iv 0] w7 λv8 w8=>∃n0 n1 n2 s0 q6 l4 l5,v8=.agg #[Iv n0,Iv n1,Iv n2,.string s0,.slice q6 l4 l5]∧Fs S w [B0] w8∧CallV PR 31 #[.pointer q3,.agg #[Iv n0,Iv n1,Iv n2,.string s0,.slice q6 l4 l5]] w8 λv9 w9=>∃b3 v10,v9=.tuple #[.bool b3,v10]∧(b3=true→Fs S w [B0] w9∧CallV PR 31 #[.pointer none,.agg #[Iv m1,Iv m2,Iv m3,.string z4,.slice y5 ly5 cy5]] w9 λv11 w10=>∃b4 v12,v11=.tuple #[.bool b4,v12]∧(b4=true→Fs S w [B0] w10∧CallV PR 14 #[v5] w10 λv13 w11=>∃n3,v13=Iv n3∧Fs S w [] w11∧(n3=13→CallV PR 14 #[v7] w11 λv14 w12=>∃n4,v14=Iv n4∧Fs S w [] w12∧(n4=1→K (.bool false) w12)∧(¬(n4=1)→K (.bool false) w12))∧(¬(n3=13)→K (.bool false) w11))∧(b4=false→Fs S w [B0] w10∧CallV PR 14 #[v5] w10 λv15 w13=>∃n5,v15=Iv n5∧Fs S w [] w13∧(n5=13→CallV PR 14 #[v7] w13 λv16 w14=>∃n6,v16=Iv n6∧Fs S w [] w14∧(n6=1→K (.bool false) w14)∧(¬(n6=1)→K (.bool false) w14))∧(¬(n5=13)→K (.bool false) w13)))∧(b3=false→Fs S w [B0] w9∧CallV PR 31 #[.pointer none,.agg #[Iv m1,Iv m2,Iv m3,.string z4,.slice y5 ly5 cy5]] w9 λv17 w15=>∃b5 v18,v17=.tuple #[.bool b5,v18]∧(b5=true→Fs S w [B0] w15∧CallV PR 14 #[v5] w15 λv19 w16=>∃n7,v19=Iv n7∧Fs S w [] w16∧(n7=13→CallV PR 14 #[v7] w16 λv20 w17=>∃n8,v20=Iv n8∧Fs S w [] w17∧(n8=1→CallV PR 14 #[v10] w17 λv21 w18=>∃n9,v21=Iv n9∧Fs S w [] w18∧(n9=7→CallV PR 33 #[.pointer q3] w18 λv22 w19=>∃b6,v22=.bool b6∧(b6=true→Fs S w [] w19∧K (.bool false) w19)∧(b6=false→Fs S w [] w19∧K (.bool false) w19))∧(¬(n9=7)→K (.bool false) w18))∧(¬(n8=1)→K (.bool false) w17))∧(¬(n7=13)→K (.bool false) w16))∧(b5=false→Fs S w [B0] w15∧CallV PR 14 #[v5] w15 λv23 w20=>∃n10,v23=Iv n10∧Fs S w [] w20∧(n10=13→CallV PR 14 #[v7] w20 λv24 w21=>∃n11,v24=Iv n11∧Fs S w [] w21∧(n11=1→CallV PR 14 #[v10] w21 λv25 w22=>∃n12,v25=Iv n12∧Fs S w [] w22∧(n12=7→CallV PR 33 #[.pointer q3] w22 λv26 w23=>∃b7,v26=.bool b7∧(b7=true→Fs S w [] w23∧K (.bool false) w23)∧(b7=false→Fs S w [] w23∧CallV PR 14 #[v18] w23 λv27 w24=>∃n13,v27=Iv n13∧Fs S w [] w24∧(n13=1→CallV PR 33 #[.pointer none] w24 λv28 w25=>∃b8,v28=.bool b8∧(b8=true→Fs S w [] w25∧CallV PR 34 #[.pointer none] w25 λv29 w26=>∃n14,v29=Iv n14∧Fs S w [] w26∧CallV PR 35 #[.pointer none] w26 λv30 w27=>∃n15,v30=Iv n15∧Fs S w [] w27∧CallV PR 36 #[.pointer none,Iv 0] w27 λv31 w28=>∃n16,v31=Iv n16∧Fs S w [] w28∧CallV PR 37 #[.pointer none] w28 λv32 w29=>∃q7 l6 l7,v32=.slice q7 l6 l7∧Fs S w [] w29∧∀l8,w29.heap.size≤l8→∀w30,Fr S w w29 [] [⟨l8,#[Iv 1],3,true⟩] w30→CallV PR 38 #[.pointer none,Iv 0,.slice (some (⟨l8,0,none⟩)) 1 1] w30 λv33 w31=>∃q8 l9 l10,v33=.slice q8 l9 l10∧∃n17,Fs S w [⟨l8,#[Iv n17],3,true⟩] w31∧(IntKind.wrap .i64 (IntKind.wrap .i64 (IntKind.wrap .i64 (IntKind.wrap .i64 (n14+n15)+n16)+(l6:Int))+(l9:Int))=0→K (.bool true) w31)∧(¬(IntKind.wrap .i64 (IntKind.wrap .i64 (IntKind.wrap .i64 (IntKind.wrap .i64 (n14+n15)+n16)+(l6:Int))+(l9:Int))=0)→K (.bool false) w31))∧(b8=false→Fs S w [] w25∧K (.bool false) w25))∧(¬(n13=1)→K (.bool false) w24)))∧(¬(n12=7)→K (.bool false) w22))∧(¬(n11=1)→K (.bool false) w21))∧(¬(n10=13)→K (.bool false) w20))))∧(b2=false→Fs S w [B0] w5∧K (.bool false) w5)))∧(b0=false→Fs S w [B0] w1∧K (.bool false) w1)):CallV PR 5 ⟨[.slice y0 ly0 cy0,.agg #[.int .i64 m1,.int .i64 m2,.int .i64 m3,.string z4,.slice y5 ly5 cy5]]⟩ w K:=
 call_of_vc3 (okf:=⟨okL,[]⟩) okL_ok (args:=[.c (.v (.slice y0 ly0 cy0)),.a [.v (.int .i64 m1),.v (.int .i64 m2),.v (.int .i64 m3),.v (.string z4),.v (.slice y5 ly5 cy5)]]) (H:=[]) (.s (.r ⟨(some []),false,[],[]⟩) (.s (.s (.r ⟨(some [3]),false,[],[]⟩) .z) (.s (.r ⟨(some [3]),false,[],[]⟩) (.s (.s (.r ⟨(some [3]),false,[],[]⟩) .z) (.s .z (.s (.r ⟨(some [3]),false,[],[]⟩) (.s .z (.s (.r ⟨(some [3]),false,[],[]⟩) (.s (.r ⟨(some [3]),false,[],[]⟩) (.s (.r ⟨(some [3]),false,[],[(3,[999])]⟩) (.s .z (.s (.r ⟨(some [3]),false,[],[(2,[999])]⟩) (.s (.r ⟨(some []),false,[],[(39,[999]),(50,[999])]⟩) .z))))))))))))) Go.Proofs.Tryz.func5 rfl ⟨trivial,⟨trivial,trivial,trivial,trivial,trivial,trivial⟩,trivial⟩ trivial (Fr.init S w) trivial (cast_vc (by kernel_rfl) h)
end Go.Vc
namespace Go.Vc
open Go Go.MapKept
theorem dX_ {m:MsgL} {y:Option Addr} {cy:Nat} {w:World} {K:Value→World→Prop} (hK:∀w',Grow w w'→K (.tuple #[.bool false,.iface T.api_Errno (.int .i64 1)]) w'):CallV PR F.p_fetch_Fetch_Hear ⟨[.pointer none,msgLC m y cy]⟩ w K:=
 bj_ m.kind m.ver m.i (str m.text) y m.proof.length cy S0 K w λl0 hl0=>⟨λ_ w0 hF0=>hK w0 hF0.gr,λa h=>by cases h⟩
theorem b5_ {w:World} {K:Value→World→Prop} (hK:K (.slice none 0 0) w):CallV PR F.p_fetch_Fetch_Missing ⟨[.pointer none]⟩ w K:=aO_ S0 K w ⟨λ_=>hK,λa h=>by cases h⟩
theorem dY_ {w:World} {K:Value→World→Prop} (hK:K (.bool true) w):CallV PR F.p_fetch_Fetch_Done ⟨[.pointer none]⟩ w K:=bk_ S0 K w (b5_ ⟨_,_,_,rfl,.init _ w,λ_=>hK,λh=>absurd rfl h⟩)
theorem bm_ {w:World} (hE:ErrT w) {y:Option Addr} {c:Nat} {l:List (Int × Int)} (hs:Sl w y (encE l)) {m:MsgL} {my:Option Addr} {mc:Nat} (hm:Sl w my (m.proof.map sv8')) {K:Value→World→Prop} (hK:∀w',Grow w w'→K (.bool true) w') :
  CallV PR F.ladinglaw20_FetchNone ⟨[.slice y l.length c,msgLC m my mc]⟩ w K:=by
 refine ladinglaw20_FetchNone y l.length c m.kind m.ver m.i (str m.text) my m.proof.length mc S0 K w λl0 hl0 w0 hF0=>?_
 refine bY_ λw1 g1=>⟨true,rfl,(λ_=>⟨hF0.reset.after g1,λl1 hl1 w2 hF2=>?_⟩),λh=>by cases h⟩
 refine bt_ (l:=l) (hF2.sl 1 rfl) (hs.grow hF2.gr) (λw3 a pc b mm list g3 hsa hv hP hl60 hg=>⟨_,_,_,rfl,hF2.reset.after g3,(λh=>by cases h),λa0 ha0=>?_⟩) λw3 g3 hno=>⟨_,_,_,rfl,hF2.reset.after g3,(λ_=>hK w3 (hF2.reset.after g3).gr),λa h=>by cases h⟩
 have hF3:=(hF2.reset.after g3).sub (L':=[⟨l0,#[.int .i64 m.kind,.int .i64 m.ver,.int .i64 m.i,.string (str m.text),.slice my m.proof.length mc],T.msg_Msg,true⟩]) ((List.nil_sublist _).cons_cons _)
 refine b2_ (m:=m) (hm.grow hF3.gr) λw4 t g4 _=>⟨t,rfl,(λ_=>⟨hF3.after g4,hK w4 (hF3.after g4).gr⟩),λ_=>⟨hF3.after g4,?_⟩⟩
 have hF4:=hF3.after g4
 have hL:=hP.ver
 refine bP_ (hsa.grow g4) λa2 ha2=>⟨_,ha2,?_⟩
 have hv4:VerO (λj=>j<w2.heap.size) w4 b mm list:=hv.keep (D':=λj=>j<w2.heap.size) g4 (λ_ _ e=>e.elim) λ_ _ e=>e
 refine br_ hv4 hL hP.sh (n:=0) (by decide) λw5 f v HF hvs hvm hvb hvo hver htr has hwin htmo hsl hlg hrl hws g5 hlow=>⟨_,_,true,rfl,(λ_=>⟨hF4.after g5,?_⟩),λh=>by cases h⟩
 have hF5:=hF4.after g5
 have hone:v.man.version=1:=by rw [hvm,hP.one]
 refine b4_ HF.at_.hat (n:=2) ⟨by decide,by decide⟩ (λw6 f6 v6 H6 e1 e2 _ _ _ _ _ _=>?_) λw6 g6 _=>⟨_,_,rfl,hF5.after g6,?_⟩
 ·have h1:=H6.mem
  rw [e1,hvs] at h1
  have h2:v6=v:=by simpa using h1
  have h3:=H6.ver
  rw [h2,hone,e2] at h3
  exact absurd h3 (by decide)
 have hF6:=hF5.after g6
 refine fetch_New none 1 S0 _ w6 ⟨λ_=>⟨_,_,rfl,hF6,?_⟩,λa h=>by cases h⟩
 have hv6:VerO (λj=>j<w2.heap.size) w6 b mm list:=(hv4.keep (D':=λj=>j<w2.heap.size) g5 (λ_ _ e=>e.elim) λ_ _ e=>e).keep (D':=λj=>j<w2.heap.size) g6 (λ_ _ e=>e.elim) λ_ _ e=>e
 have hj0:0<list.length:=hP.pos
 refine aT_ hv6 hL (i:=0) (λw8 q8 c8 _ _ g8 hs8 _=>⟨_,_,_,_,_,_,_,rfl,hF6.after g8,?_⟩) λw8 hno _=>absurd ⟨by decide,by omega⟩ hno
 have hF8:=hF6.after g8
 have HF8:=HF.grow (g6.trans g8)
 have hokP:=a8_ hL hj0
 have htext:=bX_ hL hj0
 have hvv:=hL.ok.version
 have hkv:(blkM mm list 0).ver=f.ver:=by show mm.version=f.ver;rw [hver]
 refine bv_ HF8 (m:=blkM mm list 0) ⟨by omega,by omega,by omega⟩ hs8 (by omega) ⟨by rw [hver];exact ⟨by omega,by omega⟩,by show fitsI (((0:Nat):Int));exact ⟨by decide,by decide⟩⟩ (λw' _ h=>?_) (λw' _ _ _ h=>?_) (λw' e cc f' _ _ _ _ hn _ _ _=>?_) (λw' _ _ _ hin _=>?_) (λw9 cc _ _ _ _ hc g9=>?_) λw9 j sl _ _ _ hnew hle H9 _ _ hsl0=>?_
 ·rcases h with h | ⟨h,_⟩
  ·exact absurd hkv h
  ·exact absurd rfl h
 ·cases h
 ·rw [hvm] at hn;exact absurd hokP hn
 ·obtain ⟨p,hp,_⟩:=hin
  rw [hvb] at hp;cases hp
 ·have hc7:cc=7:=by
   rcases hc with ⟨h,_⟩ | ⟨_,h⟩
   ·exact h
   ·omega
  subst hc7
  have hF9:=hF8.after g9
  refine ⟨false,_,rfl,(λh=>by cases h),λ_=>⟨hF9,?_⟩⟩
  refine dX_ (m:=m) λw10 g10=>⟨false,_,rfl,(λh=>by cases h),λ_=>⟨hF9.after g10,?_⟩⟩
  have hFa:=(hF9.after g10).sub (L':=[]) (List.nil_sublist _)
  refine Code_errno_spec (hE.do_ hFa.gr) (by decide) (by decide) λw11 g11=>⟨_,rfl,hFa.after g11,λ_=>?_,λh=>absurd rfl h⟩
  have hFb:=hFa.after g11
  refine Code_errno_spec (hE.do_ hFb.gr) (by decide) (by decide) λw12 g12=>⟨_,rfl,hFb.after g12,λ_=>?_,λh=>absurd rfl h⟩
  have hFc:=hFb.after g12
  refine Code_errno_spec (hE.do_ hFc.gr) (by decide) (by decide) λw13 g13=>⟨_,rfl,hFc.after g13,λ_=>?_,λh=>absurd rfl h⟩
  have hFd:=hFc.after g13
  have HFd:=(((HF8.grow g9).grow g10).grow ((g11.trans g12).trans g13))
  have hmem0:(0:Int)∈ak_ v:=an_.2 ⟨⟨Int.le_refl 0,by rw [hvm,hL.blocks];omega⟩,λp hp=>by rw [hvb] at hp;cases hp⟩
  refine aS_ HFd.at_ (λw14 g14 hall=>absurd ((HFd.miss 0).2 hmem0) (hall 0)) λw14 i14 g14 _=>⟨false,rfl,(λh=>by cases h),λ_=>⟨hFd.after g14,?_⟩⟩
  have hFe:=hFd.after g14
  refine Code_errno_spec (hE.do_ hFe.gr) (by decide) (by decide) λw15 g15=>⟨_,rfl,hFe.after g15,λ_=>?_,λh=>absurd rfl h⟩
  have hFf:=hFe.after g15
  refine dY_ ⟨true,rfl,(λ_=>⟨hFf,?_⟩),λh=>by cases h⟩
  refine aN_ S0 _ w15 ⟨λ_=>⟨_,rfl,hFf,?_⟩,λa h=>by cases h⟩
  refine bb_ S0 _ w15 ⟨λ_=>⟨_,rfl,hFf,?_⟩,λa h=>by cases h⟩
  refine ba_ 0 S0 _ w15 ⟨λ_=>⟨_,rfl,hFf,?_⟩,λa h=>by cases h⟩
  refine b5_ ⟨_,_,_,rfl,hFf,λl8 hl8 w30 hFg=>?_⟩
  refine bi_ 0 (some ⟨l8,0,none⟩) 1 1 S0 _ w30 ⟨λ_=>⟨_,_,_,rfl,_,hFg.reset,λ_=>hK w30 hFg.gr,λh=>absurd (by decide) h⟩,λa h=>by cases h⟩
 ·have h1:=H9.at_.hat.sl (v.putB (blkM mm list 0).i sl (blkM mm list 0).text) H9.mem ((blkM mm list 0).i,sl,leafL (blkM mm list 0).text) (by simp [HV.putB])
  have h2:((f.h.putB j v (blkM mm list 0).i sl (blkM mm list 0).text).d.sl.length)=f.h.d.sl.length:=by
   show ((f.h.d.put sl _).put (-1) _).sl.length=_
   rw [ca_,cs_ (by omega),List.length_set]
  have h3:=h1.2
  have h4:sl<((f.h.putB j v (blkM mm list 0).i sl (blkM mm list 0).text).d.sl.length:Int):=h3
  rw [h2,hsl] at h4
  omega
end Go.Vc
namespace Go.Vc
open Go Go.ChangeShapes Go.WideShapes Go.ChangeAt Go.RowKit Go.Deep Go.Proofs Go.Proofs.YtcfbeaibcgjihaaGreatDoor
theorem cd_:Tryz.f5.params=#[T.sl_api_Edge,T.msg_Msg]:=by kernel_rfl
theorem dO_:PR.readableRec T.msg_Msg=true:=by kernel_rfl
theorem dS_:flds T.msg_Msg=some [(T.int,0),(T.int,1),(T.int,2),(T.string,3),(T.sl_string,4)]:=by kernel_rfl
theorem d2_:PR.cellsOf T.msg_Msg=5:=by kernel_rfl
theorem dk_:PR.readableRec T.sl_api_Edge=true:=by kernel_rfl
theorem dt_:PR.underlying T.sl_api_Edge=some (.slice T.api_Edge):=by kernel_rfl
theorem d3_:PR.cellsOf T.api_Edge=2:=by kernel_rfl
theorem d1_:flds T.api_Edge=some [(T.int,0),(T.int,1)]:=by kernel_rfl
theorem bo_ (t:ByteArray):str t.data.toList=t:=by
 apply ByteArray.ext
 simp [str]
section
variable {H:Type} {enc:TypeId × Value→H} {w:World} {base:Nat} {spare:Nat→Bool} {held:Bool}
theorem dD_ {n:Nat} {cs:List Value} {x:DataW H × List MemPlace} (hx:DataW.trod enc PR w base spare held n T.api_Edge cs=some x) (hlen:cs.length=2):∃e:Int × Int,cs=[.int .i64 e.1,.int .i64 e.2]:=by
 obtain ⟨m,hm⟩:=struct_of d1_ hx
 obtain ⟨y0,h0⟩:=hm 0 _ rfl
 obtain ⟨y1,h1⟩:=hm 1 _ rfl
 match cs,hlen with
 | [v0,v1],_=>
  rw [show PR.cellsOf (T.int,0).1=1 from cInt] at h0
  rw [show PR.cellsOf (T.int,1).1=1 from cInt] at h1
  obtain ⟨n0,e0,_,_⟩:=DataW.trod_int uInt h0
  obtain ⟨n1,e1,_,_⟩:=DataW.trod_int uInt h1
  obtain rfl:v0=.int .i64 n0:=(List.cons.inj e0).1
  obtain rfl:v1=.int .i64 n1:=(List.cons.inj e1).1
  exact ⟨(n0,n1),rfl⟩
theorem dp_ {fuel:Nat} {v:Value} {x:DataW H × List MemPlace} (h:DataW.trod enc PR w base spare held fuel T.sl_api_Edge [v]=some x):∃(q:Option Addr) (l:List (Int × Int)) (c:Nat),v=.slice q l.length c∧Sl w q (encE l):=by
 obtain ⟨q,l,c,h1,h2,_,_⟩:=slice_of (α:=Int × Int) (s:=2) (f:=λe=>[.int .i64 e.1,.int .i64 e.2]) (λ_=>rfl) (by decide) dt_ d3_ (G:=λ_=>True) (λn cs x hx hlen=>by
  obtain ⟨e,he⟩:=dD_ hx hlen
  exact ⟨e,he,trivial⟩) h
 exact ⟨q,l,c,h1,h2⟩
theorem dz_ {n:Nat} {cs:List Value} {x:DataW H × List MemPlace} (hx:DataW.trod enc PR w base spare held n T.msg_Msg cs=some x) (hlen:cs.length=5) :
  ∃(m:MsgL) (q:Option Addr) (c:Nat),cs=[.int .i64 m.kind,.int .i64 m.ver,.int .i64 m.i,.string (str m.text),.slice q m.proof.length c]∧Sl w q (m.proof.map sv8'):=by
 obtain ⟨m,hm⟩:=struct_of dS_ hx
 obtain ⟨y0,h0⟩:=hm 0 _ rfl
 obtain ⟨y1,h1⟩:=hm 1 _ rfl
 obtain ⟨y2,h2⟩:=hm 2 _ rfl
 obtain ⟨y3,h3⟩:=hm 3 _ rfl
 obtain ⟨y4,h4⟩:=hm 4 _ rfl
 match cs,hlen with
 | [v0,v1,v2,v3,v4],_=>
  rw [show PR.cellsOf (T.int,0).1=1 from cInt] at h0
  rw [show PR.cellsOf (T.int,1).1=1 from cInt] at h1
  rw [show PR.cellsOf (T.int,2).1=1 from cInt] at h2
  rw [show PR.cellsOf (T.string,3).1=1 from cStr] at h3
  rw [show PR.cellsOf (T.sl_string,4).1=1 from cStrs] at h4
  obtain ⟨n0,e0,_,_⟩:=DataW.trod_int uInt h0
  obtain ⟨n1,e1,_,_⟩:=DataW.trod_int uInt h1
  obtain ⟨n2,e2,_,_⟩:=DataW.trod_int uInt h2
  obtain ⟨s,e3,_⟩:=DataW.trod_string uStr h3
  obtain ⟨q,l,c,e4,s4⟩:=strs_of (v:=v4) h4
  obtain rfl:v0=.int .i64 n0:=(List.cons.inj e0).1
  obtain rfl:v1=.int .i64 n1:=(List.cons.inj e1).1
  obtain rfl:v2=.int .i64 n2:=(List.cons.inj e2).1
  obtain rfl:v3=.string s:=(List.cons.inj e3).1
  subst e4
  refine ⟨⟨n0,n1,n2,s.data.toList,l.map (·.data.toList)⟩,q,c,?_,?_⟩
  ·simp only [bo_,List.length_map]
  ·rw [List.map_map]
   have:(sv8' ∘ λx:ByteArray=>x.data.toList)=Value.string:=by
    funext x;simp only [Function.comp,sv8',bo_]
   rw [this];exact s4
end
theorem c7_ (H:Type) (enc:TypeId × Value→H) (W:World) (base:Nat) (args:Array Value) (ds gs:List (DataW H)) (before:List MemPlace)
  (hval:∀(j:Nat) t v,Tryz.f5.params[j]? = some t→args[j]? = some v→Value.okWide Tryz.prog W .any base t v)
  (hW:DataW.Whole enc Tryz.prog Tryz.f5.params.toList Rows.fetchNoneSpec.vars false W args.toList ds gs before) (hL:laidMetH Tryz.prog Rows.fetchNoneRow.laid W) :
  Calls Tryz.prog 5 args W λe W'=>∃v,e=.returned v∧Rows.fetchNoneSpec.post enc Tryz.prog Tryz.f5 false true false false W args v W':=by
 have hW':=hW
 obtain ⟨p,q,hA0,hV,rfl,hfz,hnd⟩:=hW
 have hA:DataW.TrodAll enc Tryz.prog W 0 (λ_=>true) true Tryz.f5.params.toList args.toList ds p:=hA0
 rw [cd_] at hA hval
 obtain ⟨v0,v1,d0,d1,p0,p1,rfl,rfl,rfl,h0,h1⟩:=trodAll_two hA
 obtain ⟨rfl,rfl⟩:=trodVars_none hV
 have h0k:=h0
 have h1k:=h1
 obtain ⟨q1,l1,c1,rfl⟩:=okWide_slice dt_ (hval 0 _ _ rfl rfl)
 obtain ⟨fs,hu,_⟩:=flds_of dS_
 obtain ⟨⟨cs2⟩,rfl,hs2⟩:=okWide_struct hu (hval 1 _ _ rfl rfl)
 rw [d2_] at hs2
 obtain ⟨fuel1,hf1⟩:=h0
 obtain ⟨fuel2,hf2⟩:=h1
 obtain ⟨y,l,c,e,sl⟩:=dp_ (v:=.slice q1 l1 c1) hf1
 cases e
 have hf2:DataW.trod enc PR W 0 (λ_=>true) true fuel2 T.msg_Msg cs2=some (d1,p1):=hf2
 have hs2:cs2.length=5:=by simpa using hs2
 obtain ⟨m,mq,mc,rfl,sm⟩:=dz_ hf2 hs2
 have hl0:∀x∈p0++p1,x.block<W.heap.size:=λx hx=>hW'.lt x (by simpa using hx)
 refine bm_ (errT_of hL) sl (m:=m) sm λW' g=>?_
 have hb:=below_of_grow g
 refine post_of_below (pa:=p0++(p1++[])) (pv:=[]) hW' (λ_ _ _=>trodAll_cons_mk (shut_bool uBool _) trodAll_mk0)
  (λsp hsp=>?_) (λ_ _=>rfl) (by simp) hb (ok_one (by kernel_rfl) rfl (okWide_bool_mk uBool _))
 rw [cd_]
 have stay:∀ {t:TypeId} {v:Value} {d:DataW H} {q:List MemPlace},PR.readableRec t=true→decide (t<PR.types.size)=true→(∀x∈q,x∈p0++p1)→DataW.Trod enc PR W 0 (λ_=>true) true t v d q→DataW.Trod enc PR W' 0 sp true t v d q:=λhr hz hq h=>
  WideElems.Trod_stays layG hr (of_decide_eq_true hz) h (λx hx=>hb.same (hl0 x (hq x hx))) (λx hx=>hsp x (by simpa using hq x hx))
 exact trodAll_cons_mk (stay dk_ (by kernel_rfl) (λx hx=>by simp [hx]) h0k) (trodAll_cons_mk (stay dO_ (by kernel_rfl) (λx hx=>by simp [hx]) h1k) trodAll_mk0)
def zInT:Array Value:=#[.slice none 0 0,.agg #[.int .i64 0,.int .i64 0,.int .i64 0,.string ⟨#[]⟩,.slice none 0 0]]
theorem dP_ (os:Os) {H:Type} (enc:TypeId × Value→H):∃places,DataW.whole enc Tryz.prog ((laidWorld os).forCall (λ_ _=>0) ⟨#[],zInT,[]⟩).memory Tryz.f5.params.toList Rows.fetchNoneSpec.vars false zInT.toList 8 =
  some ([.nil,.agg [.lit (.int .i64 0),.lit (.int .i64 0),.lit (.int .i64 0),.lit (.string []),.nil]],[],places):=
 ⟨[],by kernel_rfl⟩
theorem dB_ (os:Os) (started:os.Started) (H:Type) (enc:TypeId × Value→H) (F:Stop.Interp) :
  ReturnsInHanded {} Tryz.checked os 5 .any ((OpenSpec.ofChange Rows.fetchNoneSpec).preRow enc Tryz.prog Tryz.f5 Rows.fetchNoneRow.domain false Rows.fetchNoneRow.laid) (((OpenSpec.ofChange Rows.fetchNoneSpec).at F).post enc Tryz.prog Tryz.f5 false true false false):=by
 obtain ⟨places,hx⟩:=dP_ os enc
 refine returnsInHanded_of_row (C:=Tryz.checked) (s:=OpenSpec.ofChange Rows.fetchNoneSpec) ownG started (by kernel_rfl) Tryz.func5
  (witness_row_atRef (enc:=enc) (C:=Tryz.checked) false (laidWorld os) zInT rfl (by kernel_rfl) (by kernel_rfl) (by kernel_rfl)
   (OpenSpec.preRow_of_cond 8 hx (by kernel_rfl) (λk hk=>by cases hk) (by kernel_rfl) (laid_met os _))) ?_
 intro W base args ds gs before hval hW _ _ _ hL hsh _
 exact c7_ H enc W base args ds gs before hval hW hL
set_option maxHeartbeats 4000000 in
theorem dE_:joinedFacts Tryz.pinned.checked.prog 5 Tryz.f5 (OpenSpec.ofChange Rows.fetchNoneSpec).bare Rows.fetchNoneRow=true:=by
 unfold joinedFacts
 repeat' with_reducible refine Bool.and_eq_true_iff.2 ⟨?_,?_⟩
 all_goals (as_aux_lemma=>kernel_rfl)
theorem dR_:Tryz.pinned.checked.prog.funcNamed Rows.fetchNoneRow.func=some 5:=by kernel_rfl
theorem dZ_:Rows.FetchNoneSaid:=
 OpenClaim.holds_of_cond 5 Tryz.f5 rfl rfl rfl rfl rfl rfl rfl ⟨rfl,rfl,rfl,rfl,rfl⟩ rfl rfl rfl rfl rfl dR_ Tryz.func5 dE_
  (of_decide_eq_true (by kernel_rfl)) (by unfold Func.isWrapper;first | (rw [if_pos (by decide +kernel)];kernel_rfl) | (rw [if_neg (by decide +kernel)];exact ⟨rfl,rfl⟩))
  (λos started H enc _ F=>by rw [OpenClaim.pre_eq_preRow];exact dB_ os started H enc F)
theorem dQ_ (f:FuncId) (fn:Func) (hf:Tryz.pinned.checked.prog.funcNamed "lading/ladinglaw20.FetchNone" = some f) (hfn:Tryz.pinned.checked.prog.funcs[f]? = some fn) :
  true=Tryz.pinned.checked.prog.looks []∧∀(j:Nat) t,fn.params[j]? = some t→Tryz.pinned.checked.prog.wantsStandIn t=false:=by
 obtain rfl:f=5:=Option.some.inj ((show Tryz.prog.funcNamed "lading/ladinglaw20.FetchNone" = some 5 by kernel_rfl).symm.trans hf) |>.symm
 obtain rfl:fn=Tryz.f5:=(Option.some.inj (Tryz.func5.symm.trans hfn)).symm
 refine ⟨by kernel_rfl,λj t ht=>?_⟩
 rw [cd_] at ht
 have ht:t=T.sl_api_Edge∨t=T.msg_Msg:=by simpa using Array.mem_of_getElem? ht
 rcases ht with rfl | rfl
 ·exact (show Tryz.prog.wantsStandIn T.sl_api_Edge=false by kernel_rfl)
 ·exact (show Tryz.prog.wantsStandIn T.msg_Msg=false by kernel_rfl)
theorem cardT:Rows.FetchNoneCardSaid:=
 Claim7.holds_tied_plain_at .later [] _ _ _ _ dZ_ (λ_ h=>by cases h) (by kernel_rfl) (λ_ h=>by cases h) fetchNone_row_tie rfl ⟨rfl,rfl⟩ (by kernel_rfl) rfl dQ_ (by kernel_rfl)
end Go.Vc
