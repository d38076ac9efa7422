/-
  A part of the proof of the statement FetchPlaysCardSaid, in Lean: Fp3, RoFP. By an AI agent.
-/
import Derived.Test.YthcpblejnhhhdaaGreatDoorP13
import Derived.Test.YthcpblejnhhhdaaGreatDoorP14
import Derived.Test.YthcpblejnhhhdaaGreatDoorP08
set_option linter.unusedSimpArgs false
set_option linter.unusedVariables false
set_option maxRecDepth 1000000
namespace Go.Vc
open Go Go.MapKept
theorem iP_ {w:World} (hE:ErrT w) {y:Option Addr} {c:Nat} {l:List (Int × Int)} (hs:Sl w y (encE l)) {y1:Option Addr} {c1:Nat} {ps:List Int} (hp:Sl w y1 (ps.map iv)) {y2:Option Addr} {c2:Nat} {os:List SayF} (ho:qm_ w y2 os) {K:Value→World→Prop} (hK:∀w',Grow w w'→K (.bool true) w') :
  aa_ PR F.bf_ ⟨[.slice y l.length c,.slice y1 ps.length c1,.slice y2 os.length c2]⟩ w K:=by
 refine bf_ y l.length c y1 ps.length c1 y2 os.length c2 S0 K w ?_
 have hF00:Fs S0 w [] w:=.init _ w
 refine lF_ λw1 g1=>⟨true,rfl,(λ_=>⟨hF00.after g1,λl1 hl1 w2 hF2=>?_⟩),λh=>by cases h⟩
 refine jJ_ (l:=l) (hF2.sl 0 rfl) (hs.grow hF2.gr) (λw3 a pc b m list g3 hsa hv hP hl60 hg=>⟨_,_,_,rfl,hF2.reset.after g3,(λh=>by cases h),λa0 ha0=>⟨λ_=>hK w3 (hF2.reset.after g3).gr,λh60=>⟨λ_=>hK w3 (hF2.reset.after g3).gr,λh5=>?_⟩⟩⟩) λw3 g3 hno=>⟨_,_,_,rfl,hF2.reset.after g3,(λ_=>hK w3 (hF2.reset.after g3).gr),λa h=>by cases h⟩
 have hF3:Fs S0 w [] w3:=(hF2.reset.after g3).sub (L':=[]) (List.nil_sublist _)
 have hL:=hP.ver
 have hl40:=hP.len
 have hpos:=hP.pos
 have hvv:=hL.ok.version
 have hblk:=hL.blocks
 have hone:=hP.one
 refine lg_ hsa λa2 ha2=>⟨_,ha2,?_⟩
 refine jF_ hv hL hP.sh (n:=100) (by decide) λw4 f0 v0 HF hvs hvm hvb hvo hver htr has hwin htmo hsl hlg hrl hws g4 hlow=>⟨_,_,true,rfl,(λ_=>⟨hF3.after g4,?_⟩),λh=>by cases h⟩
 have hF4:=hF3.after g4
 have hlt0:=HF.at_.lt
 have s34:=g4.size
 have s03:=hF3.gr.size
 refine aQ_ λw5 ru hru mu5 g5=>⟨_,rfl,hF4.after g5,?_⟩
 refine aQ_ λw6 rt hrt mt6 g6=>⟨_,rfl,(hF4.after g5).after g6,?_⟩
 have s45:=g5.size
 have s56:=g6.size
 have ru5:ru<w5.heap.size:=mu5.lt
 have hfl0:Fill f0 v0 m:=⟨hvs,hvm,hvo,by rw [hvb];exact List.nodup_nil,hwin,htmo,hver,hsl,by omega,by omega,by omega⟩
 have I0:PlI w3 f0.b f0.h.bh m ru rt 0 f0.wt.askd f0.trs w6 f0 v0:=⟨HF.grow (g5.trans g6),hfl0,rfl,rfl,by rw [has];exact mu5.grow g6,by rw [htr];exact mt6,(λp hp=>by rw [htr] at hp;cases hp),λk hk=>⟨hlow k hk,by have:=hlt0 k hk;omega,by have:=hlt0 k hk;omega⟩,by omega,⟨by omega,by omega⟩,(g4.trans g5).trans g6⟩
 generalize f0.b=b0 at I0 ⊢
 generalize f0.h.bh=bh0 at I0 ⊢
 obtain ⟨qm,cm,ql,cl,hb,hDb,hqm,hql,hlc⟩:=id hv
 have cellL:∀ {w':World},Grow w3 w'→w'.cell? (Addr.add ⟨b,0,none⟩ 6)=some (.slice ql list.length cl):=λg=>by
  rw [au_,aw_ (Grow.get g hb)];rfl
 have hvG:∀ {w':World},Grow w3 w'→VerO (λk=>k<w2.heap.size) w' b m list:=λg=>hv.keep (D':=λk=>k<w2.heap.size) g (λ_ _ e=>e.elim) λ_ _ e=>e
 refine ⟨λnow k lv w'=>∃kk:Nat,k=kk∧kk≤os.length∧lv=os.length - kk∧0≤now∧now≤kk∧∃f v,PlI w3 b0 bh0 m ru rt now f.wt.askd f.trs w' f v,⟨_,0,rfl,Nat.zero_le _,rfl,Int.le_refl 0,Int.le_refl 0,f0,v0,I0⟩,?_⟩
 rintro now k D0 lv w7 ⟨kk,rfl,hkk,rfl,hn0,hnk,f,v,I⟩ hF7
 refine ⟨λhlt=>?_,λhge=>hK w7 hF7.gr⟩
 have hk:kk<os.length:=by omega
 obtain ⟨o,ho'⟩:∃o,o=os[kk]:=⟨_,rfl⟩
 obtain ⟨hom,hoi,hmi⟩:=ho.m os[kk] (List.getElem_mem hk)
 rw [← ho'] at hom hoi hmi
 refine (ho.row.grow hF7.gr).rdN m6_ (by decide) rfl hk hk λa hc=>?_
 rw [← ho'] at hc
 refine ⟨_,hc 0 _ rfl,_,hc 1 _ rfl,_,hc 2 _ rfl,_,hc 3 _ rfl,_,hc 4 _ rfl,_,hc 5 _ rfl,_,_,_,hc 6 _ rfl,λl7 hl7 w8 hF8=>?_⟩
 have g8:=(hF8.unM hl7).grow
 have hF8':=hF8.reset
 have I8:=I.grow g8
 have l7lt:=aj_ (hF8.blk 0 rfl)
 simp only [] at l7lt
 refine lO_ (m:=o.m) (hom.grow ((hF7.gr).trans g8)) λw9 t g9 ht=>⟨t,rfl,(λ_=>⟨hF8'.after g9,hK w9 (hF8'.after g9).gr⟩),λhf=>⟨hF8'.after g9,?_⟩⟩
 have hsm:=ht hf
 have hF9:=hF8'.after g9
 refine aQ_ λw10 rl hrl0 ml10 g10=>⟨_,rfl,hF9.after g10,?_⟩
 have hF10:=hF9.after g10
 have I10:=(I8.grow g9).grow g10
 have hbb:=I.b
 have hbh:=I.bh
 subst hbb hbh
 have s8:=g8.size
 have s9:=g9.size
 have s10:=g10.size
 have s37:=I.gr.size
 have ru7:=I.um.lt
 have rt7:=I.tm.lt
 have rln:∀k,feA f k→k≠rl:=λk hk e=>by have:=I.lt k hk;omega
 have hmo:v.man.version=1:=by rw [I.fl.man,hone]
 have hbn:v.man.blocks=(list.length:Int):=by rw [I.fl.man,hblk]
 have hver1:f.ver=1:=by rw [I.fl.ver,hone]
 have h40:v.bl.length≤40:=by have:=I.fl.le I.ok hblk;omega
 refine cr_ I10.ok.at_.hat (n:=1) ⟨by decide,by decide⟩ (λw11 u q8 c8 hu hun g11 ho8 hof8=>⟨_,_,_,rfl,hF10.after g11,?_⟩) λw11 g11 hno=>absurd hmo (hno v I.ok.mem)
 have hu':v=u:=by
  rw [I.fl.one] at hu
  exact (List.mem_singleton.1 hu).symm
 subst hu'
 have hbd:=fe_ (I10.ok.at_.hat.vs v I10.ok.mem)
 have hin:∀j∈av_ v,0≤j∧j<(list.length:Int):=λj hj=>by
  have:=(bt_.1 hj).1
  rw [hbn] at this;exact this
 have hmn:(av_ v).Nodup:=List.nodup_iff_pairwise_ne.2 ((bm_ v).imp λh=>by omega)
 have hml:(av_ v).length≤40:=by
  have:=eD_ v v.man.blocks.toNat
  rw [hbn] at this
  unfold av_
  rw [hbn];omega
 have s11:=g11.size
 have I11:=I10.grow g11
 have hlk:kk<60:=by omega
 refine ⟨λi lv w'=>∃j:Nat,i=j∧j≤(av_ v).length∧lv=(av_ v).length - j∧aA_ w' rl (λn=>n∈(av_ v).take j)∧PlI w3 f.b f.h.bh m ru rt now f.wt.askd f.trs w' f v∧Sl w' q8 ((av_ v).map iv)∧w11.heap.size≤w'.heap.size,⟨_,0,rfl,Nat.zero_le _,rfl,⟨[],ml10.grow g11,(λp hp=>by cases hp),λj=>⟨(λ⟨p,hp,_⟩=>by cases hp),λh=>by simp at h⟩⟩,I11,ho8.sl,Nat.le_refl _⟩,?_⟩
 rintro i D1 lv1 w12 ⟨j,rfl,hj,rfl,M12,I12,hs12,s12⟩ hF12
 refine ⟨λhlt2=>?_,λhge2=>?_⟩
 ·have hj':j<(av_ v).length:=by omega
  have hb12:=hbd _ (List.getElem_mem hj')
  refine hs12.rd (v:=iv (av_ v)[j]) (by simp) (by omega) (by simp [hj']) λa5 ha5=>⟨_,ha5,?_⟩
  refine M12.put ⟨by omega,by omega⟩ λw13 M13 c13 s13=>⟨hF12.step c13 (λz hz e=>by
   simp only [List.mem_cons,List.not_mem_nil,or_false] at hz;subst hz
   simp only [] at e;omega) (λq hq e=>by have e':q=rl:=e;omega),(av_ v).length - (j+1),by omega,j+1,by rw [w64 (by omega) (by omega)];rfl,by omega,rfl,M13.cong λn=>?_,I12.mq_ c13 (by omega) (λk hk=>rln k hk) (by omega) (by omega),hs12.keep c13 (λa ha e=>?_),by omega⟩
  ·rw [ar_ hj',List.mem_append,List.mem_singleton]
  ·have h':¬a.block<w10.heap.size:=hof8 a ha
   have e':a.block=rl:=e
   have:=ml10.lt
   omega
 have hje:j=(av_ v).length:=by omega
 subst hje
 rw [List.take_length] at M12
 have rl10:=ml10.lt
 intro l13 hl13
 have rl12:=M12.lt
 have ru12:=I12.um.lt
 have rt12:=I12.tm.lt
 have l13off:∀k,k∈[l13]→w3.heap.size≤k∧¬feA f k∧k≠ru∧k≠rt:=λk hk=>by
  have e:k=l13:=by simpa using hk
  subst e
  have h2:=I12.um.lt
  have h3:=I12.tm.lt
  exact ⟨by omega,λh=>by have:=I12.lt _ h;omega,by omega,by omega⟩
 have l13off2:∀k,k∈[l13,l13]→w3.heap.size≤k∧¬feA f k∧k≠ru∧k≠rt:=λk hk=>l13off k (by simpa using hk)
 have l7n:∀k,feA f k→k≠l7:=λk hk e=>by have:=I.lt k hk;omega
 have offs:∀k,k<w.heap.size→feS f k→S0 k:=λk hk e=>by have:=(I.hi k (hd_ k e)).1;omega
 have hkw:IntKind.wrap .i64 ((kk:Int)+1)=((kk+1:Nat):Int):=by rw [w64 (by omega) (by omega)];rfl
 refine ⟨λn kd vr i tx q l c w'=>n=now∧∃M:MsgL,kd=M.kind∧vr=M.ver∧i=M.i∧tx=str M.text∧l=M.proof.length∧Sl w' q (M.proof.map sv8')∧M.text.length≤1000000∧aM_ M.i∧PlI w3 f.b f.h.bh m ru rt now f.wt.askd f.trs w' f v∧aA_ w' rl (λn=>n∈av_ v),⟨λhk0=>?_,λhk0=>⟨λhk1=>?_,λhk1=>⟨λhk2=>?_,λhk2=>⟨λhk3=>?_,λhk3=>⟨λhk5=>?_,λhk5=>?_⟩⟩⟩⟩⟩,?_⟩
 ·
  intro w13 hF13
  have g13:=(hF13.unM hl13).grow
  have hF13':=hF13.reset
  have I13:=I12.grow g13
  have M13:=M12.grow g13
  have s13:=g13.size
  have hn1:IntKind.wrap .i64 (now+1)=now+1:=w64 (by omega) (by omega)
  have hn7:IntKind.wrap .i64 (now+1+6)=now+1+6:=w64 (by omega) (by omega)
  rw [hn1,hn7]
  refine pd_ bu_ I13.um λw14 ri hri it14 g14=>⟨hF13'.after g14,?_⟩
  have hnd:=qg_ I13.um
  have ru13:=I13.um.lt
  have rt13:=I13.tm.lt
  have hlo:=I.lo
  have hft:∀x∈f.wt.askd,aM_ x.1:=λx hx=>by
   have:=I13.um.fit (x.1,.int .i64 x.2) (List.mem_map.2 ⟨x,hx,rfl⟩)
   exact this
  refine ⟨λlv w'=>∃done,lv=kj_ (aI (d3_ f.wt.askd (now+1) done)) done∧eQ_ w' ru ri (aI (d3_ f.wt.askd (now+1) done)) done∧PlI w3 f.b f.h.bh m ru rt now (d3_ f.wt.askd (now+1) done) f.trs w' f v∧aA_ w' rl (λn=>n∈av_ v),⟨_,[],rfl,by rw [k4_];exact it14,by rw [k4_];exact I13.grow g14,M13.grow g14⟩,?_⟩
  rintro D2 lv2 w15 ⟨done,rfl,it15,I15,M15⟩ hF15
  refine q3_ it15 (λhall=>.inl ⟨rfl,hF15,?_⟩) λp w16 hp16 hnd16 it16 hent c16 s16=>?_
  rotate_left
  ·
   have hF16:=hF15.step c16 (λz hz e=>by
    simp only [List.mem_cons,List.not_mem_nil,or_false] at hz;subst hz
    have e':l7=ri:=e
    omega) (λk hk e=>by have e':k=ri:=e;omega)
   obtain ⟨x,hx,rfl⟩:=List.mem_map.1 hp16
   have hxb:x∈f.wt.askd:=(List.mem_filter.1 hx).1
   have I16:=I15.mq_ c16 (by omega) (λk hk=>by have:=I13.lt k hk;omega) (by omega) (by omega)
   have M16:=M15.keep c16 (λe=>by have e':rl=ri:=e;omega)
   refine .inr ⟨_,_,rfl,hF16,kw_ hent ⟨_,_,rfl,hF16,x.1,rfl,x.2,rfl,λhle=>?_,λhgt=>?_⟩⟩
   ·refine n0_ bu_ it16 (hft x hxb) λw17 it17 c17 s17=>⟨rfl,hF16.step c17 (λz hz e=>by
     simp only [List.mem_cons,List.not_mem_nil,or_false] at hz;subst hz
     have e':l7=ru:=e
     omega) (λk hk e=>by have e':k=ru:=e;omega),kj_ (aI (d3_ f.wt.askd (now+1) (x.1 :: done))) (x.1 :: done),?_,x.1 :: done,rfl,?_,?_,M16.keep c17 λe=>by have e':rl=ru:=e;omega⟩
    ·rw [← hH_ hnd hxb hle]
     exact Nat.lt_of_le_of_lt (pv_ _ _ _) (ng_ hp16 hnd16)
    ·rw [← hH_ hnd hxb hle];exact it17
    ·refine I16.setU c17 ?_
     rw [← hH_ hnd hxb hle];exact it17.map
   ·have ek:=nF_ hnd (done:=done) hxb (now:=now+1) (by omega)
    refine ⟨kj_ (aI (d3_ f.wt.askd (now+1) (x.1 :: done))) (x.1 :: done),?_,x.1 :: done,rfl,?_,?_,M16⟩
    ·rw [ek];exact ng_ hp16 hnd16
    ·rw [ek];exact it16
    ·rw [ek];exact I16
  ·have hU:d3_ f.wt.askd (now+1) done=bg_ f (now+1):=oW_ λq hq=>hall (q.1,.int .i64 q.2) (List.mem_map.2 ⟨q,hq,rfl⟩)
   rw [hU] at I15
   have s15:w13.heap.size<w15.heap.size:=by have:=it15.lt;omega
   obtain ⟨A,hA⟩:∃A,A=bg_ f (now+1):=⟨_,rfl⟩
   obtain ⟨C,hC⟩:∃C,C=dS_ v A:=⟨_,rfl⟩
   obtain ⟨G,hG⟩:∃G,G=goL f v (now+1) ps.length:=⟨_,rfl⟩
   have hCm:∀j∈C,j∈av_ v:=λj hj=>by rw [hC] at hj;exact (bK_.1 hj).1
   have hCs:C.Pairwise (· < ·):=by rw [hC];exact es_ v A
   have hu0:upTo C ((0:Nat):Int)=[]:=kW_ λj hj=>(hin j (hCm j hj)).1
   have hend:∀ {i:Int},(ps.length=0→i=0)→(upTo C i).length≤(4 - (A.length:Int)).toNat→(i=list.length∨4≤(A.length:Int)+(upTo C i).length∨ps.length=0)→upTo C i=G:=λh1 h2 h3=>by
    rw [hG]
    rw [hC,hA] at h2 h3 ⊢
    exact ss_ I.fl.win (λj hj=>(hin j hj).2) h1 (λj hj=>(hin j hj).1) h2 h3
   rw [← hA] at I15
   refine ⟨λq l c w'=>l=G.length∧Sl w' q ((G.map λi=>(toV f ps i,i)).flatMap (askC 1))∧Off (λk=>k<w13.heap.size) q∧PlI w3 f.b f.h.bh m ru rt now (A++G.map λi=>(i,now+1+6)) (G.foldl trUp f.trs) w' f v,⟨λq l c i lv w'=>∃j:Nat,i=j∧j≤list.length∧lv=list.length - j∧(ps.length=0→j=0)∧(upTo C j).length≤(4 - (A.length:Int)).toNat∧l=(upTo C j).length∧l≤c∧Own T.bn_ 6 w' q c (((upTo C j).map λi=>(toV f ps i,i)).flatMap (askC 1))∧Off (λk=>k<w13.heap.size) q∧PlI w3 f.b f.h.bh m ru rt now (A++(upTo C j).map λi=>(i,now+1+6)) ((upTo C j).foldl trUp f.trs) w' f v∧aA_ w' rl (λn=>n∈av_ v)∧w13.heap.size≤w'.heap.size,⟨_,0,rfl,Nat.zero_le _,rfl,λ_=>rfl,by rw [hu0];exact Nat.zero_le _,by rw [hu0];rfl,Nat.le_refl _,by rw [hu0];exact .nil _ _ _,.none _,by rw [hu0,List.map_nil,List.append_nil];exact I15,M15,Nat.le_of_lt s15⟩,?_⟩,?_⟩
   ·rintro q17 l17 c17 i17 D3 lv3 w17 ⟨j,rfl,hj,rfl,hz,hGl,rfl,hlc17,o17,off17,I17,M17,s17⟩ hF17
    have fin:(j=list.length∨4≤(A.length:Int)+(upTo C j).length∨ps.length=0)→(upTo C j).length=G.length∧Sl w17 q17 ((G.map λi=>(toV f ps i,i)).flatMap (askC 1))∧Off (λk=>k<w13.heap.size) q17∧PlI w3 f.b f.h.bh m ru rt now (A++G.map λi=>(i,now+1+6)) (G.foldl trUp f.trs) w17 f v:=λh=>by
     have E:=hend (i:=(j:Int)) (λh=>by rw [hz h];rfl) hGl (by omega)
     rw [E] at o17 I17 ⊢
     exact ⟨rfl,o17.sl,off17,I17⟩
    have hjf:aM_ (j:Int):=⟨by omega,by omega⟩
    have hjw:IntKind.wrap .i64 ((j:Int)+1)=((j+1:Nat):Int):=by rw [w64 (by omega) (by omega)];rfl
    have hUl:((aI (A++(upTo C j).map λi=>(i,now+1+6))).length:Int)=A.length+(upTo C j).length:=by simp [aI]
    refine ac_.2 (ac_.2 (ac_.2 ⟨ql,list.length,cl,cellL I17.gr,λhltn=>?_,λhgen=>fin (.inl (by omega))⟩))
    refine fi_ bu_ I17.um ⟨_,rfl,hF17,λh4=>⟨λhp0=>?_,λhp0=>fin (.inr (.inr (by omega)))⟩,λh4=>fin (.inr (.inl (by omega)))⟩
    rw [hUl] at h4
    have skip:(j:Int)∉C→∃l22:Nat,l22<list.length - j∧∃j2:Nat,IntKind.wrap .i64 ((j:Int)+1)=j2∧j2≤list.length∧l22=list.length - j2∧(ps.length=0→j2=0)∧(upTo C j2).length≤(4 - (A.length:Int)).toNat∧(upTo C j).length=(upTo C j2).length∧(upTo C j).length≤c17∧Own T.bn_ 6 w17 q17 c17 (((upTo C j2).map λi=>(toV f ps i,i)).flatMap (askC 1))∧Off (λk=>k<w13.heap.size) q17∧PlI w3 f.b f.h.bh m ru rt now (A++(upTo C j2).map λi=>(i,now+1+6)) ((upTo C j2).foldl trUp f.trs) w17 f v∧aA_ w17 rl (λn=>n∈av_ v)∧w13.heap.size≤w17.heap.size:=λhn=>by
     have es:upTo C ((j+1:Nat):Int)=upTo C (j:Int):=oC_ hn
     exact ⟨list.length - (j+1),by omega,j+1,hjw,by omega,rfl,λh=>by omega,by rw [es];exact hGl,by rw [es],hlc17,by rw [es];exact o17,off17,by rw [es];exact I17,M17,s17⟩
    refine aJ_ bu_ I17.um hjf true cW_ (λx hx=>?_) λhno=>⟨_,false,rfl,(λh=>by cases h),λ_=>⟨hF17,?_⟩⟩
    ·obtain ⟨p,hpm,e⟩:=List.mem_map.1 hx
     have e1:p.1=j:=congrArg Prod.fst e
     have e2:x=.int .i64 p.2:=(congrArg Prod.snd e).symm
     subst e2
     have hn:(j:Int)∉C:=λh=>by
      rcases List.mem_append.1 hpm with h2 | h2
      ·rw [hC] at h;exact (bK_.1 h).2 p h2 e1
      ·obtain ⟨i,hi,rfl⟩:=List.mem_map.1 h2
       have:=(nb_.1 hi).2
       simp only [] at e1;omega
     exact ⟨_,true,rfl,(λ_=>⟨hF17,M17.look hjf (λ_=>⟨true,rfl,(λ_=>⟨hF17,skip hn⟩),λh=>by cases h⟩) λ_=>⟨false,rfl,(λh=>by cases h),λ_=>⟨hF17,skip hn⟩⟩⟩),λh=>by cases h⟩
    refine M17.look hjf (λhmis=>⟨true,rfl,(λ_=>⟨hF17,?_⟩),λh=>by cases h⟩) λhmis=>⟨false,rfl,(λh=>by cases h),λ_=>⟨hF17,skip λh=>hmis (hCm _ h)⟩⟩
    have hjC:(j:Int)∈C:=by
     rw [hC]
     exact bK_.2 ⟨hmis,λp hp e=>hno (p.1,.int .i64 p.2) (List.mem_map.2 ⟨p,List.mem_append_left _ hp,rfl⟩) e⟩
    have hnx:upTo C ((j+1:Nat):Int)=upTo C (j:Int)++[(j:Int)]:=oD_ hCs hjC
    have hto:a8_ ((upTo C j).foldl trUp f.trs) j=a8_ f.trs j:=hD_ (λh=>by have:=(nb_.1 h).2;omega) _
    have hbt:=mZ_ (M:=1+4*now) (by omega) I.tb (j:Int)
    have hnp:0<ps.length:=by omega
    have em:Int.tmod (IntKind.wrap .i64 ((j:Int)+a8_ f.trs j)) (ps.length:Int)=((((j:Int)+a8_ f.trs j)%(ps.length:Int)).toNat:Int):=by
     rw [w64 (by omega) (by omega),Int.tmod_eq_emod_of_nonneg (by omega)]
     have:=Int.emod_nonneg ((j:Int)+a8_ f.trs j) (b:=(ps.length:Int)) (by omega)
     omega
    have hm1:(((j:Int)+a8_ f.trs j)%(ps.length:Int)).toNat<ps.length:=by
     have h1:=Int.emod_nonneg ((j:Int)+a8_ f.trs j) (b:=(ps.length:Int)) (by omega)
     have h2:=Int.emod_lt_of_pos ((j:Int)+a8_ f.trs j) (b:=(ps.length:Int)) (by omega)
     omega
    refine q__ I17.tm hjf ⟨_,rfl,hF17,by omega,?_⟩
    rw [hto,em]
    refine (hp.grow hF17.gr).rd (v:=iv (toV f ps j)) (by simp) (by omega) ?_ λa10 ha10=>⟨_,ha10,λl24 hl24 w18 hF18=>?_⟩
    ·rw [Int.toNat_natCast]
     unfold toV
     exact gw_ hm1
    have g18:Grow w17 w18:=hF18.grow
    have offB:∀ {k:Nat},am_ q17 k→w13.heap.size≤k:=λ{k} ⟨a,ha,e⟩=>by have h:¬a.block<w13.heap.size:=off17 a ha;subst e;omega
    refine qd_ (ver:=1) (o17.grow g18) (by simp) hlc17 (ys:=[(toV f ps j,(j:Int))]) (hF18.sl 1 rfl) rfl (by omega) λq19 c19 w19 o19 hc19 ch19 hq19=>?_
    have hF19:=hF18.reset.step ch19 (λz hz e=>by
     have e1:=offB e
     obtain ⟨a,ha,e2⟩:=e
     have e3:=o17.lt a ha
     simp only [List.mem_cons,List.not_mem_nil,or_false] at hz
     rcases hz with rfl | rfl <;> (simp only [] at e1 e2;omega)) (λk hk e=>by have:=offB e;omega)
    refine ⟨_,_,_,rfl,hF19,?_⟩
    have I19:=(I17.grow g18).keep ch19 λk e=>by
     have e1:=offB e
     exact ⟨by omega,λh=>by have:=I13.lt k h;omega,by omega,by omega⟩
    have M19:=(M17.grow g18).keep ch19 λe=>by have:=offB e;have:=M13.lt;omega
    refine bR_ bu_ I19.um hjf λw20 um20 c20 s20=>?_
    rw [fH_ hno] at um20
    have um20':MapI w20 ru (aI (A++(upTo C ((j+1:Nat):Int)).map λi=>(i,now+1+6))):=by
     rw [hnx]
     have e:aI (A++(upTo C (j:Int)).map λi=>(i,now+1+6))++[((j:Int),Value.int .i64 (now+1+6))]=aI (A++(upTo C (j:Int)++[(j:Int)]).map λi=>(i,now+1+6)):=by simp [aI]
     rw [← e];exact um20
    have hF20:=(hF19.step c20 (λz hz e=>by
     simp only [List.mem_cons,List.not_mem_nil,or_false] at hz
     have e':z.b=ru:=e
     rcases hz with rfl | rfl <;> (simp only [] at e';omega)) (λk hk e=>by have e':k=ru:=e;omega)).sub (L':=[⟨l7,#[.int .i64 o.k,.int .i64 o.i,.int .i64 o.m.kind,.int .i64 o.m.ver,.int .i64 o.m.i,.string (str o.m.text),.slice o.mq o.m.proof.length o.mc],T.aV_,true⟩]) ((List.nil_sublist _).cons_cons _)
    have I20:=I19.setU c20 um20'
    have M20:=M19.keep c20 λe=>by have e':rl=ru:=e;omega
    refine ⟨hF20,q__ I20.tm hjf ⟨_,rfl,hF20,?_⟩⟩
    have etm:=oK_ (qg_ I20.tm) (i:=(j:Int))
    rw [hto] at etm ⊢
    rw [w64 (by omega) (by omega)]
    refine bR_ bu_ I20.tm hjf λw21 tm21 c21 s21=>?_
    rw [etm] at tm21
    have ef:trUp ((upTo C (j:Int)).foldl trUp f.trs) j=(upTo C ((j+1:Nat):Int)).foldl trUp f.trs:=by rw [hnx,List.foldl_append];rfl
    rw [ef] at tm21
    have el:(upTo C ((j+1:Nat):Int)).length=(upTo C (j:Int)).length+1:=by rw [hnx,List.length_append];rfl
    have offq:∀ {k:Nat},am_ q19 k→w13.heap.size≤k:=λ{k} ⟨a,ha,e⟩=>by
     rcases hq19 a ha with h | h
     ·exact offB ⟨a,h,e⟩
     ·subst h
      have:=g18.size
      have h17:w13.heap.size≤w17.heap.size:=s17
      simp only [] at e;omega
    refine ⟨hF20.step c21 (λz hz e=>by
     simp only [List.mem_cons,List.not_mem_nil,or_false] at hz;subst hz
     have e':l7=rt:=e
     omega) (λk hk e=>by have e':k=rt:=e;omega),list.length - (j+1),by omega,j+1,hjw,by omega,rfl,λh=>by omega,by omega,by rw [el],by omega,?_,λa ha h=>?_,I20.setT c21 tm21,M20.keep c21 (λe=>by have e':rl=rt:=e;omega),by have:=g18.size;have:=ch19.size;omega⟩
    ·rw [hnx,List.map_append]
     refine ((o19.keep c20 λa ha e=>?_).keep c21 λa ha e=>?_)
     ·have:=offq ⟨a,ha,rfl⟩
      have e':a.block=ru:=e
      omega
     ·have:=offq ⟨a,ha,rfl⟩
      have e':a.block=rt:=e
      omega
    ·have h':a.block<w13.heap.size:=h
     have:=offq ⟨a,ha,rfl⟩
     omega
   ·rintro q18 l18 c18 D4 w18 ⟨rfl,hs18,off18,I18⟩ hF18
    have hge4:G.length≤4:=by rw [hG];exact tr_ I.fl _ _
    refine iQ_ I18.ok (now:=now+1) ⟨by omega,by omega⟩ (λp hp'=>by have:=I.tb p hp';omega) (by omega) (hp.grow hF18.gr) (λhne a ha=>?_) λw19 q19 c19 H19 o19 ch19 hq19 _=>?_
    ·have hlow:a.block<w.heap.size:=by
      rcases hp with h | ⟨b',o',e,cs,T',fz,hh,_⟩
      ·exact absurd (List.map_eq_nil_iff.1 h) hne
      ·rw [ha] at e;cases e;exact aj_ hh
     exact ⟨λe=>by have:=(I.hi f.wt.ak (.inr (.inl (.inr (.inr rfl))))).1;omega,λe=>by have:=(I.hi f.tr (.inr (.inr (.inr rfl)))).1;omega⟩
    rw [← hG,hver1] at o19
    rw [← hG]
    have hF19:=hF18.step ch19 (λz hz e=>by
     simp only [List.mem_cons,List.not_mem_nil,or_false] at hz;subst hz
     exact l7n _ (hd_ _ e) rfl) offs
    refine ⟨_,_,_,rfl,hF19,λ_=>?_,λh=>absurd rfl h⟩
    have hask:(f.tick v (now+1) ps.length).wt.askd=A++G.map λi=>(i,now+1+6):=by
     show bg_ f (now+1)++(goL f v (now+1) ps.length).map (λi=>(i,now+1+f.wt.tmo))=_
     rw [I.fl.tmo,hA,hG]
    have htrs:(f.tick v (now+1) ps.length).trs=G.foldl trUp f.trs:=by rw [hG];rfl
    have I19:PlI w3 f.b f.h.bh m ru rt (now+1) (f.tick v (now+1) ps.length).wt.askd (f.tick v (now+1) ps.length).trs w19 (f.tick v (now+1) ps.length) v:=by
     rw [hask,htrs]
     refine I18.go H19 (I.fl.tick (now+1) ps.length) rfl rfl (λp hp'=>?_) ch19 λk hk=>.inl hk
     rw [htrs] at hp'
     have:=rn_ (l:=G) (M:=1+4*now) (by omega) I.tb p hp'
     omega
    have hs19:=hs18.keep ch19 λa ha e=>by
     have h1:¬a.block<w13.heap.size:=off18 a ha
     have:=I13.lt _ (hd_ _ e)
     omega
    refine ⟨λn lv w'=>∃j:Nat,n=j∧j≤G.length∧lv=G.length - j∧Sl w' q19 ((G.map λi=>(toV f ps i,i)).flatMap (askC 1))∧Sl w' q18 ((G.map λi=>(toV f ps i,i)).flatMap (askC 1))∧PlI w3 f.b f.h.bh m ru rt (now+1) (f.tick v (now+1) ps.length).wt.askd (f.tick v (now+1) ps.length).trs w' (f.tick v (now+1) ps.length) v,⟨_,0,rfl,Nat.zero_le _,rfl,o19.sl,hs19,I19⟩,?_⟩
    rintro n20 D5 lv20 w20 ⟨j,rfl,hj,rfl,h1,h2,I20⟩ hF20
    refine ⟨λhlt20 w21 hF21=>⟨λw'=>Grow w21 w',.refl _ _,?_⟩,λhge20=>⟨os.length - (kk+1),by omega,kk+1,hkw,by omega,rfl,by omega,by omega,_,_,I20⟩⟩
    have g21:Grow w20 w21:=hF21.grow
    have hjG:j<G.length:=by omega
    have hjm:j<(G.map λi=>(toV f ps i,i)).length:=by rw [List.length_map];exact hjG
    have el:(G.map λi=>(toV f ps i,i))[j]=(toV f ps G[j],G[j]):=by simp
    refine (h1.grow g21).rdN (dU_ 1) (by decide) rfl hjm hjG λa12 hc1=>?_
    rw [el] at hc1
    refine ac_.2 ⟨_,λw' e=>Grow.cell e (hc1 0 _ rfl),?_⟩
    refine (h2.grow g21).rdN (dU_ 1) (by decide) rfl hjm hjG λa15 hc2=>?_
    rw [el] at hc2
    refine ac_.2 ⟨_,λw' e=>Grow.cell e (hc2 0 _ rfl),λ_=>?_,λh=>absurd rfl h⟩
    refine (h1.grow g21).rdN (dU_ 1) (by decide) rfl hjm hjG λa18 hc3=>?_
    rw [el] at hc3
    refine ac_.2 ⟨_,λw' e=>by rw [add_add];exact Grow.cell e (hc3 1 _ rfl),_,λw' e=>by rw [add_add];exact Grow.cell e (hc3 2 _ rfl),_,λw' e=>by rw [add_add];exact Grow.cell e (hc3 3 _ rfl),_,λw' e=>by rw [add_add];exact Grow.cell e (hc3 4 _ rfl),_,_,_,λw' e=>by rw [add_add];exact Grow.cell e (hc3 5 _ rfl),?_⟩
    refine (h2.grow g21).rdN (dU_ 1) (by decide) rfl hjm hjG λa21 hc4=>?_
    rw [el] at hc4
    refine ac_.2 ⟨_,λw' e=>by rw [add_add];exact Grow.cell e (hc4 1 _ rfl),_,λw' e=>by rw [add_add];exact Grow.cell e (hc4 2 _ rfl),_,λw' e=>by rw [add_add];exact Grow.cell e (hc4 3 _ rfl),_,λw' e=>by rw [add_add];exact Grow.cell e (hc4 4 _ rfl),_,_,_,λw' e=>by rw [add_add];exact Grow.cell e (hc4 5 _ rfl),?_⟩
    refine ob_ λw22 g22=>⟨true,rfl,(λ_=>⟨hF21.after g22,g22,G.length - (j+1),by omega,j+1,by rw [w64 (by omega) (by omega)];rfl,by omega,rfl,h1.grow (g21.trans g22),h2.grow (g21.trans g22),I20.grow (g21.trans g22)⟩),λh=>by cases h⟩
 ·
  intro w13 hF13
  have g13:=(hF13.unM hl13).grow
  have hF13':=hF13.reset
  have l13lt:=aj_ (hF13.blk 1 rfl)
  simp only [] at l13lt
  have I13:=I12.grow g13
  have M13:=M12.grow g13
  have s13:=g13.size
  refine ey_ (hvG I13.gr) hL (i:=o.i) (λw14 qb cb hi0 hi1 gb hsb hob=>⟨_,_,_,_,_,_,_,rfl,hF13'.after gb,λw15 hF15=>?_⟩) λw14 hno gb=>⟨_,_,_,_,_,_,_,rfl,hF13'.after gb,λw15 hF15=>?_⟩
  ·refine ⟨rfl,blkM m list o.i.toNat,rfl,rfl,rfl,rfl,rfl,hsb.keep hF15.stp λa ha e=>?_,by have:=f0_ hL (j:=o.i.toNat) (by omega);omega,⟨by show _≤((o.i.toNat:Nat):Int);omega,by show ((o.i.toNat:Nat):Int)≤_;omega⟩,(I13.grow gb).keep hF15.stp l13off,(M13.grow gb).keep hF15.stp λe=>?_⟩
   ·have h1:¬a.block<w13.heap.size:=hob a ha
    have e':a.block=l13:=by simpa using e
    omega
   ·have e':rl=l13:=by simpa using e
    have:=M12.lt
    omega
  ·refine ⟨rfl,⟨4,m.version,o.i,[],[]⟩,rfl,rfl,rfl,rfl,rfl,.inl rfl,Nat.zero_le _,hoi,(I13.grow gb).keep hF15.stp l13off,(M13.grow gb).keep hF15.stp λe=>?_⟩
   have e':rl=l13:=by simpa using e
   have:=M12.lt
   omega
 ·
  intro w13 hF13
  have g13:=(hF13.unM hl13).grow
  have hF13':=hF13.reset
  have l13lt:=aj_ (hF13.blk 1 rfl)
  simp only [] at l13lt
  have I13:=I12.grow g13
  have M13:=M12.grow g13
  have s13:=g13.size
  refine ey_ (hvG I13.gr) hL (i:=o.i) (λw14 qb cb hi0 hi1 gb hsb hob=>⟨_,_,_,_,_,_,_,rfl,hF13'.after gb,?_,λw15 hF15=>?_⟩) λw14 hno gb=>⟨_,_,_,_,_,_,_,rfl,hF13'.after gb,by decide,λw15 hF15=>?_⟩
  ·have:=f0_ hL (j:=o.i.toNat) (by omega)
   rw [ai_];omega
  ·refine ⟨rfl,⟨3,m.version,((o.i.toNat:Nat):Int),(blkM m list o.i.toNat).text++[33],(blkM m list o.i.toNat).proof⟩,rfl,rfl,rfl,aD_ _ _,rfl,hsb.keep hF15.stp λa ha e=>?_,by
    have:=f0_ hL (j:=o.i.toNat) (by omega)
    show ((blkM m list o.i.toNat).text++[33]).length≤_
    simp only [List.length_append,List.length_cons,List.length_nil];omega,⟨by show _≤((o.i.toNat:Nat):Int);omega,by show ((o.i.toNat:Nat):Int)≤_;omega⟩,(I13.grow gb).keep hF15.stp l13off2,(M13.grow gb).keep hF15.stp λe=>?_⟩
   ·have h1:¬a.block<w13.heap.size:=hob a ha
    have e':a.block=l13:=by simpa using e
    omega
   ·have e':rl=l13:=by simpa using e
    have:=M12.lt
    omega
  ·refine ⟨rfl,⟨4,m.version,o.i,[33],[]⟩,rfl,rfl,rfl,aD_ [] [33],rfl,.inl rfl,(by show ([33]:List UInt8).length≤1000000;decide),hoi,(I13.grow gb).keep hF15.stp l13off2,(M13.grow gb).keep hF15.stp λe=>?_⟩
   have e':rl=l13:=by simpa using e
   have:=M12.lt
   omega
 ·
  intro w13 hF13
  have g13:=((hF13.unM hl13).unM hl13).grow
  exact ⟨rfl,⟨4,1,o.i,[],[]⟩,rfl,rfl,rfl,rfl,rfl,.inl rfl,Nat.zero_le _,hoi,I12.grow g13,M12.grow g13⟩
 ·
  intro w13 hF13
  have g13:=(hF13.unM hl13).grow
  have hF13':=hF13.reset
  have I13:=I12.grow g13
  refine mQ_ I13.ok (by rw [hver1];exact ⟨by decide,by decide⟩) λw14 H14 c14=>⟨_,rfl,hF13'.step c14 (λz hz e=>?_) offs,?_⟩
  ·simp only [List.mem_cons,List.not_mem_nil,or_false] at hz;subst hz
   exact l7n _ (hd_ _ e) rfl
  ·have hF14:=hF13'.step c14 (λz hz e=>by
    simp only [List.mem_cons,List.not_mem_nil,or_false] at hz;subst hz
    exact l7n _ (hd_ _ e) rfl) offs
   obtain ⟨tl,tm,tlen⟩:=((M12.grow g13).keep c14 λe=>rln _ (hd_ _ e) rfl).lenL hmn
   refine fi_ jp_ tm ⟨_,rfl,hF14,λ_=>⟨os.length - (kk+1),by omega,kk+1,hkw,by omega,rfl,hn0,by omega,f,v,I13.go H14 I.fl rfl rfl I.tb c14 λk hk=>.inl hk⟩,λhne=>absurd (by rw [tlen]) hne⟩
 ·
  intro w13 hF13
  have g13:=(hF13.unM hl13).grow
  exact ⟨rfl,o.m,rfl,rfl,rfl,rfl,rfl,hom.grow hF13.reset.gr,by have:=hsm.1;omega,hmi,I12.grow g13,M12.grow g13⟩
 ·rintro n22 kd vr im tx q22 l22 c22 D6 w22 ⟨hnow,M,rfl,rfl,rfl,rfl,rfl,hsM,hMt,hMi,I22,M22⟩ hF22
  subst hnow
  refine ⟨λw'=>∃f' v',PlI w3 f.b f.h.bh m ru rt n22 f'.wt.askd f'.trs w' f' v',?_,?_⟩
  ·refine od_ I22.ok I.fl hone hblk h40 hsM hMt hMi λw23 f' v' got e R H' F' hb' hbh' htr' htr2 c23 hgr=>?_
   have I23:PlI w3 f.b f.h.bh m ru rt n22 f.wt.askd f'.trs w23 f' v':=by
    rw [htr'];exact I22.go H' F' hb' hbh' (by rw [htr'];exact I.tb) c23 hgr
   have M23:=M22.keep c23 λe=>rln _ (hd_ _ e) rfl
   have hF23:=hF22.step c23 (λz hz e=>by
    simp only [List.mem_cons,List.not_mem_nil,or_false] at hz
    rcases hz with rfl | rfl
    ·exact l7n _ (hd_ _ e) rfl
    ·exact (l13off l13 (by simp)).2.1 (hd_ _ e)) offs
   have rlu:rl≠ru:=by omega
   have hlo:=I.lo
   have one1:0<(av_ v).length∨M.i∉av_ v:=by
    by_cases h:M.i∈av_ v
    ·exact .inl (List.length_pos_of_mem h)
    ·exact .inr h
   cases R with
   | new _ _ hv1 hk3 hib hmi2 hlen hask=>
    refine ⟨true,.nilIface,rfl,λ_=>⟨hF23,λb w'=>b=true∧Grow w23 w',λw24 hF24=>⟨λw'=>Grow w24 w',.refl _ _,λ_=>⟨λ_=>⟨λ_=>ac_.2 (ac_.2 (ac_.2 ⟨ql,list.length,cl,λw25 g25=>cellL (I23.gr.trans (hF24.grow.trans g25)),λ_=>⟨λ_=>⟨rfl,hF24.grow⟩,(λx v h=>by cases h),.inl rfl⟩,λh=>absurd hib.2 h⟩)),λh=>absurd hib.1 h⟩,λh=>absurd hv1 h⟩,λh=>absurd hk3 h⟩,λD7 w24 hI24 hF24=>?_,λD8 w24 hI24=>absurd hI24.1 (by decide)⟩,λh=>by cases h⟩
    have M24:=M23.grow hI24.2
    have I24:=I23.grow hI24.2
    refine M24.look hMi (λ_=>⟨true,rfl,(λ_=>⟨hF24,?_⟩),λh=>by cases h⟩) λhn=>absurd hmi2 hn
    refine ⟨λw'=>PlI w3 f.b f.h.bh m ru rt n22 f'.wt.askd f'.trs w' f' v'∧aA_ w' rl (λn=>n∈av_ v),⟨λ_=>⟨λh4=>absurd (hk3.symm.trans h4) (by decide),λ_=>⟨λ_=>?_,λh=>absurd hk3 h⟩⟩,λh=>absurd hv1 h⟩,?_⟩
    ·refine b3_ bu_ I24.um hMi λw25 um25 c25 s25=>⟨rfl,hF24.step c25 (λz hz e=>by
      simp only [List.mem_cons,List.not_mem_nil,or_false] at hz
      have e':z.b=ru:=e
      rcases hz with rfl | rfl <;> (simp only [] at e';omega)) (λk hk e=>by have e':k=ru:=e;omega),I24.setU c25 ?_,M24.keep c25 rlu⟩
     rw [hask,← iu_];exact um25
    ·rintro D9 w25 ⟨I25,M25⟩ hF25
     obtain ⟨tl,tm,tlen⟩:=M25.lenL hmn
     refine M25.look hMi (λ_=>⟨true,rfl,(λ_=>⟨hF25,?_⟩),λh=>by cases h⟩) λhn=>absurd hmi2 hn
     refine I25.missing hone λw26 q26 c26 g26 _=>⟨_,_,_,rfl,hF25.after g26,fi_ jp_ (tm.grow g26) ⟨_,rfl,hF25.after g26,λ_=>⟨f',v',I25.grow g26⟩,λhne=>absurd ?_ hne⟩⟩
     rw [tlen,w64 (by omega) (by omega),hlen]
   | had hv1 hk3 hib hin2=>
    have hnm:M.i∉av_ v:=λh=>by
     obtain ⟨p,hp',e⟩:=hin2
     exact (bt_.1 h).2 p hp' e
    have hask:f.wt.askd.filter (λp=>p.1 != M.i)=f.wt.askd:=by
     rw [List.filter_eq_self]
     intro p hp'
     have h1:=(I.ok.miss p.1).1 (I.ok.at_.wat.sub p hp')
     simpa using λe:p.1=M.i=>hnm (e ▸ h1)
    refine ⟨false,.nilIface,rfl,(λh=>by cases h),λ_=>⟨hF23,λb w'=>b=true∧Grow w23 w',λw24 hF24=>⟨λw'=>Grow w24 w',.refl _ _,λ_=>⟨λ_=>⟨λ_=>ac_.2 (ac_.2 (ac_.2 ⟨ql,list.length,cl,λw25 g25=>cellL (I23.gr.trans (hF24.grow.trans g25)),λ_=>⟨λ_=>⟨rfl,hF24.grow⟩,(λx v h=>by cases h),.inl rfl⟩,λh=>absurd hib.2 h⟩)),λh=>absurd hib.1 h⟩,λh=>absurd hv1 h⟩,λh=>absurd hk3 h⟩,λD7 w24 hI24 hF24=>?_,λD8 w24 hI24=>absurd hI24.1 (by decide)⟩⟩
    have M24:=M23.grow hI24.2
    have I24:=I23.grow hI24.2
    refine M24.look hMi (λhn=>absurd hn hnm) λ_=>⟨false,rfl,(λh=>by cases h),λ_=>⟨hF24,?_⟩⟩
    refine ⟨λw'=>PlI w3 f.b f.h.bh m ru rt n22 f.wt.askd f.trs w' f v∧aA_ w' rl (λn=>n∈av_ v),⟨λ_=>⟨λh4=>absurd (hk3.symm.trans h4) (by decide),λ_=>⟨λ_=>?_,λh=>absurd hk3 h⟩⟩,λh=>absurd hv1 h⟩,?_⟩
    ·refine b3_ bu_ I24.um hMi λw25 um25 c25 s25=>⟨rfl,hF24.step c25 (λz hz e=>by
      simp only [List.mem_cons,List.not_mem_nil,or_false] at hz
      have e':z.b=ru:=e
      rcases hz with rfl | rfl <;> (simp only [] at e';omega)) (λk hk e=>by have e':k=ru:=e;omega),I24.setU c25 ?_,M24.keep c25 rlu⟩
     rw [iu_,hask] at um25;exact um25
    ·rintro D9 w25 ⟨I25,M25⟩ hF25
     exact M25.look hMi (λhn=>absurd hn hnm) λ_=>⟨false,rfl,(λh=>by cases h),λ_=>⟨hF25,M25.look hMi (λhn=>absurd hn hnm) λ_=>⟨false,rfl,(λh=>by cases h),λ_=>⟨hF25,f,v,I25⟩⟩⟩⟩
   | rest _ _ r4 r3 r0=>
    refine ⟨false,e,rfl,(λh=>by cases h),λ_=>⟨hF23,λb w'=>b=false∧Grow w23 w',λw24 hF24=>⟨λw'=>Grow w24 w',.refl _ _,λhk3=>⟨λhv1=>⟨λh0=>ac_.2 (ac_.2 (ac_.2 ⟨ql,list.length,cl,λw25 g25=>cellL (I23.gr.trans (hF24.grow.trans g25)),λ_=>⟨λhnil=>?_,λx v hx=>⟨rfl,hF24.grow⟩,?_⟩,λh=>⟨rfl,hF24.grow⟩⟩)),λh=>⟨rfl,hF24.grow⟩⟩,λh=>⟨rfl,hF24.grow⟩⟩,λh=>⟨rfl,hF24.grow⟩⟩,λD7 w24 hI24=>absurd hI24.1 (by decide),λD8 w24 hI24 hF24=>?_⟩⟩
    ·obtain ⟨c,hc,_⟩:=r3 hv1 hk3
     obtain ⟨t,x,h⟩:=hc.iface
     rw [h] at hnil;cases hnil
    ·obtain ⟨c,hc,_⟩:=r3 hv1 hk3
     obtain ⟨t,x,h⟩:=hc.iface
     exact .inr ⟨t,x,h⟩
    have M24:=M23.grow hI24.2
    have I24:=I23.grow hI24.2
    have same:f'=f→PlI w3 f.b f.h.bh m ru rt n22 f'.wt.askd f'.trs w24 f' v:=λh=>by
     have e:f'.wt.askd=f.wt.askd:=by rw [h]
     rw [e];exact I24
    have gone:∀ {w24:World},PlI w3 f.b f.h.bh m ru rt n22 f.wt.askd f'.trs w24 f' v→aA_ w24 rl (λn=>n∈av_ v)→Fs S0 w [⟨l7,#[.int .i64 o.k,.int .i64 o.i,.int .i64 o.m.kind,.int .i64 o.m.ver,.int .i64 o.m.i,.string (str o.m.text),.slice o.mq o.m.proof.length o.mc],T.aV_,true⟩,⟨l13,#[.int .i64 M.kind,.int .i64 M.ver,.int .i64 M.i,.string (str M.text),.slice q22 M.proof.length c22],T.eg_,true⟩] w24→f'=f.again M.i→
      rn PR (Builtin.delete_ #[T.cK_,T.int] 0 #[.map (some ru),.int .i64 M.i]) (λv1 w25=>v1=.tuple #[]∧Fs S0 w [⟨l7,#[.int .i64 o.k,.int .i64 o.i,.int .i64 o.m.kind,.int .i64 o.m.ver,.int .i64 o.m.i,.string (str o.m.text),.slice o.mq o.m.proof.length o.mc],T.aV_,true⟩,⟨l13,#[.int .i64 M.kind,.int .i64 M.ver,.int .i64 M.i,.string (str M.text),.slice q22 M.proof.length c22],T.eg_,true⟩] w25∧PlI w3 f.b f.h.bh m ru rt n22 f'.wt.askd f'.trs w25 f' v∧aA_ w25 rl (λn=>n∈av_ v)) w24:=λ{w24} I24 M24 hF24 hf=>by
     refine b3_ bu_ I24.um hMi λw25 um25 c25 s25=>⟨rfl,hF24.step c25 (λz hz e=>by
      simp only [List.mem_cons,List.not_mem_nil,or_false] at hz
      have e':z.b=ru:=e
      rcases hz with rfl | rfl <;> (simp only [] at e';omega)) (λk hk e=>by have e':k=ru:=e;omega),I24.setU c25 ?_,M24.keep c25 rlu⟩
     have e:f'.wt.askd=f.wt.askd.filter (λp=>p.1 != M.i):=by rw [hf];rfl
     rw [e,← iu_];exact um25
    refine ⟨λw'=>PlI w3 f.b f.h.bh m ru rt n22 f'.wt.askd f'.trs w' f' v∧aA_ w' rl (λn=>n∈av_ v),⟨λhv1=>⟨λhk4=>gone I24 M24 hF24 (r4 hv1 hk4),λhn4=>⟨λhk3=>?_,λhn3=>⟨same (r0 (.inr ⟨hn3,hn4⟩)),M24⟩⟩⟩,λhnv=>⟨same (r0 (.inl hnv)),M24⟩⟩,?_⟩
    ·obtain ⟨c,hc,hcb,hcc⟩:=r3 hv1 hk3
     refine sE_ (hE.tP_ hF24.gr) hc hcb λw25 g25=>⟨_,rfl,hF24.after g25,λh11=>?_,λhn11=>?_⟩
     ·refine gone (I24.grow g25) (M24.grow g25) (hF24.after g25) ?_
      rcases hcc with ⟨h,_⟩ | ⟨_,h⟩
      ·exact absurd h11 h
      ·exact h
     ·rcases hcc with ⟨_,h⟩ | ⟨h,_⟩
      ·exact ⟨(same h).grow g25,M24.grow g25⟩
      ·exact absurd h hn11
    ·rintro D9 w25 ⟨I25,M25⟩ hF25
     obtain ⟨tl,tm,tlen⟩:=M25.lenL hmn
     refine M25.look hMi (λhmi2=>⟨true,rfl,(λ_=>⟨hF25,?_⟩),λh=>by cases h⟩) λhn=>⟨false,rfl,(λh=>by cases h),λ_=>⟨hF25,f',v,I25⟩⟩
     have hpos2:=List.length_pos_of_mem hmi2
     refine I25.missing hone λw26 q26 c26 g26 _=>⟨_,_,_,rfl,hF25.after g26,fi_ jp_ (tm.grow g26) ⟨_,rfl,hF25.after g26,λheq=>?_,λ_=>⟨f',v,I25.grow g26⟩⟩⟩
     rw [tlen,w64 (by omega) (by omega)] at heq
     omega
  ·rintro D7 w24 ⟨f',v',I24⟩ hF24
   refine ac_.2 (ac_.2 (ac_.2 ⟨ql,list.length,cl,cellL I24.gr,?_⟩))
   refine ⟨λn lv w'=>∃j:Nat,n=j∧j≤list.length∧lv=list.length - j∧PlI w3 f.b f.h.bh m ru rt n22 f'.wt.askd f'.trs w' f' v',⟨_,0,rfl,Nat.zero_le _,rfl,I24⟩,?_⟩
   rintro n25 D8 lv25 w25 ⟨j,rfl,hj,rfl,I25⟩ hF25
   have hjf:aM_ (j:Int):=⟨by omega,by omega⟩
   have hjw:IntKind.wrap .i64 ((j:Int)+1)=((j+1:Nat):Int):=by rw [w64 (by omega) (by omega)];rfl
   refine ⟨λhlt25 w26 hF26=>⟨λw'=>Grow w26 w',.refl _ _,?_,?_⟩,λhge25=>?_⟩
   ·have I26:=I25.grow hF26.grow
    exact I26.tries hjf ⟨_,rfl,hF26.reset,.refl _ _,q__ I26.tm hjf ⟨_,rfl,hF26.reset,.refl _ _,λ_=>⟨list.length - (j+1),by omega,j+1,hjw,by omega,rfl,I26⟩,λh=>absurd rfl h⟩⟩
   ·have I26:=I25.grow hF26.grow
    exact q__ I26.tm hjf ⟨_,rfl,hF26.reset,.refl _ _,I26.tries hjf ⟨_,rfl,hF26.reset,.refl _ _,λ_=>⟨list.length - (j+1),by omega,j+1,hjw,by omega,rfl,I26⟩,λh=>absurd rfl h⟩⟩
   ·have hml2:(av_ v').length≤1000000:=by
     have:=eD_ v' v'.man.blocks.toNat
     have h2:v'.man.blocks=(list.length:Int):=by rw [I25.fl.man,hblk]
     rw [h2] at this
     unfold av_
     rw [h2];omega
    have nxt:∀ {w':World},Grow w25 w'→∃l67:Nat,l67<os.length - kk∧∃kk2:Nat,IntKind.wrap .i64 ((kk:Int)+1)=kk2∧kk2≤os.length∧l67=os.length - kk2∧0≤n22∧n22≤kk2∧∃f' v',PlI w3 f.b f.h.bh m ru rt n22 f'.wt.askd f'.trs w' f' v':=λg=>⟨os.length - (kk+1),by omega,kk+1,hkw,by omega,rfl,hn0,by omega,f',v',I25.grow g⟩
    refine I25.ro_ λw27 q27 c27 g27 hs27=>⟨_,_,_,rfl,hF25.after g27,?_⟩
    have hF27:=hF25.after g27
    refine (I25.grow g27).missing hone λw28 q28 c28 g28 hs28=>⟨_,_,_,rfl,hF27.after g28,?_⟩
    have hF28:=hF27.after g28
    refine om_ (hs27.grow g28) hs28 rfl rfl hml2 λw29 g29=>?_
    rw [decide_eq_true rfl]
    have g3:=(g27.trans g28).trans g29
    have hF29:=hF28.after g29
    refine ⟨true,rfl,(λ_=>⟨hF29,?_⟩),λh=>by cases h⟩
    refine (I25.grow g3).done hblk λw30 t30 g30 ht30=>⟨t30,rfl,(λh30=>⟨hF29.after g30,?_⟩),λh30=>⟨hF29.after g30,?_⟩⟩
    ·refine ((I25.grow g3).grow g30).whole hone hblk λw31 t31 g31 ht31=>⟨t31,rfl,(λh31=>⟨(hF29.after g30).after g31,?_⟩),λh31=>absurd (ht31.2 (ht30.1 h30)) (by rw [h31];decide)⟩
     exact (((I25.grow g3).grow g30).grow g31).version hone ⟨_,rfl,(hF29.after g30).after g31,λ_=>nxt ((g3.trans g30).trans g31),λh=>absurd rfl h⟩
    ·refine ((I25.grow g3).grow g30).whole hone hblk λw31 t31 g31 ht31=>⟨t31,rfl,(λh31=>absurd (ht30.2 (ht31.1 h31)) (by rw [h30];decide)),λh31=>⟨(hF29.after g30).after g31,?_⟩⟩
     exact (((I25.grow g3).grow g30).grow g31).version hone ⟨_,rfl,(hF29.after g30).after g31,λ_=>nxt ((g3.trans g30).trans g31),λh=>absurd rfl h⟩
end Go.Vc
namespace Go.Vc
open Go Go.ChangeShapes Go.WideShapes Go.ChangeAt Go.RowKit Go.Deep Go.Proofs Go.Proofs.YthcpblejnhhhdaaGreatDoor
theorem mg_:Tryz.f4.params=#[T.bk_,T.bq_,T.aN_]:=by kernel_rfl
theorem rN_:PR.underlying T.bq_=some (.slice T.int):=by kernel_rfl
theorem tZ_:PR.cellsOf T.int=1:=by kernel_rfl
theorem sf_:PR.readableRec T.bq_=true:=by kernel_rfl
theorem sW_:PR.underlying T.aN_=some (.slice T.aV_):=by kernel_rfl
theorem cSay:PR.cellsOf T.aV_=7:=by kernel_rfl
theorem fSay:flds T.aV_=some [(T.int,0),(T.int,1),(T.eg_,2)]:=by kernel_rfl
theorem se_:PR.readableRec T.aN_=true:=by kernel_rfl
theorem js_ {n:Int} (h:(Lit.int .i64 n).wf=true):aM_ n:=by
 simp [Lit.wf,IntKind.min,IntKind.max,IntKind.bits,IntKind.signed] at h;unfold aM_;omega
theorem tT_:flds T.eg_=some [(T.int,0),(T.int,1),(T.int,2),(T.string,3),(T.aR_,4)]:=by kernel_rfl
theorem tY_:PR.cellsOf T.eg_=5:=by kernel_rfl
theorem qV_:PR.readableRec T.bk_=true:=by kernel_rfl
theorem rO_:PR.underlying T.bk_=some (.slice T.aq_):=by kernel_rfl
theorem t0_:PR.cellsOf T.aq_=2:=by kernel_rfl
theorem tU_:flds T.aq_=some [(T.int,0),(T.int,1)]:=by kernel_rfl
theorem je_ (t:ByteArray):str t.data.toList=t:=by
 apply ByteArray.ext
 simp [str]
section
variable {H:Type} {enc:TypeId × Value→H} {w:World} {base:Nat} {spare:Nat→Bool} {held:Bool}
theorem sA_ {n:Nat} {cs:List Value} {x:DataW H × List MemPlace} (hx:DataW.trod enc PR w base spare held n T.aq_ cs=some x) (hlen:cs.length=2):∃e:Int × Int,cs=[.int .i64 e.1,.int .i64 e.2]:=by
 obtain ⟨m,hm⟩:=hG_ tU_ hx
 obtain ⟨y0,h0⟩:=hm 0 _ rfl
 obtain ⟨y1,h1⟩:=hm 1 _ rfl
 match cs,hlen with
 | [v0,v1],_=>
  rw [show PR.cellsOf (T.int,0).1=1 from cInt] at h0
  rw [show PR.cellsOf (T.int,1).1=1 from cInt] at h1
  obtain ⟨n0,e0,_,_⟩:=DataW.trod_int uInt h0
  obtain ⟨n1,e1,_,_⟩:=DataW.trod_int uInt h1
  obtain rfl:v0=.int .i64 n0:=(List.cons.inj e0).1
  obtain rfl:v1=.int .i64 n1:=(List.cons.inj e1).1
  exact ⟨(n0,n1),rfl⟩
theorem rs_ {fuel:Nat} {v:Value} {x:DataW H × List MemPlace} (h:DataW.trod enc PR w base spare held fuel T.bk_ [v]=some x):∃(q:Option Addr) (l:List (Int × Int)) (c:Nat),v=.slice q l.length c∧Sl w q (encE l):=by
 obtain ⟨q,l,c,h1,h2,_,_⟩:=hj_ (α:=Int × Int) (s:=2) (f:=λe=>[.int .i64 e.1,.int .i64 e.2]) (λ_=>rfl) (by decide) rO_ t0_ (G:=λ_=>True) (λn cs x hx hlen=>by
  obtain ⟨e,he⟩:=sA_ hx hlen
  exact ⟨e,he,trivial⟩) h
 exact ⟨q,l,c,h1,h2⟩
theorem sl_ {n:Nat} {cs:List Value} {x:DataW H × List MemPlace} (hx:DataW.trod enc PR w base spare held n T.eg_ cs=some x) (hlen:cs.length=5) :
  ∃(m:MsgL) (q:Option Addr) (c:Nat),cs=[.int .i64 m.kind,.int .i64 m.ver,.int .i64 m.i,.string (str m.text),.slice q m.proof.length c]∧Sl w q (m.proof.map sv8')∧aM_ m.i:=by
 obtain ⟨m,hm⟩:=hG_ tT_ hx
 obtain ⟨y0,h0⟩:=hm 0 _ rfl
 obtain ⟨y1,h1⟩:=hm 1 _ rfl
 obtain ⟨y2,h2⟩:=hm 2 _ rfl
 obtain ⟨y3,h3⟩:=hm 3 _ rfl
 obtain ⟨y4,h4⟩:=hm 4 _ rfl
 match cs,hlen with
 | [v0,v1,v2,v3,v4],_=>
  rw [show PR.cellsOf (T.int,0).1=1 from cInt] at h0
  rw [show PR.cellsOf (T.int,1).1=1 from cInt] at h1
  rw [show PR.cellsOf (T.int,2).1=1 from cInt] at h2
  rw [show PR.cellsOf (T.string,3).1=1 from cStr] at h3
  rw [show PR.cellsOf (T.aR_,4).1=1 from tX_] at h4
  obtain ⟨n0,e0,_,_⟩:=DataW.trod_int uInt h0
  obtain ⟨n1,e1,_,_⟩:=DataW.trod_int uInt h1
  obtain ⟨n2,e2,_,r2⟩:=DataW.trod_int uInt h2
  obtain ⟨s,e3,_⟩:=DataW.trod_string uStr h3
  obtain ⟨q,l,c,e4,s4⟩:=r__ (v:=v4) h4
  obtain rfl:v0=.int .i64 n0:=(List.cons.inj e0).1
  obtain rfl:v1=.int .i64 n1:=(List.cons.inj e1).1
  obtain rfl:v2=.int .i64 n2:=(List.cons.inj e2).1
  obtain rfl:v3=.string s:=(List.cons.inj e3).1
  subst e4
  refine ⟨⟨n0,n1,n2,s.data.toList,l.map (·.data.toList)⟩,q,c,?_,?_,js_ r2⟩
  ·simp only [je_,List.length_map]
  ·rw [List.map_map]
   have:(sv8' ∘ λx:ByteArray=>x.data.toList)=Value.string:=by
    funext x;simp only [Function.comp,sv8',je_]
   rw [this];exact s4
theorem s4_ {n:Nat} {cs:List Value} {x:DataW H × List MemPlace} (hx:DataW.trod enc PR w base spare held n T.aV_ cs=some x) (hlen:cs.length=7) :
  ∃o:SayF,cs=sayC o∧Sl w o.mq (o.m.proof.map sv8')∧aM_ o.i∧aM_ o.m.i:=by
 obtain ⟨m,hm⟩:=hG_ fSay hx
 obtain ⟨y0,h0⟩:=hm 0 _ rfl
 obtain ⟨y1,h1⟩:=hm 1 _ rfl
 obtain ⟨y2,h2⟩:=hm 2 _ rfl
 match cs,hlen with
 | [v0,v1,v2,v3,v4,v5,v6],_=>
  rw [show PR.cellsOf (T.int,0).1=1 from cInt] at h0
  rw [show PR.cellsOf (T.int,1).1=1 from cInt] at h1
  rw [show PR.cellsOf (T.eg_,2).1=5 from tY_] at h2
  obtain ⟨n0,e0,_,_⟩:=DataW.trod_int uInt h0
  obtain ⟨n1,e1,_,r1⟩:=DataW.trod_int uInt h1
  obtain ⟨mm,mq,mc,e2,s2,r2⟩:=sl_ (cs:=[v2,v3,v4,v5,v6]) h2 rfl
  obtain rfl:v0=.int .i64 n0:=(List.cons.inj e0).1
  obtain rfl:v1=.int .i64 n1:=(List.cons.inj e1).1
  injection e2 with a2 e2
  injection e2 with a3 e2
  injection e2 with a4 e2
  injection e2 with a5 e2
  injection e2 with a6 e2
  subst a2 a3 a4 a5 a6
  exact ⟨⟨n0,n1,mm,mq,mc⟩,rfl,s2,js_ r1,r2⟩
theorem sc_ {fuel:Nat} {v:Value} {x:DataW H × List MemPlace} (h:DataW.trod enc PR w base spare held fuel T.aN_ [v]=some x):∃(q:Option Addr) (os:List SayF) (c:Nat),v=.slice q os.length c∧qm_ w q os:=by
 obtain ⟨q,l,c,h1,h2,h3,_⟩:=hj_ (α:=SayF) (s:=7) (f:=sayC) m6_ (by decide) sW_ cSay (G:=λo=>Sl w o.mq (o.m.proof.map sv8')∧aM_ o.i∧aM_ o.m.i) (λn cs x hx hlen=>s4_ hx hlen) h
 exact ⟨q,l,c,h1,⟨h2,h3⟩⟩
theorem ri_ {fuel:Nat} {v:Value} {x:DataW H × List MemPlace} (h:DataW.trod enc PR w base spare held fuel T.bq_ [v]=some x):∃(q:Option Addr) (l:List Int) (c:Nat),v=.slice q l.length c∧Sl w q (l.map iv):=by
 obtain ⟨q,l,c,h1,h2,_,_⟩:=hj_ (α:=Int) (s:=1) (f:=λn=>[iv n]) (λ_=>rfl) (by decide) rN_ tZ_ (G:=λ_=>True) (λn cs x hx hlen=>by
  obtain ⟨n0,e0,_,_⟩:=DataW.trod_int uInt hx
  exact ⟨n0,e0,trivial⟩) h
 rw [nk_] at h2
 exact ⟨q,l,c,h1,h2⟩
end
theorem p5_ (H:Type) (enc:TypeId × Value→H) (W:World) (base:Nat) (args:Array Value) (ds gs:List (DataW H)) (before:List MemPlace)
  (hval:∀(j:Nat) t v,Tryz.f4.params[j]? = some t→args[j]? = some v→Value.okWide Tryz.prog W .any base t v)
  (hW:DataW.Whole enc Tryz.prog Tryz.f4.params.toList Rows.fetchPlaysSpec.vars false W args.toList ds gs before) (hL:laidMetH Tryz.prog Rows.fetchPlaysRow.laid W) :
  Calls Tryz.prog 4 args W λe W'=>∃v,e=.returned v∧Rows.fetchPlaysSpec.post enc Tryz.prog Tryz.f4 false true false false W args v W':=by
 have hW':=hW
 obtain ⟨p,q,hA0,hV,rfl,hfz,hnd⟩:=hW
 have hA:DataW.TrodAll enc Tryz.prog W 0 (λ_=>true) true Tryz.f4.params.toList args.toList ds p:=hA0
 rw [mg_] at hA hval
 obtain ⟨v0,v1,v2,d0,d1,d2,p0,p1,p2,rfl,rfl,rfl,h0,h1,h2⟩:=trodAll_three hA
 obtain ⟨rfl,rfl⟩:=trodVars_none hV
 have h0k:=h0
 have h1k:=h1
 have h2k:=h2
 obtain ⟨q1,l1,c1,rfl⟩:=okWide_slice rO_ (hval 0 _ _ rfl rfl)
 obtain ⟨q2,l2,c2,rfl⟩:=okWide_slice rN_ (hval 1 _ _ rfl rfl)
 obtain ⟨q3,l3,c3,rfl⟩:=okWide_slice sW_ (hval 2 _ _ rfl rfl)
 obtain ⟨fuel1,hf1⟩:=h0
 obtain ⟨fuel2,hf2⟩:=h1
 obtain ⟨fuel3,hf3⟩:=h2
 obtain ⟨y,l,c,e,sl⟩:=rs_ (v:=.slice q1 l1 c1) hf1
 cases e
 obtain ⟨y2,ps,c2,e,so⟩:=ri_ (v:=.slice q2 l2 c2) hf2
 cases e
 obtain ⟨y3,os,c3,e,ss⟩:=sc_ (v:=.slice q3 l3 c3) hf3
 cases e
 have hl0:∀x∈p0++(p1++p2),x.block<W.heap.size:=λx hx=>hW'.lt x (by simpa using hx)
 refine iP_ (sy_ hL) sl so ss λW' g=>?_
 have hb:=kK_ g
 refine j5_ (pa:=p0++(p1++(p2++[]))) (pv:=[]) hW' (λ_ _ _=>trodAll_cons_mk (shut_bool sX_ _) trodAll_mk0)
  (λsp hsp=>?_) (λ_ _=>rfl) (by simp) hb (ok_one (by kernel_rfl) rfl (okWide_bool_mk sX_ _))
 rw [mg_]
 have stay:∀ {t:TypeId} {v:Value} {d:DataW H} {q:List MemPlace},PR.readableRec t=true→decide (t<PR.types.size)=true→(∀x∈q,x∈p0++(p1++p2))→DataW.Trod enc PR W 0 (λ_=>true) true t v d q→DataW.Trod enc PR W' 0 sp true t v d q:=λhr hz hq h=>
  WideElems.Trod_stays layG hr (of_decide_eq_true hz) h (λx hx=>hb.same (hl0 x (hq x hx))) (λx hx=>hsp x (by simpa using hq x hx))
 exact trodAll_cons_mk (stay qV_ (by kernel_rfl) (λx hx=>by simp [hx]) h0k) (trodAll_cons_mk (stay sf_ (by kernel_rfl) (λx hx=>by simp [hx]) h1k) (trodAll_cons_mk (stay se_ (by kernel_rfl) (λx hx=>by simp [hx]) h2k) trodAll_mk0))
def zInT:Array Value:=#[.slice none 0 0,.slice none 0 0,.slice none 0 0]
theorem s9_ (os:Os) {H:Type} (enc:TypeId × Value→H):∃places,DataW.whole enc Tryz.prog ((ie_ os).forCall (λ_ _=>0) ⟨#[],zInT,[]⟩).memory Tryz.f4.params.toList Rows.fetchPlaysSpec.vars false zInT.toList 8 =
  some ([.nil,.nil,.nil],[],places):=
 ⟨[],by kernel_rfl⟩
theorem sn_ (os:Os) (started:os.Started) (H:Type) (enc:TypeId × Value→H) (F:Stop.Interp) :
  ReturnsInHanded {} Tryz.checked os 4 .any ((OpenSpec.ofChange Rows.fetchPlaysSpec).preRow enc Tryz.prog Tryz.f4 Rows.fetchPlaysRow.domain false Rows.fetchPlaysRow.laid) (((OpenSpec.ofChange Rows.fetchPlaysSpec).at F).post enc Tryz.prog Tryz.f4 false true false false):=by
 obtain ⟨places,hx⟩:=s9_ os enc
 refine returnsInHanded_of_row (C:=Tryz.checked) (s:=OpenSpec.ofChange Rows.fetchPlaysSpec) ownG started (by kernel_rfl) Tryz.func4
  (witness_row_atRef (enc:=enc) (C:=Tryz.checked) false (ie_ os) zInT rfl (by kernel_rfl) (by kernel_rfl) (by kernel_rfl)
   (OpenSpec.preRow_of_cond 8 hx (by kernel_rfl) (λk hk=>by cases hk) (by kernel_rfl) (rf_ os _))) ?_
 intro W base args ds gs before hval hW _ _ _ hL hsh _
 exact p5_ H enc W base args ds gs before hval hW hL
set_option maxHeartbeats 4000000 in
theorem sF_:joinedFacts Tryz.pinned.checked.prog 4 Tryz.f4 (OpenSpec.ofChange Rows.fetchPlaysSpec).bare Rows.fetchPlaysRow=true:=by
 unfold joinedFacts
 repeat' with_reducible refine Bool.and_eq_true_iff.2 ⟨?_,?_⟩
 all_goals (as_aux_lemma=>kernel_rfl)
theorem tf_:Tryz.pinned.checked.prog.funcNamed Rows.fetchPlaysRow.func=some 4:=by kernel_rfl
theorem tK_:Rows.FetchPlaysSaid:=
 OpenClaim.holds_of_cond 4 Tryz.f4 rfl rfl rfl rfl rfl rfl rfl ⟨rfl,rfl,rfl,rfl,rfl⟩ rfl rfl rfl rfl rfl tf_ Tryz.func4 sF_
  (of_decide_eq_true (by kernel_rfl)) (by unfold Func.isWrapper;first | (rw [if_pos (by decide +kernel)];kernel_rfl) | (rw [if_neg (by decide +kernel)];exact ⟨rfl,rfl⟩))
  (λos started H enc _ F=>by rw [OpenClaim.pre_eq_preRow];exact sn_ os started H enc F)
theorem s__ (f:FuncId) (fn:Func) (hf:Tryz.pinned.checked.prog.funcNamed "lading/ladinglaw20.FetchPlays" = some f) (hfn:Tryz.pinned.checked.prog.funcs[f]? = some fn) :
  true=Tryz.pinned.checked.prog.looks []∧∀(j:Nat) t,fn.params[j]? = some t→Tryz.pinned.checked.prog.wantsStandIn t=false:=by
 obtain rfl:f=4:=Option.some.inj ((show Tryz.prog.funcNamed "lading/ladinglaw20.FetchPlays" = some 4 by kernel_rfl).symm.trans hf) |>.symm
 obtain rfl:fn=Tryz.f4:=(Option.some.inj (Tryz.func4.symm.trans hfn)).symm
 refine ⟨by kernel_rfl,λj t ht=>?_⟩
 rw [mg_] at ht
 have ht:t=T.bk_∨t=T.bq_∨t=T.aN_:=by simpa using Array.mem_of_getElem? ht
 rcases ht with rfl | rfl | rfl
 ·exact (show Tryz.prog.wantsStandIn T.bk_=false by kernel_rfl)
 ·exact (show Tryz.prog.wantsStandIn T.bq_=false by kernel_rfl)
 ·exact (show Tryz.prog.wantsStandIn T.aN_=false by kernel_rfl)
theorem cardT:Rows.FetchPlaysCardSaid:=
 Claim7.holds_tied_plain_at .later [] _ _ _ _ tK_ (λ_ h=>by cases h) (by kernel_rfl) (λ_ h=>by cases h) fetchPlays_row_tie rfl ⟨rfl,rfl⟩ (by kernel_rfl) rfl s__ (by kernel_rfl)
end Go.Vc
