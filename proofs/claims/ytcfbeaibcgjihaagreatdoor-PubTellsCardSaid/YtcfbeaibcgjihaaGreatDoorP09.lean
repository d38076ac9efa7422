/-
  A part of the proof of the statement PubTellsCardSaid, in Lean: Ed5, MirP6, Dk1, Jr1, Jr2, Mf1, Mf2, Mk3, Mm1, Mm2, Rp, Pb1. By an AI agent.
-/
import Derived.Test.YtcfbeaibcgjihaaGreatDoorP08
import Derived.Test.YtcfbeaibcgjihaaGreatDoorP02
import Derived.Test.YtcfbeaibcgjihaaGreatDoorP07
import Derived.Test.YtcfbeaibcgjihaaGreatDoorP06
set_option linter.unusedSimpArgs false
set_option linter.unusedVariables false
set_option maxRecDepth 100000
namespace Go.Vc
open Go
def ltN (N:List (Int × Int)) (v:Int):Nat:=N.countP λe=>decide (e.1<v)
theorem ltN_at {N:List (Int × Int)} (hs:N.Pairwise ltE) (v:Int):∀i,(hi:i<N.length)→(N[i].1<v↔i<ltN N v):=by
 induction N with
 | nil=>intro i hi;simp at hi
 | cons x N ih=>
  obtain ⟨hx,hs'⟩:=List.pairwise_cons.1 hs
  have ih:=ih hs'
  intro i hi
  by_cases h:x.1<v
  ·have e:ltN (x :: N) v=ltN N v+1:=by unfold ltN;rw [List.countP_cons_of_pos (by simpa using h)]
   rw [e]
   cases i with
   | zero=>simp [h]
   | succ i=>have:=ih i (by simpa using hi);simp only [List.getElem_cons_succ];rw [this];omega
  ·have e:ltN (x :: N) v=0:=by
    unfold ltN
    rw [List.countP_eq_zero]
    intro y hy
    rcases List.mem_cons.1 hy with rfl | hy
    ·simpa using h
    ·have:=hx y hy;unfold ltE at this;simp;omega
   rw [e]
   refine ⟨λhlt=>?_,λh=>by omega⟩
   exfalso
   cases i with
   | zero=>exact h hlt
   | succ i=>
    have:=hx _ (List.getElem_mem (show i<N.length by simpa using hi))
    simp only [List.getElem_cons_succ] at hlt
    unfold ltE at this;omega
theorem ltN_le (N:List (Int × Int)) (v:Int):ltN N v≤N.length:=List.countP_le_length
theorem ltN_mono (N:List (Int × Int)) {v u:Int} (h:v≤u):ltN N v≤ltN N u:=List.countP_mono_left λx _ hx=>by simp at hx ⊢;omega
theorem ltN_step (N:List (Int × Int)) (v:Int):ltN N (v+1)=(N.countP λe=>decide (e.1+1=v+1))+ltN N v:=by
 induction N with
 | nil=>rfl
 | cons x N ih=>
  unfold ltN at *
  simp only [List.countP_cons,ih]
  by_cases h:x.1<v
  ·have h1:¬x.1+1=v+1:=by omega
   have h2:x.1<v+1:=by omega
   simp [h,h1,h2];omega
  ·by_cases h':x.1=v
   ·have h1:x.1+1=v+1:=by omega
    have h2:x.1<v+1:=by omega
    simp [h,h1,h2];omega
   ·have h1:¬x.1+1=v+1:=by omega
    have h2:¬x.1<v+1:=by omega
    simp [h,h1,h2]
def begL (nodes:Nat) (N:List (Int × Int)):List Int:=(List.range (nodes+1)).map λ(v:Nat)=>((ltN N (v:Int):Nat):Int)
theorem begL_at {nodes:Nat} {N:List (Int × Int)} {v:Nat} (h:v≤nodes):(begL nodes N).getD v 0=((ltN N v:Nat):Int):=by
 simp [begL,show v<nodes+1 by omega]
theorem csr_of {nodes:Nat} {l N:List (Int × Int)} (h:NormOf nodes l N) (hl:N.length≤100000):CsrL nodes (begL nodes N) (N.map (·.2)):=by
 have key:∀v,v<nodes→∀i,i<(rowOf (begL nodes N) (N.map (·.2)) v).length→∃hi:ltN N v+i<N.length,N[ltN N v+i].1=v∧(rowOf (begL nodes N) (N.map (·.2)) v).getD i 0=N[ltN N v+i].2:=by
  intro v hv i hi
  unfold rowOf at hi ⊢
  rw [begL_at (by omega),begL_at (by omega)] at hi ⊢
  simp only [Int.toNat_natCast,List.length_take,List.length_drop,List.length_map] at hi
  have hlt:ltN N v+i<N.length:=by omega
  have hlt2:ltN N v+i<ltN N (v+1:Nat):=by omega
  refine ⟨hlt,?_,?_⟩
  ·have a:=(ltN_at h.lt ((v+1:Nat):Int) _ hlt).2 hlt2
   have b:=mt (ltN_at h.lt (v:Int) _ hlt).1 (by omega)
   omega
  ·simp only [Int.toNat_natCast,List.getD_eq_getElem?_getD]
   rw [List.getElem?_take_of_lt (by omega),List.getElem?_drop,List.getElem?_map,List.getElem?_eq_getElem hlt]
   rfl
 refine ⟨by simp [begL],λv hv=>?_,λv hv=>?_,λv hv=>⟨λi hi=>?_,λi hi=>?_⟩,by simpa using hl⟩
 ·rw [begL_at hv];have:=ltN_le N v;simp;omega
 ·rw [begL_at (by omega),begL_at (by omega)]
  have:=ltN_mono N (show (v:Int)≤((v+1:Nat):Int) by omega)
  omega
 ·obtain ⟨h1,h2,h3⟩:=key v hv i hi
  have:=h.good _ (List.getElem_mem h1)
  rw [h3];exact ⟨this.2.2.1,this.2.2.2⟩
 ·obtain ⟨h1,h2,h3⟩:=key v hv i (by omega)
  obtain ⟨h4,h5,h6⟩:=key v hv (i+1) hi
  rw [h3,h6]
  have:=List.pairwise_iff_getElem.1 h.lt (ltN N v+i) (ltN N v+(i+1)) h1 h4 (by omega)
  unfold ltE at this;omega
theorem Own.setI {e:TypeId} {w:World} {q:Option Addr} {c:Nat} {l:List Int} (h:Own e 1 w q c (l.map iv)) {n:Int} {i m:Nat} (hn:n=i) (hi:i<l.length) (hm:m=l.length) {x:Int} {K:World→Prop}
  (hK:∀w',Own e 1 w' q c ((l.set i x).map iv)→Chg (blkOf q) w w'→w'.heap.size=w.heap.size→K w'):Dr q (λa=>0≤n∧n<((m:Nat):Int)∧Dr (some (Addr.add a (n.toNat*1))) λa=>StC w a (.int .i64 x) K):=by
 subst hn;subst hm
 have:=h.set (i:=i) (by simpa using hi) (v:=iv x) rfl (K:=K) (λw' h1 h2 h3=>hK w' (by rw [List.map_set];exact h1) h2 h3)
 obtain ⟨a,ha,hh⟩:=this
 refine ⟨a,ha,by omega,by omega,Dr_some.2 ?_⟩
 rw [Int.toNat_natCast,Nat.mul_one];exact hh
theorem rows_spec {nodes:Nat} {l N:List (Int × Int)} {q:Option Addr} {c:Nat} {w:World} (hn:nodes≤4096) (hN:NormOf nodes l N) (hl:N.length≤100000) (hs:Sl w q (encE N)) {K:Value→World→Prop}
  (hK:∀w' b,Grow w w'→CsrAt w' b nodes (begL nodes N) (N.map (·.2))→w.heap.size≤b→K (.pointer (some ⟨b,0,none⟩)) w'):CallV PR F.csr_rows ⟨[.int .i64 nodes,.slice q N.length c]⟩ w K:=by
 refine csr_rows nodes q N.length c S0 K w ?_
 rw [w64 (n:=(nodes:Int)+1) (by omega) (by omega)]
 obtain ⟨ii,hii,hki,hbi,hzi⟩:=t_int
 refine rn_sv <| sv_makeSlice (i:=ii) (by_:=8) u_ints hii hzi rfl hki hbi (by omega) (by omega) (by omega) λbb w0 hbb hs0 g0 ho0=>⟨_,_,_,rfl,(Fr.init _ w).after g0,λb2 hb2 w1 hF1=>?_⟩
 have en:((nodes:Int)+1).toNat=nodes+1:=by omega
 rw [en] at ho0 ⊢
 have hne:bb≠b2:=by omega
 have hb1:bb<w1.heap.size:=by have:=hF1.grow.size;omega
 have hb21:b2<w1.heap.size:=hF1.lt _ List.mem_cons_self
 let cnt (k:Nat) (j:Nat):Nat:=(N.take k).countP λe=>decide (e.1+1=(j:Int))
 have hoffb:∀j,j<w.heap.size→¬blkOf (some ⟨bb,0,none⟩) j:=by rintro j hj ⟨a,ha,e⟩;cases ha;simp only [] at e;omega
 have ho1:Own T.int 1 w1 (some ⟨bb,0,none⟩) (nodes+1) ((List.replicate (nodes+1) (0:Int)).map iv):=by
  have:=ho0.grow hF1.grow
  simpa [iv] using this
 refine ⟨λi q1 l1 c1 q2 l2 c2 m w'=>∃(k:Nat) (C:List Int),i=k∧k≤N.length∧m=N.length - k∧q1=some ⟨bb,0,none⟩∧l1=nodes+1∧c1=nodes+1∧C.length=nodes+1∧(∀j,j≤nodes→C.getD j 0=cnt k j)∧Own T.int 1 w' (some ⟨bb,0,none⟩) (nodes+1) (C.map iv)∧
  Own T.int 1 w' q2 c2 (((N.take k).map (·.2)).map iv)∧k=l2∧l2≤c2∧Off (λj=>j<w1.heap.size) q2∧w1.heap.size≤w'.heap.size,⟨_,0,List.replicate (nodes+1) 0,rfl,by omega,rfl,rfl,rfl,rfl,by simp,(λj hj=>by simp [cnt,show j<nodes+1 by omega]),ho1,.nil _ _ _,rfl,Nat.le_refl _,.none _,Nat.le_refl _⟩,?_⟩
 rintro i q1 l1 c1 q2 l2 c2 D m w2 ⟨k,C,rfl,hk,rfl,rfl,rfl,rfl,hCl,hC,hoC,hoT,rfl,hkc,hof,hsz⟩ hF2
 refine ⟨λhlt=>?_,λhge=>?_⟩
 ·have hk':k<N.length:=by omega
  have hgood:=hN.good _ (List.getElem_mem hk')
  obtain ⟨f,hf⟩:=Int.eq_ofNat_of_zero_le hgood.1
  refine (hs.grow hF2.gr).rd2 rfl hk' hk' λa ha1 ha2=>⟨_,ha1,_,ha2,λb9 hb9 w3 hF3=>?_⟩
  have g23:Chg (· = b9) w2 w3:=hF3.stp.mono λj _ hj=>by simpa using hj
  have hoC3:Own T.int 1 w3 (some ⟨bb,0,none⟩) (nodes+1) (C.map iv):=hoC.keep g23 λa ha e=>by cases ha;have e':bb=b9:=e;omega
  have hoT3:Own T.int 1 w3 q2 c2 (((N.take k).map (·.2)).map iv):=hoT.keep g23 λa ha e=>by have:=hoT.lt a ha;have e':a.block=b9:=e;omega
  have ev:IntKind.wrap .i64 (N[k].1+1)=((f+1:Nat):Int):=by rw [w64 (by omega) (by omega)];omega
  rw [ev]
  have hf':f+1<C.length:=by omega
  have cle:cnt k (f+1)≤k:=by
   have:cnt k (f+1)≤(N.take k).length:=List.countP_le_length
   rw [List.length_take] at this;omega
  refine ⟨(· = w3),rfl,?_⟩
  refine hoC3.sl.rd (v:=iv (C.getD (f+1) 0)) (by simp [hCl]) (by omega) (iv_at hf') λa3 ha3=>⟨_,λw4 e=>e ▸ ha3,?_⟩
  rw [hC _ (by omega),wr1 (by omega)]
  refine hoC3.setI rfl hf' hCl.symm λw5 hoC5 g5 hs5=>?_
  have hF5:Fs S0 w [⟨b2,#[.slice (some ⟨bb,0,none⟩) (nodes+1) (nodes+1),.slice q2 k c2],T.csr_Csr,true⟩,⟨b9,#[iv N[k].1,iv N[k].2],T.api_Edge,true⟩] w5:=hF3.step g5 (λx hx ⟨a,ha,e⟩=>by
   cases ha
   rcases List.mem_cons.1 hx with rfl | hx
   ·simp only [] at e;exact hne e.symm
   ·simp at hx;subst hx;simp only [] at e;omega) λj hj h=>absurd h (hoffb j hj)
  refine ⟨hF5,λw6 hF6=>?_⟩
  have g56:Grow w5 w6:=hF6.grow
  have hof':Off (blkOf (some ⟨bb,0,none⟩)) q2:=λa ha ⟨a',ha',e⟩=>by cases ha';simp only [] at e;have:=hof.le a ha;omega
  have hoT5:Own T.int 1 w5 q2 c2 (((N.take k).map (·.2)).map iv):=hoT3.keep g5 hof'
  refine ⟨λx=>x.cell? ⟨b2,1,none⟩=some (.slice q2 k c2),hF6.ld 0 1 rfl rfl rfl,Dr_some.2 ⟨_,_,_,λw7 h=>h,λb12 hb12 w8 hF8=>⟨hF8.ld 0 1 rfl rfl rfl,?_⟩⟩⟩
  have g68:Grow w6 w8:=hF8.grow
  have s23:=g23.size
  have s56:=g56.size
  have s68:=g68.size
  refine app_iv ((hoT5.grow g56).grow g68) (by simp;omega) hkc (ys:=[N[k].2]) (hF8.sl 2 rfl) rfl (by omega) λq2' c2' w9 hoT9 hc9 g9 hq9=>?_
  have hF9:=hF8.app2 g9 w1.heap.size w2.heap.size hof (λa ha=>by have:=hoT.lt a ha;omega) (λy hy=>by
   rcases List.mem_cons.1 hy with rfl | hy
   ·exact .inl hb21
   rcases List.mem_cons.1 hy with rfl | hy
   ·exact .inr hb9
   ·simp at hy;subst hy;exact .inr (by simp only [];omega)) hF1.chg.size
  refine ⟨_,_,_,rfl,hF9,hF9.ld 0 1 rfl rfl rfl,λw10 hF10=>?_⟩
  have g910:Chg (· = b2) w9 w10:=hF10.stp.mono λj _ hj=>by simpa using hj
  have hoffT':Off (λj=>j<w1.heap.size) q2':=hof.next hq9 (by omega)
  have hoT10:Own T.int 1 w10 q2' c2' (((N.take k).map (·.2)++[N[k].2]).map iv):=hoT9.keep g910 λa ha e=>by have:=hoffT'.le a ha;have e':a.block=b2:=e;omega
  have hoC10:Own T.int 1 w10 (some ⟨bb,0,none⟩) (nodes+1) ((C.set (f+1) ((cnt k (f+1)+1:Nat):Int)).map iv):=(((hoC5.grow g56).grow g68).keep g9 (λa ha ⟨a',ha',e⟩=>by cases ha;simp only [] at e;have:=hof.le a' ha';omega)).keep g910 λa ha e=>by cases ha;exact hne e
  refine ⟨N.length - (k+1),by omega,k+1,_,wr1 (by omega),by omega,rfl,rfl,rfl,rfl,by simpa using hCl,?_,hoC10,?_,rfl,hc9,hoffT',by have:=g9.size;have:=g910.size;omega⟩
  ·intro j hj
   have hcn:cnt (k+1) j=cnt k j+if N[k].1+1=(j:Int) then 1 else 0:=by
    show ((N.take (k+1)).countP _)=_
    rw [take_next hk',List.countP_append,List.countP_singleton]
    simp only [decide_eq_true_eq];rfl
   by_cases e:j=f+1
   ·subst e
    have:N[k].1+1=((f+1:Nat):Int):=by omega
    rw [hcn,if_pos this]
    simp [hf']
   ·have:¬N[k].1+1=(j:Int):=by omega
    have hcn2:cnt (k+1) j=cnt k j:=by rw [hcn,if_neg this];exact Nat.add_zero _
    rw [hcn2,← hC j hj]
    simp only [List.getD_eq_getElem?_getD]
    rw [List.getElem?_set_ne (by omega)]
  ·rw [take_next hk',List.map_append];exact hoT10
 ·have e:k=N.length:=by omega
  subst e
  rw [List.take_length] at hoT
  have hC':∀j,j≤nodes→C.getD j 0=((N.countP λe=>decide (e.1+1=(j:Int)):Nat):Int):=λj hj=>by
   have:=hC j hj
   simp only [cnt,List.take_length] at this;exact this
  refine ⟨λv m w'=>∃(k:Nat) (C:List Int),v=k∧k≤nodes∧m=nodes - k∧C.length=nodes+1∧(∀j,j≤k→C.getD j 0=ltN N j)∧(∀j,k<j→j≤nodes→C.getD j 0=((N.countP λe=>decide (e.1+1=(j:Int)):Nat):Int))∧Own T.int 1 w' (some ⟨bb,0,none⟩) (nodes+1) (C.map iv)∧
   Own T.int 1 w' q2 c2 ((N.map (·.2)).map iv),⟨_,0,C,rfl,by omega,rfl,hCl,(λj hj=>?_),(λj h1 h2=>hC' j h2),hoC,hoT⟩,?_⟩
  ·have:j=0:=by omega
   subst this
   rw [hC' 0 (by omega)]
   have h1:(N.countP λe=>decide (e.1+1=((0:Nat):Int)))=0:=by
    rw [List.countP_eq_zero];intro x hx;have:=(hN.good x hx).1;simp;omega
   have h2:ltN N ((0:Nat):Int)=0:=by
    unfold ltN;rw [List.countP_eq_zero];intro x hx;have:=(hN.good x hx).1;simp;omega
   rw [h1,h2]
  ·rintro v D m w11 ⟨v,C,rfl,hv,rfl,hCl,hCa,hCb,hoC,hoT⟩ hF11
   refine ⟨λhlt w12 hF12=>?_,λhge=>?_⟩
   ·have hv':v<nodes:=by omega
    have g12:Grow w11 w12:=hF12.grow
    have hoC12:=hoC.grow g12
    rw [wr1 (by omega)]
    refine ⟨(· = w12),rfl,?_⟩
    refine hoC12.sl.rd (v:=iv (C.getD (v+1) 0)) (by simp [hCl]) (by omega) (iv_at (by omega)) λa ha=>⟨_,λw4 e=>e ▸ ha,?_⟩
    refine hoC12.sl.rd (v:=iv (C.getD v 0)) (by simp [hCl]) (by omega) (iv_at (by omega)) λa ha=>⟨_,λw4 e=>e ▸ ha,?_⟩
    have hstep:=ltN_step N v
    have e1:((v:Int)+1)=((v+1:Nat):Int):=by omega
    rw [e1] at hstep
    have hle:=ltN_le N ((v+1:Nat):Int)
    rw [hCa v (Nat.le_refl _),hCb (v+1) (by omega) (by omega),w64 (by omega) (by omega)]
    refine hoC12.setI rfl (by omega) hCl.symm λw15 hoC15 g15 hs15=>?_
    have hF15:Fs S0 w [⟨b2,#[.slice (some ⟨bb,0,none⟩) (nodes+1) (nodes+1),.slice q2 N.length c2],T.csr_Csr,true⟩] w15:=hF12.step g15 (λx hx ⟨a,ha,e⟩=>by
     cases ha
     simp at hx;subst hx
     exact hne e.symm) λj hj h=>absurd h (hoffb j hj)
    refine ⟨hF15,nodes - (v+1),by omega,v+1,_,rfl,by omega,rfl,by simpa using hCl,(λj hj=>?_),(λj h1 h2=>?_),hoC15,(hoT.grow g12).keep g15 λa ha ⟨a',ha',e⟩=>by cases ha';simp only [] at e;have:=hof.le a ha;omega⟩
    ·by_cases e:j=v+1
     ·subst e
      simp only [List.getD_eq_getElem?_getD]
      rw [List.getElem?_set_self (by omega)]
      simp only [Option.getD_some];omega
     ·rw [← hCa j (by omega)]
      simp only [List.getD_eq_getElem?_getD]
      rw [List.getElem?_set_ne (by omega)]
    ·rw [← hCb j (by omega) h2]
     simp only [List.getD_eq_getElem?_getD]
     rw [List.getElem?_set_ne (by omega)]
   ·have e:v=nodes:=by omega
    subst e
    have hCe:C=begL v N:=by
     apply List.ext_getElem?
     intro j
     rcases Nat.lt_or_ge j (v+1) with h | h
     ·have a:=hCa j (by omega)
      have b:=begL_at (N:=N) (show j≤v by omega)
      rw [getD_at (by omega)] at a
      rw [getD_at (by simp [begL];omega)] at b
      rw [List.getElem?_eq_getElem (by omega),List.getElem?_eq_getElem (by simp [begL];omega),a,b]
     ·rw [List.getElem?_eq_none (by omega),List.getElem?_eq_none (by simp [begL];omega)]
    rw [hCe] at hoC
    refine hK w11 b2 hF11.gr ⟨_,v+1,_,c2,?_,?_,hoC.sl,hoT.sl⟩ (by have:=g0.size;omega)
    ·have:=hF11.blk 0 rfl
     rw [List.length_map];exact this
    ·rw [List.length_map];exact hkc
theorem Build_spec {nodes:Int} {l:List (Int × Int)} {q:Option Addr} {n c:Nat} {w:World} (hs:Sl w q (encE l)) (hl:n=l.length) (hn:n≤100000) {K:Value→World→Prop}
  (h1:goodG nodes l→∀w' b N,Grow w w'→NormOf nodes l N→CsrAt w' b nodes.toNat (begL nodes.toNat N) (N.map (·.2))→CsrL nodes.toNat (begL nodes.toNat N) (N.map (·.2))→K (.tuple #[.pointer (some ⟨b,0,none⟩),.nilIface]) w')
  (h2:¬goodG nodes l→∀w' v,Grow w w'→isEC 10 v→K (.tuple #[.pointer none,v]) w'):CallV PR F.csr_Build ⟨[.int .i64 nodes,.slice q n c]⟩ w K:=by
 subst hl
 refine csr_Build nodes q l.length c S0 K w ?_
 refine Norm_spec hs rfl (by omega) (λhg w1 N q1 c1 g1 hN hs1=>⟨_,_,_,_,rfl,(Fr.init _ w).after g1,λ_=>?_,(λt x h=>by cases h),.inl rfl⟩) λhg w1 v g1 hv=>⟨_,_,_,_,rfl,(Fr.init _ w).after g1,(λh=>by obtain ⟨t,x,rfl⟩:=hv.err;cases h),λt x h=>h2 hg w1 v g1 hv,.inr (by obtain ⟨t,x,h⟩:=hv.err;exact ⟨t,x,h⟩)⟩
 obtain ⟨m,rfl⟩:=Int.eq_ofNat_of_zero_le hg.1
 have hm:=hg.2.1
 have hNl:=hN.len
 refine rows_spec (by omega) hN (by omega) hs1 λw2 b g2 hc hb=>⟨_,rfl,(Fr.init _ w).after (g1.trans g2),?_⟩
 exact h1 hg w2 b N (g1.trans g2) hN (by rw [Int.toNat_natCast];exact hc) (by rw [Int.toNat_natCast];exact csr_of hN (by omega))
end Go.Vc
namespace Go.Vc
open Go
theorem disk_burn (k0:Nat) (m1:Int) (t2:Bool) (z3:ByteArray) (y4:Option Addr) (ly4:Nat) (cy4:Nat) (z5:ByteArray) (y6:Option Addr) (ly6:Nat) (cy6:Nat) (y7:Option Addr) (ly7:Nat) (cy7:Nat) (S:SP) (K:KP) (w:World) (hF:Fs S w [⟨k0,#[.int .i64 m1,.bool t2,.string z3,.slice y4 ly4 cy4,.string z5,.slice y6 ly6 cy6,.slice y7 ly7 cy7],148,true⟩] w) (hS:S k0∧True) (h:(m1=0→∀w0,Fr S w w [k0] [⟨k0,#[Iv (-1),.bool true,.string z3,.slice y4 ly4 cy4,.string z5,.slice y6 ly6 cy6,.slice y7 ly7 cy7],148,true⟩] w0→K (.iface 39 (Iv 8)) w0)∧(¬(m1=0)→(m1>0→∀w1,Fr S w w [k0] [⟨k0,#[Iv (IntKind.wrap .i64 (m1 - 1)),.bool t2,.string z3,.slice y4 ly4 cy4,.string z5,.slice y6 ly6 cy6,.slice y7 ly7 cy7],148,true⟩] w1→K .nilIface w1)∧(¬(m1>0)→K .nilIface w))):CallV PR 190 ⟨[.pointer (some ⟨k0,0,none⟩)]⟩ w K:=
 call_of_vc3 (okf:=⟨okL,[]⟩) okL_ok (args:=[.c (.p 0 k0 true 0)]) (H:=[⟨k0,.l [.v (.int .i64 m1),.v (.bool t2),.v (.string z3),.v (.slice y4 ly4 cy4),.v (.string z5),.v (.slice y6 ly6 cy6),.v (.slice y7 ly7 cy7)],148,true⟩]) (.s .z (.s (.b (.s .z (.c (.s (.r ⟨(some [0]),false,[],[]⟩) .z) (.s .z (.c (.r ⟨(some [0]),false,[],[]⟩) .z))))) .z)) Go.Proofs.Tryz.func190 rfl ⟨rfl,trivial⟩ ⟨⟨trivial,⟨trivial,⟨trivial,⟨trivial,⟨trivial,⟨trivial,⟨trivial,trivial⟩⟩⟩⟩⟩⟩⟩,trivial⟩ hF hS (cast_vc (by kernel_rfl) h)
theorem disk_put (k0:Nat) (m1:Int) (t2:Bool) (z3:ByteArray) (y4:Option Addr) (ly4:Nat) (cy4:Nat) (z5:ByteArray) (y6:Option Addr) (ly6:Nat) (cy6:Nat) (y7:Option Addr) (ly7:Nat) (cy7:Nat) (m8:Int) (z9:ByteArray) (S:SP) (K:KP) (w:World) (hF:Fs S w [⟨k0,#[.int .i64 m1,.bool t2,.string z3,.slice y4 ly4 cy4,.string z5,.slice y6 ly6 cy6,.slice y7 ly7 cy7],148,true⟩] w) (hS:S k0∧True) (h:∀l0,w.heap.size≤l0→(m8=(-1)→∀w0,Fr S w w [] [⟨k0,#[Iv m1,.bool t2,.string z3,.slice y4 ly4 cy4,.string z5,.slice y6 ly6 cy6,.slice y7 ly7 cy7],148,true⟩,⟨l0,#[Iv m8,.string z9],206,true⟩] w0→∃I0:World→Prop,I0 w0∧Dr (some (⟨k0,2,none⟩)) λa0=>∃s0,(∀w1,I0 w1→World.cell? w1 a0=some (.string s0))∧((ByteArray.size s0+(ByteArray.size z9)):Nat)≤9223372036854775807∧∀w2,Fr S w w0 [k0] [⟨k0,#[Iv m1,.bool t2,.string (s0++z9),.slice y4 ly4 cy4,.string z5,.slice y6 ly6 cy6,.slice y7 ly7 cy7],148,true⟩] w2→K (.tuple #[]) w2)∧(¬(m8=(-1))→∀w3,Fr S w w [] [⟨k0,#[Iv m1,.bool t2,.string z3,.slice y4 ly4 cy4,.string z5,.slice y6 ly6 cy6,.slice y7 ly7 cy7],148,true⟩,⟨l0,#[Iv m8,.string z9],206,true⟩] w3→∃I1:World→Prop,I1 w3∧Dr y4 λa1=>(0:Int)≤m8∧m8<(ly4:Int)∧Dr (some (Addr.add a1 (Int.toNat m8*1))) λa2=>StC w3 a2 (.string z9) λw4=>Fs S w [⟨k0,#[Iv m1,.bool t2,.string z3,.slice y4 ly4 cy4,.string z5,.slice y6 ly6 cy6,.slice y7 ly7 cy7],148,true⟩,⟨l0,#[Iv m8,.string z9],206,true⟩] w4∧K (.tuple #[]) w4)):CallV PR 112 ⟨[.pointer (some ⟨k0,2,none⟩),.agg #[.int .i64 m8,.string z9]]⟩ w K:=
 call_of_vc3 (okf:=⟨okL,[]⟩) okL_ok (args:=[.c (.p 0 k0 true 2),.a [.v (.int .i64 m8),.v (.string z9)]]) (H:=[⟨k0,.l [.v (.int .i64 m1),.v (.bool t2),.v (.string z3),.v (.slice y4 ly4 cy4),.v (.string z5),.v (.slice y6 ly6 cy6),.v (.slice y7 ly7 cy7)],148,true⟩]) (.s (.r ⟨(some [0]),true,[],[]⟩) (.s (.s .z (.c (.s (.r ⟨(some [0,3]),true,[0],[]⟩) .z) .z)) (.r ⟨(some [0,3]),true,[],[]⟩))) Go.Proofs.Tryz.func112 rfl ⟨rfl,⟨trivial,trivial,trivial⟩,trivial⟩ ⟨⟨trivial,⟨trivial,⟨trivial,⟨trivial,⟨trivial,⟨trivial,⟨trivial,trivial⟩⟩⟩⟩⟩⟩⟩,trivial⟩ hF hS (cast_vc (by kernel_rfl) h)
end Go.Vc
namespace Go.Vc
open Go
def dskC (f:Int) (d:Bool) (log lasts:ByteArray) (q0 q1:Option Addr) (c0 c1:Nat) (wq:Option Addr) (wl wc:Nat):Array Value:=
 #[.int .i64 f,.bool d,.string log,.slice q0 0 c0,.string lasts,.slice q1 0 c1,.slice wq wl wc]
def okF (f:Int):Prop:=-1≤f∧f≤9223372036854775807
def DskAt (w:World) (b:Nat) (log:ByteArray):Prop:=∃f q0 q1 c0 c1,okF f∧w.heap[b]? = some (.cells (dskC f false log log q0 q1 c0 c1 none 0 0) T.disk_Disk (0,0))
def wrC (s:ByteArray):List Value:=[.int .i64 (-1),.string s]
def DskW (n:Nat) (w:World) (b:Nat) (log s:ByteArray):Prop:=∃f q0 q1 c0 c1 wq wc,okF f∧w.heap[b]? = some (.cells (dskC f false (log++s) log q0 q1 c0 c1 wq 1 wc) T.disk_Disk (0,0))∧Sl w wq (wrC s)∧Off (· < n) wq
def DskD (n:Nat) (w:World) (b:Nat) (L:ByteArray) (ws:List ByteArray):Prop:=∃f now q0 q1 c0 c1 wq wc,w.heap[b]? = some (.cells (dskC f true now L q0 q1 c0 c1 wq ws.length wc) T.disk_Disk (0,0))∧Sl w wq (ws.flatMap wrC)∧Off (· < n) wq∧b<n
def NoF (w:World) (b:Nat):Prop:=w.cell? ⟨b,0,none⟩=some (.int .i64 (-1))
theorem NoF.keep {S:Nat→Prop} {w w':World} {b:Nat} (h:NoF w b) (g:Chg S w w') (hn:¬S b):NoF w' b:=by
 have hlt:b<w.heap.size:=by
  rcases Nat.lt_or_ge b w.heap.size with h' | h'
  ·exact h'
  ·unfold NoF World.cell? at h;simp [Array.getElem?_eq_none h'] at h
 unfold NoF World.cell? at *
 rw [g.block b hlt hn];exact h
theorem NoF.mk {w:World} {b:Nat} {d:Bool} {log lasts:ByteArray} {q0 q1 wq:Option Addr} {c0 c1 wl wc:Nat} {T:TypeId} {fz:Nat × Nat} (h:w.heap[b]? = some (.cells (dskC (-1) d log lasts q0 q1 c0 c1 wq wl wc) T fz)):NoF w b:=by
 unfold NoF;rw [cell_blk h];rfl
theorem NoF.eq {w:World} {b:Nat} {f:Int} {d:Bool} {log lasts:ByteArray} {q0 q1 wq:Option Addr} {c0 c1 wl wc:Nat} {T:TypeId} {fz:Nat × Nat} (h:w.heap[b]? = some (.cells (dskC f d log lasts q0 q1 c0 c1 wq wl wc) T fz)) (hn:NoF w b):f = -1:=by
 unfold NoF at hn;rw [cell_blk h] at hn
 have e:(dskC f d log lasts q0 q1 c0 c1 wq wl wc)[0]? = some (.int .i64 f):=rfl
 rw [e] at hn
 injection hn with hn
 injection hn
theorem DskAt.keep {S:Nat→Prop} {w w':World} {b:Nat} {log:ByteArray} (h:DskAt w b log) (g:Chg S w w') (hn:¬S b):DskAt w' b log:=by
 obtain ⟨f,q0,q1,c0,c1,hf,h⟩:=h;exact ⟨f,q0,q1,c0,c1,hf,g.get h hn⟩
theorem DskW.keep {S:Nat→Prop} {n:Nat} {w w':World} {b:Nat} {log s:ByteArray} (h:DskW n w b log s) (g:Chg S w w') (hn:¬S b) (hS:∀k,S k→k<n):DskW n w' b log s:=by
 obtain ⟨f,q0,q1,c0,c1,wq,wc,hf,h,hs,ho⟩:=h;exact ⟨f,q0,q1,c0,c1,wq,wc,hf,g.get h hn,hs.keep g λa ha e=>ho a ha (hS _ e),ho⟩
theorem DskD.keep {S:Nat→Prop} {n:Nat} {w w':World} {b:Nat} {L:ByteArray} {ws:List ByteArray} (h:DskD n w b L ws) (g:Chg S w w') (hn:¬S b) (hS:∀k,S k→k<n):DskD n w' b L ws:=by
 obtain ⟨f,now,q0,q1,c0,c1,wq,wc,h,hs,ho,hb⟩:=h;exact ⟨f,now,q0,q1,c0,c1,wq,wc,g.get h hn,hs.keep g λa ha e=>ho a ha (hS _ e),ho,hb⟩
theorem bars0_spec {w:World} {b:Nat} {f:Int} {log lasts:ByteArray} {q0 q1 wq:Option Addr} {c0 c1 wl wc:Nat} (h:w.heap[b]? = some (.cells (dskC f false log lasts q0 q1 c0 c1 wq wl wc) T.disk_Disk (0,0))) {K:Value→World→Prop} (hK:K .nilIface w):CallV PR F.p_disk_Disk_bars ⟨[.pointer (some ⟨b,0,none⟩)]⟩ w K:=
 disk_Disk_bars b f false log q0 0 c0 lasts q1 0 c1 wq wl wc (· = b) K w ((Fr.init _ w).entry h (λx h=>by cases h) λ_=>rfl) ⟨rfl,trivial⟩ ⟨(λh=>by cases h),λ_=>hK⟩
theorem burn_spec {w:World} {b:Nat} {f:Int} {log lasts:ByteArray} {q0 q1 wq:Option Addr} {c0 c1 wl wc:Nat} (h:w.heap[b]? = some (.cells (dskC f false log lasts q0 q1 c0 c1 wq wl wc) T.disk_Disk (0,0))) (hf:okF f) {K:Value→World→Prop}
  (h1:∀w' f',okF f'→(f = -1→f' = -1)→w'.heap[b]? = some (.cells (dskC f' false log lasts q0 q1 c0 c1 wq wl wc) T.disk_Disk (0,0))→Chg (· = b) w w'→K .nilIface w')
  (h2:∀w',f≠-1→w'.heap[b]? = some (.cells (dskC (-1) true log lasts q0 q1 c0 c1 wq wl wc) T.disk_Disk (0,0))→Chg (· = b) w w'→K (.iface T.api_Errno (.int .i64 8)) w'):CallV PR F.p_disk_fuse_burn ⟨[.pointer (some ⟨b,0,none⟩)]⟩ w K:=by
 obtain ⟨f1,f2⟩:=hf
 refine disk_burn b f false log q0 0 c0 lasts q1 0 c1 wq wl wc (· = b) K w ((Fr.init _ w).entry h (λx h=>by cases h) λ_=>rfl) ⟨rfl,trivial⟩ ⟨λe w0 hF0=>h2 w0 (by omega) (hF0.blk 0 rfl) (hF0.stp.mono λk _ e=>by simpa using e),λhne=>⟨λhp w1 hF1=>?_,λhnp=>h1 w f ⟨f1,f2⟩ (λe=>e) h (.refl _ _)⟩⟩
 have e:IntKind.wrap .i64 (f - 1)=f - 1:=w64 (by omega) (by omega)
 rw [e] at hF1
 exact h1 w1 (f - 1) ⟨by omega,by omega⟩ (λe=>by omega) (hF1.blk 0 rfl) (hF1.stp.mono λk _ e=>by simpa using e)
theorem Log_spec {w:World} {b:Nat} {log:ByteArray} (h:DskAt w b log) {K:Value→World→Prop} (hK:K (.tuple #[.string log,.nilIface]) w):CallV PR F.p_disk_Disk_Log ⟨[.pointer (some ⟨b,0,none⟩)]⟩ w K:=by
 obtain ⟨f,q0,q1,c0,c1,hf,h⟩:=h
 have h0:Fs (· = b) w [⟨b,dskC f false log log q0 q1 c0 c1 none 0 0,T.disk_Disk,true⟩] w:=(Fr.init _ w).entry h (λx h=>by cases h) λ_=>rfl
 exact disk_Disk_Log b f false log q0 0 c0 log q1 0 c1 none 0 0 (· = b) K w h0 ⟨rfl,trivial⟩ (bars0_spec h ⟨_,rfl,h0,λ_=>hK,(λt x h=>by cases h),.inl rfl⟩)
theorem Waits_spec {w:World} {b:Nat} {log:ByteArray} (h:DskAt w b log) {K:Value→World→Prop} (hK:K (.int .i64 0) w):CallV PR F.p_disk_Disk_Waits ⟨[.pointer (some ⟨b,0,none⟩)]⟩ w K:=by
 obtain ⟨f,q0,q1,c0,c1,hf,h⟩:=h
 exact disk_Disk_Waits b f false log q0 0 c0 log q1 0 c1 none 0 0 (· = b) K w ((Fr.init _ w).entry h (λx h=>by cases h) λ_=>rfl) ⟨rfl,trivial⟩ hK
theorem dput_spec {w:World} {b:Nat} {f:Int} {log lasts s:ByteArray} {q0 q1 wq:Option Addr} {c0 c1 wl wc:Nat} (h:w.heap[b]? = some (.cells (dskC f false log lasts q0 q1 c0 c1 wq wl wc) T.disk_Disk (0,0))) (hroom:log.size+s.size≤9223372036854775807) {K:Value→World→Prop}
  (hK:∀w',w'.heap[b]? = some (.cells (dskC f false (log++s) lasts q0 q1 c0 c1 wq wl wc) T.disk_Disk (0,0))→Chg (· = b) w w'→K (.tuple #[]) w') :
  CallV PR F.p_disk_content_put ⟨[.pointer (some ⟨b,2,none⟩),.agg #[.int .i64 (-1),.string s]]⟩ w K:=by
 refine disk_put b f false log q0 0 c0 lasts q1 0 c1 wq wl wc (-1) s (· = b) K w ((Fr.init _ w).entry h (λx h=>by cases h) λ_=>rfl) ⟨rfl,trivial⟩ λb0 hb0=>⟨λ_ w0 hF0=>⟨(· = w0),rfl,Dr_some.2 ⟨log,λw1 e=>by subst e;exact hF0.ld 0 2 rfl rfl rfl,hroom,λw2 hF2=>?_⟩⟩,λh=>absurd rfl h⟩
 exact hK w2 (hF2.blk 0 rfl) (hF0.chg.trans (hF2.stp.mono λi _ hi=>by simpa using hi) λ_ _ e=>e)
theorem u_writes:PR.underlying T.sl_disk_write=some (.slice T.disk_write):=by kernel_rfl
theorem tyI_write:∃i,PR.info? T.disk_write=some i∧i.size=2∧i.bytes=24∧i.zero=some (.agg #[.int .i64 0,.string ⟨#[]⟩]):=by
 have h:(match PR.info? T.disk_write with | some i=>i.size == 2 && i.bytes == 24 && (match i.zero with | some (.agg ⟨[.int .i64 0,.string ⟨⟨[]⟩⟩]⟩)=>true | _=>false) | none=>false)=true:=by kernel_rfl
 split at h
 ·rename_i i hi
  simp only [Bool.and_eq_true,beq_iff_eq] at h
  refine ⟨i,hi,h.1.1,h.1.2,?_⟩
  have h2:=h.2
  split at h2
  ·assumption
  ·cases h2
 ·cases h
theorem does_spec {w:World} {b:Nat} {log s:ByteArray} (h:DskAt w b log) (hroom:log.size+s.size≤9223372036854775807) (hs:s≠⟨#[]⟩) {K:Value→World→Prop}
  (h1:∀w',DskW w.heap.size w' b log s→(NoF w b→NoF w' b)→Chg (· = b) w w'→K .nilIface w')
  (h2:∀w',¬NoF w b→DskD w.heap.size w' b log []→Chg (· = b) w w'→K (.iface T.api_Errno (.int .i64 8)) w') :
  CallV PR F.p_disk_Disk_does ⟨[.pointer (some ⟨b,0,none⟩),.agg #[.int .i64 (-1),.string s]]⟩ w K:=by
 obtain ⟨f,q0,q1,c0,c1,hf,h⟩:=h
 have hblt:=heap_lt h
 refine disk_Disk_does b f false log q0 0 c0 log q1 0 c1 none 0 0 (-1) s (· = b) K w ((Fr.init _ w).entry h (λx h=>by cases h) λ_=>rfl) ⟨rfl,trivial⟩ λb0 hb0 w0 hF0=>?_
 have hne:¬b0=b:=by omega
 have hF0r:=hF0.reset
 refine burn_spec (hF0.blk 0 rfl) hf (λw1 f' hf' hff hb1 g1=>?_) λw1 hff hb1 g1=>?_
 ·have hF1:Fs (· = b) w [⟨b,dskC f' false log log q0 q1 c0 c1 none 0 0,T.disk_Disk,true⟩,⟨b0,#[.int .i64 (-1),.string s],T.disk_write,true⟩] w1:=hF0.mod1 g1 hb1
  refine ⟨_,rfl,_,_,_,_,_,_,_,_,_,_,_,_,_,hF1,λ_=>⟨λ_=>⟨λh=>absurd h hs,λ_ w2 hF2=>⟨λ_=>True,trivial,?_⟩⟩,λh=>absurd rfl h⟩,(λt x h=>by cases h),.inl rfl⟩
  have hb2:=hF2.blk 0 rfl
  refine dput_spec hb2 hroom λw3 hb3 g3=>?_
  have hF3:Fs (· = b) w [⟨b,dskC f' false (log++s) log q0 q1 c0 c1 none 0 0,T.disk_Disk,true⟩,⟨b0,#[.int .i64 (-1),.string s],T.disk_write,true⟩] w3:=hF2.mod1 g3 hb3
  refine ⟨rfl,_,_,_,_,_,_,_,_,_,_,_,_,_,hF3,λw4 hF4=>⟨λx=>x.cell? ⟨b,6,none⟩=some (.slice none 0 0),hF4.ld 0 6 rfl rfl rfl,Dr_some.2 ⟨_,_,_,λw5 h=>h,λb5 hb5 w6 hF6=>⟨hF6.ld 0 6 rfl rfl rfl,?_⟩⟩⟩⟩
  have sz:w.heap.size≤w6.heap.size:=by have:=hF0.chg.size;have:=g1.size;have:=hF2.chg.size;have:=g3.size;have:=hF4.chg.size;have:=hF6.chg.size;omega
  refine app0 (k:=2) u_writes tyI_write rfl (by decide) (by decide) (.nil _ _ _) (hF6.sl 2 rfl) (by simp) (by simp [oneC]) (by omega) λq' c' w7 ho7 hc7 g7 hq7=>⟨_,_,_,rfl,hF6.after g7,(hF6.after g7).ld 0 6 rfl rfl rfl,λw8 hF8=>?_⟩
  have g8:Chg (· = b) w7 w8:=hF8.stp.mono λk _ e=>by simpa using e
  have hqf:Off (· < w.heap.size) q':=λa ha e=>by
   rcases hq7 a ha with h' | h'
   ·cases h'
   ·have e':a.block<w.heap.size:=e;omega
  refine h1 w8 ⟨f',q0,q1,c0,c1,q',c',hf',hF8.blk 0 rfl,ho7.sl.keep g8 λa ha e=>?_,hqf⟩ (λhn=>?_) hF8.chg
  ·have e':a.block=b:=e
   exact hqf a ha (show a.block<w.heap.size by omega)
  ·have:=hff (hn.eq h);subst this
   exact .mk (hF8.blk 0 rfl)
 ·have hF1:Fs (· = b) w [⟨b,dskC (-1) true log log q0 q1 c0 c1 none 0 0,T.disk_Disk,true⟩,⟨b0,#[.int .i64 (-1),.string s],T.disk_write,true⟩] w1:=hF0.mod1 g1 hb1
  exact ⟨_,rfl,_,_,_,_,_,_,_,_,_,_,_,_,_,hF1,(λh=>by cases h),(λt x _=>h2 w1 (λhn=>hff (hn.eq h)) ⟨_,_,_,_,_,_,none,0,hb1,.nil _ _,(λa h=>by cases h),hblt⟩ hF1.chg),.inr ⟨_,_,rfl⟩⟩
theorem DAppend_spec {w:World} {b:Nat} {log s:ByteArray} (h:DskAt w b log) (hroom:log.size+s.size≤9223372036854775807) (hs:s≠⟨#[]⟩) {K:Value→World→Prop}
  (h1:∀w',DskW w.heap.size w' b log s→(NoF w b→NoF w' b)→Chg (· = b) w w'→K .nilIface w')
  (h2:∀w',¬NoF w b→DskD w.heap.size w' b log []→Chg (· = b) w w'→K (.iface T.api_Errno (.int .i64 8)) w') :
  CallV PR F.p_disk_Disk_Append ⟨[.pointer (some ⟨b,0,none⟩),.string s]⟩ w K:=by
 have hd:=h
 obtain ⟨f,q0,q1,c0,c1,hf,h⟩:=h
 have h0:Fs (· = b) w [⟨b,dskC f false log log q0 q1 c0 c1 none 0 0,T.disk_Disk,true⟩] w:=(Fr.init _ w).entry h (λx h=>by cases h) λ_=>rfl
 refine disk_Disk_Append b f false log q0 0 c0 log q1 0 c1 none 0 0 s (· = b) K w h0 ⟨rfl,trivial⟩ (bars0_spec h ⟨_,rfl,h0,λ_=>?_,(λt x h=>by cases h),.inl rfl⟩)
 refine does_spec hd hroom hs (λw1 hd1 hn g1=>?_) λw1 hn hd1 g1=>?_
 ·have hk:=h1 w1 hd1 hn g1
  obtain ⟨f1,q01,q11,c01,c11,wq,wc,_,hb1,_⟩:=hd1
  exact ⟨_,rfl,_,_,_,_,_,_,_,_,_,_,_,_,_,h0.mod1 g1 hb1,hk⟩
 ·have hk:=h2 w1 hn hd1 g1
  obtain ⟨f1,now,q01,q11,c01,c11,wq,wc,hb1,_⟩:=hd1
  exact ⟨_,rfl,_,_,_,_,_,_,_,_,_,_,_,_,_,h0.mod1 g1 hb1,hk⟩
theorem copied_spec {s:ByteArray} {q:Option Addr} {c:Nat} {w:World} {K:Value→World→Prop} (hK:∀w' q' c',Grow w w'→K (.agg #[.string s,.slice q' 0 c']) w'):CallV PR F.disk_content_copied ⟨[.agg #[.string s,.slice q 0 c]]⟩ w K:=by
 refine disk_content_copied s q 0 c S0 K w λb0 hb0 b1 hb1 w0 hF0=>?_
 refine cloneStr_spec (l:=[]) (Sl.nil _ _) rfl (by decide) λw1 q' c' g1 ho hc hof=>⟨_,_,_,rfl,hF0.after g1,λw2 hF2=>hK w2 q' c' hF2.chg⟩
theorem settle0_spec {w:World} {b:Nat} {f:Int} {log lasts:ByteArray} {q0 q1 wq:Option Addr} {c0 c1 wl wc:Nat} (h:w.heap[b]? = some (.cells (dskC f false log lasts q0 q1 c0 c1 wq wl wc) T.disk_Disk (0,0))) {K:Value→World→Prop}
  (hK:∀w' q' c',w'.heap[b]? = some (.cells (dskC f false log log q0 q' c0 c' none 0 0) T.disk_Disk (0,0))→Chg (· = b) w w'→K (.tuple #[]) w'):CallV PR F.p_disk_Disk_settle ⟨[.pointer (some ⟨b,0,none⟩)]⟩ w K:=by
 have h0:Fs (· = b) w [⟨b,dskC f false log lasts q0 q1 c0 c1 wq wl wc,T.disk_Disk,true⟩] w:=(Fr.init _ w).entry h (λx h=>by cases h) λ_=>rfl
 refine disk_Disk_settle b f false log q0 0 c0 lasts q1 0 c1 wq wl wc (· = b) K w h0 ⟨rfl,trivial⟩ (copied_spec λw1 q' c' g1=>⟨_,_,_,_,rfl,h0.after g1,λw2 hF2=>?_⟩)
 exact hK w2 q' c' (hF2.blk 0 rfl) hF2.chg
theorem DSync0_spec {w:World} {b:Nat} {f:Int} {log lasts:ByteArray} {q0 q1 wq:Option Addr} {c0 c1 wl wc:Nat} (h:w.heap[b]? = some (.cells (dskC f false log lasts q0 q1 c0 c1 wq wl wc) T.disk_Disk (0,0))) (hf:okF f) {K:Value→World→Prop}
  (h1:∀w' f' q' c',okF f'→(f = -1→f' = -1)→w'.heap[b]? = some (.cells (dskC f' false log log q0 q' c0 c' none 0 0) T.disk_Disk (0,0))→Chg (· = b) w w'→K .nilIface w')
  (h2:∀w',f≠-1→w'.heap[b]? = some (.cells (dskC (-1) true log lasts q0 q1 c0 c1 wq wl wc) T.disk_Disk (0,0))→Chg (· = b) w w'→K (.iface T.api_Errno (.int .i64 8)) w'):CallV PR F.p_disk_Disk_Sync ⟨[.pointer (some ⟨b,0,none⟩)]⟩ w K:=by
 have h0:Fs (· = b) w [⟨b,dskC f false log lasts q0 q1 c0 c1 wq wl wc,T.disk_Disk,true⟩] w:=(Fr.init _ w).entry h (λx h=>by cases h) λ_=>rfl
 refine disk_Disk_Sync b f false log q0 0 c0 lasts q1 0 c1 wq wl wc (· = b) K w h0 ⟨rfl,trivial⟩ (bars0_spec h ⟨_,rfl,h0,λ_=>?_,(λt x h=>by cases h),.inl rfl⟩)
 refine burn_spec h hf (λw1 f' hf' hff hb1 g1=>⟨_,rfl,_,_,_,_,_,_,_,_,_,_,_,_,_,h0.mod1 g1 hb1,λ_=>?_,(λt x h=>by cases h),.inl rfl⟩) λw1 hff hb1 g1=>⟨_,rfl,_,_,_,_,_,_,_,_,_,_,_,_,_,h0.mod1 g1 hb1,(λh=>by cases h),(λt x _=>h2 w1 hff hb1 g1),.inr ⟨_,_,rfl⟩⟩
 refine settle0_spec hb1 λw2 q' c' hb2 g2=>?_
 exact ⟨rfl,_,_,_,_,_,_,_,_,_,_,_,_,_,(h0.mod1 g1 hb1).mod1 g2 hb2,h1 w2 f' q' c' hf' hff hb2 (g1.trans g2 λ_ _ e=>e)⟩
theorem DSync_spec {n:Nat} {w:World} {b:Nat} {log s:ByteArray} (h:DskW n w b log s) (hn:b<n) {K:Value→World→Prop}
  (h1:∀w',DskAt w' b (log++s)→(NoF w b→NoF w' b)→Chg (· = b) w w'→K .nilIface w')
  (h2:∀w',¬NoF w b→DskD n w' b log [s]→Chg (· = b) w w'→K (.iface T.api_Errno (.int .i64 8)) w'):CallV PR F.p_disk_Disk_Sync ⟨[.pointer (some ⟨b,0,none⟩)]⟩ w K:=by
 obtain ⟨f,q0,q1,c0,c1,wq,wc,hf,h,hs,ho⟩:=h
 refine DSync0_spec h hf (λw' f' q' c' hf' hff hb g=>h1 w' ⟨_,_,_,_,_,hf',hb⟩ (λhn=>?_) g) λw' hff hb g=>h2 w' (λhn=>hff (hn.eq h)) ⟨_,_,_,_,_,_,wq,wc,hb,?_,ho,hn⟩ g
 ·have:=hff (hn.eq h);subst this
  exact .mk hb
 ·show Sl w' wq (wrC s++[])
  rw [List.append_nil]
  exact hs.keep g λa ha e=>ho a ha (show a.block<n by have e':a.block=b:=e;omega)
theorem DNew_spec {w:World} {K:Value→World→Prop} (hK:∀w' b,Grow w w'→w.heap.size≤b→DskAt w' b ⟨#[]⟩→NoF w' b→K (.pointer (some ⟨b,0,none⟩)) w'):CallV PR F.disk_New ⟨[.int .i64 0]⟩ w K:=by
 obtain ⟨i,hi,hk,hb,hz⟩:=t_str
 have mk:∀ {w:World} {K:Value→World→Prop},(∀w' q,Grow w w'→K (.slice q 0 0) w')→rn PR (Instr.makeSlice T.sl_string (.int .i64 0) (.int .i64 0)) K w:=λh=>
  rn_sv <| sv_makeSlice (i:=i) (by_:=16) u_strs hi hz rfl hk hb (by omega) (by omega) (by omega) λb w' hbb hs g ho=>h w' _ g
 have e:(if (4096:Int)<(if (0:Int)>0 then 0 else 0) then (4096:Int) else (if (0:Int)>0 then 0 else 0))=0:=by decide
 refine disk_New' 0 S0 K w ?_
 rw [e]
 refine ⟨λw0 hF0=>mk λw1 q1 g1=>⟨_,_,_,rfl,hF0.after g1,mk λw2 q2 g2=>⟨_,_,_,rfl,(hF0.after g1).after g2,λb4 hb4 w3 hF3=>?_⟩⟩,λw0 hF0=>mk λw1 q1 g1=>⟨_,_,_,rfl,hF0.after g1,mk λw2 q2 g2=>⟨_,_,_,rfl,(hF0.after g1).after g2,λb4 hb4 w3 hF3=>?_⟩⟩⟩
 ·exact hK w3 b4 hF3.chg (by have:=hF0.chg.size;have:=g1.size;have:=g2.size;omega) ⟨-1,q1,q2,0,0,⟨by decide,by decide⟩,hF3.blk 0 rfl⟩ (.mk (hF3.blk 0 rfl))
 ·exact hK w3 b4 hF3.chg (by have:=hF0.chg.size;have:=g1.size;have:=g2.size;omega) ⟨-1,q2,q1,0,0,⟨by decide,by decide⟩,hF3.blk 0 rfl⟩ (.mk (hF3.blk 0 rfl))
end Go.Vc
namespace Go.Vc
open Go
def logL (recs:List (List UInt8)):List UInt8:=recs.flatMap (sealL crcN)
theorem logL_snoc (recs:List (List UInt8)) (s:List UInt8):logL (recs++[s])=logL recs++sealL crcN s:=by simp [logL]
structure JrnAt (w:World) (bj bd:Nat) (q:Option Addr) (c:Nat) (recs:List (List UInt8)):Prop where
 blk:w.heap[bj]? = some (.cells #[.pointer (some ⟨bd,0,none⟩),.slice q recs.length c,.int .i64 (logL recs).length] T.journal_Journal (0,0))
 own:Own T.string 1 w q c (recs.map sv8')
 cap:recs.length≤c
 dsk:DskAt w bd (str (logL recs))
 ne:bj≠bd
 off:∀a,q=some a→a.block≠bj∧a.block≠bd
def jrnS (bj bd:Nat) (q:Option Addr):Nat→Prop:=λk=>k=bj∨k=bd∨blkOf q k
theorem JrnAt.keep {S:Nat→Prop} {w w':World} {bj bd:Nat} {q:Option Addr} {c:Nat} {recs:List (List UInt8)} (h:JrnAt w bj bd q c recs) (g:Chg S w w') (h1:∀k,S k→¬jrnS bj bd q k):JrnAt w' bj bd q c recs:=
 ⟨g.get h.blk (λhs=>h1 _ hs (.inl rfl)),h.own.keep g (λa ha hs=>h1 _ hs (.inr (.inr ⟨a,ha,rfl⟩))),h.cap,h.dsk.keep g (λhs=>h1 _ hs (.inr (.inl rfl))),h.ne,h.off⟩
theorem JrnAt.grow {w w':World} {bj bd:Nat} {q:Option Addr} {c:Nat} {recs:List (List UInt8)} (h:JrnAt w bj bd q c recs) (g:Grow w w'):JrnAt w' bj bd q c recs:=h.keep g λ_ h=>h.elim
theorem JWrite_spec {w:World} {bj bd:Nat} {q:Option Addr} {c:Nat} {recs:List (List UInt8)} (h:JrnAt w bj bd q c recs) {y:Option Addr} {cy:Nat} {s:List UInt8} (hy:Sl w y [sv8' s]) (hyo:∀a,y=some a→¬jrnS bj bd q a.block) (hs:s.length≤60000) (hb:(logL recs).length≤1099511627776) (hr:recs.length≤1099511627776) {K:Value→World→Prop}
  (hK:∀w' q' c',JrnAt w' bj bd q' c' (recs++[s])→(NoF w bd→NoF w' bd)→Chg (jrnS bj bd q) w w'→(∀a,q'=some a→q=some a∨w.heap.size≤a.block)→K .nilIface w')
  (hE:∀w' n ws,¬NoF w bd→DskD n w' bd (str (logL recs)) ws→w.heap.size≤n→(ws=[]∨ws=[str (sealL crcN s)])→Chg (jrnS bj bd q) w w'→K (.iface T.api_Errno (.int .i64 8)) w') :
  CallV PR F.p_journal_Journal_Write ⟨[.pointer (some ⟨bj,0,none⟩),.slice y 1 cy]⟩ w K:=by
 have hlen:=sealL_len crcN s
 have h0:Fs (jrnS bj bd q) w [⟨bj,#[.pointer (some ⟨bd,0,none⟩),.slice q recs.length c,.int .i64 (logL recs).length],T.journal_Journal,true⟩] w:=(Fr.init _ w).entry h.blk (λx h=>by cases h) λ_=>.inl rfl
 have hbj:=heap_lt h.blk
 refine journal_Journal_Write bj (some ⟨bd,0,none⟩) q recs.length c (logL recs).length y 1 cy (jrnS bj bd q) K w h0 ⟨.inl rfl,trivial⟩ ?_
 have put:∀(K':Value→World→Prop),(∀w' q' c',w'.heap[bj]? = some (.cells #[.pointer (some ⟨bd,0,none⟩),.slice q' (recs++[s]).length c',.int .i64 (logL (recs++[s])).length] T.journal_Journal (0,0))→Own T.string 1 w' q' c' ((recs++[s]).map sv8')→(recs++[s]).length≤c'→(∃n,DskW n w' bd (str (logL recs)) (str (sealL crcN s))∧w.heap.size≤n)→(NoF w bd→NoF w' bd)→
   (∀a,q'=some a→q=some a∨w.heap.size≤a.block)→Chg (jrnS bj bd q) w w'→K' .nilIface w')→(∀w' n,¬NoF w bd→DskD n w' bd (str (logL recs)) []→w.heap.size≤n→w'.heap[bj]? = some (.cells #[.pointer (some ⟨bd,0,none⟩),.slice q recs.length c,.int .i64 (logL recs).length] T.journal_Journal (0,0))→Chg (jrnS bj bd q) w w'→K' (.iface T.api_Errno (.int .i64 8)) w')→CallV PR F.p_journal_Journal_Put #[.pointer (some ⟨bj,0,none⟩),.slice y 1 cy] w K':=by
  intro K' hK' hE'
  refine journal_Journal_Put bj (some ⟨bd,0,none⟩) q recs.length c (logL recs).length y 1 cy (jrnS bj bd q) K' w h0 ⟨.inl rfl,trivial⟩ ?_
  refine ⟨λt i m w'=>∃k:Nat,i=k∧k≤1∧m=1 - k∧t=str (if k=0 then [] else sealL crcN s)∧Grow w w',⟨_,0,rfl,by omega,rfl,rfl,.refl _ _⟩,?_⟩
  rintro t i D m w1 ⟨k,rfl,hk,rfl,rfl,g1⟩ hF1
  refine ⟨λhlt=>?_,λhge=>?_⟩
  ·have hk0:k=0:=by omega
   subst hk0
   refine (hy.grow g1).rd (v:=sv8' s) (by simp) (by omega) rfl λa ha=>⟨_,ha,?_⟩
   refine Seal_spec hs λw2 g2=>⟨_,_,rfl,hF1.after g2,λ_=>⟨?_,_,?_,1,rfl,by omega,rfl,?_,g1.trans g2⟩,(λt x h=>by cases h),.inl rfl⟩
   ·rw [str_size,str_size,hlen];simp;omega
   ·omega
   ·rw [str_append];rfl
  ·have hk1:k=1:=by omega
   subst hk1
   rw [if_neg (by omega),str_size]
   have hsn:str (sealL crcN s)≠⟨#[]⟩:=λe=>by have:=congrArg ByteArray.size e;rw [str_size,hlen,show ByteArray.size ⟨#[]⟩=0 from rfl] at this;omega
   have nf1:NoF w bd→NoF w1 bd:=λhn=>hn.keep g1 λe=>e
   have nf1':¬NoF w1 bd→¬NoF w bd:=λhn h=>hn (nf1 h)
   have s1:=g1.size
   have hblt:bd<w.heap.size:=by obtain ⟨_,_,_,_,_,_,hh⟩:=h.dsk;exact heap_lt hh
   refine DAppend_spec (h.grow g1).dsk (by rw [str_size,str_size,hlen];omega) hsn (λw2 hd2 hn2 g2=>?_) λw2 hn2 hd2 g2=>?_
   rotate_left
   ·exact ⟨_,rfl,hF1.step g2 (λx hx=>by simp at hx;subst hx;exact h.ne) (λk _ e=>.inr (.inl e)),(λh=>by cases h),(λt x _=>hE' w2 _ (nf1' hn2) hd2 s1 (g2.get (hF1.blk 0 rfl) h.ne) (g1.then g2 |>.mono λk _ e=>.inr (.inl e))),.inr ⟨_,_,rfl⟩⟩
   have hbd:∀k,k=bd→jrnS bj bd q k:=λk e=>.inr (.inl e)
   have hF2:=hF1.step g2 (λx hx=>by simp at hx;subst hx;exact h.ne) λk _ e=>hbd k e
   refine ⟨_,rfl,hF2,λ_=>?_,(λt x h=>by cases h),.inl rfl⟩
   have ho2:Own T.string 1 w2 q c (recs.map sv8'):=(h.own.grow g1).keep g2 λa ha e=>(h.off a ha).2 e
   have hy2:Sl w2 y [sv8' s]:=(hy.grow g1).keep g2 λa ha e=>hyo a ha (.inr (.inl e))
   refine app_sv8 ho2 rfl h.cap (ys:=[s]) hy2 rfl (by omega) λq' c' w3 ho3 hc3 g3 hq3=>?_
   have hF3:=hF2.step g3 (λx hx ⟨a,ha,e⟩=>by simp at hx;subst hx;exact (h.off a ha).1 e.symm) λk _ e=>.inr (.inr e)
   refine ⟨_,_,_,rfl,hF3,λw4 hF4=>?_⟩
   have g4:Chg (· = bj) w3 w4:=hF4.stp.mono λi _ hi=>by simpa using hi
   have s2:=g1.size
   have s3:=g2.size
   have hq':∀a,q'=some a→q=some a∨w.heap.size≤a.block:=λa ha=>by
    rcases hq3 a ha with e | e
    ·exact .inl e
    ·subst e;exact .inr (by simp only [];omega)
   have hqb:∀a,q'=some a→a.block≠bj:=λa ha=>by
    rcases hq' a ha with e | e
    ·exact (h.off a e).1
    ·omega
   have hl2:(recs++[s]).length=recs.length+1:=by simp
   refine hK' w4 q' c' ?_ (ho3.keep g4 λa ha e=>hqb a ha e) (by rw [hl2];exact hc3) ⟨_,?_,s1⟩ (λhn=>?_) hq' hF4.chg
   ·have hb4:=hF4.blk 0 rfl
    simp only [] at hb4
    rw [w64 (by rw [hlen];omega) (by rw [hlen];omega)] at hb4
    rw [hb4,hl2,logL_snoc,List.length_append]
    simp
   ·have hqn:∀k,blkOf q k→k<w1.heap.size:=λk ⟨a,ha,e⟩=>by have:=h.own.lt a ha;omega
    exact (hd2.keep g3 (λ⟨a,ha,e⟩=>(h.off a ha).2 e.symm) hqn).keep g4 (λe=>h.ne e.symm) λk e=>by omega
   ·exact ((hn2 (nf1 hn)).keep g3 λ⟨a,ha,e⟩=>(h.off a ha).2 e.symm).keep g4 λe=>h.ne e.symm
 have hblt:bd<w.heap.size:=by obtain ⟨_,_,_,_,_,_,hh⟩:=h.dsk;exact heap_lt hh
 refine put _ (λw1 q1 c1 hb1 ho1 hc1 ⟨n,hd1,hsn⟩ hn1 hq1 g1=>?_) λw1 n hn hd1 hsn hb1 g1=>?_
 rotate_left
 ·exact ⟨_,rfl,_,_,_,_,_,h0.mod g1 hb1 (λx hx=>by cases hx) (λ_ _ h=>h),(λh=>by cases h),(λt x _=>hE w1 n [] hn hd1 hsn (.inl rfl) g1),.inr ⟨_,_,rfl⟩⟩
 have hF1:Fs (jrnS bj bd q) w [⟨bj,#[.pointer (some ⟨bd,0,none⟩),.slice q1 (recs++[s]).length c1,.int .i64 (logL (recs++[s])).length],T.journal_Journal,true⟩] w1:=h0.mod g1 hb1 (λx hx=>by cases hx) λ_ _ h=>h
 refine ⟨_,rfl,_,_,_,_,_,hF1,λ_=>?_,(λt x h=>by cases h),.inl rfl⟩
 have h1:Fs (λk=>k=bj∨k=bd) w1 [⟨bj,#[.pointer (some ⟨bd,0,none⟩),.slice q1 (recs++[s]).length c1,.int .i64 (logL (recs++[s])).length],T.journal_Journal,true⟩] w1:=(Fr.init _ w1).entry hb1 (λx h=>by cases h) λ_=>.inl rfl
 refine journal_Journal_Flush bj (some ⟨bd,0,none⟩) q1 (recs++[s]).length c1 (logL (recs++[s])).length (λk=>k=bj∨k=bd) _ w1 h1 ⟨.inl rfl,trivial⟩ ?_
 refine DSync_spec hd1 (by omega) (λw2 hd2 hn2 g2=>⟨_,rfl,h1.step g2 (λx hx=>by simp at hx;subst hx;exact h.ne) λk _ e=>.inr e,?_⟩) λw2 hn2 hd2 g2=>⟨_,rfl,h1.step g2 (λx hx=>by simp at hx;subst hx;exact h.ne) λk _ e=>.inr e,⟨_,rfl,_,_,_,_,_,hF1.step g2 (λx hx=>by simp at hx;subst hx;exact h.ne) (λk _ e=>.inr (.inl e)),hE w2 n _ (λh=>hn2 (hn1 h)) hd2 hsn (.inr rfl) (g1.trans g2 λ_ _ e=>.inr (.inl e))⟩⟩
 rw [str_append,← logL_snoc] at hd2
 have hF2:=hF1.step g2 (λx hx=>by simp at hx;subst hx;exact h.ne) λk _ e=>.inr (.inl e)
 refine ⟨_,rfl,_,_,_,_,_,hF2,hK w2 q1 c1 ⟨hF2.blk 0 rfl,ho1.keep g2 ?_,hc1,hd2,h.ne,?_⟩ (λhn=>hn2 (hn1 hn)) (g1.trans g2 λ_ _ e=>.inr (.inl e)) hq1⟩
 ·intro a ha e
  rcases hq1 a ha with e' | e'
  ·exact (h.off a e').2 e
  ·have e2:a.block=bd:=e;omega
 ·intro a ha
  rcases hq1 a ha with e' | e'
  ·exact h.off a e'
  ·omega
end Go.Vc
namespace Go.Vc
open Go
theorem NextEmpty_spec {w:World} {K:Value→World→Prop} (hK:∀w' v,Grow w w'→isErr v→K (.tuple #[.string ⟨#[]⟩,.int .i64 0,v]) w'):CallV PR F.frame_Next ⟨[.string ⟨#[]⟩,.int .i64 0]⟩ w K:=by
 refine frame_Next ⟨#[]⟩ 0 S0 K w λb hb=>⟨λh=>by omega,λ_=>⟨λh=>absurd h (by decide),λ_=>⟨λ_ w4 hF4=>?_,λh=>absurd (by decide) h⟩⟩⟩
 have h4:Fs S0 w4 [⟨b,#[.int .i64 0],T.int,false⟩] w4:=(Fr.init _ w4).entry (hF4.blk 0 rfl) (λx h=>by cases h) λh=>by cases h
 refine frame_fail _ b 0 S0 _ w4 h4 ⟨rfl,λw5 hF5=>⟨_,_,_,rfl,hF4.after hF5.grow,hK w5 _ (hF4.grow.trans hF5.grow) ⟨_,_,rfl⟩⟩⟩
theorem AllEmpty_spec {w:World} {K:Value→World→Prop} (hK:∀w',Grow w w'→K (.tuple #[.slice none 0 0,.int .i64 0]) w'):CallV PR F.frame_All ⟨[.string ⟨#[]⟩]⟩ w K:=by
 refine frame_All ⟨#[]⟩ S0 K w ⟨λq l c n m w'=>q=none∧l=0∧c=0∧n=0,⟨0,rfl,rfl,rfl,rfl⟩,?_⟩
 rintro q l c n D m w0 ⟨rfl,rfl,rfl,rfl⟩ hF
 refine NextEmpty_spec λw1 v g1 hv=>⟨_,_,_,rfl,hF.after g1,(λh=>by obtain ⟨t,x,rfl⟩:=hv;cases h),λt x h=>hK w1 (hF.gr.trans g1),.inr (by obtain ⟨t,x,h⟩:=hv;exact ⟨t,x,h⟩)⟩
theorem JOpen0_spec {w:World} {bd:Nat} (h:DskAt w bd ⟨#[]⟩) {K:Value→World→Prop} (hK:∀w' bj,Grow w w'→w.heap.size≤bj→JrnAt w' bj bd none 0 []→K (.tuple #[.pointer (some ⟨bj,0,none⟩),.nilIface]) w'):CallV PR F.journal_Open ⟨[.pointer (some ⟨bd,0,none⟩)]⟩ w K:=by
 have hfr:∀ {w':World},Grow w w'→Fs S0 w [] w':=λg=>(Fr.init _ w).after g
 have hlt:bd<w.heap.size:=by obtain ⟨_,_,_,_,_,_,hh⟩:=h;exact heap_lt hh
 refine journal_Open' (some ⟨bd,0,none⟩) S0 K w ?_
 refine Log_spec h ⟨_,_,rfl,.init _ w,λ_=>?_,(λt x h=>by cases h),.inl rfl⟩
 refine AllEmpty_spec λw1 g1=>⟨_,_,_,_,rfl,hfr g1,λh=>absurd h (by decide),λ_=>⟨λ_=>?_,(λt x h=>by cases h),.inl rfl⟩⟩
 refine Waits_spec (h.keep g1 id) ⟨_,rfl,hfr g1,λh=>by omega,λ_=>⟨λ_ b hb w2 hF2=>?_,(λt x h=>by cases h),.inl rfl⟩⟩
 have s1:=g1.size
 refine hK w2 b hF2.chg (by omega) ⟨hF2.blk 0 rfl,.nil _ _ _,Nat.le_refl _,h.keep hF2.chg id,by omega,λa h=>by cases h⟩
theorem JAll_spec {w:World} {bj bd:Nat} {q:Option Addr} {c:Nat} {recs:List (List UInt8)} (h:JrnAt w bj bd q c recs) (hn:recs.length≤1000000) {K:Value→World→Prop}
  (hK:∀w' q' c',Grow w w'→Own T.string 1 w' q' c' (recs.map sv8')→K (.slice q' recs.length c') w'):CallV PR F.p_journal_Journal_All ⟨[.pointer (some ⟨bj,0,none⟩)]⟩ w K:=by
 have h0:Fs (· = bj) w [⟨bj,#[.pointer (some ⟨bd,0,none⟩),.slice q recs.length c,.int .i64 (logL recs).length],T.journal_Journal,true⟩] w:=(Fr.init _ w).entry h.blk (λx h=>by cases h) λ_=>rfl
 refine journal_Journal_All bj (some ⟨bd,0,none⟩) q recs.length c (logL recs).length (· = bj) K w h0 ⟨rfl,trivial⟩ ?_
 have e:recs.map sv8'=(recs.map str).map sv1:=by rw [List.map_map];rfl
 have hs:=h.own.sl
 rw [e] at hs
 refine cloneStr_spec hs (by simp) hn λw1 q' c' g1 ho hc hof=>⟨_,_,_,rfl,h0.after g1,hK w1 q' c' g1 (by rw [e];exact ho)⟩
theorem JBytes_spec {w:World} {bj bd:Nat} {q:Option Addr} {c:Nat} {recs:List (List UInt8)} (h:JrnAt w bj bd q c recs) {K:Value→World→Prop} (hK:K (.int .i64 (logL recs).length) w):CallV PR F.p_journal_Journal_Bytes ⟨[.pointer (some ⟨bj,0,none⟩)]⟩ w K:=
 journal_Journal_Bytes bj (some ⟨bd,0,none⟩) q recs.length c (logL recs).length (· = bj) K w ((Fr.init _ w).entry h.blk (λx h=>by cases h) λ_=>rfl) ⟨rfl,trivial⟩ hK
end Go.Vc
namespace Go.Vc
open Go
def putTextL (xs:List (List UInt8)):List UInt8:=(xs.map λs=>putShort s.length++s).flatten
theorem putTextL_next {xs:List (List UInt8)} {k:Nat} (h:k<xs.length):putTextL (xs.take (k+1))=putTextL (xs.take k)++(putShort xs[k].length++xs[k]):=by
 unfold putTextL;rw [take_next h,List.map_append,List.flatten_append];simp
theorem putTextL_le (xs:List (List UInt8)) (k:Nat):(putTextL (xs.take k)).length≤(putTextL xs).length:=by
 have:putTextL xs=putTextL (xs.take k)++putTextL (xs.drop k):=by
  unfold putTextL;rw [← List.flatten_append,← List.map_append,List.take_append_drop]
 rw [this,List.length_append];omega
theorem PutText_spec {q:Option Addr} {n c:Nat} {xs:List (List UInt8)} {w:World} (hs:Sl w q (xs.map sv8')) (hl:n=xs.length) (hn:n≤1000000) (hb:(putTextL xs).length≤35184372088832) {K:Value→World→Prop}
  (hK:∀w',Grow w w'→K (.string (str (putTextL xs))) w'):CallV PR F.octet_PutText ⟨[.slice q n c]⟩ w K:=by
 subst hl
 refine octet_PutText' q xs.length c S0 K w λb hb0 w0 hF0=>?_
 have hbb:=hF0.blk 0 rfl
 have hbl:b<w0.heap.size:=heap_lt hbb
 have off0:∀ {q:Option Addr} {bs:List UInt8} {p:Option Addr} {l c:Nat} {w':World},BldP w' b w0.heap.size p q l c bs→∀j,j<w.heap.size→¬(j=b∨blkOf q j):=by
  rintro q bs p l c w' h j hj (e | ⟨a,ha,e⟩)
  ·omega
  ·have:=h.off.le a ha;have:=hF0.chg.size;omega
 have hmod:∀ {w1 w2:World} {p q p' q':Option Addr} {l c l' c':Nat} {bs bs':List UInt8},Fs S0 w [⟨b,#[.pointer p,.slice q l c],T.strings_Builder,true⟩] w1→BldP w1 b w0.heap.size p q l c bs→BldP w2 b w0.heap.size p' q' l' c' bs'→Chg (λk=>k=b∨blkOf q k) w1 w2→
   Fs S0 w [⟨b,#[.pointer p',.slice q' l' c'],T.strings_Builder,true⟩] w2:=λhF h1 h2 g=>hF.mod g h2.blk (λx hx=>by cases hx) λj hj hs=>absurd hs (off0 h1 j hj)
 refine ⟨λi p q l c m w'=>∃k:Nat,i=k∧k≤xs.length∧m=xs.length - k∧BldP w' b w0.heap.size p q l c (putTextL (xs.take k))∧w0.heap.size≤w'.heap.size,⟨_,0,rfl,by omega,rfl,.new hbb hbl,Nat.le_refl _⟩,?_⟩
 rintro i p q1 l c1 D m w1 ⟨k,rfl,hk,rfl,hB,hsz⟩ hF
 have hle:=putTextL_le xs k
 refine ⟨λhlt=>?_,λhge=>?_⟩
 ·have hk':k<xs.length:=by omega
  have hnx:=putTextL_next hk'
  have hle2:=putTextL_le xs (k+1)
  rw [hnx,List.length_append,List.length_append] at hle2
  refine (hs.grow hF.gr).rd (v:=sv8' xs[k]) (by simp) (by omega) (by simp [hk']) λa ha=>⟨_,ha,?_⟩
  rw [str_size]
  refine short_spec (by omega) (by omega) λw2 g2=>⟨_,rfl,hF.after g2,?_⟩
  rw [Int.toNat_natCast]
  simp only [str_size,str_append]
  have hB2:=hB.grow g2
  have hl:=hB2.len
  refine ⟨by omega,?_⟩
  refine WriteString_spec hB2 (by have:=g2.size;omega) (by rw [str_size,List.length_append];omega) λw3 p' q' l' c' hB3 g3 hq3=>⟨_,_,rfl,p',q',l',c',hmod (hF.after g2) hB2 hB3 g3,xs.length - (k+1),by omega,k+1,wr1 (by omega),by omega,rfl,?_,by have:=g2.size;have:=g3.size;omega⟩
  rw [str_data] at hB3
  rw [hnx];exact hB3
 ·have e:k=xs.length:=by omega
  subst e
  rw [List.take_length] at hB
  refine String_spec hB λw2 g2=>⟨_,rfl,hF.step g2 (λx hx ⟨a,ha,e⟩=>?_) (λj hj hj'=>off0 hB j hj (.inr hj')),?_⟩
  ·simp at hx;subst hx
   have:=hB.off.le a ha;simp only [] at e;omega
  ·exact hK w2 (Chg.trans hF.gr g2 λj hj hj'=>absurd (.inr hj') (off0 hB j hj))
def mval (m:Man) (q:Option Addr) (c:Nat):Value:=.agg #[.int .i64 m.version,.int .i64 m.nodes,.int .i64 m.edges,.slice q m.shards.length c,.int .i64 m.blocks,.string (str m.root)]
theorem in_ok {n a b:Int} (h:a≤n∧n≤b) {w:World} {K:Value→World→Prop} (hK:K (.bool true) w):CallV PR F.manifest_in ⟨[.int .i64 n,.int .i64 a,.int .i64 b]⟩ w K:=
 manifest_in n a b S0 K w ⟨λ_=>⟨λ_=>hK,λh'=>by omega⟩,λh'=>by omega⟩
theorem heads_ok {m:Man} (h:m.ok) {q:Option Addr} {c:Nat} {w:World} {K:Value→World→Prop} (hK:∀w',Grow w w'→K (.int .i64 (-1)) w'):CallV PR F.manifest_heads ⟨[mval m q c]⟩ w K:=by
 have hs:=h.shards
 have hiff:m.shards.length=0↔m.nodes=0:=by rw [← hs.2];exact List.length_eq_zero_iff
 refine manifest_heads m.version m.nodes m.edges q m.shards.length c m.blocks (str m.root) S0 K w λb hb w0 hF0=>?_
 refine in_ok h.version ⟨true,rfl,λ_=>⟨hF0.reset,in_ok h.nodes ⟨true,rfl,λ_=>⟨hF0.reset,in_ok h.edges ⟨true,rfl,λ_=>⟨hF0.reset,λh'=>by omega,λ_=>⟨λh0=>⟨λ_=>hK w0 hF0.chg,λh1=>by omega⟩,λh0=>⟨λh1=>by omega,λ_=>hK w0 hF0.chg⟩⟩⟩,(λh=>by cases h)⟩⟩,(λh=>by cases h)⟩⟩,(λh=>by cases h)⟩
theorem tab_at {nodes:Int} : ∀ {l:List (Int × Int)} {p:Option Int},tabOk nodes p l→∀k,(hk:k<l.length)→(3≤l[k].2∧l[k].2≤1048576)∧(k=0→p=none→l[k].1=0)∧((hk0:0<k)→l[k - 1].1+1≤l[k].1∧l[k].1≤nodes - 1)
 | [],_,_,k,hk=>by simp at hk
 | (f,b) :: l,none,h,k,hk=>by
  obtain ⟨h0,h1,h2,h3⟩:=h
  cases k with
  | zero=>exact ⟨⟨h1,h2⟩,λ_ _=>h0,λh=>by omega⟩
  | succ k=>
   have ih:=tab_at h3 k (by simpa using hk)
   refine ⟨ih.1,λh=>by omega,λ_=>?_⟩
   cases k with
   | zero=>
    match l,h3,hk with
    | (f',b') :: l',h3,_=>obtain ⟨a1,a2,_⟩:=h3;exact ⟨a1,a2⟩
   | succ k=>exact ih.2.2 (by omega)
 | (f,b) :: l,some p,h,k,hk=>by
  obtain ⟨h0,h0',h1,h2,h3⟩:=h
  cases k with
  | zero=>exact ⟨⟨h1,h2⟩,(λ_ h=>by cases h),λh=>by omega⟩
  | succ k=>
   have ih:=tab_at h3 k (by simpa using hk)
   refine ⟨ih.1,λh=>by omega,λ_=>?_⟩
   cases k with
   | zero=>
    match l,h3,hk with
    | (f',b') :: l',h3,_=>obtain ⟨a1,a2,_⟩:=h3;exact ⟨a1,a2⟩
   | succ k=>exact ih.2.2 (by omega)
theorem tables_ok {m:Man} (h:m.ok) {q:Option Addr} {c:Nat} {w:World} (hs:Sl w q (encE m.shards)) {K:Value→World→Prop} (hK:∀w',Grow w w'→K (.int .i64 (-1)) w'):CallV PR F.manifest_tables ⟨[mval m q c]⟩ w K:=by
 have hsl:=h.shards.1
 have hno:=h.nodes
 refine manifest_tables m.version m.nodes m.edges q m.shards.length c m.blocks (str m.root) S0 K w λb hb w0 hF0=>?_
 refine ⟨λi k w'=>∃j:Nat,i=j∧j≤m.shards.length∧k=m.shards.length - j,⟨_,0,rfl,by omega,rfl⟩,?_⟩
 rintro i D k w1 ⟨j,rfl,hj,rfl⟩ hF
 refine ⟨λhlt=>?_,λhge=>hK w1 hF.gr⟩
 have hj':j<m.shards.length:=by omega
 obtain ⟨hb1,hz,hp⟩:=tab_at h.tab j hj'
 have fin:∃l4:Nat,l4<m.shards.length - j∧∃j1:Nat,IntKind.wrap .i64 ((j:Int)+1)=j1∧j1≤m.shards.length∧l4=m.shards.length - j1:=⟨m.shards.length - (j+1),by omega,j+1,wr1 (by omega),by omega,rfl⟩
 refine (hs.grow hF.gr).rd2 rfl hj' hj' λa ha1 ha2=>⟨_,ha1,_,ha2,λb3 hb3=>?_⟩
 refine ⟨λh0=>⟨λhj0 w2 hF2=>⟨(· = w2),rfl,?_⟩,λhj0 w6 hF6=>?_⟩,λh0=>⟨λhj0 w8 hF8=>⟨(· = w8),rfl,?_⟩,λhj0 w12 hF12=>?_⟩⟩
 ·have hj1:0<j:=by omega
  have:=hp hj1
  rw [wrP hj1 (by omega)]
  refine (hs.grow hF2.chg).rd2 (k:=j - 1) rfl (by omega) (by omega) λa ha1 ha2=>Dr_some.2 ⟨_,λw3 e=>e ▸ ha1,?_⟩
  have hbd:=tab_bounds hno.2 (λ_ h=>by cases h) h.tab _ (List.getElem_mem (show j - 1<m.shards.length by omega))
  rw [w64 (n:=m.shards[j - 1].1+1) (by omega) (by omega),w64 (n:=m.nodes - 1) (by omega) (by omega)]
  exact in_ok this ⟨true,rfl,λ_=>⟨hF2.reset,rfl,in_ok hb1 ⟨true,rfl,λ_=>⟨hF2.reset,fin⟩,(λh=>by cases h)⟩⟩,(λh=>by cases h)⟩
 ·exact in_ok hb1 ⟨true,rfl,λ_=>⟨hF6.reset,fin⟩,(λh=>by cases h)⟩
 ·have hj1:0<j:=by omega
  have:=hp hj1
  rw [wrP hj1 (by omega)]
  refine (hs.grow hF8.chg).rd2 (k:=j - 1) rfl (by omega) (by omega) λa ha1 ha2=>Dr_some.2 ⟨_,λw3 e=>e ▸ ha1,?_⟩
  have hbd:=tab_bounds hno.2 (λ_ h=>by cases h) h.tab _ (List.getElem_mem (show j - 1<m.shards.length by omega))
  rw [w64 (n:=m.shards[j - 1].1+1) (by omega) (by omega),w64 (n:=m.nodes - 1) (by omega) (by omega)]
  exact in_ok this ⟨true,rfl,λ_=>⟨hF8.reset,rfl,in_ok hb1 ⟨true,rfl,λ_=>⟨hF8.reset,fin⟩,(λh=>by cases h)⟩⟩,(λh=>by cases h)⟩
 ·exact absurd (hz (by omega) rfl) h0
end Go.Vc
namespace Go.Vc
open Go
theorem sum_take_next {l:List Int} {k:Nat} (h:k<l.length):(l.take (k+1)).sum=(l.take k).sum+l[k]:=by
 rw [take_next h,List.sum_append];simp
theorem Total_spec {m:Man} (h:m.ok) {q:Option Addr} {c:Nat} {w:World} (hs:Sl w q (encE m.shards)) {K:Value→World→Prop} (hK:∀w',Grow w w'→0≤m.total→m.total≤67108864→K (.int .i64 m.total) w'):CallV PR F.manifest_Total ⟨[mval m q c]⟩ w K:=by
 have hsl:=h.shards.1
 have hno:=h.nodes
 have hbd:∀k,k≤m.shards.length→0≤((m.shards.map (·.2)).take k).sum∧((m.shards.map (·.2)).take k).sum≤k*1048576:=by
  intro k
  induction k with
  | zero=>intro _;simp
  | succ k ih=>
   intro hk
   have hk':k<m.shards.length:=hk
   have i:=ih (by omega)
   have:=tab_bounds hno.2 (λ_ h=>by cases h) h.tab _ (List.getElem_mem hk')
   rw [sum_take_next (by simpa using hk'),List.getElem_map]
   omega
 refine manifest_Total m.version m.nodes m.edges q m.shards.length c m.blocks (str m.root) S0 K w λb hb w0 hF0=>?_
 refine ⟨λx i k w'=>∃j:Nat,i=j∧j≤m.shards.length∧k=m.shards.length - j∧x=((m.shards.map (·.2)).take j).sum,⟨_,0,rfl,by omega,rfl,by simp⟩,?_⟩
 rintro x i D k w1 ⟨j,rfl,hj,rfl,rfl⟩ hF
 refine ⟨λhlt=>?_,λhge=>?_⟩
 ·have hj':j<m.shards.length:=by omega
  have b1:=hbd j hj
  have b2:=hbd (j+1) (by omega)
  have hn:=sum_take_next (l:=m.shards.map (·.2)) (k:=j) (by simpa using hj')
  rw [List.getElem_map] at hn
  refine (hs.grow hF.gr).rd2 rfl hj' hj' λa ha1 ha2=>⟨_,ha1,_,ha2,λb3 hb3 w2 hF2=>⟨_,?_,j+1,wr1 (by omega),by omega,rfl,?_⟩⟩
  ·omega
  ·rw [w64 (by omega) (by omega),hn]
 ·have e:j=m.shards.length:=by omega
  subst e
  have b1:=hbd _ (Nat.le_refl m.shards.length)
  have e2:((m.shards.map (·.2)).take m.shards.length).sum=m.total:=by rw [List.take_of_length_le (by simp)];rfl
  rw [e2] at b1 ⊢
  exact hK w1 hF.gr b1.1 (by omega)
theorem place_ok {m:Man} (h:m.ok) {q:Option Addr} {c:Nat} {w:World} (hs:Sl w q (encE m.shards)) {K:Value→World→Prop} (hK:∀w',Grow w w'→K (.int .i64 (-1)) w'):CallV PR F.manifest_place ⟨[mval m q c]⟩ w K:=by
 refine manifest_place m.version m.nodes m.edges q m.shards.length c m.blocks (str m.root) S0 K w λb hb w0 hF0=>?_
 refine heads_ok h λw1 g1=>⟨_,rfl,hF0.after g1,λh=>by omega,λ_=>?_⟩
 have hF1:=hF0.after g1
 refine tables_ok h (hs.grow hF1.chg) λw2 g2=>⟨_,rfl,hF1.after g2,λh=>by omega,λ_ w3 hF3=>?_⟩
 refine Total_spec h (hs.grow hF3.chg) λw4 g4 ht0 ht1=>⟨_,rfl,hF3.after g4,?_⟩
 have hF4:=hF3.after g4
 obtain ⟨t,ht⟩:=Int.eq_ofNat_of_zero_le ht0
 rw [ht]
 refine Count_spec (by omega) ⟨_,rfl,hF4,?_⟩
 have hb1:=h.blocks
 rw [ht,countB_nat] at hb1
 refine ⟨λ_=>⟨λh=>by omega,λ_=>⟨λ_=>hK w4 hF4.chg,λh'=>absurd (by rw [str_size,h.root];rfl) h'⟩⟩,λh'=>absurd hb1.1 h'⟩
theorem MCheck_ok {m:Man} (h:m.ok) {q:Option Addr} {c:Nat} {w:World} (hs:Sl w q (encE m.shards)) {K:Value→World→Prop} (hK:∀w',Grow w w'→K .nilIface w'):CallV PR F.manifest_Check ⟨[mval m q c]⟩ w K:=by
 refine manifest_Check m.version m.nodes m.edges q m.shards.length c m.blocks (str m.root) S0 K w λb hb w0 hF0=>?_
 refine place_ok h (hs.grow hF0.chg) λw1 g1=>⟨_,rfl,hF0.after g1,λh=>by omega,λ_=>hK w1 (hF0.after g1).chg⟩
theorem shorts_next {l:List Int} {k:Nat} (h:k<l.length):shorts (l.take (k+1))=shorts (l.take k)++putShort l[k].toNat:=by
 unfold shorts;rw [take_next h,List.flatMap_append];simp
theorem shorts_len {l:List Int} (h:∀n∈l,0≤n∧n≤72057594037927935):(shorts l).length≤8*l.length:=by
 induction l with
 | nil=>simp [shorts]
 | cons x l ih=>
  have i:=ih λn hn=>h n (List.mem_cons_of_mem _ hn)
  have:=putShort_le8 (n:=x.toNat) (by have:=h x List.mem_cons_self;omega)
  simp only [shorts,List.flatMap_cons,List.length_append,List.length_cons] at i ⊢;omega
theorem MPut_ok {m:Man} (h:m.ok) {q:Option Addr} {c:Nat} {w:World} (hs:Sl w q (encE m.shards)) {K:Value→World→Prop} (hK:∀w',Grow w w'→K (.tuple #[.string (str (putMan m)),.nilIface]) w'):CallV PR F.manifest_Put ⟨[mval m q c]⟩ w K:=by
 have hsl:=h.shards.1
 have hnums:=h.nums
 have hroot:=h.root
 have hnl:m.nums.length=5+2*m.shards.length:=by simp [Man.nums,pairsL_len];omega
 have hsh:=shorts_len hnums
 refine manifest_Put m.version m.nodes m.edges q m.shards.length c m.blocks (str m.root) S0 K w λb hb w0 hF0=>?_
 refine MCheck_ok h (hs.grow hF0.chg) λw1 g1=>⟨_,rfl,hF0.after g1,λ_=>?_,(λt x h=>by cases h),.inl rfl⟩
 intro b1 hb1 w2 hF2
 have hbl:b<w2.heap.size:=hF2.lt _ List.mem_cons_self
 let pre (k:Nat):List Int:=[m.version,m.nodes,m.edges,(m.shards.length:Int)]++pairsL (m.shards.take k)
 have hprel:∀k,k≤m.shards.length→(pre k).length=4+2*k:=λk hk=>by simp [pre,pairsL_len,Nat.min_eq_left hk];omega
 refine ⟨λq1 l1 c1 i k w'=>∃j:Nat,i=j∧j≤m.shards.length∧k=m.shards.length - j∧Own T.int 1 w' q1 c1 ((pre j).map iv)∧4+2*j=l1∧l1≤c1∧Off (λx=>x<w1.heap.size) q1∧w1.heap.size≤w'.heap.size,⟨_,0,rfl,by omega,rfl,?_,rfl,Nat.le_refl _,?_,hF2.grow.size⟩,?_⟩
 ·have:pre 0=[m.version,m.nodes,m.edges,(m.shards.length:Int)]:=by simp [pre,pairsL]
  rw [this]
  exact hF2.own 1 rfl rfl (by omega)
 ·intro a ha hlt;cases ha;simp only [] at hlt;omega
 rintro q1 l1 c1 i D k w3 ⟨j,rfl,hj,rfl,ho,rfl,hlc,hof,hsz⟩ hF3
 have hF0b:b<w1.heap.size:=by have:=hF0.lt _ List.mem_cons_self;have:=g1.size;simp only [] at *;omega
 refine ⟨λhlt=>?_,λhge=>?_⟩
 ·have hj':j<m.shards.length:=by omega
  refine (hs.grow hF3.gr).rd2 rfl hj' hj' λa ha1 ha2=>⟨_,ha1,_,ha2,λb6 hb6 b7 hb7 w4 hF4=>?_⟩
  have g34:Chg (· = b6) w3 w4:=hF4.stp.mono λx _ hx=>by simpa using hx
  have ho4:Own T.int 1 w4 q1 c1 ((pre j).map iv):=ho.keep g34 λa ha e=>by have:=ho.lt a ha;have e':a.block=b6:=e;omega
  refine app_iv ho4 (by rw [hprel j hj]) hlc (ys:=[m.shards[j].1,m.shards[j].2]) (hF4.sl 2 rfl) rfl (by omega) λq2 c2 w5 ho5 hc5 g5 hq5=>?_
  have hF5:=hF4.app2 g5 w1.heap.size w3.heap.size hof (λa ha=>ho.lt a ha) (λy hy=>by
   rcases List.mem_cons.1 hy with rfl | hy
   ·exact .inl hF0b
   rcases List.mem_cons.1 hy with rfl | hy
   ·exact .inr hb6
   ·simp at hy;subst hy;exact .inr hb7) (by have:=hF0.chg.size;have:=g1.size;omega)
  refine ⟨_,_,_,rfl,hF5,m.shards.length - (j+1),by omega,j+1,wr1 (by omega),by omega,rfl,?_,by omega,hc5,hof.next hq5 (by have:=g34.size;omega),by have:=g34.size;have:=g5.size;omega⟩
  have:pre (j+1)=pre j++[m.shards[j].1,m.shards[j].2]:=by
   simp only [pre,pairsL,take_next hj',List.flatMap_append,List.append_assoc];simp
  rw [this];exact ho5
 ·have e:j=m.shards.length:=by omega
  subst e
  have hpe:pre m.shards.length++[m.blocks]=m.nums:=by simp [pre,Man.nums]
  intro b11 hb11 w6 hF6
  have g36:Grow w3 w6:=hF6.grow
  refine app_iv (ho.grow g36) (by rw [hprel _ (Nat.le_refl _)]) hlc (ys:=[m.blocks]) (hF6.sl 1 rfl) rfl (by omega) λq2 c2 w7 ho7 hc7 g7 hq7=>?_
  rw [hpe] at ho7
  have hF7:=hF6.app2 g7 w1.heap.size w3.heap.size hof (λa ha=>ho.lt a ha) (λy hy=>by
   rcases List.mem_cons.1 hy with rfl | hy
   ·exact .inl hF0b
   ·simp at hy;subst hy;exact .inr hb11) (by have:=hF0.chg.size;have:=g1.size;omega)
  have hl2:4+2*m.shards.length+1=m.nums.length:=by omega
  rw [hl2]
  refine ⟨_,_,_,rfl,hF7,λs i k w'=>∃j:Nat,i=j∧j≤m.nums.length∧k=m.nums.length - j∧s=str (shorts (m.nums.take j))∧Sl w' q2 (m.nums.map iv),⟨_,0,rfl,by omega,rfl,by simp [shorts,str],ho7.sl⟩,?_⟩
  rintro s i D k w8 ⟨j,rfl,hj,rfl,rfl,hs8⟩ hF8
  have hsj:=shorts_len (l:=m.nums.take j) λn hn=>hnums n (List.mem_of_mem_take hn)
  rw [List.length_take] at hsj
  refine ⟨λhlt=>?_,λhge=>?_⟩
  ·have hj':j<m.nums.length:=by omega
   have hn:=hnums _ (List.getElem_mem hj')
   refine hs8.rd (v:=iv (m.nums.getD j 0)) (by simp) (by omega) (iv_at hj') λa ha=>⟨_,ha,?_⟩
   rw [getD_at hj']
   have h8:=putShort_le8 (n:=m.nums[j].toNat) (by omega)
   refine PutShort_spec hn λw9 g9=>⟨_,_,rfl,hF8.after g9,?_,m.nums.length - (j+1),by omega,j+1,wr1 (by omega),by omega,rfl,?_,hs8.grow g9⟩
   ·rw [str_size,str_size];omega
   ·rw [str_append,shorts_next hj']
  ·have e:j=m.nums.length:=by omega
   subst e
   rw [List.take_length]
   intro b17 hb17 w10 hF10
   refine PutText_spec (xs:=[m.root]) (hF10.sl 1 rfl) rfl (by simp) (by have:=putShort_le8 (n:=m.root.length) (by omega);simp [putTextL];omega) λw11 g11=>⟨_,rfl,hF10.after g11,?_,?_⟩
   ·have:=putShort_le8 (n:=m.root.length) (by omega)
    rw [str_size,str_size];simp [putTextL];omega
   ·rw [str_append]
    have:shorts m.nums++putTextL [m.root]=putMan m:=by simp [putMan,putTextL]
    rw [this]
    exact hK w11 (hF10.after g11).chg
theorem putMan_len {m:Man} (h:m.ok):(putMan m).length≤1200:=by
 have hnl:m.nums.length=5+2*m.shards.length:=by simp [Man.nums,pairsL_len];omega
 have hsh:=shorts_len h.nums
 have:=h.shards.1
 have:=putShort_le8 (n:=m.root.length) (by have:=h.root;omega)
 have:=h.root
 simp only [putMan,List.length_append];omega
end Go.Vc
namespace Go.Vc
open Go
theorem Tree_new {q:Option Addr} {n c:Nat} {xs:List (List UInt8)} {w:World} (hs:Sl w q (xs.map sv8')) (hl:n=xs.length) (hn:n≤100000) (hx:∀x∈xs,x.length≤1000000) {K:Value→World→Prop}
  (hK:∀w' b q' c' m R,Grow w w'→TreeAt w' b q' c' m (xs.map leafL) R→(xs≠[]→R (.agg #[.int .i64 0,.int .i64 xs.length]) (.string (str (spanL nodeL (xs.map leafL) xs.length 0 xs.length))))→(xs≠[]→AllIn R 0 xs.length)→w.heap.size≤b→w.heap.size≤m→Off (λj=>j<w.heap.size) q'→K (.pointer (some ⟨b,0,none⟩)) w') :
  CallV PR F.merkle_New ⟨[.slice q n c]⟩ w K:=by
 subst hl
 have hlv:∀y∈xs.map leafL,y.length=32:=λy hy=>by obtain ⟨x,_,rfl⟩:=List.mem_map.1 hy;exact Hs_len _
 refine merkle_New' q xs.length c S0 K w (make_rn (k:=T.merkle_span) λw0 m hm hm0 g0=>⟨_,rfl,(Fr.init _ w).after g0,λb hb w1 hF1=>?_⟩)
 have hbl:b<w1.heap.size:=hF1.lt _ List.mem_cons_self
 have hm1:=hm0.grow hF1.grow
 have hml:m<w0.heap.size:=hm0.lt
 refine ⟨λi q1 l1 c1 mm k w'=>∃j:Nat,i=j∧j≤xs.length∧k=xs.length - j∧Own T.string 1 w' q1 c1 (((xs.take j).map leafL).map sv8')∧j=l1∧l1≤c1∧Off (λx=>x<w1.heap.size) q1∧mm=some m∧MapP w' T.merkle_span m 0 (λ_ _=>False)∧w1.heap.size≤w'.heap.size,⟨_,0,rfl,by omega,rfl,.nil _ _ _,rfl,Nat.le_refl _,.none _,rfl,hm1,Nat.le_refl _⟩,?_⟩
 rintro i q1 l1 c1 mm D k w2 ⟨j,rfl,hj,rfl,ho,rfl,hlc,hof,rfl,hmp,hsz⟩ hF2
 refine ⟨λhlt=>?_,λhge=>?_⟩
 ·have hj':j<xs.length:=by omega
  refine (hs.grow hF2.gr).rd (v:=sv8' xs[j]) (by simp) (by omega) (by simp [hj']) λa ha=>⟨_,ha,λw3 hF3=>?_⟩
  have g3:Grow w2 w3:=hF3.grow
  refine ⟨λx=>x.cell? ⟨b,0,none⟩=some (.slice q1 j c1),hF3.ld 0 0 rfl rfl rfl,Dr_some.2 ⟨_,_,_,λw4 h=>h,?_⟩⟩
  refine Leaf_spec (hx _ (List.getElem_mem hj')) λw5 g5=>⟨_,rfl,hF3.after g5,(hF3.after g5).ld 0 0 rfl rfl rfl,λb7 hb7 w6 hF6=>⟨hF6.ld 0 0 rfl rfl rfl,?_⟩⟩
  have g6:Grow w5 w6:=hF6.grow
  have s3:=g3.size
  have s5:=g5.size
  have s6:=g6.size
  refine app_sv8 (((ho.grow g3).grow g5).grow g6) (by simp;omega) hlc (ys:=[leafL xs[j]]) (hF6.sl 1 rfl) rfl (by omega) λq2 c2 w7 ho7 hc7 g7 hq7=>?_
  have hF7:=hF6.app2 g7 w1.heap.size w2.heap.size hof (λa ha=>ho.lt a ha) (λy hy=>by
   rcases List.mem_cons.1 hy with rfl | hy
   ·exact .inl hbl
   ·simp at hy;subst hy;exact .inr (by simp only [];omega)) hF1.chg.size
  refine ⟨_,_,_,rfl,hF7,hF7.ld 0 0 rfl rfl rfl,λw8 hF8=>?_⟩
  have g8:Chg (· = b) w7 w8:=hF8.stp.mono λx _ hx=>by simpa using hx
  have hof':Off (λx=>x<w1.heap.size) q2:=hof.next hq7 (by omega)
  refine ⟨xs.length - (j+1),by omega,j+1,wr1 (by omega),by omega,rfl,?_,rfl,hc7,hof',rfl,?_,by have:=g7.size;have:=g8.size;omega⟩
  ·rw [take_next hj',List.map_append]
   exact ho7.keep g8 λa ha e=>by have:=hof'.le a ha;have e':a.block=b:=e;omega
  ·exact ((((hmp.grow g3).grow g5).grow g6).keep g7 (λ⟨a,ha,e⟩=>by have:=hof.le a ha;have:=hF1.grow.size;omega)).keep g8 (λe=>by omega)
 ·have e:j=xs.length:=by omega
  subst e
  rw [List.take_length] at ho
  have hlen:(xs.map leafL).length=xs.length:=List.length_map _
  have hT:TreeAt w2 b q1 c1 m (xs.map leafL) (λ_ _=>False):=⟨by rw [hlen];exact hF2.blk 0 rfl,ho.sl,⟨0,hmp⟩,λkey v h=>h.elim⟩
  have hmb:m≠b:=by omega
  have hqo:Off (λj=>j<w.heap.size) q1:=hof.mono hF1.chg.size
  refine ⟨λh0=>?_,λh0=>?_⟩
  ·have h0':1≤xs.length:=by omega
   refine fill_spec hlv (by rw [hlen];exact hn) xs.length 0 h0' (by rw [hlen];omega) hT λw9 R9 hT9 hR9 hin9 ha9 g9=>?_
   have hF9:Fs S0 w [⟨b,#[.slice q1 xs.length c1,.map (some m)],T.merkle_Tree,true⟩] w9:=hF2.step g9 (λx hx=>by simp at hx;subst hx;exact hmb.symm) λj hj e=>by have e':j=m:=e;omega
   exact ⟨_,rfl,_,_,_,_,hF9,hK w9 b q1 c1 m R9 hF9.chg hT9 (λ_=>hin9) (λ_=>ha9) (by have:=g0.size;omega) (by omega) hqo⟩
  ·have hxs:xs=[]:=List.eq_nil_of_length_eq_zero (by omega)
   exact hK w2 b q1 c1 m _ hF2.gr hT (λh=>absurd hxs h) (λh=>absurd hxs h) (by have:=g0.size;omega) (by omega) hqo
theorem zero_str:∀w:World,(zeroValue T.string).run PR w=.ok (.string ⟨#[]⟩) w:=λw=>by
 obtain ⟨i,hi,_,_,hz⟩:=t_str
 simp [zeroValue,typeInfo,hi,hz]
theorem TreeRoot_spec {xs:List (List UInt8)} (hn:xs.length≤100000) {w:World} {b:Nat} {q:Option Addr} {c m:Nat} {R:Value→Value→Prop} (hT:TreeAt w b q c m (xs.map leafL) R)
  (hR:xs≠[]→R (.agg #[.int .i64 0,.int .i64 xs.length]) (.string (str (spanL nodeL (xs.map leafL) xs.length 0 xs.length)))) {K:Value→World→Prop} (hK:∀w',Grow w w'→K (.string (str (rootL Hs xs))) w') :
  CallV PR F.p_merkle_Tree_Root ⟨[.pointer (some ⟨b,0,none⟩)]⟩ w K:=by
 obtain ⟨h1,h2,⟨n,h3⟩,h4⟩:=hT
 rw [List.length_map] at h1
 refine merkle_Tree_Root b q xs.length c (some m) (· = b) K w ((Fr.init _ w).entry h1 (λx h=>by cases h) λ_=>rfl) ⟨rfl,trivial⟩ ⟨λh0 b0 hb0 w0 hF0=>?_,λh0 w2 hF2=>?_⟩
 ·have hxs:xs=[]:=List.eq_nil_of_length_eq_zero (by omega)
  refine ShaSum_spec (xs:=[[2]]) (hF0.sl 1 rfl) rfl (by omega) (by simp) λw1 g1=>⟨_,rfl,hF0.after g1,?_⟩
  have e:rootL Hs xs=Hs ([[2]]:List (List UInt8)).flatten:=by unfold rootL;rw [if_pos hxs];rfl
  rw [← e];exact hK w1 (hF0.grow.trans g1)
 ·have hxs:xs≠[]:=λe=>h0 (by rw [e];rfl)
  have g2:Grow w w2:=hF2.grow
  obtain ⟨kl,hkl⟩:=key_span (a:=0) (k:=xs.length) ⟨by omega,by omega⟩ ⟨by omega,by omega⟩
  have e:rootL Hs xs=spanL nodeL (xs.map leafL) xs.length 0 xs.length:=by unfold rootL;rw [if_neg hxs];rfl
  refine lookup_rn keyedS u_map (h3.grow g2) hkl false zero_str (λv hv=>?_) λhno=>absurd (hR hxs) (hno _)
  have:=h3.inj hv (hR hxs)
  subst this
  refine ⟨_,rfl,hF2.reset,?_⟩
  rw [← e];exact hK w2 g2
theorem Root_spec {q:Option Addr} {n c:Nat} {xs:List (List UInt8)} {w:World} (hs:Sl w q (xs.map sv8')) (hl:n=xs.length) (hn:n≤100000) (hx:∀x∈xs,x.length≤1000000) {K:Value→World→Prop}
  (hK:∀w',Grow w w'→K (.string (str (rootL Hs xs))) w'):CallV PR F.merkle_Root ⟨[.slice q n c]⟩ w K:=by
 refine merkle_Root' q n c S0 K w ?_
 refine Tree_new hs hl hn hx λw1 b q1 c1 m R g1 hT hR _ hb hm hq=>⟨_,rfl,(Fr.init _ w).after g1,?_⟩
 refine TreeRoot_spec (by omega) hT hR λw2 g2=>⟨_,rfl,(Fr.init _ w).after (g1.trans g2),hK w2 (g1.trans g2)⟩
end Go.Vc
namespace Go.Vc
open Go
theorem gapL_len2 {nodes v:Int} {l:List Int} (hn:nodes≤4096) (hv:0≤v) (hv':v<nodes) (h:okRow nodes l):(gapL v l).length≤8+8*l.length:=by
 have h1:=okRow_len h
 have h2:=cat_len (gapP v l) 8 l.length λi hi=>gapP_len hn hv hv' h hi
 have h3:=putShort_le8 (n:=l.length) (by omega)
 simp only [gapL,List.length_append];omega
theorem rowOf_len {nodes:Nat} {B Tg:List Int} (hL:CsrL nodes B Tg) {v:Nat} (hv:v<nodes):((rowOf B Tg v).length:Int)=B.getD (v+1) 0 - B.getD v 0:=by
 have n1:=hL.nn v (by omega)
 have n2:=hL.nn (v+1) (by omega)
 have n3:=hL.mono v hv
 unfold rowOf;rw [List.length_take,List.length_drop];omega
theorem rows_len2 {nodes first:Nat} {B Tg:List Int} (hL:CsrL nodes B Tg) (hn:nodes≤4096):∀k,first+k≤nodes→((rowsB first (λj=>rowOf B Tg (first+j)) k).length:Int)≤8*k+8*(B.getD (first+k) 0 - B.getD first 0)
 | 0,_=>by simp [rowsB,cat]
 | k+1,h=>by
  have ih:=rows_len2 hL hn (first:=first) k (by omega)
  have e:rowsB first (λj=>rowOf B Tg (first+j)) (k+1)=rowsB first (λj=>rowOf B Tg (first+j)) k++gapL ((first:Int)+k) (rowOf B Tg (first+k)):=rfl
  have hg:=gapL_len2 (nodes:=nodes) (v:=(first:Int)+k) (by omega) (by omega) (by omega) (hL.row (first+k) (by omega))
  have hr:=rowOf_len hL (v:=first+k) (by omega)
  rw [e,List.length_append]
  rw [show first+(k+1)=first+k+1 by omega]
  omega
theorem part_len {nodes each i:Nat} {B Tg:List Int} (hL:CsrL nodes B Tg) (hn:nodes≤4096) (he:1≤each) (hi:i*each<nodes) :
  ((partL B Tg each nodes i).length:Int)≤23+9*(manyOf each nodes i:Nat)+8*(B.getD (i*each+manyOf each nodes i) 0 - B.getD (i*each) 0)∧4≤(partL B Tg each nodes i).length:=by
 have hmo:i*each+manyOf each nodes i≤nodes:=by unfold manyOf;omega
 have hm1:1≤manyOf each nodes i:=by unfold manyOf;omega
 have a1:=putShort_le8 (n:=i*each) (by omega)
 have a2:=putShort_le8 (n:=manyOf each nodes i) (by omega)
 have b1:=putShort_pos (i*each)
 have b2:=putShort_pos (manyOf each nodes i)
 have hR:∀j,j<manyOf each nodes i→okRow (nodes:Int) ((λj=>rowOf B Tg (i*each+j)) j):=λj hj=>hL.row _ (by omega)
 have a3:=cat_len (λj=>putShort (rowsB (i*each:Nat) (λj=>rowOf B Tg (i*each+j)) (j*8)).length) 8 (marksN (manyOf each nodes i)) λj hj=>putShort_le8 (by
  have:=rowsB_len (nodes:=nodes) (first:=(i*each:Nat)) (many:=manyOf each nodes i) (k:=j*8) (by omega) (by omega) (by omega) hR (by unfold marksN at hj;omega);omega)
 have a4:=rows_len2 hL hn (first:=i*each) (manyOf each nodes i) hmo
 have b3:1≤(indexB (i*each:Nat) (λj=>rowOf B Tg (i*each+j)) (marksN (manyOf each nodes i))).length:=by
  have hm:0<marksN (manyOf each nodes i):=by unfold marksN;omega
  obtain ⟨r,hr⟩:=cat_split (λj=>putShort (rowsB (i*each:Nat) (λj=>rowOf B Tg (i*each+j)) (j*8)).length) hm
  have:=putShort_pos (rowsB (i*each:Nat) (λj=>rowOf B Tg (i*each+j)) (0*8)).length
  unfold indexB;rw [hr];simp only [List.length_append];omega
 have b4:1≤(rowsB (i*each:Nat) (λj=>rowOf B Tg (i*each+j)) (manyOf each nodes i)).length:=by
  obtain ⟨r,hr⟩:=cat_split (λj=>gapL (((i*each:Nat):Int)+j) (rowOf B Tg (i*each+j))) hm1
  have:=gapL_pos (((i*each:Nat):Int)+(0:Nat)) (rowOf B Tg (i*each+0))
  unfold rowsB;rw [hr];simp only [List.length_append];omega
 have hmk:8*marksN (manyOf each nodes i)≤manyOf each nodes i+7:=by unfold marksN;omega
 unfold indexB at b3
 simp only [partL,shardL,List.length_append,Int.toNat_natCast,indexB]
 refine ⟨?_,?_⟩ <;> omega
theorem parts_len {nodes each:Nat} {B Tg:List Int} (hL:CsrL nodes B Tg) (hn:nodes≤4096) (he:1≤each):∀k,(∀i,i<k→i*each<nodes)→((partsL B Tg each nodes k).flatten.length:Int)≤23*k+9*(min (k*each) nodes:Nat)+8*B.getD (min (k*each) nodes) 0 - 8*B.getD 0 0
 | 0,_=>by simp [partsL]
 | k+1,h=>by
  have ih:=parts_len hL hn he k λi hi=>h i (by omega)
  have hk:=h k (by omega)
  have hp:=(part_len hL hn he hk).1
  have hm:min (k*each) nodes=k*each:=by omega
  have hm2:min ((k+1)*each) nodes=k*each+manyOf each nodes k:=by rw [Nat.succ_mul];unfold manyOf;omega
  rw [partsL_succ,List.flatten_append,List.length_append,hm2]
  rw [hm] at ih
  simp only [List.flatten_cons,List.flatten_nil,List.append_nil]
  omega
theorem parts_total {nodes each k:Nat} {B Tg:List Int} (hL:CsrL nodes B Tg) (hn:nodes≤4096) (he:1≤each) (hcov:∀i,i<k→i*each<nodes):(partsL B Tg each nodes k).flatten.length≤23*k+9*nodes+8*Tg.length:=by
 have h:=parts_len hL hn he k hcov
 have n1:=hL.nn (min (k*each) nodes) (by omega)
 have n2:=hL.nn 0 (by omega)
 omega
theorem part_le {nodes each k i:Nat} {B Tg:List Int} (hL:CsrL nodes B Tg) (hn:nodes≤4096) (he:1≤each) (hi:i*each<nodes):(partL B Tg each nodes i).length≤23+9*nodes+8*Tg.length:=by
 have h:=(part_len hL hn he hi).1
 have hmo:i*each+manyOf each nodes i≤nodes:=by unfold manyOf;omega
 have n1:=hL.nn (i*each+manyOf each nodes i) hmo
 have n2:=hL.nn (i*each) (by omega)
 omega
theorem table_sum (B Tg:List Int) (each nodes:Nat):∀k,((tableL B Tg each nodes k).map (·.2)).sum=((partsL B Tg each nodes k).flatten.length:Int)
 | 0=>by simp [tableL,partsL]
 | k+1=>by
  rw [tableL_succ,partsL_succ,List.map_append,List.sum_append,table_sum B Tg each nodes k,List.flatten_append,List.length_append]
  simp
theorem table_ok {nodes each:Nat} {B Tg:List Int} (hL:CsrL nodes B Tg) (hn:nodes≤4096) (he:1≤each) (hT:Tg.length≤100000):∀(n k:Nat),(∀i,i<k+n→i*each<nodes)→
  tabOk nodes (if k=0 then none else some (((k - 1)*each:Nat):Int)) ((List.range n).map λi=>((((k+i)*each:Nat):Int),((partL B Tg each nodes (k+i)).length:Int)))
 | 0,k,_=>by simp [tabOk]
 | n+1,k,h=>by
  have hk:=h k (by omega)
  have hb:=part_le (k:=k) hL hn he hk
  have hb2:=(part_len hL hn he hk).2
  have ih:=table_ok hL hn he hT n (k+1) λi hi=>h i (by omega)
  rw [if_neg (by omega),Nat.add_sub_cancel] at ih
  have e:(List.range (n+1)).map (λi=>((((k+i)*each:Nat):Int),((partL B Tg each nodes (k+i)).length:Int)))=(((k*each:Nat):Int),((partL B Tg each nodes k).length:Int)) :: (List.range n).map (λi=>((((k+1+i)*each:Nat):Int),((partL B Tg each nodes (k+1+i)).length:Int))):=by
   rw [List.range_succ_eq_map,List.map_cons,List.map_map]
   simp only [Nat.add_zero,List.cons.injEq,true_and]
   apply List.map_congr_left
   intro i _
   simp only [Function.comp,show k+i.succ=k+1+i by omega]
  rw [e]
  by_cases h0:k=0
  ·subst h0
   rw [if_pos rfl]
   exact ⟨by simp,by omega,by omega,ih⟩
  ·rw [if_neg h0]
   have hm:k*each=(k - 1)*each+each:=by
    obtain ⟨j,rfl⟩:∃j,k=j+1:=⟨k - 1,by omega⟩
    rw [Nat.add_sub_cancel,Nat.succ_mul]
   exact ⟨by omega,by omega,by omega,by omega,ih⟩
end Go.Vc
namespace Go.Vc
open Go
def verC (m:Man) (q:Option Addr) (c:Nat) (list:List (List UInt8)) (ql:Option Addr) (cl:Nat):Array Value:=
 #[.int .i64 m.version,.int .i64 m.nodes,.int .i64 m.edges,.slice q m.shards.length c,.int .i64 m.blocks,.string (str m.root),.slice ql list.length cl]
structure VerL (m:Man) (list:List (List UInt8)):Prop where
 ok:m.ok
 blocks:m.blocks=list.length
 root:m.root=rootL Hs list
 small:∀x∈list,x.length≤64
 cut:cutL list.flatten=list
def VerAt (w:World) (b:Nat) (m:Man) (list:List (List UInt8)):Prop:=
 ∃q c ql cl,w.heap[b]? = some (.cells (verC m q c list ql cl) T.manifest_Version (0,0))∧Sl w q (encE m.shards)∧Sl w ql (list.map sv8')∧list.length≤cl
theorem VerAt.grow {w w':World} {b:Nat} {m:Man} {list:List (List UInt8)} (h:VerAt w b m list) (g:Grow w w'):VerAt w' b m list:=by
 obtain ⟨q,c,ql,cl,h1,h2,h3,h4⟩:=h
 exact ⟨q,c,ql,cl,Grow.get g h1,h2.grow g,h3.grow g,h4⟩
def SlO (D:Nat→Prop) (w:World) (q:Option Addr) (xs:List Value):Prop:=xs=[]∨∃b o,q=some ⟨b,o,none⟩∧RowAt w b o xs∧¬D b
theorem SlO.sl {D:Nat→Prop} {w:World} {q:Option Addr} {xs:List Value} (h:SlO D w q xs):Sl w q xs:=h.elim .inl λ⟨b,o,h1,h2,_⟩=>.inr ⟨b,o,h1,h2⟩
theorem Sl.out {D:Nat→Prop} {w:World} {q:Option Addr} {xs:List Value} (h:Sl w q xs) (hD:Off D q):SlO D w q xs:=h.elim .inl λ⟨b,o,h1,h2⟩=>.inr ⟨b,o,h1,h2,hD _ h1⟩
theorem SlO.keep {D D' S:Nat→Prop} {w w':World} {q:Option Addr} {xs:List Value} (h:SlO D w q xs) (g:Chg S w w') (hS:∀k,k<w.heap.size→S k→D k) (hD:∀k,k<w.heap.size→D' k→D k):SlO D' w' q xs:=by
 rcases h with h | ⟨b,o,h1,h2,h3⟩
 ·exact .inl h
 ·exact .inr ⟨b,o,h1,h2.keep g (λe=>h3 (hS b h2.lt e)),λe=>h3 (hD b h2.lt e)⟩
def VerO (D:Nat→Prop) (w:World) (b:Nat) (m:Man) (list:List (List UInt8)):Prop:=
 ∃q c ql cl,w.heap[b]? = some (.cells (verC m q c list ql cl) T.manifest_Version (0,0))∧¬D b∧SlO D w q (encE m.shards)∧SlO D w ql (list.map sv8')∧list.length≤cl
theorem VerO.at {D:Nat→Prop} {w:World} {b:Nat} {m:Man} {list:List (List UInt8)} (h:VerO D w b m list):VerAt w b m list:=by
 obtain ⟨q,c,ql,cl,h1,_,h2,h3,h4⟩:=h
 exact ⟨q,c,ql,cl,h1,h2.sl,h3.sl,h4⟩
theorem VerO.keep {D D' S:Nat→Prop} {w w':World} {b:Nat} {m:Man} {list:List (List UInt8)} (h:VerO D w b m list) (g:Chg S w w') (hS:∀k,k<w.heap.size→S k→D k) (hD:∀k,k<w.heap.size→D' k→D k):VerO D' w' b m list:=by
 obtain ⟨q,c,ql,cl,h1,h0,h2,h3,h4⟩:=h
 have hl:=heap_lt h1
 exact ⟨q,c,ql,cl,g.get h1 (λe=>h0 (hS b hl e)),λe=>h0 (hD b hl e),h2.keep g hS hD,h3.keep g hS hD,h4⟩
theorem cutL_small (l:List UInt8):∀x∈cutL l,x.length≤64:=by
 intro x hx
 obtain ⟨i,_,rfl⟩:=List.mem_map.1 hx
 rw [List.length_take];omega
def roomy (nodes:Int) (each:Nat) (l:List (Int × Int)):Prop:=goodG nodes l∧nodes≤64*each∧1472+9*nodes+8*l.length≤131072
noncomputable def manOf (version:Int) (nn:Nat) (N:List (Int × Int)) (each k:Nat):Man × List (List UInt8):=
 (⟨version,nn,N.length,tableL (begL nn N) (N.map (·.2)) each nn k,(cutL (partsL (begL nn N) (N.map (·.2)) each nn k).flatten).length,rootL Hs (cutL (partsL (begL nn N) (N.map (·.2)) each nn k).flatten)⟩,cutL (partsL (begL nn N) (N.map (·.2)) each nn k).flatten)
def MakeR (version nodes:Int) (each:Nat) (l:List (Int × Int)) (m:Man) (list:List (List UInt8)):Prop:=
 ∃(nn:Nat) (N:List (Int × Int)) (k:Nat),nodes=nn∧NormOf nodes l N∧nn≤k*each∧(∀i,i<k→i*each<nn)∧(m,list)=manOf version nn N each k
theorem sorted_uniq:∀ {N N':List (Int × Int)},N.Pairwise ltE→N'.Pairwise ltE→(∀x,x∈N↔x∈N')→N=N'
 | [],[],_,_,_=>rfl
 | [],b :: N',_,_,h=>absurd ((h b).2 List.mem_cons_self) (by simp)
 | a :: N,[],_,_,h=>absurd ((h a).1 List.mem_cons_self) (by simp)
 | a :: N,b :: N',h1,h2,h=>by
  rw [List.pairwise_cons] at h1 h2
  have e:a=b:=by
   rcases List.mem_cons.1 ((h a).1 List.mem_cons_self) with e | e
   ·exact e
   ·rcases List.mem_cons.1 ((h b).2 List.mem_cons_self) with e' | e'
    ·exact e'.symm
    ·have x1:=h1.1 b e'
     have x2:=h2.1 a e
     unfold ltE at x1 x2
     omega
  subst e
  congr 1
  refine sorted_uniq h1.2 h2.2 λx=>⟨λhx=>?_,λhx=>?_⟩
  ·rcases List.mem_cons.1 ((h x).1 (List.mem_cons_of_mem _ hx)) with e | e
   ·subst e;have:=h1.1 x hx;unfold ltE at this;omega
   ·exact e
  ·rcases List.mem_cons.1 ((h x).2 (List.mem_cons_of_mem _ hx)) with e | e
   ·subst e;have:=h2.1 x hx;unfold ltE at this;omega
   ·exact e
theorem MakeR.uniq {version nodes:Int} {each:Nat} (he:1≤each) {l:List (Int × Int)} {m m':Man} {list list':List (List UInt8)} (h:MakeR version nodes each l m list) (h':MakeR version nodes each l m' list'):m=m'∧list=list':=by
 obtain ⟨nn,N,k,e1,hN,hk1,hk2,e2⟩:=h
 obtain ⟨nn',N',k',e1',hN',hk1',hk2',e2'⟩:=h'
 have:nn=nn':=by omega
 subst this
 have:=sorted_uniq hN.lt hN'.lt λx=>(hN.mem x).trans (hN'.mem x).symm
 subst this
 have ek:k=k':=by
  rcases Nat.lt_trichotomy k k' with h | h | h
  ·have:=hk2' k h;omega
  ·exact h
  ·have:=hk2 k' h;omega
 subst ek
 rw [← e2'] at e2
 exact ⟨(Prod.mk.inj e2).1,(Prod.mk.inj e2).2⟩
def MakeE (nodes:Int) (each:Nat) (l:List (Int × Int)) (c:Int):Prop:=
 (c=10∧¬goodG nodes l)∨(c=6∧goodG nodes l∧64*(each:Int)<nodes)∨(c=7∧goodG nodes l∧nodes≤64*(each:Int)∧∀version m list,MakeR version nodes each l m list→2048<list.length)
theorem Make_full {version nodes:Int} {each:Nat} (he:1≤each) (he2:each≤4096) {l:List (Int × Int)} {q:Option Addr} {n c:Nat} {w:World} (hs:Sl w q (encE l)) (hl:n=l.length) (hn:n≤100000) {K:Value→World→Prop}
  (h1:∀w' b m list,Grow w w'→w.heap.size≤b→VerO (λj=>j<w.heap.size) w' b m list→VerL m list→m.version=version→(list.flatten.length:Int)≤1472+9*nodes+8*l.length→goodG nodes l→nodes≤64*(each:Int)→MakeR version nodes each l m list→list.length≤2048→K (.tuple #[.pointer (some ⟨b,0,none⟩),.nilIface]) w')
  (hv:1≤version∧version≤1099511627776) (h2:∀w' v c,Grow w w'→isEC c v→MakeE nodes each l c→¬roomy nodes each l→K (.tuple #[.pointer none,v]) w') :
  CallV PR F.manifest_Make ⟨[.int .i64 version,.int .i64 nodes,.int .i64 each,.slice q n c]⟩ w K:=by
 have hfr:∀ {w':World},Grow w w'→Fs S0 w [] w':=λg=>(Fr.init _ w).after g
 refine manifest_Make' version nodes each q n c S0 K w ⟨λh=>by omega,λhv1=>⟨λh=>by omega,λhv2=>?_⟩⟩
 refine Build_spec hs hl hn (λhg w1 b N g1 hN hc hL=>⟨_,_,rfl,hfr g1,λ_=>?_,(λt x h=>by cases h),.inl rfl⟩) λhg w1 v g1 hv=>⟨_,_,rfl,hfr g1,(λh=>by obtain ⟨t,x,rfl⟩:=hv.err;cases h),λt x h=>h2 w1 v 10 g1 hv (.inl ⟨rfl,hg⟩) (λhh=>hg hh.1),.inr (by obtain ⟨t,x,h⟩:=hv.err;exact ⟨t,x,h⟩)⟩
 obtain ⟨nn,rfl⟩:=Int.eq_ofNat_of_zero_le hg.1
 have hnn:=hg.2.1
 rw [Int.toNat_natCast] at hc hL
 have hNl:=hN.len
 have hll:=hg.2.2.1
 have hTl:(N.map (·.2)).length=N.length:=List.length_map _
 refine Split_spec hc hL (by omega) he he2 (λw2 q2 c2 k g2 hk1 hcov hk64 hs2 hkc=>⟨_,_,_,_,rfl,hfr (g1.trans g2),λ_=>?_,(λt x h=>by cases h),.inl rfl⟩) λhbig=>⟨_,_,_,_,rfl,hfr g1,(λh=>by cases h),λt x h=>h2 w1 _ 6 g1 (.inl rfl) (.inr (.inl ⟨rfl,hg,by omega⟩)) (λhh=>by have:=hh.2.1;omega),.inr ⟨_,_,rfl⟩⟩
 have h64:(nn:Int)≤64*(each:Int):=by
  have:k*each≤64*each:=Nat.mul_le_mul_right _ hk64
  omega
 have hmk:MakeR version nn each l (manOf version nn N each k).1 (manOf version nn N each k).2:=⟨nn,N,k,rfl,hN,hk1,hcov,rfl⟩
 have hmk2:(manOf version nn N each k).2=cutL (partsL (begL nn N) (N.map (·.2)) each nn k).flatten:=rfl
 have htot:=parts_total (k:=k) hL (by omega) he hcov
 rw [hTl] at htot
 generalize hpd:partsL (begL nn N) (N.map (·.2)) each nn k=parts at hs2 htot hmk2
 have hpl:parts.length=k:=by rw [← hpd,partsL_len]
 have g12:=g1.trans g2
 refine Cut_spec hs2 hpl.symm hkc (by omega) (by omega) λw3 q3 c3 g3 ho3 hc3 hof3=>⟨_,_,_,rfl,hfr (g12.trans g3),?_⟩
 have g13:=g12.trans g3
 have hcl:=cut_len parts.flatten
 refine ⟨λh=>h2 w3 _ 7 g13 (.inl rfl) (.inr (.inr ⟨rfl,hg,h64,λv' m' list' hm'=>?_⟩)) (λhh=>?_),λhbl=>?_⟩
 ·have hm2:MakeR v' nn each l (manOf v' nn N each k).1 (manOf v' nn N each k).2:=⟨nn,N,k,rfl,hN,hk1,hcov,rfl⟩
  rw [(hm'.uniq he hm2).2]
  show 2048<(cutL (partsL (begL nn N) (N.map (·.2)) each nn k).flatten).length
  rw [hpd];omega
 ·have:=hh.2.2
  unfold countN at hcl
  omega
 ·have hs2':Sl w3 q2 ((partsL (begL nn N) (N.map (·.2)) each nn k).map sv8'):=by rw [hpd];exact hs2.grow g3
  refine Table_spec hL (by omega) he hk64 hcov hs2' λw4 q4 c4 g4 ho4 hc4 hof4=>⟨_,_,_,_,rfl,hfr (g13.trans g4),λ_=>?_,(λt x h=>by cases h),.inl rfl⟩
  have g14:=g13.trans g4
  refine Edges_spec (hc.grow ((g2.trans g3).trans g4)) ⟨_,rfl,hfr g14,?_⟩
  refine Root_spec (ho3.sl.grow g4) rfl (by omega) (λx hx=>by have:=cutL_small _ x hx;omega) λw5 g5=>⟨_,rfl,hfr (g14.trans g5),λb6 hb6 b7 hb7 w6 hF6=>?_⟩
  have g15:=g14.trans g5
  have hT7:=hF6.blk 0 rfl
  have g56:Chg (· = b6) w5 w6:=hF6.stp.mono λi _ hi=>by simpa using hi
  let m:Man:=⟨version,nn,N.length,tableL (begL nn N) (N.map (·.2)) each nn k,(cutL parts.flatten).length,rootL Hs (cutL parts.flatten)⟩
  have htl:m.shards.length=k:=tableL_len _ _ _ _ _
  have hmok:m.ok:=by
   have htab:=table_ok hL (by omega) he (by rw [hTl];omega) k 0 (λi hi=>hcov i (by omega))
   simp only [Nat.zero_add,if_true] at htab
   refine ⟨⟨by show 1≤version;omega,by show version≤_;omega⟩,⟨by show (0:Int)≤nn;omega,hnn⟩,⟨by show (0:Int)≤N.length;omega,by show ((N.length:Nat):Int)≤20000;omega⟩,⟨by omega,?_⟩,htab,⟨?_,by show (((cutL parts.flatten).length:Nat):Int)≤2048;omega⟩,rootL_len Hs_len _⟩
   ·constructor
    ·intro h
     have hk0:k=0:=by have:=congrArg List.length h;rw [htl] at this;simpa using this
     subst hk0
     show (nn:Int)=0
     omega
    ·intro h
     have hk0:k=0:=by
      have h':(nn:Int)=0:=h
      rcases Nat.eq_zero_or_pos k with e | e
      ·exact e
      ·have:=hcov 0 e;omega
     subst hk0
     rfl
   ·show (((cutL parts.flatten).length:Nat):Int)=countB ((tableL (begL nn N) (N.map (·.2)) each nn k).map (·.2)).sum
    rw [table_sum,hpd,countB_nat,hcl]
  have s5:=g5.size
  have s4:=g4.size
  have s13:=g13.size
  have s12:=g12.size
  have s15:=g15.size
  refine h1 w6 b7 m (cutL parts.flatten) (hF6.chg) (by omega) ⟨q4,c4,q3,c3,?_,by omega,(?_:Sl w6 q4 _).out (hof4.mono (by omega)),(?_:Sl w6 q3 _).out (hof3.mono (by omega)),hc3⟩ ⟨hmok,rfl,rfl,cutL_small _,by rw [cut_join]⟩ rfl (by rw [cut_join];omega) hg h64 ?_ (by omega)
  ·rw [verC,htl]
   show w6.heap[b7]? = some (.cells #[.int .i64 version,.int .i64 nn,.int .i64 N.length,.slice q4 k c4,.int .i64 (cutL parts.flatten).length,.string (str (rootL Hs (cutL parts.flatten))),.slice q3 (cutL parts.flatten).length c3] T.manifest_Version (0,0))
   simp only [hTl] at hT7
   exact hT7
  ·exact (ho4.sl.grow g5).keep g56 λa ha e=>by have:=ho4.lt a ha;have e':a.block=b6:=e;omega
  ·exact ((ho3.sl.grow g4).grow g5).keep g56 λa ha e=>by have:=ho3.lt a ha;have e':a.block=b6:=e;omega
  ·exact ⟨nn,N,k,rfl,hN,hk1,hcov,by subst hpd;rfl⟩
end Go.Vc
namespace Go.Vc
open Go
def recV (mn:Man) (list:List (List UInt8)):List UInt8:=[86]++putTextL [putMan mn]++list.flatten
def recC (n:Nat):List UInt8:=[67]++putShort n
inductive RecO where
 | ver (mn:Man) (list:List (List UInt8))
 | com (n:Nat)
def RecO.bytes:RecO→List UInt8
 | .ver mn list=>recV mn list
 | .com n=>recC n
structure PSt where
 last:Nat
 com:Nat
 man:Nat→Man
def RecO.step (s:PSt):RecO→PSt
 | .ver mn _=>⟨s.last+1,s.com,λi=>if i=s.last+1 then mn else s.man i⟩
 | .com n=>⟨s.last,n,s.man⟩
def RecO.ok (s:PSt):RecO→Prop
 | .ver mn list=>VerL mn list∧mn.version=((s.last+1:Nat):Int)
 | .com n=>s.com<n∧n≤s.last∧s.last<n+3
def okR:PSt→List RecO→Prop
 | _,[]=>True
 | s,r :: rs=>r.ok s∧okR (r.step s) rs
def runR:PSt→List RecO→PSt
 | s,[]=>s
 | s,r :: rs=>runR (r.step s) rs
theorem okR_snoc (r:RecO):∀(rs:List RecO) (s:PSt),okR s (rs++[r])↔okR s rs∧r.ok (runR s rs)
 | [],s=>by simp [okR,runR]
 | a :: rs,s=>by
  have:=okR_snoc r rs (a.step s)
  simp only [List.cons_append,okR,runR,this,and_assoc]
theorem runR_snoc (r:RecO):∀(rs:List RecO) (s:PSt),runR s (rs++[r])=r.step (runR s rs)
 | [],s=>rfl
 | a :: rs,s=>runR_snoc r rs (a.step s)
def PSt.zero:PSt:=⟨0,0,λ_=>⟨0,0,0,[],0,[]⟩⟩
def Rep (recs:List (List UInt8)) (last com:Nat) (man:Nat→Man):Prop:=
 (∀s∈recs,s.length≤60000)∧∃rs,recs=rs.map RecO.bytes∧okR .zero rs∧runR .zero rs=⟨last,com,man⟩
theorem Rep.nil:Rep [] 0 0 (λ_=>⟨0,0,0,[],0,[]⟩):=⟨(λs h=>by cases h),[],rfl,trivial,rfl⟩
theorem Rep.snoc {recs:List (List UInt8)} {last com:Nat} {man:Nat→Man} (h:Rep recs last com man) (r:RecO) (hr:r.ok ⟨last,com,man⟩) (hl:r.bytes.length≤60000) {s':PSt} (hs:r.step ⟨last,com,man⟩=s'):Rep (recs++[r.bytes]) s'.last s'.com s'.man:=by
 obtain ⟨h0,rs,h1,h2,h3⟩:=h
 refine ⟨λs hs=>?_,rs++[r],by rw [h1,List.map_append];rfl,(okR_snoc r rs _).2 ⟨h2,by rw [h3];exact hr⟩,by rw [runR_snoc,h3,hs]⟩
 rcases List.mem_append.1 hs with hs | hs
 ·exact h0 s hs
 ·rw [List.mem_singleton.1 hs];exact hl
end Go.Vc
namespace Go.Vc
open Go Go.MapKept
theorem cellsNe {w:World} {a b:Nat} {cs ds:Array Value} {T U:TypeId} {f g:Nat × Nat} (h1:w.heap[a]? = some (.cells cs T f)) (h2:w.heap[b]? = some (.cells ds U g)) (h:T≠U):a≠b:=by
 rintro rfl
 rw [h1] at h2
 cases h2
 exact h rfl
theorem Own.ty {e:TypeId} {k:Nat} {w:World} {q:Option Addr} {c:Nat} {xs:List Value} (h:Own e k w q c xs) {a:Addr} (ha:q=some a):∃cs,w.heap[a.block]? = some (.cells cs e (0,0)):=by
 rcases h with ⟨h,_⟩ | ⟨b,o,cs,h,hb,_⟩
 ·rw [h] at ha;cases ha
 ·rw [h] at ha;cases ha;exact ⟨cs,hb⟩
theorem JrnAt.lt {w:World} {bj bd:Nat} {q:Option Addr} {c:Nat} {recs:List (List UInt8)} (h:JrnAt w bj bd q c recs):∀k,jrnS bj bd q k→k<w.heap.size:=by
 rintro k (rfl | rfl | ⟨a,ha,rfl⟩)
 ·exact heap_lt h.blk
 ·obtain ⟨_,_,_,_,_,_,hh⟩:=h.dsk;exact heap_lt hh
 ·exact h.own.lt a ha
theorem JrnAt.pub {w:World} {bj bd p:Nat} {q:Option Addr} {c:Nat} {recs:List (List UInt8)} {cs:Array Value} {f:Nat × Nat} (h:JrnAt w bj bd q c recs) (hp:w.heap[p]? = some (.cells cs T.pub_Pub f)):¬jrnS bj bd q p:=by
 rintro (rfl | rfl | ⟨a,ha,rfl⟩)
 ·exact cellsNe hp h.blk (by decide) rfl
 ·obtain ⟨_,_,_,_,_,_,hh⟩:=h.dsk;exact cellsNe hp hh (by decide) rfl
 ·obtain ⟨cs,hh⟩:=h.own.ty ha
  exact cellsNe hp hh (by decide) rfl
theorem JrnAt.mapb {w:World} {bj bd m:Nat} {q:Option Addr} {c:Nat} {recs:List (List UInt8)} {k:TypeId} {n:Nat} {R:Value→Value→Prop} (h:JrnAt w bj bd q c recs) (hm:MapP w k m n R):¬jrnS bj bd q m:=by
 rintro (rfl | rfl | ⟨a,ha,rfl⟩)
 ·exact mapNe h.blk hm rfl
 ·obtain ⟨_,_,_,_,_,_,hh⟩:=h.dsk;exact mapNe hh hm rfl
 ·obtain ⟨cs,hh⟩:=h.own.ty ha
  exact mapNe hh hm rfl
theorem Room_in {w:World} {p bj bd m:Nat} {each last com:Int} {q:Option Addr} {c:Nat} {recs:List (List UInt8)} (hb:w.heap[p]? = some (.cells (pubC bj each last com m) T.pub_Pub (0,0))) (hj:JrnAt w bj bd q c recs) (hr:(logL recs).length≤200000) {K:Value→World→Prop} (hK:K (.int .i64 (200000 - (logL recs).length:Nat)) w):CallV PR F.p_pub_Pub_Room ⟨[.pointer (some ⟨p,0,none⟩)]⟩ w K:=by
 refine pub_Pub_Room p (some ⟨bj,0,none⟩) each last com (some m) (· = p) K w ((Fr.init _ w).entry hb (λx h=>by cases h) λ_=>rfl) ⟨rfl,trivial⟩ ?_
 refine JBytes_spec hj ⟨_,rfl,(Fr.init _ w).entry hb (λx h=>by cases h) (λ_=>rfl),?_⟩
 rw [w64 (by omega) (by omega)]
 have e:(200000:Int) - ((logL recs).length:Nat)=((200000 - (logL recs).length:Nat):Int):=by omega
 rw [e];exact hK
def RepE (recs:List (List UInt8)):Prop:=(∃last com man,Rep recs last com man)∧(logL recs).length≤200000
def Burnt (n:Nat) (w:World) (bd:Nat):Prop:=∃recs ws,DskD n w bd (str (logL recs)) ws∧RepE recs∧(ws=[]∨∃r,ws=[str (sealL crcN r)]∧RepE (recs++[r]))
theorem Burnt.keep {S:Nat→Prop} {n:Nat} {w w':World} {b:Nat} (h:Burnt n w b) (g:Chg S w w') (hn:¬S b) (hS:∀k,S k→k<n):Burnt n w' b:=by
 obtain ⟨recs,ws,h,h2⟩:=h;exact ⟨recs,ws,h.keep g hn hS,h2⟩
theorem write_spec {w:World} {p bj bd m:Nat} {each last com:Int} {q:Option Addr} {c:Nat} {recs:List (List UInt8)} {s:List UInt8} (hb:w.heap[p]? = some (.cells (pubC bj each last com m) T.pub_Pub (0,0))) (hj:JrnAt w bj bd q c recs) (hr:(logL recs).length≤200000) (hrl:recs.length≤200000) (hs:s.length≤1000000) {K:Value→World→Prop}
  (h1:s.length≤60000→s.length+6+(logL recs).length≤200000→∀w' q' c',JrnAt w' bj bd q' c' (recs++[s])→(NoF w bd→NoF w' bd)→Chg (jrnS bj bd q) w w'→(∀a,q'=some a→q=some a∨w.heap.size≤a.block)→K .nilIface w')
  (hE:s.length≤60000→s.length+6+(logL recs).length≤200000→∀w' n ws,¬NoF w bd→DskD n w' bd (str (logL recs)) ws→w.heap.size≤n→(ws=[]∨ws=[str (sealL crcN s)])→Chg (jrnS bj bd q) w w'→K (.iface T.api_Errno (.int .i64 8)) w')
  (h2:¬(s.length≤60000∧s.length+6+(logL recs).length≤200000)→K (.iface T.api_Errno (.int .i64 7)) w):CallV PR F.p_pub_Pub_write ⟨[.pointer (some ⟨p,0,none⟩),.string (str s)]⟩ w K:=by
 have hpj:=hj.pub hb
 have hpl:=heap_lt hb
 have h0:Fs (λk=>k=p∨jrnS bj bd q k) w [⟨p,pubC bj each last com m,T.pub_Pub,true⟩] w:=(Fr.init _ w).entry hb (λx h=>by cases h) λ_=>.inl rfl
 refine pub_Pub_write p (some ⟨bj,0,none⟩) each last com (some m) (str s) (λk=>k=p∨jrnS bj bd q k) K w h0 ⟨.inl rfl,trivial⟩ ⟨λh=>h2 (λhh=>?_),λh=>?_⟩
 ·rw [str_size] at h;omega
 ·rw [str_size] at h
  refine Room_in hb hj hr ⟨_,rfl,h0,λh'=>h2 (λhh=>?_),λh' l0 hl0 w1 hF1=>?_⟩
  ·rw [str_size,w64 (by omega) (by omega)] at h';omega
  ·rw [str_size,w64 (by omega) (by omega)] at h'
   have g1:Grow w w1:=hF1.grow
   have hjw:=hj.grow g1
   have hjl:=hj.lt
   refine JWrite_spec (s:=s) (y:=some ⟨l0,0,none⟩) (cy:=1) hjw (.inr ⟨l0,0,rfl,?_⟩) (λa ha e=>by cases ha;have:=hjl _ e;simp only [] at this;omega) (by omega) (by omega) (by omega) (λw2 q' c' hj2 hn2 g2 hq'=>?_) λw2 n ws hn2 hd2 hsn hws g2=>?_
   ·refine ⟨_,_,_,hF1.blk 1 rfl,λi hi=>?_⟩
    have:i=0:=by simpa using hi
    subst this;rfl
   ·refine ⟨_,rfl,_,hF1.step g2 (λx hx=>?_) (λk _ e=>.inr e),h1 (by omega) (by omega) w2 q' c' hj2 (λhn=>hn2 (hn.keep g1 λe=>e)) (g1.then g2) λa ha=>(hq' a ha).imp id λh=>Nat.le_trans g1.size h⟩
    rcases List.mem_cons.1 hx with rfl | hx
    ·exact hpj
    ·simp at hx;subst hx
     exact λe=>by have:=hjl _ e;simp only [] at this;omega
   ·refine ⟨_,rfl,_,hF1.step g2 (λx hx=>?_) (λk _ e=>.inr e),hE (by omega) (by omega) w2 n ws (λh=>hn2 (h.keep g1 λe=>e)) hd2 (Nat.le_trans g1.size hsn) hws (g1.then g2)⟩
    rcases List.mem_cons.1 hx with rfl | hx
    ·exact hpj
    ·simp at hx;subst hx
     exact λe=>by have:=hjl _ e;simp only [] at this;omega
def TreeO (D:Nat→Prop) (w:World) (c:Nat) (list:List (List UInt8)):Prop:=
 ∃q cc m R n,w.heap[c]? = some (.cells #[.slice q list.length cc,.map (some m)] T.merkle_Tree (0,0))∧¬D c∧SlO D w q ((list.map leafL).map sv8')∧MapP w T.merkle_span m n R∧¬D m∧okTree (list.map leafL) R∧(list≠[]→AllIn R 0 list.length)
theorem TreeO.keep {D D' S:Nat→Prop} {w w':World} {c:Nat} {list:List (List UInt8)} (h:TreeO D w c list) (g:Chg S w w') (hS:∀k,k<w.heap.size→S k→D k) (hD:∀k,k<w.heap.size→D' k→D k):TreeO D' w' c list:=by
 obtain ⟨q,cc,m,R,n,h1,h2,h3,h4,h5,h6⟩:=h
 have l1:=heap_lt h1
 have l4:=h4.lt
 exact ⟨q,cc,m,R,n,g.get h1 (λe=>h2 (hS _ l1 e)),λe=>h2 (hD _ l1 e),h3.keep g hS hD,h4.keep g (λe=>h5 (hS _ l4 e)),λe=>h5 (hD _ l4 e),h6⟩
theorem VerTree {D:Nat→Prop} {w:World} {b:Nat} {mn:Man} {list:List (List UInt8)} (hv:VerO D w b mn list) (hL:VerL mn list) {K:Value→World→Prop} (hK:∀w' c,Grow w w'→TreeO (λk=>k<w.heap.size) w' c list→K (.pointer (some ⟨c,0,none⟩)) w'):CallV PR F.p_manifest_Version_Tree ⟨[.pointer (some ⟨b,0,none⟩)]⟩ w K:=by
 obtain ⟨q,c,ql,cl,h1,h0,h2,h3,h4⟩:=hv
 have hf:Fs S0 w [⟨b,verC mn q c list ql cl,T.manifest_Version,false⟩] w:=(Fr.init _ w).entry h1 (λx h=>by cases h) (λh=>by cases h)
 have hbl:=hL.ok.blocks.2
 have hb2:=hL.blocks
 refine manifest_Version_Tree b mn.version mn.nodes mn.edges q mn.shards.length c mn.blocks (str mn.root) ql list.length cl S0 K w hf ?_
 refine Tree_new h3.sl rfl (by omega) (λx hx=>by have:=hL.small x hx;omega) λw1 t q' c' m R g1 hT _ hA ht hm hq=>⟨_,rfl,hf.after g1,hK w1 t g1 ?_⟩
 obtain ⟨t1,t2,⟨n,t3⟩,t4⟩:=hT
 rw [List.length_map] at t1
 exact ⟨q',c',m,R,n,t1,(λe=>by omega),t2.out hq,t3,(λe=>by omega),t4,hA⟩
theorem show_spec {w:World} {p bj m n b:Nat} {each last com:Int} {ver:Nat} {R:Value→Value→Prop} {mn:Man} {list:List (List UInt8)} (hb:w.heap[p]? = some (.cells (pubC bj each last com m) T.pub_Pub (0,0))) (hm:MapP w T.int m n R) (hR:shownR R) (hv:VerO (λk=>k=p∨k=m) w b mn list) (hL:VerL mn list) (he:mn.version=ver) (hver:ver≤1099511627776) {K:Value→World→Prop}
  (hK:∀w' c n',Chg (λk=>k=p∨k=m) w w'→w'.heap[p]? = some (.cells (pubC bj each ver com m) T.pub_Pub (0,0))→MapP w' T.int m n' (λk v=>updR R (.int .i64 (ver:Int)) (.agg #[.pointer (some ⟨b,0,none⟩),.pointer (some ⟨c,0,none⟩)]) k v∧¬delP ver com k)→TreeO (λk=>k<w.heap.size) w' c list→K (.tuple #[]) w') :
  CallV PR F.p_pub_Pub_show ⟨[.pointer (some ⟨p,0,none⟩),.pointer (some ⟨b,0,none⟩)]⟩ w K:=by
 have hpm:=mapNe hb hm
 have hc:∀ {w':World},VerO (λk=>k=p∨k=m) w' b mn list→w'.cell? ⟨b,0,none⟩=some (.int .i64 (ver:Int)):=by
  rintro w' ⟨q,c,ql,cl,h1,_⟩
  rw [cell_blk h1,← he];rfl
 refine pub_Pub_show p (some ⟨bj,0,none⟩) each last com (some m) (some ⟨b,0,none⟩) (λk=>k=p∨k=m) K w ((Fr.init _ w).entry hb (λx h=>by cases h) λ_=>.inl rfl) ⟨.inl rfl,trivial⟩ ?_
 refine Dr_some.2 (Dr_some.2 (Dr_some.2 (Dr_some.2 ⟨_,hc hv,λw0 hF0=>⟨λw'=>w'.cell? ⟨b,0,none⟩=some (.int .i64 (ver:Int)),?_,Dr_some.2 (Dr_some.2 (Dr_some.2 (Dr_some.2 ⟨_,λw1 h=>h,?_⟩)))⟩⟩)))
 ·exact hc (hv.keep hF0.chg (λ_ _ e=>e) (λ_ _ e=>e))
 ·have g0:Chg (· = p) w w0:=hF0.stp.mono λi _ hi=>by simpa using hi
  have hv0:=hv.keep (D':=λk=>k=p∨k=m) hF0.chg (λ_ _ e=>e) (λ_ _ e=>e)
  refine VerTree hv0 hL λw2 c g2 hT2=>?_
  have hv2:=hv0.keep (D':=λk=>k=p∨k=m) g2 (λ_ _ e=>e.elim) (λ_ _ e=>e)
  have hF2:=hF0.after g2
  have hm2:=(hm.keep g0 hpm.symm).grow g2
  refine ⟨_,rfl,hF2,hc hv2,?_⟩
  refine update_rn keyedI map_shown hm2 (key_int (i:=(ver:Int)) (by omega) (by omega)) λw3 hm3 g3 _=>?_
  have hF3:=hF2.step g3 (λx hx=>by simp at hx;subst hx;exact hpm) λk _ e=>.inr e
  refine ⟨hF3,?_⟩
  have hR3:shownR (updR R (.int .i64 (ver:Int)) (.agg #[.pointer (some ⟨b,0,none⟩),.pointer (some ⟨c,0,none⟩)])):=by
   rintro k v (⟨rfl,rfl⟩ | ⟨_,hr⟩)
   ·exact ⟨ver,b,c,hver,rfl,rfl⟩
   ·exact hR k v hr
  refine trim_spec (hF3.blk 0 rfl) hm3 hR3 (by omega) λw4 g4 hm4=>?_
  have hF4:=hF3.step g4 (λx hx=>by simp at hx;subst hx;exact hpm) λk _ e=>.inr e
  refine ⟨rfl,_,_,_,_,_,hF4,hK w4 c _ hF4.chg (hF4.blk 0 rfl) hm4 ?_⟩
  have ml:=hm.lt
  have s0:=g0.size
  exact (hT2.keep g3 (λk _ e=>by have e':k=m:=e;omega) (λ_ _ e=>e)).keep g4 (λk _ e=>by have e':k=m:=e;omega) (λk _ e=>by omega)
end Go.Vc
