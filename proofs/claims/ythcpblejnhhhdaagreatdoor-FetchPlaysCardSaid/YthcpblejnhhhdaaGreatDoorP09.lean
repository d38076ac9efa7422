/-
  A part of the proof of the statement FetchPlaysCardSaid, in Lean: Pr1, Df1, Df2, Jf1, Ml1, Hs1, MirF1, Df3. By an AI agent.
-/
import Derived.Test.YthcpblejnhhhdaaGreatDoorP08
import Derived.Test.YthcpblejnhhhdaaGreatDoorP05
import Derived.Test.YthcpblejnhhhdaaGreatDoorP02
import Derived.Test.YthcpblejnhhhdaaGreatDoorP06
import Derived.Test.YthcpblejnhhhdaaGreatDoorP07
set_option linter.unusedSimpArgs false
set_option linter.unusedVariables false
set_option maxRecDepth 100000
namespace Go.Vc
open Go
theorem qc_ {w:World} {q2:Option Addr} {l2 c2 b:Nat} {s:List UInt8} {ys:List (List UInt8)} {K:Value→World→Prop}
  (ho:Own T.string 1 w (some ⟨b,0,none⟩) 1 [sv8' s]) (hs:Sl w q2 (ys.map sv8')) (hl2:l2=ys.length) (hroom:l2≤4398046511)
  (hK:∀q' c' w',Own T.string 1 w' q' c' ((s :: ys).map sv8')→1+l2≤c'→Grow w w'→(∀a,q'=some a→a=⟨b,0,none⟩∨a=⟨w.heap.size,0,none⟩)→K (.slice q' (1+l2) c') w') :
  rn PR (Builtin.append_ #[T.aR_,T.aR_] T.aR_ #[.slice (some ⟨b,0,none⟩) 1 1,.slice q2 l2 c2]) K w:=by
 obtain ⟨i,hi,hk,hb,hz⟩:=oQ_
 refine df_ (eV_ (i:=i) (xs:=[sv8' s]) kX_ kX_ hi hz (by rw [hk];rfl) (by rw [hb];decide) (by rw [hk];exact ho) (by rw [hk];rfl) (Nat.le_refl _) hs (by rw [hk];simp [hl2]) (λy hy=>by obtain ⟨b,_,rfl⟩:=List.mem_map.1 hy;rfl) (by rw [hb];omega) λq' c' w' h1 h2 h3 h4 h5=>?_)
 rw [hk] at h1
 refine hK q' c' w' h1 h2 (h5 ?_) λa ha=>(h4 a ha).imp (λe=>by injection e with e;exact e.symm) id
 cases ys with
 | nil=>exact .inr rfl
 | cons y ys=>left;rw [hl2,List.length_cons];omega
noncomputable def br_ (leaves:List (List UInt8)):Nat→Nat→Nat→Nat→List (List UInt8)
 | 0,_,_,_=>[]
 | f+1,i,a,n=>if n≤1 then [] else if i<a+ah_ n then br_ leaves f i a (ah_ n)++[a5_ a9_ leaves (n - ah_ n) (a+ah_ n) (n - ah_ n)]
  else br_ leaves f i (a+ah_ n) (n - ah_ n)++[a5_ a9_ leaves (ah_ n) a (ah_ n)]
theorem cV_.val {R:Value→Value→Prop} {a n:Nat} (h:cV_ R a n):∃v,R (.agg #[.int .i64 (a:Nat),.int .i64 (n:Nat)]) v:=by
 cases h with
 | leaf _ v h=>exact ⟨v,h⟩
 | node _ _ v _ h _ _=>exact ⟨v,h⟩
theorem cV_.parts {R:Value→Value→Prop} {a n:Nat} (h:cV_ R a n) (hn:2≤n):cV_ R a (ah_ n)∧cV_ R (a+ah_ n) (n - ah_ n):=by
 cases h with
 | leaf _ v h=>omega
 | node _ _ v _ h h1 h2=>exact ⟨h1,h2⟩
def PrI (leaves:List (List UInt8)) (R:Value→Value→Prop) (w0:World) (i:Nat) (goal:List (List UInt8)) (q:Option Addr) (l c:Nat) (q1:Option Addr) (mm:Nat) (w':World):Prop:=
 ∃(b a n f:Nat) (pf:List (List UInt8)),q1=some ⟨b,0,none⟩∧w0.heap.size≤b∧w'.heap[b]? = some (.cells #[.int .i64 a,.int .i64 n] T.al_ (0,0))∧mm=n∧1≤n∧n≤f∧a≤i∧i<a+n∧a+n≤leaves.length∧cV_ R a n∧
  Own T.string 1 w' q c (pf.map sv8')∧l=pf.length∧l≤c∧pf.length+n≤leaves.length∧Off (λk=>k<w0.heap.size) q∧goal=br_ leaves f i a n++pf
theorem eB_ {leaves:List (List UInt8)} {R:Value→Value→Prop} {w w11:World} {k0 m nn b a n f fuel i ka kn a' n':Nat} {B0 B1 B2:Blk} {q:Option Addr} {l c:Nat} {pf goal:List (List UInt8)}
  (hm:MapP w T.al_ m nn R) (hmk:m≠k0) (hok:pl_ leaves R) (hv:cV_ R ka kn) (hkl:ka+kn≤leaves.length) (hn:leaves.length≤100000)
  (hF:Fs (· = k0) w [B0,B1,B2] w11) (hB0:B0.b=k0) (hk0:k0<w.heap.size) (hB1:w.heap.size≤B1.b) (hB2:w.heap.size≤B2.b) (hb1:b≠B1.b) (hb2:b≠B2.b)
  (hb:w11.heap[b]? = some (.cells #[.int .i64 (a:Nat),.int .i64 (n:Nat)] T.al_ (0,0))) (hwb:w.heap.size≤b)
  (ho:Own T.string 1 w11 q c (pf.map sv8')) (hl:l=pf.length) (hlc:l≤c) (hpn:pf.length+n≤leaves.length) (hof:Off (λk=>k<w.heap.size) q)
  (hn1:1≤n') (hnn:n'<n) (hfu:fuel=n) (hnf:n'≤f) (hai:a'≤i) (hin:i<a'+n') (hle:a'+n'≤leaves.length) (hall:cV_ R a' n') (hg:goal=br_ leaves f i a' n'++(a5_ a9_ leaves kn ka kn :: pf)) :
  rn PR (Instr.lookup T.be_ (.map (some m)) (.agg #[.int .i64 (ka:Nat),.int .i64 (kn:Nat)]) false) (λv1 w12=>∃s0,v1=.string s0∧Fs (· = k0) w [B0,B1,B2] w12∧w12.heap[b]? = some (.cells #[.int .i64 (a:Nat),.int .i64 (n:Nat)] T.al_ (0,0))∧∀l7,w12.heap.size≤l7→∀w13,Fr (· = k0) w w12 [] [B0,B1,B2,⟨l7,#[.string s0],T.string,true⟩] w13→
   w13.heap[b]? = some (.cells #[.int .i64 (a:Nat),.int .i64 (n:Nat)] T.al_ (0,0))∧rn PR (Builtin.append_ #[T.aR_,T.aR_] T.aR_ #[.slice (some ⟨l7,0,none⟩) 1 1,.slice q l c]) (λv2 w14=>∃q2,∃l8 l9:Nat,v2=.slice q2 l8 l9∧Fs (· = k0) w [B0,B1,B2,⟨l7,#[.string s0],T.string,true⟩] w14∧w14.heap[b]? = some (.cells #[.int .i64 (a:Nat),.int .i64 (n:Nat)] T.al_ (0,0))∧
    Dr (some ⟨b,0,none⟩) (λa12=>StC w14 (Addr.add a12 0) (.int .i64 (a':Nat)) λw15=>StC w15 (Addr.add a12 1) (.int .i64 (n':Nat)) λw16=>Fs (· = k0) w [B0,B1,B2,⟨l7,#[.string s0],T.string,true⟩] w16∧Dr (some ⟨b,0,none⟩) λa13=>∃n7:Int,w16.cell? (Addr.add a13 0)=some (.int .i64 n7)∧∃n8:Int,w16.cell? (Addr.add a13 1)=some (.int .i64 n8)∧∀l10,w16.heap.size≤l10→∀w17,Fr (· = k0) w w16 [l10] [B0,⟨l10,#[.int .i64 n7,.int .i64 n8],T.al_,true⟩] w17→
     ∃l11,l11<fuel∧PrI leaves R w i goal q2 l8 l9 (some ⟨l10,0,none⟩) l11 w17)) w13) w11:=by
 obtain ⟨v,hv⟩:=hv.val
 obtain ⟨ka',kn',ek,hk1,hk2,rfl⟩:=hok _ _ hv
 have e1:ka=ka':=by injection ek with e;injection e with e;injection e with e e';injection e with _ e;omega
 have e2:kn=kn':=by injection ek with e;injection e with e;injection e with e e';injection e' with e e';injection e with _ e;omega
 subst e1;subst e2
 obtain ⟨kl,hkey⟩:=kn_ (a:=ka) (k:=kn) ⟨by omega,by omega⟩ ⟨by omega,by omega⟩
 have hm11:MapP w11 T.al_ m nn R:=hm.keep hF.chg hmk
 refine ib_ pA_ r3_ hm11 hkey false mS_ (λv' hv'=>?_) λhno=>absurd hv (hno _)
 have:=hm11.inj hv' hv
 subst this
 refine ⟨_,rfl,hF,hb,λl7 hl7 w13 hF13=>?_⟩
 have g13:Grow w11 w13:=hF13.grow
 have hb13:=g13.get hb
 refine ⟨hb13,?_⟩
 have s11:=hF.chg.size
 have hbl:=aj_ hb
 refine qc_ (hF13.own 3 rfl rfl (by decide)) (ho.grow g13).sl hl (by omega) λq2 c2 w14 ho14 hc14 g14 hq14=>?_
 have hF14:=hF13.after g14
 have hb14:=g14.get hb13
 refine ⟨_,_,_,rfl,hF14,hb14,ac_.2 ?_⟩
 have hq2w:∀a,q2=some a→w11.heap.size≤a.block:=λa ha=>by
  rcases hq14 a ha with rfl | rfl
  ·exact hl7
  ·have:=g13.size;exact this
 refine stC hb14 (show 0<2 by omega) rfl λw15 hb15 s15 g15=>?_
 refine stC hb15 (show 1<2 by omega) rfl λw16 hb16 s16 g16=>?_
 have hbn:∀x,x∈[B0,B1,B2,(⟨l7,#[.string (str (a5_ a9_ leaves kn ka kn))],T.string,true⟩:Blk)]→¬(x.b=b):=λx hx=>by
  simp only [List.mem_cons,List.not_mem_nil,or_false] at hx
  rcases hx with rfl | rfl | rfl | rfl
  ·omega
  ·exact λe=>hb1 e.symm
  ·exact λe=>hb2 e.symm
  ·simp only [];omega
 have hF16:=(hF14.step g15 hbn λk hk e=>by have e':k=b:=e;omega).step g16 hbn λk hk e=>by have e':k=b:=e;omega
 have hb16':w16.heap[b]? = some (.cells #[.int .i64 (a':Nat),.int .i64 (n':Nat)] T.al_ (0,0)):=hb16
 refine ⟨hF16,ac_.2 ⟨_,by rw [au_,aw_ hb16'];rfl,_,by rw [au_,aw_ hb16'];rfl,λl10 hl10 w17 hF17=>⟨n',by omega,l10,a',n',f,a5_ a9_ leaves kn ka kn :: pf,rfl,?_,hF17.blk 1 rfl,rfl,hn1,hnf,hai,hin,hle,hall,?_,by rw [hl,List.length_cons];omega,hc14,by rw [List.length_cons];omega,λa ha hlt=>by have:=hq2w a ha;omega,hg⟩⟩⟩
 ·have:=hF16.chg.size;omega
 ·have o15:=ho14.keep g15 λx hx e=>by have e':x.block=b:=e;have:=hq2w x hx;omega
  have o16:=o15.keep g16 λx hx e=>by have e':x.block=b:=e;have:=hq2w x hx;omega
  exact o16.keep hF17.stp λx hx e=>by
   have e':x.block=l10:=by simpa using e
   rcases o16 with ⟨h,_⟩ | ⟨b',o',cs,h,hbb,_⟩
   ·rw [h] at hx;cases hx
   ·rw [h] at hx;cases hx
    have:=aj_ hbb
    simp only [] at e';omega
theorem oc_ {D:Nat→Prop} {w:World} {k0:Nat} {list:List (List UInt8)} (h:qj_ D w k0 list) {i:Int} (hn:list.length≤100000) {K:Value→World→Prop}
  (h1:∀w' q c,0≤i→i<list.length→Grow w w'→Own T.string 1 w' q c ((br_ (list.map aC_) list.length i.toNat 0 list.length).map sv8')→(br_ (list.map aC_) list.length i.toNat 0 list.length).length≤c→Off (λk=>k<w.heap.size) q→K (.tuple #[.slice q (br_ (list.map aC_) list.length i.toNat 0 list.length).length c,.nilIface]) w')
  (h2:¬(0≤i∧i<list.length)→K (.tuple #[.slice none 0 0,.iface T.ak_ (.int .i64 2)]) w):aa_ PR F.e8_ ⟨[.pointer (some ⟨k0,0,none⟩),.int .i64 i]⟩ w K:=by
 obtain ⟨yq,yc,m,R,nn,hb0,_,hsl,hm,_,hok,hA⟩:=h
 have hmk:m≠k0:=(sm_ hb0 hm).symm
 have hk0:=aj_ hb0
 have hll:(list.map aC_).length=list.length:=List.length_map _
 refine lp_ k0 yq list.length yc (some m) i (· = k0) K w ((Fr.init _ w).entry hb0 (λx h=>by cases h) λ_=>rfl) ⟨rfl,trivial⟩ ⟨λh=>h2 (by omega),λh0=>⟨λh=>h2 (by omega),λhlt l0 hl0 w0 hF0=>?_⟩⟩
 have h0':0≤i:=by omega
 have hlt':i<list.length:=by omega
 obtain ⟨j,rfl⟩:∃j:Nat,i=j:=⟨i.toNat,by omega⟩
 have hj:j<list.length:=by omega
 have hne:list≠[]:=λe=>by rw [e] at hj;simp at hj
 rw [Int.toNat_natCast] at h1
 refine ⟨PrI (list.map aC_) R w j (br_ (list.map aC_) list.length j 0 list.length),⟨list.length,l0,0,list.length,list.length,[],rfl,hl0,hF0.blk 1 rfl,rfl,by omega,Nat.le_refl _,by omega,by omega,by omega,hA hne,.nil _ _ _,rfl,Nat.le_refl _,by simp,.none _,by simp⟩,?_⟩
 rintro q l c q1 Dv mm w1 ⟨b,a,n,f,pf,rfl,hwb,hb,rfl,hn1,hnf,haj,hja,hle,hall,ho,rfl,hlc,hpn,hof,hg⟩ hF1
 have hc:∀ {w':World} (k:Nat) (v:Value),w'.heap[b]? = some (.cells #[.int .i64 (a:Nat),.int .i64 (mm:Nat)] T.al_ (0,0))→(#[.int .i64 (a:Nat),.int .i64 (mm:Nat)]:Array Value)[k]? = some v→w'.cell? (Addr.add ⟨b,0,none⟩ k)=some v:=λk v hb hv=>by
  rw [au_,aw_ hb,Nat.zero_add];exact hv
 refine ac_.2 (ac_.2 ⟨_,hc 1 _ hb rfl,λhgt=>?_,λhng=>?_⟩)
 ·have h2n:2≤mm:=by omega
  have hh:=c6_ h2n
  have hbl:=aj_ hb
  obtain ⟨hp1,hp2⟩:=hall.parts h2n
  refine ac_.2 (ac_.2 ⟨_,hc 1 _ hb rfl,f8_ h2n (by omega) ⟨_,rfl,hF1,λw3 hF3=>?_⟩⟩)
  have g3:Grow w1 w3:=hF3.grow
  have hb3:=g3.get hb
  have ho3:=ho.grow g3
  have bl3:=aj_ hb3
  refine ⟨λw'=>w'.heap[b]? = some (.cells #[.int .i64 (a:Nat),.int .i64 (mm:Nat)] T.al_ (0,0)),hb3,?_⟩
  refine ac_.2 (ac_.2 ⟨_,λw' h=>hc 0 _ h rfl,ac_.2 (ac_.2 ⟨_,λw' h=>hc 0 _ h rfl,ac_.2 (ac_.2 ⟨_,λw' h=>hc 1 _ h rfl,?_⟩)⟩)⟩)
  have ea:IntKind.wrap .i64 ((a:Int)+(ah_ mm:Nat))=((a+ah_ mm:Nat):Int):=by rw [w64 (by omega) (by omega)];omega
  have ek:IntKind.wrap .i64 ((mm:Int) - (ah_ mm:Nat))=((mm - ah_ mm:Nat):Int):=by rw [w64 (by omega) (by omega)];omega
  obtain ⟨f',rfl⟩:∃f',f=f'+1:=⟨f - 1,by omega⟩
  have gl:j<a+ah_ mm→br_ (list.map aC_) list.length j 0 list.length=br_ (list.map aC_) f' j a (ah_ mm)++(a5_ a9_ (list.map aC_) (mm - ah_ mm) (a+ah_ mm) (mm - ah_ mm) :: pf):=λhlt=>by
   rw [hg];conv=>lhs;unfold br_
   rw [if_neg (by omega),if_pos hlt,List.append_assoc];rfl
  have gr:¬j<a+ah_ mm→br_ (list.map aC_) list.length j 0 list.length=br_ (list.map aC_) f' j (a+ah_ mm) (mm - ah_ mm)++(a5_ a9_ (list.map aC_) (ah_ mm) a (ah_ mm) :: pf):=λhlt=>by
   rw [hg];conv=>lhs;unfold br_
   rw [if_neg (by omega),if_neg hlt,List.append_assoc];rfl
  have hw1:w.heap.size≤w3.heap.size:=hF3.chg.size
  rw [ea,ek]
  refine ⟨?_,?_⟩
  ·intro l5 hl5 w7 hF7
   have hb7:=hF7.grow.get hb3
   refine ⟨hb7,λl6 hl6 w8 hF8=>?_⟩
   have hb8:=hF8.grow.get hb7
   have s7:=hF7.grow.size
   have s8:=hF8.grow.size
   refine ⟨hb8,λw9 hF9=>?_⟩
   have n9:∀k,k∈[l5]→w3.heap.size≤k:=λk e=>by simp at e;omega
   have hb9:=hF9.stp.get hb8 λe=>by have:=n9 _ e;omega
   have ho9:=((ho3.grow hF7.grow).grow hF8.grow).keep hF9.stp λx hx e=>by have:=n9 _ e;have:=ho3.lt x hx;omega
   refine ⟨hb9,ac_.2 λw10 hF10=>?_⟩
   have n10:∀k,k∈[l6]→w3.heap.size≤k:=λk e=>by simp at e;omega
   have hb10:=hF10.stp.get hb9 λe=>by have:=n10 _ e;omega
   have ho10:=ho9.keep hF10.stp λx hx e=>by have:=n10 _ e;have:=ho3.lt x hx;omega
   refine ac_.2 ⟨_,hc 0 _ hb10 rfl,λhlt2 w11 hF11=>⟨λw'=>w'.heap[b]? = some (.cells #[.int .i64 (a:Nat),.int .i64 (mm:Nat)] T.al_ (0,0)),hF11.grow.get hb10,?_⟩,λhlt2 w11 hF11=>⟨λw'=>w'.heap[b]? = some (.cells #[.int .i64 (a:Nat),.int .i64 (mm:Nat)] T.al_ (0,0)),hF11.grow.get hb10,?_⟩⟩
   ·rw [ea] at hlt2
    have hlt3:j<a+ah_ mm:=by omega
    exact eB_ (leaves:=list.map aC_) (R:=R) (a:=a) (n:=mm) (f:=f') (ka:=a+ah_ mm) (kn:=mm - ah_ mm) (a':=a) (n':=ah_ mm) (pf:=pf) hm hmk hok hp2 (by omega) (by omega) hF11.reset rfl hk0 (by show _≤l5;omega) (by show _≤l6;omega) (by show b≠l5;omega) (by show b≠l6;omega) (hF11.grow.get hb10) hwb (ho10.grow hF11.grow) rfl hlc hpn hof hh.1 hh.2 rfl (by omega) (by omega) (by omega) (by omega) hp1 (gl hlt3)
   ·rw [ea] at hlt2
    have hlt3:¬j<a+ah_ mm:=by omega
    exact eB_ (leaves:=list.map aC_) (R:=R) (a:=a) (n:=mm) (f:=f') (ka:=a) (kn:=ah_ mm) (a':=a+ah_ mm) (n':=mm - ah_ mm) (pf:=pf) hm hmk hok hp1 (by omega) (by omega) hF11.reset rfl hk0 (by show _≤l5;omega) (by show _≤l6;omega) (by show b≠l5;omega) (by show b≠l6;omega) (hF11.grow.get hb10) hwb (ho10.grow hF11.grow) rfl hlc hpn hof (by omega) (by omega) rfl (by omega) (by omega) (by omega) (by omega) hp2 (gr hlt3)
  ·intro l5 hl5 w7 hF7
   have hb7:=hF7.grow.get hb3
   refine ⟨hb7,λl6 hl6 w8 hF8=>?_⟩
   have hb8:=hF8.grow.get hb7
   have s7:=hF7.grow.size
   have s8:=hF8.grow.size
   refine ⟨hb8,λw9 hF9=>?_⟩
   have n9:∀k,k∈[l6]→w3.heap.size≤k:=λk e=>by simp at e;omega
   have hb9:=hF9.stp.get hb8 λe=>by have:=n9 _ e;omega
   have ho9:=((ho3.grow hF7.grow).grow hF8.grow).keep hF9.stp λx hx e=>by have:=n9 _ e;have:=ho3.lt x hx;omega
   refine ⟨hb9,ac_.2 λw10 hF10=>?_⟩
   have n10:∀k,k∈[l5]→w3.heap.size≤k:=λk e=>by simp at e;omega
   have hb10:=hF10.stp.get hb9 λe=>by have:=n10 _ e;omega
   have ho10:=ho9.keep hF10.stp λx hx e=>by have:=n10 _ e;have:=ho3.lt x hx;omega
   refine ac_.2 ⟨_,hc 0 _ hb10 rfl,λhlt2 w11 hF11=>⟨λw'=>w'.heap[b]? = some (.cells #[.int .i64 (a:Nat),.int .i64 (mm:Nat)] T.al_ (0,0)),hF11.grow.get hb10,?_⟩,λhlt2 w11 hF11=>⟨λw'=>w'.heap[b]? = some (.cells #[.int .i64 (a:Nat),.int .i64 (mm:Nat)] T.al_ (0,0)),hF11.grow.get hb10,?_⟩⟩
   ·rw [ea] at hlt2
    have hlt3:j<a+ah_ mm:=by omega
    exact eB_ (leaves:=list.map aC_) (R:=R) (a:=a) (n:=mm) (f:=f') (ka:=a+ah_ mm) (kn:=mm - ah_ mm) (a':=a) (n':=ah_ mm) (pf:=pf) hm hmk hok hp2 (by omega) (by omega) hF11.reset rfl hk0 (by show _≤l5;omega) (by show _≤l6;omega) (by show b≠l5;omega) (by show b≠l6;omega) (hF11.grow.get hb10) hwb (ho10.grow hF11.grow) rfl hlc hpn hof hh.1 hh.2 rfl (by omega) (by omega) (by omega) (by omega) hp1 (gl hlt3)
   ·rw [ea] at hlt2
    have hlt3:¬j<a+ah_ mm:=by omega
    exact eB_ (leaves:=list.map aC_) (R:=R) (a:=a) (n:=mm) (f:=f') (ka:=a) (kn:=ah_ mm) (a':=a+ah_ mm) (n':=mm - ah_ mm) (pf:=pf) hm hmk hok hp1 (by omega) (by omega) hF11.reset rfl hk0 (by show _≤l5;omega) (by show _≤l6;omega) (by show b≠l5;omega) (by show b≠l6;omega) (hF11.grow.get hb10) hwb (ho10.grow hF11.grow) rfl hlc hpn hof (by omega) (by omega) rfl (by omega) (by omega) (by omega) (by omega) hp2 (gr hlt3)
 ·have hm1:mm=1:=by omega
  subst hm1
  have hpf:br_ (list.map aC_) list.length j 0 list.length=pf:=by
   obtain ⟨f',rfl⟩:∃f',f=f'+1:=⟨f - 1,by omega⟩
   rw [hg];unfold br_;rw [if_pos (by omega)];rfl
  have:=h1 w1 q c h0' hlt' (hF1.chg.same hb0 (hF1.blk 0 rfl)) (by rw [hpf];exact ho) (by rw [hpf];exact hlc) hof
  rw [hpf] at this
  exact this
end Go.Vc
namespace Go.Vc
open Go
structure DM where
 log:List UInt8
 sl:List (List UInt8)
 llog:List UInt8
 lsl:List (List UInt8)
 ws:List (Int × List UInt8)
structure DP where
 q0:Option Addr
 q1:Option Addr
 wq:Option Addr
 c0:Nat
 c1:Nat
 wc:Nat
def wrF (x:Int × List UInt8):List Value:=[.int .i64 x.1,sv8' x.2]
def dfC (p:DP) (d:DM):Array Value:=#[.int .i64 (-1),.bool false,.string (str d.log),.slice p.q0 d.sl.length p.c0,.string (str d.llog),.slice p.q1 d.lsl.length p.c1,.slice p.wq d.ws.length p.wc]
def dfS (b:Nat) (p:DP):Nat→Prop:=λk=>k=b∨am_ p.q0 k∨am_ p.q1 k∨am_ p.wq k
structure DskF (w:World) (b:Nat) (p:DP) (d:DM):Prop where
 blk:w.heap[b]? = some (.cells (dfC p d) T.cO_ (0,0))
 o0:Own T.string 1 w p.q0 p.c0 (d.sl.map sv8')
 o1:Own T.string 1 w p.q1 p.c1 (d.lsl.map sv8')
 ow:Own T.b2_ 2 w p.wq p.wc (d.ws.flatMap wrF)
 n0:¬am_ p.q0 b
 n1:¬am_ p.q1 b
 nw:¬am_ p.wq b
 d01:∀k,am_ p.q0 k→¬am_ p.q1 k
 d0w:∀k,am_ p.q0 k→¬am_ p.wq k
 d1w:∀k,am_ p.q1 k→¬am_ p.wq k
 wl:d.ws.length≤p.wc
theorem am_.off {S:Nat→Prop} {q:Option Addr} (h:∀k,am_ q k→¬S k):Off S q:=λa ha e=>h _ ⟨a,ha,rfl⟩ e
theorem DskF.keep {S:Nat→Prop} {w w':World} {b:Nat} {p:DP} {d:DM} (h:DskF w b p d) (g:Chg S w w') (hn:∀k,dfS b p k→¬S k):DskF w' b p d:=
 ⟨g.get h.blk (hn _ (.inl rfl)),h.o0.keep g (am_.off λk hk=>hn k (.inr (.inl hk))),h.o1.keep g (am_.off λk hk=>hn k (.inr (.inr (.inl hk)))),h.ow.keep g (am_.off λk hk=>hn k (.inr (.inr (.inr hk)))),h.n0,h.n1,h.nw,h.d01,h.d0w,h.d1w,h.wl⟩
theorem DskF.grow {w w':World} {b:Nat} {p:DP} {d:DM} (h:DskF w b p d) (g:Grow w w'):DskF w' b p d:=h.keep g λ_ _ e=>e
theorem DskF.lt {w:World} {b:Nat} {p:DP} {d:DM} (h:DskF w b p d):∀k,dfS b p k→k<w.heap.size:=by
 rintro k (rfl | ⟨a,ha,rfl⟩ | ⟨a,ha,rfl⟩ | ⟨a,ha,rfl⟩)
 ·exact aj_ h.blk
 ·exact h.o0.lt a ha
 ·exact h.o1.lt a ha
 ·exact h.ow.lt a ha
theorem DskF.fs {w:World} {b:Nat} {p:DP} {d:DM} (h:DskF w b p d):Fs (dfS b p) w [⟨b,dfC p d,T.cO_,true⟩] w:=(Fr.init _ w).entry h.blk (λx h=>by cases h) λ_=>.inl rfl
def DM.now (d:DM) (n:Int) (s:List UInt8):DM:=if n = -1 then { d with log:=d.log++s } else { d with sl:=d.sl.set n.toNat s }
def DM.put (d:DM) (n:Int) (s:List UInt8):DM:={ d.now n s with ws:=d.ws++[(n,s)] }
theorem gL_ {w:World} {b:Nat} {p:DP} {d:DM} (h:DskF w b p d) {K:Value→World→Prop} (hK:K .nilIface w):aa_ PR F.g7_ ⟨[.pointer (some ⟨b,0,none⟩)]⟩ w K:=
 i4_ b (-1) false (str d.log) p.q0 d.sl.length p.c0 (str d.llog) p.q1 d.lsl.length p.c1 p.wq d.ws.length p.wc (dfS b p) K w h.fs ⟨.inl rfl,trivial⟩ ⟨(λh=>by cases h),λ_=>hK⟩
theorem n3_ {w:World} {b:Nat} {p:DP} {d:DM} (h:DskF w b p d) {K:Value→World→Prop} (hK:K .nilIface w):aa_ PR F.g4_ ⟨[.pointer (some ⟨b,0,none⟩)]⟩ w K:=
 pT_ b (-1) false (str d.log) p.q0 d.sl.length p.c0 (str d.llog) p.q1 d.lsl.length p.c1 p.wq d.ws.length p.wc (dfS b p) K w h.fs ⟨.inl rfl,trivial⟩ ⟨λe=>absurd e (by decide),λ_=>⟨λe=>absurd e (by decide),λ_=>hK⟩⟩
theorem DskF.same {w w':World} {b:Nat} {p:DP} {d d':DM} (h:DskF w b p d) (g:Chg (· = b) w w') (hb:w'.heap[b]? = some (.cells (dfC p d') T.cO_ (0,0))) (e1:d'.sl=d.sl) (e2:d'.lsl=d.lsl) (e3:d'.ws=d.ws):DskF w' b p d':=
 ⟨hb,by rw [e1];exact h.o0.keep g (am_.off λk hk e=>h.n0 (by rw [← e];exact hk)),by rw [e2];exact h.o1.keep g (am_.off λk hk e=>h.n1 (by rw [← e];exact hk)),by rw [e3];exact h.ow.keep g (am_.off λk hk e=>h.nw (by rw [← e];exact hk)),h.n0,h.n1,h.nw,h.d01,h.d0w,h.d1w,by rw [e3];exact h.wl⟩
theorem pe_ {w:World} {b:Nat} {p:DP} {d:DM} (h:DskF w b p d) {n:Int} {s:List UInt8} (hn:n = -1∨0≤n∧n<d.sl.length) (hroom:d.log.length+s.length≤9223372036854775807) {K:Value→World→Prop}
  (hK:∀w',DskF w' b p (d.now n s)→Chg (dfS b p) w w'→K (.tuple #[]) w') :
  aa_ PR F.fK_ ⟨[.pointer (some ⟨b,2,none⟩),.agg #[.int .i64 n,.string (str s)]]⟩ w K:=by
 refine rt_ b (-1) false (str d.log) p.q0 d.sl.length p.c0 (str d.llog) p.q1 d.lsl.length p.c1 p.wq d.ws.length p.wc n (str s) (dfS b p) K w h.fs ⟨.inl rfl,trivial⟩ λb0 hb0=>⟨λe w0 hF0=>?_,λe w0 hF0=>?_⟩
 ·subst e
  refine ⟨(· = w0),rfl,ac_.2 ⟨str d.log,λw1 e=>by subst e;exact hF0.ld 0 2 rfl rfl rfl,by rw [ai_,ai_];exact hroom,λw2 hF2=>?_⟩⟩
  have g2:Chg (· = b) w w2:=hF0.grow.chg.trans (hF2.stp.mono λi _ hi=>by simpa using hi) λ_ _ e=>e
  refine hK w2 (h.same g2 ?_ rfl rfl rfl) hF2.chg
  have:=hF2.blk 0 rfl
  rw [aD_] at this
  exact this
 ·obtain ⟨hn1,hn2⟩:=hn.resolve_left e
  obtain ⟨m,rfl⟩:=Int.eq_ofNat_of_zero_le hn1
  have hm:m<d.sl.length:=by omega
  have h0:=h.grow hF0.grow
  refine ⟨λ_=>True,trivial,?_⟩
  obtain ⟨a,ha,x1,x2,x3,ho,g⟩:=h0.o0.set (i:=m) (v:=sv8' s) (by simpa using hm) rfl (K:=λw'=>Own T.string 1 w' p.q0 p.c0 ((d.sl.map sv8').set m (sv8' s))∧Chg (am_ p.q0) w0 w') λw' ho g hs=>⟨ho,g⟩
  have fin:∀w',Own T.string 1 w' p.q0 p.c0 ((d.sl.map sv8').set m (sv8' s))→Chg (am_ p.q0) w0 w'→Fs (dfS b p) w [⟨b,dfC p d,T.cO_,true⟩,⟨b0,#[.int .i64 (m:Int),.string (str s)],T.b2_,true⟩] w'∧K (.tuple #[]) w':=?_
  ·refine ⟨a,ha,by omega,by omega,ac_.2 ?_⟩
   rw [show (Int.toNat (m:Int))*1=m by simp]
   exact ⟨x1,x2,x3,fin _ ho g⟩
  clear x1 x2 x3 ho g
  intro w' ho g
  have hne:¬am_ p.q0 b0:=λhk=>by
   have:=h.lt b0 (.inr (.inl hk));omega
  refine ⟨hF0.reset.step g (λx hx=>?_) (λk _ hk=>.inr (.inl hk)),hK w' ?_ (hF0.chg.trans (g.mono λk _ hk=>.inr (.inl hk)) λ_ _ e=>e)⟩
  ·simp only [List.mem_cons,List.not_mem_nil,or_false] at hx
   rcases hx with rfl | rfl
   ·exact h.n0
   ·exact hne
  ·have ed:d.now (m:Int) s = { d with sl:=d.sl.set m s }:=by
    unfold DM.now;rw [if_neg (by omega)];rfl
   rw [ed]
   refine ⟨?_,by simpa [List.map_set] using ho,h0.o1.keep g (am_.off λk hk e=>h.d01 k e hk),h0.ow.keep g (am_.off λk hk e=>h.d0w k e hk),h.n0,h.n1,h.nw,h.d01,h.d0w,h.d1w,h.wl⟩
   have:=g.get h0.blk h.n0
   simpa [dfC] using this
theorem jz_ {w:World} {b:Nat} {p:DP} {d:DM} (h:DskF w b p d) {n:Int} {s:List UInt8} (hn:n = -1∧s≠[]∨0≤n∧n<d.sl.length) (hroom:d.log.length+s.length≤9223372036854775807) (hw:d.ws.length≤1000000) {K:Value→World→Prop}
  (hK:∀w' q' c',DskF w' b { p with wq:=q',wc:=c' } (d.put n s)→Chg (dfS b p) w w'→(∀a,q'=some a→p.wq=some a∨w.heap.size≤a.block)→K .nilIface w') :
  aa_ PR F.g6_ ⟨[.pointer (some ⟨b,0,none⟩),.agg #[.int .i64 n,.string (str s)]]⟩ w K:=by
 obtain ⟨i,hi,hk,hbt,hz⟩:=oI_
 have hblt:=aj_ h.blk
 refine i3_ b (-1) false (str d.log) p.q0 d.sl.length p.c0 (str d.llog) p.q1 d.lsl.length p.c1 p.wq d.ws.length p.wc n (str s) (dfS b p) K w h.fs ⟨.inl rfl,trivial⟩ λb0 hb0 w0 hF0=>?_
 have h0:=h.grow hF0.grow
 have hne0:∀k,dfS b p k→k≠b0:=λk hk e=>by have:=h.lt k hk;omega
 have hne:¬str s=⟨#[]⟩∨n≠-1:=by
  rcases hn with ⟨e,hs⟩ | ⟨e,_⟩
  ·exact .inl λe2=>hs (str_inj (b:=[]) e2)
  ·exact .inr (by omega)
 have hn':n = -1∨0≤n∧n<d.sl.length:=hn.imp (λh=>h.1) id
 have hnow:(d.now n s).ws=d.ws:=by unfold DM.now;split <;> rfl
 have hput:(d.put n s).ws.length=(d.now n s).ws.length+1:=by rw [hnow];simp [DM.put]
 refine n3_ h0 ⟨_,rfl,_,_,_,_,_,_,_,_,_,_,_,_,_,hF0.reset,λ_=>⟨λe=>⟨λh=>absurd h (hne.resolve_right λh=>h e),λ_ w2 hF2=>⟨λ_=>True,trivial,?_⟩⟩,λe w2 hF2=>⟨λ_=>True,trivial,?_⟩⟩,(λt x h=>by cases h),.inl rfl⟩
 all_goals
  have h2:=h0.grow hF2.grow
  refine pe_ h2 hn' hroom λw3 h3 g3=>?_
  have hF3:Fs (dfS b p) w [⟨b,dfC p (d.now n s),T.cO_,true⟩,⟨b0,#[.int .i64 n,.string (str s)],T.b2_,true⟩] w3:=hF2.mod g3 h3.blk (λx hx=>by simp at hx;subst hx;exact λe=>hne0 _ e rfl) λk _ hk=>hk
  refine ⟨rfl,_,_,_,_,_,_,_,_,_,_,_,_,_,hF3,λw4 hF4=>⟨λx=>x.cell? ⟨b,6,none⟩=some (.slice p.wq (d.now n s).ws.length p.wc),hF4.ld 0 6 rfl rfl rfl,ac_.2 ⟨_,_,_,λw5 h=>h,λb5 hb5 w6 hF6=>⟨hF6.ld 0 6 rfl rfl rfl,?_⟩⟩⟩⟩
  have h6:=(h3.grow hF4.grow).grow hF6.grow
  have sz:w.heap.size≤w6.heap.size:=by have:=hF6.chg.size;omega
  have sz4:w.heap.size≤w4.heap.size:=by have:=hF4.chg.size;omega
  refine df_ <| eV_ (i:=i) mX_ mX_ hi hz (by rw [hk];rfl) (by rw [hbt];decide) (by rw [hk];exact h6.ow) (by rw [hk];exact cx_ (s:=2) (f:=wrF) (λ_=>rfl) _) h6.wl (hF6.sl 2 rfl) (by rw [hk];rfl) (by simp [oneC]) (by rw [hbt,hnow];omega) λq' c' w7 ho7 hc7 g7 hq7 _=>?_
  rw [hk] at ho7
  have hF7:=hF6.reset.step g7 (λx hx=>by
   simp only [List.mem_cons,List.not_mem_nil,or_false] at hx
   rcases hx with rfl | rfl | rfl
   ·exact h.nw
   ·exact λe=>hne0 _ (.inr (.inr (.inr e))) rfl
   ·intro e
    have:=h.lt b5 (.inr (.inr (.inr e)))
    omega) (λk _ hk=>.inr (.inr (.inr hk)))
  refine ⟨_,_,_,rfl,hF7,hF7.ld 0 6 rfl rfl rfl,λw8 hF8=>?_⟩
  have g8:Chg (· = b) w7 w8:=hF8.stp.mono λk _ e=>by simpa using e
  have hqn:∀k,am_ q' k→am_ p.wq k∨w.heap.size≤k:=by
   rintro k ⟨a,ha,rfl⟩
   rcases hq7 a ha with h' | h'
   ·exact .inl ⟨a,h',rfl⟩
   ·subst h';exact .inr sz
  have hqb:¬am_ q' b:=λhk=>(hqn b hk).elim h.nw λe=>by omega
  have h7a:=h6.o0.keep g7 (am_.off λk hk e=>h.d0w k hk e)
  have h7b:=h6.o1.keep g7 (am_.off λk hk e=>h.d1w k hk e)
  refine hK w8 q' c' ⟨?_,h7a.keep g8 (am_.off λk hk e=>h.n0 (by rw [← e];exact hk)),h7b.keep g8 (am_.off λk hk e=>h.n1 (by rw [← e];exact hk)),?_,h.n0,h.n1,hqb,h.d01,λk hk e=>(hqn k e).elim (h.d0w k hk) λe=>?_,λk hk e=>(hqn k e).elim (h.d1w k hk) λe=>?_,?_⟩ hF8.chg λa ha=>(hq7 a ha).imp id λe=>by subst e;exact sz
  ·have:=hF8.blk 0 rfl
   unfold dfC
   rw [hput]
   exact this
  ·have:=ho7.keep g8 (am_.off λk hk e=>hqb (by rw [← e];exact hk))
   simpa [DM.put,List.flatMap_append,hnow,wrF,sv8'] using this
  ·have:=h.lt k (.inr (.inl hk));omega
  ·have:=h.lt k (.inr (.inr (.inl hk)));omega
  ·rw [hput];exact hc7
end Go.Vc
namespace Go.Vc
open Go
theorem lS_ {w:World} {b:Nat} {p:DP} {d:DM} (h:DskF w b p d) {s:List UInt8} (hs:s≠[]) (hroom:d.log.length+s.length≤9223372036854775807) (hw:d.ws.length≤1000000) {K:Value→World→Prop}
  (hK:∀w' q' c',DskF w' b { p with wq:=q',wc:=c' } (d.put (-1) s)→Chg (dfS b p) w w'→(∀a,q'=some a→p.wq=some a∨w.heap.size≤a.block)→K .nilIface w') :
  aa_ PR F.fL_ ⟨[.pointer (some ⟨b,0,none⟩),.string (str s)]⟩ w K:=by
 refine he_ b (-1) false (str d.log) p.q0 d.sl.length p.c0 (str d.llog) p.q1 d.lsl.length p.c1 p.wq d.ws.length p.wc (str s) (dfS b p) K w h.fs ⟨.inl rfl,trivial⟩ (gL_ h ⟨_,rfl,h.fs,λ_=>?_,(λt x h=>by cases h),.inl rfl⟩)
 refine jz_ h (.inl ⟨rfl,hs⟩) hroom hw λw1 q' c' h1 g1 hq=>?_
 exact ⟨_,rfl,_,_,_,_,_,_,_,_,_,_,_,_,_,h.fs.mod g1 h1.blk (λx hx=>by cases hx) λ_ _ e=>e,hK w1 q' c' h1 g1 hq⟩
theorem qs_ {w:World} {b:Nat} {p:DP} {d:DM} (h:DskF w b p d) {K:Value→World→Prop} (hK:K (.tuple #[.string (str d.log),.nilIface]) w):aa_ PR F.h6_ ⟨[.pointer (some ⟨b,0,none⟩)]⟩ w K:=
 kB_ b (-1) false (str d.log) p.q0 d.sl.length p.c0 (str d.llog) p.q1 d.lsl.length p.c1 p.wq d.ws.length p.wc (dfS b p) K w h.fs ⟨.inl rfl,trivial⟩ (gL_ h ⟨_,rfl,h.fs,λ_=>hK,(λt x h=>by cases h),.inl rfl⟩)
theorem mI_ {w:World} {b:Nat} {p:DP} {d:DM} (h:DskF w b p d) {K:Value→World→Prop} (hK:K (.int .i64 d.ws.length) w):aa_ PR F.go_ ⟨[.pointer (some ⟨b,0,none⟩)]⟩ w K:=
 iB_ b (-1) false (str d.log) p.q0 d.sl.length p.c0 (str d.llog) p.q1 d.lsl.length p.c1 p.wq d.ws.length p.wc (dfS b p) K w h.fs ⟨.inl rfl,trivial⟩ hK
def DM.settled (d:DM):DM:={ d with llog:=d.log,lsl:=d.sl,ws:=[] }
end Go.Vc
namespace Go.Vc
open Go
structure JP where
 bd:Nat
 p:DP
 q:Option Addr
 c:Nat
def jfS (bj:Nat) (j:JP):Nat→Prop:=λk=>k=bj∨dfS j.bd j.p k∨am_ j.q k
structure JrnF (w:World) (bj:Nat) (j:JP) (recs:List (List UInt8)) (d:DM):Prop where
 blk:w.heap[bj]? = some (.cells #[.pointer (some ⟨j.bd,0,none⟩),.slice j.q recs.length j.c,.int .i64 (logL recs).length] T.bL_ (0,0))
 own:Own T.string 1 w j.q j.c (recs.map sv8')
 cap:recs.length≤j.c
 dsk:DskF w j.bd j.p d
 log:d.log=logL recs
 nb:¬dfS j.bd j.p bj
 nq:¬am_ j.q bj
 qd:∀k,am_ j.q k→¬dfS j.bd j.p k
theorem JrnF.keep {S:Nat→Prop} {w w':World} {bj:Nat} {j:JP} {recs:List (List UInt8)} {d:DM} (h:JrnF w bj j recs d) (g:Chg S w w') (hn:∀k,jfS bj j k→¬S k):JrnF w' bj j recs d:=
 ⟨g.get h.blk (hn _ (.inl rfl)),h.own.keep g (am_.off λk hk=>hn k (.inr (.inr hk))),h.cap,h.dsk.keep g λk hk=>hn k (.inr (.inl hk)),h.log,h.nb,h.nq,h.qd⟩
theorem JrnF.grow {w w':World} {bj:Nat} {j:JP} {recs:List (List UInt8)} {d:DM} (h:JrnF w bj j recs d) (g:Grow w w'):JrnF w' bj j recs d:=h.keep g λ_ _ e=>e
theorem JrnF.lt {w:World} {bj:Nat} {j:JP} {recs:List (List UInt8)} {d:DM} (h:JrnF w bj j recs d):∀k,jfS bj j k→k<w.heap.size:=by
 rintro k (rfl | hk | ⟨a,ha,rfl⟩)
 ·exact aj_ h.blk
 ·exact h.dsk.lt k hk
 ·exact h.own.lt a ha
theorem rZ_ {b:Nat} {p:DP} {q':Option Addr} {c':Nat} {w:World} (hq:∀a,q'=some a→p.wq=some a∨w.heap.size≤a.block) {k:Nat} (h:dfS b { p with wq:=q',wc:=c' } k):dfS b p k∨w.heap.size≤k:=by
 rcases h with h | h | h | ⟨a,ha,rfl⟩
 ·exact .inl (.inl h)
 ·exact .inl (.inr (.inl h))
 ·exact .inl (.inr (.inr (.inl h)))
 ·rcases hq a ha with h | h
  ·exact .inl (.inr (.inr (.inr ⟨a,h,rfl⟩)))
  ·exact .inr h
theorem JrnF.fs {w:World} {bj:Nat} {j:JP} {recs:List (List UInt8)} {d:DM} (h:JrnF w bj j recs d):Fs (jfS bj j) w [⟨bj,#[.pointer (some ⟨j.bd,0,none⟩),.slice j.q recs.length j.c,.int .i64 (logL recs).length],T.bL_,true⟩] w:=(Fr.init _ w).entry h.blk (λx h=>by cases h) λ_=>.inl rfl
theorem jK_ {w:World} {bj:Nat} {j:JP} {recs:List (List UInt8)} {d:DM} (h:JrnF w bj j recs d) {y:Option Addr} {cy:Nat} {s:List UInt8} (hy:Sl w y [sv8' s]) (hyo:∀a,y=some a→¬jfS bj j a.block) (hs:s.length≤60000) (hb:(logL recs).length≤1099511627776) (hr:recs.length≤1099511627776) (hw:d.ws.length≤1000000) {K:Value→World→Prop}
  (hK:∀w' j',JrnF w' bj j' (recs++[s]) (d.put (-1) (ge_ crcN s))→Chg (jfS bj j) w w'→j'.bd=j.bd→(∀k,jfS bj j' k→jfS bj j k∨w.heap.size≤k)→K .nilIface w') :
  aa_ PR F.ea_ ⟨[.pointer (some ⟨bj,0,none⟩),.slice y 1 cy]⟩ w K:=by
 have hlen:=hS_ crcN s
 have h0:=h.fs
 have hbj:=aj_ h.blk
 refine fk_ bj (some ⟨j.bd,0,none⟩) j.q recs.length j.c (logL recs).length y 1 cy (jfS bj j) K w h0 ⟨.inl rfl,trivial⟩ ?_
 refine ⟨λt i m w'=>∃k:Nat,i=k∧k≤1∧m=1 - k∧t=str (if k=0 then [] else ge_ crcN s)∧Grow w w',⟨_,0,rfl,by omega,rfl,rfl,.refl _ _⟩,?_⟩
 rintro t i D m w1 ⟨k,rfl,hk,rfl,rfl,g1⟩ hF1
 refine ⟨λhlt=>?_,λhge=>?_⟩
 ·have hk0:k=0:=by omega
  subst hk0
  refine (hy.grow g1).rd (v:=sv8' s) (by simp) (by omega) rfl λa ha=>⟨_,ha,?_⟩
  refine ql_ hs λw2 g2=>⟨_,_,rfl,hF1.after g2,λ_=>⟨?_,_,?_,1,rfl,by omega,rfl,?_,g1.trans g2⟩,(λt x h=>by cases h),.inl rfl⟩
  ·rw [ai_,ai_,hlen];simp;omega
  ·omega
  ·rw [aD_];rfl
 ·have hk1:k=1:=by omega
  subst hk1
  rw [if_neg (by omega),ai_]
  have hsn:ge_ crcN s≠[]:=λe=>by have:=congrArg List.length e;rw [hlen] at this;simp at this
  have s1:=g1.size
  have hd1:=h.dsk.grow g1
  refine lS_ hd1 hsn (by rw [h.log,hlen];omega) hw λw2 wq' wc' hd2 g2 hq2=>?_
  have hF2:=hF1.step g2 (λx hx=>by simp at hx;subst hx;exact h.nb) λk _ e=>.inr (.inl e)
  refine ⟨_,rfl,hF2,λ_=>?_,(λt x h=>by cases h),.inl rfl⟩
  have ho2:Own T.string 1 w2 j.q j.c (recs.map sv8'):=(h.own.grow g1).keep g2 (am_.off λk hk e=>h.qd k hk e)
  have hy2:Sl w2 y [sv8' s]:=(hy.grow g1).keep g2 λa ha e=>hyo a ha (.inr (.inl e))
  refine kM_ ho2 rfl h.cap (ys:=[s]) hy2 rfl (by omega) λq' c' w3 ho3 hc3 g3 hq3=>?_
  have hF3:=hF2.step g3 (λx hx e=>by simp at hx;subst hx;exact h.nq e) λk _ e=>.inr (.inr e)
  refine ⟨_,_,_,rfl,hF3,λw4 hF4=>?_⟩
  have g4:Chg (· = bj) w3 w4:=hF4.stp.mono λi _ hi=>by simpa using hi
  have s2:=g2.size
  have hqn:∀k,am_ q' k→am_ j.q k∨w2.heap.size≤k:=by
   rintro k ⟨a,ha,rfl⟩
   rcases hq3 a ha with e | e
   ·exact .inl ⟨a,e,rfl⟩
   ·subst e;exact .inr (Nat.le_refl _)
  have hdn:∀k,dfS j.bd { j.p with wq:=wq',wc:=wc' } k→dfS j.bd j.p k∨w.heap.size≤k:=λk hk=>(rZ_ hq2 hk).imp id λe=>Nat.le_trans s1 e
  have hdl:∀k,dfS j.bd { j.p with wq:=wq',wc:=wc' } k→k<w2.heap.size:=λk hk=>hd2.lt k hk
  have hdq:∀k,dfS j.bd { j.p with wq:=wq',wc:=wc' } k→¬am_ j.q k:=λk hk e=>by
   rcases hdn k hk with h' | h'
   ·exact h.qd k e h'
   ·have:=h.lt k (.inr (.inr e));omega
  have hdb:¬dfS j.bd { j.p with wq:=wq',wc:=wc' } bj:=λe=>by
   rcases hdn bj e with h' | h'
   ·exact h.nb h'
   ·omega
  have hqb:¬am_ q' bj:=λe=>(hqn bj e).elim h.nq λe=>by omega
  have hd4:=(hd2.keep g3 hdq).keep g4 λk hk e=>hdb (by rw [← e];exact hk)
  refine hK w4 ⟨j.bd,{ j.p with wq:=wq',wc:=wc' },q',c'⟩ ⟨?_,ho3.keep g4 (am_.off λk hk e=>hqb (by rw [← e];exact hk)),by simpa using hc3,hd4,?_,hdb,hqb,λk hk e=>?_⟩ hF4.chg rfl λk hk=>?_
  ·have hb4:=hF4.blk 0 rfl
   simp only [] at hb4
   rw [w64 (by rw [hlen];omega) (by rw [hlen];omega)] at hb4
   rw [hb4,fT_,List.length_append]
   simp
  ·show (d.put (-1) (ge_ crcN s)).log=_
   rw [fT_,← h.log];rfl
  ·rcases hqn k hk with h' | h'
   ·exact hdq k e h'
   ·have:=hdl k e;omega
  ·rcases hk with h' | h' | h'
   ·exact .inl (.inl h')
   ·exact (hdn k h').imp (λe=>.inr (.inl e)) id
   ·rcases hqn k h' with e | e
    ·exact .inl (.inr (.inr e))
    ·exact .inr (by omega)
end Go.Vc
namespace Go.Vc
open Go Go.MapKept
open Go.ChangeMaps (setBlock)
def aM_ (i:Int):Prop:=-9223372036854775808≤i∧i≤9223372036854775807
theorem bJ_ {α:Type} : ∀(l m:List α),l.Nodup→(∀x∈l,x∈m)→l.length≤m.length
 | [],m,_,_=>Nat.zero_le _
 | a :: l,m,hn,hs=>by
  classical
  have hn':=List.nodup_cons.1 hn
  have h1:=bJ_ l (m.erase a) hn'.2 λx hx=>(List.mem_erase_of_ne (λe=>hn'.1 (by rw [← e];exact hx))).2 (hs x (List.mem_cons_of_mem _ hx))
  have ha:=hs a List.mem_cons_self
  have:=List.length_pos_of_mem ha
  rw [List.length_erase_of_mem ha] at h1
  simp only [List.length_cons];omega
structure MapI (w:World) (r:Nat) (l:List (Int × Value)):Prop where
 nd:(l.map (·.1)).Nodup
 fit:∀p∈l,aM_ p.1
 ex:∃es clock,w.heap[r]? = some (.map es clock)∧Stamped es clock∧es.size=l.length∧(∀x∈es.toList,∃p∈l,x.key=.int .i64 p.1∧x.val=p.2)∧∀p∈l,∃x∈es.toList,x.key=.int .i64 p.1∧x.val=p.2
def grI (l:List (Int × Value)):Value→Value→Prop:=λkey v=>∃p∈l,key=.int .i64 p.1∧v=p.2
theorem MapI.keep {S:Nat→Prop} {w w':World} {r:Nat} {l:List (Int × Value)} (h:MapI w r l) (g:Chg S w w') (hn:¬S r):MapI w' r l:=by
 obtain ⟨es,clock,h1,h2⟩:=h.ex
 exact ⟨h.nd,h.fit,es,clock,g.get h1 hn,h2⟩
theorem MapI.grow {w w':World} {r:Nat} {l:List (Int × Value)} (h:MapI w r l) (g:Grow w w'):MapI w' r l:=h.keep g id
theorem MapI.lt {w:World} {r:Nat} {l:List (Int × Value)} (h:MapI w r l):r<w.heap.size:=by
 obtain ⟨es,clock,h1,h2⟩:=h.ex;exact aj_ h1
theorem MapI.ne {w:World} {r k:Nat} {l:List (Int × Value)} {cs:Array Value} {t:TypeId} {a:Nat × Nat} (h:MapI w r l) (hb:w.heap[k]? = some (.cells cs t a)):k≠r:=by
 rintro rfl
 obtain ⟨es,clock,h1,h2⟩:=h.ex
 rw [hb] at h1;cases h1
theorem MapI.mapP {w:World} {r:Nat} {l:List (Int × Value)} (h:MapI w r l):MapP w T.int r l.length (grI l):=by
 obtain ⟨es,clock,h1,h2,h3,h4,h5⟩:=h.ex
 refine ⟨es,clock,h1,h2,Nat.le_of_eq h3,λx hx=>?_,λkey v=>⟨λ⟨p,hp,e1,e2⟩=>?_,λ⟨x,hx,e1,e2⟩=>?_⟩⟩
 ·obtain ⟨p,hp,e1,_⟩:=h4 x hx
  exact ⟨_,by rw [e1];exact b0_ (h.fit p hp).1 (h.fit p hp).2⟩
 ·obtain ⟨x,hx,k1,k2⟩:=h5 p hp
  exact ⟨x,hx,k1.trans e1.symm,k2.trans e2.symm⟩
 ·obtain ⟨p,hp,k1,k2⟩:=h4 x hx
  exact ⟨p,hp,e1 ▸ k1,e2 ▸ k2⟩
theorem int_inj {a b:Int} (h:Value.int .i64 a=Value.int .i64 b):a=b:=by cases h;rfl
theorem po_ {l:List (Int × Value)} (h:(l.map (·.1)).Nodup):(l.map λp=>Value.int .i64 p.1).Nodup:=by
 rw [List.nodup_iff_pairwise_ne,List.pairwise_map] at *
 exact h.imp λhn e=>hn (int_inj e)
theorem MapI.of {w:World} {r n:Nat} {R:Value→Value→Prop} {l:List (Int × Value)} (h:MapP w T.int r n R) (hn:(l.map (·.1)).Nodup) (hf:∀p∈l,aM_ p.1) (hR:∀key v,R key v↔grI l key v):MapI w r l:=by
 obtain ⟨es,clock,h1,h2,h3,h4,h5⟩:=h
 have a1:∀x∈es.toList,∃p∈l,x.key=.int .i64 p.1∧x.val=p.2:=λx hx=>(hR _ _).1 ((h5 _ _).2 ⟨x,hx,rfl,rfl⟩)
 have a2:∀p∈l,∃x∈es.toList,x.key=.int .i64 p.1∧x.val=p.2:=λp hp=>(h5 _ _).1 ((hR _ _).2 ⟨p,hp,rfl,rfl⟩)
 have hk:=h2.2.2
 refine ⟨hn,hf,es,clock,h1,h2,?_,a1,a2⟩
 have b1:=bJ_ (es.toList.map (·.key)) (l.map λp=>Value.int .i64 p.1) hk λv hv=>by
  obtain ⟨x,hx,rfl⟩:=List.mem_map.1 hv
  obtain ⟨p,hp,e,_⟩:=a1 x hx
  exact List.mem_map.2 ⟨p,hp,e.symm⟩
 have b2:=bJ_ (l.map λp=>Value.int .i64 p.1) (es.toList.map (·.key)) (po_ hn) λv hv=>by
  obtain ⟨p,hp,rfl⟩:=List.mem_map.1 hv
  obtain ⟨x,hx,e,_⟩:=a2 p hp
  exact List.mem_map.2 ⟨x,hx,e⟩
 simp only [List.length_map,Array.length_toList] at b1 b2
 omega
theorem oE_ {l:List (Int × Value)} (hn:(l.map (·.1)).Nodup) {p q:Int × Value} (hp:p∈l) (hq:q∈l) (e:p.1=q.1):p=q:=by
 obtain ⟨i,hi⟩:=List.getElem?_of_mem hp
 obtain ⟨j,hj⟩:=List.getElem?_of_mem hq
 have:i=j:=bs_ hn (a:=p.1) (by rw [List.getElem?_map,hi];rfl) (by rw [List.getElem?_map,hj,e];rfl)
 subst this
 rw [hi] at hj;exact Option.some.inj hj
theorem aQ_ {t:TypeId} {w:World} {K:Value→World→Prop} (hK:∀w' r,r=w.heap.size→MapI w' r []→Grow w w'→K (.map (some r)) w'):rn PR (Instr.makeMap t Option.none) K w:=
 pt_ (k:=T.int) λw' r hr hm g=>hK w' r hr (.of hm .nil (λp hp=>by cases hp) λkey v=>⟨λh=>h.elim,λ⟨p,hp,_⟩=>by cases hp⟩) g
theorem aJ_ {t e:TypeId} (ht:PR.underlying t=some (.map T.int e)) {w:World} {r:Nat} {l:List (Int × Value)} (h:MapI w r l) {k:Int} (hk:aM_ k) (c:Bool) {z:Value} (hz:∀w:World,(zeroValue e).run PR w=.ok z w) {K:Value→World→Prop}
  (h1:∀v,(k,v)∈l→K (if c then .tuple #[v,.bool true] else v) w) (h2:(∀p∈l,p.1≠k)→K (if c then .tuple #[z,.bool false] else z) w):rn PR (Instr.lookup t (.map (some r)) (.int .i64 k) c) K w:=
 ib_ nh_ ht h.mapP (b0_ hk.1 hk.2) c hz (λv ⟨p,hp,e1,e2⟩=>h1 v (by have:=int_inj e1;subst this;subst e2;exact hp)) λhn=>h2 λp hp e=>hn p.2 ⟨p,hp,by rw [e],rfl⟩
def putI (l:List (Int × Value)) (k:Int) (v:Value):List (Int × Value):=if (l.any λp=>p.1 == k) then l.map (λp=>if p.1=k then (k,v) else p) else l++[(k,v)]
def delI (l:List (Int × Value)) (k:Int):List (Int × Value):=l.filter λp=>p.1 != k
theorem kO_ {l:List (Int × Value)} {k:Int} : (l.any λp=>p.1 == k)=true↔∃p∈l,p.1=k:=by simp
theorem fH_ {l:List (Int × Value)} {k:Int} {v:Value} (h:∀p∈l,p.1≠k):putI l k v=l++[(k,v)]:=by
 unfold putI
 rw [if_neg (λe=>by obtain ⟨p,hp,e⟩:=kO_.1 e;exact h p hp e)]
theorem j3_ {l:List (Int × Value)} {k:Int} {v:Value} (h:∃p∈l,p.1=k):(putI l k v).map (·.1)=l.map (·.1):=by
 unfold putI
 rw [if_pos (kO_.2 h),List.map_map]
 refine List.map_congr_left λp hp=>?_
 show (if p.1=k then (k,v) else p).1=p.1
 split
 ·rename_i e;exact e.symm
 ·rfl
theorem cp_ {l:List (Int × Value)} {k:Int} {v:Value} {p:Int × Value} : p∈putI l k v↔p=(k,v)∨p∈l∧p.1≠k:=by
 unfold putI
 split
 ·rename_i h
  obtain ⟨q,hq,e⟩:=kO_.1 h
  rw [List.mem_map]
  constructor
  ·rintro ⟨x,hx,rfl⟩
   split
   ·exact .inl rfl
   ·rename_i hne;exact .inr ⟨hx,hne⟩
  ·rintro (rfl | ⟨hp,hne⟩)
   ·exact ⟨q,hq,by rw [if_pos e]⟩
   ·exact ⟨p,hp,by rw [if_neg hne]⟩
 ·rename_i h
  rw [List.mem_append,List.mem_singleton]
  constructor
  ·rintro (hp | rfl)
   ·exact .inr ⟨hp,λe=>h (kO_.2 ⟨p,hp,e⟩)⟩
   ·exact .inl rfl
  ·rintro (rfl | ⟨hp,_⟩)
   ·exact .inr rfl
   ·exact .inl hp
theorem nP_ {l:List (Int × Value)} (hn:(l.map (·.1)).Nodup) {k:Int} {v:Value} : ((putI l k v).map (·.1)).Nodup:=by
 by_cases h:∃p∈l,p.1=k
 ·rw [j3_ h];exact hn
 ·have h':∀p∈l,p.1≠k:=λp hp e=>h ⟨p,hp,e⟩
  rw [fH_ h',List.map_append,List.nodup_append]
  refine ⟨hn,by simp,λa ha b hb e=>?_⟩
  obtain ⟨p,hp,rfl⟩:=List.mem_map.1 ha
  simp at hb
  exact h' p hp (e.trans hb)
theorem cq_ {l:List (Int × Value)} {k:Int} {p:Int × Value} : p∈delI l k↔p∈l∧p.1≠k:=by simp [delI]
theorem jl_ {l:List (Int × Value)} (hn:(l.map (·.1)).Nodup) {k:Int} : ((delI l k).map (·.1)).Nodup:=by
 rw [List.nodup_iff_pairwise_ne,List.pairwise_map] at *
 exact hn.filter _
theorem bR_ {t e:TypeId} (ht:PR.underlying t=some (.map T.int e)) {w:World} {r:Nat} {l:List (Int × Value)} (h:MapI w r l) {k:Int} (hk:aM_ k) {v:Value} {K:Unit→World→Prop}
  (hK:∀w',MapI w' r (putI l k v)→Chg (· = r) w w'→w'.heap.size=w.heap.size→K () w'):rn PR (Instr.mapUpdate t (.map (some r)) (.int .i64 k) v) K w:=by
 refine kV_ nh_ ht h.mapP (b0_ hk.1 hk.2) λw' hm g hs=>hK w' (.of hm (nP_ h.nd) (λp hp=>?_) λkey x=>?_) g hs
 ·rcases cp_.1 hp with rfl | ⟨hp,_⟩
  ·exact hk
  ·exact h.fit p hp
 ·constructor
  ·rintro (⟨rfl,rfl⟩ | ⟨hne,p,hp,rfl,rfl⟩)
   ·exact ⟨(k,x),cp_.2 (.inl rfl),rfl,rfl⟩
   ·exact ⟨p,cp_.2 (.inr ⟨hp,λe=>hne (by rw [e])⟩),rfl,rfl⟩
  ·rintro ⟨p,hp,rfl,rfl⟩
   rcases cp_.1 hp with rfl | ⟨hp,hne⟩
   ·exact .inl ⟨rfl,rfl⟩
   ·exact .inr ⟨λe=>hne (int_inj e),p,hp,rfl,rfl⟩
theorem b3_ {t e ty:TypeId} (ht:PR.underlying t=some (.map T.int e)) {w:World} {r:Nat} {l:List (Int × Value)} (h:MapI w r l) {k:Int} (hk:aM_ k) {K:Value→World→Prop}
  (hK:∀w',MapI w' r (delI l k)→Chg (· = r) w w'→w'.heap.size=w.heap.size→K (.tuple #[]) w'):rn PR (Builtin.delete_ #[t,T.int] ty #[.map (some r),.int .i64 k]) K w:=by
 obtain ⟨es,clock,h1,h2,h3,h4,h5⟩:=h.mapP
 obtain ⟨es',hrun,hst,hsz,hsl,hmem⟩:=jA_ (ty:=ty) nh_ ht h1 h2 h4 (b0_ hk.1 hk.2)
 refine do_ hrun (hK _ (.of (n:=l.length) (R:=λkey v=>grI l key v∧key≠.int .i64 k) ⟨es',clock,fZ_ h1,hst,by omega,λx hx=>h4 x (hsl.subset hx),λkey v=>?_⟩ (jl_ h.nd) (λp hp=>h.fit p (cq_.1 hp).1) λkey v=>?_) (hr_ _ _ _) (by simp [setBlock]))
 ·constructor
  ·rintro ⟨hg,hne⟩
   obtain ⟨x,hx,e1,e2⟩:=(h5 _ _).1 hg
   exact ⟨x,(hmem x).2 ⟨hx,by rw [e1];exact hne⟩,e1,e2⟩
  ·rintro ⟨x,hx,rfl,rfl⟩
   have:=(hmem x).1 hx
   exact ⟨(h5 _ _).2 ⟨x,this.1,rfl,rfl⟩,this.2⟩
 ·constructor
  ·rintro ⟨⟨p,hp,rfl,rfl⟩,hne⟩
   exact ⟨p,cq_.2 ⟨hp,λe=>hne (by rw [e])⟩,rfl,rfl⟩
  ·rintro ⟨p,hp,rfl,rfl⟩
   have:=cq_.1 hp
   exact ⟨⟨p,this.1,rfl,rfl⟩,λe=>this.2 (int_inj e)⟩
structure d2_ (w:World) (r ri:Nat) (l:List (Int × Value)) (done:List Int):Prop where
 nd:(l.map (·.1)).Nodup
 dn:done.Nodup
 sub:∀i∈done,i∈l.map (·.1)
 ex:∃es since seen c0 clock,w.heap[r]? = some (.map es clock)∧Stamped es clock∧w.heap[ri]? = some (.mapIter (some r) since seen c0)∧(∀x∈es.toList,x.born<since)∧since≤c0∧since≤clock∧(∀x∈es.toList,∃p∈l,x.key=.int .i64 p.1∧x.val=p.2)∧(∀p∈l,∃x∈es.toList,x.key=.int .i64 p.1∧x.val=p.2)∧∀x∈es.toList,seen.contains x.born=true↔∃i∈done,x.key=.int .i64 i
theorem d2_.keep {S:Nat→Prop} {w w':World} {r ri:Nat} {l:List (Int × Value)} {done:List Int} (h:d2_ w r ri l done) (g:Chg S w w') (h1:¬S r) (h2:¬S ri):d2_ w' r ri l done:=by
 obtain ⟨es,since,seen,c0,clock,e1,e2,e3,e4⟩:=h.ex
 exact ⟨h.nd,h.dn,h.sub,es,since,seen,c0,clock,g.get e1 h1,e2,g.get e3 h2,e4⟩
theorem d2_.grow {w w':World} {r ri:Nat} {l:List (Int × Value)} {done:List Int} (h:d2_ w r ri l done) (g:Grow w w'):d2_ w' r ri l done:=h.keep g id id
theorem d2_.lt {w:World} {r ri:Nat} {l:List (Int × Value)} {done:List Int} (h:d2_ w r ri l done):ri<w.heap.size:=by
 obtain ⟨es,since,seen,c0,clock,e1,e2,e3,e4⟩:=h.ex;exact aj_ e3
theorem d2_.ne {w:World} {r ri k:Nat} {l:List (Int × Value)} {done:List Int} {cs:Array Value} {t:TypeId} {a:Nat × Nat} (h:d2_ w r ri l done) (hb:w.heap[k]? = some (.cells cs t a)):k≠ri:=by
 rintro rfl
 obtain ⟨es,since,seen,c0,clock,e1,e2,e3,e4⟩:=h.ex
 rw [hb] at e3;cases e3
theorem hU_ {t e:TypeId} (ht:PR.underlying t=some (.map T.int e)) {w:World} {r:Nat} {l:List (Int × Value)} (h:MapI w r l) {K:Value→World→Prop}
  (hK:∀w' ri,ri=w.heap.size→d2_ w' r ri l []→Grow w w'→K (.pointer (some ⟨ri,0,none⟩)) w'):rn PR (Instr.range t (.map (some r))) K w:=by
 obtain ⟨es,clock,h1,h2,h3,h4,h5⟩:=h.ex
 refine do_ (run_range_map w t T.int e r es clock ht h1) (hK _ _ rfl ⟨h.nd,.nil,(λi hi=>by cases hi),es,clock,#[],clock,clock,?_,h2,?_,h2.1,Nat.le_refl _,Nat.le_refl _,h4,h5,λx hx=>⟨λhs=>by simp at hs,λ⟨i,hi,_⟩=>by cases hi⟩⟩ (Chg.alloc _ _))
 ·exact Grow.get (Chg.alloc _ _) h1
 ·show (w.heap.push _)[_]? = _;simp
structure EntI (w:World) (r ri:Nat) (l:List (Int × Value)) (done:List Int) (p:Int × Value):Prop where
 it:d2_ w r ri l (p.1 :: done)
 ent:(Instr.entry (.pointer (some ⟨ri,0,none⟩))).run PR w=.ok (.tuple #[.int .i64 p.1,p.2]) w
theorem na_ {ty:TypeId} {w:World} {r ri:Nat} {l:List (Int × Value)} {done:List Int} (h:d2_ w r ri l done) {K:Value→World→Prop}
  (hE:(∀p∈l,p.1∈done)→K (.tuple #[.bool false]) w)
  (hN:∀p w',p∈l→p.1∉done→done.length<l.length→EntI w' r ri l done p→Chg (· = ri) w w'→w'.heap.size=w.heap.size→K (.tuple #[.bool true,.int .i64 p.1,p.2]) w') :
  rn PR (Instr.next (.pointer (some ⟨ri,0,none⟩)) false ty) K w:=by
 obtain ⟨es,since,seen,c0,clock,e1,e2,e3,e4,e5,e6,e7,e8,e9⟩:=h.ex
 rcases run_next_at (P:=PR) w ty ri r since c0 seen es clock e3 e1 e4 e5 with ⟨h0,hrun⟩ | ⟨x,hx,w1,hal,hrun⟩
 ·refine do_ hrun (hE λp hp=>?_)
  obtain ⟨x,hx,k1,k2⟩:=e8 p hp
  obtain ⟨i,hi,k3⟩:=(e9 x hx).1 (all_seen es seen h0 x hx)
  rw [k1] at k3
  rw [int_inj k3];exact hi
 ·obtain ⟨hm,hs⟩:=mem_left hx
  obtain ⟨p,hp,k1,k2⟩:=e7 x hm
  have hnd:p.1∉done:=λhd=>by
   have:=(e9 x hm).2 ⟨p.1,hd,k1⟩
   rw [this] at hs;cases hs
  have hri:ri≠r:=λe=>by rw [e,e1] at e3;cases e3
  have g1:Grow w w1:=by rcases hal with rfl | rfl;exact .refl _ _;exact .drew _
  have hr1:w1.heap[ri]? = some (.mapIter (some r) since seen c0):=by rcases hal with rfl | rfl <;> exact e3
  have hb1:w1.heap[r]? = some (.map es clock):=by rcases hal with rfl | rfl <;> exact e1
  have sz:w1.heap.size=w.heap.size:=by rcases hal with rfl | rfl <;> rfl
  have g2:Chg (· = ri) w1 (setBlock w1 ri (.mapIter (some r) since (seen.push x.born) clock)):=hr_ _ _ _
  have hr2:=fZ_ (o':=.mapIter (some r) since (seen.push x.born) clock) hr1
  have hb2:=g2.get hb1 hri.symm
  have sz2:(setBlock w1 ri (.mapIter (some r) since (seen.push x.born) clock)).heap.size=w1.heap.size:=by simp [setBlock]
  have hlen:done.length<l.length:=by
   have:=bJ_ (p.1 :: done) (l.map (·.1)) (List.nodup_cons.2 ⟨hnd,h.dn⟩) λi hi=>by
    rcases List.mem_cons.1 hi with rfl | hi
    ·exact List.mem_map.2 ⟨p,hp,rfl⟩
    ·exact h.sub i hi
   simp at this;omega
  refine do_ hrun ?_
  rw [k1,k2]
  refine hN p _ hp hnd hlen ⟨⟨h.nd,List.nodup_cons.2 ⟨hnd,h.dn⟩,λi hi=>?_,es,since,seen.push x.born,clock,clock,hb2,e2,hr2,e4,e6,e6,e7,e8,λy hy=>?_⟩,?_⟩ (g1.chg.trans g2 λk _ e=>e) (by rw [sz2,sz])
  ·rcases List.mem_cons.1 hi with rfl | hi
   ·exact List.mem_map.2 ⟨p,hp,rfl⟩
   ·exact h.sub i hi
  ·by_cases hye:y.born=x.born
   ·have:y=x:=born_inj e2.2.1 hy hm hye
    subst this
    simp only [Array.contains_push,List.mem_cons]
    exact ⟨λ_=>⟨p.1,.inl rfl,k1⟩,λ_=>by simp⟩
   ·have hkey:y.key≠.int .i64 p.1:=λe=>by
     have:y=x:=by
      obtain ⟨i,hi⟩:=List.getElem?_of_mem hy
      obtain ⟨j,hj⟩:=List.getElem?_of_mem hm
      have:i=j:=bs_ e2.2.2 (a:=y.key) (by rw [List.getElem?_map,hi];rfl) (by rw [List.getElem?_map,hj,e,← k1];rfl)
      subst this
      rw [hi] at hj;exact Option.some.inj hj
     exact hye (by rw [this])
    have:(seen.push x.born).contains y.born=seen.contains y.born:=by
     simp [Array.contains_push,hye]
    rw [this,e9 y hy]
    constructor
    ·rintro ⟨i,hi,e⟩;exact ⟨i,List.mem_cons_of_mem _ hi,e⟩
    ·rintro ⟨i,hi,e⟩
     rcases List.mem_cons.1 hi with rfl | hi
     ·exact absurd e hkey
     ·exact ⟨i,hi,e⟩
  ·rw [← k1,← k2]
   exact run_entry_at _ ri r since seen es clock x hr2 hb2 hm e2.2.1
end Go.Vc
namespace Go.Vc
open Go Go.MapKept
structure HV where
 man:Man
 q:Option Addr
 c:Nat
 b:Nat
 bm:Nat
 om:Nat
 bl:List (Int × Int × List UInt8)
 ol:List (Int × Int × List UInt8)
def plV (x:Int × List UInt8):Value:=.agg #[.int .i64 x.1,.string (str x.2)]
def blI (l:List (Int × Int × List UInt8)):List (Int × Value):=l.map λp=>(p.1,plV p.2)
def hvC (v:HV):Array Value:=#[.int .i64 v.man.version,.int .i64 v.man.nodes,.int .i64 v.man.edges,.slice v.q v.man.shards.length v.c,.int .i64 v.man.blocks,.string (str v.man.root),.map (some v.bm),.map (some v.om)]
structure HVAt (w:World) (v:HV):Prop where
 blk:w.heap[v.b]? = some (.cells (hvC v) T.aL_ (0,0))
 own:Own T.aS_ 2 w v.q v.c (encE v.man.shards)
 bm:MapI w v.bm (blI v.bl)
 om:MapI w v.om (blI v.ol)
 ok:v.man.ok
 inB:∀p∈v.bl,0≤p.1∧p.1<v.man.blocks
def vS (v:HV):Nat→Prop:=λk=>k=v.b∨k=v.bm∨k=v.om∨am_ v.q k
theorem HVAt.keep {S:Nat→Prop} {w w':World} {v:HV} (h:HVAt w v) (g:Chg S w w') (hn:∀k,vS v k→¬S k):HVAt w' v:=
 ⟨g.get h.blk (hn _ (.inl rfl)),h.own.keep g (am_.off λk hk=>hn k (.inr (.inr (.inr hk)))),h.bm.keep g (hn _ (.inr (.inl rfl))),h.om.keep g (hn _ (.inr (.inr (.inl rfl)))),h.ok,h.inB⟩
theorem HVAt.grow {w w':World} {v:HV} (h:HVAt w v) (g:Grow w w'):HVAt w' v:=h.keep g λ_ _ e=>e
theorem HVAt.lt {w:World} {v:HV} (h:HVAt w v):∀k,vS v k→k<w.heap.size:=by
 rintro k (rfl | rfl | rfl | ⟨a,ha,rfl⟩)
 ·exact aj_ h.blk
 ·exact h.bm.lt
 ·exact h.om.lt
 ·exact h.own.lt a ha
structure HS where
 bh:Nat
 bj:Nat
 m:Nat
 j:JP
 recs:List (List UInt8)
 d:DM
 vs:List HV
 act:Int
 prep:Int
 lv:Int
 li:Int
def hsC (s:HS):Array Value:=#[.pointer (some ⟨s.bj,0,none⟩),.map (some s.m),.int .i64 s.act,.int .i64 s.prep,.int .i64 s.lv,.int .i64 s.li]
def ptV (v:HV):Int × Value:=(v.man.version,.pointer (some ⟨v.b,0,none⟩))
structure az_ (w:World) (s:HS):Prop where
 blk:w.heap[s.bh]? = some (.cells (hsC s) T.as_ (0,0))
 jr:JrnF w s.bj s.j s.recs s.d
 mp:MapI w s.m (s.vs.map ptV)
 vs:∀v∈s.vs,HVAt w v
 nd:(s.m :: s.vs.flatMap λv=>[v.bm,v.om]).Nodup
 sl:∀v∈s.vs,∀p∈v.bl++v.ol,0≤p.2.1∧p.2.1<s.d.sl.length
 few:s.vs.length≤3
 dl:s.d.sl.length≤4096
def hS (s:HS):Nat→Prop:=λk=>k=s.bh∨jfS s.bj s.j k∨k=s.m∨∃v∈s.vs,k=v.bm∨k=v.om
def hA (s:HS):Nat→Prop:=λk=>hS s k∨∃v∈s.vs,vS v k
theorem az_.keep {S:Nat→Prop} {w w':World} {s:HS} (h:az_ w s) (g:Chg S w w') (hn:∀k,hA s k→¬S k):az_ w' s:=
 ⟨g.get h.blk (hn _ (.inl (.inl rfl))),h.jr.keep g λk hk=>hn k (.inl (.inr (.inl hk))),h.mp.keep g (hn _ (.inl (.inr (.inr (.inl rfl))))),λv hv=>(h.vs v hv).keep g λk hk=>hn k (.inr ⟨v,hv,hk⟩),h.nd,h.sl,h.few,h.dl⟩
theorem az_.grow {w w':World} {s:HS} (h:az_ w s) (g:Grow w w'):az_ w' s:=h.keep g λ_ _ e=>e
theorem az_.lt {w:World} {s:HS} (h:az_ w s):∀k,hA s k→k<w.heap.size:=by
 rintro k ((rfl | hk | rfl | ⟨v,hv,rfl | rfl⟩) | ⟨v,hv,hk⟩)
 ·exact aj_ h.blk
 ·exact h.jr.lt k hk
 ·exact h.mp.lt
 ·exact (h.vs v hv).bm.lt
 ·exact (h.vs v hv).om.lt
 ·exact (h.vs v hv).lt k hk
theorem JrnF.cells {w:World} {bj:Nat} {j:JP} {recs:List (List UInt8)} {d:DM} (h:JrnF w bj j recs d) {k:Nat} (hk:jfS bj j k):∃cs t f,w.heap[k]? = some (.cells cs t f)∧(t=T.bL_∨t=T.cO_∨t=T.string∨t=T.b2_):=by
 rcases hk with rfl | (rfl | ⟨a,ha,rfl⟩ | ⟨a,ha,rfl⟩ | ⟨a,ha,rfl⟩) | ⟨a,ha,rfl⟩
 ·exact ⟨_,_,_,h.blk,.inl rfl⟩
 ·exact ⟨_,_,_,h.dsk.blk,.inr (.inl rfl)⟩
 ·obtain ⟨cs,hh⟩:=h.dsk.o0.ty ha;exact ⟨_,_,_,hh,.inr (.inr (.inl rfl))⟩
 ·obtain ⟨cs,hh⟩:=h.dsk.o1.ty ha;exact ⟨_,_,_,hh,.inr (.inr (.inl rfl))⟩
 ·obtain ⟨cs,hh⟩:=h.dsk.ow.ty ha;exact ⟨_,_,_,hh,.inr (.inr (.inr rfl))⟩
 ·obtain ⟨cs,hh⟩:=h.own.ty ha;exact ⟨_,_,_,hh,.inr (.inr (.inl rfl))⟩
theorem JrnF.other {w:World} {bj:Nat} {j:JP} {recs:List (List UInt8)} {d:DM} (h:JrnF w bj j recs d) {k:Nat} {cs:Array Value} {t:TypeId} {f:Nat × Nat} (hb:w.heap[k]? = some (.cells cs t f)) (ht:t=T.as_∨t=T.aL_∨t=T.aS_):¬jfS bj j k:=λhk=>by
 obtain ⟨ds,u,g,hh,hu⟩:=h.cells hk
 rw [hb] at hh
 cases hh
 rcases ht with rfl | rfl | rfl <;> rcases hu with e | e | e | e <;> exact absurd e (by decide)
theorem JrnF.map {w:World} {bj r:Nat} {j:JP} {recs:List (List UInt8)} {d:DM} {l:List (Int × Value)} (h:JrnF w bj j recs d) (hm:MapI w r l):¬jfS bj j r:=λhk=>by
 obtain ⟨ds,u,g,hh,hu⟩:=h.cells hk
 exact hm.ne hh rfl
theorem HVAt.off {w:World} {v:HV} (h:HVAt w v) {k:Nat} (hk:k=v.b∨am_ v.q k):∃cs t f,w.heap[k]? = some (.cells cs t f)∧(t=T.aL_∨t=T.aS_):=by
 rcases hk with rfl | ⟨a,ha,rfl⟩
 ·exact ⟨_,_,_,h.blk,.inl rfl⟩
 ·obtain ⟨cs,hh⟩:=h.own.ty ha;exact ⟨_,_,_,hh,.inr rfl⟩
theorem az_.bhj {w:World} {s:HS} (h:az_ w s):¬jfS s.bj s.j s.bh:=h.jr.other h.blk (.inl rfl)
theorem az_.mj {w:World} {s:HS} (h:az_ w s):¬jfS s.bj s.j s.m:=h.jr.map h.mp
theorem az_.fs {w:World} {s:HS} (h:az_ w s):Fs (hS s) w [⟨s.bh,hsC s,T.as_,true⟩] w:=(Fr.init _ w).entry h.blk (λx h=>by cases h) λ_=>.inl rfl
theorem az_.uniq {w:World} {s:HS} (h:az_ w s) {a b:HV} (ha:a∈s.vs) (hb:b∈s.vs) (e:a.man.version=b.man.version):a=b:=by
 have hn:=h.mp.nd
 rw [List.map_map] at hn
 obtain ⟨i,hi⟩:=List.getElem?_of_mem ha
 obtain ⟨j,hj⟩:=List.getElem?_of_mem hb
 have:i=j:=bs_ hn (a:=a.man.version) (by rw [List.getElem?_map,hi];rfl) (by rw [List.getElem?_map,hj];exact congrArg some e.symm)
 subst this
 rw [hi] at hj;exact Option.some.inj hj
def iV_ (s:HS) (n:Int):Prop:=∃v∈s.vs,∃p∈v.bl++v.ol,p.2.1=n
theorem pJ_ (s:HS) (h:(s.vs.flatMap λv=>v.bl++v.ol).length<s.d.sl.length):∃n:Nat,n<s.d.sl.length∧¬iV_ s n:=by
 refine Classical.byContradiction λhc=>?_
 have h1:=bJ_ ((List.range s.d.sl.length).map λn:Nat=>(n:Int)) ((s.vs.flatMap λv=>v.bl++v.ol).map (·.2.1)) ?_ λx hx=>?_
 ·simp only [List.length_map,List.length_range] at h1;omega
 ·rw [List.nodup_iff_pairwise_ne,List.pairwise_map]
  exact (List.nodup_iff_pairwise_ne.1 List.nodup_range).imp λhn e=>hn (by omega)
 ·obtain ⟨n,hn,rfl⟩:=List.mem_map.1 hx
  have hu:iV_ s n:=Classical.byContradiction λhu=>hc ⟨n,List.mem_range.1 hn,hu⟩
  obtain ⟨v,hv,p,hp,e⟩:=hu
  exact List.mem_map.2 ⟨p,List.mem_flatMap.2 ⟨v,hv,hp⟩,e⟩
end Go.Vc
namespace Go.Vc
open Go
theorem pS_ (k0:Nat) (m1:Int) (t2:Bool) (z3:ByteArray) (y4:Option Addr) (ly4:Nat) (cy4:Nat) (z5:ByteArray) (y6:Option Addr) (ly6:Nat) (cy6:Nat) (y7:Option Addr) (ly7:Nat) (cy7:Nat) (m8:Int) (S:SP) (K:KP) (w:World) (hF:Fs S w [⟨k0,#[.int .i64 m1,.bool t2,.string z3,.slice y4 ly4 cy4,.string z5,.slice y6 ly6 cy6,.slice y7 ly7 cy7],119,true⟩] w) (hS:S k0∧True) (h:aa_ PR 135 #[.pointer (some (⟨k0,0,none⟩))] w λv0 w0=>∃v1,v0=v1∧Fs S w [⟨k0,#[Iv m1,.bool t2,.string z3,.slice y4 ly4 cy4,.string z5,.slice y6 ly6 cy6,.slice y7 ly7 cy7],119,true⟩] w0∧(v1=.nilIface→(m8<0→K (.iface 39 (Iv 2)) w0)∧(¬(m8<0)→(m8≥(ly4:Int)→K (.iface 39 (Iv 2)) w0)∧(¬(m8≥(ly4:Int))→K .nilIface w0)))∧(∀x0 v2,v1=.iface x0 v2→K v1 w0)∧(v1=.nilIface∨∃l0 v3,v1=.iface l0 v3)):aa_ PR 122 ⟨[.pointer (some ⟨k0,0,none⟩),.int .i64 m8]⟩ w K:=
 ab_ (okf:=⟨okL,[]⟩) ag_ (args:=[.c (.p 0 k0 true 0),.c (.v (.int .i64 m8))]) (H:=[⟨k0,.l [.v (.int .i64 m1),.v (.bool t2),.v (.string z3),.v (.slice y4 ly4 cy4),.v (.string z5),.v (.slice y6 ly6 cy6),.v (.slice y7 ly7 cy7)],119,true⟩]) (.s .z (.s (.s (.r ⟨(some [0]),false,[],[]⟩) .z) .z)) Go.Proofs.Tryz.func122 rfl ⟨rfl,trivial,trivial⟩ ⟨⟨trivial,⟨trivial,⟨trivial,⟨trivial,⟨trivial,⟨trivial,⟨trivial,trivial⟩⟩⟩⟩⟩⟩⟩,trivial⟩ hF hS (ad_ (by kernel_rfl) h)
theorem kA_ (k0:Nat) (m1:Int) (t2:Bool) (z3:ByteArray) (y4:Option Addr) (ly4:Nat) (cy4:Nat) (z5:ByteArray) (y6:Option Addr) (ly6:Nat) (cy6:Nat) (y7:Option Addr) (ly7:Nat) (cy7:Nat) (m8:Int) (z9:ByteArray) (S:SP) (K:KP) (w:World) (hF:Fs S w [⟨k0,#[.int .i64 m1,.bool t2,.string z3,.slice y4 ly4 cy4,.string z5,.slice y6 ly6 cy6,.slice y7 ly7 cy7],119,true⟩] w) (hS:S k0∧True) (h:aa_ PR 122 #[.pointer (some (⟨k0,0,none⟩)),Iv m8] w λv0 w0=>∃v1,v0=v1∧Fs S w [⟨k0,#[Iv m1,.bool t2,.string z3,.slice y4 ly4 cy4,.string z5,.slice y6 ly6 cy6,.slice y7 ly7 cy7],119,true⟩] w0∧(v1=.nilIface→(((ByteArray.size z9:Nat):Int)>64→K (.iface 39 (Iv 6)) w0)∧(¬(((ByteArray.size z9:Nat):Int)>64)→aa_ PR 123 #[.pointer (some (⟨k0,0,none⟩)),.agg #[Iv m8,.string z9]] w0 λv2 w1=>∃v3,v2=v3∧∃n0 b0 s0 q0 l0 l1 s1 q1 l2 l3 q2 l4 l5,Fs S w [⟨k0,#[Iv n0,.bool b0,.string s0,.slice q0 l0 l1,.string s1,.slice q1 l2 l3,.slice q2 l4 l5],119,true⟩] w1∧K v3 w1))∧(∀x0 v4,v1=.iface x0 v4→K v1 w0)∧(v1=.nilIface∨∃l6 v5,v1=.iface l6 v5)):aa_ PR 68 ⟨[.pointer (some ⟨k0,0,none⟩),.int .i64 m8,.string z9]⟩ w K:=
 ab_ (okf:=⟨okL,[]⟩) ag_ (args:=[.c (.p 0 k0 true 0),.c (.v (.int .i64 m8)),.c (.v (.string z9))]) (H:=[⟨k0,.l [.v (.int .i64 m1),.v (.bool t2),.v (.string z3),.v (.slice y4 ly4 cy4),.v (.string z5),.v (.slice y6 ly6 cy6),.v (.slice y7 ly7 cy7)],119,true⟩]) (.s .z (.s (.s (.r ⟨(some [0]),false,[],[]⟩) .z) (.s .z (.s (.r ⟨(some [0]),false,[],[(4,[999])]⟩) .z)))) Go.Proofs.Tryz.func68 rfl ⟨rfl,trivial,trivial,trivial⟩ ⟨⟨trivial,⟨trivial,⟨trivial,⟨trivial,⟨trivial,⟨trivial,⟨trivial,trivial⟩⟩⟩⟩⟩⟩⟩,trivial⟩ hF hS (ad_ (by kernel_rfl) h)
theorem iC_ (k0:Nat) (m1:Int) (t2:Bool) (z3:ByteArray) (y4:Option Addr) (ly4:Nat) (cy4:Nat) (z5:ByteArray) (y6:Option Addr) (ly6:Nat) (cy6:Nat) (y7:Option Addr) (ly7:Nat) (cy7:Nat) (S:SP) (K:KP) (w:World) (hF:Fs S w [⟨k0,#[.int .i64 m1,.bool t2,.string z3,.slice y4 ly4 cy4,.string z5,.slice y6 ly6 cy6,.slice y7 ly7 cy7],119,true⟩] w) (hS:S k0∧True) (h:K (Iv (ly4:Int)) w):aa_ PR 120 ⟨[.pointer (some ⟨k0,0,none⟩)]⟩ w K:=
 ab_ (okf:=⟨okL,[]⟩) ag_ (args:=[.c (.p 0 k0 true 0)]) (H:=[⟨k0,.l [.v (.int .i64 m1),.v (.bool t2),.v (.string z3),.v (.slice y4 ly4 cy4),.v (.string z5),.v (.slice y6 ly6 cy6),.v (.slice y7 ly7 cy7)],119,true⟩]) .z Go.Proofs.Tryz.func120 rfl ⟨rfl,trivial⟩ ⟨⟨trivial,⟨trivial,⟨trivial,⟨trivial,⟨trivial,⟨trivial,⟨trivial,trivial⟩⟩⟩⟩⟩⟩⟩,trivial⟩ hF hS (ad_ (by kernel_rfl) h)
theorem ei_ (m0:Int) (m1:Int) (S:SP) (K:KP) (w:World) (h:∃I0:Int→Int→(Option Addr)→Nat→Nat→Nat→World→Prop,(∃l0,I0 m0 m1 none 0 0 l0 w)∧∀n0 n1 q0 l1 l2,∀D0:Nat→Value,∀l3 w0,I0 n0 n1 q0 l1 l2 l3 w0→Fs S w [] w0→(n1>1→aa_ PR 64 #[Iv n1] w0 λv0 w1=>∃n2,v0=Iv n2∧Fs S w [] w1∧(n0<n2→∀l4,w1.heap.size≤l4→∀w2,Fr S w w1 [] [⟨l4,#[.bool true],4,true⟩] w2→rn PR (Builtin.append_ #[85,85] 85 #[.slice q0 l1 l2,.slice (some (⟨l4,0,none⟩)) 1 1]) (λv1 w3=>∃q1 l5 l6,v1=.slice q1 l5 l6∧Fs S w [⟨l4,#[.bool true],4,true⟩] w3∧∃l7,l7<l3∧I0 n0 n2 q1 l5 l6 l7 w3) w2)∧(¬(n0<n2)→∀l8,w1.heap.size≤l8→∀w4,Fr S w w1 [] [⟨l8,#[.bool false],4,true⟩] w4→rn PR (Builtin.append_ #[85,85] 85 #[.slice q0 l1 l2,.slice (some (⟨l8,0,none⟩)) 1 1]) (λv2 w5=>∃q2 l9 l10,v2=.slice q2 l9 l10∧Fs S w [⟨l8,#[.bool false],4,true⟩] w5∧∃l11,l11<l3∧I0 (IntKind.wrap .i64 (n0 - n2)) (IntKind.wrap .i64 (n1 - n2)) q2 l9 l10 l11 w5) w4))∧(¬(n1>1)→K (.slice q0 l1 l2) w0)):aa_ PR 160 ⟨[.int .i64 m0,.int .i64 m1]⟩ w K:=
 ab_ (okf:=⟨okL,[]⟩) ag_ (args:=[.c (.v (.int .i64 m0)),.c (.v (.int .i64 m1))]) (H:=[]) (.s .z (.s .z (.s (.b (.l (some []) (some []) [(0,.c (.int .i64)),(1,.c (.int .i64)),(5,.c (.sl))] [] (.s .z (.b (.s (.r ⟨(some []),false,[],[]⟩) (.s (.s .z (.c (.s (.r ⟨(some []),false,[],[]⟩) .z) .z)) (.r ⟨(some []),false,[],[]⟩))))))) .z))) Go.Proofs.Tryz.func160 rfl ⟨trivial,trivial,trivial⟩ trivial (Fr.init S w) trivial (ad_ (by kernel_rfl) h)
theorem gR_ (m0:Int) (m1:Int) (S:SP) (K:KP) (w:World) (h:(m0≥0→(m0<m1→(m1≤1048576→K (.bool true) w)∧(¬(m1≤1048576)→K (.bool false) w))∧(¬(m0<m1)→K (.bool false) w))∧(¬(m0≥0)→K (.bool false) w)):aa_ PR 159 ⟨[.int .i64 m0,.int .i64 m1]⟩ w K:=
 ab_ (okf:=⟨okL,[]⟩) ag_ (args:=[.c (.v (.int .i64 m0)),.c (.v (.int .i64 m1))]) (H:=[]) .z Go.Proofs.Tryz.func159 rfl ⟨trivial,trivial,trivial⟩ trivial (Fr.init S w) trivial (ad_ (by kernel_rfl) h)
theorem h__ (m0:Int) (m1:Int) (z2:ByteArray) (y3:Option Addr) (ly3:Nat) (cy3:Nat) (S:SP) (K:KP) (w:World) (h:aa_ PR 159 #[Iv m0,Iv m1] w λv0 w0=>∃b0,v0=.bool b0∧(b0=true→Fs S w [] w0∧aa_ PR 160 #[Iv m0,Iv m1] w0 λv1 w1=>∃q0 l0 l1,v1=.slice q0 l0 l1∧Fs S w [] w1∧((ly3:Int)=(l0:Int)→(((ByteArray.size z2:Nat):Int)=32→∃I0:ByteArray→Int→Nat→World→Prop,(∃l2,I0 z2 0 l2 w1)∧∀s0 n0,∀D0:Nat→Value,∀l3 w2,I0 s0 n0 l3 w2→Fs S w [] w2→(n0<(ly3:Int)→Dr y3 λa0=>(0:Int)≤n0∧n0<(ly3:Int)∧Dr (some (Addr.add a0 (Int.toNat n0*1))) λa1=>∃s1,World.cell? w2 a1=some (.string s1)∧(((ByteArray.size s1:Nat):Int)=32→Dr q0 λa2=>(0:Int)≤IntKind.wrap .i64 (IntKind.wrap .i64 ((l0:Int) - 1) - n0)∧IntKind.wrap .i64 (IntKind.wrap .i64 ((l0:Int) - 1) - n0)<(l0:Int)∧Dr (some (Addr.add a2 (Int.toNat (IntKind.wrap .i64 (IntKind.wrap .i64 ((l0:Int) - 1) - n0))*1))) λa3=>∃b1,World.cell? w2 a3=some (.bool b1)∧(b1=true→aa_ PR 156 #[.string s0,.string s1] w2 λv2 w3=>∃s2,v2=.string s2∧Fs S w [] w3∧∃l4,l4<l3∧I0 s2 (IntKind.wrap .i64 (n0+1)) l4 w3)∧(b1=false→aa_ PR 156 #[.string s1,.string s0] w2 λv3 w4=>∃s3,v3=.string s3∧Fs S w [] w4∧∃l5,l5<l3∧I0 s3 (IntKind.wrap .i64 (n0+1)) l5 w4))∧(¬(((ByteArray.size s1:Nat):Int)=32)→K (.tuple #[.string ⟨#[]⟩,.iface 39 (Iv 11)]) w2))∧(¬(n0<(ly3:Int))→K (.tuple #[.string s0,.nilIface]) w2))∧(¬(((ByteArray.size z2:Nat):Int)=32)→K (.tuple #[.string ⟨#[]⟩,.iface 39 (Iv 11)]) w1))∧(¬((ly3:Int)=(l0:Int))→K (.tuple #[.string ⟨#[]⟩,.iface 39 (Iv 11)]) w1))∧(b0=false→Fs S w [] w0∧K (.tuple #[.string ⟨#[]⟩,.iface 39 (Iv 2)]) w0)):aa_ PR 118 ⟨[.int .i64 m0,.int .i64 m1,.string z2,.slice y3 ly3 cy3]⟩ w K:=
 ab_ (okf:=⟨okL,[]⟩) ag_ (args:=[.c (.v (.int .i64 m0)),.c (.v (.int .i64 m1)),.c (.v (.string z2)),.c (.v (.slice y3 ly3 cy3))]) (H:=[]) (.s .z (.s (.s (.r ⟨(some []),false,[],[]⟩) .z) (.s (.r ⟨(some []),false,[],[]⟩) (.s .z (.s .z (.s (.s .z (.b (.l (some []) (some []) [(11,.c (.str)),(36,.c (.int .i64))] [] (.s .z (.s .z (.s (.b (.s .z (.b (.s .z (.c .z (.s .z (.c (.r ⟨(some []),false,[],[]⟩) (.r ⟨(some []),false,[],[]⟩)))))))) .z)))))) .z)))))) Go.Proofs.Tryz.func118 rfl ⟨trivial,trivial,trivial,trivial,trivial⟩ trivial (Fr.init S w) trivial (ad_ (by kernel_rfl) h)
theorem ej_ (z0:ByteArray) (m1:Int) (m2:Int) (z3:ByteArray) (y4:Option Addr) (ly4:Nat) (cy4:Nat) (S:SP) (K:KP) (w:World) (h:aa_ PR 67 #[.string z3] w λv0 w0=>∃s0,v0=.string s0∧Fs S w [] w0∧aa_ PR 118 #[Iv m1,Iv m2,.string s0,.slice y4 ly4 cy4] w0 λv1 w1=>∃s1 v2,v1=.tuple #[.string s1,v2]∧Fs S w [] w1∧(v2=.nilIface→(s1=z0→K .nilIface w1)∧(¬(s1=z0)→(true:Bool)=true∧K (.iface 214 (.agg #[Iv m1,.iface 39 (Iv 11)])) w1))∧(∀x0 v3,v2=.iface x0 v3→K v2 w1)∧(v2=.nilIface∨∃l0 v4,v2=.iface l0 v4)):aa_ PR 65 ⟨[.string z0,.int .i64 m1,.int .i64 m2,.string z3,.slice y4 ly4 cy4]⟩ w K:=
 ab_ (okf:=⟨okL,[]⟩) ag_ (args:=[.c (.v (.string z0)),.c (.v (.int .i64 m1)),.c (.v (.int .i64 m2)),.c (.v (.string z3)),.c (.v (.slice y4 ly4 cy4))]) (H:=[]) (.s .z (.s (.r ⟨(some []),false,[],[]⟩) .z)) Go.Proofs.Tryz.func65 rfl ⟨trivial,trivial,trivial,trivial,trivial,trivial⟩ trivial (Fr.init S w) trivial (ad_ (by kernel_rfl) h)
theorem ep_ (y0:Option Addr) (ly0:Nat) (cy0:Nat) (S:SP) (K:KP) (w:World) (h:∃I0:ByteArray→Int→Nat→World→Prop,(∃l0,I0 ⟨#[]⟩ 0 l0 w)∧∀s0 n0,∀D0:Nat→Value,∀l1 w0,I0 s0 n0 l1 w0→Fs S w [] w0→(n0<(ly0:Int)→Dr y0 λa0=>(0:Int)≤n0∧n0<(ly0:Int)∧Dr (some (Addr.add a0 (Int.toNat n0*1))) λa1=>∃n1,World.cell? w0 a1=some (Iv n1)∧aa_ PR 101 #[Iv n1] w0 λv0 w1=>∃s1 v1,v0=.tuple #[.string s1,v1]∧Fs S w [] w1∧((ByteArray.size s0+(ByteArray.size s1)):Nat)≤9223372036854775807∧∃l2,l2<l1∧I0 (s0++s1) (IntKind.wrap .i64 (n0+1)) l2 w1)∧(¬(n0<(ly0:Int))→K (.string s0) w0)):aa_ PR 109 ⟨[.slice y0 ly0 cy0]⟩ w K:=
 ab_ (okf:=⟨okL,[]⟩) ag_ (args:=[.c (.v (.slice y0 ly0 cy0))]) (H:=[]) (.s .z (.s .z (.s (.s .z (.b (.l (some []) (some []) [(3,.c (.str)),(10,.c (.int .i64))] [] (.s .z (.s .z (.s (.b (.s .z (.s (.r ⟨(some []),false,[],[]⟩) .z))) .z)))))) .z))) Go.Proofs.Tryz.func109 rfl ⟨trivial,trivial⟩ trivial (Fr.init S w) trivial (ad_ (by kernel_rfl) h)
theorem cl_ (m0:Int) (m1:Int) (m2:Int) (z3:ByteArray) (S:SP) (K:KP) (w:World) (h:∀l0,w.heap.size≤l0→(∀l1,w.heap.size≤l1→(∀w0,Fr S w w [] [⟨l0,#[Iv m2,.string z3],106,true⟩,⟨l1,#[Iv m0,Iv m1,Iv m2],3,true⟩] w0→aa_ PR 109 #[.slice (some (⟨l1,0,none⟩)) 3 3] w0 λv0 w1=>∃s0,v0=.string s0∧Fs S w [⟨l0,#[Iv m2,.string z3],106,true⟩,⟨l1,#[Iv m0,Iv m1,Iv m2],3,true⟩] w1∧((1+(ByteArray.size s0)):Nat)≤9223372036854775807∧∀l2,w1.heap.size≤l2→∀w2,Fr S w w1 [] [⟨l0,#[Iv m2,.string z3],106,true⟩,⟨l1,#[Iv m0,Iv m1,Iv m2],3,true⟩,⟨l2,#[.string z3],9,true⟩] w2→aa_ PR 102 #[.slice (some (⟨l2,0,none⟩)) 1 1] w2 λv1 w3=>∃s1,v1=.string s1∧Fs S w [⟨l0,#[Iv m2,.string z3],106,true⟩,⟨l1,#[Iv m0,Iv m1,Iv m2],3,true⟩,⟨l2,#[.string z3],9,true⟩] w3∧((ByteArray.size ((⟨#[66]⟩:ByteArray)++s0)+(ByteArray.size s1)):Nat)≤9223372036854775807∧K (.string ((((⟨#[66]⟩:ByteArray)++s0):ByteArray)++s1)) w3)∧∀l3,w.heap.size≤l3→∀w4,Fr S w w [] [⟨l0,#[Iv m2,.string z3],106,true⟩,⟨l1,#[Iv m0,Iv m1,Iv m2],3,true⟩,⟨l3,#[.string z3],9,true⟩] w4→aa_ PR 109 #[.slice (some (⟨l1,0,none⟩)) 3 3] w4 λv2 w5=>∃s2,v2=.string s2∧Fs S w [⟨l0,#[Iv m2,.string z3],106,true⟩,⟨l1,#[Iv m0,Iv m1,Iv m2],3,true⟩,⟨l3,#[.string z3],9,true⟩] w5∧((1+(ByteArray.size s2)):Nat)≤9223372036854775807∧aa_ PR 102 #[.slice (some (⟨l3,0,none⟩)) 1 1] w5 λv3 w6=>∃s3,v3=.string s3∧Fs S w [⟨l0,#[Iv m2,.string z3],106,true⟩,⟨l1,#[Iv m0,Iv m1,Iv m2],3,true⟩,⟨l3,#[.string z3],9,true⟩] w6∧((ByteArray.size ((⟨#[66]⟩:ByteArray)++s2)+(ByteArray.size s3)):Nat)≤9223372036854775807∧K (.string ((((⟨#[66]⟩:ByteArray)++s2):ByteArray)++s3)) w6)∧∀l4,w.heap.size≤l4→∀l5,w.heap.size≤l5→∀w7,Fr S w w [] [⟨l0,#[Iv m2,.string z3],106,true⟩,⟨l4,#[.string z3],9,true⟩,⟨l5,#[Iv m0,Iv m1,Iv m2],3,true⟩] w7→aa_ PR 109 #[.slice (some (⟨l5,0,none⟩)) 3 3] w7 λv4 w8=>∃s4,v4=.string s4∧Fs S w [⟨l0,#[Iv m2,.string z3],106,true⟩,⟨l4,#[.string z3],9,true⟩,⟨l5,#[Iv m0,Iv m1,Iv m2],3,true⟩] w8∧((1+(ByteArray.size s4)):Nat)≤9223372036854775807∧aa_ PR 102 #[.slice (some (⟨l4,0,none⟩)) 1 1] w8 λv5 w9=>∃s5,v5=.string s5∧Fs S w [⟨l0,#[Iv m2,.string z3],106,true⟩,⟨l4,#[.string z3],9,true⟩,⟨l5,#[Iv m0,Iv m1,Iv m2],3,true⟩] w9∧((ByteArray.size ((⟨#[66]⟩:ByteArray)++s4)+(ByteArray.size s5)):Nat)≤9223372036854775807∧K (.string ((((⟨#[66]⟩:ByteArray)++s4):ByteArray)++s5)) w9):aa_ PR 69 ⟨[.int .i64 m0,.int .i64 m1,.agg #[.int .i64 m2,.string z3]]⟩ w K:=
 ab_ (okf:=⟨okL,[]⟩) ag_ (args:=[.c (.v (.int .i64 m0)),.c (.v (.int .i64 m1)),.a [.v (.int .i64 m2),.v (.string z3)]]) (H:=[]) (.s (.r ⟨(some []),false,[],[]⟩) (.s (.r ⟨(some [5]),false,[],[]⟩) .z)) Go.Proofs.Tryz.func69 rfl ⟨trivial,trivial,⟨trivial,trivial,trivial⟩,trivial⟩ trivial (Fr.init S w) trivial (ad_ (by kernel_rfl) h)
end Go.Vc
namespace Go.Vc
open Go
theorem nG_ {w:World} {b:Nat} {p:DP} {d:DM} (h:DskF w b p d) {n:Int} {K:Value→World→Prop} (h1:0≤n→n<d.sl.length→K .nilIface w) (h2:¬(0≤n∧n<d.sl.length)→K (.iface T.ak_ (.int .i64 2)) w):aa_ PR F.g5_ ⟨[.pointer (some ⟨b,0,none⟩),.int .i64 n]⟩ w K:=
 pS_ b (-1) false (str d.log) p.q0 d.sl.length p.c0 (str d.llog) p.q1 d.lsl.length p.c1 p.wq d.ws.length p.wc n (dfS b p) K w h.fs ⟨.inl rfl,trivial⟩ (gL_ h ⟨_,rfl,h.fs,λ_=>⟨λhn=>h2 (by omega),λhn=>⟨λhg=>h2 (by omega),λhg=>h1 (by omega) (by omega)⟩⟩,(λt x h=>by cases h),.inl rfl⟩)
theorem op_ {w:World} {b:Nat} {p:DP} {d:DM} (h:DskF w b p d) {n:Int} (hn:0≤n∧n<d.sl.length) {s:List UInt8} (hroom:d.log.length+s.length≤9223372036854775807) (hw:d.ws.length≤1000000) {K:Value→World→Prop}
  (h1:s.length≤64→∀w' q' c',DskF w' b { p with wq:=q',wc:=c' } (d.put n s)→Chg (dfS b p) w w'→(∀a,q'=some a→p.wq=some a∨w.heap.size≤a.block)→K .nilIface w')
  (h2:64<s.length→K (.iface T.ak_ (.int .i64 6)) w) :
  aa_ PR F.ec_ ⟨[.pointer (some ⟨b,0,none⟩),.int .i64 n,.string (str s)]⟩ w K:=by
 refine kA_ b (-1) false (str d.log) p.q0 d.sl.length p.c0 (str d.llog) p.q1 d.lsl.length p.c1 p.wq d.ws.length p.wc n (str s) (dfS b p) K w h.fs ⟨.inl rfl,trivial⟩ (nG_ h (λ_ _=>⟨_,rfl,h.fs,λ_=>⟨λhg=>h2 (by rw [ai_] at hg;omega),λhg=>?_⟩,(λt x h=>by cases h),.inl rfl⟩) λhc=>absurd hn hc)
 refine jz_ h (.inr hn) hroom hw λw1 q' c' h1' g1 hq=>?_
 exact ⟨_,rfl,_,_,_,_,_,_,_,_,_,_,_,_,_,h.fs.mod g1 h1'.blk (λx hx=>by cases hx) λ_ _ e=>e,h1 (by rw [ai_] at hg;omega) w1 q' c' h1' g1 hq⟩
theorem lQ_ {w:World} {b:Nat} {p:DP} {d:DM} (h:DskF w b p d) {K:Value→World→Prop} (hK:K (.int .i64 d.sl.length) w):aa_ PR F.gp_ ⟨[.pointer (some ⟨b,0,none⟩)]⟩ w K:=
 iC_ b (-1) false (str d.log) p.q0 d.sl.length p.c0 (str d.llog) p.q1 d.lsl.length p.c1 p.wq d.ws.length p.wc (dfS b p) K w h.fs ⟨.inl rfl,trivial⟩ hK
def DM.empty (n:Nat):DM:=⟨[],List.replicate n [],[],List.replicate n [],[]⟩
theorem oq_ {n:Nat} (hn:n≤4096) {w:World} {K:Value→World→Prop} (hK:∀w' b p,Grow w w'→(∀k,dfS b p k→w.heap.size≤k)→DskF w' b p (DM.empty n)→K (.pointer (some ⟨b,0,none⟩)) w'):aa_ PR F.ru_ ⟨[.int .i64 n]⟩ w K:=by
 obtain ⟨i,hi,hk,hb,hz⟩:=oQ_
 have mk:∀ {w:World} {K:Value→World→Prop},(∀w' b,b=w.heap.size→w'.heap.size=b+1→Grow w w'→Own T.string 1 w' (some ⟨b,0,none⟩) n (List.replicate n (.string ⟨#[]⟩))→K (.slice (some ⟨b,0,none⟩) n n) w')→rn PR (Instr.makeSlice T.aR_ (.int .i64 n) (.int .i64 n)) K w:=λh=>
  df_ <| cX_ (i:=i) (by_:=16) kX_ hi hz rfl hk hb (by omega) (by omega) (by omega) λb w' hbb hs g ho=>h w' b hbb hs g (by simpa using ho)
 have e:(if (4096:Int)<(if (0:Int)>(n:Int) then 0 else (n:Int)) then (4096:Int) else (if (0:Int)>(n:Int) then 0 else (n:Int)))=(n:Int):=by
  rw [if_neg (by omega:¬(0:Int)>(n:Int)),if_neg (by omega)]
 have fin:∀ {w1 w2 w3:World} {b1 b2 b4:Nat} {q0 q1:Option Addr},Grow w w1→b1<b2→w.heap.size≤b1→b2<w2.heap.size→w2.heap.size≤b4→(q0=some ⟨b1,0,none⟩∧q1=some ⟨b2,0,none⟩∨q0=some ⟨b2,0,none⟩∧q1=some ⟨b1,0,none⟩)→Grow w w3→
   Own T.string 1 w3 q0 n (List.replicate n (.string ⟨#[]⟩))→Own T.string 1 w3 q1 n (List.replicate n (.string ⟨#[]⟩))→
   w3.heap[b4]? = some (.cells #[.int .i64 (-1),.bool false,.string ⟨#[]⟩,.slice q0 n n,.string ⟨#[]⟩,.slice q1 n n,.slice none 0 0] T.cO_ (0,0))→K (.pointer (some ⟨b4,0,none⟩)) w3:=by
  intro w1 w2 w3 b1 b2 b4 q0 q1 g1 h12 hb1 h2 hb4 hq g3 o0 o1 hblk
  have hrep:(List.replicate n ([]:List UInt8)).map sv8'=List.replicate n (.string ⟨#[]⟩):=by rw [List.map_replicate];rfl
  have hs:∀k,am_ q0 k∨am_ q1 k→k=b1∨k=b2:=by
   rintro k (⟨a,ha,rfl⟩ | ⟨a,ha,rfl⟩) <;> rcases hq with ⟨e1,e2⟩ | ⟨e1,e2⟩
   all_goals first | (rw [e1] at ha;cases ha;simp) | (rw [e2] at ha;cases ha;simp)
  have hd:∀k,am_ q0 k→¬am_ q1 k:=by
   rintro k ⟨a,ha,rfl⟩ ⟨a',ha',e'⟩
   rcases hq with ⟨e1,e2⟩ | ⟨e1,e2⟩
   all_goals
    rw [e1] at ha;rw [e2] at ha';cases ha;cases ha'
    simp only [] at e'
    omega
  have hno:∀k:Nat,¬am_ (none:Option Addr) k:=λk ⟨a,ha,_⟩=>by cases ha
  refine hK w3 b4 ⟨q0,q1,none,n,n,0⟩ g3 ?_ ⟨by have e0:str []=⟨#[]⟩:=rfl;simpa [dfC,DM.empty,e0] using hblk,by show Own T.string 1 w3 q0 n ((List.replicate n []).map sv8');rw [hrep];exact o0,by show Own T.string 1 w3 q1 n ((List.replicate n []).map sv8');rw [hrep];exact o1,.nil _ _ _,λe=>?_,λe=>?_,hno b4,hd,λk _ e=>hno k e,λk _ e=>hno k e,Nat.le_refl _⟩
  ·rintro k (rfl | hk | hk | hk)
   ·omega
   ·rcases hs k (.inl hk) with rfl | rfl <;> omega
   ·rcases hs k (.inr hk) with rfl | rfl <;> omega
   ·exact absurd hk (hno k)
  ·rcases hs b4 (.inl e) with h | h <;> omega
  ·rcases hs b4 (.inr e) with h | h <;> omega
 refine pU_ n S0 K w ?_
 rw [e]
 refine ⟨λw0 hF0=>mk λw1 b1 hb1 hs1 g1 o1=>⟨_,_,_,rfl,hF0.after g1,mk λw2 b2 hb2 hs2 g2 o2=>⟨_,_,_,rfl,(hF0.after g1).after g2,λb4 hb4 w3 hF3=>?_⟩⟩,λw0 hF0=>mk λw1 b1 hb1 hs1 g1 o1=>⟨_,_,_,rfl,hF0.after g1,mk λw2 b2 hb2 hs2 g2 o2=>⟨_,_,_,rfl,(hF0.after g1).after g2,λb4 hb4 w3 hF3=>?_⟩⟩⟩
 ·have sz:=hF0.chg.size
  exact fin (hF0.chg.trans g1 λ_ _ e=>e) (by omega) (by omega) (by omega:b2<w2.heap.size) hb4 (.inl ⟨rfl,rfl⟩) hF3.chg ((o1.grow g2).grow hF3.grow) (o2.grow hF3.grow) (hF3.blk 0 rfl)
 ·have sz:=hF0.chg.size
  exact fin (hF0.chg.trans g1 λ_ _ e=>e) (by omega) (by omega) (by omega:b2<w2.heap.size) hb4 (.inr ⟨rfl,rfl⟩) hF3.chg (o2.grow hF3.grow) ((o1.grow g2).grow hF3.grow) (hF3.blk 0 rfl)
end Go.Vc
