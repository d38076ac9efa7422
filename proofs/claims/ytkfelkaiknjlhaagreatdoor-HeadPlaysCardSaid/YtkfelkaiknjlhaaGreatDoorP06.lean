/-
  A part of the proof of the statement HeadPlaysCardSaid, in Lean: Gp2, Bld, Sd1, Sd2, Mp1, Sd3, MirP9, Jn, ShP, Frm, Man, Cut, Sd4. By an AI agent.
-/
import Derived.Test.YtkfelkaiknjlhaaGreatDoorP05
import Derived.Test.YtkfelkaiknjlhaaGreatDoorP04
import Derived.Lib.UnsafeStr
import Derived.Maps.Keyed
import Derived.DeepKeys4
import Derived.Test.YtkfelkaiknjlhaaGreatDoorP02
import Derived.Lib.MakeNoZero
import Derived.Laws.Externs
import Derived.Test.YtkfelkaiknjlhaaGreatDoorShelf
set_option linter.unusedSimpArgs false
set_option linter.unusedVariables false
set_option maxRecDepth 100000
namespace Go.Vc
open Go
theorem d9_ {s:ByteArray} {n:Nat} {r:List UInt8} {at_:Int} (hs:s.size≤4611686018427387904) (ha:0≤at_) (hd:s.data.toList.drop at_.toNat=ae_ n++r) (hn:n≤72057594037927935) {w:World} {K:Value→World→Prop}
  (hK:okAt s at_→at_+(ae_ n).length≤s.size→K (.tuple #[.int .i64 n,.int .i64 (at_+(ae_ n).length),.nilIface]) w):aa_ PR F.bU_ ⟨[.string s,.int .i64 at_]⟩ w K:=by
 have hl:(s.data.toList.drop at_.toNat).length=s.size - at_.toNat:=by rw [List.length_drop,cI_]
 have hp:=bz_ n
 rw [hd,List.length_append] at hl
 have hok:okAt s at_:=⟨ha,by omega⟩
 refine gd_ hs (λh=>absurd hok h) λ_=>?_
 rw [hd,cu_ hn]
 exact hK hok (by omega)
theorem nH_ {s:ByteArray} {x:Int} {r:List UInt8} {at_:Int} (hs:s.size≤4611686018427387904) (ha:0≤at_) (hx:oR_ x) (hd:s.data.toList.drop at_.toNat=ae_ (turn x).toNat++r) {w:World} {K:Value→World→Prop}
  (hK:okAt s at_→at_+(ae_ (turn x).toNat).length≤s.size→K (.tuple #[.int .i64 x,.int .i64 (at_+(ae_ (turn x).toNat).length),.nilIface]) w):aa_ PR F.cF_ ⟨[.string s,.int .i64 at_]⟩ w K:=by
 have hl:(s.data.toList.drop at_.toNat).length=s.size - at_.toNat:=by rw [List.length_drop,cI_]
 have hp:=bz_ (turn x).toNat
 have t0:=n9_ x
 have t1:=lG_ x
 rw [hd,List.length_append] at hl
 have hok:okAt s at_:=⟨ha,by omega⟩
 have hg:=cu_ (n:=(turn x).toNat) (by omega) r
 refine mp_ hs hok (λn k h=>?_) (λc h=>?_)
 ·rw [hd,hg] at h
  cases h
  rw [Int.toNat_of_nonneg t0,pL_ hx]
  exact hK hok (by omega)
 ·rw [hd,hg] at h;cases h
theorem pE_ {s:ByteArray} {n:Nat} {r:List UInt8} {at_ nodes:Int} (hs:s.size≤4611686018427387904) (ha:0≤at_) (hd:s.data.toList.drop at_.toNat=ae_ n++r) (hn:(n:Int)≤nodes) (hn2:nodes≤4096) {w:World} {K:Value→World→Prop}
  (hK:okAt s at_→at_+(ae_ n).length≤s.size→K (.tuple #[.int .i64 n,.int .i64 (at_+(ae_ n).length),.nilIface]) w):aa_ PR F.hR_ ⟨[.string s,.int .i64 at_,.int .i64 nodes]⟩ w K:=by
 refine hR_ s at_ nodes S0 K w ?_
 refine d9_ hs ha hd (by omega) λh1 h2=>⟨_,_,_,rfl,.init _ w,λ_=>⟨λh=>by omega,λ_=>hK h1 h2⟩,(λt x h=>by cases h),.inl rfl⟩
def rdr (s:ByteArray) (at_ nodes now:Int):Array Value:=#[.string s,.int .i64 at_,.int .i64 nodes,.int .i64 now]
theorem oi_ {s:ByteArray} {t v at_ nodes:Int} {r:List UInt8} (hs:s.size≤4611686018427387904) (ha:0≤at_) (hn:nodes≤4096) (hv:0≤v∧v<nodes) (ht:0≤t∧t<nodes) (hd:s.data.toList.drop at_.toNat=ae_ (turn (t - v)).toNat++r)
  {b:Nat} {w:World} (hb:w.heap[b]? = some (.cells (rdr s at_ nodes v) T.bC_ (0,0))) {K:Value→World→Prop}
  (hK:∀w',at_+(ae_ (turn (t - v)).toNat).length≤s.size→w'.heap[b]? = some (.cells (rdr s (at_+(ae_ (turn (t - v)).toNat).length) nodes t) T.bC_ (0,0))→Chg (· = b) w w'→K .nilIface w') :
  aa_ PR F.c8_ ⟨[.pointer (some ⟨b,0,none⟩),.bool true]⟩ w K:=by
 refine f5_ b s at_ nodes v (· = b) K w ((Fr.init _ w).entry hb (λx h=>by cases h) λ_=>rfl) ⟨rfl,trivial⟩ ?_
 intro w0 h0
 refine nH_ hs ha (x:=t - v) ⟨by omega,by omega⟩ hd λh1 h2=>⟨_,_,_,rfl,h0.reset,λ_=>⟨λh=>?_,λ_=>⟨λh=>?_,λ_ w6 h6=>?_⟩⟩,(λt x h=>by cases h),.inl rfl⟩
 ·rw [w64 (by omega) (by omega)] at h;omega
 ·rw [w64 (by omega) (by omega)] at h;omega
 ·have:=h6.blk 0 rfl
  simp only [] at this
  rw [w64 (n:=v+(t - v)) (by omega) (by omega),show v+(t - v)=t by omega] at this
  exact hK w6 h2 this h6.chg
theorem oj_ {s:ByteArray} {t v at_ nodes:Int} {r:List UInt8} (hs:s.size≤4611686018427387904) (ha:0≤at_) (hn:nodes≤4096) (hv:0≤v∧v<t) (ht:t<nodes) (hd:s.data.toList.drop at_.toNat=ae_ (t - v - 1).toNat++r)
  {b:Nat} {w:World} (hb:w.heap[b]? = some (.cells (rdr s at_ nodes v) T.bC_ (0,0))) {K:Value→World→Prop}
  (hK:∀w',at_+(ae_ (t - v - 1).toNat).length≤s.size→w'.heap[b]? = some (.cells (rdr s (at_+(ae_ (t - v - 1).toNat).length) nodes t) T.bC_ (0,0))→Chg (· = b) w w'→K .nilIface w') :
  aa_ PR F.c8_ ⟨[.pointer (some ⟨b,0,none⟩),.bool false]⟩ w K:=by
 refine f6_ b s at_ nodes v (· = b) K w ((Fr.init _ w).entry hb (λx h=>by cases h) λ_=>rfl) ⟨rfl,trivial⟩ ?_
 intro w0 h0
 refine d9_ hs ha hd (by omega) λh1 h2=>⟨_,_,_,rfl,h0.reset,λ_=>⟨λh=>?_,λ_=>⟨λh=>?_,λ_ w6 h6=>?_⟩⟩,(λt x h=>by cases h),.inl rfl⟩
 ·rw [w64 (by omega) (by omega),w64 (by omega) (by omega)] at h;omega
 ·rw [w64 (by omega) (by omega),w64 (by omega) (by omega)] at h;omega
 ·have:=h6.blk 0 rfl
  simp only [] at this
  rw [w64 (n:=(((t - v - 1).toNat:Nat):Int)+1) (by omega) (by omega),w64 (by omega) (by omega),show v+((((t - v - 1).toNat:Nat):Int)+1)=t by omega] at this
  exact hK w6 h2 this h6.chg
theorem ny_ {s:ByteArray} {l:List Int} {r:List UInt8} {at_ nodes v:Int} (hs:s.size≤4611686018427387904) (ha:0≤at_) (hn:0≤nodes∧nodes≤4096) (hv:0≤v∧v<nodes) (hr:eO_ nodes l) (hd:s.data.toList.drop at_.toNat=gapL v l++r)
  {w:World} {K:Value→World→Prop}
  (hK:∀w' q c,Grow w w'→at_+(gapL v l).length≤s.size→Own T.int 1 w' q c (l.map iv)→l.length≤c→Off (λk=>k<w.heap.size) q→K (.tuple #[.slice q l.length c,.int .i64 (at_+(gapL v l).length),.nilIface]) w') :
  aa_ PR F.r8_ ⟨[.string s,.int .i64 at_,.int .i64 nodes,.int .i64 v]⟩ w K:=by
 have hlen:=fr_ hr
 refine qY_ s at_ nodes v S0 K w ?_
 refine mQ_ hn hv ⟨_,rfl,.init _ w,λ_=>?_,(λt x h=>by cases h),.inl rfl⟩
 have hd0:s.data.toList.drop at_.toNat=ae_ l.length++(cat (gapP v l) l.length++r):=by rw [hd,gapL,List.append_assoc]
 refine pE_ hs ha hd0 (by omega) hn.2 λh1 h2=>⟨_,_,_,rfl,.init _ w,λ_=>?_,(λt x h=>by cases h),.inl rfl⟩
 intro b hb w1 hF1
 refine ⟨λq n c i s' p nn now m w'=>∃k:Nat,i=k∧k≤l.length∧m=l.length - k∧s'=s∧p=at_+((ae_ l.length).length+(cat (gapP v l) k).length:Nat)∧nn=nodes∧now=(if k=0 then v else l.getD (k - 1) 0)∧
   Own T.int 1 w' q c ((l.take k).map iv)∧n=k∧n≤c∧Off (λj=>j<w1.heap.size) q∧p≤s.size∧w1.heap.size≤w'.heap.size,⟨_,0,rfl,by omega,rfl,rfl,by simp [cat],rfl,rfl,.nil _ _ _,rfl,Nat.le_refl _,.none _,h2,Nat.le_refl _⟩,?_⟩
 rintro q n c i s' p nn now D m w2 ⟨k,rfl,hk,rfl,rfl,rfl,rfl,rfl,ho,rfl,hnc,hoff,hp,hsz⟩ hF2
 refine ⟨λhlt=>?_,λhge=>?_⟩
 ·have hk':n<l.length:=by omega
  have hr1:=hr.1 n hk'
  obtain ⟨r',hsp⟩:=de_ (gapP v l) hk'
  have hdk:s'.data.toList.drop (at_+((ae_ l.length).length+(cat (gapP v l) n).length:Nat)).toNat=gapP v l n++(r'++r):=by
   have e0:s'.data.toList.drop at_.toNat=(ae_ l.length++cat (gapP v l) n)++(gapP v l n++(r'++r)):=by rw [hd0,hsp];simp [List.append_assoc]
   rw [show (at_+((ae_ l.length).length+(cat (gapP v l) n).length:Nat)).toNat=at_.toNat+((ae_ l.length).length+(cat (gapP v l) n).length) by omega,← List.drop_drop,e0,List.drop_left' (by simp)]
  have hbl:=hF2.blk 0 rfl
  have hbw:b<w1.heap.size:=hF1.lt _ List.mem_cons_self
  have fin:∀(w3:World) (p':Int),p'=at_+((ae_ l.length).length+(cat (gapP v l) (n+1)).length:Nat)→p'≤s'.size→w3.heap[b]? = some (.cells (rdr s' p' nn (l.getD n 0)) T.bC_ (0,0))→Chg (· = b) w2 w3→
    Fs S0 w [⟨b,rdr s' p' nn (l.getD n 0),T.bC_,true⟩] w3∧∀(x:Nat),w3.heap.size≤x→∀w5,Fr S0 w w3 [] [⟨b,rdr s' p' nn (l.getD n 0),T.bC_,true⟩,⟨x,#[iv (l.getD n 0)],T.int,true⟩] w5→
     rn PR (Builtin.append_ #[T.dz_,T.dz_] T.dz_ #[.slice q n c,.slice (some ⟨x,0,none⟩) 1 1]) (λv6 w6=>∃(q1:Option Addr) (l6 l7:Nat),v6=.slice q1 l6 l7∧
      Fs S0 w [⟨b,rdr s' p' nn (l.getD n 0),T.bC_,true⟩,⟨x,#[iv (l.getD n 0)],T.int,true⟩] w6∧∃l8:Nat,l8<l.length - n∧∃k:Nat,IntKind.wrap .i64 ((n:Int)+1)=k∧k≤l.length∧l8=l.length - k∧s'=s'∧p'=at_+((ae_ l.length).length+(cat (gapP v l) k).length:Nat)∧nn=nn∧l.getD n 0=(if k=0 then v else l.getD (k - 1) 0)∧
       Own T.int 1 w6 q1 l7 ((l.take k).map iv)∧l6=k∧l6≤l7∧Off (λj=>j<w1.heap.size) q1∧p'≤s'.size∧w1.heap.size≤w6.heap.size) w5:=by
   intro w3 p' hp' hle hb3 g3
   have hF3:=hF2.mod1 g3 hb3
   have ho3:Own T.int 1 w3 q c ((l.take n).map iv):=ho.keep g3 (λa ha e=>by
    have h1:=hoff.le a ha
    have e':a.block=b:=e
    omega)
   refine ⟨hF3,λx hx w5 h5=>?_⟩
   refine gq_ (xs:=l.take n) (ys:=[l.getD n 0]) (ho3.grow h5.grow) (by simp;omega) hnc (h5.sl 1 rfl) rfl (by omega) λq' c' w6 ho6 hc6 g6 hq6=>?_
   have hF6:=h5.app2 g6 w1.heap.size w3.heap.size hoff (λa ha=>ho3.lt a ha) (λy hy=>by
    rcases List.mem_cons.1 hy with rfl | hy
    ·exact .inl hbw
    ·simp at hy;subst hy;exact .inr hx) hF1.chg.size
   refine ⟨_,_,_,rfl,hF6,l.length - (n+1),by omega,n+1,wr1 (by omega),by omega,rfl,rfl,hp',rfl,by simp,?_,rfl,hc6,hoff.next hq6 (by have:=g3.size;have:=h5.grow.size;omega),hle,by have:=g3.size;have:=h5.grow.size;have:=g6.size;omega⟩
   rw [aW_ hk',← j2_ hk'];exact ho6
  have hpl:∀y,gapP v l n=y→((ae_ l.length).length+(cat (gapP v l) (n+1)).length:Nat)=((ae_ l.length).length+(cat (gapP v l) n).length:Nat)+y.length:=by
   intro y hy;rw [cat,List.length_append,hy];omega
  refine ⟨λh0=>?_,λh0=>?_⟩
  ·have h0':n=0:=by omega
   have hg:gapP v l n=ae_ (turn (l.getD n 0 - v)).toNat:=by unfold gapP;rw [if_pos h0',h0']
   have hl2:=hpl _ hg
   rw [hg] at hdk
   rw [if_pos h0'] at hbl
   refine oi_ hs (by omega) hn.2 hv hr1 hdk hbl λw3 hle hb3 g3=>?_
   obtain ⟨f1,f2⟩:=fin w3 _ (by rw [hl2];omega) hle hb3 g3
   exact ⟨_,rfl,_,_,_,_,f1,λ_=>f2,(λt x h=>by cases h),.inl rfl⟩
  ·have h0':¬n=0:=by omega
   have hg:gapP v l n=ae_ (l.getD n 0 - l.getD (n - 1) 0 - 1).toNat:=by unfold gapP;rw [if_neg h0']
   have hl2:=hpl _ hg
   rw [hg] at hdk
   rw [if_neg h0'] at hbl
   have hr2:=hr.1 (n - 1) (by omega)
   have hr3:=hr.2 (n - 1) (by omega)
   rw [show n - 1+1=n by omega] at hr3
   refine oj_ hs (by omega) hn.2 ⟨hr2.1,hr3⟩ hr1.2 hdk hbl λw3 hle hb3 g3=>?_
   obtain ⟨f1,f2⟩:=fin w3 _ (by rw [hl2];omega) hle hb3 g3
   exact ⟨_,rfl,_,_,_,_,f1,λ_=>f2,(λt x h=>by cases h),.inl rfl⟩
 ·have e:n=l.length:=by omega
  subst e
  intro w3 h3
  rw [List.take_length] at ho
  have g3:Grow w2 w3:=h3.grow
  rw [gapL,List.length_append] at *
  exact hK w3 q c h3.chg hp (ho.grow g3) hnc (hoff.mono hF1.chg.size)
end Go.Vc
namespace Go.Vc
open Go Go.Lib
theorem mF_ {P:Program} {r:Nat} {K:Option (TypeId × Nat)→World→Prop} {w:World} : sv P (shape r) K w↔K (w.shape? r) w:=Iff.rfl
theorem fe_ {w:World} {b:Nat} {cs:Array Value} {T:TypeId} {fz:Nat × Nat} (h:w.heap[b]? = some (.cells cs T fz)):w.shape? b=some (T,cs.size):=by
 simp [World.shape?,h]
structure BldP (w:World) (b m:Nat) (p q:Option Addr) (l c:Nat) (bs:List UInt8):Prop where
 blk:w.heap[b]? = some (.cells #[.pointer p,.slice q l c] T.ag_ (0,0))
 ptr:p=none∨p=some ⟨b,0,none⟩
 own:Own T.uint8 1 w q c (bs.map bv)
 len:l=bs.length
 cap:l≤c
 off:Off (λk=>k<m) q
 lt:b<m
 zero:∀a,q=some a→a.off=0∧a.spot=none
theorem BldP.new {w:World} {b m:Nat} (h:w.heap[b]? = some (.cells #[.pointer none,.slice none 0 0] T.ag_ (0,0))) (hm:b<m):BldP w b m none none 0 0 []:=
 ⟨h,.inl rfl,.nil _ _ _,rfl,Nat.le_refl _,.none _,hm,λa h=>by cases h⟩
theorem BldP.keep {S:Nat→Prop} {w w':World} {b m:Nat} {p q:Option Addr} {l c:Nat} {bs:List UInt8} (h:BldP w b m p q l c bs) (g:Chg S w w') (hb:¬S b) (hq:Off S q):BldP w' b m p q l c bs:=
 ⟨g.get h.blk hb,h.ptr,h.own.keep g hq,h.len,h.cap,h.off,h.lt,h.zero⟩
theorem BldP.grow {w w':World} {b m:Nat} {p q:Option Addr} {l c:Nat} {bs:List UInt8} (h:BldP w b m p q l c bs) (g:Grow w w'):BldP w' b m p q l c bs:=h.keep g id (Off.no q)
theorem BldP.mono {w:World} {b m n:Nat} {p q:Option Addr} {l c:Nat} {bs:List UInt8} (h:BldP w b m p q l c bs) (hn:n≤m) (hb:b<n):BldP w b n p q l c bs:=
 ⟨h.blk,h.ptr,h.own,h.len,h.cap,h.off.mono hn,hb,h.zero⟩
theorem rp_:PR.underlying T.bT_=some (.pointer T.ag_):=by kernel_rfl
theorem rm_:PR.underlying T.cL_=some .unsafePointer:=by kernel_rfl
theorem ss_:PR.underlying T.lZ_=some (.pointer T.uint8):=by kernel_rfl
theorem s2_:(PR.info? T.ag_).isSome=true:=by kernel_rfl
theorem ts_:szOf PR T.ag_=2:=by kernel_rfl
theorem c_u8:PR.cellsOf T.uint8=1:=by kernel_rfl
theorem qQ_:liesAt PR (PR).depth T.ag_ (2 / (PR).cellsOf T.ag_) 0 T.ag_ 1=true:=by kernel_rfl
theorem qE_ (v:Value) (K:Value→World→Prop) (w:World):sv PR (callFunc F.d2_ ⟨[v]⟩ >>= iA_) K w=K v w:=by kernel_rfl
theorem n__ {w:World} {b:Nat} {x y:Value} {K:Value→World→Prop} (hb:w.heap[b]? = some (.cells #[x,y] T.ag_ (0,0))) (hK:K (.pointer (some ⟨b,0,none⟩)) w) :
  sv PR (convert T.bT_ T.cL_ (.pointer (some ⟨b,0,none⟩))) K w:=by
 have hs:=fe_ hb
 obtain ⟨i,hi⟩:=Option.isSome_iff_exists.1 s2_
 simp only [convert,aE_,aq_ rp_,aq_ rm_,Conv.unsafePointer,Conv.seenAt,viewAt,cellsIn,mF_,hs,Option.isSome_some,if_true,aY_,g7_,bJ_ hi]
 have h2:i.size=2:=by have:=ts_;simpa [szOf,hi] using this
 simp [h2]
 exact hK
theorem l__ {w:World} {b:Nat} {x y:Value} {K:Value→World→Prop} (hb:w.heap[b]? = some (.cells #[x,y] T.ag_ (0,0))) (hK:K (.pointer (some ⟨b,0,none⟩)) w) :
  sv PR (convert T.cL_ T.bT_ (.pointer (some ⟨b,0,none⟩))) K w:=by
 have hs:=fe_ hb
 have hl:liesAt PR (PR).depth T.ag_ ((#[x,y]:Array Value).size / (PR).cellsOf T.ag_) 0 T.ag_ 1=true:=qQ_
 obtain ⟨i,hi⟩:=Option.isSome_iff_exists.1 s2_
 simp only [convert,aE_,aq_ rp_,aq_ rm_,Conv.unsafePointer,Conv.seenAt,viewAt,variablesAt,mF_,hs,Option.isSome_some,if_true,aY_,g7_,bJ_ hi,ni_,hl]
 simp
 exact hK
theorem ex_ {w:World} {b:Nat} {p q:Option Addr} {l c:Nat} (hp:p=none∨p=some ⟨b,0,none⟩) (hb:w.heap[b]? = some (.cells #[.pointer p,.slice q l c] T.ag_ (0,0))) {K:Value→World→Prop}
  (hK:∀w' p',(p'=none∨p'=some ⟨b,0,none⟩)→w'.heap[b]? = some (.cells #[.pointer p',.slice q l c] T.ag_ (0,0))→Chg (· = b) w w'→K (.tuple #[]) w') :
  aa_ PR F.co_ ⟨[.pointer (some ⟨b,0,none⟩)]⟩ w K:=by
 have h0:Fs (· = b) w [⟨b,#[.pointer p,.slice q l c],T.ag_,true⟩] w:=(Fr.init _ w).entry hb (λx h=>by cases h) λ_=>rfl
 refine cM_ b p q l c (· = b) K w h0 ⟨rfl,trivial⟩ ⟨λhn=>?_,λa0 ha=>?_⟩
 ·refine cA_ (n__ hb ⟨_,rfl,h0,cA_ ?_⟩)
  rw [qE_]
  refine ⟨_,rfl,h0,cA_ (l__ hb ⟨_,rfl,h0,λw3 h3=>?_⟩)⟩
  exact hK w3 _ (.inr rfl) (h3.blk 0 rfl) h3.chg
 ·have hp':a0=⟨b,0,none⟩:=by
   rcases hp with h | h
   ·rw [h] at ha;cases ha
   ·rw [h] at ha;exact (Option.some.inj ha).symm
  subst hp'
  rw [ha]
  exact ac_.2 (ac_.2 ⟨rfl,λ_=>hK w p hp hb (.refl _ _),λh=>h rfl⟩)
theorem kf_ {w:World} {q:Option Addr} {l c:Nat} {bs:List UInt8} {s:ByteArray} {K:Value→World→Prop} (ho:Own T.uint8 1 w q c (bs.map bv)) (hl:l=bs.length) (hlc:l≤c) (hroom:l+s.size≤70368744177664)
  (hK:∀q' c' w',Own T.uint8 1 w' q' c' ((bs++s.data.toList).map bv)→l+s.size≤c'→Chg (aM_ q) w w'→(∀a,q'=some a→q=some a∨a=⟨w.heap.size,0,Option.none⟩)→K (.slice q' (l+s.size) c') w') :
  rn PR (Builtin.append_ #[T.a8_,T.string] T.a8_ #[.slice q l c,.string s]) K w:=by
 obtain ⟨i8,hi8,hk8,hb8,hz8⟩:=t_u8
 refine cA_ (js_ (i:=i8) cj_ n2_ hi8 hz8 hk8 hb8 ho (by simp [hl]) hlc hroom λq' c' w' h1 h2 h3 h4=>hK q' c' w' ?_ h2 h3 h4)
 rw [List.map_append];exact h1
theorem aV_ {w:World} {b m:Nat} {p q:Option Addr} {l c:Nat} {bs:List UInt8} {s:ByteArray} {K:Value→World→Prop} (h:BldP w b m p q l c bs) (hm:m≤w.heap.size) (hroom:l+s.size≤70368744177664)
  (hK:∀w' p' q' l' c',BldP w' b m p' q' l' c' (bs++s.data.toList)→Chg (λk=>k=b∨aM_ q k) w w'→(∀a,q'=some a→q=some a∨w.heap.size≤a.block)→K (.tuple #[.int .i64 s.size,.nilIface]) w') :
  aa_ PR F.a3_ ⟨[.pointer (some ⟨b,0,none⟩),.string s]⟩ w K:=by
 have hqb:∀a,q=some a→a.block≠b:=λa ha e=>by have:=h.off.le a ha;have:=h.lt;omega
 have h0:Fs (λk=>k=b∨aM_ q k) w [⟨b,#[.pointer p,.slice q l c],T.ag_,true⟩] w:=(Fr.init _ w).entry h.blk (λx h=>by cases h) λ_=>.inl rfl
 refine ck_ b p q l c s (λk=>k=b∨aM_ q k) K w h0 ⟨.inl rfl,trivial⟩ ?_
 refine ex_ h.ptr h.blk λw1 p1 hp1 hb1 g1=>?_
 have h1:=h0.mod1 g1 hb1
 refine ⟨rfl,_,_,_,_,h1,?_⟩
 have ho1:Own T.uint8 1 w1 q c (bs.map bv):=h.own.keep g1 λa ha e=>hqb a ha e
 refine kf_ ho1 h.len h.cap hroom λq' c' w2 ho2 hc2 g2 hq2=>?_
 have h2:Fs (λk=>k=b∨aM_ q k) w [⟨b,#[.pointer p1,.slice q l c],T.ag_,true⟩] w2:=h1.step g2 (λx hx ⟨a,ha,e⟩=>by
  simp at hx;subst hx;exact hqb a ha e.symm) λk _ hk=>.inr hk
 refine ⟨_,_,_,rfl,h2,λw3 h3=>?_⟩
 have hs1:w1.heap.size=w1.heap.size:=rfl
 have hsz:w.heap.size≤w1.heap.size:=g1.size
 have hmb:∀a,q'=some a→m≤a.block:=λa ha=>by
  rcases hq2 a ha with e | e
  ·exact h.off.le a e
  ·subst e;show m≤w1.heap.size;omega
 have g3:Chg (· = b) w2 w3:=h3.stp.mono λk _ hk=>by simpa using hk
 refine hK w3 p1 q' _ c' ⟨h3.blk 0 rfl,hp1,ho2.keep g3 (λa ha e=>?_),?_,hc2,?_,h.lt,?_⟩ h3.chg ?_
 ·have:=hmb a ha;have:=h.lt;have e':a.block=b:=e;omega
 ·rw [List.length_append,cI_,h.len]
 ·intro a ha hlt;have:=hmb a ha;omega
 ·intro a ha
  rcases hq2 a ha with e | e
  ·exact h.zero a e
  ·subst e;exact ⟨rfl,rfl⟩
 ·intro a ha
  rcases hq2 a ha with e | e
  ·exact .inl e
  ·subst e;exact .inr hsz
theorem ri_ {w:World} {b m:Nat} {p q:Option Addr} {l c:Nat} {bs:List UInt8} {K:Value→World→Prop} (h:BldP w b m p q l c bs) (hK:K (.int .i64 bs.length) w):aa_ PR F.dN_ ⟨[.pointer (some ⟨b,0,none⟩)]⟩ w K:=by
 refine eB_ b p q l c (· = b) K w ((Fr.init _ w).entry h.blk (λx h=>by cases h) λ_=>rfl) ⟨rfl,trivial⟩ ?_
 rw [h.len];exact hK
theorem nz_ (w:World) (a:Addr) (n:Nat):Chg (· = a.block) w (w.freeze a n):=by
 unfold World.freeze
 split
 ·exact .refl _ _
 ·refine ⟨rfl,rfl,rfl,by simp,λk hk hn=>?_⟩
  simp only [Array.getElem?_modify]
  rw [if_neg (by omega)]
theorem dy_ {w:World} {b m:Nat} {p q:Option Addr} {l c:Nat} {bs:List UInt8} {K:Value→World→Prop} (h:BldP w b m p q l c bs)
  (hK:∀w',Chg (aM_ q) w w'→K (.string (str bs)) w'):aa_ PR F.c6_ ⟨[.pointer (some ⟨b,0,none⟩)]⟩ w K:=by
 have hqb:∀a,q=some a→a.block≠b:=λa ha e=>by have:=h.off.le a ha;have:=h.lt;omega
 refine dG_ b p q l c (λk=>k=b∨aM_ q k) K w ((Fr.init _ w).entry h.blk (λx h=>by cases h) λ_=>.inl rfl) ⟨.inl rfl,trivial⟩ ?_
 intro w0 h0
 have g0:Grow w w0:=h0.grow
 have h:=h.grow g0
 have fin:∀w',Chg (aM_ q) w0 w'→Fs (λk=>k=b∨aM_ q k) w [⟨b,#[.pointer p,.slice q l c],T.ag_,true⟩] w':=λw' g=>h0.reset.step g (λx hx ⟨a,ha,e⟩=>by
  simp at hx;subst hx;exact hqb a ha e.symm) λk _ hk=>.inr hk
 have g0':∀ {w'},Chg (aM_ q) w0 w'→Chg (aM_ q) w w':=λg=>g0.then g
 have hlen:=h.len
 rcases h.own with ⟨rfl,hc,hb0⟩ | ⟨blk,o,cs,rfl,hb,h1,h2,h3,h4⟩
 ·have e:bs=[]:=by simpa using hb0
  subst e
  subst hlen
  refine hk_ (run_unsafeSliceData_nil w0 _ _ _ _) ⟨_,rfl,h0.reset,hk_ (run_unsafeString_none w0 _ _ _ _) ⟨_,rfl,h0.reset,hK w0 g0.chg⟩⟩
 ·have hz:=h.zero _ rfl
  simp only [] at hz
  obtain ⟨ho,_⟩:=hz
  subst ho
  have hS2:∀(w1:World) (pp:Option Addr),Chg (aM_ (some ⟨blk,0,none⟩)) w0 w1→(bs≠[]→pp=some ⟨blk,0,none⟩∧w1=w0)→rn PR (Builtin.unsafeString_ (#[T.lZ_,T.int]) T.string (#[.pointer pp,.int .i64 (l:Int)])) (λv1 w2=>∃s0,v1=.string s0∧Fs (λk=>k=b∨aM_ (some ⟨blk,0,none⟩) k) w [⟨b,#[.pointer p,.slice (some ⟨blk,0,none⟩) l c],T.ag_,true⟩] w2∧K (.string s0) w2) w1:=by
   intro w1 pp g1 hpp
   by_cases hbs:bs=[]
   ·subst hbs
    subst hlen
    exact hk_ (run_unsafeString_none w1 _ _ _ _) ⟨_,rfl,fin _ g1,hK _ (g0' g1)⟩
   ·obtain ⟨rfl,rfl⟩:=hpp hbs
    subst hlen
    have g2:Chg (aM_ (some ⟨blk,0,none⟩)) w1 (w1.freeze ⟨blk,0,none⟩ bs.length):=(nz_ w1 ⟨blk,0,none⟩ bs.length).mono λk _ e=>⟨_,rfl,e⟩
    refine hk_ (run_unsafeString_row w1 T.lZ_ T.int T.string T.uint8 ss_ c_u8 blk cs.size (fe_ hb) bs hbs ?_ ?_ ?_) ⟨_,rfl,fin _ g2,hK _ (g0' g2)⟩
    ·simp only [List.length_map] at h3;omega
    ·simp only [List.length_map] at h3;omega
    ·intro j x hj
     have hjl:j<bs.length:=by
      rcases Nat.lt_or_ge j bs.length with hl | hl
      ·exact hl
      ·simp [List.getElem?_eq_none hl] at hj
     rw [am_,ap_ hb,h4 j (by simpa using hjl),List.getElem?_map,hj];rfl
  by_cases hc:c=0
  ·subst hc
   have hbs:bs=[]:=List.eq_nil_of_length_eq_zero (by have:=h.cap;omega)
   refine hk_ (run_unsafeSliceData_zero w0 _ _ T.uint8 ss_ ⟨blk,0,none⟩ l _ (fe_ hb)) ⟨_,rfl,fin _ (Grow.chg (Chg.alloc w0 _)),?_⟩
   exact hS2 _ _ (Grow.chg (Chg.alloc w0 _)) λh=>absurd hbs h
  ·refine hk_ (run_unsafeSliceData_row w0 _ _ ⟨blk,0,none⟩ l c hc) ⟨_,rfl,h0.reset,?_⟩
   exact hS2 w0 _ (.refl _ _) λ_=>⟨rfl,rfl⟩
end Go.Vc
namespace Go.Vc
open Go
section
variable {S:Nat→Prop} {w0 wp w:World} {M:List Nat} {L:List Blk}
theorem Fr.modL (h:Fr S w0 wp M L w) {w':World} {S':Nat→Prop} (g:Chg S' w w') (L':List Blk) (hb:L'.map (·.b)=L.map (·.b))
  (hx:∀x,x∈L'→(x∈L∧¬S' x.b)∨(w'.heap[x.b]? = some (.cells x.cs x.T (0,0))∧∃y,y∈L∧y.b=x.b∧y.wr=true)) (hs:∀k,k<w0.heap.size→S' k→S k):Fs S w0 L' w':=
 ⟨h.chg.trans g hs,.refl _ _,λx hx'=>by
  rcases hx x hx' with ⟨h1,h2⟩ | ⟨h1,_⟩
  ·exact g.get (h.loc x h1) h2
  ·exact h1,by rw [hb];exact h.nodup,λx hx' hw=>by
  rcases hx x hx' with ⟨h1,_⟩ | ⟨_,y,hy,e,hyw⟩
  ·exact h.new x h1 hw
  ·rw [← e];exact h.new y hy hyw⟩
end
theorem eD_ {n:Nat} (hn:n≤72057594037927935) {w:World} {K:Value→World→Prop} (hK:∀w',Grow w w'→K (.string (str (ae_ n))) w'):aa_ PR F.eF_ ⟨[.int .i64 (n:Int)]⟩ w K:=
 eF_ n S0 K w (aX_ (by omega) λw1 g1=>⟨_,_,rfl,(Fr.init _ w).after g1,hK w1 g1⟩)
theorem iY_ (k:Nat):az_ (k+1)=if k%8=0 then az_ k+1 else az_ k:=by
 unfold az_;split <;> omega
theorem qK_ {k:Nat} (h:k%8=0):az_ k*8=k:=by unfold az_;omega
theorem c3_ {nodes first:Int} {R:Nat→List Int} {many:Nat} (hn:nodes≤4096) (hf:0≤first) (hm:first+many≤nodes) (hR:∀j,j<many→eO_ nodes (R j)) {k:Nat} (hk:k≤many):(aO_ first R k).length≤163840000:=by
 have:=e6_ (λj=>gapL (first+j) (R j)) 40000 k λi hi=>mX_ hn (by omega) (by omega) (hR i (by omega))
 have h2:k*40000≤4096*40000:=Nat.mul_le_mul_right _ (by omega)
 unfold aO_;omega
theorem f1_ {nodes first:Int} {R:Nat→List Int} {many:Nat} (hn:nodes≤4096) (hf:0≤first) (hm:first+many≤nodes) (hR:∀j,j<many→eO_ nodes (R j)) {k:Nat} (hk:k≤az_ many):(bS_ first R k).length≤4200:=by
 have:=e6_ (λj=>ae_ (aO_ first R (j*8)).length) 8 k λi hi=>al_ (by
  have:=c3_ hn hf hm hR (k:=i*8) (by unfold az_ at hk;omega);omega)
 unfold bS_;unfold az_ at hk;omega
theorem o3_ {w:World} {b nodes:Nat} {B Tg:List Int} (h:gR_ w b nodes B Tg) (hL:CsrL nodes B Tg) (hn:nodes≤4096) {first many:Nat} (hm:first+many≤nodes) {K:Value→World→Prop}
  (hK:∀w',Grow w w'→K (.tuple #[.string (str (bS_ first (λj=>rowOf B Tg (first+j)) (az_ many))),.string (str (aO_ first (λj=>rowOf B Tg (first+j)) many))]) w') :
  aa_ PR F.nk_ ⟨[.pointer (some ⟨b,0,none⟩),.int .i64 first,.int .i64 many]⟩ w K:=by
 generalize hRdef:(λj=>rowOf B Tg (first+j))=R at hK
 have hR:∀j,j<many→eO_ nodes (R j):=λj hj=>by rw [← hRdef];exact hL.row _ (by omega)
 refine lQ_ _ first many S0 K w ?_
 intro b0 hb0 b1 hb1 w0 hF0
 have k0:=hF0.blk 0 rfl
 have k1:=hF0.blk 1 rfl
 have hlt0:b0<w0.heap.size:=ak_ k0
 have hlt1:b1<w0.heap.size:=ak_ k1
 have hne:b0≠b1:=by
  have:=hF0.nodup
  simp at this;exact this
 refine ⟨λv p0 q0 l0 c0 p1 q1 l1 c1 m w'=>∃k:Nat,v=first+k∧k≤many∧m=many - k∧BldP w' b0 w0.heap.size p0 q0 l0 c0 (bS_ first R (az_ k))∧BldP w' b1 w0.heap.size p1 q1 l1 c1 (aO_ first R k)∧
  (∀a a',q0=some a→q1=some a'→a.block≠a'.block)∧w0.heap.size≤w'.heap.size,⟨_,0,by simp,by omega,rfl,.new k0 hlt0,.new k1 hlt1,(λa a' h=>by cases h),Nat.le_refl _⟩,?_⟩
 rintro v p0 q0 l0 c0 p1 q1 l1 c1 D m w1 ⟨k,rfl,hk,rfl,h0,h1,hd,hsz⟩ hF
 have hrl:=c3_ (nodes:=nodes) (first:=first) (k:=k) (by omega) (by omega) (by omega) hR hk
 have hil:=f1_ (nodes:=nodes) (first:=first) (k:=az_ k) (by omega) (by omega) (by omega) hR (by unfold az_;omega)
 rw [w64 (n:=(first:Int)+many) (by omega) (by omega)]
 refine ⟨λhlt=>?_,λhge=>?_⟩
 ·have hk':k<many:=by omega
  have hgl:=mX_ (nodes:=nodes) (v:=first+k) (by omega) (by omega) (by omega) (hR k hk')
  have hev:((first:Int)+k)=((first+k:Nat):Int):=by omega
  have row:∀(w5:World) (p0' q0':Option Addr) (l0' c0':Nat),BldP w5 b0 w0.heap.size p0' q0' l0' c0' (bS_ first R (az_ (k+1)))→BldP w5 b1 w0.heap.size p1 q1 l1 c1 (aO_ first R k)→(∀a a',q0'=some a→q1=some a'→a.block≠a'.block)→w0.heap.size≤w5.heap.size→
    Fs S0 w [⟨b0,#[.pointer p0',.slice q0' l0' c0'],T.ag_,true⟩,⟨b1,#[.pointer p1,.slice q1 l1 c1],T.ag_,true⟩] w5→
    aa_ PR F.c9_ #[.pointer (some ⟨b,0,none⟩),.int .i64 ((first:Int)+k)] w5 (λv4 w6=>∃(q6:Option Addr) (l10 l11:Nat) (v5:Value),v4=.tuple #[.slice q6 l10 l11,v5]∧Fs S0 w [⟨b0,#[.pointer p0',.slice q0' l0' c0'],T.ag_,true⟩,⟨b1,#[.pointer p1,.slice q1 l1 c1],T.ag_,true⟩] w6∧
     aa_ PR F.dR_ #[.pointer (some ⟨b,0,none⟩)] w6 (λv6 w7=>∃n3:Int,v6=.int .i64 n3∧Fs S0 w [⟨b0,#[.pointer p0',.slice q0' l0' c0'],T.ag_,true⟩,⟨b1,#[.pointer p1,.slice q1 l1 c1],T.ag_,true⟩] w7∧
      aa_ PR F.j3_ #[.int .i64 n3,.int .i64 ((first:Int)+k),.slice q6 l10 l11] w7 (λv7 w8=>∃(s1:ByteArray) (v8:Value),v7=.tuple #[.string s1,v8]∧Fs S0 w [⟨b0,#[.pointer p0',.slice q0' l0' c0'],T.ag_,true⟩,⟨b1,#[.pointer p1,.slice q1 l1 c1],T.ag_,true⟩] w8∧
       aa_ PR F.a3_ #[.pointer (some ⟨b1,0,none⟩),.string s1] w8 (λv9 w9=>∃(n4:Int) (v10:Value),v9=.tuple #[.int .i64 n4,v10]∧∃(q7 q8:Option Addr) (l12 l13:Nat),Fs S0 w [⟨b0,#[.pointer p0',.slice q0' l0' c0'],T.ag_,true⟩,⟨b1,#[.pointer q7,.slice q8 l12 l13],T.ag_,true⟩] w9∧
        ∃l14:Nat,l14<many - k∧∃k':Nat,IntKind.wrap .i64 ((first:Int)+k+1)=first+k'∧k'≤many∧l14=many - k'∧BldP w9 b0 w0.heap.size p0' q0' l0' c0' (bS_ first R (az_ k'))∧BldP w9 b1 w0.heap.size q7 q8 l12 l13 (aO_ first R k')∧
         (∀a a',q0'=some a→q8=some a'→a.block≠a'.block)∧w0.heap.size≤w9.heap.size)))):=by
   intro w5 p0' q0' l0' c0' i0 i1 hd' hsz' hF5
   rw [hev]
   refine lp_ (h.grow hF5.gr) hL hn (by omega) λw6 q6 c6 g6 hs6=>⟨_,_,_,_,rfl,hF5.after g6,?_⟩
   have hF6:=hF5.after g6
   refine bY_ (h.grow hF6.gr) hn ⟨_,rfl,hF6,?_⟩
   have er:rowOf B Tg (first+k)=R k:=by rw [← hRdef]
   rw [er] at hs6 ⊢
   refine l9_ (by omega) (by omega) (hR k hk') hs6 rfl λw8 g8=>⟨_,_,rfl,hF6.after g8,?_⟩
   have hF8:=hF6.after g8
   have i0:=(i0.grow g6).grow g8
   have i1:=(i1.grow g6).grow g8
   have hsz8:w0.heap.size≤w8.heap.size:=by have:=g6.size;have:=g8.size;omega
   have hl1:=i1.len
   refine aV_ i1 hsz8 (by rw [af_];rw [← hev];omega) λw9 p' q' l' c' i1' g9 hq9=>⟨_,_,rfl,p',q',l',c',hF8.modL g9 _ rfl ?_ ?_,many - (k+1),by omega,k+1,?_,by omega,rfl,i0.keep g9 ?_ ?_,?_,?_,by have:=g9.size;omega⟩
   ·intro x hx
    rcases List.mem_cons.1 hx with rfl | hx
    ·refine .inl ⟨List.mem_cons_self,?_⟩
     rintro (e | ⟨a,ha,e⟩)
     ·exact hne e
     ·have:=i1.off.le a ha;simp only [] at e;omega
    ·simp at hx;subst hx
     exact .inr ⟨i1'.blk,_,List.mem_cons_of_mem _ List.mem_cons_self,rfl,rfl⟩
   ·rintro j hj (e | ⟨a,ha,e⟩)
    ·omega
    ·have:=i1.off.le a ha;have:=hF0.chg.size;omega
   ·rw [w64 (by omega) (by omega)];omega
   ·rintro (e | ⟨a,ha,e⟩)
    ·exact hne e
    ·have:=i1.off.le a ha;omega
   ·rintro a ha (e | ⟨a',ha',e⟩)
    ·have:=i0.off.le a ha;omega
    ·exact hd' a a' ha ha' e
   ·have:aO_ first R (k+1)=aO_ first R k++gapL (first+k) (R k):=rfl
    rw [this,hev]
    rw [bd_] at i1'
    exact i1'
   ·intro a a' ha ha'
    rcases hq9 a' ha' with e | e
    ·exact hd' a a' ha e
    ·have:=i0.own.lt a ha;omega
  rw [w64 (n:=(first:Int)+k - first) (by omega) (by omega),show ((first:Int)+k - first)=k by omega,Int.tmod_eq_emod_of_nonneg (by omega)]
  refine ⟨λhe=>?_,λhe=>?_⟩
  ·have he':k%8=0:=by omega
   refine ri_ h1 ⟨_,rfl,hF,?_⟩
   refine eD_ (by omega) λw3 g3=>⟨_,rfl,hF.after g3,?_⟩
   have hF3:=hF.after g3
   have i0:=h0.grow g3
   have i1:=h1.grow g3
   have hsz3:w0.heap.size≤w3.heap.size:=by have:=g3.size;omega
   have h8:=al_ (n:=(aO_ first R k).length) (by omega)
   have hl0:=i0.len
   refine aV_ i0 hsz3 (by rw [af_];omega) λw5 p' q' l' c' i0' g5 hq5=>⟨_,_,rfl,p',q',l',c',hF3.modL g5 _ rfl ?_ ?_,row w5 p' q' l' c' ?_ (i1.keep g5 ?_ ?_) ?_ (by have:=g5.size;omega) (hF3.modL g5 _ rfl ?_ ?_)⟩
   ·intro x hx
    rcases List.mem_cons.1 hx with rfl | hx
    ·exact .inr ⟨i0'.blk,_,List.mem_cons_self,rfl,rfl⟩
    ·simp at hx;subst hx
     refine .inl ⟨List.mem_cons_of_mem _ List.mem_cons_self,?_⟩
     rintro (e | ⟨a,ha,e⟩)
     ·exact hne e.symm
     ·have:=i0.off.le a ha;simp only [] at e;omega
   ·rintro j hj (e | ⟨a,ha,e⟩)
    ·omega
    ·have:=i0.off.le a ha;have:=hF0.chg.size;omega
   ·rw [iY_,if_pos he']
    have:bS_ first R (az_ k+1)=bS_ first R (az_ k)++ae_ (aO_ first R (az_ k*8)).length:=rfl
    rw [this,qK_ he']
    rw [bd_] at i0'
    exact i0'
   ·rintro (e | ⟨a,ha,e⟩)
    ·exact hne e.symm
    ·have:=i0.off.le a ha;omega
   ·rintro a ha (e | ⟨a',ha',e⟩)
    ·have:=i1.off.le a ha;omega
    ·exact hd a' a ha' ha e.symm
   ·intro a a' ha ha'
    rcases hq5 a ha with e | e
    ·exact hd a a' e ha'
    ·have:=i1.own.lt a' ha';omega
   ·intro x hx
    rcases List.mem_cons.1 hx with rfl | hx
    ·exact .inr ⟨i0'.blk,_,List.mem_cons_self,rfl,rfl⟩
    ·simp at hx;subst hx
     refine .inl ⟨List.mem_cons_of_mem _ List.mem_cons_self,?_⟩
     rintro (e | ⟨a,ha,e⟩)
     ·exact hne e.symm
     ·have:=i0.off.le a ha;simp only [] at e;omega
   ·rintro j hj (e | ⟨a,ha,e⟩)
    ·omega
    ·have:=i0.off.le a ha;have:=hF0.chg.size;omega
  ·have he':¬k%8=0:=by omega
   refine row w1 p0 q0 l0 c0 ?_ h1 hd hsz hF
   rw [iY_,if_neg he'];exact h0
 ·have e:k=many:=by omega
  subst e
  refine dy_ h0 λw2 g2=>⟨_,rfl,?_,?_⟩
  ·refine hF.step g2 (λx hx ⟨a,ha,e⟩=>?_) λj hj ⟨a,ha,e⟩=>?_
   ·have:=h0.off.le a ha
    rcases List.mem_cons.1 hx with rfl | hx
    ·simp only [] at e;omega
    ·simp at hx;subst hx;simp only [] at e;omega
   ·have:=h0.off.le a ha;have:=hF0.chg.size;omega
  ·have h1':BldP w2 b1 w0.heap.size p1 q1 l1 c1 (aO_ first R k):=h1.keep g2 (λ⟨a,ha,e⟩=>by have:=h0.off.le a ha;omega) (λa ha ⟨a',ha',e⟩=>hd a' a ha' ha e.symm)
   have hF2:Fs S0 w [⟨b0,#[.pointer p0,.slice q0 l0 c0],T.ag_,true⟩,⟨b1,#[.pointer p1,.slice q1 l1 c1],T.ag_,true⟩] w2:=hF.step g2 (λx hx ⟨a,ha,e⟩=>by
    have:=h0.off.le a ha
    rcases List.mem_cons.1 hx with rfl | hx
    ·simp only [] at e;omega
    ·simp at hx;subst hx;simp only [] at e;omega) λj hj ⟨a,ha,e⟩=>by
    have:=h0.off.le a ha;have:=hF0.chg.size;omega
   refine dy_ h1' λw3 g3=>?_
   have hF3:Fs S0 w [⟨b0,#[.pointer p0,.slice q0 l0 c0],T.ag_,true⟩,⟨b1,#[.pointer p1,.slice q1 l1 c1],T.ag_,true⟩] w3:=hF2.step g3 (λx hx ⟨a,ha,e⟩=>by
    have:=h1'.off.le a ha
    rcases List.mem_cons.1 hx with rfl | hx
    ·simp only [] at e;omega
    ·simp at hx;subst hx;simp only [] at e;omega) λj hj ⟨a,ha,e⟩=>by
    have:=h1'.off.le a ha;have:=hF0.chg.size;omega
   exact ⟨_,rfl,hF3,hK w3 hF3.chg⟩
end Go.Vc
namespace Go.Vc
open Go
def Dj (q r:Option Addr):Prop:=∀a a',q=some a→r=some a'→a.block≠a'.block
theorem Dj.none (r:Option Addr):Dj Option.none r:=λa a' h=>by cases h
theorem Dj.symm {q r:Option Addr} (h:Dj q r):Dj r q:=λa a' h1 h2=>(h a' a h2 h1).symm
theorem Dj.next {q q' r:Option Addr} {n:Nat} (h:Dj q r) (hq:∀a,q'=some a→q=some a∨a=⟨n,0,Option.none⟩) (hr:∀a,r=some a→a.block<n):Dj q' r:=λa a' h1 h2=>by
 rcases hq a h1 with e | e
 ·exact h a a' e h2
 ·subst e;have:=hr a' h2;simp only [];omega
theorem Dj.off {q r:Option Addr} (h:Dj q r):Off (aM_ q) r:=λa ha ⟨a',ha',e⟩=>h a' a ha' ha e.symm
theorem nt_ {first many at_:Int} (h0:0≤many∧many≤4096) {w:World} {K:Value→World→Prop} (hK:∀w',Grow w w'→K (.int .i64 (az_ many.toNat)) w'):aa_ PR F.b9_ ⟨[.agg #[.int .i64 first,.int .i64 many,.int .i64 at_]]⟩ w K:=by
 refine b9_ first many at_ S0 K w λb hb w0 h0'=>?_
 rw [w64 (n:=many+8) (by omega) (by omega),w64 (n:=many+8 - 1) (by omega) (by omega),Int.tdiv_eq_ediv_of_nonneg (by omega),w64 (by omega) (by omega)]
 have:(many+8 - 1) / 8=((az_ many.toNat:Nat):Int):=by unfold az_;omega
 rw [this];exact hK w0 h0'.chg
theorem pa_ {s:ByteArray} {nodes:Int} {first many:Nat} {r:List UInt8} (hn:nodes≤4096) (hm:(first:Int)+many≤nodes) (h1:1≤many) (hs:s.size≤4611686018427387904) (hd:s.data.toList=ae_ first++(ae_ many++r)) {w:World} {K:Value→World→Prop}
  (hK:∀w',Grow w w'→K (.tuple #[.agg #[.int .i64 first,.int .i64 many,.int .i64 ((ae_ first).length+(ae_ many).length:Nat)],.nilIface]) w'):aa_ PR F.eG_ ⟨[.string s,.int .i64 nodes]⟩ w K:=by
 refine eG_ s nodes S0 K w λb hb=>⟨λh=>by omega,λ_=>⟨λh=>by omega,λ_ w2 hF2=>?_⟩⟩
 refine d9_ (at_:=0) (n:=first) hs (by omega) (by simpa using hd) (by omega) λ_ _=>⟨_,_,_,rfl,hF2.reset,λ_=>?_,(λt x h=>by cases h),.inl rfl⟩
 refine d9_ (n:=many) hs (by omega) (r:=r) (by rw [show ((0:Int)+(ae_ first).length).toNat=(ae_ first).length by omega,hd,List.drop_left' rfl]) (by omega) λ_ _=>⟨_,_,_,rfl,hF2.reset,λ_=>?_,(λt x h=>by cases h),.inl rfl⟩
 rw [w64 (n:=nodes - first) (by omega) (by omega)]
 refine ⟨λh=>by omega,λ_=>⟨λh=>by omega,λ_=>⟨λh=>by omega,λ_ w11 h11=>?_⟩⟩⟩
 have e:(0:Int)+(ae_ first).length+(ae_ many).length=(((ae_ first).length+(ae_ many).length:Nat):Int):=by omega
 rw [e];exact hK w11 h11.chg
def cH_ (f:Nat→Nat) (n:Nat):List Int:=(List.range n).map λi=>((f i:Nat):Int)
theorem hC_ (f:Nat→Nat) (n:Nat):cH_ f (n+1)=cH_ f n++[((f n:Nat):Int)]:=by simp [cH_,List.range_succ]
theorem bA_ (f:Nat→Nat) (n:Nat):(cH_ f n).length=n:=by simp [cH_]
theorem kT_ (f:Nat→Nat) {n i:Nat} (h:i<n):(cH_ f n).getD i 0=f i:=by simp [cH_,h]
theorem o9_ {s:ByteArray} {first many at_:Int} {f:Nat→Nat} {n:Nat} {r:List UInt8} (hs:s.size≤4611686018427387904) (hn:n≤4096) (hf:∀i,i<n→f i≤72057594037927935) (ha:0≤at_) (hd:s.data.toList.drop at_.toNat=cat (λi=>ae_ (f i)) n++r) (hat:at_≤s.size)
  {w:World} {K:Value→World→Prop}
  (hK:∀w' q c q2 n2 c2,Grow w w'→Sl w' q ((cH_ f n).map iv)→n2=n→K (.tuple #[.slice q n c,.slice q2 n2 c2,.int .i64 (at_+(cat (λi=>ae_ (f i)) n).length),.nilIface]) w') :
  aa_ PR F.b__ ⟨[.agg #[.int .i64 first,.int .i64 many,.int .i64 at_],.string s,.int .i64 n]⟩ w K:=by
 refine b__ first many at_ s n S0 K w λb hb w0 hF0=>?_
 refine ⟨λq l c q2 l2 c2 p i m w'=>∃(k:Nat) (pl:List Int),i=k∧k≤n∧m=n - k∧p=at_+(cat (λi=>ae_ (f i)) k).length∧Own T.int 1 w' q c ((cH_ f k).map iv)∧k=l∧l≤c∧Own T.int 1 w' q2 c2 (pl.map iv)∧pl.length=k∧k=l2∧l2≤c2∧
  Off (λj=>j<w0.heap.size) q∧Off (λj=>j<w0.heap.size) q2∧Dj q q2∧w0.heap.size≤w'.heap.size∧p≤s.size,⟨_,0,[],rfl,by omega,rfl,by simp [cat],.nil _ _ _,rfl,Nat.le_refl _,.nil _ _ _,rfl,rfl,Nat.le_refl _,.none _,.none _,.none _,Nat.le_refl _,hat⟩,?_⟩
 rintro q l c q2 l2 c2 p i D m w1 ⟨k,pl,rfl,hk,rfl,rfl,ho,rfl,hlc,ho2,hpl,rfl,hlc2,hof,hof2,hdj,hsz,hp⟩ hF
 refine ⟨λhlt=>?_,λhge=>?_⟩
 ·have hk':k<n:=by omega
  obtain ⟨r',hsp⟩:=de_ (λi=>ae_ (f i)) hk'
  have hdk:s.data.toList.drop (at_+(cat (λi=>ae_ (f i)) k).length).toNat=ae_ (f k)++(r'++r):=by
   have e0:s.data.toList.drop at_.toNat=cat (λi=>ae_ (f i)) k++(ae_ (f k)++(r'++r)):=by rw [hd,hsp];simp [List.append_assoc]
   rw [show (at_+(cat (λi=>ae_ (f i)) k).length).toNat=at_.toNat+(cat (λi=>ae_ (f i)) k).length by omega,← List.drop_drop,e0,List.drop_left' rfl]
  refine d9_ hs (by omega) hdk (hf k hk') λ_ hle=>⟨_,_,_,rfl,hF,λ_=>?_,(λt x h=>by cases h),.inl rfl⟩
  intro b1 hb1 w3 hF3
  refine gq_ (ho.grow hF3.grow) (by rw [bA_]) hlc (ys:=[((f k:Nat):Int)]) (hF3.sl 0 rfl) rfl (by omega) λq' c' w4 ho4 hc4 g4 hq4=>?_
  have hF4:=hF3.app2 g4 w0.heap.size w1.heap.size hof (λa ha=>ho.lt a ha) (λy hy=>by simp at hy;subst hy;exact .inr hb1) hF0.chg.size
  refine ⟨_,_,_,rfl,hF4,λb2 hb2 w5 hF5=>?_⟩
  have ho2':Own T.int 1 w4 q2 c2 (pl.map iv):=(ho2.grow hF3.grow).keep g4 hdj.off
  have ho4':=ho4.grow hF5.grow
  have hs3:w1.heap.size≤w3.heap.size:=hF3.grow.size
  refine gq_ (ho2'.grow hF5.grow) (by rw [hpl]) hlc2 (ys:=[at_+((cat (λi=>ae_ (f i)) k).length:Nat)]) (hF5.sl 1 rfl) rfl (by omega) λq2' c2' w6 ho6 hc6 g6 hq6=>?_
  have hF6:=hF5.app2 g6 w0.heap.size w1.heap.size hof2 (λa ha=>by have:=ho2.lt a ha;omega) (λy hy=>by
   rcases List.mem_cons.1 hy with rfl | hy
   ·exact .inr hb1
   ·simp at hy;subst hy;exact .inr (by have:=g4.size;simp only [];omega)) hF0.chg.size
  have hdj4:Dj q' q2:=hdj.next hq4 (λa ha=>by have:=ho2.lt a ha;omega)
  have hdj6:Dj q2' q':=hdj4.symm.next hq6 (λa ha=>ho4'.lt a ha)
  refine ⟨_,_,_,rfl,hF6,n - (k+1),by omega,k+1,_,wr1 (by omega),by omega,rfl,?_,?_,rfl,hc4,ho6,by simp [hpl],rfl,hc6,hof.next hq4 (by omega),hof2.next hq6 (by have:=g4.size;have:=hF5.grow.size;omega),hdj6.symm,by have:=g4.size;have:=hF5.grow.size;have:=g6.size;omega,hle⟩
  ·rw [cat,List.length_append];omega
  ·rw [hC_];exact ho4'.keep g6 hdj4.symm.off
 ·have e:k=n:=by omega
  subst e
  exact hK w1 q c q2 k c2 hF.gr ho.sl rfl
theorem sr_:PR.underlying T.oq_=some (.slice T.dz_):=by kernel_rfl
theorem sA_:tyI T.dz_ 1 24 (.slice none 0 0):=by
 have h:(match PR.info? T.dz_ with | some i=>i.size == 1 && i.bytes == 24 && (match i.zero with | some (.slice none 0 0)=>true | _=>false) | none=>false)=true:=by kernel_rfl
 split at h
 ·rename_i i hi
  simp only [Bool.and_eq_true,beq_iff_eq] at h
  refine ⟨i,hi,h.1.1,h.1.2,?_⟩
  have h2:=h.2
  split at h2
  ·assumption
  ·cases h2
 ·cases h
end Go.Vc
namespace Go.Vc
open Go Go.MapKept
def MapP (w:World) (k:TypeId) (r n:Nat) (R:Value→Value→Prop):Prop:=
 ∃es clock,w.heap[r]? = some (.map es clock)∧Stamped es clock∧es.size≤n∧(∀x∈es.toList,∃l,keyOf PR k x.key=some l)∧∀key v,R key v↔∃x∈es.toList,x.key=key∧x.val=v
theorem MapP.keep {S:Nat→Prop} {w w':World} {k:TypeId} {r n:Nat} {R:Value→Value→Prop} (h:MapP w k r n R) (g:Chg S w w') (hn:¬S r):MapP w' k r n R:=by
 obtain ⟨es,clock,h1,h2⟩:=h
 exact ⟨es,clock,g.get h1 hn,h2⟩
theorem MapP.grow {w w':World} {k:TypeId} {r n:Nat} {R:Value→Value→Prop} (h:MapP w k r n R) (g:Grow w w'):MapP w' k r n R:=h.keep g id
theorem MapP.lt {w:World} {k:TypeId} {r n:Nat} {R:Value→Value→Prop} (h:MapP w k r n R):r<w.heap.size:=by
 obtain ⟨es,clock,h1,h2⟩:=h;exact ak_ h1
theorem MapP.le {w:World} {k:TypeId} {r n m:Nat} {R:Value→Value→Prop} (h:MapP w k r n R) (hm:n≤m):MapP w k r m R:=by
 obtain ⟨es,clock,h1,h2,h3,h4⟩:=h;exact ⟨es,clock,h1,h2,Nat.le_trans h3 hm,h4⟩
theorem hA_ {α:Type} {l:List α} (h:l.Nodup) {i j:Nat} {a:α} (hi:l[i]? = some a) (hj:l[j]? = some a):i=j:=by
 obtain ⟨hi',ei⟩:=List.getElem?_eq_some_iff.1 hi
 obtain ⟨hj',ej⟩:=List.getElem?_eq_some_iff.1 hj
 have:=List.pairwise_iff_getElem.1 h
 rcases Nat.lt_trichotomy i j with h' | h' | h'
 ·exact absurd (ei.trans ej.symm) (this i j hi' hj' h')
 ·exact h'
 ·exact absurd (ej.trans ei.symm) (this j i hj' hi' h')
theorem MapP.inj {w:World} {k:TypeId} {r n:Nat} {R:Value→Value→Prop} (h:MapP w k r n R) {key a b:Value} (ha:R key a) (hb:R key b):a=b:=by
 obtain ⟨es,clock,h1,⟨_,_,hn⟩,h3,h4,h5⟩:=h
 obtain ⟨x,hx,hxk,rfl⟩:=(h5 key a).1 ha
 obtain ⟨y,hy,hyk,rfl⟩:=(h5 key b).1 hb
 have:x=y:=by
  obtain ⟨i,hi,rfl⟩:=List.getElem_of_mem hx
  obtain ⟨j,hj,rfl⟩:=List.getElem_of_mem hy
  have hij:i=j:=hA_ hn (a:=key) (by rw [List.getElem?_map,List.getElem?_eq_getElem hi];exact congrArg some hxk) (by rw [List.getElem?_map,List.getElem?_eq_getElem hj];exact congrArg some hyk)
  subst hij;rfl
 rw [this]
theorem fg_ {α:Type} {s:Sem α} {K:α→World→Prop} {w w':World} {a:α} (h:s.run PR w=.ok a w') (hK:K a w'):rn PR s K w:=⟨a,w',h,hK⟩
def updR (R:Value→Value→Prop) (key val:Value):Value→Value→Prop:=λk v=>(k=key∧v=val)∨(k≠key∧R k v)
theorem ou_ (w:World) (r:Nat) (o:Obj):Chg (· = r) w { w with heap:=w.heap.setIfInBounds r o }:=
 ⟨rfl,rfl,rfl,by simp,λk hk hn=>by
  show (w.heap.setIfInBounds r o)[k]? = _
  rw [Array.getElem?_setIfInBounds_ne (λe=>hn e.symm)]⟩
theorem km_ {t k e:TypeId} (Ky:Maps.Keyed PR k) (ht:PR.underlying t=some (.map k e)) {w:World} {r n:Nat} {R:Value→Value→Prop} (h:MapP w k r n R) {key val:Value} {kl:Lit} (hkey:keyOf PR k key=some kl) {K:Unit→World→Prop}
  (hK:∀w',MapP w' k r (n+1) (updR R key val)→Chg (· = r) w w'→w'.heap.size=w.heap.size→K () w'):rn PR (Instr.mapUpdate t (.map (some r)) key val) K w:=by
 obtain ⟨es,clock,hb,hst,hsz,hks,hR⟩:=h
 have hlt:=ak_ hb
 rcases Ky.find w hkey es.toList hks with ⟨h1,h2⟩ | ⟨j,e0,h1,h2,h3⟩
 ·refine fg_ (w':={ w with heap:=w.heap.setIfInBounds r (.map (es.push ⟨key,val,clock⟩) (clock+1)) }) (a:=()) ?_ (hK _ ⟨es.push ⟨key,val,clock⟩,clock+1,?_,stamped_push hst h2,by simp;omega,?_,?_⟩ (ou_ _ _ _) (by simp))
  ·simp [Instr.mapUpdate,run_underlying ht,MapKept.run_getObj_map hb,Ky.check w false hkey,h1,MapKept.run_setObj_map _ hb]
  ·show (w.heap.setIfInBounds r _)[r]? = _
   simp [hlt]
  ·intro x hx
   simp only [Array.toList_push,List.mem_append,List.mem_singleton] at hx
   rcases hx with hx | rfl
   ·exact hks x hx
   ·exact ⟨kl,hkey⟩
  ·intro k' v
   simp only [Array.toList_push,List.mem_append,List.mem_singleton,updR]
   constructor
   ·rintro (⟨rfl,rfl⟩ | ⟨hne,hr⟩)
    ·exact ⟨_,.inr rfl,rfl,rfl⟩
    ·obtain ⟨x,hx,h⟩:=(hR k' v).1 hr
     exact ⟨x,.inl hx,h⟩
   ·rintro ⟨x,hx | rfl,h,h'⟩
    ·exact .inr ⟨λe=>h2 x hx (h.trans e),(hR k' v).2 ⟨x,hx,h,h'⟩⟩
    ·exact .inl ⟨h.symm,h'.symm⟩
 ·have hjl:j<es.toList.length:=(List.getElem?_eq_some_iff.1 h2).1
  have hjs:j<es.size:=by simpa using hjl
  have hej:es[j]? = some e0:=by rw [← Array.getElem?_toList];exact h2
  have hm0:e0∈es.toList:=List.mem_of_getElem? h2
  have hmod:∀x,x∈(es.modify j λe=>{ e with key:=key,val:=val }).toList↔(x = { e0 with key:=key,val:=val })∨(x∈es.toList∧x.key≠key):=by
   intro x
   have hget:∀i,(es.modify j λe=>{ e with key:=key,val:=val }).toList[i]? = if j=i then (es[i]?).map λe=>{ e with key:=key,val:=val } else es[i]?:=by
    intro i;rw [Array.getElem?_toList,Array.getElem?_modify]
   constructor
   ·intro hx
    obtain ⟨i,hi⟩:=List.getElem?_of_mem hx
    rw [hget] at hi
    split at hi
    ·rename_i e;subst e
     rw [hej] at hi
     simp only [Option.map_some,Option.some.injEq] at hi
     exact .inl hi.symm
    ·rename_i hne
     refine .inr ⟨List.mem_of_getElem? (by rw [Array.getElem?_toList];exact hi),λhk=>?_⟩
     obtain ⟨_,_,hn⟩:=hst
     have e1:(es.toList.map (·.key))[j]? = some key:=by rw [List.getElem?_map,h2];simp [h3]
     have e2:(es.toList.map (·.key))[i]? = some key:=by rw [List.getElem?_map,Array.getElem?_toList,hi];simp [hk]
     exact hne (hA_ hn e1 e2)
   ·rintro (rfl | ⟨hx,hk⟩)
    ·refine List.mem_of_getElem? (i:=j) ?_
     rw [hget,if_pos rfl,hej];rfl
    ·obtain ⟨i,hi⟩:=List.getElem?_of_mem hx
     refine List.mem_of_getElem? (i:=i) ?_
     rw [hget,if_neg,← Array.getElem?_toList,hi]
     rintro rfl
     rw [h2] at hi;cases hi
     exact hk h3
  refine fg_ (w':={ w with heap:=w.heap.setIfInBounds r (.map (es.modify j λe=>{ e with key:=key,val:=val }) clock) }) (a:=()) ?_ (hK _ ⟨es.modify j λe=>{ e with key:=key,val:=val },clock,?_,stamped_modify hst j _ (λ_ _=>rfl) (λe _ he=>by rw [hej] at he;cases he;exact h3.symm),by simp;omega,?_,?_⟩ (ou_ _ _ _) (by simp))
  ·have hst2:=Ky.stays w hkey
   simp [Instr.mapUpdate,run_underlying ht,MapKept.run_getObj_map hb,Ky.check w false hkey,h1,hej,h3,hst2,MapKept.run_setObj_map _ hb]
  ·show (w.heap.setIfInBounds r _)[r]? = _
   simp [hlt]
  ·intro x hx
   rcases (hmod x).1 hx with rfl | ⟨hx,_⟩
   ·exact ⟨kl,hkey⟩
   ·exact hks x hx
  ·intro k' v
   constructor
   ·rintro (⟨rfl,rfl⟩ | ⟨hne,hr⟩)
    ·exact ⟨_,(hmod _).2 (.inl rfl),rfl,rfl⟩
    ·obtain ⟨x,hx,h,h'⟩:=(hR k' v).1 hr
     exact ⟨x,(hmod x).2 (.inr ⟨hx,λe=>hne (h.symm.trans e)⟩),h,h'⟩
   ·rintro ⟨x,hx,h,h'⟩
    rcases (hmod x).1 hx with rfl | ⟨hx,hk⟩
    ·exact .inl ⟨h.symm,h'.symm⟩
    ·exact .inr ⟨λe=>hk (h.trans e),(hR k' v).2 ⟨x,hx,h,h'⟩⟩
theorem dW_ {t k e:TypeId} (Ky:Maps.Keyed PR k) (ht:PR.underlying t=some (.map k e)) {w:World} {r n:Nat} {R:Value→Value→Prop} (h:MapP w k r n R) {key:Value} {kl:Lit} (hkey:keyOf PR k key=some kl) (c:Bool) {z:Value} (hz:∀w:World,(zeroValue e).run PR w=.ok z w)
  {K:Value→World→Prop} (h1:∀v,R key v→K (if c then .tuple #[v,.bool true] else v) w) (h2:(∀v,¬R key v)→K (if c then .tuple #[z,.bool false] else z) w):rn PR (Instr.lookup t (.map (some r)) key c) K w:=by
 obtain ⟨es,clock,hb,hst,hsz,hks,hR⟩:=h
 rcases Ky.find w hkey es.toList hks with ⟨e1,e2⟩ | ⟨j,e0,e1,e2,e3⟩
 ·refine fg_ (w':=w) ?_ (h2 λv hv=>?_)
  ·simp [Instr.lookup,run_underlying ht,MapKept.run_getObj_map hb,Ky.check w _ hkey,e1,hz,Result.andThen]
  ·obtain ⟨x,hx,hk,_⟩:=(hR key v).1 hv
   exact e2 x hx hk
 ·refine fg_ (w':=w) ?_ (h1 e0.val ((hR _ _).2 ⟨e0,List.mem_of_getElem? e2,e3,rfl⟩))
  simp [Instr.lookup,run_underlying ht,MapKept.run_getObj_map hb,Ky.check w _ hkey,e1,Result.andThen]
theorem oY_ {t k:TypeId} {w:World} {K:Value→World→Prop} (hK:∀w' r,r=w.heap.size→MapP w' k r 0 (λ_ _=>False)→Grow w w'→K (.map (some r)) w'):rn PR (Instr.makeMap t Option.none) K w:=by
 refine fg_ (w':=w.alloc (.map #[] 0)) (a:=.map (some w.heap.size)) (by simp [Instr.makeMap]) (hK _ _ rfl ⟨#[],0,?_,stamped_empty 0,by simp,by simp,by simp⟩ (Chg.alloc w _))
 show (w.heap.push _)[w.heap.size]? = _
 simp
end Go.Vc
namespace Go.Vc
open Go
theorem jw_ {w:World} {b nodes:Nat} {B Tg:List Int} (h:gR_ w b nodes B Tg) (hL:CsrL nodes B Tg) (hn:nodes≤4096) {first many:Nat} (hm:first+many≤nodes) (h1:1≤many) {K:Value→World→Prop}
  (hK:∀w',Grow w w'→K (.tuple #[.string (str (gi_ first (λj=>rowOf B Tg (first+j)) many)),.nilIface]) w') :
  aa_ PR F.hd_ ⟨[.pointer (some ⟨b,0,none⟩),.int .i64 first,.int .i64 many]⟩ w K:=by
 have hR:∀j,j<many→eO_ (nodes:Int) ((λj=>rowOf B Tg (first+j)) j):=λj hj=>hL.row _ (by omega)
 refine hd_ _ first many S0 K w ⟨(λh=>by cases h),λa0 ha=>⟨(λh=>by omega),λ_=>⟨(λh=>by omega),λ_=>?_⟩⟩⟩
 refine bY_ h hn ⟨_,rfl,.init _ w,(λh=>by omega),λ_=>?_⟩
 refine bY_ h hn ⟨_,rfl,.init _ w,λh=>?_,λ_=>?_⟩
 ·rw [w64 (by omega) (by omega)] at h;omega
 refine o3_ h hL hn hm λw2 g2=>⟨_,_,rfl,(Fr.init _ w).after g2,?_⟩
 refine eD_ (by omega) λw3 g3=>⟨_,rfl,((Fr.init _ w).after g2).after g3,?_⟩
 refine eD_ (by omega) λw4 g4=>⟨_,rfl,(((Fr.init _ w).after g2).after g3).after g4,?_⟩
 have a1:=al_ (n:=first) (by omega)
 have a2:=al_ (n:=many) (by omega)
 have a3:=f1_ (nodes:=nodes) (first:=first) (many:=many) (k:=az_ many) (by omega) (by omega) (by omega) hR (Nat.le_refl _)
 have a4:=c3_ (nodes:=nodes) (first:=first) (many:=many) (k:=many) (by omega) (by omega) (by omega) hR (Nat.le_refl _)
 simp only [ai_,af_,List.length_append]
 refine ⟨by omega,by omega,by omega,?_⟩
 exact hK w4 ((g2.trans g3).trans g4)
theorem iP_ {nodes first many:Nat} {R:Nat→List Int} (hn:nodes≤4096) (hm:first+many≤nodes) (hR:∀j,j<many→eO_ (nodes:Int) (R j)):(gi_ first R many).length≤163850000:=by
 have a1:=al_ (n:=first) (by omega)
 have a2:=al_ (n:=many) (by omega)
 have a3:=f1_ (nodes:=nodes) (first:=first) (many:=many) (k:=az_ many) (by omega) (by omega) (by omega) hR (Nat.le_refl _)
 have a4:=c3_ (nodes:=nodes) (first:=first) (many:=many) (k:=many) (by omega) (by omega) (by omega) hR (Nat.le_refl _)
 simp only [gi_,List.length_append,Int.toNat_natCast];omega
theorem ky_ {nodes first many:Nat} {R:Nat→List Int} (hn:nodes≤4096) (hm:first+many≤nodes) (h1:1≤many) (hR:∀j,j<many→eO_ (nodes:Int) (R j)) {w:World} {K:Value→World→Prop}
  (hK:∀w' q n c,Grow w w'→K (.tuple #[.agg #[.int .i64 first,.slice q n c],.nilIface]) w') :
  aa_ PR F.he_ ⟨[.string (str (gi_ first R many)),.int .i64 nodes]⟩ w K:=by
 have hsl:=iP_ hn hm hR
 generalize hs:str (gi_ first R many)=s
 have hdat:s.data.toList=ae_ first++(ae_ many++(bS_ first R (az_ many)++aO_ first R many)):=by
  rw [← hs,bd_,gi_,Int.toNat_natCast];simp
 have hsize:s.size=(ae_ first).length+(ae_ many).length+(bS_ first R (az_ many)).length+(aO_ first R many).length:=by
  rw [← cI_,hdat];simp;omega
 have hs62:s.size≤163850000:=by rw [← hs,af_];exact hsl
 have hrb:∀i,i≤many→(aO_ first R i).length≤163840000:=λi hi=>c3_ (nodes:=nodes) (by omega) (by omega) (by omega) hR hi
 refine he_ s nodes S0 K w λb0 hb0 w0 hF0=>?_
 refine pa_ (by omega) (by omega) h1 (by omega) hdat λw1 g1=>⟨_,_,_,_,rfl,hF0.after g1,λb1 hb1=>⟨λ_=>?_,(λt x h=>by cases h),.inl rfl⟩⟩
 intro w2 hF2
 refine nt_ (by omega) λw3 g3=>⟨_,rfl,hF2.after g3,?_⟩
 rw [Int.toNat_natCast]
 have hF3:=hF2.after g3
 refine o9_ (f:=λi=>(aO_ first R (i*8)).length) (r:=aO_ first R many) (by omega) (by unfold az_;omega) (λi hi=>by have:=hrb (i*8) (by unfold az_ at hi;omega);omega) (by omega) ?_ (by omega) λw4 qm cm qp np cp g4 hsm hnp=>⟨_,_,_,_,_,_,_,_,rfl,hF3.after g4,λ_=>?_,(λt x h=>by cases h),.inl rfl⟩
 ·rw [Int.toNat_natCast,hdat,← List.append_assoc,List.drop_left' (by simp)];rfl
 have hF4:=hF3.after g4
 have hib:(cat (λi=>ae_ (aO_ first R (i*8)).length) (az_ many))=bS_ first R (az_ many):=rfl
 rw [hib]
 intro b6 hb6 w5 hF5
 generalize hbeg:(((ae_ first).length+(ae_ many).length:Nat):Int)+((bS_ first R (az_ many)).length:Int)=begin_
 have hsm5:Sl w5 qm ((cH_ (λi=>(aO_ first R (i*8)).length) (az_ many)).map iv):=hsm.keep hF5.stp (λa ha e=>by
  have:a.block=b6:=by simpa using e
  rcases hsm with h | ⟨b,o,h,hr⟩
  ·rw [List.map_eq_nil_iff] at h
   have:=congrArg List.length h
   rw [bA_] at this
   simp at this;unfold az_ at this;omega
  ·rw [ha] at h;cases h
   have:=hr.lt;simp only [] at *;omega)
 have hm5:∀x,x∈[b0,b1,b6]→x<w5.heap.size:=λx hx=>by
  simp at hx
  rcases hx with rfl | rfl | rfl
  ·exact ak_ (hF5.blk 0 rfl)
  ·exact ak_ (hF5.blk 1 rfl)
  ·exact ak_ (hF5.blk 2 rfl)
 refine ⟨λp qb lb cb v x1 x2 x3 x4 fo qr lr cr m w'=>∃(k:Nat) (rs:List Value),v=first+k∧k≤many∧m=many - k∧p=begin_+(aO_ first R k).length∧Own T.int 1 w' qb cb ((cH_ (λj=>(aO_ first R j).length) k).map iv)∧k=lb∧lb≤cb∧Off (λj=>j<w5.heap.size) qb∧
  fo=first∧Own T.dz_ 1 w' qr cr rs∧rs.length=k∧(∀y,y∈rs→oneC y=true)∧k=lr∧lr≤cr∧Off (λj=>j<w5.heap.size) qr∧Dj qb qr∧w5.heap.size≤w'.heap.size∧Chg (· = b6) w5 w',
  ⟨_,0,[],by simp,by omega,rfl,by simp [aO_,cat],.nil _ _ _,rfl,Nat.le_refl _,.none _,rfl,.nil _ _ _,rfl,(λy h=>by cases h),rfl,Nat.le_refl _,.none _,.none _,Nat.le_refl _,.refl _ _⟩,?_⟩
 rintro p qb lb cb v x1 x2 x3 x4 fo qr lr cr D m w6 ⟨k,rs,rfl,hk,rfl,rfl,ho,rfl,hlb,hof,rfl,hor,hrs,hone,rfl,hlr,hofr,hdj,hsz,g56⟩ hF6
 rw [w64 (n:=(first:Int)+many) (by omega) (by omega)]
 refine ⟨λhlt=>?_,λhge=>?_⟩
 ·have hk':k<many:=by omega
  obtain ⟨r',hsp⟩:=de_ (λj=>gapL ((first:Int)+j) (R j)) hk'
  have hrk:=hrb k hk
  intro bt hbt w7 hF7
  have hval:IntKind.wrap .i64 (begin_+(aO_ first R k).length - begin_)=((aO_ first R k).length:Int):=by rw [w64 (by omega) (by omega)];omega
  have hdk:s.data.toList.drop (begin_+(aO_ first R k).length).toNat=gapL ((first:Int)+k) (R k)++r':=by
   have e0:s.data.toList=(ae_ first++ae_ many++bS_ first R (az_ many)++aO_ first R k)++(gapL ((first:Int)+k) (R k)++r'):=by
    rw [hdat]
    have:aO_ first R many=aO_ first R k++(gapL ((first:Int)+k) (R k)++r'):=hsp
    rw [this];simp [List.append_assoc]
   rw [e0,List.drop_left' (by simp;omega)]
  refine gq_ (ho.grow hF7.grow) (by rw [bA_]) hlb (ys:=[((aO_ first R k).length:Int)]) ?_ rfl (by omega) λqb' cb' w8 ho8 hc8 g8 hq8=>?_
  ·have:=hF7.sl 3 rfl
   rw [hval] at this;exact this
  have hF8:=hF7.app2 g8 w5.heap.size w6.heap.size hof (λa ha=>ho.lt a ha) (λy hy=>by
   rcases List.mem_cons.1 hy with rfl | hy
   ·exact .inl (hm5 _ (by simp))
   rcases List.mem_cons.1 hy with rfl | hy
   ·exact .inl (hm5 _ (by simp))
   rcases List.mem_cons.1 hy with rfl | hy
   ·exact .inl (hm5 _ (by simp))
   ·simp at hy;subst hy;exact .inr hbt) hF5.chg.size
  refine ⟨_,_,_,rfl,hF8,?_⟩
  refine ny_ (by omega) (by omega) (by omega) (by omega) (hR k hk') hdk λw9 q6 c6 g9 hle9 ho9 hc9 hof9=>⟨_,_,_,_,_,rfl,(hF8.sub (List.sublist_append_left [_,_,_] [_])).after g9,λ_=>?_,(λt x h=>by cases h),.inl rfl⟩
  have hF9:=(hF8.sub (List.sublist_append_left [_,_,_] [_])).after g9
  intro b20 hb20 w10 hF10
  have s67:w6.heap.size≤w7.heap.size:=hF7.grow.size
  have s78:=g8.size
  have s89:=g9.size
  have s910:w9.heap.size≤w10.heap.size:=hF10.grow.size
  have hor8:Own T.dz_ 1 w8 qr cr rs:=(hor.grow hF7.grow).keep g8 hdj.off
  have hor10:=(hor8.grow g9).grow hF10.grow
  have ho10:=(ho8.grow g9).grow hF10.grow
  have hdj8:Dj qb' qr:=hdj.next hq8 (λa ha=>by have:=hor.lt a ha;omega)
  refine app1 sr_ sA_ rfl (by decide) hor10 hrs.symm hlr (ys:=[.slice q6 (R k).length c6]) (hF10.sl 3 rfl) rfl (by simp [oneC]) (by omega) λqr' cr' w11 ho11 hc11 g11 hq11=>?_
  have hF11:=hF10.app2 g11 w5.heap.size w9.heap.size hofr (λa ha=>by have:=hor8.lt a ha;omega) (λy hy=>by
   rcases List.mem_cons.1 hy with rfl | hy
   ·exact .inl (hm5 _ (by simp))
   rcases List.mem_cons.1 hy with rfl | hy
   ·exact .inl (hm5 _ (by simp))
   rcases List.mem_cons.1 hy with rfl | hy
   ·exact .inl (hm5 _ (by simp))
   ·simp at hy;subst hy;exact .inr hb20) hF5.chg.size
  refine ⟨_,_,_,rfl,hF11,λw12 hF12=>?_⟩
  have g12:Chg (· = b6) w11 w12:=hF12.stp.mono λi _ hi=>by simpa using hi
  have hb6lt:=hm5 b6 (by simp)
  have hofb':Off (λj=>j<w5.heap.size) qb':=hof.next hq8 (by omega)
  have hofr':Off (λj=>j<w5.heap.size) qr':=hofr.next hq11 (by omega)
  have keep6:∀ {q:Option Addr},Off (λj=>j<w5.heap.size) q→Off (· = b6) q:=λh a ha e=>by have:=h.le a ha;have e':a.block=b6:=e;omega
  have hdj11:Dj qr' qb':=hdj8.symm.next hq11 (λa ha=>ho10.lt a ha)
  refine ⟨many - (k+1),by omega,k+1,_,?_,by omega,rfl,?_,?_,rfl,hc8,hofb',rfl,ho11.keep g12 (keep6 hofr'),by simp [hrs],?_,rfl,hc11,hofr',hdj11.symm,by have:=g11.size;have:=g12.size;omega,?_⟩
  ·rw [w64 (by omega) (by omega)];omega
  ·have:aO_ first R (k+1)=aO_ first R k++gapL ((first:Int)+k) (R k):=rfl
   rw [this,List.length_append];omega
  ·rw [hC_]
   exact ((ho10).keep g11 hdj8.symm.off).keep g12 (keep6 hofb')
  ·intro y hy
   rcases List.mem_append.1 hy with h | h
   ·exact hone y h
   ·simp at h;subst h;rfl
  ·have c1:Chg (· = b6) w5 w8:=(g56.grow hF7.grow).trans g8 λi hi ⟨a,ha,e⟩=>by have:=hof.le a ha;omega
   have c2:Chg (· = b6) w5 w11:=((c1.grow g9).grow hF10.grow).trans g11 λi hi ⟨a,ha,e⟩=>by have:=hofr.le a ha;omega
   exact c2.trans g12 λi _ e=>e
 ·have e:k=many:=by omega
  subst e
  have hsm6:Sl w6 qm ((cH_ (λi=>(aO_ first R (i*8)).length) (az_ k)).map iv):=hsm5.keep g56 (λa ha e=>by
   have e':a.block=b6:=e
   rcases hsm with h | ⟨b,o,h,hr⟩
   ·rw [List.map_eq_nil_iff] at h
    have:=congrArg List.length h
    rw [bA_] at this
    simp at this;unfold az_ at this;omega
   ·rw [ha] at h;cases h
    have:=hr.lt;simp only [] at *;omega)
  refine ⟨λi y1 y2 y3 y4 m w'=>∃j:Nat,i=j∧j≤az_ k∧m=az_ k - j∧Sl w' qm ((cH_ (λi=>(aO_ first R (i*8)).length) (az_ k)).map iv)∧Sl w' qb ((cH_ (λj=>(aO_ first R j).length) k).map iv),⟨_,0,rfl,by omega,rfl,hsm6,ho.sl⟩,?_⟩
  rintro i y1 y2 y3 y4 D m w14 ⟨j,rfl,hj,rfl,hs1,hs2⟩ hF14
  refine ⟨λhlt=>?_,λhge=>⟨λh=>?_,λ_ w19 h19=>hK w19 _ _ _ h19.chg⟩⟩
  ·have hj':j<az_ k:=by omega
   have hj8:j*8<k:=by unfold az_ at hj';omega
   refine hs1.rd (v:=iv ((aO_ first R (j*8)).length:Nat)) (by simp [bA_]) (by omega) ?_ λa ha=>⟨_,ha,?_⟩
   ·rw [Int.toNat_natCast,hJ_ (by rw [bA_];exact hj'),kT_ _ hj']
   have e8:IntKind.wrap .i64 ((j:Int)*8)=((j*8:Nat):Int):=by rw [w64 (by omega) (by omega)];omega
   rw [e8]
   refine hs2.rd (v:=iv ((aO_ first R (j*8)).length:Nat)) (by simp [bA_]) (by omega) ?_ λa ha=>⟨_,ha,?_⟩
   ·rw [Int.toNat_natCast,hJ_ (by rw [bA_];exact hj8),kT_ _ hj8]
   exact ⟨λ_=>⟨_,by omega,j+1,wr1 (by omega),by omega,rfl,hs1,hs2⟩,λh=>absurd rfl h⟩
  ·omega
end Go.Vc
namespace Go.Vc
open Go
theorem strings_Join (y0:Option Addr) (ly0:Nat) (cy0:Nat) (z1:ByteArray) (S:SP) (K:KP) (w:World) (h:((ly0:Int)=0→K (.string ⟨#[]⟩) w)∧(¬((ly0:Int)=0)→((ly0:Int)=1→Dr y0 λa0=>(0:Int)≤0∧(0:Int)<(ly0:Int)∧Dr (some (Addr.add a0 0)) λa1=>∃s0,World.cell? w a1=some (.string s0)∧K (.string s0) w)∧(¬((ly0:Int)=1)→(((ByteArray.size z1:Nat):Int)>0→IntKind.wrap .i64 ((ly0:Int) - 1)≠0∧(((ByteArray.size z1:Nat):Int)≥IntKind.wrap .i64 (Int.tdiv 9223372036854775807 (IntKind.wrap .i64 ((ly0:Int) - 1)))→False)∧(¬(((ByteArray.size z1:Nat):Int)≥IntKind.wrap .i64 (Int.tdiv 9223372036854775807 (IntKind.wrap .i64 ((ly0:Int) - 1))))→∃I0:Int→Int→Nat→World→Prop,(∃l0,I0 (IntKind.wrap .i64 ((0:Int)+(IntKind.wrap .i64 (((ByteArray.size z1:Nat):Int)*(IntKind.wrap .i64 ((ly0:Int) - 1)))))) 0 l0 w)∧∀n0 n1,∀D0:Nat→Value,∀l1 w0,I0 n0 n1 l1 w0→Fs S w [] w0→(n1<(ly0:Int)→Dr y0 λa2=>(0:Int)≤n1∧n1<(ly0:Int)∧Dr (some (Addr.add a2 (Int.toNat n1*1))) λa3=>∃s1,World.cell? w0 a3=some (.string s1)∧(((ByteArray.size s1:Nat):Int)>IntKind.wrap .i64 ((9223372036854775807:Int) - n0)→False)∧(¬(((ByteArray.size s1:Nat):Int)>IntKind.wrap .i64 ((9223372036854775807:Int) - n0))→∃l2,l2<l1∧I0 (IntKind.wrap .i64 (n0+((ByteArray.size s1:Nat):Int))) (IntKind.wrap .i64 (n1+1)) l2 w0))∧(¬(n1<(ly0:Int))→∀l3,w0.heap.size≤l3→∀w1,Fr S w w0 [] [⟨l3,#[.pointer none,.slice none 0 0],185,true⟩] w1→aa_ PR 105 #[.pointer (some (⟨l3,0,none⟩)),Iv n0] w1 λv0 w2=>v0=.tuple #[]∧∃q0 q1 l4 l5,Fs S w [⟨l3,#[.pointer q0,.slice q1 l4 l5],185,true⟩] w2∧Dr y0 λa4=>(0:Int)≤0∧(0:Int)<(ly0:Int)∧Dr (some (Addr.add a4 0)) λa5=>∃s2,World.cell? w2 a5=some (.string s2)∧aa_ PR 102 #[.pointer (some (⟨l3,0,none⟩)),.string s2] w2 λv1 w3=>∃n2 v2,v1=.tuple #[Iv n2,v2]∧∃q2 q3 l6 l7,Fs S w [⟨l3,#[.pointer q2,.slice q3 l6 l7],185,true⟩] w3∧(0:Int)≤1∧(1:Int)≤(ly0:Int)∧∃I1:Int→(Option Addr)→(Option Addr)→Nat→Nat→Nat→World→Prop,(∃l8,I1 0 q2 q3 l6 l7 l8 w3)∧∀n3 q4 q5 l9 l10,∀D1:Nat→Value,∀l11 w4,I1 n3 q4 q5 l9 l10 l11 w4→Fs S w [⟨l3,#[.pointer q4,.slice q5 l9 l10],185,true⟩] w4→(n3<(((ly0 - 1):Nat):Int)→Dr (if cy0=1 then y0 else Option.map (λa6=>Addr.add a6 1) y0) λa7=>(0:Int)≤n3∧n3<(((ly0 - 1):Nat):Int)∧Dr (some (Addr.add a7 (Int.toNat n3*1))) λa8=>∃s3,World.cell? w4 a8=some (.string s3)∧aa_ PR 102 #[.pointer (some (⟨l3,0,none⟩)),.string z1] w4 λv3 w5=>∃n4 v4,v3=.tuple #[Iv n4,v4]∧∃q6 q7 l12 l13,Fs S w [⟨l3,#[.pointer q6,.slice q7 l12 l13],185,true⟩] w5∧aa_ PR 102 #[.pointer (some (⟨l3,0,none⟩)),.string s3] w5 λv5 w6=>∃n5 v6,v5=.tuple #[Iv n5,v6]∧∃q8 q9 l14 l15,Fs S w [⟨l3,#[.pointer q8,.slice q9 l14 l15],185,true⟩] w6∧∃l16,l16<l11∧I1 (IntKind.wrap .i64 (n3+1)) q8 q9 l14 l15 l16 w6)∧(¬(n3<(((ly0 - 1):Nat):Int))→aa_ PR 104 #[.pointer (some (⟨l3,0,none⟩))] w4 λv7 w7=>∃s4,v7=.string s4∧Fs S w [⟨l3,#[.pointer q4,.slice q5 l9 l10],185,true⟩] w7∧K (.string s4) w7))))∧(¬(((ByteArray.size z1:Nat):Int)>0)→∃I2:Int→Int→Nat→World→Prop,(∃l17,I2 0 0 l17 w)∧∀n6 n7,∀D2:Nat→Value,∀l18 w8,I2 n6 n7 l18 w8→Fs S w [] w8→(n7<(ly0:Int)→Dr y0 λa9=>(0:Int)≤n7∧n7<(ly0:Int)∧Dr (some (Addr.add a9 (Int.toNat n7*1))) λa10=>∃s5,World.cell? w8 a10=some (.string s5)∧(((ByteArray.size s5:Nat):Int)>IntKind.wrap .i64 ((9223372036854775807:Int) - n6)→False)∧(¬(((ByteArray.size s5:Nat):Int)>IntKind.wrap .i64 ((9223372036854775807:Int) - n6))→∃l19,l19<l18∧I2 (IntKind.wrap .i64 (n6+((ByteArray.size s5:Nat):Int))) (IntKind.wrap .i64 (n7+1)) l19 w8))∧(¬(n7<(ly0:Int))→∀l20,w8.heap.size≤l20→∀w9,Fr S w w8 [] [⟨l20,#[.pointer none,.slice none 0 0],185,true⟩] w9→aa_ PR 105 #[.pointer (some (⟨l20,0,none⟩)),Iv n6] w9 λv8 w10=>v8=.tuple #[]∧∃q10 q11 l21 l22,Fs S w [⟨l20,#[.pointer q10,.slice q11 l21 l22],185,true⟩] w10∧Dr y0 λa11=>(0:Int)≤0∧(0:Int)<(ly0:Int)∧Dr (some (Addr.add a11 0)) λa12=>∃s6,World.cell? w10 a12=some (.string s6)∧aa_ PR 102 #[.pointer (some (⟨l20,0,none⟩)),.string s6] w10 λv9 w11=>∃n8 v10,v9=.tuple #[Iv n8,v10]∧∃q12 q13 l23 l24,Fs S w [⟨l20,#[.pointer q12,.slice q13 l23 l24],185,true⟩] w11∧(0:Int)≤1∧(1:Int)≤(ly0:Int)∧∃I3:Int→(Option Addr)→(Option Addr)→Nat→Nat→Nat→World→Prop,(∃l25,I3 0 q12 q13 l23 l24 l25 w11)∧∀n9 q14 q15 l26 l27,∀D3:Nat→Value,∀l28 w12,I3 n9 q14 q15 l26 l27 l28 w12→Fs S w [⟨l20,#[.pointer q14,.slice q15 l26 l27],185,true⟩] w12→(n9<(((ly0 - 1):Nat):Int)→Dr (if cy0=1 then y0 else Option.map (λa13=>Addr.add a13 1) y0) λa14=>(0:Int)≤n9∧n9<(((ly0 - 1):Nat):Int)∧Dr (some (Addr.add a14 (Int.toNat n9*1))) λa15=>∃s7,World.cell? w12 a15=some (.string s7)∧aa_ PR 102 #[.pointer (some (⟨l20,0,none⟩)),.string z1] w12 λv11 w13=>∃n10 v12,v11=.tuple #[Iv n10,v12]∧∃q16 q17 l29 l30,Fs S w [⟨l20,#[.pointer q16,.slice q17 l29 l30],185,true⟩] w13∧aa_ PR 102 #[.pointer (some (⟨l20,0,none⟩)),.string s7] w13 λv13 w14=>∃n11 v14,v13=.tuple #[Iv n11,v14]∧∃q18 q19 l31 l32,Fs S w [⟨l20,#[.pointer q18,.slice q19 l31 l32],185,true⟩] w14∧∃l33,l33<l28∧I3 (IntKind.wrap .i64 (n9+1)) q18 q19 l31 l32 l33 w14)∧(¬(n9<(((ly0 - 1):Nat):Int))→aa_ PR 104 #[.pointer (some (⟨l20,0,none⟩))] w12 λv15 w15=>∃s8,v15=.string s8∧Fs S w [⟨l20,#[.pointer q14,.slice q15 l26 l27],185,true⟩] w15∧K (.string s8) w15)))))):aa_ PR 52 ⟨[.slice y0 ly0 cy0,.string z1]⟩ w K:=
 ab_ (okf:=⟨okL,[]⟩) ah_ (args:=[.c (.v (.slice y0 ly0 cy0)),.c (.v (.string z1))]) (H:=[]) (.s .z (.s .z (.s .z (.s (.s .z (.c (.s (.s .z (.c (.r ⟨(some []),false,[],[]⟩) .z)) .z) .z)) (.s (.s .z (.b (.l (some []) (some []) [(5,.c (.int .i64)),(41,.c (.int .i64))] [] (.s .z (.s .z (.s (.b (.s .z (.s (.s .z (.c (.r ⟨(some []),false,[],[]⟩) .z)) .z))) .z)))))) (.s (.r ⟨(some []),false,[],[]⟩) (.s (.r ⟨(some [8]),false,[],[(1,[999])]⟩) (.s (.r ⟨(some [8]),false,[],[(3,[999])]⟩) (.s (.s .z (.b (.l (some [8]) (some [8]) [(65,.c (.int .i64))] [8] (.s .z (.s .z (.s (.b (.s .z (.s (.r ⟨(some [8]),false,[],[(1,[999])]⟩) (.r ⟨(some [8]),false,[],[(1,[999])]⟩)))) .z)))))) (.s (.r ⟨(some [8]),false,[],[]⟩) .z)))))))))) Go.Proofs.Tryz.func52 rfl ⟨trivial,trivial,trivial⟩ trivial (Fr.init S w) trivial (ad_ (by kernel_rfl) h)
theorem eq_ (k0:Nat) (p1:Option Addr) (y2:Option Addr) (ly2:Nat) (cy2:Nat) (m3:Int) (S:SP) (K:KP) (w:World) (hF:Fs S w [⟨k0,#[.pointer p1,.slice y2 ly2 cy2],185,true⟩] w) (hS:S k0∧True) (h:aa_ PR 157 #[.pointer (some (⟨k0,0,none⟩))] w λv0 w0=>v0=.tuple #[]∧∃q0 q1 l0 l1,Fs S w [⟨k0,#[.pointer q0,.slice q1 l0 l1],185,true⟩] w0∧(m3<0→False)∧(¬(m3<0)→(IntKind.wrap .i64 ((l1:Int) - (l0:Int))<m3→∀w1,Fr S w w0 [] [⟨k0,#[.pointer q0,.slice q1 l0 l1],185,true⟩] w1→aa_ PR 158 #[.pointer (some (⟨k0,0,none⟩)),Iv m3] w1 λv1 w2=>v1=.tuple #[]∧∃q2 q3 l2 l3,Fs S w [⟨k0,#[.pointer q2,.slice q3 l2 l3],185,true⟩] w2∧K (.tuple #[]) w2)∧(¬(IntKind.wrap .i64 ((l1:Int) - (l0:Int))<m3)→∀w3,Fr S w w0 [] [⟨k0,#[.pointer q0,.slice q1 l0 l1],185,true⟩] w3→K (.tuple #[]) w3))):aa_ PR 105 ⟨[.pointer (some ⟨k0,0,none⟩),.int .i64 m3]⟩ w K:=
 ab_ (okf:=⟨okL,[]⟩) ah_ (args:=[.c (.p 0 k0 true 0),.c (.v (.int .i64 m3))]) (H:=[⟨k0,.l [.v (.pointer p1),.v (.slice y2 ly2 cy2)],185,true⟩]) (.s (.r ⟨(some [0]),false,[],[(1,[999])]⟩) (.s (.s .z (.c (.r ⟨(some [0]),false,[],[]⟩) .z)) (.s (.r ⟨(some [0]),false,[],[]⟩) (.c (.r ⟨(some [0]),false,[],[(2,[999])]⟩) .z)))) Go.Proofs.Tryz.func105 rfl ⟨rfl,trivial,trivial⟩ ⟨⟨trivial,⟨trivial,trivial⟩⟩,trivial⟩ hF hS (ad_ (by kernel_rfl) h)
theorem ep_ (k0:Nat) (p1:Option Addr) (y2:Option Addr) (ly2:Nat) (cy2:Nat) (m3:Int) (S:SP) (K:KP) (w:World) (hF:Fs S w [⟨k0,#[.pointer p1,.slice y2 ly2 cy2],185,true⟩] w) (hS:S k0∧True) (h:∀w0,Fr S w w [] [⟨k0,#[.pointer p1,.slice y2 ly2 cy2],185,true⟩] w0→rn PR ((callFunc 194 #[Iv (IntKind.wrap .i64 (IntKind.wrap .i64 ((2:Int)*(cy2:Int))+m3))]) >>= iA_) (λv0 w1=>∃q0 l0 l1,v0=.slice q0 l0 l1∧Fs S w [⟨k0,#[.pointer p1,.slice y2 ly2 cy2],185,true⟩] w1∧(0:Int)≤(ly2:Int)∧(ly2:Int)≤(l1:Int)∧rn PR (Builtin.copy_ #[124,124] 3 #[.slice (if l1=0 then q0 else Option.map (λa0=>Addr.add a0 0) q0) (Int.toNat (ly2:Int) - 0) (l1 - 0),.slice y2 ly2 cy2]) (λv1 w2=>∃n0,v1=Iv n0∧Fs S w [⟨k0,#[.pointer p1,.slice y2 ly2 cy2],185,true⟩] w2∧∀w3,Fr S w w2 [k0] [⟨k0,#[.pointer p1,.slice (if l1=0 then q0 else Option.map (λa1=>Addr.add a1 0) q0) (Int.toNat (ly2:Int) - 0) (l1 - 0)],185,true⟩] w3→K (.tuple #[]) w3) w1) w0):aa_ PR 158 ⟨[.pointer (some ⟨k0,0,none⟩),.int .i64 m3]⟩ w K:=
 ab_ (okf:=⟨okL,[]⟩) ah_ (args:=[.c (.p 0 k0 true 0),.c (.v (.int .i64 m3))]) (H:=[⟨k0,.l [.v (.pointer p1),.v (.slice y2 ly2 cy2)],185,true⟩]) (.s (.r ⟨(some [0]),false,[],[]⟩) (.s (.r ⟨(some [0]),false,[],[]⟩) (.r ⟨(some [0]),false,[],[]⟩))) Go.Proofs.Tryz.func158 rfl ⟨rfl,trivial,trivial⟩ ⟨⟨trivial,⟨trivial,trivial⟩⟩,trivial⟩ hF hS (ad_ (by kernel_rfl) h)
theorem bR_ (m0:Int) (m1:Int) (S:SP) (K:KP) (w:World) (h:(0:Int)≤IntKind.wrap .u64 ((BitVec.toNat (BitVec.ofInt 64 (IntKind.wrap .u64 m1) &&& (BitVec.ofInt 64 31)):Nat):Int)∧(0:Int)≤IntKind.wrap .u64 ((32:Int) - (IntKind.wrap .u64 ((BitVec.toNat (BitVec.ofInt 64 (IntKind.wrap .u64 m1) &&& (BitVec.ofInt 64 31)):Nat):Int)))∧K (Uv (IntKind.wrap .u32 ((BitVec.toNat (BitVec.ofInt 32 (IntKind.wrap .u32 (m0*((2:Int) ^ (Min.min (Int.toNat (IntKind.wrap .u64 ((BitVec.toNat (BitVec.ofInt 64 (IntKind.wrap .u64 m1) &&& (BitVec.ofInt 64 31)):Nat):Int))) 32)))) ||| (BitVec.ofInt 32 (Int.fdiv m0 ((2:Int) ^ (Min.min (Int.toNat (IntKind.wrap .u64 ((32:Int) - (IntKind.wrap .u64 ((BitVec.toNat (BitVec.ofInt 64 (IntKind.wrap .u64 m1) &&& (BitVec.ofInt 64 31)):Nat):Int))))) 32))))):Nat):Int))) w):aa_ PR 256 ⟨[.int .u32 m0,.int .i64 m1]⟩ w K:=
 ab_ (okf:=⟨okL,[]⟩) ah_ (args:=[.c (.v (.int .u32 m0)),.c (.v (.int .i64 m1))]) (H:=[]) .z Go.Proofs.Tryz.func256 rfl ⟨trivial,trivial,trivial⟩ trivial (Fr.init S w) trivial (ad_ (by kernel_rfl) h)
end Go.Vc
namespace Go.Vc
open Go Go.Lib
theorem run_make (n:Nat) (hn:n≤281474976710656) (w:World):∃cs:Array Value,(callFunc F.aQ_ #[.int .i64 n] >>= iA_).run PR w=.ok (.slice (some ⟨w.heap.size,0,none⟩) n cs.size) (w.drew.drew.alloc (.cells cs T.uint8))∧n≤cs.size∧(n≤maxLen→cs.size≤maxLen):=by
 obtain ⟨cs,h1,h2,h3⟩:=run_makeNoZero (P:=PR) w #[T.int] T.a8_ T.uint8 cj_ n hn
 refine ⟨cs,?_,h2,h3⟩
 rw [Sem.run_bind,run_callFunc_extern (P:=PR) (f:=F.aQ_) (fn:=(PR.funcs[F.aQ_]?).getD default) (by kernel_rfl) (by kernel_rfl) (by kernel_rfl) (by kernel_rfl) (e:=Extern.BytealgMakeNoZero.makeNoZero #[T.int] #[T.a8_]) (by kernel_rfl),h1]
 rfl
theorem sq_:∃i,PR.info? T.uint8=some i∧i.size=1:=by obtain ⟨i,h,h1,_⟩:=t_u8;exact ⟨i,h,h1⟩
theorem tE_ {q q2:Option Addr} {l c c2:Nat} {w:World} {K:Value→World→Prop} (hK:K (.int .i64 0) w):rn PR (Builtin.copy_ #[T.a8_,T.a8_] T.int #[.slice q l c,.slice q2 0 c2]) K w:=by
 obtain ⟨i,hi,hk⟩:=sq_
 refine cA_ ?_
 unfold Builtin.copy_
 have hmin:Nat.min 0 l=0:=Nat.zero_min l
 simp only [List.getElem?_toArray,List.getElem?_cons_zero,List.getElem?_cons_succ,aE_,aq_ cj_,Builtin.lenOf,aY_,bJ_ hi,hmin]
 have e:Builtin.firstCells i.size 0 (.slice q2 0 c2)=pure #[]:=by
  cases q2 with
  | none=>rfl
  | some a=>simp [Builtin.firstCells,loadCells,loadCellsFrom]
 rw [e]
 cases q with
 | none=>exact hK
 | some a=>exact hK
theorem rj_ {w:World} {b m:Nat} {n:Nat} (hn:n≤70368744177664) (hm:m≤w.heap.size) (h:BldP w b m none none 0 0 []) {K:Value→World→Prop}
  (hK:∀w' p' q' c',BldP w' b m p' q' 0 c' []→Chg (· = b) w w'→K (.tuple #[]) w'):aa_ PR F.dH_ ⟨[.pointer (some ⟨b,0,none⟩),.int .i64 n]⟩ w K:=by
 have h0:Fs (· = b) w [⟨b,#[.pointer none,.slice none 0 0],T.ag_,true⟩] w:=(Fr.init _ w).entry h.blk (λx h=>by cases h) λ_=>rfl
 refine eq_ b none none 0 0 n (· = b) K w h0 ⟨rfl,trivial⟩ ?_
 refine ex_ h.ptr h.blk λw1 p1 hp1 hb1 g1=>?_
 have h1:=h0.mod1 g1 hb1
 refine ⟨rfl,_,_,_,_,h1,λhlt=>by omega,λ_=>⟨λ_ w2 h2=>?_,λ_ w3 h3=>?_⟩⟩
 ·have hb2:=h2.blk 0 rfl
  have h2':Fs (· = b) w2 [⟨b,#[.pointer p1,.slice none 0 0],T.ag_,true⟩] w2:=(Fr.init _ w2).entry hb2 (λx h=>by cases h) λ_=>rfl
  refine ep_ b p1 none 0 0 n (· = b) _ w2 h2' ⟨rfl,trivial⟩ λw4 h4=>?_
  have e:IntKind.wrap .i64 (IntKind.wrap .i64 ((2:Int)*((0:Nat):Int))+(n:Int))=(n:Int):=by
   rw [w64 (n:=(2:Int)*((0:Nat):Int)) (by omega) (by omega),w64 (by omega) (by omega)];omega
  rw [e]
  obtain ⟨cs,hr,hc1,hc2⟩:=run_make n (by omega) w4
  have g5:Grow w4 (w4.drew.drew.alloc (.cells cs T.uint8)):=((Chg.drew w4).trans (Chg.drew _)).trans (Chg.alloc _ _)
  have hnb:(w4.drew.drew.alloc (.cells cs T.uint8)).heap[w4.heap.size]? = some (.cells cs T.uint8 (0,0)):=by
   show (w4.heap.push _)[w4.heap.size]? = _
   simp
  have hbw:b<w4.heap.size:=h4.lt _ List.mem_cons_self
  have hmw:m≤w4.heap.size:=by have:=h2.chg.size;have:=h4.grow.size;omega
  refine hk_ hr ⟨_,_,_,rfl,h4.after g5,by omega,by omega,tE_ ⟨_,rfl,h4.after g5,λw6 h6=>?_⟩⟩
  have g6:Chg (· = b) (w4.drew.drew.alloc (.cells cs T.uint8)) w6:=h6.stp.mono λk _ hk=>by simpa using hk
  have hb6:=h6.blk 0 rfl
  have g26:Chg (· = b) w2 w6:=h6.chg
  refine ⟨rfl,_,_,_,_,h2.mod1 g26 hb6,hK w6 p1 _ _ ⟨hb6,hp1,?_,rfl,Nat.zero_le _,?_,h.lt,?_⟩ ((h1.chg.trans h2.grow.chg λ_ _ h=>h).trans g26 λ_ _ h=>h)⟩
  ·have hq:(if cs.size=0 then some (⟨w4.heap.size,0,none⟩:Addr) else Option.map (λa0=>Addr.add a0 0) (some ⟨w4.heap.size,0,none⟩))=some ⟨w4.heap.size,0,none⟩:=by
    split
    ·rfl
    ·simp [am_]
   have hcs:cs.size≤9223372036854775807:=by have:=hc2 (by unfold maxLen;omega);unfold maxLen at this;omega
   have:w6.heap[w4.heap.size]? = some (.cells cs T.uint8 (0,0)):=g6.get hnb (λe=>by omega)
   simp only [hq,Nat.sub_zero,List.map_nil]
   exact .inr ⟨w4.heap.size,0,cs,rfl,this,by simp,hcs,by simp,λi hi=>by simp at hi⟩
  ·intro a ha hlt
   split at ha
   ·cases ha;simp only [] at hlt;omega
   ·simp [am_] at ha;subst ha;simp only [] at hlt;omega
  ·intro a ha
   split at ha
   ·cases ha;exact ⟨rfl,rfl⟩
   ·simp [am_] at ha;subst ha;exact ⟨rfl,rfl⟩
 ·have hb3:=h3.blk 0 rfl
  exact hK w3 p1 none 0 ⟨hb3,hp1,.nil _ _ _,rfl,Nat.zero_le _,.none _,h.lt,λa h=>by cases h⟩ (h1.chg.trans h3.grow.chg λ_ _ h=>h)
def sv8' (l:List UInt8):Value:=.string (str l)
theorem bD_ (xs:List (List UInt8)) (k:Nat):(xs.take k).flatten.length≤xs.flatten.length:=by
 have:xs.flatten=(xs.take k).flatten++(xs.drop k).flatten:=by rw [← List.flatten_append,List.take_append_drop]
 rw [this,List.length_append];omega
theorem d4_ {xs:List (List UInt8)} {k:Nat} (h:k<xs.length):(xs.take (k+1)).flatten=(xs.take k).flatten++xs[k]:=by
 rw [aW_ h,List.flatten_append];simp
theorem jg_ {q:Option Addr} {l c:Nat} {xs:List (List UInt8)} {w:World} {K:Value→World→Prop} (hs:Sl w q (xs.map sv8')) (hl:l=xs.length) (hlc:l≤c) (hN:l≤1000000)
  (hlen:xs.flatten.length≤35184372088832) (hK:∀w',Grow w w'→K (.string (str xs.flatten)) w'):aa_ PR F.strings_Join ⟨[.slice q l c,.string ⟨#[]⟩]⟩ w K:=by
 subst hl
 have at_:∀ {k:Nat} (h:k<xs.length),(xs.map sv8')[k]? = some (sv8' xs[k]):=λh=>by simp [h]
 refine strings_Join q xs.length c ⟨#[]⟩ S0 K w ⟨λh=>?_,λh0=>⟨λh=>?_,λh1=>⟨λh=>absurd h (by decide),λ_=>?_⟩⟩⟩
 ·have e:xs=[]:=List.eq_nil_of_length_eq_zero (by omega)
  subst e;exact hK w (.refl _ _)
 ·have e:xs.length=1:=by omega
  have h0':0<xs.length:=by omega
  refine hs.rd (v:=sv8' xs[0]) (by simp) (by omega) (at_ h0') λa ha=>⟨str xs[0],ha,?_⟩
  have e2:xs.flatten=xs[0]:=by
   have h:=d4_ h0'
   rw [show (0+1)=xs.length by omega,List.take_length] at h
   simpa using h
  rw [← e2];exact hK w (.refl _ _)
 ·refine ⟨λn i m w'=>∃k:Nat,i=k∧k≤xs.length∧m=xs.length - k∧n=((xs.take k).flatten.length:Int),⟨_,0,rfl,by omega,rfl,by simp⟩,?_⟩
  rintro n i D m w8 ⟨k,rfl,hk,rfl,rfl⟩ hF8
  have hle:=bD_ xs k
  refine ⟨λhlt=>?_,λhge b hb w9 hF9=>?_⟩
  ·have hk':k<xs.length:=by omega
   have hn:=d4_ hk'
   have hle2:=bD_ xs (k+1)
   rw [hn,List.length_append] at hle2
   refine (hs.grow hF8.gr).rd (v:=sv8' xs[k]) (by simp) (by omega) (at_ hk') λa ha=>⟨str xs[k],ha,?_⟩
   rw [af_]
   refine ⟨λh=>?_,λ_=>⟨_,?_,k+1,wr1 (by omega),by omega,rfl,?_⟩⟩
   ·rw [w64 (by omega) (by omega)] at h;omega
   ·omega
   ·rw [w64 (by omega) (by omega),hn,List.length_append];omega
  ·have e:k=xs.length:=by omega
   subst e
   rw [List.take_length]
   have hb9:=hF9.blk 0 rfl
   have hbl:b<w9.heap.size:=ak_ hb9
   refine rj_ (n:=xs.flatten.length) (by omega) (Nat.le_refl _) (.new hb9 hbl) λw10 p1 q1 c1 h10 g10=>?_
   have hF10:=hF9.mod1 g10 h10.blk
   refine ⟨rfl,_,_,_,_,hF10,?_⟩
   have h0':0<xs.length:=by omega
   refine (hs.grow hF10.gr).rd (v:=sv8' xs[0]) (by simp) (by omega) (at_ h0') λa ha=>⟨str xs[0],ha,?_⟩
   have t1:=bD_ xs 1
   have f1:(xs.take 1).flatten=xs[0]:=by rw [d4_ h0'];simp
   rw [f1] at t1
   have off0:∀ {q:Option Addr} {bs:List UInt8} {p:Option Addr} {l c:Nat} {w':World},BldP w' b w9.heap.size p q l c bs→∀j,j<w.heap.size→¬(j=b∨aM_ q j):=by
    rintro q bs p l c w' h j hj (e | ⟨a,ha,e⟩)
    ·have:=hF9.chg.size;have:=hF8.chg.size;omega
    ·have:=h.off.le a ha;have:=hF9.chg.size;omega
   have hmod:∀ {w1 w2:World} {p q p' q':Option Addr} {l c l' c':Nat} {bs bs':List UInt8},Fs S0 w [⟨b,#[.pointer p,.slice q l c],T.ag_,true⟩] w1→BldP w1 b w9.heap.size p q l c bs→BldP w2 b w9.heap.size p' q' l' c' bs'→Chg (λk=>k=b∨aM_ q k) w1 w2→
     Fs S0 w [⟨b,#[.pointer p',.slice q' l' c'],T.ag_,true⟩] w2:=λhF h1 h2 g=>hF.mod g h2.blk (λx hx=>by cases hx) λj hj hs=>absurd hs (off0 h1 j hj)
   refine aV_ h10 (by have:=g10.size;omega) (by rw [af_];omega) λw11 p2 q2 l2 c2 h11 g11 hq11=>⟨_,_,rfl,p2,q2,l2,c2,hmod hF10 h10 h11 g11,by omega,by omega,?_⟩
   have hF11:=hmod hF10 h10 h11 g11
   rw [bd_,List.nil_append] at h11
   have hsub:∀ {w':World},Sl w' q (xs.map sv8')→Sl w' (if c=1 then q else Option.map (λx=>Addr.add x 1) q) ((xs.map sv8').drop 1):=λh=>by
    have:=h.sub (c:=c) (a:=1) (b:=xs.length) (by simp) (by simpa using hlc)
    rw [List.take_of_length_le (by simp)] at this
    exact this
   refine ⟨λi p q l c m w'=>∃k:Nat,i=k∧k+1≤xs.length∧m=xs.length - k∧BldP w' b w9.heap.size p q l c (xs.take (k+1)).flatten∧w9.heap.size≤w'.heap.size,⟨_,0,rfl,by omega,rfl,by rw [f1];exact h11,by have:=g10.size;have:=g11.size;omega⟩,?_⟩
   rintro i p q3 l3 c3 D m w12 ⟨k,rfl,hk,rfl,h12,hsz⟩ hF12
   have tk:=bD_ xs (k+1)
   have hl12:=h12.len
   refine ⟨λhlt=>?_,λhge=>?_⟩
   ·have hk':k+1<xs.length:=by omega
    have hn:=d4_ hk'
    have tk2:=bD_ xs (k+2)
    rw [show k+2=(k+1)+1 by omega,hn,List.length_append] at tk2
    refine (hsub (hs.grow hF12.gr)).rd (v:=sv8' xs[k+1]) (by simp) (by omega) ?_ λa ha=>⟨str xs[k+1],ha,?_⟩
    ·rw [Int.toNat_natCast,List.getElem?_drop,Nat.add_comm];exact at_ hk'
    refine aV_ h12 hsz (by show l3+0≤_;omega) λw13 p4 q4 l4 c4 h13 g13 hq13=>⟨_,_,rfl,p4,q4,l4,c4,hmod hF12 h12 h13 g13,?_⟩
    have hF13:=hmod hF12 h12 h13 g13
    have e0:(⟨#[]⟩:ByteArray).data.toList=[]:=rfl
    rw [e0,List.append_nil] at h13
    have hl13:=h13.len
    refine aV_ h13 (by have:=g13.size;omega) (by rw [af_];omega) λw14 p5 q5 l5 c5 h14 g14 hq14=>⟨_,_,rfl,p5,q5,l5,c5,hmod hF13 h13 h14 g14,xs.length - (k+1),by omega,k+1,wr1 (by omega),by omega,rfl,?_,by have:=g13.size;have:=g14.size;omega⟩
    rw [bd_] at h14
    rw [hn];exact h14
   ·have e:k+1=xs.length:=by omega
    rw [e,List.take_length] at h12
    refine dy_ h12 λw13 g13=>⟨_,rfl,hF12.step g13 (λx hx ⟨a,ha,e⟩=>?_) (λj hj hj'=>off0 h12 j hj (.inr hj')),?_⟩
    ·simp at hx;subst hx
     have:=h12.off.le a ha;simp only [] at e;omega
    ·exact hK w13 (Chg.trans hF12.gr g13 λj hj hj'=>absurd (.inr hj') (off0 h12 j hj))
end Go.Vc
namespace Go.Vc
open Go
theorem en_ {f:FuncId} {args:Array Value} {w:World} {Q:Ending→World→Prop} {K:Value→World→Prop} (h:Calls PR f args w Q) (k:∀e w',Q e w'→∃v,e=.returned v∧K v w'):aa_ PR f args w K:=Calls.mono h k
theorem lj_ {x:Int} (h0:0≤x) (h1:x≤18446744073709551615) {w:World} {K:Value→World→Prop} (hK:K (.int .i64 (Lib.bitLen x.toNat)) w):aa_ PR F.jP_ ⟨[.int .u64 x]⟩ w K:=
 en_ (Go.Proofs.Tryz.bits_Len x w h0 h1) λe w' ⟨he,hw⟩=>⟨_,he,by subst hw;exact hK⟩
end Go.Vc
namespace Go.Vc
open Go
def cz_ (S:List UInt8→Nat) (s:List UInt8):List UInt8:=ar_ 4 (S (ar_ 2 s.length++s))++ar_ 2 s.length++s
def is_ (S:List UInt8→Nat) (l:List UInt8):Option (List UInt8 × Nat):=
 if l.length<6 then none else
 if fixed ((l.drop 4).take 2)>60000 then none else
 if fixed ((l.drop 4).take 2)>l.length - 6 then none else
 if S ((l.drop 4).take (2+fixed ((l.drop 4).take 2)))≠fixed (l.take 4) then none else
 some ((l.drop 6).take (fixed ((l.drop 4).take 2)),6+fixed ((l.drop 4).take 2))
theorem b4_ (S:List UInt8→Nat) (s:List UInt8):(cz_ S s).length=6+s.length:=by
 simp [cz_,aG_];omega
theorem nr_ {S:List UInt8→Nat} (hS:∀l,S l<256 ^ 4) {s:List UInt8} (h:s.length≤60000) (r:List UInt8):is_ S (cz_ S s++r)=some (s,6+s.length):=by
 have hl:s.length<256 ^ 2:=by omega
 have l4:∀x,(ar_ 4 x).length=4:=aG_ 4
 have l2:∀x,(ar_ 2 x).length=2:=aG_ 2
 have d4:(cz_ S s++r).drop 4=ar_ 2 s.length++(s++r):=by
  unfold cz_
  rw [List.append_assoc,List.append_assoc,List.drop_left' (l4 _)]
 have t4:(cz_ S s++r).take 4=ar_ 4 (S (ar_ 2 s.length++s)):=by
  unfold cz_
  rw [List.append_assoc,List.append_assoc,List.take_left' (l4 _)]
 have t2:(ar_ 2 s.length++(s++r)).take 2=ar_ 2 s.length:=List.take_left' (l2 _)
 have d6:(cz_ S s++r).drop 6=s++r:=by
  rw [show 6=4+2 from rfl,← List.drop_drop,d4,List.drop_left' (l2 _)]
 unfold is_
 rw [d4,t4,t2,hW_ 2 _ hl,hW_ 4 _ (hS _),d6]
 have hlen:(cz_ S s++r).length=6+s.length+r.length:=by rw [List.length_append,b4_]
 rw [if_neg (by omega),if_neg (by omega),if_neg (by omega)]
 have t3:(ar_ 2 s.length++(s++r)).take (2+s.length)=ar_ 2 s.length++s:=by
  rw [← List.append_assoc]
  exact List.take_left' (by simp [l2])
 rw [t3,if_neg (by simp),List.take_left' rfl]
end Go.Vc
namespace Go.Vc
open Go
structure Man where
 version:Int
 nodes:Int
 edges:Int
 shards:List (Int × Int)
 blocks:Int
 root:List UInt8
def ja_ (total:Int):Int:=if total<1 then 0 else (total - 1) / 64+1
def Man.total (m:Man):Int:=(m.shards.map (·.2)).sum
def lH_ (nodes:Int):Option Int→List (Int × Int)→Prop
 | _,[]=>True
 | none,(f,b) :: r=>f=0∧3≤b∧b≤1048576∧lH_ nodes (some f) r
 | some p,(f,b) :: r=>p+1≤f∧f≤nodes - 1∧3≤b∧b≤1048576∧lH_ nodes (some f) r
structure Man.ok (m:Man):Prop where
 version:1≤m.version∧m.version≤1099511627776
 nodes:0≤m.nodes∧m.nodes≤4096
 edges:0≤m.edges∧m.edges≤20000
 shards:m.shards.length≤64∧(m.shards=[]↔m.nodes=0)
 tab:lH_ m.nodes none m.shards
 blocks:m.blocks=ja_ m.total∧m.blocks≤2048
 root:m.root.length=32
def iS_ (l:List (Int × Int)):List Int:=l.flatMap λx=>[x.1,x.2]
def Man.nums (m:Man):List Int:=[m.version,m.nodes,m.edges,(m.shards.length:Int)]++iS_ m.shards++[m.blocks]
def dA_ (l:List Int):List UInt8:=l.flatMap λn=>ae_ n.toNat
def bQ_ (m:Man):List UInt8:=dA_ m.nums++(ae_ m.root.length++m.root)
def rdN:Nat→List UInt8→Option (List Int × List UInt8)
 | 0,l=>some ([],l)
 | k+1,l=>match aD_ 0 0 l with
  | .inr _=>none
  | .inl (x,n)=>match rdN k (l.drop n) with
   | none=>none
   | some (xs,r)=>some ((x:Int) :: xs,r)
theorem fS_ (l:List (Int × Int)):(iS_ l).length=2*l.length:=by
 induction l with
 | nil=>rfl
 | cons x l ih=>simp only [iS_,List.flatMap_cons,List.length_append,List.length_cons,List.length_nil] at ih ⊢;omega
theorem cg_ {nodes:Int} (hn:nodes≤4096):∀ {l:List (Int × Int)} {p:Option Int},(∀x,p=some x→0≤x)→lH_ nodes p l→∀x∈l,0≤x.1∧x.1≤4096∧3≤x.2∧x.2≤1048576
 | [],_,_,_,x,hx=>by cases hx
 | (f,b) :: l,none,hp,h,x,hx=>by
  obtain ⟨rfl,h1,h2,h3⟩:=h
  rcases List.mem_cons.1 hx with rfl | hx
  ·exact ⟨by simp,by simp,h1,h2⟩
  ·exact cg_ hn (λy hy=>by cases hy;omega) h3 x hx
 | (f,b) :: l,some p,hp,h,x,hx=>by
  obtain ⟨h0,h0',h1,h2,h3⟩:=h
  have:=hp p rfl
  rcases List.mem_cons.1 hx with rfl | hx
  ·exact ⟨by simp only [];omega,by simp only [];omega,h1,h2⟩
  ·exact cg_ hn (λy hy=>by cases hy;omega) h3 x hx
theorem Man.ok.nums {m:Man} (h:m.ok):∀n∈m.nums,0≤n∧n≤72057594037927935:=by
 intro n hn
 have hv:=h.version
 have hno:=h.nodes
 have he:=h.edges
 have hs:=h.shards.1
 have hb:=h.blocks
 have hb0:0≤ja_ m.total:=by unfold ja_;split <;> omega
 unfold Man.nums at hn
 simp only [List.mem_append,List.mem_cons,List.not_mem_nil,or_false] at hn
 rcases hn with ((rfl | rfl | rfl | rfl) | hn) | rfl
 ·omega
 ·omega
 ·omega
 ·omega
 ·obtain ⟨x,hx,hn⟩:=List.mem_flatMap.1 hn
  have:=cg_ hno.2 (λ_ h=>by cases h) h.tab x hx
  simp only [List.mem_cons,List.not_mem_nil,or_false] at hn
  rcases hn with rfl | rfl <;> omega
 ·omega
end Go.Vc
namespace Go.Vc
open Go
def ba_ (total:Nat):Nat:=(total+63) / 64
theorem i__ (total:Nat):ja_ total=(ba_ total:Nat):=by
 unfold ja_ ba_
 split <;> omega
def cutL (l:List UInt8):List (List UInt8):=(List.range (ba_ l.length)).map λi=>(l.drop (64*i)).take 64
theorem m3_ (l:List UInt8):∀k,((List.range k).map λi=>(l.drop (64*i)).take 64).flatten=l.take (64*k)
 | 0=>by simp
 | k+1=>by
  rw [List.range_succ,List.map_append,List.flatten_append,m3_ l k]
  simp only [List.map_cons,List.map_nil,List.flatten_cons,List.flatten_nil,List.append_nil]
  rw [show 64*(k+1)=64*k+64 by omega,List.take_add]
theorem m4_ (l:List UInt8):(cutL l).flatten=l:=by
 unfold cutL
 rw [m3_]
 exact List.take_of_length_le (by unfold ba_;omega)
theorem pz_ (l:List UInt8):(cutL l).length=ba_ l.length:=by simp [cutL]
def aw_ (n:Nat):Nat:=2 ^ (Nat.log2 (n - 1))
theorem gZ_ {n:Nat} (h:2≤n):1≤aw_ n∧aw_ n<n:=by
 unfold aw_
 have:=Nat.log2_self_le (n:=n - 1) (by omega)
 exact ⟨Nat.one_le_two_pow,by omega⟩
def bF_ (N:List UInt8→List UInt8→List UInt8) (leaves:List (List UInt8)):Nat→Nat→Nat→List UInt8
 | 0,_,_=>[]
 | f+1,a,n=>if n=1 then leaves.getD a [] else N (bF_ N leaves f a (aw_ n)) (bF_ N leaves f (a+aw_ n) (n - aw_ n))
theorem ec_ (N:List UInt8→List UInt8→List UInt8) (leaves:List (List UInt8)):∀(f g a n:Nat),1≤n→n≤f→n≤g→bF_ N leaves f a n=bF_ N leaves g a n
 | 0,_,_,_,h,h',_=>absurd h (by omega)
 | _+1,0,_,_,h,_,h'=>absurd h (by omega)
 | f+1,g+1,a,n,h,hf,hg=>by
  unfold bF_
  by_cases h1:n=1
  ·rw [if_pos h1,if_pos h1]
  ·rw [if_neg h1,if_neg h1]
   have:=gZ_ (n:=n) (by omega)
   rw [ec_ N leaves f g a (aw_ n) (by omega) (by omega) (by omega),ec_ N leaves f g (a+aw_ n) (n - aw_ n) (by omega) (by omega) (by omega)]
def gs_ (H:List UInt8→List UInt8) (blocks:List (List UInt8)):List UInt8:=
 if blocks=[] then H [2] else bF_ (λa b=>H (1 :: (a++b))) (blocks.map λs=>H (0 :: s)) blocks.length 0 blocks.length
theorem g9_ {H:List UInt8→List UInt8} (hH:∀l,(H l).length=32) (leaves:List (List UInt8)) (hl:∀x∈leaves,x.length=32):∀(f a n:Nat),1≤n→n≤f→a+n≤leaves.length→
  (bF_ (λa b=>H (1 :: (a++b))) leaves f a n).length=32
 | 0,_,_,h,h',_=>absurd h (by omega)
 | f+1,a,n,h,hf,hn=>by
  unfold bF_
  split
  ·have:a<leaves.length:=by omega
   have e:leaves.getD a []=leaves[a]:=by simp [List.getD,this]
   rw [e]
   exact hl _ (List.getElem_mem this)
  ·exact hH _
theorem oF_ {H:List UInt8→List UInt8} (hH:∀l,(H l).length=32) (blocks:List (List UInt8)):(gs_ H blocks).length=32:=by
 unfold gs_
 split
 ·exact hH _
 ·rename_i h
  have:1≤blocks.length:=List.length_pos_iff.2 h
  exact g9_ hH _ (λx hx=>by obtain ⟨y,_,rfl⟩:=List.mem_map.1 hx;exact hH _) _ _ _ this (Nat.le_refl _) (by simp)
end Go.Vc
namespace Go.Vc
open Go
def aH_ (each nodes i:Nat):Nat:=min each (nodes - i*each)
def et_ (B Tg:List Int) (each nodes i:Nat):List UInt8:=gi_ (i*each:Nat) (λj=>rowOf B Tg (i*each+j)) (aH_ each nodes i)
def bf_ (B Tg:List Int) (each nodes:Nat) (k:Nat):List (List UInt8):=(List.range k).map (et_ B Tg each nodes)
theorem eM_ (B Tg:List Int) (each nodes k:Nat):bf_ B Tg each nodes (k+1)=bf_ B Tg each nodes k++[et_ B Tg each nodes k]:=by simp [bf_,List.range_succ]
theorem c5_ (B Tg:List Int) (each nodes k:Nat):(bf_ B Tg each nodes k).length=k:=by simp [bf_]
theorem oK_ (B Tg:List Int) {each nodes k i:Nat} (h:i<k):(bf_ B Tg each nodes k)[i]'(by rw [c5_];exact h)=et_ B Tg each nodes i:=by simp [bf_]
theorem ia_ {w:World} {q q2:Option Addr} {l c l2 c2:Nat} {xs ys:List (List UInt8)} {K:Value→World→Prop}
  (ho:Own T.string 1 w q c (xs.map sv8')) (hl:l=xs.length) (hlc:l≤c) (hs:Sl w q2 (ys.map sv8')) (hl2:l2=ys.length) (hroom:l+l2≤4398046511104)
  (hK:∀q' c' w',Own T.string 1 w' q' c' ((xs++ys).map sv8')→l+l2≤c'→Chg (aM_ q) w w'→(∀a,q'=some a→q=some a∨a=⟨w.heap.size,0,none⟩)→K (.slice q' (l+l2) c') w') :
  rn PR (Builtin.append_ #[T.aK_,T.aK_] T.aK_ #[.slice q l c,.slice q2 l2 c2]) K w:=
 app1 kn_ oe_ rfl (by decide) ho (by simp [hl]) hlc hs (by simp [hl2]) (λy hy=>by obtain ⟨b,_,rfl⟩:=List.mem_map.1 hy;rfl) (by omega) λq' c' w' h=>hK q' c' w' (by simpa using h)
theorem nL_ {w:World} {b nodes:Nat} {B Tg:List Int} (h:gR_ w b nodes B Tg) (hL:CsrL nodes B Tg) (hn:nodes≤4096) {each:Nat} (he:1≤each) (he2:each≤4096) {K:Value→World→Prop}
  (hK:∀w' q c k,Grow w w'→nodes≤k*each→(∀i,i<k→i*each<nodes)→k≤64→Sl w' q ((bf_ B Tg each nodes k).map sv8')→k≤c→K (.tuple #[.slice q k c,.nilIface]) w')
  (hE:64*each<nodes→K (.tuple #[.slice none 0 0,.iface T.ax_ (.int .i64 6)]) w) :
  aa_ PR F.eI_ ⟨[.pointer (some ⟨b,0,none⟩),.int .i64 each]⟩ w K:=by
 have hdiv:IntKind.wrap .i64 (Int.tdiv (IntKind.wrap .i64 (IntKind.wrap .i64 ((nodes:Int)+each) - 1)) each)=(((nodes+each - 1) / each:Nat):Int):=by
  rw [w64 (n:=(nodes:Int)+each) (by omega) (by omega),w64 (n:=(nodes:Int)+each - 1) (by omega) (by omega),Int.tdiv_eq_ediv_of_nonneg (by omega)]
  have e:(nodes:Int)+each - 1=((nodes+each - 1:Nat):Int):=by omega
  rw [e,← Int.natCast_ediv]
  have:=Nat.div_le_self (nodes+each - 1) each
  generalize (nodes+each - 1) / each=d at this ⊢
  exact w64 (by omega) (by omega)
 have hdm:=Nat.div_add_mod (nodes+each - 1) each
 have hmod:=Nat.mod_lt (nodes+each - 1) he
 refine eI_ _ each S0 K w ⟨(λh=>by cases h),λa0 ha=>⟨(λh=>by omega),λ_=>⟨λhlt4=>bY_ h hn ⟨_,rfl,.init _ w,by omega,?_⟩,λhge4=>?_⟩⟩⟩
 rw [hdiv]
 refine ⟨λhgt=>hE ?_,λhle=>?_⟩
 rotate_left
 have h64:nodes≤64*each:=by
  have:(nodes+each - 1) / each≤64:=by omega
  have h2:each*((nodes+each - 1) / each)≤each*64:=Nat.mul_le_mul_left _ this
  omega
 rotate_left
 have h64:nodes≤64*each:=by omega
 rotate_left
 ·have:65≤(nodes+each - 1) / each:=by omega
  have h2:each*65≤each*((nodes+each - 1) / each):=Nat.mul_le_mul_left _ this
  omega
 all_goals
  refine ⟨λq l c first m w'=>∃k:Nat,first=((k*each:Nat):Int)∧m=65 - k∧k≤64∧(∀i,i<k→i*each<nodes)∧Own T.string 1 w' q c ((bf_ B Tg each nodes k).map sv8')∧k=l∧l≤c∧Off (λj=>j<w.heap.size) q,⟨_,0,by simp,rfl,by omega,(λi h=>by omega),.nil _ _ _,rfl,Nat.le_refl _,.none _⟩,?_⟩
  rintro q l c first D m w1 ⟨k,rfl,rfl,hk,hcov,ho,rfl,hlc,hof⟩ hF
  have hmul:k*each≤64*each:=Nat.mul_le_mul_right _ hk
  refine bY_ (h.grow hF.gr) hn ⟨_,rfl,hF,λhlt=>?_,λhge=>hK w1 q c k hF.gr (by omega) hcov hk ho.sl hlc⟩
  refine bY_ (h.grow hF.gr) hn ⟨_,rfl,hF,?_⟩
  have hlt':k*each<nodes:=by omega
  have em:(if IntKind.wrap .i64 ((nodes:Int) - ((k*each:Nat):Int))<(each:Int) then IntKind.wrap .i64 ((nodes:Int) - ((k*each:Nat):Int)) else (each:Int))=((aH_ each nodes k:Nat):Int):=by
   rw [w64 (by omega) (by omega)];unfold aH_;split <;> omega
  rw [em]
  have hmo:k*each+aH_ each nodes k≤nodes:=by unfold aH_;omega
  have hm1:1≤aH_ each nodes k:=by unfold aH_;omega
  refine jw_ (h.grow hF.gr) hL hn hmo hm1 λw4 g4=>⟨_,_,rfl,hF.after g4,λ_=>?_,(λt x h=>by cases h),.inl rfl⟩
  intro bt hbt w5 hF5
  have g5:Grow w4 w5:=hF5.grow
  have hk64:k<64:=by
   rcases Nat.lt_or_ge k 64 with h | h
   ·exact h
   ·have:64*each≤k*each:=Nat.mul_le_mul_right _ h
    omega
  refine ia_ ((ho.grow g4).grow g5) (by rw [c5_]) hlc (ys:=[et_ B Tg each nodes k]) (hF5.sl 0 rfl) rfl (by omega) λq' c' w6 ho6 hc6 g6 hq6=>?_
  have s14:=g4.size
  have s45:=g5.size
  have hF6:=hF5.app2 g6 w.heap.size w4.heap.size hof (λa ha=>by have:=ho.lt a ha;omega) (λy hy=>by simp at hy;subst hy;exact .inr hbt) (Nat.le_refl _)
  refine ⟨_,_,_,rfl,hF6,65 - (k+1),by omega,k+1,?_,rfl,by omega,?_,?_,rfl,hc6,hof.next hq6 (by have:=hF.chg.size;omega)⟩
  ·have:¬(4096:Int)<each:=by omega
   rw [if_neg this,w64 (by omega) (by omega),Nat.succ_mul];omega
  ·intro i hi
   by_cases e:i=k
   ·subst e;exact hlt'
   ·exact hcov i (by omega)
  ·rw [eM_];exact ho6
theorem n6_:∃i,PR.info? T.dg_=some i∧i.size=2∧i.bytes=16∧i.zero=some (.agg #[.int .i64 0,.int .i64 0]):=by
 have h:(match PR.info? T.dg_ with | some i=>i.size == 2 && i.bytes == 16 && (match i.zero with | some (.agg ⟨[.int .i64 0,.int .i64 0]⟩)=>true | _=>false) | none=>false)=true:=by kernel_rfl
 split at h
 ·rename_i i hi
  simp only [Bool.and_eq_true,beq_iff_eq] at h
  refine ⟨i,hi,h.1.1,h.1.2,?_⟩
  have h2:=h.2
  split at h2
  ·assumption
  ·cases h2
 ·cases h
theorem qj_:PR.underlying T.kw_=some (.slice T.dg_):=by kernel_rfl
theorem rd_ {ts e:TypeId} (hu:PR.underlying ts=some (.slice e)) (ht:∃i,PR.info? e=some i∧i.size=2∧i.bytes=16∧i.zero=some (.agg #[.int .i64 0,.int .i64 0])) {w:World} {q q2:Option Addr} {l c l2 c2:Nat} {xs ys:List (Int × Int)} {K:Value→World→Prop}
  (ho:Own e 2 w q c (encE xs)) (hl:l=xs.length) (hlc:l≤c) (hs:Sl w q2 (encE ys)) (hl2:l2=ys.length) (hroom:l+l2≤4398046511104)
  (hK:∀q' c' w',Own e 2 w' q' c' (encE (xs++ys))→l+l2≤c'→Chg (aM_ q) w w'→(∀a,q'=some a→q=some a∨a=⟨w.heap.size,0,none⟩)→K (.slice q' (l+l2) c') w') :
  rn PR (Builtin.append_ #[ts,ts] ts #[.slice q l c,.slice q2 l2 c2]) K w:=by
 obtain ⟨i,hi,hk,hb,hz⟩:=ht
 refine cA_ <| fK_ (i:=i) (k:=2) (by_:=16) hu hu hi hz hk hb rfl (by decide) ho (by rw [aI_,hl]) hlc hs (by rw [aI_,hl2]) (λy hy=>m1_ hy) (by omega) λq' c' w' h=>hK q' c' w' ?_
 have:encE (xs++ys)=encE xs++encE ys:=by simp [encE]
 rw [this];exact h
def c0_ (B Tg:List Int) (each nodes:Nat) (k:Nat):List (Int × Int):=(List.range k).map λi=>(((i*each:Nat):Int),((et_ B Tg each nodes i).length:Int))
theorem g6_ (B Tg:List Int) (each nodes k:Nat):c0_ B Tg each nodes (k+1)=c0_ B Tg each nodes k++[(((k*each:Nat):Int),((et_ B Tg each nodes k).length:Int))]:=by simp [c0_,List.range_succ]
theorem iL_ (B Tg:List Int) (each nodes k:Nat):(c0_ B Tg each nodes k).length=k:=by simp [c0_]
theorem nK_ {nodes:Nat} {B Tg:List Int} (hL:CsrL nodes B Tg) (hn:nodes≤4096) {each:Nat} (he:1≤each) {k:Nat} (hk:k≤64) (hcov:∀i,i<k→i*each<nodes) {w:World} {q:Option Addr} {c:Nat} (hs:Sl w q ((bf_ B Tg each nodes k).map sv8')) {K:Value→World→Prop}
  (hK:∀w' q' c',Grow w w'→Own T.dg_ 2 w' q' c' (encE (c0_ B Tg each nodes k))→k≤c'→Off (λj=>j<w.heap.size) q'→K (.tuple #[.slice q' k c',.nilIface]) w') :
  aa_ PR F.eH_ ⟨[.int .i64 nodes,.slice q k c]⟩ w K:=by
 refine eH_ nodes q k c S0 K w ⟨λq' l c' i m w'=>∃j:Nat,i=j∧j≤k∧m=k - j∧Own T.dg_ 2 w' q' c' (encE (c0_ B Tg each nodes j))∧j=l∧l≤c'∧Off (λx=>x<w.heap.size) q',⟨_,0,rfl,by omega,rfl,.nil _ _ _,rfl,Nat.le_refl _,.none _⟩,?_⟩
 rintro q' l c' i D m w1 ⟨j,rfl,hj,rfl,ho,rfl,hlc,hof⟩ hF
 refine ⟨λhlt=>?_,λhge=>?_⟩
 ·have hj':j<k:=by omega
  have hc:=hcov j hj'
  have hmo:j*each+aH_ each nodes j≤nodes:=by unfold aH_;omega
  have hm1:1≤aH_ each nodes j:=by unfold aH_;omega
  refine (hs.grow hF.gr).rd (v:=sv8' (et_ B Tg each nodes j)) (by simp [c5_]) (by omega) ?_ λa ha=>⟨_,ha,?_⟩
  ·rw [Int.toNat_natCast,List.getElem?_map,List.getElem?_eq_getElem (by rw [c5_];exact hj'),oK_ _ _ hj'];rfl
  have hR:∀x,x<aH_ each nodes j→eO_ (nodes:Int) ((λx=>rowOf B Tg (j*each+x)) x):=λx hx=>hL.row _ (by omega)
  have hpl:=iP_ hn hmo hR
  refine ky_ hn hmo hm1 hR λw2 qr nr cr g2=>⟨_,_,_,_,_,rfl,hF.after g2,λb6 hb6=>⟨λ_=>?_,(λt x h=>by cases h),.inl rfl⟩⟩
  intro b7 hb7 w3 hF3
  have g23:Chg (· = b6) w2 w3:=hF3.stp.mono λi _ hi=>by simpa using hi
  have s12:=g2.size
  have ho3:Own T.dg_ 2 w3 q' c' (encE (c0_ B Tg each nodes j)):=(ho.grow g2).keep g23 λa ha e=>by have:=ho.lt a ha;have e':a.block=b6:=e;omega
  have hs7:=hF3.sl 1 rfl
  rw [af_] at hs7
  refine rd_ qj_ n6_ ho3 (by rw [iL_]) hlc (ys:=[(((j*each:Nat):Int),((et_ B Tg each nodes j).length:Int))]) hs7 rfl (by omega) λq2 c2 w4 ho4 hc4 g4 hq4=>?_
  have hF4:=hF3.app2 g4 w.heap.size w2.heap.size hof (λa ha=>by have:=ho.lt a ha;omega) (λy hy=>by
   rcases List.mem_cons.1 hy with rfl | hy
   ·exact .inr hb6
   ·simp at hy;subst hy;exact .inr hb7) (Nat.le_refl _)
  refine ⟨_,_,_,rfl,hF4,k - (j+1),by omega,j+1,wr1 (by omega),by omega,rfl,?_,rfl,hc4,hof.next hq4 (by have:=hF3.chg.size;omega)⟩
  rw [g6_];exact ho4
 ·have e:j=k:=by omega
  subst e
  exact hK w1 q' c' hF.gr ho hlc hof
end Go.Vc
