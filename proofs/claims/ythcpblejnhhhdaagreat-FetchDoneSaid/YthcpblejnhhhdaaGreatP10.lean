/-
  A part of the proof of the statement FetchDoneSaid, in Lean: Up, Mc1, Hs3, Kp1, Khh, MirD4, Hs4, Ac1, Ac2, Ac5, Pr6, As1, As4, Pt0, Hs5, Khw. By an AI agent.
-/
import Derived.Test.YthcpblejnhhhdaaGreatP06
import Derived.Test.YthcpblejnhhhdaaGreatP08
import Derived.Test.YthcpblejnhhhdaaGreatP09
import Derived.Test.YthcpblejnhhhdaaGreatShelfC
import Derived.Maps.OwnSet
import Derived.Test.YthcpblejnhhhdaaGreatP02
import Derived.Test.YthcpblejnhhhdaaGreatP07
import Derived.Test.YthcpblejnhhhdaaGreatP05
import Derived.Test.YthcpblejnhhhdaaGreatP04
import Derived.MapKept
import Derived.WideKeyMaps
import Derived.WideKeyRuns
import Derived.WalkKit
import Derived.LaidEql
import Derived.Stop.Asserts
import Derived.RowKitTokens
set_option linter.unusedSimpArgs false
set_option linter.unusedVariables false
set_option maxRecDepth 100000
namespace Go.Vc
def aI_:Nat→Nat→Nat→List Bool
  | 0,_,_=>[]
  | f+1,i,n=>if n≤1 then [] else if i<ah_ n then true :: aI_ f i (ah_ n) else false :: aI_ f (i - ah_ n) (n - ah_ n)
def prfL (N:List UInt8→List UInt8→List UInt8) (leaves:List (List UInt8)):Nat→Nat→Nat→Nat→List (List UInt8)
  | 0,_,_,_=>[]
  | f+1,i,a,n=>if n≤1 then [] else if i<a+ah_ n then prfL N leaves f i a (ah_ n)++[aZ_ N leaves (n - ah_ n) (a+ah_ n) (n - ah_ n)]
    else prfL N leaves f i (a+ah_ n) (n - ah_ n)++[aZ_ N leaves (ah_ n) a (ah_ n)]
def mF_ (N:List UInt8→List UInt8→List UInt8) (d:List UInt8) (x:Bool × List UInt8):List UInt8:=if x.1 then N d x.2 else N x.2 d
def upL (N:List UInt8→List UInt8→List UInt8) (d:List UInt8) (l:List (Bool × List UInt8)):List UInt8:=l.foldl (mF_ N) d
theorem c9_:∀(f g i n:Nat),n≤f→n≤g→aI_ f i n=aI_ g i n
  | 0,0,_,_,_,_=>rfl
  | 0,g+1,i,n,h,_=>by unfold aI_;rw [if_pos (by omega)]
  | f+1,0,i,n,_,h=>by unfold aI_;rw [if_pos (by omega)]
  | f+1,g+1,i,n,hf,hg=>by
    unfold aI_
    by_cases h1:n≤1
    · rw [if_pos h1,if_pos h1]
    · have hh:=cB_ (n:=n) (by omega)
      rw [if_neg h1,if_neg h1,c9_ f g i (ah_ n) (by omega) (by omega),c9_ f g (i - ah_ n) (n - ah_ n) (by omega) (by omega)]
theorem g0_ {f i n:Nat} (h:2≤n) (hi:i<ah_ n):aI_ (f+1) i n=true :: aI_ f i (ah_ n):=by
  rw [aI_,if_neg (by omega),if_pos hi]
theorem g1_ {f i n:Nat} (h:2≤n) (hi:¬i<ah_ n):aI_ (f+1) i n=false :: aI_ f (i - ah_ n) (n - ah_ n):=by
  rw [aI_,if_neg (by omega),if_neg hi]
theorem fs_ {f i n:Nat} (h:n≤1):aI_ (f+1) i n=[]:=by rw [aI_,if_pos h]
section
variable (N:List UInt8→List UInt8→List UInt8) (leaves:List (List UInt8))
theorem ln_ {f i a n:Nat} (h:2≤n) (hi:i<a+ah_ n):prfL N leaves (f+1) i a n=prfL N leaves f i a (ah_ n)++[aZ_ N leaves (n - ah_ n) (a+ah_ n) (n - ah_ n)]:=by
  rw [prfL,if_neg (by omega),if_pos hi]
theorem lo_ {f i a n:Nat} (h:2≤n) (hi:¬i<a+ah_ n):prfL N leaves (f+1) i a n=prfL N leaves f i (a+ah_ n) (n - ah_ n)++[aZ_ N leaves (ah_ n) a (ah_ n)]:=by
  rw [prfL,if_neg (by omega),if_neg hi]
theorem i8_ {f i a n:Nat} (h:n≤1):prfL N leaves (f+1) i a n=[]:=by rw [prfL,if_pos h]
theorem nR_ {f a n:Nat} (h:2≤n):aZ_ N leaves (f+1) a n=N (aZ_ N leaves f a (ah_ n)) (aZ_ N leaves f (a+ah_ n) (n - ah_ n)):=by
  rw [aZ_,if_neg (by omega)]
theorem hc_:∀(f i a n:Nat),a≤i→(prfL N leaves f i a n).length=(aI_ f (i - a) n).length
  | 0,_,_,_,_=>rfl
  | f+1,i,a,n,h=>by
    by_cases h1:n≤1
    · rw [i8_ N leaves h1,fs_ h1];rfl
    · by_cases h2:i<a+ah_ n
      · rw [ln_ N leaves (by omega) h2,g0_ (by omega) (by omega),List.length_append,hc_ f i a (ah_ n) h];simp
      · rw [lo_ N leaves (by omega) h2,g1_ (by omega) (by omega),List.length_append,hc_ f i (a+ah_ n) (n - ah_ n) (by omega),show i - (a+ah_ n)=i - a - ah_ n by omega];simp
theorem nu_:∀(f i a n:Nat),1≤n→n≤f→a≤i→i<a+n→
    upL N (leaves.getD i []) ((aI_ f (i - a) n).reverse.zip (prfL N leaves f i a n))=aZ_ N leaves f a n
  | 0,_,_,_,h,h',_,_=>absurd h (by omega)
  | f+1,i,a,n,h,hf,h1,h2=>by
    by_cases hn:n=1
    · subst hn
      have:i=a:=by omega
      subst this
      rw [fs_ (Nat.le_refl _),i8_ N leaves (Nat.le_refl _),aZ_,if_pos rfl];rfl
    · have hh:=cB_ (n:=n) (by omega)
      rw [nR_ N leaves (by omega)]
      by_cases h3:i<a+ah_ n
      · have ih:=nu_ f i a (ah_ n) hh.1 (by omega) h1 h3
        have hl:=hc_ N leaves f i a (ah_ n) h1
        rw [ln_ N leaves (by omega) h3,g0_ (by omega) (by omega),List.reverse_cons,List.zip_append (by rw [List.length_reverse,hl])]
        unfold upL at ih ⊢
        rw [List.foldl_append,ih,b9_ N leaves (n - ah_ n) f (a+ah_ n) (n - ah_ n) (by omega) (by omega) (by omega)]
        rfl
      · have ih:=nu_ f i (a+ah_ n) (n - ah_ n) (by omega) (by omega) (by omega) (by omega)
        have hl:=hc_ N leaves f i (a+ah_ n) (n - ah_ n) (by omega)
        rw [show i - (a+ah_ n)=i - a - ah_ n by omega] at ih hl
        rw [lo_ N leaves (by omega) h3,g1_ (by omega) (by omega),List.reverse_cons,List.zip_append (by rw [List.length_reverse,hl])]
        unfold upL at ih ⊢
        rw [List.foldl_append,ih,b9_ N leaves (ah_ n) f a (ah_ n) (by omega) (by omega) (by omega)]
        rfl
end
end Go.Vc
namespace Go.Vc
open Go
def bV (b:Bool):Value:=.bool b
theorem qN_:PR.underlying T.i2_=some (.slice T.bool):=by kernel_rfl
theorem mH_ {i n:Nat} (hi:i<n) (hn:n≤1048576) {w:World} {K:Value→World→Prop} (hK:∀w' q c,Grow w w'→Sl w' q ((aI_ n i n).map bV)→K (.slice q (aI_ n i n).length c) w'):aa_ PR F.dH_ ⟨[.int .i64 i,.int .i64 n]⟩ w K:=by
  refine dH_ i n S0 K w ⟨λa m q l c lv w'=>∃(j k:Nat) (pre:List Bool),a=j∧m=k∧lv=k∧j<k∧k≤n∧pre++aI_ k j k=aI_ n i n∧pre.length+k≤n∧Own T.bool 1 w' q c (pre.map bV)∧l=pre.length∧l≤c∧Off (λx=>x<w.heap.size) q∧Grow w w',⟨n,i,n,[],rfl,rfl,rfl,hi,Nat.le_refl _,rfl,by simp,.nil _ _ _,rfl,Nat.le_refl _,.none _,.refl _ _⟩,?_⟩
  rintro a m q l c D k w1 ⟨j,k',pre,rfl,rfl,rfl,hjk,hkn,hp,hpl,ho,rfl,hlc,hof,g1⟩ hF1
  have s1:=g1.size
  refine ⟨λhgt=>?_,λhng=>?_⟩
  · have h2:2≤k:=by omega
    have hh:=cB_ h2
    obtain ⟨f,rfl⟩:∃f,k=f+1:=⟨k - 1,by omega⟩
    have push:∀(b:Bool) (j' k':Nat),j'<k'→k'<f+1→aI_ (f+1) j (f+1)=b :: aI_ k' j' k'→∀b4,w1.heap.size≤b4→∀w2,Fr S0 w w1 [] [⟨b4,#[.bool b],T.bool,true⟩] w2→
        rn PR (Builtin.append_ #[T.i2_,T.i2_] T.i2_ #[.slice q pre.length c,.slice (some ⟨b4,0,none⟩) 1 1]) (λv1 w3=>∃q1:Option Addr,∃l5:Nat,∃l6:Nat,v1=.slice q1 l5 l6∧Fs S0 w [⟨b4,#[.bool b],T.bool,true⟩] w3∧∃l7:Nat,l7<f+1∧
          ∃(j2 k2:Nat) (pre:List Bool),(j':Int)=j2∧(k':Int)=k2∧l7=k2∧j2<k2∧k2≤n∧pre++aI_ k2 j2 k2=aI_ n i n∧pre.length+k2≤n∧Own T.bool 1 w3 q1 l6 (pre.map bV)∧l5=pre.length∧l5≤l6∧Off (λx=>x<w.heap.size) q1∧Grow w w3) w2:=by
      intro b j' k' hj hk hs b4 hb4 w2 hF2
      have g2:Grow w1 w2:=hF2.grow
      refine app1 qN_ qz_ rfl (by decide) (ho.grow g2) (by simp) hlc (ys:=[bV b]) (hF2.sl 0 rfl) rfl (by simp [bV,oneC]) (by omega) λq' c' w3 ho3 hc3 g3 hq3=>?_
      have hF3:=hF2.app2 g3 w.heap.size w1.heap.size hof (λa ha=>ho.lt a ha) (λx hx=>by simp at hx;subst hx;exact .inr hb4) (Nat.le_refl _)
      exact ⟨_,_,_,rfl,hF3,k',hk,j',k',pre++[b],rfl,rfl,rfl,hj,by omega,by rw [← hp,hs];simp,by simp;omega,by simpa using ho3,by simp,hc3,hof.next hq3 (by have:=g2.size;omega),hF3.gr⟩
    refine fo_ h2 (by omega) ⟨_,rfl,hF1,λhlt b4 hb4 w2 hF2=>?_,λhge b4 hb4 w2 hF2=>?_⟩
    · exact push true j (ah_ (f+1)) (by omega) hh.2 (by rw [g0_ h2 (by omega),c9_ f (ah_ (f+1)) j (ah_ (f+1)) (by omega) (Nat.le_refl _)]) b4 hb4 w2 hF2
    · rw [show IntKind.wrap .i64 ((j:Int) - (ah_ (f+1):Nat))=((j - ah_ (f+1):Nat):Int) by rw [w64 (by omega) (by omega)];omega,show IntKind.wrap .i64 (((f+1:Nat):Int) - (ah_ (f+1):Nat))=((f+1 - ah_ (f+1):Nat):Int) by rw [w64 (by omega) (by omega)];omega]
      exact push false (j - ah_ (f+1)) (f+1 - ah_ (f+1)) (by omega) (by omega) (by rw [g1_ h2 (by omega),c9_ f (f+1 - ah_ (f+1)) _ (f+1 - ah_ (f+1)) (by omega) (Nat.le_refl _)]) b4 hb4 w2 hF2
  · have hk1:k=1:=by omega
    subst hk1
    have e:pre=aI_ n i n:=by rw [← hp,fs_ (Nat.le_refl _)];simp
    rw [e]
    rw [e] at ho
    exact hK w1 q c g1 ho.sl
def a__ (i n:Int) (leaf:List UInt8) (prf:List (List UInt8)) (d:List UInt8):Prop:=∃j k:Nat,i=j∧n=k∧j<k∧k≤1048576∧prf.length=(aI_ k j k).length∧leaf.length=32∧(∀p∈prf,p.length=32)∧d=upL a1_ leaf ((aI_ k j k).reverse.zip prf)
def gL_ (i n c:Int):Prop:=c=2∧¬(0≤i∧i<n∧n≤1048576)∨c=11∧(0≤i∧i<n∧n≤1048576)
theorem km_ (a b:List UInt8):(a1_ a b).length=32:=gf_ _
theorem dM_ (a:List UInt8):(ay_ a).length=32:=gf_ _
theorem rl_ {i n:Int} {leaf:List UInt8} {prf:List (List UInt8)} {y:Option Addr} {cy:Nat} {w:World} (hs:Sl w y (prf.map sv8')) {K:Value→World→Prop}
    (h1:∀w' d,Grow w w'→a__ i n leaf prf d→K (.tuple #[.string (str d),.nilIface]) w')
    (h2:∀w' s c,Grow w w'→(∀d,¬a__ i n leaf prf d)→gL_ i n c→K (.tuple #[.string s,.iface T.an_ (.int .i64 c)]) w'):aa_ PR F.hp_ ⟨[.int .i64 i,.int .i64 n,.string (str leaf),.slice y prf.length cy]⟩ w K:=by
  refine hp_ i n (str leaf) y prf.length cy S0 K w ?_
  have bad:∀P:Bool→Prop,¬(0≤i∧i<n∧n≤1048576)→∃b0:Bool,Value.bool false=.bool b0∧(b0=true→P b0)∧(b0=false→Fs S0 w [] w∧K (.tuple (#[.string ⟨#[]⟩,.iface T.an_ (.int .i64 2)])) w):=λP hr=>⟨false,rfl,(λh=>by cases h),λ_=>⟨.init _ _,h2 w _ 2 (.refl _ _) (λd ⟨j,k,e1,e2,h3,h4,_⟩=>hr (by omega)) (.inl ⟨rfl,hr⟩)⟩⟩
  refine f8_ i n S0 _ w ⟨λh0=>⟨λhlt=>⟨λhle=>?_,λhc=>bad _ (by omega)⟩,λhc=>bad _ (by omega)⟩,λhc=>bad _ (by omega)⟩
  refine ⟨true,rfl,λ_=>⟨.init _ _,?_⟩,λh=>by cases h⟩
  obtain ⟨j,rfl⟩:=Int.eq_ofNat_of_zero_le h0
  obtain ⟨k,rfl⟩:=Int.eq_ofNat_of_zero_le (a:=n) (by omega)
  have hr:0≤(j:Int)∧(j:Int)<k∧(k:Int)≤1048576:=⟨by omega,by omega,by omega⟩
  have no:∀ {w':World} {s:ByteArray},Grow w w'→(∀d,¬a__ j k leaf prf d)→K (.tuple (#[.string s,.iface T.an_ (.int .i64 11)])) w':=λg hno=>h2 _ _ 11 g hno (.inr ⟨rfl,hr⟩)
  have ok':∀ {d},a__ j k leaf prf d→prf.length=(aI_ k j k).length∧leaf.length=32∧(∀p∈prf,p.length=32)∧d=upL a1_ leaf ((aI_ k j k).reverse.zip prf):=by
    rintro d ⟨j',k',e1,e2,_,_,h⟩
    have:j=j':=by omega
    have:k=k':=by omega
    subst_vars
    exact h
  refine mH_ (by omega) (by omega) λw1 sq sc g1 hsd=>?_
  have hF1:Fs S0 w [] w1:=(Fr.init _ w).after g1
  generalize hS:aI_ k j k=sd at hsd ok'
  have hsdl:sd.length≤k:=by
    rw [← hS]
    have:∀(f i n:Nat),(aI_ f i n).length≤f:=by
      intro f
      induction f with
      | zero=>intro i n;simp [aI_]
      | succ f ih=>
        intro i n
        unfold aI_
        split
        · simp
        · split
          · simp;exact ih _ _
          · simp;exact ih _ _
    exact this _ _ _
  refine ⟨_,_,_,rfl,hF1,λhlen=>⟨λhleaf=>?_,λhne=>no g1 λd hd=>hne (by rw [ai_];have:=(ok' hd).2.1;omega)⟩,λhne=>no g1 λd hd=>hne (by have:=(ok' hd).1;omega)⟩
  have hl:prf.length=sd.length:=by omega
  have hl32:leaf.length=32:=by rw [ai_] at hleaf;omega
  have hzl:(sd.reverse.zip prf).length=prf.length:=by simp [hl]
  refine ⟨λs t lv w'=>∃u:Nat,t=u∧u≤prf.length∧lv=prf.length - u∧s=str (upL a1_ leaf ((sd.reverse.zip prf).take u))∧(upL a1_ leaf ((sd.reverse.zip prf).take u)).length=32∧(∀p∈prf.take u,p.length=32)∧Grow w1 w',⟨_,0,rfl,by omega,rfl,rfl,hl32,by simp,.refl _ _⟩,?_⟩
  rintro s t D lv w2 ⟨u,rfl,hu,rfl,rfl,hul,hup,g2⟩ hF2
  have gw2:=g1.trans g2
  refine ⟨λhlt=>?_,λhge=>?_⟩
  · have hu':u<prf.length:=by omega
    refine (hs.grow gw2).rd (v:=sv8' prf[u]) (by simp) (by omega) (by simp [hu']) λa ha=>⟨_,ha,λh32=>?_,λhn=>no gw2 λd hd=>hn (by rw [ai_];have:=(ok' hd).2.2.1 prf[u] (List.getElem_mem hu');omega)⟩
    have hp32:prf[u].length=32:=by rw [ai_] at h32;omega
    have hidx:IntKind.wrap .i64 (IntKind.wrap .i64 ((sd.length:Int) - 1) - u)=((sd.length - 1 - u:Nat):Int):=by
      have ei:IntKind.wrap .i64 ((sd.length:Int) - 1)=(sd.length:Int) - 1:=w64 (by omega) (by omega)
      rw [ei,w64 (by omega) (by omega)];omega
    rw [hidx]
    have hrev:sd.length - 1 - u<sd.length:=by omega
    have hru:u<sd.reverse.length:=by simp;omega
    have hzu:u<(sd.reverse.zip prf).length:=by omega
    have hz:(sd.reverse.zip prf)[u]=(sd[sd.length - 1 - u],prf[u]):=by simp [List.getElem_zip,List.getElem_reverse]
    have hnx:(sd.reverse.zip prf).take (u+1)=(sd.reverse.zip prf).take u++[(sd[sd.length - 1 - u],prf[u])]:=by rw [aA_ hzu,hz]
    have hup':∀p∈prf.take (u+1),p.length=32:=λp hp=>by
      rw [aA_ hu'] at hp
      rcases List.mem_append.1 hp with hp | hp
      · exact hup p hp
      · simp at hp;rw [hp];exact hp32
    have hup1:upL a1_ leaf ((sd.reverse.zip prf).take (u+1))=mF_ a1_ (upL a1_ leaf ((sd.reverse.zip prf).take u)) (sd[sd.length - 1 - u],prf[u]):=by
      rw [hnx];unfold upL;rw [List.foldl_append];rfl
    refine (hsd.grow g2).rd (v:=bV sd[sd.length - 1 - u]) (by simp) (by omega) (by simp [hrev]) λa2 ha2=>⟨_,ha2,λht=>?_,λhf=>?_⟩
    · refine hY_ hul hp32 λw3 g3=>⟨_,rfl,hF2.after g3,prf.length - (u+1),by omega,u+1,wr1 (by omega),by omega,rfl,?_,?_,hup',g2.trans g3⟩
      · rw [hup1];unfold mF_;rw [if_pos ht]
      · rw [hup1];unfold mF_;rw [if_pos ht];exact km_ _ _
    · refine hY_ hp32 hul λw3 g3=>⟨_,rfl,hF2.after g3,prf.length - (u+1),by omega,u+1,wr1 (by omega),by omega,rfl,?_,?_,hup',g2.trans g3⟩
      · rw [hup1];unfold mF_;simp only [hf];rw [if_neg (by decide)]
      · rw [hup1];unfold mF_;simp only [hf];rw [if_neg (by decide)];exact km_ _ _
  · have e:u=prf.length:=by omega
    subst e
    rw [List.take_of_length_le (by omega)]
    rw [List.take_of_length_le (Nat.le_refl _)] at hup
    exact h1 w2 _ gw2 ⟨j,k,rfl,rfl,by omega,by omega,by rw [hS];exact hl,hl32,hup,by rw [hS]⟩
def errP (c:Int) (v:Value):Prop:=v=.iface T.an_ (.int .i64 c)∨(c=11∧∃a:Int,v=.iface T.fj_ (.agg #[.int .i64 a,.iface T.an_ (.int .i64 11)]))
theorem errP.err {c:Int} {v:Value} (h:errP c v):q5_ v:=by
  rcases h with rfl | ⟨_,a,rfl⟩ <;> exact ⟨_,_,rfl⟩
theorem lZ_ {root s:List UInt8} {i n:Int} {prf:List (List UInt8)} {y:Option Addr} {cy:Nat} {w:World} (hs:Sl w y (prf.map sv8')) (hsl:s.length≤1000000) {K:Value→World→Prop}
    (h1:∀w',Grow w w'→a__ i n (ay_ s) prf root→K .nilIface w')
    (h2:∀w' v c,Grow w w'→errP c v→¬a__ i n (ay_ s) prf root→gL_ i n c→K v w'):aa_ PR F.dI_ ⟨[.string (str root),.int .i64 i,.int .i64 n,.string (str s),.slice y prf.length cy]⟩ w K:=by
  refine dI_ (str root) i n (str s) y prf.length cy S0 K w ?_
  refine hZ_ hsl λw1 g1=>⟨_,rfl,(Fr.init _ w).after g1,?_⟩
  refine rl_ (hs.grow g1) (λw2 d g2 hd=>⟨_,_,rfl,(Fr.init _ w).after (g1.trans g2),λ_=>⟨λe=>?_,λe=>⟨rfl,?_⟩⟩,(λt x h=>by cases h),.inl rfl⟩) λw2 z c g2 hno hb=>⟨_,_,rfl,(Fr.init _ w).after (g1.trans g2),(λh=>by cases h),λt x h=>h2 w2 _ c (g1.trans g2) (.inl rfl) (hno _) hb,.inr ⟨_,_,rfl⟩⟩
  · have:=str_inj e;subst this
    exact h1 w2 (g1.trans g2) hd
  · refine h2 w2 _ 11 (g1.trans g2) (.inr ⟨rfl,i,rfl⟩) (λh=>e ?_) (.inr ⟨rfl,?_⟩)
    · obtain ⟨j,k,rfl,rfl,_,_,_,_,_,e1⟩:=hd
      obtain ⟨j',k',a1,a2,_,_,_,_,_,e2⟩:=h
      have:j=j':=by omega
      have:k=k':=by omega
      subst_vars
      rfl
    · obtain ⟨j,k,rfl,rfl,a,b,_⟩:=hd
      omega
theorem fx_ (leaves:List (List UInt8)):∀f i a n,be_ leaves f i a n=prfL a1_ leaves f i a n
  | 0,_,_,_=>rfl
  | f+1,i,a,n=>by
    unfold be_ prfL
    rw [fx_ leaves f i a (ah_ n),fx_ leaves f i (a+ah_ n) (n - ah_ n)]
theorem fy_ {leaves:List (List UInt8)} (hl:∀x∈leaves,x.length=32):∀(f i a n:Nat),n≤f→a+n≤leaves.length→∀p∈prfL a1_ leaves f i a n,p.length=32
  | 0,_,_,_,_,_,p,hp=>by simp [prfL] at hp
  | f+1,i,a,n,hn,ha,p,hp=>by
    by_cases h1:n≤1
    · rw [i8_ a1_ leaves h1] at hp;cases hp
    · have hh:=cB_ (n:=n) (by omega)
      by_cases h2:i<a+ah_ n
      · rw [ln_ a1_ leaves (by omega) h2] at hp
        rcases List.mem_append.1 hp with hp | hp
        · exact fy_ hl f i a (ah_ n) (by omega) (by omega) p hp
        · simp at hp;rw [hp]
          exact dt_ gf_ leaves hl _ _ _ (by omega) (Nat.le_refl _) (by omega)
      · rw [lo_ a1_ leaves (by omega) h2] at hp
        rcases List.mem_append.1 hp with hp | hp
        · exact fy_ hl f i (a+ah_ n) (n - ah_ n) (by omega) (by omega) p hp
        · simp at hp;rw [hp]
          exact dt_ gf_ leaves hl _ _ _ (by omega) (Nat.le_refl _) (by omega)
theorem mN_ {list:List (List UInt8)} {i:Nat} (hi:i<list.length) (hn:list.length≤1048576):a__ i list.length (ay_ (list.getD i [])) (be_ (list.map ay_) list.length i 0 list.length) (e1_ Hs list):=by
  have hl:∀x∈list.map ay_,x.length=32:=λx hx=>by obtain ⟨s,_,rfl⟩:=List.mem_map.1 hx;exact dM_ s
  rw [fx_]
  refine ⟨i,list.length,rfl,rfl,hi,hn,?_,dM_ _,fy_ hl _ _ _ _ (Nat.le_refl _) (by simp),?_⟩
  · have:=hc_ a1_ (list.map ay_) list.length i 0 list.length (Nat.zero_le _)
    simpa using this
  · have:=nu_ a1_ (list.map ay_) list.length i 0 list.length (by omega) (Nat.le_refl _) (Nat.zero_le _) (by omega)
    have e:(list.map ay_).getD i []=ay_ (list.getD i []):=by simp [List.getD,hi]
    rw [e] at this
    simp only [Nat.sub_zero] at this
    rw [this]
    unfold e1_
    rw [if_neg (λe=>by rw [e] at hi;cases hi)]
    rfl
end Go.Vc
namespace Go.Vc
open Go Go.MapKept
theorem nV_ {w:World} {s:HS} (h:ax_ w s) {v:HV} (hv:v∈s.vs) {i:Int} (hi:bc_ i) {K:Value→World→Prop}
    (h1:∀w' (n:Int),Grow w w'→0≤n→n<(s.d.sl.length:Int)→(¬h2_ s n∨∃p∈v.ol,p.1=i∧p.2.1=n)→K (.tuple #[.int .i64 n,.bool true]) w')
    (h2:∀w',Grow w w'→(∀n:Nat,n<s.d.sl.length→h2_ s n)→K (.tuple #[.int .i64 0,.bool false]) w'):aa_ PR F.gl_ ⟨[.pointer (some ⟨s.bh,0,none⟩),.pointer (some ⟨v.b,0,none⟩),.int .i64 i]⟩ w K:=by
  have hv0:=h.vs v hv
  have hne:v.b≠s.bh:=re_ hv0.blk h.blk (by decide)
  have h0:Fs (· = s.bh) w [⟨s.bh,hsC s,T.ar_,true⟩,⟨v.b,hvC v,T.aH_,false⟩] w:=((Fr.init _ w).entry hv0.blk (λx h=>by cases h) (λh=>by cases h)).entry h.blk (λx hx=>by simp at hx;subst hx;exact hne) λ_=>rfl
  have gr:∀ {w':World} {L:List Blk} {M:List Nat} {wp:World},Fr (· = s.bh) w wp M (⟨s.bh,hsC s,T.ar_,true⟩ :: L) w'→Grow w w':=λhF=>hF.chg.same h.blk (hF.blk 0 rfl)
  refine h6_ s.bh (some ⟨s.bj,0,none⟩) (some s.m) s.act s.prep s.lv s.li v.b v.man.version v.man.nodes v.man.edges v.q v.man.shards.length v.c v.man.blocks (str v.man.root) (some v.bm) (some v.om) i (· = s.bh) K w h0 ⟨rfl,trivial⟩ ?_
  refine aR_ bI_ hv0.om hi true eh_ (λx hx=>?_) λhno=>⟨_,_,false,rfl,(λh=>by cases h),λ_=>⟨h0,λl1 hl1 w2 hF2=>?_⟩⟩
  · obtain ⟨p,hp,e⟩:=List.mem_map.1 hx
    have e1:p.1=i:=congrArg Prod.fst e
    have e2:x=plV p.2:=(congrArg Prod.snd e).symm
    subst e2
    have hsl:=h.sl v hv p (List.mem_append_right _ hp)
    exact ⟨_,_,true,rfl,λ_=>⟨h0,λl0 hl0 w1 hF1=>h1 w1 p.2.1 (gr hF1) hsl.1 hsl.2 (.inr ⟨p,hp,e1,rfl⟩)⟩,λh=>by cases h⟩
  · have hF2':=hF2.unM hl1
    have g2:Grow w w2:=gr hF2'
    refine nt_ (h.grow g2) λw3 r g3 hr M3=>⟨_,rfl,hF2'.after g3,?_⟩
    have g23:=g2.trans g3
    have h3:=h.grow g23
    refine ad_.2 (ad_.2 (ad_.2 ⟨_,by rw [as_,au_ h3.jr.blk];rfl,kX_ h3.jr.dsk ⟨_,rfl,hF2'.after g3,?_⟩⟩))
    refine ⟨λn lv w'=>∃t:Nat,n=t∧t≤s.d.sl.length∧lv=s.d.sl.length - t∧aM_ w' r (h2_ s)∧∀k:Nat,k<t→h2_ s k,⟨_,0,rfl,by omega,rfl,M3,λk hk=>by omega⟩,?_⟩
    rintro n D lv w5 ⟨t,rfl,ht,rfl,M5,hall⟩ hF5
    have hdl:=h.dl
    refine ⟨λhlt=>M5.look ⟨by omega,by omega⟩ (λhx=>⟨true,rfl,λ_=>⟨hF5,s.d.sl.length - (t+1),by omega,t+1,wr1 (by omega),by omega,rfl,M5,λk hk=>?_⟩,λh=>by cases h⟩) λhx=>⟨false,rfl,(λh=>by cases h),λ_=>⟨hF5,h1 w5 t (gr hF5) (by omega) hlt (.inl hx)⟩⟩,λhge=>h2 w5 (gr hF5) λk hk=>hall k (by omega)⟩
    rcases Nat.lt_or_ge k t with hk' | hk'
    · exact hall k hk'
    · have:k=t:=by omega
      subst this;exact hx
def setV (vs:List HV) (v':HV):List HV:=vs.map λx=>if x.man.version=v'.man.version then v' else x
theorem pF_ {w:World} {s:HS} (h:ax_ w s) {v v':HV} (hv:v∈s.vs) (e1:v'.man=v.man) (e2:v'.b=v.b):(setV s.vs v').map ptV=s.vs.map ptV:=by
  unfold setV
  rw [List.map_map]
  refine List.map_congr_left λx hx=>?_
  show ptV (if x.man.version=v'.man.version then v' else x)=ptV x
  split
  · rename_i e
    have:x=v:=h.uniq hx hv (by rw [e,e1])
    subst this
    unfold ptV;rw [e1,e2]
  · rfl
theorem gH_ {vs:List HV} {v' x:HV} (h:x∈setV vs v'):x=v'∨(x∈vs∧x.man.version≠v'.man.version):=by
  obtain ⟨y,hy,rfl⟩:=List.mem_map.1 h
  split
  · exact .inl rfl
  · rename_i e;exact .inr ⟨hy,e⟩
theorem nY_ {w:World} {s:HS} (h:ax_ w s) {v v':HV} (hv:v∈s.vs) (e0:v'.man=v.man) (e1:v'.bm=v.bm) (e2:v'.om=v.om):(setV s.vs v').flatMap (λv=>[v.bm,v.om])=s.vs.flatMap λv=>[v.bm,v.om]:=by
  have:∀l:List HV,(∀x∈l,x∈s.vs)→(setV l v').flatMap (λv=>[v.bm,v.om])=l.flatMap λv=>[v.bm,v.om]:=by
    intro l
    induction l with
    | nil=>intro _;rfl
    | cons a l ih=>
      intro hl
      have ih:=ih λx hx=>hl x (List.mem_cons_of_mem _ hx)
      unfold setV at ih ⊢
      rw [List.map_cons,List.flatMap_cons,List.flatMap_cons,ih]
      congr 1
      split
      · rename_i e
        have:a=v:=h.uniq (hl a List.mem_cons_self) hv (by rw [e,e0])
        subst this
        rw [e1,e2]
      · rfl
  exact this s.vs λx hx=>hx
theorem ji_ {m:Nat} {vs:List HV} (h:(m :: vs.flatMap λv=>[v.bm,v.om]).Nodup) {v:HV} (hv:v∈vs):m≠v.bm∧m≠v.om∧v.bm≠v.om:=by
  rw [List.nodup_cons] at h
  refine ⟨λe=>h.1 (List.mem_flatMap.2 ⟨v,hv,by rw [e];simp⟩),λe=>h.1 (List.mem_flatMap.2 ⟨v,hv,by rw [e];simp⟩),λe=>?_⟩
  have h2:=h.2
  obtain ⟨l1,l2,rfl⟩:=List.append_of_mem hv
  rw [List.flatMap_append,List.flatMap_cons,List.nodup_append] at h2
  have:=(List.nodup_append.1 h2.2.1).1
  simp [e] at this
theorem pS_ {vs:List HV} (h:(vs.flatMap λv=>[v.bm,v.om]).Nodup) {v x:HV} (hv:v∈vs) (hx:x∈vs) (hne:x≠v):x.bm≠v.bm∧x.bm≠v.om∧x.om≠v.bm∧x.om≠v.om:=by
  induction vs with
  | nil=>cases hv
  | cons a vs ih=>
    rw [List.flatMap_cons,List.nodup_append] at h
    obtain ⟨h1,h2,h3⟩:=h
    have mem:∀ {y:HV},y∈vs→y.bm∈vs.flatMap (λv=>[v.bm,v.om])∧y.om∈vs.flatMap (λv=>[v.bm,v.om]):=λhy=>⟨List.mem_flatMap.2 ⟨_,hy,by simp⟩,List.mem_flatMap.2 ⟨_,hy,by simp⟩⟩
    rcases List.mem_cons.1 hv with rfl | hv' <;> rcases List.mem_cons.1 hx with rfl | hx'
    · exact absurd rfl hne
    · have:=mem hx'
      exact ⟨λe=>h3 v.bm (by simp) x.bm this.1 e.symm,λe=>h3 v.om (by simp) x.bm this.1 e.symm,λe=>h3 v.bm (by simp) x.om this.2 e.symm,λe=>h3 v.om (by simp) x.om this.2 e.symm⟩
    · have:=mem hv'
      exact ⟨λe=>h3 x.bm (by simp) v.bm this.1 e,λe=>h3 x.bm (by simp) v.om this.2 e,λe=>h3 x.om (by simp) v.bm this.1 e,λe=>h3 x.om (by simp) v.om this.2 e⟩
    · exact ih h2 hv' hx'
theorem ax_.upd {w w':World} {s:HS} (h:ax_ w s) {v:HV} (hv:v∈s.vs) (g:Chg (λk=>jfS s.bj s.j k∨k=v.bm∨k=v.om) w w') {j:JP} {recs:List (List UInt8)} {d:DM} (jr:JrnF w' s.bj j recs d) {bl ol:List (Int × Int × List UInt8)} (hb:MapI w' v.bm (blI bl)) (ho:MapI w' v.om (blI ol)) (hi:∀p∈bl,0≤p.1∧p.1<v.man.blocks) (hd:d.sl.length=s.d.sl.length) (hsl:∀p∈bl++ol,0≤p.2.1∧p.2.1<s.d.sl.length) :
    ax_ w' { s with j:=j,recs:=recs,d:=d,vs:=setV s.vs { v with bl:=bl,ol:=ol } }:=by
  have hv0:=h.vs v hv
  have ap:=ji_ h.nd hv
  have hnd:=(List.nodup_cons.1 h.nd).2
  have off:∀ {k:Nat} {cs:Array Value} {t:TypeId} {f:Nat × Nat},w.heap[k]? = some (.cells cs t f)→(t=T.ar_∨t=T.aH_∨t=T.aK_)→¬(jfS s.bj s.j k∨k=v.bm∨k=v.om):=λhb ht e=>by
    rcases e with e | e | e
    · exact h.jr.other hb ht e
    · exact hv0.bm.ne hb e
    · exact hv0.om.ne hb e
  refine ⟨g.get h.blk (off h.blk (.inl rfl)),jr,?_,?_,?_,?_,?_,?_⟩
  · show MapI w' s.m ((setV s.vs _).map ptV)
    rw [pF_ (v':={ v with bl:=bl,ol:=ol }) h hv rfl rfl]
    exact h.mp.keep g λe=>e.elim h.mj λe=>e.elim ap.1 ap.2.1
  · intro x hx
    rcases gH_ hx with rfl | ⟨hx',hne⟩
    · exact ⟨g.get hv0.blk (off hv0.blk (.inr (.inl rfl))),hv0.own.keep g (ak_.off λk ⟨a,ha,e⟩=>by subst e;obtain ⟨cs,hh⟩:=hv0.own.ty ha;exact off hh (.inr (.inr rfl))),hb,ho,hv0.ok,hi⟩
    · have hx0:=h.vs x hx'
      have hxv:x≠v:=λe=>hne (by rw [e])
      have o4:=pS_ hnd hv hx' hxv
      refine hx0.keep g λk hk e=>?_
      rcases hk with rfl | rfl | rfl | ⟨a,ha,rfl⟩
      · exact off hx0.blk (.inr (.inl rfl)) e
      · exact e.elim (h.jr.map hx0.bm) λe=>e.elim o4.1 o4.2.1
      · exact e.elim (h.jr.map hx0.om) λe=>e.elim o4.2.2.1 o4.2.2.2
      · obtain ⟨cs,hh⟩:=hx0.own.ty ha
        exact off hh (.inr (.inr rfl)) e
  · show (s.m :: (setV s.vs _).flatMap λv=>[v.bm,v.om]).Nodup
    rw [nY_ (v':={ v with bl:=bl,ol:=ol }) h hv rfl rfl rfl]
    exact h.nd
  · intro x hx p hp
    show 0≤p.2.1∧p.2.1<d.sl.length
    rw [hd]
    rcases gH_ hx with rfl | ⟨hx',_⟩
    · exact hsl p hp
    · exact h.sl x hx' p hp
  · show (setV s.vs _).length≤3
    rw [setV,List.length_map];exact h.few
  · show d.sl.length≤4096
    rw [hd];exact h.dl
theorem ng_ {w:World} {bj:Nat} {j:JP} {recs:List (List UInt8)} {d:DM} (h:JrnF w bj j recs d) {n:Int} (hn:0≤n∧n<d.sl.length) {t:List UInt8} (hl:(logL recs).length≤1099511627776) (htl:t.length≤1000000) (hw:d.ws.length≤1000000) {K:Value→World→Prop}
    (h1:t.length≤64→∀w' j',JrnF w' bj j' recs (d.put n t)→Chg (jfS bj j) w w'→j'.bd=j.bd→(∀k,jfS bj j' k→jfS bj j k∨w.heap.size≤k)→K .nilIface w')
    (h2:64<t.length→K (.iface T.an_ (.int .i64 6)) w):aa_ PR F.dC_ ⟨[.pointer (some ⟨j.bd,0,none⟩),.int .i64 n,.string (str t)]⟩ w K:=by
  have hbj:=aj_ h.blk
  refine nl_ h.dsk hn (by rw [h.log];omega) hw (λhle w1 q' c' hd1 g1 hq1=>?_) h2
  have hdn:∀k,dfS j.bd { j.p with wq:=q',wc:=c' } k→dfS j.bd j.p k∨w.heap.size≤k:=λk hk=>qI_ hq1 hk
  have elog:(d.put n t).log=d.log:=by
    unfold DM.put DM.now;rw [if_neg (by omega)]
  refine h1 hle w1 ⟨j.bd,{ j.p with wq:=q',wc:=c' },j.q,j.c⟩ ⟨g1.get h.blk h.nb,h.own.keep g1 (ak_.off λk hk e=>h.qd k hk e),h.cap,hd1,by rw [elog];exact h.log,λe=>?_,h.nq,λk hk e=>?_⟩ (g1.mono λk _ e=>.inr (.inl e)) rfl λk hk=>?_
  · rcases hdn bj e with h' | h'
    · exact h.nb h'
    · omega
  · rcases hdn k e with h' | h'
    · exact h.qd k hk h'
    · have:=h.lt k (.inr (.inr hk));omega
  · rcases hk with h' | h' | h'
    · exact .inl (.inl h')
    · exact (hdn k h').imp (λe=>.inr (.inl e)) id
    · exact .inl (.inr (.inr h'))
theorem ll_ (d:DM) (z:List UInt8):(d.put (-1) z).sl=d.sl:=by unfold DM.put DM.now;rw [if_pos rfl]
theorem mc_ {d:DM} {n:Int} (hn:¬n = -1) {z:List UInt8} : (d.put n z).sl=d.sl.set n.toNat z:=by unfold DM.put DM.now;rw [if_neg hn]
noncomputable def HV.putB (v:HV) (i sl:Int) (t:List UInt8):HV:={ v with bl:=v.bl++[(i,sl,ay_ t)],ol:=v.ol.filter λp=>p.1 != i }
noncomputable def HS.putB (s:HS) (j:JP) (v:HV) (i sl:Int) (t:List UInt8):HS:=
  { s with j:=j,recs:=s.recs++[recB v.man.version i (sl,ay_ t)],d:=(s.d.put sl t).put (-1) (fv_ crcN (recB v.man.version i (sl,ay_ t))),vs:=setV s.vs (v.putB i sl t) }
structure qr_ (s:HS):Prop where
  log:(logL s.recs).length≤1000000000
  recs:s.recs.length≤1000000000
  ws:s.d.ws.length≤900000
theorem rf_ {l:List (Int × Int × List UInt8)} {i sl:Int} {x:List UInt8} (h:∀p∈l,p.1≠i):putI (blI l) i (plV (sl,x))=blI (l++[(i,sl,x)]):=by
  rw [gF_ λp hp=>by obtain ⟨q,hq,rfl⟩:=List.mem_map.1 hp;exact h q hq]
  simp [blI]
theorem rg_ {l:List (Int × Int × List UInt8)} {i:Int} : delI (blI l) i=blI (l.filter λp=>p.1 != i):=by
  unfold delI blI
  rw [List.filter_map]
  rfl
theorem pi_ {w:World} {s:HS} (h:ax_ w s) (hr:qr_ s) {n i:Int} (hn:bc_ n) (hi:bc_ i) {t:List UInt8} (htl:t.length≤1000000) {prf:List (List UInt8)} {y:Option Addr} {cy:Nat} (hs:Sl w y (prf.map sv8')) {K:Value→World→Prop}
    (hU:∀w',Grow w w'→(∀v∈s.vs,v.man.version≠n)→K (.iface T.an_ (.int .i64 13)) w')
    (hC:∀w' v c e,v∈s.vs→v.man.version=n→Grow w w'→errP c e→¬a__ i v.man.blocks (ay_ t) prf v.man.root→gL_ i v.man.blocks c→K e w')
    (hI:∀w' v,v∈s.vs→v.man.version=n→Grow w w'→a__ i v.man.blocks (ay_ t) prf v.man.root→(∃p∈v.bl,p.1=i)→K .nilIface w')
    (hF:∀w' v,v∈s.vs→v.man.version=n→Grow w w'→a__ i v.man.blocks (ay_ t) prf v.man.root→(∀p∈v.bl,p.1≠i)→(∀k:Nat,k<s.d.sl.length→h2_ s k)→K (.iface T.an_ (.int .i64 7)) w')
    (hL:∀w' v,v∈s.vs→v.man.version=n→Grow w w'→a__ i v.man.blocks (ay_ t) prf v.man.root→(∀p∈v.bl,p.1≠i)→64<t.length→K (.iface T.an_ (.int .i64 6)) w')
    (hK:∀w' v j sl,v∈s.vs→v.man.version=n→a__ i v.man.blocks (ay_ t) prf v.man.root→(∀p∈v.bl,p.1≠i)→t.length≤64→(¬h2_ s sl∨∃p∈v.ol,p.1=i∧p.2.1=sl)→ax_ w' (s.putB j v i sl t)→Chg (hS s) w w'→(∀k,hS (s.putB j v i sl t) k→hS s k∨w.heap.size≤k)→K .nilIface w') :
    aa_ PR F.hi_ ⟨[.pointer (some ⟨s.bh,0,none⟩),.int .i64 n,.int .i64 i,.string (str t),.slice y prf.length cy]⟩ w K:=by
  have h0:=h.fs
  have hbl:=aj_ h.blk
  have gr:∀ {w':World} {L:List Blk} {M:List Nat} {wp w1:World},Grow w w1→Fr (hS s) w w1 [] L w'→Grow w w':=λg hF=>g.trans hF.grow
  refine js_ s.bh (some ⟨s.bj,0,none⟩) (some s.m) s.act s.prep s.lv s.li n i (str t) y prf.length cy (hS s) K w h0 ⟨.inl rfl,trivial⟩ ?_
  refine d2_ h hn (λv hv hvn=>⟨_,_,rfl,h0,λ_ w1 hF1=>?_,(λt x h=>by cases h),.inl rfl⟩) λhno=>⟨_,_,rfl,h0,(λh=>by cases h),(λt x _=>hU w (.refl _ _) hno),.inr ⟨_,_,rfl⟩⟩
  have hv0:=h.vs v hv
  have g1:Grow w w1:=hF1.grow
  have hvb:∀ {w':World},Grow w w'→w'.heap[v.b]? = some (.cells (hvC v) T.aH_ (0,0)):=λg=>Grow.get g hv0.blk
  refine ⟨λw'=>w'.heap[v.b]? = some (.cells (hvC v) T.aH_ (0,0)),hvb g1,ad_.2 (ad_.2 (ad_.2 (ad_.2 ⟨_,λw' hb=>c2_ hb (k:=5) rfl,ad_.2 (ad_.2 (ad_.2 (ad_.2 ⟨_,λw' hb=>c2_ hb (k:=4) rfl,?_⟩)))⟩)))⟩
  refine lZ_ (hs.grow g1) htl (λw4 g4 hok=>?_) λw4 e c g4 he hnok hbad=>⟨_,rfl,hF1.after g4,hvb (g1.trans g4),(λh=>by obtain ⟨t,x,rfl⟩:=he.err;cases h),(λt x _=>hC w4 v c e hv hvn (g1.trans g4) he hnok hbad),.inr (by obtain ⟨t,x,h⟩:=he.err;exact ⟨t,x,h⟩)⟩
  have g14:=g1.trans g4
  refine ⟨_,rfl,hF1.after g4,hvb g14,λ_=>ad_.2 (ad_.2 (ad_.2 ⟨_,cp_ (hvb g14) (k:=6) rfl,?_⟩)),(λt x h=>by cases h),.inl rfl⟩
  have hF4:=hF1.after g4
  refine aR_ bI_ (hv0.bm.grow g14) hi true eh_ (λx hx=>?_) λhno=>⟨_,_,false,rfl,(λh=>by cases h),λ_=>⟨hF4,λl1 hl1 w7 hF7=>?_⟩⟩
  · obtain ⟨p,hp,e⟩:=List.mem_map.1 hx
    have e2:x=plV p.2:=(congrArg Prod.snd e).symm
    subst e2
    exact ⟨_,_,true,rfl,λ_=>⟨hF4,λl0 hl0 w6 hF6=>hI w6 v hv hvn (g14.trans (hF6.unM hl0).grow) hok ⟨p,hp,congrArg Prod.fst e⟩⟩,λh=>by cases h⟩
  have hnew:∀p∈v.bl,p.1≠i:=λp hp e=>hno (p.1,plV p.2) (List.mem_map.2 ⟨p,hp,rfl⟩) e
  have hF7':=hF7.unM hl1
  have g7:Grow w w7:=g14.trans hF7'.grow
  have h7:=h.grow g7
  refine nV_ h7 hv hi (λw8 sl g8 hsl0 hsl1 hslu=>⟨_,true,rfl,λ_=>⟨hF7'.after g8,?_⟩,λh=>by cases h⟩) λw8 g8 hall=>⟨_,false,rfl,(λh=>by cases h),λ_=>⟨hF7'.after g8,hF w8 v hv hvn (g7.trans g8) hok hnew hall⟩⟩
  have g78:=g7.trans g8
  have hF8:=hF7'.after g8
  refine hZ_ htl λw9 g9=>⟨_,rfl,hF8.after g9,λl2 hl2=>ad_.2 (ad_.2 λw10 hF10=>?_)⟩
  have hF10':=hF10.unM hl2
  have g10:Grow w w10:=(g78.trans g9).trans hF10'.grow
  have h10:=h.grow g10
  have hl2w:w.heap.size≤l2:=Nat.le_trans (g78.trans g9).size hl2
  obtain ⟨hr1,hr2,hr3⟩:=hr
  have hdl:=h.dl
  refine ad_.2 ⟨_,by rw [as_,au_ h10.jr.blk];rfl,?_⟩
  refine ng_ h10.jr ⟨hsl0,hsl1⟩ (by omega) htl (by omega) (λhle w11 j1 hj1 c11 hbd1 hst1=>?_) λhgt=>⟨_,rfl,hF10'.reset,(λh=>by cases h),(λt x _=>hL w10 v hv hvn g10 hok hnew hgt),.inr ⟨_,_,rfl⟩⟩
  have offL:∀ {w':World} {S':Nat→Prop} {a:Nat} {cs:Array Value},(∀k,S' k→jfS s.bj s.j k∨w.heap.size≤k∧k<w'.heap.size)→True:=λ_=>trivial
  have hl2n:¬jfS s.bj s.j l2:=λe=>by have:=h.jr.lt l2 e;omega
  have hF11:=hF10'.step c11 (λx hx=>by
    simp only [List.mem_cons,List.not_mem_nil,or_false] at hx
    rcases hx with rfl | rfl
    · exact h.bhj
    · exact hl2n) λk _ e=>.inr (.inl e)
  have sz11:=c11.size
  refine ⟨_,rfl,hF11,λ_ w12 hF12=>⟨λ_=>True,trivial,?_⟩,(λt x h=>by cases h),.inl rfl⟩
  have g12:Grow w11 w12:=hF12.grow
  have hver:=hv0.ok.version
  have hblk:=hv0.ok.blocks.2
  have hib:0≤i∧i<v.man.blocks:=by
    obtain ⟨a,b,e1,e2,e3,_⟩:=hok
    omega
  refine gz_ (x:=(sl,ay_ t)) ⟨by omega,by omega⟩ ⟨by omega,by omega⟩ ⟨by show 0≤sl;omega,by show sl≤_;omega⟩ (by rw [dM_];omega) λw13 g13=>⟨_,rfl,hF12.after g13,trivial,λl3 hl3 w14 hF14=>⟨trivial,?_⟩⟩
  have g14':Grow w11 w14:=(g12.trans g13).trans hF14.grow
  have hj14:=hj1.grow g14'
  have hrl:(recB n i (sl,ay_ t)).length≤1+24+1008:=mb_ ⟨by omega,by omega⟩ ⟨by omega,by omega⟩ ⟨by show 0≤sl;omega,by show sl≤_;omega⟩ (by rw [dM_];omega)
  have sz12:=g12.size
  have sz13:=g13.size
  have sz10:=g10.size
  have hl3n:¬jfS s.bj j1 l3:=λe=>by
    have:=hj1.lt l3 e;omega
  have hl2n1:¬jfS s.bj j1 l2:=λe=>by
    have hl2':=hF10'.lt ⟨l2,#[.int .i64 sl,.string (str (ay_ t))],T.a2_,true⟩ (by simp)
    simp only [] at hl2'
    rcases hst1 l2 e with e | e
    · exact hl2n e
    · omega
  have hws1:(s.d.put sl t).ws.length=s.d.ws.length+1:=by
    unfold DM.put DM.now;split <;> simp
  refine iP_ (s:=recB n i (sl,ay_ t)) hj14 (hF14.sl 2 rfl) (λa ha=>by cases ha;exact hl3n) (by omega) (by omega) (by omega) (by omega) λw15 j2 hj2 c15 hbd2 hst2=>?_
  have hbh1:¬jfS s.bj j1 s.bh:=λe=>(hst1 _ e).elim h.bhj λe=>by omega
  have cov1:∀k,k<w.heap.size→jfS s.bj j1 k→jfS s.bj s.j k:=λk hk e=>(hst1 k e).elim id λe=>by omega
  have hF15:=hF14.step c15 (λx hx=>by
    simp only [List.mem_cons,List.not_mem_nil,or_false] at hx
    rcases hx with rfl | rfl | rfl
    · exact hbh1
    · exact hl2n1
    · exact hl3n) λk hk e=>.inr (.inl (cov1 k hk e))
  refine ⟨_,rfl,_,hF15,trivial,λ_ w16 hF16=>?_,(λt x h=>by cases h),.inl rfl⟩
  have c0_15:Chg (jfS s.bj s.j) w w15:=((g10.chg.trans c11 λ_ _ e=>e).grow g14').trans c15 cov1
  have c16:Chg (jfS s.bj s.j) w w16:=c0_15.grow hF16.grow
  have hvj:∀ {k:Nat} {cs:Array Value} {t:TypeId} {f:Nat × Nat},w.heap[k]? = some (.cells cs t f)→(t=T.ar_∨t=T.aH_∨t=T.aK_)→¬jfS s.bj s.j k:=λhb ht=>h.jr.other hb ht
  have hb16:w16.heap[v.b]? = some (.cells (hvC v) T.aH_ (0,0)):=c16.get hv0.blk (hvj hv0.blk (.inr (.inl rfl)))
  have bm16:=hv0.bm.keep c16 (h.jr.map hv0.bm)
  have om16:=hv0.om.keep c16 (h.jr.map hv0.om)
  have ap:=ji_ h.nd hv
  have hj16:=hj2.grow hF16.grow
  refine ⟨λw'=>w'.heap[v.b]? = some (.cells (hvC v) T.aH_ (0,0)),hb16,ad_.2 (ad_.2 (ad_.2 ⟨_,λw' hb=>cp_ hb (k:=6) rfl,?_⟩))⟩
  refine cT_ bI_ bm16 hi λw18 bm18 c18 s18=>?_
  have bmL:∀ {x:Blk},x∈([⟨s.bh,hsC s,T.ar_,true⟩,⟨l2,#[.int .i64 sl,.string (str (ay_ t))],T.a2_,true⟩]:List Blk)→¬x.b=v.bm:=λ{x} hx=>by
    have:=hv0.bm.lt
    simp only [List.mem_cons,List.not_mem_nil,or_false] at hx
    rcases hx with rfl | rfl
    · exact λe=>hv0.bm.ne h.blk e
    · show ¬l2=v.bm;omega
  have omL:∀ {x:Blk},x∈([⟨s.bh,hsC s,T.ar_,true⟩]:List Blk)→¬x.b=v.om:=λ{x} hx=>by
    simp only [List.mem_cons,List.not_mem_nil,or_false] at hx
    subst hx
    exact λe=>hv0.om.ne h.blk e
  have hF18:=hF16.step c18 (λx hx=>bmL hx) (λk hk e=>.inr (.inr (.inr ⟨v,hv,.inl e⟩)))
  have hb18:w18.heap[v.b]? = some (.cells (hvC v) T.aH_ (0,0)):=c18.get hb16 (λe=>hv0.bm.ne hv0.blk e)
  have om18:=om16.keep c18 (λe=>ap.2.2 e.symm)
  have hj18:=hj16.keep c18 λk hk e=>by
    have e':k=v.bm:=e
    subst e'
    exact hj16.map bm16 hk
  refine ⟨hF18,ad_.2 (ad_.2 (ad_.2 ⟨_,cp_ hb18 (k:=7) rfl,?_⟩))⟩
  refine d4_ bI_ om18 hi λw19 om19 c19 s19=>⟨rfl,(hF18.sub (L':=[⟨s.bh,hsC s,T.ar_,true⟩]) ((List.nil_sublist _).cons_cons _)).step c19 (λx hx=>omL hx) (λk hk e=>.inr (.inr (.inr ⟨v,hv,.inr e⟩))),?_⟩
  have bm19:=bm18.keep c19 (λe=>ap.2.2 e)
  have hj19:=hj18.keep c19 λk hk e=>by
    have e':k=v.om:=e
    subst e'
    exact hj18.map om18 hk
  have c19':Chg (λk=>jfS s.bj s.j k∨k=v.bm∨k=v.om) w w19:=(((c16.mono λk _ e=>.inl e).trans c18 λk _ e=>.inr (.inl e)).trans c19 λk _ e=>.inr (.inr e))
  have bm19:MapI w19 v.bm (putI (blI v.bl) i (plV (sl,ay_ t))):=bm19
  rw [rf_ hnew] at bm19
  rw [rg_] at om19
  subst hvn
  have hlen2:((s.d.put sl t).put (-1) (fv_ crcN (recB v.man.version i (sl,ay_ t)))).sl.length=s.d.sl.length:=by
    rw [ll_,mc_ (by omega),List.length_set]
  have hfin:=h.upd hv c19' hj19 bm19 om19 (λp hp=>by
    rcases List.mem_append.1 hp with hp | hp
    · exact hv0.inB p hp
    · simp at hp;subst hp;exact hib) hlen2 (λp hp=>by
    rcases List.mem_append.1 hp with hp | hp
    · rcases List.mem_append.1 hp with hp | hp
      · exact h.sl v hv p (List.mem_append_left _ hp)
      · simp at hp;subst hp;exact ⟨hsl0,hsl1⟩
    · exact h.sl v hv p (List.mem_append_right _ (List.mem_filter.1 hp).1))
  refine hK w19 v j2 sl hv rfl hok hnew hle hslu hfin (c19'.mono λk _ e=>?_) λk hk=>?_
  · rcases e with e | rfl | rfl
    · exact .inr (.inl e)
    · exact .inr (.inr (.inr ⟨v,hv,.inl rfl⟩))
    · exact .inr (.inr (.inr ⟨v,hv,.inr rfl⟩))
  · rcases hk with hk | hk | hk | ⟨x,hx,hk⟩
    · exact .inl (.inl hk)
    · rcases hst2 k hk with hk | hk
      · rcases hst1 k hk with hk | hk
        · exact .inl (.inr (.inl hk))
        · exact .inr (by omega)
      · exact .inr (by have:=g14'.size;omega)
    · exact .inl (.inr (.inr (.inl hk)))
    · rcases gH_ hx with rfl | ⟨hx',_⟩
      · exact .inl (.inr (.inr (.inr ⟨v,hv,hk⟩)))
      · exact .inl (.inr (.inr (.inr ⟨x,hx',hk⟩)))
end Go.Vc
namespace Go.Vc
open Go Go.RowKit Go.Maps Go.Sort Go.Shelf Go.Proofs Go.MapKept
open Go.WideElems (Fit rd rg rd_mk)
theorem ca_ {w w':World} (h:Below w.heap.size w w'):Grow w w':=⟨h.os,h.tape,h.output,h.size,λk hk _=>h.block k hk⟩
theorem nT_ (m:Nat):AnyZI.SortsIn Tryz.prog Tryz.sortedA_ren Fence.wide m:=
  ⟨λblk off cap ss W hH hblk hsz=>callsIn_wide.2 (AnyM.slices_Sort_int Tryz.sortA blk off cap ss W hH hblk hsz),
   λp cap W=>callsIn_wide.2 (AnyM.slices_Sort_int_none Tryz.sortA p cap W)⟩
end Go.Vc
namespace Go.Vc
open Go Go.RowKit Go.Maps Go.Sort Go.Shelf Go.Proofs Go.MapKept
open Go.WideElems (Fit rd rg rd_mk)
theorem kw_ {H:Type} {a:Lit × DataW H} : ∀l:List (Lit × DataW H),(DataW.insert a l).Perm (a :: l)
  | []=>by simp [DataW.insert]
  | y :: r=>by
    unfold DataW.insert
    split
    · exact .refl _
    · exact ((kw_ r).cons y).trans (.swap _ _ _)
theorem dh_ {H:Type} : ∀l:List (Lit × DataW H),(l.foldr DataW.insert []).Perm l
  | []=>.refl _
  | a :: l=>(kw_ _).trans ((dh_ l).cons a)
theorem fq_ {ss:List Int} (hn:ss.Nodup):(ss.mergeSort λx y=>decide (x≤y)).Pairwise (· < ·):=by
  have tr:∀a b c:Int,decide (a≤b)=true→decide (b≤c)=true→decide (a≤c)=true:=λa b c h1 h2=>by simp only [decide_eq_true_eq] at *;exact Int.le_trans h1 h2
  have to:∀a b:Int,(decide (a≤b) || decide (b≤a))=true:=λa b=>by simp only [Bool.or_eq_true,decide_eq_true_eq];exact Int.le_total a b
  have h1:=List.pairwise_mergeSort (le:=λx y=>decide (x≤y)) tr to ss
  have h2:(ss.mergeSort λx y=>decide (x≤y)).Nodup:=(List.mergeSort_perm ss _).nodup_iff.2 hn
  rw [List.nodup_iff_pairwise_ne] at h2
  refine (h1.and h2).imp λ⟨h,hne⟩=>?_
  simp only [decide_eq_true_eq] at h
  exact Int.lt_iff_le_and_ne.2 ⟨h,hne⟩
theorem nd_ {w:World} {mb:Option Nat} {K:Value→World→Prop} (hK:∀w' b,Grow w w'→b<w'.heap.size→w'.cell? ⟨b,0,none⟩=some (.map mb)→K (.func (.func 127) #[] #[.pointer (some ⟨b,0,none⟩)]) w'):aa_ PR 81 #[.map mb] w K:=by
  have cK:CallsIn Fence.wide 5 Tryz.prog 81 #[.map mb] w λe w'=>e=.returned (.func (.func 127) #[] #[.pointer (some ⟨w.heap.size,0,none⟩)])∧w'=w.alloc (.cells #[.map mb] 100):=AnyZI.keys_in Tryz.keysH Fence.wide 5 trivial rfl mb w
  refine bg_ ((callsIn_wide (n:=5)).1 cK) λe w' ⟨he,hw⟩=>⟨_,he,?_⟩
  subst hw
  exact hK _ _ (Chg.alloc w _) (by simp) (by simp)
theorem kR_ {w:World} {b m:Nat} {l:List (Int × Value)} (hB:w.cell? ⟨b,0,none⟩=some (.map (some m))) (hbl:b<w.heap.size) (hM:MapI w m l) (hsz:l.length≤1000000) {K:Value→World→Prop}
    (hK:∀w' q c (L:List Int),Grow w w'→L.length=l.length→Sl w' q (L.map Iv)→(∀i,i∈L↔i∈l.map (·.1))→L.Pairwise (· < ·)→K (.slice q l.length c) w'):aa_ PR 38 #[.func (.func 127) #[] #[.pointer (some ⟨b,0,none⟩)]] w K:=by
  obtain ⟨es,clock,hm,hst,hes,hl1,hin⟩:=hM.ex
  have hk:∀x∈es.toList,∃l,keyOf PR T.int x.key=some l:=λx hx=>by
    obtain ⟨p,hp,e,_⟩:=hl1 x hx
    exact ⟨_,by rw [e];exact cS_ (hM.fit p hp).1 (hM.fit p hp).2⟩
  have hsz':es.size≤1000000:=by omega
  let R0:Value→Option (DataW Unit × List MemPlace):=λ_=>some (.nil,[])
  have F0:Fit PR T.int R0 es clock:=⟨Nat.le_trans hsz' (by decide),hst,λx hx=>by
    obtain ⟨l,hl⟩:=hk x hx
    exact ⟨_,rd_mk (born:=x.born) hl rfl⟩⟩
  have hown:w.ownsMap PR T.int R0 m es.size _:=World.ownsMap_of_fit hm F0 (λ_ _ _ h=>h)
  have hlen:=length_read (P:=PR) (k:=T.int) (R0:=R0) es
  have hsize:Maps.size (.map ((es.toList.map (rg PR T.int R0)).foldr DataW.insert []))=es.size:=hlen
  have hseq:SeqGives Fence.wide 2 Tryz.prog 127 #[.pointer (some ⟨b,0,none⟩)] encZ (λss=>ss.Perm (intKeys (.map ((es.toList.map (rg PR T.int R0)).foldr DataW.insert [])))) (Maps.size (.map ((es.toList.map (rg PR T.int R0)).foldr DataW.insert []))) w:=
    AnyZI.keys_gives (ρ:=Tryz.keysH_ren) { Tryz.keysH with } Fence.wide _ trivial rfl (by omega) b m es.size _ w hbl hB hown
  have cS:=AnyZI.sorted_in Tryz.sortedA Fence.wide 5 trivial trivial trivial trivial rfl (by omega) (nT_ _) (enters_of Tryz.func83 (by kernel_rfl) rfl) 127 #[.pointer (some ⟨b,0,none⟩)] trivial (enters_of Tryz.func127 (by kernel_rfl) rfl) _ _ (by rw [hsize];exact Nat.le_trans hsz' (by decide)) (by rw [hsize];omega) _ hseq
  change CallsIn _ _ Tryz.prog 38 _ _ _ at cS
  refine bg_ ((callsIn_wide (n:=5)).1 cS) λe w' ⟨v,ss,he,hS,hrow,hnil,hb⟩=>⟨v,he,?_⟩
  have hkey:∀y∈es.toList,∃p∈l,y.key=.int .i64 p.1∧intOf (rg PR T.int R0 y).1=p.1:=λy hy=>by
    obtain ⟨p,hp,e,_⟩:=hl1 y hy
    refine ⟨p,hp,e,?_⟩
    have hkl:keyOf PR T.int y.key=some (.int .i64 p.1):=by rw [e];exact cS_ (hM.fit p hp).1 (hM.fit p hp).2
    have e3:rg PR T.int R0 y=(.int .i64 p.1,.nil):=by
      unfold WideElems.rg WideElems.rd
      rw [hkl];rfl
    rw [e3];rfl
  have hperm:ss.Perm (es.toList.map λy=>intOf (rg PR T.int R0 y).1):=by
    refine hS.trans ?_
    show (List.map (λp:Lit × DataW Unit=>intOf p.1) _).Perm _
    refine ((dh_ _).map _).trans ?_
    rw [List.map_map]
    exact .refl _
  have hnd:ss.Nodup:=by
    refine hperm.nodup_iff.2 ?_
    have:=hst.2.2
    rw [List.nodup_iff_pairwise_ne,List.pairwise_map] at *
    refine this.imp_of_mem λ{y z} hy hz hne e=>hne ?_
    obtain ⟨p,_,e1,e2⟩:=hkey y hy
    obtain ⟨p',_,e3,e4⟩:=hkey z hz
    rw [e1,e3,← e2,← e4,e]
  have hl:ss.length=es.size:=by
    rw [hperm.length_eq,List.length_map,Array.length_toList]
  have hl2:(ss.mergeSort λx y=>decide (x≤y)).length=l.length:=by rw [List.length_mergeSort,hl,hes]
  have hmem:∀i,i∈(ss.mergeSort λx y=>decide (x≤y))↔i∈l.map (·.1):=λi=>by
    rw [(List.mergeSort_perm ss _).mem_iff,hperm.mem_iff,List.mem_map,List.mem_map]
    constructor
    · rintro ⟨y,hy,rfl⟩
      obtain ⟨p,hp,_,e⟩:=hkey y hy
      exact ⟨p,hp,e.symm⟩
    · rintro ⟨p,hp,rfl⟩
      obtain ⟨y,hy,e,_⟩:=hin p hp
      obtain ⟨p',_,e1,e2⟩:=hkey y hy
      exact ⟨y,hy,by rw [e2,← int_inj (e1.symm.trans e)]⟩
  obtain ⟨hrl,hrow⟩:=hrow
  rcases hrow with ⟨rfl,hz⟩ | ⟨gb,cap,cur,rfl,_,hheap,_,_,_,htake⟩
  · have:=hK w' none 0 _ (ca_ hb) hl2 (.inl (by
      have:ss=[]:=List.eq_nil_of_length_eq_zero hz
      subst this;simp)) hmem (fq_ hnd)
    have hl0:l.length=0:=by omega
    rw [hl0] at this
    exact this
  · rw [hl,hes]
    refine hK w' _ _ _ (ca_ hb) hl2 (.inr ⟨gb,0,rfl,cur,_,_,hheap,λi hi=>?_⟩) hmem (fq_ hnd)
    have e:((ss.mergeSort λx y=>decide (x≤y)).map Iv)=cur.toList.take (ss.length*1):=htake.symm
    rw [e] at hi ⊢
    rw [List.length_take] at hi
    rw [Nat.zero_add,List.getElem?_take_of_lt (by omega),Array.getElem?_toList]
end Go.Vc
namespace Go.Vc
open Go
theorem de_ (m0:Int) (m1:Int) (m2:Int) (y3:Option Addr) (ly3:Nat) (cy3:Nat) (m4:Int) (z5:ByteArray) (S:SP) (K:KP) (w:World) (h:∀l0,w.heap.size≤l0→∀l1,w.heap.size≤l1→∀w0,Fr S w w [] [⟨l0,#[Iv m0,Iv m1,Iv m2,.slice y3 ly3 cy3,Iv m4,.string z5],36,true⟩,⟨l1,#[Iv 0,Iv 0,Iv 0,.slice none 0 0,Iv 0,.string ⟨#[]⟩],36,true⟩] w0→aa_ PR 134 #[.slice y3 ly3 cy3] w0 λv0 w1=>∃q0 l2 l3,v0=.slice q0 l2 l3∧Fs S w [⟨l0,#[Iv m0,Iv m1,Iv m2,.slice y3 ly3 cy3,Iv m4,.string z5],36,true⟩,⟨l1,#[Iv 0,Iv 0,Iv 0,.slice none 0 0,Iv 0,.string ⟨#[]⟩],36,true⟩] w1∧∀w2,Fr S w w1 [l1,l0] [] w2→K (.agg #[Iv m0,Iv m1,Iv m2,.slice q0 l2 l3,Iv m4,.string z5]) w2):aa_ PR 92 ⟨[.agg #[.int .i64 m0,.int .i64 m1,.int .i64 m2,.slice y3 ly3 cy3,.int .i64 m4,.string z5]]⟩ w K:=
  ab_ (okf:=⟨okL,[]⟩) ag_ (args:=[.a [.v (.int .i64 m0),.v (.int .i64 m1),.v (.int .i64 m2),.v (.slice y3 ly3 cy3),.v (.int .i64 m4),.v (.string z5)]]) (H:=[]) (.s (.r ⟨(some []),false,[],[]⟩) (.s (.r ⟨(some [1,2]),false,[],[]⟩) (.s (.r ⟨(some [1,2]),false,[],[]⟩) .z))) Go.Proofs.Tryz.func92 rfl ⟨⟨trivial,trivial,trivial,trivial,trivial,trivial,trivial⟩,trivial⟩ trivial (Fr.init S w) trivial (ac_ (by kernel_rfl) h)
theorem lM_ (y0:Option Addr) (ly0:Nat) (cy0:Nat) (S:SP) (K:KP) (w:World) (h:(y0=none→K (.slice none 0 0) w)∧∀a0:Addr,y0=some a0→∀l0,w.heap.size≤l0→∀w0,Fr S w w [] [⟨l0,#[],165,true⟩] w0→rn PR (Builtin.append_ #[34,34] 34 #[.slice (some (⟨l0,0,none⟩)) 0 0,.slice y0 ly0 cy0]) (λv0 w1=>∃q0 l1 l2,v0=.slice q0 l1 l2∧Fs S w [⟨l0,#[],165,true⟩] w1∧K (.slice q0 l1 l2) w1) w0):aa_ PR 134 ⟨[.slice y0 ly0 cy0]⟩ w K:=
  ab_ (okf:=⟨okL,[]⟩) ag_ (args:=[.c (.v (.slice y0 ly0 cy0))]) (H:=[]) (.s .z (.s .z (.s (.r ⟨(some []),false,[],[]⟩) .z))) Go.Proofs.Tryz.func134 rfl ⟨trivial,trivial⟩ trivial (Fr.init S w) trivial (ac_ (by kernel_rfl) h)
end Go.Vc
namespace Go.Vc
open Go Go.MapKept
theorem qk_ {q:Option Addr} {c:Nat} {l:List (Int × Int)} {w:World} (hs:Sl w q (encE l)) (hn:l.length≤1000000) {K:Value→World→Prop}
    (hK:∀w' q' c',Grow w w'→Own T.aK_ 2 w' q' c' (encE l)→(∀a,q'=some a→w.heap.size≤a.block)→K (.slice q' l.length c') w'):aa_ PR F.bi_ ⟨[.slice q l.length c]⟩ w K:=by
  refine lM_ q l.length c S0 K w ⟨λh=>?_,λa ha b hb w0 h0=>?_⟩
  · have:l=[]:=by
      rcases hs with hs | ⟨b,o,h',_⟩
      · cases l with
        | nil=>rfl
        | cons e l=>cases hs
      · rw [h] at h';cases h'
    subst this
    exact hK w none 0 (.refl _ _) (.nil _ _ _) λa ha=>by cases ha
  · have hb0:=h0.blk 0 rfl
    have ho:Own T.aK_ 2 w0 (some ⟨b,0,none⟩) 0 []:=.inr ⟨b,0,#[],rfl,hb0,rfl,by decide,by simp,λi hi=>by simp at hi⟩
    refine app0 (k:=2) l3_ j0_ rfl (by decide) (by decide) ho (hs.grow h0.grow) (by rw [aE_]) (λy hy=>?_) (by omega) λq' c' w' ho hc g hq=>⟨_,_,_,rfl,h0.after g,hK w' q' c' (h0.grow.trans g) ho λa ha=>?_⟩
    · obtain ⟨e,_,he⟩:=List.mem_flatMap.1 hy
      simp only [List.mem_cons,List.not_mem_nil,or_false] at he
      rcases he with rfl | rfl <;> rfl
    · rcases hq a ha with e | e
      · cases e;exact hb
      · have:=h0.grow.size;omega
theorem c6_ {m:Man} (hm:m.shards.length≤64) {q:Option Addr} {c:Nat} {w:World} (hs:Sl w q (encE m.shards)) {K:Value→World→Prop}
    (hK:∀w' q' c',Grow w w'→Own T.aK_ 2 w' q' c' (encE m.shards)→(∀a,q'=some a→w.heap.size≤a.block)→K (mval m q' c') w'):aa_ PR F.de_ ⟨[mval m q c]⟩ w K:=by
  refine de_ m.version m.nodes m.edges q m.shards.length c m.blocks (str m.root) S0 K w λa1 ha1 a2 ha2 w3 hF3=>?_
  have g3:Grow w w3:=hF3.grow
  have hl1:=hF3.lt
  refine qk_ (hs.grow g3) (by omega) λw4 q' c' g4 ho hq=>⟨_,_,_,rfl,hF3.after g4,λw5 hF5=>?_⟩
  have g5:Grow w w5:=hF5.gr
  have sz3:=g3.size
  refine hK w5 q' c' g5 (ho.keep hF5.stp λa ha e=>?_) λa ha=>Nat.le_trans sz3 (hq a ha)
  have h2:=hq a ha
  simp only [List.mem_cons,List.not_mem_nil,or_false] at e
  have h3:a1<w3.heap.size∧a2<w3.heap.size:=⟨by have:=hl1 _ (by first | exact List.mem_cons_self | exact List.mem_cons_of_mem _ List.mem_cons_self);simp only [] at this;exact this,by have:=hl1 _ (List.mem_cons_of_mem _ List.mem_cons_self);simp only [] at this;exact this⟩
  omega
def HS.addV (s:HS) (v:HV):HS:={ s with vs:=s.vs++[v] }
theorem ax_.addV {w w':World} {s:HS} (h:ax_ w s) (g:Chg (· = s.m) w w') {v:HV} (hv:HVAt w' v) (hno:∀x∈s.vs,x.man.version≠v.man.version) (hm:MapI w' s.m (putI (s.vs.map ptV) v.man.version (.pointer (some ⟨v.b,0,none⟩)))) (hf:∀k,vS v k→w.heap.size≤k) (hbo:v.bm≠v.om) (hb:v.bl=[]) (ho:v.ol=[]) (few:s.vs.length<3):ax_ w' (s.addV v):=by
  have off:∀ {k:Nat} {cs:Array Value} {t:TypeId} {f:Nat × Nat},w.heap[k]? = some (.cells cs t f)→¬k=s.m:=λhb e=>h.mp.ne hb e
  have hb0:=hf v.bm (.inr (.inl rfl))
  have ho0:=hf v.om (.inr (.inr (.inl rfl)))
  have hml:=h.mp.lt
  refine ⟨g.get h.blk (off h.blk),h.jr.keep g λk hk e=>?_,?_,λx hx=>?_,?_,λx hx p hp=>?_,by simp [HS.addV];omega,h.dl⟩
  · have e':k=s.m:=e
    subst e';exact h.mj hk
  · show MapI w' s.m ((s.vs++[v]).map ptV)
    rw [List.map_append]
    rw [gF_ λp hp=>by obtain ⟨x,hx,rfl⟩:=List.mem_map.1 hp;exact hno x hx] at hm
    exact hm
  · rcases List.mem_append.1 hx with hx | hx
    · have ap:=ji_ h.nd hx
      refine (h.vs x hx).keep g λk hk e=>?_
      have e':k=s.m:=e
      rcases hk with rfl | rfl | rfl | ⟨a,ha,rfl⟩
      · exact off (h.vs x hx).blk e'
      · exact ap.1 e'.symm
      · exact ap.2.1 e'.symm
      · obtain ⟨cs,hh⟩:=(h.vs x hx).own.ty ha
        exact off hh e'
    · simp at hx;subst hx;exact hv
  · show (s.m :: (s.vs++[v]).flatMap λv=>[v.bm,v.om]).Nodup
    rw [List.flatMap_append]
    show (([s.m]++s.vs.flatMap λv=>[v.bm,v.om])++[v].flatMap λv=>[v.bm,v.om]).Nodup
    rw [List.nodup_append]
    refine ⟨h.nd,by simp [hbo],λa ha b hb e=>?_⟩
    have hal:a<w.heap.size:=by
      rcases List.mem_append.1 ha with ha | ha
      · simp at ha;omega
      · obtain ⟨x,hx,hx2⟩:=List.mem_flatMap.1 ha
        simp at hx2
        rcases hx2 with rfl | rfl
        · exact (h.vs x hx).bm.lt
        · exact (h.vs x hx).om.lt
    simp at hb
    rcases hb with rfl | rfl <;> omega
  · rcases List.mem_append.1 hx with hx | hx
    · exact h.sl x hx p hp
    · simp at hx;subst hx
      rw [hb,ho] at hp;cases hp
theorem qn_ {w:World} {s:HS} (h:ax_ w s) {m:Man} (hm:m.ok) {q:Option Addr} {c:Nat} (hs:Sl w q (encE m.shards)) (hno:∀x∈s.vs,x.man.version≠m.version) (few:s.vs.length<3) {K:Value→World→Prop}
    (hK:∀w' v,ax_ w' (s.addV v)→v.man=m→v.bl=[]→v.ol=[]→Chg (· = s.m) w w'→(∀k,vS v k→w.heap.size≤k)→K (.tuple #[]) w'):aa_ PR F.hh_ ⟨[.pointer (some ⟨s.bh,0,none⟩),mval m q c]⟩ w K:=by
  have h0:=h.fs
  have hver:=hm.version
  have hsl:=hm.shards.1
  have hfit:bc_ m.version:=⟨by omega,by omega⟩
  refine p4_ s.bh (some ⟨s.bj,0,none⟩) (some s.m) s.act s.prep s.lv s.li m.version m.nodes m.edges q m.shards.length c m.blocks (str m.root) (hS s) K w h0 ⟨.inl rfl,trivial⟩ λl0 hl0=>?_
  have fin:∀ {w4 w3:World} {l3 bm om:Nat} {q':Option Addr} {c':Nat},Grow w w3→MapI w3 bm []→MapI w3 om []→bm≠om→w.heap.size≤bm→w.heap.size≤om→Own T.aK_ 2 w3 q' c' (encE m.shards)→(∀a,q'=some a→w.heap.size≤a.block)→w3.heap.size≤l3→
      Fr (hS s) w w3 [] [⟨s.bh,hsC s,T.ar_,true⟩,⟨l0,#[.int .i64 m.version,.int .i64 m.nodes,.int .i64 m.edges,.slice q m.shards.length c,.int .i64 m.blocks,.string (str m.root)],T.dU_,true⟩,⟨l3,hvC ⟨m,q',c',l3,bm,om,[],[]⟩,T.aH_,true⟩] w4→
      rn PR (Instr.mapUpdate T.cn_ (.map (some s.m)) (.int .i64 m.version) (.pointer (some ⟨l3,0,none⟩))) (λx0 w5=>Fs (hS s) w [⟨s.bh,hsC s,T.ar_,true⟩,⟨l0,#[.int .i64 m.version,.int .i64 m.nodes,.int .i64 m.edges,.slice q m.shards.length c,.int .i64 m.blocks,.string (str m.root)],T.dU_,true⟩,⟨l3,hvC ⟨m,q',c',l3,bm,om,[],[]⟩,T.aH_,true⟩] w5∧K (.tuple #[]) w5) w4:=by
    intro w4 w3 l3 bm om q' c' g3 hb3 ho3 hbo hbf hof hown hqf hl3 hF4
    have g34:Grow w3 w4:=hF4.grow
    have g4:Grow w w4:=g3.trans g34
    have sz3:=g3.size
    have hbl:=hb3.lt
    have hol:=ho3.lt
    have hml:=h.mp.lt
    refine cT_ d1_ (h.mp.grow g4) hfit λw5 hm5 c5 s5=>?_
    have hlb:∀ {b:Nat} {cs:Array Value} {t:TypeId} {f:Nat × Nat},w4.heap[b]? = some (.cells cs t f)→¬b=s.m:=λhb e=>(h.mp.grow g4).ne hb e
    have hF5:=hF4.step c5 (λx hx=>hlb (hF4.loc x hx)) (λk hk e=>.inr (.inr (.inl e)))
    have c05:Chg (· = s.m) w w5:=g4.chg.trans c5 λ_ _ e=>e
    have hf:∀k,vS ⟨m,q',c',l3,bm,om,[],[]⟩ k→w.heap.size≤k:=by
      rintro k (rfl | rfl | rfl | ⟨a,ha,rfl⟩)
      · omega
      · exact hbf
      · exact hof
      · exact hqf a ha
    refine ⟨hF5,hK w5 ⟨m,q',c',l3,bm,om,[],[]⟩ (h.addV c05 ⟨hF5.blk 2 rfl,?_,?_,?_,hm,λp hp=>by cases hp⟩ hno hm5 hf hbo rfl rfl few) rfl rfl rfl c05 hf⟩
    · refine (hown.grow g34).keep c5 λa ha e=>?_
      have e':a.block=s.m:=e
      have:=hqf a ha;omega
    · exact (hb3.grow g34).keep c5 (λe=>by have e':bm=s.m:=e;omega)
    · exact (ho3.grow g34).keep c5 (λe=>by have e':om=s.m:=e;omega)
  refine ⟨λw0 hF0=>?_,λw0 hF0=>?_,λw0 hF0=>?_⟩
  · have g0:Grow w w0:=hF0.grow
    have s0:=g0.size
    refine c6_ hsl (hs.grow g0) λw1 q' c' g1 ho hq=>⟨_,_,_,_,_,_,_,_,rfl,hF0.after g1,?_,?_⟩
    · have hF1:=hF0.after g1
      have s1:=g1.size
      refine aU_ λw2 r1 hr1 hm1 g2=>⟨_,rfl,hF1.after g2,aU_ λw3 r2 hr2 hm2 g3=>⟨_,rfl,(hF1.after g2).after g3,λl3 hl3 w4 hF4=>?_⟩⟩
      have s2:=g2.size
      have:=hm1.lt
      exact fin (((g0.trans g1).trans g2).trans g3) (hm1.grow g3) hm2 (by omega) (by omega) (by omega) ((ho.grow g2).grow g3) (λa ha=>Nat.le_trans s0 (hq a ha)) hl3 hF4
    · have hF1:=hF0.after g1
      have s1:=g1.size
      refine aU_ λw2 r1 hr1 hm1 g2=>⟨_,rfl,hF1.after g2,aU_ λw3 r2 hr2 hm2 g3=>⟨_,rfl,(hF1.after g2).after g3,λl3 hl3 w4 hF4=>?_⟩⟩
      have s2:=g2.size
      have:=hm1.lt
      exact fin (((g0.trans g1).trans g2).trans g3) hm2 (hm1.grow g3) (by omega) (by omega) (by omega) ((ho.grow g2).grow g3) (λa ha=>Nat.le_trans s0 (hq a ha)) hl3 hF4
  · have g0:Grow w w0:=hF0.grow
    have s0:=g0.size
    refine aU_ λw1 r1 hr1 hm1 g1=>⟨_,rfl,hF0.after g1,?_,?_⟩
    · have hF1:=hF0.after g1
      have s1:=g1.size
      have:=hm1.lt
      refine c6_ hsl (hs.grow (g0.trans g1)) λw2 q' c' g2 ho hq=>⟨_,_,_,_,_,_,_,_,rfl,hF1.after g2,aU_ λw3 r2 hr2 hm2 g3=>⟨_,rfl,(hF1.after g2).after g3,λl3 hl3 w4 hF4=>?_⟩⟩
      have s2:=g2.size
      exact fin (((g0.trans g1).trans g2).trans g3) ((hm1.grow g2).grow g3) hm2 (by omega) (by omega) (by omega) (ho.grow g3) (λa ha=>by have:=hq a ha;omega) hl3 hF4
    · have hF1:=hF0.after g1
      have s1:=g1.size
      have:=hm1.lt
      refine aU_ λw2 r2 hr2 hm2 g2=>⟨_,rfl,hF1.after g2,?_⟩
      have s2:=g2.size
      refine c6_ hsl (hs.grow ((g0.trans g1).trans g2)) λw3 q' c' g3 ho hq=>⟨_,_,_,_,_,_,_,_,rfl,(hF1.after g2).after g3,λl3 hl3 w4 hF4=>?_⟩
      exact fin (((g0.trans g1).trans g2).trans g3) ((hm1.grow g2).grow g3) (hm2.grow g3) (by omega) (by omega) (by omega) ho (λa ha=>by have:=hq a ha;omega) hl3 hF4
  · have g0:Grow w w0:=hF0.grow
    have s0:=g0.size
    refine aU_ λw1 r1 hr1 hm1 g1=>⟨_,rfl,hF0.after g1,?_,?_⟩
    · have hF1:=hF0.after g1
      have s1:=g1.size
      have:=hm1.lt
      refine c6_ hsl (hs.grow (g0.trans g1)) λw2 q' c' g2 ho hq=>⟨_,_,_,_,_,_,_,_,rfl,hF1.after g2,aU_ λw3 r2 hr2 hm2 g3=>⟨_,rfl,(hF1.after g2).after g3,λl3 hl3 w4 hF4=>?_⟩⟩
      have s2:=g2.size
      exact fin (((g0.trans g1).trans g2).trans g3) hm2 ((hm1.grow g2).grow g3) (by omega) (by omega) (by omega) (ho.grow g3) (λa ha=>by have:=hq a ha;omega) hl3 hF4
    · have hF1:=hF0.after g1
      have s1:=g1.size
      have:=hm1.lt
      refine aU_ λw2 r2 hr2 hm2 g2=>⟨_,rfl,hF1.after g2,?_⟩
      have s2:=g2.size
      refine c6_ hsl (hs.grow ((g0.trans g1).trans g2)) λw3 q' c' g3 ho hq=>⟨_,_,_,_,_,_,_,_,rfl,(hF1.after g2).after g3,λl3 hl3 w4 hF4=>?_⟩
      exact fin (((g0.trans g1).trans g2).trans g3) (hm2.grow g3) ((hm1.grow g2).grow g3) (by omega) (by omega) (by omega) ho (λa ha=>by have:=hq a ha;omega) hl3 hF4
def HS.addM (s:HS) (j:JP) (v:HV):HS:={ s with j:=j,recs:=s.recs++[recM v.man],d:=s.d.put (-1) (fv_ crcN (recM v.man)),vs:=s.vs++[v] }
theorem ax_.jrn {w w':World} {s:HS} (h:ax_ w s) (g:Chg (jfS s.bj s.j) w w') {j:JP} {recs:List (List UInt8)} {d:DM} (jr:JrnF w' s.bj j recs d) (hd:d.sl.length=s.d.sl.length):ax_ w' { s with j:=j,recs:=recs,d:=d }:=
  ⟨g.get h.blk h.bhj,jr,h.mp.keep g h.mj,λv hv=>(h.vs v hv).keep g λk hk e=>by
    rcases hk with rfl | rfl | rfl | ⟨a,ha,rfl⟩
    · exact h.jr.other (h.vs v hv).blk (.inr (.inl rfl)) e
    · exact h.jr.map (h.vs v hv).bm e
    · exact h.jr.map (h.vs v hv).om e
    · obtain ⟨cs,hh⟩:=(h.vs v hv).own.ty ha
      exact h.jr.other hh (.inr (.inr rfl)) e,h.nd,λv hv p hp=>by show 0≤p.2.1∧p.2.1<d.sl.length;rw [hd];exact h.sl v hv p hp,h.few,by show d.sl.length≤4096;rw [hd];exact h.dl⟩
theorem ma_ {m:Man} (h:m.ok):(recM m).length≤1+8*133+40:=by
  have h1:=b__ h.nums
  have h2:m.nums.length=5+2*m.shards.length:=by simp [Man.nums,fz_];omega
  have h3:=h.shards.1
  have h4:=h.root
  have h5:=am_ (n:=m.root.length) (by omega)
  simp only [recM,iq_,List.length_append,List.length_cons,List.length_nil]
  omega
theorem qs_ {w:World} {s:HS} (h:ax_ w s) (hr:qr_ s) {m:Man} (hm:m.ok) {q:Option Addr} {c:Nat} (hs:Sl w q (encE m.shards)) (hqj:∀a,q=some a→¬jfS s.bj s.j a.block) (hno:∀x∈s.vs,x.man.version≠m.version) (hact:s.act<m.version) (few:s.vs.length<3) {K:Value→World→Prop}
    (hK:∀w' j v,ax_ w' (s.addM j v)→v.man=m→v.bl=[]→v.ol=[]→Chg (hS s) w w'→(∀k,vS v k→w.heap.size≤k)→(∀k,hS (s.addM j v) k→hS s k∨w.heap.size≤k)→K .nilIface w'):aa_ PR F.hj_ ⟨[.pointer (some ⟨s.bh,0,none⟩),mval m q c]⟩ w K:=by
  have h0:=h.fs
  have hver:=hm.version
  have hsl:=hm.shards.1
  have hfit:bc_ m.version:=⟨by omega,by omega⟩
  obtain ⟨hr1,hr2,hr3⟩:=hr
  have hrl:=ma_ hm
  have hbl:=aj_ h.blk
  refine jt_ s.bh (some ⟨s.bj,0,none⟩) (some s.m) s.act s.prep s.lv s.li m.version m.nodes m.edges q m.shards.length c m.blocks (str m.root) (hS s) K w h0 ⟨.inl rfl,trivial⟩ λl0 hl0 w0 hF0=>?_
  have g0:Grow w w0:=hF0.grow
  refine rn_ hm (hs.grow g0) λw1 g1=>⟨_,_,rfl,hF0.after g1,λ_ w2 hF2=>⟨λ_=>True,trivial,?_⟩,(λt x h=>by cases h),.inl rfl⟩
  have g2:Grow w w2:=(g0.trans g1).trans hF2.grow
  refine aR_ d1_ (h.mp.grow g2) hfit false gM_ (λx hx=>?_) λ_=>⟨none,rfl,hF2.reset,trivial,λw4 hF4=>⟨λ_=>True,trivial,λ_ w5 hF5=>⟨λ_=>True,trivial,λ_=>⟨λhle=>absurd hact (by omega),λ_=>?_⟩,λa ha=>by cases ha⟩,λa ha=>by cases ha⟩⟩
  · obtain ⟨v,hv,e⟩:=List.mem_map.1 hx
    exact absurd (congrArg Prod.fst e) (hno v hv)
  have g5:Grow w w5:=(g2.trans hF4.grow).trans hF5.grow
  refine lx_ d1_ (h.mp.grow g5) ⟨_,rfl,hF5.reset,λh3=>absurd h3 (by rw [List.length_map];omega),λ_=>⟨by rw [ai_];simp only [recM,List.length_append,List.length_cons,List.length_nil] at hrl;omega,λl1 hl1 w7 hF7=>?_⟩⟩
  have g7:Grow w w7:=g5.trans hF7.grow
  have e77:(⟨#[77]⟩:ByteArray)++str (iq_ m)=str (recM m):=by rw [recM,← aC_];rfl
  rw [e77] at hF7
  have s5:=g5.size
  have hl0n:¬jfS s.bj s.j l0:=λe=>by have:=h.jr.lt l0 e;omega
  have hl1n:¬jfS s.bj s.j l1:=λe=>by have:=h.jr.lt l1 e;omega
  refine iP_ (s:=recM m) ((h.grow g7).jr) (hF7.sl 2 rfl) (λa ha=>by cases ha;exact hl1n) (by omega) (by omega) (by omega) (by omega) λw8 j hj c8 hbd hst=>?_
  have hF8:=hF7.step c8 (λx hx=>by
    simp only [List.mem_cons,List.not_mem_nil,or_false] at hx
    rcases hx with rfl | rfl | rfl
    · exact h.bhj
    · exact hl0n
    · exact hl1n) λk _ e=>.inr (.inl e)
  have c08:Chg (jfS s.bj s.j) w w8:=g7.chg.trans c8 λ_ _ e=>e
  have hlen:(s.d.put (-1) (fv_ crcN (recM m))).sl.length=s.d.sl.length:=by
    unfold DM.put DM.now;rw [if_pos rfl]
  have h8:=h.jrn c08 hj hlen
  have s7:=g7.size
  refine ⟨_,rfl,_,hF8,λ_=>?_,(λt x h=>by cases h),.inl rfl⟩
  refine qn_ h8 hm (hs.keep c08 hqj) hno few λw9 v h9 hvm hvb hvo c9 hf9=>⟨rfl,_,_,_,_,_,_,(hF8.sub (L':=[⟨s.bh,hsC s,T.ar_,true⟩,⟨l0,#[.int .i64 m.version,.int .i64 m.nodes,.int .i64 m.edges,.slice q m.shards.length c,.int .i64 m.blocks,.string (str m.root)],T.dU_,true⟩]) (((List.nil_sublist _).cons_cons _).cons_cons _)).step c9 (λx hx e=>?_) (λk _ e=>.inr (.inr (.inl e))),?_⟩
  · have e':x.b=s.m:=e
    simp only [List.mem_cons,List.not_mem_nil,or_false] at hx
    rcases hx with rfl | rfl
    · exact h.mp.ne h.blk e'
    · have:=h.mp.lt
      simp only [] at e';omega
  · have s8:=c08.size
    subst hvm
    refine hK w9 j v h9 rfl hvb hvo ((c08.mono λk _ e=>.inr (.inl e)).trans c9 λk _ e=>.inr (.inr (.inl e))) (λk hk=>Nat.le_trans s8 (hf9 k hk)) λk hk=>?_
    rcases hk with hk | hk | hk | ⟨x,hx,hk⟩
    · exact .inl (.inl hk)
    · rcases hst k hk with e | e
      · exact .inl (.inr (.inl e))
      · exact .inr (Nat.le_trans s7 e)
    · exact .inl (.inr (.inr (.inl hk)))
    · rcases List.mem_append.1 hx with hx | hx
      · exact .inl (.inr (.inr (.inr ⟨x,hx,hk⟩)))
      · simp at hx;subst hx
        refine .inr (Nat.le_trans s8 (hf9 k ?_))
        rcases hk with e | e
        · exact .inr (.inl e)
        · exact .inr (.inr (.inl e))
theorem kU_ {w:World} {bd:Nat} {p:DP} {d:DM} (h:DskF w bd p d) (hl:d.log=[]) (hw:d.ws=[]) {K:Value→World→Prop} (hK:∀w' bj,Grow w w'→w.heap.size≤bj→JrnF w' bj ⟨bd,p,none,0⟩ [] d→K (.tuple #[.pointer (some ⟨bj,0,none⟩),.nilIface]) w'):aa_ PR F.kv_ ⟨[.pointer (some ⟨bd,0,none⟩)]⟩ w K:=by
  have hfr:∀ {w':World},Grow w w'→Fs S0 w [] w':=λg=>(Fr.init _ w).after g
  refine jr_ (some ⟨bd,0,none⟩) S0 K w ?_
  refine pf_ h ⟨_,_,rfl,.init _ w,λ_=>?_,(λt x h=>by cases h),.inl rfl⟩
  rw [hl]
  refine jV_ λw1 g1=>⟨_,_,_,_,rfl,hfr g1,λh=>absurd h (by decide),λ_=>⟨λ_=>?_,(λt x h=>by cases h),.inl rfl⟩⟩
  refine lQ_ (h.grow g1) ⟨_,rfl,hfr g1,λhc=>by rw [hw] at hc;simp at hc,λ_=>⟨λ_ b hb w2 hF2=>?_,(λt x h=>by cases h),.inl rfl⟩⟩
  have s1:=g1.size
  have h2:=h.grow hF2.chg
  refine hK w2 b hF2.chg (by omega) ⟨hF2.blk 0 rfl,.nil _ _ _,Nat.le_refl _,h2,by rw [hl];rfl,λe=>?_,(λ⟨a,ha,_⟩=>by cases ha),λk ⟨a,ha,_⟩=>by cases ha⟩
  have:=h.lt b e;omega
theorem nh_ {w:World} {bj:Nat} {j:JP} {recs:List (List UInt8)} {d:DM} (h:JrnF w bj j recs d) (hn:recs.length≤1000000) {K:Value→World→Prop}
    (hK:∀w' q' c',Grow w w'→Own T.string 1 w' q' c' (recs.map sv8')→K (.slice q' recs.length c') w'):aa_ PR F.dA_ ⟨[.pointer (some ⟨bj,0,none⟩)]⟩ w K:=by
  have h0:Fs (· = bj) w [⟨bj,#[.pointer (some ⟨j.bd,0,none⟩),.slice j.q recs.length j.c,.int .i64 (logL recs).length],T.bv_,true⟩] w:=(Fr.init _ w).entry h.blk (λx h=>by cases h) λ_=>rfl
  refine eK_ bj (some ⟨j.bd,0,none⟩) j.q recs.length j.c (logL recs).length (· = bj) K w h0 ⟨rfl,trivial⟩ ?_
  have e:recs.map sv8'=(recs.map str).map sv1:=by rw [List.map_map];rfl
  have hs:=h.own.sl
  rw [e] at hs
  refine jK_ hs (by simp) hn λw1 q' c' g1 ho hc hof=>⟨_,_,_,rfl,h0.after g1,hK w1 q' c' g1 (by rw [e];exact ho)⟩
theorem jQ_ {w:World} {s:HS} (h:ax_ w s) {K:Value→World→Prop} (hK:∀w' q c (L:List Int),Grow w w'→L.length=s.vs.length→Sl w' q (L.map Iv)→(∀i,i∈L↔∃v∈s.vs,v.man.version=i)→L.Pairwise (· < ·)→K (.slice q s.vs.length c) w'):aa_ PR F.eb_ ⟨[.pointer (some ⟨s.bh,0,none⟩)]⟩ w K:=by
  have h0:=h.fs
  have few:=h.few
  refine fd_ s.bh (some ⟨s.bj,0,none⟩) (some s.m) s.act s.prep s.lv s.li (hS s) K w h0 ⟨.inl rfl,trivial⟩ ?_
  refine nd_ λw1 b g1 hb hc=>⟨_,rfl,h0.after g1,?_⟩
  refine kR_ hc hb (h.mp.grow g1) (by rw [List.length_map];omega) λw2 q c L g2 hl hs hm hp=>?_
  rw [List.length_map] at hl ⊢
  refine ⟨_,_,_,rfl,(h0.after g1).after g2,hK w2 q c L (g1.trans g2) hl hs (λi=>?_) hp⟩
  rw [hm i,List.map_map,List.mem_map]
  exact Iff.rfl
def HS.zero (bh bj m:Nat) (j:JP) (d:DM):HS:=⟨bh,bj,m,j,[],d,[],0,0,0,0⟩
theorem lX_ {w:World} {bd:Nat} {p:DP} {d:DM} (h:DskF w bd p d) (hl:d.log=[]) (hw:d.ws=[]) (hd:d.sl.length≤4096) {K:Value→World→Prop}
    (hK:∀w' bh bj m j,Grow w w'→ax_ w' (HS.zero bh bj m j d)→(∀k,hA (HS.zero bh bj m j d) k→dfS bd p k∨w.heap.size≤k)→K (.tuple #[.pointer (some ⟨bh,0,none⟩),.nilIface]) w'):aa_ PR F.hv_ ⟨[.pointer (some ⟨bd,0,none⟩)]⟩ w K:=by
  refine hv_ (some ⟨bd,0,none⟩) S0 K w ?_
  refine kU_ h hl hw λw0 bj g0 hbj hj=>⟨_,_,rfl,(Fr.init _ w).after g0,λ_=>?_,(λt x h=>by cases h),.inl rfl⟩
  have hF0:Fs S0 w [] w0:=(Fr.init _ w).after g0
  refine aU_ λw1 m hm0 hm g1=>⟨_,rfl,hF0.after g1,λbh hbh w2 hF2=>?_⟩
  have s0:=g0.size
  have s1:=g1.size
  have hml:=hm.lt
  have g2:Grow w1 w2:=hF2.grow
  have hj2:=hj.grow (g1.trans g2)
  have H2:ax_ w2 (HS.zero bh bj m ⟨bd,p,none,0⟩ d):=⟨hF2.blk 0 rfl,hj2,hm.grow g2,(λv hv=>by cases hv),by simp [HS.zero],(λv hv=>by cases hv),Nat.zero_le _,hd⟩
  refine nh_ hj2 (by simp) λw3 q c g3 ho=>⟨_,_,_,rfl,hF2.after g3,?_⟩
  have hF3:=hF2.after g3
  refine ⟨λn q3 q4 n1 n2 n3 n4 lv w'=>n=0∧q3=some ⟨bj,0,none⟩∧q4=some m∧n1=0∧n2=0∧n3=0∧n4=0∧Grow w2 w',⟨0,rfl,rfl,rfl,rfl,rfl,rfl,rfl,g3⟩,?_⟩
  rintro n q3 q4 n1 n2 n3 n4 D lv w4 ⟨rfl,rfl,rfl,rfl,rfl,rfl,rfl,g4⟩ hF4
  refine ⟨λhlt=>absurd hlt (by simp),λ_=>?_⟩
  refine jQ_ (H2.grow g4) λw6 q6 c6 L g6 hL _ _ _=>⟨_,_,_,rfl,hF4.after g6,?_⟩
  refine ⟨λn q3 q4 n1 n2 n3 n4 lv w'=>n=0∧q3=some ⟨bj,0,none⟩∧q4=some m∧n1=0∧n2=0∧n3=0∧n4=0∧Grow w2 w',⟨0,rfl,rfl,rfl,rfl,rfl,rfl,rfl,g4.trans g6⟩,?_⟩
  rintro n q8 q9 n1 n2 n3 n4 D lv w7 ⟨rfl,rfl,rfl,rfl,rfl,rfl,rfl,g7⟩ hF7
  refine ⟨λhlt=>absurd hlt (by simp [HS.zero]),λ_=>?_⟩
  refine hK w7 bh bj m ⟨bd,p,none,0⟩ hF7.gr (H2.grow g7) λk hk=>?_
  rcases hk with (rfl | hk | rfl | ⟨v,hv,_⟩) | ⟨v,hv,_⟩
  · exact .inr (by simp only [HS.zero] at *;omega)
  · rcases hk with rfl | hk | ⟨a,ha,_⟩
    · exact .inr hbj
    · exact .inl hk
    · cases ha
  · exact .inr (by simp only [HS.zero] at *;omega)
  · cases hv
  · cases hv
end Go.Vc
namespace Go.Vc
open Go Go.MapKept
structure Rp where
  ready:Int
  prepared:Int
  done:Int
  heard:Bool
  at_:Int
structure ActS where
  x:PubS
  a:Nat
  bn:Nat
  reps:List Rp
def ActS.tgt (s:ActS):Nat:=if s.x.last≤s.x.com then 0 else s.x.last
end Go.Vc
namespace Go.Vc
open Go Go.MapKept
def agrees (s:ActS) (now:Int):Prop:=0<s.tgt∧(∃r∈s.reps,r.heard=true∧r.at_≥now - 12)∧∀r∈s.reps,r.heard=true→r.at_≥now - 12→(s.tgt:Int)≤r.prepared
end Go.Vc
namespace Go.Vc
open Go Go.MapKept
end Go.Vc
namespace Go.Vc
open Go Go.MapKept
theorem add_add (a:Addr) (i j:Nat):(a.add i).add j=a.add (i+j):=by
  obtain ⟨b,o,r⟩:=a
  simp only [Addr.add]
  by_cases hi:i=0
  · subst hi;simp
  · by_cases hj:j=0
    · subst hj;simp [hi]
    · simp [hi,hj,Nat.add_assoc]
theorem Grow.cell {w w':World} (g:Grow w w') {a:Addr} {v:Value} (h:w.cell? a=some v):w'.cell? a=some v:=by
  unfold World.cell? at h ⊢
  cases hb:w.heap[a.block]? with
  | none=>simp [hb] at h
  | some o=>rw [g.get hb];rw [hb] at h;exact h
end Go.Vc
namespace Go.Vc
open Go Go.RowKit Go.Extern.Stop Go.Stop Go.Extern Go.Proofs
abbrev hd (t:Nat):Value:=.pointer (some ⟨G.count,t,none⟩)
theorem gV_ (v:Value) (w:World):(ReflectliteType.typeOf #[.iface 73 v]).run Tryz.prog w=.ok (.iface 199 (.agg #[.pointer (some ⟨1,73,none⟩)])) w:=by kernel_rfl
end Go.Vc
namespace Go.Vc
open Go Go.RowKit Go.Extern.Stop Go.Stop Go.Extern Go.Proofs
theorem pr_:(Tryz.prog.underlying 204).map (λt=>match t with | .interface ms=>ms.toList.map (·.1) | _=>[])=some ["Unwrap"]:=by kernel_rfl
theorem fc_ {P:Program} {t:TypeId} {l:List String} (h:(P.underlying t).map (λt=>match t with | .interface ms=>ms.toList.map (·.1) | _=>[])=some l) (hne:l≠[]):∃ms,P.underlying t=some (.interface ms):=by
  cases hu:P.underlying t with
  | none=>rw [hu] at h;cases h
  | some u=>
    rw [hu] at h
    cases u with
    | interface ms=>exact ⟨ms,rfl⟩
    | _=>exact absurd (Option.some.inj h).symm hne
theorem oy_ (v:Value) (xT:TypeId) (w:World):(Instr.typeAssert (.iface 192 v) xT 204 true).run Tryz.prog w=.ok (.tuple #[.iface 192 v,.bool true]) w:=by
  obtain ⟨ms,hu⟩:=fc_ pr_ (by simp)
  exact run_typeAssert_hasB hu (by
    have:(Tryz.prog.info? 192).map (λi=>match Tryz.prog.underlying 204 with | some (.interface want)=>(lacking want i.methods).isEmpty | _=>true)=some true:=by kernel_rfl
    rw [hu] at this;exact this) v xT w
theorem kq_ (x y:Value) (w:World):(Go.method 447 192 (.agg #[x,y]) "Unwrap").run Tryz.prog w=.ok (232,.agg #[x,y]) w:=by kernel_rfl
end Go.Vc
namespace Go.Vc
open Go Go.MapKept
theorem ig_.flat {version nodes:Int} {each:Nat} {l:List (Int × Int)} {m:Man} {list:List (List UInt8)} (he:1≤each) (hg:eL_ nodes l) (h64:nodes≤64*(each:Int)) (h:ig_ version nodes each l m list):(list.flatten.length:Int)≤1472+9*nodes+8*l.length∧list.length=aX_ list.flatten.length:=by
  obtain ⟨nn,N,k,rfl,hN,hk1,hk2,e⟩:=h
  have e2:list=cutL (a7_ (begL nn N) (N.map (·.2)) each nn k).flatten:=congrArg Prod.snd e
  have hNl:=hN.len
  have hll:=hg.2.2.1
  have hnn:=hg.2.1
  have hL:=qJ_ hN (by omega)
  have htot:=hd_ (k:=k) hL (by omega) he hk2
  have hTl:(N.map (·.2)).length=N.length:=List.length_map _
  have hk:k≤64:=by
    rcases Nat.lt_or_ge 64 k with h | h
    · have:=hk2 64 h;omega
    · exact h
  rw [e2,jG_,hQ_]
  rw [hTl] at htot
  exact ⟨by omega,rfl⟩
theorem oU_ {n m:Nat} (h:n≤64*m):aX_ n≤m:=by unfold aX_;omega
end Go.Vc
namespace Go.Vc
open Go Go.MapKept
theorem ih_ {w:World} {s:HS} (h:ax_ w s) {n:Int} (hn:bc_ n) {K:Value→World→Prop} (h1:∀w' v q c,v∈s.vs→v.man.version=n→Grow w w'→Own T.aK_ 2 w' q c (encE v.man.shards)→K (.tuple #[mval v.man q c,.nilIface]) w') (h2:∀w',Grow w w'→(∀v∈s.vs,v.man.version≠n)→K (.tuple #[.agg #[.int .i64 0,.int .i64 0,.int .i64 0,.slice none 0 0,.int .i64 0,.string ⟨#[]⟩],.iface T.an_ (.int .i64 13)]) w') :
    aa_ PR F.ec_ ⟨[.pointer (some ⟨s.bh,0,none⟩),.int .i64 n]⟩ w K:=by
  have h0:Fs (· = s.bh) w [⟨s.bh,hsC s,T.ar_,true⟩] w:=(Fr.init _ w).entry h.blk (λx h=>by cases h) λ_=>rfl
  have gr:∀ {w':World} {L:List Blk} {M:List Nat} {wp:World},Fr (· = s.bh) w wp M (⟨s.bh,hsC s,T.ar_,true⟩ :: L) w'→Grow w w':=λhF=>hF.chg.same h.blk (hF.blk 0 rfl)
  refine fe_ s.bh (some ⟨s.bj,0,none⟩) (some s.m) s.act s.prep s.lv s.li n (· = s.bh) K w h0 ⟨rfl,trivial⟩ λl0 hl0 w0 hF0=>?_
  have g0:Grow w w0:=hF0.grow
  have hl0w:l0<w0.heap.size:=aj_ (hF0.blk 1 rfl)
  refine d2_ (h.grow g0) hn (λv hv e=>⟨_,_,rfl,hF0.reset,λ_=>?_,(λt x h=>by cases h),.inl rfl⟩) λhno=>⟨_,_,rfl,hF0.reset,(λh=>by cases h),(λt x _ w4 hF4=>h2 w4 (gr hF4) hno),.inr ⟨_,_,rfl⟩⟩
  have hv0:=(h.grow g0).vs v hv
  have cell:∀ {k:Nat} {x:Value},(hvC v)[k]? = some x→w0.cell? (Addr.add (Addr.add ⟨v.b,0,none⟩ 0) k)=some x:=λhk=>c2_ hv0.blk hk
  refine ad_.2 (ad_.2 (ad_.2 ⟨_,cell (k:=0) rfl,_,cell (k:=1) rfl,_,cell (k:=2) rfl,_,_,_,cell (k:=3) rfl,_,cell (k:=4) rfl,_,cell (k:=5) rfl,?_⟩))
  refine c6_ (m:=v.man) hv0.ok.shards.1 hv0.own.sl λw2 q c g2 ho hq=>⟨_,_,_,_,_,_,_,_,rfl,hF0.reset.after g2,λw3 hF3=>?_⟩
  refine h1 w3 v q c hv e (gr hF3) (ho.keep hF3.stp λa ha e=>?_)
  have:=hq a ha
  have e':a.block=l0:=by simpa using e
  omega
def e__ (v:HV) (k:Nat):List Int:=((List.range k).map λn:Nat=>(n:Int)).filter λi=>decide (∀p∈v.bl,p.1≠i)
theorem fL_ (v:HV) (k:Nat):e__ v (k+1)=e__ v k++(if ∀p∈v.bl,p.1≠(k:Int) then [(k:Int)] else []):=by
  unfold e__
  rw [List.range_succ,List.map_append,List.filter_append]
  congr 1
  by_cases h:∀p∈v.bl,p.1≠(k:Int)
  · rw [if_pos h]
    show List.filter _ [(k:Int)]=_
    rw [List.filter_cons,if_pos (decide_eq_true h)];rfl
  · rw [if_neg h]
    show List.filter _ [(k:Int)]=_
    rw [List.filter_cons,if_neg (by rw [decide_eq_true_iff];exact h)];rfl
def bj_ (v:HV):List Int:=e__ v v.man.blocks.toNat
theorem ba_ {v:HV} {i:Int} : i∈bj_ v↔(0≤i∧i<v.man.blocks)∧∀p∈v.bl,p.1≠i:=by
  unfold bj_ e__
  rw [List.mem_filter,decide_eq_true_iff,List.mem_map]
  refine and_congr_left λ_=>⟨λ⟨n,hn,e⟩=>?_,λh=>⟨i.toNat,List.mem_range.2 (by omega),by omega⟩⟩
  have:=List.mem_range.1 hn;omega
theorem jj_ (v:HV) (k:Nat):(e__ v k).length≤k:=by
  unfold e__
  have:=List.length_filter_le (λi=>decide (∀p∈v.bl,p.1≠i)) ((List.range k).map λn:Nat=>(n:Int))
  rw [List.length_map,List.length_range] at this
  exact this
theorem jS_ {w:World} {s:HS} (h:ax_ w s) {n:Int} (hn:bc_ n) {K:Value→World→Prop} (h1:∀w' v q c,v∈s.vs→v.man.version=n→Grow w w'→Own T.int 1 w' q c ((bj_ v).map iv)→Off (λk=>k<w.heap.size) q→K (.slice q (bj_ v).length c) w') (h2:∀w',Grow w w'→(∀v∈s.vs,v.man.version≠n)→K (.slice none 0 0) w') :
    aa_ PR F.ew_ ⟨[.pointer (some ⟨s.bh,0,none⟩),.int .i64 n]⟩ w K:=by
  have h0:Fs (· = s.bh) w [⟨s.bh,hsC s,T.ar_,true⟩] w:=(Fr.init _ w).entry h.blk (λx h=>by cases h) λ_=>rfl
  have gr:∀ {w':World} {L:List Blk} {M:List Nat} {wp:World},Fr (· = s.bh) w wp M (⟨s.bh,hsC s,T.ar_,true⟩ :: L) w'→Grow w w':=λhF=>hF.chg.same h.blk (hF.blk 0 rfl)
  have hbl:=aj_ h.blk
  refine fP_ s.bh (some ⟨s.bj,0,none⟩) (some s.m) s.act s.prep s.lv s.li n (· = s.bh) K w h0 ⟨rfl,trivial⟩ ?_
  refine d2_ h hn (λv hv e=>⟨_,_,rfl,h0,λ_=>?_,(λt x h=>by cases h),.inl rfl⟩) λhno=>⟨_,_,rfl,h0,(λh=>by cases h),(λt x _=>h2 w (.refl _ _) hno),.inr ⟨_,_,rfl⟩⟩
  have hv0:=h.vs v hv
  have hbb:=hv0.ok.blocks
  have hb0:0≤v.man.blocks:=by
    rw [hbb.1];unfold gc_;split <;> omega
  obtain ⟨B,hB⟩:=Int.eq_ofNat_of_zero_le hb0
  refine ad_.2 (ad_.2 (ad_.2 (ad_.2 ⟨_,c2_ hv0.blk (k:=4) rfl,?_⟩)))
  refine ⟨λq l c i lv w'=>∃k:Nat,i=k∧k≤B∧lv=B - k∧l=(e__ v k).length∧Own T.int 1 w' q c ((e__ v k).map iv)∧l≤c∧Off (λx=>x<w.heap.size) q,⟨_,0,rfl,by omega,rfl,rfl,.nil _ _ _,Nat.le_refl _,.none _⟩,?_⟩
  rintro q l c i D lv w1 ⟨k,rfl,hk,rfl,rfl,ho,hlc,hof⟩ hF1
  have g1:=gr hF1
  have hv1:=hv0.grow g1
  refine ⟨λhlt=>?_,λhge=>?_⟩
  · have hk':k<B:=by omega
    refine ad_.2 (ad_.2 (ad_.2 ⟨_,cp_ hv1.blk (k:=6) rfl,?_⟩))
    refine aR_ bI_ hv1.bm ⟨by omega,by omega⟩ true eh_ (λx hx=>?_) λhno=>⟨_,_,false,rfl,(λh=>by cases h),λ_=>⟨hF1,λl6 hl6 l7 hl7 w4 hF4=>?_⟩⟩
    · obtain ⟨p,hp,e⟩:=List.mem_map.1 hx
      have e2:x=plV p.2:=(congrArg Prod.snd e).symm
      subst e2
      refine ⟨_,_,true,rfl,(λ_=>⟨hF1,λl4 hl4 w3 hF3=>?_⟩),λh=>by cases h⟩
      have hF3':=hF3.unM hl4
      have g3:Grow w1 w3:=hF3'.grow
      have e3:e__ v (k+1)=e__ v k:=by
        rw [fL_,if_neg (λhall=>hall p hp (congrArg Prod.fst e))];simp
      exact ⟨B - (k+1),by omega,k+1,wr1 (by omega),by omega,rfl,by rw [e3],by rw [e3];exact ho.grow g3,by rw [← e3] at hlc ⊢;exact hlc,hof⟩
    · have hF4':=hF4.unM hl6
      have g4:Grow w1 w4:=hF4'.grow
      have hno':∀p∈v.bl,p.1≠(k:Int):=λp hp e=>hno (p.1,plV p.2) (List.mem_map.2 ⟨p,hp,rfl⟩) e
      have hml:=jj_ v k
      refine fi_ (ho.grow g4) rfl hlc (ys:=[(k:Int)]) (hF4'.sl 1 rfl) rfl (by omega) λq5 c5 w5 ho5 hc5 g5 hq5=>?_
      have sw1:=g1.size
      have hF5:=hF4'.app2 g5 w.heap.size w1.heap.size hof (λa ha=>ho.lt a ha) (λz hz=>by
        simp only [List.mem_cons,List.not_mem_nil,or_false] at hz
        rcases hz with rfl | rfl
        · exact .inl hbl
        · exact .inr hl7) (Nat.le_refl _)
      refine ⟨_,_,_,rfl,hF5,B - (k+1),by omega,k+1,wr1 (by omega),by omega,rfl,?_,?_,?_,hof.next hq5 (by have:=g4.size;omega)⟩
      · rw [fL_,if_pos hno'];simp
      · rw [fL_,if_pos hno'];exact ho5
      · exact hc5
  · have e2:k=B:=by omega
    subst e2
    have e3:e__ v k=bj_ v:=by unfold bj_;rw [hB];rfl
    rw [e3] at ho ⊢
    exact h1 w1 v q c hv e g1 ho hof
end Go.Vc
namespace Go.Vc
open Go Go.RowKit Go.Maps Go.Sort Go.Shelf Go.Proofs Go.MapKept
open Go.WideElems (Fit rd rg rd_mk)
theorem ne_ {w:World} {mb:Option Nat} {K:Value→World→Prop} (hK:∀w' b,Grow w w'→b<w'.heap.size→w'.cell? ⟨b,0,none⟩=some (.map mb)→K (.func (.func 136) #[] #[.pointer (some ⟨b,0,none⟩)]) w'):aa_ PR 96 #[.map mb] w K:=by
  have cK:CallsIn Fence.wide 5 Tryz.prog 96 #[.map mb] w λe w'=>e=.returned (.func (.func 136) #[] #[.pointer (some ⟨w.heap.size,0,none⟩)])∧w'=w.alloc (.cells #[.map mb] 53):=AnyZI.keys_in Tryz.keysB Fence.wide 5 trivial rfl mb w
  refine bg_ ((callsIn_wide (n:=5)).1 cK) λe w' ⟨he,hw⟩=>⟨_,he,?_⟩
  subst hw
  exact hK _ _ (Chg.alloc w _) (by simp) (by simp)
theorem kS_ {w:World} {b m:Nat} {l:List (Int × Value)} (hB:w.cell? ⟨b,0,none⟩=some (.map (some m))) (hbl:b<w.heap.size) (hM:MapI w m l) (hsz:l.length≤1000000) {K:Value→World→Prop}
    (hK:∀w' q c (L:List Int),Grow w w'→L.length=l.length→Sl w' q (L.map Iv)→(∀i,i∈L↔i∈l.map (·.1))→L.Pairwise (· < ·)→K (.slice q l.length c) w'):aa_ PR 38 #[.func (.func 136) #[] #[.pointer (some ⟨b,0,none⟩)]] w K:=by
  obtain ⟨es,clock,hm,hst,hes,hl1,hin⟩:=hM.ex
  have hk:∀x∈es.toList,∃l,keyOf PR T.int x.key=some l:=λx hx=>by
    obtain ⟨p,hp,e,_⟩:=hl1 x hx
    exact ⟨_,by rw [e];exact cS_ (hM.fit p hp).1 (hM.fit p hp).2⟩
  have hsz':es.size≤1000000:=by omega
  let R0:Value→Option (DataW Unit × List MemPlace):=λ_=>some (.nil,[])
  have F0:Fit PR T.int R0 es clock:=⟨Nat.le_trans hsz' (by decide),hst,λx hx=>by
    obtain ⟨l,hl⟩:=hk x hx
    exact ⟨_,rd_mk (born:=x.born) hl rfl⟩⟩
  have hown:w.ownsMap PR T.int R0 m es.size _:=World.ownsMap_of_fit hm F0 (λ_ _ _ h=>h)
  have hlen:=length_read (P:=PR) (k:=T.int) (R0:=R0) es
  have hsize:Maps.size (.map ((es.toList.map (rg PR T.int R0)).foldr DataW.insert []))=es.size:=hlen
  have hseq:SeqGives Fence.wide 2 Tryz.prog 136 #[.pointer (some ⟨b,0,none⟩)] encZ (λss=>ss.Perm (intKeys (.map ((es.toList.map (rg PR T.int R0)).foldr DataW.insert [])))) (Maps.size (.map ((es.toList.map (rg PR T.int R0)).foldr DataW.insert []))) w:=
    AnyZI.keys_gives (ρ:=Tryz.keysB_ren) { Tryz.keysB with } Fence.wide _ trivial rfl (by omega) b m es.size _ w hbl hB hown
  have cS:=AnyZI.sorted_in Tryz.sortedA Fence.wide 5 trivial trivial trivial trivial rfl (by omega) (nT_ _) (enters_of Tryz.func83 (by kernel_rfl) rfl) 136 #[.pointer (some ⟨b,0,none⟩)] trivial (enters_of Tryz.func136 (by kernel_rfl) rfl) _ _ (by rw [hsize];exact Nat.le_trans hsz' (by decide)) (by rw [hsize];omega) _ hseq
  change CallsIn _ _ Tryz.prog 38 _ _ _ at cS
  refine bg_ ((callsIn_wide (n:=5)).1 cS) λe w' ⟨v,ss,he,hS,hrow,hnil,hb⟩=>⟨v,he,?_⟩
  have hkey:∀y∈es.toList,∃p∈l,y.key=.int .i64 p.1∧intOf (rg PR T.int R0 y).1=p.1:=λy hy=>by
    obtain ⟨p,hp,e,_⟩:=hl1 y hy
    refine ⟨p,hp,e,?_⟩
    have hkl:keyOf PR T.int y.key=some (.int .i64 p.1):=by rw [e];exact cS_ (hM.fit p hp).1 (hM.fit p hp).2
    have e3:rg PR T.int R0 y=(.int .i64 p.1,.nil):=by
      unfold WideElems.rg WideElems.rd
      rw [hkl];rfl
    rw [e3];rfl
  have hperm:ss.Perm (es.toList.map λy=>intOf (rg PR T.int R0 y).1):=by
    refine hS.trans ?_
    show (List.map (λp:Lit × DataW Unit=>intOf p.1) _).Perm _
    refine ((dh_ _).map _).trans ?_
    rw [List.map_map]
    exact .refl _
  have hnd:ss.Nodup:=by
    refine hperm.nodup_iff.2 ?_
    have:=hst.2.2
    rw [List.nodup_iff_pairwise_ne,List.pairwise_map] at *
    refine this.imp_of_mem λ{y z} hy hz hne e=>hne ?_
    obtain ⟨p,_,e1,e2⟩:=hkey y hy
    obtain ⟨p',_,e3,e4⟩:=hkey z hz
    rw [e1,e3,← e2,← e4,e]
  have hl:ss.length=es.size:=by
    rw [hperm.length_eq,List.length_map,Array.length_toList]
  have hl2:(ss.mergeSort λx y=>decide (x≤y)).length=l.length:=by rw [List.length_mergeSort,hl,hes]
  have hmem:∀i,i∈(ss.mergeSort λx y=>decide (x≤y))↔i∈l.map (·.1):=λi=>by
    rw [(List.mergeSort_perm ss _).mem_iff,hperm.mem_iff,List.mem_map,List.mem_map]
    constructor
    · rintro ⟨y,hy,rfl⟩
      obtain ⟨p,hp,_,e⟩:=hkey y hy
      exact ⟨p,hp,e.symm⟩
    · rintro ⟨p,hp,rfl⟩
      obtain ⟨y,hy,e,_⟩:=hin p hp
      obtain ⟨p',_,e1,e2⟩:=hkey y hy
      exact ⟨y,hy,by rw [e2,← int_inj (e1.symm.trans e)]⟩
  obtain ⟨hrl,hrow⟩:=hrow
  rcases hrow with ⟨rfl,hz⟩ | ⟨gb,cap,cur,rfl,_,hheap,_,_,_,htake⟩
  · have:=hK w' none 0 _ (ca_ hb) hl2 (.inl (by
      have:ss=[]:=List.eq_nil_of_length_eq_zero hz
      subst this;simp)) hmem (fq_ hnd)
    have hl0:l.length=0:=by omega
    rw [hl0] at this
    exact this
  · rw [hl,hes]
    refine hK w' _ _ _ (ca_ hb) hl2 (.inr ⟨gb,0,rfl,cur,_,_,hheap,λi hi=>?_⟩) hmem (fq_ hnd)
    have e:((ss.mergeSort λx y=>decide (x≤y)).map Iv)=cur.toList.take (ss.length*1):=htake.symm
    rw [e] at hi ⊢
    rw [List.length_take] at hi
    rw [Nat.zero_add,List.getElem?_take_of_lt (by omega),Array.getElem?_toList]
theorem nc_ {w:World} {mb:Option Nat} {K:Value→World→Prop} (hK:∀w' b,Grow w w'→b<w'.heap.size→w'.cell? ⟨b,0,none⟩=some (.map mb)→K (.func (.func 135) #[] #[.pointer (some ⟨b,0,none⟩)]) w'):aa_ PR 95 #[.map mb] w K:=by
  have cK:CallsIn Fence.wide 5 Tryz.prog 95 #[.map mb] w λe w'=>e=.returned (.func (.func 135) #[] #[.pointer (some ⟨w.heap.size,0,none⟩)])∧w'=w.alloc (.cells #[.map mb] 68):=AnyZI.keys_in Tryz.keysN Fence.wide 5 trivial rfl mb w
  refine bg_ ((callsIn_wide (n:=5)).1 cK) λe w' ⟨he,hw⟩=>⟨_,he,?_⟩
  subst hw
  exact hK _ _ (Chg.alloc w _) (by simp) (by simp)
theorem kQ_ {w:World} {b m:Nat} {l:List (Int × Value)} (hB:w.cell? ⟨b,0,none⟩=some (.map (some m))) (hbl:b<w.heap.size) (hM:MapI w m l) (hsz:l.length≤1000000) {K:Value→World→Prop}
    (hK:∀w' q c (L:List Int),Grow w w'→L.length=l.length→Sl w' q (L.map Iv)→(∀i,i∈L↔i∈l.map (·.1))→L.Pairwise (· < ·)→K (.slice q l.length c) w'):aa_ PR 38 #[.func (.func 135) #[] #[.pointer (some ⟨b,0,none⟩)]] w K:=by
  obtain ⟨es,clock,hm,hst,hes,hl1,hin⟩:=hM.ex
  have hk:∀x∈es.toList,∃l,keyOf PR T.int x.key=some l:=λx hx=>by
    obtain ⟨p,hp,e,_⟩:=hl1 x hx
    exact ⟨_,by rw [e];exact cS_ (hM.fit p hp).1 (hM.fit p hp).2⟩
  have hsz':es.size≤1000000:=by omega
  let R0:Value→Option (DataW Unit × List MemPlace):=λ_=>some (.nil,[])
  have F0:Fit PR T.int R0 es clock:=⟨Nat.le_trans hsz' (by decide),hst,λx hx=>by
    obtain ⟨l,hl⟩:=hk x hx
    exact ⟨_,rd_mk (born:=x.born) hl rfl⟩⟩
  have hown:w.ownsMap PR T.int R0 m es.size _:=World.ownsMap_of_fit hm F0 (λ_ _ _ h=>h)
  have hlen:=length_read (P:=PR) (k:=T.int) (R0:=R0) es
  have hsize:Maps.size (.map ((es.toList.map (rg PR T.int R0)).foldr DataW.insert []))=es.size:=hlen
  have hseq:SeqGives Fence.wide 2 Tryz.prog 135 #[.pointer (some ⟨b,0,none⟩)] encZ (λss=>ss.Perm (intKeys (.map ((es.toList.map (rg PR T.int R0)).foldr DataW.insert [])))) (Maps.size (.map ((es.toList.map (rg PR T.int R0)).foldr DataW.insert []))) w:=
    AnyZI.keys_gives (ρ:=Tryz.keysN_ren) { Tryz.keysN with } Fence.wide _ trivial rfl (by omega) b m es.size _ w hbl hB hown
  have cS:=AnyZI.sorted_in Tryz.sortedA Fence.wide 5 trivial trivial trivial trivial rfl (by omega) (nT_ _) (enters_of Tryz.func83 (by kernel_rfl) rfl) 135 #[.pointer (some ⟨b,0,none⟩)] trivial (enters_of Tryz.func135 (by kernel_rfl) rfl) _ _ (by rw [hsize];exact Nat.le_trans hsz' (by decide)) (by rw [hsize];omega) _ hseq
  change CallsIn _ _ Tryz.prog 38 _ _ _ at cS
  refine bg_ ((callsIn_wide (n:=5)).1 cS) λe w' ⟨v,ss,he,hS,hrow,hnil,hb⟩=>⟨v,he,?_⟩
  have hkey:∀y∈es.toList,∃p∈l,y.key=.int .i64 p.1∧intOf (rg PR T.int R0 y).1=p.1:=λy hy=>by
    obtain ⟨p,hp,e,_⟩:=hl1 y hy
    refine ⟨p,hp,e,?_⟩
    have hkl:keyOf PR T.int y.key=some (.int .i64 p.1):=by rw [e];exact cS_ (hM.fit p hp).1 (hM.fit p hp).2
    have e3:rg PR T.int R0 y=(.int .i64 p.1,.nil):=by
      unfold WideElems.rg WideElems.rd
      rw [hkl];rfl
    rw [e3];rfl
  have hperm:ss.Perm (es.toList.map λy=>intOf (rg PR T.int R0 y).1):=by
    refine hS.trans ?_
    show (List.map (λp:Lit × DataW Unit=>intOf p.1) _).Perm _
    refine ((dh_ _).map _).trans ?_
    rw [List.map_map]
    exact .refl _
  have hnd:ss.Nodup:=by
    refine hperm.nodup_iff.2 ?_
    have:=hst.2.2
    rw [List.nodup_iff_pairwise_ne,List.pairwise_map] at *
    refine this.imp_of_mem λ{y z} hy hz hne e=>hne ?_
    obtain ⟨p,_,e1,e2⟩:=hkey y hy
    obtain ⟨p',_,e3,e4⟩:=hkey z hz
    rw [e1,e3,← e2,← e4,e]
  have hl:ss.length=es.size:=by
    rw [hperm.length_eq,List.length_map,Array.length_toList]
  have hl2:(ss.mergeSort λx y=>decide (x≤y)).length=l.length:=by rw [List.length_mergeSort,hl,hes]
  have hmem:∀i,i∈(ss.mergeSort λx y=>decide (x≤y))↔i∈l.map (·.1):=λi=>by
    rw [(List.mergeSort_perm ss _).mem_iff,hperm.mem_iff,List.mem_map,List.mem_map]
    constructor
    · rintro ⟨y,hy,rfl⟩
      obtain ⟨p,hp,_,e⟩:=hkey y hy
      exact ⟨p,hp,e.symm⟩
    · rintro ⟨p,hp,rfl⟩
      obtain ⟨y,hy,e,_⟩:=hin p hp
      obtain ⟨p',_,e1,e2⟩:=hkey y hy
      exact ⟨y,hy,by rw [e2,← int_inj (e1.symm.trans e)]⟩
  obtain ⟨hrl,hrow⟩:=hrow
  rcases hrow with ⟨rfl,hz⟩ | ⟨gb,cap,cur,rfl,_,hheap,_,_,_,htake⟩
  · have:=hK w' none 0 _ (ca_ hb) hl2 (.inl (by
      have:ss=[]:=List.eq_nil_of_length_eq_zero hz
      subst this;simp)) hmem (fq_ hnd)
    have hl0:l.length=0:=by omega
    rw [hl0] at this
    exact this
  · rw [hl,hes]
    refine hK w' _ _ _ (ca_ hb) hl2 (.inr ⟨gb,0,rfl,cur,_,_,hheap,λi hi=>?_⟩) hmem (fq_ hnd)
    have e:((ss.mergeSort λx y=>decide (x≤y)).map Iv)=cur.toList.take (ss.length*1):=htake.symm
    rw [e] at hi ⊢
    rw [List.length_take] at hi
    rw [Nat.zero_add,List.getElem?_take_of_lt (by omega),Array.getElem?_toList]
end Go.Vc
