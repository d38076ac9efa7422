/-
  A part of the proof of the statement PubTellsCardSaid, in Lean: Hs4, MirR1, Kp2, Cn, MirF8, Pt0, MirM1, Mse, Aw2, MirF4, Pt1, RoT. By an AI agent.
-/
import Derived.Test.YtcfbeaibcgjihaaGreatDoorP12
import Derived.Test.YtcfbeaibcgjihaaGreatDoorP09
import Derived.Test.YtcfbeaibcgjihaaGreatDoorP05
import Derived.Test.YtcfbeaibcgjihaaGreatDoorP02
import Derived.Test.YtcfbeaibcgjihaaGreatDoorP07
import Derived.Test.YtcfbeaibcgjihaaGreatDoorP10
import Derived.Test.YtcfbeaibcgjihaaGreatDoorP11
import Derived.Test.YtcfbeaibcgjihaaGreatDoorP08
set_option linter.unusedSimpArgs false
set_option linter.unusedVariables false
set_option maxRecDepth 1000000
namespace Go.Vc
open Go Go.MapKept
theorem cc_ {q:Option Addr} {c:Nat} {l:List (Int × Int)} {w:World} (hs:Sl w q (encE l)) (hn:l.length≤1000000) {K:Value→World→Prop}
  (hK:∀w' q' c',Grow w w'→Own T.api_Shard 2 w' q' c' (encE l)→(∀a,q'=some a→w.heap.size≤a.block)→K (.slice q' l.length c') w'):CallV PR F.slices_Clone_sl_api_Shard_api_Shard ⟨[.slice q l.length c]⟩ w K:=by
 refine bh_ q l.length c S0 K w ⟨λh=>?_,λa ha b hb w0 h0=>?_⟩
 ·have:l=[]:=by
   rcases hs with hs | ⟨b,o,h',_⟩
   ·cases l with
    | nil=>rfl
    | cons e l=>cases hs
   ·rw [h] at h';cases h'
  subst this
  exact hK w none 0 (.refl _ _) (.nil _ _ _) λa ha=>by cases ha
 ·have hb0:=h0.blk 0 rfl
  have ho:Own T.api_Shard 2 w0 (some ⟨b,0,none⟩) 0 []:=.inr ⟨b,0,#[],rfl,hb0,rfl,by decide,by simp,λi hi=>by simp at hi⟩
  refine app0 (k:=2) u_shards tyI_shard rfl (by decide) (by decide) ho (hs.grow h0.grow) (by rw [encE_len]) (λy hy=>?_) (by omega) λq' c' w' ho hc g hq=>⟨_,_,_,rfl,h0.after g,hK w' q' c' (h0.grow.trans g) ho λa ha=>?_⟩
  ·obtain ⟨e,_,he⟩:=List.mem_flatMap.1 hy
   simp only [List.mem_cons,List.not_mem_nil,or_false] at he
   rcases he with rfl | rfl <;> rfl
  ·rcases hq a ha with e | e
   ·cases e;exact hb
   ·have:=h0.grow.size;omega
theorem al_ {m:Man} (hm:m.shards.length≤64) {q:Option Addr} {c:Nat} {w:World} (hs:Sl w q (encE m.shards)) {K:Value→World→Prop}
  (hK:∀w' q' c',Grow w w'→Own T.api_Shard 2 w' q' c' (encE m.shards)→(∀a,q'=some a→w.heap.size≤a.block)→K (mval m q' c') w'):CallV PR F.manifest_Copy ⟨[mval m q c]⟩ w K:=by
 refine manifest_Copy m.version m.nodes m.edges q m.shards.length c m.blocks (str m.root) S0 K w λa1 ha1 a2 ha2 w3 hF3=>?_
 have g3:Grow w w3:=hF3.grow
 have hl1:=hF3.lt
 refine cc_ (hs.grow g3) (by omega) λw4 q' c' g4 ho hq=>⟨_,_,_,rfl,hF3.after g4,λw5 hF5=>?_⟩
 have g5:Grow w w5:=hF5.gr
 have sz3:=g3.size
 refine hK w5 q' c' g5 (ho.keep hF5.stp λa ha e=>?_) λa ha=>Nat.le_trans sz3 (hq a ha)
 have h2:=hq a ha
 simp only [List.mem_cons,List.not_mem_nil,or_false] at e
 have h3:a1<w3.heap.size∧a2<w3.heap.size:=⟨by have:=hl1 _ (by first | exact List.mem_cons_self | exact List.mem_cons_of_mem _ List.mem_cons_self);simp only [] at this;exact this,by have:=hl1 _ (List.mem_cons_of_mem _ List.mem_cons_self);simp only [] at this;exact this⟩
 omega
def HS.addV (s:HS) (v:HV):HS:={ s with vs:=s.vs++[v] }
theorem aa_.addV {w w':World} {s:HS} (h:aa_ w s) (g:Chg (· = s.m) w w') {v:HV} (hv:HVAt w' v) (hno:∀x∈s.vs,x.man.version≠v.man.version) (hm:MapI w' s.m (putI (s.vs.map ptV) v.man.version (.pointer (some ⟨v.b,0,none⟩)))) (hf:∀k,vS v k→w.heap.size≤k) (hbo:v.bm≠v.om) (hb:v.bl=[]) (ho:v.ol=[]) (few:s.vs.length<3):aa_ w' (s.addV v):=by
 have off:∀ {k:Nat} {cs:Array Value} {t:TypeId} {f:Nat × Nat},w.heap[k]? = some (.cells cs t f)→¬k=s.m:=λhb e=>h.mp.ne hb e
 have hb0:=hf v.bm (.inr (.inl rfl))
 have ho0:=hf v.om (.inr (.inr (.inl rfl)))
 have hml:=h.mp.lt
 refine ⟨g.get h.blk (off h.blk),h.jr.keep g λk hk e=>?_,?_,λx hx=>?_,?_,λx hx p hp=>?_,by simp [HS.addV];omega,h.dl⟩
 ·have e':k=s.m:=e
  subst e';exact h.mj hk
 ·show MapI w' s.m ((s.vs++[v]).map ptV)
  rw [List.map_append]
  rw [putI_new λp hp=>by obtain ⟨x,hx,rfl⟩:=List.mem_map.1 hp;exact hno x hx] at hm
  exact hm
 ·rcases List.mem_append.1 hx with hx | hx
  ·have ap:=aW_ h.nd hx
   refine (h.vs x hx).keep g λk hk e=>?_
   have e':k=s.m:=e
   rcases hk with rfl | rfl | rfl | ⟨a,ha,rfl⟩
   ·exact off (h.vs x hx).blk e'
   ·exact ap.1 e'.symm
   ·exact ap.2.1 e'.symm
   ·obtain ⟨cs,hh⟩:=(h.vs x hx).own.ty ha
    exact off hh e'
  ·simp at hx;subst hx;exact hv
 ·show (s.m :: (s.vs++[v]).flatMap λv=>[v.bm,v.om]).Nodup
  rw [List.flatMap_append]
  show (([s.m]++s.vs.flatMap λv=>[v.bm,v.om])++[v].flatMap λv=>[v.bm,v.om]).Nodup
  rw [List.nodup_append]
  refine ⟨h.nd,by simp [hbo],λa ha b hb e=>?_⟩
  have hal:a<w.heap.size:=by
   rcases List.mem_append.1 ha with ha | ha
   ·simp at ha;omega
   ·obtain ⟨x,hx,hx2⟩:=List.mem_flatMap.1 ha
    simp at hx2
    rcases hx2 with rfl | rfl
    ·exact (h.vs x hx).bm.lt
    ·exact (h.vs x hx).om.lt
  simp at hb
  rcases hb with rfl | rfl <;> omega
 ·rcases List.mem_append.1 hx with hx | hx
  ·exact h.sl x hx p hp
  ·simp at hx;subst hx
   rw [hb,ho] at hp;cases hp
theorem cd_ {w:World} {s:HS} (h:aa_ w s) {m:Man} (hm:m.ok) {q:Option Addr} {c:Nat} (hs:Sl w q (encE m.shards)) (hno:∀x∈s.vs,x.man.version≠m.version) (few:s.vs.length<3) {K:Value→World→Prop}
  (hK:∀w' v,aa_ w' (s.addV v)→v.man=m→v.bl=[]→v.ol=[]→Chg (· = s.m) w w'→(∀k,vS v k→w.heap.size≤k)→K (.tuple #[]) w'):CallV PR F.p_hold_Hold_add ⟨[.pointer (some ⟨s.bh,0,none⟩),mval m q c]⟩ w K:=by
 have h0:=h.fs
 have hver:=hm.version
 have hsl:=hm.shards.1
 have hfit:fitsI m.version:=⟨by omega,by omega⟩
 refine ca_ s.bh (some ⟨s.bj,0,none⟩) (some s.m) s.act s.prep s.lv s.li m.version m.nodes m.edges q m.shards.length c m.blocks (str m.root) (hS s) K w h0 ⟨.inl rfl,trivial⟩ λl0 hl0=>?_
 have fin:∀ {w4 w3:World} {l3 bm om:Nat} {q':Option Addr} {c':Nat},Grow w w3→MapI w3 bm []→MapI w3 om []→bm≠om→w.heap.size≤bm→w.heap.size≤om→Own T.api_Shard 2 w3 q' c' (encE m.shards)→(∀a,q'=some a→w.heap.size≤a.block)→w3.heap.size≤l3→
   Fr (hS s) w w3 [] [⟨s.bh,hsC s,T.hold_Hold,true⟩,⟨l0,#[.int .i64 m.version,.int .i64 m.nodes,.int .i64 m.edges,.slice q m.shards.length c,.int .i64 m.blocks,.string (str m.root)],T.api_Manifest,true⟩,⟨l3,hvC ⟨m,q',c',l3,bm,om,[],[]⟩,T.hold_held,true⟩] w4→
   rn PR (Instr.mapUpdate T.map_int_p_hold_held (.map (some s.m)) (.int .i64 m.version) (.pointer (some ⟨l3,0,none⟩))) (λx0 w5=>Fs (hS s) w [⟨s.bh,hsC s,T.hold_Hold,true⟩,⟨l0,#[.int .i64 m.version,.int .i64 m.nodes,.int .i64 m.edges,.slice q m.shards.length c,.int .i64 m.blocks,.string (str m.root)],T.api_Manifest,true⟩,⟨l3,hvC ⟨m,q',c',l3,bm,om,[],[]⟩,T.hold_held,true⟩] w5∧K (.tuple #[]) w5) w4:=by
  intro w4 w3 l3 bm om q' c' g3 hb3 ho3 hbo hbf hof hown hqf hl3 hF4
  have g34:Grow w3 w4:=hF4.grow
  have g4:Grow w w4:=g3.trans g34
  have sz3:=g3.size
  have hbl:=hb3.lt
  have hol:=ho3.lt
  have hml:=h.mp.lt
  refine updateI_rn an_ (h.mp.grow g4) hfit λw5 hm5 c5 s5=>?_
  have hlb:∀ {b:Nat} {cs:Array Value} {t:TypeId} {f:Nat × Nat},w4.heap[b]? = some (.cells cs t f)→¬b=s.m:=λhb e=>(h.mp.grow g4).ne hb e
  have hF5:=hF4.step c5 (λx hx=>hlb (hF4.loc x hx)) (λk hk e=>.inr (.inr (.inl e)))
  have c05:Chg (· = s.m) w w5:=g4.chg.trans c5 λ_ _ e=>e
  have hf:∀k,vS ⟨m,q',c',l3,bm,om,[],[]⟩ k→w.heap.size≤k:=by
   rintro k (rfl | rfl | rfl | ⟨a,ha,rfl⟩)
   ·omega
   ·exact hbf
   ·exact hof
   ·exact hqf a ha
  refine ⟨hF5,hK w5 ⟨m,q',c',l3,bm,om,[],[]⟩ (h.addV c05 ⟨hF5.blk 2 rfl,?_,?_,?_,hm,λp hp=>by cases hp⟩ hno hm5 hf hbo rfl rfl few) rfl rfl rfl c05 hf⟩
  ·refine (hown.grow g34).keep c5 λa ha e=>?_
   have e':a.block=s.m:=e
   have:=hqf a ha;omega
  ·exact (hb3.grow g34).keep c5 (λe=>by have e':bm=s.m:=e;omega)
  ·exact (ho3.grow g34).keep c5 (λe=>by have e':om=s.m:=e;omega)
 refine ⟨λw0 hF0=>?_,λw0 hF0=>?_,λw0 hF0=>?_⟩
 ·have g0:Grow w w0:=hF0.grow
  have s0:=g0.size
  refine al_ hsl (hs.grow g0) λw1 q' c' g1 ho hq=>⟨_,_,_,_,_,_,_,_,rfl,hF0.after g1,?_,?_⟩
  ·have hF1:=hF0.after g1
   have s1:=g1.size
   refine makeI_rn λw2 r1 hr1 hm1 g2=>⟨_,rfl,hF1.after g2,makeI_rn λw3 r2 hr2 hm2 g3=>⟨_,rfl,(hF1.after g2).after g3,λl3 hl3 w4 hF4=>?_⟩⟩
   have s2:=g2.size
   have:=hm1.lt
   exact fin (((g0.trans g1).trans g2).trans g3) (hm1.grow g3) hm2 (by omega) (by omega) (by omega) ((ho.grow g2).grow g3) (λa ha=>Nat.le_trans s0 (hq a ha)) hl3 hF4
  ·have hF1:=hF0.after g1
   have s1:=g1.size
   refine makeI_rn λw2 r1 hr1 hm1 g2=>⟨_,rfl,hF1.after g2,makeI_rn λw3 r2 hr2 hm2 g3=>⟨_,rfl,(hF1.after g2).after g3,λl3 hl3 w4 hF4=>?_⟩⟩
   have s2:=g2.size
   have:=hm1.lt
   exact fin (((g0.trans g1).trans g2).trans g3) hm2 (hm1.grow g3) (by omega) (by omega) (by omega) ((ho.grow g2).grow g3) (λa ha=>Nat.le_trans s0 (hq a ha)) hl3 hF4
 ·have g0:Grow w w0:=hF0.grow
  have s0:=g0.size
  refine makeI_rn λw1 r1 hr1 hm1 g1=>⟨_,rfl,hF0.after g1,?_,?_⟩
  ·have hF1:=hF0.after g1
   have s1:=g1.size
   have:=hm1.lt
   refine al_ hsl (hs.grow (g0.trans g1)) λw2 q' c' g2 ho hq=>⟨_,_,_,_,_,_,_,_,rfl,hF1.after g2,makeI_rn λw3 r2 hr2 hm2 g3=>⟨_,rfl,(hF1.after g2).after g3,λl3 hl3 w4 hF4=>?_⟩⟩
   have s2:=g2.size
   exact fin (((g0.trans g1).trans g2).trans g3) ((hm1.grow g2).grow g3) hm2 (by omega) (by omega) (by omega) (ho.grow g3) (λa ha=>by have:=hq a ha;omega) hl3 hF4
  ·have hF1:=hF0.after g1
   have s1:=g1.size
   have:=hm1.lt
   refine makeI_rn λw2 r2 hr2 hm2 g2=>⟨_,rfl,hF1.after g2,?_⟩
   have s2:=g2.size
   refine al_ hsl (hs.grow ((g0.trans g1).trans g2)) λw3 q' c' g3 ho hq=>⟨_,_,_,_,_,_,_,_,rfl,(hF1.after g2).after g3,λl3 hl3 w4 hF4=>?_⟩
   exact fin (((g0.trans g1).trans g2).trans g3) ((hm1.grow g2).grow g3) (hm2.grow g3) (by omega) (by omega) (by omega) ho (λa ha=>by have:=hq a ha;omega) hl3 hF4
 ·have g0:Grow w w0:=hF0.grow
  have s0:=g0.size
  refine makeI_rn λw1 r1 hr1 hm1 g1=>⟨_,rfl,hF0.after g1,?_,?_⟩
  ·have hF1:=hF0.after g1
   have s1:=g1.size
   have:=hm1.lt
   refine al_ hsl (hs.grow (g0.trans g1)) λw2 q' c' g2 ho hq=>⟨_,_,_,_,_,_,_,_,rfl,hF1.after g2,makeI_rn λw3 r2 hr2 hm2 g3=>⟨_,rfl,(hF1.after g2).after g3,λl3 hl3 w4 hF4=>?_⟩⟩
   have s2:=g2.size
   exact fin (((g0.trans g1).trans g2).trans g3) hm2 ((hm1.grow g2).grow g3) (by omega) (by omega) (by omega) (ho.grow g3) (λa ha=>by have:=hq a ha;omega) hl3 hF4
  ·have hF1:=hF0.after g1
   have s1:=g1.size
   have:=hm1.lt
   refine makeI_rn λw2 r2 hr2 hm2 g2=>⟨_,rfl,hF1.after g2,?_⟩
   have s2:=g2.size
   refine al_ hsl (hs.grow ((g0.trans g1).trans g2)) λw3 q' c' g3 ho hq=>⟨_,_,_,_,_,_,_,_,rfl,(hF1.after g2).after g3,λl3 hl3 w4 hF4=>?_⟩
   exact fin (((g0.trans g1).trans g2).trans g3) (hm2.grow g3) ((hm1.grow g2).grow g3) (by omega) (by omega) (by omega) ho (λa ha=>by have:=hq a ha;omega) hl3 hF4
def HS.addM (s:HS) (j:JP) (v:HV):HS:={ s with j:=j,recs:=s.recs++[recM v.man],d:=s.d.put (-1) (sealL crcN (recM v.man)),vs:=s.vs++[v] }
theorem aa_.jrn {w w':World} {s:HS} (h:aa_ w s) (g:Chg (jfS s.bj s.j) w w') {j:JP} {recs:List (List UInt8)} {d:DM} (jr:JrnF w' s.bj j recs d) (hd:d.sl.length=s.d.sl.length):aa_ w' { s with j:=j,recs:=recs,d:=d }:=
 ⟨g.get h.blk h.bhj,jr,h.mp.keep g h.mj,λv hv=>(h.vs v hv).keep g λk hk e=>by
  rcases hk with rfl | rfl | rfl | ⟨a,ha,rfl⟩
  ·exact h.jr.other (h.vs v hv).blk (.inr (.inl rfl)) e
  ·exact h.jr.map (h.vs v hv).bm e
  ·exact h.jr.map (h.vs v hv).om e
  ·obtain ⟨cs,hh⟩:=(h.vs v hv).own.ty ha
   exact h.jr.other hh (.inr (.inr rfl)) e,h.nd,λv hv p hp=>by show 0≤p.2.1∧p.2.1<d.sl.length;rw [hd];exact h.sl v hv p hp,h.few,by show d.sl.length≤4096;rw [hd];exact h.dl⟩
theorem bn_ {m:Man} (h:m.ok):(recM m).length≤1+8*133+40:=by
 have h1:=shorts_len h.nums
 have h2:m.nums.length=5+2*m.shards.length:=by simp [Man.nums,pairsL_len];omega
 have h3:=h.shards.1
 have h4:=h.root
 have h5:=putShort_le8 (n:=m.root.length) (by omega)
 simp only [recM,putMan,List.length_append,List.length_cons,List.length_nil]
 omega
theorem ce_ {w:World} {s:HS} (h:aa_ w s) (hr:cy_ s) {m:Man} (hm:m.ok) {q:Option Addr} {c:Nat} (hs:Sl w q (encE m.shards)) (hqj:∀a,q=some a→¬jfS s.bj s.j a.block) (hno:∀x∈s.vs,x.man.version≠m.version) (hact:s.act<m.version) (few:s.vs.length<3) {K:Value→World→Prop}
  (hK:∀w' j v,aa_ w' (s.addM j v)→v.man=m→v.bl=[]→v.ol=[]→Chg (hS s) w w'→(∀k,vS v k→w.heap.size≤k)→(∀k,hS (s.addM j v) k→hS s k∨w.heap.size≤k)→K .nilIface w'):CallV PR F.p_hold_Hold_Add ⟨[.pointer (some ⟨s.bh,0,none⟩),mval m q c]⟩ w K:=by
 have h0:=h.fs
 have hver:=hm.version
 have hsl:=hm.shards.1
 have hfit:fitsI m.version:=⟨by omega,by omega⟩
 obtain ⟨hr1,hr2,hr3⟩:=hr
 have hrl:=bn_ hm
 have hbl:=heap_lt h.blk
 refine aZ_ s.bh (some ⟨s.bj,0,none⟩) (some s.m) s.act s.prep s.lv s.li m.version m.nodes m.edges q m.shards.length c m.blocks (str m.root) (hS s) K w h0 ⟨.inl rfl,trivial⟩ λl0 hl0 w0 hF0=>?_
 have g0:Grow w w0:=hF0.grow
 refine MPut_ok hm (hs.grow g0) λw1 g1=>⟨_,_,rfl,hF0.after g1,λ_ w2 hF2=>⟨λ_=>True,trivial,?_⟩,(λt x h=>by cases h),.inl rfl⟩
 have g2:Grow w w2:=(g0.trans g1).trans hF2.grow
 refine lookupI_rn an_ (h.mp.grow g2) hfit false ay_ (λx hx=>?_) λ_=>⟨none,rfl,hF2.reset,trivial,λw4 hF4=>⟨λ_=>True,trivial,λ_ w5 hF5=>⟨λ_=>True,trivial,λ_=>⟨λhle=>absurd hact (by omega),λ_=>?_⟩,λa ha=>by cases ha⟩,λa ha=>by cases ha⟩⟩
 ·obtain ⟨v,hv,e⟩:=List.mem_map.1 hx
  exact absurd (congrArg Prod.fst e) (hno v hv)
 have g5:Grow w w5:=(g2.trans hF4.grow).trans hF5.grow
 refine bT_ an_ (h.mp.grow g5) ⟨_,rfl,hF5.reset,λh3=>absurd h3 (by rw [List.length_map];omega),λ_=>⟨by rw [str_size];simp only [recM,List.length_append,List.length_cons,List.length_nil] at hrl;omega,λl1 hl1 w7 hF7=>?_⟩⟩
 have g7:Grow w w7:=g5.trans hF7.grow
 have e77:(⟨#[77]⟩:ByteArray)++str (putMan m)=str (recM m):=by rw [recM,← str_append];rfl
 rw [e77] at hF7
 have s5:=g5.size
 have hl0n:¬jfS s.bj s.j l0:=λe=>by have:=h.jr.lt l0 e;omega
 have hl1n:¬jfS s.bj s.j l1:=λe=>by have:=h.jr.lt l1 e;omega
 refine aN_ (s:=recM m) ((h.grow g7).jr) (hF7.sl 2 rfl) (λa ha=>by cases ha;exact hl1n) (by omega) (by omega) (by omega) (by omega) λw8 j hj c8 hbd hst=>?_
 have hF8:=hF7.step c8 (λx hx=>by
  simp only [List.mem_cons,List.not_mem_nil,or_false] at hx
  rcases hx with rfl | rfl | rfl
  ·exact h.bhj
  ·exact hl0n
  ·exact hl1n) λk _ e=>.inr (.inl e)
 have c08:Chg (jfS s.bj s.j) w w8:=g7.chg.trans c8 λ_ _ e=>e
 have hlen:(s.d.put (-1) (sealL crcN (recM m))).sl.length=s.d.sl.length:=by
  unfold DM.put DM.now;rw [if_pos rfl]
 have h8:=h.jrn c08 hj hlen
 have s7:=g7.size
 refine ⟨_,rfl,_,hF8,λ_=>?_,(λt x h=>by cases h),.inl rfl⟩
 refine cd_ h8 hm (hs.keep c08 hqj) hno few λw9 v h9 hvm hvb hvo c9 hf9=>⟨rfl,_,_,_,_,_,_,(hF8.sub (L':=[⟨s.bh,hsC s,T.hold_Hold,true⟩,⟨l0,#[.int .i64 m.version,.int .i64 m.nodes,.int .i64 m.edges,.slice q m.shards.length c,.int .i64 m.blocks,.string (str m.root)],T.api_Manifest,true⟩]) (((List.nil_sublist _).cons_cons _).cons_cons _)).step c9 (λx hx e=>?_) (λk _ e=>.inr (.inr (.inl e))),?_⟩
 ·have e':x.b=s.m:=e
  simp only [List.mem_cons,List.not_mem_nil,or_false] at hx
  rcases hx with rfl | rfl
  ·exact h.mp.ne h.blk e'
  ·have:=h.mp.lt
   simp only [] at e';omega
 ·have s8:=c08.size
  subst hvm
  refine hK w9 j v h9 rfl hvb hvo ((c08.mono λk _ e=>.inr (.inl e)).trans c9 λk _ e=>.inr (.inr (.inl e))) (λk hk=>Nat.le_trans s8 (hf9 k hk)) λk hk=>?_
  rcases hk with hk | hk | hk | ⟨x,hx,hk⟩
  ·exact .inl (.inl hk)
  ·rcases hst k hk with e | e
   ·exact .inl (.inr (.inl e))
   ·exact .inr (Nat.le_trans s7 e)
  ·exact .inl (.inr (.inr (.inl hk)))
  ·rcases List.mem_append.1 hx with hx | hx
   ·exact .inl (.inr (.inr (.inr ⟨x,hx,hk⟩)))
   ·simp at hx;subst hx
    refine .inr (Nat.le_trans s8 (hf9 k ?_))
    rcases hk with e | e
    ·exact .inr (.inl e)
    ·exact .inr (.inr (.inl e))
theorem a9_ {w:World} {bd:Nat} {p:DP} {d:DM} (h:DskF w bd p d) (hl:d.log=[]) (hw:d.ws=[]) {K:Value→World→Prop} (hK:∀w' bj,Grow w w'→w.heap.size≤bj→JrnF w' bj ⟨bd,p,none,0⟩ [] d→K (.tuple #[.pointer (some ⟨bj,0,none⟩),.nilIface]) w'):CallV PR F.journal_Open ⟨[.pointer (some ⟨bd,0,none⟩)]⟩ w K:=by
 have hfr:∀ {w':World},Grow w w'→Fs S0 w [] w':=λg=>(Fr.init _ w).after g
 refine journal_Open' (some ⟨bd,0,none⟩) S0 K w ?_
 refine b0_ h ⟨_,_,rfl,.init _ w,λ_=>?_,(λt x h=>by cases h),.inl rfl⟩
 rw [hl]
 refine AllEmpty_spec λw1 g1=>⟨_,_,_,_,rfl,hfr g1,λh=>absurd h (by decide),λ_=>⟨λ_=>?_,(λt x h=>by cases h),.inl rfl⟩⟩
 refine bi_ (h.grow g1) ⟨_,rfl,hfr g1,λhc=>by rw [hw] at hc;simp at hc,λ_=>⟨λ_ b hb w2 hF2=>?_,(λt x h=>by cases h),.inl rfl⟩⟩
 have s1:=g1.size
 have h2:=h.grow hF2.chg
 refine hK w2 b hF2.chg (by omega) ⟨hF2.blk 0 rfl,.nil _ _ _,Nat.le_refl _,h2,by rw [hl];rfl,λe=>?_,(λ⟨a,ha,_⟩=>by cases ha),λk ⟨a,ha,_⟩=>by cases ha⟩
 have:=h.lt b e;omega
theorem bD_ {w:World} {bj:Nat} {j:JP} {recs:List (List UInt8)} {d:DM} (h:JrnF w bj j recs d) (hn:recs.length≤1000000) {K:Value→World→Prop}
  (hK:∀w' q' c',Grow w w'→Own T.string 1 w' q' c' (recs.map sv8')→K (.slice q' recs.length c') w'):CallV PR F.p_journal_Journal_All ⟨[.pointer (some ⟨bj,0,none⟩)]⟩ w K:=by
 have h0:Fs (· = bj) w [⟨bj,#[.pointer (some ⟨j.bd,0,none⟩),.slice j.q recs.length j.c,.int .i64 (logL recs).length],T.journal_Journal,true⟩] w:=(Fr.init _ w).entry h.blk (λx h=>by cases h) λ_=>rfl
 refine journal_Journal_All bj (some ⟨j.bd,0,none⟩) j.q recs.length j.c (logL recs).length (· = bj) K w h0 ⟨rfl,trivial⟩ ?_
 have e:recs.map sv8'=(recs.map str).map sv1:=by rw [List.map_map];rfl
 have hs:=h.own.sl
 rw [e] at hs
 refine cloneStr_spec hs (by simp) hn λw1 q' c' g1 ho hc hof=>⟨_,_,_,rfl,h0.after g1,hK w1 q' c' g1 (by rw [e];exact ho)⟩
theorem a2_ {w:World} {s:HS} (h:aa_ w s) {K:Value→World→Prop} (hK:∀w' q c (L:List Int),Grow w w'→L.length=s.vs.length→Sl w' q (L.map Iv)→(∀i,i∈L↔∃v∈s.vs,v.man.version=i)→L.Pairwise (· < ·)→K (.slice q s.vs.length c) w'):CallV PR F.p_hold_Hold_Versions ⟨[.pointer (some ⟨s.bh,0,none⟩)]⟩ w K:=by
 have h0:=h.fs
 have few:=h.few
 refine ao_ s.bh (some ⟨s.bj,0,none⟩) (some s.m) s.act s.prep s.lv s.li (hS s) K w h0 ⟨.inl rfl,trivial⟩ ?_
 refine KeysH_spec λw1 b g1 hb hc=>⟨_,rfl,h0.after g1,?_⟩
 refine SortedH_spec hc hb (h.mp.grow g1) (by rw [List.length_map];omega) λw2 q c L g2 hl hs hm hp=>?_
 rw [List.length_map] at hl ⊢
 refine ⟨_,_,_,rfl,(h0.after g1).after g2,hK w2 q c L (g1.trans g2) hl hs (λi=>?_) hp⟩
 rw [hm i,List.map_map,List.mem_map]
 exact Iff.rfl
def HS.zero (bh bj m:Nat) (j:JP) (d:DM):HS:=⟨bh,bj,m,j,[],d,[],0,0,0,0⟩
theorem bl_ {w:World} {bd:Nat} {p:DP} {d:DM} (h:DskF w bd p d) (hl:d.log=[]) (hw:d.ws=[]) (hd:d.sl.length≤4096) {K:Value→World→Prop}
  (hK:∀w' bh bj m j,Grow w w'→aa_ w' (HS.zero bh bj m j d)→(∀k,hA (HS.zero bh bj m j d) k→dfS bd p k∨w.heap.size≤k)→K (.tuple #[.pointer (some ⟨bh,0,none⟩),.nilIface]) w'):CallV PR F.hold_Open ⟨[.pointer (some ⟨bd,0,none⟩)]⟩ w K:=by
 refine hold_Open (some ⟨bd,0,none⟩) S0 K w ?_
 refine a9_ h hl hw λw0 bj g0 hbj hj=>⟨_,_,rfl,(Fr.init _ w).after g0,λ_=>?_,(λt x h=>by cases h),.inl rfl⟩
 have hF0:Fs S0 w [] w0:=(Fr.init _ w).after g0
 refine makeI_rn λw1 m hm0 hm g1=>⟨_,rfl,hF0.after g1,λbh hbh w2 hF2=>?_⟩
 have s0:=g0.size
 have s1:=g1.size
 have hml:=hm.lt
 have g2:Grow w1 w2:=hF2.grow
 have hj2:=hj.grow (g1.trans g2)
 have H2:aa_ w2 (HS.zero bh bj m ⟨bd,p,none,0⟩ d):=⟨hF2.blk 0 rfl,hj2,hm.grow g2,(λv hv=>by cases hv),by simp [HS.zero],(λv hv=>by cases hv),Nat.zero_le _,hd⟩
 refine bD_ hj2 (by simp) λw3 q c g3 ho=>⟨_,_,_,rfl,hF2.after g3,?_⟩
 have hF3:=hF2.after g3
 refine ⟨λn q3 q4 n1 n2 n3 n4 lv w'=>n=0∧q3=some ⟨bj,0,none⟩∧q4=some m∧n1=0∧n2=0∧n3=0∧n4=0∧Grow w2 w',⟨0,rfl,rfl,rfl,rfl,rfl,rfl,rfl,g3⟩,?_⟩
 rintro n q3 q4 n1 n2 n3 n4 D lv w4 ⟨rfl,rfl,rfl,rfl,rfl,rfl,rfl,g4⟩ hF4
 refine ⟨λhlt=>absurd hlt (by simp),λ_=>?_⟩
 refine a2_ (H2.grow g4) λw6 q6 c6 L g6 hL _ _ _=>⟨_,_,_,rfl,hF4.after g6,?_⟩
 refine ⟨λn q3 q4 n1 n2 n3 n4 lv w'=>n=0∧q3=some ⟨bj,0,none⟩∧q4=some m∧n1=0∧n2=0∧n3=0∧n4=0∧Grow w2 w',⟨0,rfl,rfl,rfl,rfl,rfl,rfl,rfl,g4.trans g6⟩,?_⟩
 rintro n q8 q9 n1 n2 n3 n4 D lv w7 ⟨rfl,rfl,rfl,rfl,rfl,rfl,rfl,g7⟩ hF7
 refine ⟨λhlt=>absurd hlt (by simp [HS.zero]),λ_=>?_⟩
 refine hK w7 bh bj m ⟨bd,p,none,0⟩ hF7.gr (H2.grow g7) λk hk=>?_
 rcases hk with (rfl | hk | rfl | ⟨v,hv,_⟩) | ⟨v,hv,_⟩
 ·exact .inr (by simp only [HS.zero] at *;omega)
 ·rcases hk with rfl | hk | ⟨a,ha,_⟩
  ·exact .inr hbj
  ·exact .inl hk
  ·cases ha
 ·exact .inr (by simp only [HS.zero] at *;omega)
 ·cases hv
 ·cases hv
end Go.Vc
namespace Go.Vc
open Go
theorem b6_ (k0:Nat) (p1:Option Addr) (m2:Int) (m3:Int) (m4:Int) (g5:Option Nat) (S:SP) (K:KP) (w:World) (hF:Fs S w [⟨k0,#[.pointer p1,.int .i64 m2,.int .i64 m3,.int .i64 m4,.map g5],175,true⟩] w) (hS:S k0∧True) (h:CallV PR 94 #[.map g5] w λv0 w0=>∃v1,v0=v1∧Fs S w [⟨k0,#[.pointer p1,Iv m2,Iv m3,Iv m4,.map g5],175,true⟩] w0∧CallV PR 63 #[v1] w0 λv2 w1=>∃q0 l0 l1,v2=.slice q0 l0 l1∧Fs S w [⟨k0,#[.pointer p1,Iv m2,Iv m3,Iv m4,.map g5],175,true⟩] w1∧K (.slice q0 l0 l1) w1):CallV PR 44 ⟨[.pointer (some ⟨k0,0,none⟩)]⟩ w K:=
 call_of_vc3 (okf:=⟨okL,[]⟩) okL_ok (args:=[.c (.p 0 k0 true 0)]) (H:=[⟨k0,.l [.v (.pointer p1),.v (.int .i64 m2),.v (.int .i64 m3),.v (.int .i64 m4),.v (.map g5)],175,true⟩]) (.s .z (.s .z (.s (.r ⟨(some [0]),false,[],[]⟩) .z))) Go.Proofs.Tryz.func44 rfl ⟨rfl,trivial⟩ ⟨⟨trivial,⟨trivial,⟨trivial,⟨trivial,⟨trivial,trivial⟩⟩⟩⟩⟩,trivial⟩ hF hS (cast_vc (by kernel_rfl) h)
end Go.Vc
namespace Go.Vc
open Go Go.RowKit Go.Maps Go.Sort Go.Shelf Go.Proofs Go.MapKept
open Go.WideElems (Fit rd rg rd_mk)
theorem bS_ {H:Type} {a x:Lit × DataW H} : ∀l:List (Lit × DataW H),x∈DataW.insert a l→x=a∨x∈l
 | [],h=>.inl (by simpa [DataW.insert] using h)
 | y :: r,h=>by
  unfold DataW.insert at h
  split at h
  ·rcases List.mem_cons.1 h with h | h
   ·exact .inl h
   ·exact .inr h
  ·rcases List.mem_cons.1 h with h | h
   ·exact .inr (by rw [h];exact List.mem_cons_self)
   ·exact (bS_ r h).imp id λh=>List.mem_cons_of_mem _ h
theorem a7_ {H:Type} {x:Lit × DataW H} : ∀l:List (Lit × DataW H),x∈l.foldr DataW.insert []→x∈l
 | [],h=>by cases h
 | a :: l,h=>(bS_ _ h).elim (λe=>by rw [e];exact List.mem_cons_self) λh=>List.mem_cons_of_mem _ (a7_ l h)
theorem bk_ {w:World} {b m:Nat} {es:Array MapEntry} {clock:Nat} (hB:w.cell? ⟨b,0,none⟩=some (.map (some m))) (hbl:b<w.heap.size) (hm:w.heap[m]? = some (.map es clock)) (hst:Stamped es clock) (hk:∀x∈es.toList,∃l,keyOf PR T.int x.key=some l) (hsz:es.size≤1000000) {K:Value→World→Prop}
  (hK:∀w' q c (ss:List Int),Grow w w'→ss.length=es.size→Sl w' q (ss.map Iv)→(∀v∈ss,∃y∈es.toList,y.key=.int .i64 v)→K (.slice q es.size c) w'):CallV PR 63 #[.func (.func 162) #[] #[.pointer (some ⟨b,0,none⟩)]] w K:=by
 let R0:Value→Option (DataW Unit × List MemPlace):=λ_=>some (.nil,[])
 have F0:Fit PR T.int R0 es clock:=⟨Nat.le_trans hsz (by decide),hst,λx hx=>by
  obtain ⟨l,hl⟩:=hk x hx
  exact ⟨_,rd_mk (born:=x.born) hl rfl⟩⟩
 have hown:w.ownsMap PR T.int R0 m es.size _:=World.ownsMap_of_fit hm F0 (λ_ _ _ h=>h)
 have hlen:=length_read (P:=PR) (k:=T.int) (R0:=R0) es
 have hsize:Maps.size (.map ((es.toList.map (rg PR T.int R0)).foldr DataW.insert []))=es.size:=hlen
 have hseq:SeqGives Fence.wide 2 Tryz.prog 162 #[.pointer (some ⟨b,0,none⟩)] encZ (λss=>ss.Perm (intKeys (.map ((es.toList.map (rg PR T.int R0)).foldr DataW.insert [])))) (Maps.size (.map ((es.toList.map (rg PR T.int R0)).foldr DataW.insert []))) w:=
  AnyZI.keys_gives (ρ:=Tryz.keysA_ren) { Tryz.keysA with } Fence.wide _ trivial rfl (by omega) b m es.size _ w hbl hB hown
 have cS:=AnyZI.sorted_in Tryz.sortedA Fence.wide 5 trivial trivial trivial trivial rfl (by omega) (sortsK _) (enters_of Tryz.func132 (by kernel_rfl) rfl) 162 #[.pointer (some ⟨b,0,none⟩)] trivial (enters_of Tryz.func162 (by kernel_rfl) rfl) _ _ (by rw [hsize];exact Nat.le_trans hsz (by decide)) (by rw [hsize];omega) _ hseq
 change CallsIn _ _ Tryz.prog 63 _ _ _ at cS
 refine callV_of ((callsIn_wide (n:=5)).1 cS) λe w' ⟨v,ss,he,hS,hrow,hnil,hb⟩=>⟨v,he,?_⟩
 have hl:ss.length=es.size:=by
  rw [hS.length_eq,← hlen]
  show (List.map _ _).length=_
  rw [List.length_map]
 have hl2:(ss.mergeSort λx y=>decide (x≤y)).length=es.size:=by rw [List.length_mergeSort,hl]
 have hmem:∀v∈(ss.mergeSort λx y=>decide (x≤y)),∃y∈es.toList,y.key=.int .i64 v:=λv hv=>by
  have h1:v∈ss:=(List.mergeSort_perm ss _).mem_iff.1 hv
  have h2:=hS.mem_iff.1 h1
  obtain ⟨p,hp,hpv⟩:=List.mem_map.1 h2
  obtain ⟨y,hy,rfl⟩:=List.mem_map.1 (a7_ _ hp)
  obtain ⟨l,hkl⟩:=hk y hy
  obtain ⟨z,e1,e2,_⟩:=Maps.keyOf_i64 (k:=T.int) (show PR.underlying T.int=some (.int .i64) by kernel_rfl) hkl
  refine ⟨y,hy,?_⟩
  have e3:rg PR T.int R0 y=(l,.nil):=by
   unfold WideElems.rg WideElems.rd
   rw [hkl];rfl
  rw [e3,e2] at hpv
  rw [e1]
  have:z=v:=hpv
  rw [this]
 obtain ⟨hrl,hrow⟩:=hrow
 rcases hrow with ⟨rfl,hz⟩ | ⟨gb,cap,cur,rfl,_,hheap,_,_,_,htake⟩
 ·have:=hK w' none 0 _ (grow_below hb) hl2 (.inl (by
   have:ss=[]:=List.eq_nil_of_length_eq_zero hz
   subst this;simp)) hmem
  rw [← hl,hz] at this
  exact this
 ·rw [hl]
  refine hK w' _ _ _ (grow_below hb) hl2 (.inr ⟨gb,0,rfl,cur,_,_,hheap,λi hi=>?_⟩) hmem
  have e:((ss.mergeSort λx y=>decide (x≤y)).map Iv)=cur.toList.take (ss.length*1):=htake.symm
  rw [e] at hi ⊢
  rw [List.length_take] at hi
  rw [Nat.zero_add,List.getElem?_take_of_lt (by omega),Array.getElem?_toList]
def bg_ (x:PubS) (i:Nat):Prop:=1≤i∧i≤x.last∧(x.last<i+3∨i=x.com)
theorem PubAt.cA_ {N:Nat} {w:World} {x:PubS} (h:PubAt N w x):∃es clock,w.heap[x.m]? = some (.map es clock)∧Stamped es clock∧(∀y∈es.toList,∃l,keyOf PR T.int y.key=some l)∧es.size≤1000000∧(∀y∈es.toList,∃i:Nat,y.key=.int .i64 (i:Int)∧bg_ x i)∧∃ns:List Nat,ns.length=es.size∧ns.Nodup∧∀i,i∈ns↔bg_ x i:=by
 obtain ⟨n,es,clock,h1,h2,h3,h4,h5⟩:=h.map
 have hs:=h.small
 have hkey:∀y∈es.toList,∃i:Nat,y.key=.int .i64 (i:Int)∧bg_ x i:=λy hy=>by
  have hr:=(h5 y.key y.val).2 ⟨y,hy,rfl,rfl⟩
  obtain ⟨i,b,c,mn,list,k1,k2,k3,_⟩:=h.kept y.key y.val hr
  rw [k3] at hr
  exact ⟨i,k3,k1,k2,h.only i _ hr⟩
 let nat:Value→Nat:=λv=>match v with | .int _ i=>i.toNat | _=>0
 have hnd:((es.toList.map (·.key)).map nat).Nodup:=by
  refine List.pairwise_map.2 (h2.2.2.imp_of_mem λ{a b} ha hb hne e=>hne ?_)
  obtain ⟨y,hy,rfl⟩:=List.mem_map.1 ha
  obtain ⟨z,hz,rfl⟩:=List.mem_map.1 hb
  obtain ⟨i,e1,_⟩:=hkey y hy
  obtain ⟨j,e2,_⟩:=hkey z hz
  rw [e1,e2] at e ⊢
  have:i=j:=by simpa [nat] using e
  rw [this]
 have hmem:∀i,i∈((es.toList.map (·.key)).map nat)↔bg_ x i:=λi=>by
  constructor
  ·intro hi
   obtain ⟨k,hk,rfl⟩:=List.mem_map.1 hi
   obtain ⟨y,hy,rfl⟩:=List.mem_map.1 hk
   obtain ⟨j,e1,hj⟩:=hkey y hy
   rw [e1];exact hj
  ·rintro ⟨a,b,c⟩
   obtain ⟨v,hv⟩:=h.has i a b c
   obtain ⟨y,hy,e1,_⟩:=(h5 _ _).1 hv
   exact List.mem_map.2 ⟨y.key,List.mem_map.2 ⟨y,hy,rfl⟩,by rw [e1];rfl⟩
 refine ⟨es,clock,h1,h2,h4,?_,hkey,_,by simp,hnd,hmem⟩
 have:=nodup_le 200001 _ hnd λv hv=>by
  have:=(hmem v).1 hv
  have:=this.2.1
  omega
 simp only [List.length_map,Array.length_toList] at this
 omega
theorem b1_ {N:Nat} {w:World} {x:PubS} (h:PubAt N w x) {K:Value→World→Prop}
  (hK:∀w' q n c (ss:List Int) (ns:List Nat),Grow w w'→ss.length=n→n≤1000000→Sl w' q (ss.map Iv)→(∀v∈ss,∃i:Nat,v=i∧bg_ x i)→ns.length=n→ns.Nodup→(∀i,i∈ns↔bg_ x i)→K (.slice q n c) w'):CallV PR F.p_pub_Pub_Kept ⟨[.pointer (some ⟨x.p,0,none⟩)]⟩ w K:=by
 obtain ⟨es,clock,hm,hst,hk,hsz,hkey,ns,n1,n2,n3⟩:=h.cA_
 have hF:Fs (· = x.p) w [⟨x.p,pubC x.bj x.each x.last x.com x.m,T.pub_Pub,true⟩] w:=(Fr.init _ w).entry h.blk (λx h=>by cases h) λ_=>rfl
 refine b6_ x.p (some ⟨x.bj,0,none⟩) x.each x.last x.com (some x.m) (· = x.p) K w hF ⟨rfl,trivial⟩ ?_
 refine Keys_spec λw1 b g1 hb hc=>⟨_,rfl,hF.after g1,?_⟩
 refine bk_ hc hb (Grow.get g1 hm) hst hk hsz λw2 q c ss g2 hl hs hv=>⟨_,_,_,rfl,(hF.after g1).after g2,hK w2 q _ c ss ns (g1.trans g2) hl hsz hs (λv hv'=>?_) n1 n2 n3⟩
 obtain ⟨y,hy,e⟩:=hv v hv'
 obtain ⟨i,e2,hi⟩:=hkey y hy
 rw [e] at e2
 injection e2 with _ e2
 exact ⟨i,e2,hi⟩
end Go.Vc
namespace Go.Vc
open Go Go.RowKit Go.Extern.Stop Go.Stop Go.Extern Go.Proofs
theorem cf_ (w:World):Calls Tryz.prog 14 #[.nilIface] w λev w'=>ev=.returned (.int .i64 0)∧w'=w:=by
 go_enter Tryz.func14,Tryz.ntmps14
 go_wp2
 go_ret
 exact ⟨rfl,rfl⟩
theorem cE_ {w:World} {K:Value→World→Prop} (hK:∀w',Grow w w'→K (.int .i64 0) w'):CallV PR F.api_Code #[.nilIface] w K:=
 callV_of (cf_ w) λe w' ⟨he,hw⟩=>⟨_,he,by subst hw;exact hK _ (.refl _ _)⟩
end Go.Vc
namespace Go.Vc
open Go
theorem bb_ (m0:Int) (y1:Option Addr) (ly1:Nat) (cy1:Nat) (S:SP) (K:KP) (w:World) (h:(m0<0→K (Iv (-1)) w)∧(¬(m0<0)→(m0>4096→K (Iv (-1)) w)∧(¬(m0>4096)→((ly1:Int)>20000→K (Iv 20000) w)∧(¬((ly1:Int)>20000)→∃I0:Int→Nat→World→Prop,(∃l0,I0 0 l0 w)∧∀n0,∀D0:Nat→Value,∀l1 w0,I0 n0 l1 w0→Fs S w [] w0→(n0<(ly1:Int)→Dr y1 λa0=>(0:Int)≤n0∧n0<(ly1:Int)∧Dr (some (Addr.add a0 (Int.toNat n0*2))) λa1=>Dr (some (Addr.add a1 0)) λa2=>∃n1,World.cell? w0 a2=some (Iv n1)∧(n1<0→K (Iv n0) w0)∧(¬(n1<0)→Dr y1 λa3=>(0:Int)≤n0∧n0<(ly1:Int)∧Dr (some (Addr.add a3 (Int.toNat n0*2))) λa4=>Dr (some (Addr.add a4 1)) λa5=>∃n2,World.cell? w0 a5=some (Iv n2)∧(n2<0→K (Iv n0) w0)∧(¬(n2<0)→Dr y1 λa6=>(0:Int)≤n0∧n0<(ly1:Int)∧Dr (some (Addr.add a6 (Int.toNat n0*2))) λa7=>Dr (some (Addr.add a7 0)) λa8=>∃n3,World.cell? w0 a8=some (Iv n3)∧(n3≥m0→K (Iv n0) w0)∧(¬(n3≥m0)→Dr y1 λa9=>(0:Int)≤n0∧n0<(ly1:Int)∧Dr (some (Addr.add a9 (Int.toNat n0*2))) λa10=>Dr (some (Addr.add a10 1)) λa11=>∃n4,World.cell? w0 a11=some (Iv n4)∧(n4≥m0→K (Iv n0) w0)∧(¬(n4≥m0)→∃l2,l2<l1∧I0 (IntKind.wrap .i64 (n0+1)) l2 w0)))))∧(¬(n0<(ly1:Int))→K (Iv (-2)) w0))))):CallV PR 42 ⟨[.int .i64 m0,.slice y1 ly1 cy1]⟩ w K:=
 call_of_vc3 (okf:=⟨okL,[]⟩) okL_ok (args:=[.c (.v (.int .i64 m0)),.c (.v (.slice y1 ly1 cy1))]) (H:=[]) (.s .z (.s .z (.s .z (.s (.s .z (.b (.l (some []) (some []) [(5,.c (.int .i64))] [] .z))) .z)))) Go.Proofs.Tryz.func42 rfl ⟨trivial,trivial,trivial⟩ trivial (Fr.init S w) trivial (cast_vc (by kernel_rfl) h)
end Go.Vc
namespace Go.Vc
open Go Go.MapKept
theorem MakeR.flat {version nodes:Int} {each:Nat} {l:List (Int × Int)} {m:Man} {list:List (List UInt8)} (he:1≤each) (hg:goodG nodes l) (h64:nodes≤64*(each:Int)) (h:MakeR version nodes each l m list):(list.flatten.length:Int)≤1472+9*nodes+8*l.length∧list.length=countN list.flatten.length:=by
 obtain ⟨nn,N,k,rfl,hN,hk1,hk2,e⟩:=h
 have e2:list=cutL (partsL (begL nn N) (N.map (·.2)) each nn k).flatten:=congrArg Prod.snd e
 have hNl:=hN.len
 have hll:=hg.2.2.1
 have hnn:=hg.2.1
 have hL:=csr_of hN (by omega)
 have htot:=parts_total (k:=k) hL (by omega) he hk2
 have hTl:(N.map (·.2)).length=N.length:=List.length_map _
 have hk:k≤64:=by
  rcases Nat.lt_or_ge 64 k with h | h
  ·have:=hk2 64 h;omega
  ·exact h
 rw [e2,cut_join,cut_len]
 rw [hTl] at htot
 exact ⟨by omega,rfl⟩
theorem bW_ {n m:Nat} (h:n≤64*m):countN n≤m:=by unfold countN;omega
theorem PubAt.list {N:Nat} {w:World} {x:PubS} (h:PubAt N w x) {i:Nat} (h1:1≤i) (h2:i≤x.last) (h3:x.last<i+3∨i=x.com):∃list,VerL (x.man i) list∧recV (x.man i) list∈x.recs∧(x.man i).version=i:=by
 obtain ⟨v,hv⟩:=h.has i h1 h2 h3
 obtain ⟨j,b,c,mn,list,k1,k2,k3,rfl,k5,k6,k7,rfl,k9,k10⟩:=h.kept _ _ hv
 have e:i=j:=by have:=int_inj k3;omega
 subst e
 exact ⟨list,k6,k10,k7⟩
theorem bM_ {mn:Man} {a b:List (List UInt8)} (h:recV mn a=recV mn b):a.flatten=b.flatten:=by
 unfold recV at h
 exact List.append_cancel_left h
theorem PubAt.ext {S:Nat→Prop} {N:Nat} {w w':World} {x:PubS} (h:PubAt N w x) (g:Chg S w w') (hS:∀k,k<w.heap.size→S k→x.ex k) (hn:∀k,S k→¬x.reg k) {e:Nat→Prop} (he:∀k,e k→k<w'.heap.size) (he2:∀k,k<w.heap.size→e k→x.ex k):PubAt N w' { x with ex:=λk=>x.ex k∨e k }:=by
 obtain ⟨n,hm⟩:=h.map
 refine ⟨g.get h.blk λe=>hn _ e (.inl rfl),h.jrn.keep g λk e hk=>hn k e (.inr (.inr hk)),⟨n,hm.keep g λe=>hn _ e (.inr (.inl rfl))⟩,λk v hr=>(h.kept k v hr).keep g (λk hk e=>.inr (hS k hk e)) (λk hk e=>?_) (Nat.le_refl _) (λ_ h=>h),h.has,h.com_le,h.last_le,h.room,h.each1,h.each2,h.lo,λk hk=>hk.elim (λhk=>Nat.lt_of_lt_of_le (h.exlt k hk) g.size) (he k),h.only,h.rep⟩
 rcases e with e | e | e
 ·exact .inl e
 ·exact .inr e
 ·exact .inr (he2 k hk e)
def PubX (N M:Nat) (w:World) (x:PubS):Prop:=∃ex,PubAt N w { x with ex:=ex }∧(∀k,M≤k→k<w.heap.size→ex k)∧∀k,x.reg k→k<M
theorem PubX.of {N:Nat} {w:World} {x:PubS} (h:PubAt N w x):PubX N w.heap.size w x:=⟨x.ex,h,(λk h1 h2=>by omega),h.lt⟩
theorem PubX.keep {S:Nat→Prop} {N M:Nat} {w w':World} {x:PubS} (h:PubX N M w x) (g:Chg S w w') (hS:∀k,S k→M≤k):PubX N M w' x:=by
 obtain ⟨ex,h1,h2,h3⟩:=h
 exact ⟨_,h1.ext g (λk hk e=>h2 k (hS k e) hk) (λk e hr=>by have:=h3 k hr;have:=hS k e;omega) (e:=λk=>M≤k∧k<w'.heap.size) (λk e=>e.2) (λk hk e=>h2 k e.1 hk),λk hk hl=>.inr ⟨hk,hl⟩,h3⟩
theorem PubX.grow {N M:Nat} {w w':World} {x:PubS} (h:PubX N M w x) (g:Grow w w'):PubX N M w' x:=h.keep g λk e=>e.elim
theorem bx_ {nodes:Int} {l:List (Int × Int)} {q:Option Addr} {c:Nat} {w:World} (hs:Sl w q (encE l)) (hl:l.length≤1000000) {K:Value→World→Prop} (h1:∀w',Grow w w'→goodG nodes l→K (.int .i64 (-2)) w') (h2:∀w' n,Grow w w'→¬goodG nodes l→n≠-2→K (.int .i64 n) w'):CallV PR F.ladingref04_Wrong ⟨[.int .i64 nodes,.slice q l.length c]⟩ w K:=by
 refine bb_ nodes q l.length c S0 K w ⟨λh=>h2 w _ (.refl _ _) (λhg=>by have:=hg.1;omega) (by decide),λh0=>⟨λh=>h2 w _ (.refl _ _) (λhg=>by have:=hg.2.1;omega) (by decide),λhm=>⟨λh=>h2 w _ (.refl _ _) (λhg=>by have:=hg.2.2.1;omega) (by decide),λhle=>?_⟩⟩⟩
 refine ⟨λn lv w'=>∃k:Nat,n=k∧k≤l.length∧lv=l.length - k∧(∀e∈l.take k,0≤e.1∧e.1<nodes∧0≤e.2∧e.2<nodes)∧Grow w w',⟨_,0,rfl,by omega,rfl,by simp,.refl _ _⟩,?_⟩
 rintro n D lv w1 ⟨k,rfl,hk,rfl,hall,g1⟩ hF1
 refine ⟨λhlt=>?_,λhge=>?_⟩
 ·have hk':k<l.length:=by omega
  have bad:¬(0≤l[k].1∧l[k].1<nodes∧0≤l[k].2∧l[k].2<nodes)→K (.int .i64 (k:Int)) w1:=λhb=>h2 w1 k g1 (λhg=>hb (hg.2.2.2 _ (List.getElem_mem hk'))) (by omega)
  have hs1:=hs.grow g1
  refine hs1.rd2 rfl hk' hk' λa ha1 ha2=>Dr_some.2 ⟨_,by simpa using ha1,λh=>bad (by omega),λh=>?_⟩
  refine hs1.rd2 rfl hk' hk' λa ha1 ha2=>Dr_some.2 ⟨_,by simpa using ha2,λh=>bad (by omega),λh=>?_⟩
  refine hs1.rd2 rfl hk' hk' λa ha1 ha2=>Dr_some.2 ⟨_,by simpa using ha1,λh=>bad (by omega),λh=>?_⟩
  refine hs1.rd2 rfl hk' hk' λa ha1 ha2=>Dr_some.2 ⟨_,by simpa using ha2,λh=>bad (by omega),λh=>?_⟩
  refine ⟨l.length - (k+1),by omega,k+1,wr1 (by omega),by omega,rfl,λe he=>?_,g1⟩
  rw [take_next hk'] at he
  rcases List.mem_append.1 he with he | he
  ·exact hall e he
  ·simp at he;rw [he];omega
 ·have:k=l.length:=by omega
  subst this
  rw [List.take_of_length_le (Nat.le_refl _)] at hall
  exact h1 w1 g1 ⟨by omega,by omega,by omega,hall⟩
theorem ErrT.cB_ {w w':World} (h:ErrT w) (g:Grow w w'):ErrT w':=by
 unfold ErrT at h ⊢
 unfold World.cell? at h ⊢
 cases hb:w.heap[0]? with
 | none=>simp [hb] at h
 | some o=>
  have:=Grow.get g hb
  simp only [this]
  simp only [hb] at h
  exact h
end Go.Vc
namespace Go.Vc
open Go
theorem msg_Same2 (m0:Int) (m1:Int) (m2:Int) (z3:ByteArray) (y4:Option Addr) (ly4:Nat) (cy4:Nat) (m5:Int) (m6:Int) (m7:Int) (z8:ByteArray) (y9:Option Addr) (ly9:Nat) (cy9:Nat) (S:SP) (K:KP) (w:World) (h:∀l0,w.heap.size≤l0→∀l1,w.heap.size≤l1→(m0=m5→(m1=m6→(m2=m7→(z3=z8→∀w0,Fr S w w [] [⟨l0,#[Iv m0,Iv m1,Iv m2,.string z3,.slice y4 ly4 cy4],61,true⟩,⟨l1,#[Iv m5,Iv m6,Iv m7,.string z8,.slice y9 ly9 cy9],61,true⟩] w0→CallV PR 103 #[.slice y4 ly4 cy4,.slice y9 ly9 cy9] w0 λv0 w1=>∃b0,v0=.bool b0∧(b0=true→Fs S w [⟨l0,#[Iv m0,Iv m1,Iv m2,.string z3,.slice y4 ly4 cy4],61,true⟩,⟨l1,#[Iv m5,Iv m6,Iv m7,.string z8,.slice y9 ly9 cy9],61,true⟩] w1∧K (.bool true) w1)∧(b0=false→Fs S w [⟨l0,#[Iv m0,Iv m1,Iv m2,.string z3,.slice y4 ly4 cy4],61,true⟩,⟨l1,#[Iv m5,Iv m6,Iv m7,.string z8,.slice y9 ly9 cy9],61,true⟩] w1∧K (.bool false) w1))∧(¬(z3=z8)→∀w2,Fr S w w [] [] w2→K (.bool false) w2))∧(¬(m2=m7)→∀w3,Fr S w w [] [] w3→K (.bool false) w3))∧(¬(m1=m6)→∀w4,Fr S w w [] [] w4→K (.bool false) w4))∧(¬(m0=m5)→∀w5,Fr S w w [] [] w5→K (.bool false) w5)):CallV PR 49 ⟨[.agg #[.int .i64 m0,.int .i64 m1,.int .i64 m2,.string z3,.slice y4 ly4 cy4],.agg #[.int .i64 m5,.int .i64 m6,.int .i64 m7,.string z8,.slice y9 ly9 cy9]]⟩ w K:=
 call_of_vc3 (okf:=⟨okL,[]⟩) okL_ok (args:=[.a [.v (.int .i64 m0),.v (.int .i64 m1),.v (.int .i64 m2),.v (.string z3),.v (.slice y4 ly4 cy4)],.a [.v (.int .i64 m5),.v (.int .i64 m6),.v (.int .i64 m7),.v (.string z8),.v (.slice y9 ly9 cy9)]]) (H:=[]) (.s (.r ⟨(some []),false,[],[]⟩) (.s (.r ⟨(some [2,3]),false,[],[]⟩) .z)) Go.Proofs.Tryz.func49 rfl ⟨⟨trivial,trivial,trivial,trivial,trivial,trivial⟩,⟨trivial,trivial,trivial,trivial,trivial,trivial⟩,trivial⟩ trivial (Fr.init S w) trivial (cast_vc (by kernel_rfl) h)
end Go.Vc
namespace Go.Vc
open Go Go.MapKept
theorem strsEq_spec {xs:List (List UInt8)} {q q2:Option Addr} {n c c2:Nat} {w:World} (h1:Sl w q (xs.map sv8')) (h2:Sl w q2 (xs.map sv8')) (hn:n=xs.length) (hl:n≤1000000) {K:Value→World→Prop} (hK:∀w',Grow w w'→K (.bool true) w') :
  CallV PR F.slices_Equal_sl_string_string ⟨[.slice q n c,.slice q2 n c2]⟩ w K:=by
 subst hn
 refine slices_Equal_string_string q xs.length c q2 xs.length c2 S0 K w ⟨λ_=>⟨λi m w'=>∃k:Nat,i=k∧k≤xs.length∧m=xs.length - k,⟨_,0,rfl,by omega,rfl⟩,?_⟩,λh=>absurd rfl h⟩
 rintro i D m w1 ⟨k,rfl,hk,rfl⟩ hF1
 refine ⟨λhlt w2 hF2=>⟨(· = w2),rfl,?_⟩,λ_=>hK w1 hF1.gr⟩
 have hk':k<xs.length:=by omega
 have g2:=hF1.gr.trans hF2.grow
 refine (h1.grow g2).rd (v:=sv8' xs[k]) (by simp) (by omega) (by simp [hk']) λa ha=>⟨_,λw' e=>e ▸ ha,?_⟩
 refine (h2.grow g2).rd (v:=sv8' xs[k]) (by simp) (by omega) (by simp [hk']) λa ha=>⟨_,λw' e=>e ▸ ha,λ_=>⟨xs.length - (k+1),by omega,k+1,by rw [w64 (by omega) (by omega)];rfl,by omega,rfl⟩,λh=>absurd rfl h⟩
theorem SameL_spec {m:MsgL} {q q2:Option Addr} {c c2:Nat} {w:World} (h1:Sl w q (m.proof.map sv8')) (h2:Sl w q2 (m.proof.map sv8')) (hl:m.proof.length≤1000000) {K:Value→World→Prop} (hK:∀w',Grow w w'→K (.bool true) w') :
  CallV PR F.msg_Same ⟨[msgLC m q c,msgLC m q2 c2]⟩ w K:=by
 refine msg_Same2 m.kind m.ver m.i (str m.text) q m.proof.length c m.kind m.ver m.i (str m.text) q2 m.proof.length c2 S0 K w λl0 hl0 l1 hl1=>⟨λ_=>⟨λ_=>⟨λ_=>⟨λ_ w0 hF0=>?_,λh=>absurd rfl h⟩,λh=>absurd rfl h⟩,λh=>absurd rfl h⟩,λh=>absurd rfl h⟩
 exact strsEq_spec (h1.grow hF0.gr) (h2.grow hF0.gr) rfl hl λw1 g1=>⟨true,rfl,(λ_=>⟨hF0.reset.after g1,hK w1 (hF0.reset.after g1).gr⟩),λh=>by cases h⟩
end Go.Vc
namespace Go.Vc
open Go
theorem a8_ {w:World} {K:Value→World→Prop} (hK:∀w',Grow w w'→K (.bool true) w'):CallV PR F.ladinglaw22_awake ⟨[]⟩ w K:=by
 have h0:Fs S0 w [] w:=Fr.init _ w
 refine ladinglaw22_awake S0 K w ?_
 refine DNew_spec λw1 bd g1 hbd hd hnf=>⟨_,rfl,h0.after g1,?_⟩
 refine Open0_spec (N:=w.heap.size) (each:=8) hd hbd g1.size (by decide) (by decide) λw2 x g2 hx e1 e2 e3 e4 e5 hp hnf2=>⟨_,_,rfl,h0.after (g1.trans g2),λ_=>λb3 hb3 w3 hF3=>?_,(λt x h=>by cases h),.inl rfl⟩
 have g3:Grow w2 w3:=hF3.grow
 have g12:=g1.trans g2
 have hx3:=hx.grow g3
 have s1:=g12.size
 have s3:=g3.size
 have hroom:x.room=200000:=by rw [PubS.room,e5];rfl
 have step:∀ {L:List Blk} {wa wb:World} {x:PubS},Fs S0 w L wa→PubAt w.heap.size wa x→Chg x.reg wa wb→(∀y,y∈L→¬x.reg y.b)→Fs S0 w L wb:=λhF hx g hL=>hF.step g hL λk hk e=>by have:=hx.lo k e;omega
 have hl3:∀y,y∈[(⟨b3,#[.int .i64 0,.int .i64 1],T.api_Edge,true⟩:Blk)]→¬x.reg y.b:=λy hy e=>by simp at hy;subst hy;have:=hx.lt _ e;simp only [] at this;omega
 have hs3:Sl w3 (some ⟨b3,0,none⟩) (encE [(0,1)]):=hF3.sl 0 rfl
 have hnf3:NoF w3 x.bd:=(hnf2 hnf).keep g3 λe=>e
 refine Publish_full hx3 (by omega) hs3 rfl (by decide) (λw4 x4 mn4 list4 hok4 hrec4 hman4 hx4 g4 f1 f2 f3 f4 f5 f6 fr fx f7 f8 hn4=>?_) (λw4 n hnn _ _ _=>absurd hnf3 hnn) λw4 v cc g4 hx4 hv herr hno=>?_
 ·rw [f4,e3]
  refine ⟨_,_,rfl,_,_,step hF3.reset hx3 g4 hl3,?_⟩
  have hF4:=(step hF3.reset hx3 g4 hl3).sub (L':=[]) (List.nil_sublist _)
  have s4:=hF4.gr.size
  rw [← f1]
  have hnf4:NoF w4 x4.bd:=by rw [f2];exact hn4 hnf3
  refine Publish_full (l:=[]) hx4 (by omega) (.nil _ _) rfl (by decide) (λw5 x5 mn5 list5 hok5 hrec5 hman5 hx5 g5 i1 i2 i3 i4 i5 i6 ir ix i7 i8 hn5=>?_) (λw5 n hnn _ _ _=>absurd hnf4 hnn) λw5 v cc g5 hx5 hv herr hno=>?_
  ·have hF5:=step hF4 hx4 g5 (λy hy=>by cases hy)
   rw [i4,f4,e3]
   refine ⟨_,_,rfl,hF5,λ_=>⟨λ_=>⟨λ_=>⟨λ_=>?_,(λt x h=>by cases h),.inl rfl⟩,(λt x h=>by cases h),.inl rfl⟩,λh=>absurd rfl h⟩,λh=>absurd rfl h⟩
   rw [← i1]
   have hnf5:NoF w5 x5.bd:=by rw [i2];exact hn5 hnf4
   refine Commit_full hx5 hF5.gr.size (by decide) (λw6 x6 hrec6 hrm6 hx6 g6 j1 j2 j3 j4 j5 j6 j7 jr jm jl jx j8 hn6=>?_) (λw6 n hnn _ _ _=>absurd hnf5 hnn) λw6 v cc g6 hx6 hv herr hno=>?_
   ·have hF6:=step hF5 hx5 g6 (λy hy=>by cases hy)
    refine ⟨_,rfl,hF6,λ_=>?_,(λt x h=>by cases h),.inl rfl⟩
    rw [← j1]
    refine Committed_spec hx6 ⟨_,rfl,hF6,λ_=>hK w6 hF6.gr,λh=>absurd j5.symm h⟩
   ·have hr4:(x4.room:Int)≤x5.room+2700+9*3+8*(0:Nat):=ir
    have hr3:(x.room:Int)≤x4.room+2700+9*2+8*(1:Nat):=fr
    exact absurd ⟨by rw [i5,f5,e4];omega,by rw [i4,f4,e3];omega,by rw [i4,f4,e3];omega,by omega⟩ hno
  ·have hr3:(x.room:Int)≤x4.room+2700+9*2+8*(1:Nat):=fr
   refine absurd ⟨⟨⟨by decide,by decide,by decide,λe he=>by cases he⟩,by rw [f3,e2];decide,by decide⟩,by decide,?_⟩ hno
   have:(2700:Int)+9*3+8*(([]:List (Int × Int)).length:Nat)=2727:=rfl
   rw [this];omega
 ·refine absurd ⟨⟨⟨by decide,by decide,by decide,λe he=>by simp at he;subst he;decide⟩,by rw [e2];decide,by decide⟩,by decide,?_⟩ hno
  rw [hroom];decide
end Go.Vc
namespace Go.Vc
open Go
theorem ladinglaw22_PubTells (m0:Int) (y1:Option Addr) (ly1:Nat) (cy1:Nat) (m2:Int) (m3:Int) (S:SP) (K:KP) (w:World) (h:∀l0,w.heap.size≤l0→∀w0,Fr S w w [] [⟨l0,#[Iv m2,Iv m3],75,true⟩] w0→let B0:Blk:=⟨l0,#[Iv m2,Iv m3],75,true⟩;CallV PR 39 #[] w0 λv0 w1=>∃b0,v0=.bool b0∧(b0=true→Fs S w [B0] w1∧((ly1:Int)>60→K (.bool true) w1)∧(¬((ly1:Int)>60)→(m0>100→K (.bool true) w1)∧(¬(m0>100)→CallV PR 13 #[Iv 0] w1 λv1 w2=>∃q0,v1=.pointer q0∧Fs S w [B0] w2∧CallV PR 40 #[.pointer q0,Iv 10] w2 λv2 w3=>∃q1 v3,v2=.tuple #[.pointer q1,v3]∧Fs S w [B0] w3∧(v3=.nilIface→CallV PR 41 #[.pointer q1,Iv m0,.slice y1 ly1 cy1] w3 λv4 w4=>∃n0 v5,v4=.tuple #[Iv n0,v5]∧Fs S w [B0] w4∧(v5=.nilIface→CallV PR 45 #[.pointer q1,Iv n0] w4 λv6 w5=>∃n1 n2 n3 s0 q2 l1 l2 v7,v6=.tuple #[.agg #[Iv n1,Iv n2,Iv n3,.string s0,.slice q2 l1 l2],v7]∧Fs S w [B0] w5∧∀l3,w5.heap.size≤l3→(v7=.nilIface→(n1=1→∀w6,Fr S w w5 [l3] [B0,⟨l3,#[Iv n1,Iv n2,Iv n3,.string s0,.slice q2 l1 l2],61,true⟩] w6→CallV PR 46 #[.string s0] w6 λv8 w7=>∃n4 n5 n6 q3 l4 l5 n7 s1 v9,v8=.tuple #[.agg #[Iv n4,Iv n5,Iv n6,.slice q3 l4 l5,Iv n7,.string s1],v9]∧Fs S w [B0,⟨l3,#[Iv n1,Iv n2,Iv n3,.string s0,.slice q2 l1 l2],61,true⟩] w7∧∀l6,w7.heap.size≤l6→∀w8,Fr S w w7 [l6] [B0,⟨l6,#[Iv n4,Iv n5,Iv n6,.slice q3 l4 l5,Iv n7,.string s1],44,true⟩] w8→let B1:Blk:=⟨l6,#[Iv n4,Iv n5,Iv n6,.slice q3 l4 l5,Iv n7,.string s1],44,true⟩;CallV PR 13 #[Iv 60] w8 λv10 w9=>∃q4,v10=.pointer q4∧Fs S w [B0,B1] w9∧CallV PR 12 #[.pointer q4] w9 λv11 w10=>∃q5 v12,v11=.tuple #[.pointer q5,v12]∧Fs S w [B0,B1] w10∧(v9=.nilIface→(v12=.nilIface→CallV PR 15 #[.pointer q5,.agg #[Iv n4,Iv n5,Iv n6,.slice q3 l4 l5,Iv n7,.string s1]] w10 λv13 w11=>∃v14,v13=v14∧Fs S w [B0,B1] w11∧(v14=.nilIface→∃I0:Int→Nat→World→Prop,(∃l7,I0 0 l7 w11)∧∀n8,∀D0:Nat→Value,∀l8 w12,I0 n8 l8 w12→Fs S w [B0,B1] w12→(n8<n7→CallV PR 47 #[.pointer q1,Iv n0,Iv n8] w12 λv15 w13=>∃n9 n10 n11 s2 q6 l9 l10 v16,v15=.tuple #[.agg #[Iv n9,Iv n10,Iv n11,.string s2,.slice q6 l9 l10],v16]∧Fs S w [B0,B1] w13∧∀l11,w13.heap.size≤l11→(v16=.nilIface→∀w14,Fr S w w13 [l11] [B0,B1,⟨l11,#[Iv n9,Iv n10,Iv n11,.string s2,.slice q6 l9 l10],61,true⟩] w14→CallV PR 48 #[.pointer q5,Iv n10,Iv n11,.string s2,.slice q6 l9 l10] w14 λv17 w15=>∃v18,v17=v18∧Fs S w [B0,B1,⟨l11,#[Iv n9,Iv n10,Iv n11,.string s2,.slice q6 l9 l10],61,true⟩] w15∧(v18=.nilIface→∃l12,l12<l8∧I0 (IntKind.wrap .i64 (n8+1)) l12 w15)∧(∀x0 v19,v18=.iface x0 v19→K (.bool false) w15)∧(v18=.nilIface∨∃l13 v20,v18=.iface l13 v20))∧(∀x1 v21,v16=.iface x1 v21→∀w16,Fr S w w13 [l11] [] w16→K (.bool false) w16)∧(v16=.nilIface∨∃l14 v22,v16=.iface l14 v22))∧(¬(n8<n7)→CallV PR 23 #[.pointer q5,Iv n0] w12 λv23 w17=>∃b1,v23=.bool b1∧(b1=true→Fs S w [B0,B1] w17∧(0:Int)≤0∧(0:Int)<2∧(0:Int)≤1∧(1:Int)<2∧CallV PR 47 #[.pointer q1,Iv m2,Iv m3] w17 λv24 w18=>∃n12 n13 n14 s3 q7 l15 l16 v25,v24=.tuple #[.agg #[Iv n12,Iv n13,Iv n14,.string s3,.slice q7 l15 l16],v25]∧Fs S w [B0,B1] w18∧∀l17,w18.heap.size≤l17→(0:Int)≤0∧(0:Int)<2∧(m2=1→(0:Int)≤1∧(1:Int)<2∧(m3<0→∀w19,Fr S w w18 [l17] [⟨l17,#[Iv n12,Iv n13,Iv n14,.string s3,.slice q7 l15 l16],61,true⟩] w19→let B2:Blk:=⟨l17,#[Iv n12,Iv n13,Iv n14,.string s3,.slice q7 l15 l16],61,true⟩;CallV PR 14 #[v25] w19 λv26 w20=>∃n15,v26=Iv n15∧Fs S w [B2] w20∧(n15=2→((2:Int)=0→K (.bool true) w20)∧(¬((2:Int)=0)→CallV PR 49 #[.agg #[Iv n12,Iv n13,Iv n14,.string s3,.slice q7 l15 l16],.agg #[Iv 0,Iv 0,Iv 0,.string ⟨#[]⟩,.slice none 0 0]] w20 λv27 w21=>∃b2,v27=.bool b2∧(b2=true→Fs S w [B2] w21∧K (.bool true) w21)∧(b2=false→Fs S w [B2] w21∧K (.bool false) w21)))∧(¬(n15=2)→K (.bool false) w20))∧(¬(m3<0)→(0:Int)≤1∧(1:Int)<2∧(m3≥n7→∀w22,Fr S w w18 [l17] [⟨l17,#[Iv n12,Iv n13,Iv n14,.string s3,.slice q7 l15 l16],61,true⟩] w22→let B3:Blk:=⟨l17,#[Iv n12,Iv n13,Iv n14,.string s3,.slice q7 l15 l16],61,true⟩;CallV PR 14 #[v25] w22 λv28 w23=>∃n16,v28=Iv n16∧Fs S w [B3] w23∧(n16=2→((2:Int)=0→K (.bool true) w23)∧(¬((2:Int)=0)→CallV PR 49 #[.agg #[Iv n12,Iv n13,Iv n14,.string s3,.slice q7 l15 l16],.agg #[Iv 0,Iv 0,Iv 0,.string ⟨#[]⟩,.slice none 0 0]] w23 λv29 w24=>∃b3,v29=.bool b3∧(b3=true→Fs S w [B3] w24∧K (.bool true) w24)∧(b3=false→Fs S w [B3] w24∧K (.bool false) w24)))∧(¬(n16=2)→K (.bool false) w23))∧(¬(m3≥n7)→∀w25,Fr S w w18 [l17] [⟨l17,#[Iv n12,Iv n13,Iv n14,.string s3,.slice q7 l15 l16],61,true⟩] w25→let B4:Blk:=⟨l17,#[Iv n12,Iv n13,Iv n14,.string s3,.slice q7 l15 l16],61,true⟩;CallV PR 14 #[v25] w25 λv30 w26=>∃n17,v30=Iv n17∧Fs S w [B4] w26∧(n17=0→((0:Int)=0→K (.bool true) w26)∧(¬((0:Int)=0)→CallV PR 49 #[.agg #[Iv n12,Iv n13,Iv n14,.string s3,.slice q7 l15 l16],.agg #[Iv 0,Iv 0,Iv 0,.string ⟨#[]⟩,.slice none 0 0]] w26 λv31 w27=>∃b4,v31=.bool b4∧(b4=true→Fs S w [B4] w27∧K (.bool true) w27)∧(b4=false→Fs S w [B4] w27∧K (.bool false) w27)))∧(¬(n17=0)→K (.bool false) w26))))∧(¬(m2=1)→∀w28,Fr S w w18 [l17] [⟨l17,#[Iv n12,Iv n13,Iv n14,.string s3,.slice q7 l15 l16],61,true⟩] w28→let B5:Blk:=⟨l17,#[Iv n12,Iv n13,Iv n14,.string s3,.slice q7 l15 l16],61,true⟩;CallV PR 14 #[v25] w28 λv32 w29=>∃n18,v32=Iv n18∧Fs S w [B5] w29∧(n18=13→((13:Int)=0→K (.bool true) w29)∧(¬((13:Int)=0)→CallV PR 49 #[.agg #[Iv n12,Iv n13,Iv n14,.string s3,.slice q7 l15 l16],.agg #[Iv 0,Iv 0,Iv 0,.string ⟨#[]⟩,.slice none 0 0]] w29 λv33 w30=>∃b5,v33=.bool b5∧(b5=true→Fs S w [B5] w30∧K (.bool true) w30)∧(b5=false→Fs S w [B5] w30∧K (.bool false) w30)))∧(¬(n18=13)→K (.bool false) w29)))∧(b1=false→Fs S w [B0,B1] w17∧K (.bool false) w17)))∧(∀x2 v34,v14=.iface x2 v34→K (.bool false) w11)∧(v14=.nilIface∨∃l18 v35,v14=.iface l18 v35))∧(∀x3 v36,v12=.iface x3 v36→K (.bool false) w10)∧(v12=.nilIface∨∃l19 v37,v12=.iface l19 v37))∧(∀x4 v38,v9=.iface x4 v38→K (.bool false) w10)∧(v9=.nilIface∨∃l20 v39,v9=.iface l20 v39))∧(¬(n1=1)→∀w31,Fr S w w5 [l3] [] w31→K (.bool false) w31))∧(∀x5 v40,v7=.iface x5 v40→∀w32,Fr S w w5 [l3] [] w32→K (.bool false) w32)∧(v7=.nilIface∨∃l21 v41,v7=.iface l21 v41))∧(∀x6 v42,v5=.iface x6 v42→CallV PR 42 #[Iv m0,.slice y1 ly1 cy1] w4 λv43 w33=>∃n19,v43=Iv n19∧Fs S w [] w33∧(n19=(-2)→K (.bool false) w33)∧(¬(n19=(-2))→CallV PR 43 #[.pointer q1] w33 λv44 w34=>∃n20,v44=Iv n20∧Fs S w [] w34∧(n20=0→CallV PR 44 #[.pointer q1] w34 λv45 w35=>∃q8 l22 l23,v45=.slice q8 l22 l23∧Fs S w [] w35∧((l22:Int)=0→K (.bool true) w35)∧(¬((l22:Int)=0)→K (.bool false) w35))∧(¬(n20=0)→K (.bool false) w34)))∧(v5=.nilIface∨∃l24 v46,v5=.iface l24 v46))∧(∀x7 v47,v3=.iface x7 v47→K (.bool false) w3)∧(v3=.nilIface∨∃l25 v48,v3=.iface l25 v48))))∧(b0=false→Fs S w [B0] w1∧K (.bool false) w1)):CallV PR 6 ⟨[.int .i64 m0,.slice y1 ly1 cy1,.agg #[.int .i64 m2,.int .i64 m3]]⟩ w K:=
 call_of_vc3 (okf:=⟨okL,[]⟩) okL_ok (args:=[.c (.v (.int .i64 m0)),.c (.v (.slice y1 ly1 cy1)),.a [.v (.int .i64 m2),.v (.int .i64 m3)]]) (H:=[]) (.s (.r ⟨(some []),false,[],[]⟩) (.s (.s (.r ⟨(some [5]),false,[],[]⟩) .z) (.s .z (.s (.r ⟨(some [5]),false,[],[]⟩) (.s .z (.s (.r ⟨(some [5]),false,[],[(3,[999])]⟩) (.s (.s .z (.c (.s (.r ⟨(some []),false,[],[]⟩) .z) .z)) (.s (.r ⟨(some [5]),false,[],[]⟩) (.s .z (.s (.r ⟨(some [5,11]),false,[],[]⟩) (.s (.r ⟨(some [5,13]),false,[],[]⟩) (.s (.s (.r ⟨(some [5,13]),false,[],[(9,[999])]⟩) .z) (.s (.s .z (.b (.l (some [5,13]) (some [5,13]) [(17,.c (.int .i64))] [] (.s .z (.s (.b (.s (.r ⟨(some [5,13]),false,[],[]⟩) (.s (.r ⟨(some [5,13,18]),false,[],[(12,[999])]⟩) .z))) .z))))) (.s (.s (.r ⟨(some [5,13]),false,[],[]⟩) .z) (.s (.r ⟨(some [5,13]),false,[],[]⟩) (.s .z (.s .z (.s (.r ⟨(some [20]),false,[],[]⟩) .z)))))))))))))))))) Go.Proofs.Tryz.func6 rfl ⟨trivial,trivial,⟨trivial,trivial,trivial⟩,trivial⟩ trivial (Fr.init S w) trivial (cast_vc (by kernel_rfl) h)
end Go.Vc
namespace Go.Vc
open Go Go.MapKept
theorem aQ_ {v v':HV} (h:v'.man=v.man):setV [v] v'=[v']:=by
 unfold setV
 rw [List.map_cons,List.map_nil,if_pos (by rw [h])]
theorem a3_ {w:World} (hE:ErrT w) {nodes a0 a1:Int} {y:Option Addr} {c:Nat} {l:List (Int × Int)} (hs:Sl w y (encE l)) (ha:fitsI a0∧fitsI a1) {K:Value→World→Prop} (hK:∀w',Grow w w'→K (.bool true) w') :
  CallV PR F.ladinglaw22_PubTells ⟨[.int .i64 nodes,.slice y l.length c,.agg #[.int .i64 a0,.int .i64 a1]]⟩ w K:=by
 refine ladinglaw22_PubTells nodes y l.length c a0 a1 S0 K w λl0 hl0 w0 hF0=>?_
 refine a8_ λw1 g1=>⟨true,rfl,(λ_=>⟨hF0.after g1,λ_=>hK w1 (hF0.after g1).gr,λhle=>⟨λ_=>hK w1 (hF0.after g1).gr,λhn=>?_⟩⟩),λh=>by cases h⟩
 have hF1:=hF0.after g1
 have hl01:l0<w1.heap.size:=heap_lt (hF1.blk 0 rfl)
 have sw1:w.heap.size≤w1.heap.size:=hF1.gr.size
 refine DNew_spec λw2 bd g2 hbd hd hnf=>⟨_,rfl,hF1.after g2,?_⟩
 have hF2:=hF1.after g2
 refine Open0_spec (N:=w1.heap.size) (each:=10) hd hbd g2.size (by decide) (by decide) λw3 x0 g3 hx0 e1 e2 e3 e4 e5 hp hnf0=>⟨_,_,rfl,hF2.after g3,λ_=>?_,(λt x h=>by cases h),.inl rfl⟩
 have hF3:=hF2.after g3
 have hnf3:=hnf0 hnf
 have hroom0:x0.room=200000:=by rw [PubS.room,e5];rfl
 have sw3:=(g2.trans g3).size
 refine Publish_full hx0 sw3 (hs.grow hF3.gr) rfl (by omega) (λw4 x1 mn list hok hrec hman hx1 g4 f1 f2 f3 f4 f5 f6 fr fx f7 f8 hn4=>?_) (λw4 n hnn _ _ _=>absurd hnf3 hnn) λw4 v cc g4 hx4 hv herr hno=>?_
 ·have hl1:x1.last=1:=by rw [f4,e3]
  have hF4:=hF3.step g4 (λz hz e=>by simp at hz;subst hz;have:=hx0.lo _ e;simp only [] at this;omega) λk hk e=>by have:=hx0.lo k e;omega
  rw [hl1,← f1]
  refine ⟨_,_,rfl,hF4,λ_=>?_,(λt x h=>by cases h),.inl rfl⟩
  refine bB_ hx1 (i:=1) (by omega) (by omega) (.inl (by omega)) λw5 g5=>⟨_,_,_,_,_,_,_,_,rfl,hF4.after g5,λl3 hl3=>⟨λ_=>⟨λ_ w6 hF6=>?_,λh=>absurd rfl h⟩,(λt x h=>by cases h),.inl rfl⟩⟩
  have hF6':=hF6.unM hl3
  obtain ⟨list',hL,hin,hver⟩:=hx1.list (i:=1) (by omega) (by omega) (.inl (by omega))
  have hmn:x1.man 1=mn:=by rw [hman];simp [e3]
  have hflat:list'.flatten=list.flatten:=by
   have h:=hin
   rw [hrec,e5,hmn] at h
   simp only [List.nil_append,List.mem_singleton] at h
   exact bM_ h
  have hB:list'.length≤46:=by
   obtain ⟨k1,k2,k3,_⟩:=hok
   have h1:=MakeR.flat hx0.each1 k1 k2 k3
   have h2:=congrArg List.length hL.cut
   rw [cut_len] at h2
   rw [← h2]
   refine bW_ ?_
   rw [hflat]
   omega
  have hblk:=hL.blocks
  have hvok:=hL.ok.version
  refine ct_ hL.ok λw7 q cq g7 hom hcq hofq=>⟨_,_,_,_,_,_,_,_,_,rfl,hF6'.reset.after g7,λl6 hl6 w8 hF8=>?_⟩
  have hF8':=hF8.unM hl6
  have s78:=hF8'.grow.size
  have hl08:l0<w8.heap.size:=heap_lt (hF8'.blk 0 rfl)
  have hl68:l6<w8.heap.size:=heap_lt (hF8'.blk 1 rfl)
  have sw8:w.heap.size≤w8.heap.size:=hF8'.gr.size
  have hX8:PubX w1.heap.size w8.heap.size w8 x1:=.of ((((hx1.grow g5).grow hF6'.grow).grow g7).grow hF8'.grow)
  refine bF_ (n:=60) (by decide) λw9 bd9 p9 g9 hfr9 hd9=>⟨_,rfl,hF8'.after g9,?_⟩
  refine bl_ hd9 rfl rfl (by simp [DM.empty]) λw10 bh bj m j g10 H10 hA10=>⟨_,_,rfl,(hF8'.after g9).after g10,⟨λ_=>⟨λ_=>?_,(λt x h=>by cases h),.inl rfl⟩,(λt x h=>by cases h),.inl rfl⟩⟩
  have hF10:=(hF8'.after g9).after g10
  have hAlow:∀k,hA (HS.zero bh bj m j (DM.empty 60)) k→w8.heap.size≤k:=λk hk=>(hA10 k hk).elim (hfr9 k) λh=>Nat.le_trans g9.size h
  have hSlow:∀k,hS (HS.zero bh bj m j (DM.empty 60)) k→w8.heap.size≤k:=λk hk=>hAlow k (.inl hk)
  refine ce_ H10 ⟨by simp [HS.zero,logL],by simp [HS.zero],by simp [HS.zero,DM.empty]⟩ hL.ok (((hom.sl.grow hF8'.grow).grow g9).grow g10) (λa ha e=>?_) (λx hx=>by cases hx) (by show (0:Int)<_;omega) (by show 0<3;decide) λw11 j1 v H11 hvm hvb hvo c11 hfv hst11=>?_
  ·have h1:=hAlow a.block (.inl (.inr (.inl e)))
   have h2:=hom.lt a ha
   omega
  have hF11:=hF10.step c11 (λz hz e=>by
   have:=hSlow _ e
   simp only [List.mem_cons,List.not_mem_nil,or_false] at hz
   rcases hz with rfl | rfl <;> (simp only [] at this;omega)) λk hk e=>by have:=hSlow k e;omega
  refine ⟨_,rfl,hF11,λ_=>?_,(λt x h=>by cases h),.inl rfl⟩
  have hX11:=((hX8.grow g9).grow g10).keep c11 hSlow
  have s910:=g9.size
  have s1011:=g10.size
  refine ⟨λn8 lv w'=>∃(b:Nat) (s:HS) (v:HV),n8=b∧b≤list'.length∧lv=list'.length - b∧aa_ w' s∧s.bh=bh∧(∀k,hS s k→w8.heap.size≤k)∧s.vs=[v]∧v.man=x1.man 1∧v.ol=[]∧v.bl.length=b∧(∀p∈v.bl,p.1<b)∧s.d.sl.length=60∧(logL s.recs).length≤2000*(b+1)∧s.recs.length≤b+1∧s.d.ws.length≤2*(b+1)∧PubX w1.heap.size w8.heap.size w' x1,
   ⟨_,0,(HS.zero bh bj m j (DM.empty 60)).addM j1 v,v,rfl,by omega,rfl,H11,rfl,λk hk=>?_,rfl,hvm,hvo,by rw [hvb];rfl,(λp hp=>by rw [hvb] at hp;cases hp),?_,?_,?_,?_,hX11⟩,?_⟩
  ·rcases hst11 k hk with h | h
   ·exact hSlow k h
   ·omega
  ·show ((DM.empty 60).put (-1) _).sl.length=60
   rw [bc_];simp [DM.empty]
  ·show (logL ([]++[recM v.man])).length≤_
   rw [logL_snoc,List.length_append,sealL_len]
   have:=bn_ (m:=v.man) (by rw [hvm];exact hL.ok)
   have e0:(logL []).length=0:=rfl
   omega
  ·show ([]++[recM v.man]).length≤_
   simp
  ·show ((DM.empty 60).put (-1) _).ws.length≤_
   unfold DM.put DM.now;rw [if_pos rfl];simp [DM.empty]
  rintro n8 D lv w12 ⟨b,s,v,rfl,hb,rfl,H,hbh,hlow,hvs,hvman,hol,hbl,hblt,hsl,hlg,hrl,hws,hX⟩ hF12
  subst hbh
  have hvm1:v∈s.vs:=by rw [hvs];simp
  obtain ⟨ex,hx,hex1,hex2⟩:=hX
  have hX:PubX w1.heap.size w8.heap.size w12 x1:=⟨ex,hx,hex1,hex2⟩
  have hvv:∀u∈s.vs,u=v:=λu hu=>by rw [hvs] at hu;simpa using hu
  have hvver:v.man.version=1:=by rw [hvman,hver];rfl
  refine ⟨λhlt=>?_,λhge=>?_⟩
  ·have hb':b<list'.length:=by omega
   have hBlk:BlkR { x1 with ex:=ex } 1 (b:Int) ⟨3,1,(b:Int),list'.getD b [],ad_ (list'.map leafL) list'.length b 0 list'.length⟩:=⟨1,b,list',rfl,rfl,by omega,by show 1≤x1.last;omega,.inl (by show x1.last<_;omega),hL,hin,hb',rfl⟩
   refine aO_ hx (by decide) (λw13 mm q6 c6 g13 hR ho6 hc6 hof6=>⟨_,_,_,_,_,_,_,_,rfl,hF12.after g13,λl11 hl11=>⟨λ_ w14 hF14=>?_,(λt x h=>by cases h),.inl rfl⟩⟩) λw13 cc g13 hno _=>absurd hBlk (hno _)
   have hmm:=BlkR.uniq hx rfl rfl hR hBlk
   subst hmm
   have hF14':=hF14.unM hl11
   have g14:Grow w12 w14:=g13.trans hF14'.grow
   have H14:=H.grow g14
   have s14:=g14.size
   have s13:=g13.size
   have sw12:w.heap.size≤w12.heap.size:=hF12.gr.size
   have hp:af_ (b:Int) v.man.blocks (leafL (list'.getD b [])) (ad_ (list'.map leafL) list'.length b 0 list'.length) v.man.root:=by
    rw [hvman,hL.blocks,hL.root];exact bv_ hb' (by omega)
   have hsm:(list'.getD b []).length≤64:=by
    have e:list'.getD b []=list'[b]:=by simp [List.getD,hb']
    rw [e];exact hL.small _ (List.getElem_mem hb')
   refine b2_ (i:=(b:Int)) (n:=1) H14 ⟨by omega,by omega,by omega⟩ ⟨by omega,by omega⟩ ⟨by omega,by omega⟩ (t:=list'.getD b []) (by omega) (prf:=ad_ (list'.map leafL) list'.length b 0 list'.length) (ho6.sl.grow hF14'.grow) (λw' g hno=>absurd hvver (hno v hvm1)) (λw' u c' e hu _ g _ hbad _=>?_) (λw' u hu _ g _ ⟨p,hp1,hp2⟩=>?_) (λw' u hu _ g _ _ hall=>?_) (λw' u hu _ g _ _ hgt=>by omega) λw15 u j2 sl hu _ _ hnew hle2 _ H15 c15 hst15=>?_
   ·have:=hvv u hu
    subst this
    exact absurd hp hbad
   ·have:=hvv u hu
    subst this
    have:=hblt p hp1
    omega
   ·obtain ⟨n,hn1,hn2⟩:=bU_ s (by rw [hvs];simp only [List.flatMap_cons,List.flatMap_nil,List.append_nil,List.length_append,hol,List.length_nil];omega)
    exact absurd (hall n hn1) hn2
   ·have:=hvv u hu
    subst this
    have hF15:=hF14'.step c15 (λz hz e=>by
     have h1:=hlow _ e
     have h2:=H.lt _ (.inl e)
     simp only [List.mem_cons,List.not_mem_nil,or_false] at hz
     rcases hz with rfl | rfl | rfl <;> (simp only [] at h1 h2;omega)) λk hk e=>by have:=hlow k e;omega
    refine ⟨_,rfl,hF15,λ_=>?_,(λt x h=>by cases h),.inl rfl⟩
    have hrb:=bo_ (ver:=u.man.version) (i:=(b:Int)) (x:=(sl,leafL (list'.getD b []))) ⟨by omega,by omega⟩ ⟨by omega,by omega⟩ (by
     have h3:=H15.sl (u.putB b sl (list'.getD b [])) (by show _∈setV s.vs _;rw [hvs,aQ_ (by rfl)];simp) ((b:Int),sl,leafL (list'.getD b [])) (by simp [HV.putB])
     have h4:=H15.dl
     simp only [] at h3
     exact ⟨h3.1,by omega⟩) (by rw [ak_];omega)
    refine ⟨list'.length - (b+1),by omega,b+1,s.putB j2 u b sl (list'.getD b []),u.putB b sl (list'.getD b []),wr1 (by omega),by omega,rfl,H15,rfl,λk hk=>?_,?_,hvman,?_,?_,?_,?_,?_,?_,?_,(hX.grow g14).keep c15 hlow⟩
    ·rcases hst15 k hk with h | h
     ·exact hlow k h
     ·have:=hF12.chg.size
      have:w8.heap.size≤w12.heap.size:=by
       have h9:=H.lt s.bh (.inl (.inl rfl))
       have h10:=hlow s.bh (.inl rfl)
       omega
      omega
    ·show setV s.vs _=_
     rw [hvs,aQ_ (by rfl)]
    ·show u.ol.filter _=[]
     rw [hol];rfl
    ·show (u.bl++[_]).length=b+1
     rw [List.length_append,hbl];rfl
    ·intro p hp
     rcases List.mem_append.1 hp with hp | hp
     ·have:=hblt p hp;omega
     ·simp at hp;subst hp;simp only [];omega
    ·show ((s.d.put sl _).put (-1) _).sl.length=60
     have h3:=H15.sl (u.putB b sl (list'.getD b [])) (by show _∈setV s.vs _;rw [hvs,aQ_ (by rfl)];simp) ((b:Int),sl,leafL (list'.getD b [])) (by simp [HV.putB])
     simp only [] at h3
     rw [bc_,bp_ (by omega),List.length_set];exact hsl
    ·show (logL (s.recs++[_])).length≤_
     rw [logL_snoc,List.length_append,sealL_len];omega
    ·show (s.recs++[_]).length≤_
     rw [List.length_append,List.length_singleton];omega
    ·show ((s.d.put sl _).put (-1) _).ws.length≤_
     have hw:∀(d:DM) (n:Int) (z:List UInt8),(d.put n z).ws.length=d.ws.length+1:=λd n z=>by unfold DM.put DM.now;split <;> simp
     rw [hw,hw];omega
  ·have hbe:b=list'.length:=by omega
   refine bz_ H (n:=1) ⟨by omega,by omega⟩ (λw17 g17 u hu _=>?_) λw17 g17 hno=>absurd hvver (hno v hvm1)
   have:=hvv u hu
   subst this
   rw [decide_eq_true (by rw [hbl,hvman,hL.blocks,hbe])]
   have hF17:=hF12.after g17
   refine ⟨true,rfl,(λ_=>⟨hF17,by decide,by decide,by decide,by decide,?_⟩),λh=>by cases h⟩
   have hx17:=hx.grow g17
   refine aO_ hx17 ha.1 (λw18 mm q7 c7 g18 hR ho7 hc7 hof7=>?_) λw18 cc g18 hno hbe2=>?_
   ·obtain ⟨v',j',list2,ev,ej,k1,k2,k3,hL2,hin2,hj2,rfl⟩:=hR
    have k2':v'≤x1.last:=k2
    have ev1:v'=1:=by omega
    subst ev1
    have el:=aR_ hx.rep hL hL2 hin hin2
    subst el
    refine ⟨_,_,_,_,_,_,_,_,rfl,hF17.after g18,λl17 hl17=>⟨by decide,by decide,λh1=>⟨by decide,by decide,λhneg=>by omega,λhnn=>⟨by decide,by decide,λhge2=>by omega,λhlt2 w25 hF25=>?_⟩⟩,λhne=>absurd ev hne⟩⟩
    have hF25':=hF25.unM hl17
    exact cE_ λw26 g26=>⟨_,rfl,hF25'.reset.after g26,λ_=>⟨λ_=>hK w26 (hF25'.reset.after g26).gr,λh=>absurd rfl h⟩,λh=>absurd rfl h⟩
   ·have tell:∀(d:Int) (l17:Nat),(d=2∨d=13)→cc=d→w18.heap.size≤l17→∀w19,Fr S0 w w18 [l17] [⟨l17,#[.int .i64 0,.int .i64 0,.int .i64 0,.string ⟨#[]⟩,.slice none 0 0],T.msg_Msg,true⟩] w19→CallV PR F.api_Code #[.iface T.api_Errno (.int .i64 cc)] w19 (λv26 w20=>∃n15:Int,v26=.int .i64 n15∧Fs S0 w [⟨l17,#[.int .i64 0,.int .i64 0,.int .i64 0,.string ⟨#[]⟩,.slice none 0 0],T.msg_Msg,true⟩] w20∧(n15=d→(d=0→K (.bool true) w20)∧(¬d=0→CallV PR F.msg_Same #[msg0,msg0] w20 (λv27 w21=>∃b2:Bool,v27=.bool b2∧(b2=true→Fs S0 w [⟨l17,#[.int .i64 0,.int .i64 0,.int .i64 0,.string ⟨#[]⟩,.slice none 0 0],T.msg_Msg,true⟩] w21∧K (.bool true) w21)∧(b2=false→Fs S0 w [⟨l17,#[.int .i64 0,.int .i64 0,.int .i64 0,.string ⟨#[]⟩,.slice none 0 0],T.msg_Msg,true⟩] w21∧K (.bool false) w21))))∧(¬n15=d→K (.bool false) w20)):=by
     intro d l17 hd hcd hl17 w19 hF19
     have hF19':=hF19.unM hl17
     subst hcd
     refine Code_errno_spec (hE.cB_ hF19'.gr) (by omega) (by omega) λw20 g20=>⟨_,rfl,hF19'.reset.after g20,λ_=>⟨λh=>by omega,λ_=>?_⟩,λh=>absurd rfl h⟩
     have hF20:=hF19'.reset.after g20
     exact SameL_spec (m:=⟨0,0,0,[],[]⟩) (q:=none) (q2:=none) (c:=0) (c2:=0) (.inl rfl) (.inl rfl) (by simp) λw21 g21=>⟨true,rfl,(λ_=>⟨hF20.after g21,hK w21 (hF20.after g21).gr⟩),λh=>by cases h⟩
    have hc1:a0=1→cc=2:=λh1=>by
     rcases hbe2 with ⟨rfl,hnR⟩ | ⟨rfl,_⟩
     ·obtain ⟨r,hr⟩:=hx.has 1 (by omega) (by show 1≤x1.last;omega) (.inl (by show x1.last<_;omega))
      rw [h1] at hnR
      exact absurd hr (hnR r)
     ·rfl
    have hc2:a0≠1→cc=13:=λh1=>by
     rcases hbe2 with ⟨rfl,hnR⟩ | ⟨rfl,v',list2,ev,k1,k2,_⟩
     ·rfl
     ·have k2':v'≤x1.last:=k2
      omega
    refine ⟨_,_,_,_,_,_,_,_,rfl,hF17.after g18,λl17 hl17=>⟨by decide,by decide,λh1=>⟨by decide,by decide,λhneg w19 hF19=>tell 2 l17 (.inl rfl) (hc1 h1) hl17 w19 hF19,λhnn=>⟨by decide,by decide,λhge2 w19 hF19=>tell 2 l17 (.inl rfl) (hc1 h1) hl17 w19 hF19,λhlt2=>?_⟩⟩,λhne w19 hF19=>tell 13 l17 (.inr rfl) (hc2 hne) hl17 w19 hF19⟩⟩
    obtain ⟨j',rfl⟩:=Int.eq_ofNat_of_zero_le (a:=a1) (by omega)
    exact absurd (⟨1,j',list',h1,rfl,by omega,by show 1≤x1.last;omega,.inl (by show x1.last<_;omega),hL,hin,by omega,rfl⟩:BlkR { x1 with ex:=ex } a0 (j':Int) _) (hno _)
 ·have hF4:=hF3.after g4
  refine ⟨_,_,rfl,hF4,(λh=>by obtain ⟨t,x,rfl⟩:=hv.err;cases h),(λt x _=>?_),.inr (by obtain ⟨t,x,h⟩:=hv.err;exact ⟨t,x,h⟩)⟩
  refine bx_ (hs.grow hF4.gr) (by omega) (λw5 g5 hg=>absurd ⟨⟨hg,by rw [e2];omega,by omega⟩,by omega,by omega⟩ hno) λw5 nW g5 _ hne=>⟨_,rfl,(hF4.sub (L':=[]) (List.nil_sublist _)).after g5,λh=>absurd h hne,λ_=>?_⟩
  have hF5:=(hF4.sub (L':=[]) (List.nil_sublist _)).after g5
  refine Last_spec (hx4.grow g5) ⟨_,rfl,hF5,λ_=>?_,λh=>absurd (by rw [e3];rfl) h⟩
  refine b1_ (hx4.grow g5) λw6 q8 n8 c8 ss ns g6 _ _ _ _ hnl _ hns=>⟨_,_,_,rfl,hF5.after g6,λ_=>hK w6 (hF5.after g6).gr,λh=>absurd ?_ h⟩
  have:ns=[]:=by
   cases ns with
   | nil=>rfl
   | cons i r=>
    have:=(hns i).1 List.mem_cons_self
    unfold bg_ at this
    omega
  subst this
  rw [← hnl];rfl
end Go.Vc
namespace Go.Vc
open Go Go.ChangeShapes Go.WideShapes Go.ChangeAt Go.RowKit Go.Deep Go.Proofs Go.Proofs.YtcfbeaibcgjihaaGreatDoor
theorem bf_:Tryz.f6.params=#[T.int,T.sl_api_Edge,75]:=by kernel_rfl
theorem uArr:PR.underlying 75=some (.array 2 T.int):=by kernel_rfl
theorem cArr:PR.cellsOf 75=2:=by kernel_rfl
theorem cu_:PR.readableRec 75=true:=by kernel_rfl
theorem b5_:PR.readableRec T.sl_api_Edge=true:=by kernel_rfl
theorem cg_:PR.underlying T.sl_api_Edge=some (.slice T.api_Edge):=by kernel_rfl
theorem cD_:PR.cellsOf T.api_Edge=2:=by kernel_rfl
theorem cC_:flds T.api_Edge=some [(T.int,0),(T.int,1)]:=by kernel_rfl
section
variable {H:Type} {enc:TypeId × Value→H} {w:World} {base:Nat} {spare:Nat→Bool} {held:Bool}
theorem cn_ {n:Nat} {cs:List Value} {x:DataW H × List MemPlace} (hx:DataW.trod enc PR w base spare held n T.api_Edge cs=some x) (hlen:cs.length=2):∃e:Int × Int,cs=[.int .i64 e.1,.int .i64 e.2]:=by
 obtain ⟨m,hm⟩:=struct_of cC_ hx
 obtain ⟨y0,h0⟩:=hm 0 _ rfl
 obtain ⟨y1,h1⟩:=hm 1 _ rfl
 match cs,hlen with
 | [v0,v1],_=>
  rw [show PR.cellsOf (T.int,0).1=1 from cInt] at h0
  rw [show PR.cellsOf (T.int,1).1=1 from cInt] at h1
  obtain ⟨n0,e0,_,_⟩:=DataW.trod_int uInt h0
  obtain ⟨n1,e1,_,_⟩:=DataW.trod_int uInt h1
  obtain rfl:v0=.int .i64 n0:=(List.cons.inj e0).1
  obtain rfl:v1=.int .i64 n1:=(List.cons.inj e1).1
  exact ⟨(n0,n1),rfl⟩
theorem cb_ {fuel:Nat} {v:Value} {x:DataW H × List MemPlace} (h:DataW.trod enc PR w base spare held fuel T.sl_api_Edge [v]=some x):∃(q:Option Addr) (l:List (Int × Int)) (c:Nat),v=.slice q l.length c∧Sl w q (encE l):=by
 obtain ⟨q,l,c,h1,h2,_,_⟩:=slice_of (α:=Int × Int) (s:=2) (f:=λe=>[.int .i64 e.1,.int .i64 e.2]) (λ_=>rfl) (by decide) cg_ cD_ (G:=λ_=>True) (λn cs x hx hlen=>by
  obtain ⟨e,he⟩:=cn_ hx hlen
  exact ⟨e,he,trivial⟩) h
 exact ⟨q,l,c,h1,h2⟩
end
theorem bX_ (H:Type) (enc:TypeId × Value→H) (W:World) (base:Nat) (args:Array Value) (ds gs:List (DataW H)) (before:List MemPlace)
  (hval:∀(j:Nat) t v,Tryz.f6.params[j]? = some t→args[j]? = some v→Value.okWide Tryz.prog W .any base t v)
  (hW:DataW.Whole enc Tryz.prog Tryz.f6.params.toList Rows.pubTellsSpec.vars false W args.toList ds gs before) (hL:laidMetH Tryz.prog Rows.pubTellsRow.laid W) :
  Calls Tryz.prog 6 args W λe W'=>∃v,e=.returned v∧Rows.pubTellsSpec.post enc Tryz.prog Tryz.f6 false true false false W args v W':=by
 have hW':=hW
 obtain ⟨p,q,hA0,hV,rfl,hfz,hnd⟩:=hW
 have hA:DataW.TrodAll enc Tryz.prog W 0 (λ_=>true) true Tryz.f6.params.toList args.toList ds p:=hA0
 rw [bf_] at hA hval
 obtain ⟨v0,v1,v2,d0,d1,d2,p0,p1,p2,rfl,rfl,rfl,h0,h1,h2⟩:=trodAll_three hA
 obtain ⟨rfl,rfl⟩:=trodVars_none hV
 have h0k:=h0
 have h1k:=h1
 have h2k:=h2
 obtain ⟨n,rfl⟩:=okWide_int uInt (hval 0 _ _ rfl rfl)
 obtain ⟨q1,l1,c1,rfl⟩:=okWide_slice cg_ (hval 1 _ _ rfl rfl)
 obtain ⟨⟨cs2⟩,rfl,hs2⟩:=okWide_array uArr (hval 2 _ _ rfl rfl)
 rw [cArr] at hs2
 obtain ⟨fuel1,hf1⟩:=h1
 obtain ⟨fuel2,hf2⟩:=h2
 obtain ⟨y,l,c,e,sl⟩:=cb_ (v:=.slice q1 l1 c1) hf1
 cases e
 have hf2:DataW.trod enc PR W 0 (λ_=>true) true fuel2 75 cs2=some (d2,p2):=hf2
 have hs2:cs2.length=2:=by simpa using hs2
 obtain ⟨xs,m,_,_,_,hxl,hg⟩:=DataW.trod_array uArr hf2
 match cs2,hs2 with
 | [a0,a1],_=>
  have g0:=hg 0 (by decide)
  have g1:=hg 1 (by decide)
  rw [cInt] at g0 g1
  rw [List.getElem?_eq_getElem (by omega)] at g0 g1
  obtain ⟨n0,e0,_,r0⟩:=DataW.trod_int uInt g0
  obtain ⟨n1,e1,_,r1⟩:=DataW.trod_int uInt g1
  obtain rfl:a0=.int .i64 n0:=(List.cons.inj e0).1
  obtain rfl:a1=.int .i64 n1:=(List.cons.inj e1).1
  have hl0:∀x∈p0++p1++p2,x.block<W.heap.size:=λx hx=>hW'.lt x (by simpa using hx)
  refine a3_ (errT_of hL) sl ⟨int_range r0,int_range r1⟩ λW' g=>?_
  have hb:=below_of_grow g
  refine post_of_below (pa:=p0++(p1++(p2++[]))) (pv:=[]) hW' (λ_ _ _=>trodAll_cons_mk (shut_bool uBool _) trodAll_mk0)
   (λsp hsp=>?_) (λ_ _=>rfl) (by simp) hb (ok_one (by kernel_rfl) rfl (okWide_bool_mk uBool _))
  rw [bf_]
  have stay:∀ {t:TypeId} {v:Value} {d:DataW H} {q:List MemPlace},PR.readableRec t=true→decide (t<PR.types.size)=true→(∀x∈q,x∈p0++p1++p2)→DataW.Trod enc PR W 0 (λ_=>true) true t v d q→DataW.Trod enc PR W' 0 sp true t v d q:=λhr hz hq h=>
   WideElems.Trod_stays layG hr (of_decide_eq_true hz) h (λx hx=>hb.same (hl0 x (hq x hx))) (λx hx=>hsp x (by simpa using hq x hx))
  exact trodAll_cons_mk (stay (show PR.readableRec T.int=true by kernel_rfl) (by kernel_rfl) (λx hx=>by simp [hx]) h0k) (trodAll_cons_mk (stay b5_ (by kernel_rfl) (λx hx=>by simp [hx]) h1k) (trodAll_cons_mk (stay cu_ (by kernel_rfl) (λx hx=>by simp [hx]) h2k) trodAll_mk0))
def zInT:Array Value:=#[.int .i64 0,.slice none 0 0,.agg #[.int .i64 0,.int .i64 0]]
theorem cv_ (os:Os) {H:Type} (enc:TypeId × Value→H):∃places,DataW.whole enc Tryz.prog ((laidWorld os).forCall (λ_ _=>0) ⟨#[],zInT,[]⟩).memory Tryz.f6.params.toList Rows.pubTellsSpec.vars false zInT.toList 8 =
  some ([.lit (.int .i64 0),.nil,.agg [.lit (.int .i64 0),.lit (.int .i64 0)]],[],places):=
 ⟨[],by kernel_rfl⟩
theorem cm_ (os:Os) (started:os.Started) (H:Type) (enc:TypeId × Value→H) (F:Stop.Interp) :
  ReturnsInHanded {} Tryz.checked os 6 .any ((OpenSpec.ofChange Rows.pubTellsSpec).preRow enc Tryz.prog Tryz.f6 Rows.pubTellsRow.domain false Rows.pubTellsRow.laid) (((OpenSpec.ofChange Rows.pubTellsSpec).at F).post enc Tryz.prog Tryz.f6 false true false false):=by
 obtain ⟨places,hx⟩:=cv_ os enc
 refine returnsInHanded_of_row (C:=Tryz.checked) (s:=OpenSpec.ofChange Rows.pubTellsSpec) ownG started (by kernel_rfl) Tryz.func6
  (witness_row_atRef (enc:=enc) (C:=Tryz.checked) false (laidWorld os) zInT rfl (by kernel_rfl) (by kernel_rfl) (by kernel_rfl)
   (OpenSpec.preRow_of_cond 8 hx (by kernel_rfl) (λk hk=>by cases hk) (by kernel_rfl) (laid_met os _))) ?_
 intro W base args ds gs before hval hW _ _ _ hL hsh _
 exact bX_ H enc W base args ds gs before hval hW hL
set_option maxHeartbeats 4000000 in
theorem co_:joinedFacts Tryz.pinned.checked.prog 6 Tryz.f6 (OpenSpec.ofChange Rows.pubTellsSpec).bare Rows.pubTellsRow=true:=by
 unfold joinedFacts
 repeat' with_reducible refine Bool.and_eq_true_iff.2 ⟨?_,?_⟩
 all_goals (as_aux_lemma=>kernel_rfl)
theorem cx_:Tryz.pinned.checked.prog.funcNamed Rows.pubTellsRow.func=some 6:=by kernel_rfl
theorem cz_:Rows.PubTellsSaid:=
 OpenClaim.holds_of_cond 6 Tryz.f6 rfl rfl rfl rfl rfl rfl rfl ⟨rfl,rfl,rfl,rfl,rfl⟩ rfl rfl rfl rfl rfl cx_ Tryz.func6 co_
  (of_decide_eq_true (by kernel_rfl)) (by unfold Func.isWrapper;first | (rw [if_pos (by decide +kernel)];kernel_rfl) | (rw [if_neg (by decide +kernel)];exact ⟨rfl,rfl⟩))
  (λos started H enc _ F=>by rw [OpenClaim.pre_eq_preRow];exact cm_ os started H enc F)
theorem cw_ (f:FuncId) (fn:Func) (hf:Tryz.pinned.checked.prog.funcNamed "lading/ladinglaw22.PubTells" = some f) (hfn:Tryz.pinned.checked.prog.funcs[f]? = some fn) :
  true=Tryz.pinned.checked.prog.looks []∧∀(j:Nat) t,fn.params[j]? = some t→Tryz.pinned.checked.prog.wantsStandIn t=false:=by
 obtain rfl:f=6:=Option.some.inj ((show Tryz.prog.funcNamed "lading/ladinglaw22.PubTells" = some 6 by kernel_rfl).symm.trans hf) |>.symm
 obtain rfl:fn=Tryz.f6:=(Option.some.inj (Tryz.func6.symm.trans hfn)).symm
 refine ⟨by kernel_rfl,λj t ht=>?_⟩
 rw [bf_] at ht
 have ht:t=T.int∨t=T.sl_api_Edge∨t=75:=by simpa using Array.mem_of_getElem? ht
 rcases ht with rfl | rfl | rfl
 ·exact (show Tryz.prog.wantsStandIn T.int=false by kernel_rfl)
 ·exact (show Tryz.prog.wantsStandIn T.sl_api_Edge=false by kernel_rfl)
 ·exact (show Tryz.prog.wantsStandIn 75=false by kernel_rfl)
theorem cardT:Rows.PubTellsCardSaid:=
 Claim7.holds_tied_plain_at .later [] _ _ _ _ cz_ (λ_ h=>by cases h) (by kernel_rfl) (λ_ h=>by cases h) pubTells_row_tie rfl ⟨rfl,rfl⟩ (by kernel_rfl) rfl cw_ (by kernel_rfl)
end Go.Vc
