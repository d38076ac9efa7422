/-
  A part of the proof of the statement HeadAgainCardSaid, in Lean: Ac3, Ac4, MirP14, Ac5, Ac6, MirH3, Pr4, Pr5, Pr6, Hd1, Hd2, Hd3, Is1, Hd4. By an AI agent.
-/
import Derived.Test.YtoopcoeonbkedaaGreatDoorP12
import Derived.Test.YtoopcoeonbkedaaGreatDoorP02
import Derived.Test.YtoopcoeonbkedaaGreatDoorP07
import Derived.Test.YtoopcoeonbkedaaGreatDoorP10
set_option linter.unusedSimpArgs false
set_option linter.unusedVariables false
set_option maxRecDepth 100000
namespace Go.Vc
open Go Go.MapKept
structure MsgV where
 kind:Int
 ver:Int
 i:Int
 text:ByteArray
def msgC (m:MsgV):List Value:=[.int .i64 m.kind,.int .i64 m.ver,.int .i64 m.i,.string m.text,.slice none 0 0]
theorem hm_ (m:MsgV):(msgC m).length=5:=rfl
theorem sq_:PR.underlying T.er_=some (.slice T.bU_):=by kernel_rfl
theorem sO_:∃i,PR.info? T.bU_=some i∧i.size=5∧i.bytes=64∧i.zero=some (.agg #[.int .i64 0,.int .i64 0,.int .i64 0,.string ⟨#[]⟩,.slice none 0 0]):=by
 have h:(match PR.info? T.bU_ with | some i=>i.size == 5 && i.bytes == 64 && (match i.zero with | some (.agg ⟨[.int .i64 0,.int .i64 0,.int .i64 0,.string ⟨⟨[]⟩⟩,.slice none 0 0]⟩)=>true | _=>false) | none=>false)=true:=by kernel_rfl
 split at h
 ·rename_i i hi
  simp only [Bool.and_eq_true,beq_iff_eq] at h
  refine ⟨i,hi,h.1.1,h.1.2,?_⟩
  have h2:=h.2
  split at h2
  ·assumption
  ·cases h2
 ·cases h
theorem bW_ {w:World} {q q2:Option Addr} {l c l2 c2:Nat} {xs ys:List MsgV} {K:Value→World→Prop}
  (ho:Own T.bU_ 5 w q c (xs.flatMap msgC)) (hl:l=xs.length) (hlc:l≤c) (hs:Sl w q2 (ys.flatMap msgC)) (hl2:l2=ys.length) (hroom:l+l2≤1000000)
  (hK:∀q' c' w',Own T.bU_ 5 w' q' c' ((xs++ys).flatMap msgC)→l+l2≤c'→Chg (aS_ q) w w'→(∀a,q'=some a→q=some a∨a=⟨w.heap.size,0,none⟩)→(c<l+l2∨ys.flatMap msgC=[]→Grow w w')→K (.slice q' (l+l2) c') w') :
  rn PR (Builtin.append_ #[T.er_,T.er_] T.er_ #[.slice q l c,.slice q2 l2 c2]) K w:=by
 obtain ⟨i,hi,hk,hb,hz⟩:=sO_
 refine cO_ <| eP_ (i:=i) sq_ sq_ hi hz (by rw [hk];rfl) (by rw [hb];decide) (by rw [hk];exact ho) (by rw [hk,bN_ hm_,hl]) hlc hs (by rw [hk,bN_ hm_,hl2]) (λy hy=>?_) (by rw [hb];omega) λq' c' w' h=>hK q' c' w' (by rw [hk] at h;rw [List.flatMap_append];exact h)
 obtain ⟨m,_,hm⟩:=List.mem_flatMap.1 hy
 simp [msgC] at hm
 rcases hm with rfl | rfl | rfl | rfl | rfl <;> rfl
theorem a2_ {k t:Int} {w:World} {K:Value→World→Prop} (hK:∀w',Grow w w'→K (.agg #[.int .i64 k,.int .i64 t,.int .i64 0,.string ⟨#[]⟩,.slice none 0 0]) w'):aa_ PR F.kU_ ⟨[.int .i64 k,.int .i64 t]⟩ w K:=
 kU_ k t S0 K w λl0 hl0 w0 hF0=>hK w0 hF0.gr
def bs_ (m:Man):MsgV:=⟨1,0,0,str (aH_ m)⟩
def dd_ (k t:Int):MsgV:=⟨k,t,0,⟨#[]⟩⟩
def sf_ (t now:Int):MsgV:=⟨10,t,now,⟨#[]⟩⟩
def j3_ (s:ActS) (r:Rp):List MsgV:=if 0<s.tgt∧r.prepared<s.tgt then [bs_ (s.x.man s.tgt)]++(if r.ready≥s.tgt then [dd_ 6 s.tgt] else []) else []
def comL (s:ActS) (r:Rp):List MsgV:=if r.done<s.x.com then [bs_ (s.x.man s.x.com),dd_ 8 s.x.com] else []
def bo_ (s:ActS) (r:Rp) (now:Int):List MsgV:=[sf_ s.x.com now]++j3_ s r++comL s r
theorem dM_ {N:Nat} {w:World} {s:ActS} (h:ba_ N w s) {r:Rp} {K:Value→World→Prop} (hK:∀w' t,Grow w w'→(t=true↔r.done<s.x.com)→K (.bool t) w') :
  aa_ PR F.g4_ ⟨[.pointer (some ⟨s.a,0,none⟩),.agg #[.int .i64 r.ready,.int .i64 r.prepared,.int .i64 r.done,.bool r.heard,.int .i64 r.at_]]⟩ w K:=by
 refine ja_ s.a _ _ _ _ r.ready r.prepared r.done r.heard r.at_ (· = s.a) K w h.e ⟨rfl,trivial⟩ λl0 hl0 w0 hF0=>?_
 exact ak_ (h.pub.grow hF0.grow) ⟨_,rfl,hF0.reset,λhlt=>hK w0 true hF0.grow ⟨λ_=>hlt,λ_=>rfl⟩,λhge=>hK w0 false hF0.grow ⟨(λh=>by cases h),λh=>absurd h hge⟩⟩
theorem lg_ {N:Nat} {w:World} {s:ActS} (h:ba_ N w s) {r:Rp} {now:Int} (hd:0≤r.done) {K:Value→World→Prop}
  (hK:∀w' q c,Grow w w'→Sl w' q ((bo_ s r now).flatMap msgC)→(∀a,q=some a→w.heap.size≤a.block∧a.block<w'.heap.size)→K (.slice q (bo_ s r now).length c) w') :
  aa_ PR F.iY_ ⟨[.pointer (some ⟨s.a,0,none⟩),.agg #[.int .i64 r.ready,.int .i64 r.prepared,.int .i64 r.done,.bool r.heard,.int .i64 r.at_],.int .i64 now]⟩ w K:=by
 have ha:=aj_ h.blk
 have gr:∀ {wp wi:World} {M:List Nat} {L:List Blk},Fr (· = s.a) w wp M (⟨s.a,actC s,T.bG_,true⟩ :: L) wi→Grow w wi:=λhF=>hF.chg.same h.blk (hF.blk 0 rfl)
 have hp:∀ {wi:World},Grow w wi→aK_ N wi s.x:=λg=>h.pub.grow g
 have hcl:=h.pub.com_le
 refine l7_ s.a _ _ _ _ r.ready r.prepared r.done r.heard r.at_ now (· = s.a) K w h.e ⟨rfl,trivial⟩ λl0 hl0 w1 hF1=>?_
 refine ak_ (hp (gr hF1)) ⟨_,rfl,hF1.reset,λl1 hl1 w2 hF2=>?_⟩
 refine dN_ (h.grow (gr hF2)) λw3 g3=>⟨_,rfl,hF2.reset.after g3,?_⟩
 have hF3:=hF2.reset.after g3
 have hl0w:l0<w1.heap.size:=aj_ (hF1.blk 1 rfl)
 have ho3:Own T.bU_ 5 w3 (some ⟨l1,0,none⟩) 1 ([sf_ s.x.com now].flatMap msgC):=.inr ⟨l1,0,_,rfl,hF3.blk 2 rfl,rfl,by omega,Nat.le_refl 5,λi hi=>by rw [Nat.zero_add];simp [msgC,sf_]⟩
 have of3:Off (λj=>j<w1.heap.size) (some ⟨l1,0,none⟩):=λa ha hlt=>by cases ha;simp only [] at hlt;omega
 have s1:=(gr hF1).size
 have fin:∀ {wi:World} {q:Option Addr} {c:Nat} {ms:List MsgV},Grow w wi→Sl wi q (ms.flatMap msgC)→ms=bo_ s r now→(∀a,q=some a→w.heap.size≤a.block∧a.block<wi.heap.size)→K (.slice q ms.length c) wi:=λg hs e hb=>by subst e;exact hK _ _ _ g hs hb
 have htgt:s.tgt=0∨s.tgt=s.x.last:=by unfold ActS.tgt;split <;> simp
 refine ⟨λhtg=>⟨λhpr=>?_,λhpr=>?_⟩,λhtg=>?_⟩
 ·have htl:s.tgt=s.x.last:=by omega
  refine aU_ (i:=s.tgt) (hp (gr hF3)) (by omega) (by omega) (.inl (by omega)) λw4 g4=>⟨_,_,_,_,_,_,_,_,rfl,hF3.after g4,λl4 hl4 l5 hl5 w5 hF5=>?_⟩
  have g35:Grow w3 w5:=g4.trans (hF5.unM hl4).grow
  refine bW_ (xs:=[sf_ s.x.com now]) (ys:=[bs_ (s.x.man s.tgt)]) (ho3.grow g35) rfl (Nat.le_refl _) (hF5.sl 4 rfl) rfl (by decide) λq1 c1 w6 ho6 hc6 g6 hq6 hg6=>?_
  have g56:=hg6 (.inl (by decide))
  have hF6:=(hF5.unM hl4).after g56
  have of6:Off (λj=>j<w1.heap.size) q1:=of3.next hq6 (by have:=g35.size;have:=g3.size;have:=hF2.grow.size;omega)
  have hlc:1+1≤c1:=hc6
  refine ⟨_,_,_,rfl,hF6,λhrd=>?_,λhrd=>?_⟩
  ·have hms:j3_ s r=[bs_ (s.x.man s.tgt)]++[dd_ 6 s.tgt]:=by rw [j3_,if_pos ⟨by omega,hpr⟩,if_pos hrd]
   refine a2_ λw7 g7=>⟨_,_,_,_,_,_,_,rfl,(hF6.after g7).sub (by simp),λl10 hl10 w8 hF8=>?_⟩
   have g68:Grow w6 w8:=g7.trans hF8.grow
   refine bW_ (ys:=[dd_ 6 s.tgt]) (ho6.grow g68) rfl hlc (hF8.sl 2 rfl) rfl (by decide) λq3 c3 w9 ho9 hc9 g9 hq9 hg9=>?_
   have hF9:=hF8.app2 g9 w1.heap.size w6.heap.size of6 (λa ha=>ho6.lt a ha) (λx hx=>by have:=g7.size;simp at hx;rcases hx with rfl | rfl | rfl;exact .inl (by simp only [];omega);exact .inl hl0w;exact .inr (by simp only [];omega)) s1
   have of9:Off (λj=>j<w1.heap.size) q3:=of6.next hq9 (by have:=(gr hF8).size;have:=g68.size;have:=g56.size;have:=g35.size;have:=g3.size;have:=hF2.grow.size;omega)
   have hlc:1+1+1≤c3:=hc9
   refine ⟨_,_,_,rfl,hF9,?_⟩
   have w1O:w1.heap.size≤w9.heap.size:=by have:=g9.size;have:=g68.size;have:=g56.size;have:=g35.size;have:=g3.size;have:=hF2.grow.size;omega
   refine dM_ (h.grow (gr hF9)) λw10 t g10 ht=>⟨t,rfl,λhtt=>?_,λhtf=>?_⟩
   ·have hbe:r.done<s.x.com:=ht.1 htt
    have htel:comL s r=[bs_ (s.x.man s.x.com),dd_ 8 s.x.com]:=if_pos hbe
    have hF10:=hF9.reset.after g10
    have gO10:Grow w9 w10:=g10
    refine ⟨hF10.sub (by simp),λw11 hF11=>?_,λl29 hl29 w26 hF26=>?_⟩
    ·have gO11:=gO10.trans hF11.grow
     refine ak_ (hp (gr hF11)) ⟨_,rfl,hF11.reset,?_,λl21 hl21 w19 hF19=>?_⟩
     ·refine aU_ (hp (gr hF11)) (by omega) hcl (.inr rfl) λw13 g13=>⟨_,_,_,_,_,_,_,_,rfl,hF11.reset.after g13,λl15 hl15 w14 hF14=>?_⟩
      have b15:w11.heap.size≤l15:=by have:=g13.size;omega
      have bO:=gO11.size
      have gO14:Grow w9 _:=((gO11.trans g13).trans (hF14.unM hl15).grow)
      refine ak_ (hp (gr hF14)) ⟨_,rfl,hF14.reset,?_⟩
      refine a2_ λw16 g16=>⟨_,_,_,_,_,_,_,rfl,hF14.reset.after g16,λl18 hl18 w17 hF17=>?_⟩
      have gO17:Grow w9 w17:=(gO14.trans g16).trans hF17.grow
      refine bW_ (ys:=[bs_ (s.x.man s.x.com),dd_ 8 s.x.com]) (ho9.grow gO17) rfl hlc (hF17.sl 2 rfl) rfl (by decide) λq6 c6 w18 ho18 hc18 g18 hq18 hg18=>?_
      have hF18:=hF17.app2 g18 w1.heap.size w9.heap.size of9 (λa ha=>ho9.lt a ha) (λx hx=>by have:=gO17.size;have:=gO14.size;have:=g16.size;simp at hx;rcases hx with rfl | rfl | rfl;exact .inl (by simp only [];omega);exact .inr (by simp only [];omega);exact .inr (by simp only [];omega)) s1
      exact ⟨_,_,_,rfl,hF18,fin (gr hF18) ho18.sl (by rw [bo_,hms,htel] <;> rfl) λa ha=>⟨by have:=(of9.next hq18 (by have:=gO17.size;omega)).le a ha;omega,ho18.lt a ha⟩⟩
     ·have gO19:=gO11.trans hF19.grow
      refine aU_ (hp (gr hF19)) (by omega) hcl (.inr rfl) λw20 g20=>⟨_,_,_,_,_,_,_,_,rfl,hF19.reset.after g20,λw21 hF21=>?_⟩
      have bO:=gO11.size
      have gO14:Grow w9 _:=(Chg.trans (gO19.trans g20) hF21.stp λi hi hm=>by simp at hm;omega)
      refine ak_ (hp (gr hF21)) ⟨_,rfl,hF21.reset,?_⟩
      refine a2_ λw16 g16=>⟨_,_,_,_,_,_,_,rfl,hF21.reset.after g16,λl18 hl18 w17 hF17=>?_⟩
      have gO17:Grow w9 w17:=(gO14.trans g16).trans hF17.grow
      refine bW_ (ys:=[bs_ (s.x.man s.x.com),dd_ 8 s.x.com]) (ho9.grow gO17) rfl hlc (hF17.sl 2 rfl) rfl (by decide) λq6 c6 w18 ho18 hc18 g18 hq18 hg18=>?_
      have hF18:=hF17.app2 g18 w1.heap.size w9.heap.size of9 (λa ha=>ho9.lt a ha) (λx hx=>by have:=gO17.size;have:=gO14.size;have:=g16.size;simp at hx;rcases hx with rfl | rfl | rfl;exact .inl (by simp only [];omega);exact .inr (by simp only [];omega);exact .inr (by simp only [];omega)) s1
      exact ⟨_,_,_,rfl,hF18,fin (gr hF18) ho18.sl (by rw [bo_,hms,htel] <;> rfl) λa ha=>⟨by have:=(of9.next hq18 (by have:=gO17.size;omega)).le a ha;omega,ho18.lt a ha⟩⟩
    ·have gO26:=gO10.trans hF26.grow
     refine ak_ (hp (gr hF26)) ⟨_,rfl,hF26.reset,?_⟩
     refine aU_ (hp (gr hF26)) (by omega) hcl (.inr rfl) λw28 g28=>⟨_,_,_,_,_,_,_,_,rfl,hF26.reset.after g28,λw29 hF29=>?_⟩
     have bO:=gO10.size
     have gO14:Grow w9 _:=(Chg.trans (gO26.trans g28) hF29.stp λi hi hm=>by simp at hm;omega)
     refine ak_ (hp (gr hF29)) ⟨_,rfl,hF29.reset,?_⟩
     refine a2_ λw16 g16=>⟨_,_,_,_,_,_,_,rfl,hF29.reset.after g16,λl18 hl18 w17 hF17=>?_⟩
     have gO17:Grow w9 w17:=(gO14.trans g16).trans hF17.grow
     refine bW_ (ys:=[bs_ (s.x.man s.x.com),dd_ 8 s.x.com]) (ho9.grow gO17) rfl hlc (hF17.sl 2 rfl) rfl (by decide) λq6 c6 w18 ho18 hc18 g18 hq18 hg18=>?_
     have hF18:=hF17.app2 g18 w1.heap.size w9.heap.size of9 (λa ha=>ho9.lt a ha) (λx hx=>by have:=gO17.size;have:=gO14.size;have:=g16.size;simp at hx;rcases hx with rfl | rfl | rfl;exact .inl (by simp only [];omega);exact .inr (by simp only [];omega);exact .inr (by simp only [];omega)) s1
     exact ⟨_,_,_,rfl,hF18,fin (gr hF18) ho18.sl (by rw [bo_,hms,htel] <;> rfl) λa ha=>⟨by have:=(of9.next hq18 (by have:=gO17.size;omega)).le a ha;omega,ho18.lt a ha⟩⟩
   ·have hbe:¬r.done<s.x.com:=λhlt=>by rw [ht.2 hlt] at htf;cases htf
    have htel:comL s r=[]:=if_neg hbe
    have hF10:=hF9.reset.after g10
    have gO10:Grow w9 w10:=g10
    exact ⟨hF10.sub (by simp),fin (gr hF10) (ho9.sl.grow gO10) (by rw [bo_,hms,htel] <;> rfl) λa ha=>⟨by have:=of9.le a ha;omega,by have:=ho9.lt a ha;have:=gO10.size;omega⟩⟩
  ·have hms:j3_ s r=[bs_ (s.x.man s.tgt)]:=by rw [j3_,if_pos ⟨by omega,hpr⟩,if_neg hrd,List.append_nil]
   have w1O:w1.heap.size≤w6.heap.size:=by have:=g56.size;have:=g35.size;have:=g3.size;have:=hF2.grow.size;omega
   refine dM_ (h.grow (gr hF6)) λw10 t g10 ht=>⟨t,rfl,λhtt=>?_,λhtf=>?_⟩
   ·have hbe:r.done<s.x.com:=ht.1 htt
    have htel:comL s r=[bs_ (s.x.man s.x.com),dd_ 8 s.x.com]:=if_pos hbe
    have hF10:=hF6.reset.after g10
    have gO10:Grow w6 w10:=g10
    refine ⟨hF10.sub (by simp),λw11 hF11=>?_,λl29 hl29 w26 hF26=>?_⟩
    ·have gO11:=gO10.trans hF11.grow
     refine ak_ (hp (gr hF11)) ⟨_,rfl,hF11.reset,?_,λl21 hl21 w19 hF19=>?_⟩
     ·refine aU_ (hp (gr hF11)) (by omega) hcl (.inr rfl) λw13 g13=>⟨_,_,_,_,_,_,_,_,rfl,hF11.reset.after g13,λl15 hl15 w14 hF14=>?_⟩
      have b15:w11.heap.size≤l15:=by have:=g13.size;omega
      have bO:=gO11.size
      have gO14:Grow w6 _:=((gO11.trans g13).trans (hF14.unM hl15).grow)
      refine ak_ (hp (gr hF14)) ⟨_,rfl,hF14.reset,?_⟩
      refine a2_ λw16 g16=>⟨_,_,_,_,_,_,_,rfl,hF14.reset.after g16,λl18 hl18 w17 hF17=>?_⟩
      have gO17:Grow w6 w17:=(gO14.trans g16).trans hF17.grow
      refine bW_ (ys:=[bs_ (s.x.man s.x.com),dd_ 8 s.x.com]) (ho6.grow gO17) rfl hlc (hF17.sl 2 rfl) rfl (by decide) λq6 c6 w18 ho18 hc18 g18 hq18 hg18=>?_
      have hF18:=hF17.app2 g18 w1.heap.size w6.heap.size of6 (λa ha=>ho6.lt a ha) (λx hx=>by have:=gO17.size;have:=gO14.size;have:=g16.size;simp at hx;rcases hx with rfl | rfl | rfl;exact .inl (by simp only [];omega);exact .inr (by simp only [];omega);exact .inr (by simp only [];omega)) s1
      exact ⟨_,_,_,rfl,hF18,fin (gr hF18) ho18.sl (by rw [bo_,hms,htel] <;> rfl) λa ha=>⟨by have:=(of6.next hq18 (by have:=gO17.size;omega)).le a ha;omega,ho18.lt a ha⟩⟩
     ·have gO19:=gO11.trans hF19.grow
      refine aU_ (hp (gr hF19)) (by omega) hcl (.inr rfl) λw20 g20=>⟨_,_,_,_,_,_,_,_,rfl,hF19.reset.after g20,λw21 hF21=>?_⟩
      have bO:=gO11.size
      have gO14:Grow w6 _:=(Chg.trans (gO19.trans g20) hF21.stp λi hi hm=>by simp at hm;omega)
      refine ak_ (hp (gr hF21)) ⟨_,rfl,hF21.reset,?_⟩
      refine a2_ λw16 g16=>⟨_,_,_,_,_,_,_,rfl,hF21.reset.after g16,λl18 hl18 w17 hF17=>?_⟩
      have gO17:Grow w6 w17:=(gO14.trans g16).trans hF17.grow
      refine bW_ (ys:=[bs_ (s.x.man s.x.com),dd_ 8 s.x.com]) (ho6.grow gO17) rfl hlc (hF17.sl 2 rfl) rfl (by decide) λq6 c6 w18 ho18 hc18 g18 hq18 hg18=>?_
      have hF18:=hF17.app2 g18 w1.heap.size w6.heap.size of6 (λa ha=>ho6.lt a ha) (λx hx=>by have:=gO17.size;have:=gO14.size;have:=g16.size;simp at hx;rcases hx with rfl | rfl | rfl;exact .inl (by simp only [];omega);exact .inr (by simp only [];omega);exact .inr (by simp only [];omega)) s1
      exact ⟨_,_,_,rfl,hF18,fin (gr hF18) ho18.sl (by rw [bo_,hms,htel] <;> rfl) λa ha=>⟨by have:=(of6.next hq18 (by have:=gO17.size;omega)).le a ha;omega,ho18.lt a ha⟩⟩
    ·have gO26:=gO10.trans hF26.grow
     refine ak_ (hp (gr hF26)) ⟨_,rfl,hF26.reset,?_⟩
     refine aU_ (hp (gr hF26)) (by omega) hcl (.inr rfl) λw28 g28=>⟨_,_,_,_,_,_,_,_,rfl,hF26.reset.after g28,λw29 hF29=>?_⟩
     have bO:=gO10.size
     have gO14:Grow w6 _:=(Chg.trans (gO26.trans g28) hF29.stp λi hi hm=>by simp at hm;omega)
     refine ak_ (hp (gr hF29)) ⟨_,rfl,hF29.reset,?_⟩
     refine a2_ λw16 g16=>⟨_,_,_,_,_,_,_,rfl,hF29.reset.after g16,λl18 hl18 w17 hF17=>?_⟩
     have gO17:Grow w6 w17:=(gO14.trans g16).trans hF17.grow
     refine bW_ (ys:=[bs_ (s.x.man s.x.com),dd_ 8 s.x.com]) (ho6.grow gO17) rfl hlc (hF17.sl 2 rfl) rfl (by decide) λq6 c6 w18 ho18 hc18 g18 hq18 hg18=>?_
     have hF18:=hF17.app2 g18 w1.heap.size w6.heap.size of6 (λa ha=>ho6.lt a ha) (λx hx=>by have:=gO17.size;have:=gO14.size;have:=g16.size;simp at hx;rcases hx with rfl | rfl | rfl;exact .inl (by simp only [];omega);exact .inr (by simp only [];omega);exact .inr (by simp only [];omega)) s1
     exact ⟨_,_,_,rfl,hF18,fin (gr hF18) ho18.sl (by rw [bo_,hms,htel] <;> rfl) λa ha=>⟨by have:=(of6.next hq18 (by have:=gO17.size;omega)).le a ha;omega,ho18.lt a ha⟩⟩
   ·have hbe:¬r.done<s.x.com:=λhlt=>by rw [ht.2 hlt] at htf;cases htf
    have htel:comL s r=[]:=if_neg hbe
    have hF10:=hF6.reset.after g10
    have gO10:Grow w6 w10:=g10
    exact ⟨hF10.sub (by simp),fin (gr hF10) (ho6.sl.grow gO10) (by rw [bo_,hms,htel] <;> rfl) λa ha=>⟨by have:=of6.le a ha;omega,by have:=ho6.lt a ha;have:=gO10.size;omega⟩⟩
 ·have hms:j3_ s r=[]:=if_neg λhh=>hpr hh.2
  have w1O:w1.heap.size≤w3.heap.size:=by have:=g3.size;have:=hF2.grow.size;omega
  refine dM_ (h.grow (gr hF3)) λw10 t g10 ht=>⟨t,rfl,λhtt=>?_,λhtf=>?_⟩
  ·have hbe:r.done<s.x.com:=ht.1 htt
   have htel:comL s r=[bs_ (s.x.man s.x.com),dd_ 8 s.x.com]:=if_pos hbe
   have hF10:=hF3.reset.after g10
   have gO10:Grow w3 w10:=g10
   refine ⟨hF10.sub (by simp),λw11 hF11=>?_,λl29 hl29 w26 hF26=>?_⟩
   ·have gO11:=gO10.trans hF11.grow
    refine ak_ (hp (gr hF11)) ⟨_,rfl,hF11.reset,?_,λl21 hl21 w19 hF19=>?_⟩
    ·refine aU_ (hp (gr hF11)) (by omega) hcl (.inr rfl) λw13 g13=>⟨_,_,_,_,_,_,_,_,rfl,hF11.reset.after g13,λl15 hl15 w14 hF14=>?_⟩
     have b15:w11.heap.size≤l15:=by have:=g13.size;omega
     have bO:=gO11.size
     have gO14:Grow w3 _:=((gO11.trans g13).trans (hF14.unM hl15).grow)
     refine ak_ (hp (gr hF14)) ⟨_,rfl,hF14.reset,?_⟩
     refine a2_ λw16 g16=>⟨_,_,_,_,_,_,_,rfl,hF14.reset.after g16,λl18 hl18 w17 hF17=>?_⟩
     have gO17:Grow w3 w17:=(gO14.trans g16).trans hF17.grow
     refine bW_ (ys:=[bs_ (s.x.man s.x.com),dd_ 8 s.x.com]) (ho3.grow gO17) rfl (Nat.le_refl _) (hF17.sl 3 rfl) rfl (by decide) λq6 c6 w18 ho18 hc18 g18 hq18 hg18=>?_
     have hF18:=hF17.reset.after (hg18 (.inl (by decide)))
     exact ⟨_,_,_,rfl,hF18,fin (gr hF18) ho18.sl (by rw [bo_,hms,htel] <;> rfl) λa ha=>⟨by have:=(of3.next hq18 (by have:=gO17.size;omega)).le a ha;omega,ho18.lt a ha⟩⟩
    ·have gO19:=gO11.trans hF19.grow
     refine aU_ (hp (gr hF19)) (by omega) hcl (.inr rfl) λw20 g20=>⟨_,_,_,_,_,_,_,_,rfl,hF19.reset.after g20,λw21 hF21=>?_⟩
     have bO:=gO11.size
     have gO14:Grow w3 _:=(Chg.trans (gO19.trans g20) hF21.stp λi hi hm=>by simp at hm;omega)
     refine ak_ (hp (gr hF21)) ⟨_,rfl,hF21.reset,?_⟩
     refine a2_ λw16 g16=>⟨_,_,_,_,_,_,_,rfl,hF21.reset.after g16,λl18 hl18 w17 hF17=>?_⟩
     have gO17:Grow w3 w17:=(gO14.trans g16).trans hF17.grow
     refine bW_ (ys:=[bs_ (s.x.man s.x.com),dd_ 8 s.x.com]) (ho3.grow gO17) rfl (Nat.le_refl _) (hF17.sl 3 rfl) rfl (by decide) λq6 c6 w18 ho18 hc18 g18 hq18 hg18=>?_
     have hF18:=hF17.reset.after (hg18 (.inl (by decide)))
     exact ⟨_,_,_,rfl,hF18,fin (gr hF18) ho18.sl (by rw [bo_,hms,htel] <;> rfl) λa ha=>⟨by have:=(of3.next hq18 (by have:=gO17.size;omega)).le a ha;omega,ho18.lt a ha⟩⟩
   ·have gO26:=gO10.trans hF26.grow
    refine ak_ (hp (gr hF26)) ⟨_,rfl,hF26.reset,?_⟩
    refine aU_ (hp (gr hF26)) (by omega) hcl (.inr rfl) λw28 g28=>⟨_,_,_,_,_,_,_,_,rfl,hF26.reset.after g28,λw29 hF29=>?_⟩
    have bO:=gO10.size
    have gO14:Grow w3 _:=(Chg.trans (gO26.trans g28) hF29.stp λi hi hm=>by simp at hm;omega)
    refine ak_ (hp (gr hF29)) ⟨_,rfl,hF29.reset,?_⟩
    refine a2_ λw16 g16=>⟨_,_,_,_,_,_,_,rfl,hF29.reset.after g16,λl18 hl18 w17 hF17=>?_⟩
    have gO17:Grow w3 w17:=(gO14.trans g16).trans hF17.grow
    refine bW_ (ys:=[bs_ (s.x.man s.x.com),dd_ 8 s.x.com]) (ho3.grow gO17) rfl (Nat.le_refl _) (hF17.sl 3 rfl) rfl (by decide) λq6 c6 w18 ho18 hc18 g18 hq18 hg18=>?_
    have hF18:=hF17.reset.after (hg18 (.inl (by decide)))
    exact ⟨_,_,_,rfl,hF18,fin (gr hF18) ho18.sl (by rw [bo_,hms,htel] <;> rfl) λa ha=>⟨by have:=(of3.next hq18 (by have:=gO17.size;omega)).le a ha;omega,ho18.lt a ha⟩⟩
  ·have hbe:¬r.done<s.x.com:=λhlt=>by rw [ht.2 hlt] at htf;cases htf
   have htel:comL s r=[]:=if_neg hbe
   have hF10:=hF3.reset.after g10
   have gO10:Grow w3 w10:=g10
   exact ⟨hF10.sub (by simp),fin (gr hF10) (ho3.sl.grow gO10) (by rw [bo_,hms,htel] <;> rfl) λa ha=>⟨by have:=of3.le a ha;omega,by have:=ho3.lt a ha;have:=gO10.size;omega⟩⟩
 ·have hms:j3_ s r=[]:=if_neg λhh=>htg (by omega)
  have w1O:w1.heap.size≤w3.heap.size:=by have:=g3.size;have:=hF2.grow.size;omega
  refine dM_ (h.grow (gr hF3)) λw10 t g10 ht=>⟨t,rfl,λhtt=>?_,λhtf=>?_⟩
  ·have hbe:r.done<s.x.com:=ht.1 htt
   have htel:comL s r=[bs_ (s.x.man s.x.com),dd_ 8 s.x.com]:=if_pos hbe
   have hF10:=hF3.reset.after g10
   have gO10:Grow w3 w10:=g10
   refine ⟨hF10.sub (by simp),λw11 hF11=>?_,λl29 hl29 w26 hF26=>?_⟩
   ·have gO11:=gO10.trans hF11.grow
    refine ak_ (hp (gr hF11)) ⟨_,rfl,hF11.reset,?_,λl21 hl21 w19 hF19=>?_⟩
    ·refine aU_ (hp (gr hF11)) (by omega) hcl (.inr rfl) λw13 g13=>⟨_,_,_,_,_,_,_,_,rfl,hF11.reset.after g13,λl15 hl15 w14 hF14=>?_⟩
     have b15:w11.heap.size≤l15:=by have:=g13.size;omega
     have bO:=gO11.size
     have gO14:Grow w3 _:=((gO11.trans g13).trans (hF14.unM hl15).grow)
     refine ak_ (hp (gr hF14)) ⟨_,rfl,hF14.reset,?_⟩
     refine a2_ λw16 g16=>⟨_,_,_,_,_,_,_,rfl,hF14.reset.after g16,λl18 hl18 w17 hF17=>?_⟩
     have gO17:Grow w3 w17:=(gO14.trans g16).trans hF17.grow
     refine bW_ (ys:=[bs_ (s.x.man s.x.com),dd_ 8 s.x.com]) (ho3.grow gO17) rfl (Nat.le_refl _) (hF17.sl 3 rfl) rfl (by decide) λq6 c6 w18 ho18 hc18 g18 hq18 hg18=>?_
     have hF18:=hF17.reset.after (hg18 (.inl (by decide)))
     exact ⟨_,_,_,rfl,hF18,fin (gr hF18) ho18.sl (by rw [bo_,hms,htel] <;> rfl) λa ha=>⟨by have:=(of3.next hq18 (by have:=gO17.size;omega)).le a ha;omega,ho18.lt a ha⟩⟩
    ·have gO19:=gO11.trans hF19.grow
     refine aU_ (hp (gr hF19)) (by omega) hcl (.inr rfl) λw20 g20=>⟨_,_,_,_,_,_,_,_,rfl,hF19.reset.after g20,λw21 hF21=>?_⟩
     have bO:=gO11.size
     have gO14:Grow w3 _:=(Chg.trans (gO19.trans g20) hF21.stp λi hi hm=>by simp at hm;omega)
     refine ak_ (hp (gr hF21)) ⟨_,rfl,hF21.reset,?_⟩
     refine a2_ λw16 g16=>⟨_,_,_,_,_,_,_,rfl,hF21.reset.after g16,λl18 hl18 w17 hF17=>?_⟩
     have gO17:Grow w3 w17:=(gO14.trans g16).trans hF17.grow
     refine bW_ (ys:=[bs_ (s.x.man s.x.com),dd_ 8 s.x.com]) (ho3.grow gO17) rfl (Nat.le_refl _) (hF17.sl 3 rfl) rfl (by decide) λq6 c6 w18 ho18 hc18 g18 hq18 hg18=>?_
     have hF18:=hF17.reset.after (hg18 (.inl (by decide)))
     exact ⟨_,_,_,rfl,hF18,fin (gr hF18) ho18.sl (by rw [bo_,hms,htel] <;> rfl) λa ha=>⟨by have:=(of3.next hq18 (by have:=gO17.size;omega)).le a ha;omega,ho18.lt a ha⟩⟩
   ·have gO26:=gO10.trans hF26.grow
    refine ak_ (hp (gr hF26)) ⟨_,rfl,hF26.reset,?_⟩
    refine aU_ (hp (gr hF26)) (by omega) hcl (.inr rfl) λw28 g28=>⟨_,_,_,_,_,_,_,_,rfl,hF26.reset.after g28,λw29 hF29=>?_⟩
    have bO:=gO10.size
    have gO14:Grow w3 _:=(Chg.trans (gO26.trans g28) hF29.stp λi hi hm=>by simp at hm;omega)
    refine ak_ (hp (gr hF29)) ⟨_,rfl,hF29.reset,?_⟩
    refine a2_ λw16 g16=>⟨_,_,_,_,_,_,_,rfl,hF29.reset.after g16,λl18 hl18 w17 hF17=>?_⟩
    have gO17:Grow w3 w17:=(gO14.trans g16).trans hF17.grow
    refine bW_ (ys:=[bs_ (s.x.man s.x.com),dd_ 8 s.x.com]) (ho3.grow gO17) rfl (Nat.le_refl _) (hF17.sl 3 rfl) rfl (by decide) λq6 c6 w18 ho18 hc18 g18 hq18 hg18=>?_
    have hF18:=hF17.reset.after (hg18 (.inl (by decide)))
    exact ⟨_,_,_,rfl,hF18,fin (gr hF18) ho18.sl (by rw [bo_,hms,htel] <;> rfl) λa ha=>⟨by have:=(of3.next hq18 (by have:=gO17.size;omega)).le a ha;omega,ho18.lt a ha⟩⟩
  ·have hbe:¬r.done<s.x.com:=λhlt=>by rw [ht.2 hlt] at htf;cases htf
   have htel:comL s r=[]:=if_neg hbe
   have hF10:=hF3.reset.after g10
   have gO10:Grow w3 w10:=g10
   exact ⟨hF10.sub (by simp),fin (gr hF10) (ho3.sl.grow gO10) (by rw [bo_,hms,htel] <;> rfl) λa ha=>⟨by have:=of3.le a ha;omega,by have:=ho3.lt a ha;have:=gO10.size;omega⟩⟩
end Go.Vc
namespace Go.Vc
open Go Go.MapKept
structure OutV where
 to:Int
 m:MsgV
def outC (o:OutV):List Value:=[.int .i64 o.to,.int .i64 o.m.kind,.int .i64 o.m.ver,.int .i64 o.m.i,.string o.m.text,.slice none 0 0]
theorem nJ_ (o:OutV):(outC o).length=6:=rfl
theorem sp_:PR.underlying T.cR_=some (.slice T.bV_):=by kernel_rfl
theorem sN_:∃i z,PR.info? T.bV_=some i∧i.size=6∧i.bytes=72∧i.zero=some z∧z.cells.size=6:=by
 have h:(match PR.info? T.bV_ with | some i=>i.size == 6 && i.bytes == 72 && (match i.zero with | some z=>z.cells.size == 6 | _=>false) | none=>false)=true:=by kernel_rfl
 split at h
 ·rename_i i hi
  simp only [Bool.and_eq_true,beq_iff_eq] at h
  have h2:=h.2
  split at h2
  ·rename_i z hz
   exact ⟨i,z,hi,h.1.1,h.1.2,hz,by simpa using h2⟩
  ·cases h2
 ·cases h
theorem qR_ {w:World} {q q2:Option Addr} {l c l2 c2:Nat} {xs ys:List OutV} {K:Value→World→Prop}
  (ho:Own T.bV_ 6 w q c (xs.flatMap outC)) (hl:l=xs.length) (hlc:l≤c) (hs:Sl w q2 (ys.flatMap outC)) (hl2:l2=ys.length) (hroom:l+l2≤1000000)
  (hK:∀q' c' w',Own T.bV_ 6 w' q' c' ((xs++ys).flatMap outC)→l+l2≤c'→Chg (aS_ q) w w'→(∀a,q'=some a→q=some a∨a=⟨w.heap.size,0,none⟩)→K (.slice q' (l+l2) c') w') :
  rn PR (Builtin.append_ #[T.cR_,T.cR_] T.cR_ #[.slice q l c,.slice q2 l2 c2]) K w:=by
 obtain ⟨i,z,hi,hk,hb,hz,hzs⟩:=sN_
 refine cO_ <| f2_ (i:=i) (k:=6) (by_:=72) sp_ sp_ hi hz hk hb hzs (by decide) ho (by rw [bN_ nJ_,hl]) hlc hs (by rw [bN_ nJ_,hl2]) (λy hy=>?_) (by omega) λq' c' w' h=>hK q' c' w' (by rw [List.flatMap_append];exact h)
 obtain ⟨m,_,hm⟩:=List.mem_flatMap.1 hy
 simp [outC] at hm
 rcases hm with rfl | rfl | rfl | rfl | rfl | rfl <;> rfl
def outN (s:ActS) (now:Int):Nat→List OutV
 | 0=>[]
 | k+1=>outN s now k++(match s.reps[k]? with | some r=>(bo_ s r now).map λm=>⟨((k+1:Nat):Int),m⟩ | none=>[])
theorem hM_ (s:ActS) (r:Rp) (now:Int):(bo_ s r now).length≤5:=by
 unfold bo_ j3_ comL
 rw [List.length_append,List.length_append]
 split <;> split <;> (try split) <;> simp
theorem hj_ (s:ActS) (now:Int):∀k,(outN s now k).length≤5*k
 | 0=>Nat.le_refl _
 | k+1=>by
  have:=hj_ s now k
  rw [outN,List.length_append]
  split
  ·rename_i r _
   have:=hM_ s r now
   rw [List.length_map];omega
  ·simp;omega
theorem qW_ {N:Nat} {w:World} {s:ActS} (h:ba_ N w s) (hN:N≤w.heap.size) {now:Int} (hn:0≤now∧now≤1000000) (hd:∀r∈s.reps,0≤r.done) {K:Value→World→Prop}
  (h1:∀w' q c,¬dW_ s now→Grow w w'→Sl w' q ((outN s now s.reps.length).flatMap outC)→Off (λj=>j<w.heap.size) q→K (.tuple #[.slice q (outN s now s.reps.length).length c,.nilIface]) w')
  (h2:∀w' s' q c,dW_ s now→ba_ N w' s'→Chg s.x.reg w w'→s'.a=s.a→s'.reps=s.reps→s'.x.p=s.x.p→s'.x.last=s.x.last→s'.x.com=s.x.last→s'.bn=s.bn→s'.x.recs=s.x.recs++[recC s.x.last]→s'.x.man=s.x.man→s'.x.each=s.x.each→s'.x.bd=s.x.bd→s'.x.ex=s.x.ex→(∀k,s'.x.reg k→s.x.reg k∨w.heap.size≤k)→(recC s.x.last).length+6≤s.x.room→Sl w' q ((outN s' now s'.reps.length).flatMap outC)→Off (λj=>j<w.heap.size) q→(NoF w s.x.bd→NoF w' s.x.bd)→K (.tuple #[.slice q (outN s' now s'.reps.length).length c,.nilIface]) w')
  (hE:∀w' n,¬NoF w s.x.bd→nq_ n w' s.x.bd→w.heap.size≤n→Chg s.x.reg w w'→K (.tuple #[.slice none 0 0,.iface T.am_ (.int .i64 8)]) w')
  (h3:∀w',dW_ s now→s.x.room<(recC s.x.last).length+6→Grow w w'→K (.tuple #[.slice none 0 0,.iface T.am_ (.int .i64 7)]) w') :
  aa_ PR F.iZ_ ⟨[.pointer (some ⟨s.a,0,none⟩),.int .i64 now]⟩ w K:=by
 have ha:=aj_ h.blk
 have h4:=h.n4
 obtain ⟨hsl,hsc,hsr⟩:=h.pub.small
 have h0:Fs (λk=>k=s.a∨s.x.reg k) w [⟨s.a,actC s,T.bG_,true⟩] w:=(Fr.init _ w).entry h.blk (λx h=>by cases h) λ_=>.inl rfl
 refine l8_ s.a _ _ _ _ now (λk=>k=s.a∨s.x.reg k) K w h0 ⟨.inl rfl,trivial⟩ ?_
 refine nb_ h hn λw0 t g0 ht=>⟨t,rfl,λhtt=>?_,λhtf=>?_⟩
 ·have hag:=ht.1 htt
  have htg:=hag.1
  have hlt:s.x.com<s.x.last:=by unfold ActS.tgt at htg;split at htg <;> omega
  have htl:s.tgt=s.x.last:=by unfold ActS.tgt;rw [if_neg (by omega)]
  have hF0:=h0.after g0
  refine ⟨hF0,λw1 hF1=>?_⟩
  have g01:=g0.trans hF1.grow
  refine dN_ (h.grow g01) λw2 g2=>⟨_,rfl,hF1.reset.after g2,?_⟩
  have hF2:=hF1.reset.after g2
  have g02:=g01.trans g2
  have hp2:=h.pub.grow g02
  rw [htl]
  refine np_ hp2 (by have:=g02.size;omega) ⟨by omega,by omega⟩ (λw3 x3 fr0 frm hx3 g3 f1 f2 f3 f4 f5 f6 f7 fr fm fl fx f8 fn=>?_) (λw3 n hn hd hsn g3=>?_) λw3 v cc g3 hx3 hv hcc hno=>?_
  ·have hF3:=hF2.step g3 (λy hy=>by simp at hy;subst hy;exact h.off.1) (λk _ e=>.inr e)
   have h2':=h.grow g02
   have hlt2:=h.pub.lt
   have hbn:=aj_ h.row
   have s02:=g02.size
   have h3':ba_ N w3 ⟨x3,s.a,s.bn,s.reps⟩:=by
    refine ⟨?_,g3.get h2'.row h.off.2,hx3,h.la,h.ln,h.n1,h.n4,⟨λe=>?_,λe=>?_⟩,by show x3.ex s.bn;rw [fx];exact h.ex⟩
    ·have:=g3.get h2'.blk h.off.1
     show w3.heap[s.a]? = some (.cells #[.pointer (some ⟨x3.p,0,none⟩),.slice (some ⟨s.bn,0,none⟩) s.reps.length s.reps.length] T.bG_ (0,0))
     rw [f1];exact this
    ·rcases f8 _ e with e | e
     ·exact h.off.1 e
     ·have e':w2.heap.size≤s.a:=e;omega
    ·rcases f8 _ e with e | e
     ·exact h.off.2 e
     ·have e':w2.heap.size≤s.bn:=e;omega
   have hcom:x3.com=s.x.last:=by omega
   refine ⟨_,rfl,hF3,λ_=>?_,(λt x h=>by cases h),.inl rfl⟩
   have sz:w.heap.size≤w3.heap.size:=by have:=g3.size;omega
   have ha3:s.a<w3.heap.size:=by omega
   refine ⟨λq l c i m w'=>∃k:Nat,i=k∧k≤s.reps.length∧m=s.reps.length - k∧Own T.bV_ 6 w' q c ((outN (⟨x3,s.a,s.bn,s.reps⟩:ActS) now k).flatMap outC)∧l=(outN (⟨x3,s.a,s.bn,s.reps⟩:ActS) now k).length∧l≤c∧Off (λj=>j<w3.heap.size) q∧Grow w3 w',⟨_,0,rfl,by omega,rfl,.nil _ _ _,rfl,Nat.le_refl _,(λa h=>by cases h),.refl _ _⟩,?_⟩
   rintro q l c i D m w4 ⟨k,rfl,hk,rfl,ho,rfl,hlc,of,gS⟩ hF4
   refine ⟨λhlt=>?_,λhge=>?_⟩
   ·have hk':k<s.reps.length:=by omega
    refine (h3'.grow gS).sl.rdN dx_ (by decide) rfl hk' hk' λa hc=>?_
    have hkk:IntKind.wrap .i64 ((k:Int)+1)=((k+1:Nat):Int):=by rw [w64 (by omega) (by omega)];omega
    rw [hkk]
    refine ⟨_,hc 0 _ rfl,_,hc 1 _ rfl,_,hc 2 _ rfl,_,hc 3 _ rfl,_,hc 4 _ rfl,λl4 hl4 w5 hF5=>?_⟩
    have g45:Grow w4 w5:=(hF5.unM hl4).grow
    have gS5:=gS.trans g45
    refine lg_ (h3'.grow gS5) (hd _ (List.getElem_mem hk')) λw6 qs cs g6 hsay hqs=>⟨_,_,_,rfl,(hF5.unM hl4).after g6,?_⟩
    have gS6:=gS5.trans g6
    have hnext:outN (⟨x3,s.a,s.bn,s.reps⟩:ActS) now (k+1)=outN (⟨x3,s.a,s.bn,s.reps⟩:ActS) now k++(bo_ (⟨x3,s.a,s.bn,s.reps⟩:ActS) s.reps[k] now).map λm=>(⟨((k+1:Nat):Int),m⟩:OutV):=by
     show outN (⟨x3,s.a,s.bn,s.reps⟩:ActS) now k++(match s.reps[k]? with | some r=>(bo_ (⟨x3,s.a,s.bn,s.reps⟩:ActS) r now).map λm=>(⟨((k+1:Nat):Int),m⟩:OutV) | none=>[])=_
     rw [List.getElem?_eq_getElem hk']
    have hsl5:=hM_ (⟨x3,s.a,s.bn,s.reps⟩:ActS) s.reps[k] now
    have hol:=hj_ (⟨x3,s.a,s.bn,s.reps⟩:ActS) now k
    generalize hM:bo_ (⟨x3,s.a,s.bn,s.reps⟩:ActS) s.reps[k] now=M at hsay hnext hsl5 ⊢
    refine ⟨λq l c i m w'=>∃j:Nat,i=j∧j≤M.length∧m=M.length - j∧Own T.bV_ 6 w' q c ((outN (⟨x3,s.a,s.bn,s.reps⟩:ActS) now k++(M.take j).map λm=>(⟨((k+1:Nat):Int),m⟩:OutV)).flatMap outC)∧l=(outN (⟨x3,s.a,s.bn,s.reps⟩:ActS) now k).length+j∧l≤c∧Off (λj=>j<w3.heap.size) q∧Grow w3 w'∧w6.heap.size≤w'.heap.size∧Sl w' qs (M.flatMap msgC)∧(∀a b,q=some a→qs=some b→a.block≠b.block),⟨_,0,rfl,by omega,rfl,?_,rfl,hlc,of,gS6,Nat.le_refl _,hsay,λa b ha hb e=>by have:=ho.lt a ha;have:=(hqs b hb).1;have:=g45.size;omega⟩,?_⟩
    ·rw [List.take_zero,List.map_nil,List.append_nil];exact ho.grow (g45.trans g6)
    ·rintro q2 l2 c2 i D m w7 ⟨j,rfl,hj,rfl,ho7,rfl,hlc7,of7,gS7,s67,hsay7,hne7⟩ hF7
     refine ⟨λhlt=>?_,λhge=>?_⟩
     ·have hj':j<M.length:=by omega
      refine hsay7.rdN hm_ (by decide) rfl hj' hj' λa hc=>?_
      refine ⟨_,hc 0 _ rfl,_,hc 1 _ rfl,_,hc 2 _ rfl,_,hc 3 _ rfl,_,_,_,hc 4 _ rfl,λl13 hl13 l14 hl14 w8 hF8=>?_⟩
      have hF8':=hF8.unM hl13
      refine qR_ (ys:=[(⟨((k+1:Nat):Int),M[j]⟩:OutV)]) (ho7.grow hF8'.grow) (by rw [List.length_append,List.length_map,List.length_take,Nat.min_eq_left hj]) hlc7 (hF8'.sl 2 rfl) rfl (by omega) λq9 c9 w9 ho9 hc9 g9 hq9=>?_
      have gS8:=gS7.trans hF8'.grow
      have gS9:Grow w3 w9:=Chg.trans gS8 g9 λi hi ⟨a,ha,e⟩=>by have:=of7.le a ha;omega
      have sS:=gS8.size
      have hF9:=hF8'.app2 g9 w3.heap.size w7.heap.size of7 (λa ha=>ho7.lt a ha) (λx hx=>by simp at hx;rcases hx with rfl | rfl | rfl;exact .inl (by simp only [];omega);exact .inr hl13;exact .inr hl14) sz
      have s78:=hF8'.grow.size
      have hsay9:=(hsay7.grow hF8'.grow).keep g9 (λb hb ⟨a,ha,e⟩=>hne7 a b ha hb e.symm)
      have hne9:∀a b,q9=some a→qs=some b→a.block≠b.block:=λa b ha hb e=>by
       rcases hq9 a ha with h' | h'
       ·exact hne7 a b h' hb e
       ·subst h';have:=(hqs b hb).2;simp only [] at e;omega
      refine ⟨_,_,_,rfl,hF9,M.length - (j+1),by omega,j+1,by rw [w64 (by omega) (by omega)];rfl,by omega,rfl,?_,by omega,hc9,of7.next hq9 sS,gS9,by have:=g9.size;omega,hsay9,hne9⟩
      rw [List.take_succ_eq_append_getElem hj',List.map_append,← List.append_assoc];exact ho9
     ·have:j=M.length:=by omega
      subst this
      rw [List.take_length,← hnext] at ho7
      exact ⟨s.reps.length - (k+1),by omega,k+1,rfl,by omega,rfl,ho7,by rw [hnext,List.length_append,List.length_map],hlc7,of7,gS7⟩
   ·have:k=s.reps.length:=by omega
    subst this
    exact h2 w4 ⟨x3,s.a,s.bn,s.reps⟩ q c hag (h3'.grow gS) ((g02.then g3).grow gS) rfl rfl f1 f4 hcom rfl (by show x3.recs=_;rw [fr0,hcom]) fm f3 f2 fx (λk e=>(f8 k e).imp id λh=>Nat.le_trans s02 h) (by rw [← hcom];exact frm) ho.sl (λa ha e=>of a ha (Nat.lt_of_lt_of_le e sz)) (λhn=>(fn (hn.keep g02 λe=>e)).keep gS λe=>e)
  ·have hF3:=hF2.step g3 (λy hy=>by simp at hy;subst hy;exact h.off.1) (λk _ e=>.inr e)
   exact ⟨_,rfl,hF3,(λh=>by cases h),(λt' v' he=>hE w3 n (λh=>hn (h.keep g02 λe=>e)) hd (Nat.le_trans g02.size hsn) (g02.then g3)),.inr ⟨_,_,rfl⟩⟩
  ·have hF3:=hF2.after g3
   rcases hcc with ⟨rfl,hcc⟩ | ⟨rfl,_,hcc⟩
   ·exact absurd ⟨by omega,by omega,by omega⟩ hcc
   ·rw [Int.toNat_natCast] at hcc
    subst hv
    exact ⟨_,rfl,hF3,(λh=>by cases h),(λt' v' he=>h3 w3 hag hcc (g02.trans g3)),.inr ⟨_,_,rfl⟩⟩
 ·have hna:¬dW_ s now:=λhh=>by rw [ht.2 hh] at htf;cases htf
  have hF0:=h0.after g0
  have h0':=h.grow g0
  have sz:=g0.size
  have ha3:s.a<w0.heap.size:=by omega
  refine ⟨hF0,?_⟩
  refine ⟨λq l c i m w'=>∃k:Nat,i=k∧k≤s.reps.length∧m=s.reps.length - k∧Own T.bV_ 6 w' q c ((outN s now k).flatMap outC)∧l=(outN s now k).length∧l≤c∧Off (λj=>j<w0.heap.size) q∧Grow w0 w',⟨_,0,rfl,by omega,rfl,.nil _ _ _,rfl,Nat.le_refl _,(λa h=>by cases h),.refl _ _⟩,?_⟩
  rintro q l c i D m w4 ⟨k,rfl,hk,rfl,ho,rfl,hlc,of,gS⟩ hF4
  refine ⟨λhlt=>?_,λhge=>?_⟩
  ·have hk':k<s.reps.length:=by omega
   refine (h0'.grow gS).sl.rdN dx_ (by decide) rfl hk' hk' λa hc=>?_
   have hkk:IntKind.wrap .i64 ((k:Int)+1)=((k+1:Nat):Int):=by rw [w64 (by omega) (by omega)];omega
   rw [hkk]
   refine ⟨_,hc 0 _ rfl,_,hc 1 _ rfl,_,hc 2 _ rfl,_,hc 3 _ rfl,_,hc 4 _ rfl,λl4 hl4 w5 hF5=>?_⟩
   have g45:Grow w4 w5:=(hF5.unM hl4).grow
   have gS5:=gS.trans g45
   refine lg_ (h0'.grow gS5) (hd _ (List.getElem_mem hk')) λw6 qs cs g6 hsay hqs=>⟨_,_,_,rfl,(hF5.unM hl4).after g6,?_⟩
   have gS6:=gS5.trans g6
   have hnext:outN s now (k+1)=outN s now k++(bo_ s s.reps[k] now).map λm=>(⟨((k+1:Nat):Int),m⟩:OutV):=by
    show outN s now k++(match s.reps[k]? with | some r=>(bo_ s r now).map λm=>(⟨((k+1:Nat):Int),m⟩:OutV) | none=>[])=_
    rw [List.getElem?_eq_getElem hk']
   have hsl5:=hM_ s s.reps[k] now
   have hol:=hj_ s now k
   generalize hM:bo_ s s.reps[k] now=M at hsay hnext hsl5 ⊢
   refine ⟨λq l c i m w'=>∃j:Nat,i=j∧j≤M.length∧m=M.length - j∧Own T.bV_ 6 w' q c ((outN s now k++(M.take j).map λm=>(⟨((k+1:Nat):Int),m⟩:OutV)).flatMap outC)∧l=(outN s now k).length+j∧l≤c∧Off (λj=>j<w0.heap.size) q∧Grow w0 w'∧w6.heap.size≤w'.heap.size∧Sl w' qs (M.flatMap msgC)∧(∀a b,q=some a→qs=some b→a.block≠b.block),⟨_,0,rfl,by omega,rfl,?_,rfl,hlc,of,gS6,Nat.le_refl _,hsay,λa b ha hb e=>by have:=ho.lt a ha;have:=(hqs b hb).1;have:=g45.size;omega⟩,?_⟩
   ·rw [List.take_zero,List.map_nil,List.append_nil];exact ho.grow (g45.trans g6)
   ·rintro q2 l2 c2 i D m w7 ⟨j,rfl,hj,rfl,ho7,rfl,hlc7,of7,gS7,s67,hsay7,hne7⟩ hF7
    refine ⟨λhlt=>?_,λhge=>?_⟩
    ·have hj':j<M.length:=by omega
     refine hsay7.rdN hm_ (by decide) rfl hj' hj' λa hc=>?_
     refine ⟨_,hc 0 _ rfl,_,hc 1 _ rfl,_,hc 2 _ rfl,_,hc 3 _ rfl,_,_,_,hc 4 _ rfl,λl13 hl13 l14 hl14 w8 hF8=>?_⟩
     have hF8':=hF8.unM hl13
     refine qR_ (ys:=[(⟨((k+1:Nat):Int),M[j]⟩:OutV)]) (ho7.grow hF8'.grow) (by rw [List.length_append,List.length_map,List.length_take,Nat.min_eq_left hj]) hlc7 (hF8'.sl 2 rfl) rfl (by omega) λq9 c9 w9 ho9 hc9 g9 hq9=>?_
     have gS8:=gS7.trans hF8'.grow
     have gS9:Grow w0 w9:=Chg.trans gS8 g9 λi hi ⟨a,ha,e⟩=>by have:=of7.le a ha;omega
     have sS:=gS8.size
     have hF9:=hF8'.app2 g9 w0.heap.size w7.heap.size of7 (λa ha=>ho7.lt a ha) (λx hx=>by simp at hx;rcases hx with rfl | rfl | rfl;exact .inl (by simp only [];omega);exact .inr hl13;exact .inr hl14) sz
     have s78:=hF8'.grow.size
     have hsay9:=(hsay7.grow hF8'.grow).keep g9 (λb hb ⟨a,ha,e⟩=>hne7 a b ha hb e.symm)
     have hne9:∀a b,q9=some a→qs=some b→a.block≠b.block:=λa b ha hb e=>by
      rcases hq9 a ha with h' | h'
      ·exact hne7 a b h' hb e
      ·subst h';have:=(hqs b hb).2;simp only [] at e;omega
     refine ⟨_,_,_,rfl,hF9,M.length - (j+1),by omega,j+1,by rw [w64 (by omega) (by omega)];rfl,by omega,rfl,?_,by omega,hc9,of7.next hq9 sS,gS9,by have:=g9.size;omega,hsay9,hne9⟩
     rw [List.take_succ_eq_append_getElem hj',List.map_append,← List.append_assoc];exact ho9
    ·have:j=M.length:=by omega
     subst this
     rw [List.take_length,← hnext] at ho7
     exact ⟨s.reps.length - (k+1),by omega,k+1,rfl,by omega,rfl,ho7,by rw [hnext,List.length_append,List.length_map],hlc7,of7,gS7⟩
  ·have:k=s.reps.length:=by omega
   subst this
   exact h1 w4 q c hna (g0.trans gS) ho.sl (λa ha e=>of a ha (Nat.lt_of_lt_of_le e sz))
end Go.Vc
namespace Go.Vc
open Go
theorem lv_ (p0:Option Addr) (m1:Int) (m2:Int) (m3:Int) (z4:ByteArray) (y5:Option Addr) (ly5:Nat) (cy5:Nat) (S:SP) (K:KP) (w:World) (h:∀l0,w.heap.size≤l0→(m1=11→Dr p0 λa0=>∀w0,Fr S w w [] [⟨l0,#[Iv m1,Iv m2,Iv m3,.string z4,.slice y5 ly5 cy5],26,true⟩] w0→Dr (some a0) λa1=>StC w0 (Addr.add a1 0) (Iv m2) λw1=>StC w1 (Addr.add a1 1) (Iv m2) λw2=>StC w2 (Addr.add a1 2) (Iv m2) λw3=>StC w3 (Addr.add a1 3) (.bool false) λw4=>StC w4 (Addr.add a1 4) (Iv 0) λw5=>Fs S w [⟨l0,#[Iv m1,Iv m2,Iv m3,.string z4,.slice y5 ly5 cy5],26,true⟩] w5∧K (.bool true) w5)∧(¬(m1=11)→(m1=9→∀w6,Fr S w w [] [⟨l0,#[Iv m1,Iv m2,Iv m3,.string z4,.slice y5 ly5 cy5],26,true⟩] w6→let B0:Blk:=⟨l0,#[Iv m1,Iv m2,Iv m3,.string z4,.slice y5 ly5 cy5],26,true⟩;∃I0:World→Prop,I0 w6∧Dr p0 λa2=>Dr (some a2) λa3=>Dr (some (Addr.add a3 2)) λa4=>∃n0,(∀w7,I0 w7→World.cell? w7 a4=some (Iv n0))∧Dr p0 λa5=>Dr (some a5) λa6=>Dr (some (Addr.add a6 2)) λa7=>StC w6 a7 (Iv (if m2>n0 then m2 else n0)) λw8=>Fs S w [B0] w8∧∀w9,Fr S w w8 [] [B0] w9→∃I1:World→Prop,I1 w9∧Dr p0 λa8=>Dr (some a8) λa9=>Dr (some (Addr.add a9 1)) λa10=>∃n1,(∀w10,I1 w10→World.cell? w10 a10=some (Iv n1))∧Dr p0 λa11=>Dr (some a11) λa12=>Dr (some (Addr.add a12 1)) λa13=>StC w9 a13 (Iv (if m2>n1 then m2 else n1)) λw11=>Fs S w [B0] w11∧∀w12,Fr S w w11 [] [B0] w12→∃I2:World→Prop,I2 w12∧Dr p0 λa14=>Dr (some a14) λa15=>Dr (some (Addr.add a15 0)) λa16=>∃n2,(∀w13,I2 w13→World.cell? w13 a16=some (Iv n2))∧Dr p0 λa17=>Dr (some a17) λa18=>Dr (some (Addr.add a18 0)) λa19=>StC w12 a19 (Iv (if m2>n2 then m2 else n2)) λw14=>Fs S w [B0] w14∧K (.bool true) w14)∧(¬(m1=9)→(m1=7→∀w15,Fr S w w [] [⟨l0,#[Iv m1,Iv m2,Iv m3,.string z4,.slice y5 ly5 cy5],26,true⟩] w15→let B1:Blk:=⟨l0,#[Iv m1,Iv m2,Iv m3,.string z4,.slice y5 ly5 cy5],26,true⟩;∃I3:World→Prop,I3 w15∧Dr p0 λa20=>Dr (some a20) λa21=>Dr (some (Addr.add a21 1)) λa22=>∃n3,(∀w16,I3 w16→World.cell? w16 a22=some (Iv n3))∧Dr p0 λa23=>Dr (some a23) λa24=>Dr (some (Addr.add a24 1)) λa25=>StC w15 a25 (Iv (if m2>n3 then m2 else n3)) λw17=>Fs S w [B1] w17∧∀w18,Fr S w w17 [] [B1] w18→∃I4:World→Prop,I4 w18∧Dr p0 λa26=>Dr (some a26) λa27=>Dr (some (Addr.add a27 0)) λa28=>∃n4,(∀w19,I4 w19→World.cell? w19 a28=some (Iv n4))∧Dr p0 λa29=>Dr (some a29) λa30=>Dr (some (Addr.add a30 0)) λa31=>StC w18 a31 (Iv (if m2>n4 then m2 else n4)) λw20=>Fs S w [B1] w20∧K (.bool true) w20)∧(¬(m1=7)→(m1=5→∀w21,Fr S w w [] [⟨l0,#[Iv m1,Iv m2,Iv m3,.string z4,.slice y5 ly5 cy5],26,true⟩] w21→∃I5:World→Prop,I5 w21∧Dr p0 λa32=>Dr (some a32) λa33=>Dr (some (Addr.add a33 0)) λa34=>∃n5,(∀w22,I5 w22→World.cell? w22 a34=some (Iv n5))∧Dr p0 λa35=>Dr (some a35) λa36=>Dr (some (Addr.add a36 0)) λa37=>StC w21 a37 (Iv (if m2>n5 then m2 else n5)) λw23=>Fs S w [⟨l0,#[Iv m1,Iv m2,Iv m3,.string z4,.slice y5 ly5 cy5],26,true⟩] w23∧K (.bool true) w23)∧(¬(m1=5)→(m1=2→∀w24,Fr S w w [] [] w24→K (.bool true) w24)∧(¬(m1=2)→∀w25,Fr S w w [] [] w25→K (.bool false) w25)))))):aa_ PR 77 ⟨[.pointer p0,.agg #[.int .i64 m1,.int .i64 m2,.int .i64 m3,.string z4,.slice y5 ly5 cy5]]⟩ w K:=
 ab_ (okf:=⟨okL,[]⟩) ag_ (args:=[.c (.v (.pointer p0)),.a [.v (.int .i64 m1),.v (.int .i64 m2),.v (.int .i64 m3),.v (.string z4),.v (.slice y5 ly5 cy5)]]) (H:=[]) (.s (.r ⟨(some []),true,[],[]⟩) (.s (.s .z (.b (.s (.b (.s (.b (.s (.b (.s (.b (.s (.b (.s .z (.s (.r ⟨(some [3]),true,[],[]⟩) .z))) (.r ⟨(some [3]),true,[],[]⟩))) (.r ⟨(some [3]),true,[],[]⟩))) (.s (.r ⟨(some [3]),true,[],[]⟩) .z))) .z)) .z))) .z)) Go.Proofs.Tryz.func77 rfl ⟨trivial,⟨trivial,trivial,trivial,trivial,trivial,trivial⟩,trivial⟩ trivial (Fr.init S w) trivial (ae_ (by kernel_rfl) h)
end Go.Vc
namespace Go.Vc
open Go Go.MapKept
def rp0:Rp:=⟨0,0,0,false,0⟩
theorem rk_:PR.underlying T.gF_=some (.slice T.aQ_):=by kernel_rfl
theorem o9_:∃i,PR.info? T.aQ_=some i∧i.size=5∧i.bytes=40∧i.zero=some (.agg #[.int .i64 0,.int .i64 0,.int .i64 0,.bool false,.int .i64 0]):=by
 have h:(match PR.info? T.aQ_ with | some i=>i.size == 5 && i.bytes == 40 && (match i.zero with | some (.agg ⟨[.int .i64 0,.int .i64 0,.int .i64 0,.bool false,.int .i64 0]⟩)=>true | _=>false) | none=>false)=true:=by kernel_rfl
 split at h
 ·rename_i i hi
  simp only [Bool.and_eq_true,beq_iff_eq] at h
  refine ⟨i,hi,h.1.1,h.1.2,?_⟩
  have h2:=h.2
  split at h2
  ·assumption
  ·cases h2
 ·cases h
theorem p4_ {n:Nat} (h1:1≤n) (h4:n≤4) {w:World} {K:Value→World→Prop}
  (hK:∀b w',b=w.heap.size→Grow w w'→w'.heap[b]? = some (.cells ((List.replicate n rp0).flatMap rpC).toArray T.aQ_ (0,0))→K (.slice (some ⟨b,0,none⟩) n n) w') :
  rn PR (Instr.makeSlice T.gF_ (.int .i64 (n:Int)) (.int .i64 (n:Int))) K w:=by
 obtain ⟨i,hi,hk,hb,hz⟩:=o9_
 refine cO_ ?_
 have hw:=aI_ (n:=(n:Int)) (by omega) (by omega)
 have hlt:¬((i.bytes:Int)*n>2 ^ 48):=by
  have:(2:Int) ^ 48=281474976710656:=by decide
  rw [hb];omega
 unfold Instr.makeSlice
 simp only [aG_,ar_ rk_,asInt,asIntOf,a1_,bw_ hi,hw,hx_,df_,bS_ hi,hk]
 have e1:¬(n:Int)<0:=by omega
 have e2:¬(n:Int)>n:=by omega
 simp only [e1,e2,hlt,decide_false,Bool.or_self,Bool.false_eq_true,if_false,Int.toNat_natCast]
 have key:∀(cs:Array Value),cs=((List.replicate n rp0).flatMap rpC).toArray→sv PR (newRow T.aQ_ cs) (λa w=>K (.slice (some a) n n) w) w:=by
  intro cs hcs
  subst hcs
  unfold newRow
  rw [aG_,dZ_]
  exact newV λb w' hb hb' hs g=>hK b w' hb g hb'
 rw [if_neg (by omega),bH_ hi hz]
 refine key _ ?_
 have:n=1∨n=2∨n=3∨n=4:=by omega
 rcases this with rfl | rfl | rfl | rfl <;> (apply Array.toList_inj.1;rw [Array.toList_map,Array.toList_range];rfl)
def fh_ (r:Rp) (kind ver:Int):Rp:=
 if kind=11 then ⟨ver,ver,ver,false,0⟩
 else if kind=9 then { r with ready:=if ver>r.ready then ver else r.ready,prepared:=if ver>r.prepared then ver else r.prepared,done:=if ver>r.done then ver else r.done }
 else if kind=7 then { r with ready:=if ver>r.ready then ver else r.ready,prepared:=if ver>r.prepared then ver else r.prepared }
 else if kind=5 then { r with ready:=if ver>r.ready then ver else r.ready }
 else r
def rZ_ (kind:Int):Bool:=kind == 11 || kind == 9 || kind == 7 || kind == 5 || kind == 2
theorem r3_ {j i:Nat} {v:Value} {r':Rp} : ∀ {reps:List Rp},(hj:j<reps.length)→i<5→rpC r'=(rpC reps[j]).set i v→(reps.flatMap rpC).set (j*5+i) v=(reps.set j r').flatMap rpC:=by
 induction j with
 | zero=>
  intro reps hj hi hr
  match reps,hj with
  | r :: l,_=>
   rw [List.flatMap_cons,List.set_append_left _ _ (by rw [dx_];omega),Nat.zero_mul,Nat.zero_add]
   show _=rpC r'++l.flatMap rpC
   rw [hr];rfl
 | succ j ih=>
  intro reps hj hi hr
  match reps,hj with
  | r :: l,hj=>
   have hj':j<l.length:=by simpa using hj
   have e:(j+1)*5+i=5+(j*5+i):=by omega
   rw [List.flatMap_cons,e,List.set_append_right _ _ (by rw [dx_];omega),dx_,Nat.add_sub_cancel_left,ih hj' hi hr]
   rfl
theorem eR_ {w:World} {bn j i:Nat} {reps:List Rp} {r r':Rp} {v:Value} (hb:w.heap[bn]? = some (.cells ((reps.set j r).flatMap rpC).toArray T.aQ_ (0,0))) (hj:j<reps.length) (hi:i<5) (hr:rpC r'=(rpC r).set i v) (hv:oneC v=true) {K:World→Prop}
  (hK:∀w',w'.heap[bn]? = some (.cells ((reps.set j r').flatMap rpC).toArray T.aQ_ (0,0))→Chg (· = bn) w w'→K w'):StC w ((⟨bn,j*5,none⟩:Addr).add i) v K:=by
 rw [an_]
 have hjs:j<(reps.set j r).length:=by rw [List.length_set];exact hj
 have hlen:j*5+i<((reps.set j r).flatMap rpC).length:=by
  rw [bN_ dx_];omega
 have hs:=r3_ (reps:=reps.set j r) (r':=r') hjs hi (by rw [List.getElem_set_self];exact hr)
 rw [List.set_set] at hs
 refine stC hb (by rw [List.size_toArray];exact hlen) hv λw' hw' _ g=>hK w' ?_ g
 rw [hw',← hs]
 simp
theorem f9_ {w:World} {bn j i:Nat} {reps:List Rp} {r:Rp} {v:Value} (hb:w.heap[bn]? = some (.cells ((reps.set j r).flatMap rpC).toArray T.aQ_ (0,0))) (hj:j<reps.length) (hi:i<5) (hv:(rpC r)[i]? = some v):w.cell? ((⟨bn,j*5,none⟩:Addr).add i)=some v:=by
 have hjs:j<(reps.set j r).length:=by rw [List.length_set];exact hj
 rw [an_,ap_ hb,List.getElem?_toArray,fT_ dx_ hjs hi,List.getElem_set_self,hv]
theorem lw_ {w:World} {bn j:Nat} {reps:List Rp} {r:Rp} (hb:w.heap[bn]? = some (.cells ((reps.set j r).flatMap rpC).toArray T.aQ_ (0,0))) (hj:j<reps.length) {kind ver i:Int} {z:ByteArray} {y:Option Addr} {ly cy:Nat} {K:Value→World→Prop}
  (hK:∀w',w'.heap[bn]? = some (.cells ((reps.set j (fh_ r kind ver)).flatMap rpC).toArray T.aQ_ (0,0))→Chg (· = bn) w w'→K (.bool (rZ_ kind)) w') :
  aa_ PR F.g3_ ⟨[.pointer (some ⟨bn,j*5,none⟩),.agg #[.int .i64 kind,.int .i64 ver,.int .i64 i,.string z,.slice y ly cy]]⟩ w K:=by
 have hbl:=aj_ hb
 refine lv_ (some ⟨bn,j*5,none⟩) kind ver i z y ly cy (· = bn) K w λl0 hl0=>?_
 have hne:∀x∈[(⟨l0,#[.int .i64 kind,.int .i64 ver,.int .i64 i,.string z,.slice y ly cy],T.bU_,true⟩:Blk)],¬x.b=bn:=λx hx e=>by simp at hx;subst hx;simp only [] at e;omega
 refine ⟨λh11=>ad_.2 λw0 hF0=>ad_.2 ?_,λh11=>⟨λh9 w0 hF0=>?_,λh9=>⟨λh7 w0 hF0=>?_,λh7=>⟨λh5 w0 hF0=>?_,λh5=>⟨λh2 w0 hF0=>?_,λh2 w0 hF0=>?_⟩⟩⟩⟩⟩
 ·have g0:Grow w w0:=hF0.grow
  refine eR_ (r':=⟨ver,r.prepared,r.done,r.heard,r.at_⟩) (Grow.get g0 hb) hj (by decide) rfl rfl λw1 b1 g1=>?_
  refine eR_ (r':=⟨ver,ver,r.done,r.heard,r.at_⟩) b1 hj (by decide) rfl rfl λw2 b2 g2=>?_
  refine eR_ (r':=⟨ver,ver,ver,r.heard,r.at_⟩) b2 hj (by decide) rfl rfl λw3 b3 g3=>?_
  refine eR_ (r':=⟨ver,ver,ver,false,r.at_⟩) b3 hj (by decide) rfl rfl λw4 b4 g4=>?_
  refine eR_ (r':=⟨ver,ver,ver,false,0⟩) b4 hj (by decide) rfl rfl λw5 b5 g5=>?_
  have hF5:=((((hF0.step g1 hne λ_ _ e=>e).step g2 hne λ_ _ e=>e).step g3 hne λ_ _ e=>e).step g4 hne λ_ _ e=>e).step g5 hne λ_ _ e=>e
  subst h11
  exact ⟨hF5,hK w5 (by rw [fh_,if_pos rfl];exact b5) hF5.chg⟩
 ·have g0:Grow w w0:=hF0.grow
  have b0:=Grow.get g0 hb
  refine ⟨(· = w0),rfl,ad_.2 (ad_.2 (ad_.2 ⟨r.done,λw' e=>e ▸ f9_ b0 hj (by decide) rfl,ad_.2 (ad_.2 (ad_.2 ?_))⟩))⟩
  refine eR_ (r':={ r with done:=if ver>r.done then ver else r.done }) b0 hj (by decide) rfl rfl λw1 b1 g1=>?_
  have hF1:=hF0.step g1 hne λ_ _ e=>e
  refine ⟨hF1,λw2 hF2=>?_⟩
  have b2:=Grow.get hF2.grow b1
  refine ⟨(· = w2),rfl,ad_.2 (ad_.2 (ad_.2 ⟨r.prepared,λw' e=>e ▸ f9_ b2 hj (by decide) rfl,ad_.2 (ad_.2 (ad_.2 ?_))⟩))⟩
  refine eR_ (r':={ r with done:=if ver>r.done then ver else r.done,prepared:=if ver>r.prepared then ver else r.prepared }) b2 hj (by decide) rfl rfl λw3 b3 g3=>?_
  have hF3:=hF2.step g3 hne λ_ _ e=>e
  refine ⟨hF3,λw4 hF4=>?_⟩
  have b4:=Grow.get hF4.grow b3
  refine ⟨(· = w4),rfl,ad_.2 (ad_.2 (ad_.2 ⟨r.ready,λw' e=>e ▸ f9_ b4 hj (by decide) rfl,ad_.2 (ad_.2 (ad_.2 ?_))⟩))⟩
  refine eR_ (r':={ r with done:=if ver>r.done then ver else r.done,prepared:=if ver>r.prepared then ver else r.prepared,ready:=if ver>r.ready then ver else r.ready }) b4 hj (by decide) rfl rfl λw5 b5 g5=>?_
  have hF5:=hF4.step g5 hne λ_ _ e=>e
  subst h9
  exact ⟨hF5,hK w5 (by rw [fh_,if_neg h11,if_pos rfl];exact b5) hF5.chg⟩
 ·have g0:Grow w w0:=hF0.grow
  have b0:=Grow.get g0 hb
  refine ⟨(· = w0),rfl,ad_.2 (ad_.2 (ad_.2 ⟨r.prepared,λw' e=>e ▸ f9_ b0 hj (by decide) rfl,ad_.2 (ad_.2 (ad_.2 ?_))⟩))⟩
  refine eR_ (r':={ r with prepared:=if ver>r.prepared then ver else r.prepared }) b0 hj (by decide) rfl rfl λw3 b3 g3=>?_
  have hF3:=hF0.step g3 hne λ_ _ e=>e
  refine ⟨hF3,λw4 hF4=>?_⟩
  have b4:=Grow.get hF4.grow b3
  refine ⟨(· = w4),rfl,ad_.2 (ad_.2 (ad_.2 ⟨r.ready,λw' e=>e ▸ f9_ b4 hj (by decide) rfl,ad_.2 (ad_.2 (ad_.2 ?_))⟩))⟩
  refine eR_ (r':={ r with prepared:=if ver>r.prepared then ver else r.prepared,ready:=if ver>r.ready then ver else r.ready }) b4 hj (by decide) rfl rfl λw5 b5 g5=>?_
  have hF5:=hF4.step g5 hne λ_ _ e=>e
  subst h7
  exact ⟨hF5,hK w5 (by rw [fh_,if_neg h11,if_neg h9,if_pos rfl];exact b5) hF5.chg⟩
 ·have g0:Grow w w0:=hF0.grow
  have b0:=Grow.get g0 hb
  refine ⟨(· = w0),rfl,ad_.2 (ad_.2 (ad_.2 ⟨r.ready,λw' e=>e ▸ f9_ b0 hj (by decide) rfl,ad_.2 (ad_.2 (ad_.2 ?_))⟩))⟩
  refine eR_ (r':={ r with ready:=if ver>r.ready then ver else r.ready }) b0 hj (by decide) rfl rfl λw5 b5 g5=>?_
  have hF5:=hF0.step g5 hne λ_ _ e=>e
  subst h5
  exact ⟨hF5,hK w5 (by rw [fh_,if_neg h11,if_neg h9,if_neg h7,if_pos rfl];exact b5) hF5.chg⟩
 ·subst h2
  exact hK w0 (by rw [fh_,if_neg h11,if_neg h9,if_neg h7,if_neg h5];exact Grow.get hF0.grow hb) hF0.chg
 ·have e:rZ_ kind=false:=by simp [rZ_,h11,h9,h7,h5,h2]
  have:=hK w0 (by rw [fh_,if_neg h11,if_neg h9,if_neg h7,if_neg h5];exact Grow.get hF0.grow hb) hF0.chg
  rw [e] at this;exact this
end Go.Vc
namespace Go.Vc
open Go Go.MapKept
def bK_ (r:Rp) (kind ver now:Int):Rp:=if rZ_ kind then { fh_ r kind ver with heard:=true,at_:=now } else fh_ r kind ver
theorem q8_ {N:Nat} {w:World} {s:ActS} (h:ba_ N w s) {j:Nat} (hj:j<s.reps.length) {kind ver i now:Int} (h2:kind≠2) {z:ByteArray} {y:Option Addr} {ly cy:Nat} {K:Value→World→Prop}
  (hK:∀w' s',ba_ N w' s'→Chg (· = s.bn) w w'→s'.a=s.a→s'.bn=s.bn→s'.x=s.x→s'.reps=s.reps.set j (bK_ s.reps[j] kind ver now)→K (.tuple #[.slice none 0 0,.nilIface]) w') :
  aa_ PR F.ca_ ⟨[.pointer (some ⟨s.a,0,none⟩),.int .i64 ((j+1:Nat):Int),.agg #[.int .i64 kind,.int .i64 ver,.int .i64 i,.string z,.slice y ly cy],.int .i64 now]⟩ w K:=by
 have h4:=h.n4
 have ha:=aj_ h.blk
 have hbl:=aj_ h.row
 have hab:s.a≠s.bn:=co_ h.blk h.row (by decide)
 have h0:Fs (λk=>k=s.a∨k=s.bn) w [⟨s.a,actC s,T.bG_,true⟩] w:=(Fr.init _ w).entry h.blk (λx h=>by cases h) λ_=>.inl rfl
 refine l__ s.a _ _ _ _ ((j+1:Nat):Int) kind ver i z y ly cy now (λk=>k=s.a∨k=s.bn) K w h0 ⟨.inl rfl,trivial⟩ λl0 hl0=>⟨λh=>by omega,λ_=>⟨λh=>by omega,λ_=>?_⟩⟩
 have ej:IntKind.wrap .i64 (((j+1:Nat):Int) - 1)=(j:Int):=by rw [w64 (by omega) (by omega)];omega
 rw [ej]
 refine ad_.2 ⟨by omega,by omega,λw2 hF2=>?_⟩
 have g2:Grow w w2:=hF2.grow
 rw [an_,Int.toNat_natCast,Nat.zero_add]
 have hb0:w2.heap[s.bn]? = some (.cells ((s.reps.set j s.reps[j]).flatMap rpC).toArray T.aQ_ (0,0)):=by
  rw [List.set_getElem_self];exact Grow.get g2 h.row
 have hoff:∀x∈[(⟨s.a,actC s,T.bG_,true⟩:Blk),⟨l0,#[.int .i64 kind,.int .i64 ver,.int .i64 i,.string z,.slice y ly cy],T.bU_,true⟩],¬x.b=s.bn:=λx hx e=>by
  simp at hx;rcases hx with rfl | rfl
  ·exact hab e
  ·simp only [] at e;omega
 have fin:∀ {w':World} {r':Rp},Chg (· = s.bn) w w'→w'.heap[s.bn]? = some (.cells ((s.reps.set j r').flatMap rpC).toArray T.aQ_ (0,0))→ba_ N w' ⟨s.x,s.a,s.bn,s.reps.set j r'⟩:=λ{w' r'} g hb=>by
  refine ⟨?_,hb,h.pub.jB_ g (λk e=>by subst e;exact h.ex) (λk e=>by subst e;exact h.off.2),h.la,h.ln,by rw [List.length_set];exact h.n1,by rw [List.length_set];exact h.n4,h.off,h.ex⟩
  have:=g.get h.blk hab
  show w'.heap[s.a]? = some (.cells #[.pointer (some ⟨s.x.p,0,none⟩),.slice (some ⟨s.bn,0,none⟩) (s.reps.set j r').length (s.reps.set j r').length] T.bG_ (0,0))
  rw [List.length_set];exact this
 refine lw_ hb0 hj λw3 hb3 g3=>⟨_,rfl,λhh=>?_,λhh=>?_⟩
 ·have hF3:=hF2.step g3 hoff λk _ e=>.inr e
  refine ⟨hF3,ad_.2 (ad_.2 (ad_.2 ?_))⟩
  refine eR_ (r':={ fh_ s.reps[j] kind ver with heard:=true }) hb3 hj (by decide) rfl rfl λw4 hb4 g4=>?_
  have hF4:=hF3.step g4 hoff λk _ e=>.inr e
  refine ⟨hF4,ad_.2 (ad_.2 (ad_.2 ?_))⟩
  refine eR_ (r':={ fh_ s.reps[j] kind ver with heard:=true,at_:=now }) hb4 hj (by decide) rfl rfl λw5 hb5 g5=>?_
  have hF5:=hF4.step g5 hoff λk _ e=>.inr e
  have g:=((g2.then g3).trans g4 λ_ _ e=>e).trans g5 λ_ _ e=>e
  exact ⟨hF5,λe=>absurd e h2,λ_=>hK w5 _ (fin g hb5) g rfl rfl rfl (by rw [bK_,if_pos hh])⟩
 ·have hF3:=hF2.step g3 hoff λk _ e=>.inr e
  have g:=g2.then g3
  exact ⟨hF3,hK w3 _ (fin g hb3) g rfl rfl rfl (by rw [bK_,if_neg (by rw [hh];decide)])⟩
theorem ba_.s0_ {N:Nat} {w w':World} {s:ActS} (h:ba_ N w s) {x':PubS} (hx:aK_ N w' x') (g:Chg s.x.reg w w') (hp:x'.p=s.x.p) (hex:x'.ex=s.x.ex) (hreg:∀k,x'.reg k→s.x.reg k∨w.heap.size≤k):ba_ N w' ⟨x',s.a,s.bn,s.reps⟩:=by
 have ha:=aj_ h.blk
 have hbl:=aj_ h.row
 refine ⟨?_,g.get h.row h.off.2,hx,h.la,h.ln,h.n1,h.n4,⟨λe=>?_,λe=>?_⟩,by show x'.ex s.bn;rw [hex];exact h.ex⟩
 ·have:=g.get h.blk h.off.1
  show w'.heap[s.a]? = some (.cells #[.pointer (some ⟨x'.p,0,none⟩),.slice (some ⟨s.bn,0,none⟩) s.reps.length s.reps.length] T.bG_ (0,0))
  rw [hp];exact this
 ·rcases hreg _ e with e | e
  ·exact h.off.1 e
  ·have e':w.heap.size≤s.a:=e;omega
 ·rcases hreg _ e with e | e
  ·exact h.off.2 e
  ·have e':w.heap.size≤s.bn:=e;omega
theorem oO_ {N:Nat} {w:World} {x:PubS} {a bn:Nat} {reps:List Rp} (h:ba_ N w ⟨x,a,bn,reps⟩) {j:Nat} (hj:j<reps.length) {kind ver i now:Int} (h2:kind≠2) {z:ByteArray} {y:Option Addr} {ly cy:Nat} {K:Value→World→Prop}
  (hK:∀w',ba_ N w' ⟨x,a,bn,reps.set j (bK_ reps[j] kind ver now)⟩→Chg (· = bn) w w'→K (.tuple #[.slice none 0 0,.nilIface]) w') :
  aa_ PR F.ca_ ⟨[.pointer (some ⟨a,0,none⟩),.int .i64 ((j+1:Nat):Int),.agg #[.int .i64 kind,.int .i64 ver,.int .i64 i,.string z,.slice y ly cy],.int .i64 now]⟩ w K:=
 q8_ h hj h2 λw' s' hs' g a1 a2 a3 a4=>hK w' (by
  obtain ⟨sx,sa,sb,sr⟩:=s'
  simp only [] at a1 a2 a3 a4
  subst a1 a2 a3 a4
  exact hs') g
end Go.Vc
namespace Go.Vc
open Go
theorem kV_ (k0:Nat) (p1:Option Addr) (y2:Option Addr) (ly2:Nat) (cy2:Nat) (m3:Int) (m4:Int) (m5:Int) (m6:Int) (z7:ByteArray) (y8:Option Addr) (ly8:Nat) (cy8:Nat) (m9:Int) (S:SP) (K:KP) (w:World) (hF:Fs S w [⟨k0,#[.pointer p1,.slice y2 ly2 cy2],65,true⟩] w) (hS:S k0∧True) (h:∀l0,w.heap.size≤l0→(m3<1→∀w0,Fr S w w [] [⟨k0,#[.pointer p1,.slice y2 ly2 cy2],65,true⟩] w0→K (.tuple #[.slice none 0 0,.iface 80 (Iv 1)]) w0)∧(¬(m3<1)→(m3>(ly2:Int)→∀w1,Fr S w w [] [⟨k0,#[.pointer p1,.slice y2 ly2 cy2],65,true⟩] w1→K (.tuple #[.slice none 0 0,.iface 80 (Iv 1)]) w1)∧(¬(m3>(ly2:Int))→Dr y2 λa0=>(0:Int)≤IntKind.wrap .i64 (m3 - 1)∧IntKind.wrap .i64 (m3 - 1)<(ly2:Int)∧∀w2,Fr S w w [] [⟨k0,#[.pointer p1,.slice y2 ly2 cy2],65,true⟩,⟨l0,#[Iv m4,Iv m5,Iv m6,.string z7,.slice y8 ly8 cy8],26,true⟩] w2→let B1:Blk:=⟨l0,#[Iv m4,Iv m5,Iv m6,.string z7,.slice y8 ly8 cy8],26,true⟩;let B0:Blk:=⟨k0,#[.pointer p1,.slice y2 ly2 cy2],65,true⟩;aa_ PR 77 #[.pointer (some (Addr.add a0 (Int.toNat (IntKind.wrap .i64 (m3 - 1))*5))),.agg #[Iv m4,Iv m5,Iv m6,.string z7,.slice y8 ly8 cy8]] w2 λv0 w3=>∃b0,v0=.bool b0∧(b0=true→Fs S w [B0,B1] w3∧Dr (some (Addr.add a0 (Int.toNat (IntKind.wrap .i64 (m3 - 1))*5))) λa1=>Dr (some a1) λa2=>Dr (some (Addr.add a2 3)) λa3=>StC w3 a3 (.bool true) λw4=>Fs S w [B0,B1] w4∧Dr (some (Addr.add a0 (Int.toNat (IntKind.wrap .i64 (m3 - 1))*5))) λa4=>Dr (some a4) λa5=>Dr (some (Addr.add a5 4)) λa6=>StC w4 a6 (Iv m9) λw5=>Fs S w [B0,B1] w5∧(m4=2→aa_ PR 78 #[.pointer (some (⟨k0,0,none⟩)),.agg #[Iv m4,Iv m5,Iv m6,.string z7,.slice y8 ly8 cy8]] w5 λv1 w6=>∃n0 n1 n2 s0 q0 l1 l2,v1=.agg #[Iv n0,Iv n1,Iv n2,.string s0,.slice q0 l1 l2]∧Fs S w [B0,B1] w6∧∀l3,w6.heap.size≤l3→∀w7,Fr S w w6 [] [B0,⟨l3,#[Iv m3,Iv n0,Iv n1,Iv n2,.string s0,.slice q0 l1 l2],103,true⟩] w7→K (.tuple #[.slice (some (⟨l3,0,none⟩)) 1 1,.nilIface]) w7)∧(¬(m4=2)→K (.tuple #[.slice none 0 0,.nilIface]) w5))∧(b0=false→Fs S w [B0,B1] w3∧K (.tuple #[.slice none 0 0,.nilIface]) w3)))):aa_ PR 42 ⟨[.pointer (some ⟨k0,0,none⟩),.int .i64 m3,.agg #[.int .i64 m4,.int .i64 m5,.int .i64 m6,.string z7,.slice y8 ly8 cy8],.int .i64 m9]⟩ w K:=
 a7_ (okf:=⟨okL,[]⟩) ag_ (args:=[.c (.p 0 k0 true 0),.c (.v (.int .i64 m3)),.a [.v (.int .i64 m4),.v (.int .i64 m5),.v (.int .i64 m6),.v (.string z7),.v (.slice y8 ly8 cy8)],.c (.v (.int .i64 m9))]) (H:=[⟨k0,.l [.v (.pointer p1),.v (.slice y2 ly2 cy2)],65,true⟩]) (.s (.r ⟨(some [0]),false,[],[]⟩) (.s .z (.s .z (.s (.s (.r ⟨(some [0,6,10]),false,[],[(2,[999])]⟩) .z) (.s (.r ⟨(some [0,6,10]),false,[],[]⟩) (.s (.s .z (.c (.s (.r ⟨(some [0,6]),false,[],[]⟩) .z) .z)) .z)))))) Go.Proofs.Tryz.func42 rfl ⟨rfl,trivial,⟨trivial,trivial,trivial,trivial,trivial,trivial⟩,trivial,trivial⟩ ⟨⟨trivial,⟨trivial,trivial⟩⟩,trivial⟩ hF hS (ae_ (by kernel_rfl) h)
theorem qz_ (k0:Nat) (m1:Int) (t2:Bool) (z3:ByteArray) (y4:Option Addr) (ly4:Nat) (cy4:Nat) (z5:ByteArray) (y6:Option Addr) (ly6:Nat) (cy6:Nat) (y7:Option Addr) (ly7:Nat) (cy7:Nat) (S:SP) (K:KP) (w:World) (hF:Fs S w [⟨k0,#[.int .i64 m1,.bool t2,.string z3,.slice y4 ly4 cy4,.string z5,.slice y6 ly6 cy6,.slice y7 ly7 cy7],91,true⟩] w) (hS:S k0∧True) (h:(t2=true→K (.bool true) w)∧(t2=false→K (.bool false) w)):aa_ PR 37 ⟨[.pointer (some ⟨k0,0,none⟩)]⟩ w K:=
 ab_ (okf:=⟨okL,[]⟩) ag_ (args:=[.c (.p 0 k0 true 0)]) (H:=[⟨k0,.l [.v (.int .i64 m1),.v (.bool t2),.v (.string z3),.v (.slice y4 ly4 cy4),.v (.string z5),.v (.slice y6 ly6 cy6),.v (.slice y7 ly7 cy7)],91,true⟩]) .z Go.Proofs.Tryz.func37 rfl ⟨rfl,trivial⟩ ⟨⟨trivial,⟨trivial,⟨trivial,⟨trivial,⟨trivial,⟨trivial,⟨trivial,trivial⟩⟩⟩⟩⟩⟩⟩,trivial⟩ hF hS (ae_ (by kernel_rfl) h)
end Go.Vc
namespace Go.Vc
open Go Go.MapKept
def AnsR (x:PubS) (ver i:Int) (m:MsgL):Prop:=BlkR x ver i m∨(∀m',¬BlkR x ver i m')∧m=⟨4,ver,i,[],[]⟩
theorem AnsR.uniq {x y:PubS} {N:Nat} {w:World} (hx:aK_ N w x) (e1:x.recs=y.recs) (e2:x.last=y.last) (e3:x.com=y.com) (e4:x.man=y.man) {ver i:Int} {m m':MsgL} (h:AnsR x ver i m) (h':AnsR y ver i m'):m=m':=by
 have tr:∀ {m:MsgL},BlkR x ver i m→BlkR y ver i m:=λ{m} h=>by
  obtain ⟨v,j,list,a1,a2,a3,a4,a5,a6,a7,a8,a9⟩:=h
  rw [e2] at a4 a5;rw [e3] at a5;rw [e4] at a6 a7;rw [e1] at a7
  exact ⟨v,j,list,a1,a2,a3,a4,a5,a6,a7,a8,a9⟩
 have tr':∀ {m:MsgL},BlkR y ver i m→BlkR x ver i m:=λ{m} h=>by
  obtain ⟨v,j,list,a1,a2,a3,a4,a5,a6,a7,a8,a9⟩:=h
  rw [← e2] at a4 a5;rw [← e3] at a5;rw [← e4] at a6 a7;rw [← e1] at a7
  exact ⟨v,j,list,a1,a2,a3,a4,a5,a6,a7,a8,a9⟩
 rcases h with h | ⟨h,rfl⟩
 ·rcases h' with h' | ⟨h',rfl⟩
  ·exact BlkR.uniq hx e1 e4 h h'
  ·exact absurd (tr h) (h' _)
 ·rcases h' with h' | ⟨h',rfl⟩
  ·exact absurd (tr' h') (h _)
  ·rfl
theorem na_ {N:Nat} {w:World} {s:ActS} (h:ba_ N w s) {ver i kind:Int} {z:ByteArray} {y:Option Addr} {ly cy:Nat} (hv : -9223372036854775808≤ver∧ver≤9223372036854775807) {K:Value→World→Prop}
  (hK:∀w' m q c,Grow w w'→AnsR s.x ver i m→Own T.string 1 w' q c (m.proof.map sv8')→m.proof.length≤c→Off (λk=>k<w.heap.size) q→K (fM_ m q c) w'):aa_ PR F.g5_ ⟨[.pointer (some ⟨s.a,0,none⟩),.agg #[.int .i64 kind,.int .i64 ver,.int .i64 i,.string z,.slice y ly cy]]⟩ w K:=by
 have h0:Fs (· = s.a) w [⟨s.a,actC s,T.bG_,true⟩] w:=(Fr.init _ w).entry h.blk (λx h=>by cases h) λ_=>rfl
 refine jb_ s.a (some ⟨s.x.p,0,none⟩) (some ⟨s.bn,0,none⟩) s.reps.length s.reps.length kind ver i z y ly cy (· = s.a) K w h0 ⟨rfl,trivial⟩ λl0 hl0 l1 hl1=>⟨λw0 hF0=>?_,λl6 hl6 w4 hF4=>?_⟩
 ·have g0:Grow w w0:=hF0.grow
  refine eD_ (h.pub.grow g0) hv (λw1 m q c g1 hm ho hc hof=>⟨_,_,_,_,_,_,_,_,rfl,hF0.after g1,λl4 hl4=>⟨λ_ w2 hF2=>?_,(λt x h=>by cases h),.inl rfl⟩⟩) λw1 c g1 hno=>⟨_,_,_,_,_,_,_,_,rfl,hF0.after g1,λl4 hl4=>⟨(λh=>by cases h),(λt x he w2 hF2=>?_),.inr ⟨_,_,rfl⟩⟩⟩
  ·refine hK w2 m q c (hF2.chg.same h.blk (hF2.blk 0 rfl)) (.inl hm) (ho.keep hF2.stp λa ha e=>?_) hc (hof.mono g0.size)
   have:=hof a ha
   have h1:=ho.lt a ha
   have e':a.block=l1∨a.block=l4:=by simpa using e
   have:=hF0.lt _ (List.mem_of_getElem? (i:=2) rfl)
   simp only [] at *
   omega
  ·have:=hK w2 ⟨4,ver,i,[],[]⟩ none 0 (hF2.chg.same h.blk (hF2.blk 0 rfl)) (.inr ⟨hno,rfl⟩) (.nil _ _ _) (Nat.le_refl _) (.none _)
   exact this
 ·have g0:Grow w w4:=hF4.grow
  refine eD_ (h.pub.grow g0) hv (λw1 m q c g1 hm ho hc hof=>⟨_,_,_,_,_,_,_,_,rfl,hF4.after g1,⟨λ_ w2 hF2=>?_,(λt x h=>by cases h),.inl rfl⟩⟩) λw1 c g1 hno=>⟨_,_,_,_,_,_,_,_,rfl,hF4.after g1,⟨(λh=>by cases h),(λt x he w2 hF2=>?_),.inr ⟨_,_,rfl⟩⟩⟩
  ·refine hK w2 m q c (hF2.chg.same h.blk (hF2.blk 0 rfl)) (.inl hm) (ho.keep hF2.stp λa ha e=>?_) hc (hof.mono g0.size)
   have:=hof a ha
   have e':a.block=l1∨a.block=l6:=by simpa using e
   have:=hF4.lt _ (List.mem_of_getElem? (i:=2) rfl)
   have:=hF4.lt _ (List.mem_of_getElem? (i:=3) rfl)
   simp only [] at *
   omega
  ·have:=hK w2 ⟨4,ver,i,[],[]⟩ none 0 (hF2.chg.same h.blk (hF2.blk 0 rfl)) (.inr ⟨hno,rfl⟩) (.nil _ _ _) (Nat.le_refl _) (.none _)
   exact this
end Go.Vc
namespace Go.Vc
open Go Go.MapKept
def pP_ (o:(Int × MsgL) × (Option Addr × Nat)):List Value:=[.int .i64 o.1.1,.int .i64 o.1.2.kind,.int .i64 o.1.2.ver,.int .i64 o.1.2.i,.string (str o.1.2.text),.slice o.2.1 o.1.2.proof.length o.2.2]
theorem fH_ (o:(Int × MsgL) × (Option Addr × Nat)):(pP_ o).length=6:=rfl
def bX_ (w:World) (q:Option Addr) (outs:List (Int × MsgL)):Prop:=
 ∃ps:List (Option Addr × Nat),ps.length=outs.length∧Sl w q ((outs.zip ps).flatMap pP_)∧∀k,(hk:k<outs.length)→(hp:k<ps.length)→Sl w ps[k].1 (outs[k].2.proof.map sv8')
theorem bX_.nil (w:World):bX_ w none []:=⟨[],rfl,.inl rfl,λk hk=>absurd hk (by simp)⟩
theorem bX_.grow {w w':World} {q:Option Addr} {outs:List (Int × MsgL)} (h:bX_ w q outs) (g:Grow w w'):bX_ w' q outs:=by
 obtain ⟨ps,h1,h2,h3⟩:=h
 exact ⟨ps,h1,h2.grow g,λk hk hp=>(h3 k hk hp).grow g⟩
theorem oP_ {N:Nat} {w:World} {s:ActS} (h:ba_ N w s) {j:Nat} (hj:j<s.reps.length) {ver i now:Int} {z:ByteArray} {y:Option Addr} {ly cy:Nat} (hv : -9223372036854775808≤ver∧ver≤9223372036854775807) {K:Value→World→Prop}
  (hK:∀w' q m,ba_ N w' ⟨s.x,s.a,s.bn,s.reps.set j (bK_ s.reps[j] 2 ver now)⟩→Chg (· = s.bn) w w'→AnsR s.x ver i m→bX_ w' q [(((j+1:Nat):Int),m)]→K (.tuple #[.slice q 1 1,.nilIface]) w') :
  aa_ PR F.ca_ ⟨[.pointer (some ⟨s.a,0,none⟩),.int .i64 ((j+1:Nat):Int),.agg #[.int .i64 2,.int .i64 ver,.int .i64 i,.string z,.slice y ly cy],.int .i64 now]⟩ w K:=by
 have h4:=h.n4
 have ha:=aj_ h.blk
 have hbl:=aj_ h.row
 have hab:s.a≠s.bn:=co_ h.blk h.row (by decide)
 have h0:Fs (λk=>k=s.a∨k=s.bn) w [⟨s.a,actC s,T.bG_,true⟩] w:=(Fr.init _ w).entry h.blk (λx h=>by cases h) λ_=>.inl rfl
 refine kV_ s.a _ _ _ _ ((j+1:Nat):Int) 2 ver i z y ly cy now (λk=>k=s.a∨k=s.bn) K w h0 ⟨.inl rfl,trivial⟩ λl0 hl0=>⟨λh=>by omega,λ_=>⟨λh=>by omega,λ_=>?_⟩⟩
 have ej:IntKind.wrap .i64 (((j+1:Nat):Int) - 1)=(j:Int):=by rw [w64 (by omega) (by omega)];omega
 rw [ej]
 refine ad_.2 ⟨by omega,by omega,λw2 hF2=>?_⟩
 have g2:Grow w w2:=hF2.grow
 rw [an_,Int.toNat_natCast,Nat.zero_add]
 have hb0:w2.heap[s.bn]? = some (.cells ((s.reps.set j s.reps[j]).flatMap rpC).toArray T.aQ_ (0,0)):=by
  rw [List.set_getElem_self];exact Grow.get g2 h.row
 have hoff:∀x∈[(⟨s.a,actC s,T.bG_,true⟩:Blk),⟨l0,#[.int .i64 2,.int .i64 ver,.int .i64 i,.string z,.slice y ly cy],T.bU_,true⟩],¬x.b=s.bn:=λx hx e=>by
  simp at hx;rcases hx with rfl | rfl
  ·exact hab e
  ·simp only [] at e;omega
 have fin:∀ {w':World} {r':Rp},Chg (· = s.bn) w w'→w'.heap[s.bn]? = some (.cells ((s.reps.set j r').flatMap rpC).toArray T.aQ_ (0,0))→ba_ N w' ⟨s.x,s.a,s.bn,s.reps.set j r'⟩:=λ{w' r'} g hb=>by
  refine ⟨?_,hb,h.pub.jB_ g (λk e=>by subst e;exact h.ex) (λk e=>by subst e;exact h.off.2),h.la,h.ln,by rw [List.length_set];exact h.n1,by rw [List.length_set];exact h.n4,h.off,h.ex⟩
  have:=g.get h.blk hab
  show w'.heap[s.a]? = some (.cells #[.pointer (some ⟨s.x.p,0,none⟩),.slice (some ⟨s.bn,0,none⟩) (s.reps.set j r').length (s.reps.set j r').length] T.bG_ (0,0))
  rw [List.length_set];exact this
 refine lw_ hb0 hj λw3 hb3 g3=>⟨_,rfl,λhh=>?_,λhh=>by cases hh⟩
 have hF3:=hF2.step g3 hoff λk _ e=>.inr e
 refine ⟨hF3,ad_.2 (ad_.2 (ad_.2 ?_))⟩
 refine eR_ (r':={ fh_ s.reps[j] 2 ver with heard:=true }) hb3 hj (by decide) rfl rfl λw4 hb4 g4=>?_
 have hF4:=hF3.step g4 hoff λk _ e=>.inr e
 refine ⟨hF4,ad_.2 (ad_.2 (ad_.2 ?_))⟩
 refine eR_ (r':={ fh_ s.reps[j] 2 ver with heard:=true,at_:=now }) hb4 hj (by decide) rfl rfl λw5 hb5 g5=>?_
 have hF5:=hF4.step g5 hoff λk _ e=>.inr e
 have g:=((g2.then g3).trans g4 λ_ _ e=>e).trans g5 λ_ _ e=>e
 refine ⟨hF5,λ_=>?_,λe=>absurd rfl e⟩
 have hA5:=fin g hb5
 refine na_ hA5 hv λw6 m q c g6 hm ho hc hof=>⟨_,_,_,_,_,_,_,rfl,hF5.after g6,λl3 hl3 w7 hF7=>?_⟩
 have g7:Grow w6 w7:=hF7.grow
 have gA:Grow w5 w7:=g6.trans g7
 have hb7:=gA.get hb5
 refine hK w7 (some ⟨l3,0,none⟩) m ?_ (g.trans gA λ_ _ e=>e.elim) hm ⟨[(q,c)],rfl,hF7.sl 1 rfl,λk hk hp=>?_⟩
 ·have:=fin (g.trans gA λ_ _ e=>e.elim) hb7
  rw [bK_,if_pos (by rfl)]
  exact this
 ·have:k=0:=by simpa using hk
  subst this
  exact (ho.grow g7).sl
end Go.Vc
namespace Go.Vc
open Go Go.MapKept
theorem hz_ {xs:List (List UInt8)} {q q2:Option Addr} {n c c2:Nat} {w:World} (h1:Sl w q (xs.map sv8')) (h2:Sl w q2 (xs.map sv8')) (hn:n=xs.length) (hl:n≤1000000) {K:Value→World→Prop} (hK:∀w',Grow w w'→K (.bool true) w') :
  aa_ PR F.ch_ ⟨[.slice q n c,.slice q2 n c2]⟩ w K:=by
 subst hn
 refine cM_ q xs.length c q2 xs.length c2 S0 K w ⟨λ_=>⟨λi m w'=>∃k:Nat,i=k∧k≤xs.length∧m=xs.length - k,⟨_,0,rfl,by omega,rfl⟩,?_⟩,λh=>absurd rfl h⟩
 rintro i D m w1 ⟨k,rfl,hk,rfl⟩ hF1
 refine ⟨λhlt w2 hF2=>⟨(· = w2),rfl,?_⟩,λ_=>hK w1 hF1.gr⟩
 have hk':k<xs.length:=by omega
 have g2:=hF1.gr.trans hF2.grow
 refine (h1.grow g2).rd (v:=sv8' xs[k]) (by simp) (by omega) (by simp [hk']) λa ha=>⟨_,λw' e=>e ▸ ha,?_⟩
 refine (h2.grow g2).rd (v:=sv8' xs[k]) (by simp) (by omega) (by simp [hk']) λa ha=>⟨_,λw' e=>e ▸ ha,λ_=>⟨xs.length - (k+1),by omega,k+1,by rw [w64 (by omega) (by omega)];rfl,by omega,rfl⟩,λh=>absurd rfl h⟩
theorem jR_ {m:MsgL} {q q2:Option Addr} {c c2:Nat} {w:World} (h1:Sl w q (m.proof.map sv8')) (h2:Sl w q2 (m.proof.map sv8')) (hl:m.proof.length≤1000000) {K:Value→World→Prop} (hK:∀w',Grow w w'→K (.bool true) w') :
  aa_ PR F.rM_ ⟨[fM_ m q c,fM_ m q2 c2]⟩ w K:=by
 refine p2_ m.kind m.ver m.i (str m.text) q m.proof.length c m.kind m.ver m.i (str m.text) q2 m.proof.length c2 S0 K w λl0 hl0 l1 hl1=>⟨λ_=>⟨λ_=>⟨λ_=>⟨λ_ w0 hF0=>?_,λh=>absurd rfl h⟩,λh=>absurd rfl h⟩,λh=>absurd rfl h⟩,λh=>absurd rfl h⟩
 exact hz_ (h1.grow hF0.gr) (h2.grow hF0.gr) rfl hl λw1 g1=>⟨true,rfl,(λ_=>⟨hF0.reset.after g1,hK w1 (hF0.reset.after g1).gr⟩),λh=>by cases h⟩
theorem add_add (a:Addr) (i j:Nat):(a.add i).add j=a.add (i+j):=by
 obtain ⟨b,o,r⟩:=a
 simp only [Addr.add]
 by_cases hi:i=0
 ·subst hi;simp
 ·by_cases hj:j=0
  ·subst hj;simp [hi]
  ·simp [hi,hj,Nat.add_assoc]
theorem Grow.cell {w w':World} (g:Grow w w') {a:Addr} {v:Value} (h:w.cell? a=some v):w'.cell? a=some v:=by
 unfold World.cell? at h ⊢
 cases hb:w.heap[a.block]? with
 | none=>simp [hb] at h
 | some o=>rw [g.get hb];rw [hb] at h;exact h
theorem px_ {outs:List (Int × MsgL)} {q q2:Option Addr} {c c2 n:Nat} {w:World} (h1:bX_ w q outs) (h2:bX_ w q2 outs) (hn:n=outs.length) (hl:n≤1000000) (hp:∀o∈outs,o.2.proof.length≤1000000) {K:Value→World→Prop} (hK:∀w',Grow w w'→K (.bool true) w') :
  aa_ PR F.bv_ ⟨[.slice q n c,.slice q2 n c2]⟩ w K:=by
 subst hn
 obtain ⟨ps,hps,hs,hpr⟩:=h1
 obtain ⟨ps2,hps2,hs2,hpr2⟩:=h2
 refine bv_ q outs.length c q2 outs.length c2 S0 K w ⟨λ_=>⟨λi m w'=>∃k:Nat,i=k∧k≤outs.length∧m=outs.length - k,⟨_,0,rfl,by omega,rfl⟩,?_⟩,λh=>absurd rfl h⟩
 rintro i D m w1 ⟨k,rfl,hk,rfl⟩ hF1
 refine ⟨λhlt w2 hF2=>⟨λw'=>Grow w2 w',.refl _ _,?_⟩,λ_=>hK w1 hF1.gr⟩
 have hk':k<outs.length:=by omega
 have g2:=hF1.gr.trans hF2.grow
 have z1:k<(outs.zip ps).length:=by rw [List.length_zip];omega
 have z2:k<(outs.zip ps2).length:=by rw [List.length_zip];omega
 have e1:(outs.zip ps)[k]=(outs[k],ps[k]):=List.getElem_zip
 have e2:(outs.zip ps2)[k]=(outs[k],ps2[k]):=List.getElem_zip
 refine (hs.grow g2).rdN fH_ (by decide) rfl z1 hk' λa hc=>?_
 rw [e1] at hc
 refine ad_.2 ⟨_,λw' e=>Grow.cell e (hc 0 _ rfl),?_⟩
 refine (hs2.grow g2).rdN fH_ (by decide) rfl z2 hk' λa2 hc2=>?_
 rw [e2] at hc2
 refine ad_.2 ⟨_,λw' e=>Grow.cell e (hc2 0 _ rfl),λ_=>?_,λh=>absurd rfl h⟩
 refine (hs.grow g2).rdN fH_ (by decide) rfl z1 hk' λa hc=>?_
 rw [e1] at hc
 refine ad_.2 ⟨_,λw' e=>by rw [add_add];exact Grow.cell e (hc 1 _ rfl),_,λw' e=>by rw [add_add];exact Grow.cell e (hc 2 _ rfl),_,λw' e=>by rw [add_add];exact Grow.cell e (hc 3 _ rfl),_,λw' e=>by rw [add_add];exact Grow.cell e (hc 4 _ rfl),_,_,_,λw' e=>by rw [add_add];exact Grow.cell e (hc 5 _ rfl),?_⟩
 refine (hs2.grow g2).rdN fH_ (by decide) rfl z2 hk' λa2 hc2=>?_
 rw [e2] at hc2
 refine ad_.2 ⟨_,λw' e=>by rw [add_add];exact Grow.cell e (hc2 1 _ rfl),_,λw' e=>by rw [add_add];exact Grow.cell e (hc2 2 _ rfl),_,λw' e=>by rw [add_add];exact Grow.cell e (hc2 3 _ rfl),_,λw' e=>by rw [add_add];exact Grow.cell e (hc2 4 _ rfl),_,_,_,λw' e=>by rw [add_add];exact Grow.cell e (hc2 5 _ rfl),?_⟩
 exact jR_ (m:=outs[k].2) ((hpr k hk' (by omega)).grow g2) ((hpr2 k hk' (by omega)).grow g2) (hp _ (List.getElem_mem hk')) λw3 g3=>⟨true,rfl,(λ_=>⟨hF2.reset.after g3,g3,outs.length - (k+1),by omega,k+1,by rw [w64 (by omega) (by omega)];rfl,by omega,rfl⟩),λh=>by cases h⟩
end Go.Vc
namespace Go.Vc
open Go Go.MapKept
def outL (o:OutV):Int × MsgL:=(o.to,⟨o.m.kind,o.m.ver,o.m.i,o.m.text.data.toList,[]⟩)
theorem ep_ (t:ByteArray):str t.data.toList=t:=by
 apply ByteArray.ext
 simp [str]
theorem bX_.of {w:World} {q:Option Addr} {l:List OutV} (h:Sl w q (l.flatMap outC)):bX_ w q (l.map outL):=by
 refine ⟨List.replicate l.length (none,0),by simp,?_,λk hk hp=>?_⟩
 ·have e:∀l:List OutV,((l.map outL).zip (List.replicate l.length ((none:Option Addr),0))).flatMap pP_=l.flatMap outC:=λl=>by
   induction l with
   | nil=>rfl
   | cons o l ih=>
    rw [List.map_cons,List.length_cons,List.replicate_succ,List.zip_cons_cons,List.flatMap_cons,List.flatMap_cons,ih]
    have e1:pP_ (outL o,none,0)=outC o:=by simp only [pP_,outL,outC,ep_,List.length_nil]
    rw [e1]
  rw [e];exact h
 ·rw [List.getElem_map]
  exact .inl rfl
theorem s4_ {s t:ActS} (e1:s.x.last=t.x.last) (e2:s.x.com=t.x.com) (e3:s.x.man=t.x.man) (e4:s.reps=t.reps) (now:Int):∀n,outN s now n=outN t now n:=by
 have et:s.tgt=t.tgt:=by unfold ActS.tgt;rw [e1,e2]
 have es:∀r,bo_ s r now=bo_ t r now:=λr=>by unfold bo_ j3_ comL;rw [et,e2,e3]
 intro n
 induction n with
 | zero=>rfl
 | succ k ih=>
  show outN s now k++(match s.reps[k]? with | some r=>(bo_ s r now).map λm=>(⟨((k+1:Nat):Int),m⟩:OutV) | none=>[])=outN t now k++(match t.reps[k]? with | some r=>(bo_ t r now).map λm=>(⟨((k+1:Nat):Int),m⟩:OutV) | none=>[])
  rw [ih,e4]
  simp only [es]
theorem qT_ {s t:ActS} (e1:s.x.last=t.x.last) (e2:s.x.com=t.x.com) (e4:s.reps=t.reps) (now:Int):dW_ s now↔dW_ t now:=by
 have et:s.tgt=t.tgt:=by unfold ActS.tgt;rw [e1,e2]
 unfold dW_
 rw [et,e4]
end Go.Vc
namespace Go.Vc
open Go Go.MapKept
def ua_ (s:ActS) (now:Nat):Array Value:=#[.pointer (some ⟨s.a,0,none⟩),.pointer (some ⟨s.x.bd,0,none⟩),.int .i64 (s.reps.length:Nat),.int .i64 (now:Nat)]
structure aA_ (N:Nat) (w:World) (k0:Nat) (s:ActS) (now:Nat):Prop where
 blk:w.heap[k0]? = some (.cells (ua_ s now) T.aD_ (0,0))
 act:ba_ N w s
 lo:N≤k0
 off:¬s.x.reg k0
 ex:s.x.ex k0
theorem aA_.grow {N:Nat} {w w':World} {k0:Nat} {s:ActS} {now:Nat} (h:aA_ N w k0 s now) (g:Grow w w'):aA_ N w' k0 s now:=⟨Grow.get g h.blk,h.act.grow g,h.lo,h.off,h.ex⟩
theorem aA_.fs {N:Nat} {w:World} {k0:Nat} {s:ActS} {now:Nat} (h:aA_ N w k0 s now) {S:Nat→Prop} (hS:S k0):Fs S w [⟨k0,ua_ s now,T.aD_,true⟩] w:=(Fr.init _ w).entry h.blk (λx h=>by cases h) λ_=>hS
theorem oW_ {w:World} {b:Nat} {log:ByteArray} (h:cg_ w b log) {K:Value→World→Prop} (hK:K (.bool false) w):aa_ PR F.g2_ ⟨[.pointer (some ⟨b,0,none⟩)]⟩ w K:=by
 obtain ⟨f,q0,q1,c0,c1,hf,h⟩:=h
 exact qz_ b f false log q0 0 c0 log q1 0 c1 none 0 0 (· = b) K w ((Fr.init _ w).entry h (λx h=>by cases h) λ_=>rfl) ⟨rfl,trivial⟩ ⟨(λh=>by cases h),λ_=>hK⟩
theorem oR_ {N:Nat} {w:World} {k0:Nat} {s:ActS} {now:Nat} (h:aA_ N w k0 s now) {K:Value→World→Prop} (hK:K (.bool false) w):aa_ PR F.gY_ ⟨[.pointer (some ⟨k0,0,none⟩)]⟩ w K:=by
 have hF:=h.fs (S:=(· = k0)) rfl
 exact qk_ k0 _ _ _ _ (· = k0) K w hF ⟨rfl,trivial⟩ ⟨(λh=>by cases h),λa0 _=>oW_ h.act.pub.jrn.dsk ⟨false,rfl,(λh=>by cases h),λ_=>⟨hF,hK⟩⟩⟩
theorem gq_ {N:Nat} {w:World} {k0:Nat} {s:ActS} {now:Nat} (h:aA_ N w k0 s now) {K:Value→World→Prop} (hK:K .nilIface w):aa_ PR F.gX_ ⟨[.pointer (some ⟨k0,0,none⟩)]⟩ w K:=by
 have hF:=h.fs (S:=(· = k0)) rfl
 exact qh_ k0 _ _ _ _ (· = k0) K w hF ⟨rfl,trivial⟩ (oR_ h ⟨false,rfl,(λh=>by cases h),λ_=>⟨hF,hK⟩⟩)
structure sK_ (n:Nat) (w:World) (k0 bd a:Nat) (r now:Int):Prop where
 blk:w.heap[k0]? = some (.cells #[.pointer (some ⟨a,0,none⟩),.pointer (some ⟨bd,0,none⟩),.int .i64 r,.int .i64 now] T.aD_ (0,0))
 brn:nq_ n w bd
 lt:k0<n
theorem ct_ {N:Nat} {w:World} {k0:Nat} {s:ActS} {now:Nat} (h:aA_ N w k0 s now) (hN:N≤w.heap.size) {nodes:Int} {l:List (Int × Int)} {y:Option Addr} {n cy:Nat} (hs:Sl w y (encE l)) (hl:n=l.length) (hn:n≤100000) {K:Value→World→Prop}
  (h1:∀w' x' mn list,ng_ s.x nodes l mn list→x'.recs=s.x.recs++[recV mn list]→(x'.man=λi=>if i=s.x.last+1 then mn else s.x.man i)→aA_ N w' k0 ⟨x',s.a,s.bn,s.reps⟩ now→Chg s.x.reg w w'→x'.each=s.x.each→x'.last=s.x.last+1→x'.com=s.x.com→x'.ex=s.x.ex→(∀k,x'.reg k→s.x.reg k∨w.heap.size≤k)→x'.bd=s.x.bd→(NoF w s.x.bd→NoF w' s.x.bd)→K (.tuple #[.int .i64 (x'.last:Nat),.nilIface]) w')
  (hE:∀w' n,¬NoF w s.x.bd→sK_ n w' k0 s.x.bd s.a (s.reps.length:Nat) (now:Nat)→Chg s.x.reg w w'→K (.tuple #[.int .i64 0,.iface T.am_ (.int .i64 8)]) w')
  (h2:∀w' v c,Grow w w'→isEC c v→eO_ s.x nodes l c→¬snug s.x nodes l→K (.tuple #[.int .i64 0,v]) w'):aa_ PR F.bC_ ⟨[.pointer (some ⟨k0,0,none⟩),.int .i64 nodes,.slice y n cy]⟩ w K:=by
 have hF:=h.fs (S:=λk=>k=k0∨s.x.reg k) (.inl rfl)
 have hk0:=aj_ h.blk
 refine lK_ k0 _ _ _ _ nodes y n cy (λk=>k=k0∨s.x.reg k) K w hF ⟨.inl rfl,trivial⟩ (gq_ h ⟨_,rfl,hF,λ_=>ad_.2 (ad_.2 (ad_.2 ⟨_,by rw [an_,ap_ h.act.blk];rfl,?_⟩)),(λt x h=>by cases h),.inl rfl⟩)
 refine me_ h.act.pub hN hs hl hn (λw1 x' mn list hok er em hx' g f1 f2 f3 f4 f5 f6 f7 f8 f9 f10 f11=>?_) (λw1 n hn hb hsn g=>?_) λw1 v c g hx' hv hpe hsn=>?_
 ·have hA:=h.act.s0_ hx' g f1 f8 f9
  have hb:=g.get h.blk h.off
  have:=h1 w1 x' mn list hok er em ⟨by show w1.heap[k0]? = some (.cells #[.pointer (some ⟨s.a,0,none⟩),.pointer (some ⟨x'.bd,0,none⟩),.int .i64 (s.reps.length:Nat),.int .i64 (now:Nat)] T.aD_ (0,0));rw [f2];exact hb,hA,h.lo,λe=>(f9 _ e).elim h.off λe=>by omega,by show x'.ex k0;rw [f8];exact h.ex⟩ g f3 f4 f5 f8 f9 f2 f11
  exact ⟨_,_,rfl,hF.step g (λx hx e=>by simp at hx;subst hx;exact h.off e) (λk _ e=>.inr e),this⟩
 ·exact ⟨_,_,rfl,hF.step g (λx hx e=>by simp at hx;subst hx;exact h.off e) (λk _ e=>.inr e),hE w1 n hn ⟨g.get h.blk h.off,hb,by omega⟩ g⟩
 ·exact ⟨_,_,rfl,hF.after g,h2 w1 v c g hv hpe hsn⟩
end Go.Vc
namespace Go.Vc
open Go Go.MapKept
def OutR (x:PubS) (j:Nat) (m:MsgL) (outs:List (Int × MsgL)):Prop:=(m.kind≠2∧outs=[])∨(m.kind=2∧∃r,AnsR x m.ver m.i r∧outs=[(((j+1:Nat):Int),r)])
theorem OutR.uniq {x y:PubS} {N:Nat} {w:World} (hx:aK_ N w x) (e1:x.recs=y.recs) (e2:x.last=y.last) (e3:x.com=y.com) (e4:x.man=y.man) {j:Nat} {m:MsgL} {o o':List (Int × MsgL)} (h:OutR x j m o) (h':OutR y j m o'):o=o':=by
 rcases h with ⟨h1,rfl⟩ | ⟨h1,r,hr,rfl⟩
 ·rcases h' with ⟨_,rfl⟩ | ⟨h2,_⟩
  ·rfl
  ·exact absurd h2 h1
 ·rcases h' with ⟨h2,_⟩ | ⟨_,r',hr',rfl⟩
  ·exact absurd h1 h2
  ·rw [AnsR.uniq hx e1 e2 e3 e4 hr hr']
theorem AnsR.small {x:PubS} {ver i:Int} {m:MsgL} (h:AnsR x ver i m):m.proof.length≤1000000:=by
 rcases h with ⟨v,j,list,_,_,_,_,_,hL,_,_,rfl⟩ | ⟨_,rfl⟩
 ·have hbl:=hL.ok.blocks.2
  have hb2:=hL.blocks
  have:∀(leaves:List (List UInt8)) (f i a n:Nat),(bm_ leaves f i a n).length≤f:=by
   intro leaves f
   induction f with
   | zero=>intro i a n;simp [bm_]
   | succ f ih=>
    intro i a n
    unfold bm_
    split
    ·simp
    ·split
     ·have:=ih i a (aw_ n);simp;omega
     ·have:=ih i (a+aw_ n) (n - aw_ n);simp;omega
  have:=this (list.map bp_) list.length j 0 list.length
  show (bm_ _ _ _ _ _).length≤_
  omega
 ·simp
theorem OutR.small {x:PubS} {j:Nat} {m:MsgL} {o:List (Int × MsgL)} (h:OutR x j m o):o.length≤1∧∀p∈o,p.2.proof.length≤1000000:=by
 rcases h with ⟨_,rfl⟩ | ⟨_,r,hr,rfl⟩
 ·exact ⟨by simp,λp hp=>by cases hp⟩
 ·exact ⟨by simp,λp hp=>by rw [List.mem_singleton.1 hp];exact hr.small⟩
theorem o1_ {N:Nat} {w:World} {s:ActS} (h:ba_ N w s) {j:Nat} (hj:j<s.reps.length) {m:MsgL} {now:Int} {y:Option Addr} {cy:Nat} (hv : -9223372036854775808≤m.ver∧m.ver≤9223372036854775807) {K:Value→World→Prop}
  (hK:∀w' q outs c,ba_ N w' ⟨s.x,s.a,s.bn,s.reps.set j (bK_ s.reps[j] m.kind m.ver now)⟩→Chg (· = s.bn) w w'→OutR s.x j m outs→bX_ w' q outs→K (.tuple #[.slice q outs.length c,.nilIface]) w') :
  aa_ PR F.ca_ ⟨[.pointer (some ⟨s.a,0,none⟩),.int .i64 ((j+1:Nat):Int),fM_ m y cy,.int .i64 now]⟩ w K:=by
 by_cases hk:m.kind=2
 ·have e:fM_ m y cy=.agg #[.int .i64 2,.int .i64 m.ver,.int .i64 m.i,.string (str m.text),.slice y m.proof.length cy]:=by unfold fM_;rw [hk]
  rw [e]
  refine oP_ h hj hv λw' q r hA g hr ho=>?_
  rw [← hk] at hA
  exact hK w' q _ 1 hA g (.inr ⟨hk,r,hr,rfl⟩) ho
 ·obtain ⟨x,a,bn,reps⟩:=s
  exact oO_ h hj hk λw' hA g=>hK w' none [] 0 hA g (.inl ⟨hk,rfl⟩) (.nil _)
theorem lM_ {S:List UInt8→Nat} {l:List UInt8} {m:MsgL} (h:eM_ S l=.inl m):e6_ m:=by
 unfold eM_ at h
 split at h
 ·cases h
 ·rw [gr_] at h
  split at h
  ·cases h
  ·split at h
   ·cases h
   ·split at h
    ·cases h
    ·split at h
     ·rename_i hk
      cases h;exact hk
     ·cases h
theorem eC_ {N:Nat} {w:World} {k0:Nat} {s:ActS} {now:Nat} (h:aA_ N w k0 s now) {fr:Int} {l:List UInt8} (hl:l.length≤1099511627776) {K:Value→World→Prop}
  (h1:¬(1≤fr∧fr≤s.reps.length)→K (.tuple #[.slice none 0 0,.nilIface]) w)
  (h2:∀w' c v,1≤fr→fr≤s.reps.length→Grow w w'→eM_ crcN l=.inr c→isEC c v→K (.tuple #[.slice none 0 0,v]) w')
  (h3:∀w' j m q outs c,(hj:j<s.reps.length)→fr=((j+1:Nat):Int)→eM_ crcN l=.inl m→aA_ N w' k0 ⟨s.x,s.a,s.bn,s.reps.set j (bK_ s.reps[j] m.kind m.ver (now:Nat))⟩ now→Chg (· = s.bn) w w'→OutR s.x j m outs→bX_ w' q outs→K (.tuple #[.slice q outs.length c,.nilIface]) w') :
  aa_ PR F.a__ ⟨[.pointer (some ⟨k0,0,none⟩),.int .i64 fr,.string (str l)]⟩ w K:=by
 have hF:=h.fs (S:=λk=>k=k0∨k=s.bn) (.inl rfl)
 have hk0:=aj_ h.blk
 have hbn:k0≠s.bn:=co_ h.blk h.act.row (by decide)
 refine qj_ k0 _ _ _ _ fr (str l) (λk=>k=k0∨k=s.bn) K w hF ⟨.inl rfl,trivial⟩ (gq_ h ⟨_,rfl,hF,λ_=>⟨λhlt=>h1 (by omega),λhge=>⟨λhgt=>h1 (by omega),λhle=>?_⟩⟩,(λt x h=>by cases h),.inl rfl⟩)
 refine nj_ hl (λw1 m q c g1 hm ho hc hof=>?_) λw1 c v g1 hm hv=>?_
 ·have hF1:=hF.after g1
  refine ⟨_,_,_,_,_,_,_,_,rfl,hF1,λl2 hl2=>⟨λ_ w2 hF2=>?_,(λt x h=>by cases h),.inl rfl⟩⟩
  have g2:Grow w1 w2:=(hF2.unM hl2).grow
  obtain ⟨j,hjf⟩:∃j:Nat,fr=((j+1:Nat):Int):=⟨fr.toNat - 1,by omega⟩
  have hj:j<s.reps.length:=by omega
  have hok:=lM_ hm
  have h2':=h.grow (g1.trans g2)
  rw [hjf]
  refine o1_ (m:=m) h2'.act hj ⟨by have:=hok.1;omega,by have:=hok.1;omega⟩ λw3 q3 outs c3 hA g3 hr ho3=>?_
  have hb3:=g3.get h2'.blk hbn
  refine ⟨_,_,_,_,rfl,hF2.reset.step g3 (λx hx e=>?_) (λk _ e=>.inr e),?_⟩
  ·have e':x.b=s.bn:=e
   have hbl:=aj_ h.act.row
   have s1:=g1.size
   simp at hx
   rcases hx with rfl | rfl
   ·exact hbn e'
   ·simp only [] at e';omega
  ·refine h3 w3 j m q3 outs c3 hj hjf hm ⟨?_,hA,h.lo,h.off,h.ex⟩ ((g1.trans g2).then g3) hr ho3
   show w3.heap[k0]? = some (.cells #[.pointer (some ⟨s.a,0,none⟩),.pointer (some ⟨s.x.bd,0,none⟩),.int .i64 ((s.reps.set j _).length:Nat),.int .i64 (now:Nat)] T.aD_ (0,0))
   rw [List.length_set];exact hb3
 ·have hF1:=hF.after g1
  refine ⟨_,_,_,_,_,_,_,_,rfl,hF1,λl2 hl2=>⟨(λh=>by obtain ⟨t,x,rfl⟩:=hv.err;cases h),(λt x he w4 hF4=>h2 w4 c _ (by omega) (by omega) (g1.trans (hF4.unM hl2).grow) hm hv),.inr (by obtain ⟨t,x,h⟩:=hv.err;exact ⟨t,x,h⟩)⟩⟩
end Go.Vc
namespace Go.Vc
open Go Go.RowKit Go.Extern.Stop Go.Stop Go.Extern Go.Proofs
theorem iy_ (w:World):((Extern.ReflectliteType.method λt=>do Extern.Rtype.noPackHeld "Comparable" t;(λa=>Value.bool a.comparable) <$> typeInfo t) #[.agg #[.pointer (some ⟨2,80,none⟩)]]).run Tryz.prog w=.ok (.bool true) w:=by kernel_rfl
theorem dV_ (h:Value) (w:World):(Go.method 473 192 (.agg #[h]) "Comparable").run Tryz.prog w=.ok (264,.agg #[h]) w:=by kernel_rfl
theorem uh_ (w:World):(binOp .eql 36 .nilIface (.iface 80 (.int .i64 7))).run Tryz.prog w=.ok (.bool false) w:=by kernel_rfl
theorem th_ (w:World):(binOp .eql 36 (.iface 80 (.int .i64 7)) (.iface 80 (.int .i64 7))).run Tryz.prog w=.ok (.bool true) w:=by kernel_rfl
theorem ur_ (w:World):Calls Tryz.prog 36 #[.nilIface,.iface 80 (.int .i64 7)] w λe w'=>e=.returned (.bool false)∧w'=w:=by
 have hn:=uh_ w
 go_enter Tryz.func36,Tryz.ntmps36
 go_wp2
 go_ret
 exact ⟨rfl,rfl⟩
theorem tu_ (w:World):Calls Tryz.prog 36 #[.iface 80 (.int .i64 7),.iface 80 (.int .i64 7)] w λe w'=>e=.returned (.bool true)∧w'=w:=by
 have h8:=@run_callFunc_extern Tryz.prog 69 _ Extern.ReflectliteType.typeOf Tryz.func69 (by kernel_rfl) (by kernel_rfl) (by kernel_rfl) (by kernel_rfl)
 have h32:=@run_callFunc_extern Tryz.prog 264 _ (Extern.ReflectliteType.method λt=>do Extern.Rtype.noPackHeld "Comparable" t;pure (.bool (← typeInfo t).comparable)) Tryz.func264 (by kernel_rfl) (by kernel_rfl) (by kernel_rfl) (by kernel_rfl)
 have tT:=j1_
 have cT:=iy_
 have mR:=dV_
 have hn:=th_ w
 go_enter Tryz.func36,Tryz.ntmps36
 go_wp2
 refine wp_loop_rounds 1 ?_
 rw [rounds_succ]
 go_wp2
 go_ret
 exact ⟨rfl,rfl⟩
theorem s9_:(Tryz.prog.underlying 217).map (λt=>match t with | .interface ms=>ms.toList.map (·.1) | _=>[])=some ["Is"]:=by kernel_rfl
theorem uD_ (v:Value) (xT:TypeId) (w:World):(Instr.typeAssert (.iface 80 v) xT 217 true).run Tryz.prog w=.ok (.tuple #[.nilIface,.bool false]) w:=by
 obtain ⟨ms,hu⟩:=fR_ s9_ (by simp)
 exact run_typeAssert_lacksB hu (by
  have:(Tryz.prog.info? 80).map (λi=>match Tryz.prog.underlying 217 with | some (.interface want)=>(lacking want i.methods).isEmpty | _=>true)=some false:=by kernel_rfl
  rw [hu] at this;exact this) (by kernel_rfl) v xT w
theorem s8_:(Tryz.prog.underlying 199).map (λt=>match t with | .interface ms=>ms.toList.map (·.1) | _=>[])=some ["Unwrap"]:=by kernel_rfl
theorem uC_ (v:Value) (xT:TypeId) (w:World):(Instr.typeAssert (.iface 80 v) xT 199 true).run Tryz.prog w=.ok (.tuple #[.nilIface,.bool false]) w:=by
 obtain ⟨ms,hu⟩:=fR_ s8_ (by simp)
 exact run_typeAssert_lacksB hu (by
  have:(Tryz.prog.info? 80).map (λi=>match Tryz.prog.underlying 199 with | some (.interface want)=>(lacking want i.methods).isEmpty | _=>true)=some false:=by kernel_rfl
  rw [hu] at this;exact this) (by kernel_rfl) v xT w
theorem rI_:(Tryz.prog.underlying 200).map (λt=>match t with | .interface ms=>ms.toList.map (·.1) | _=>[])=some ["Unwrap"]:=by kernel_rfl
theorem tZ_ (v:Value) (xT:TypeId) (w:World):(Instr.typeAssert (.iface 80 v) xT 200 true).run Tryz.prog w=.ok (.tuple #[.nilIface,.bool false]) w:=by
 obtain ⟨ms,hu⟩:=fR_ rI_ (by simp)
 exact run_typeAssert_lacksB hu (by
  have:(Tryz.prog.info? 80).map (λi=>match Tryz.prog.underlying 200 with | some (.interface want)=>(lacking want i.methods).isEmpty | _=>true)=some false:=by kernel_rfl
  rw [hu] at this;exact this) (by kernel_rfl) v xT w
theorem ti_ (w:World):(binOp .eql 36 (.iface 80 (.int .i64 8)) (.iface 80 (.int .i64 7))).run Tryz.prog w=.ok (.bool false) w:=by kernel_rfl
theorem tv_ (w:World):Calls Tryz.prog 36 #[.iface 80 (.int .i64 8),.iface 80 (.int .i64 7)] w λe w'=>e=.returned (.bool false)∧w'=w:=by
 have h8:=@run_callFunc_extern Tryz.prog 69 _ Extern.ReflectliteType.typeOf Tryz.func69 (by kernel_rfl) (by kernel_rfl) (by kernel_rfl) (by kernel_rfl)
 have h32:=@run_callFunc_extern Tryz.prog 264 _ (Extern.ReflectliteType.method λt=>do Extern.Rtype.noPackHeld "Comparable" t;pure (.bool (← typeInfo t).comparable)) Tryz.func264 (by kernel_rfl) (by kernel_rfl) (by kernel_rfl) (by kernel_rfl)
 have tT:=j1_
 have cT:=iy_
 have mR:=dV_
 have hn:=ti_ w
 have n1:=uD_
 have n2:=uC_
 have n3:=tZ_
 go_enter Tryz.func36,Tryz.ntmps36
 go_wp2
 refine wp_loop_rounds 1 ?_
 rw [rounds_succ]
 go_wp2
 go_ret
 exact ⟨rfl,rfl⟩
theorem mk_ {w:World} {K:Value→World→Prop} (hK:K (.bool false) w):aa_ PR F.ip_ #[.iface T.am_ (.int .i64 8),.iface T.am_ (.int .i64 7)] w K:=
 cr_ (tv_ w) λe w' ⟨he,g⟩=>⟨_,he,g ▸ hK⟩
theorem iL_ {w:World} {K:Value→World→Prop} (hK:K (.bool false) w):aa_ PR F.ip_ #[.nilIface,.iface T.am_ (.int .i64 7)] w K:=
 cr_ (ur_ w) λe w' ⟨he,g⟩=>⟨_,he,g ▸ hK⟩
theorem mj_ {w:World} {K:Value→World→Prop} (hK:K (.bool true) w):aa_ PR F.ip_ #[.iface T.am_ (.int .i64 7),.iface T.am_ (.int .i64 7)] w K:=
 cr_ (tu_ w) λe w' ⟨he,g⟩=>⟨_,he,g ▸ hK⟩
end Go.Vc
namespace Go.Vc
open Go Go.MapKept
theorem du_ {N:Nat} {w:World} {k0:Nat} {s:ActS} {now:Nat} (h:aA_ N w k0 s now) (hN:N≤w.heap.size) (hn:now+1≤1000000) (hd:∀r∈s.reps,0≤r.done) {K:Value→World→Prop}
  (h1:∀w' q c,¬dW_ s ((now+1:Nat):Int)→aA_ N w' k0 s (now+1)→Chg (· = k0) w w'→Sl w' q ((outN s ((now+1:Nat):Int) s.reps.length).flatMap outC)→Off (λj=>j<w.heap.size) q→K (.tuple #[.slice q (outN s ((now+1:Nat):Int) s.reps.length).length c,.nilIface]) w')
  (h2:∀w' s' q c,dW_ s ((now+1:Nat):Int)→aA_ N w' k0 s' (now+1)→Chg (λk=>k=k0∨s.x.reg k) w w'→s'.a=s.a→s'.reps=s.reps→s'.x.last=s.x.last→s'.x.com=s.x.last→s'.bn=s.bn→s'.x.recs=s.x.recs++[recC s.x.last]→s'.x.man=s.x.man→s'.x.each=s.x.each→s'.x.ex=s.x.ex→(∀k,s'.x.reg k→s.x.reg k∨w.heap.size≤k)→(recC s.x.last).length+6≤s.x.room→Sl w' q ((outN s' ((now+1:Nat):Int) s'.reps.length).flatMap outC)→Off (λj=>j<w.heap.size) q→s'.x.bd=s.x.bd→(NoF w s.x.bd→NoF w' s.x.bd)→K (.tuple #[.slice q (outN s' ((now+1:Nat):Int) s'.reps.length).length c,.nilIface]) w')
  (hE:∀w' n,¬NoF w s.x.bd→sK_ n w' k0 s.x.bd s.a (s.reps.length:Nat) ((now+1:Nat):Int)→Chg (λk=>k=k0∨s.x.reg k) w w'→K (.tuple #[.slice none 0 0,.iface T.am_ (.int .i64 8)]) w')
  (h3:∀w',dW_ s ((now+1:Nat):Int)→s.x.room<(recC s.x.last).length+6→aA_ N w' k0 s (now+1)→Chg (· = k0) w w'→K (.tuple #[.slice none 0 0,.nilIface]) w') :
  aa_ PR F.cm_ ⟨[.pointer (some ⟨k0,0,none⟩)]⟩ w K:=by
 have hF:=h.fs (S:=λk=>k=k0∨s.x.reg k) (.inl rfl)
 have hk0:=aj_ h.blk
 have hka:k0≠s.a:=co_ h.blk h.act.blk (by decide)
 have hkb:k0≠s.bn:=co_ h.blk h.act.row (by decide)
 refine qi_ k0 _ _ _ _ (λk=>k=k0∨s.x.reg k) K w hF ⟨.inl rfl,trivial⟩ λw0 hF0=>?_
 have en:IntKind.wrap .i64 ((now:Int)+1)=((now+1:Nat):Int):=by rw [w64 (by omega) (by omega)];omega
 rw [en] at hF0 ⊢
 have g0:Chg (· = k0) w w0:=hF0.stp.mono λk _ e=>by simpa using e
 have hA0:ba_ N w0 s:=⟨g0.get h.act.blk λe=>hka e.symm,g0.get h.act.row λe=>hkb e.symm,h.act.pub.jB_ g0 (λk e=>by subst e;exact h.ex) (λk e=>by subst e;exact h.off),h.act.la,h.act.ln,h.act.n1,h.act.n4,h.act.off,h.act.ex⟩
 have hH0:aA_ N w0 k0 s (now+1):=⟨hF0.blk 0 rfl,hA0,h.lo,h.off,h.ex⟩
 have s0:=g0.size
 refine gq_ hH0 ⟨_,rfl,hF0.reset,λ_ w2 hF2=>?_,(λt x h=>by cases h),.inl rfl⟩
 have g2:Grow w0 w2:=hF2.grow
 have s2:=g2.size
 have hH2:=hH0.grow g2
 have nf:NoF w s.x.bd→NoF w2 s.x.bd:=λhn=>(hn.keep g0 λe=>h.off (.inr (.inr (.inr (.inl e.symm))))).keep g2 id
 refine qW_ hH2.act (by omega) ⟨by omega,by omega⟩ hd (λw3 q c hna g3 hs ho=>?_) (λw3 s' q c hag hA g3 a1 a2 a3 a4 a5 a6 a7 a8 a9 a10 a11 a12 a13 hs ho a14=>?_) (λw3 n hn hb hsn g3=>?_) λw3 hag hr g3=>?_
 ·have hF3:=hF2.reset.after g3
  exact ⟨_,_,_,_,rfl,hF3,iL_ ⟨false,rfl,(λh=>by cases h),λ_=>⟨hF3,h1 w3 q c hna (hH2.grow g3) (g0.grow (g2.trans g3)) hs (λa ha e=>ho a ha (by have e':a.block<w.heap.size:=e;show a.block<w2.heap.size;omega))⟩⟩⟩
 ·have hF3:=hF2.reset.step g3 (λx hx e=>by simp at hx;subst hx;exact h.off e) λk _ e=>.inr e
  have hb3:=g3.get hH2.blk h.off
  refine ⟨_,_,_,_,rfl,hF3,iL_ ⟨false,rfl,(λh=>by cases h),λ_=>⟨hF3,h2 w3 s' q c hag ⟨?_,hA,h.lo,λe=>(a12 _ e).elim h.off λe=>by omega,by rw [a11];exact h.ex⟩ hF3.chg a1 a2 a4 a5 a6 a7 a8 a9 a11 (λk e=>(a12 k e).imp id λh=>by omega) a13 hs (λa ha e=>ho a ha (by have e':a.block<w.heap.size:=e;show a.block<w2.heap.size;omega)) a10 λhn=>a14 (nf hn)⟩⟩⟩
  show w3.heap[k0]? = some (.cells #[.pointer (some ⟨s'.a,0,none⟩),.pointer (some ⟨s'.x.bd,0,none⟩),.int .i64 (s'.reps.length:Nat),.int .i64 ((now+1:Nat):Int)] T.aD_ (0,0))
  rw [a1,a10,a2];exact hb3
 ·have hF3:=hF2.reset.step g3 (λx hx e=>by simp at hx;subst hx;exact h.off e) λk _ e=>.inr e
  exact ⟨_,_,_,_,rfl,hF3,mk_ ⟨false,rfl,(λh=>by cases h),λ_=>⟨hF3,hE w3 n (λh=>hn (nf h)) ⟨g3.get hH2.blk h.off,hb,by omega⟩ hF3.chg⟩⟩⟩
 ·have hF3:=hF2.reset.after g3
  exact ⟨_,_,_,_,rfl,hF3,mj_ ⟨true,rfl,(λ_=>⟨hF3,h3 w3 hag hr (hH2.grow g3) (g0.grow (g2.trans g3))⟩),λh=>by cases h⟩⟩
end Go.Vc
