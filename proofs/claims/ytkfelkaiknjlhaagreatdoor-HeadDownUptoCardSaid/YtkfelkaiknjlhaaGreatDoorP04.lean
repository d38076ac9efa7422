/-
  A part of the proof of the statement HeadDownUptoCardSaid, in Lean: Nm, Lb3, Lb4, Ty, Oct, Gap, Oc1, Oc2, Fm, Lb5. By an AI agent.
-/
import Derived.Test.YtkfelkaiknjlhaaGreatDoorP02
import Derived.Test.YtkfelkaiknjlhaaGreatDoorP01
import Derived.Laws.BitsLemmas
import Derived.Test.YtkfelkaiknjlhaaGreatDoorP03
set_option linter.unusedVariables false
set_option linter.unusedSimpArgs false
set_option maxRecDepth 100000
namespace Go.Vc
open Go
abbrev F.bu_:Nat:=4
abbrev F.b5_:Nat:=6
abbrev F.bo_:Nat:=7
abbrev F.kp_:Nat:=8
abbrev F.nI_:Nat:=9
abbrev F.r4_:Nat:=10
abbrev F.qP_:Nat:=11
abbrev F.a6_:Nat:=12
abbrev F.f8_:Nat:=13
abbrev F.kJ_:Nat:=14
abbrev F.mN_:Nat:=15
abbrev F.cm_:Nat:=16
abbrev F.b__:Nat:=17
abbrev F.bA_:Nat:=19
abbrev F.iP_:Nat:=20
abbrev F.mO_:Nat:=21
abbrev F.d5_:Nat:=22
abbrev F.iN_:Nat:=23
abbrev F.e1_:Nat:=24
abbrev F.g4_:Nat:=25
abbrev F.eF_:Nat:=27
abbrev F.dS_:Nat:=28
abbrev F.ba_:Nat:=29
abbrev F.bB_:Nat:=30
abbrev F.cn_:Nat:=31
abbrev F.df_:Nat:=32
abbrev F.eI_:Nat:=33
abbrev F.iM_:Nat:=35
abbrev F.hS_:Nat:=38
abbrev F.hR_:Nat:=39
abbrev F.gV_:Nat:=41
abbrev F.b6_:Nat:=42
abbrev F.ck_:Nat:=43
abbrev F.gI_:Nat:=44
abbrev F.d4_:Nat:=45
abbrev F.gT_:Nat:=46
abbrev F.cl_:Nat:=47
abbrev F.kd_:Nat:=48
abbrev F.d__:Nat:=49
abbrev F.hQ_:Nat:=50
abbrev F.j8_:Nat:=51
abbrev F.strings_Join:Nat:=52
abbrev F.iL_:Nat:=53
abbrev F.fH_:Nat:=55
abbrev F.c0_:Nat:=56
abbrev F.ew_:Nat:=57
abbrev F.g0_:Nat:=58
abbrev F.g2_:Nat:=59
abbrev F.ij_:Nat:=61
abbrev F.g3_:Nat:=62
abbrev F.iO_:Nat:=63
abbrev F.gq_:Nat:=64
abbrev F.cF_:Nat:=65
abbrev F.fx_:Nat:=66
abbrev F.f9_:Nat:=67
abbrev F.fG_:Nat:=68
abbrev F.g1_:Nat:=70
abbrev F.gZ_:Nat:=71
abbrev F.gY_:Nat:=72
abbrev F.gW_:Nat:=73
abbrev F.fA_:Nat:=74
abbrev F.ga_:Nat:=75
abbrev F.dA_:Nat:=76
abbrev F.gG_:Nat:=79
abbrev F.e2_:Nat:=81
abbrev F.gU_:Nat:=85
abbrev F.hT_:Nat:=86
abbrev F.eh_:Nat:=87
abbrev F.hU_:Nat:=88
abbrev F.f__:Nat:=89
abbrev F.cg_:Nat:=90
abbrev F.strings_HasPrefix:Nat:=91
abbrev F.pN_:Nat:=92
abbrev F.bk_:Nat:=93
abbrev F.ip_:Nat:=94
abbrev F.eW_:Nat:=95
abbrev F.iz_:Nat:=96
abbrev F.eV_:Nat:=97
abbrev F.hV_:Nat:=98
abbrev F.mP_:Nat:=99
abbrev F.c5_:Nat:=100
abbrev F.dz_:Nat:=101
abbrev F.a__:Nat:=102
abbrev F.e7_:Nat:=103
abbrev F.de_:Nat:=104
abbrev F.dW_:Nat:=105
abbrev F.dy_:Nat:=106
abbrev F.iK_:Nat:=107
abbrev F.bw_:Nat:=112
abbrev F.ge_:Nat:=113
abbrev F.dF_:Nat:=114
abbrev F.c1_:Nat:=115
abbrev F.ig_:Nat:=116
abbrev F.fC_:Nat:=120
abbrev F.kK_:Nat:=122
abbrev F.do_:Nat:=123
abbrev F.e6_:Nat:=124
abbrev F.e8_:Nat:=125
abbrev F.cv_:Nat:=126
abbrev F.bI_:Nat:=128
abbrev F.cq_:Nat:=129
abbrev F.e3_:Nat:=130
abbrev F.cO_:Nat:=131
abbrev F.d8_:Nat:=136
abbrev F.a5_:Nat:=142
abbrev F.lt_:Nat:=143
abbrev F.gr_:Nat:=144
abbrev F.kD_:Nat:=145
abbrev F.d6_:Nat:=146
abbrev F.hC_:Nat:=147
abbrev F.fl_:Nat:=148
abbrev F.gt_:Nat:=149
abbrev F.hD_:Nat:=150
abbrev F.ow_:Nat:=152
abbrev F.fz_:Nat:=153
abbrev F.c2_:Nat:=154
abbrev F.d3_:Nat:=155
abbrev F.cD_:Nat:=157
abbrev F.aE_:Nat:=159
abbrev F.gS_:Nat:=160
abbrev F.gp_:Nat:=164
abbrev F.lI_:Nat:=166
abbrev F.kb_:Nat:=170
abbrev F.c4_:Nat:=173
abbrev F.dx_:Nat:=175
abbrev F.fh_:Nat:=176
abbrev F.bU_:Nat:=177
abbrev F.bv_:Nat:=178
abbrev F.bH_:Nat:=179
abbrev F.bE_:Nat:=180
abbrev F.ol_:Nat:=181
abbrev F.eT_:Nat:=182
abbrev F.eU_:Nat:=183
abbrev F.ci_:Nat:=184
abbrev F.ch_:Nat:=185
abbrev F.s3_:Nat:=186
abbrev F.fa_:Nat:=187
abbrev F.fy_:Nat:=188
abbrev F.pA_:Nat:=189
abbrev F.c3_:Nat:=190
abbrev F.cH_:Nat:=191
abbrev F.fB_:Nat:=192
abbrev F.ef_:Nat:=193
abbrev F.aV_:Nat:=194
abbrev F.dJ_:Nat:=208
abbrev F.cmp_Compare_int:Nat:=211
abbrev F.d2_:Nat:=212
abbrev F.dh_:Nat:=213
abbrev F.ku_:Nat:=214
abbrev F.mV_:Nat:=215
abbrev F.if_:Nat:=217
abbrev F.dg_:Nat:=218
abbrev F.e__:Nat:=219
abbrev F.sL_:Nat:=220
abbrev F.f7_:Nat:=221
abbrev F.hP_:Nat:=222
abbrev F.fb_:Nat:=223
abbrev F.gX_:Nat:=224
abbrev F.j3_:Nat:=239
abbrev F.dt_:Nat:=240
abbrev F.cE_:Nat:=241
abbrev F.cP_:Nat:=242
abbrev F.us_:Nat:=243
abbrev F.du_:Nat:=244
abbrev F.mE_:Nat:=245
abbrev F.gb_:Nat:=250
abbrev F.gc_:Nat:=251
abbrev F.cY_:Nat:=252
abbrev F.f2_:Nat:=254
abbrev F.hE_:Nat:=255
abbrev F.b1_:Nat:=256
abbrev T.int:Nat:=3
abbrev T.bool:Nat:=4
abbrev T.uint8:Nat:=5
abbrev T.string:Nat:=9
abbrev T.any:Nat:=20
abbrev T.ap_:Nat:=22
abbrev T.error:Nat:=27
abbrev T.fw_:Nat:=30
abbrev T.pU_:Nat:=35
abbrev T.bF_:Nat:=38
abbrev T.aQ_:Nat:=39
abbrev T.bV_:Nat:=41
abbrev T.hy_:Nat:=42
abbrev T.ej_:Nat:=44
abbrev T.aw_:Nat:=46
abbrev T.cN_:Nat:=52
abbrev T.aL_:Nat:=63
abbrev T.gD_:Nat:=64
abbrev T.bg_:Nat:=66
abbrev T.dQ_:Nat:=72
abbrev T.ay_:Nat:=78
abbrev T.k3_:Nat:=80
abbrev T.al_:Nat:=93
abbrev T.dk_:Nat:=97
abbrev T.aW_:Nat:=99
abbrev T.jS_:Nat:=106
abbrev T.au_:Nat:=108
abbrev T.bC_:Nat:=114
abbrev T.bi_:Nat:=124
abbrev T.aM_:Nat:=127
abbrev T.bX_:Nat:=130
abbrev T.er_:Nat:=134
abbrev T.aY_:Nat:=140
abbrev T.d1_:Nat:=151
abbrev T.aK_:Nat:=168
abbrev T.bb_:Nat:=181
abbrev T.b4_:Nat:=183
abbrev T.ah_:Nat:=185
abbrev T.cU_:Nat:=189
abbrev T.lZ_:Nat:=213
abbrev T.cx_:Nat:=221
abbrev T.bf_:Nat:=227
abbrev T.cG_:Nat:=229
abbrev T.aq_:Nat:=231
abbrev T.pz_:Nat:=244
abbrev T.m4_:Nat:=250
abbrev T.mL_:Nat:=254
abbrev T.dc_:Nat:=258
abbrev T.bl_:Nat:=286
abbrev T.bM_:Nat:=329
abbrev T.dY_:Nat:=354
abbrev G.count:Nat:=2
end Go.Vc
namespace Go.Vc
open Go
def bv (b:UInt8):Value:=.int .u8 b.toNat
def str (l:List UInt8):ByteArray:=⟨l.toArray⟩
theorem ae_ (l:List UInt8):(str l).size=l.length:=by simp [str,ByteArray.size]
theorem bh_ (l:List UInt8):(str l).data.toList=l:=by simp [str]
theorem str_inj {a b:List UInt8} (h:str a=str b):a=b:=by
 have:=congrArg (λs:ByteArray=>s.data.toList) h
 simpa [str] using this
theorem ai_ (a b:List UInt8):str a++str b=str (a++b):=by
 apply ByteArray.ext
 simp [str]
theorem aJ_ {n:Int} (h0 : -9223372036854775808≤n) (h1:n≤9223372036854775807):IntKind.wrap .i64 n=n:=by
 rw [IntKind.wrap_i64];omega
theorem wrap_u8 (n:Int):IntKind.wrap .u8 n=n%256:=IntKind.wrap_u8 n
theorem wrap_u32 (n:Int):IntKind.wrap .u32 n=n%4294967296:=IntKind.wrap_u32 n
theorem qG_ (n:Nat):(.int .u8 ((n:Int)%256):Value)=bv (UInt8.ofNat n):=by
 unfold bv;congr 1
theorem dC_ {n:Int} (h0:0≤n) (h1:n≤9223372036854775807):(BitVec.ofInt 64 n).toNat=n.toNat:=by
 obtain ⟨m,rfl⟩:=Int.eq_ofNat_of_zero_le h0
 have:m<2 ^ 64:=by omega
 simp [Nat.mod_eq_of_lt this]
section
variable {P:Program}
theorem fo_ {ts td e:TypeId} (hu:P.underlying ts=some (.slice e)) (hd:P.underlying td=some .string) (he:P.underlying e=some (.int .u8))
  {w:World} {q:Option Addr} {l c:Nat} {bs:List UInt8} {K:Value→World→Prop} (hs:Sl w q (bs.map bv)) (hl:l=bs.length)
  (hK:K (.string (str bs)) w):sv P (convert ts td (.slice q l c)) K w:=by
 unfold convert
 rw [aH_,as_ hu,aH_,as_ hd]
 simp only []
 rw [aH_,as_ he]
 simp only []
 have hnil:∀q,bs=[]→q=none→sv P (Conv.bytesToString (.slice q l c)) K w:=by
  intro q h1 h2
  subst h1;subst h2
  have:K (.string .empty) w:=hK
  exact this
 unfold Conv.bytesToString
 cases q with
 | none=>
  rcases hs with h | ⟨b,o,h,_⟩
  ·have:bs=[]:=by simpa using h
   subst this
   exact hK
  ·cases h
 | some a=>
  simp only []
  have loop:∀(bs:List UInt8) (s:ByteArray) (K:ByteArray→World→Prop),K (s++str bs) w→
    sv P (forIn (bs.map bv) s (λc s=>do
     let .int .u8 n:=c | stuck "bytesToString: byte expected"
     pure (.yield (s.push (UInt8.ofNat n.toNat)))):Sem ByteArray) K w:=by
   intro bs
   induction bs with
   | nil=>
    intro s K h
    have e:s++str []=s:=by apply ByteArray.ext;simp [str]
    rw [e] at h;exact h
   | cons x bs ih=>
    intro s K h
    simp only [List.map_cons,List.forIn_cons]
    rw [aH_]
    simp only [bv,a1_]
    refine ih _ _ ?_
    have e:s.push (UInt8.ofNat (Int.toNat (x.toNat:Int)))++str bs=s++str (x :: bs):=by
     apply ByteArray.ext
     simp [str]
    rw [e];exact h
  have fin:∀(xs:List Value),xs=bs.map bv→sv P (do
    let mut s:=ByteArray.empty
    for c in xs.toArray do
     let .int .u8 n:=c | stuck "bytesToString: byte expected"
     s:=s.push (UInt8.ofNat n.toNat)
    pure (Value.string s):Sem Value) K w:=by
   intro xs hx
   subst hx
   rw [aH_,List.forIn_toArray]
   refine loop bs _ _ ?_
   rw [a1_]
   simpa using hK
  rcases hs with h | ⟨b,o,h,hr⟩
  ·have e:bs=[]:=by simpa using h
   subst e
   rw [aH_,hl]
   exact fin [] rfl
  ·cases h
   rw [aH_]
   exact cb_ (by simp [hl]) hr (fin _ rfl)
end
end Go.Vc
namespace Go.Vc
open Go
section
variable {P:Program}
theorem ca_ {ts e:TypeId} {i:TypeInfo} {z:Value} {by_:Nat} (hu:P.underlying ts=some (.slice e)) (hi:P.info? e=some i) (hz:i.zero=some z) (hzc:z.cells=#[z]) (hk:i.size=1) (hb:i.bytes=by_)
  {w:World} {n:Int} {K:Value→World→Prop} (h0:0≤n) (hn:by_*n≤281474976710656) (hm:n≤9223372036854775807)
  (hK:∀b w',b=w.heap.size→w'.heap.size=b+1→Grow w w'→Own e 1 w' (some ⟨b,0,none⟩) n.toNat (List.replicate n.toNat z)→K (.slice (some ⟨b,0,none⟩) n.toNat n.toNat) w') :
  sv P (Instr.makeSlice ts (.int .i64 n) (.int .i64 n)) K w:=by
 subst hb
 have hw:=aJ_ (n:=n) (by omega) hm
 have hlt:¬((i.bytes:Int)*n>2 ^ 48):=by
  have:(2:Int) ^ 48=281474976710656:=by decide
  omega
 unfold Instr.makeSlice
 simp only [aH_,as_ hu,asInt,asIntOf,a1_,bD_ hi,hw,ht_,c9_,bT_ hi,hk,Nat.mul_one]
 have h1:¬n<0:=by omega
 have h2:¬n>n:=by omega
 simp only [h1,h2,hlt,decide_false,Bool.or_self,Bool.false_eq_true,if_false]
 have key:∀(cs:Array Value),cs=(List.replicate n.toNat z).toArray→sv P (newRow e cs) (λa w=>K (.slice (some a) n.toNat n.toNat) w) w:=by
  intro cs hcs
  subst hcs
  unfold newRow
  rw [aH_,dX_]
  refine newV λb w' hb hb' hs g=>hK b w' hb hs g (.inr ⟨b,0,_,rfl,hb',by simp,by omega,by simp,λj hj=>by simp at hj;simp [hj]⟩)
 by_cases hz0:n.toNat=0
 ·rw [if_pos hz0]
  refine key _ ?_
  rw [hz0];apply Array.toList_inj.1;simp
 ·rw [if_neg hz0,bJ_ hi hz]
  refine key _ ?_
  apply Array.toList_inj.1
  rw [hzc]
  simp
  apply List.ext_getElem
  ·simp
  ·intro j h1 h2;simp [Nat.mod_one]
end
end Go.Vc
namespace Go.Vc
open Go
theorem cf_:PR.underlying T.bi_=some (.slice T.uint8):=by kernel_rfl
theorem u_u8:PR.underlying T.uint8=some (.int .u8):=by kernel_rfl
theorem pb_:PR.underlying T.string=some .string:=by kernel_rfl
theorem kS_:PR.underlying T.aQ_=some (.slice T.string):=by kernel_rfl
def tyI (t:TypeId) (k by_:Nat) (z:Value):Prop:=∃i,PR.info? t=some i∧i.size=k∧i.bytes=by_∧i.zero=some z
noncomputable def ts_ (t:TypeId) (k by_:Nat) (z:Value):Bool:=match PR.info? t with
 | some i=>i.size == k && i.bytes == by_ && (match i.zero,z with
  | some (.int k n),.int k' n'=>k == k' && n == n'
  | some (.bool b),.bool b'=>b == b'
  | some (.string s),.string s'=>s.data == s'.data
  | some (.pointer none),.pointer none=>true
  | _,_=>false)
 | none=>false
theorem pf_ {t:TypeId} {k by_:Nat} {z:Value} (h:ts_ t k by_ z=true):tyI t k by_ z:=by
 unfold ts_ at h
 split at h
 ·rename_i i hi
  simp only [Bool.and_eq_true,beq_iff_eq] at h
  obtain ⟨⟨h1,h2⟩,h3⟩:=h
  refine ⟨i,hi,h1,h2,?_⟩
  split at h3
  ·simp only [Bool.and_eq_true,beq_iff_eq] at h3;rename_i h4;rw [h4,h3.1,h3.2]
  ·simp only [beq_iff_eq] at h3;rename_i h4;rw [h4,h3]
  ·rename_i s s' h4
   have:s=s':=by cases s;cases s';simp only [beq_iff_eq] at h3;simp_all
   rw [h4,this]
  ·rename_i h4;rw [h4]
  ·cases h3
 ·cases h
theorem t_u8:tyI T.uint8 1 1 (.int .u8 0):=pf_ (by kernel_rfl)
theorem pn_:tyI T.string 1 16 (.string ⟨#[]⟩):=pf_ (by kernel_rfl)
theorem sH_:tyI T.int 1 8 (.int .i64 0):=pf_ (by kernel_rfl)
theorem app1 {ts e:TypeId} {by_:Nat} {z:Value} (hu:PR.underlying ts=some (.slice e)) (ht:tyI e 1 by_ z) (hz:z.cells=#[z]) (hby:by_≠0) {w:World} {q q2:Option Addr} {l c l2 c2:Nat} {xs ys:List Value} {K:Value→World→Prop}
  (ho:Own e 1 w q c xs) (hl:l=xs.length) (hlc:l≤c) (hs:Sl w q2 ys) (hl2:l2=ys.length) (hone:∀y,y∈ys→oneC y=true) (hroom:(2*(l+l2)+1024)*by_≤281474976710656)
  (hK:∀q' c' w',Own e 1 w' q' c' (xs++ys)→l+l2≤c'→Chg (aR_ q) w w'→(∀a,q'=some a→q=some a∨a=⟨w.heap.size,0,none⟩)→K (.slice q' (l+l2) c') w') :
  rn PR (Builtin.append_ #[ts,ts] ts #[.slice q l c,.slice q2 l2 c2]) K w:=by
 obtain ⟨i,hi,hk,hb,hz'⟩:=ht
 exact cr_ <| eo_ (i:=i) (k:=1) (by_:=by_) hu hu hi hz' hk hb (by rw [hz];rfl) hby ho (by omega) hlc hs (by omega) hone hroom hK
theorem fS_ {w:World} {q q2:Option Addr} {l c l2 c2:Nat} {xs ys:List UInt8} {K:Value→World→Prop}
  (ho:Own T.uint8 1 w q c (xs.map bv)) (hl:l=xs.length) (hlc:l≤c) (hs:Sl w q2 (ys.map bv)) (hl2:l2=ys.length) (hroom:l+l2≤70368744177664)
  (hK:∀q' c' w',Own T.uint8 1 w' q' c' ((xs++ys).map bv)→l+l2≤c'→Chg (aR_ q) w w'→(∀a,q'=some a→q=some a∨a=⟨w.heap.size,0,none⟩)→
   K (.slice q' (l+l2) c') w') :
  rn PR (Builtin.append_ #[T.bi_,T.bi_] T.bi_ #[.slice q l c,.slice q2 l2 c2]) K w:=
 app1 cf_ t_u8 rfl (by decide) ho (by simp [hl]) hlc hs (by simp [hl2]) (λy hy=>by obtain ⟨b,_,rfl⟩:=List.mem_map.1 hy;rfl) (by omega) λq' c' w' h=>hK q' c' w' (by simpa using h)
def sv1 (s:ByteArray):Value:=.string s
theorem Sl.ex {w:World} {q:Option Addr} {xs:List Value} (h:Sl w q xs) (h0:xs≠[]):∃b o,q=some ⟨b,o,none⟩∧∀j:Nat,j<xs.length→w.cell? ⟨b,o+j,none⟩=xs[j]?:=by
 rcases h with h | ⟨b,o,rfl,h⟩
 ·exact absurd h h0
 ·exact ⟨b,o,rfl,λj hj=>by rw [h.cell (v:=xs[j]) (by simp [hj])];simp [hj]⟩
theorem Sl.rd {w:World} {q:Option Addr} {xs:List Value} (h:Sl w q xs) {n:Int} {l:Nat} {v:Value} {K:Addr→Prop} (hl:l=xs.length) (h0:0≤n) (hv:xs[n.toNat]? = some v) (hK:∀a,w.cell? a=some v→K a) :
  Dr q (λa=>0≤n∧n<((l:Nat):Int)∧Dr (some (Addr.add a (n.toNat*1))) K):=by
 subst hl
 have hl:n.toNat<xs.length:=by
  rcases Nat.lt_or_ge n.toNat xs.length with hl | hl
  ·exact hl
  ·simp [List.getElem?_eq_none hl] at hv
 obtain ⟨b,o,rfl,hc⟩:=h.ex (by intro e;subst e;simp at hl)
 refine af_.2 ⟨h0,by omega,af_.2 ?_⟩
 rw [an_,Nat.mul_one]
 exact hK _ (by rw [hc _ hl,hv])
theorem Fr.sl {S:Nat→Prop} {w0 wp w:World} {M:List Nat} {L:List Blk} (h:Fr S w0 wp M L w) (j:Nat) {b:Nat} {cs:List Value} {T:TypeId} {wr:Bool} (hj:L[j]? = some ⟨b,⟨cs⟩,T,wr⟩):Sl w (some ⟨b,0,none⟩) cs:=
 .inr ⟨b,0,rfl,⟨cs⟩,T,(0,0),h.blk j hj,λi _=>by simp⟩
theorem Fr.own {S:Nat→Prop} {w0 wp w:World} {M:List Nat} {L:List Blk} (h:Fr S w0 wp M L w) (j:Nat) {b c:Nat} {cs:List Value} {T:TypeId} {wr:Bool} (hj:L[j]? = some ⟨b,⟨cs⟩,T,wr⟩) (hc:cs.length=c) (hc2:c≤9223372036854775807):Own T 1 w (some ⟨b,0,none⟩) c cs:=
 .inr ⟨b,0,⟨cs⟩,rfl,h.blk j hj,by simp [hc],hc2,by omega,λi _=>by simp⟩
theorem Fr.gr {w0 wp w:World} {M:List Nat} {L:List Blk} (h:Fr (λ_=>False) w0 wp M L w):Grow w0 w:=h.chg
theorem Fr.keep {S:Nat→Prop} {w0 wp w w':World} {M:List Nat} {L:List Blk} (h:Fr S w0 wp M L w) {q:Option Addr} (g:Chg (aR_ q) w w') (ho:∀a,q=some a→∀x,x∈L→x.b≠a.block) (hn:Off (λk=>k<w0.heap.size) q):Fs S w0 L w':=
 h.step g (λx hx ⟨a,ha,e⟩=>ho a ha x hx e) λk hk ⟨a,ha,e⟩=>absurd (e ▸ hk) (hn a ha)
theorem aT_ {α:Type} {l:List α} {k:Nat} (h:k<l.length):l.take (k+1)=l.take k++[l[k]]:=by
 rw [List.take_succ_eq_append_getElem h]
theorem wr1 {k:Nat} (h:k<9223372036854775807):IntKind.wrap .i64 ((k:Int)+1)=((k+1:Nat):Int):=by
 rw [aJ_ (by omega) (by omega)];omega
theorem cR_ (s:ByteArray):s.data.toList.length=s.size:=by rw [Array.length_toList];rfl
theorem qF_ {s:ByteArray} {k:Nat} (h:k<s.data.toList.length):aF_ s k=(s.data.toList[k]).toNat:=by
 unfold aF_
 have h':k<s.size:=by rw [← cR_];exact h
 simp [Array.getD,h']
end Go.Vc
namespace Go.Vc
open Go
def ac_ (n:Nat):List UInt8:=if n<128 then [UInt8.ofNat n] else UInt8.ofNat (128+n%128) :: ac_ (n / 128)
theorem d0_:∀(k n:Nat),n<128 ^ (k+1)→(ac_ n).length≤k+1
 | 0,n,h=>by unfold ac_;rw [if_pos (by simpa using h)];simp
 | k+1,n,h=>by
  unfold ac_
  split
  ·simp
  ·have:=d0_ k (n / 128) (by rw [Nat.div_lt_iff_lt_mul (by omega)];rw [Nat.pow_succ] at h;exact h)
   simp;exact this
def fixed:List UInt8→Nat
 | []=>0
 | c :: r=>c.toNat+256*fixed r
theorem oE_ (l:List UInt8) (c:UInt8):fixed (l++[c])=fixed l+c.toNat*256 ^ l.length:=by
 induction l with
 | nil=>simp [fixed]
 | cons x l ih=>simp only [List.cons_append,fixed,ih,List.length_cons,Nat.pow_succ];rw [Nat.mul_add];rw [show 256*(c.toNat*256 ^ l.length)=c.toNat*(256 ^ l.length*256) by rw [Nat.mul_comm (256 ^ _)];rw [Nat.mul_left_comm]];omega
theorem nV_:∀(l:List UInt8),fixed l<256 ^ l.length
 | []=>by simp [fixed]
 | c :: l=>by
  have:=nV_ l
  have h:=UInt8.toNat_lt c
  simp only [fixed,List.length_cons,Nat.pow_succ]
  omega
def aG_ (i x:Nat):List UInt8→Nat × Nat ⊕ Nat
 | []=>.inr 3
 | c :: r=>
  if 128≤c.toNat then (if i=7 then .inr 4 else aG_ (i+1) (x+c.toNat%128*128 ^ i) r)
  else if c.toNat=0∧0<i then .inr 4 else .inl (x+c.toNat%128*128 ^ i,i+1)
def av_:Nat→Nat→List UInt8
 | 0,_=>[]
 | k+1,x=>UInt8.ofNat (x%256) :: av_ k (x / 256)
theorem aC_ (k x:Nat):(av_ k x).length=k:=by induction k generalizing x with
 | zero=>rfl
 | succ k ih=>simp [av_,ih]
theorem le_ (k:Nat):∀(x i:Nat),i<k→(av_ k x)[i]? = some (UInt8.ofNat (x / 256 ^ i%256)):=by
 induction k with
 | zero=>intro x i h;omega
 | succ k ih=>
  intro x i h
  cases i with
  | zero=>simp [av_]
  | succ i=>
   simp only [av_,List.getElem?_cons_succ]
   rw [ih _ _ (by omega),Nat.div_div_eq_div_mul,Nat.pow_succ,Nat.mul_comm 256]
theorem fO_:∀(k x:Nat),x<256 ^ k→fixed (av_ k x)=x
 | 0,x,h=>by simp at h;subst h;rfl
 | k+1,x,h=>by
  have e:(UInt8.ofNat (x%256)).toNat=x%256:=UInt8.toNat_ofNat_of_lt (by have:UInt8.size=256:=rfl;omega)
  simp only [av_,fixed,e]
  rw [fO_ k (x / 256) (by rw [Nat.div_lt_iff_lt_mul (by omega)];rw [Nat.pow_succ] at h;exact h)]
  omega
theorem gL_:∀(k n i x:Nat) (r:List UInt8),n<128 ^ (k+1)→i+k≤7→(i=0∨0<n)→aG_ i x (ac_ n++r)=.inl (x+n*128 ^ i,i+(ac_ n).length)
 | k,n,i,x,r,h,hi,hn=>by
  have hu:UInt8.size=256:=rfl
  unfold ac_
  by_cases hlt:n<128
  ·rw [if_pos hlt]
   have e:(UInt8.ofNat n).toNat=n:=UInt8.toNat_ofNat_of_lt (by omega)
   simp only [List.cons_append,List.nil_append,aG_,e]
   rw [if_neg (by omega),if_neg (by omega),Nat.mod_eq_of_lt hlt]
   simp
  ·rw [if_neg hlt]
   have e:(UInt8.ofNat (128+n%128)).toNat=128+n%128:=UInt8.toNat_ofNat_of_lt (by omega)
   cases k with
   | zero=>simp at h;omega
   | succ k=>
    simp only [List.cons_append,aG_,e]
    rw [if_pos (by omega),if_neg (by omega)]
    rw [gL_ k (n / 128) (i+1) _ r (by rw [Nat.div_lt_iff_lt_mul (by omega)];rw [Nat.pow_succ] at h;exact h) (by omega) (.inr (by omega))]
    have e1:(128+n%128)%128=n%128:=by omega
    rw [e1,Nat.pow_succ]
    congr 2
    ·have h1:n=n%128+128*(n / 128):=by omega
     have h2:n*128 ^ i=n%128*128 ^ i+128*(n / 128)*128 ^ i:=by
      conv=>lhs;rw [h1]
      rw [Nat.add_mul]
     rw [h2,Nat.add_assoc]
     congr 1
     congr 1
     rw [Nat.mul_comm 128 (n / 128),Nat.mul_assoc,Nat.mul_comm 128]
    ·simp;omega
theorem b7_ {n:Nat} (h:n≤72057594037927935) (r:List UInt8):aG_ 0 0 (ac_ n++r)=.inl (n,(ac_ n).length):=by
 have:=gL_ 7 n 0 0 r (by omega) (by omega) (.inl rfl)
 simpa using this
theorem bK_ (n:Nat):0<(ac_ n).length:=by unfold ac_;split <;> simp
theorem ib_:∀(l:List UInt8) (i x:Nat) {r:Nat × Nat},i≤7→x<128 ^ i→aG_ i x l=.inl r→r.1<128 ^ 8∧i<r.2∧r.2≤i+l.length
 | [],i,x,r,hi,hx,h=>by simp [aG_] at h
 | c :: l,i,x,r,hi,hx,h=>by
  have hm:c.toNat%128*128 ^ i≤127*128 ^ i:=Nat.mul_le_mul_right _ (by omega)
  have hp:128 ^ (i+1)=128 ^ i*128:=Nat.pow_succ ..
  simp only [aG_] at h
  split at h
  ·split at h
   ·cases h
   ·have:=ib_ l (i+1) _ (by omega) (by omega) h
    simp only [List.length_cons]
    exact ⟨this.1,by omega,by omega⟩
  ·split at h
   ·cases h
   ·cases h
    have:128 ^ (i+1)≤128 ^ 8:=Nat.pow_le_pow_right (by omega) (by omega)
    simp only [List.length_cons]
    exact ⟨by omega,by omega,by omega⟩
end Go.Vc
namespace Go.Vc
open Go
def turn (x:Int):Int:=if x < -36028797018963968∨x≥36028797018963968 then 0 else if x<0 then -2*x - 1 else 2*x
def back (x:Int):Int:=if x<0 then 0 else if x%2=1 then -(x / 2) - 1 else x / 2
def pX_ (n:Int):Prop:=-36028797018963968≤n∧n<36028797018963968
theorem qK_ {x:Int} (h:pX_ x):back (turn x)=x:=by
 obtain ⟨h1,h2⟩:=h
 unfold turn
 rw [if_neg (by omega)]
 unfold back
 split <;> (try rw [if_neg (by omega)]) <;> split <;> omega
theorem ph_ (x:Int):0≤turn x:=by unfold turn;split <;> (try split) <;> omega
theorem mu_ (x:Int):turn x≤72057594037927935:=by unfold turn;split <;> (try split) <;> omega
def cat {α:Type} (f:Nat→List α):Nat→List α
 | 0=>[]
 | n+1=>cat f n++f n
theorem dp_ {α:Type} (f:Nat→List α):∀ {n i:Nat},i<n→∃r,cat f n=cat f i++(f i++r)
 | 0,i,h=>by omega
 | n+1,i,h=>by
  by_cases e:i=n
  ·subst e;exact ⟨[],by simp [cat]⟩
  ·obtain ⟨r,hr⟩:=dp_ f (n:=n) (i:=i) (by omega)
   exact ⟨r++f n,by rw [cat,hr];simp⟩
theorem fj_ {α:Type} (f:Nat→List α) (b:Nat):∀(n:Nat),(∀i,i<n→(f i).length≤b)→(cat f n).length≤n*b
 | 0,_=>by simp [cat]
 | n+1,h=>by
  have h1:=fj_ f b n λi hi=>h i (by omega)
  have h2:=h n (by omega)
  simp only [cat,List.length_append,Nat.succ_mul];omega
def gapP (v:Int) (l:List Int) (i:Nat):List UInt8:=if i=0 then ac_ (turn (l.getD 0 0 - v)).toNat else ac_ (l.getD i 0 - l.getD (i - 1) 0 - 1).toNat
def gapL (v:Int) (l:List Int):List UInt8:=ac_ l.length++cat (gapP v l) l.length
def e4_ (nodes:Int) (l:List Int):Prop:=(∀i,i<l.length→0≤l.getD i 0∧l.getD i 0<nodes)∧∀i,i+1<l.length→l.getD i 0<l.getD (i+1) 0
theorem fD_ {nodes:Int} {l:List Int} (h:e4_ nodes l):(l.length:Int)≤max nodes 0:=by
 have:∀i,i<l.length→(i:Int)≤l.getD i 0:=by
  intro i
  induction i with
  | zero=>intro hi;have:=(h.1 0 hi).1;simpa using this
  | succ i ih=>intro hi;have h1:=ih (by omega);have h2:=h.2 i hi;omega
 cases hl:l.length with
 | zero=>omega
 | succ n=>
  have h1:=this n (by omega)
  have h2:=(h.1 n (by omega)).2
  omega
theorem am_ {n:Nat} (h:n≤72057594037927935):(ac_ n).length≤8:=d0_ 7 n (by omega)
theorem hm_ {nodes v:Int} {l:List Int} (hn:nodes≤4096) (hv:0≤v) (hv':v<nodes) (h:e4_ nodes l) {i:Nat} (hi:i<l.length):(gapP v l i).length≤8:=by
 unfold gapP
 split
 ·exact am_ (by have:=mu_ (l.getD 0 0 - v);omega)
 ·have h1:=h.1 i hi
  have h2:=h.1 (i - 1) (by omega)
  exact am_ (by omega)
theorem nT_ {nodes v:Int} {l:List Int} (hn:nodes≤4096) (hv:0≤v) (hv':v<nodes) (h:e4_ nodes l):(gapL v l).length≤40000:=by
 have h1:=fD_ h
 have h2:=fj_ (gapP v l) 8 l.length λi hi=>hm_ hn hv hv' h hi
 have h3:=am_ (n:=l.length) (by omega)
 simp only [gapL,List.length_append];omega
theorem rX_ (v:Int) (l:List Int):0<(gapL v l).length:=by
 have:=bK_ l.length
 simp only [gapL,List.length_append];omega
def aU_ (first:Int) (R:Nat→List Int):Nat→List UInt8:=cat λj=>gapL (first+j) (R j)
def b2_ (first:Int) (R:Nat→List Int):Nat→List UInt8:=cat λk=>ac_ (aU_ first R (k*8)).length
def aB_ (many:Nat):Nat:=(many+7) / 8
def gE_ (first:Int) (R:Nat→List Int) (many:Nat):List UInt8:=ac_ first.toNat++ac_ many++b2_ first R (aB_ many)++aU_ first R many
end Go.Vc
namespace Go.Vc
open Go
theorem tP_ {n:Int} (h0:0≤n) (h1:n≤9223372036854775807) :
  (.int .u8 (IntKind.wrap .u8 (IntKind.wrap .i64 (((BitVec.toNat (BitVec.ofInt 64 (IntKind.wrap .i64 ((BitVec.toNat (BitVec.ofInt 64 n &&& BitVec.ofInt 64 127):Nat):Int))
   ||| BitVec.ofInt 64 128)):Nat):Int))):Value)=bv (UInt8.ofNat (128+n.toNat%128)):=by
 rw [← qG_];congr 1
 obtain ⟨m,rfl⟩:=Int.eq_ofNat_of_zero_le h0
 show IntKind.wrap .u8 (IntKind.wrap .i64 (((BitVec.ofInt 64 (IntKind.wrap .i64 ((BitVec.ofInt 64 (m:Int) &&& BitVec.ofInt 64 127).toNat:Int)) ||| BitVec.ofInt 64 128).toNat:Nat):Int))=_
 have e1:(BitVec.ofInt 64 (m:Int) &&& BitVec.ofInt 64 127).toNat=m%128:=by
  rw [BitVec.toNat_and,dC_ (n:=(m:Int)) (by omega) h1]
  have:(BitVec.ofInt 64 127).toNat=2 ^ 7 - 1:=by decide
  rw [this,Nat.and_two_pow_sub_one_eq_mod];simp
 rw [e1,aJ_ (n:=((m%128:Nat):Int)) (by omega) (by omega)]
 have e2:(BitVec.ofInt 64 ((m%128:Nat):Int) ||| BitVec.ofInt 64 128).toNat=128+m%128:=by
  rw [BitVec.toNat_or,dC_ (n:=((m%128:Nat):Int)) (by omega) (by omega)]
  have h:(BitVec.ofInt 64 128).toNat=2 ^ 7*1:=by decide
  rw [h,Nat.or_comm]
  have h2:=Nat.two_pow_add_eq_or_of_lt (i:=7) (b:=m%128) (by omega) 1
  rw [Int.toNat_natCast,← h2]
 rw [e2,aJ_ (by omega) (by omega),wrap_u8]
 simp
theorem a4_ {w:World} {q:Option Addr} {l c:Nat} {bs:List UInt8} {K:Value→World→Prop} (hs:Sl w q (bs.map bv)) (hl:l=bs.length) (hK:K (.string (str bs)) w) :
  rn PR (convert T.bi_ T.string (.slice q l c)) K w:=cr_ (fo_ cf_ pb_ u_u8 hs hl hK)
theorem Fr.app {w0 wp w1 w2:World} {M:List Nat} {L:List Blk} {q:Option Addr} {n:Nat} (h:Fr (λ_=>False) w0 wp M L w1) (g:Chg (aR_ q) w1 w2) (ho:∀a,q=some a→a.block<n) (hL:∀x,x∈L→n≤x.b)
  (hn:Off (λk=>k<w0.heap.size) q):Fs (λ_=>False) w0 L w2:=
 h.keep g (λa ha x hx e=>by have:=ho a ha;have:=hL x hx;omega) hn
theorem f1_ {n:Int} (h0:0≤n) (h1:n≤9223372036854775807) {w:World} {K:Value→World→Prop}
  (hK:∀w',Grow w w'→K (.string (str (ac_ n.toNat))) w'):aa_ PR F.e7_ ⟨[.int .i64 n]⟩ w K:=by
 have hlen:=d0_ 9 n.toNat (by omega)
 refine e7_ n (λ_=>False) K w ⟨λx q l c m w'=>∃done:List UInt8,0≤x∧x≤9223372036854775807∧m=x.toNat∧done++ac_ x.toNat=ac_ n.toNat∧Own T.uint8 1 w' q c (done.map bv)∧l=done.length∧l≤c∧
  Off (λk=>k<w.heap.size) q,⟨n.toNat,[],h0,h1,rfl,rfl,.nil _ _ _,rfl,Nat.le_refl _,.none _⟩,?_⟩
 rintro x q l c D m w' ⟨done,hx0,hx1,rfl,hdone,ho,hl,hlc,hoff⟩ hF
 have hd:done.length≤10:=by have:=congrArg List.length hdone;simp at this;omega
 refine ⟨λhge=>?_,λhlt=>?_⟩
 ·intro r hr w1 h1
  rw [tP_ hx0 hx1] at h1 ⊢
  have hs1:Sl w1 (some ⟨r,0,none⟩) ([UInt8.ofNat (128+x.toNat%128)].map bv):=h1.sl 0 rfl
  rw [ac_,if_neg (by omega)] at hdone
  refine fS_ (xs:=done) (ys:=[UInt8.ofNat (128+x.toNat%128)]) (ho.grow h1.grow) hl hlc hs1 rfl (by omega) λq' c' w2 ho2 hc2 g2 hq2=>?_
  have e:(Int.fdiv x 128)=x / 128:=Int.fdiv_eq_ediv_of_nonneg _ (by decide)
  refine ⟨_,_,_,rfl,h1.app g2 (λa ha=>ho.lt a ha) (λy hy=>by simp at hy;subst hy;exact hr) hoff,(x.toNat / 128),by omega,done++[UInt8.ofNat (128+x.toNat%128)],by rw [e];omega,by rw [e];omega,by rw [e];omega,?_,ho2,by simp [hl],hc2,
   hoff.next hq2 h1.chg.size⟩
  have e2:(Int.fdiv x 128).toNat=x.toNat / 128:=by rw [e];omega
  rw [e2,← hdone];simp
 ·intro r hr w1 h1
  have hs1:Sl w1 (some ⟨r,0,none⟩) ([UInt8.ofNat x.toNat].map bv):=by
   have:=h1.sl 0 rfl
   rw [wrap_u8,← Int.toNat_of_nonneg hx0,qG_] at this
   exact this
  rw [ac_,if_pos (by omega)] at hdone
  refine fS_ (xs:=done) (ys:=[UInt8.ofNat x.toNat]) (ho.grow h1.grow) hl hlc hs1 rfl (by omega) λq' c' w2 ho2 hc2 g2 hq2=>?_
  have hF2:=h1.app g2 (λa ha=>ho.lt a ha) (λy hy=>by simp at hy;subst hy;exact hr) hoff
  refine ⟨_,_,_,rfl,hF2,?_⟩
  rw [hdone] at ho2
  exact a4_ ho2.sl (by rw [← hdone,hl];simp) ⟨_,rfl,hF2,hK _ hF2.chg⟩
end Go.Vc
namespace Go.Vc
open Go
def E (c:Int):Value:=.iface T.al_ (.int .i64 c)
def F (at_:Int) (v:Value):Value:=.iface T.lZ_ (.agg #[.int .i64 at_,v])
abbrev S0:Nat→Prop:=λ_=>False
theorem cw_ {n:Int} {v:Value} {w:World} {K:Value→World→Prop} (hv:oneC v=true) (hK:K (F n v) w) :
  aa_ PR F.e8_ ⟨[.int .i64 n,v]⟩ w K:=e8_ n v S0 K w ⟨hv,hK⟩
theorem fX_ {s:ByteArray} {n:Int} {w:World} {K:Value→World→Prop} (h1:0≤n∧n≤s.size→K (.bool true) w) (h2:¬(0≤n∧n≤s.size)→K (.bool false) w) :
  aa_ PR F.e6_ ⟨[.string s,.int .i64 n]⟩ w K:=
 e6_ s n S0 K w ⟨λa=>⟨λb=>h1 ⟨a,b⟩,λb=>h2 λc=>b c.2⟩,λa=>h2 λc=>a c.1⟩
theorem a0_ {n:Int} (hn:0≤n∧n≤72057594037927935) {w:World} {K:Value→World→Prop}
  (h1:∀w',Grow w w'→K (.tuple #[.string (str (ac_ n.toNat)),.nilIface]) w'):aa_ PR F.c0_ ⟨[.int .i64 n]⟩ w K:=by
 refine c0_ n S0 K w ⟨λh=>by omega,λh=>⟨λh'=>by omega,λh'=>?_⟩⟩
 exact f1_ (by omega) (by omega) λw' g=>⟨_,rfl,(Fr.init _ w).after g,h1 w' g⟩
theorem qQ_ {n:Int} {w:World} {K:Value→World→Prop} (hK:K (.int .i64 (turn n)) w):aa_ PR F.gb_ ⟨[.int .i64 n]⟩ w K:=by
 unfold turn at hK
 refine gb_ n S0 K w ⟨λh=>?_,λh=>⟨λh'=>?_,λh'=>⟨λh2=>?_,λh2=>?_⟩⟩⟩
 ·rw [if_pos (.inl h)] at hK;exact hK
 ·rw [if_pos (.inr h')] at hK;exact hK
 ·rw [if_neg (by omega),if_pos h2] at hK
  rw [aJ_ (n:=-2*n) (by omega) (by omega),aJ_ (by omega) (by omega)];exact hK
 ·rw [if_neg (by omega),if_neg h2] at hK
  rw [aJ_ (by omega) (by omega)];exact hK
theorem q7_ {n:Int} {w:World} {K:Value→World→Prop} (hn:n≤9223372036854775807) (hK:K (.int .i64 (back n)) w):aa_ PR F.gc_ ⟨[.int .i64 n]⟩ w K:=by
 unfold back at hK
 refine gc_ n S0 K w ⟨λh=>?_,λh=>?_⟩
 ·rw [if_pos h] at hK;exact hK
 ·rw [if_neg h] at hK
  rw [Int.tmod_eq_emod_of_nonneg (by omega),Int.tdiv_eq_ediv_of_nonneg (by omega)]
  rw [aJ_ (n:=n / 2) (by omega) (by omega),aJ_ (n:=0 - n / 2) (by omega) (by omega),aJ_ (n:=0 - n / 2 - 1) (by omega) (by omega)]
  refine ⟨λh2=>?_,λh2=>?_⟩
  ·rw [if_pos h2] at hK
   rw [show 0 - n / 2 - 1 = -(n / 2) - 1 by omega];exact hK
  ·rw [if_neg h2] at hK;exact hK
theorem i4_ {n:Int} (hn:pX_ n) {w:World} {K:Value→World→Prop}
  (h1:∀w',Grow w w'→K (.tuple #[.string (str (ac_ (turn n).toNat)),.nilIface]) w'):aa_ PR F.cE_ ⟨[.int .i64 n]⟩ w K:=by
 obtain ⟨a,b⟩:=hn
 have t0:=ph_ n
 have t1:=mu_ n
 refine cE_ n S0 K w ⟨λh=>by omega,λh=>⟨λh'=>by omega,λh'=>?_⟩⟩
 exact qQ_ ⟨_,rfl,.init _ w,f1_ t0 (by omega) λw' g=>⟨_,rfl,(Fr.init _ w).after g,h1 w' g⟩⟩
theorem sr_ {x y:Int} {k:Nat} (hx0:0≤x) (hx:x<2 ^ k) (hy0:0≤y) (hy:y*2 ^ k+2 ^ k≤9223372036854775808) :
  IntKind.wrap .i64 (BitVec.toNat (BitVec.ofInt (64) x ||| BitVec.ofInt (64) (IntKind.wrap .i64 (y*2 ^ k))))=x+y*2 ^ k:=by
 obtain ⟨a,rfl⟩:=Int.eq_ofNat_of_zero_le hx0
 obtain ⟨b,rfl⟩:=Int.eq_ofNat_of_zero_le hy0
 have ha:a<2 ^ k:=by
  have:((a:Nat):Int)<((2 ^ k:Nat):Int):=by simpa using hx
  omega
 have hz:0≤(b:Int)*2 ^ k:=Int.mul_nonneg (by omega) (Int.pow_nonneg (by decide))
 have hk0:(0:Int)<2 ^ k:=Int.pow_pos (by decide)
 have e:((b:Int)*2 ^ k)=((b*2 ^ k:Nat):Int):=by simp
 rw [aJ_ (n:=(b:Int)*2 ^ k) (by omega) (by omega),e]
 rw [e] at hy
 have hp:((2 ^ k:Nat):Int)=2 ^ k:=by simp
 show IntKind.wrap .i64 ((BitVec.ofInt 64 (a:Int) ||| BitVec.ofInt 64 ((b*2 ^ k:Nat):Int)).toNat:Int)=_
 rw [BitVec.toNat_or,dC_ (n:=(a:Int)) (by omega) (by omega),dC_ (n:=((b*2 ^ k:Nat):Int)) (by omega) (by omega),Int.toNat_natCast,Int.toNat_natCast,Nat.or_comm,Nat.mul_comm b,
  ← Nat.two_pow_add_eq_or_of_lt (by omega) b]
 rw [Nat.mul_comm b] at hy
 rw [aJ_ (by omega) (by omega)]
 simp;omega
theorem low7 (n:Nat) (h:n<256):IntKind.wrap .i64 (IntKind.wrap .u8 (BitVec.toNat (BitVec.ofInt (8) (n:Int) &&& BitVec.ofInt (8) 127)))=((n%128:Nat):Int):=by
 show IntKind.wrap .i64 (IntKind.wrap .u8 ((BitVec.ofInt 8 (n:Int) &&& BitVec.ofInt 8 127).toNat:Int))=_
 have e1:(BitVec.ofInt 8 (n:Int) &&& BitVec.ofInt 8 127).toNat=n%128:=by
  rw [BitVec.toNat_and]
  have:(BitVec.ofInt 8 127).toNat=2 ^ 7 - 1:=by decide
  rw [this,Nat.and_two_pow_sub_one_eq_mod]
  have:(BitVec.ofInt 8 (n:Int)).toNat=n:=by simp;omega
  rw [this]
 rw [e1,wrap_u8,aJ_ (by omega) (by omega)]
 omega
theorem lT_ (s:ByteArray) (i:Nat):aF_ s i<256:=by unfold aF_;exact UInt8.toNat_lt _
theorem iv_ {s:ByteArray} {i:Nat} (h:i<s.size):s.data.toList[i]? = some (UInt8.ofNat (aF_ s i)):=by
 have hd:i<s.data.size:=h
 simp only [aF_,Array.getD,dif_pos hd,Array.getElem?_toList]
 rw [Array.getElem?_eq_getElem hd]
 simp
def okAt (s:ByteArray) (n:Int):Prop:=0≤n∧n≤s.size
def jT_ (s:ByteArray) (at_:Int):Nat × Nat ⊕ Nat→Value
 | .inl (x,k)=>.tuple #[.int .i64 x,.int .i64 (at_+k),.nilIface]
 | .inr 3=>.tuple #[.int .i64 0,.int .i64 at_,F s.size (E 3)]
 | .inr c=>.tuple #[.int .i64 0,.int .i64 at_,F at_ (E c)]
theorem ez_ {s:ByteArray} {at_:Int} {w:World} {K:Value→World→Prop} (hs:s.size≤4611686018427387904)
  (h1:¬okAt s at_→K (.tuple #[.int .i64 0,.int .i64 at_,F at_ (E 1)]) w)
  (h2:okAt s at_→K (jT_ s at_ (aG_ 0 0 (s.data.toList.drop at_.toNat))) w) :
  aa_ PR F.bk_ ⟨[.string s,.int .i64 at_]⟩ w K:=by
 refine bk_ s at_ S0 K w ?_
 refine fX_ (λha=>?_) (λha=>?_)
 ·refine ⟨true,rfl,λ_=>⟨.init _ w,?_⟩,λh=>by cases h⟩
  have ha':okAt s at_:=ha
  obtain ⟨a0,a1⟩:=ha
  have h2:=h2 ha'
  rw [aJ_ (n:=(s.size:Int) - at_) (by omega) (by omega)]
  refine ⟨λx i m w'=>w'=w∧0≤i∧i≤7∧i≤s.size - at_∧m=(s.size - at_ - i).toNat∧0≤x∧x<128 ^ i.toNat∧
   aG_ 0 0 (s.data.toList.drop at_.toNat)=aG_ i.toNat x.toNat (s.data.toList.drop (at_+i).toNat),⟨_,rfl,by omega,by omega,by omega,rfl,by omega,by simp,by simp⟩,?_⟩
  rintro x i D m w' ⟨rfl,hi0,hi7,hi1,rfl,hx0,hx,hg⟩ hF
  rw [hg] at h2
  refine ⟨λhlt=>?_,λhge=>?_⟩
  ·rw [aJ_ (n:=at_+i) (by omega) (by omega),aJ_ (n:=7*i) (by omega) (by omega)]
   have hb:=lT_ s (at_+i).toNat
   have hl:(at_+i).toNat<s.size:=by omega
   have hd:s.data.toList.drop (at_+i).toNat=UInt8.ofNat (aF_ s (at_+i).toNat) :: s.data.toList.drop (at_+(i+1)).toNat:=by
    have h:=iv_ hl
    have hlen:(at_+i).toNat<s.data.toList.length:=by rw [cR_];exact hl
    rw [List.drop_eq_getElem_cons hlen]
    rw [List.getElem?_eq_getElem hlen] at h
    rw [Option.some.inj h]
    congr 2
    omega
   rw [hd] at h2 hg
   generalize hc:aF_ s (at_+i).toNat=c at hb h2 hg ⊢
   have e3:(UInt8.ofNat c).toNat=c:=UInt8.toNat_ofNat_of_lt hb
   simp only [aG_,e3] at h2 hg
   have hmin:min (Int.toNat (7*i)) 64=7*i.toNat:=by show min (Int.toNat (7*i)) 64=_;omega
   have hpow:(2:Int) ^ (7*i.toNat)=((128 ^ i.toNat:Nat):Int):=by rw [Int.pow_mul];simp
   have hple:128 ^ i.toNat≤562949953421312:=by
    have:128 ^ i.toNat≤128 ^ 7:=Nat.pow_le_pow_right (by omega) (by omega)
    simpa using this
   have hxn:x<((128 ^ i.toNat:Nat):Int):=by simpa using hx
   have hm:c%128*128 ^ i.toNat≤127*128 ^ i.toNat:=Nat.mul_le_mul_right _ (by omega)
   have hor:IntKind.wrap .i64 (BitVec.toNat (BitVec.ofInt 64 x ||| BitVec.ofInt 64 (IntKind.wrap .i64 (IntKind.wrap .i64 (IntKind.wrap .u8 (BitVec.toNat (BitVec.ofInt 8 (c:Int) &&& BitVec.ofInt 8 127)))*2 ^ (min (Int.toNat (7*i)) 64))))) =
     ((x.toNat+c%128*128 ^ i.toNat:Nat):Int):=by
    rw [low7 c hb,hmin,sr_ hx0 (by rw [hpow];exact hxn) (by omega) ?_,hpow]
    ·simp;omega
    ·rw [hpow]
     have:((c%128:Nat):Int)*((128 ^ i.toNat:Nat):Int)=((c%128*128 ^ i.toNat:Nat):Int):=by simp
     rw [this];omega
   rw [hor]
   refine ⟨by omega,by omega,by omega,λhge=>?_,λhlt'=>?_⟩
   ·rw [if_pos (by omega)] at h2 hg
    refine ⟨λhi=>?_,λhi=>⟨λ_=>?_,λh=>absurd hge h⟩⟩
    ·rw [if_pos (by omega)] at h2
     exact cw_ rfl ⟨_,rfl,.init _ _,h2⟩
    ·rw [if_neg (by omega)] at hg
     refine ⟨_,?_,rfl,by rw [aJ_ (n:=i+1) (by omega) (by omega)];omega,by rw [aJ_ (n:=i+1) (by omega) (by omega)];omega,by rw [aJ_ (n:=i+1) (by omega) (by omega)];omega,rfl,by omega,?_,?_⟩
     all_goals rw [aJ_ (n:=i+1) (by omega) (by omega)]
     ·omega
     ·have e1:(i+1).toNat=i.toNat+1:=by omega
      rw [e1,Int.pow_succ]
      have:((128 ^ i.toNat:Nat):Int)=128 ^ i.toNat:=by simp
      rw [← this];omega
     ·have e1:(i+1).toNat=i.toNat+1:=by omega
      rw [e1,Int.toNat_natCast];exact hg
   ·rw [if_neg (by omega)] at h2
    refine ⟨λh=>absurd h hlt',λ_=>⟨λh0=>⟨λhi=>?_,λhi=>?_⟩,λh0=>?_⟩⟩
    ·rw [if_pos ⟨by omega,by omega⟩] at h2
     exact cw_ rfl ⟨_,rfl,.init _ _,h2⟩
    all_goals
     rw [if_neg (by omega)] at h2
     rw [aJ_ (n:=at_+i+1) (by omega) (by omega)]
     have e4:at_+i+1=at_+((i.toNat+1:Nat):Int):=by omega
     rw [e4]
     exact h2
  ·have e:at_+i=s.size:=by omega
   have hnil:s.data.toList.drop (at_+i).toNat=[]:=by
    rw [List.drop_eq_nil_iff,e,cR_];omega
   rw [hnil] at h2
   exact cw_ rfl ⟨_,rfl,.init _ _,h2⟩
 ·exact ⟨false,rfl,λh=>by (cases h),λ_=>⟨.init _ w,cw_ rfl ⟨_,rfl,.init _ w,h1 ha⟩⟩⟩
theorem nc_ {s:ByteArray} {at_:Int} {w:World} {K:Value→World→Prop} (hs:s.size≤4611686018427387904) (ha:okAt s at_)
  (h1:∀n k,aG_ 0 0 (s.data.toList.drop at_.toNat)=.inl (n,k)→K (.tuple #[.int .i64 (back n),.int .i64 (at_+k),.nilIface]) w)
  (h2:∀c,aG_ 0 0 (s.data.toList.drop at_.toNat)=.inr c→∀v t x,v=.iface t x→K (.tuple #[.int .i64 0,.int .i64 at_,v]) w) :
  aa_ PR F.cP_ ⟨[.string s,.int .i64 at_]⟩ w K:=by
 refine cP_ s at_ S0 K w ?_
 refine ez_ hs (λh=>absurd ha h) λ_=>?_
 cases hg:aG_ 0 0 (s.data.toList.drop at_.toNat) with
 | inr c=>
  have e:∃v t x,jT_ s at_ (.inr c)=.tuple #[.int .i64 0,.int .i64 at_,v]∧v=.iface t x:=by
   unfold jT_;split
   ·rename_i h;cases h
   ·exact ⟨_,_,_,rfl,rfl⟩
   ·exact ⟨_,_,_,rfl,rfl⟩
  obtain ⟨v,t,x,e,hv⟩:=e
  rw [e]
  exact ⟨_,_,_,rfl,.init _ w,λh=>by (rw [hv] at h;cases h),λt' x' h=>h2 c hg v t x hv,.inr ⟨t,x,hv⟩⟩
 | inl r=>
  obtain ⟨n,k⟩:=r
  have hb:=ib_ _ 0 0 (by omega) (by simp) hg
  have h8:(128:Nat) ^ 8=72057594037927936:=by decide
  refine ⟨n,at_+k,.nilIface,rfl,.init _ w,λ_=>?_,(λt x h=>by cases h),.inl rfl⟩
  exact q7_ (by omega) ⟨_,rfl,.init _ w,h1 n k hg⟩
end Go.Vc
namespace Go.Vc
open Go
section
variable {S:Nat→Prop} {w0 wp w:World} {M:List Nat} {L:List Blk}
theorem Fr.mod {b:Nat} {cs cs':Array Value} {T:TypeId} (h:Fr S w0 wp M (⟨b,cs,T,true⟩ :: L) w) {w':World} {S':Nat→Prop} (g:Chg S' w w') (hb:w'.heap[b]? = some (.cells cs' T (0,0)))
  (hn:∀x,x∈L→¬S' x.b) (hs:∀k,k<w0.heap.size→S' k→S k):Fs S w0 (⟨b,cs',T,true⟩ :: L) w':=
 ⟨h.chg.trans g hs,.refl _ _,λx hx=>by
  rcases List.mem_cons.1 hx with rfl | hx
  ·exact hb
  ·exact g.get (h.loc x (List.mem_cons_of_mem _ hx)) (hn x hx),h.nodup,λx hx hw=>by
  rcases List.mem_cons.1 hx with rfl | hx
  ·exact h.new (⟨b,cs,T,true⟩:Blk) List.mem_cons_self hw
  ·exact h.new x (List.mem_cons_of_mem _ hx) hw⟩
theorem Fr.mod1 {b:Nat} {cs cs':Array Value} {T:TypeId} (h:Fr S w0 wp M (⟨b,cs,T,true⟩ :: L) w) {w':World} (g:Chg (· = b) w w') (hb:w'.heap[b]? = some (.cells cs' T (0,0))):Fs S w0 (⟨b,cs',T,true⟩ :: L) w':=
 h.mod g hb (λx hx e=>by
  have:=h.nodup
  rw [List.map_cons,List.nodup_cons] at this
  exact this.1 (List.mem_map.2 ⟨x,hx,e⟩)) λk hk e=>by
  have e':k=b:=e
  rcases h.new _ List.mem_cons_self rfl with h1 | h1
  ·rw [e'];exact h1
  ·simp only [] at h1;omega
theorem Fr.app2 (h:Fr S w0 wp M L w) {w':World} {q:Option Addr} (g:Chg (aR_ q) w w') (m n:Nat) (ho:Off (λk=>k<m) q) (hq:∀a,q=some a→a.block<n) (hL:∀x,x∈L→x.b<m∨n≤x.b) (hm:w0.heap.size≤m):Fs S w0 L w':=
 h.step g (λx hx ⟨a,ha,e⟩=>by
  have h1:=hq a ha;have h2:¬a.block<m:=ho a ha;have h3:=hL x hx;omega) λk hk ⟨a,ha,e⟩=>by
  have h2:¬a.block<m:=ho a ha
  omega
end
theorem Off.mono {n m:Nat} {q:Option Addr} (h:Off (λk=>k<m) q) (hm:n≤m):Off (λk=>k<n) q:=λa ha hlt=>h a ha (Nat.lt_of_lt_of_le hlt hm)
theorem Off.le {m:Nat} {q:Option Addr} (h:Off (λk=>k<m) q):∀a,q=some a→m≤a.block:=λa ha=>Nat.le_of_not_lt (h a ha)
def iv (n:Int):Value:=.int .i64 n
theorem pc_:PR.underlying T.dQ_=some (.slice T.int):=by kernel_rfl
theorem gP_ {w:World} {q q2:Option Addr} {l c l2 c2:Nat} {xs ys:List Int} {K:Value→World→Prop}
  (ho:Own T.int 1 w q c (xs.map iv)) (hl:l=xs.length) (hlc:l≤c) (hs:Sl w q2 (ys.map iv)) (hl2:l2=ys.length) (hroom:l+l2≤4398046511104)
  (hK:∀q' c' w',Own T.int 1 w' q' c' ((xs++ys).map iv)→l+l2≤c'→Chg (aR_ q) w w'→(∀a,q'=some a→q=some a∨a=⟨w.heap.size,0,none⟩)→K (.slice q' (l+l2) c') w') :
  rn PR (Builtin.append_ #[T.dQ_,T.dQ_] T.dQ_ #[.slice q l c,.slice q2 l2 c2]) K w:=
 app1 pc_ sH_ rfl (by decide) ho (by simp [hl]) hlc hs (by simp [hl2]) (λy hy=>by obtain ⟨b,_,rfl⟩:=List.mem_map.1 hy;rfl) (by omega) λq' c' w' h=>hK q' c' w' (by simpa using h)
theorem h8_ {l:List Int} {k:Nat} (h:k<l.length):(l.map iv)[k]? = some (iv (l.getD k 0)):=by simp [h]
theorem kt_ {l:List Int} {k:Nat} (h:k<l.length):l.getD k 0=l[k]:=by simp [h]
theorem w64 {n:Int} (h0 : -9223372036854775808≤n) (h1:n≤9223372036854775807):IntKind.wrap .i64 n=n:=aJ_ h0 h1
theorem wrP {k:Nat} (h:0<k) (h':k<9223372036854775807):IntKind.wrap .i64 ((k:Int) - 1)=((k - 1:Nat):Int):=by
 rw [aJ_ (by omega) (by omega)];omega
end Go.Vc
namespace Go.Vc
open Go
section
variable {P:Program}
theorem eO_ {ts xt t e:TypeId} {i:TypeInfo} {z:Value} (hu:P.underlying ts=some (.slice e)) (hx:P.underlying xt=some (.slice e)) (hi:P.info? e=some i) (hz:i.zero=some z)
  (hzs:z.cells.size=i.size) (hby:i.bytes≠0) {w:World} {q q2:Option Addr} {l c l2 c2:Nat} {xs ys:List Value} {K:Value→World→Prop}
  (ho:Own e i.size w q c xs) (hl:xs.length=l*i.size) (hlc:l≤c) (hs:Sl w q2 ys) (hl2:ys.length=l2*i.size) (hone:∀y,y∈ys→oneC y=true)
  (hroom:(2*(l+l2)+1024)*i.bytes≤281474976710656)
  (hK:∀q' c' w',Own e i.size w' q' c' (xs++ys)→l+l2≤c'→Chg (aR_ q) w w'→(∀a,q'=some a→q=some a∨a=⟨w.heap.size,0,Option.none⟩)→(c<l+l2∨ys=[]→Grow w w')→
   K (.slice q' (l+l2) c') w') :
  sv P (Builtin.append_ #[ts,xt] t ⟨[.slice q l c,.slice q2 l2 c2]⟩) K w:=by
 have ld:∀(w:World) (q:Option Addr) (n c:Nat) (xs:List Value) (K:Array Value→World→Prop),Sl w q xs→xs.length=n*i.size→K xs.toArray w→sv P (Builtin.firstCells i.size n (.slice q n c)) K w:=by
  intro w q n c xs K h hl hK
  rcases h with rfl | ⟨b,o,rfl,h⟩
  ·cases q with
   | none=>exact hK
   | some a=>
    have:n*i.size=0:=by simpa using hl.symm
    simp only [Builtin.firstCells,this]
    exact hK
  ·simp only [Builtin.firstCells]
   exact cb_ (by omega) h hK
 unfold Builtin.append_
 simp only [List.getElem?_toArray,List.getElem?_cons_zero,List.getElem?_cons_succ,aH_,as_ hu,as_ hx,bT_ hi,a1_,Bool.false_eq_true,if_false,Builtin.lenOf,
  ht_,bD_ hi,bJ_ hi hz,Bool.not_false,if_true,false_or]
 have ld2:=λ(w:World) (K:Array Value→World→Prop) (h:Sl w q2 ys)=>ld w q2 l2 c2 ys K h hl2
 by_cases hin:l+l2≤c
 ·rw [if_pos hin]
  refine ld2 _ _ hs ?_
  rcases ho with ⟨rfl,rfl,rfl⟩ | ⟨b,o,cs,rfl,hb,h1,h1',h2,h3⟩
  ·have:l2=0:=by omega
   subst this
   have:ys=[]:=by simpa using hl2
   subst this
   have:l=0:=by omega
   subst this
   exact hK none 0 w (.nil _ _ _) (by omega) (.refl _ _) (λa h=>by cases h) (λ_=>.refl _ _)
  ·have hle:(l+l2)*i.size≤c*i.size:=Nat.mul_le_mul_right _ hin
   rw [Nat.add_mul] at hle
   simp only [aH_,a1_,an_]
   by_cases hy:ys=[]
   ·subst hy
    have hl20:l2*i.size=0:=by simpa using hl2.symm
    exact hK _ c w (.inr ⟨b,o,cs,rfl,hb,by omega,h1',by simpa using h2,λj hj=>by simpa using h3 j (by simpa using hj)⟩) hin (.refl _ _) (λa h=>.inl h) (λ_=>.refl _ _)
   refine bS_ (o:=o+l*i.size) ys 0 cs w hb (by omega) hone λw' cs' hb' hs' hout hin' hsz g=>?_
   refine hK _ c w' (.inr ⟨b,o,cs',rfl,hb',by omega,h1',by simp;omega,λj hj=>?_⟩) hin (g.mono λk _ h=>⟨_,rfl,h⟩) (λa h=>.inl h) (λh=>by rcases h with h | h;omega;exact absurd h hy)
   simp only [List.length_append] at hj
   by_cases hjl:j<xs.length
   ·rw [hout (o+j) (by omega),h3 j hjl,List.getElem?_append_left hjl]
   ·have:=hin' (j - xs.length) (by omega)
    rw [show o+l*i.size+0+(j - xs.length)=o+j by omega] at this
    rw [this,List.getElem?_append_right (by omega)]
 ·rw [if_neg hin]
  have hcap:=gd_ (n:=l+l2) (c:=c) (by omega)
  have hb1:¬Builtin.nextslicecap (l+l2) c*i.bytes>2 ^ 48:=by
   have h1:Builtin.nextslicecap (l+l2) c*i.bytes≤(2*(l+l2)+1024)*i.bytes:=Nat.mul_le_mul_right _ hcap
   omega
  rw [if_neg (λh=>hby h.2),if_neg hb1,hu_]
  unfold ChV
  rw [if_neg (by simp [Question.forced])]
  simp only [c9_]
  have hcut:l+l2≤(Question.appendCap (l+l2) c e).cut (w.tape w.drawn (Question.appendCap (l+l2) c e)):=by
   simp only [Question.cut];omega
  have hsmall:l+l2≤9223372036854775807:=by
   have h1:(2*(l+l2)+1024)*1≤(2*(l+l2)+1024)*i.bytes:=Nat.mul_le_mul_left _ (by omega)
   omega
  have hcut2:(Question.appendCap (l+l2) c e).cut (w.tape w.drawn (Question.appendCap (l+l2) c e))≤9223372036854775807:=by
   simp only [Question.cut]
   have:w.tape w.drawn (Question.appendCap (l+l2) c e)%(2 ^ 63 - (l+l2))<2 ^ 63 - (l+l2):=Nat.mod_lt _ (by omega)
   omega
  generalize (Question.appendCap (l+l2) c e).cut (w.tape w.drawn (Question.appendCap (l+l2) c e))=n at hcut hcut2 ⊢
  refine ld _ _ _ _ xs _ (ho.sl.grow (Chg.drew w)) hl ?_
  refine ld2 _ _ (hs.grow (Chg.drew w)) ?_
  unfold newRow
  rw [aH_,dX_]
  refine newV λb w1 hb hb1 hs1 g1=>?_
  rw [a1_]
  have hb':b=w.heap.size:=hb
  have hlt:¬b<w.heap.size:=by omega
  refine hK (some ⟨b,0,none⟩) n w1 (.inr ⟨b,0,_,rfl,hb1,?_,hcut2,?_,λj hj=>?_⟩) hcut ((Chg.drew w).trans g1).chg ?_ ?_
  ·simp only [Array.size_append,cT_,hzs,List.size_toArray,hl,hl2,Nat.zero_add]
   rw [← Nat.add_mul,← Nat.add_mul]
   congr 1;omega
  ·simp only [List.length_append,hl,hl2,← Nat.add_mul]
   exact Nat.mul_le_mul_right _ hcut
  ·simp only [Nat.zero_add]
   rw [Array.getElem?_append_left (by simpa using hj)]
   simp
  ·rintro a h;cases h;rw [hb'];exact .inr rfl
  ·intro _;exact (Chg.drew w).trans g1
end
end Go.Vc
