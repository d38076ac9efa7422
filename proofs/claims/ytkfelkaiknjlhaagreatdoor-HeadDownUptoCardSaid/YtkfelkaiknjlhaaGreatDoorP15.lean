/-
  A part of the proof of the statement HeadDownUptoCardSaid, in Lean: MirD2, Hq3, RoD. By an AI agent.
-/
import Derived.Test.YtkfelkaiknjlhaaGreatDoorP02
import Derived.Test.YtkfelkaiknjlhaaGreatDoorP07
import Derived.Test.YtkfelkaiknjlhaaGreatDoorP14
import Derived.Test.YtkfelkaiknjlhaaGreatDoorP10
set_option linter.unusedSimpArgs false
set_option linter.unusedVariables false
set_option maxRecDepth 1000000
namespace Go.Vc
open Go
theorem bu_ (m0:Int) (y1:Option Addr) (ly1:Nat) (cy1:Nat) (m2:Int) (m3:Int) (y4:Option Addr) (ly4:Nat) (cy4:Nat) (m5:Int) (m6:Int) (m7:Int) (z8:ByteArray) (y9:Option Addr) (ly9:Nat) (cy9:Nat) (z10:ByteArray) (y11:Option Addr) (ly11:Nat) (cy11:Nat) (m12:Int) (S:SP) (K:KP) (w:World) (h:∀l0,w.heap.size≤l0→∀w0,Fr S w w [] [⟨l0,#[Iv m2,Iv m3,.slice y4 ly4 cy4,Iv m5,Iv m6,Iv m7,.string z8,.slice y9 ly9 cy9,.string z10,.slice y11 ly11 cy11,Iv m12],46,true⟩] w0→let B0:Blk:=⟨l0,#[Iv m2,Iv m3,.slice y4 ly4 cy4,Iv m5,Iv m6,Iv m7,.string z8,.slice y9 ly9 cy9,.string z10,.slice y11 ly11 cy11,Iv m12],46,true⟩;aa_ PR 6 #[] w0 λv0 w1=>∃b0,v0=.bool b0∧(b0=true→Fs S w [B0] w1∧∃I0:World→Prop,((∀l1,w1.heap.size≤l1→(∀w2,Fr S w w1 [] [B0,⟨l1,#[],46,true⟩] w2→rn PR (Builtin.append_ #[22,22] 22 #[.slice (some (⟨l1,0,none⟩)) 0 0,.slice y1 ly1 cy1]) (λv1 w3=>∃q0 l2 l3,v1=.slice q0 l2 l3∧Fs S w [B0,⟨l1,#[],46,true⟩] w3∧∀l4,w3.heap.size≤l4→∀w4,Fr S w w3 [] [B0,⟨l1,#[],46,true⟩,⟨l4,#[Iv m2,Iv m3,.slice y4 ly4 cy4,Iv m5,Iv m6,Iv m7,.string z8,.slice y9 ly9 cy9,.string z10,.slice y11 ly11 cy11,Iv m12],46,true⟩] w4→let B1:Blk:=⟨l4,#[Iv m2,Iv m3,.slice y4 ly4 cy4,Iv m5,Iv m6,Iv m7,.string z8,.slice y9 ly9 cy9,.string z10,.slice y11 ly11 cy11,Iv m12],46,true⟩;rn PR (Builtin.append_ #[22,22] 22 #[.slice q0 l2 l3,.slice (some (⟨l4,0,none⟩)) 1 1]) (λv2 w5=>∃q1 l5 l6,v2=.slice q1 l5 l6∧Fs S w [B0,⟨l1,#[],46,true⟩,B1] w5∧aa_ PR 7 #[.slice q1 l5 l6] w5 λv3 w6=>∃b1,v3=.bool b1∧(b1=true→Fs S w [B0,⟨l1,#[],46,true⟩,B1] w6∧K (.bool true) w6)∧(b1=false→Fs S w [B0,⟨l1,#[],46,true⟩,B1] w6∧I0 w6)) w4) w2)∧∀l7,w1.heap.size≤l7→∀w7,Fr S w w1 [] [B0,⟨l1,#[],46,true⟩,⟨l7,#[Iv m2,Iv m3,.slice y4 ly4 cy4,Iv m5,Iv m6,Iv m7,.string z8,.slice y9 ly9 cy9,.string z10,.slice y11 ly11 cy11,Iv m12],46,true⟩] w7→let B2:Blk:=⟨l7,#[Iv m2,Iv m3,.slice y4 ly4 cy4,Iv m5,Iv m6,Iv m7,.string z8,.slice y9 ly9 cy9,.string z10,.slice y11 ly11 cy11,Iv m12],46,true⟩;rn PR (Builtin.append_ #[22,22] 22 #[.slice (some (⟨l1,0,none⟩)) 0 0,.slice y1 ly1 cy1]) (λv4 w8=>∃q2 l8 l9,v4=.slice q2 l8 l9∧Fs S w [B0,⟨l1,#[],46,true⟩,B2] w8∧rn PR (Builtin.append_ #[22,22] 22 #[.slice q2 l8 l9,.slice (some (⟨l7,0,none⟩)) 1 1]) (λv5 w9=>∃q3 l10 l11,v5=.slice q3 l10 l11∧Fs S w [B0,⟨l1,#[],46,true⟩,B2] w9∧aa_ PR 7 #[.slice q3 l10 l11] w9 λv6 w10=>∃b2,v6=.bool b2∧(b2=true→Fs S w [B0,⟨l1,#[],46,true⟩,B2] w10∧K (.bool true) w10)∧(b2=false→Fs S w [B0,⟨l1,#[],46,true⟩,B2] w10∧I0 w10)) w8) w7)∧∀l12,w1.heap.size≤l12→∀l13,w1.heap.size≤l13→∀w11,Fr S w w1 [] [B0,⟨l12,#[Iv m2,Iv m3,.slice y4 ly4 cy4,Iv m5,Iv m6,Iv m7,.string z8,.slice y9 ly9 cy9,.string z10,.slice y11 ly11 cy11,Iv m12],46,true⟩,⟨l13,#[],46,true⟩] w11→let B3:Blk:=⟨l12,#[Iv m2,Iv m3,.slice y4 ly4 cy4,Iv m5,Iv m6,Iv m7,.string z8,.slice y9 ly9 cy9,.string z10,.slice y11 ly11 cy11,Iv m12],46,true⟩;rn PR (Builtin.append_ #[22,22] 22 #[.slice (some (⟨l13,0,none⟩)) 0 0,.slice y1 ly1 cy1]) (λv7 w12=>∃q4 l14 l15,v7=.slice q4 l14 l15∧Fs S w [B0,B3,⟨l13,#[],46,true⟩] w12∧rn PR (Builtin.append_ #[22,22] 22 #[.slice q4 l14 l15,.slice (some (⟨l12,0,none⟩)) 1 1]) (λv8 w13=>∃q5 l16 l17,v8=.slice q5 l16 l17∧Fs S w [B0,B3,⟨l13,#[],46,true⟩] w13∧aa_ PR 7 #[.slice q5 l16 l17] w13 λv9 w14=>∃b3,v9=.bool b3∧(b3=true→Fs S w [B0,B3,⟨l13,#[],46,true⟩] w14∧K (.bool true) w14)∧(b3=false→Fs S w [B0,B3,⟨l13,#[],46,true⟩] w14∧I0 w14)) w12) w11)∧∀D0:Nat→Value,∀w15,I0 w15→Fs S w [B0] w15→aa_ PR 8 #[Iv m0] w15 λv10 w16=>∃q6 v11,v10=.tuple #[.pointer q6,v11]∧Fs S w [B0] w16∧(m0<1→(q6=none→aa_ PR 14 #[v11] w16 λv12 w17=>∃n0,v12=Iv n0∧Fs S w [] w17∧(n0=1→K (.bool true) w17)∧(¬(n0=1)→K (.bool false) w17))∧∀a0:Addr,q6=some a0→K (.bool false) w16)∧(¬(m0<1)→(m0>4→(q6=none→aa_ PR 14 #[v11] w16 λv13 w18=>∃n1,v13=Iv n1∧Fs S w [] w18∧(n1=1→K (.bool true) w18)∧(¬(n1=1)→K (.bool false) w18))∧∀a1:Addr,q6=some a1→K (.bool false) w16)∧(¬(m0>4)→(v11=.nilIface→∃I1:Int→Nat→World→Prop,(∃l18,I1 0 l18 w16)∧∀n2,∀D1:Nat→Value,∀l19 w19,I1 n2 l19 w19→Fs S w [B0] w19→(n2<(ly1:Int)→Dr y1 λa2=>(0:Int)≤n2∧n2<(ly1:Int)∧Dr (some (Addr.add a2 (Int.toNat n2*11))) λa3=>∃n3,World.cell? w19 (Addr.add a3 0)=some (Iv n3)∧∃n4,World.cell? w19 (Addr.add a3 1)=some (Iv n4)∧∃q7 l20 l21,World.cell? w19 (Addr.add a3 2)=some (.slice q7 l20 l21)∧∃n5,World.cell? w19 (Addr.add a3 3)=some (Iv n5)∧∃n6,World.cell? w19 (Addr.add a3 4)=some (Iv n6)∧∃n7,World.cell? w19 (Addr.add a3 5)=some (Iv n7)∧∃s0,World.cell? w19 (Addr.add a3 6)=some (.string s0)∧∃q8 l22 l23,World.cell? w19 (Addr.add a3 7)=some (.slice q8 l22 l23)∧∃s1,World.cell? w19 (Addr.add a3 8)=some (.string s1)∧∃q9 l24 l25,World.cell? w19 (Addr.add a3 9)=some (.slice q9 l24 l25)∧∃n8,World.cell? w19 (Addr.add a3 10)=some (Iv n8)∧∀l26,w19.heap.size≤l26→(n3=0→∀w20,Fr S w w19 [l26] [B0,⟨l26,#[Iv n3,Iv n4,.slice q7 l20 l21,Iv n5,Iv n6,Iv n7,.string s0,.slice q8 l22 l23,.string s1,.slice q9 l24 l25,Iv n8],46,true⟩] w20→aa_ PR 12 #[.pointer q6,Iv n4,.slice q7 l20 l21] w20 λv14 w21=>∃n9 v15,v14=.tuple #[Iv n9,v15]∧Fs S w [B0,⟨l26,#[Iv n3,Iv n4,.slice q7 l20 l21,Iv n5,Iv n6,Iv n7,.string s0,.slice q8 l22 l23,.string s1,.slice q9 l24 l25,Iv n8],46,true⟩] w21∧∃l27,l27<l19∧I1 (IntKind.wrap .i64 (n2+1)) l27 w21)∧(¬(n3=0)→(n3=2→∀w22,Fr S w w19 [l26] [B0] w22→aa_ PR 19 #[.pointer q6] w22 λv16 w23=>∃q10 l28 l29 v17,v16=.tuple #[.slice q10 l28 l29,v17]∧Fs S w [B0] w23∧∃l30,l30<l19∧I1 (IntKind.wrap .i64 (n2+1)) l30 w23)∧(¬(n3=2)→(n3=3→∀w24,Fr S w w19 [l26] [B0,⟨l26,#[Iv n3,Iv n4,.slice q7 l20 l21,Iv n5,Iv n6,Iv n7,.string s0,.slice q8 l22 l23,.string s1,.slice q9 l24 l25,Iv n8],46,true⟩] w24→let B4:Blk:=⟨l26,#[Iv n3,Iv n4,.slice q7 l20 l21,Iv n5,Iv n6,Iv n7,.string s0,.slice q8 l22 l23,.string s1,.slice q9 l24 l25,Iv n8],46,true⟩;aa_ PR 28 #[.pointer q6] w24 λv18 w25=>∃q11,v18=.pointer q11∧Fs S w [B0,B4] w25∧aa_ PR 29 #[.pointer q11,Iv n4] w25 λv19 w26=>v19=.tuple #[]∧Fs S w [B0,B4] w26∧∃l31,l31<l19∧I1 (IntKind.wrap .i64 (n2+1)) l31 w26)∧(¬(n3=3)→∀w27,Fr S w w19 [l26] [B0,⟨l26,#[Iv n3,Iv n4,.slice q7 l20 l21,Iv n5,Iv n6,Iv n7,.string s0,.slice q8 l22 l23,.string s1,.slice q9 l24 l25,Iv n8],46,true⟩] w27→∃l32,l32<l19∧I1 (IntKind.wrap .i64 (n2+1)) l32 w27))))∧(¬(n2<(ly1:Int))→∃I2:World→Prop,aa_ PR 30 #[.pointer q6] w19 (λv20 w28=>∃b4,v20=.bool b4∧(b4=true→Fs S w [B0] w28∧I2 w28)∧(b4=false→Fs S w [B0] w28∧aa_ PR 28 #[.pointer q6] w28 λv21 w29=>∃q12,v21=.pointer q12∧Fs S w [B0] w29∧aa_ PR 29 #[.pointer q12,Iv 0] w29 λv22 w30=>v22=.tuple #[]∧Fs S w [B0] w30∧aa_ PR 28 #[.pointer q6] w30 λv23 w31=>∃q13,v23=.pointer q13∧Fs S w [B0] w31∧aa_ PR 31 #[.pointer q13] w31 λv24 w32=>∃v25,v24=v25∧Fs S w [B0] w32∧I2 w32))∧∀D2:Nat→Value,∀w33,I2 w33→Fs S w [B0] w33→aa_ PR 22 #[.pointer q6] w33 λv26 w34=>∃n10,v26=Iv n10∧Fs S w [B0] w34∧aa_ PR 16 #[.pointer q6,Iv m3,.string z10] w34 λv27 w35=>∃q14 l33 l34 v28,v27=.tuple #[.slice q14 l33 l34,v28]∧Fs S w [B0] w35∧aa_ PR 19 #[.pointer q6] w35 λv29 w36=>∃q15 l35 l36 v30,v29=.tuple #[.slice q15 l35 l36,v30]∧Fs S w [B0] w36∧aa_ PR 12 #[.pointer q6,Iv 1,.slice none 0 0] w36 λv31 w37=>∃n11 v32,v31=.tuple #[Iv n11,v32]∧Fs S w [B0] w37∧aa_ PR 30 #[.pointer q6] w37 λv33 w38=>∃b5,v33=.bool b5∧(b5=true→Fs S w [B0] w38∧(IntKind.wrap .i64 (IntKind.wrap .i64 ((l33:Int)+(l35:Int))+n11)=0→aa_ PR 14 #[v28] w38 λv34 w39=>∃n12,v34=Iv n12∧Fs S w [B0] w39∧(n12=8→aa_ PR 14 #[v30] w39 λv35 w40=>∃n13,v35=Iv n13∧Fs S w [B0] w40∧(n13=8→aa_ PR 14 #[v32] w40 λv36 w41=>∃n14,v36=Iv n14∧Fs S w [B0] w41∧(n14=8→aa_ PR 22 #[.pointer q6] w41 λv37 w42=>∃n15,v37=Iv n15∧Fs S w [B0] w42∧(n15=IntKind.wrap .i64 (n10+1)→aa_ PR 32 #[.pointer q6,.agg #[.slice y11 ly11 cy11,Iv m12]] w42 λv38 w43=>∃v39,v38=v39∧Fs S w [B0] w43∧(v39=.nilIface→aa_ PR 30 #[.pointer q6] w43 λv40 w44=>∃b6,v40=.bool b6∧(b6=true→Fs S w [B0] w44∧K (.bool false) w44)∧(b6=false→Fs S w [B0] w44∧aa_ PR 22 #[.pointer q6] w44 λv41 w45=>∃n16,v41=Iv n16∧Fs S w [B0] w45∧(n16=IntKind.wrap .i64 (n10+1)→Dr q6 λa4=>Dr (some a4) λa5=>Dr (some (Addr.add a5 0)) λa6=>∃q16,World.cell? w45 a6=some (.pointer q16)∧aa_ PR 33 #[.pointer q16,Iv n10] w45 λv42 w46=>∃q17 l37 l38,v42=.slice q17 l37 l38∧Fs S w [B0] w46∧((l37:Int)=0→aa_ PR 16 #[.pointer none,Iv m3,.string z10] w46 λv43 w47=>∃q18 l39 l40 v44,v43=.tuple #[.slice q18 l39 l40,v44]∧Fs S w [B0] w47∧aa_ PR 19 #[.pointer none] w47 λv45 w48=>∃q19 l41 l42 v46,v45=.tuple #[.slice q19 l41 l42,v46]∧Fs S w [B0] w48∧aa_ PR 12 #[.pointer none,Iv 1,.slice none 0 0] w48 λv47 w49=>∃n17 v48,v47=.tuple #[Iv n17,v48]∧Fs S w [B0] w49∧(IntKind.wrap .i64 (IntKind.wrap .i64 ((l39:Int)+(l41:Int))+n17)=0→aa_ PR 14 #[v44] w49 λv49 w50=>∃n18,v49=Iv n18∧Fs S w [B0] w50∧(n18=1→aa_ PR 14 #[v46] w50 λv50 w51=>∃n19,v50=Iv n19∧Fs S w [B0] w51∧(n19=1→aa_ PR 14 #[v48] w51 λv51 w52=>∃n20,v51=Iv n20∧Fs S w [B0] w52∧(n20=1→aa_ PR 32 #[.pointer none,.agg #[.slice y11 ly11 cy11,Iv m12]] w52 λv52 w53=>∃v53,v52=v53∧Fs S w [B0] w53∧aa_ PR 14 #[v53] w53 λv54 w54=>∃n21,v54=Iv n21∧Fs S w [B0] w54∧(n21=1→aa_ PR 30 #[.pointer none] w54 λv55 w55=>∃b7,v55=.bool b7∧(b7=true→Fs S w [B0] w55∧aa_ PR 22 #[.pointer none] w55 λv56 w56=>∃n22,v56=Iv n22∧Fs S w [B0] w56∧aa_ PR 27 #[.pointer none] w56 λv57 w57=>∃n23,v57=Iv n23∧Fs S w [B0] w57∧(IntKind.wrap .i64 (n22+n23)=0→aa_ PR 28 #[.pointer none] w57 λv58 w58=>∃q20,v58=.pointer q20∧Fs S w [B0] w58∧(q20=none→K (.bool true) w58)∧∀a7:Addr,q20=some a7→K (.bool false) w58)∧(¬(IntKind.wrap .i64 (n22+n23)=0)→K (.bool false) w57))∧(b7=false→Fs S w [B0] w55∧K (.bool false) w55))∧(¬(n21=1)→K (.bool false) w54))∧(¬(n20=1)→K (.bool false) w52))∧(¬(n19=1)→K (.bool false) w51))∧(¬(n18=1)→K (.bool false) w50))∧(¬(IntKind.wrap .i64 (IntKind.wrap .i64 ((l39:Int)+(l41:Int))+n17)=0)→K (.bool false) w49))∧(¬((l37:Int)=0)→K (.bool false) w46))∧(¬(n16=IntKind.wrap .i64 (n10+1))→K (.bool false) w45)))∧(∀x0 v59,v39=.iface x0 v59→K (.bool false) w43)∧(v39=.nilIface∨∃l43 v60,v39=.iface l43 v60))∧(¬(n15=IntKind.wrap .i64 (n10+1))→K (.bool false) w42))∧(¬(n14=8)→K (.bool false) w41))∧(¬(n13=8)→K (.bool false) w40))∧(¬(n12=8)→K (.bool false) w39))∧(¬(IntKind.wrap .i64 (IntKind.wrap .i64 ((l33:Int)+(l35:Int))+n11)=0)→K (.bool false) w38))∧(b5=false→Fs S w [B0] w38∧K (.bool false) w38)))∧(∀x1 v61,v11=.iface x1 v61→K (.bool false) w16)∧(v11=.nilIface∨∃l44 v62,v11=.iface l44 v62))))∧(b0=false→Fs S w [B0] w1∧K (.bool false) w1)):aa_ PR 4 ⟨[.int .i64 m0,.slice y1 ly1 cy1,.agg #[.int .i64 m2,.int .i64 m3,.slice y4 ly4 cy4,.int .i64 m5,.int .i64 m6,.int .i64 m7,.string z8,.slice y9 ly9 cy9,.string z10,.slice y11 ly11 cy11,.int .i64 m12]]⟩ w K:=
 ab_ (okf:=⟨okL,[]⟩) ag_ (args:=[.c (.v (.int .i64 m0)),.c (.v (.slice y1 ly1 cy1)),.a [.v (.int .i64 m2),.v (.int .i64 m3),.v (.slice y4 ly4 cy4),.v (.int .i64 m5),.v (.int .i64 m6),.v (.int .i64 m7),.v (.string z8),.v (.slice y9 ly9 cy9),.v (.string z10),.v (.slice y11 ly11 cy11),.v (.int .i64 m12)]]) (H:=[]) (.s (.r ⟨(some []),false,[],[]⟩) (.s (.s (.r ⟨(some [5]),false,[],[]⟩) .z) (.cut [] [] (.s (.r ⟨(some [5]),false,[],[]⟩) .z) (.s (.r ⟨(some [5]),false,[],[]⟩) (.s (.s .z (.c (.s (.r ⟨(some []),false,[],[]⟩) .z) .z)) (.s .z (.s (.s .z (.b (.l (some [5]) (some [5]) [(58,.c (.int .i64))] [] (.s .z (.s .z (.s (.b (.s (.r ⟨(some [5]),false,[],[]⟩) (.s .z (.b (.s .z (.c (.r ⟨(some [5,10]),false,[],[(5,[999])]⟩) (.s .z (.c (.r ⟨(some [5]),false,[],[(1,[999])]⟩) (.s .z (.c (.r ⟨(some [5,10]),false,[],[(4,[999])]⟩) .z)))))))))) .z)))))) (.cut [] [] (.s (.r ⟨(some [5]),false,[],[]⟩) (.c (.s (.r ⟨(some [5]),false,[],[(2,[999])]⟩) (.r ⟨(some [5]),false,[],[(2,[999])]⟩)) .z)) (.s (.r ⟨(some [5]),false,[],[]⟩) (.s (.r ⟨(some [5]),false,[],[(5,[999])]⟩) (.s (.r ⟨(some [5]),false,[],[(1,[999])]⟩) (.s (.r ⟨(some [5]),false,[],[(1,[999])]⟩) (.s .z (.s (.s (.r ⟨(some [5]),false,[],[]⟩) .z) (.s (.s (.r ⟨(some [5]),false,[],[(3,[999])]⟩) .z) (.s .z (.s (.r ⟨(some [5]),false,[],[(5,[999])]⟩) (.s (.r ⟨(some [5]),false,[],[(1,[999])]⟩) (.s (.r ⟨(some [5]),false,[],[(1,[999])]⟩) (.s .z (.s (.r ⟨(some [5]),false,[],[(30,[999])]⟩) .z))))))))))))))))))))) Go.Proofs.Tryz.func4 rfl ⟨trivial,trivial,⟨trivial,trivial,trivial,trivial,trivial,trivial,trivial,trivial,trivial,trivial,trivial,trivial⟩,trivial⟩ trivial (Fr.init S w) trivial (ad_ (by kernel_rfl) h)
end Go.Vc
namespace Go.Vc
open Go Go.MapKept
theorem kO_ {m0:Int} (hm0 : -9223372036854775808≤m0∧m0≤9223372036854775807) {ops:List OpH} {y:Option Addr} {n c:Nat} {o:OpH} {bits:List Bool} {w:World} (h:OpsH w y ops) (hn:n=ops.length) (hlen:ops.length≤1048576) (ho1:Sl w o.q (encE o.l)) (ho2:Sl w o.mq (o.m.proof.map sv8')) (hb:Sl w o.pq (bits.map .bool)) (hpl:o.pl=bits.length) (hpc:o.pl≤o.pc) (hr:∀x∈ops,x.n≤9223372036854775807) (hE:ErrT w) {K:Value→World→Prop} (hK:∀w',Grow w w'→K (.bool true) w') :
  aa_ PR F.bu_ ⟨[.int .i64 m0,.slice y n c,.agg ⟨opHC o⟩]⟩ w K:=by
 have I:∀ {J:Nat→Value→Prop},∀t x,(Value.nilIface:Value)=.iface t x→J t x:=λt x h=>by cases h
 subst hn
 refine bu_ m0 y ops.length c o.k o.n o.q o.l.length o.c o.m.kind o.m.ver o.m.i (str o.m.text) o.mq o.m.proof.length o.mc (str o.s) o.pq o.pl o.pc o.pn S0 K w λl0 hl0 w0 hF0=>?_
 refine lY_ λw1 g1=>⟨true,rfl,λ_=>⟨hF0.after g1,?_⟩,λe=>by cases e⟩
 have hF1:=hF0.after g1
 have gr:∀ {w5:World} {L:List Blk} {q:Option Addr} {c:Nat},Fs S0 w L w5→Sl w5 q ((ops++[o]).flatMap opHC)→aa_ PR F.bo_ ⟨[.slice q (ops.length+1) c]⟩ w5 (λv3 w6=>∃b1,v3=.bool b1∧(b1=true→Fs S0 w L w6∧K (.bool true) w6)∧(b1=false→Fs S0 w L w6∧(ops.length≤50∧∀x∈ops++[o],nA_ x))):=λ{w5} {L} {q} {c} hF5 hs5=>by
  refine mi_ (ops:=ops++[o]) ⟨hs5,λx hx=>?_,λx hx=>?_⟩ (by simp) λw6 t g6 ht=>⟨t,rfl,λe=>⟨hF5.after g6,hK w6 (hF5.gr.trans g6)⟩,λe=>⟨hF5.after g6,by have:=ht e;rw [List.length_append] at this;exact ⟨by omega,this.2⟩⟩⟩
  ·rcases List.mem_append.1 hx with hx | hx
   ·exact (h.l x hx).grow hF5.gr
   ·rw [List.mem_singleton.1 hx];exact ho1.grow hF5.gr
  ·rcases List.mem_append.1 hx with hx | hx
   ·exact (h.m x hx).grow hF5.gr
   ·rw [List.mem_singleton.1 hx];exact ho2.grow hF5.gr
 have s1:w.heap.size≤w1.heap.size:=hF1.chg.size
 refine ⟨λ_=>ops.length≤50∧∀x∈ops++[o],nA_ x,⟨λl1 hl1=>⟨λw2 hF2=>?_,λl7 hl7 w7 hF7=>?_⟩,λl12 hl12 l13 hl13 w11 hF11=>?_⟩,?_⟩
 ·have s2:w.heap.size≤w2.heap.size:=hF2.chg.size
  refine m__ (hF2.blk 1 rfl) (h.row.grow hF2.gr) hlen λw3 q c3 ho hlc g3 hq=>⟨_,_,_,rfl,hF2.after g3,λl4 hl4 w4 hF4=>?_⟩
  refine m9_ (M:=w2.heap.size) (ho.grow hF4.grow) hlc hq (hF4.sl 2 rfl) hlen λw5 q' c' hs5 g5=>?_
  have hF5:=hF4.step g5 (λz hz e=>by
   simp at hz
   rcases hz with rfl | rfl | rfl
   ·have:=hF2.lt _ List.mem_cons_self;have e':=e.2;simp only [] at this e';omega
   ·have:=hF2.lt _ (List.mem_cons_of_mem _ List.mem_cons_self);have e':=e.2;simp only [] at this e';omega
   ·obtain ⟨a,ha,e'⟩:=e.1;have:=ho.lt a ha;simp only [] at e';omega) (λk hk e=>by have:=e.2;omega)
  exact ⟨_,_,_,rfl,hF5,gr hF5 hs5⟩
 ·have s2:w.heap.size≤w7.heap.size:=hF7.chg.size
  refine m__ (hF7.blk 1 rfl) (h.row.grow hF7.gr) hlen λw3 q c3 ho hlc g3 hq=>⟨_,_,_,rfl,hF7.after g3,?_⟩
  refine m9_ (M:=w7.heap.size) ho hlc hq ((hF7.after g3).sl 2 rfl) hlen λw5 q' c' hs5 g5=>?_
  have hF5:=(hF7.after g3).step g5 (λz hz e=>by have:=hF7.lt z hz;have e':=e.2;omega) (λk hk e=>by have:=e.2;omega)
  exact ⟨_,_,_,rfl,hF5,gr hF5 hs5⟩
 ·have s2:w.heap.size≤w11.heap.size:=hF11.chg.size
  refine m__ (hF11.blk 2 rfl) (h.row.grow hF11.gr) hlen λw3 q c3 ho hlc g3 hq=>⟨_,_,_,rfl,hF11.after g3,?_⟩
  refine m9_ (M:=w11.heap.size) ho hlc hq ((hF11.after g3).sl 1 rfl) hlen λw5 q' c' hs5 g5=>?_
  have hF5:=(hF11.after g3).step g5 (λz hz e=>by have:=hF11.lt z hz;have e':=e.2;omega) (λk hk e=>by have:=e.2;omega)
  exact ⟨_,_,_,rfl,hF5,gr hF5 hs5⟩
 clear hF1 g1 gr hF0 s1
 rintro D0 w15 ⟨hl50,hsm⟩ hF15
 have hl0':l0<w15.heap.size:=hF15.lt _ List.mem_cons_self
 have s15:w.heap.size≤w15.heap.size:=hF15.chg.size
 have eg:∀ {w':World} {L:List Blk},Fs S0 w L w'→ErrT w':=λhF=>hE.grow hF.gr
 refine mh_ (λw16 k0 s r er k1 k4 g16 hH hreps e1 e2 e3 e4 hnf=>?_) λw16 hbad g16=>?_
 rotate_left
 ·have hF16:=hF15.after g16
  have hF16':=hF16.sub (List.nil_sublist _)
  have err:aa_ PR F.kJ_ #[.iface T.al_ (.int .i64 1)] w16 (λv12 w17=>∃n0,v12=.int .i64 n0∧Fs S0 w [] w17∧(n0=1→K (.bool true) w17)∧(¬(n0=1)→K (.bool false) w17)):=
   mm_ (eg hF16) (by decide) λw17 g17=>⟨_,rfl,hF16'.after g17,(λ_=>hK w17 (hF16'.after g17).gr),λhne=>absurd rfl hne⟩
  exact ⟨_,_,rfl,hF16,λ_=>⟨λ_=>err,λa h=>by cases h⟩,λh1=>⟨λ_=>⟨λ_=>err,λa h=>by cases h⟩,λh4=>by omega⟩⟩
 have hF16:=hF15.after g16
 refine ⟨_,_,rfl,hF16,λh=>by omega,λ_=>⟨λh=>by omega,λ_=>⟨λ_=>?_,I,.inl rfl⟩⟩⟩
 have hrb:s.x.reg s.x.bd:=.inr (.inr (.inr (.inl rfl)))
 have hne:k0≠s.x.bd:=λe=>hH.off (by rw [e];exact hrb)
 have hlen':s.reps.length=r:=by rw [hreps];simp
 have st0:HSt w15.heap.size w16 k0 s.x.bd r 0:=.inl ⟨s,hH,rfl,hlen',λx hx=>by rw [hreps] at hx;rw [List.eq_of_mem_replicate hx];decide⟩
 have hNk:=hH.lo
 have hNb:=hH.act.pub.lo _ hrb
 generalize s.x.bd=bd at hne st0 hNb
 have sz16:=g16.size
 clear hH hreps e1 e2 e3 e4 hnf hlen' hrb
 refine ⟨λi mm w'=>∃k now:Nat,i=k∧k≤ops.length∧mm=ops.length - k∧now≤k∧HSt w15.heap.size w' k0 bd r now∧w15.heap.size≤w'.heap.size,⟨_,0,0,rfl,by omega,rfl,Nat.le_refl _,st0,sz16⟩,?_⟩
 rintro i D1 mm w19 ⟨k,now,rfl,hk,rfl,hnow,st,sz⟩ hF19
 refine ⟨λhlt=>?_,λhge=>?_⟩
 ·have hk':k<ops.length:=by omega
  have h19:=h.grow hF19.gr
  have hm:=List.getElem_mem hk'
  have hso:=hsm _ (List.mem_append_left _ hm)
  have hnext:IntKind.wrap .i64 ((k:Int)+1)=((k+1:Nat):Int):=by rw [w64 (by omega) (by omega)];rfl
  refine h19.row.rdN dB_ (by decide) rfl hk' hk' λa hc=>?_
  refine ⟨_,hc 0 _ rfl,_,hc 1 _ rfl,_,_,_,hc 2 _ rfl,_,hc 3 _ rfl,_,hc 4 _ rfl,_,hc 5 _ rfl,_,hc 6 _ rfl,_,_,_,hc 7 _ rfl,_,hc 8 _ rfl,_,_,_,hc 9 _ rfl,_,hc 10 _ rfl,λl26 hl26=>?_⟩
  have go:∀ {L:List Blk} {wa wb:World},Fs S0 w L wa→(∀z∈L,z.b<w15.heap.size∨w19.heap.size≤z.b)→Chg (λj=>w15.heap.size≤j∧j<w19.heap.size) wa wb→Fs S0 w L wb:=λhF hL g=>hF.step g (λz hz e=>by have:=hL z hz;have:=e.1;have:=e.2;omega) (λj hj e=>by have:=e.1;omega)
  have nx:∀ {wa wb:World} {S:Nat→Prop} {now':Nat},now'≤now+1→HSt w15.heap.size wb k0 bd r now'→Chg S wa wb→w15.heap.size≤wa.heap.size→∃l:Nat,l<ops.length - k∧∃k' now:Nat,IntKind.wrap .i64 ((k:Int)+1)=k'∧k'≤ops.length∧l=ops.length - k'∧now≤k'∧HSt w15.heap.size wb k0 bd r now∧w15.heap.size≤wb.heap.size:=λhn' st' g sz'=>⟨ops.length - (k+1),by omega,k+1,_,hnext,by omega,rfl,by omega,st',Nat.le_trans sz' g.size⟩
  have two:∀ {b1 b2:Blk},b1.b=l0→b2.b=l26→∀z∈[b1,b2],z.b<w15.heap.size∨w19.heap.size≤z.b:=λh1 h2 z hz=>by
   simp at hz
   rcases hz with rfl | rfl
   ·left;rw [h1];exact hl0'
   ·right;rw [h2];exact hl26
  refine ⟨λ_ w20 hF20=>?_,λ_=>⟨λ_ w22 hF22=>?_,λ_=>⟨λ_ w24 hF24=>?_,λ_ w27 hF27=>?_⟩⟩⟩
  ·have g20:=(hF20.unM hl26).grow
   have sz20:=g20.size
   exact HSt.sO_ st g20 sz ((h.l _ hm).grow hF20.gr) rfl (by have:=hso.1;omega) λw' v e st' g'=>⟨_,_,rfl,go (hF20.unM hl26).reset (two rfl rfl) g',nx (by omega) st' g' (by omega)⟩
  ·have g22:=(hF22.unM hl26).grow
   have sz22:=g22.size
   exact HSt.tick st g22 hne sz (by omega) λw' q l c e st' g'=>⟨_,_,_,_,rfl,go (hF22.unM hl26).reset (λz hz=>by simp at hz;subst hz;exact .inl hl0') g',nx (by omega) st' g' (by omega)⟩
  ·have g24:=(hF24.unM hl26).grow
   have sz24:=g24.size
   obtain ⟨a,hbb⟩:=(st.keep g24).b
   refine gz_ hbb ⟨_,rfl,(hF24.unM hl26).reset,?_⟩
   exact HSt.fuse st g24 hne (hr _ hm) λw' st' g'=>⟨rfl,go (hF24.unM hl26).reset (two rfl rfl) g',nx (by omega) st' g' (by omega)⟩
  ·have g27:=(hF27.unM hl26).grow
   exact nx (S:=λ_=>False) (by omega) (st.keep g27) g27 sz
 ·have hnow50:now≤50:=by omega
  have hk0:=st.lt
  have hbl:=st.bdlt
  have one:∀ {cs:Array Value} {T:TypeId} (z:Blk),z∈[(⟨l0,cs,T,true⟩:Blk)]→z.b=l0:=λz hz=>by rw [List.mem_singleton.1 hz]
  refine ⟨λw'=>∃n a,cJ_ n w' k0 bd a (r:Nat) (now:Nat),?_,?_⟩
  ·rcases st with ⟨s,h1,rfl,rfl,hd⟩ | ⟨n',a,h1,h2⟩
   ·have hds:=h1.act.pub.jrn.dsk
    have hbB:dl_ w19 k0 _ _ _ _:=h1.blk
    refine jH_ h1 ⟨false,rfl,(λh=>by cases h),λ_=>⟨hF19,gz_ hbB ⟨_,rfl,hF19,?_⟩⟩⟩
    refine o7_ hds ⟨⟨_,_,_,h1.act.pub.rep⟩,h1.act.pub.room⟩ λw30 g30 hsync=>?_
    have stp:∀ {wa wb:World} {L:List Blk},(∀z,z∈L→z.b=l0)→Fs S0 w L wa→Chg (· = s.x.bd) wa wb→Fs S0 w L wb:=λhL hF g=>hF.step g (λz hz e=>by have:=hL z hz;have e':z.b=s.x.bd:=e;omega) λj hj e=>by have e':j=s.x.bd:=e;omega
    have hF30:=stp one hF19 g30
    have hb30:dl_ w30 k0 _ _ _ _:=g30.get h1.blk hne
    refine ⟨rfl,hF30,gz_ hb30 ⟨_,rfl,hF30,oK_ hsync λv w32 hv=>?_⟩⟩
    obtain ⟨rfl,hbr,g32⟩:=hv
    exact ⟨_,rfl,stp one hF30 g32,_,s.a,g32.get hb30 hne,hbr,by omega⟩
   ·exact fn_ h1 ⟨true,rfl,λ_=>⟨hF19,n',a,h1⟩,λh=>by cases h⟩
  ·rintro D2 w33 ⟨n',a,hd⟩ hF33
   have hk2:k0<w33.heap.size:=aj_ hd.blk
   have stk:∀ {wa wb:World} {S:Nat→Prop} {L:List Blk},(∀z,z∈L→z.b=l0)→Fs S0 w L wa→Chg S wa wb→(∀j,S j→j=k0∨j=bd)→Fs S0 w L wb:=λhL hF g hS=>hF.step g (λz hz e=>by have:=hL z hz;have:=hS _ e;omega) λj hj e=>by have:=hS _ e;omega
   refine gy_ hd.blkB ⟨_,rfl,hF33,nl_ hd ⟨_,_,_,_,rfl,hF33,iE_ hd hne λw36 hd36 g36=>?_⟩⟩
   have hF36:=stk one hF33 g36 λj e=>.inl e
   refine ⟨_,_,_,_,rfl,hF36,eN_ hd36 ⟨_,_,rfl,hF36,fn_ hd36 ⟨true,rfl,λ_=>⟨hF36,λ_=>?_,λhne0=>absurd (by decide) hne0⟩,λh=>by cases h⟩⟩⟩
   refine mm_ (eg hF36) (by decide) λw39 g39=>⟨_,rfl,hF36.after g39,λ_=>mm_ (eg (hF36.after g39)) (by decide) λw40 g40=>⟨_,rfl,(hF36.after g39).after g40,λ_=>mm_ (eg ((hF36.after g39).after g40)) (by decide) λw41 g41=>⟨_,rfl,((hF36.after g39).after g40).after g41,λ_=>?_,λhne0=>absurd rfl hne0⟩,λhne0=>absurd rfl hne0⟩,λhne0=>absurd rfl hne0⟩
   have gg:Grow w36 w41:=g39.trans (g40.trans g41)
   have hF41:=((hF36.after g39).after g40).after g41
   have hd41:cJ_ n' w41 k0 bd a (r:Nat) (IntKind.wrap .i64 (((now:Nat):Int)+1)):=⟨Grow.get gg hd36.blk,hd36.brn.keep gg id (λ_ e=>e.elim),hd36.lt⟩
   refine gy_ hd41.blkB ⟨_,rfl,hF41,λ_=>?_,λhne0=>absurd rfl hne0⟩
   refine nn_ hd41 k1 k4 hne (hb.grow hF41.gr) hpl hpc λw43 a' bn p log hb43 ha43 hbn43 hds43 g43=>?_
   have hF43:=stk one hF41 g43 λj e=>e
   refine ⟨_,rfl,hF43,λ_=>nm_ hb43 hds43 ⟨false,rfl,(λh=>by cases h),λ_=>⟨hF43,gy_ hb43 ⟨_,rfl,hF43,λ_=>?_,λhne0=>absurd rfl hne0⟩⟩⟩,I,.inl rfl⟩
   refine af_.2 (af_.2 (af_.2 ⟨_,by rw [an_,ar_ hb43];rfl,?_⟩))
   refine ob_ ha43 hbn43 (by rw [List.length_replicate];exact k4) ⟨by omega,by omega⟩ λw46 q17 c17 g46 _=>?_
   have hF46:=hF43.after g46
   refine ⟨_,_,_,rfl,hF46,λ_=>?_,λhne0=>absurd (by rw [jo_];rfl) hne0⟩
   refine uj_ ⟨_,_,_,_,rfl,hF46,ui_ ⟨_,_,_,_,rfl,hF46,q3_ ⟨_,_,rfl,hF46,λ_=>?_,λhne0=>absurd (by decide) hne0⟩⟩⟩
   refine mm_ (eg hF46) (by decide) λw50 g50=>⟨_,rfl,hF46.after g50,λ_=>mm_ (eg (hF46.after g50)) (by decide) λw51 g51=>⟨_,rfl,(hF46.after g50).after g51,λ_=>mm_ (eg ((hF46.after g50).after g51)) (by decide) λw52 g52=>⟨_,rfl,((hF46.after g50).after g51).after g52,λ_=>?_,λhne0=>absurd rfl hne0⟩,λhne0=>absurd rfl hne0⟩,λhne0=>absurd rfl hne0⟩
   have hF52:=((hF46.after g50).after g51).after g52
   refine tk_ λw53 g53=>⟨_,rfl,hF52.after g53,mm_ (eg (hF52.after g53)) (by decide) λw54 g54=>⟨_,rfl,(hF52.after g53).after g54,λ_=>?_,λhne0=>absurd rfl hne0⟩⟩
   have hF54:=(hF52.after g53).after g54
   exact uk_ ⟨true,rfl,λ_=>⟨hF54,uS_ ⟨_,rfl,hF54,oX_ ⟨_,rfl,hF54,λ_=>ul_ ⟨_,rfl,hF54,λ_=>hK w54 hF54.gr,λa h=>by cases h⟩,λhne0=>absurd (by decide) hne0⟩⟩⟩,λh=>by cases h⟩
end Go.Vc
namespace Go.Vc
open Go Go.ChangeShapes Go.WideShapes Go.ChangeAt Go.RowKit Go.Deep Go.Proofs Go.Proofs.YtkfelkaiknjlhaaGreatDoor
theorem mK_:Tryz.f4.params=#[T.int,T.ap_,T.aw_]:=by kernel_rfl
theorem uOps:PR.underlying T.ap_=some (.slice T.aw_):=by kernel_rfl
theorem cOp:PR.cellsOf T.aw_=11:=by kernel_rfl
theorem fOp:flds T.aw_=some [(T.int,0),(T.int,1),(T.bF_,2),(T.bV_,3),(T.string,8),(T.ej_,9)]:=by kernel_rfl
theorem tq_:PR.underlying T.bF_=some (.slice T.ay_):=by kernel_rfl
theorem ua_:PR.cellsOf T.bF_=1:=by kernel_rfl
theorem uO_:PR.cellsOf T.ay_=2:=by kernel_rfl
theorem uH_:flds T.ay_=some [(T.int,0),(T.int,1)]:=by kernel_rfl
theorem uG_:flds T.bV_=some [(T.int,0),(T.int,1),(T.int,2),(T.string,3),(T.aQ_,4)]:=by kernel_rfl
theorem uN_:PR.cellsOf T.bV_=5:=by kernel_rfl
theorem uF_:flds T.ej_=some [(T.hy_,0),(T.int,1)]:=by kernel_rfl
theorem uM_:PR.cellsOf T.ej_=2:=by kernel_rfl
theorem tr_:PR.underlying T.hy_=some (.slice T.bool):=by kernel_rfl
theorem ub_:PR.cellsOf T.hy_=1:=by kernel_rfl
theorem uP_:PR.cellsOf T.bool=1:=by kernel_rfl
theorem ux_:PR.readableRec T.aw_=true:=by kernel_rfl
theorem tF_:PR.readableRec T.ap_=true:=by kernel_rfl
section
variable {H:Type} {enc:TypeId × Value→H} {w:World} {base:Nat} {spare:Nat→Bool} {held:Bool}
theorem s__ {n:Nat} {cs:List Value} {x:DataW H × List MemPlace} (hx:DataW.trod enc PR w base spare held n T.ay_ cs=some x) (hlen:cs.length=2):∃e:Int × Int,cs=[.int .i64 e.1,.int .i64 e.2]:=by
 obtain ⟨m,hm⟩:=fq_ uH_ hx
 obtain ⟨y0,h0⟩:=hm 0 _ rfl
 obtain ⟨y1,h1⟩:=hm 1 _ rfl
 match cs,hlen with
 | [v0,v1],_=>
  rw [show PR.cellsOf (T.int,0).1=1 from cInt] at h0
  rw [show PR.cellsOf (T.int,1).1=1 from cInt] at h1
  obtain ⟨n0,e0,_,_⟩:=DataW.trod_int uInt h0
  obtain ⟨n1,e1,_,_⟩:=DataW.trod_int uInt h1
  obtain rfl:v0=.int .i64 n0:=(List.cons.inj e0).1
  obtain rfl:v1=.int .i64 n1:=(List.cons.inj e1).1
  exact ⟨(n0,n1),rfl⟩
theorem r2_ {fuel:Nat} {v:Value} {x:DataW H × List MemPlace} (h:DataW.trod enc PR w base spare held fuel T.bF_ [v]=some x):∃(q:Option Addr) (l:List (Int × Int)) (c:Nat),v=.slice q l.length c∧Sl w q (encE l):=by
 obtain ⟨q,l,c,h1,h2,_,_⟩:=hg_ (α:=Int × Int) (s:=2) (f:=λe=>[.int .i64 e.1,.int .i64 e.2]) (λ_=>rfl) (by decide) tq_ uO_ (G:=λ_=>True) (λn cs x hx hlen=>by
  obtain ⟨e,he⟩:=s__ hx hlen
  exact ⟨e,he,trivial⟩) h
 exact ⟨q,l,c,h1,h2⟩
theorem sZ_ {n:Nat} {cs:List Value} {x:DataW H × List MemPlace} (hx:DataW.trod enc PR w base spare held n T.bV_ cs=some x) (hlen:cs.length=5) :
  ∃(m:MsgL) (q:Option Addr) (c:Nat),cs=[.int .i64 m.kind,.int .i64 m.ver,.int .i64 m.i,.string (str m.text),.slice q m.proof.length c]∧Sl w q (m.proof.map sv8'):=by
 obtain ⟨m,hm⟩:=fq_ uG_ hx
 obtain ⟨y0,h0⟩:=hm 0 _ rfl
 obtain ⟨y1,h1⟩:=hm 1 _ rfl
 obtain ⟨y2,h2⟩:=hm 2 _ rfl
 obtain ⟨y3,h3⟩:=hm 3 _ rfl
 obtain ⟨y4,h4⟩:=hm 4 _ rfl
 match cs,hlen with
 | [v0,v1,v2,v3,v4],_=>
  rw [show PR.cellsOf (T.int,0).1=1 from cInt] at h0
  rw [show PR.cellsOf (T.int,1).1=1 from cInt] at h1
  rw [show PR.cellsOf (T.int,2).1=1 from cInt] at h2
  rw [show PR.cellsOf (T.string,3).1=1 from cStr] at h3
  rw [show PR.cellsOf (T.aQ_,4).1=1 from uL_] at h4
  obtain ⟨n0,e0,_,_⟩:=DataW.trod_int uInt h0
  obtain ⟨n1,e1,_,_⟩:=DataW.trod_int uInt h1
  obtain ⟨n2,e2,_,_⟩:=DataW.trod_int uInt h2
  obtain ⟨s,e3,_⟩:=DataW.trod_string uStr h3
  obtain ⟨q,l,c,e4,s4⟩:=sK_ (v:=v4) h4
  obtain rfl:v0=.int .i64 n0:=(List.cons.inj e0).1
  obtain rfl:v1=.int .i64 n1:=(List.cons.inj e1).1
  obtain rfl:v2=.int .i64 n2:=(List.cons.inj e2).1
  obtain rfl:v3=.string s:=(List.cons.inj e3).1
  subst e4
  refine ⟨⟨n0,n1,n2,s.data.toList,l.map (·.data.toList)⟩,q,c,?_,?_⟩
  ·simp only [ep_,List.length_map]
  ·rw [List.map_map]
   have:(sv8' ∘ λx:ByteArray=>x.data.toList)=Value.string:=by
    funext x;simp only [Function.comp,sv8',ep_]
   rw [this];exact s4
theorem r9_ {fuel:Nat} {v:Value} {x:DataW H × List MemPlace} (h:DataW.trod enc PR w base spare held fuel T.hy_ [v]=some x):∃(q:Option Addr) (bs:List Bool) (c:Nat),v=.slice q bs.length c∧Sl w q (bs.map .bool)∧bs.length≤c:=by
 obtain ⟨q,l,c,h1,h2,_,h4⟩:=hg_ (α:=Bool) (s:=1) (f:=λn=>[.bool n]) (λ_=>rfl) (by decide) tr_ uP_ (G:=λ_=>True) (λn cs x hx hlen=>by
  obtain ⟨s,e,_⟩:=DataW.trod_bool sC_ hx
  exact ⟨s,e,trivial⟩) h
 rw [nU_] at h2
 exact ⟨q,l,c,h1,h2,h4⟩
theorem sQ_ {n:Nat} {cs:List Value} {x:DataW H × List MemPlace} (hx:DataW.trod enc PR w base spare held n T.ej_ cs=some x) (hlen:cs.length=2):∃(q:Option Addr) (bits:List Bool) (c:Nat) (k:Int),cs=[.slice q bits.length c,.int .i64 k]∧Sl w q (bits.map .bool)∧bits.length≤c:=by
 obtain ⟨m,hm⟩:=fq_ uF_ hx
 obtain ⟨y0,h0⟩:=hm 0 _ rfl
 obtain ⟨y1,h1⟩:=hm 1 _ rfl
 match cs,hlen with
 | [v0,v1],_=>
  rw [show PR.cellsOf (T.hy_,0).1=1 from ub_] at h0
  rw [show PR.cellsOf (T.int,1).1=1 from cInt] at h1
  obtain ⟨n1,e1,_,_⟩:=DataW.trod_int uInt h1
  obtain rfl:v1=.int .i64 n1:=(List.cons.inj e1).1
  obtain ⟨q,bits,c,e0,s0,hc⟩:=r9_ (v:=v0) h0
  subst e0
  exact ⟨q,bits,c,n1,rfl,s0,hc⟩
theorem tL_ {n:Nat} {cs:List Value} {x:DataW H × List MemPlace} (hx:DataW.trod enc PR w base spare held n T.aw_ cs=some x) (hlen:cs.length=11) :
  ∃(o:OpH) (bits:List Bool),cs=opHC o∧Sl w o.q (encE o.l)∧Sl w o.mq (o.m.proof.map sv8')∧Sl w o.pq (bits.map .bool)∧o.pl=bits.length∧o.pl≤o.pc∧o.n≤9223372036854775807:=by
 obtain ⟨m,hm⟩:=fq_ fOp hx
 obtain ⟨y0,h0⟩:=hm 0 _ rfl
 obtain ⟨y1,h1⟩:=hm 1 _ rfl
 obtain ⟨y2,h2⟩:=hm 2 _ rfl
 obtain ⟨y3,h3⟩:=hm 3 _ rfl
 obtain ⟨y4,h4⟩:=hm 4 _ rfl
 obtain ⟨y5,h5⟩:=hm 5 _ rfl
 match cs,hlen with
 | [v0,v1,v2,v3,v4,v5,v6,v7,v8,v9,v10],_=>
  rw [show PR.cellsOf (T.int,0).1=1 from cInt] at h0
  rw [show PR.cellsOf (T.int,1).1=1 from cInt] at h1
  rw [show PR.cellsOf (T.bF_,2).1=1 from ua_] at h2
  rw [show PR.cellsOf (T.bV_,3).1=5 from uN_] at h3
  rw [show PR.cellsOf (T.string,8).1=1 from cStr] at h4
  rw [show PR.cellsOf (T.ej_,9).1=2 from uM_] at h5
  obtain ⟨n0,e0,_,_⟩:=DataW.trod_int uInt h0
  obtain ⟨n1,e1,_,r1⟩:=DataW.trod_int uInt h1
  obtain ⟨q,l,c,e2,s2⟩:=r2_ (v:=v2) h2
  obtain ⟨mm,mq,mc,e3,s3⟩:=sZ_ (cs:=[v3,v4,v5,v6,v7]) h3 rfl
  obtain ⟨s,e4,_⟩:=DataW.trod_string uStr h4
  obtain ⟨pq,bits,pc,pn,e5,s5,hc5⟩:=sQ_ (cs:=[v9,v10]) h5 rfl
  obtain rfl:v0=.int .i64 n0:=(List.cons.inj e0).1
  obtain rfl:v1=.int .i64 n1:=(List.cons.inj e1).1
  obtain rfl:v8=.string s:=(List.cons.inj e4).1
  injection e3 with a3 e3
  injection e3 with a4 e3
  injection e3 with a5 e3
  injection e3 with a6 e3
  injection e3 with a7 e3
  injection e5 with a9 e5
  injection e5 with a10 e5
  subst e2 a3 a4 a5 a6 a7 a9 a10
  exact ⟨⟨n0,n1,q,c,l,mm,mq,mc,s.data.toList,pq,bits.length,pc,pn⟩,bits,by simp only [opHC,ep_],s2,s3,s5,rfl,hc5,(ly_ r1).2⟩
theorem sT_ {fuel:Nat} {v:Value} {x:DataW H × List MemPlace} (h:DataW.trod enc PR w base spare held fuel T.ap_ [v]=some x):∃(q:Option Addr) (ops:List OpH) (c:Nat),v=.slice q ops.length c∧OpsH w q ops∧∀o∈ops,o.n≤9223372036854775807:=by
 obtain ⟨q,l,c,h1,h2,h3,_⟩:=hg_ (α:=OpH) (s:=11) (f:=opHC) dB_ (by decide) uOps cOp (G:=λo=>Sl w o.q (encE o.l)∧Sl w o.mq (o.m.proof.map sv8')∧o.n≤9223372036854775807) (λn cs x hx hlen=>by
  obtain ⟨o,bits,e,a1,a2,_,_,_,a3⟩:=tL_ hx hlen
  exact ⟨o,e,a1,a2,a3⟩) h
 exact ⟨q,l,c,h1,⟨h2,λo ho=>(h3 o ho).1,λo ho=>(h3 o ho).2.1⟩,λo ho=>(h3 o ho).2.2⟩
end
theorem uR_ {H:Type} (d:DataW H):1≤Rows.uptoBulk d:=by
 cases d with
 | lit l=>cases l <;> simp [Rows.uptoBulk]
 | nil=>simp [Rows.uptoBulk]
 | ptr d=>simp [Rows.uptoBulk]
 | slice elems spare=>simp [Rows.uptoBulk]
 | agg parts=>simp [Rows.uptoBulk]
 | iface t d=>simp [Rows.uptoBulk]
 | map entries=>simp [Rows.uptoBulk]
 | held h=>simp [Rows.uptoBulk]
theorem uQ_ {H:Type} (l:List (DataW H)):l.length≤Rows.uptoBulkAll l:=by
 induction l with
 | nil=>simp [Rows.uptoBulkAll]
 | cons x r ih=>have:=uR_ x;simp only [Rows.uptoBulkAll,List.length_cons];omega
theorem tK_ {H:Type} {enc:TypeId × Value→H} {w:World} {base:Nat} {spare:Nat→Bool} {held:Bool} {fuel:Nat} {q:Option Addr} {l c:Nat} {d0 d1 d2:DataW H} {p:List MemPlace} (h:DataW.trod enc PR w base spare held fuel T.ap_ [.slice q l c]=some (d1,p)) (hk:Rows.uptoSmall H [d0,d1,d2]=true):l≤1048576:=by
 have hb:Rows.uptoBulkAll [d0,d1,d2]≤1048576:=of_decide_eq_true hk
 simp only [Rows.uptoBulkAll] at hb
 rcases open_slice uOps h with ⟨e,_⟩ | ⟨a,len,cap,m,n,D,Pl,e,_,_,_,_,ex,_⟩
 ·injection e with e
  injection e with _ e
  omega
 ·injection e with e
  injection e with _ e
  subst e
  injection ex with ex
  subst ex
  have:=uQ_ ((List.range l).map D)
  rw [List.length_map,List.length_range] at this
  simp only [Rows.uptoBulk] at hb
  omega
theorem qE_ (H:Type) (enc:TypeId × Value→H) (W:World) (base:Nat) (args:Array Value) (ds gs:List (DataW H)) (before:List MemPlace)
  (hval:∀(j:Nat) t v,Tryz.f4.params[j]? = some t→args[j]? = some v→Value.okWide Tryz.prog W .any base t v)
  (hW:DataW.Whole enc Tryz.prog Tryz.f4.params.toList Rows.headDownSpec.vars false W args.toList ds gs before) (hk:Rows.uptoSmall H (ds++gs)=true) (hL:laidMetH Tryz.prog Rows.headDownUptoRow.laid W) :
  Calls Tryz.prog 4 args W λe W'=>∃v,e=.returned v∧Rows.headDownSpec.post enc Tryz.prog Tryz.f4 false true false false W args v W':=by
 have hW':=hW
 obtain ⟨p,q,hA0,hV,rfl,hfz,hnd⟩:=hW
 have hA:DataW.TrodAll enc Tryz.prog W 0 (λ_=>true) true Tryz.f4.params.toList args.toList ds p:=hA0
 rw [mK_] at hA hval
 obtain ⟨v0,v1,v2,d0,d1,d2,p0,p1,p2,rfl,rfl,rfl,h0,h1,h2⟩:=trodAll_three hA
 obtain ⟨rfl,rfl⟩:=trodVars_none hV
 have h0k:=h0
 have h1k:=h1
 have h2k:=h2
 obtain ⟨n,rfl⟩:=okWide_int uInt (hval 0 _ _ rfl rfl)
 obtain ⟨q1,l1,c1,rfl⟩:=okWide_slice uOps (hval 1 _ _ rfl rfl)
 obtain ⟨fs,hu,_⟩:=qj_ fOp
 obtain ⟨⟨cs2⟩,rfl,hs2⟩:=okWide_struct hu (hval 2 _ _ rfl rfl)
 rw [cOp] at hs2
 obtain ⟨fuel0,hf0⟩:=h0
 obtain ⟨n',e0,_,r0⟩:=DataW.trod_int uInt (show DataW.trod enc PR W 0 (λ_=>true) true fuel0 T.int [.int .i64 n]=some (d0,p0) from hf0)
 obtain rfl:n=n':=by injection e0 with e0;injection e0
 obtain ⟨fuel1,hf1⟩:=h1
 obtain ⟨fuel2,hf2⟩:=h2
 have hf2:DataW.trod enc PR W 0 (λ_=>true) true fuel2 T.aw_ cs2=some (d2,p2):=hf2
 have hs2:cs2.length=11:=by simpa using hs2
 have hl:=tK_ (d0:=d0) (d2:=d2) hf1 hk
 obtain ⟨y,ops,c,e,hops,hn⟩:=sT_ (v:=.slice q1 l1 c1) hf1
 cases e
 obtain ⟨o,bits,rfl,a1,a2,a3,a4,a5,_⟩:=tL_ hf2 hs2
 have hl0:∀x∈p0++p1++p2,x.block<W.heap.size:=λx hx=>hW'.lt x (by simpa using hx)
 refine kO_ (ly_ r0) hops rfl hl a1 a2 a3 a4 a5 hn (s6_ hL) λW' g=>?_
 have hb:=kH_ g
 refine jZ_ (pa:=p0++(p1++(p2++[]))) (pv:=[]) hW' (λ_ _ _=>trodAll_cons_mk (shut_bool sC_ _) trodAll_mk0)
  (λsp hsp=>?_) (λ_ _=>rfl) (by simp) hb (ok_one (by kernel_rfl) rfl (okWide_bool_mk sC_ _))
 rw [mK_]
 have stay:∀ {t:TypeId} {v:Value} {d:DataW H} {q:List MemPlace},PR.readableRec t=true→decide (t<PR.types.size)=true→(∀x∈q,x∈p0++p1++p2)→DataW.Trod enc PR W 0 (λ_=>true) true t v d q→DataW.Trod enc PR W' 0 sp true t v d q:=λhr hz hq h=>
  WideElems.Trod_stays layG hr (of_decide_eq_true hz) h (λx hx=>hb.same (hl0 x (hq x hx))) (λx hx=>hsp x (by simpa using hq x hx))
 exact trodAll_cons_mk (stay (show PR.readableRec T.int=true by kernel_rfl) (by kernel_rfl) (λx hx=>by simp [hx]) h0k) (trodAll_cons_mk (stay tF_ (by kernel_rfl) (λx hx=>by simp [hx]) h1k) (trodAll_cons_mk (stay ux_ (by kernel_rfl) (λx hx=>by simp [hx]) h2k) trodAll_mk0))
def zInD:Array Value:=#[.int .i64 0,.slice none 0 0,.agg #[.int .i64 0,.int .i64 0,.slice none 0 0,.int .i64 0,.int .i64 0,.int .i64 0,.string ⟨#[]⟩,.slice none 0 0,.string ⟨#[]⟩,.slice none 0 0,.int .i64 0]]
def um_ (H:Type):List (DataW H):=[.lit (.int .i64 0),.nil,.agg [.lit (.int .i64 0),.lit (.int .i64 0),.nil,.agg [.lit (.int .i64 0),.lit (.int .i64 0),.lit (.int .i64 0),.lit (.string []),.nil],.lit (.string []),.agg [.nil,.lit (.int .i64 0)]]]
theorem tG_ (os:Os) {H:Type} (enc:TypeId × Value→H):∃places,DataW.whole enc Tryz.prog ((h6_ os).forCall (λ_ _=>0) ⟨#[],zInD,[]⟩).memory Tryz.f4.params.toList Rows.headDownSpec.vars false zInD.toList 8 =
  some (um_ H,[],places):=
 ⟨[],by kernel_rfl⟩
theorem s1_ (os:Os) (started:os.Started) (H:Type) (enc:TypeId × Value→H) (F:Stop.Interp) :
  ReturnsInHanded {} Tryz.checked os 4 .any ((Rows.OpenSpec.upto Rows.headDownSpec).preRow enc Tryz.prog Tryz.f4 Rows.headDownUptoRow.domain false Rows.headDownUptoRow.laid) (((Rows.OpenSpec.upto Rows.headDownSpec).at F).post enc Tryz.prog Tryz.f4 false true false false):=by
 obtain ⟨places,hx⟩:=tG_ os enc
 refine returnsInHanded_of_row (C:=Tryz.checked) (s:=Rows.OpenSpec.upto Rows.headDownSpec) ownG started (by kernel_rfl) Tryz.func4
  (witness_row_atRef (enc:=enc) (C:=Tryz.checked) false (h6_ os) zInD rfl (by kernel_rfl) (by kernel_rfl) (by kernel_rfl)
   (OpenSpec.preRow_of_cond 8 hx (by kernel_rfl) (λk hk=>by cases hk;kernel_rfl) (by kernel_rfl) (rQ_ os _))) ?_
 intro W base args ds gs before hval hW _ hcond _ hL hsh _
 exact qE_ H enc W base args ds gs before hval hW (hcond _ rfl) hL
theorem tz_:Rows.HeadDownUptoSaid:=
 OpenClaim.holds_of_cond 4 Tryz.f4 rfl rfl rfl rfl rfl rfl rfl ⟨rfl,rfl,rfl,rfl,rfl⟩ rfl rfl rfl rfl rfl (by kernel_rfl) Tryz.func4 (by kernel_rfl)
  (of_decide_eq_true (by kernel_rfl)) (by unfold Func.isWrapper;first | (rw [if_pos (by decide +kernel)];kernel_rfl) | (rw [if_neg (by decide +kernel)];exact ⟨rfl,rfl⟩))
  (λos started H enc _ F=>by rw [OpenClaim.pre_eq_preRow];exact s1_ os started H enc F)
theorem tH_ (f:FuncId) (fn:Func) (hf:Tryz.pinned.checked.prog.funcNamed "lading/ladinglaw26.HeadDown" = some f) (hfn:Tryz.pinned.checked.prog.funcs[f]? = some fn) :
  true=Tryz.pinned.checked.prog.looks []∧∀(j:Nat) t,fn.params[j]? = some t→Tryz.pinned.checked.prog.wantsStandIn t=false:=by
 obtain rfl:f=4:=Option.some.inj ((show Tryz.prog.funcNamed "lading/ladinglaw26.HeadDown" = some 4 by kernel_rfl).symm.trans hf) |>.symm
 obtain rfl:fn=Tryz.f4:=(Option.some.inj (Tryz.func4.symm.trans hfn)).symm
 refine ⟨by kernel_rfl,λj t ht=>?_⟩
 rw [mK_] at ht
 have ht:t=T.int∨t=T.ap_∨t=T.aw_:=by simpa using Array.mem_of_getElem? ht
 rcases ht with rfl | rfl | rfl
 ·exact (show Tryz.prog.wantsStandIn T.int=false by kernel_rfl)
 ·exact (show Tryz.prog.wantsStandIn T.ap_=false by kernel_rfl)
 ·exact (show Tryz.prog.wantsStandIn T.aw_=false by kernel_rfl)
theorem cardHD:Rows.HeadDownUptoCardSaid:=
 Claim7.holds_tied_plain_at .later [] _ _ _ _ tz_ (λ_ h=>by cases h) (by kernel_rfl) (λ_ h=>by cases h) headDownUpto_row_tie rfl ⟨rfl,rfl⟩ (by kernel_rfl) rfl tH_ (by kernel_rfl)
end Go.Vc
