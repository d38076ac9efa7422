/-
  A part of the proof of the statement FetchPlaysCardSaid, in Lean: MirF2, Hs2, Hn1, Up, Mc1, Hs3, Kp1. By an AI agent.
-/
import Derived.Test.YthcpblejnhhhdaaGreatDoorP02
import Derived.Test.YthcpblejnhhhdaaGreatDoorP06
import Derived.Test.YthcpblejnhhhdaaGreatDoorP09
import Derived.Test.YthcpblejnhhhdaaGreatDoorP08
import Derived.Test.YthcpblejnhhhdaaGreatDoorShelfC
import Derived.Maps.OwnSet
set_option linter.unusedSimpArgs false
set_option linter.unusedVariables false
set_option maxRecDepth 100000
namespace Go.Vc
open Go
theorem ii_ (k0:Nat) (p1:Option Addr) (g2:Option Nat) (m3:Int) (m4:Int) (m5:Int) (m6:Int) (m7:Int) (S:SP) (K:KP) (w:World) (hF:Fs S w [⟨k0,#[.pointer p1,.map g2,.int .i64 m3,.int .i64 m4,.int .i64 m5,.int .i64 m6],97,true⟩] w) (hS:S k0∧True) (h:rn PR (Instr.lookup 93 (.map g2) (Iv m7) false) (λv0 w0=>∃q0,v0=.pointer q0∧Fs S w [⟨k0,#[.pointer p1,.map g2,Iv m3,Iv m4,Iv m5,Iv m6],97,true⟩] w0∧(q0=none→K (.tuple #[.pointer none,.iface 39 (Iv 13)]) w0)∧∀a0:Addr,q0=some a0→rn PR (Instr.lookup 93 (.map g2) (Iv m7) false) (λv1 w1=>∃q1,v1=.pointer q1∧Fs S w [⟨k0,#[.pointer p1,.map g2,Iv m3,Iv m4,Iv m5,Iv m6],97,true⟩] w1∧K (.tuple #[.pointer q1,.nilIface]) w1) w0) w):aa_ PR 51 ⟨[.pointer (some ⟨k0,0,none⟩),.int .i64 m7]⟩ w K:=
  ab_ (okf:=⟨okL,[]⟩) ag_ (args:=[.c (.p 0 k0 true 0),.c (.v (.int .i64 m7))]) (H:=[⟨k0,.l [.v (.pointer p1),.v (.map g2),.v (.int .i64 m3),.v (.int .i64 m4),.v (.int .i64 m5),.v (.int .i64 m6)],97,true⟩]) (.s .z (.s (.b (.s .z (.c .z (.s (.r ⟨(some [0]),false,[],[]⟩) .z)))) (.s (.r ⟨(some [0]),false,[],[]⟩) .z))) Go.Proofs.Tryz.func51 rfl ⟨rfl,trivial,trivial⟩ ⟨⟨trivial,⟨trivial,⟨trivial,⟨trivial,⟨trivial,⟨trivial,trivial⟩⟩⟩⟩⟩⟩,trivial⟩ hF hS (ad_ (by kernel_rfl) h)
theorem fV_ (k0:Nat) (p1:Option Addr) (g2:Option Nat) (m3:Int) (m4:Int) (m5:Int) (m6:Int) (S:SP) (K:KP) (w:World) (hF:Fs S w [⟨k0,#[.pointer p1,.map g2,.int .i64 m3,.int .i64 m4,.int .i64 m5,.int .i64 m6],97,true⟩] w) (hS:S k0∧True) (h:aa_ PR 53 #[.map g2] w λv0 w0=>∃v1,v0=v1∧Fs S w [⟨k0,#[.pointer p1,.map g2,Iv m3,Iv m4,Iv m5,Iv m6],97,true⟩] w0∧aa_ PR 41 #[v1] w0 λv2 w1=>∃q0 l0 l1,v2=.slice q0 l0 l1∧Fs S w [⟨k0,#[.pointer p1,.map g2,Iv m3,Iv m4,Iv m5,Iv m6],97,true⟩] w1∧K (.slice q0 l0 l1) w1):aa_ PR 17 ⟨[.pointer (some ⟨k0,0,none⟩)]⟩ w K:=
  ab_ (okf:=⟨okL,[]⟩) ag_ (args:=[.c (.p 0 k0 true 0)]) (H:=[⟨k0,.l [.v (.pointer p1),.v (.map g2),.v (.int .i64 m3),.v (.int .i64 m4),.v (.int .i64 m5),.v (.int .i64 m6)],97,true⟩]) (.s .z (.s .z (.s (.r ⟨(some [0]),false,[],[]⟩) .z))) Go.Proofs.Tryz.func17 rfl ⟨rfl,trivial⟩ ⟨⟨trivial,⟨trivial,⟨trivial,⟨trivial,⟨trivial,⟨trivial,trivial⟩⟩⟩⟩⟩⟩,trivial⟩ hF hS (ad_ (by kernel_rfl) h)
theorem fW_ (k0:Nat) (p1:Option Addr) (g2:Option Nat) (m3:Int) (m4:Int) (m5:Int) (m6:Int) (m7:Int) (S:SP) (K:KP) (w:World) (hF:Fs S w [⟨k0,#[.pointer p1,.map g2,.int .i64 m3,.int .i64 m4,.int .i64 m5,.int .i64 m6],97,true⟩] w) (hS:S k0∧True) (h:∀l0,w.heap.size≤l0→∀w0,Fr S w w [] [⟨k0,#[.pointer p1,.map g2,Iv m3,Iv m4,Iv m5,Iv m6],97,true⟩,⟨l0,#[Iv 0,Iv 0,Iv 0,.slice none 0 0,Iv 0,.string ⟨#[]⟩],44,true⟩] w0→let B0:Blk:=⟨k0,#[.pointer p1,.map g2,Iv m3,Iv m4,Iv m5,Iv m6],97,true⟩;aa_ PR 51 #[.pointer (some (⟨k0,0,none⟩)),Iv m7] w0 λv0 w1=>∃q0 v1,v0=.tuple #[.pointer q0,v1]∧Fs S w [B0,⟨l0,#[Iv 0,Iv 0,Iv 0,.slice none 0 0,Iv 0,.string ⟨#[]⟩],44,true⟩] w1∧(v1=.nilIface→Dr q0 λa0=>Dr (some a0) λa1=>Dr (some (Addr.add a1 0)) λa2=>∃n0,World.cell? w1 (Addr.add a2 0)=some (Iv n0)∧∃n1,World.cell? w1 (Addr.add a2 1)=some (Iv n1)∧∃n2,World.cell? w1 (Addr.add a2 2)=some (Iv n2)∧∃q1 l1 l2,World.cell? w1 (Addr.add a2 3)=some (.slice q1 l1 l2)∧∃n3,World.cell? w1 (Addr.add a2 4)=some (Iv n3)∧∃s0,World.cell? w1 (Addr.add a2 5)=some (.string s0)∧aa_ PR 106 #[.agg #[Iv n0,Iv n1,Iv n2,.slice q1 l1 l2,Iv n3,.string s0]] w1 λv2 w2=>∃n4 n5 n6 q2 l3 l4 n7 s1,v2=.agg #[Iv n4,Iv n5,Iv n6,.slice q2 l3 l4,Iv n7,.string s1]∧Fs S w [B0,⟨l0,#[Iv 0,Iv 0,Iv 0,.slice none 0 0,Iv 0,.string ⟨#[]⟩],44,true⟩] w2∧∀w3,Fr S w w2 [l0] [B0] w3→K (.tuple #[.agg #[Iv n4,Iv n5,Iv n6,.slice q2 l3 l4,Iv n7,.string s1],.nilIface]) w3)∧(∀x0 v3,v1=.iface x0 v3→∀w4,Fr S w w1 [l0] [B0] w4→K (.tuple #[.agg #[Iv 0,Iv 0,Iv 0,.slice none 0 0,Iv 0,.string ⟨#[]⟩],v1]) w4)∧(v1=.nilIface∨∃l5 v4,v1=.iface l5 v4)):aa_ PR 111 ⟨[.pointer (some ⟨k0,0,none⟩),.int .i64 m7]⟩ w K:=
  ab_ (okf:=⟨okL,[]⟩) ag_ (args:=[.c (.p 0 k0 true 0),.c (.v (.int .i64 m7))]) (H:=[⟨k0,.l [.v (.pointer p1),.v (.map g2),.v (.int .i64 m3),.v (.int .i64 m4),.v (.int .i64 m5),.v (.int .i64 m6)],97,true⟩]) (.s (.r ⟨(some [0]),false,[],[]⟩) (.s (.r ⟨(some [0,4]),false,[],[]⟩) (.s (.s .z (.c (.s (.r ⟨(some [4]),false,[],[]⟩) .z) .z)) (.s (.r ⟨(some [4]),false,[],[]⟩) .z)))) Go.Proofs.Tryz.func111 rfl ⟨rfl,trivial,trivial⟩ ⟨⟨trivial,⟨trivial,⟨trivial,⟨trivial,⟨trivial,⟨trivial,trivial⟩⟩⟩⟩⟩⟩,trivial⟩ hF hS (ad_ (by kernel_rfl) h)
theorem kq_ (k0:Nat) (p1:Option Addr) (g2:Option Nat) (m3:Int) (m4:Int) (m5:Int) (m6:Int) (m7:Int) (m8:Int) (m9:Int) (y10:Option Addr) (ly10:Nat) (cy10:Nat) (m11:Int) (z12:ByteArray) (S:SP) (K:KP) (w:World) (hF:Fs S w [⟨k0,#[.pointer p1,.map g2,.int .i64 m3,.int .i64 m4,.int .i64 m5,.int .i64 m6],97,true⟩] w) (hS:S k0∧True) (h:∀l0,w.heap.size≤l0→∀w0,Fr S w w [] [⟨k0,#[.pointer p1,.map g2,Iv m3,Iv m4,Iv m5,Iv m6],97,true⟩,⟨l0,#[Iv m7,Iv m8,Iv m9,.slice y10 ly10 cy10,Iv m11,.string z12],44,true⟩] w0→let B1:Blk:=⟨l0,#[Iv m7,Iv m8,Iv m9,.slice y10 ly10 cy10,Iv m11,.string z12],44,true⟩;let B0:Blk:=⟨k0,#[.pointer p1,.map g2,Iv m3,Iv m4,Iv m5,Iv m6],97,true⟩;aa_ PR 46 #[.agg #[Iv m7,Iv m8,Iv m9,.slice y10 ly10 cy10,Iv m11,.string z12]] w0 λv0 w1=>∃s0 v1,v0=.tuple #[.string s0,v1]∧Fs S w [B0,B1] w1∧(v1=.nilIface→∀w2,Fr S w w1 [] [B0,B1] w2→∃I0:World→Prop,I0 w2∧rn PR (Instr.lookup 93 (.map g2) (Iv m7) false) (λv2 w3=>∃q0,v2=.pointer q0∧Fs S w [B0,B1] w3∧I0 w3∧∀w4,Fr S w w3 [] [B0,B1] w4→∃I1:World→Prop,I1 w4∧(q0=none→∀w5,Fr S w w4 [] [B0,B1] w5→∃I2:World→Prop,I2 w5∧(q0=none→(m7≤m3→K (.iface 39 (Iv 13)) w5)∧(¬(m7≤m3)→rn PR (Builtin.len_ #[93] 3 #[.map g2]) (λv3 w6=>∃n0,v3=Iv n0∧Fs S w [B0,B1] w6∧(n0≥3→K (.iface 39 (Iv 7)) w6)∧(¬(n0≥3)→((1+(ByteArray.size s0)):Nat)≤9223372036854775807∧∀l1,w6.heap.size≤l1→∀w7,Fr S w w6 [] [B0,B1,⟨l1,#[.string ((⟨#[77]⟩:ByteArray)++s0)],9,true⟩] w7→aa_ PR 48 #[.pointer p1,.slice (some (⟨l1,0,none⟩)) 1 1] w7 λv4 w8=>∃v5,v4=v5∧∃s1,Fs S w [B0,B1,⟨l1,#[.string s1],9,true⟩] w8∧(v5=.nilIface→aa_ PR 49 #[.pointer (some (⟨k0,0,none⟩)),.agg #[Iv m7,Iv m8,Iv m9,.slice y10 ly10 cy10,Iv m11,.string z12]] w8 λv6 w9=>v6=.tuple #[]∧∃q1 q2 n1 n2 n3 n4,Fs S w [⟨k0,#[.pointer q1,.map q2,Iv n1,Iv n2,Iv n3,Iv n4],97,true⟩,B1] w9∧K .nilIface w9)∧(∀x0 v7,v5=.iface x0 v7→K v5 w8)∧(v5=.nilIface∨∃l2 v8,v5=.iface l2 v8))) w5))∧∀a0:Addr,q0=some a0→K (.iface 39 (Iv 13)) w5)∧∀a1:Addr,q0=some a1→Dr q0 λa2=>Dr (some a2) λa3=>Dr (some (Addr.add a3 0)) λa4=>∃n5,(∀w10,I1 w10→World.cell? w10 (Addr.add a4 0)=some (Iv n5))∧∃n6,(∀w11,I1 w11→World.cell? w11 (Addr.add a4 1)=some (Iv n6))∧∃n7,(∀w12,I1 w12→World.cell? w12 (Addr.add a4 2)=some (Iv n7))∧∃q3 l3 l4,(∀w13,I1 w13→World.cell? w13 (Addr.add a4 3)=some (.slice q3 l3 l4))∧∃n8,(∀w14,I1 w14→World.cell? w14 (Addr.add a4 4)=some (Iv n8))∧∃s2,(∀w15,I1 w15→World.cell? w15 (Addr.add a4 5)=some (.string s2))∧aa_ PR 47 #[.agg #[Iv n5,Iv n6,Iv n7,.slice q3 l3 l4,Iv n8,.string s2],.agg #[Iv m7,Iv m8,Iv m9,.slice y10 ly10 cy10,Iv m11,.string z12]] w4 λv9 w16=>∃b0,v9=.bool b0∧(b0=true→Fs S w [B0,B1] w16∧I1 w16∧K .nilIface w16)∧(b0=false→Fs S w [B0,B1] w16∧I1 w16∧∀w17,Fr S w w16 [] [B0,B1] w17→∃I3:World→Prop,I3 w17∧(q0=none→(m7≤m3→K (.iface 39 (Iv 13)) w17)∧(¬(m7≤m3)→rn PR (Builtin.len_ #[93] 3 #[.map g2]) (λv10 w18=>∃n9,v10=Iv n9∧Fs S w [B0,B1] w18∧(n9≥3→K (.iface 39 (Iv 7)) w18)∧(¬(n9≥3)→((1+(ByteArray.size s0)):Nat)≤9223372036854775807∧∀l5,w18.heap.size≤l5→∀w19,Fr S w w18 [] [B0,B1,⟨l5,#[.string ((⟨#[77]⟩:ByteArray)++s0)],9,true⟩] w19→aa_ PR 48 #[.pointer p1,.slice (some (⟨l5,0,none⟩)) 1 1] w19 λv11 w20=>∃v12,v11=v12∧∃s3,Fs S w [B0,B1,⟨l5,#[.string s3],9,true⟩] w20∧(v12=.nilIface→aa_ PR 49 #[.pointer (some (⟨k0,0,none⟩)),.agg #[Iv m7,Iv m8,Iv m9,.slice y10 ly10 cy10,Iv m11,.string z12]] w20 λv13 w21=>v13=.tuple #[]∧∃q4 q5 n10 n11 n12 n13,Fs S w [⟨k0,#[.pointer q4,.map q5,Iv n10,Iv n11,Iv n12,Iv n13],97,true⟩,B1] w21∧K .nilIface w21)∧(∀x1 v14,v12=.iface x1 v14→K v12 w20)∧(v12=.nilIface∨∃l6 v15,v12=.iface l6 v15))) w17))∧∀a5:Addr,q0=some a5→K (.iface 39 (Iv 13)) w17)) w2)∧(∀x2 v16,v1=.iface x2 v16→K v1 w1)∧(v1=.nilIface∨∃l7 v17,v1=.iface l7 v17)):aa_ PR 10 ⟨[.pointer (some ⟨k0,0,none⟩),.agg #[.int .i64 m7,.int .i64 m8,.int .i64 m9,.slice y10 ly10 cy10,.int .i64 m11,.string z12]]⟩ w K:=
  ab_ (okf:=⟨okL,[]⟩) ag_ (args:=[.c (.p 0 k0 true 0),.a [.v (.int .i64 m7),.v (.int .i64 m8),.v (.int .i64 m9),.v (.slice y10 ly10 cy10),.v (.int .i64 m11),.v (.string z12)]]) (H:=[⟨k0,.l [.v (.pointer p1),.v (.map g2),.v (.int .i64 m3),.v (.int .i64 m4),.v (.int .i64 m5),.v (.int .i64 m6)],97,true⟩]) (.s (.r ⟨(some [0]),true,[],[]⟩) (.s .z (.s (.r ⟨(some [0,3]),true,[],[]⟩) (.s .z (.s (.r ⟨(some [0,3]),true,[],[]⟩) (.s (.b (.s (.r ⟨(some [0,3]),true,[],[]⟩) (.c .z (.s (.r ⟨(some [0,3]),true,[],[]⟩) (.c .z (.s (.r ⟨(some [0,3]),true,[],[]⟩) .z)))))) (.s (.s (.r ⟨(some [0,3]),true,[],[(7,[999])]⟩) .z) (.s (.r ⟨(some [0,3]),true,[],[(2,[999])]⟩) .z)))))))) Go.Proofs.Tryz.func10 rfl ⟨rfl,⟨trivial,trivial,trivial,trivial,trivial,trivial,trivial⟩,trivial⟩ ⟨⟨trivial,⟨trivial,⟨trivial,⟨trivial,⟨trivial,⟨trivial,trivial⟩⟩⟩⟩⟩⟩,trivial⟩ hF hS (ad_ (by kernel_rfl) h)
theorem rj_ (k0:Nat) (p1:Option Addr) (g2:Option Nat) (m3:Int) (m4:Int) (m5:Int) (m6:Int) (m7:Int) (m8:Int) (m9:Int) (y10:Option Addr) (ly10:Nat) (cy10:Nat) (m11:Int) (z12:ByteArray) (S:SP) (K:KP) (w:World) (hF:Fs S w [⟨k0,#[.pointer p1,.map g2,.int .i64 m3,.int .i64 m4,.int .i64 m5,.int .i64 m6],97,true⟩] w) (hS:S k0∧True) (h:∀l0,w.heap.size≤l0→(∀w0,Fr S w w [] [⟨k0,#[.pointer p1,.map g2,Iv m3,Iv m4,Iv m5,Iv m6],97,true⟩,⟨l0,#[Iv m7,Iv m8,Iv m9,.slice y10 ly10 cy10,Iv m11,.string z12],44,true⟩] w0→let B1:Blk:=⟨l0,#[Iv m7,Iv m8,Iv m9,.slice y10 ly10 cy10,Iv m11,.string z12],44,true⟩;let B0:Blk:=⟨k0,#[.pointer p1,.map g2,Iv m3,Iv m4,Iv m5,Iv m6],97,true⟩;aa_ PR 106 #[.agg #[Iv m7,Iv m8,Iv m9,.slice y10 ly10 cy10,Iv m11,.string z12]] w0 λv0 w1=>∃n0 n1 n2 q0 l1 l2 n3 s0,v0=.agg #[Iv n0,Iv n1,Iv n2,.slice q0 l1 l2,Iv n3,.string s0]∧Fs S w [B0,B1] w1∧rn PR (Instr.makeMap 104 none) (λv1 w2=>∃q1,v1=.map q1∧Fs S w [B0,B1] w2∧rn PR (Instr.makeMap 104 none) (λv2 w3=>∃q2,v2=.map q2∧Fs S w [B0,B1] w3∧∀l3,w3.heap.size≤l3→∀w4,Fr S w w3 [] [B0,B1,⟨l3,#[Iv n0,Iv n1,Iv n2,.slice q0 l1 l2,Iv n3,.string s0,.map q1,.map q2],108,true⟩] w4→rn PR (Instr.mapUpdate 93 (.map g2) (Iv m7) (.pointer (some (⟨l3,0,none⟩)))) (λx0 w5=>Fs S w [B0,B1,⟨l3,#[Iv n0,Iv n1,Iv n2,.slice q0 l1 l2,Iv n3,.string s0,.map q1,.map q2],108,true⟩] w5∧K (.tuple #[]) w5) w4) w2) w1∧rn PR (Instr.makeMap 104 none) (λv3 w6=>∃q3,v3=.map q3∧Fs S w [B0,B1] w6∧rn PR (Instr.makeMap 104 none) (λv4 w7=>∃q4,v4=.map q4∧Fs S w [B0,B1] w7∧∀l4,w7.heap.size≤l4→∀w8,Fr S w w7 [] [B0,B1,⟨l4,#[Iv n0,Iv n1,Iv n2,.slice q0 l1 l2,Iv n3,.string s0,.map q4,.map q3],108,true⟩] w8→rn PR (Instr.mapUpdate 93 (.map g2) (Iv m7) (.pointer (some (⟨l4,0,none⟩)))) (λx1 w9=>Fs S w [B0,B1,⟨l4,#[Iv n0,Iv n1,Iv n2,.slice q0 l1 l2,Iv n3,.string s0,.map q4,.map q3],108,true⟩] w9∧K (.tuple #[]) w9) w8) w6) w1)∧(∀w10,Fr S w w [] [⟨k0,#[.pointer p1,.map g2,Iv m3,Iv m4,Iv m5,Iv m6],97,true⟩,⟨l0,#[Iv m7,Iv m8,Iv m9,.slice y10 ly10 cy10,Iv m11,.string z12],44,true⟩] w10→let B3:Blk:=⟨l0,#[Iv m7,Iv m8,Iv m9,.slice y10 ly10 cy10,Iv m11,.string z12],44,true⟩;let B2:Blk:=⟨k0,#[.pointer p1,.map g2,Iv m3,Iv m4,Iv m5,Iv m6],97,true⟩;rn PR (Instr.makeMap 104 none) (λv5 w11=>∃q5,v5=.map q5∧Fs S w [B2,B3] w11∧aa_ PR 106 #[.agg #[Iv m7,Iv m8,Iv m9,.slice y10 ly10 cy10,Iv m11,.string z12]] w11 (λv6 w12=>∃n4 n5 n6 q6 l5 l6 n7 s1,v6=.agg #[Iv n4,Iv n5,Iv n6,.slice q6 l5 l6,Iv n7,.string s1]∧Fs S w [B2,B3] w12∧rn PR (Instr.makeMap 104 none) (λv7 w13=>∃q7,v7=.map q7∧Fs S w [B2,B3] w13∧∀l7,w13.heap.size≤l7→∀w14,Fr S w w13 [] [B2,B3,⟨l7,#[Iv n4,Iv n5,Iv n6,.slice q6 l5 l6,Iv n7,.string s1,.map q5,.map q7],108,true⟩] w14→rn PR (Instr.mapUpdate 93 (.map g2) (Iv m7) (.pointer (some (⟨l7,0,none⟩)))) (λx2 w15=>Fs S w [B2,B3,⟨l7,#[Iv n4,Iv n5,Iv n6,.slice q6 l5 l6,Iv n7,.string s1,.map q5,.map q7],108,true⟩] w15∧K (.tuple #[]) w15) w14) w12)∧rn PR (Instr.makeMap 104 none) (λv8 w16=>∃q8,v8=.map q8∧Fs S w [B2,B3] w16∧aa_ PR 106 #[.agg #[Iv m7,Iv m8,Iv m9,.slice y10 ly10 cy10,Iv m11,.string z12]] w16 λv9 w17=>∃n8 n9 n10 q9 l8 l9 n11 s2,v9=.agg #[Iv n8,Iv n9,Iv n10,.slice q9 l8 l9,Iv n11,.string s2]∧Fs S w [B2,B3] w17∧∀l10,w17.heap.size≤l10→∀w18,Fr S w w17 [] [B2,B3,⟨l10,#[Iv n8,Iv n9,Iv n10,.slice q9 l8 l9,Iv n11,.string s2,.map q5,.map q8],108,true⟩] w18→rn PR (Instr.mapUpdate 93 (.map g2) (Iv m7) (.pointer (some (⟨l10,0,none⟩)))) (λx3 w19=>Fs S w [B2,B3,⟨l10,#[Iv n8,Iv n9,Iv n10,.slice q9 l8 l9,Iv n11,.string s2,.map q5,.map q8],108,true⟩] w19∧K (.tuple #[]) w19) w18) w11) w10)∧∀w20,Fr S w w [] [⟨k0,#[.pointer p1,.map g2,Iv m3,Iv m4,Iv m5,Iv m6],97,true⟩,⟨l0,#[Iv m7,Iv m8,Iv m9,.slice y10 ly10 cy10,Iv m11,.string z12],44,true⟩] w20→let B5:Blk:=⟨l0,#[Iv m7,Iv m8,Iv m9,.slice y10 ly10 cy10,Iv m11,.string z12],44,true⟩;let B4:Blk:=⟨k0,#[.pointer p1,.map g2,Iv m3,Iv m4,Iv m5,Iv m6],97,true⟩;rn PR (Instr.makeMap 104 none) (λv10 w21=>∃q10,v10=.map q10∧Fs S w [B4,B5] w21∧aa_ PR 106 #[.agg #[Iv m7,Iv m8,Iv m9,.slice y10 ly10 cy10,Iv m11,.string z12]] w21 (λv11 w22=>∃n12 n13 n14 q11 l11 l12 n15 s3,v11=.agg #[Iv n12,Iv n13,Iv n14,.slice q11 l11 l12,Iv n15,.string s3]∧Fs S w [B4,B5] w22∧rn PR (Instr.makeMap 104 none) (λv12 w23=>∃q12,v12=.map q12∧Fs S w [B4,B5] w23∧∀l13,w23.heap.size≤l13→∀w24,Fr S w w23 [] [B4,B5,⟨l13,#[Iv n12,Iv n13,Iv n14,.slice q11 l11 l12,Iv n15,.string s3,.map q12,.map q10],108,true⟩] w24→rn PR (Instr.mapUpdate 93 (.map g2) (Iv m7) (.pointer (some (⟨l13,0,none⟩)))) (λx4 w25=>Fs S w [B4,B5,⟨l13,#[Iv n12,Iv n13,Iv n14,.slice q11 l11 l12,Iv n15,.string s3,.map q12,.map q10],108,true⟩] w25∧K (.tuple #[]) w25) w24) w22)∧rn PR (Instr.makeMap 104 none) (λv13 w26=>∃q13,v13=.map q13∧Fs S w [B4,B5] w26∧aa_ PR 106 #[.agg #[Iv m7,Iv m8,Iv m9,.slice y10 ly10 cy10,Iv m11,.string z12]] w26 λv14 w27=>∃n16 n17 n18 q14 l14 l15 n19 s4,v14=.agg #[Iv n16,Iv n17,Iv n18,.slice q14 l14 l15,Iv n19,.string s4]∧Fs S w [B4,B5] w27∧∀l16,w27.heap.size≤l16→∀w28,Fr S w w27 [] [B4,B5,⟨l16,#[Iv n16,Iv n17,Iv n18,.slice q14 l14 l15,Iv n19,.string s4,.map q13,.map q10],108,true⟩] w28→rn PR (Instr.mapUpdate 93 (.map g2) (Iv m7) (.pointer (some (⟨l16,0,none⟩)))) (λx5 w29=>Fs S w [B4,B5,⟨l16,#[Iv n16,Iv n17,Iv n18,.slice q14 l14 l15,Iv n19,.string s4,.map q13,.map q10],108,true⟩] w29∧K (.tuple #[]) w29) w28) w21) w20):aa_ PR 49 ⟨[.pointer (some ⟨k0,0,none⟩),.agg #[.int .i64 m7,.int .i64 m8,.int .i64 m9,.slice y10 ly10 cy10,.int .i64 m11,.string z12]]⟩ w K:=
  ab_ (okf:=⟨okL,[]⟩) ag_ (args:=[.c (.p 0 k0 true 0),.a [.v (.int .i64 m7),.v (.int .i64 m8),.v (.int .i64 m9),.v (.slice y10 ly10 cy10),.v (.int .i64 m11),.v (.string z12)]]) (H:=[⟨k0,.l [.v (.pointer p1),.v (.map g2),.v (.int .i64 m3),.v (.int .i64 m4),.v (.int .i64 m5),.v (.int .i64 m6)],97,true⟩]) (.s (.r ⟨(some [0]),false,[],[]⟩) (.r ⟨(some [0,3]),false,[],[]⟩)) Go.Proofs.Tryz.func49 rfl ⟨rfl,⟨trivial,trivial,trivial,trivial,trivial,trivial,trivial⟩,trivial⟩ ⟨⟨trivial,⟨trivial,⟨trivial,⟨trivial,⟨trivial,⟨trivial,trivial⟩⟩⟩⟩⟩⟩,trivial⟩ hF hS (ad_ (by kernel_rfl) h)
theorem iZ_ (k0:Nat) (p1:Option Addr) (g2:Option Nat) (m3:Int) (m4:Int) (m5:Int) (m6:Int) (S:SP) (K:KP) (w:World) (hF:Fs S w [⟨k0,#[.pointer p1,.map g2,.int .i64 m3,.int .i64 m4,.int .i64 m5,.int .i64 m6],97,true⟩] w) (hS:S k0∧True) (h:rn PR (Instr.makeMap 37 none) (λv0 w0=>∃q0,v0=.map q0∧Fs S w [⟨k0,#[.pointer p1,.map g2,Iv m3,Iv m4,Iv m5,Iv m6],97,true⟩] w0∧let B0:Blk:=⟨k0,#[.pointer p1,.map g2,Iv m3,Iv m4,Iv m5,Iv m6],97,true⟩;rn PR (Instr.range 93 (.map g2)) (λv1 w1=>Fs S w [B0] w1∧∃I0:Nat→World→Prop,(∃l0,I0 l0 w1)∧∀D0:Nat→Value,∀l1 w2,I0 l1 w2→Fs S w [B0] w2→rn PR (Instr.next v1 false 0) (λv2 w3=>(v2=.tuple #[.bool false]∧Fs S w [B0] w3∧K (.map q0) w3)∨∃v3 v4,v2=.tuple #[.bool true,v3,v4]∧Fs S w [B0] w3∧rn PR (Instr.entry v1) (λv5 w4=>∃v6 v7,v5=.tuple #[v6,v7]∧Fs S w [B0] w4∧∃q1,v7=.pointer q1∧∀w5,Fr S w w4 [] [B0] w5→∃I1:World→Prop,I1 w5∧Dr q1 λa0=>Dr (some a0) λa1=>Dr (some (Addr.add a1 6)) λa2=>∃q2,(∀w6,I1 w6→World.cell? w6 a2=some (.map q2))∧Dr q1 λa3=>Dr (some a3) λa4=>Dr (some (Addr.add a4 7)) λa5=>∃q3,(∀w7,I1 w7→World.cell? w7 a5=some (.map q3))∧∀l2,w5.heap.size≤l2→∀w8,Fr S w w5 [] [B0,⟨l2,#[.map q2,.map q3],104,true⟩] w8→let B1:Blk:=⟨l2,#[.map q2,.map q3],104,true⟩;I1 w8∧∃I2:Int→Nat→World→Prop,(∃l3,I2 0 l3 w8)∧∀n0,∀D1:Nat→Value,∀l4 w9,I2 n0 l4 w9→Fs S w [B0,B1] w9→(n0<2→(0:Int)≤n0∧n0<2∧∃q4,((#[.map q2,.map q3]:Array Value)[((0:Nat)+(Int.toNat n0*1))]? : Option Value)=some (.map q4)∧rn PR (Instr.range 104 (.map q4)) (λv8 w10=>Fs S w [B0,B1] w10∧∃I3:Nat→World→Prop,(∃l5,I3 l5 w10)∧∀D2:Nat→Value,∀l6 w11,I3 l6 w11→Fs S w [B0,B1] w11→rn PR (Instr.next v8 false 0) (λv9 w12=>(v9=.tuple #[.bool false]∧Fs S w [B0,B1] w12∧∃l7,l7<l4∧I2 (IntKind.wrap .i64 (n0+1)) l7 w12)∨∃v10 v11,v9=.tuple #[.bool true,v10,v11]∧Fs S w [B0,B1] w12∧rn PR (Instr.entry v8) (λv12 w13=>∃v13 v14,v12=.tuple #[v13,v14]∧Fs S w [B0,B1] w13∧∃n1 s0,v14=.agg #[Iv n1,.string s0]∧∀l8,w13.heap.size≤l8→∀w14,Fr S w w13 [l8] [B0,B1,⟨l8,#[Iv n1,.string s0],106,true⟩] w14→rn PR (Instr.mapUpdate 37 (.map q0) (Iv n1) (.bool true)) (λx0 w15=>Fs S w [B0,B1,⟨l8,#[Iv n1,.string s0],106,true⟩] w15∧∃l9,l9<l6∧I3 l9 w15) w14) w12) w11) w9)∧(¬(n0<2)→∃l10,l10<l1∧I0 l10 w9)) w3) w2) w0) w):aa_ PR 119 ⟨[.pointer (some ⟨k0,0,none⟩)]⟩ w K:=
  ab_ (okf:=⟨okL,[39,19]⟩) ag_ (args:=[.c (.p 0 k0 true 0)]) (H:=[⟨k0,.l [.v (.pointer p1),.v (.map g2),.v (.int .i64 m3),.v (.int .i64 m4),.v (.int .i64 m5),.v (.int .i64 m6)],97,true⟩]) (.s .z (.s (.r ⟨(some [0]),true,[],[]⟩) (.s (.s (.r ⟨(some [0]),true,[],[]⟩) (.b (.l (some []) (some []) [] [] (.s (.r ⟨(some []),true,[],[]⟩) (.s .z (.b (.s (.r ⟨(some []),true,[],[]⟩) (.s (.r ⟨(some []),true,[],[]⟩) (.b (.l (some [28]) (some [28]) [(30,.c (.int .i64))] [] (.s .z (.s .z (.s (.b (.s .z (.s (.r ⟨(some [7,28]),true,[],[]⟩) (.b (.l (some [28]) (some [28]) [] [] (.s (.r ⟨(some [28]),true,[],[]⟩) (.s .z (.b (.s (.r ⟨(some [28]),true,[],[]⟩) (.r ⟨(some [9,28]),true,[],[]⟩)))))))))) .z))))))))))))) .z))) Go.Proofs.Tryz.func119 rfl ⟨rfl,trivial⟩ ⟨⟨trivial,⟨trivial,⟨trivial,⟨trivial,⟨trivial,⟨trivial,trivial⟩⟩⟩⟩⟩⟩,trivial⟩ hF hS (ad_ (by kernel_rfl) h)
theorem i0_ (k0:Nat) (p1:Option Addr) (g2:Option Nat) (m3:Int) (m4:Int) (m5:Int) (m6:Int) (k7:Nat) (m8:Int) (m9:Int) (m10:Int) (y11:Option Addr) (ly11:Nat) (cy11:Nat) (m12:Int) (z13:ByteArray) (g14:Option Nat) (g15:Option Nat) (m16:Int) (S:SP) (K:KP) (w:World) (hF:Fs S w [⟨k0,#[.pointer p1,.map g2,.int .i64 m3,.int .i64 m4,.int .i64 m5,.int .i64 m6],97,true⟩,⟨k7,#[.int .i64 m8,.int .i64 m9,.int .i64 m10,.slice y11 ly11 cy11,.int .i64 m12,.string z13,.map g14,.map g15],108,false⟩] w) (hS:S k0∧True) (h:rn PR (Instr.lookup 104 (.map g15) (Iv m16) true) (λv0 w0=>∃n0 s0 b0,v0=.tuple #[.agg #[Iv n0,.string s0],.bool b0]∧(b0=true→Fs S w [⟨k0,#[.pointer p1,.map g2,Iv m3,Iv m4,Iv m5,Iv m6],97,true⟩,⟨k7,#[Iv m8,Iv m9,Iv m10,.slice y11 ly11 cy11,Iv m12,.string z13,.map g14,.map g15],108,false⟩] w0∧∀l0,w0.heap.size≤l0→∀w1,Fr S w w0 [l0] [⟨k0,#[.pointer p1,.map g2,Iv m3,Iv m4,Iv m5,Iv m6],97,true⟩,⟨k7,#[Iv m8,Iv m9,Iv m10,.slice y11 ly11 cy11,Iv m12,.string z13,.map g14,.map g15],108,false⟩] w1→K (.tuple #[Iv n0,.bool true]) w1)∧(b0=false→Fs S w [⟨k0,#[.pointer p1,.map g2,Iv m3,Iv m4,Iv m5,Iv m6],97,true⟩,⟨k7,#[Iv m8,Iv m9,Iv m10,.slice y11 ly11 cy11,Iv m12,.string z13,.map g14,.map g15],108,false⟩] w0∧let B1:Blk:=⟨k7,#[Iv m8,Iv m9,Iv m10,.slice y11 ly11 cy11,Iv m12,.string z13,.map g14,.map g15],108,false⟩;let B0:Blk:=⟨k0,#[.pointer p1,.map g2,Iv m3,Iv m4,Iv m5,Iv m6],97,true⟩;∀l1,w0.heap.size≤l1→∀w2,Fr S w w0 [l1] [B0,B1] w2→aa_ PR 119 #[.pointer (some (⟨k0,0,none⟩))] w2 λv1 w3=>∃q0,v1=.map q0∧Fs S w [B0,B1] w3∧Dr p1 λa0=>Dr (some a0) λa1=>Dr (some (Addr.add a1 0)) λa2=>∃q1,World.cell? w3 a2=some (.pointer q1)∧aa_ PR 120 #[.pointer q1] w3 λv2 w4=>∃n1,v2=Iv n1∧Fs S w [B0,B1] w4∧∃I0:Int→Nat→World→Prop,(∃l2,I0 0 l2 w4)∧∀n2,∀D0:Nat→Value,∀l3 w5,I0 n2 l3 w5→Fs S w [B0,B1] w5→(n2<n1→rn PR (Instr.lookup 37 (.map q0) (Iv n2) false) (λv3 w6=>∃b1,v3=.bool b1∧(b1=true→Fs S w [B0,B1] w6∧∃l4,l4<l3∧I0 (IntKind.wrap .i64 (n2+1)) l4 w6)∧(b1=false→Fs S w [B0,B1] w6∧K (.tuple #[Iv n2,.bool true]) w6)) w5)∧(¬(n2<n1)→K (.tuple #[Iv 0,.bool false]) w5))) w):aa_ PR 66 ⟨[.pointer (some ⟨k0,0,none⟩),.pointer (some ⟨k7,0,none⟩),.int .i64 m16]⟩ w K:=
  ab_ (okf:=⟨okL,[]⟩) ag_ (args:=[.c (.p 0 k0 true 0),.c (.p 1 k7 true 0),.c (.v (.int .i64 m16))]) (H:=[⟨k0,.l [.v (.pointer p1),.v (.map g2),.v (.int .i64 m3),.v (.int .i64 m4),.v (.int .i64 m5),.v (.int .i64 m6)],97,true⟩,⟨k7,.l [.v (.int .i64 m8),.v (.int .i64 m9),.v (.int .i64 m10),.v (.slice y11 ly11 cy11),.v (.int .i64 m12),.v (.string z13),.v (.map g14),.v (.map g15)],108,false⟩]) (.s .z (.s (.s (.r ⟨(some [0,1]),false,[],[]⟩) .z) (.s (.r ⟨(some [0]),false,[],[]⟩) (.s (.s (.r ⟨(some [0]),false,[],[]⟩) (.b (.l (some []) (some []) [(34,.c (.int .i64))] [] (.s .z (.s .z (.s (.b (.s .z (.s (.r ⟨(some []),false,[],[]⟩) .z))) .z)))))) .z)))) Go.Proofs.Tryz.func66 rfl ⟨rfl,rfl,trivial,trivial⟩ ⟨⟨trivial,⟨trivial,⟨trivial,⟨trivial,⟨trivial,⟨trivial,trivial⟩⟩⟩⟩⟩⟩,⟨⟨trivial,⟨trivial,⟨trivial,⟨trivial,⟨trivial,⟨trivial,⟨trivial,⟨trivial,trivial⟩⟩⟩⟩⟩⟩⟩⟩,trivial⟩⟩ hF hS (ad_ (by kernel_rfl) h)
theorem kp_ (k0:Nat) (p1:Option Addr) (g2:Option Nat) (m3:Int) (m4:Int) (m5:Int) (m6:Int) (m7:Int) (m8:Int) (z9:ByteArray) (y10:Option Addr) (ly10:Nat) (cy10:Nat) (S:SP) (K:KP) (w:World) (hF:Fs S w [⟨k0,#[.pointer p1,.map g2,.int .i64 m3,.int .i64 m4,.int .i64 m5,.int .i64 m6],97,true⟩] w) (hS:S k0∧True) (h:aa_ PR 51 #[.pointer (some (⟨k0,0,none⟩)),Iv m7] w λv0 w0=>∃q0 v1,v0=.tuple #[.pointer q0,v1]∧Fs S w [⟨k0,#[.pointer p1,.map g2,Iv m3,Iv m4,Iv m5,Iv m6],97,true⟩] w0∧let B0:Blk:=⟨k0,#[.pointer p1,.map g2,Iv m3,Iv m4,Iv m5,Iv m6],97,true⟩;(v1=.nilIface→∀w1,Fr S w w0 [] [B0] w1→∃I0:World→Prop,I0 w1∧Dr q0 λa0=>Dr (some a0) λa1=>Dr (some (Addr.add a1 0)) λa2=>Dr (some (Addr.add a2 5)) λa3=>∃s0,(∀w2,I0 w2→World.cell? w2 a3=some (.string s0))∧Dr q0 λa4=>Dr (some a4) λa5=>Dr (some (Addr.add a5 0)) λa6=>Dr (some (Addr.add a6 4)) λa7=>∃n0,(∀w3,I0 w3→World.cell? w3 a7=some (Iv n0))∧aa_ PR 65 #[.string s0,Iv m8,Iv n0,.string z9,.slice y10 ly10 cy10] w1 λv2 w4=>∃v3,v2=v3∧Fs S w [B0] w4∧I0 w4∧(v3=.nilIface→Dr q0 λa8=>Dr (some a8) λa9=>Dr (some (Addr.add a9 6)) λa10=>∃q1,World.cell? w4 a10=some (.map q1)∧rn PR (Instr.lookup 104 (.map q1) (Iv m8) true) (λv4 w5=>∃n1 s1 b0,v4=.tuple #[.agg #[Iv n1,.string s1],.bool b0]∧(b0=true→Fs S w [B0] w5∧∀l0,w5.heap.size≤l0→∀w6,Fr S w w5 [l0] [B0] w6→K .nilIface w6)∧(b0=false→Fs S w [B0] w5∧∀l1,w5.heap.size≤l1→∀w7,Fr S w w5 [l1] [B0] w7→aa_ PR 66 #[.pointer (some (⟨k0,0,none⟩)),.pointer q0,Iv m8] w7 λv5 w8=>∃n2 b1,v5=.tuple #[Iv n2,.bool b1]∧(b1=true→Fs S w [B0] w8∧aa_ PR 67 #[.string z9] w8 λv6 w9=>∃s2,v6=.string s2∧Fs S w [B0] w9∧∀l2,w9.heap.size≤l2→Dr p1 λa11=>Dr (some a11) λa12=>∀w10,Fr S w w9 [l2] [B0,⟨l2,#[Iv n2,.string s2],106,true⟩] w10→let B1:Blk:=⟨l2,#[Iv n2,.string s2],106,true⟩;Dr (some (Addr.add a12 0)) λa13=>∃q2,World.cell? w10 a13=some (.pointer q2)∧aa_ PR 68 #[.pointer q2,Iv n2,.string z9] w10 λv7 w11=>∃v8,v7=v8∧Fs S w [B0,B1] w11∧(v8=.nilIface→∀w12,Fr S w w11 [] [B0,B1] w12→∃I1:World→Prop,I1 w12∧aa_ PR 69 #[Iv m7,Iv m8,.agg #[Iv n2,.string s2]] w12 λv9 w13=>∃s3,v9=.string s3∧Fs S w [B0,B1] w13∧I1 w13∧∀l3,w13.heap.size≤l3→∀w14,Fr S w w13 [] [B0,B1,⟨l3,#[.string s3],9,true⟩] w14→I1 w14∧aa_ PR 48 #[.pointer p1,.slice (some (⟨l3,0,none⟩)) 1 1] w14 λv10 w15=>∃v11,v10=v11∧∃s4,Fs S w [B0,B1,⟨l3,#[.string s4],9,true⟩] w15∧I1 w15∧(v11=.nilIface→∀w16,Fr S w w15 [] [B0,B1] w16→∃I2:World→Prop,I2 w16∧Dr q0 λa14=>Dr (some a14) λa15=>Dr (some (Addr.add a15 6)) λa16=>∃q3,(∀w17,I2 w17→World.cell? w17 a16=some (.map q3))∧rn PR (Instr.mapUpdate 104 (.map q3) (Iv m8) (.agg #[Iv n2,.string s2])) (λx0 w18=>Fs S w [B0,B1] w18∧Dr q0 λa17=>Dr (some a17) λa18=>Dr (some (Addr.add a18 7)) λa19=>∃q4,World.cell? w18 a19=some (.map q4)∧rn PR (Builtin.delete_ #[104,3] 0 #[.map q4,Iv m8]) (λv12 w19=>v12=.tuple #[]∧Fs S w [B0] w19∧K .nilIface w19) w18) w16)∧(∀x1 v13,v11=.iface x1 v13→K v11 w15)∧(v11=.nilIface∨∃l4 v14,v11=.iface l4 v14))∧(∀x2 v15,v8=.iface x2 v15→K v8 w11)∧(v8=.nilIface∨∃l5 v16,v8=.iface l5 v16))∧(b1=false→Fs S w [B0] w8∧K (.iface 39 (Iv 7)) w8))) w4)∧(∀x3 v17,v3=.iface x3 v17→K v3 w4)∧(v3=.nilIface∨∃l6 v18,v3=.iface l6 v18))∧(∀x4 v19,v1=.iface x4 v19→K v1 w0)∧(v1=.nilIface∨∃l7 v20,v1=.iface l7 v20)):aa_ PR 35 ⟨[.pointer (some ⟨k0,0,none⟩),.int .i64 m7,.int .i64 m8,.string z9,.slice y10 ly10 cy10]⟩ w K:=
  ab_ (okf:=⟨okL,[]⟩) ag_ (args:=[.c (.p 0 k0 true 0),.c (.v (.int .i64 m7)),.c (.v (.int .i64 m8)),.c (.v (.string z9)),.c (.v (.slice y10 ly10 cy10))]) (H:=[⟨k0,.l [.v (.pointer p1),.v (.map g2),.v (.int .i64 m3),.v (.int .i64 m4),.v (.int .i64 m5),.v (.int .i64 m6)],97,true⟩]) (.s .z (.s (.r ⟨(some [0]),true,[],[]⟩) (.s .z (.s (.s (.r ⟨(some [0]),true,[],[]⟩) .z) (.s (.s (.r ⟨(some [0]),true,[],[]⟩) .z) (.s (.r ⟨(some [0]),true,[],[]⟩) (.s .z (.s (.r ⟨(some [0]),true,[],[]⟩) (.s (.s (.r ⟨(some [0,18]),true,[],[(9,[999])]⟩) .z) (.s (.s (.r ⟨(some [0,18]),true,[],[(9,[999])]⟩) .z) (.s (.r ⟨(some [18]),true,[],[]⟩) (.s (.r ⟨(some []),true,[],[]⟩) .z)))))))))))) Go.Proofs.Tryz.func35 rfl ⟨rfl,trivial,trivial,trivial,trivial,trivial⟩ ⟨⟨trivial,⟨trivial,⟨trivial,⟨trivial,⟨trivial,⟨trivial,trivial⟩⟩⟩⟩⟩⟩,trivial⟩ hF hS (ad_ (by kernel_rfl) h)
theorem gz_ (k0:Nat) (p1:Option Addr) (g2:Option Nat) (m3:Int) (m4:Int) (m5:Int) (m6:Int) (m7:Int) (S:SP) (K:KP) (w:World) (hF:Fs S w [⟨k0,#[.pointer p1,.map g2,.int .i64 m3,.int .i64 m4,.int .i64 m5,.int .i64 m6],97,true⟩] w) (hS:S k0∧True) (h:aa_ PR 51 #[.pointer (some (⟨k0,0,none⟩)),Iv m7] w λv0 w0=>∃q0 v1,v0=.tuple #[.pointer q0,v1]∧Fs S w [⟨k0,#[.pointer p1,.map g2,Iv m3,Iv m4,Iv m5,Iv m6],97,true⟩] w0∧let B0:Blk:=⟨k0,#[.pointer p1,.map g2,Iv m3,Iv m4,Iv m5,Iv m6],97,true⟩;(v1=.nilIface→Dr q0 λa0=>Dr (some a0) λa1=>Dr (some (Addr.add a1 0)) λa2=>Dr (some (Addr.add a2 4)) λa3=>∃n0,World.cell? w0 a3=some (Iv n0)∧∃I0:(Option Addr)→Nat→Nat→Int→Nat→World→Prop,(∃l0,I0 none 0 0 0 l0 w0)∧∀q1 l1 l2 n1,∀D0:Nat→Value,∀l3 w1,I0 q1 l1 l2 n1 l3 w1→Fs S w [B0] w1→(n1<n0→Dr q0 λa4=>Dr (some a4) λa5=>Dr (some (Addr.add a5 6)) λa6=>∃q2,World.cell? w1 a6=some (.map q2)∧rn PR (Instr.lookup 104 (.map q2) (Iv n1) true) (λv2 w2=>∃n2 s0 b0,v2=.tuple #[.agg #[Iv n2,.string s0],.bool b0]∧(b0=true→Fs S w [B0] w2∧∀l4,w2.heap.size≤l4→∀w3,Fr S w w2 [l4] [B0,⟨l4,#[Iv n2,.string s0],106,true⟩] w3→∃l5,l5<l3∧I0 q1 l1 l2 (IntKind.wrap .i64 (n1+1)) l5 w3)∧(b0=false→Fs S w [B0] w2∧∀l6,w2.heap.size≤l6→∀l7,w2.heap.size≤l7→∀w4,Fr S w w2 [l6] [B0,⟨l7,#[Iv n1],3,true⟩] w4→rn PR (Builtin.append_ #[52,52] 52 #[.slice q1 l1 l2,.slice (some (⟨l7,0,none⟩)) 1 1]) (λv3 w5=>∃q3 l8 l9,v3=.slice q3 l8 l9∧Fs S w [B0,⟨l7,#[Iv n1],3,true⟩] w5∧∃l10,l10<l3∧I0 q3 l8 l9 (IntKind.wrap .i64 (n1+1)) l10 w5) w4)) w1)∧(¬(n1<n0)→K (.slice q1 l1 l2) w1))∧(∀x0 v4,v1=.iface x0 v4→K (.slice none 0 0) w0)∧(v1=.nilIface∨∃l11 v5,v1=.iface l11 v5)):aa_ PR 22 ⟨[.pointer (some ⟨k0,0,none⟩),.int .i64 m7]⟩ w K:=
  ab_ (okf:=⟨okL,[]⟩) ag_ (args:=[.c (.p 0 k0 true 0),.c (.v (.int .i64 m7))]) (H:=[⟨k0,.l [.v (.pointer p1),.v (.map g2),.v (.int .i64 m3),.v (.int .i64 m4),.v (.int .i64 m5),.v (.int .i64 m6)],97,true⟩]) (.s .z (.s (.r ⟨(some [0]),false,[],[]⟩) (.s .z (.s .z (.s (.s .z (.b (.l (some []) (some []) [(7,.c (.sl)),(24,.c (.int .i64))] [] (.s .z (.s .z (.s (.b (.s .z (.s (.r ⟨(some []),false,[],[]⟩) (.s .z (.c (.r ⟨(some []),false,[],[]⟩) .z))))) .z)))))) .z))))) Go.Proofs.Tryz.func22 rfl ⟨rfl,trivial,trivial⟩ ⟨⟨trivial,⟨trivial,⟨trivial,⟨trivial,⟨trivial,⟨trivial,trivial⟩⟩⟩⟩⟩⟩,trivial⟩ hF hS (ad_ (by kernel_rfl) h)
theorem ij_ (k0:Nat) (p1:Option Addr) (g2:Option Nat) (m3:Int) (m4:Int) (m5:Int) (m6:Int) (m7:Int) (S:SP) (K:KP) (w:World) (hF:Fs S w [⟨k0,#[.pointer p1,.map g2,.int .i64 m3,.int .i64 m4,.int .i64 m5,.int .i64 m6],97,true⟩] w) (hS:S k0∧True) (h:aa_ PR 51 #[.pointer (some (⟨k0,0,none⟩)),Iv m7] w λv0 w0=>∃q0 v1,v0=.tuple #[.pointer q0,v1]∧Fs S w [⟨k0,#[.pointer p1,.map g2,Iv m3,Iv m4,Iv m5,Iv m6],97,true⟩] w0∧∀w1,Fr S w w0 [] [⟨k0,#[.pointer p1,.map g2,Iv m3,Iv m4,Iv m5,Iv m6],97,true⟩] w1→∃I0:World→Prop,I0 w1∧(v1=.nilIface→Dr q0 λa0=>Dr (some a0) λa1=>Dr (some (Addr.add a1 6)) λa2=>∃q1,(∀w2,I0 w2→World.cell? w2 a2=some (.map q1))∧Dr q0 λa3=>Dr (some a3) λa4=>Dr (some (Addr.add a4 0)) λa5=>Dr (some (Addr.add a5 4)) λa6=>∃n0,(∀w3,I0 w3→World.cell? w3 a6=some (Iv n0))∧rn PR (Builtin.len_ #[104] 3 #[.map q1]) (λv2 w4=>∃n1,v2=Iv n1∧Fs S w [⟨k0,#[.pointer p1,.map g2,Iv m3,Iv m4,Iv m5,Iv m6],97,true⟩] w4∧I0 w4∧(n1=n0→K (.bool true) w4)∧(¬(n1=n0)→K (.bool false) w4)) w1)∧(∀x0 v3,v1=.iface x0 v3→K (.bool false) w1)∧(v1=.nilIface∨∃l0 v4,v1=.iface l0 v4)):aa_ PR 18 ⟨[.pointer (some ⟨k0,0,none⟩),.int .i64 m7]⟩ w K:=
  ab_ (okf:=⟨okL,[]⟩) ag_ (args:=[.c (.p 0 k0 true 0),.c (.v (.int .i64 m7))]) (H:=[⟨k0,.l [.v (.pointer p1),.v (.map g2),.v (.int .i64 m3),.v (.int .i64 m4),.v (.int .i64 m5),.v (.int .i64 m6)],97,true⟩]) (.s .z (.s (.r ⟨(some [0]),true,[],[]⟩) (.s (.r ⟨(some []),true,[],[]⟩) .z))) Go.Proofs.Tryz.func18 rfl ⟨rfl,trivial,trivial⟩ ⟨⟨trivial,⟨trivial,⟨trivial,⟨trivial,⟨trivial,⟨trivial,trivial⟩⟩⟩⟩⟩⟩,trivial⟩ hF hS (ad_ (by kernel_rfl) h)
theorem ih_ (p0:Option Addr) (S:SP) (K:KP) (w:World) (h:aa_ PR 38 #[.pointer p0] w λv0 w0=>∃q0 v1,v0=.tuple #[.pointer q0,v1]∧Fs S w [] w0∧(v1=.nilIface→rn PR (Instr.makeMap 93 none) (λv2 w1=>∃q1,v2=.map q1∧Fs S w [] w1∧∀l0,w1.heap.size≤l0→∀w2,Fr S w w1 [] [⟨l0,#[.pointer q0,.map q1,Iv 0,Iv 0,Iv 0,Iv 0],97,true⟩] w2→aa_ PR 39 #[.pointer q0] w2 λv3 w3=>∃q2 l1 l2,v3=.slice q2 l1 l2∧Fs S w [⟨l0,#[.pointer q0,.map q1,Iv 0,Iv 0,Iv 0,Iv 0],97,true⟩] w3∧∃I0:Int→(Option Addr)→(Option Nat)→Int→Int→Int→Int→Nat→World→Prop,(∃l3,I0 0 q0 q1 0 0 0 0 l3 w3)∧∀n0 q3 q4 n1 n2 n3 n4,∀D0:Nat→Value,∀l4 w4,I0 n0 q3 q4 n1 n2 n3 n4 l4 w4→Fs S w [⟨l0,#[.pointer q3,.map q4,Iv n1,Iv n2,Iv n3,Iv n4],97,true⟩] w4→(n0<(l1:Int)→Dr q2 λa0=>(0:Int)≤n0∧n0<(l1:Int)∧Dr (some (Addr.add a0 (Int.toNat n0*1))) λa1=>∃s0,World.cell? w4 a1=some (.string s0)∧aa_ PR 40 #[.pointer (some (⟨l0,0,none⟩)),.string s0] w4 λv4 w5=>v4=.tuple #[]∧∃q5 q6 n5 n6 n7 n8,Fs S w [⟨l0,#[.pointer q5,.map q6,Iv n5,Iv n6,Iv n7,Iv n8],97,true⟩] w5∧∃l5,l5<l4∧I0 (IntKind.wrap .i64 (n0+1)) q5 q6 n5 n6 n7 n8 l5 w5)∧(¬(n0<(l1:Int))→aa_ PR 17 #[.pointer (some (⟨l0,0,none⟩))] w4 λv5 w6=>∃q7 l6 l7,v5=.slice q7 l6 l7∧Fs S w [⟨l0,#[.pointer q3,.map q4,Iv n1,Iv n2,Iv n3,Iv n4],97,true⟩] w6∧∃I1:Int→(Option Addr)→(Option Nat)→Int→Int→Int→Int→Nat→World→Prop,(∃l8,I1 0 q3 q4 n1 n2 n3 n4 l8 w6)∧∀n9 q8 q9 n10 n11 n12 n13,∀D1:Nat→Value,∀l9 w7,I1 n9 q8 q9 n10 n11 n12 n13 l9 w7→Fs S w [⟨l0,#[.pointer q8,.map q9,Iv n10,Iv n11,Iv n12,Iv n13],97,true⟩] w7→let B0:Blk:=⟨l0,#[.pointer q8,.map q9,Iv n10,Iv n11,Iv n12,Iv n13],97,true⟩;(n9<(l6:Int)→Dr q7 λa2=>(0:Int)≤n9∧n9<(l6:Int)∧Dr (some (Addr.add a2 (Int.toNat n9*1))) λa3=>∃n14,World.cell? w7 a3=some (Iv n14)∧rn PR (Instr.lookup 93 (.map q9) (Iv n14) false) (λv6 w8=>∃q10,v6=.pointer q10∧Fs S w [B0] w8∧Dr q10 λa4=>Dr (some a4) λa5=>Dr (some (Addr.add a5 6)) λa6=>∃q11,World.cell? w8 a6=some (.map q11)∧aa_ PR 42 #[.map q11] w8 λv7 w9=>∃v8,v7=v8∧Fs S w [B0] w9∧aa_ PR 41 #[v8] w9 λv9 w10=>∃q12 l10 l11,v9=.slice q12 l10 l11∧Fs S w [B0] w10∧∃I2:Int→(Option Addr)→(Option Nat)→Int→Int→Int→Int→Nat→World→Prop,(∃l12,I2 0 q8 q9 n10 n11 n12 n13 l12 w10)∧∀n15 q13 q14 n16 n17 n18 n19,∀D2:Nat→Value,∀l13 w11,I2 n15 q13 q14 n16 n17 n18 n19 l13 w11→Fs S w [⟨l0,#[.pointer q13,.map q14,Iv n16,Iv n17,Iv n18,Iv n19],97,true⟩] w11→(n15<(l10:Int)→Dr q12 λa7=>(0:Int)≤n15∧n15<(l10:Int)∧Dr (some (Addr.add a7 (Int.toNat n15*1))) λa8=>∃n20,World.cell? w11 a8=some (Iv n20)∧aa_ PR 43 #[.pointer (some (⟨l0,0,none⟩)),Iv n14,Iv n20] w11 λv10 w12=>∃s1 v11,v10=.tuple #[.string s1,v11]∧∃q15 q16 n21 n22 n23 n24,Fs S w [⟨l0,#[.pointer q15,.map q16,Iv n21,Iv n22,Iv n23,Iv n24],97,true⟩] w12∧aa_ PR 44 #[v11,.iface 39 (Iv 8)] w12 λv12 w13=>∃b0,v12=.bool b0∧(b0=true→Fs S w [⟨l0,#[.pointer q15,.map q16,Iv n21,Iv n22,Iv n23,Iv n24],97,true⟩] w13∧K (.tuple #[.pointer none,v11]) w13)∧(b0=false→Fs S w [⟨l0,#[.pointer q15,.map q16,Iv n21,Iv n22,Iv n23,Iv n24],97,true⟩] w13∧∃l14,l14<l13∧I2 (IntKind.wrap .i64 (n15+1)) q15 q16 n21 n22 n23 n24 l14 w13))∧(¬(n15<(l10:Int))→∃l15,l15<l9∧I1 (IntKind.wrap .i64 (n9+1)) q13 q14 n16 n17 n18 n19 l15 w11)) w7)∧(¬(n9<(l6:Int))→K (.tuple #[.pointer (some (⟨l0,0,none⟩)),.nilIface]) w7))) w0)∧(∀x0 v13,v1=.iface x0 v13→K (.tuple #[.pointer none,v1]) w0)∧(v1=.nilIface∨∃l16 v14,v1=.iface l16 v14)):aa_ PR 7 ⟨[.pointer p0]⟩ w K:=
  ab_ (okf:=⟨okL,[]⟩) ag_ (args:=[.c (.v (.pointer p0))]) (H:=[]) (.s .z (.s (.r ⟨(some []),false,[],[]⟩) (.s .z (.s (.r ⟨(some []),false,[],[]⟩) (.s (.s (.r ⟨(some [6]),false,[],[]⟩) (.b (.l (some [6]) (some [6]) [(30,.c (.int .i64))] [6] (.s .z (.s .z (.s (.b (.s .z (.r ⟨(some [6]),false,[],[(2,[999])]⟩))) .z)))))) (.s (.s (.r ⟨(some [6]),false,[],[]⟩) (.b (.l (some [6]) (some [6]) [(41,.c (.int .i64))] [6] (.s .z (.s .z (.s (.b (.s .z (.s (.r ⟨(some [6]),false,[],[]⟩) (.b (.l (some [6]) (some [6]) [(57,.c (.int .i64))] [6] (.s .z (.s .z (.s (.b (.s .z (.s (.r ⟨(some [6]),false,[],[(3,[999])]⟩) (.s (.r ⟨(some [6]),false,[],[]⟩) .z)))) .z)))))))) .z)))))) .z)))))) Go.Proofs.Tryz.func7 rfl ⟨trivial,trivial⟩ trivial (Fr.init S w) trivial (ad_ (by kernel_rfl) h)
end Go.Vc
namespace Go.Vc
open Go Go.MapKept
theorem eE_:PR.underlying T.cJ_=some (.map T.int T.cD_):=by kernel_rfl
theorem bV_:PR.underlying T.ap_=some (.map T.int T.a__):=by kernel_rfl
theorem jp_:PR.underlying T.ce_=some (.map T.int T.bool):=by kernel_rfl
theorem qH_:∃i,PR.info? T.cD_=some i∧i.zero=some (.pointer none):=by
  have h:(PR.info? T.cD_).map (·.zero)=some (some (.pointer none)):=by kernel_rfl
  cases hi:PR.info? T.cD_ with
  | none=>rw [hi] at h;cases h
  | some i=>rw [hi] at h;exact ⟨i,rfl,by simpa using h⟩
theorem ht_:∀w:World,(zeroValue T.cD_).run PR w=.ok (.pointer none) w:=λw=>by
  obtain ⟨i,hi,hz⟩:=qH_
  simp [zeroValue,typeInfo,hi,hz]
theorem nA_:∃i,PR.info? T.a__=some i∧i.zero=some (.agg #[.int .i64 0,.string ⟨#[]⟩]):=by
  have h:(PR.info? T.a__).map (·.zero)=some (some (.agg #[.int .i64 0,.string ⟨#[]⟩])):=by kernel_rfl
  cases hi:PR.info? T.a__ with
  | none=>rw [hi] at h;cases h
  | some i=>rw [hi] at h;exact ⟨i,rfl,by simpa using h⟩
theorem eT_:∀w:World,(zeroValue T.a__).run PR w=.ok (.agg #[.int .i64 0,.string ⟨#[]⟩]) w:=λw=>by
  obtain ⟨i,hi,hz⟩:=nA_
  simp [zeroValue,typeInfo,hi,hz]
theorem ov_:∀w:World,(zeroValue T.bool).run PR w=.ok (.bool false) w:=λw=>by
  obtain ⟨i,hi,hk,hb,hz⟩:=rP_
  simp [zeroValue,typeInfo,hi,hz]
theorem fi_ {t e ty:TypeId} (ht:PR.underlying t=some (.map T.int e)) {w:World} {r:Nat} {l:List (Int × Value)} (h:MapI w r l) {K:Value→World→Prop} (hK:K (.int .i64 l.length) w):rn PR (Builtin.len_ #[t] ty #[.map (some r)]) K w:=by
  obtain ⟨es,clock,hb,h2,h3,_⟩:=h.ex
  refine do_ (a:=.int .i64 es.size) ?_ (by rw [h3];exact hK)
  simp [Builtin.len_,run_underlying ht,MapKept.run_getObj_map hb,goInt,Result.andThen]
theorem eF_ {w:World} {s:HS} (h:az_ w s) {n:Int} (hn:aM_ n) {K:Value→World→Prop} (h1:∀v∈s.vs,v.man.version=n→K (.tuple #[.pointer (some ⟨v.b,0,none⟩),.nilIface]) w) (h2:(∀v∈s.vs,v.man.version≠n)→K (.tuple #[.pointer none,.iface T.ak_ (.int .i64 13)]) w) :
    aa_ PR F.gn_ ⟨[.pointer (some ⟨s.bh,0,none⟩),.int .i64 n]⟩ w K:=by
  refine ii_ s.bh (some ⟨s.bj,0,none⟩) (some s.m) s.act s.prep s.lv s.li n (hS s) K w h.fs ⟨.inl rfl,trivial⟩ ?_
  refine aJ_ eE_ h.mp hn false ht_ (λx hx=>?_) λhno=>?_
  · obtain ⟨v,hv,e⟩:=List.mem_map.1 hx
    have e1:v.man.version=n:=congrArg Prod.fst e
    have e2:x=.pointer (some ⟨v.b,0,none⟩):=(congrArg Prod.snd e).symm
    subst e2
    refine ⟨_,rfl,h.fs,(λhc=>by cases hc),λa ha=>?_⟩
    refine aJ_ eE_ h.mp hn false ht_ (λx' hx'=>?_) λhno=>absurd rfl (hno _ hx)
    have:((n,x'):Int × Value)=(n,.pointer (some ⟨v.b,0,none⟩)):=oE_ h.mp.nd hx' hx rfl
    have:=congrArg Prod.snd this
    simp only [] at this
    subst this
    exact ⟨_,rfl,h.fs,h1 v hv e1⟩
  · refine ⟨none,rfl,h.fs,λ_=>h2 λv hv e=>hno _ (List.mem_map.2 ⟨v,hv,rfl⟩) e,λa ha=>by cases ha⟩
theorem cM_ {w:World} {v:HV} (h:w.heap[v.b]? = some (.cells (hvC v) T.aL_ (0,0))) {k:Nat} {x:Value} (hk:(hvC v)[k]? = some x):w.cell? (Addr.add ⟨v.b,0,none⟩ k)=some x:=by
  rw [au_,aw_ h,Nat.zero_add];exact hk
theorem dy_ {w:World} {v:HV} (h:w.heap[v.b]? = some (.cells (hvC v) T.aL_ (0,0))) {k:Nat} {x:Value} (hk:(hvC v)[k]? = some x):w.cell? (Addr.add (Addr.add ⟨v.b,0,none⟩ 0) k)=some x:=by
  rw [au_,au_,aw_ h];simpa using hk
theorem n6_ {w:World} {s:HS} (h:az_ w s) {n:Int} (hn:aM_ n) {K:Value→World→Prop} (h1:∀w',Grow w w'→∀v∈s.vs,v.man.version=n→K (.bool (decide ((v.bl.length:Int)=v.man.blocks))) w') (h2:∀w',Grow w w'→(∀v∈s.vs,v.man.version≠n)→K (.bool false) w') :
    aa_ PR F.du_ ⟨[.pointer (some ⟨s.bh,0,none⟩),.int .i64 n]⟩ w K:=by
  refine ij_ s.bh (some ⟨s.bj,0,none⟩) (some s.m) s.act s.prep s.lv s.li n (hS s) K w h.fs ⟨.inl rfl,trivial⟩ ?_
  refine eF_ h hn (λv hv e=>⟨_,_,rfl,h.fs,λw1 hF1=>⟨λw'=>w'.heap[v.b]? = some (.cells (hvC v) T.aL_ (0,0)),hF1.grow.get (h.vs v hv).blk,λ_=>?_,(λt x h=>by cases h),.inl rfl⟩⟩) λhno=>⟨_,_,rfl,h.fs,λw1 hF1=>⟨λ_=>True,trivial,(λh=>by cases h),(λt x _=>h2 w1 hF1.grow hno),.inr ⟨_,_,rfl⟩⟩⟩
  refine ac_.2 (ac_.2 (ac_.2 ⟨_,λw' hb=>cM_ hb (k:=6) rfl,ac_.2 (ac_.2 (ac_.2 (ac_.2 ⟨_,λw' hb=>dy_ hb (k:=4) rfl,?_⟩)))⟩))
  refine fi_ bV_ ((h.vs v hv).bm.grow hF1.grow) ⟨_,rfl,hF1.reset,hF1.grow.get (h.vs v hv).blk,λe1=>?_,λe1=>?_⟩
  · have:=h1 w1 hF1.grow v hv e
    rw [decide_eq_true (by simpa [blI] using e1)] at this;exact this
  · have:=h1 w1 hF1.grow v hv e
    rw [decide_eq_false (by simpa [blI] using e1)] at this;exact this
def aA_ (w:World) (r:Nat) (X:Int→Prop):Prop:=∃l,MapI w r l∧(∀p∈l,p.2=.bool true)∧∀n,(∃p∈l,p.1=n)↔X n
theorem aA_.keep {S:Nat→Prop} {w w':World} {r:Nat} {X:Int→Prop} (h:aA_ w r X) (g:Chg S w w') (hn:¬S r):aA_ w' r X:=by
  obtain ⟨l,h1,h2⟩:=h;exact ⟨l,h1.keep g hn,h2⟩
theorem aA_.grow {w w':World} {r:Nat} {X:Int→Prop} (h:aA_ w r X) (g:Grow w w'):aA_ w' r X:=h.keep g id
theorem aA_.cong {w:World} {r:Nat} {X Y:Int→Prop} (h:aA_ w r X) (hx:∀n,X n↔Y n):aA_ w r Y:=by
  obtain ⟨l,h1,h2,h3⟩:=h;exact ⟨l,h1,h2,λn=>(h3 n).trans (hx n)⟩
theorem aA_.lt {w:World} {r:Nat} {X:Int→Prop} (h:aA_ w r X):r<w.heap.size:=by
  obtain ⟨l,h1,_⟩:=h;exact h1.lt
theorem aA_.ne {w:World} {r k:Nat} {X:Int→Prop} {cs:Array Value} {t:TypeId} {a:Nat × Nat} (h:aA_ w r X) (hb:w.heap[k]? = some (.cells cs t a)):k≠r:=by
  obtain ⟨l,h1,_⟩:=h;exact h1.ne hb
theorem aA_.put {w:World} {r:Nat} {X:Int→Prop} (h:aA_ w r X) {m:Int} (hm:aM_ m) {K:Unit→World→Prop} (hK:∀w',aA_ w' r (λn=>X n∨n=m)→Chg (· = r) w w'→w'.heap.size=w.heap.size→K () w'):rn PR (Instr.mapUpdate T.ce_ (.map (some r)) (.int .i64 m) (.bool true)) K w:=by
  obtain ⟨l,h1,h2,h3⟩:=h
  refine bR_ jp_ h1 hm λw' hm' g hs=>hK w' ⟨_,hm',λp hp=>?_,λn=>?_⟩ g hs
  · rcases cp_.1 hp with rfl | ⟨hp,_⟩
    · rfl
    · exact h2 p hp
  · constructor
    · rintro ⟨p,hp,rfl⟩
      rcases cp_.1 hp with rfl | ⟨hp,_⟩
      · exact .inr rfl
      · exact .inl ((h3 _).1 ⟨p,hp,rfl⟩)
    · rintro (hx | rfl)
      · by_cases e:n=m
        · subst e;exact ⟨_,cp_.2 (.inl rfl),rfl⟩
        · obtain ⟨p,hp,rfl⟩:=(h3 n).2 hx
          exact ⟨p,cp_.2 (.inr ⟨hp,e⟩),rfl⟩
      · exact ⟨_,cp_.2 (.inl rfl),rfl⟩
theorem aA_.look {w:World} {r:Nat} {X:Int→Prop} (h:aA_ w r X) {m:Int} (hm:aM_ m) {K:Value→World→Prop} (h1:X m→K (.bool true) w) (h2:¬X m→K (.bool false) w):rn PR (Instr.lookup T.ce_ (.map (some r)) (.int .i64 m) false) K w:=by
  obtain ⟨l,a1,a2,a3⟩:=h
  refine aJ_ jp_ a1 hm false ov_ (λv hv=>?_) λhno=>h2 λhx=>?_
  · have e:v=.bool true:=a2 _ hv
    subst e
    exact h1 ((a3 m).1 ⟨_,hv,rfl⟩)
  · obtain ⟨p,hp,e⟩:=(a3 m).2 hx
    exact hno p hp e
theorem jw_ {w:World} {s:HS} (h:az_ w s) {v:HV} (hv:v∈s.vs) {p:Int × Int × List UInt8} (hp:p∈v.bl++v.ol):aM_ p.2.1:=by
  have h1:=h.sl v hv p hp
  have h2:=h.dl
  exact ⟨by omega,by omega⟩
theorem oA_ {w:World} {s:HS} (h:az_ w s) {K:Value→World→Prop} (hK:∀w' r,Grow w w'→w.heap.size≤r→aA_ w' r (iV_ s)→K (.map (some r)) w'):aa_ PR F.g2_ ⟨[.pointer (some ⟨s.bh,0,none⟩)]⟩ w K:=by
  have h0:Fs (· = s.bh) w [⟨s.bh,hsC s,T.as_,true⟩] w:=(Fr.init _ w).entry h.blk (λx h=>by cases h) λ_=>rfl
  have hbl:=aj_ h.blk
  have hml:=h.mp.lt
  refine iZ_ s.bh (some ⟨s.bj,0,none⟩) (some s.m) s.act s.prep s.lv s.li (· = s.bh) K w h0 ⟨rfl,trivial⟩ ?_
  refine aQ_ λw0 rq hrq hm0 g0=>⟨_,rfl,h0.after g0,?_⟩
  have M0:aA_ w0 rq (λ_=>False):=⟨[],hm0,(λp hp=>by cases hp),λn=>⟨(λ⟨p,hp,_⟩=>by cases hp),λh=>h.elim⟩⟩
  have hrql:=hm0.lt
  refine hU_ eE_ (h.mp.grow g0) λw1 ri hri it1 g1=>⟨(h0.after g0).after g1,?_⟩
  refine ⟨λlv w'=>∃done,d2_ w' s.m ri (s.vs.map ptV) done∧aA_ w' rq (λn=>∃v∈s.vs,v.man.version∈done∧∃p∈v.bl++v.ol,p.2.1=n)∧lv=s.vs.length - done.length,⟨_,[],it1,(M0.grow g1).cong λn=>⟨λh=>h.elim,λ⟨v,_,hv,_⟩=>by cases hv⟩,rfl⟩,?_⟩
  rintro D lv w2 ⟨done,it2,M2,rfl⟩ hF2
  have gr:∀ {w':World} {L:List Blk} {M:List Nat} {wp:World},Fr (· = s.bh) w wp M (⟨s.bh,hsC s,T.as_,true⟩ :: L) w'→Grow w w':=λhF=>hF.chg.same h.blk (hF.blk 0 rfl)
  refine na_ it2 (λhall=>.inl ⟨rfl,hF2,hK w2 rq (gr hF2) (by omega) (M2.cong λn=>⟨λ⟨v,hv,_,hp⟩=>⟨v,hv,hp⟩,λ⟨v,hv,hp⟩=>⟨v,hv,hall _ (List.mem_map.2 ⟨v,hv,rfl⟩),hp⟩⟩)⟩) λp w3 hp hnd hlt E g3 s3=>.inr ⟨_,_,rfl,?_⟩
  rw [List.length_map] at hlt
  have hrine:ri≠s.m:=by omega
  have hriq:ri≠rq:=by omega
  have hF3:=hF2.step g3 (λx hx=>by simp at hx;subst hx;show ¬s.bh=ri;omega) (λk hk e=>by have e':k=ri:=e;omega)
  have M3:=M2.keep g3 hriq.symm
  refine ⟨hF3,kw_ E.ent ⟨_,_,rfl,hF3,?_⟩⟩
  obtain ⟨v,hv,rfl⟩:=List.mem_map.1 hp
  have it3:=E.it
  have hv0:=h.vs v hv
  refine ⟨_,rfl,λw5 hF5=>⟨λw'=>w'.heap[v.b]? = some (.cells (hvC v) T.aL_ (0,0)),Grow.get (gr hF5) hv0.blk,?_⟩⟩
  refine ac_.2 (ac_.2 (ac_.2 ⟨_,λw' hb=>cM_ hb (k:=6) rfl,ac_.2 (ac_.2 (ac_.2 ⟨_,λw' hb=>cM_ hb (k:=7) rfl,λl2 hl2 w8 hF8=>⟨Grow.get (gr hF8) hv0.blk,?_⟩⟩))⟩))
  have g38:Grow w3 w8:=hF5.grow.trans hF8.grow
  let X:Int→Prop:=λn=>∃v∈s.vs,v.man.version∈done∧∃p∈v.bl++v.ol,p.2.1=n
  refine ⟨λn lv w'=>∃t:Nat,n=t∧t≤2∧lv=2 - t∧d2_ w' s.m ri (s.vs.map ptV) (v.man.version :: done)∧aA_ w' rq (λn=>X n∨(0<t∧∃p∈v.bl,p.2.1=n)∨(1<t∧∃p∈v.ol,p.2.1=n)),⟨_,0,rfl,by omega,rfl,it3.grow g38,(M3.grow g38).cong λn=>⟨.inl,λh=>h.elim id λh=>h.elim (λh=>absurd h.1 (by omega)) λh=>absurd h.1 (by omega)⟩⟩,?_⟩
  rintro n D lv w9 ⟨t,rfl,ht,rfl,it9,M9⟩ hF9
  refine ⟨λhlt9=>⟨by omega,hlt9,?_⟩,λhge=>?_⟩
  · have inner:∀(L:List (Int × Int × List UInt8)) (r4:Nat),MapI w9 r4 (blI L)→r4<w.heap.size→(∀p∈L,aM_ p.2.1)→∀(t':Nat),t'=t+1→t'≤2→(∀n,((X n∨(0<t∧∃p∈v.bl,p.2.1=n)∨(1<t∧∃p∈v.ol,p.2.1=n))∨∃p∈L,p.2.1=n)↔(X n∨(0<t'∧∃p∈v.bl,p.2.1=n)∨(1<t'∧∃p∈v.ol,p.2.1=n)))→
        rn PR (Instr.range T.ap_ (.map (some r4))) (λv8 w10=>Fs (· = s.bh) w [⟨s.bh,hsC s,T.as_,true⟩,⟨l2,#[.map (some v.bm),.map (some v.om)],T.ap_,true⟩] w10∧∃I3:Nat→World→Prop,(∃l5:Nat,I3 l5 w10)∧∀D2:Nat→Value,∀l6:Nat,∀w11:World,I3 l6 w11→Fs (· = s.bh) w [⟨s.bh,hsC s,T.as_,true⟩,⟨l2,#[.map (some v.bm),.map (some v.om)],T.ap_,true⟩] w11→rn PR (Instr.next v8 false 0) (λv9 w12=>(v9=.tuple (#[.bool false])∧Fs (· = s.bh) w [⟨s.bh,hsC s,T.as_,true⟩,⟨l2,#[.map (some v.bm),.map (some v.om)],T.ap_,true⟩] w12∧∃l7:Nat,l7<2 - t∧∃t2:Nat,(t':Int)=t2∧t2≤2∧l7=2 - t2∧d2_ w12 s.m ri (s.vs.map ptV) (v.man.version :: done)∧aA_ w12 rq (λn=>X n∨(0<t2∧∃p∈v.bl,p.2.1=n)∨(1<t2∧∃p∈v.ol,p.2.1=n)))∨∃v10:Value,∃v11:Value,v9=.tuple (#[.bool true,v10,v11])∧Fs (· = s.bh) w [⟨s.bh,hsC s,T.as_,true⟩,⟨l2,#[.map (some v.bm),.map (some v.om)],T.ap_,true⟩] w12∧rn PR (Instr.entry v8) (λv12 w13=>∃v13:Value,∃v14:Value,v12=.tuple (#[v13,v14])∧Fs (· = s.bh) w [⟨s.bh,hsC s,T.as_,true⟩,⟨l2,#[.map (some v.bm),.map (some v.om)],T.ap_,true⟩] w13∧∃n1:Int,∃s0:ByteArray,(v14:Value)=.agg (#[.int .i64 n1,.string s0])∧∀l8:Nat,w13.heap.size≤l8→∀w14:World,Fr (· = s.bh) w w13 [l8] [⟨s.bh,hsC s,T.as_,true⟩,⟨l2,#[.map (some v.bm),.map (some v.om)],T.ap_,true⟩,⟨l8,#[.int .i64 n1,.string s0],T.a__,true⟩] w14→rn PR (Instr.mapUpdate T.ce_ (.map (some rq)) (.int .i64 n1) (.bool true)) (λx0 w15=>Fs (· = s.bh) w [⟨s.bh,hsC s,T.as_,true⟩,⟨l2,#[.map (some v.bm),.map (some v.om)],T.ap_,true⟩,⟨l8,#[.int .i64 n1,.string s0],T.a__,true⟩] w15∧∃l9:Nat,l9<l6∧I3 l9 w15) w14) w12) w11) w9:=by
      intro L r4 hm4 hr4 hfit t' ht' ht2 hX
      refine hU_ bV_ hm4 λw10 ri3 hri3 it10 g10=>⟨hF9.after g10,?_⟩
      have hri9:=it9.lt
      have hrq9:=M9.lt
      have hl2b:=hF9.lt ⟨l2,#[.map (some v.bm),.map (some v.om)],T.ap_,true⟩ (by simp)
      simp only [] at hl2b
      refine ⟨λlv w'=>∃d3,d2_ w' r4 ri3 (blI L) d3∧d2_ w' s.m ri (s.vs.map ptV) (v.man.version :: done)∧aA_ w' rq (λn=>(X n∨(0<t∧∃p∈v.bl,p.2.1=n)∨(1<t∧∃p∈v.ol,p.2.1=n))∨∃p∈L,p.1∈d3∧p.2.1=n)∧lv=L.length - d3.length,⟨_,[],it10,it9.grow g10,(M9.grow g10).cong λn=>⟨.inl,λh=>h.elim id λ⟨p,_,hp,_⟩=>by cases hp⟩,rfl⟩,?_⟩
      rintro D2 l6 w11 ⟨d3,it11,ot11,M11,rfl⟩ hF11
      refine na_ it11 (λhall=>.inl ⟨rfl,hF11,2 - t',by omega,t',rfl,ht2,rfl,ot11,M11.cong λn=>?_⟩) λp w12 hp hnd3 hlt3 E3 g12 s12=>.inr ⟨_,_,rfl,?_⟩
      · rw [← hX n]
        exact ⟨λh=>h.imp id λ⟨p,hp,_,e⟩=>⟨p,hp,e⟩,λh=>h.imp id λ⟨p,hp,e⟩=>⟨p,hp,hall _ (List.mem_map.2 ⟨p,hp,rfl⟩),e⟩⟩
      rw [blI,List.length_map] at hlt3
      have hF12:=hF11.step g12 (λx hx=>by
        simp only [List.mem_cons,List.not_mem_nil,or_false] at hx
        rcases hx with rfl | rfl
        · show ¬s.bh=ri3;omega
        · show ¬l2=ri3;omega) (λk hk e=>by have e':k=ri3:=e;omega)
      refine ⟨hF12,kw_ E3.ent ⟨_,_,rfl,hF12,?_⟩⟩
      obtain ⟨x,hx,rfl⟩:=List.mem_map.1 hp
      refine ⟨x.2.1,str x.2.2,rfl,λl8 hl8 w14 hF14=>?_⟩
      have hF14':=hF14.unM hl8
      have g14:Grow w12 w14:=hF14'.grow
      have it14:=E3.it.grow g14
      have ot14:=(ot11.keep g12 (show ¬s.m=ri3 by omega) (show ¬ri=ri3 by omega)).grow g14
      have M14:=(M11.keep g12 (show ¬rq=ri3 by omega)).grow g14
      refine M14.put (hfit x hx) λw15 M15 g15 s15=>⟨hF14'.step g15 (λy hy=>?_) (λk hk e=>by have e':k=rq:=e;omega),L.length - (d3.length+1),by omega,x.1 :: d3,it14.keep g15 (show ¬r4=rq by omega) (show ¬ri3=rq by omega),ot14.keep g15 (show ¬s.m=rq by omega) (show ¬ri=rq from hriq),M15.cong λn=>?_,rfl⟩
      · have:=M14.lt
        simp only [List.mem_cons,List.not_mem_nil,or_false] at hy
        rcases hy with rfl | rfl | rfl
        · show ¬s.bh=rq;omega
        · exact λe=>M14.ne (hF14'.blk 1 rfl) e
        · exact λe=>M14.ne (hF14'.blk 2 rfl) e
      · constructor
        · rintro ((h | ⟨p,hp,hd,e⟩) | rfl)
          · exact .inl h
          · exact .inr ⟨p,hp,List.mem_cons_of_mem _ hd,e⟩
          · exact .inr ⟨x,hx,List.mem_cons_self,rfl⟩
        · rintro (h | ⟨p,hp,hd,e⟩)
          · exact .inl (.inl h)
          · rcases List.mem_cons.1 hd with hd | hd
            · have hpx:((p.1,plV p.2):Int × Value)=(x.1,plV x.2):=oE_ it11.nd (List.mem_map.2 ⟨p,hp,rfl⟩) (List.mem_map.2 ⟨x,hx,rfl⟩) hd
              have h2:plV p.2=plV x.2:=congrArg Prod.snd hpx
              have h3:p.2.1=x.2.1:=by
                unfold plV at h2
                simp at h2;exact h2.1
              exact .inr (by rw [← e,h3])
            · exact .inl (.inr ⟨p,hp,hd,e⟩)
    have hbm9:=hv0.bm.grow (gr hF9)
    have hom9:=hv0.om.grow (gr hF9)
    rcases (by omega:t=0∨t=1) with rfl | rfl
    · refine ⟨some v.bm,rfl,inner v.bl v.bm hbm9 hv0.bm.lt (λp hp=>jw_ h hv (List.mem_append_left _ hp)) 1 rfl (by omega) λn=>?_⟩
      simp
    · refine ⟨some v.om,rfl,inner v.ol v.om hom9 hv0.om.lt (λp hp=>jw_ h hv (List.mem_append_right _ hp)) 2 rfl (by omega) λn=>?_⟩
      simp [or_assoc]
  · have:t=2:=by omega
    subst this
    refine ⟨s.vs.length - (done.length+1),by omega,v.man.version :: done,it9,M9.cong λn=>?_,rfl⟩
    constructor
    · rintro (⟨u,hu,hd,hp⟩ | ⟨_,p,hp,e⟩ | ⟨_,p,hp,e⟩)
      · exact ⟨u,hu,List.mem_cons_of_mem _ hd,hp⟩
      · exact ⟨v,hv,List.mem_cons_self,p,List.mem_append_left _ hp,e⟩
      · exact ⟨v,hv,List.mem_cons_self,p,List.mem_append_right _ hp,e⟩
    · rintro ⟨u,hu,hd,p,hpp,e⟩
      rcases List.mem_cons.1 hd with hd | hd
      · have:u=v:=h.uniq hu hv hd
        subst this
        rcases List.mem_append.1 hpp with hq | hq
        · exact .inr (.inl ⟨by omega,p,hq,e⟩)
        · exact .inr (.inr ⟨by omega,p,hq,e⟩)
      · exact .inl ⟨u,hu,hd,p,hpp,e⟩
end Go.Vc
namespace Go.Vc
open Go
def recM (m:Man):List UInt8:=[77]++jh_ m
def recB (ver i:Int) (x:Int × List UInt8):List UInt8:=([66]++cb_ [ver,i,x.1])++aK_ [x.2]
def ka_ (n:Int):Prop:=0≤n∧n≤72057594037927935
theorem ee_ {l:List Int} (hl:∀n∈l,ka_ n) (hn:l.length≤1000) {y:Option Addr} {cy:Nat} {w:World} (hs:Sl w y (l.map iv)) {K:Value→World→Prop} (hK:∀w',Grow w w'→K (.string (str (cb_ l))) w'):aa_ PR F.ep_ ⟨[.slice y l.length cy]⟩ w K:=by
  refine ep_ y l.length cy S0 K w ⟨λs n lv w'=>∃k:Nat,n=k∧k≤l.length∧lv=l.length - k∧s=str (cb_ (l.take k))∧Grow w w',⟨_,0,rfl,by omega,rfl,rfl,.refl _ _⟩,?_⟩
  rintro s n D lv w1 ⟨k,rfl,hk,rfl,rfl,g1⟩ hF1
  refine ⟨λhlt=>?_,λhge=>?_⟩
  · have hk':k<l.length:=by omega
    refine (hs.grow g1).rd (v:=iv l[k]) (by simp) (by omega) (by simp [hk']) λa ha=>⟨_,ha,?_⟩
    refine bN_ (hl _ (List.getElem_mem hk')) λw2 g2=>⟨_,_,rfl,hF1.after g2,?_,l.length - (k+1),by omega,k+1,wr1 (by omega),by omega,rfl,?_,g1.trans g2⟩
    · rw [ai_,ai_]
      have h1:=cu_ (l:=l.take k) λn hn=>hl n (List.mem_of_mem_take hn)
      have h2:=an_ (n:=l[k].toNat) (by have:=hl _ (List.getElem_mem hk');unfold ka_ at this;omega)
      rw [List.length_take] at h1
      omega
    · rw [hN_ hk',aD_]
  · have:k=l.length:=by omega
    subst this
    rw [List.take_of_length_le (Nat.le_refl _)]
    exact hK w1 g1
theorem m8_ {ver i:Int} {x:Int × List UInt8} (h1:ka_ ver) (h2:ka_ i) (h3:ka_ x.1) (h4:x.2.length≤1000):(recB ver i x).length≤1+24+1008:=by
  have a:=cu_ (l:=[ver,i,x.1]) λn hn=>by simp at hn;rcases hn with rfl | rfl | rfl;exact h1;exact h2;exact h3
  have b:=an_ (n:=x.2.length) (by omega)
  simp only [recB,aK_,List.length_append,List.map_cons,List.map_nil,List.flatten_cons,List.flatten_nil,List.length_nil,List.length_cons] at a ⊢
  omega
theorem hf_ {ver i:Int} {x:Int × List UInt8} (h1:ka_ ver) (h2:ka_ i) (h3:ka_ x.1) (h4:x.2.length≤1000) {w:World} {K:Value→World→Prop} (hK:∀w',Grow w w'→K (.string (str (recB ver i x))) w'):aa_ PR F.cl_ ⟨[.int .i64 ver,.int .i64 i,plV x]⟩ w K:=by
  have hl:∀n∈[ver,i,x.1],ka_ n:=λn hn=>by simp at hn;rcases hn with rfl | rfl | rfl;exact h1;exact h2;exact h3
  have a:=cu_ (l:=[ver,i,x.1]) hl
  have b:=an_ (n:=x.2.length) (by omega)
  simp only [List.length_cons,List.length_nil] at a
  have hpt:(aK_ [x.2]).length≤1008:=by
    simp only [aK_,List.map_cons,List.map_nil,List.flatten_cons,List.flatten_nil,List.length_append,List.length_nil];omega
  have e66:(⟨#[66]⟩:ByteArray)++str (cb_ [ver,i,x.1])=str ([66]++cb_ [ver,i,x.1]):=by rw [← aD_];rfl
  have z1:1+(str (cb_ [ver,i,x.1])).size≤9223372036854775807:=by rw [ai_];omega
  have z2:(str ([66]++cb_ [ver,i,x.1])).size+(str (aK_ [x.2])).size≤9223372036854775807:=by rw [ai_,ai_,List.length_append];simp only [List.length_cons,List.length_nil];omega
  refine cl_ ver i x.1 (str x.2) S0 K w λl0 hl0=>⟨λl1 hl1=>⟨λw0 hF0=>?_,λl3 hl3 w4 hF4=>?_⟩,λl4 hl4 l5 hl5 w7 hF7=>?_⟩
  · refine ee_ hl (by simp) (hF0.sl 1 rfl) λw1 g1=>⟨_,rfl,hF0.after g1,z1,λl2 hl2 w2 hF2=>?_⟩
    rw [e66]
    refine c7_ (xs:=[x.2]) (hF2.sl 2 rfl) rfl (by simp) (by omega) λw3 g3=>⟨_,rfl,hF2.after g3,z2,?_⟩
    rw [aD_]
    exact hK w3 (hF2.after g3).gr
  · refine ee_ hl (by simp) (hF4.sl 1 rfl) λw1 g1=>⟨_,rfl,hF4.after g1,z1,?_⟩
    rw [e66]
    have hF1:=hF4.after g1
    refine c7_ (xs:=[x.2]) (hF1.sl 2 rfl) rfl (by simp) (by omega) λw3 g3=>⟨_,rfl,hF1.after g3,z2,?_⟩
    rw [aD_]
    exact hK w3 (hF1.after g3).gr
  · refine ee_ hl (by simp) (hF7.sl 2 rfl) λw1 g1=>⟨_,rfl,hF7.after g1,z1,?_⟩
    rw [e66]
    have hF1:=hF7.after g1
    refine c7_ (xs:=[x.2]) (hF1.sl 1 rfl) rfl (by simp) (by omega) λw3 g3=>⟨_,rfl,hF1.after g3,z2,?_⟩
    rw [aD_]
    exact hK w3 (hF1.after g3).gr
end Go.Vc
namespace Go.Vc
def aO_:Nat→Nat→Nat→List Bool
  | 0,_,_=>[]
  | f+1,i,n=>if n≤1 then [] else if i<ah_ n then true :: aO_ f i (ah_ n) else false :: aO_ f (i - ah_ n) (n - ah_ n)
def prfL (N:List UInt8→List UInt8→List UInt8) (leaves:List (List UInt8)):Nat→Nat→Nat→Nat→List (List UInt8)
  | 0,_,_,_=>[]
  | f+1,i,a,n=>if n≤1 then [] else if i<a+ah_ n then prfL N leaves f i a (ah_ n)++[a5_ N leaves (n - ah_ n) (a+ah_ n) (n - ah_ n)]
    else prfL N leaves f i (a+ah_ n) (n - ah_ n)++[a5_ N leaves (ah_ n) a (ah_ n)]
def nE_ (N:List UInt8→List UInt8→List UInt8) (d:List UInt8) (x:Bool × List UInt8):List UInt8:=if x.1 then N d x.2 else N x.2 d
def upL (N:List UInt8→List UInt8→List UInt8) (d:List UInt8) (l:List (Bool × List UInt8)):List UInt8:=l.foldl (nE_ N) d
theorem dF_:∀(f g i n:Nat),n≤f→n≤g→aO_ f i n=aO_ g i n
  | 0,0,_,_,_,_=>rfl
  | 0,g+1,i,n,h,_=>by unfold aO_;rw [if_pos (by omega)]
  | f+1,0,i,n,_,h=>by unfold aO_;rw [if_pos (by omega)]
  | f+1,g+1,i,n,hf,hg=>by
    unfold aO_
    by_cases h1:n≤1
    · rw [if_pos h1,if_pos h1]
    · have hh:=c6_ (n:=n) (by omega)
      rw [if_neg h1,if_neg h1,dF_ f g i (ah_ n) (by omega) (by omega),dF_ f g (i - ah_ n) (n - ah_ n) (by omega) (by omega)]
theorem hL_ {f i n:Nat} (h:2≤n) (hi:i<ah_ n):aO_ (f+1) i n=true :: aO_ f i (ah_ n):=by
  rw [aO_,if_neg (by omega),if_pos hi]
theorem hM_ {f i n:Nat} (h:2≤n) (hi:¬i<ah_ n):aO_ (f+1) i n=false :: aO_ f (i - ah_ n) (n - ah_ n):=by
  rw [aO_,if_neg (by omega),if_neg hi]
theorem gb_ {f i n:Nat} (h:n≤1):aO_ (f+1) i n=[]:=by rw [aO_,if_pos h]
section
variable (N:List UInt8→List UInt8→List UInt8) (leaves:List (List UInt8))
theorem me_ {f i a n:Nat} (h:2≤n) (hi:i<a+ah_ n):prfL N leaves (f+1) i a n=prfL N leaves f i a (ah_ n)++[a5_ N leaves (n - ah_ n) (a+ah_ n) (n - ah_ n)]:=by
  rw [prfL,if_neg (by omega),if_pos hi]
theorem mf_ {f i a n:Nat} (h:2≤n) (hi:¬i<a+ah_ n):prfL N leaves (f+1) i a n=prfL N leaves f i (a+ah_ n) (n - ah_ n)++[a5_ N leaves (ah_ n) a (ah_ n)]:=by
  rw [prfL,if_neg (by omega),if_neg hi]
theorem j4_ {f i a n:Nat} (h:n≤1):prfL N leaves (f+1) i a n=[]:=by rw [prfL,if_pos h]
theorem o1_ {f a n:Nat} (h:2≤n):a5_ N leaves (f+1) a n=N (a5_ N leaves f a (ah_ n)) (a5_ N leaves f (a+ah_ n) (n - ah_ n)):=by
  rw [a5_,if_neg (by omega)]
theorem hY_:∀(f i a n:Nat),a≤i→(prfL N leaves f i a n).length=(aO_ f (i - a) n).length
  | 0,_,_,_,_=>rfl
  | f+1,i,a,n,h=>by
    by_cases h1:n≤1
    · rw [j4_ N leaves h1,gb_ h1];rfl
    · by_cases h2:i<a+ah_ n
      · rw [me_ N leaves (by omega) h2,hL_ (by omega) (by omega),List.length_append,hY_ f i a (ah_ n) h];simp
      · rw [mf_ N leaves (by omega) h2,hM_ (by omega) (by omega),List.length_append,hY_ f i (a+ah_ n) (n - ah_ n) (by omega),show i - (a+ah_ n)=i - a - ah_ n by omega];simp
theorem oB_:∀(f i a n:Nat),1≤n→n≤f→a≤i→i<a+n→
    upL N (leaves.getD i []) ((aO_ f (i - a) n).reverse.zip (prfL N leaves f i a n))=a5_ N leaves f a n
  | 0,_,_,_,h,h',_,_=>absurd h (by omega)
  | f+1,i,a,n,h,hf,h1,h2=>by
    by_cases hn:n=1
    · subst hn
      have:i=a:=by omega
      subst this
      rw [gb_ (Nat.le_refl _),j4_ N leaves (Nat.le_refl _),a5_,if_pos rfl];rfl
    · have hh:=c6_ (n:=n) (by omega)
      rw [o1_ N leaves (by omega)]
      by_cases h3:i<a+ah_ n
      · have ih:=oB_ f i a (ah_ n) hh.1 (by omega) h1 h3
        have hl:=hY_ N leaves f i a (ah_ n) h1
        rw [me_ N leaves (by omega) h3,hL_ (by omega) (by omega),List.reverse_cons,List.zip_append (by rw [List.length_reverse,hl])]
        unfold upL at ih ⊢
        rw [List.foldl_append,ih,ct_ N leaves (n - ah_ n) f (a+ah_ n) (n - ah_ n) (by omega) (by omega) (by omega)]
        rfl
      · have ih:=oB_ f i (a+ah_ n) (n - ah_ n) (by omega) (by omega) (by omega) (by omega)
        have hl:=hY_ N leaves f i (a+ah_ n) (n - ah_ n) (by omega)
        rw [show i - (a+ah_ n)=i - a - ah_ n by omega] at ih hl
        rw [mf_ N leaves (by omega) h3,hM_ (by omega) (by omega),List.reverse_cons,List.zip_append (by rw [List.length_reverse,hl])]
        unfold upL at ih ⊢
        rw [List.foldl_append,ih,ct_ N leaves (ah_ n) f a (ah_ n) (by omega) (by omega) (by omega)]
        rfl
end
end Go.Vc
namespace Go.Vc
open Go
def bV (b:Bool):Value:=.bool b
theorem r4_:PR.underlying T.jY_=some (.slice T.bool):=by kernel_rfl
theorem nH_ {i n:Nat} (hi:i<n) (hn:n≤1048576) {w:World} {K:Value→World→Prop} (hK:∀w' q c,Grow w w'→Sl w' q ((aO_ n i n).map bV)→K (.slice q (aO_ n i n).length c) w'):aa_ PR F.ei_ ⟨[.int .i64 i,.int .i64 n]⟩ w K:=by
  refine ei_ i n S0 K w ⟨λa m q l c lv w'=>∃(j k:Nat) (pre:List Bool),a=j∧m=k∧lv=k∧j<k∧k≤n∧pre++aO_ k j k=aO_ n i n∧pre.length+k≤n∧Own T.bool 1 w' q c (pre.map bV)∧l=pre.length∧l≤c∧Off (λx=>x<w.heap.size) q∧Grow w w',⟨n,i,n,[],rfl,rfl,rfl,hi,Nat.le_refl _,rfl,by simp,.nil _ _ _,rfl,Nat.le_refl _,.none _,.refl _ _⟩,?_⟩
  rintro a m q l c D k w1 ⟨j,k',pre,rfl,rfl,rfl,hjk,hkn,hp,hpl,ho,rfl,hlc,hof,g1⟩ hF1
  have s1:=g1.size
  refine ⟨λhgt=>?_,λhng=>?_⟩
  · have h2:2≤k:=by omega
    have hh:=c6_ h2
    obtain ⟨f,rfl⟩:∃f,k=f+1:=⟨k - 1,by omega⟩
    have push:∀(b:Bool) (j' k':Nat),j'<k'→k'<f+1→aO_ (f+1) j (f+1)=b :: aO_ k' j' k'→∀b4,w1.heap.size≤b4→∀w2,Fr S0 w w1 [] [⟨b4,#[.bool b],T.bool,true⟩] w2→
        rn PR (Builtin.append_ #[T.jY_,T.jY_] T.jY_ #[.slice q pre.length c,.slice (some ⟨b4,0,none⟩) 1 1]) (λv1 w3=>∃q1:Option Addr,∃l5:Nat,∃l6:Nat,v1=.slice q1 l5 l6∧Fs S0 w [⟨b4,#[.bool b],T.bool,true⟩] w3∧∃l7:Nat,l7<f+1∧
          ∃(j2 k2:Nat) (pre:List Bool),(j':Int)=j2∧(k':Int)=k2∧l7=k2∧j2<k2∧k2≤n∧pre++aO_ k2 j2 k2=aO_ n i n∧pre.length+k2≤n∧Own T.bool 1 w3 q1 l6 (pre.map bV)∧l5=pre.length∧l5≤l6∧Off (λx=>x<w.heap.size) q1∧Grow w w3) w2:=by
      intro b j' k' hj hk hs b4 hb4 w2 hF2
      have g2:Grow w1 w2:=hF2.grow
      refine app1 r4_ rP_ rfl (by decide) (ho.grow g2) (by simp) hlc (ys:=[bV b]) (hF2.sl 0 rfl) rfl (by simp [bV,oneC]) (by omega) λq' c' w3 ho3 hc3 g3 hq3=>?_
      have hF3:=hF2.app2 g3 w.heap.size w1.heap.size hof (λa ha=>ho.lt a ha) (λx hx=>by simp at hx;subst hx;exact .inr hb4) (Nat.le_refl _)
      exact ⟨_,_,_,rfl,hF3,k',hk,j',k',pre++[b],rfl,rfl,rfl,hj,by omega,by rw [← hp,hs];simp,by simp;omega,by simpa using ho3,by simp,hc3,hof.next hq3 (by have:=g2.size;omega),hF3.gr⟩
    refine f8_ h2 (by omega) ⟨_,rfl,hF1,λhlt b4 hb4 w2 hF2=>?_,λhge b4 hb4 w2 hF2=>?_⟩
    · exact push true j (ah_ (f+1)) (by omega) hh.2 (by rw [hL_ h2 (by omega),dF_ f (ah_ (f+1)) j (ah_ (f+1)) (by omega) (Nat.le_refl _)]) b4 hb4 w2 hF2
    · rw [show IntKind.wrap .i64 ((j:Int) - (ah_ (f+1):Nat))=((j - ah_ (f+1):Nat):Int) by rw [w64 (by omega) (by omega)];omega,show IntKind.wrap .i64 (((f+1:Nat):Int) - (ah_ (f+1):Nat))=((f+1 - ah_ (f+1):Nat):Int) by rw [w64 (by omega) (by omega)];omega]
      exact push false (j - ah_ (f+1)) (f+1 - ah_ (f+1)) (by omega) (by omega) (by rw [hM_ h2 (by omega),dF_ f (f+1 - ah_ (f+1)) _ (f+1 - ah_ (f+1)) (by omega) (Nat.le_refl _)]) b4 hb4 w2 hF2
  · have hk1:k=1:=by omega
    subst hk1
    have e:pre=aO_ n i n:=by rw [← hp,gb_ (Nat.le_refl _)];simp
    rw [e]
    rw [e] at ho
    exact hK w1 q c g1 ho.sl
def bd_ (i n:Int) (leaf:List UInt8) (prf:List (List UInt8)) (d:List UInt8):Prop:=∃j k:Nat,i=j∧n=k∧j<k∧k≤1048576∧prf.length=(aO_ k j k).length∧leaf.length=32∧(∀p∈prf,p.length=32)∧d=upL a9_ leaf ((aO_ k j k).reverse.zip prf)
def hs_ (i n c:Int):Prop:=c=2∧¬(0≤i∧i<n∧n≤1048576)∨c=11∧(0≤i∧i<n∧n≤1048576)
theorem lk_ (a b:List UInt8):(a9_ a b).length=32:=gX_ _
theorem en_ (a:List UInt8):(aC_ a).length=32:=gX_ _
theorem sM_ {i n:Int} {leaf:List UInt8} {prf:List (List UInt8)} {y:Option Addr} {cy:Nat} {w:World} (hs:Sl w y (prf.map sv8')) {K:Value→World→Prop}
    (h1:∀w' d,Grow w w'→bd_ i n leaf prf d→K (.tuple #[.string (str d),.nilIface]) w')
    (h2:∀w' s c,Grow w w'→(∀d,¬bd_ i n leaf prf d)→hs_ i n c→K (.tuple #[.string s,.iface T.ak_ (.int .i64 c)]) w'):aa_ PR F.h__ ⟨[.int .i64 i,.int .i64 n,.string (str leaf),.slice y prf.length cy]⟩ w K:=by
  refine h__ i n (str leaf) y prf.length cy S0 K w ?_
  have bad:∀P:Bool→Prop,¬(0≤i∧i<n∧n≤1048576)→∃b0:Bool,Value.bool false=.bool b0∧(b0=true→P b0)∧(b0=false→Fs S0 w [] w∧K (.tuple (#[.string ⟨#[]⟩,.iface T.ak_ (.int .i64 2)])) w):=λP hr=>⟨false,rfl,(λh=>by cases h),λ_=>⟨.init _ _,h2 w _ 2 (.refl _ _) (λd ⟨j,k,e1,e2,h3,h4,_⟩=>hr (by omega)) (.inl ⟨rfl,hr⟩)⟩⟩
  refine gR_ i n S0 _ w ⟨λh0=>⟨λhlt=>⟨λhle=>?_,λhc=>bad _ (by omega)⟩,λhc=>bad _ (by omega)⟩,λhc=>bad _ (by omega)⟩
  refine ⟨true,rfl,λ_=>⟨.init _ _,?_⟩,λh=>by cases h⟩
  obtain ⟨j,rfl⟩:=Int.eq_ofNat_of_zero_le h0
  obtain ⟨k,rfl⟩:=Int.eq_ofNat_of_zero_le (a:=n) (by omega)
  have hr:0≤(j:Int)∧(j:Int)<k∧(k:Int)≤1048576:=⟨by omega,by omega,by omega⟩
  have no:∀ {w':World} {s:ByteArray},Grow w w'→(∀d,¬bd_ j k leaf prf d)→K (.tuple (#[.string s,.iface T.ak_ (.int .i64 11)])) w':=λg hno=>h2 _ _ 11 g hno (.inr ⟨rfl,hr⟩)
  have ok':∀ {d},bd_ j k leaf prf d→prf.length=(aO_ k j k).length∧leaf.length=32∧(∀p∈prf,p.length=32)∧d=upL a9_ leaf ((aO_ k j k).reverse.zip prf):=by
    rintro d ⟨j',k',e1,e2,_,_,h⟩
    have:j=j':=by omega
    have:k=k':=by omega
    subst_vars
    exact h
  refine nH_ (by omega) (by omega) λw1 sq sc g1 hsd=>?_
  have hF1:Fs S0 w [] w1:=(Fr.init _ w).after g1
  generalize hS:aO_ k j k=sd at hsd ok'
  have hsdl:sd.length≤k:=by
    rw [← hS]
    have:∀(f i n:Nat),(aO_ f i n).length≤f:=by
      intro f
      induction f with
      | zero=>intro i n;simp [aO_]
      | succ f ih=>
        intro i n
        unfold aO_
        split
        · simp
        · split
          · simp;exact ih _ _
          · simp;exact ih _ _
    exact this _ _ _
  refine ⟨_,_,_,rfl,hF1,λhlen=>⟨λhleaf=>?_,λhne=>no g1 λd hd=>hne (by rw [ai_];have:=(ok' hd).2.1;omega)⟩,λhne=>no g1 λd hd=>hne (by have:=(ok' hd).1;omega)⟩
  have hl:prf.length=sd.length:=by omega
  have hl32:leaf.length=32:=by rw [ai_] at hleaf;omega
  have hzl:(sd.reverse.zip prf).length=prf.length:=by simp [hl]
  refine ⟨λs t lv w'=>∃u:Nat,t=u∧u≤prf.length∧lv=prf.length - u∧s=str (upL a9_ leaf ((sd.reverse.zip prf).take u))∧(upL a9_ leaf ((sd.reverse.zip prf).take u)).length=32∧(∀p∈prf.take u,p.length=32)∧Grow w1 w',⟨_,0,rfl,by omega,rfl,rfl,hl32,by simp,.refl _ _⟩,?_⟩
  rintro s t D lv w2 ⟨u,rfl,hu,rfl,rfl,hul,hup,g2⟩ hF2
  have gw2:=g1.trans g2
  refine ⟨λhlt=>?_,λhge=>?_⟩
  · have hu':u<prf.length:=by omega
    refine (hs.grow gw2).rd (v:=sv8' prf[u]) (by simp) (by omega) (by simp [hu']) λa ha=>⟨_,ha,λh32=>?_,λhn=>no gw2 λd hd=>hn (by rw [ai_];have:=(ok' hd).2.2.1 prf[u] (List.getElem_mem hu');omega)⟩
    have hp32:prf[u].length=32:=by rw [ai_] at h32;omega
    have hidx:IntKind.wrap .i64 (IntKind.wrap .i64 ((sd.length:Int) - 1) - u)=((sd.length - 1 - u:Nat):Int):=by
      have ei:IntKind.wrap .i64 ((sd.length:Int) - 1)=(sd.length:Int) - 1:=w64 (by omega) (by omega)
      rw [ei,w64 (by omega) (by omega)];omega
    rw [hidx]
    have hrev:sd.length - 1 - u<sd.length:=by omega
    have hru:u<sd.reverse.length:=by simp;omega
    have hzu:u<(sd.reverse.zip prf).length:=by omega
    have hz:(sd.reverse.zip prf)[u]=(sd[sd.length - 1 - u],prf[u]):=by simp [List.getElem_zip,List.getElem_reverse]
    have hnx:(sd.reverse.zip prf).take (u+1)=(sd.reverse.zip prf).take u++[(sd[sd.length - 1 - u],prf[u])]:=by rw [ar_ hzu,hz]
    have hup':∀p∈prf.take (u+1),p.length=32:=λp hp=>by
      rw [ar_ hu'] at hp
      rcases List.mem_append.1 hp with hp | hp
      · exact hup p hp
      · simp at hp;rw [hp];exact hp32
    have hup1:upL a9_ leaf ((sd.reverse.zip prf).take (u+1))=nE_ a9_ (upL a9_ leaf ((sd.reverse.zip prf).take u)) (sd[sd.length - 1 - u],prf[u]):=by
      rw [hnx];unfold upL;rw [List.foldl_append];rfl
    refine (hsd.grow g2).rd (v:=bV sd[sd.length - 1 - u]) (by simp) (by omega) (by simp [hrev]) λa2 ha2=>⟨_,ha2,λht=>?_,λhf=>?_⟩
    · refine iN_ hul hp32 λw3 g3=>⟨_,rfl,hF2.after g3,prf.length - (u+1),by omega,u+1,wr1 (by omega),by omega,rfl,?_,?_,hup',g2.trans g3⟩
      · rw [hup1];unfold nE_;rw [if_pos ht]
      · rw [hup1];unfold nE_;rw [if_pos ht];exact lk_ _ _
    · refine iN_ hp32 hul λw3 g3=>⟨_,rfl,hF2.after g3,prf.length - (u+1),by omega,u+1,wr1 (by omega),by omega,rfl,?_,?_,hup',g2.trans g3⟩
      · rw [hup1];unfold nE_;simp only [hf];rw [if_neg (by decide)]
      · rw [hup1];unfold nE_;simp only [hf];rw [if_neg (by decide)];exact lk_ _ _
  · have e:u=prf.length:=by omega
    subst e
    rw [List.take_of_length_le (by omega)]
    rw [List.take_of_length_le (Nat.le_refl _)] at hup
    exact h1 w2 _ gw2 ⟨j,k,rfl,rfl,by omega,by omega,by rw [hS];exact hl,hl32,hup,by rw [hS]⟩
def errP (c:Int) (v:Value):Prop:=v=.iface T.ak_ (.int .i64 c)∨(c=11∧∃a:Int,v=.iface T.ew_ (.agg #[.int .i64 a,.iface T.ak_ (.int .i64 11)]))
theorem errP.err {c:Int} {v:Value} (h:errP c v):sp_ v:=by
  rcases h with rfl | ⟨_,a,rfl⟩ <;> exact ⟨_,_,rfl⟩
theorem mR_ {root s:List UInt8} {i n:Int} {prf:List (List UInt8)} {y:Option Addr} {cy:Nat} {w:World} (hs:Sl w y (prf.map sv8')) (hsl:s.length≤1000000) {K:Value→World→Prop}
    (h1:∀w',Grow w w'→bd_ i n (aC_ s) prf root→K .nilIface w')
    (h2:∀w' v c,Grow w w'→errP c v→¬bd_ i n (aC_ s) prf root→hs_ i n c→K v w'):aa_ PR F.ej_ ⟨[.string (str root),.int .i64 i,.int .i64 n,.string (str s),.slice y prf.length cy]⟩ w K:=by
  refine ej_ (str root) i n (str s) y prf.length cy S0 K w ?_
  refine iO_ hsl λw1 g1=>⟨_,rfl,(Fr.init _ w).after g1,?_⟩
  refine sM_ (hs.grow g1) (λw2 d g2 hd=>⟨_,_,rfl,(Fr.init _ w).after (g1.trans g2),λ_=>⟨λe=>?_,λe=>⟨rfl,?_⟩⟩,(λt x h=>by cases h),.inl rfl⟩) λw2 z c g2 hno hb=>⟨_,_,rfl,(Fr.init _ w).after (g1.trans g2),(λh=>by cases h),λt x h=>h2 w2 _ c (g1.trans g2) (.inl rfl) (hno _) hb,.inr ⟨_,_,rfl⟩⟩
  · have:=str_inj e;subst this
    exact h1 w2 (g1.trans g2) hd
  · refine h2 w2 _ 11 (g1.trans g2) (.inr ⟨rfl,i,rfl⟩) (λh=>e ?_) (.inr ⟨rfl,?_⟩)
    · obtain ⟨j,k,rfl,rfl,_,_,_,_,_,e1⟩:=hd
      obtain ⟨j',k',a1,a2,_,_,_,_,_,e2⟩:=h
      have:j=j':=by omega
      have:k=k':=by omega
      subst_vars
      rfl
    · obtain ⟨j,k,rfl,rfl,a,b,_⟩:=hd
      omega
theorem gh_ (leaves:List (List UInt8)):∀f i a n,br_ leaves f i a n=prfL a9_ leaves f i a n
  | 0,_,_,_=>rfl
  | f+1,i,a,n=>by
    unfold br_ prfL
    rw [gh_ leaves f i a (ah_ n),gh_ leaves f i (a+ah_ n) (n - ah_ n)]
theorem gi_ {leaves:List (List UInt8)} (hl:∀x∈leaves,x.length=32):∀(f i a n:Nat),n≤f→a+n≤leaves.length→∀p∈prfL a9_ leaves f i a n,p.length=32
  | 0,_,_,_,_,_,p,hp=>by simp [prfL] at hp
  | f+1,i,a,n,hn,ha,p,hp=>by
    by_cases h1:n≤1
    · rw [j4_ a9_ leaves h1] at hp;cases hp
    · have hh:=c6_ (n:=n) (by omega)
      by_cases h2:i<a+ah_ n
      · rw [me_ a9_ leaves (by omega) h2] at hp
        rcases List.mem_append.1 hp with hp | hp
        · exact gi_ hl f i a (ah_ n) (by omega) (by omega) p hp
        · simp at hp;rw [hp]
          exact d4_ gX_ leaves hl _ _ _ (by omega) (Nat.le_refl _) (by omega)
      · rw [mf_ a9_ leaves (by omega) h2] at hp
        rcases List.mem_append.1 hp with hp | hp
        · exact gi_ hl f i (a+ah_ n) (n - ah_ n) (by omega) (by omega) p hp
        · simp at hp;rw [hp]
          exact d4_ gX_ leaves hl _ _ _ (by omega) (Nat.le_refl _) (by omega)
theorem nO_ {list:List (List UInt8)} {i:Nat} (hi:i<list.length) (hn:list.length≤1048576):bd_ i list.length (aC_ (list.getD i [])) (br_ (list.map aC_) list.length i 0 list.length) (fF_ Hs list):=by
  have hl:∀x∈list.map aC_,x.length=32:=λx hx=>by obtain ⟨s,_,rfl⟩:=List.mem_map.1 hx;exact en_ s
  rw [gh_]
  refine ⟨i,list.length,rfl,rfl,hi,hn,?_,en_ _,gi_ hl _ _ _ _ (Nat.le_refl _) (by simp),?_⟩
  · have:=hY_ a9_ (list.map aC_) list.length i 0 list.length (Nat.zero_le _)
    simpa using this
  · have:=oB_ a9_ (list.map aC_) list.length i 0 list.length (by omega) (Nat.le_refl _) (Nat.zero_le _) (by omega)
    have e:(list.map aC_).getD i []=aC_ (list.getD i []):=by simp [List.getD,hi]
    rw [e] at this
    simp only [Nat.sub_zero] at this
    rw [this]
    unfold fF_
    rw [if_neg (λe=>by rw [e] at hi;cases hi)]
    rfl
end Go.Vc
namespace Go.Vc
open Go Go.MapKept
theorem o5_ {w:World} {s:HS} (h:az_ w s) {v:HV} (hv:v∈s.vs) {i:Int} (hi:aM_ i) {K:Value→World→Prop}
    (h1:∀w' (n:Int),Grow w w'→0≤n→n<(s.d.sl.length:Int)→(¬iV_ s n∨∃p∈v.ol,p.1=i∧p.2.1=n)→K (.tuple #[.int .i64 n,.bool true]) w')
    (h2:∀w',Grow w w'→(∀n:Nat,n<s.d.sl.length→iV_ s n)→K (.tuple #[.int .i64 0,.bool false]) w'):aa_ PR F.g3_ ⟨[.pointer (some ⟨s.bh,0,none⟩),.pointer (some ⟨v.b,0,none⟩),.int .i64 i]⟩ w K:=by
  have hv0:=h.vs v hv
  have hne:v.b≠s.bh:=sG_ hv0.blk h.blk (by decide)
  have h0:Fs (· = s.bh) w [⟨s.bh,hsC s,T.as_,true⟩,⟨v.b,hvC v,T.aL_,false⟩] w:=((Fr.init _ w).entry hv0.blk (λx h=>by cases h) (λh=>by cases h)).entry h.blk (λx hx=>by simp at hx;subst hx;exact hne) λ_=>rfl
  have gr:∀ {w':World} {L:List Blk} {M:List Nat} {wp:World},Fr (· = s.bh) w wp M (⟨s.bh,hsC s,T.as_,true⟩ :: L) w'→Grow w w':=λhF=>hF.chg.same h.blk (hF.blk 0 rfl)
  refine i0_ s.bh (some ⟨s.bj,0,none⟩) (some s.m) s.act s.prep s.lv s.li v.b v.man.version v.man.nodes v.man.edges v.q v.man.shards.length v.c v.man.blocks (str v.man.root) (some v.bm) (some v.om) i (· = s.bh) K w h0 ⟨rfl,trivial⟩ ?_
  refine aJ_ bV_ hv0.om hi true eT_ (λx hx=>?_) λhno=>⟨_,_,false,rfl,(λh=>by cases h),λ_=>⟨h0,λl1 hl1 w2 hF2=>?_⟩⟩
  · obtain ⟨p,hp,e⟩:=List.mem_map.1 hx
    have e1:p.1=i:=congrArg Prod.fst e
    have e2:x=plV p.2:=(congrArg Prod.snd e).symm
    subst e2
    have hsl:=h.sl v hv p (List.mem_append_right _ hp)
    exact ⟨_,_,true,rfl,λ_=>⟨h0,λl0 hl0 w1 hF1=>h1 w1 p.2.1 (gr hF1) hsl.1 hsl.2 (.inr ⟨p,hp,e1,rfl⟩)⟩,λh=>by cases h⟩
  · have hF2':=hF2.unM hl1
    have g2:Grow w w2:=gr hF2'
    refine oA_ (h.grow g2) λw3 r g3 hr M3=>⟨_,rfl,hF2'.after g3,?_⟩
    have g23:=g2.trans g3
    have h3:=h.grow g23
    refine ac_.2 (ac_.2 (ac_.2 ⟨_,by rw [au_,aw_ h3.jr.blk];rfl,lQ_ h3.jr.dsk ⟨_,rfl,hF2'.after g3,?_⟩⟩))
    refine ⟨λn lv w'=>∃t:Nat,n=t∧t≤s.d.sl.length∧lv=s.d.sl.length - t∧aA_ w' r (iV_ s)∧∀k:Nat,k<t→iV_ s k,⟨_,0,rfl,by omega,rfl,M3,λk hk=>by omega⟩,?_⟩
    rintro n D lv w5 ⟨t,rfl,ht,rfl,M5,hall⟩ hF5
    have hdl:=h.dl
    refine ⟨λhlt=>M5.look ⟨by omega,by omega⟩ (λhx=>⟨true,rfl,λ_=>⟨hF5,s.d.sl.length - (t+1),by omega,t+1,wr1 (by omega),by omega,rfl,M5,λk hk=>?_⟩,λh=>by cases h⟩) λhx=>⟨false,rfl,(λh=>by cases h),λ_=>⟨hF5,h1 w5 t (gr hF5) (by omega) hlt (.inl hx)⟩⟩,λhge=>h2 w5 (gr hF5) λk hk=>hall k (by omega)⟩
    rcases Nat.lt_or_ge k t with hk' | hk'
    · exact hall k hk'
    · have:k=t:=by omega
      subst this;exact hx
def setV (vs:List HV) (v':HV):List HV:=vs.map λx=>if x.man.version=v'.man.version then v' else x
theorem qS_ {w:World} {s:HS} (h:az_ w s) {v v':HV} (hv:v∈s.vs) (e1:v'.man=v.man) (e2:v'.b=v.b):(setV s.vs v').map ptV=s.vs.map ptV:=by
  unfold setV
  rw [List.map_map]
  refine List.map_congr_left λx hx=>?_
  show ptV (if x.man.version=v'.man.version then v' else x)=ptV x
  split
  · rename_i e
    have:x=v:=h.uniq hx hv (by rw [e,e1])
    subst this
    unfold ptV;rw [e1,e2]
  · rfl
theorem ho_ {vs:List HV} {v' x:HV} (h:x∈setV vs v'):x=v'∨(x∈vs∧x.man.version≠v'.man.version):=by
  obtain ⟨y,hy,rfl⟩:=List.mem_map.1 h
  split
  · exact .inl rfl
  · rename_i e;exact .inr ⟨hy,e⟩
theorem o9_ {w:World} {s:HS} (h:az_ w s) {v v':HV} (hv:v∈s.vs) (e0:v'.man=v.man) (e1:v'.bm=v.bm) (e2:v'.om=v.om):(setV s.vs v').flatMap (λv=>[v.bm,v.om])=s.vs.flatMap λv=>[v.bm,v.om]:=by
  have:∀l:List HV,(∀x∈l,x∈s.vs)→(setV l v').flatMap (λv=>[v.bm,v.om])=l.flatMap λv=>[v.bm,v.om]:=by
    intro l
    induction l with
    | nil=>intro _;rfl
    | cons a l ih=>
      intro hl
      have ih:=ih λx hx=>hl x (List.mem_cons_of_mem _ hx)
      unfold setV at ih ⊢
      rw [List.map_cons,List.flatMap_cons,List.flatMap_cons,ih]
      congr 1
      split
      · rename_i e
        have:a=v:=h.uniq (hl a List.mem_cons_self) hv (by rw [e,e0])
        subst this
        rw [e1,e2]
      · rfl
  exact this s.vs λx hx=>hx
theorem ke_ {m:Nat} {vs:List HV} (h:(m :: vs.flatMap λv=>[v.bm,v.om]).Nodup) {v:HV} (hv:v∈vs):m≠v.bm∧m≠v.om∧v.bm≠v.om:=by
  rw [List.nodup_cons] at h
  refine ⟨λe=>h.1 (List.mem_flatMap.2 ⟨v,hv,by rw [e];simp⟩),λe=>h.1 (List.mem_flatMap.2 ⟨v,hv,by rw [e];simp⟩),λe=>?_⟩
  have h2:=h.2
  obtain ⟨l1,l2,rfl⟩:=List.append_of_mem hv
  rw [List.flatMap_append,List.flatMap_cons,List.nodup_append] at h2
  have:=(List.nodup_append.1 h2.2.1).1
  simp [e] at this
theorem q5_ {vs:List HV} (h:(vs.flatMap λv=>[v.bm,v.om]).Nodup) {v x:HV} (hv:v∈vs) (hx:x∈vs) (hne:x≠v):x.bm≠v.bm∧x.bm≠v.om∧x.om≠v.bm∧x.om≠v.om:=by
  induction vs with
  | nil=>cases hv
  | cons a vs ih=>
    rw [List.flatMap_cons,List.nodup_append] at h
    obtain ⟨h1,h2,h3⟩:=h
    have mem:∀ {y:HV},y∈vs→y.bm∈vs.flatMap (λv=>[v.bm,v.om])∧y.om∈vs.flatMap (λv=>[v.bm,v.om]):=λhy=>⟨List.mem_flatMap.2 ⟨_,hy,by simp⟩,List.mem_flatMap.2 ⟨_,hy,by simp⟩⟩
    rcases List.mem_cons.1 hv with rfl | hv' <;> rcases List.mem_cons.1 hx with rfl | hx'
    · exact absurd rfl hne
    · have:=mem hx'
      exact ⟨λe=>h3 v.bm (by simp) x.bm this.1 e.symm,λe=>h3 v.om (by simp) x.bm this.1 e.symm,λe=>h3 v.bm (by simp) x.om this.2 e.symm,λe=>h3 v.om (by simp) x.om this.2 e.symm⟩
    · have:=mem hv'
      exact ⟨λe=>h3 x.bm (by simp) v.bm this.1 e,λe=>h3 x.bm (by simp) v.om this.2 e,λe=>h3 x.om (by simp) v.bm this.1 e,λe=>h3 x.om (by simp) v.om this.2 e⟩
    · exact ih h2 hv' hx'
theorem az_.upd {w w':World} {s:HS} (h:az_ w s) {v:HV} (hv:v∈s.vs) (g:Chg (λk=>jfS s.bj s.j k∨k=v.bm∨k=v.om) w w') {j:JP} {recs:List (List UInt8)} {d:DM} (jr:JrnF w' s.bj j recs d) {bl ol:List (Int × Int × List UInt8)} (hb:MapI w' v.bm (blI bl)) (ho:MapI w' v.om (blI ol)) (hi:∀p∈bl,0≤p.1∧p.1<v.man.blocks) (hd:d.sl.length=s.d.sl.length) (hsl:∀p∈bl++ol,0≤p.2.1∧p.2.1<s.d.sl.length) :
    az_ w' { s with j:=j,recs:=recs,d:=d,vs:=setV s.vs { v with bl:=bl,ol:=ol } }:=by
  have hv0:=h.vs v hv
  have ap:=ke_ h.nd hv
  have hnd:=(List.nodup_cons.1 h.nd).2
  have off:∀ {k:Nat} {cs:Array Value} {t:TypeId} {f:Nat × Nat},w.heap[k]? = some (.cells cs t f)→(t=T.as_∨t=T.aL_∨t=T.aS_)→¬(jfS s.bj s.j k∨k=v.bm∨k=v.om):=λhb ht e=>by
    rcases e with e | e | e
    · exact h.jr.other hb ht e
    · exact hv0.bm.ne hb e
    · exact hv0.om.ne hb e
  refine ⟨g.get h.blk (off h.blk (.inl rfl)),jr,?_,?_,?_,?_,?_,?_⟩
  · show MapI w' s.m ((setV s.vs _).map ptV)
    rw [qS_ (v':={ v with bl:=bl,ol:=ol }) h hv rfl rfl]
    exact h.mp.keep g λe=>e.elim h.mj λe=>e.elim ap.1 ap.2.1
  · intro x hx
    rcases ho_ hx with rfl | ⟨hx',hne⟩
    · exact ⟨g.get hv0.blk (off hv0.blk (.inr (.inl rfl))),hv0.own.keep g (am_.off λk ⟨a,ha,e⟩=>by subst e;obtain ⟨cs,hh⟩:=hv0.own.ty ha;exact off hh (.inr (.inr rfl))),hb,ho,hv0.ok,hi⟩
    · have hx0:=h.vs x hx'
      have hxv:x≠v:=λe=>hne (by rw [e])
      have o4:=q5_ hnd hv hx' hxv
      refine hx0.keep g λk hk e=>?_
      rcases hk with rfl | rfl | rfl | ⟨a,ha,rfl⟩
      · exact off hx0.blk (.inr (.inl rfl)) e
      · exact e.elim (h.jr.map hx0.bm) λe=>e.elim o4.1 o4.2.1
      · exact e.elim (h.jr.map hx0.om) λe=>e.elim o4.2.2.1 o4.2.2.2
      · obtain ⟨cs,hh⟩:=hx0.own.ty ha
        exact off hh (.inr (.inr rfl)) e
  · show (s.m :: (setV s.vs _).flatMap λv=>[v.bm,v.om]).Nodup
    rw [o9_ (v':={ v with bl:=bl,ol:=ol }) h hv rfl rfl rfl]
    exact h.nd
  · intro x hx p hp
    show 0≤p.2.1∧p.2.1<d.sl.length
    rw [hd]
    rcases ho_ hx with rfl | ⟨hx',_⟩
    · exact hsl p hp
    · exact h.sl x hx' p hp
  · show (setV s.vs _).length≤3
    rw [setV,List.length_map];exact h.few
  · show d.sl.length≤4096
    rw [hd];exact h.dl
theorem oi_ {w:World} {bj:Nat} {j:JP} {recs:List (List UInt8)} {d:DM} (h:JrnF w bj j recs d) {n:Int} (hn:0≤n∧n<d.sl.length) {t:List UInt8} (hl:(logL recs).length≤1099511627776) (htl:t.length≤1000000) (hw:d.ws.length≤1000000) {K:Value→World→Prop}
    (h1:t.length≤64→∀w' j',JrnF w' bj j' recs (d.put n t)→Chg (jfS bj j) w w'→j'.bd=j.bd→(∀k,jfS bj j' k→jfS bj j k∨w.heap.size≤k)→K .nilIface w')
    (h2:64<t.length→K (.iface T.ak_ (.int .i64 6)) w):aa_ PR F.ec_ ⟨[.pointer (some ⟨j.bd,0,none⟩),.int .i64 n,.string (str t)]⟩ w K:=by
  have hbj:=aj_ h.blk
  refine op_ h.dsk hn (by rw [h.log];omega) hw (λhle w1 q' c' hd1 g1 hq1=>?_) h2
  have hdn:∀k,dfS j.bd { j.p with wq:=q',wc:=c' } k→dfS j.bd j.p k∨w.heap.size≤k:=λk hk=>rZ_ hq1 hk
  have elog:(d.put n t).log=d.log:=by
    unfold DM.put DM.now;rw [if_neg (by omega)]
  refine h1 hle w1 ⟨j.bd,{ j.p with wq:=q',wc:=c' },j.q,j.c⟩ ⟨g1.get h.blk h.nb,h.own.keep g1 (am_.off λk hk e=>h.qd k hk e),h.cap,hd1,by rw [elog];exact h.log,λe=>?_,h.nq,λk hk e=>?_⟩ (g1.mono λk _ e=>.inr (.inl e)) rfl λk hk=>?_
  · rcases hdn bj e with h' | h'
    · exact h.nb h'
    · omega
  · rcases hdn k e with h' | h'
    · exact h.qd k hk h'
    · have:=h.lt k (.inr (.inr hk));omega
  · rcases hk with h' | h' | h'
    · exact .inl (.inl h')
    · exact (hdn k h').imp (λe=>.inr (.inl e)) id
    · exact .inl (.inr (.inr h'))
theorem mc_ (d:DM) (z:List UInt8):(d.put (-1) z).sl=d.sl:=by unfold DM.put DM.now;rw [if_pos rfl]
theorem m9_ {d:DM} {n:Int} (hn:¬n = -1) {z:List UInt8} : (d.put n z).sl=d.sl.set n.toNat z:=by unfold DM.put DM.now;rw [if_neg hn]
noncomputable def HV.putB (v:HV) (i sl:Int) (t:List UInt8):HV:={ v with bl:=v.bl++[(i,sl,aC_ t)],ol:=v.ol.filter λp=>p.1 != i }
noncomputable def HS.putB (s:HS) (j:JP) (v:HV) (i sl:Int) (t:List UInt8):HS:=
  { s with j:=j,recs:=s.recs++[recB v.man.version i (sl,aC_ t)],d:=(s.d.put sl t).put (-1) (ge_ crcN (recB v.man.version i (sl,aC_ t))),vs:=setV s.vs (v.putB i sl t) }
structure rH_ (s:HS):Prop where
  log:(logL s.recs).length≤1000000000
  recs:s.recs.length≤1000000000
  ws:s.d.ws.length≤900000
theorem sH_ {l:List (Int × Int × List UInt8)} {i sl:Int} {x:List UInt8} (h:∀p∈l,p.1≠i):putI (blI l) i (plV (sl,x))=blI (l++[(i,sl,x)]):=by
  rw [fH_ λp hp=>by obtain ⟨q,hq,rfl⟩:=List.mem_map.1 hp;exact h q hq]
  simp [blI]
theorem sI_ {l:List (Int × Int × List UInt8)} {i:Int} : delI (blI l) i=blI (l.filter λp=>p.1 != i):=by
  unfold delI blI
  rw [List.filter_map]
  rfl
theorem qv_ {w:World} {s:HS} (h:az_ w s) (hr:rH_ s) {n i:Int} (hn:aM_ n) (hi:aM_ i) {t:List UInt8} (htl:t.length≤1000000) {prf:List (List UInt8)} {y:Option Addr} {cy:Nat} (hs:Sl w y (prf.map sv8')) {K:Value→World→Prop}
    (hU:∀w',Grow w w'→(∀v∈s.vs,v.man.version≠n)→K (.iface T.ak_ (.int .i64 13)) w')
    (hC:∀w' v c e,v∈s.vs→v.man.version=n→Grow w w'→errP c e→¬bd_ i v.man.blocks (aC_ t) prf v.man.root→hs_ i v.man.blocks c→K e w')
    (hI:∀w' v,v∈s.vs→v.man.version=n→Grow w w'→bd_ i v.man.blocks (aC_ t) prf v.man.root→(∃p∈v.bl,p.1=i)→K .nilIface w')
    (hF:∀w' v,v∈s.vs→v.man.version=n→Grow w w'→bd_ i v.man.blocks (aC_ t) prf v.man.root→(∀p∈v.bl,p.1≠i)→(∀k:Nat,k<s.d.sl.length→iV_ s k)→K (.iface T.ak_ (.int .i64 7)) w')
    (hL:∀w' v,v∈s.vs→v.man.version=n→Grow w w'→bd_ i v.man.blocks (aC_ t) prf v.man.root→(∀p∈v.bl,p.1≠i)→64<t.length→K (.iface T.ak_ (.int .i64 6)) w')
    (hK:∀w' v j sl,v∈s.vs→v.man.version=n→bd_ i v.man.blocks (aC_ t) prf v.man.root→(∀p∈v.bl,p.1≠i)→t.length≤64→(¬iV_ s sl∨∃p∈v.ol,p.1=i∧p.2.1=sl)→az_ w' (s.putB j v i sl t)→Chg (hS s) w w'→(∀k,hS (s.putB j v i sl t) k→hS s k∨w.heap.size≤k)→K .nilIface w') :
    aa_ PR F.h4_ ⟨[.pointer (some ⟨s.bh,0,none⟩),.int .i64 n,.int .i64 i,.string (str t),.slice y prf.length cy]⟩ w K:=by
  have h0:=h.fs
  have hbl:=aj_ h.blk
  have gr:∀ {w':World} {L:List Blk} {M:List Nat} {wp w1:World},Grow w w1→Fr (hS s) w w1 [] L w'→Grow w w':=λg hF=>g.trans hF.grow
  refine kp_ s.bh (some ⟨s.bj,0,none⟩) (some s.m) s.act s.prep s.lv s.li n i (str t) y prf.length cy (hS s) K w h0 ⟨.inl rfl,trivial⟩ ?_
  refine eF_ h hn (λv hv hvn=>⟨_,_,rfl,h0,λ_ w1 hF1=>?_,(λt x h=>by cases h),.inl rfl⟩) λhno=>⟨_,_,rfl,h0,(λh=>by cases h),(λt x _=>hU w (.refl _ _) hno),.inr ⟨_,_,rfl⟩⟩
  have hv0:=h.vs v hv
  have g1:Grow w w1:=hF1.grow
  have hvb:∀ {w':World},Grow w w'→w'.heap[v.b]? = some (.cells (hvC v) T.aL_ (0,0)):=λg=>Grow.get g hv0.blk
  refine ⟨λw'=>w'.heap[v.b]? = some (.cells (hvC v) T.aL_ (0,0)),hvb g1,ac_.2 (ac_.2 (ac_.2 (ac_.2 ⟨_,λw' hb=>dy_ hb (k:=5) rfl,ac_.2 (ac_.2 (ac_.2 (ac_.2 ⟨_,λw' hb=>dy_ hb (k:=4) rfl,?_⟩)))⟩)))⟩
  refine mR_ (hs.grow g1) htl (λw4 g4 hok=>?_) λw4 e c g4 he hnok hbad=>⟨_,rfl,hF1.after g4,hvb (g1.trans g4),(λh=>by obtain ⟨t,x,rfl⟩:=he.err;cases h),(λt x _=>hC w4 v c e hv hvn (g1.trans g4) he hnok hbad),.inr (by obtain ⟨t,x,h⟩:=he.err;exact ⟨t,x,h⟩)⟩
  have g14:=g1.trans g4
  refine ⟨_,rfl,hF1.after g4,hvb g14,λ_=>ac_.2 (ac_.2 (ac_.2 ⟨_,cM_ (hvb g14) (k:=6) rfl,?_⟩)),(λt x h=>by cases h),.inl rfl⟩
  have hF4:=hF1.after g4
  refine aJ_ bV_ (hv0.bm.grow g14) hi true eT_ (λx hx=>?_) λhno=>⟨_,_,false,rfl,(λh=>by cases h),λ_=>⟨hF4,λl1 hl1 w7 hF7=>?_⟩⟩
  · obtain ⟨p,hp,e⟩:=List.mem_map.1 hx
    have e2:x=plV p.2:=(congrArg Prod.snd e).symm
    subst e2
    exact ⟨_,_,true,rfl,λ_=>⟨hF4,λl0 hl0 w6 hF6=>hI w6 v hv hvn (g14.trans (hF6.unM hl0).grow) hok ⟨p,hp,congrArg Prod.fst e⟩⟩,λh=>by cases h⟩
  have hnew:∀p∈v.bl,p.1≠i:=λp hp e=>hno (p.1,plV p.2) (List.mem_map.2 ⟨p,hp,rfl⟩) e
  have hF7':=hF7.unM hl1
  have g7:Grow w w7:=g14.trans hF7'.grow
  have h7:=h.grow g7
  refine o5_ h7 hv hi (λw8 sl g8 hsl0 hsl1 hslu=>⟨_,true,rfl,λ_=>⟨hF7'.after g8,?_⟩,λh=>by cases h⟩) λw8 g8 hall=>⟨_,false,rfl,(λh=>by cases h),λ_=>⟨hF7'.after g8,hF w8 v hv hvn (g7.trans g8) hok hnew hall⟩⟩
  have g78:=g7.trans g8
  have hF8:=hF7'.after g8
  refine iO_ htl λw9 g9=>⟨_,rfl,hF8.after g9,λl2 hl2=>ac_.2 (ac_.2 λw10 hF10=>?_)⟩
  have hF10':=hF10.unM hl2
  have g10:Grow w w10:=(g78.trans g9).trans hF10'.grow
  have h10:=h.grow g10
  have hl2w:w.heap.size≤l2:=Nat.le_trans (g78.trans g9).size hl2
  obtain ⟨hr1,hr2,hr3⟩:=hr
  have hdl:=h.dl
  refine ac_.2 ⟨_,by rw [au_,aw_ h10.jr.blk];rfl,?_⟩
  refine oi_ h10.jr ⟨hsl0,hsl1⟩ (by omega) htl (by omega) (λhle w11 j1 hj1 c11 hbd1 hst1=>?_) λhgt=>⟨_,rfl,hF10'.reset,(λh=>by cases h),(λt x _=>hL w10 v hv hvn g10 hok hnew hgt),.inr ⟨_,_,rfl⟩⟩
  have offL:∀ {w':World} {S':Nat→Prop} {a:Nat} {cs:Array Value},(∀k,S' k→jfS s.bj s.j k∨w.heap.size≤k∧k<w'.heap.size)→True:=λ_=>trivial
  have hl2n:¬jfS s.bj s.j l2:=λe=>by have:=h.jr.lt l2 e;omega
  have hF11:=hF10'.step c11 (λx hx=>by
    simp only [List.mem_cons,List.not_mem_nil,or_false] at hx
    rcases hx with rfl | rfl
    · exact h.bhj
    · exact hl2n) λk _ e=>.inr (.inl e)
  have sz11:=c11.size
  refine ⟨_,rfl,hF11,λ_ w12 hF12=>⟨λ_=>True,trivial,?_⟩,(λt x h=>by cases h),.inl rfl⟩
  have g12:Grow w11 w12:=hF12.grow
  have hver:=hv0.ok.version
  have hblk:=hv0.ok.blocks.2
  have hib:0≤i∧i<v.man.blocks:=by
    obtain ⟨a,b,e1,e2,e3,_⟩:=hok
    omega
  refine hf_ (x:=(sl,aC_ t)) ⟨by omega,by omega⟩ ⟨by omega,by omega⟩ ⟨by show 0≤sl;omega,by show sl≤_;omega⟩ (by rw [en_];omega) λw13 g13=>⟨_,rfl,hF12.after g13,trivial,λl3 hl3 w14 hF14=>⟨trivial,?_⟩⟩
  have g14':Grow w11 w14:=(g12.trans g13).trans hF14.grow
  have hj14:=hj1.grow g14'
  have hrl:(recB n i (sl,aC_ t)).length≤1+24+1008:=m8_ ⟨by omega,by omega⟩ ⟨by omega,by omega⟩ ⟨by show 0≤sl;omega,by show sl≤_;omega⟩ (by rw [en_];omega)
  have sz12:=g12.size
  have sz13:=g13.size
  have sz10:=g10.size
  have hl3n:¬jfS s.bj j1 l3:=λe=>by
    have:=hj1.lt l3 e;omega
  have hl2n1:¬jfS s.bj j1 l2:=λe=>by
    have hl2':=hF10'.lt ⟨l2,#[.int .i64 sl,.string (str (aC_ t))],T.a__,true⟩ (by simp)
    simp only [] at hl2'
    rcases hst1 l2 e with e | e
    · exact hl2n e
    · omega
  have hws1:(s.d.put sl t).ws.length=s.d.ws.length+1:=by
    unfold DM.put DM.now;split <;> simp
  refine jK_ (s:=recB n i (sl,aC_ t)) hj14 (hF14.sl 2 rfl) (λa ha=>by cases ha;exact hl3n) (by omega) (by omega) (by omega) (by omega) λw15 j2 hj2 c15 hbd2 hst2=>?_
  have hbh1:¬jfS s.bj j1 s.bh:=λe=>(hst1 _ e).elim h.bhj λe=>by omega
  have cov1:∀k,k<w.heap.size→jfS s.bj j1 k→jfS s.bj s.j k:=λk hk e=>(hst1 k e).elim id λe=>by omega
  have hF15:=hF14.step c15 (λx hx=>by
    simp only [List.mem_cons,List.not_mem_nil,or_false] at hx
    rcases hx with rfl | rfl | rfl
    · exact hbh1
    · exact hl2n1
    · exact hl3n) λk hk e=>.inr (.inl (cov1 k hk e))
  refine ⟨_,rfl,_,hF15,trivial,λ_ w16 hF16=>?_,(λt x h=>by cases h),.inl rfl⟩
  have c0_15:Chg (jfS s.bj s.j) w w15:=((g10.chg.trans c11 λ_ _ e=>e).grow g14').trans c15 cov1
  have c16:Chg (jfS s.bj s.j) w w16:=c0_15.grow hF16.grow
  have hvj:∀ {k:Nat} {cs:Array Value} {t:TypeId} {f:Nat × Nat},w.heap[k]? = some (.cells cs t f)→(t=T.as_∨t=T.aL_∨t=T.aS_)→¬jfS s.bj s.j k:=λhb ht=>h.jr.other hb ht
  have hb16:w16.heap[v.b]? = some (.cells (hvC v) T.aL_ (0,0)):=c16.get hv0.blk (hvj hv0.blk (.inr (.inl rfl)))
  have bm16:=hv0.bm.keep c16 (h.jr.map hv0.bm)
  have om16:=hv0.om.keep c16 (h.jr.map hv0.om)
  have ap:=ke_ h.nd hv
  have hj16:=hj2.grow hF16.grow
  refine ⟨λw'=>w'.heap[v.b]? = some (.cells (hvC v) T.aL_ (0,0)),hb16,ac_.2 (ac_.2 (ac_.2 ⟨_,λw' hb=>cM_ hb (k:=6) rfl,?_⟩))⟩
  refine bR_ bV_ bm16 hi λw18 bm18 c18 s18=>?_
  have bmL:∀ {x:Blk},x∈([⟨s.bh,hsC s,T.as_,true⟩,⟨l2,#[.int .i64 sl,.string (str (aC_ t))],T.a__,true⟩]:List Blk)→¬x.b=v.bm:=λ{x} hx=>by
    have:=hv0.bm.lt
    simp only [List.mem_cons,List.not_mem_nil,or_false] at hx
    rcases hx with rfl | rfl
    · exact λe=>hv0.bm.ne h.blk e
    · show ¬l2=v.bm;omega
  have omL:∀ {x:Blk},x∈([⟨s.bh,hsC s,T.as_,true⟩]:List Blk)→¬x.b=v.om:=λ{x} hx=>by
    simp only [List.mem_cons,List.not_mem_nil,or_false] at hx
    subst hx
    exact λe=>hv0.om.ne h.blk e
  have hF18:=hF16.step c18 (λx hx=>bmL hx) (λk hk e=>.inr (.inr (.inr ⟨v,hv,.inl e⟩)))
  have hb18:w18.heap[v.b]? = some (.cells (hvC v) T.aL_ (0,0)):=c18.get hb16 (λe=>hv0.bm.ne hv0.blk e)
  have om18:=om16.keep c18 (λe=>ap.2.2 e.symm)
  have hj18:=hj16.keep c18 λk hk e=>by
    have e':k=v.bm:=e
    subst e'
    exact hj16.map bm16 hk
  refine ⟨hF18,ac_.2 (ac_.2 (ac_.2 ⟨_,cM_ hb18 (k:=7) rfl,?_⟩))⟩
  refine b3_ bV_ om18 hi λw19 om19 c19 s19=>⟨rfl,(hF18.sub (L':=[⟨s.bh,hsC s,T.as_,true⟩]) ((List.nil_sublist _).cons_cons _)).step c19 (λx hx=>omL hx) (λk hk e=>.inr (.inr (.inr ⟨v,hv,.inr e⟩))),?_⟩
  have bm19:=bm18.keep c19 (λe=>ap.2.2 e)
  have hj19:=hj18.keep c19 λk hk e=>by
    have e':k=v.om:=e
    subst e'
    exact hj18.map om18 hk
  have c19':Chg (λk=>jfS s.bj s.j k∨k=v.bm∨k=v.om) w w19:=(((c16.mono λk _ e=>.inl e).trans c18 λk _ e=>.inr (.inl e)).trans c19 λk _ e=>.inr (.inr e))
  have bm19:MapI w19 v.bm (putI (blI v.bl) i (plV (sl,aC_ t))):=bm19
  rw [sH_ hnew] at bm19
  rw [sI_] at om19
  subst hvn
  have hlen2:((s.d.put sl t).put (-1) (ge_ crcN (recB v.man.version i (sl,aC_ t)))).sl.length=s.d.sl.length:=by
    rw [mc_,m9_ (by omega),List.length_set]
  have hfin:=h.upd hv c19' hj19 bm19 om19 (λp hp=>by
    rcases List.mem_append.1 hp with hp | hp
    · exact hv0.inB p hp
    · simp at hp;subst hp;exact hib) hlen2 (λp hp=>by
    rcases List.mem_append.1 hp with hp | hp
    · rcases List.mem_append.1 hp with hp | hp
      · exact h.sl v hv p (List.mem_append_left _ hp)
      · simp at hp;subst hp;exact ⟨hsl0,hsl1⟩
    · exact h.sl v hv p (List.mem_append_right _ (List.mem_filter.1 hp).1))
  refine hK w19 v j2 sl hv rfl hok hnew hle hslu hfin (c19'.mono λk _ e=>?_) λk hk=>?_
  · rcases e with e | rfl | rfl
    · exact .inr (.inl e)
    · exact .inr (.inr (.inr ⟨v,hv,.inl rfl⟩))
    · exact .inr (.inr (.inr ⟨v,hv,.inr rfl⟩))
  · rcases hk with hk | hk | hk | ⟨x,hx,hk⟩
    · exact .inl (.inl hk)
    · rcases hst2 k hk with hk | hk
      · rcases hst1 k hk with hk | hk
        · exact .inl (.inr (.inl hk))
        · exact .inr (by omega)
      · exact .inr (by have:=g14'.size;omega)
    · exact .inl (.inr (.inr (.inl hk)))
    · rcases ho_ hx with rfl | ⟨hx',_⟩
      · exact .inl (.inr (.inr (.inr ⟨v,hv,hk⟩)))
      · exact .inl (.inr (.inr (.inr ⟨x,hx',hk⟩)))
end Go.Vc
namespace Go.Vc
open Go Go.RowKit Go.Maps Go.Sort Go.Shelf Go.Proofs Go.MapKept
open Go.WideElems (Fit rd rg rd_mk)
theorem cv_ {w w':World} (h:Below w.heap.size w w'):Grow w w':=⟨h.os,h.tape,h.output,h.size,λk hk _=>h.block k hk⟩
theorem o3_ (m:Nat):AnyZI.SortsIn Tryz.prog Tryz.sortedA_ren Fence.wide m:=
  ⟨λblk off cap ss W hH hblk hsz=>callsIn_wide.2 (AnyM.slices_Sort_int Tryz.sortA blk off cap ss W hH hblk hsz),
   λp cap W=>callsIn_wide.2 (AnyM.slices_Sort_int_none Tryz.sortA p cap W)⟩
end Go.Vc
