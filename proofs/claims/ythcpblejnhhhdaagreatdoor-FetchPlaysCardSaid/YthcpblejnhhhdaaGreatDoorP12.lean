/-
  A part of the proof of the statement FetchPlaysCardSaid, in Lean: MirF6, Fe1, Fe2, Fe3, MirF4, Po1, Bg1, Bg2, Fo1, Fd0. By an AI agent.
-/
import Derived.Test.YthcpblejnhhhdaaGreatDoorP02
import Derived.Test.YthcpblejnhhhdaaGreatDoorP06
import Derived.Test.YthcpblejnhhhdaaGreatDoorP11
import Derived.Test.YthcpblejnhhhdaaGreatDoorP08
set_option linter.unusedSimpArgs false
set_option linter.unusedVariables false
set_option maxRecDepth 100000
namespace Go.Vc
open Go
theorem iv_ (p0:Option Addr) (m1:Int) (S:SP) (K:KP) (w:World) (h:(p0=none→K (.tuple #[.pointer none,.iface 39 (Iv 1)]) w)∧∀a0:Addr,p0=some a0→aa_ PR 111 #[.pointer p0,Iv m1] w λv0 w0=>∃n0 n1 n2 q0 l0 l1 n3 s0 v1,v0=.tuple #[.agg #[Iv n0,Iv n1,Iv n2,.slice q0 l0 l1,Iv n3,.string s0],v1]∧Fs S w [] w0∧∀l2,w0.heap.size≤l2→(v1=.nilIface→∀w1,Fr S w w0 [l2] [] w1→rn PR (Instr.makeMap 60 none) (λv2 w2=>∃q1,v2=.map q1∧Fs S w [] w2∧∀l3,w2.heap.size≤l3→∀w3,Fr S w w2 [] [⟨l3,#[.pointer none,.pointer p0,Iv m1,.map q1],135,true⟩] w3→aa_ PR 26 #[.pointer (some (⟨l3,0,none⟩))] w3 λv3 w4=>∃n4,v3=Iv n4∧∃q2 q3 n5 q4,Fs S w [⟨l3,#[.pointer q2,.pointer q3,Iv n5,.map q4],135,true⟩] w4∧K (.tuple #[.pointer (some (⟨l3,0,none⟩)),.nilIface]) w4) w1)∧(∀x0 v4,v1=.iface x0 v4→∀w5,Fr S w w0 [l2] [] w5→K (.tuple #[.pointer none,v1]) w5)∧(v1=.nilIface∨∃l4 v5,v1=.iface l4 v5)):aa_ PR 54 ⟨[.pointer p0,.int .i64 m1]⟩ w K:=
 ab_ (okf:=⟨okL,[]⟩) ag_ (args:=[.c (.v (.pointer p0)),.c (.v (.int .i64 m1))]) (H:=[]) (.s .z (.s .z (.s (.s (.r ⟨(some []),false,[],[]⟩) .z) (.s (.r ⟨(some []),false,[],[]⟩) (.s (.r ⟨(some [8]),false,[],[(1,[999])]⟩) .z))))) Go.Proofs.Tryz.func54 rfl ⟨trivial,trivial,trivial⟩ trivial (Fr.init S w) trivial (ad_ (by kernel_rfl) h)
theorem dA_ (k0:Nat) (p1:Option Addr) (p2:Option Addr) (m3:Int) (g4:Option Nat) (S:SP) (K:KP) (w:World) (hF:Fs S w [⟨k0,#[.pointer p1,.pointer p2,.int .i64 m3,.map g4],135,true⟩] w) (hS:S k0∧True) (h:∀w0,Fr S w w [] [⟨k0,#[.pointer p1,.pointer p2,Iv m3,.map g4],135,true⟩] w0→let B0:Blk:=⟨k0,#[.pointer p1,.pointer p2,Iv m3,.map g4],135,true⟩;aa_ PR 22 #[.pointer p2,Iv m3] w0 λv0 w1=>∃q0 l0 l1,v0=.slice q0 l0 l1∧Fs S w [B0] w1∧(p1=none→aa_ PR 58 #[Iv 4,Iv 6,.slice none 0 0] w1 λv1 w2=>∃q1 v2,v1=.tuple #[.pointer q1,v2]∧Fs S w [B0] w2∧∀w3,Fr S w w2 [k0] [⟨k0,#[.pointer q1,.pointer p2,Iv m3,.map g4],135,true⟩] w3→let B1:Blk:=⟨k0,#[.pointer q1,.pointer p2,Iv m3,.map g4],135,true⟩;rn PR (Instr.makeMap 37 none) (λv3 w4=>∃q2,v3=.map q2∧Fs S w [B1] w4∧∃I0:Int→Nat→World→Prop,(∃l2,I0 0 l2 w4)∧∀n0,∀D0:Nat→Value,∀l3 w5,I0 n0 l3 w5→Fs S w [B1] w5→(n0<(l0:Int)→Dr q0 λa0=>(0:Int)≤n0∧n0<(l0:Int)∧Dr (some (Addr.add a0 (Int.toNat n0*1))) λa1=>∃n1,World.cell? w5 a1=some (Iv n1)∧rn PR (Instr.mapUpdate 37 (.map q2) (Iv n1) (.bool true)) (λx0 w6=>Fs S w [B1] w6∧∃l4,l4<l3∧I0 (IntKind.wrap .i64 (n0+1)) l4 w6) w5)∧(¬(n0<(l0:Int))→aa_ PR 59 #[.pointer q1] w5 λv4 w7=>∃q3 l5 l6,v4=.slice q3 l5 l6∧Fs S w [B1] w7∧∃I1:Int→Nat→World→Prop,(∃l7,I1 0 l7 w7)∧∀n2,∀D1:Nat→Value,∀l8 w8,I1 n2 l8 w8→Fs S w [B1] w8→(n2<(l5:Int)→Dr q3 λa2=>(0:Int)≤n2∧n2<(l5:Int)∧Dr (some (Addr.add a2 (Int.toNat n2*1))) λa3=>∃n3,World.cell? w8 a3=some (Iv n3)∧rn PR (Instr.lookup 37 (.map q2) (Iv n3) false) (λv5 w9=>∃b0,v5=.bool b0∧(b0=true→Fs S w [B1] w9∧∃l9,l9<l8∧I1 (IntKind.wrap .i64 (n2+1)) l9 w9)∧(b0=false→Fs S w [B1] w9∧aa_ PR 60 #[.pointer q1,Iv n3] w9 λv6 w10=>∃b1,v6=.bool b1∧(b1=true→Fs S w [B1] w10∧∃l10,l10<l8∧I1 (IntKind.wrap .i64 (n2+1)) l10 w10)∧(b1=false→Fs S w [B1] w10∧∃l11,l11<l8∧I1 (IntKind.wrap .i64 (n2+1)) l11 w10))) w8)∧(¬(n2<(l5:Int))→aa_ PR 61 #[.pointer q1,.slice q0 l0 l1] w8 λv7 w11=>v7=.tuple #[]∧Fs S w [B1] w11∧K (Iv (l0:Int)) w11))) w3)∧∀a4:Addr,p1=some a4→rn PR (Instr.makeMap 37 none) (λv8 w12=>∃q4,v8=.map q4∧Fs S w [B0] w12∧∃I2:Int→Nat→World→Prop,(∃l12,I2 0 l12 w12)∧∀n4,∀D2:Nat→Value,∀l13 w13,I2 n4 l13 w13→Fs S w [B0] w13→(n4<(l0:Int)→Dr q0 λa5=>(0:Int)≤n4∧n4<(l0:Int)∧Dr (some (Addr.add a5 (Int.toNat n4*1))) λa6=>∃n5,World.cell? w13 a6=some (Iv n5)∧rn PR (Instr.mapUpdate 37 (.map q4) (Iv n5) (.bool true)) (λx1 w14=>Fs S w [B0] w14∧∃l14,l14<l13∧I2 (IntKind.wrap .i64 (n4+1)) l14 w14) w13)∧(¬(n4<(l0:Int))→aa_ PR 59 #[.pointer p1] w13 λv9 w15=>∃q5 l15 l16,v9=.slice q5 l15 l16∧Fs S w [B0] w15∧∃I3:Int→Nat→World→Prop,(∃l17,I3 0 l17 w15)∧∀n6,∀D3:Nat→Value,∀l18 w16,I3 n6 l18 w16→Fs S w [B0] w16→(n6<(l15:Int)→Dr q5 λa7=>(0:Int)≤n6∧n6<(l15:Int)∧Dr (some (Addr.add a7 (Int.toNat n6*1))) λa8=>∃n7,World.cell? w16 a8=some (Iv n7)∧rn PR (Instr.lookup 37 (.map q4) (Iv n7) false) (λv10 w17=>∃b2,v10=.bool b2∧(b2=true→Fs S w [B0] w17∧∃l19,l19<l18∧I3 (IntKind.wrap .i64 (n6+1)) l19 w17)∧(b2=false→Fs S w [B0] w17∧aa_ PR 60 #[.pointer p1,Iv n7] w17 λv11 w18=>∃b3,v11=.bool b3∧(b3=true→Fs S w [B0] w18∧∃l20,l20<l18∧I3 (IntKind.wrap .i64 (n6+1)) l20 w18)∧(b3=false→Fs S w [B0] w18∧∃l21,l21<l18∧I3 (IntKind.wrap .i64 (n6+1)) l21 w18))) w16)∧(¬(n6<(l15:Int))→aa_ PR 61 #[.pointer p1,.slice q0 l0 l1] w16 λv12 w19=>v12=.tuple #[]∧Fs S w [B0] w19∧K (Iv (l0:Int)) w19))) w1):aa_ PR 26 ⟨[.pointer (some ⟨k0,0,none⟩)]⟩ w K:=
 ab_ (okf:=⟨okL,[]⟩) ag_ (args:=[.c (.p 0 k0 true 0)]) (H:=[⟨k0,.l [.v (.pointer p1),.v (.pointer p2),.v (.int .i64 m3),.v (.map g4)],135,true⟩]) (.s .z (.s .z (.s (.r ⟨(some [0]),false,[],[]⟩) (.s (.s .z (.c (.r ⟨(some [0]),false,[],[]⟩) .z)) (.s (.r ⟨(some [0]),false,[],[]⟩) (.s (.s .z (.b (.l (some [0]) (some [0]) [(35,.c (.int .i64))] [] (.s .z (.s .z (.s (.b (.s .z (.r ⟨(some [0]),false,[],[]⟩))) .z)))))) (.s (.s (.r ⟨(some [0]),false,[],[]⟩) (.b (.l (some [0]) (some [0]) [(48,.c (.int .i64))] [] (.s .z (.s .z (.s (.b (.s .z (.s (.r ⟨(some [0]),false,[],[]⟩) (.c (.r ⟨(some [0]),false,[],[(5,[999])]⟩) .z)))) .z)))))) (.s (.r ⟨(some [0]),false,[],[(5,[999])]⟩) .z)))))))) Go.Proofs.Tryz.func26 rfl ⟨rfl,trivial⟩ ⟨⟨trivial,⟨trivial,⟨trivial,⟨trivial,trivial⟩⟩⟩⟩,trivial⟩ hF hS (ad_ (by kernel_rfl) h)
theorem fo_ (k0:Nat) (p1:Option Addr) (p2:Option Addr) (m3:Int) (g4:Option Nat) (S:SP) (K:KP) (w:World) (hF:Fs S w [⟨k0,#[.pointer p1,.pointer p2,.int .i64 m3,.map g4],135,true⟩] w) (hS:S k0∧True) (h:K (Iv m3) w):aa_ PR 32 ⟨[.pointer (some ⟨k0,0,none⟩)]⟩ w K:=
 ab_ (okf:=⟨okL,[]⟩) ag_ (args:=[.c (.p 0 k0 true 0)]) (H:=[⟨k0,.l [.v (.pointer p1),.v (.pointer p2),.v (.int .i64 m3),.v (.map g4)],135,true⟩]) .z Go.Proofs.Tryz.func32 rfl ⟨rfl,trivial⟩ ⟨⟨trivial,⟨trivial,⟨trivial,⟨trivial,trivial⟩⟩⟩⟩,trivial⟩ hF hS (ad_ (by kernel_rfl) h)
theorem fp_ (k0:Nat) (p1:Option Addr) (p2:Option Addr) (m3:Int) (g4:Option Nat) (S:SP) (K:KP) (w:World) (hF:Fs S w [⟨k0,#[.pointer p1,.pointer p2,.int .i64 m3,.map g4],135,true⟩] w) (hS:S k0∧True) (h:aa_ PR 59 #[.pointer p1] w λv0 w0=>∃q0 l0 l1,v0=.slice q0 l0 l1∧Fs S w [⟨k0,#[.pointer p1,.pointer p2,Iv m3,.map g4],135,true⟩] w0∧K (.slice q0 l0 l1) w0):aa_ PR 30 ⟨[.pointer (some ⟨k0,0,none⟩)]⟩ w K:=
 ab_ (okf:=⟨okL,[]⟩) ag_ (args:=[.c (.p 0 k0 true 0)]) (H:=[⟨k0,.l [.v (.pointer p1),.v (.pointer p2),.v (.int .i64 m3),.v (.map g4)],135,true⟩]) (.s .z (.s .z (.s (.r ⟨(some [0]),false,[],[]⟩) .z))) Go.Proofs.Tryz.func30 rfl ⟨rfl,trivial⟩ ⟨⟨trivial,⟨trivial,⟨trivial,⟨trivial,trivial⟩⟩⟩⟩,trivial⟩ hF hS (ad_ (by kernel_rfl) h)
theorem hc_ (k0:Nat) (p1:Option Addr) (p2:Option Addr) (m3:Int) (g4:Option Nat) (S:SP) (K:KP) (w:World) (hF:Fs S w [⟨k0,#[.pointer p1,.pointer p2,.int .i64 m3,.map g4],135,true⟩] w) (hS:S k0∧True) (h:aa_ PR 30 #[.pointer (some (⟨k0,0,none⟩))] w λv0 w0=>∃q0 l0 l1,v0=.slice q0 l0 l1∧Fs S w [⟨k0,#[.pointer p1,.pointer p2,Iv m3,.map g4],135,true⟩] w0∧((l0:Int)=0→K (.bool true) w0)∧(¬((l0:Int)=0)→K (.bool false) w0)):aa_ PR 31 ⟨[.pointer (some ⟨k0,0,none⟩)]⟩ w K:=
 ab_ (okf:=⟨okL,[]⟩) ag_ (args:=[.c (.p 0 k0 true 0)]) (H:=[⟨k0,.l [.v (.pointer p1),.v (.pointer p2),.v (.int .i64 m3),.v (.map g4)],135,true⟩]) (.s .z (.s (.r ⟨(some [0]),false,[],[]⟩) .z)) Go.Proofs.Tryz.func31 rfl ⟨rfl,trivial⟩ ⟨⟨trivial,⟨trivial,⟨trivial,⟨trivial,trivial⟩⟩⟩⟩,trivial⟩ hF hS (ad_ (by kernel_rfl) h)
theorem gG_ (k0:Nat) (p1:Option Addr) (p2:Option Addr) (m3:Int) (g4:Option Nat) (m5:Int) (S:SP) (K:KP) (w:World) (hF:Fs S w [⟨k0,#[.pointer p1,.pointer p2,.int .i64 m3,.map g4],135,true⟩] w) (hS:S k0∧True) (h:rn PR (Instr.lookup 60 (.map g4) (Iv m5) false) (λv0 w0=>∃n0,v0=Iv n0∧Fs S w [⟨k0,#[.pointer p1,.pointer p2,Iv m3,.map g4],135,true⟩] w0∧K (Iv n0) w0) w):aa_ PR 28 ⟨[.pointer (some ⟨k0,0,none⟩),.int .i64 m5]⟩ w K:=
 ab_ (okf:=⟨okL,[]⟩) ag_ (args:=[.c (.p 0 k0 true 0),.c (.v (.int .i64 m5))]) (H:=[⟨k0,.l [.v (.pointer p1),.v (.pointer p2),.v (.int .i64 m3),.v (.map g4)],135,true⟩]) (.s .z (.s .z (.s (.r ⟨(some [0]),false,[],[]⟩) .z))) Go.Proofs.Tryz.func28 rfl ⟨rfl,trivial,trivial⟩ ⟨⟨trivial,⟨trivial,⟨trivial,⟨trivial,trivial⟩⟩⟩⟩,trivial⟩ hF hS (ad_ (by kernel_rfl) h)
theorem ha_ (k0:Nat) (p1:Option Addr) (p2:Option Addr) (m3:Int) (g4:Option Nat) (m5:Int) (y6:Option Addr) (ly6:Nat) (cy6:Nat) (S:SP) (K:KP) (w:World) (hF:Fs S w [⟨k0,#[.pointer p1,.pointer p2,.int .i64 m3,.map g4],135,true⟩] w) (hS:S k0∧True) (h:aa_ PR 55 #[.pointer p1,Iv m5] w λv0 w0=>∃q0 l0 l1,v0=.slice q0 l0 l1∧Fs S w [⟨k0,#[.pointer p1,.pointer p2,Iv m3,.map g4],135,true⟩] w0∧let B0:Blk:=⟨k0,#[.pointer p1,.pointer p2,Iv m3,.map g4],135,true⟩;∃I0:(Option Addr)→Nat→Nat→Nat→World→Prop,(∃l2,I0 none 0 0 l2 w0)∧∀q1 l3 l4,∀D0:Nat→Value,∀l5 w1,I0 q1 l3 l4 l5 w1→Fs S w [B0] w1→((ly6:Int)>0→aa_ PR 56 #[.pointer p1,Iv m5] w1 λv1 w2=>∃n0 b0,v1=.tuple #[Iv n0,.bool b0]∧(b0=true→Fs S w [B0] w2∧rn PR (Instr.lookup 60 (.map g4) (Iv n0) false) (λv2 w3=>∃n1,v2=Iv n1∧Fs S w [B0] w3∧(ly6:Int)≠0∧Dr y6 λa0=>(0:Int)≤Int.tmod (IntKind.wrap .i64 (n0+n1)) (ly6:Int)∧Int.tmod (IntKind.wrap .i64 (n0+n1)) (ly6:Int)<(ly6:Int)∧Dr (some (Addr.add a0 (Int.toNat (Int.tmod (IntKind.wrap .i64 (n0+n1)) (ly6:Int))*1))) λa1=>∃n2,World.cell? w3 a1=some (Iv n2)∧rn PR (Instr.lookup 60 (.map g4) (Iv n0) false) (λv3 w4=>∃n3,v3=Iv n3∧Fs S w [B0] w4∧rn PR (Instr.mapUpdate 60 (.map g4) (Iv n0) (Iv (IntKind.wrap .i64 (n3+1)))) (λx0 w5=>Fs S w [B0] w5∧∀l6,w5.heap.size≤l6→∀w6,Fr S w w5 [] [B0,⟨l6,#[Iv n2,Iv 2,Iv m3,Iv n0,.string ⟨#[]⟩,.slice none 0 0],70,true⟩] w6→rn PR (Builtin.append_ #[67,67] 67 #[.slice q1 l3 l4,.slice (some (⟨l6,0,none⟩)) 1 1]) (λv4 w7=>∃q2 l7 l8,v4=.slice q2 l7 l8∧Fs S w [B0,⟨l6,#[Iv n2,Iv 2,Iv m3,Iv n0,.string ⟨#[]⟩,.slice none 0 0],70,true⟩] w7∧∃l9,l9<l5∧I0 q2 l7 l8 l9 w7) w6) w4) w3) w2)∧(b0=false→Fs S w [B0] w2∧K (.slice q1 l3 l4) w2))∧(¬((ly6:Int)>0)→K (.slice q1 l3 l4) w1)):aa_ PR 23 ⟨[.pointer (some ⟨k0,0,none⟩),.int .i64 m5,.slice y6 ly6 cy6]⟩ w K:=
 ab_ (okf:=⟨okL,[]⟩) ag_ (args:=[.c (.p 0 k0 true 0),.c (.v (.int .i64 m5)),.c (.v (.slice y6 ly6 cy6))]) (H:=[⟨k0,.l [.v (.pointer p1),.v (.pointer p2),.v (.int .i64 m3),.v (.map g4)],135,true⟩]) (.s .z (.s .z (.s (.r ⟨(some [0]),false,[],[(5,[999])]⟩) (.s .z (.s (.b (.l (some [0]) (some [0]) [(7,.c (.sl))] [] (.s .z (.b (.s (.r ⟨(some [0]),false,[],[(5,[999])]⟩) (.s .z (.s (.r ⟨(some [0]),false,[],[]⟩) (.s (.r ⟨(some [0]),false,[],[]⟩) (.r ⟨(some [0]),false,[],[]⟩))))))))) .z))))) Go.Proofs.Tryz.func23 rfl ⟨rfl,trivial,trivial,trivial⟩ ⟨⟨trivial,⟨trivial,⟨trivial,⟨trivial,trivial⟩⟩⟩⟩,trivial⟩ hF hS (ad_ (by kernel_rfl) h)
theorem gF_ (k0:Nat) (p1:Option Addr) (p2:Option Addr) (m3:Int) (g4:Option Nat) (m5:Int) (S:SP) (K:KP) (w:World) (hF:Fs S w [⟨k0,#[.pointer p1,.pointer p2,.int .i64 m3,.map g4],135,true⟩] w) (hS:S k0∧True) (h:aa_ PR 115 #[.pointer p1,Iv m5] w λv0 w0=>∃n0 b0,v0=.tuple #[Iv n0,.bool b0]∧(b0=true→Fs S w [⟨k0,#[.pointer p1,.pointer p2,Iv m3,.map g4],135,true⟩] w0∧let B0:Blk:=⟨k0,#[.pointer p1,.pointer p2,Iv m3,.map g4],135,true⟩;aa_ PR 60 #[.pointer p1,Iv m5] w0 λv1 w1=>∃b1,v1=.bool b1∧(b1=true→Fs S w [B0] w1∧∀l0,w1.heap.size≤l0→∀w2,Fr S w w1 [] [B0,⟨l0,#[Iv m5],3,true⟩] w2→aa_ PR 61 #[.pointer p1,.slice (some (⟨l0,0,none⟩)) 1 1] w2 λv2 w3=>v2=.tuple #[]∧∃n1,Fs S w [B0,⟨l0,#[Iv n1],3,true⟩] w3∧K (.tuple #[]) w3)∧(b1=false→Fs S w [B0] w1∧K (.tuple #[]) w1))∧(b0=false→Fs S w [⟨k0,#[.pointer p1,.pointer p2,Iv m3,.map g4],135,true⟩] w0∧K (.tuple #[]) w0)):aa_ PR 62 ⟨[.pointer (some ⟨k0,0,none⟩),.int .i64 m5]⟩ w K:=
 ab_ (okf:=⟨okL,[]⟩) ag_ (args:=[.c (.p 0 k0 true 0),.c (.v (.int .i64 m5))]) (H:=[⟨k0,.l [.v (.pointer p1),.v (.pointer p2),.v (.int .i64 m3),.v (.map g4)],135,true⟩]) (.s (.r ⟨(some [0]),false,[],[]⟩) (.s (.r ⟨(some [0]),false,[],[(7,[999])]⟩) (.c (.r ⟨(some [0]),false,[],[(6,[999])]⟩) .z))) Go.Proofs.Tryz.func62 rfl ⟨rfl,trivial,trivial⟩ ⟨⟨trivial,⟨trivial,⟨trivial,⟨trivial,trivial⟩⟩⟩⟩,trivial⟩ hF hS (ad_ (by kernel_rfl) h)
theorem hb_ (k0:Nat) (p1:Option Addr) (p2:Option Addr) (m3:Int) (g4:Option Nat) (m5:Int) (m6:Int) (m7:Int) (z8:ByteArray) (y9:Option Addr) (ly9:Nat) (cy9:Nat) (S:SP) (K:KP) (w:World) (hF:Fs S w [⟨k0,#[.pointer p1,.pointer p2,.int .i64 m3,.map g4],135,true⟩] w) (hS:S k0∧True) (h:∀l0,w.heap.size≤l0→(m6=m3→(m5=3→∀w0,Fr S w w [] [⟨k0,#[.pointer p1,.pointer p2,Iv m3,.map g4],135,true⟩,⟨l0,#[Iv m5,Iv m6,Iv m7,.string z8,.slice y9 ly9 cy9],62,true⟩] w0→let B1:Blk:=⟨l0,#[Iv m5,Iv m6,Iv m7,.string z8,.slice y9 ly9 cy9],62,true⟩;let B0:Blk:=⟨k0,#[.pointer p1,.pointer p2,Iv m3,.map g4],135,true⟩;aa_ PR 35 #[.pointer p2,Iv m6,Iv m7,.string z8,.slice y9 ly9 cy9] w0 λv0 w1=>∃v1,v0=v1∧Fs S w [B0,B1] w1∧(v1=.nilIface→∀w2,Fr S w w1 [] [B0,B1] w2→aa_ PR 60 #[.pointer p1,Iv m7] w2 λv2 w3=>∃b0,v2=.bool b0∧(b0=true→Fs S w [B0,B1] w3∧K (.tuple #[.bool true,.nilIface]) w3)∧(b0=false→Fs S w [B0,B1] w3∧K (.tuple #[.bool false,.nilIface]) w3))∧(∀x0 v3,v1=.iface x0 v3→aa_ PR 44 #[v1,.iface 39 (Iv 11)] w1 λv4 w4=>∃b1,v4=.bool b1∧(b1=true→Fs S w [B0,B1] w4∧aa_ PR 62 #[.pointer (some (⟨k0,0,none⟩)),Iv m7] w4 λv5 w5=>v5=.tuple #[]∧∃q0 q1 n0 q2,Fs S w [⟨k0,#[.pointer q0,.pointer q1,Iv n0,.map q2],135,true⟩,B1] w5∧K (.tuple #[.bool false,v1]) w5)∧(b1=false→Fs S w [B0,B1] w4∧K (.tuple #[.bool false,v1]) w4))∧(v1=.nilIface∨∃l1 v6,v1=.iface l1 v6))∧(¬(m5=3)→(m5=4→∀w6,Fr S w w [] [⟨k0,#[.pointer p1,.pointer p2,Iv m3,.map g4],135,true⟩,⟨l0,#[Iv m5,Iv m6,Iv m7,.string z8,.slice y9 ly9 cy9],62,true⟩] w6→aa_ PR 62 #[.pointer (some (⟨k0,0,none⟩)),Iv m7] w6 λv7 w7=>v7=.tuple #[]∧∃q3 q4 n1 q5,Fs S w [⟨k0,#[.pointer q3,.pointer q4,Iv n1,.map q5],135,true⟩,⟨l0,#[Iv m5,Iv m6,Iv m7,.string z8,.slice y9 ly9 cy9],62,true⟩] w7∧K (.tuple #[.bool false,.nilIface]) w7)∧(¬(m5=4)→∀w8,Fr S w w [] [⟨k0,#[.pointer p1,.pointer p2,Iv m3,.map g4],135,true⟩] w8→K (.tuple #[.bool false,.nilIface]) w8)))∧(¬(m6=m3)→∀w9,Fr S w w [] [⟨k0,#[.pointer p1,.pointer p2,Iv m3,.map g4],135,true⟩] w9→K (.tuple #[.bool false,.nilIface]) w9)):aa_ PR 27 ⟨[.pointer (some ⟨k0,0,none⟩),.agg #[.int .i64 m5,.int .i64 m6,.int .i64 m7,.string z8,.slice y9 ly9 cy9]]⟩ w K:=
 ab_ (okf:=⟨okL,[]⟩) ag_ (args:=[.c (.p 0 k0 true 0),.a [.v (.int .i64 m5),.v (.int .i64 m6),.v (.int .i64 m7),.v (.string z8),.v (.slice y9 ly9 cy9)]]) (H:=[⟨k0,.l [.v (.pointer p1),.v (.pointer p2),.v (.int .i64 m3),.v (.map g4)],135,true⟩]) (.s (.r ⟨(some [0]),false,[],[]⟩) (.s (.b (.s .z (.c .z (.s (.r ⟨(some [0,3]),false,[],[]⟩) .z)))) (.s (.s .z (.b (.s .z (.c (.s (.r ⟨(some [0,3]),false,[],[(12,[999])]⟩) (.s (.s .z (.c (.s (.r ⟨(some [0,3]),false,[],[(6,[999])]⟩) .z) .z)) (.s (.s (.r ⟨(some [0,3]),false,[],[]⟩) .z) (.s (.r ⟨(some [0,3]),false,[],[(3,[999])]⟩) .z)))) (.s .z (.c (.r ⟨(some [0,3]),false,[],[(3,[999])]⟩) .z)))))) .z))) Go.Proofs.Tryz.func27 rfl ⟨rfl,⟨trivial,trivial,trivial,trivial,trivial,trivial⟩,trivial⟩ ⟨⟨trivial,⟨trivial,⟨trivial,⟨trivial,trivial⟩⟩⟩⟩,trivial⟩ hF hS (ad_ (by kernel_rfl) h)
theorem bW_ (p0:Option Addr) (m1:Int) (S:SP) (K:KP) (w:World) (h:aa_ PR 8 #[Iv m1] w λv0 w0=>∃q0,v0=.pointer q0∧Fs S w [] w0∧aa_ PR 7 #[.pointer q0] w0 λv1 w1=>∃q1 v2,v1=.tuple #[.pointer q1,v2]∧Fs S w [] w1∧(v2=.nilIface→Dr p0 λa0=>Dr (some a0) λa1=>Dr (some (Addr.add a1 0)) λa2=>∃n0,World.cell? w1 (Addr.add a2 0)=some (Iv n0)∧∃n1,World.cell? w1 (Addr.add a2 1)=some (Iv n1)∧∃n2,World.cell? w1 (Addr.add a2 2)=some (Iv n2)∧∃q2 l0 l1,World.cell? w1 (Addr.add a2 3)=some (.slice q2 l0 l1)∧∃n3,World.cell? w1 (Addr.add a2 4)=some (Iv n3)∧∃s0,World.cell? w1 (Addr.add a2 5)=some (.string s0)∧aa_ PR 10 #[.pointer q1,.agg #[Iv n0,Iv n1,Iv n2,.slice q2 l0 l1,Iv n3,.string s0]] w1 λv3 w2=>∃v4,v3=v4∧Fs S w [] w2∧(v4=.nilIface→Dr p0 λa3=>Dr (some a3) λa4=>Dr (some (Addr.add a4 0)) λa5=>Dr (some (Addr.add a5 0)) λa6=>∃n4,World.cell? w2 a6=some (Iv n4)∧aa_ PR 54 #[.pointer q1,Iv n4] w2 λv5 w3=>∃q3 v6,v5=.tuple #[.pointer q3,v6]∧Fs S w [] w3∧(v6=.nilIface→∀w4,Fr S w w3 [] [] w4→K (.tuple #[.pointer q1,.pointer q3,.bool true]) w4)∧(∀x0 v7,v6=.iface x0 v7→∀w5,Fr S w w3 [] [] w5→K (.tuple #[.pointer q1,.pointer q3,.bool false]) w5)∧(v6=.nilIface∨∃l2 v8,v6=.iface l2 v8))∧(∀x1 v9,v4=.iface x1 v9→K (.tuple #[.pointer none,.pointer none,.bool false]) w2)∧(v4=.nilIface∨∃l3 v10,v4=.iface l3 v10))∧(∀x2 v11,v2=.iface x2 v11→K (.tuple #[.pointer none,.pointer none,.bool false]) w1)∧(v2=.nilIface∨∃l4 v12,v2=.iface l4 v12)):aa_ PR 20 ⟨[.pointer p0,.int .i64 m1]⟩ w K:=
 ab_ (okf:=⟨okL,[]⟩) ag_ (args:=[.c (.v (.pointer p0)),.c (.v (.int .i64 m1))]) (H:=[]) (.s .z (.s (.r ⟨(some []),false,[],[]⟩) (.s (.s (.r ⟨(some []),false,[],[(8,[999])]⟩) .z) (.s (.r ⟨(some []),false,[],[]⟩) (.s (.r ⟨(some []),false,[],[]⟩) .z))))) Go.Proofs.Tryz.func20 rfl ⟨trivial,trivial,trivial⟩ trivial (Fr.init S w) trivial (ad_ (by kernel_rfl) h)
theorem bY_ (p0:Option Addr) (m1:Int) (S:SP) (K:KP) (w:World) (h:∀l0,w.heap.size≤l0→(m1<0→Dr p0 λa0=>Dr (some a0) λa1=>Dr (some (Addr.add a1 0)) λa2=>∀w0,Fr S w w [] [⟨l0,#[Iv 0,Iv 0,Iv 0,.string ⟨#[]⟩,.slice none 0 0],62,true⟩] w0→Dr (some (Addr.add a2 0)) λa3=>∃n0,World.cell? w0 a3=some (Iv n0)∧∀w1,Fr S w w0 [l0] [] w1→K (.agg #[Iv 4,Iv n0,Iv m1,.string ⟨#[]⟩,.slice none 0 0]) w1)∧(¬(m1<0)→Dr p0 λa4=>Dr (some a4) λa5=>∀w2,Fr S w w [] [⟨l0,#[Iv 0,Iv 0,Iv 0,.string ⟨#[]⟩,.slice none 0 0],62,true⟩] w2→let B0:Blk:=⟨l0,#[Iv 0,Iv 0,Iv 0,.string ⟨#[]⟩,.slice none 0 0],62,true⟩;Dr (some (Addr.add a5 6)) λa6=>∃q0 l1 l2,World.cell? w2 a6=some (.slice q0 l1 l2)∧(m1≥(l1:Int)→Dr p0 λa7=>Dr (some a7) λa8=>Dr (some (Addr.add a8 0)) λa9=>Dr (some (Addr.add a9 0)) λa10=>∃n1,World.cell? w2 a10=some (Iv n1)∧∀w3,Fr S w w2 [l0] [] w3→K (.agg #[Iv 4,Iv n1,Iv m1,.string ⟨#[]⟩,.slice none 0 0]) w3)∧(¬(m1≥(l1:Int))→aa_ PR 33 #[.pointer p0] w2 λv0 w4=>∃q1,v0=.pointer q1∧Fs S w [B0] w4∧aa_ PR 34 #[.pointer q1,Iv m1] w4 λv1 w5=>∃q2 l3 l4 v2,v1=.tuple #[.slice q2 l3 l4,v2]∧Fs S w [B0] w5∧∀w6,Fr S w w5 [] [B0] w6→∃I0:World→Prop,I0 w6∧Dr p0 λa11=>Dr (some a11) λa12=>Dr (some (Addr.add a12 0)) λa13=>Dr (some (Addr.add a13 0)) λa14=>∃n2,(∀w7,I0 w7→World.cell? w7 a14=some (Iv n2))∧Dr p0 λa15=>Dr (some a15) λa16=>Dr (some (Addr.add a16 6)) λa17=>∃q3 l5 l6,(∀w8,I0 w8→World.cell? w8 a17=some (.slice q3 l5 l6))∧Dr q3 λa18=>(0:Int)≤m1∧m1<(l5:Int)∧Dr (some (Addr.add a18 (Int.toNat m1*1))) λa19=>∃s0,(∀w9,I0 w9→World.cell? w9 a19=some (.string s0))∧∀w10,Fr S w w6 [l0] [] w10→K (.agg #[Iv 3,Iv n2,Iv m1,.string s0,.slice q2 l3 l4]) w10))):aa_ PR 25 ⟨[.pointer p0,.int .i64 m1]⟩ w K:=
 ab_ (okf:=⟨okL,[]⟩) ag_ (args:=[.c (.v (.pointer p0)),.c (.v (.int .i64 m1))]) (H:=[]) (.s (.r ⟨(some []),true,[],[]⟩) (.s (.s .z (.c (.s (.r ⟨(some [4]),true,[],[]⟩) .z) .z)) (.s (.r ⟨(some [4]),true,[],[]⟩) (.s (.r ⟨(some [4]),true,[4],[]⟩) .z)))) Go.Proofs.Tryz.func25 rfl ⟨trivial,trivial,trivial⟩ trivial (Fr.init S w) trivial (ad_ (by kernel_rfl) h)
theorem bX_  (S:SP) (K:KP) (w:World) (h:∀l0,w.heap.size≤l0→∀l1,w.heap.size≤l1→∀w0,Fr S w w [] [⟨l0,#[Iv 0,Iv 1],27,true⟩,⟨l1,#[.slice (some (⟨l0,0,none⟩)) 1 1],28,true⟩] w0→aa_ PR 6 #[.slice (some (⟨l1,0,none⟩)) 1 1] w0 λv0 w1=>∃q0 l2 l3,v0=.slice q0 l2 l3∧Fs S w [⟨l0,#[Iv 0,Iv 1],27,true⟩,⟨l1,#[.slice (some (⟨l0,0,none⟩)) 1 1],28,true⟩] w1∧(q0=none→K (.bool false) w1)∧∀a0:Addr,q0=some a0→Dr q0 λa1=>(0:Int)≤0∧(0:Int)<(l2:Int)∧Dr (some (Addr.add a1 0)) λa2=>∃q1,World.cell? w1 a2=some (.pointer q1)∧aa_ PR 20 #[.pointer q1,Iv 9] w1 λv1 w2=>∃q2 q3 b0,v1=.tuple #[.pointer q2,.pointer q3,.bool b0]∧(b0=true→Fs S w [] w2∧∀l4,w2.heap.size≤l4→∀w3,Fr S w w2 [] [⟨l4,#[Iv 0],3,true⟩] w3→aa_ PR 23 #[.pointer q3,Iv 0,.slice (some (⟨l4,0,none⟩)) 1 1] w3 λv2 w4=>∃q4 l5 l6,v2=.slice q4 l5 l6∧∃n0,Fs S w [⟨l4,#[Iv n0],3,true⟩] w4∧Dr q0 λa3=>(0:Int)≤0∧(0:Int)<(l2:Int)∧Dr (some (Addr.add a3 0)) λa4=>∃q5,World.cell? w4 a4=some (.pointer q5)∧Dr q5 λa5=>Dr (some a5) λa6=>Dr (some (Addr.add a6 6)) λa7=>∃q6 l7 l8,World.cell? w4 a7=some (.slice q6 l7 l8)∧((l5:Int)=(l7:Int)→Dr q4 λa8=>(0:Int)≤0∧(0:Int)<(l5:Int)∧Dr (some (Addr.add a8 0)) λa9=>Dr (some (Addr.add a9 1)) λa10=>Dr (some (Addr.add a10 0)) λa11=>∃n1,World.cell? w4 a11=some (Iv n1)∧(n1=2→Dr q4 λa12=>(0:Int)≤0∧(0:Int)<(l5:Int)∧Dr (some (Addr.add a12 0)) λa13=>Dr (some (Addr.add a13 0)) λa14=>∃n2,World.cell? w4 a14=some (Iv n2)∧(n2=0→aa_ PR 31 #[.pointer q3] w4 λv3 w5=>∃b1,v3=.bool b1∧(b1=true→Fs S w [] w5∧K (.bool false) w5)∧(b1=false→Fs S w [] w5∧Dr q0 λa15=>(0:Int)≤0∧(0:Int)<(l2:Int)∧Dr (some (Addr.add a15 0)) λa16=>∃q7,World.cell? w5 a16=some (.pointer q7)∧Dr q7 λa17=>Dr (some a17) λa18=>Dr (some (Addr.add a18 6)) λa19=>∃q8 l9 l10,World.cell? w5 a19=some (.slice q8 l9 l10)∧∃I0:Int→Nat→World→Prop,(∃l11,I0 0 l11 w5)∧∀n3,∀D0:Nat→Value,∀l12 w6,I0 n3 l12 w6→Fs S w [] w6→(n3<(l9:Int)→Dr q0 λa20=>(0:Int)≤0∧(0:Int)<(l2:Int)∧Dr (some (Addr.add a20 0)) λa21=>∃q9,World.cell? w6 a21=some (.pointer q9)∧aa_ PR 25 #[.pointer q9,Iv n3] w6 λv4 w7=>∃n4 n5 n6 s0 q10 l13 l14,v4=.agg #[Iv n4,Iv n5,Iv n6,.string s0,.slice q10 l13 l14]∧Fs S w [] w7∧aa_ PR 27 #[.pointer q3,.agg #[Iv n4,Iv n5,Iv n6,.string s0,.slice q10 l13 l14]] w7 λv5 w8=>∃b2 v6,v5=.tuple #[.bool b2,v6]∧(b2=true→Fs S w [] w8∧(v6=.nilIface→∃l15,l15<l12∧I0 (IntKind.wrap .i64 (n3+1)) l15 w8)∧(∀x0 v7,v6=.iface x0 v7→K (.bool false) w8)∧(v6=.nilIface∨∃l16 v8,v6=.iface l16 v8))∧(b2=false→Fs S w [] w8∧K (.bool false) w8))∧(¬(n3<(l9:Int))→aa_ PR 31 #[.pointer q3] w6 λv9 w9=>∃b3,v9=.bool b3∧(b3=true→Fs S w [] w9∧K (.bool true) w9)∧(b3=false→Fs S w [] w9∧K (.bool false) w9))))∧(¬(n2=0)→K (.bool false) w4))∧(¬(n1=2)→K (.bool false) w4))∧(¬((l5:Int)=(l7:Int))→K (.bool false) w4))∧(b0=false→Fs S w [] w2∧K (.bool false) w2)):aa_ PR 19 ⟨[]⟩ w K:=
 ab_ (okf:=⟨okL,[]⟩) ag_ (args:=[]) (H:=[]) (.s .z (.s (.r ⟨(some []),false,[],[]⟩) (.s .z (.s (.r ⟨(some []),false,[],[]⟩) (.s .z (.s (.r ⟨(some []),false,[],[(2,[999])]⟩) (.s (.s (.r ⟨(some []),false,[],[]⟩) .z) (.s (.s .z (.b (.l (some []) (some []) [(64,.c (.int .i64))] [] (.s .z (.s .z (.s (.b (.s .z (.s (.r ⟨(some []),false,[],[(6,[999])]⟩) .z))) .z)))))) (.s (.r ⟨(some []),false,[],[]⟩) .z))))))))) Go.Proofs.Tryz.func19 rfl trivial trivial (Fr.init S w) trivial (ad_ (by kernel_rfl) h)
end Go.Vc
namespace Go.Vc
open Go Go.MapKept
structure FS where
 b:Nat
 wt:WS
 h:HS
 ver:Int
 tr:Nat
 trs:List (Int × Int)
def feC (f:FS):Array Value:=#[.pointer (some ⟨f.wt.b,0,none⟩),.pointer (some ⟨f.h.bh,0,none⟩),.int .i64 f.ver,.map (some f.tr)]
structure aF_ (w:World) (f:FS):Prop where
 blk:w.heap[f.b]? = some (.cells (feC f) T.b1_ (0,0))
 wat:WAt w f.wt
 hat:az_ w f.h
 tm:MapI w f.tr (aI f.trs)
 dwh:∀k,wS f.wt k→¬hA f.h k
 dth:¬hA f.h f.tr
 dtw:¬wS f.wt f.tr
 dbh:¬hA f.h f.b
 dbw:¬wS f.wt f.b
def feS (f:FS):Nat→Prop:=λk=>k=f.b∨wS f.wt k∨hS f.h k∨k=f.tr
def feA (f:FS):Nat→Prop:=λk=>k=f.b∨wS f.wt k∨hA f.h k∨k=f.tr
theorem aF_.keep {S:Nat→Prop} {w w':World} {f:FS} (H:aF_ w f) (g:Chg S w w') (hn:∀k,feA f k→¬S k):aF_ w' f:=
 ⟨g.get H.blk (hn _ (.inl rfl)),H.wat.keep g λk hk=>hn k (.inr (.inl hk)),H.hat.keep g λk hk=>hn k (.inr (.inr (.inl hk))),H.tm.keep g (hn _ (.inr (.inr (.inr rfl)))),H.dwh,H.dth,H.dtw,H.dbh,H.dbw⟩
theorem aF_.grow {w w':World} {f:FS} (H:aF_ w f) (g:Grow w w'):aF_ w' f:=H.keep g λ_ _ e=>e
theorem aF_.lt {w:World} {f:FS} (H:aF_ w f):∀k,feA f k→k<w.heap.size:=by
 rintro k (rfl | hk | hk | rfl)
 ·exact aj_ H.blk
 ·exact H.wat.lt k hk
 ·exact H.hat.lt k hk
 ·exact H.tm.lt
theorem aF_.fs {w:World} {f:FS} (H:aF_ w f):Fs (feS f) w [⟨f.b,feC f,T.b1_,true⟩] w:=(Fr.init _ w).entry H.blk (λx h=>by cases h) λ_=>.inl rfl
theorem aF_.bt {w:World} {f:FS} (H:aF_ w f):f.b≠f.tr:=H.tm.ne H.blk
theorem aF_.setW {w w':World} {f:FS} (H:aF_ w f) (g:Chg (wS f.wt) w w') {miss:Int→Prop} {askd:List (Int × Int)} (hw:WAt w' { f.wt with miss:=miss,askd:=askd }):aF_ w' { f with wt:={ f.wt with miss:=miss,askd:=askd } }:=
 ⟨g.get H.blk H.dbw,hw,H.hat.keep g λk hk e=>H.dwh k e hk,H.tm.keep g H.dtw,H.dwh,H.dth,H.dtw,H.dbh,H.dbw⟩
theorem f4_ {w:World} {f:FS} (H:aF_ w f) {K:Value→World→Prop} (hK:∀w' q c (L:List Int),Grow w w'→Sl w' q (L.map Iv)→(∀i,i∈L↔f.wt.miss i)→L.Pairwise (· < ·)→L.length≤4096→K (.slice q L.length c) w'):aa_ PR F.cd_ ⟨[.pointer (some ⟨f.b,0,none⟩)]⟩ w K:=by
 refine fp_ f.b (some ⟨f.wt.b,0,none⟩) (some ⟨f.h.bh,0,none⟩) f.ver (some f.tr) (feS f) K w H.fs ⟨.inl rfl,trivial⟩ ?_
 exact cn_ H.wat λw' q c L g h1 h2 h3 h4=>⟨_,_,_,rfl,H.fs.after g,hK w' q c L g h1 h2 h3 h4⟩
theorem gN_ {w:World} {f:FS} (H:aF_ w f) {K:Value→World→Prop} (h1:∀w',Grow w w'→(∀i,¬f.wt.miss i)→K (.bool true) w') (h2:∀w' i,Grow w w'→f.wt.miss i→K (.bool false) w'):aa_ PR F.c2_ ⟨[.pointer (some ⟨f.b,0,none⟩)]⟩ w K:=by
 refine hc_ f.b (some ⟨f.wt.b,0,none⟩) (some ⟨f.h.bh,0,none⟩) f.ver (some f.tr) (feS f) K w H.fs ⟨.inl rfl,trivial⟩ ?_
 refine f4_ H λw' q c L g hs hm hp hl=>⟨_,_,_,rfl,H.fs.after g,λh0=>h1 w' g λi hi=>?_,λh0=>?_⟩
 ·have:L=[]:=List.eq_nil_of_length_eq_zero (by omega)
  subst this
  exact absurd ((hm i).2 hi) (by simp)
 ·cases L with
  | nil=>exact absurd rfl h0
  | cons a L=>exact h2 w' a g ((hm a).1 List.mem_cons_self)
theorem mP_ {w:World} {f:FS} (H:aF_ w f) {i:Int} (hi:aM_ i) {K:Value→World→Prop} (h1:∀t,(i,t)∈f.trs→K (.int .i64 t) w) (h2:(∀p∈f.trs,p.1≠i)→K (.int .i64 0) w):aa_ PR F.bz_ ⟨[.pointer (some ⟨f.b,0,none⟩),.int .i64 i]⟩ w K:=by
 refine gG_ f.b (some ⟨f.wt.b,0,none⟩) (some ⟨f.h.bh,0,none⟩) f.ver (some f.tr) i (feS f) K w H.fs ⟨.inl rfl,trivial⟩ ?_
 refine aJ_ bu_ H.tm hi false cW_ (λx hx=>?_) λhno=>⟨_,rfl,H.fs,h2 λp hp e=>hno _ (List.mem_map.2 ⟨p,hp,rfl⟩) e⟩
 obtain ⟨p,hp,e⟩:=List.mem_map.1 hx
 have e1:p.1=i:=congrArg Prod.fst e
 have e2:x=.int .i64 p.2:=(congrArg Prod.snd e).symm
 subst e2
 exact ⟨_,rfl,H.fs,h1 p.2 (by rw [← e1];exact hp)⟩
def FS.again (f:FS) (i:Int):FS:={ f with wt:={ f.wt with askd:=f.wt.askd.filter λp=>p.1 != i } }
theorem jH_ {w:World} {f:FS} (H:aF_ w f) {i:Int} (hi:aM_ i) {K:Value→World→Prop} (hK:∀w',aF_ w' (f.again i)→Chg (wS f.wt) w w'→K (.tuple #[]) w'):aa_ PR F.cF_ ⟨[.pointer (some ⟨f.b,0,none⟩),.int .i64 i]⟩ w K:=by
 have h0:=H.fs
 refine gF_ f.b (some ⟨f.wt.b,0,none⟩) (some ⟨f.h.bh,0,none⟩) f.ver (some f.tr) i (feS f) K w h0 ⟨.inl rfl,trivial⟩ ?_
 refine n7_ H.wat hi (λt ht=>⟨_,true,rfl,(λ_=>⟨h0,?_⟩),λh=>by cases h⟩) λhno=>⟨_,false,rfl,(λh=>by cases h),λ_=>⟨h0,?_⟩⟩
 ·have hmi:=H.wat.sub _ ht
  have hbd:=H.wat.sm i hmi
  refine kR_ H.wat hi (λw1 _ W1 c1=>⟨true,rfl,(λ_=>⟨h0.step c1 (λz hz e=>by simp at hz;subst hz;exact H.dbw e) (λk _ e=>.inr (.inl e)),λl0 hl0 w2 hF2=>?_⟩),λh=>by cases h⟩) λhn=>absurd hmi hn
  have g2:Grow w1 w2:=hF2.grow
  have s1:=c1.size
  have hmil:=H.wat.lt f.wt.mi (.inr (.inl rfl))
  refine fx_ (xs:=[i]) (W1.grow g2) (hF2.sl 1 rfl) (λa ha e=>by cases ha;have e':l0=f.wt.mi:=e;omega) (λx hx=>by simp at hx;subst hx;omega) (by simp) λw3 W3 c3=>⟨rfl,_,hF2.step c3 (λz hz e=>?_) (λk _ e=>.inr (.inl (.inr (.inl e)))),?_⟩
  ·have e':z.b=f.wt.mi:=e
   simp only [List.mem_cons,List.not_mem_nil,or_false] at hz
   rcases hz with rfl | rfl
   ·exact H.dbw (.inr (.inl e'))
   ·simp only [] at e';omega
  ·have c13:Chg (wS f.wt) w w3:=(c1.grow g2).trans c3 λk _ e=>.inr (.inl e)
   have W3':WAt w3 { f.wt with miss:=f.wt.miss,askd:=f.wt.askd.filter λp=>p.1 != i }:=by
    have hiff:∀n,((f.wt.miss n∧n≠i)∨n∈[i])↔f.wt.miss n:=λn=>by
     constructor
     ·rintro (h | h)
      ·exact h.1
      ·simp at h;subst h;exact hmi
     ·intro h
      by_cases e:n=i
      ·exact .inr (by simp [e])
      ·exact .inl ⟨h,e⟩
    exact ⟨W3.blk,W3.mm.cong hiff,W3.am,W3.ne,H.wat.sm,λp hp=>H.wat.sub p (List.mem_filter.1 hp).1,W3.win,W3.tmo⟩
   exact hK w3 (H.setW c13 W3') c13
 ·have e:f.wt.askd.filter (λp=>p.1 != i)=f.wt.askd:=by
   rw [List.filter_eq_self];intro p hp;simpa using hno p hp
  refine hK w ?_ (.refl _ _)
  unfold FS.again
  rw [e];exact H
structure aY_ (w:World) (f:FS) (v:HV):Prop where
 at_:aF_ w f
 mem:v∈f.h.vs
 ver:v.man.version=f.ver
 miss:∀i,f.wt.miss i↔i∈av_ v
theorem aY_.grow {w w':World} {f:FS} {v:HV} (H:aY_ w f v) (g:Grow w w'):aY_ w' f v:=⟨H.at_.grow g,H.mem,H.ver,H.miss⟩
noncomputable def FS.put (f:FS) (j:JP) (v:HV) (i sl:Int) (t:List UInt8):FS:={ f with h:=f.h.putB j v i sl t,wt:={ f.wt with miss:=λn=>f.wt.miss n∧n≠i,askd:=f.wt.askd.filter λp=>p.1 != i } }
theorem ln_ {v:HV} {i sl:Int} {t:List UInt8} {n:Int} : n∈av_ (v.putB i sl t)↔n∈av_ v∧n≠i:=by
 rw [bt_,bt_]
 constructor
 ·rintro ⟨h1,h2⟩
  refine ⟨⟨h1,λp hp=>h2 p (List.mem_append_left _ hp)⟩,λe=>?_⟩
  exact h2 (i,sl,aC_ t) (List.mem_append_right _ (by simp)) (by rw [e])
 ·rintro ⟨⟨h1,h2⟩,hn⟩
  refine ⟨h1,λp hp=>?_⟩
  rcases List.mem_append.1 hp with hp | hp
  ·exact h2 p hp
  ·simp at hp;subst hp;exact λe=>hn e.symm
theorem sr_ {s:HS} {j:JP} {v:HV} {i sl:Int} {t:List UInt8} {N:Nat} (hv:v∈s.vs) (hh:∀k,hS (s.putB j v i sl t) k→hS s k∨N≤k):∀k,hA (s.putB j v i sl t) k→hA s k∨N≤k:=by
 rintro k (hk | ⟨x,hx,hk⟩)
 ·exact (hh k hk).imp .inl id
 ·rcases ho_ hx with rfl | ⟨hx',_⟩
  ·exact .inl (.inr ⟨v,hv,hk⟩)
  ·exact .inl (.inr ⟨x,hx',hk⟩)
theorem jL_ {w:World} {f:FS} {v:HV} (H:aY_ w f v) (hr:rH_ f.h) {m:MsgL} {y:Option Addr} {cy:Nat} (hs:Sl w y (m.proof.map sv8')) (htl:m.text.length≤1000000) (hf:aM_ f.ver∧aM_ m.i) {K:Value→World→Prop}
  (h0:∀w',Grow w w'→(m.ver≠f.ver∨m.kind≠3∧m.kind≠4)→K (.tuple #[.bool false,.nilIface]) w')
  (h4:∀w',aY_ w' (f.again m.i) v→Chg (feS f) w w'→m.ver=f.ver→m.kind=4→K (.tuple #[.bool false,.nilIface]) w')
  (hB:∀w' e c f',errP c e→(c=2∧f'=f∨c=11∧f'=f.again m.i)→m.ver=f.ver→m.kind=3→¬bd_ m.i v.man.blocks (aC_ m.text) m.proof v.man.root→hs_ m.i v.man.blocks c→aY_ w' f' v→Chg (feS f) w w'→K (.tuple #[.bool false,e]) w')
  (hI:∀w',m.ver=f.ver→m.kind=3→bd_ m.i v.man.blocks (aC_ m.text) m.proof v.man.root→(∃p∈v.bl,p.1=m.i)→Grow w w'→K (.tuple #[.bool false,.nilIface]) w')
  (hN:∀w' c,m.ver=f.ver→m.kind=3→bd_ m.i v.man.blocks (aC_ m.text) m.proof v.man.root→(∀p∈v.bl,p.1≠m.i)→(c=7∧(∀k:Nat,k<f.h.d.sl.length→iV_ f.h k)∨c=6∧64<m.text.length)→Grow w w'→K (.tuple #[.bool false,.iface T.ak_ (.int .i64 c)]) w')
  (hK:∀w' j sl,m.ver=f.ver→m.kind=3→bd_ m.i v.man.blocks (aC_ m.text) m.proof v.man.root→(∀p∈v.bl,p.1≠m.i)→m.text.length≤64→aY_ w' (f.put j v m.i sl m.text) (v.putB m.i sl m.text)→Chg (feS f) w w'→(∀k,feA (f.put j v m.i sl m.text) k→feA f k∨w.heap.size≤k)→0≤sl→K (.tuple #[.bool true,.nilIface]) w') :
  aa_ PR F.c1_ ⟨[.pointer (some ⟨f.b,0,none⟩),pr_ m y cy]⟩ w K:=by
 have H0:=H.at_
 have hF0:=H0.fs
 have hbl:=aj_ H0.blk
 refine hb_ f.b (some ⟨f.wt.b,0,none⟩) (some ⟨f.h.bh,0,none⟩) f.ver (some f.tr) m.kind m.ver m.i (str m.text) y m.proof.length cy (feS f) K w hF0 ⟨.inl rfl,trivial⟩ λl0 hl0=>⟨λhver=>⟨λhk3 w0 hFa=>?_,λhn3=>⟨λhk4 w6 hFb=>?_,λhn4 w8 hFc=>h0 w8 hFc.grow (.inr ⟨hn3,hn4⟩)⟩⟩,λhne w9 hFd=>h0 w9 hFd.grow (.inl hne)⟩
 ·have g0:Grow w w0:=hFa.grow
  have HA:=H.grow g0
  have uq:∀u∈f.h.vs,u.man.version=m.ver→u=v:=λu hu e=>H0.hat.uniq hu H.mem (by rw [e,H.ver,hver])
  have s0:=g0.size
  refine qv_ (n:=m.ver) HA.at_.hat hr (by rw [hver];exact hf.1) hf.2 htl (hs.grow g0) (λw1 g1 hno=>absurd (H.ver.trans hver.symm) (hno v H.mem)) (λw1 u c e hu hun g1 he hnok hbad=>?_) (λw1 u hu hun g1 hok hin=>?_) (λw1 u hu hun g1 hok hnew hall=>?_) (λw1 u hu hun g1 hok hnew hgt=>?_) λw1 u j sl hu hun hok hnew hle hslu H1 c1 hst1=>?_
  ·have:=uq u hu hun
   subst this
   have hF1:=hFa.after g1
   refine ⟨e,rfl,hF1,(λh=>by obtain ⟨t,x,rfl⟩:=he.err;cases h),(λt x hx=>?_),.inr (by obtain ⟨t,x,h⟩:=he.err;exact ⟨t,x,h⟩)⟩
   have HB:=HA.grow g1
   have g01:=g0.trans g1
   have fin:∀w4,Grow w1 w4→c=11→aa_ PR F.cF_ #[.pointer (some ⟨f.b,0,none⟩),.int .i64 m.i] w4 (λv5 w5=>v5=.tuple #[]∧∃q0 q1 n0 q2,Fs (feS f) w [⟨f.b,#[.pointer q0,.pointer q1,.int .i64 n0,.map q2],T.b1_,true⟩,⟨l0,#[.int .i64 m.kind,.int .i64 m.ver,.int .i64 m.i,.string (str m.text),.slice y m.proof.length cy],T.eg_,true⟩] w5∧K (.tuple #[.bool false,e]) w5):=by
    intro w4 g4 h11
    have hF4:=hF1.after g4
    have HC:=HB.grow g4
    refine jH_ HC.at_ hf.2 λw5 H5 c5=>⟨rfl,_,_,_,_,hF4.step c5 (λz hz e=>?_) (λk _ e=>.inr (.inl e)),hB w5 e c (f.again m.i) he (.inr ⟨h11,rfl⟩) hver hk3 hnok hbad ⟨H5,H.mem,H.ver,H.miss⟩ ((g01.trans g4).chg.trans c5 λk _ e=>.inr (.inl e))⟩
    simp only [List.mem_cons,List.not_mem_nil,or_false] at hz
    rcases hz with rfl | rfl
    ·exact H0.dbw e
    ·have:=H0.wat.lt _ e
     simp only [] at this;omega
   rcases he with he | ⟨rfl,a,he⟩
   ·subst he
    rcases hbad with ⟨rfl,hb⟩ | ⟨rfl,hb⟩
    ·exact tF_ ⟨false,rfl,(λh=>by cases h),λ_=>⟨hF1,hB w1 _ 2 f (.inl rfl) (.inl ⟨rfl,rfl⟩) hver hk3 hnok (.inl ⟨rfl,hb⟩) HB g01.chg⟩⟩
    ·exact qu_ ⟨true,rfl,(λ_=>⟨hF1,fin w1 (.refl _ _) rfl⟩),λh=>by cases h⟩
   ·subst he
    exact ol_ λw4 g4=>⟨true,rfl,(λ_=>⟨hF1.after g4,fin w4 g4 rfl⟩),λh=>by cases h⟩
  ·have:=uq u hu hun
   subst this
   have hF1:=hFa.after g1
   refine ⟨_,rfl,hF1,λ_ w2 hF2=>?_,(λt x h=>by cases h),.inl rfl⟩
   have g2:Grow w w2:=(g0.trans g1).trans hF2.grow
   refine kR_ (H0.grow g2).wat hf.2 (λw3 hmi _ _=>?_) λ_=>⟨false,rfl,(λh=>by cases h),λ_=>⟨hF2.reset,hI w2 hver hk3 hok hin g2⟩⟩
   obtain ⟨p,hp,e⟩:=hin
   exact absurd e ((bt_.1 ((H.miss m.i).1 hmi)).2 p hp)
  ·have:=uq u hu hun
   subst this
   have hF1:=hFa.after g1
   exact ⟨_,rfl,hF1,(λh=>by cases h),(λt x _=>tD_ ⟨false,rfl,(λh=>by cases h),λ_=>⟨hF1,hN w1 7 hver hk3 hok hnew (.inl ⟨rfl,hall⟩) (g0.trans g1)⟩⟩),.inr ⟨_,_,rfl⟩⟩
  ·have:=uq u hu hun
   subst this
   have hF1:=hFa.after g1
   exact ⟨_,rfl,hF1,(λh=>by cases h),(λt x _=>tE_ ⟨false,rfl,(λh=>by cases h),λ_=>⟨hF1,hN w1 6 hver hk3 hok hnew (.inr ⟨rfl,hgt⟩) (g0.trans g1)⟩⟩),.inr ⟨_,_,rfl⟩⟩
  ·have:=uq u hu hun
   subst this
   have hsA:∀k,hS f.h k→hA f.h k:=λk e=>.inl e
   have hF1:=hFa.step c1 (λz hz e=>by
    simp only [List.mem_cons,List.not_mem_nil,or_false] at hz
    rcases hz with rfl | rfl
    ·exact H0.dbh (.inl e)
    ·have:=H0.hat.lt _ (.inl e)
     simp only [] at this;omega) λk _ e=>.inr (.inr (.inl e))
   refine ⟨_,rfl,hF1,λ_ w2 hF2=>?_,(λt x h=>by cases h),.inl rfl⟩
   have c01:Chg (hS f.h) w w1:=g0.chg.trans c1 λ_ _ e=>e
   have c02:Chg (hS f.h) w w2:=c01.grow hF2.grow
   have W2:WAt w2 f.wt:=H0.wat.keep c02 λk hk e=>H0.dwh k hk (.inl e)
   have H2:=H1.grow hF2.grow
   have hmi:f.wt.miss m.i:=(H.miss m.i).2 (bt_.2 ⟨by
    obtain ⟨a,b,e1,e2,e3,_⟩:=hok
    omega,hnew⟩)
   have hgrow:∀k,hA (f.h.putB j u m.i sl m.text) k→hA f.h k∨w.heap.size≤k:=λk hk=>(sr_ hu hst1 k hk).imp id λe=>by omega
   refine kR_ W2 hf.2 (λw3 _ W3 c3=>⟨true,rfl,(λ_=>⟨hF2.reset.step c3 (λz hz e=>?_) (λk _ e=>.inr (.inl e)),?_⟩),λh=>by cases h⟩) λhn=>absurd hmi hn
   ·simp only [List.mem_cons,List.not_mem_nil,or_false] at hz
    rcases hz with rfl | rfl
    ·exact H0.dbw e
    ·have:=H0.wat.lt _ e
     simp only [] at this;omega
   ·have wlt:=H0.wat.lt
    have H3:az_ w3 (f.h.putB j u m.i sl m.text):=H2.keep c3 λk hk e=>by
     rcases hgrow k hk with h | h
     ·exact H0.dwh k e h
     ·have:=wlt k e;omega
    have c03:Chg (feS f) w w3:=(c02.mono λk _ e=>.inr (.inr (.inl e))).trans c3 λk _ e=>.inr (.inl e)
    have trl:=H0.tm.lt
    have hsl0:0≤sl:=by
     have h5:=H1.sl (u.putB m.i sl m.text) (List.mem_map.2 ⟨u,hu,by rw [if_pos (by rfl)]⟩) (m.i,sl,aC_ m.text) (by simp [HV.putB])
     exact h5.1
    refine hK w3 j sl hver hk3 hok hnew hle ⟨⟨?_,W3,H3,?_,λk hk e=>?_,λe=>?_,H0.dtw,λe=>?_,H0.dbw⟩,List.mem_map.2 ⟨u,hu,by rw [if_pos (by rfl)]⟩,H.ver,λn=>?_⟩ c03 (λk hk=>?_) hsl0
    ·exact c3.get (c02.get H0.blk λe=>H0.dbh (.inl e)) H0.dbw
    ·exact (H0.tm.keep c02 λe=>H0.dth (.inl e)).keep c3 H0.dtw
    ·rcases hgrow k e with h | h
     ·exact H0.dwh k hk h
     ·have:=wlt k hk;omega
    ·rcases hgrow _ e with h | h
     ·exact H0.dth h
     ·have h':w.heap.size≤f.tr:=h
      omega
    ·rcases hgrow _ e with h | h
     ·exact H0.dbh h
     ·have h':w.heap.size≤f.b:=h
      omega
    ·rw [ln_,← H.miss n];exact Iff.rfl
    ·rcases hk with hk | hk | hk | hk
     ·exact .inl (.inl hk)
     ·exact .inl (.inr (.inl hk))
     ·exact (hgrow k hk).imp (λe=>.inr (.inr (.inl e))) id
     ·exact .inl (.inr (.inr (.inr hk)))
 ·have g0:Grow w w6:=hFb.grow
  have s0:=g0.size
  refine jH_ (H0.grow g0) hf.2 λw7 H7 c7=>⟨rfl,_,_,_,_,hFb.step c7 (λz hz e=>?_) (λk _ e=>.inr (.inl e)),h4 w7 ⟨H7,H.mem,H.ver,H.miss⟩ (g0.chg.trans c7 λk _ e=>.inr (.inl e)) hver hk4⟩
  simp only [List.mem_cons,List.not_mem_nil,or_false] at hz
  rcases hz with rfl | rfl
  ·exact H0.dbw e
  ·have:=H0.wat.lt _ e
   simp only [] at this;omega
end Go.Vc
namespace Go.Vc
open Go Go.MapKept
theorem fe_ {w:World} {v:HV} (h:HVAt w v):∀i∈av_ v,0≤i∧i<4096:=λi hi=>by
 have:=(bt_.1 hi).1
 have:=h.ok.blocks.2
 omega
theorem lP_ {w:World} {b tr:Nat} {s:HS} {n:Int} {v:HV} (hb:w.heap[b]? = some (.cells #[.pointer none,.pointer (some ⟨s.bh,0,none⟩),.int .i64 n,.map (some tr)] T.b1_ (0,0))) (hs:az_ w s) (hv:v∈s.vs) (hvn:v.man.version=n) (hn:aM_ n) {K:Value→World→Prop}
  (hK:∀w' wb mi ak,WAt w' ⟨wb,mi,ak,4,6,λi=>i∈av_ v,[]⟩→w'.heap[b]? = some (.cells #[.pointer (some ⟨wb,0,none⟩),.pointer (some ⟨s.bh,0,none⟩),.int .i64 n,.map (some tr)] T.b1_ (0,0))→Chg (· = b) w w'→w.heap.size≤wb→w.heap.size≤mi→w.heap.size≤ak→K (.int .i64 (av_ v).length) w') :
  aa_ PR F.cG_ ⟨[.pointer (some ⟨b,0,none⟩)]⟩ w K:=by
 have h0:Fs (· = b) w [⟨b,#[.pointer none,.pointer (some ⟨s.bh,0,none⟩),.int .i64 n,.map (some tr)],T.b1_,true⟩] w:=(Fr.init _ w).entry hb (λx h=>by cases h) λ_=>rfl
 have hbl:=aj_ hb
 refine dA_ b none (some ⟨s.bh,0,none⟩) n (some tr) (· = b) K w h0 ⟨rfl,trivial⟩ λw0 hF0=>?_
 have g0:Grow w w0:=hF0.grow
 refine cr_ (hs.grow g0) hn (λw1 u q c hu hun g1 ho hof=>⟨_,_,_,rfl,hF0.reset.after g1,λ_=>?_,λa h=>by cases h⟩) λw1 g1 hno=>absurd hvn (hno v hv)
 have:u=v:=hs.uniq hu hv (by rw [hun,hvn])
 subst this
 have hbd:=fe_ (hs.vs u hv)
 have hlen:=eD_ u u.man.blocks.toNat
 have hbk:=(hs.vs u hv).ok.blocks.2
 generalize hLe:av_ u=L at ho hbd hK ⊢
 have hLl:L.length≤2048:=by rw [← hLe];unfold av_;omega
 have s0:=g0.size
 have s1:=g1.size
 refine oy_ (by decide) (by decide) λw2 wb mi ak W2 g2 hb2 hmi2 hak2=>⟨_,_,rfl,(hF0.reset.after g1).after g2,λw3 hF3=>?_⟩
 have s2:=g2.size
 have c3:=hF3.stp
 have W3:WAt w3 ⟨wb,mi,ak,4,6,λ_=>False,[]⟩:=W2.keep c3 λk hk e=>by
  have e':k=b:=by simpa using e
  rcases hk with h | h | h <;> simp only [] at h <;> omega
 have hs3:Sl w3 q (L.map iv):=((ho.grow g2).keep c3 λa ha e=>by
  have e':a.block=b:=by simpa using e
  exact hof a ha (by show a.block<w0.heap.size;omega)).sl
 have s3:=c3.size
 refine aQ_ λw4 rs hrs hm4 g4=>⟨_,rfl,hF3.reset.after g4,?_⟩
 have hrsl:=hm4.lt
 have wl3:=W3.lt
 have rsne:∀k,wS ⟨wb,mi,ak,4,6,λ_=>False,[]⟩ k→k≠rs:=λk hk e=>by have:=wl3 k hk;omega
 refine ⟨λi lv w'=>∃k:Nat,i=k∧k≤L.length∧lv=L.length - k∧aA_ w' rs (λj=>j∈L.take k)∧WAt w' ⟨wb,mi,ak,4,6,λ_=>False,[]⟩∧Sl w' q (L.map iv),⟨_,0,rfl,by omega,rfl,⟨[],hm4,(λp hp=>by cases hp),λj=>⟨(λ⟨p,hp,_⟩=>by cases hp),λh=>by simp at h⟩⟩,W3.grow g4,hs3.grow g4⟩,?_⟩
 rintro i D lv w5 ⟨k,rfl,hk,rfl,M5,W5,hs5⟩ hF5
 refine ⟨λhlt=>?_,λhge=>?_⟩
 ·have hk':k<L.length:=by omega
  have hb5:=hbd _ (List.getElem_mem hk')
  refine hs5.rd (v:=iv L[k]) (by simp) (by omega) (by simp [hk']) λa ha=>⟨_,ha,?_⟩
  refine M5.put ⟨by omega,by omega⟩ λw6 M6 c6 s6=>⟨hF5.step c6 (λz hz e=>by simp at hz;subst hz;have e':b=rs:=e;omega) (λj hj e=>by have e':j=rs:=e;omega),L.length - (k+1),by omega,k+1,wr1 (by omega),by omega,rfl,M6.cong λj=>?_,W5.keep c6 rsne,hs5.keep c6 λa ha e=>?_⟩
  ·rw [ar_ hk',List.mem_append,List.mem_singleton]
  ·have e':a.block=rs:=e
   rcases hs3 with h | ⟨b0,o0,e0,cs,T0,fz,hh,_⟩
   ·have:L=[]:=by simpa using h
    subst this;simp at hk'
   ·rw [e0] at ha;cases ha
    have:=aj_ hh
    simp only [] at e';omega
 ·have hkL:k=L.length:=by omega
  subst hkL
  refine cn_ W5 λw7 q7 c7 L7 g7 _ hm7 _ _=>⟨_,_,_,rfl,hF5.after g7,?_⟩
  have hL7:L7=[]:=by
   cases L7 with
   | nil=>rfl
   | cons x r=>exact absurd ((hm7 x).1 List.mem_cons_self) id
  subst hL7
  refine ⟨λi lv w'=>i=0∧WAt w' ⟨wb,mi,ak,4,6,λ_=>False,[]⟩∧Sl w' q (L.map iv),⟨0,rfl,W5.grow g7,hs5.grow g7⟩,?_⟩
  rintro i D1 lv w8 ⟨rfl,W8,hs8⟩ hF8
  refine ⟨λhlt=>absurd hlt (by simp),λ_=>?_⟩
  have hqn:∀a,q=some a→L≠[]→a.block<w1.heap.size:=λa ha _=>ho.lt a ha
  refine fx_ (xs:=L) W8 hs8 (λa ha e=>?_) hbd (by omega) λw9 W9 c9=>⟨rfl,hF8.step c9 (λz hz e=>by simp at hz;subst hz;have e':b=mi:=e;omega) (λj hj e=>by have e':j=mi:=e;omega),?_⟩
  ·have:=ho.lt a ha
   have e':a.block=mi:=e
   omega
  ·have hF9:=hF8.step c9 (λz hz e=>by simp at hz;subst hz;have e':b=mi:=e;omega) (λj hj e=>by have e':j=mi:=e;omega)
   exact hK w9 wb mi ak ⟨W9.blk,W9.mm.cong λj=>by simp,W9.am,W9.ne,λj hj=>hbd j hj,(λp hp=>by cases hp),W9.win,W9.tmo⟩ (hF9.blk 0 rfl) hF9.chg (by omega) (by omega) (by omega)
theorem qw_ {w:World} {s:HS} (hs:az_ w s) {n:Int} (hn:aM_ n) {K:Value→World→Prop}
  (h1:∀w' f v,aY_ w' f v→f.h=s→f.ver=n→f.trs=[]→f.wt.askd=[]→f.wt.win=4→f.wt.tmo=6→Grow w w'→(∀k,feA f k→hA s k∨w.heap.size≤k)→K (.tuple #[.pointer (some ⟨f.b,0,none⟩),.nilIface]) w')
  (h2:∀w',Grow w w'→(∀v∈s.vs,v.man.version≠n)→K (.tuple #[.pointer none,.iface T.ak_ (.int .i64 13)]) w'):aa_ PR F.iv_ ⟨[.pointer (some ⟨s.bh,0,none⟩),.int .i64 n]⟩ w K:=by
 have hF0:Fs S0 w [] w:=.init _ w
 refine iv_ (some ⟨s.bh,0,none⟩) n S0 K w ⟨(λh=>by cases h),λa0 ha0=>?_⟩
 refine ja_ hs hn (λw0 v q c hv hvn g0 ho=>⟨_,_,_,_,_,_,_,_,_,rfl,hF0.after g0,λl2 hl2=>⟨λ_ w1 hF1=>?_,(λt x h=>by cases h),.inl rfl⟩⟩) λw0 g0 hno=>⟨_,_,_,_,_,_,_,_,_,rfl,hF0.after g0,λl2 hl2=>⟨(λh=>by cases h),(λt x h w5 hF5=>h2 w5 (hF5.unM hl2).gr hno),.inr ⟨_,_,rfl⟩⟩⟩
 have hF1':=hF1.unM hl2
 have g1:Grow w w1:=hF1'.gr
 refine aQ_ λw2 tr htr hm2 g2=>⟨_,rfl,hF1'.reset.after g2,λb hb w3 hF3=>?_⟩
 have g3:Grow w2 w3:=hF3.grow
 have s1:=g1.size
 have s2:=g2.size
 have s3:=g3.size
 have trl:=hm2.lt
 have hlt:=hs.lt
 refine lP_ (hF3.blk 0 rfl) (hs.grow ((g1.trans g2).trans g3)) hv hvn hn λw4 wb mi ak W4 hb4 c4 e1 e2 e3=>?_
 have hF4:=hF3.mod1 c4 hb4
 have hbl:=aj_ (hF3.blk 0 rfl)
 simp only [] at hbl
 have fresh:∀k,wS ⟨wb,mi,ak,4,6,λi=>i∈av_ v,[]⟩ k→w3.heap.size≤k:=by
  rintro k (h | h | h) <;> simp only [] at h <;> omega
 refine ⟨_,rfl,_,_,_,_,hF4,h1 w4 ⟨b,⟨wb,mi,ak,4,6,λi=>i∈av_ v,[]⟩,s,n,tr,[]⟩ v ⟨⟨hb4,W4,?_,?_,λk hk e=>?_,λe=>?_,λe=>?_,λe=>?_,λe=>?_⟩,hv,hvn,λi=>Iff.rfl⟩ rfl rfl rfl rfl rfl rfl hF4.gr λk hk=>?_⟩
 ·exact hs.grow hF4.gr
 ·exact (hm2.grow g3).keep c4 λe=>by have e':tr=b:=e;omega
 ·have:=fresh k hk;have:=hlt k e;omega
 ·have h:=hlt _ e;simp only [] at h;omega
 ·have h:=fresh _ e;simp only [] at h;omega
 ·have h:=hlt _ e;simp only [] at h;omega
 ·have h:=fresh _ e;simp only [] at h;omega
 ·rcases hk with h | h | h | h
  ·exact .inr (by simp only [] at h;omega)
  ·exact .inr (by have:=fresh k h;omega)
  ·exact .inl h
  ·exact .inr (by simp only [] at h;omega)
end Go.Vc
namespace Go.Vc
open Go Go.MapKept
def askC (ver:Int) (o:Int × Int):List Value:=[.int .i64 o.1,.int .i64 2,.int .i64 ver,.int .i64 o.2,.string ⟨#[]⟩,.slice none 0 0]
theorem dU_ (ver:Int) (o:Int × Int):(askC ver o).length=6:=rfl
theorem oH_:PR.underlying T.cY_=some (.slice T.bn_):=by kernel_rfl
theorem qI_:∃i z,PR.info? T.bn_=some i∧i.size=6∧i.bytes=72∧i.zero=some z∧z.cells.size=6:=by
 have h:(match PR.info? T.bn_ with | some i=>i.size == 6 && i.bytes == 72 && (match i.zero with | some z=>z.cells.size == 6 | _=>false) | none=>false)=true:=by kernel_rfl
 split at h
 ·rename_i i hi
  simp only [Bool.and_eq_true,beq_iff_eq] at h
  have h2:=h.2
  split at h2
  ·rename_i z hz
   exact ⟨i,z,hi,h.1.1,h.1.2,hz,by simpa using h2⟩
  ·cases h2
 ·cases h
theorem qd_ {ver:Int} {w:World} {q q2:Option Addr} {l c l2 c2:Nat} {xs ys:List (Int × Int)} {K:Value→World→Prop}
  (ho:Own T.bn_ 6 w q c (xs.flatMap (askC ver))) (hl:l=xs.length) (hlc:l≤c) (hs:Sl w q2 (ys.flatMap (askC ver))) (hl2:l2=ys.length) (hroom:l+l2≤1000000)
  (hK:∀q' c' w',Own T.bn_ 6 w' q' c' ((xs++ys).flatMap (askC ver))→l+l2≤c'→Chg (am_ q) w w'→(∀a,q'=some a→q=some a∨a=⟨w.heap.size,0,none⟩)→K (.slice q' (l+l2) c') w') :
  rn PR (Builtin.append_ #[T.cY_,T.cY_] T.cY_ #[.slice q l c,.slice q2 l2 c2]) K w:=by
 obtain ⟨i,z,hi,hk,hb,hz,hzs⟩:=qI_
 refine df_ <| f6_ (i:=i) (k:=6) (by_:=72) oH_ oH_ hi hz hk hb hzs (by decide) ho (by rw [cx_ (dU_ ver),hl]) hlc hs (by rw [cx_ (dU_ ver),hl2]) (λy hy=>?_) (by omega) λq' c' w' h=>hK q' c' w' (by rw [List.flatMap_append];exact h)
 obtain ⟨m,_,hm⟩:=List.mem_flatMap.1 hy
 simp [askC] at hm
 rcases hm with rfl | rfl | rfl | rfl | rfl | rfl <;> rfl
def a8_ (l:List (Int × Int)) (i:Int):Int:=match l.find? (λp=>p.1 == i) with
 | some p=>p.2
 | none=>0
def trUp (l:List (Int × Int)) (i:Int):List (Int × Int):=if (l.any λp=>p.1 == i) then l.map (λp=>if p.1=i then (i,p.2+1) else p) else l++[(i,1)]
theorem fy_ {l:List (Int × Int)} (hn:(l.map (·.1)).Nodup) {i t:Int} (h:(i,t)∈l):a8_ l i=t:=by
 unfold a8_
 cases hf:l.find? (λp=>p.1 == i) with
 | none=>exact absurd (List.find?_eq_none.1 hf _ h) (by simp)
 | some p=>
  have h1:=List.mem_of_find?_eq_some hf
  have h2:p.1=i:=by simpa using List.find?_some hf
  obtain ⟨a,ha⟩:=List.getElem?_of_mem h1
  obtain ⟨b,hb⟩:=List.getElem?_of_mem h
  have:a=b:=bs_ hn (a:=i) (by rw [List.getElem?_map,ha];simp [h2]) (by rw [List.getElem?_map,hb];rfl)
  subst this
  rw [ha] at hb
  have:=Option.some.inj hb
  subst this;rfl
theorem ez_ {l:List (Int × Int)} {i:Int} (h:∀p∈l,p.1≠i):a8_ l i=0:=by
 unfold a8_
 rw [List.find?_eq_none.2 λp hp=>by simpa using h p hp]
theorem oK_ {l:List (Int × Int)} (hn:(l.map (·.1)).Nodup) {i:Int} : putI (aI l) i (.int .i64 (a8_ l i+1))=aI (trUp l i):=by
 have ha:((aI l).any λp=>p.1 == i)=l.any λp=>p.1 == i:=by
  unfold aI;rw [List.any_map];rfl
 unfold putI trUp
 rw [ha]
 split
 ·unfold aI
  rw [List.map_map,List.map_map]
  refine List.map_congr_left λp hp=>?_
  show (if p.1=i then (i,Value.int .i64 (a8_ l i+1)) else (p.1,Value.int .i64 p.2))=((if p.1=i then (i,p.2+1) else p).1,Value.int .i64 (if p.1=i then (i,p.2+1) else p).2)
  split
  ·rename_i e
   have:=fy_ hn (i:=i) (t:=p.2) (by rw [← e];exact hp)
   rw [this]
  ·rfl
 ·rename_i h
  rw [ez_ λp hp e=>h (by simp only [List.any_eq_true,beq_iff_eq];exact ⟨p,hp,e⟩)]
  simp [aI]
theorem q6_ {l:List (Int × Int)} {i:Int} {p:Int × Int} (h:p∈trUp l i):(p∈l∧p.1≠i)∨(∃t,(i,t)∈l∧p=(i,t+1))∨p=(i,1):=by
 unfold trUp at h
 split at h
 ·obtain ⟨x,hx,rfl⟩:=List.mem_map.1 h
  split
  ·rename_i e
   exact .inr (.inl ⟨x.2,by rw [← e];exact hx,rfl⟩)
  ·rename_i e;exact .inl ⟨hx,e⟩
 ·rename_i hn
  rcases List.mem_append.1 h with h | h
  ·exact .inl ⟨h,λe=>hn (by simp only [List.any_eq_true,beq_iff_eq];exact ⟨p,h,e⟩)⟩
  ·simp at h;exact .inr (.inr h)
theorem qg_ {w:World} {r:Nat} {l:List (Int × Int)} (h:MapI w r (aI l)):(l.map (·.1)).Nodup:=by
 have:=h.nd
 unfold aI at this
 rw [List.map_map] at this
 exact this
theorem l0_ {l:List (Int × Int)} {i j:Int} (hne:j≠i):a8_ (trUp l i) j=a8_ l j:=by
 unfold trUp
 split
 ·unfold a8_
  induction l with
  | nil=>rfl
  | cons p l ih=>
   by_cases e:p.1=i
   ·have e1:(if p.1=i then (i,p.2+1) else p)=(i,p.2+1):=if_pos e
    rw [List.map_cons,e1,List.find?_cons,List.find?_cons]
    have h1:(((i,p.2+1):Int × Int).1 == j)=false:=by simpa using λ(h:i=j)=>hne h.symm
    have h2:(p.1 == j)=false:=by simpa [e] using λ(h:i=j)=>hne h.symm
    rw [h1,h2]
    by_cases hany:(l.any λp=>p.1 == i)=true
    ·exact ih hany
    ·have:l.map (λp=>if p.1=i then (i,p.2+1) else p)=l:=by
      have h3:∀x∈l,x.1≠i:=λx hx e=>hany (by simp only [List.any_eq_true,beq_iff_eq];exact ⟨x,hx,e⟩)
      conv=>rhs;rw [← List.map_id l]
      exact List.map_congr_left λx hx=>if_neg (h3 x hx)
     rw [this]
   ·have e1:(if p.1=i then (i,p.2+1) else p)=p:=if_neg e
    rw [List.map_cons,e1,List.find?_cons,List.find?_cons]
    by_cases hj:(p.1 == j)=true
    ·rw [hj]
    ·have hj':(p.1 == j)=false:=by simpa using hj
     rw [hj']
     have hany:(l.any λp=>p.1 == i)=true:=by
      rename_i hh
      rw [List.any_cons] at hh
      have:(p.1 == i)=false:=by simpa using e
      rw [this] at hh;simpa using hh
     exact ih hany
 ·unfold a8_
  rw [List.find?_append]
  cases hf:l.find? (λp=>p.1 == j) with
  | some p=>rfl
  | none=>
   have:[((i,1):Int × Int)].find? (λp=>p.1 == j)=none:=by
    rw [List.find?_eq_none];intro x hx;simp at hx;subst hx;simpa using λ(h:i=j)=>hne h.symm
   rw [this];rfl
theorem bm_ (v:HV):(av_ v).Pairwise (· < ·):=by
 unfold av_ fR_
 refine List.Pairwise.filter _ ?_
 rw [List.pairwise_map]
 exact List.pairwise_lt_range.imp λh=>by omega
def dS_ (v:HV) (askd:List (Int × Int)):List Int:=(av_ v).filter λi=>decide (∀p∈askd,p.1≠i)
theorem es_ (v:HV) (askd:List (Int × Int)):(dS_ v askd).Pairwise (· < ·):=(bm_ v).filter _
theorem bK_ {v:HV} {askd:List (Int × Int)} {i:Int} : i∈dS_ v askd↔i∈av_ v∧∀p∈askd,p.1≠i:=by
 unfold dS_;rw [List.mem_filter,decide_eq_true_iff]
def bg_ (f:FS) (now:Int):List (Int × Int):=f.wt.askd.filter λp=>decide (now<p.2)
def goL (f:FS) (v:HV) (now:Int) (n:Nat):List Int:=if n=0 then [] else (dS_ v (bg_ f now)).take (f.wt.win - (bg_ f now).length).toNat
def FS.tick (f:FS) (v:HV) (now:Int) (n:Nat):FS:={ f with wt:={ f.wt with askd:=bg_ f now++(goL f v now n).map λi=>(i,now+f.wt.tmo) },trs:=(goL f v now n).foldl trUp f.trs }
def toV (f:FS) (ps:List Int) (i:Int):Int:=ps.getD ((i+a8_ f.trs i)%(ps.length:Int)).toNat 0
theorem qJ_ {l:List (Int × Int)} {i M:Int} (h:∀p∈l,0≤p.2∧p.2≤M) (hM:1≤M):∀p∈trUp l i,0≤p.2∧p.2≤M+1:=λp hp=>by
 rcases q6_ hp with ⟨h1,_⟩ | ⟨t,h1,rfl⟩ | rfl
 ·have:=h p h1;omega
 ·have:=h _ h1;simp only [] at this ⊢;omega
 ·simp only [];omega
theorem nY_ {l:List Int} {k:Nat} (hk:k<l.length) (t:List (Int × Int)):(l.take (k+1)).foldl trUp t=trUp ((l.take k).foldl trUp t) l[k]:=by
 rw [ar_ hk,List.foldl_append];rfl
theorem hD_ {l:List Int} {j:Int} (h:j∉l) (t:List (Int × Int)):a8_ (l.foldl trUp t) j=a8_ t j:=by
 induction l generalizing t with
 | nil=>rfl
 | cons a l ih=>
  rw [List.foldl_cons,ih (λh'=>h (List.mem_cons_of_mem _ h')),l0_ λe=>h (by rw [e];exact List.mem_cons_self)]
theorem rn_ {l:List Int} {M:Int} (hM:1≤M) {t:List (Int × Int)} (h:∀p∈t,0≤p.2∧p.2≤M):∀p∈l.foldl trUp t,0≤p.2∧p.2≤M+l.length:=by
 induction l generalizing t M with
 | nil=>simpa using h
 | cons a l ih=>
  intro p hp
  have:=ih (M:=M+1) (by omega) (qJ_ h hM) p hp
  simp only [List.length_cons];omega
theorem mZ_ {l:List (Int × Int)} {M:Int} (hM:0≤M) (h:∀p∈l,0≤p.2∧p.2≤M) (i:Int):0≤a8_ l i∧a8_ l i≤M:=by
 unfold a8_
 cases hf:l.find? (λp=>p.1 == i) with
 | none=>simp only [];omega
 | some p=>exact h p (List.mem_of_find?_eq_some hf)
theorem Sl.so_ {S:Nat→Prop} {w w':World} {q:Option Addr} {ps:List Int} (h:Sl w q (ps.map iv)) (c:Chg S w w') (hn:ps≠[]→∀a,q=some a→¬S a.block):Sl w' q (ps.map iv):=by
 by_cases e:ps=[]
 ·subst e;exact .inl rfl
 ·exact h.keep c (hn e)
theorem iQ_ {w:World} {f:FS} {v:HV} (H:aY_ w f v) {now:Int} (hn:0≤now∧now≤1000000000) (htr:∀p∈f.trs,0≤p.2∧p.2≤1000000) {ps:List Int} (hpl:ps.length≤1000000) {y:Option Addr} {cy:Nat} (hs:Sl w y (ps.map iv)) (hyo:ps≠[]→∀a,y=some a→a.block≠f.wt.ak∧a.block≠f.tr) {K:Value→World→Prop}
  (hK:∀w' q c,aY_ w' (f.tick v now ps.length) v→Own T.bn_ 6 w' q c (((goL f v now ps.length).map λi=>(toV f ps i,i)).flatMap (askC f.ver))→Chg (feS f) w w'→(∀a,q=some a→w.heap.size≤a.block)→Sl w' y (ps.map iv)→K (.slice q (goL f v now ps.length).length c) w') :
  aa_ PR F.c0_ ⟨[.pointer (some ⟨f.b,0,none⟩),.int .i64 now,.slice y ps.length cy]⟩ w K:=by
 have H0:=H.at_
 have hF0:=H0.fs
 have hlt:=H0.lt
 have hwin:=H0.wat.win
 have htmo:=H0.wat.tmo
 refine ha_ f.b (some ⟨f.wt.b,0,none⟩) (some ⟨f.h.bh,0,none⟩) f.ver (some f.tr) now y ps.length cy (feS f) K w hF0 ⟨.inl rfl,trivial⟩ ?_
 refine ny_ H0.wat hn λw0 q0 l0 c0 W0 c00=>⟨_,_,_,rfl,?_⟩
 have akS:∀k,k=f.wt.ak→wS f.wt k:=λk e=>.inr (.inr e)
 have hF1:=hF0.step c00 (λz hz e=>by simp at hz;subst hz;exact H0.dbw (akS _ e)) λk _ e=>.inr (.inl (akS _ e))
 have A0:WAt w0 { f.wt with miss:=f.wt.miss,askd:=bg_ f now }:=W0
 have HA:=H0.setW (c00.mono λk _ e=>akS _ e) A0
 generalize hst:bg_ f now=A at A0 HA
 let C:List Int:=dS_ v A
 have hCl:C.length≤2048:=by
  have h1:=List.length_filter_le (λi=>decide (∀p∈A,p.1≠i)) (av_ v)
  have h2:=eD_ v v.man.blocks.toNat
  have h3:=(H0.hat.vs v H.mem).ok.blocks.2
  show (dS_ v A).length≤2048
  unfold dS_
  unfold av_ at h1 ⊢
  omega
 have hCs:C.Pairwise (· < ·):=es_ v A
 let Ak (k:Nat):List (Int × Int):=A++(C.take k).map λi=>(i,now+f.wt.tmo)
 let fk (k:Nat):FS:={ f with wt:={ f.wt with askd:=Ak k },trs:=(C.take k).foldl trUp f.trs }
 let outs (k:Nat):List (Int × Int):=(C.take k).map λi=>(toV f ps i,i)
 let B:=(f.wt.win - A.length).toNat
 have hs0:Sl w0 y (ps.map iv):=hs.so_ c00 λhne a ha e=>(hyo hne a ha).1 e
 have e0:Ak 0=A:=by simp [Ak]
 have sz0:=c00.size
 have wlt:=H0.wat.lt
 have tlt:=H0.tm.lt
 have hmiss:∀i,f.wt.miss i↔i∈av_ v:=H.miss
 have hbd:∀i∈C,0≤i∧i<4096:=λi hi=>H0.wat.sm i ((hmiss i).2 (bK_.1 hi).1)
 refine ⟨hF1,λq l c lv w'=>∃k:Nat,k≤C.length∧k≤B∧lv=C.length - k∧aF_ w' (fk k)∧Own T.bn_ 6 w' q c ((outs k).flatMap (askC f.ver))∧l=(outs k).length∧l≤c∧Off (λx=>x<w.heap.size) q∧Chg (feS f) w w'∧Sl w' y (ps.map iv)∧(ps.length=0→k=0),⟨_,0,by omega,by omega,rfl,?_,.nil _ _ _,rfl,Nat.le_refl _,.none _,c00.mono λk _ e=>.inr (.inl (akS _ e)),hs0,λ_=>rfl⟩,?_⟩
 ·show aF_ w0 { f with wt:={ f.wt with askd:=Ak 0 },trs:=f.trs }
  rw [e0];exact HA
 rintro q l c D lv w1 ⟨k,hkC,hkB,rfl,H1,ho,rfl,hlc,hof,c1,hs1,hz⟩ hF2
 have s1:=c1.size
 have hol:(outs k).length=k:=by simp [outs,Nat.min_eq_left hkC]
 have fin:(C.take k=goL f v now ps.length)→K (.slice q (outs k).length c) w1:=λhg=>by
  have e1:fk k=f.tick v now ps.length:=by
   show ({ f with wt:={ f.wt with askd:=A++(C.take k).map λi=>(i,now+f.wt.tmo) },trs:=(C.take k).foldl trUp f.trs } : FS)=_
   rw [hg,← hst];rfl
  have e2:outs k=(goL f v now ps.length).map λi=>(toV f ps i,i):=by
   show (C.take k).map _=_
   rw [hg]
  have:=hK w1 q c ⟨by rw [← e1];exact H1,H.mem,H.ver,H.miss⟩ (by rw [← e2];exact ho) c1 (λa ha=>Nat.le_of_not_lt (hof a ha)) hs1
  rw [e2,List.length_map];exact this
 have hAl:(Ak k).length=A.length+k:=by simp [Ak,Nat.min_eq_left hkC]
 refine ⟨λhpos=>?_,λhnp=>?_⟩
 ·have hn0:ps.length≠0:=by omega
  refine nz_ H1.wat hn (λw2 g2 hend=>⟨_,false,rfl,(λh=>by cases h),λ_=>⟨hF2.after g2,?_⟩⟩) λw2 i hwl hmi hna hmin W2 c2=>⟨_,true,rfl,(λ_=>⟨hF2.step c2 (λz hz e=>by simp at hz;subst hz;exact H0.dbw (akS _ e)) (λj _ e=>.inr (.inl (akS _ e))),?_⟩),λh=>by cases h⟩
  ·have hg:C.take k=goL f v now ps.length:=by
    unfold goL
    rw [if_neg hn0,hst]
    show C.take k=C.take B
    rcases hend with h | h
    ·have h':(((Ak k).length:Nat):Int)≥f.wt.win:=h
     rw [hAl] at h'
     have:k=B:=by show k=(f.wt.win - A.length).toNat;omega
     rw [this]
    ·have hall:k=C.length:=by
      rcases Nat.lt_or_ge k C.length with hlt | hge
      ·exfalso
       have hin:=bK_.1 (List.getElem_mem hlt:C[k]∈C)
       obtain ⟨p,hp,ep⟩:=h C[k] ((hmiss _).2 hin.1)
       rcases List.mem_append.1 hp with hp | hp
       ·exact hin.2 p hp ep
       ·obtain ⟨j,hj,rfl⟩:=List.mem_map.1 hp
        exact bT_ hCs hlt (by have e:j=C[k]:=ep;rw [← e];exact hj)
      ·omega
     rw [hall,List.take_of_length_le (Nat.le_refl _),List.take_of_length_le (by omega)]
   have:=hK w2 q c
   have H2:=H1.grow g2
   have e1:fk k=f.tick v now ps.length:=by
    show ({ f with wt:={ f.wt with askd:=A++(C.take k).map λi=>(i,now+f.wt.tmo) },trs:=(C.take k).foldl trUp f.trs } : FS)=_
    rw [hg,← hst];rfl
   have e2:outs k=(goL f v now ps.length).map λi=>(toV f ps i,i):=by
    show (C.take k).map _=_
    rw [hg]
   have:=hK w2 q c ⟨by rw [← e1];exact H2,H.mem,H.ver,H.miss⟩ (by rw [← e2];exact ho.grow g2) (c1.grow g2) (λa ha=>Nat.le_of_not_lt (hof a ha)) (hs1.grow g2)
   rw [e2,List.length_map];exact this
  ·
   have hiC:i∈C:=bK_.2 ⟨(hmiss i).1 hmi,λp hp=>hna p (List.mem_append_left _ hp)⟩
   have hnt:i∉C.take k:=λhm=>hna (i,now+f.wt.tmo) (List.mem_append_right _ (List.mem_map.2 ⟨i,hm,rfl⟩)) rfl
   have hkl:k<C.length:=by
    rcases Nat.lt_or_ge k C.length with h | h
    ·exact h
    ·rw [List.take_of_length_le h] at hnt;exact absurd hiC hnt
   have hik:i=C[k]:=by
    obtain ⟨m,hm,rfl⟩:=List.getElem_of_mem hiC
    rcases Nat.lt_trichotomy m k with h | h | h
    ·exact absurd (List.mem_take_iff_getElem.2 ⟨m,by omega,rfl⟩) hnt
    ·subst h;rfl
    ·exfalso
     have hlt:=List.pairwise_iff_getElem.1 hCs k m hkl hm h
     have hin:=bK_.1 (List.getElem_mem hkl:C[k]∈C)
     obtain ⟨p,hp,ep⟩:=hmin C[k] ((hmiss _).2 hin.1) hlt
     rcases List.mem_append.1 hp with hp | hp
     ·exact hin.2 p hp ep
     ·obtain ⟨j,hj,rfl⟩:=List.mem_map.1 hp
      exact bT_ hCs hkl (by have e:j=C[k]:=ep;rw [← e];exact hj)
   have hkB2:k+1≤B:=by
    have h':(((Ak k).length:Nat):Int)<f.wt.win:=hwl
    rw [hAl] at h'
    show k+1≤(f.wt.win - A.length).toNat
    omega
   have hib:=hbd i hiC
   have hfit:aM_ i:=⟨by omega,by omega⟩
   have eA:Ak k++[(i,now+f.wt.tmo)]=Ak (k+1):=by
    show (A++_)++_=A++_
    rw [ar_ hkl,List.map_append,List.append_assoc,hik];rfl
   have c2':Chg (wS f.wt) w1 w2:=c2.mono λj _ e=>akS _ e
   have H2:aF_ w2 { fk k with wt:={ f.wt with askd:=Ak (k+1) } }:=by
    have W2':WAt w2 { (fk k).wt with miss:=f.wt.miss,askd:=Ak (k+1) }:=by rw [← eA];exact W2
    exact H1.setW c2' W2'
   have hF3:=hF2.step c2 (λz hz e=>by simp at hz;subst hz;exact H0.dbw (akS _ e)) (λj _ e=>.inr (.inl (akS _ e)))
   have tm2:MapI w2 f.tr (aI ((C.take k).foldl trUp f.trs)):=H2.tm
   have tnd:=qg_ tm2
   have hto:a8_ ((C.take k).foldl trUp f.trs) i=a8_ f.trs i:=hD_ hnt _
   have hbt:=mZ_ (M:=1000000) (by omega) htr i
   have look:∀ {w':World} {K':Value→World→Prop},MapI w' f.tr (aI ((C.take k).foldl trUp f.trs))→K' (.int .i64 (a8_ f.trs i)) w'→rn PR (Instr.lookup T.cK_ (.map (some f.tr)) (.int .i64 i) false) K' w':=λ{w' K'} hm hk=>by
    refine aJ_ bu_ hm hfit false cW_ (λx hx=>?_) λhno=>?_
    ·obtain ⟨p,hp,e⟩:=List.mem_map.1 hx
     have e1:p.1=i:=congrArg Prod.fst e
     have e2:x=.int .i64 p.2:=(congrArg Prod.snd e).symm
     subst e2
     have:=fy_ tnd (i:=i) (t:=p.2) (by rw [← e1];exact hp)
     rw [hto] at this
     rw [this] at hk;exact hk
    ·have:=ez_ (l:=(C.take k).foldl trUp f.trs) (i:=i) λp hp e=>hno _ (List.mem_map.2 ⟨p,hp,rfl⟩) e
     rw [hto] at this
     rw [this] at hk;exact hk
   refine look tm2 ⟨_,rfl,hF3,by omega,?_⟩
   have hs2:Sl w2 y (ps.map iv):=hs1.so_ c2 λhne a ha e=>(hyo hne a ha).1 e
   have em:Int.tmod (IntKind.wrap .i64 (i+a8_ f.trs i)) (ps.length:Int)=(((i+a8_ f.trs i)%(ps.length:Int)).toNat:Int):=by
    rw [w64 (by omega) (by omega),Int.tmod_eq_emod_of_nonneg (by omega)]
    have:=Int.emod_nonneg (i+a8_ f.trs i) (b:=(ps.length:Int)) (by omega)
    omega
   have hm1:((i+a8_ f.trs i)%(ps.length:Int)).toNat<ps.length:=by
    have h1:=Int.emod_nonneg (i+a8_ f.trs i) (b:=(ps.length:Int)) (by omega)
    have h2:=Int.emod_lt_of_pos (i+a8_ f.trs i) (b:=(ps.length:Int)) (by omega)
    omega
   rw [em]
   refine hs2.rd (v:=iv (toV f ps i)) (by simp) (by omega) ?_ λa ha=>⟨_,ha,?_⟩
   ·rw [Int.toNat_natCast]
    unfold toV
    exact gw_ hm1
   refine look tm2 ⟨_,rfl,hF3,?_⟩
   rw [w64 (by omega) (by omega)]
   refine bR_ bu_ tm2 hfit λw5 tm5 c5 s5=>?_
   have eT:putI (aI ((C.take k).foldl trUp f.trs)) i (.int .i64 (a8_ f.trs i+1))=aI ((C.take (k+1)).foldl trUp f.trs):=by
    rw [nY_ hkl,← hik,← hto]
    exact oK_ tnd
   rw [eT] at tm5
   have hF5:=hF3.step c5 (λz hz e=>by simp at hz;subst hz;exact H0.bt e) (λj _ e=>.inr (.inr (.inr e)))
   have H5:aF_ w5 (fk (k+1)):=⟨c5.get H2.blk (λe=>H0.bt e),H2.wat.keep c5 λj hj e=>H0.dtw (by have e':j=f.tr:=e;rw [← e'];exact hj),H2.hat.keep c5 λj hj e=>H0.dth (by have e':j=f.tr:=e;rw [← e'];exact hj),tm5,H0.dwh,H0.dth,H0.dtw,H0.dbh,H0.dbw⟩
   refine ⟨hF5,λl6 hl6 w6 hF6=>?_⟩
   have g6:Grow w5 w6:=hF6.grow
   have offq:∀a,q=some a→w.heap.size≤a.block:=λa ha=>Nat.le_of_not_lt (hof a ha)
   have akl:=wlt f.wt.ak (.inr (.inr rfl))
   have ho5:Own T.bn_ 6 w5 q c ((outs k).flatMap (askC f.ver)):=(ho.keep c2 λa ha e=>by have:=offq a ha;have e':a.block=f.wt.ak:=e;omega).keep c5 λa ha e=>by have:=offq a ha;have e':a.block=f.tr:=e;omega
   have ho6:=ho5.grow g6
   have hs5:Sl w5 y (ps.map iv):=hs2.so_ c5 λhne a ha e=>(hyo hne a ha).2 e
   have s2:=c2.size
   have s6:=g6.size
   have hol6:(outs k).length≤2048:=by rw [hol];omega
   refine qd_ ho6 rfl hlc (ys:=[(toV f ps i,i)]) (hF6.sl 1 rfl) rfl (by simp only [List.length_singleton] at *;omega) λq7 c7 w7 ho7 hc7 g7 hq7=>?_
   have bl:=hlt f.b (.inl rfl)
   have hF7:=hF6.step g7 (λz hz ⟨a,ha,e⟩=>by
    have h1:=offq a ha
    have h2:=ho5.lt a ha
    simp only [List.mem_cons,List.not_mem_nil,or_false] at hz
    rcases hz with rfl | rfl <;> (simp only [] at e;omega)) λj hj ⟨a,ha,e⟩=>by have h1:=offq a ha;omega
   have eo:outs k++[(toV f ps i,i)]=outs (k+1):=by
    show (C.take k).map _++_=(C.take (k+1)).map _
    rw [ar_ hkl,List.map_append,hik];rfl
   have c17:Chg (feS f) w w7:=(((c1.trans c2 λj _ e=>.inr (.inl (akS _ e))).trans c5 λj _ e=>.inr (.inr (.inr e))).grow g6).trans g7 λj hj ⟨a,ha,e⟩=>by have h1:=offq a ha;omega
   have low:∀j,feA (fk (k+1)) j→j<w.heap.size:=λj hj=>hlt j hj
   rw [eo] at ho7
   have el:(outs (k+1)).length=(outs k).length+1:=by rw [← eo,List.length_append];rfl
   refine ⟨_,_,_,rfl,hF7,C.length - (k+1),by omega,k+1,by omega,hkB2,rfl,(H5.grow g6).keep g7 (λj hj ⟨a,ha,e⟩=>by have h1:=offq a ha;have h2:=low j hj;omega),ho7,by rw [el],hc7,λa ha hlt'=>?_,c17,(hs5.grow g6).keep g7 (λa ha ⟨a2,ha2,e⟩=>?_),λh=>absurd h hn0⟩
   ·rcases hq7 a ha with h | h
    ·exact hof a h hlt'
    ·subst h
     have h':w6.heap.size<w.heap.size:=hlt'
     omega
   ·have h1:=offq a2 ha2
    rcases hs with h | ⟨b0,o0,e0',cs,T0,fz,hh,_⟩
    ·have hp0:ps=[]:=by simpa using h
     rw [hp0] at hn0;exact hn0 rfl
    ·rw [e0'] at ha;cases ha
     have:=aj_ hh
     simp only [] at e;omega
 ·have hz0:=hz (by omega)
  subst hz0
  refine fin ?_
  unfold goL
  rw [if_pos (by omega)];rfl
theorem on_ {w:World} {f:FS} {v:HV} (H:aY_ w f v) {now:Int} (hn:0≤now∧now≤1000000000) (htr:∀p∈f.trs,0≤p.2∧p.2≤1000000) {ps:List Int} (hpl:ps.length≤1000000) {y:Option Addr} {cy:Nat} (hs:Sl w y (ps.map iv)) (hyo:∀a,y=some a→a.block≠f.wt.ak∧a.block≠f.tr) {K:Value→World→Prop}
  (hK:∀w' q c,aY_ w' (f.tick v now ps.length) v→Own T.bn_ 6 w' q c (((goL f v now ps.length).map λi=>(toV f ps i,i)).flatMap (askC f.ver))→Chg (feS f) w w'→(∀a,q=some a→w.heap.size≤a.block)→Sl w' y (ps.map iv)→K (.slice q (goL f v now ps.length).length c) w') :
  aa_ PR F.c0_ ⟨[.pointer (some ⟨f.b,0,none⟩),.int .i64 now,.slice y ps.length cy]⟩ w K:=iQ_ H hn htr hpl hs (λ_=>hyo) hK
end Go.Vc
namespace Go.Vc
open Go
theorem ck_ (y0:Option Addr) (ly0:Nat) (cy0:Nat) (S:SP) (K:KP) (w:World) (h:((ly0:Int)>6→K (.slice none 0 0) w)∧(¬((ly0:Int)>6)→∃I0:(Option Addr)→Nat→Nat→Int→Nat→World→Prop,(∃l0,I0 none 0 0 0 l0 w)∧∀q0 l1 l2 n0,∀D0:Nat→Value,∀l3 w0,I0 q0 l1 l2 n0 l3 w0→Fs S w [] w0→(n0<(ly0:Int)→Dr y0 λa0=>(0:Int)≤n0∧n0<(ly0:Int)∧Dr (some (Addr.add a0 (Int.toNat n0*1))) λa1=>∃q1 l4 l5,World.cell? w0 a1=some (.slice q1 l4 l5)∧((l4:Int)>60→K (.slice none 0 0) w0)∧(¬((l4:Int)>60)→aa_ PR 37 #[Iv (IntKind.wrap .i64 (n0+1)),Iv 40,Iv 10,.slice q1 l4 l5] w0 λv0 w1=>∃q2 v1,v0=.tuple #[.pointer q2,v1]∧Fs S w [] w1∧(v1=.nilIface→(q2=none→K (.slice none 0 0) w1)∧∀a2:Addr,q2=some a2→∀l6,w1.heap.size≤l6→∀w2,Fr S w w1 [] [⟨l6,#[.pointer q2],48,true⟩] w2→rn PR (Builtin.append_ #[24,24] 24 #[.slice q0 l1 l2,.slice (some (⟨l6,0,none⟩)) 1 1]) (λv2 w3=>∃q3 l7 l8,v2=.slice q3 l7 l8∧Fs S w [⟨l6,#[.pointer q2],48,true⟩] w3∧∃l9,l9<l3∧I0 q3 l7 l8 (IntKind.wrap .i64 (n0+1)) l9 w3) w2)∧(∀x0 v3,v1=.iface x0 v3→K (.slice none 0 0) w1)∧(v1=.nilIface∨∃l10 v4,v1=.iface l10 v4)))∧(¬(n0<(ly0:Int))→K (.slice q0 l1 l2) w0))):aa_ PR 6 ⟨[.slice y0 ly0 cy0]⟩ w K:=
 ab_ (okf:=⟨okL,[]⟩) ag_ (args:=[.c (.v (.slice y0 ly0 cy0))]) (H:=[]) (.s .z (.s .z (.s .z (.s (.s .z (.b (.l (some []) (some []) [(3,.c (.sl)),(13,.c (.int .i64))] [] (.s .z (.s .z (.s (.b (.s .z (.s .z (.s (.r ⟨(some []),false,[],[]⟩) (.s .z (.r ⟨(some []),false,[],[]⟩)))))) .z)))))) .z)))) Go.Proofs.Tryz.func6 rfl ⟨trivial,trivial⟩ trivial (Fr.init S w) trivial (ad_ (by kernel_rfl) h)
end Go.Vc
namespace Go.Vc
open Go Go.MapKept
theorem sS_:PR.underlying T.d5_=some (.slice T.cZ_):=by kernel_rfl
theorem s1_:tyI T.cZ_ 1 8 (.pointer none):=kZ_ (by kernel_rfl)
structure sN_ (l:List (Int × Int)) (m:Man) (list:List (List UInt8)):Prop where
 ver:VerL m list
 one:m.version=1
 len:list.length≤40
 pos:1≤list.length
 mkr:i__ 1 40 10 l m list
 sh:m.shards≠[]
theorem VerL.len {m:Man} {list:List (List UInt8)} (h:VerL m list):list.length=a4_ list.flatten.length:=by
 have:=congrArg List.length h.cut
 rw [iF_] at this
 exact this.symm
theorem jJ_ {w:World} {y:Option Addr} {cy:Nat} {q:Option Addr} {c:Nat} {l:List (Int × Int)} (hy:Sl w y [.slice q l.length c]) (hs:Sl w q (encE l)) {K:Value→World→Prop}
  (h1:∀w' a pc b m list,Grow w w'→Sl w' (some a) [.pointer (some ⟨b,0,none⟩)]→VerO (λj=>j<w.heap.size) w' b m list→sN_ l m list→l.length≤60→fm_ 40 l→K (.slice (some a) 1 pc) w')
  (h2:∀w',Grow w w'→¬(l.length≤60∧fm_ 40 l)→K (.slice none 0 0) w'):aa_ PR F.ck_ ⟨[.slice y 1 cy]⟩ w K:=by
 refine ck_ y 1 cy S0 K w ⟨λh=>by omega,λ_=>?_⟩
 refine ⟨λpq l1 l2 n lv w'=>(n=0∧pq=none∧l1=0∧l2=0∧lv=1∧Grow w w')∨(n=1∧l1=1∧lv=0∧∃a b m list,pq=some a∧Sl w' (some a) [.pointer (some ⟨b,0,none⟩)]∧VerO (λj=>j<w.heap.size) w' b m list∧sN_ l m list∧l.length≤60∧fm_ 40 l∧Grow w w'),⟨1,.inl ⟨rfl,rfl,rfl,rfl,rfl,.refl _ _⟩⟩,?_⟩
 rintro pq l1 l2 n D lv w1 (⟨rfl,rfl,rfl,rfl,rfl,g1⟩ | ⟨rfl,rfl,rfl,a,b,m,list,rfl,k1,k2,k3,k4,k5,g1⟩) hF1
 ·refine ⟨λ_=>?_,λh=>absurd h (by decide)⟩
  refine (hy.grow g1).rd (v:=.slice q l.length c) rfl (by omega) rfl λa ha=>⟨_,_,_,ha,λhgt=>h2 w1 g1 (λhh=>by omega),λhle=>?_⟩
  have hl60:l.length≤60:=by omega
  have e1:IntKind.wrap .i64 ((0:Int)+1)=1:=by decide
  rw [e1]
  refine qq_ (version:=1) (nodes:=40) (each:=10) (by decide) (by decide) (hs.grow g1) rfl (by omega) (λw2 b m list g2 hb hv hL hm1 hfl hg h64 hmk hl2=>⟨_,_,rfl,hF1.after g2,λ_=>⟨(λh=>by cases h),λa2 ha2 l6 hl6 w3 hF3=>?_⟩,(λt x h=>by cases h),.inl rfl⟩) (by decide) λw2 v cc g2 hv hE hno=>⟨_,_,rfl,hF1.after g2,(λh=>by obtain ⟨t,x,rfl⟩:=hv.err;cases h),(λt x _=>h2 w2 (g1.trans g2) λhh=>hno ⟨hh.2,by omega,by omega⟩),.inr (by obtain ⟨t,x,h⟩:=hv.err;exact ⟨t,x,h⟩)⟩
  have g3:Grow w2 w3:=hF3.grow
  refine app1 sS_ s1_ rfl (by decide) (.nil _ _ w3) rfl (Nat.le_refl _) (ys:=[.pointer (some ⟨b,0,none⟩)]) (hF3.sl 0 rfl) rfl (by simp [oneC]) (by omega) λq' c' w4 ho4 hc4 g4 hq4=>?_
  have g4':Grow w3 w4:=g4.mono λk _ ⟨a,ha,_⟩=>by cases ha
  have s1:=g1.size
  have hvw:VerO (λj=>j<w.heap.size) w4 b m list:=(hv.keep (D':=λj=>j<w.heap.size) (g3.trans g4') (λ_ _ e=>e.elim) λk _ e=>by show k<w1.heap.size;have e':k<w.heap.size:=e;omega)
  have hlen:=hL.len
  have h7:=hL.ok.shards.2
  have hn40:m.nodes=40:=by
   obtain ⟨nn,N,k,e,_,_,_,em⟩:=hmk
   have:=congrArg (λz:Man × List (List UInt8)=>z.1.nodes) em
   simp only [mo_] at this
   omega
  have hshn:m.shards≠[]:=λh=>by have:=h7.1 h;omega
  have hpos:1≤list.length:=by
   have h5:=hL.ok
   have h6:=hL.blocks
   have h8:=h5.tab
   have hb:=h5.blocks.1
   have ht:3≤m.total:=by
    unfold Man.total
    cases hsh:m.shards with
    | nil=>have:=h7.1 hsh;omega
    | cons x r=>
     rw [hsh] at h8
     have h9:3≤x.2:=by unfold gY_ at h8;exact h8.2.1
     have h10:∀(p:Option Int) (z:List (Int × Int)),gY_ m.nodes p z→0≤(z.map (·.2)).sum:=by
      intro p z
      induction z generalizing p with
      | nil=>intro _;simp
      | cons y z ih=>
       intro hz
       rw [List.map_cons,List.sum_cons]
       cases p with
       | none=>unfold gY_ at hz;have:=ih _ hz.2.2.2;omega
       | some p=>unfold gY_ at hz;have:=ih _ hz.2.2.2.2;omega
     have h11:=h10 _ r (by unfold gY_ at h8;exact h8.2.2.2)
     rw [List.map_cons,List.sum_cons];omega
   have:1≤m.blocks:=by rw [hb];unfold gV_;rw [if_neg (by omega)];omega
   omega
  refine ⟨_,_,_,rfl,hF3.after g4',0,by omega,.inr ⟨rfl,rfl,rfl,?_⟩⟩
  have hsl:=ho4.sl
  simp only [List.nil_append] at hsl
  cases q' with
  | none=>
   rcases hsl with h | ⟨b0,o0,h,_⟩
   ·cases h
   ·cases h
  | some a=>exact ⟨a,b,m,list,rfl,hsl,hvw,⟨hL,hm1,by rw [hlen];exact p4_ (by omega),hpos,hmk,hshn⟩,hl60,hg,((g1.trans g2).trans g3).trans g4'⟩
 ·exact ⟨λh=>absurd h (by decide),λ_=>h1 w1 a l2 b m list g1 k1 k2 k3 k4 k5⟩
theorem tB_ {m:Man} {list:List (List UInt8)} (h:sN_ [(0,1)] m list):list.length=1:=by
 obtain ⟨nn,N,k,e1,hN,hk1,hk2,e⟩:=h.mkr
 have e2:list=cutL (bi_ (begL nn N) (N.map (·.2)) 10 nn k).flatten:=congrArg Prod.snd e
 have en:nn=40:=by omega
 subst en
 have eN:N=[(0,1)]:=eZ_ hN.lt (by simp) hN.mem
 subst eN
 have ek:k=4:=by
  rcases Nat.lt_trichotomy k 4 with h | h | h
  ·omega
  ·exact h
  ·have:=hk2 4 h;omega
 subst ek
 rw [e2,iF_]
 decide +kernel
end Go.Vc
namespace Go.Vc
open Go Go.MapKept
theorem jF_ {D:Nat→Prop} {w:World} {b:Nat} {m:Man} {list:List (List UInt8)} (hv:VerO D w b m list) (hL:VerL m list) (hne:m.shards≠[]) {n:Nat} (hn:n≤4096) {K:Value→World→Prop}
  (hK:∀w' f v,aY_ w' f v→f.h.vs=[v]→v.man=m→v.bl=[]→v.ol=[]→f.ver=m.version→f.trs=[]→f.wt.askd=[]→f.wt.win=4→f.wt.tmo=6→f.h.d.sl.length=n→(logL f.h.recs).length≤2000→f.h.recs.length≤1→f.h.d.ws.length≤1→Grow w w'→(∀k,feA f k→w.heap.size≤k)→K (.tuple #[.pointer (some ⟨f.h.bh,0,none⟩),.pointer (some ⟨f.b,0,none⟩),.bool true]) w') :
  aa_ PR F.bW_ ⟨[.pointer (some ⟨b,0,none⟩),.int .i64 n]⟩ w K:=by
 have hF0:Fs S0 w [] w:=.init _ w
 obtain ⟨qm,cm,ql,cl,hb,_,hqm,_,_⟩:=hv
 have hsh:=hL.ok.shards.1
 have hver:=hL.ok.version
 have hbl:=aj_ hb
 refine bW_ (some ⟨b,0,none⟩) n S0 K w ?_
 refine oq_ hn λw0 bd p g0 hfr hd=>⟨_,rfl,hF0.after g0,?_⟩
 have hl0:(DM.empty n).sl.length=n:=by simp [DM.empty]
 refine mO_ hd rfl rfl (by rw [hl0];exact hn) λw1 bh bj mp j g1 H1 hA1=>⟨_,_,rfl,(hF0.after g0).after g1,λ_=>?_,(λt x h=>by cases h),.inl rfl⟩
 have g01:=g0.trans g1
 have hb1:=Grow.get g01 hb
 have cell:∀ {w':World} {k:Nat} {x:Value},w'.heap[b]? = some (.cells (verC m qm cm list ql cl) T.bb_ (0,0))→(verC m qm cm list ql cl)[k]? = some x→w'.cell? (Addr.add (Addr.add ⟨b,0,none⟩ 0) k)=some x:=λhb hk=>by
  rw [au_,au_,aw_ hb];simpa using hk
 refine ac_.2 (ac_.2 (ac_.2 ⟨_,cell hb1 (k:=0) rfl,_,cell hb1 (k:=1) rfl,_,cell hb1 (k:=2) rfl,_,_,_,cell hb1 (k:=3) rfl,_,cell hb1 (k:=4) rfl,_,cell hb1 (k:=5) rfl,?_⟩))
 have s0:=g0.size
 have low:∀k,hA (HS.zero bh bj mp j (DM.empty n)) k→w.heap.size≤k:=λk hk=>(hA1 k hk).elim (hfr k) λh=>Nat.le_trans s0 h
 have hqlt:∀a,qm=some a→m.shards≠[]→a.block<w.heap.size:=λa ha hne=>by
  rcases hqm with h | ⟨b0,o0,e0,⟨cs,T0,fz,hh,_⟩,_⟩
  ·exfalso
   have:=congrArg List.length h
   rw [aI_] at this
   have h2:0<m.shards.length:=List.length_pos_iff.2 hne
   simp at this;omega
  ·rw [e0] at ha;cases ha;exact aj_ hh
 refine rI_ (m:=m) (q:=qm) (c:=cm) H1 ⟨by simp [HS.zero,logL],by simp [HS.zero],by simp [HS.zero,DM.empty]⟩ hL.ok (hqm.sl.grow g01) (λa ha e=>?_) (λx hx=>by cases hx) (by show (0:Int)<_;omega) (by show 0<3;decide) λw2 j2 v H2 hvm hvb hvo c2 hfv hst=>?_
 ·have h1:=hqlt a ha hne
  have h2:=low a.block (.inl (.inr (.inl e)))
  omega
 have hF1:=(hF0.after g0).after g1
 have s1:=g1.size
 have hF2:=hF1.step c2 (λz hz=>by cases hz) λk hk e=>by have:=low k (.inl e);omega
 refine ⟨_,rfl,hF2,λ_=>?_,(λt x h=>by cases h),.inl rfl⟩
 have hb2:=c2.get hb1 λe=>by have:=low b (.inl e);omega
 refine ac_.2 (ac_.2 (ac_.2 (ac_.2 ⟨_,by rw [au_,au_,aw_ hb2];rfl,?_⟩)))
 have hvs:v∈((HS.zero bh bj mp j (DM.empty n)).addM j2 v).vs:=by show v∈[]++[v];simp
 have s2:=c2.size
 refine qw_ H2 (n:=m.version) ⟨by omega,by omega⟩ (λw3 f v3 H3 efh efv eft efa efw efm g3 hfl=>?_) λw3 g3 hno=>absurd (by rw [hvm]) (hno v hvs)
 have hv3:v3=v:=by
  have:=H3.mem
  rw [efh] at this
  have h':v3∈[]++[v]:=this
  simpa using h'
 subst hv3
 refine ⟨_,_,rfl,hF2.after g3,(λ_ w4 hF4=>?_),(λt x h=>by cases h),.inl rfl⟩
 have H4:=H3.grow hF4.grow
 have hb':f.h.bh=bh:=by rw [efh];rfl
 have lows:∀k,hA ((HS.zero bh bj mp j (DM.empty n)).addM j2 v3) k→w.heap.size≤k:=by
  rintro k (hk | ⟨x,hx,hk⟩)
  ·rcases hst k hk with h | h
   ·exact low k (.inl h)
   ·omega
  ·have:x=v3:=by simpa [HS.addM,HS.zero] using hx
   subst this
   have:=hfv k hk
   omega
 rw [← hb']
 refine hK w4 f v3 H4 (by rw [efh];rfl) hvm hvb hvo efv eft efa efw efm ?_ ?_ ?_ ?_ hF4.gr λk hk=>(hfl k hk).elim (lows k) λh=>by omega
 ·rw [efh];show ((DM.empty n).put (-1) _).sl.length=n
  rw [mc_];exact hl0
 ·rw [efh];show (logL ([]++[recM v3.man])).length≤_
  rw [fT_,List.length_append,hS_]
  have:=m7_ (m:=v3.man) (by rw [hvm];exact hL.ok)
  have e0:(logL []).length=0:=rfl
  omega
 ·rw [efh];show ([]++[recM v3.man]).length≤_
  simp
 ·rw [efh];show ((DM.empty n).put (-1) _).ws.length≤_
  unfold DM.put DM.now;rw [if_pos rfl];simp [DM.empty]
noncomputable def blkM (m:Man) (list:List (List UInt8)) (i:Nat):MsgL:=⟨3,m.version,i,list.getD i [],br_ (list.map aC_) list.length i 0 list.length⟩
end Go.Vc
namespace Go.Vc
open Go Go.MapKept
theorem ey_ {D:Nat→Prop} {w:World} {b:Nat} {m:Man} {list:List (List UInt8)} (hv:VerO D w b m list) (hL:VerL m list) {i:Int} {K:Value→World→Prop}
  (h1:∀w' q c,0≤i→i<list.length→Grow w w'→Sl w' q ((blkM m list i.toNat).proof.map sv8')→Off (λk=>k<w.heap.size) q→K (pr_ (blkM m list i.toNat) q c) w')
  (h2:∀w',¬(0≤i∧i<list.length)→Grow w w'→K (.agg #[.int .i64 4,.int .i64 m.version,.int .i64 i,.string ⟨#[]⟩,.slice none 0 0]) w'):aa_ PR F.bY_ ⟨[.pointer (some ⟨b,0,none⟩),.int .i64 i]⟩ w K:=by
 have hv':=hv
 obtain ⟨qm,cm,ql,cl,hb,hDb,hqm,hql,hlc⟩:=hv
 have hbl:=hL.ok.blocks.2
 have hb2:=hL.blocks
 have cell:∀ {w':World} {k:Nat} {x:Value},Grow w w'→(verC m qm cm list ql cl)[k]? = some x→w'.cell? (Addr.add ⟨b,0,none⟩ k)=some x:=λg hk=>by
  rw [au_,aw_ (Grow.get g hb)];simpa using hk
 have cell0:∀ {w':World} {k:Nat} {x:Value},Grow w w'→(verC m qm cm list ql cl)[k]? = some x→w'.cell? (Addr.add (Addr.add ⟨b,0,none⟩ 0) k)=some x:=λg hk=>by
  rw [au_,au_,aw_ (Grow.get g hb)];simpa using hk
 refine bY_ (some ⟨b,0,none⟩) i S0 K w λl0 hl0=>⟨λhneg=>?_,λhnn=>?_⟩
 ·exact ac_.2 (ac_.2 (ac_.2 λw0 hF0=>ac_.2 ⟨_,cell0 hF0.gr (k:=0) rfl,λw1 hF1=>h2 w1 (by omega) hF1.gr⟩))
 ·refine ac_.2 (ac_.2 λw2 hF2=>ac_.2 ⟨ql,list.length,cl,cell hF2.gr (k:=6) rfl,λhge=>?_,λhlt=>?_⟩)
  ·exact ac_.2 (ac_.2 (ac_.2 (ac_.2 ⟨_,cell0 hF2.gr (k:=0) rfl,λw3 hF3=>h2 w3 (by omega) hF3.gr⟩)))
  ·have g2:Grow w w2:=hF2.gr
   have hv2:VerO D w2 b m list:=hv'.keep (D':=D) g2 (λ_ _ e=>e.elim) λ_ _ e=>e
   have hl02:l0<w2.heap.size:=aj_ (hF2.blk 0 rfl)
   refine sL_ hv2 hL λw4 c4 g4 hT=>⟨_,rfl,hF2.reset.after g4,?_⟩
   have hF4:=hF2.reset.after g4
   refine oc_ hT (i:=i) (by omega) (λw5 q cq hi0 hi1 g5 ho hc hof=>⟨_,_,_,_,rfl,hF4.after g5,λw6 hF6=>?_⟩) λhbad=>absurd ⟨by omega,by omega⟩ hbad
   obtain ⟨j,rfl⟩:=Int.eq_ofNat_of_zero_le hi0
   have hj:j<list.length:=by omega
   have g6:Grow w w6:=hF6.gr
   have s4:=g4.size
   refine ⟨(· = w6),rfl,?_⟩
   refine ac_.2 (ac_.2 (ac_.2 (ac_.2 ⟨_,λw' e=>e ▸ cell0 g6 (k:=0) rfl,?_⟩)))
   refine ac_.2 (ac_.2 (ac_.2 ⟨_,_,_,λw' e=>e ▸ cell g6 (k:=6) rfl,?_⟩))
   refine (hql.sl.grow g6).rd (v:=sv8' list[j]) (by simp) (by omega) (by simp [hj]) λa ha=>⟨_,λw' e=>e ▸ ha,λw10 hF10=>?_⟩
   have hoo:Own T.string 1 w10 q cq ((br_ (list.map aC_) list.length j 0 list.length).map sv8'):=(ho.grow hF6.grow).keep hF10.stp λa ha e=>by
    have h3:¬a.block<w4.heap.size:=hof a ha
    have e':a.block=l0:=by simpa using e
    omega
   have:=h1 w10 q cq hi0 hi1 hF10.gr hoo.sl (λa ha e=>hof a ha (by have e':a.block<w.heap.size:=e;have:=g2.size;show a.block<w4.heap.size;omega))
   have eg:list.getD j []=list[j]:=by simp [List.getD,hj]
   unfold pr_ blkM at this
   rw [Int.toNat_natCast,eg] at this
   exact this
theorem mi_ {m:Man} {list:List (List UInt8)} (hL:VerL m list) {j:Nat} (hj:j<list.length):bd_ (j:Int) m.blocks (aC_ (blkM m list j).text) (blkM m list j).proof m.root:=by
 have hbl:=hL.ok.blocks.2
 have hb2:=hL.blocks
 rw [hb2,hL.root];exact nO_ hj (by omega)
theorem f0_ {m:Man} {list:List (List UInt8)} (hL:VerL m list) {j:Nat} (hj:j<list.length):(blkM m list j).text.length≤64:=by
 show (list.getD j []).length≤64
 have e:list.getD j []=list[j]:=by simp [List.getD,hj]
 rw [e];exact hL.small _ (List.getElem_mem hj)
end Go.Vc
namespace Go.Vc
open Go Go.MapKept
structure Fill (f:FS) (v:HV) (m:Man):Prop where
 one:f.h.vs=[v]
 man:v.man=m
 old:v.ol=[]
 nd:(v.bl.map (·.1)).Nodup
 win:f.wt.win=4
 tmo:f.wt.tmo=6
 ver:f.ver=m.version
 sl:f.h.d.sl.length=100
 log:(logL f.h.recs).length≤2000+2000*v.bl.length
 recs:f.h.recs.length≤1+v.bl.length
 ws:f.h.d.ws.length≤1+2*v.bl.length
theorem pq_:∀ {n:Nat} {l:List Int},l.Nodup→(∀i∈l,0≤i∧i<n)→l.length≤n
 | 0,l,_,h=>by
  cases l with
  | nil=>exact Nat.le_refl _
  | cons a l=>have:=h a List.mem_cons_self;omega
 | n+1,l,hn,h=>by
  have h1:=pq_ (n:=n) (l:=l.erase (n:Int)) (hn.erase _) λi hi=>by
   have h2:=(hn.mem_erase_iff).1 hi
   have h3:=h i h2.2
   have h4:i≠(n:Int):=h2.1
   omega
  have h5:=List.length_erase (a:=(n:Int)) (l:=l)
  split at h5 <;> omega
theorem te_:∀ {n:Nat} {l:List Int},l.Nodup→(∀i∈l,0≤i∧i<n)→l.length=n→∀i:Int,0≤i→i<n→i∈l:=by
 intro n l hn h hl i h0 h1
 refine Classical.byContradiction λhno=>?_
 have h2:=pq_ (n:=n) (l:=i :: l) (List.nodup_cons.2 ⟨hno,hn⟩) λj hj=>by
  rcases List.mem_cons.1 hj with rfl | hj
  ·exact ⟨h0,h1⟩
  ·exact h j hj
 simp at h2;omega
theorem Fill.le {w:World} {f:FS} {v:HV} {m:Man} (F:Fill f v m) (H:aY_ w f v) {n:Nat} (hb:m.blocks=n):v.bl.length≤n:=by
 have h1:=(H.at_.hat.vs v H.mem).inB
 rw [F.man,hb] at h1
 have:=pq_ (n:=n) F.nd λi hi=>by obtain ⟨p,hp,rfl⟩:=List.mem_map.1 hi;exact h1 p hp
 simpa using this
theorem Fill.whole {w:World} {f:FS} {v:HV} {m:Man} (F:Fill f v m) (H:aY_ w f v) {n:Nat} (hb:m.blocks=n):v.bl.length=n↔∀i,¬f.wt.miss i:=by
 have h1:=(H.at_.hat.vs v H.mem).inB
 rw [F.man,hb] at h1
 have h2:∀i∈v.bl.map (·.1),0≤i∧i<(n:Int):=λi hi=>by obtain ⟨p,hp,rfl⟩:=List.mem_map.1 hi;exact h1 p hp
 constructor
 ·intro hl i hi
  have h3:=bt_.1 ((H.miss i).1 hi)
  rw [F.man,hb] at h3
  obtain ⟨p,hp,e⟩:=List.mem_map.1 (te_ F.nd h2 (by simpa using hl) i h3.1.1 h3.1.2)
  exact h3.2 p hp e
 ·intro hno
  have h4:=pq_ (n:=n) F.nd h2
  have h5:=pq_ (n:=(v.bl.map (·.1)).length) (l:=(List.range n).map λk:Nat=>(k:Int))
  refine Nat.le_antisymm (by simpa using h4) ?_
  have h6:∀k:Nat,k<n→(k:Int)∈v.bl.map (·.1):=λk hk=>Classical.byContradiction λhn=>hno k ((H.miss k).2 (bt_.2 ⟨⟨by omega,by rw [F.man,hb];omega⟩,λp hp e=>hn (List.mem_map.2 ⟨p,hp,e⟩)⟩))
  have h7:=(List.nodup_range (n:=n)).length_le_of_subset (l₂:=(v.bl.map (·.1)).map Int.toNat) λk hk=>List.mem_map.2 ⟨(k:Int),h6 k (List.mem_range.1 hk),by simp⟩
  simpa using h7
theorem Fill.tick {f:FS} {v:HV} {m:Man} (F:Fill f v m) (now:Int) (n:Nat):Fill (f.tick v now n) v m:=⟨F.one,F.man,F.old,F.nd,F.win,F.tmo,F.ver,F.sl,F.log,F.recs,F.ws⟩
theorem Fill.again {f:FS} {v:HV} {m:Man} (F:Fill f v m) (i:Int):Fill (f.again i) v m:=⟨F.one,F.man,F.old,F.nd,F.win,F.tmo,F.ver,F.sl,F.log,F.recs,F.ws⟩
theorem Fill.room {f:FS} {v:HV} {m:Man} (F:Fill f v m) (h:v.bl.length≤40):rH_ f.h:=⟨by have:=F.log;omega,by have:=F.recs;omega,by have:=F.ws;omega⟩
theorem rQ_ (d:DM) (n:Int) (z:List UInt8):(d.put n z).ws.length=d.ws.length+1:=by
 unfold DM.put
 simp only [List.length_append,List.length_cons,List.length_nil]
theorem Fill.put {f:FS} {v:HV} {m:Man} (F:Fill f v m) {j:JP} {i sl:Int} {t:List UInt8} (hv:0≤m.version∧m.version≤1000000000) (hi:0≤i∧i≤1000000000) (hs:0≤sl∧sl≤1000000000) (hnew:∀p∈v.bl,p.1≠i):Fill (f.put j v i sl t) (v.putB i sl t) m:=by
 have hlen:(v.putB i sl t).bl.length=v.bl.length+1:=by simp [HV.putB]
 have hr:(recB v.man.version i (sl,aC_ t)).length≤1+24+1008:=m8_ (by rw [F.man];exact ⟨hv.1,by omega⟩) ⟨hi.1,by omega⟩ ⟨hs.1,by show sl≤_;omega⟩ (by show (aC_ t).length≤_;rw [en_];omega)
 refine ⟨?_,F.man,?_,?_,F.win,F.tmo,F.ver,?_,?_,?_,?_⟩
 ·show setV f.h.vs (v.putB i sl t)=[v.putB i sl t]
  rw [F.one]
  show [if v.man.version=v.man.version then v.putB i sl t else v]=_
  rw [if_pos rfl]
 ·show v.ol.filter _=[]
  rw [F.old];rfl
 ·show ((v.bl++[(i,sl,aC_ t)]).map (·.1)).Nodup
  rw [List.map_append]
  refine List.nodup_append.2 ⟨F.nd,by simp,λa ha b hb=>?_⟩
  obtain ⟨p,hp,rfl⟩:=List.mem_map.1 ha
  simp at hb;subst hb
  exact hnew p hp
 ·show (((f.h.d.put sl t).put (-1) _).sl).length=100
  rw [mc_,m9_ (by omega),List.length_set];exact F.sl
 ·show (logL (f.h.recs++[_])).length≤_
  rw [fT_,List.length_append,hS_,hlen]
  have:=F.log;omega
 ·show (f.h.recs++[_]).length≤_
  rw [hlen];simp;have:=F.recs;omega
 ·show (((f.h.d.put sl t).put (-1) _).ws).length≤_
  rw [rQ_,rQ_,hlen];have:=F.ws;omega
end Go.Vc
namespace Go.Vc
open Go Go.MapKept
def JA (f:FS) (now:Int) (N:Nat):Prop:=(∀i,¬f.wt.miss i)∨(now≤7*(N:Int)∧∀p∈f.wt.askd,p.2≤7*(N:Int))
theorem JA.sub {f f':FS} {now:Int} {N:Nat} (h:JA f now N) (h1:∀i,f'.wt.miss i→f.wt.miss i) (h2:∀p∈f'.wt.askd,p∈f.wt.askd):JA f' now N:=by
 rcases h with h | ⟨h3,h4⟩
 ·exact .inl λi hi=>h i (h1 i hi)
 ·exact .inr ⟨h3,λp hp=>h4 p (h2 p hp)⟩
theorem JA.tick {w:World} {f:FS} {v:HV} {m:Man} {now:Int} {N:Nat} (h:JA f now N) (Fi:Fill f v m) (H:aY_ w f v) {np:Nat} (hp:np≠0):JA (f.tick v now np) (now+1) (N+(goL f v now np).length):=by
 rcases h with h | ⟨h1,h2⟩
 ·exact .inl h
 by_cases hno:∀i,¬f.wt.miss i
 ·exact .inl hno
 have hstill:∀p∈bg_ f now,p∈f.wt.askd∧now<p.2:=λp hp=>by
  have h3:=List.mem_filter.1 hp
  exact ⟨h3.1,of_decide_eq_true h3.2⟩
 have hlen:goL f v now np=[]→bg_ f now≠[]:=by
  intro hg hs
  obtain ⟨i,hi⟩:=Classical.not_forall.1 hno
  have hi':i∈av_ v:=(H.miss i).1 (Classical.not_not.1 hi)
  unfold goL at hg
  rw [if_neg hp,hs,Fi.win] at hg
  have hc:i∈dS_ v []:=bK_.2 ⟨hi',λp hp=>by cases hp⟩
  cases hcl:dS_ v [] with
  | nil=>rw [hcl] at hc;cases hc
  | cons a l=>rw [hcl] at hg;simp at hg
 right
 by_cases hg:goL f v now np=[]
 ·obtain ⟨p,hp0⟩:=List.exists_mem_of_ne_nil _ (hlen hg)
  have h5:=hstill p hp0
  have h6:=h2 p h5.1
  refine ⟨by rw [hg];simp only [List.length_nil,Nat.add_zero];omega,λq hq=>?_⟩
  have hq':q∈bg_ f now++(goL f v now np).map λi=>(i,now+f.wt.tmo):=hq
  rw [hg] at hq' ⊢
  simp only [List.map_nil,List.append_nil] at hq'
  have:=h2 q (hstill q hq').1
  simp only [List.length_nil,Nat.add_zero];omega
 ·have hpos:1≤(goL f v now np).length:=by
   cases hgl:goL f v now np with
   | nil=>exact absurd hgl hg
   | cons a l=>simp
  refine ⟨by omega,λq hq=>?_⟩
  have hq':q∈bg_ f now++(goL f v now np).map λi=>(i,now+f.wt.tmo):=hq
  rcases List.mem_append.1 hq' with hq' | hq'
  ·have:=h2 q (hstill q hq').1;omega
  ·obtain ⟨i,_,rfl⟩:=List.mem_map.1 hq'
   show now+f.wt.tmo≤_
   rw [Fi.tmo];omega
theorem tr_ {f:FS} {v:HV} {m:Man} (Fi:Fill f v m) (now:Int) (np:Nat):(goL f v now np).length≤4:=by
 unfold goL
 split
 ·simp
 ·rw [List.length_take,Fi.win];omega
theorem Grow.off {S:Nat→Prop} {a b c:World} (g:Grow a b) (h:Chg S b c) (hn:∀i,i<a.heap.size→¬S i):Grow a c:=(g.then h).mono λi hi e=>(hn i hi e).elim
theorem hd_ {f:FS} : ∀k,feS f k→feA f k:=λk hk=>by
 rcases hk with h | h | h | h
 ·exact .inl h
 ·exact .inr (.inl h)
 ·exact .inr (.inr (.inl (.inl h)))
 ·exact .inr (.inr (.inr h))
end Go.Vc
