/-
  A part of the proof of the statement FetchDoneSaid, in Lean: MirF5, Wa1, Wa2, Is2, MirF6, Fe1, Fe2. By an AI agent.
-/
import Derived.Test.YthcpblejnhhhdaaGreatP02
import Derived.Test.YthcpblejnhhhdaaGreatP06
import Derived.Test.YthcpblejnhhhdaaGreatP09
import Derived.Test.YthcpblejnhhhdaaGreatP10
import Derived.Test.YthcpblejnhhhdaaGreatP08
set_option linter.unusedSimpArgs false
set_option linter.unusedVariables false
set_option maxRecDepth 100000
namespace Go.Vc
open Go
theorem iW_ (m0:Int) (m1:Int) (y2:Option Addr) (ly2:Nat) (cy2:Nat) (S:SP) (K:KP) (w:World) (h:(m0<1→K (.tuple #[.pointer none,.iface 73 (Iv 1)]) w)∧(¬(m0<1)→(m0>64→K (.tuple #[.pointer none,.iface 73 (Iv 1)]) w)∧(¬(m0>64)→(m1<1→K (.tuple #[.pointer none,.iface 73 (Iv 1)]) w)∧(¬(m1<1)→(m1>1000→K (.tuple #[.pointer none,.iface 73 (Iv 1)]) w)∧(¬(m1>1000)→rn PR (Instr.makeMap 53 none) (λv0 w0=>∃q0,v0=.map q0∧Fs S w [] w0∧rn PR (Instr.makeMap 68 none) (λv1 w1=>∃q1,v1=.map q1∧Fs S w [] w1∧∀l0,w1.heap.size≤l0→∀w2,Fr S w w1 [] [⟨l0,#[Iv m0,Iv m1,.map q0,.map q1],131,true⟩] w2→aa_ PR 58 #[.pointer (some (⟨l0,0,none⟩)),.slice y2 ly2 cy2] w2 λv2 w3=>v2=.tuple #[]∧∃n0 n1 q2 q3,Fs S w [⟨l0,#[Iv n0,Iv n1,.map q2,.map q3],131,true⟩] w3∧K (.tuple #[.pointer (some (⟨l0,0,none⟩)),.nilIface]) w3) w0) w))))):aa_ PR 94 ⟨[.int .i64 m0,.int .i64 m1,.slice y2 ly2 cy2]⟩ w K:=
 ab_ (okf:=⟨okL,[]⟩) ag_ (args:=[.c (.v (.int .i64 m0)),.c (.v (.int .i64 m1)),.c (.v (.slice y2 ly2 cy2))]) (H:=[]) (.s .z (.s .z (.s (.r ⟨(some []),false,[],[]⟩) (.s (.r ⟨(some [8]),false,[],[(2,[999])]⟩) .z)))) Go.Proofs.Tryz.func94 rfl ⟨trivial,trivial,trivial,trivial⟩ trivial (Fr.init S w) trivial (ac_ (by kernel_rfl) h)
theorem pq_ (k0:Nat) (m1:Int) (m2:Int) (g3:Option Nat) (g4:Option Nat) (y5:Option Addr) (ly5:Nat) (cy5:Nat) (S:SP) (K:KP) (w:World) (hF:Fs S w [⟨k0,#[.int .i64 m1,.int .i64 m2,.map g3,.map g4],131,true⟩] w) (hS:S k0∧True) (h:∃I0:Int→Nat→World→Prop,(∃l0,I0 0 l0 w)∧∀n0,∀D0:Nat→Value,∀l1 w0,I0 n0 l1 w0→Fs S w [⟨k0,#[Iv m1,Iv m2,.map g3,.map g4],131,true⟩] w0→(n0<(ly5:Int)→Dr y5 λa0=>(0:Int)≤n0∧n0<(ly5:Int)∧Dr (some (Addr.add a0 (Int.toNat n0*1))) λa1=>∃n1,World.cell? w0 a1=some (Iv n1)∧(n1≥0→(n1≤1048576→rn PR (Instr.mapUpdate 53 (.map g3) (Iv n1) (.bool true)) (λx0 w1=>Fs S w [⟨k0,#[Iv m1,Iv m2,.map g3,.map g4],131,true⟩] w1∧∃l2,l2<l1∧I0 (IntKind.wrap .i64 (n0+1)) l2 w1) w0)∧(¬(n1≤1048576)→∃l3,l3<l1∧I0 (IntKind.wrap .i64 (n0+1)) l3 w0))∧(¬(n1≥0)→∃l4,l4<l1∧I0 (IntKind.wrap .i64 (n0+1)) l4 w0))∧(¬(n0<(ly5:Int))→K (.tuple #[]) w0)):aa_ PR 58 ⟨[.pointer (some ⟨k0,0,none⟩),.slice y5 ly5 cy5]⟩ w K:=
 ab_ (okf:=⟨okL,[]⟩) ag_ (args:=[.c (.p 0 k0 true 0),.c (.v (.slice y5 ly5 cy5))]) (H:=[⟨k0,.l [.v (.int .i64 m1),.v (.int .i64 m2),.v (.map g3),.v (.map g4)],131,true⟩]) (.s .z (.b (.l (some [0]) (some [0]) [(8,.c (.int .i64))] [] (.s .z (.s .z (.s (.b (.s .z (.s .z (.c (.r ⟨(some [0]),false,[],[]⟩) .z)))) .z)))))) Go.Proofs.Tryz.func58 rfl ⟨rfl,trivial,trivial⟩ ⟨⟨trivial,⟨trivial,⟨trivial,⟨trivial,trivial⟩⟩⟩⟩,trivial⟩ hF hS (ac_ (by kernel_rfl) h)
theorem jW_ (k0:Nat) (m1:Int) (m2:Int) (g3:Option Nat) (g4:Option Nat) (S:SP) (K:KP) (w:World) (hF:Fs S w [⟨k0,#[.int .i64 m1,.int .i64 m2,.map g3,.map g4],131,true⟩] w) (hS:S k0∧True) (h:aa_ PR 96 #[.map g3] w λv0 w0=>∃v1,v0=v1∧Fs S w [⟨k0,#[Iv m1,Iv m2,.map g3,.map g4],131,true⟩] w0∧aa_ PR 38 #[v1] w0 λv2 w1=>∃q0 l0 l1,v2=.slice q0 l0 l1∧Fs S w [⟨k0,#[Iv m1,Iv m2,.map g3,.map g4],131,true⟩] w1∧K (.slice q0 l0 l1) w1):aa_ PR 49 ⟨[.pointer (some ⟨k0,0,none⟩)]⟩ w K:=
 ab_ (okf:=⟨okL,[]⟩) ag_ (args:=[.c (.p 0 k0 true 0)]) (H:=[⟨k0,.l [.v (.int .i64 m1),.v (.int .i64 m2),.v (.map g3),.v (.map g4)],131,true⟩]) (.s .z (.s .z (.s (.r ⟨(some [0]),false,[],[]⟩) .z))) Go.Proofs.Tryz.func49 rfl ⟨rfl,trivial⟩ ⟨⟨trivial,⟨trivial,⟨trivial,⟨trivial,trivial⟩⟩⟩⟩,trivial⟩ hF hS (ac_ (by kernel_rfl) h)
theorem gR_ (k0:Nat) (m1:Int) (m2:Int) (g3:Option Nat) (g4:Option Nat) (S:SP) (K:KP) (w:World) (hF:Fs S w [⟨k0,#[.int .i64 m1,.int .i64 m2,.map g3,.map g4],131,true⟩] w) (hS:S k0∧True) (h:aa_ PR 95 #[.map g4] w λv0 w0=>∃v1,v0=v1∧Fs S w [⟨k0,#[Iv m1,Iv m2,.map g3,.map g4],131,true⟩] w0∧aa_ PR 38 #[v1] w0 λv2 w1=>∃q0 l0 l1,v2=.slice q0 l0 l1∧Fs S w [⟨k0,#[Iv m1,Iv m2,.map g3,.map g4],131,true⟩] w1∧K (.slice q0 l0 l1) w1):aa_ PR 47 ⟨[.pointer (some ⟨k0,0,none⟩)]⟩ w K:=
 ab_ (okf:=⟨okL,[]⟩) ag_ (args:=[.c (.p 0 k0 true 0)]) (H:=[⟨k0,.l [.v (.int .i64 m1),.v (.int .i64 m2),.v (.map g3),.v (.map g4)],131,true⟩]) (.s .z (.s .z (.s (.r ⟨(some [0]),false,[],[]⟩) .z))) Go.Proofs.Tryz.func47 rfl ⟨rfl,trivial⟩ ⟨⟨trivial,⟨trivial,⟨trivial,⟨trivial,trivial⟩⟩⟩⟩,trivial⟩ hF hS (ac_ (by kernel_rfl) h)
theorem gQ_ (k0:Nat) (m1:Int) (m2:Int) (g3:Option Nat) (g4:Option Nat) (m5:Int) (S:SP) (K:KP) (w:World) (hF:Fs S w [⟨k0,#[.int .i64 m1,.int .i64 m2,.map g3,.map g4],131,true⟩] w) (hS:S k0∧True) (h:rn PR (Instr.lookup 68 (.map g4) (Iv m5) true) (λv0 w0=>∃n0 b0,v0=.tuple #[Iv n0,.bool b0]∧(b0=true→Fs S w [⟨k0,#[Iv m1,Iv m2,.map g3,.map g4],131,true⟩] w0∧K (.tuple #[Iv n0,.bool true]) w0)∧(b0=false→Fs S w [⟨k0,#[Iv m1,Iv m2,.map g3,.map g4],131,true⟩] w0∧K (.tuple #[Iv n0,.bool false]) w0)) w):aa_ PR 57 ⟨[.pointer (some ⟨k0,0,none⟩),.int .i64 m5]⟩ w K:=
 ab_ (okf:=⟨okL,[]⟩) ag_ (args:=[.c (.p 0 k0 true 0),.c (.v (.int .i64 m5))]) (H:=[⟨k0,.l [.v (.int .i64 m1),.v (.int .i64 m2),.v (.map g3),.v (.map g4)],131,true⟩]) (.s .z (.s .z (.s (.r ⟨(some [0]),false,[],[]⟩) .z))) Go.Proofs.Tryz.func57 rfl ⟨rfl,trivial,trivial⟩ ⟨⟨trivial,⟨trivial,⟨trivial,⟨trivial,trivial⟩⟩⟩⟩,trivial⟩ hF hS (ac_ (by kernel_rfl) h)
theorem gP_ (m0:Int) (S:SP) (K:KP) (w:World) (h:K (Iv (if (1125899906842624:Int)<(if (0:Int)>m0 then 0 else m0) then 1125899906842624 else (if (0:Int)>m0 then 0 else m0))) w):aa_ PR 48 ⟨[.int .i64 m0]⟩ w K:=
 ab_ (okf:=⟨okL,[]⟩) ag_ (args:=[.c (.v (.int .i64 m0))]) (H:=[]) .z Go.Proofs.Tryz.func48 rfl ⟨trivial,trivial⟩ trivial (Fr.init S w) trivial (ac_ (by kernel_rfl) h)
theorem h1_ (k0:Nat) (m1:Int) (m2:Int) (g3:Option Nat) (g4:Option Nat) (m5:Int) (S:SP) (K:KP) (w:World) (hF:Fs S w [⟨k0,#[.int .i64 m1,.int .i64 m2,.map g3,.map g4],131,true⟩] w) (hS:S k0∧True) (h:∀w0,Fr S w w [] [⟨k0,#[Iv m1,Iv m2,.map g3,.map g4],131,true⟩] w0→let B0:Blk:=⟨k0,#[Iv m1,Iv m2,.map g3,.map g4],131,true⟩;rn PR (Builtin.len_ #[68] 3 #[.map g4]) (λv0 w1=>∃n0,v0=Iv n0∧Fs S w [B0] w1∧(n0≥m1→K (.tuple #[Iv 0,.bool false]) w1)∧(¬(n0≥m1)→aa_ PR 49 #[.pointer (some (⟨k0,0,none⟩))] w1 λv1 w2=>∃q0 l0 l1,v1=.slice q0 l0 l1∧Fs S w [B0] w2∧∃I0:Int→Nat→World→Prop,(∃l2,I0 0 l2 w2)∧∀n1,∀D0:Nat→Value,∀l3 w3,I0 n1 l3 w3→Fs S w [B0] w3→(n1<(l0:Int)→Dr q0 λa0=>(0:Int)≤n1∧n1<(l0:Int)∧Dr (some (Addr.add a0 (Int.toNat n1*1))) λa1=>∃n2,World.cell? w3 a1=some (Iv n2)∧rn PR (Instr.lookup 68 (.map g4) (Iv n2) true) (λv2 w4=>∃n3 b0,v2=.tuple #[Iv n3,.bool b0]∧(b0=true→Fs S w [B0] w4∧∃l4,l4<l3∧I0 (IntKind.wrap .i64 (n1+1)) l4 w4)∧(b0=false→Fs S w [B0] w4∧∀w5,Fr S w w4 [] [B0] w5→aa_ PR 48 #[Iv m5] w5 λv3 w6=>∃n4,v3=Iv n4∧Fs S w [B0] w6∧rn PR (Instr.mapUpdate 68 (.map g4) (Iv n2) (Iv (IntKind.wrap .i64 (n4+m2)))) (λx0 w7=>Fs S w [B0] w7∧K (.tuple #[Iv n2,.bool true]) w7) w6)) w3)∧(¬(n1<(l0:Int))→K (.tuple #[Iv 0,.bool false]) w3))) w0):aa_ PR 19 ⟨[.pointer (some ⟨k0,0,none⟩),.int .i64 m5]⟩ w K:=
 ab_ (okf:=⟨okL,[]⟩) ag_ (args:=[.c (.p 0 k0 true 0),.c (.v (.int .i64 m5))]) (H:=[⟨k0,.l [.v (.int .i64 m1),.v (.int .i64 m2),.v (.map g3),.v (.map g4)],131,true⟩]) (.s .z (.s (.s (.r ⟨(some [0]),false,[],[]⟩) .z) (.s (.s (.r ⟨(some [0]),false,[],[]⟩) (.b (.l (some [0]) (some [0]) [(28,.c (.int .i64))] [] (.s .z (.s .z (.s (.b (.s .z (.s (.r ⟨(some [0]),false,[],[]⟩) (.s .z (.c (.s (.r ⟨(some [0]),false,[],[]⟩) .z) .z))))) .z)))))) .z))) Go.Proofs.Tryz.func19 rfl ⟨rfl,trivial,trivial⟩ ⟨⟨trivial,⟨trivial,⟨trivial,⟨trivial,trivial⟩⟩⟩⟩,trivial⟩ hF hS (ac_ (by kernel_rfl) h)
theorem iV_ (k0:Nat) (m1:Int) (m2:Int) (g3:Option Nat) (g4:Option Nat) (m5:Int) (S:SP) (K:KP) (w:World) (hF:Fs S w [⟨k0,#[.int .i64 m1,.int .i64 m2,.map g3,.map g4],131,true⟩] w) (hS:S k0∧True) (h:rn PR (Instr.lookup 53 (.map g3) (Iv m5) false) (λv0 w0=>∃b0,v0=.bool b0∧(b0=true→Fs S w [⟨k0,#[Iv m1,Iv m2,.map g3,.map g4],131,true⟩] w0∧rn PR (Builtin.delete_ #[53,3] 0 #[.map g3,Iv m5]) (λv1 w1=>v1=.tuple #[]∧Fs S w [⟨k0,#[Iv m1,Iv m2,.map g3,.map g4],131,true⟩] w1∧rn PR (Builtin.delete_ #[68,3] 0 #[.map g4,Iv m5]) (λv2 w2=>v2=.tuple #[]∧Fs S w [⟨k0,#[Iv m1,Iv m2,.map g3,.map g4],131,true⟩] w2∧K (.bool true) w2) w1) w0)∧(b0=false→Fs S w [⟨k0,#[Iv m1,Iv m2,.map g3,.map g4],131,true⟩] w0∧K (.bool false) w0)) w):aa_ PR 21 ⟨[.pointer (some ⟨k0,0,none⟩),.int .i64 m5]⟩ w K:=
 ab_ (okf:=⟨okL,[]⟩) ag_ (args:=[.c (.p 0 k0 true 0),.c (.v (.int .i64 m5))]) (H:=[⟨k0,.l [.v (.int .i64 m1),.v (.int .i64 m2),.v (.map g3),.v (.map g4)],131,true⟩]) (.s .z (.s (.s (.r ⟨(some [0]),false,[],[]⟩) .z) (.s (.r ⟨(some [0]),false,[],[]⟩) (.s (.r ⟨(some [0]),false,[],[]⟩) .z)))) Go.Proofs.Tryz.func21 rfl ⟨rfl,trivial,trivial⟩ ⟨⟨trivial,⟨trivial,⟨trivial,⟨trivial,trivial⟩⟩⟩⟩,trivial⟩ hF hS (ac_ (by kernel_rfl) h)
theorem h0_ (k0:Nat) (m1:Int) (m2:Int) (g3:Option Nat) (g4:Option Nat) (m5:Int) (S:SP) (K:KP) (w:World) (hF:Fs S w [⟨k0,#[.int .i64 m1,.int .i64 m2,.map g3,.map g4],131,true⟩] w) (hS:S k0∧True) (h:aa_ PR 47 #[.pointer (some (⟨k0,0,none⟩))] w λv0 w0=>∃q0 l0 l1,v0=.slice q0 l0 l1∧Fs S w [⟨k0,#[Iv m1,Iv m2,.map g3,.map g4],131,true⟩] w0∧let B0:Blk:=⟨k0,#[Iv m1,Iv m2,.map g3,.map g4],131,true⟩;∃I0:(Option Addr)→Nat→Nat→Int→Nat→World→Prop,(∃l2,I0 none 0 0 0 l2 w0)∧∀q1 l3 l4 n0,∀D0:Nat→Value,∀l5 w1,I0 q1 l3 l4 n0 l5 w1→Fs S w [B0] w1→(n0<(l0:Int)→Dr q0 λa0=>(0:Int)≤n0∧n0<(l0:Int)∧Dr (some (Addr.add a0 (Int.toNat n0*1))) λa1=>∃n1,World.cell? w1 a1=some (Iv n1)∧(∀w2,Fr S w w1 [] [B0] w2→rn PR (Instr.lookup 68 (.map g4) (Iv n1) false) (λv1 w3=>∃n2,v1=Iv n2∧Fs S w [B0] w3∧aa_ PR 48 #[Iv m5] w3 λv2 w4=>∃n3,v2=Iv n3∧Fs S w [B0] w4∧(n2≤n3→∀l6,w4.heap.size≤l6→∀w5,Fr S w w4 [] [B0,⟨l6,#[Iv n1],3,true⟩] w5→rn PR (Builtin.append_ #[33,33] 33 #[.slice q1 l3 l4,.slice (some (⟨l6,0,none⟩)) 1 1]) (λv3 w6=>∃q2 l7 l8,v3=.slice q2 l7 l8∧Fs S w [B0,⟨l6,#[Iv n1],3,true⟩] w6∧rn PR (Builtin.delete_ #[68,3] 0 #[.map g4,Iv n1]) (λv4 w7=>v4=.tuple #[]∧Fs S w [B0] w7∧∃l9,l9<l5∧I0 q2 l7 l8 (IntKind.wrap .i64 (n0+1)) l9 w7) w6) w5)∧(¬(n2≤n3)→∃l10,l10<l5∧I0 q1 l3 l4 (IntKind.wrap .i64 (n0+1)) l10 w4)) w2)∧∀w8,Fr S w w1 [] [B0] w8→aa_ PR 48 #[Iv m5] w8 λv5 w9=>∃n4,v5=Iv n4∧Fs S w [B0] w9∧rn PR (Instr.lookup 68 (.map g4) (Iv n1) false) (λv6 w10=>∃n5,v6=Iv n5∧Fs S w [B0] w10∧(n5≤n4→∀l11,w10.heap.size≤l11→∀w11,Fr S w w10 [] [B0,⟨l11,#[Iv n1],3,true⟩] w11→rn PR (Builtin.append_ #[33,33] 33 #[.slice q1 l3 l4,.slice (some (⟨l11,0,none⟩)) 1 1]) (λv7 w12=>∃q3 l12 l13,v7=.slice q3 l12 l13∧Fs S w [B0,⟨l11,#[Iv n1],3,true⟩] w12∧rn PR (Builtin.delete_ #[68,3] 0 #[.map g4,Iv n1]) (λv8 w13=>v8=.tuple #[]∧Fs S w [B0] w13∧∃l14,l14<l5∧I0 q3 l12 l13 (IntKind.wrap .i64 (n0+1)) l14 w13) w12) w11)∧(¬(n5≤n4)→∃l15,l15<l5∧I0 q1 l3 l4 (IntKind.wrap .i64 (n0+1)) l15 w10)) w9)∧(¬(n0<(l0:Int))→K (.slice q1 l3 l4) w1)):aa_ PR 18 ⟨[.pointer (some ⟨k0,0,none⟩),.int .i64 m5]⟩ w K:=
 ab_ (okf:=⟨okL,[]⟩) ag_ (args:=[.c (.p 0 k0 true 0),.c (.v (.int .i64 m5))]) (H:=[⟨k0,.l [.v (.int .i64 m1),.v (.int .i64 m2),.v (.map g3),.v (.map g4)],131,true⟩]) (.s .z (.s .z (.s (.s (.r ⟨(some [0]),false,[],[]⟩) (.b (.l (some [0]) (some [0]) [(5,.c (.sl)),(11,.c (.int .i64))] [] (.s .z (.s .z (.s (.b (.s .z (.s (.r ⟨(some [0]),false,[],[]⟩) (.c (.s (.r ⟨(some [0]),false,[],[]⟩) (.r ⟨(some [0]),false,[],[]⟩)) .z)))) .z)))))) .z))) Go.Proofs.Tryz.func18 rfl ⟨rfl,trivial,trivial⟩ ⟨⟨trivial,⟨trivial,⟨trivial,⟨trivial,trivial⟩⟩⟩⟩,trivial⟩ hF hS (ac_ (by kernel_rfl) h)
end Go.Vc
namespace Go.Vc
open Go Go.MapKept
theorem ef_:PR.underlying T.eG_=some (.map T.int T.int):=by kernel_rfl
theorem eU_:∀w:World,(zeroValue T.int).run PR w=.ok (.int .i64 0) w:=λw=>by
 obtain ⟨i,hi,hk,hb,hz⟩:=px_
 simp [zeroValue,typeInfo,hi,hz]
theorem aM_.del {ty:TypeId} {w:World} {r:Nat} {X:Int→Prop} (h:aM_ w r X) {m:Int} (hm:bc_ m) {K:Value→World→Prop} (hK:∀w',aM_ w' r (λn=>X n∧n≠m)→Chg (· = r) w w'→w'.heap.size=w.heap.size→K (.tuple #[]) w'):rn PR (Builtin.delete_ #[T.bY_,T.int] ty #[.map (some r),.int .i64 m]) K w:=by
 obtain ⟨l,h1,h2,h3⟩:=h
 refine d4_ ok_ h1 hm λw' hm' g hs=>hK w' ⟨_,hm',λp hp=>h2 p (d0_.1 hp).1,λn=>?_⟩ g hs
 constructor
 ·rintro ⟨p,hp,rfl⟩
  have:=d0_.1 hp
  exact ⟨(h3 _).1 ⟨p,this.1,rfl⟩,this.2⟩
 ·rintro ⟨hx,hn⟩
  obtain ⟨p,hp,rfl⟩:=(h3 n).2 hx
  exact ⟨p,d0_.2 ⟨hp,hn⟩,rfl⟩
theorem aM_.len {w:World} {r M:Nat} {X:Int→Prop} (h:aM_ w r X) (hX:∀i,X i→0≤i∧i<M):∃l,MapI w r l∧l.length≤M∧∀n,n∈l.map (·.1)↔X n:=by
 obtain ⟨l,h1,h2,h3⟩:=h
 have hm:∀n,n∈l.map (·.1)↔X n:=λn=>by
  rw [List.mem_map];exact h3 n
 refine ⟨l,h1,?_,hm⟩
 have:=ck_ (l.map (·.1)) ((List.range M).map λn:Nat=>(n:Int)) h1.nd λx hx=>by
  have:=hX x ((hm x).1 hx)
  exact List.mem_map.2 ⟨x.toNat,List.mem_range.2 (by omega),by omega⟩
 simpa using this
structure WS where
 b:Nat
 mi:Nat
 ak:Nat
 win:Int
 tmo:Int
 miss:Int→Prop
 askd:List (Int × Int)
def aI (l:List (Int × Int)):List (Int × Value):=l.map λp=>(p.1,.int .i64 p.2)
def wC (s:WS):Array Value:=#[.int .i64 s.win,.int .i64 s.tmo,.map (some s.mi),.map (some s.ak)]
structure WAt (w:World) (s:WS):Prop where
 blk:w.heap[s.b]? = some (.cells (wC s) T.bq_ (0,0))
 mm:aM_ w s.mi s.miss
 am:MapI w s.ak (aI s.askd)
 ne:s.mi≠s.ak
 sm:∀i,s.miss i→0≤i∧i<4096
 sub:∀p∈s.askd,s.miss p.1
 win:1≤s.win∧s.win≤64
 tmo:1≤s.tmo∧s.tmo≤1000
def wS (s:WS):Nat→Prop:=λk=>k=s.b∨k=s.mi∨k=s.ak
theorem WAt.keep {S:Nat→Prop} {w w':World} {s:WS} (h:WAt w s) (g:Chg S w w') (hn:∀k,wS s k→¬S k):WAt w' s:=
 ⟨g.get h.blk (hn _ (.inl rfl)),h.mm.keep g (hn _ (.inr (.inl rfl))),h.am.keep g (hn _ (.inr (.inr rfl))),h.ne,h.sm,h.sub,h.win,h.tmo⟩
theorem WAt.grow {w w':World} {s:WS} (h:WAt w s) (g:Grow w w'):WAt w' s:=h.keep g λ_ _ e=>e
theorem WAt.lt {w:World} {s:WS} (h:WAt w s):∀k,wS s k→k<w.heap.size:=by
 rintro k (rfl | rfl | rfl)
 ·exact aj_ h.blk
 ·exact h.mm.lt
 ·exact h.am.lt
theorem WAt.fs {w:World} {s:WS} (h:WAt w s):Fs (wS s) w [⟨s.b,wC s,T.bq_,true⟩] w:=(Fr.init _ w).entry h.blk (λx h=>by cases h) λ_=>.inl rfl
theorem WAt.bm {w:World} {s:WS} (h:WAt w s):s.b≠s.mi:=h.mm.ne h.blk
theorem WAt.ba {w:World} {s:WS} (h:WAt w s):s.b≠s.ak:=h.am.ne h.blk
theorem WAt.few {w:World} {s:WS} (h:WAt w s):s.askd.length≤4096:=by
 have h1:=ck_ ((aI s.askd).map (·.1)) ((List.range 4096).map λn:Nat=>(n:Int)) h.am.nd λx hx=>by
  obtain ⟨p,hp,rfl⟩:=List.mem_map.1 hx
  obtain ⟨q,hq,rfl⟩:=List.mem_map.1 hp
  have:=h.sm _ (h.sub q hq)
  exact List.mem_map.2 ⟨q.1.toNat,List.mem_range.2 (by omega),by show ((q.1.toNat:Nat):Int)=q.1;omega⟩
 simpa [aI] using h1
theorem gT_ {w:World} {s:WS} (h:WAt w s) {y:Option Addr} {c:Nat} {xs:List Int} (hs:Sl w y (xs.map iv)) (hyo:∀a,y=some a→a.block≠s.mi) (hx:∀x∈xs,0≤x∧x<4096) (hl:xs.length≤1000000) {K:Value→World→Prop}
  (hK:∀w',WAt w' { s with miss:=λi=>s.miss i∨i∈xs }→Chg (· = s.mi) w w'→K (.tuple #[]) w'):aa_ PR F.hf_ ⟨[.pointer (some ⟨s.b,0,none⟩),.slice y xs.length c]⟩ w K:=by
 refine pq_ s.b s.win s.tmo (some s.mi) (some s.ak) y xs.length c (wS s) K w h.fs ⟨.inl rfl,trivial⟩ ?_
 refine ⟨λn lv w'=>∃k:Nat,n=k∧k≤xs.length∧lv=xs.length - k∧WAt w' { s with miss:=λi=>s.miss i∨i∈xs.take k }∧Chg (· = s.mi) w w',⟨_,0,rfl,by omega,rfl,⟨h.blk,h.mm.cong λn=>by simp,h.am,h.ne,λi hi=>h.sm i (by simpa using hi),λp hp=>.inl (h.sub p hp),h.win,h.tmo⟩,.refl _ _⟩,?_⟩
 rintro n D lv w1 ⟨k,rfl,hk,rfl,h1,c1⟩ hF1
 refine ⟨λhlt=>?_,λhge=>?_⟩
 ·have hk':k<xs.length:=by omega
  have hs1:Sl w1 y (xs.map iv):=hs.keep c1 λa ha e=>hyo a ha e
  have hxk:=hx _ (List.getElem_mem hk')
  refine hs1.rd (v:=iv xs[k]) (by simp) (by omega) (by simp [hk']) λa ha=>⟨_,ha,λh0=>⟨λhle=>?_,λhc=>by omega⟩,λhc=>by omega⟩
  refine h1.mm.put ⟨by omega,by omega⟩ λw2 m2 c2 s2=>⟨hF1.step c2 (λz hz e=>by simp at hz;subst hz;exact h.bm e) (λj hj e=>.inr (.inl e)),xs.length - (k+1),by omega,k+1,wr1 (by omega),by omega,rfl,?_,c1.trans c2 λ_ _ e=>e⟩
  have hcg:∀n,((s.miss n∨n∈xs.take k)∨n=xs[k])↔(s.miss n∨n∈xs.take (k+1)):=λn=>by
   rw [aA_ hk',List.mem_append,List.mem_singleton,or_assoc]
  exact ⟨c2.get h1.blk (λe=>h.bm e),m2.cong hcg,h1.am.keep c2 (λe=>h.ne e.symm),h.ne,λi hi=>((hcg i).2 hi).elim (h1.sm i) λe=>by subst e;omega,λp hp=>.inl (h.sub p hp),h.win,h.tmo⟩
 ·have e:k=xs.length:=by omega
  subst e
  rw [List.take_of_length_le (Nat.le_refl _)] at h1
  exact hK w1 h1 c1
theorem c7_ {w:World} {s:WS} (h:WAt w s) {K:Value→World→Prop} (hK:∀w' q c (L:List Int),Grow w w'→Sl w' q (L.map Iv)→(∀i,i∈L↔s.miss i)→L.Pairwise (· < ·)→L.length≤4096→K (.slice q L.length c) w'):aa_ PR F.eu_ ⟨[.pointer (some ⟨s.b,0,none⟩)]⟩ w K:=by
 have h0:=h.fs
 obtain ⟨l,hl1,hl2,hl3⟩:=h.mm.len (M:=4096) h.sm
 refine jW_ s.b s.win s.tmo (some s.mi) (some s.ak) (wS s) K w h0 ⟨.inl rfl,trivial⟩ ?_
 refine ne_ λw1 b g1 hb hc=>⟨_,rfl,h0.after g1,?_⟩
 refine kS_ hc hb (hl1.grow g1) (by omega) λw2 q c L g2 hl hs hm hp=>?_
 refine ⟨_,_,_,rfl,(h0.after g1).after g2,?_⟩
 rw [← hl]
 exact hK w2 q c L (g1.trans g2) hs (λi=>(hm i).trans (hl3 i)) hp (by omega)
theorem k5_ {w:World} {s:WS} (h:WAt w s) {K:Value→World→Prop} (hK:∀w' q c (L:List Int),Grow w w'→Sl w' q (L.map Iv)→(∀i,i∈L↔∃p∈s.askd,p.1=i)→L.Pairwise (· < ·)→L.length=s.askd.length→K (.slice q L.length c) w'):aa_ PR F.fB_ ⟨[.pointer (some ⟨s.b,0,none⟩)]⟩ w K:=by
 have h0:=h.fs
 have few:=h.few
 refine gR_ s.b s.win s.tmo (some s.mi) (some s.ak) (wS s) K w h0 ⟨.inl rfl,trivial⟩ ?_
 refine nc_ λw1 b g1 hb hc=>⟨_,rfl,h0.after g1,?_⟩
 refine kQ_ hc hb (h.am.grow g1) (by rw [aI,List.length_map];omega) λw2 q c L g2 hl hs hm hp=>?_
 refine ⟨_,_,_,rfl,(h0.after g1).after g2,?_⟩
 rw [← hl]
 refine hK w2 q c L (g1.trans g2) hs (λi=>(hm i).trans ?_) hp (by rw [hl,aI,List.length_map])
 rw [aI,List.map_map,List.mem_map]
 exact Iff.rfl
theorem hy_ {n:Int} (hn:0≤n∧n≤1125899906842624) {w:World} {K:Value→World→Prop} (hK:K (.int .i64 n) w):aa_ PR F.gP_ ⟨[.int .i64 n]⟩ w K:=by
 refine gP_ n S0 K w ?_
 rw [if_neg (by omega:¬(0:Int)>n),if_neg (by omega)]
 exact hK
theorem o6_ {s:WS} {w:World} (h:WAt w s) {i:Int} {x:Value} (hx:(i,x)∈aI s.askd):∃t,(i,t)∈s.askd∧x=.int .i64 t:=by
 obtain ⟨p,hp,e⟩:=List.mem_map.1 hx
 have e1:p.1=i:=congrArg Prod.fst e
 exact ⟨p.2,by rw [← e1];exact hp,(congrArg Prod.snd e).symm⟩
theorem m7_ {w:World} {s:WS} (h:WAt w s) {i:Int} (hi:bc_ i) {K:Value→World→Prop} (h1:∀t,(i,t)∈s.askd→K (.tuple #[.int .i64 t,.bool true]) w) (h2:(∀p∈s.askd,p.1≠i)→K (.tuple #[.int .i64 0,.bool false]) w):aa_ PR F.fA_ ⟨[.pointer (some ⟨s.b,0,none⟩),.int .i64 i]⟩ w K:=by
 refine gQ_ s.b s.win s.tmo (some s.mi) (some s.ak) i (wS s) K w h.fs ⟨.inl rfl,trivial⟩ ?_
 refine aR_ ef_ h.am hi true eU_ (λx hx=>?_) λhno=>⟨_,false,rfl,(λh=>by cases h),λ_=>⟨h.fs,h2 λp hp e=>hno _ (List.mem_map.2 ⟨p,hp,rfl⟩) e⟩⟩
 obtain ⟨t,ht,rfl⟩:=o6_ h hx
 exact ⟨_,true,rfl,(λ_=>⟨h.fs,h1 t ht⟩),λh=>by cases h⟩
theorem jT_ {w:World} {s:WS} (h:WAt w s) {i:Int} (hi:bc_ i) {K:Value→World→Prop} (h1:∀w',s.miss i→WAt w' { s with miss:=λn=>s.miss n∧n≠i,askd:=s.askd.filter λp=>p.1 != i }→Chg (wS s) w w'→K (.bool true) w') (h2:¬s.miss i→K (.bool false) w):aa_ PR F.he_ ⟨[.pointer (some ⟨s.b,0,none⟩),.int .i64 i]⟩ w K:=by
 refine iV_ s.b s.win s.tmo (some s.mi) (some s.ak) i (wS s) K w h.fs ⟨.inl rfl,trivial⟩ ?_
 refine h.mm.look hi (λhx=>⟨true,rfl,(λ_=>⟨h.fs,?_⟩),λh=>by cases h⟩) λhx=>⟨false,rfl,(λh=>by cases h),λ_=>⟨h.fs,h2 hx⟩⟩
 refine h.mm.del hi λw1 m1 c1 s1=>?_
 have hF1:=h.fs.step c1 (λz hz e=>by simp at hz;subst hz;exact h.bm e) (λk hk e=>.inr (.inl e))
 refine ⟨rfl,hF1,d4_ ef_ (h.am.keep c1 λe=>h.ne e.symm) hi λw2 a2 c2 s2=>?_⟩
 have hF2:=hF1.step c2 (λz hz e=>by simp at hz;subst hz;exact h.ba e) (λk hk e=>.inr (.inr e))
 refine ⟨rfl,hF2,h1 w2 hx ⟨hF2.blk 0 rfl,m1.keep c2 (λe=>h.ne e),?_,h.ne,λn hn=>h.sm n hn.1,λp hp=>?_,h.win,h.tmo⟩ ((c1.mono λk _ e=>.inr (.inl e)).trans c2 λk _ e=>.inr (.inr e))⟩
 ·have e:delI (aI s.askd) i=aI (s.askd.filter λp=>p.1 != i):=by
   unfold delI aI;rw [List.filter_map];rfl
  rw [e] at a2;exact a2
 ·have:=List.mem_filter.1 hp
  exact ⟨h.sub p this.1,by simpa using this.2⟩
end Go.Vc
namespace Go.Vc
open Go Go.MapKept
theorem ns_ {win tmo:Int} (hw:1≤win∧win≤64) (ht:1≤tmo∧tmo≤1000) {w:World} {K:Value→World→Prop}
  (hK:∀w' b mi ak,WAt w' ⟨b,mi,ak,win,tmo,λ_=>False,[]⟩→Grow w w'→w.heap.size≤b→w.heap.size≤mi→w.heap.size≤ak→K (.tuple #[.pointer (some ⟨b,0,none⟩),.nilIface]) w'):aa_ PR F.iW_ ⟨[.int .i64 win,.int .i64 tmo,.slice none 0 0]⟩ w K:=by
 refine iW_ win tmo none 0 0 S0 K w ⟨λh=>by omega,λ_=>⟨λh=>by omega,λ_=>⟨λh=>by omega,λ_=>⟨λh=>by omega,λ_=>?_⟩⟩⟩⟩
 have hF0:Fs S0 w [] w:=.init _ w
 refine aU_ λw0 mi hmi hm0 g0=>⟨_,rfl,hF0.after g0,aU_ λw1 ak hak hm1 g1=>⟨_,rfl,(hF0.after g0).after g1,λb hb w2 hF2=>?_⟩⟩
 have l0:=hm0.lt
 have l1:=hm1.lt
 have s0:=g0.size
 have s1:=g1.size
 have g2:=hF2.grow
 have H:WAt w2 ⟨b,mi,ak,win,tmo,λ_=>False,[]⟩:=⟨hF2.blk 0 rfl,⟨[],(hm0.grow g1).grow g2,(λp hp=>by cases hp),λn=>⟨(λ⟨p,hp,_⟩=>by cases hp),λh=>h.elim⟩⟩,hm1.grow g2,by show mi≠ak;omega,(λi h=>h.elim),(λp hp=>by cases hp),hw,ht⟩
 refine gT_ (xs:=[]) H (.nil _ _) (λa ha=>by cases ha) (λx hx=>by cases hx) (Nat.zero_le _) λw3 H3 c3=>?_
 have hF3:=hF2.reset.step c3 (λz hz e=>by simp at hz;subst hz;have e':b=mi:=e;omega) λk hk e=>by have e':k=mi:=e;omega
 refine ⟨rfl,_,_,_,_,hF3,hK w3 b mi ak ⟨H3.blk,H3.mm.cong λn=>by simp,H3.am,H3.ne,(λi h=>h.elim),(λp hp=>by cases hp),hw,ht⟩ hF3.gr (by omega) (by omega) (by omega)⟩
theorem i0_ {L:List Int} (h:L.Pairwise (· < ·)) {k:Nat} (hk:k<L.length) {j:Int} (hj:j∈L) (hlt:j<L[k]):j∈L.take k:=by
 obtain ⟨m,hm,rfl⟩:=List.getElem_of_mem hj
 rcases Nat.lt_trichotomy m k with h1 | h1 | h1
 ·exact List.mem_take_iff_getElem.2 ⟨m,by omega,rfl⟩
 ·subst h1;omega
 ·have:=List.pairwise_iff_getElem.1 h k m hk hm h1
  omega
theorem bF_ {L:List Int} (h:L.Pairwise (· < ·)) {k:Nat} (hk:k<L.length):L[k]∉L.take k:=λhm=>by
 obtain ⟨m,hm1,hm2⟩:=List.mem_take_iff_getElem.1 hm
 have hmk:m<k:=by omega
 have:=List.pairwise_iff_getElem.1 h m k (by omega) hk hmk
 omega
theorem mA_ {w:World} {s:WS} (h:WAt w s) {now:Int} (hn:0≤now∧now≤1000000000) {K:Value→World→Prop}
  (h1:∀w',Grow w w'→((s.askd.length:Int)≥s.win∨∀i,s.miss i→∃p∈s.askd,p.1=i)→K (.tuple #[.int .i64 0,.bool false]) w')
  (h2:∀w' i,(s.askd.length:Int)<s.win→s.miss i→(∀p∈s.askd,p.1≠i)→(∀j,s.miss j→j<i→∃p∈s.askd,p.1=j)→WAt w' { s with askd:=s.askd++[(i,now+s.tmo)] }→Chg (· = s.ak) w w'→K (.tuple #[.int .i64 i,.bool true]) w'):aa_ PR F.gj_ ⟨[.pointer (some ⟨s.b,0,none⟩),.int .i64 now]⟩ w K:=by
 have h0:Fs (λk=>k=s.b∨k=s.ak) w [⟨s.b,wC s,T.bq_,true⟩] w:=(Fr.init _ w).entry h.blk (λx h=>by cases h) λ_=>.inl rfl
 refine h1_ s.b s.win s.tmo (some s.mi) (some s.ak) now (λk=>k=s.b∨k=s.ak) K w h0 ⟨.inl rfl,trivial⟩ λw0 hF0=>?_
 have g0:Grow w w0:=hF0.grow
 have hlen:(aI s.askd).length=s.askd.length:=List.length_map _
 have htm:=h.tmo
 refine lx_ ef_ (h.am.grow g0) ⟨_,rfl,hF0.reset,λhge=>h1 w0 g0 (.inl (by rw [hlen] at hge;exact hge)),λhlt=>?_⟩
 rw [hlen] at hlt
 refine c7_ (h.grow g0) λw2 q c L g2 hs hm hp hl=>⟨_,_,_,rfl,hF0.reset.after g2,?_⟩
 have g02:=g0.trans g2
 refine ⟨λn lv w'=>∃k:Nat,n=k∧k≤L.length∧lv=L.length - k∧(∀j∈L.take k,∃p∈s.askd,p.1=j)∧Grow w2 w',⟨_,0,rfl,by omega,rfl,(λj hj=>by simp at hj),.refl _ _⟩,?_⟩
 rintro n D lv w3 ⟨k,rfl,hk,rfl,hall,g3⟩ hF3
 have g03:=g02.trans g3
 have h3:=h.grow g03
 refine ⟨λhlt3=>?_,λhge=>h1 w3 g03 (.inr λi hi=>hall i ?_)⟩
 ·have hk':k<L.length:=by omega
  have hmk:=(hm _).1 (List.getElem_mem hk')
  have hbd:=h.sm _ hmk
  have hfit:bc_ L[k]:=⟨by omega,by omega⟩
  refine (hs.grow g3).rd (v:=Iv L[k]) (by simp) (by omega) (by simp [hk']) λa ha=>⟨_,ha,?_⟩
  refine aR_ ef_ h3.am hfit true eU_ (λx hx=>?_) λhno=>⟨_,false,rfl,(λh=>by cases h),λ_=>⟨hF3,λw5 hF5=>?_⟩⟩
  ·obtain ⟨t,ht,rfl⟩:=o6_ h3 hx
   refine ⟨_,true,rfl,(λ_=>⟨hF3,L.length - (k+1),by omega,k+1,wr1 (by omega),by omega,rfl,λj hj=>?_,g3⟩),λh=>by cases h⟩
   rw [aA_ hk'] at hj
   rcases List.mem_append.1 hj with hj | hj
   ·exact hall j hj
   ·simp at hj;subst hj;exact ⟨_,ht,rfl⟩
  ·have g5:Grow w3 w5:=hF5.grow
   refine hy_ ⟨hn.1,by omega⟩ ⟨_,rfl,hF5.reset,?_⟩
   rw [w64 (by omega) (by omega)]
   have hno':∀p∈s.askd,p.1≠L[k]:=λp hp e=>hno _ (List.mem_map.2 ⟨p,hp,rfl⟩) e
   refine cT_ ef_ (h3.am.grow g5) hfit λw7 a7 c7 s7=>?_
   rw [gF_ λp hp=>hno p hp] at a7
   have hF7:=hF5.step c7 (λz hz e=>by simp at hz;subst hz;exact h.ba e) (λj hj e=>.inr e)
   have c07:Chg (· = s.ak) w w7:=(g03.trans g5).chg.trans c7 λ_ _ e=>e
   refine ⟨hF7,h2 w7 L[k] (by omega) hmk hno' (λj hj hlt=>hall j (i0_ hp hk' ((hm j).2 hj) hlt)) ⟨c07.get h.blk (λe=>h.ba e),h.mm.keep c07 (λe=>h.ne e),?_,h.ne,h.sm,λp hp=>?_,h.win,h.tmo⟩ c07⟩
   ·have e:aI s.askd++[(L[k],Value.int .i64 (now+s.tmo))]=aI (s.askd++[(L[k],now+s.tmo)]):=by simp [aI]
    rw [← e];exact a7
   ·rcases List.mem_append.1 hp with hp | hp
    ·exact h.sub p hp
    ·simp at hp;subst hp;exact hmk
 ·have:k=L.length:=by omega
  subst this
  rw [List.take_of_length_le (Nat.le_refl _)]
  exact (hm i).2 hi
theorem mz_ {w:World} {s:WS} (h:WAt w s) {now:Int} (hn:0≤now∧now≤1000000000) {K:Value→World→Prop}
  (hK:∀w' q l c,WAt w' { s with askd:=s.askd.filter λp=>decide (now<p.2) }→Chg (· = s.ak) w w'→K (.slice q l c) w'):aa_ PR F.gi_ ⟨[.pointer (some ⟨s.b,0,none⟩),.int .i64 now]⟩ w K:=by
 have h0:Fs (λk=>k=s.b∨k=s.ak) w [⟨s.b,wC s,T.bq_,true⟩] w:=(Fr.init _ w).entry h.blk (λx h=>by cases h) λ_=>.inl rfl
 have hwl:=h.lt
 refine h0_ s.b s.win s.tmo (some s.mi) (some s.ak) now (λk=>k=s.b∨k=s.ak) K w h0 ⟨.inl rfl,trivial⟩ ?_
 have few:=h.few
 refine k5_ h λw0 q0 c0 L g0 hs hm hp hl=>⟨_,_,_,rfl,h0.after g0,?_⟩
 let P (k:Nat):List (Int × Int):=s.askd.filter λp=>decide (now<p.2∨p.1∉L.take k)
 have P0:P 0=s.askd:=by
  show s.askd.filter _=_
  rw [List.filter_eq_self];intro p hp;simp
 have Pend:P L.length=s.askd.filter λp=>decide (now<p.2):=by
  refine List.filter_congr λp hpm=>?_
  rw [List.take_of_length_le (Nat.le_refl _)]
  have:p.1∈L:=(hm _).2 ⟨p,hpm,rfl⟩
  simp [this]
 refine ⟨λq l c n lv w'=>∃(k:Nat) (outs:List Int),n=k∧k≤L.length∧lv=L.length - k∧WAt w' { s with askd:=P k }∧Chg (· = s.ak) w w'∧Own T.int 1 w' q c (outs.map iv)∧l=outs.length∧l≤c∧l≤k∧Off (λx=>x<w0.heap.size) q∧Sl w' q0 (L.map Iv)∧w0.heap.size≤w'.heap.size,⟨_,0,[],rfl,by omega,rfl,by rw [P0];exact h.grow g0,g0.chg,.nil _ _ _,rfl,Nat.le_refl _,Nat.le_refl _,.none _,hs,Nat.le_refl _⟩,?_⟩
 rintro q l c n D lv w1 ⟨k,outs,rfl,hk,rfl,h1,c1,ho,rfl,hlc,hlk,hof,hs1,sz1⟩ hF1
 refine ⟨λhlt=>?_,λhge=>?_⟩
 ·have hk':k<L.length:=by omega
  obtain ⟨p0,hp0,ep0⟩:=(hm _).1 (List.getElem_mem hk')
  have hbd:=h.sm _ (h.sub p0 hp0)
  rw [ep0] at hbd
  have hfit:bc_ L[k]:=⟨by omega,by omega⟩
  have hnb:=bF_ hp hk'
  have huniq:∀p∈s.askd,p.1=L[k]→p=p0:=λp hpm e=>by
   have:=nv_ h.am.nd (List.mem_map.2 ⟨p,hpm,rfl⟩) (List.mem_map.2 ⟨p0,hp0,rfl⟩) (show p.1=p0.1 by rw [e,ep0])
   have e1:p.1=p0.1:=by rw [e,ep0]
   have e2:Value.int .i64 p.2=Value.int .i64 p0.2:=(Prod.mk.inj this).2
   exact Prod.ext e1 (int_inj e2)
  have hin:(L[k],Value.int .i64 p0.2)∈aI (P k):=by
   refine List.mem_map.2 ⟨p0,List.mem_filter.2 ⟨hp0,?_⟩,by rw [← ep0]⟩
   rw [ep0];simp [hnb]
  have key:∀j:Int,j∈L.take (k+1)↔j∈L.take k∨j=L[k]:=λj=>by rw [aA_ hk',List.mem_append,List.mem_singleton]
  have step1:now<p0.2→P (k+1)=P k:=λhlt=>by
   refine List.filter_congr λp hpm=>?_
   simp only [key]
   by_cases e:p.1=L[k]
   ·have:=huniq p hpm e
    subst this
    simp [hlt]
   ·simp [e]
  have step2:¬now<p0.2→delI (aI (P k)) L[k]=aI (P (k+1)):=λhge=>by
   unfold delI aI
   rw [List.filter_map]
   congr 1
   show List.filter _ (List.filter _ _)=_
   rw [List.filter_filter]
   refine List.filter_congr λp hpm=>?_
   show ((p.1 != L[k]) && decide (now<p.2∨p.1∉L.take k))=decide (now<p.2∨p.1∉L.take (k+1))
   simp only [key]
   by_cases e:p.1=L[k]
   ·have:=huniq p hpm e
    subst this
    simp [e,hge]
   ·simp [e]
  have rest:∀w10,Grow w1 w10→Fs (λk=>k=s.b∨k=s.ak) w [⟨s.b,wC s,T.bq_,true⟩] w10→(p0.2≤now→∀l11,w10.heap.size≤l11→∀w11,Fr (λk=>k=s.b∨k=s.ak) w w10 [] [⟨s.b,wC s,T.bq_,true⟩,⟨l11,#[.int .i64 L[k]],T.int,true⟩] w11→rn PR (Builtin.append_ #[T.ce_,T.ce_] T.ce_ #[.slice q outs.length c,.slice (some ⟨l11,0,none⟩) 1 1]) (λv7 w12=>∃q3 l12 l13,v7=.slice q3 l12 l13∧Fs (λk=>k=s.b∨k=s.ak) w [⟨s.b,wC s,T.bq_,true⟩,⟨l11,#[.int .i64 L[k]],T.int,true⟩] w12∧rn PR (Builtin.delete_ #[T.eG_,T.int] 0 #[.map (some s.ak),.int .i64 L[k]]) (λv8 w13=>v8=.tuple #[]∧Fs (λk=>k=s.b∨k=s.ak) w [⟨s.b,wC s,T.bq_,true⟩] w13∧∃l14,l14<L.length - k∧
    ∃(k2:Nat) (outs:List Int),((k+1:Nat):Int)=k2∧k2≤L.length∧l14=L.length - k2∧WAt w13 { s with askd:=P k2 }∧Chg (· = s.ak) w w13∧Own T.int 1 w13 q3 l13 (outs.map iv)∧l12=outs.length∧l12≤l13∧l12≤k2∧Off (λx=>x<w0.heap.size) q3∧Sl w13 q0 (L.map Iv)∧w0.heap.size≤w13.heap.size) w12) w11)∧
    (¬p0.2≤now→∃l15,l15<L.length - k∧∃(k2:Nat) (outs2:List Int),((k+1:Nat):Int)=k2∧k2≤L.length∧l15=L.length - k2∧WAt w10 { s with askd:=P k2 }∧Chg (· = s.ak) w w10∧Own T.int 1 w10 q c (outs2.map iv)∧outs.length=outs2.length∧outs.length≤c∧outs.length≤k2∧Off (λx=>x<w0.heap.size) q∧Sl w10 q0 (L.map Iv)∧w0.heap.size≤w10.heap.size):=by
   intro w10 g10 hF10
   have s10:=g10.size
   refine ⟨λhle l11 hl11 w11 hF11=>?_,λhnle=>⟨L.length - (k+1),by omega,k+1,outs,rfl,by omega,rfl,by rw [step1 (by omega)];exact h1.grow g10,c1.grow g10,ho.grow g10,rfl,hlc,by omega,hof,hs1.grow g10,by omega⟩⟩
   have g11:Grow w1 w11:=g10.trans hF11.grow
   have s11:=g11.size
   refine fi_ (ho.grow g11) rfl hlc (ys:=[L[k]]) (hF11.sl 1 rfl) rfl (by omega) λq3 c3 w12 ho12 hc12 g12 hq12=>?_
   have hqold:∀j,j<w0.heap.size→¬ak_ q j:=λj hj ⟨a,ha,e⟩=>hof a ha (by have e':j=a.block:=e;show a.block<w0.heap.size;omega)
   have hsw:w.heap.size≤w0.heap.size:=g0.size
   have hbw:=hwl s.b (.inl rfl)
   have haw:=hwl s.ak (.inr (.inr rfl))
   have hmw:=hwl s.mi (.inr (.inl rfl))
   have hqlt:∀j,ak_ q j→j<w1.heap.size:=λj ⟨a,ha,e⟩=>by have:=ho.lt a ha;have e':j=a.block:=e;omega
   have hF12:=hF11.step g12 (λz hz e=>by
    simp only [List.mem_cons,List.not_mem_nil,or_false] at hz
    rcases hz with rfl | rfl
    ·exact hqold _ (by simp only [];omega) e
    ·have:=hqlt _ e;simp only [] at this;omega) λj hj e=>absurd e (hqold j (by omega))
   refine ⟨_,_,_,rfl,hF12,?_⟩
   have h12:WAt w12 { s with askd:=P k }:=(h1.grow g11).keep g12 λj hj e=>by
    rcases hj with rfl | rfl | rfl
    ·exact hqold _ (by show s.b<_;omega) e
    ·exact hqold _ (by show s.mi<_;omega) e
    ·exact hqold _ (by show s.ak<_;omega) e
   have hs12:Sl w12 q0 (L.map Iv):=by
    rcases hs with hs | ⟨b0,o0,e0,hr0⟩
    ·exact .inl hs
    ·have hb0:b0<w0.heap.size:=by
      obtain ⟨cs,T0,fz,hb,_⟩:=hr0
      exact aj_ hb
     refine (hs1.grow g11).keep g12 λa ha e=>?_
     rw [e0] at ha;cases ha
     exact hqold b0 hb0 e
   refine d4_ ef_ h12.am hfit λw13 a13 c13 s13=>⟨rfl,(hF12.sub (L':=[⟨s.b,wC s,T.bq_,true⟩]) ((List.nil_sublist _).cons_cons _)).step c13 (λz hz e=>by simp at hz;subst hz;exact h.ba e) (λj hj e=>.inr e),L.length - (k+1),by omega,k+1,outs++[L[k]],rfl,by omega,rfl,?_,?_,?_,by simp,hc12,by omega,hof.next hq12 (by omega),?_,by have:=g12.size;omega⟩
   ·rw [step2 (by omega)] at a13
    exact ⟨c13.get h12.blk (λe=>h.ba e),h12.mm.keep c13 (λe=>h.ne e),a13,h.ne,h.sm,λp hp=>h.sub p (List.mem_filter.1 hp).1,h.win,h.tmo⟩
   ·exact ((c1.grow g11).trans g12 λj hj e=>absurd e (hqold j (by omega))).trans c13 λ_ _ e=>e
   ·refine ho12.keep c13 λa ha e=>?_
    have e':a.block=s.ak:=e
    rcases hq12 a ha with h' | h'
    ·exact hqold s.ak (by omega) ⟨a,h',e'.symm⟩
    ·subst h';simp only [] at e';omega
   ·refine hs12.keep c13 λa ha e=>?_
    have e':a.block=s.ak:=e
    rcases hs with hs | ⟨b0,o0,e0,cs,T0,fz,hb,_⟩
    ·have:L=[]:=by simpa using hs
     subst this;simp at hk'
    ·rw [e0] at ha;cases ha
     have e2:b0=s.ak:=e'
     subst e2
     exact (h.am.grow g0).ne hb rfl
  refine hs1.rd (v:=Iv L[k]) (by simp) (by omega) (by simp [hk']) λa ha=>⟨_,ha,λw2 hF2=>?_,λw8 hF8=>?_⟩
  ·have g2:Grow w1 w2:=hF2.grow
   refine aR_ ef_ (h1.grow g2).am hfit false eU_ (λx hx=>?_) λhno=>absurd rfl (hno _ hin)
   have:x=Value.int .i64 p0.2:=congrArg Prod.snd (nv_ h1.am.nd hx hin rfl)
   subst this
   refine ⟨_,rfl,hF2.reset,hy_ ⟨hn.1,by omega⟩ ⟨_,rfl,hF2.reset,?_⟩⟩
   have:=rest w2 g2 hF2.reset
   rw [wr1 (by omega)]
   exact this
  ·have g8:Grow w1 w8:=hF8.grow
   refine hy_ ⟨hn.1,by omega⟩ ⟨_,rfl,hF8.reset,?_⟩
   refine aR_ ef_ (h1.grow g8).am hfit false eU_ (λx hx=>?_) λhno=>absurd rfl (hno _ hin)
   have:x=Value.int .i64 p0.2:=congrArg Prod.snd (nv_ h1.am.nd hx hin rfl)
   subst this
   refine ⟨_,rfl,hF8.reset,?_⟩
   have:=rest w8 g8 hF8.reset
   rw [wr1 (by omega)]
   exact this
 ·have:k=L.length:=by omega
  subst this
  rw [Pend] at h1
  exact hK w1 _ _ _ h1 c1
end Go.Vc
namespace Go.Vc
open Go Go.RowKit Go.Extern.Stop Go.Stop Go.Extern Go.Proofs
theorem bx_ (w:World):((Extern.ReflectliteType.method λt=>do Extern.Rtype.noPackHeld "Comparable" t;(λa=>Value.bool a.comparable) <$> typeInfo t) #[.agg #[.pointer (some ⟨1,73,none⟩)]]).run Tryz.prog w=.ok (.bool true) w:=by kernel_rfl
theorem aT_ (h:Value) (w:World):(Go.method 447 199 (.agg #[h]) "Comparable").run Tryz.prog w=.ok (236,.agg #[h]) w:=by kernel_rfl
theorem kC_ (w:World):(binOp .eql 47 (.iface 73 (.int .i64 11)) (.iface 73 (.int .i64 11))).run Tryz.prog w=.ok (.bool true) w:=by kernel_rfl
theorem pg_ (w:World):Calls Tryz.prog 22 #[.iface 73 (.int .i64 11),.iface 73 (.int .i64 11)] w λe w'=>e=.returned (.bool true)∧w'=w:=by
 have h8:=@run_callFunc_extern Tryz.prog 55 _ Extern.ReflectliteType.typeOf Tryz.func55 (by kernel_rfl) (by kernel_rfl) (by kernel_rfl) (by kernel_rfl)
 have h32:=@run_callFunc_extern Tryz.prog 236 _ (Extern.ReflectliteType.method λt=>do Extern.Rtype.noPackHeld "Comparable" t;pure (.bool (← typeInfo t).comparable)) Tryz.func236 (by kernel_rfl) (by kernel_rfl) (by kernel_rfl) (by kernel_rfl)
 have tT:=gV_
 have cT:=bx_
 have mR:=aT_
 have hn:=kC_ w
 go_enter Tryz.func22,Tryz.ntmps22
 go_wp2
 refine wp_loop_rounds 1 ?_
 rw [rounds_succ]
 go_wp2
 go_ret
 exact ⟨rfl,rfl⟩
theorem kn_:(Tryz.prog.underlying 201).map (λt=>match t with | .interface ms=>ms.toList.map (·.1) | _=>[])=some ["Is"]:=by kernel_rfl
theorem ls_ (v:Value) (xT:TypeId) (w:World):(Instr.typeAssert (.iface 73 v) xT 201 true).run Tryz.prog w=.ok (.tuple #[.nilIface,.bool false]) w:=by
 obtain ⟨ms,hu⟩:=fc_ kn_ (by simp)
 exact run_typeAssert_lacksB hu (by
  have:(Tryz.prog.info? 73).map (λi=>match Tryz.prog.underlying 201 with | some (.interface want)=>(lacking want i.methods).isEmpty | _=>true)=some false:=by kernel_rfl
  rw [hu] at this;exact this) (by kernel_rfl) v xT w
theorem of_:(Tryz.prog.underlying 204).map (λt=>match t with | .interface ms=>ms.toList.map (·.1) | _=>[])=some ["Unwrap"]:=by kernel_rfl
theorem lr_ (v:Value) (xT:TypeId) (w:World):(Instr.typeAssert (.iface 73 v) xT 204 true).run Tryz.prog w=.ok (.tuple #[.nilIface,.bool false]) w:=by
 obtain ⟨ms,hu⟩:=fc_ of_ (by simp)
 exact run_typeAssert_lacksB hu (by
  have:(Tryz.prog.info? 73).map (λi=>match Tryz.prog.underlying 204 with | some (.interface want)=>(lacking want i.methods).isEmpty | _=>true)=some false:=by kernel_rfl
  rw [hu] at this;exact this) (by kernel_rfl) v xT w
theorem mQ_:(Tryz.prog.underlying 205).map (λt=>match t with | .interface ms=>ms.toList.map (·.1) | _=>[])=some ["Unwrap"]:=by kernel_rfl
theorem jh_ (v:Value) (xT:TypeId) (w:World):(Instr.typeAssert (.iface 73 v) xT 205 true).run Tryz.prog w=.ok (.tuple #[.nilIface,.bool false]) w:=by
 obtain ⟨ms,hu⟩:=fc_ mQ_ (by simp)
 exact run_typeAssert_lacksB hu (by
  have:(Tryz.prog.info? 73).map (λi=>match Tryz.prog.underlying 205 with | some (.interface want)=>(lacking want i.methods).isEmpty | _=>true)=some false:=by kernel_rfl
  rw [hu] at this;exact this) (by kernel_rfl) v xT w
theorem lH_ (w:World):(binOp .eql 47 (.iface 73 (.int .i64 2)) (.iface 73 (.int .i64 11))).run Tryz.prog w=.ok (.bool false) w:=by kernel_rfl
theorem lW_ (w:World):Calls Tryz.prog 22 #[.iface 73 (.int .i64 2),.iface 73 (.int .i64 11)] w λe w'=>e=.returned (.bool false)∧w'=w:=by
 have h8:=@run_callFunc_extern Tryz.prog 55 _ Extern.ReflectliteType.typeOf Tryz.func55 (by kernel_rfl) (by kernel_rfl) (by kernel_rfl) (by kernel_rfl)
 have h32:=@run_callFunc_extern Tryz.prog 236 _ (Extern.ReflectliteType.method λt=>do Extern.Rtype.noPackHeld "Comparable" t;pure (.bool (← typeInfo t).comparable)) Tryz.func236 (by kernel_rfl) (by kernel_rfl) (by kernel_rfl) (by kernel_rfl)
 have tT:=gV_
 have cT:=bx_
 have mR:=aT_
 have hn:=lH_ w
 have n1:=ls_
 have n2:=lr_
 have n3:=jh_
 go_enter Tryz.func22,Tryz.ntmps22
 go_wp2
 refine wp_loop_rounds 1 ?_
 rw [rounds_succ]
 go_wp2
 go_ret
 exact ⟨rfl,rfl⟩
theorem lG_ (w:World):(binOp .eql 47 (.iface 73 (.int .i64 6)) (.iface 73 (.int .i64 11))).run Tryz.prog w=.ok (.bool false) w:=by kernel_rfl
theorem lV_ (w:World):Calls Tryz.prog 22 #[.iface 73 (.int .i64 6),.iface 73 (.int .i64 11)] w λe w'=>e=.returned (.bool false)∧w'=w:=by
 have h8:=@run_callFunc_extern Tryz.prog 55 _ Extern.ReflectliteType.typeOf Tryz.func55 (by kernel_rfl) (by kernel_rfl) (by kernel_rfl) (by kernel_rfl)
 have h32:=@run_callFunc_extern Tryz.prog 236 _ (Extern.ReflectliteType.method λt=>do Extern.Rtype.noPackHeld "Comparable" t;pure (.bool (← typeInfo t).comparable)) Tryz.func236 (by kernel_rfl) (by kernel_rfl) (by kernel_rfl) (by kernel_rfl)
 have tT:=gV_
 have cT:=bx_
 have mR:=aT_
 have hn:=lG_ w
 have n1:=ls_
 have n2:=lr_
 have n3:=jh_
 go_enter Tryz.func22,Tryz.ntmps22
 go_wp2
 refine wp_loop_rounds 1 ?_
 rw [rounds_succ]
 go_wp2
 go_ret
 exact ⟨rfl,rfl⟩
theorem lF_ (w:World):(binOp .eql 47 (.iface 73 (.int .i64 7)) (.iface 73 (.int .i64 11))).run Tryz.prog w=.ok (.bool false) w:=by kernel_rfl
theorem lU_ (w:World):Calls Tryz.prog 22 #[.iface 73 (.int .i64 7),.iface 73 (.int .i64 11)] w λe w'=>e=.returned (.bool false)∧w'=w:=by
 have h8:=@run_callFunc_extern Tryz.prog 55 _ Extern.ReflectliteType.typeOf Tryz.func55 (by kernel_rfl) (by kernel_rfl) (by kernel_rfl) (by kernel_rfl)
 have h32:=@run_callFunc_extern Tryz.prog 236 _ (Extern.ReflectliteType.method λt=>do Extern.Rtype.noPackHeld "Comparable" t;pure (.bool (← typeInfo t).comparable)) Tryz.func236 (by kernel_rfl) (by kernel_rfl) (by kernel_rfl) (by kernel_rfl)
 have tT:=gV_
 have cT:=bx_
 have mR:=aT_
 have hn:=lF_ w
 have n1:=ls_
 have n2:=lr_
 have n3:=jh_
 go_enter Tryz.func22,Tryz.ntmps22
 go_wp2
 refine wp_loop_rounds 1 ?_
 rw [rounds_succ]
 go_wp2
 go_ret
 exact ⟨rfl,rfl⟩
theorem mZ_ (a:Int) (w:World):(binOp .eql 47 (.iface 192 (.agg #[.int .i64 a,.iface 73 (.int .i64 11)])) (.iface 73 (.int .i64 11))).run Tryz.prog w=.ok (.bool false) w:=by kernel_rfl
theorem qZ_ (v:Value) (xT:TypeId) (w:World):(Instr.typeAssert (.iface 192 v) xT 201 true).run Tryz.prog w=.ok (.tuple #[.nilIface,.bool false]) w:=by
 obtain ⟨ms,hu⟩:=fc_ kn_ (by simp)
 exact run_typeAssert_lacksB hu (by
  have:(Tryz.prog.info? 192).map (λi=>match Tryz.prog.underlying 201 with | some (.interface want)=>(lacking want i.methods).isEmpty | _=>true)=some false:=by kernel_rfl
  rw [hu] at this;exact this) (by kernel_rfl) v xT w
set_option maxHeartbeats 4000000 in
theorem ni_ (at_:Int) (w:World):Calls Tryz.prog 22 #[.iface 192 (.agg #[.int .i64 at_,.iface 73 (.int .i64 11)]),.iface 73 (.int .i64 11)] w λe w'=>e=.returned (.bool true)∧w'=w.alloc (.cells #[.int .i64 at_,.iface 73 (.int .i64 11)] 192):=by
 have h8:=@run_callFunc_extern Tryz.prog 55 _ Extern.ReflectliteType.typeOf Tryz.func55 (by kernel_rfl) (by kernel_rfl) (by kernel_rfl) (by kernel_rfl)
 have h32:=@run_callFunc_extern Tryz.prog 236 _ (Extern.ReflectliteType.method λt=>do Extern.Rtype.noPackHeld "Comparable" t;pure (.bool (← typeInfo t).comparable)) Tryz.func236 (by kernel_rfl) (by kernel_rfl) (by kernel_rfl) (by kernel_rfl)
 have tT:=gV_
 have cT:=bx_
 have mR:=aT_
 have hn:=mZ_ at_ w
 go_enter Tryz.func22,Tryz.ntmps22
 go_wp2
 have hn2:=kC_ (w.alloc (.cells #[.int .i64 at_,.iface 73 (.int .i64 11)] 192))
 have n1:=qZ_
 have hU:=oy_
 have mU:=kq_
 refine wp_loop_rounds 2 ?_
 rw [rounds_succ]
 go_wp2
 rw [rounds_succ]
 go_wp2
 go_ret
 exact ⟨rfl,rfl⟩
theorem r1_ {w:World} {K:Value→World→Prop} (hK:K (.bool false) w):aa_ PR F.dR_ #[.iface T.an_ (.int .i64 2),.iface T.an_ (.int .i64 11)] w K:=
 bg_ (lW_ w) λe w' ⟨he,g⟩=>⟨_,he,g ▸ hK⟩
theorem r0_ {w:World} {K:Value→World→Prop} (hK:K (.bool false) w):aa_ PR F.dR_ #[.iface T.an_ (.int .i64 6),.iface T.an_ (.int .i64 11)] w K:=
 bg_ (lV_ w) λe w' ⟨he,g⟩=>⟨_,he,g ▸ hK⟩
theorem rZ_ {w:World} {K:Value→World→Prop} (hK:K (.bool false) w):aa_ PR F.dR_ #[.iface T.an_ (.int .i64 7),.iface T.an_ (.int .i64 11)] w K:=
 bg_ (lU_ w) λe w' ⟨he,g⟩=>⟨_,he,g ▸ hK⟩
theorem ph_ {w:World} {K:Value→World→Prop} (hK:K (.bool true) w):aa_ PR F.dR_ #[.iface T.an_ (.int .i64 11),.iface T.an_ (.int .i64 11)] w K:=
 bg_ (pg_ w) λe w' ⟨he,g⟩=>⟨_,he,g ▸ hK⟩
theorem nj_ {a:Int} {w:World} {K:Value→World→Prop} (hK:∀w',Grow w w'→K (.bool true) w'):aa_ PR F.dR_ #[.iface T.fj_ (.agg #[.int .i64 a,.iface T.an_ (.int .i64 11)]),.iface T.an_ (.int .i64 11)] w K:=
 bg_ (ni_ a w) λe w' ⟨he,g⟩=>⟨_,he,hK _ (g ▸ Chg.alloc _ _)⟩
end Go.Vc
namespace Go.Vc
open Go
theorem hI_ (p0:Option Addr) (m1:Int) (S:SP) (K:KP) (w:World) (h:(p0=none→K (.tuple #[.pointer none,.iface 73 (Iv 1)]) w)∧∀a0:Addr,p0=some a0→aa_ PR 45 #[.pointer p0,Iv m1] w λv0 w0=>∃n0 n1 n2 q0 l0 l1 n3 s0 v1,v0=.tuple #[.agg #[Iv n0,Iv n1,Iv n2,.slice q0 l0 l1,Iv n3,.string s0],v1]∧Fs S w [] w0∧∀l2,w0.heap.size≤l2→(v1=.nilIface→∀w1,Fr S w w0 [l2] [] w1→rn PR (Instr.makeMap 68 none) (λv2 w2=>∃q1,v2=.map q1∧Fs S w [] w2∧∀l3,w2.heap.size≤l3→∀w3,Fr S w w2 [] [⟨l3,#[.pointer none,.pointer p0,Iv m1,.map q1],70,true⟩] w3→aa_ PR 46 #[.pointer (some (⟨l3,0,none⟩))] w3 λv3 w4=>∃n4,v3=Iv n4∧∃q2 q3 n5 q4,Fs S w [⟨l3,#[.pointer q2,.pointer q3,Iv n5,.map q4],70,true⟩] w4∧K (.tuple #[.pointer (some (⟨l3,0,none⟩)),.nilIface]) w4) w1)∧(∀x0 v4,v1=.iface x0 v4→∀w5,Fr S w w0 [l2] [] w5→K (.tuple #[.pointer none,v1]) w5)∧(v1=.nilIface∨∃l4 v5,v1=.iface l4 v5)):aa_ PR 17 ⟨[.pointer p0,.int .i64 m1]⟩ w K:=
 ab_ (okf:=⟨okL,[]⟩) ag_ (args:=[.c (.v (.pointer p0)),.c (.v (.int .i64 m1))]) (H:=[]) (.s .z (.s .z (.s (.s (.r ⟨(some []),false,[],[]⟩) .z) (.s (.r ⟨(some []),false,[],[]⟩) (.s (.r ⟨(some [8]),false,[],[(1,[999])]⟩) .z))))) Go.Proofs.Tryz.func17 rfl ⟨trivial,trivial,trivial⟩ trivial (Fr.init S w) trivial (ac_ (by kernel_rfl) h)
theorem fW_ (k0:Nat) (p1:Option Addr) (p2:Option Addr) (m3:Int) (g4:Option Nat) (S:SP) (K:KP) (w:World) (hF:Fs S w [⟨k0,#[.pointer p1,.pointer p2,.int .i64 m3,.map g4],70,true⟩] w) (hS:S k0∧True) (h:∀w0,Fr S w w [] [⟨k0,#[.pointer p1,.pointer p2,Iv m3,.map g4],70,true⟩] w0→let B0:Blk:=⟨k0,#[.pointer p1,.pointer p2,Iv m3,.map g4],70,true⟩;aa_ PR 93 #[.pointer p2,Iv m3] w0 λv0 w1=>∃q0 l0 l1,v0=.slice q0 l0 l1∧Fs S w [B0] w1∧(p1=none→aa_ PR 94 #[Iv 4,Iv 6,.slice none 0 0] w1 λv1 w2=>∃q1 v2,v1=.tuple #[.pointer q1,v2]∧Fs S w [B0] w2∧∀w3,Fr S w w2 [k0] [⟨k0,#[.pointer q1,.pointer p2,Iv m3,.map g4],70,true⟩] w3→let B1:Blk:=⟨k0,#[.pointer q1,.pointer p2,Iv m3,.map g4],70,true⟩;rn PR (Instr.makeMap 53 none) (λv3 w4=>∃q2,v3=.map q2∧Fs S w [B1] w4∧∃I0:Int→Nat→World→Prop,(∃l2,I0 0 l2 w4)∧∀n0,∀D0:Nat→Value,∀l3 w5,I0 n0 l3 w5→Fs S w [B1] w5→(n0<(l0:Int)→Dr q0 λa0=>(0:Int)≤n0∧n0<(l0:Int)∧Dr (some (Addr.add a0 (Int.toNat n0*1))) λa1=>∃n1,World.cell? w5 a1=some (Iv n1)∧rn PR (Instr.mapUpdate 53 (.map q2) (Iv n1) (.bool true)) (λx0 w6=>Fs S w [B1] w6∧∃l4,l4<l3∧I0 (IntKind.wrap .i64 (n0+1)) l4 w6) w5)∧(¬(n0<(l0:Int))→aa_ PR 49 #[.pointer q1] w5 λv4 w7=>∃q3 l5 l6,v4=.slice q3 l5 l6∧Fs S w [B1] w7∧∃I1:Int→Nat→World→Prop,(∃l7,I1 0 l7 w7)∧∀n2,∀D1:Nat→Value,∀l8 w8,I1 n2 l8 w8→Fs S w [B1] w8→(n2<(l5:Int)→Dr q3 λa2=>(0:Int)≤n2∧n2<(l5:Int)∧Dr (some (Addr.add a2 (Int.toNat n2*1))) λa3=>∃n3,World.cell? w8 a3=some (Iv n3)∧rn PR (Instr.lookup 53 (.map q2) (Iv n3) false) (λv5 w9=>∃b0,v5=.bool b0∧(b0=true→Fs S w [B1] w9∧∃l9,l9<l8∧I1 (IntKind.wrap .i64 (n2+1)) l9 w9)∧(b0=false→Fs S w [B1] w9∧aa_ PR 21 #[.pointer q1,Iv n3] w9 λv6 w10=>∃b1,v6=.bool b1∧(b1=true→Fs S w [B1] w10∧∃l10,l10<l8∧I1 (IntKind.wrap .i64 (n2+1)) l10 w10)∧(b1=false→Fs S w [B1] w10∧∃l11,l11<l8∧I1 (IntKind.wrap .i64 (n2+1)) l11 w10))) w8)∧(¬(n2<(l5:Int))→aa_ PR 58 #[.pointer q1,.slice q0 l0 l1] w8 λv7 w11=>v7=.tuple #[]∧Fs S w [B1] w11∧K (Iv (l0:Int)) w11))) w3)∧∀a4:Addr,p1=some a4→rn PR (Instr.makeMap 53 none) (λv8 w12=>∃q4,v8=.map q4∧Fs S w [B0] w12∧∃I2:Int→Nat→World→Prop,(∃l12,I2 0 l12 w12)∧∀n4,∀D2:Nat→Value,∀l13 w13,I2 n4 l13 w13→Fs S w [B0] w13→(n4<(l0:Int)→Dr q0 λa5=>(0:Int)≤n4∧n4<(l0:Int)∧Dr (some (Addr.add a5 (Int.toNat n4*1))) λa6=>∃n5,World.cell? w13 a6=some (Iv n5)∧rn PR (Instr.mapUpdate 53 (.map q4) (Iv n5) (.bool true)) (λx1 w14=>Fs S w [B0] w14∧∃l14,l14<l13∧I2 (IntKind.wrap .i64 (n4+1)) l14 w14) w13)∧(¬(n4<(l0:Int))→aa_ PR 49 #[.pointer p1] w13 λv9 w15=>∃q5 l15 l16,v9=.slice q5 l15 l16∧Fs S w [B0] w15∧∃I3:Int→Nat→World→Prop,(∃l17,I3 0 l17 w15)∧∀n6,∀D3:Nat→Value,∀l18 w16,I3 n6 l18 w16→Fs S w [B0] w16→(n6<(l15:Int)→Dr q5 λa7=>(0:Int)≤n6∧n6<(l15:Int)∧Dr (some (Addr.add a7 (Int.toNat n6*1))) λa8=>∃n7,World.cell? w16 a8=some (Iv n7)∧rn PR (Instr.lookup 53 (.map q4) (Iv n7) false) (λv10 w17=>∃b2,v10=.bool b2∧(b2=true→Fs S w [B0] w17∧∃l19,l19<l18∧I3 (IntKind.wrap .i64 (n6+1)) l19 w17)∧(b2=false→Fs S w [B0] w17∧aa_ PR 21 #[.pointer p1,Iv n7] w17 λv11 w18=>∃b3,v11=.bool b3∧(b3=true→Fs S w [B0] w18∧∃l20,l20<l18∧I3 (IntKind.wrap .i64 (n6+1)) l20 w18)∧(b3=false→Fs S w [B0] w18∧∃l21,l21<l18∧I3 (IntKind.wrap .i64 (n6+1)) l21 w18))) w16)∧(¬(n6<(l15:Int))→aa_ PR 58 #[.pointer p1,.slice q0 l0 l1] w16 λv12 w19=>v12=.tuple #[]∧Fs S w [B0] w19∧K (Iv (l0:Int)) w19))) w1):aa_ PR 46 ⟨[.pointer (some ⟨k0,0,none⟩)]⟩ w K:=
 ab_ (okf:=⟨okL,[]⟩) ag_ (args:=[.c (.p 0 k0 true 0)]) (H:=[⟨k0,.l [.v (.pointer p1),.v (.pointer p2),.v (.int .i64 m3),.v (.map g4)],70,true⟩]) (.s .z (.s .z (.s (.r ⟨(some [0]),false,[],[]⟩) (.s (.s .z (.c (.r ⟨(some [0]),false,[],[]⟩) .z)) (.s (.r ⟨(some [0]),false,[],[]⟩) (.s (.s .z (.b (.l (some [0]) (some [0]) [(35,.c (.int .i64))] [] (.s .z (.s .z (.s (.b (.s .z (.r ⟨(some [0]),false,[],[]⟩))) .z)))))) (.s (.s (.r ⟨(some [0]),false,[],[]⟩) (.b (.l (some [0]) (some [0]) [(48,.c (.int .i64))] [] (.s .z (.s .z (.s (.b (.s .z (.s (.r ⟨(some [0]),false,[],[]⟩) (.c (.r ⟨(some [0]),false,[],[(5,[999])]⟩) .z)))) .z)))))) (.s (.r ⟨(some [0]),false,[],[(5,[999])]⟩) .z)))))))) Go.Proofs.Tryz.func46 rfl ⟨rfl,trivial⟩ ⟨⟨trivial,⟨trivial,⟨trivial,⟨trivial,trivial⟩⟩⟩⟩,trivial⟩ hF hS (ac_ (by kernel_rfl) h)
theorem eN_ (k0:Nat) (p1:Option Addr) (p2:Option Addr) (m3:Int) (g4:Option Nat) (S:SP) (K:KP) (w:World) (hF:Fs S w [⟨k0,#[.pointer p1,.pointer p2,.int .i64 m3,.map g4],70,true⟩] w) (hS:S k0∧True) (h:aa_ PR 49 #[.pointer p1] w λv0 w0=>∃q0 l0 l1,v0=.slice q0 l0 l1∧Fs S w [⟨k0,#[.pointer p1,.pointer p2,Iv m3,.map g4],70,true⟩] w0∧K (.slice q0 l0 l1) w0):aa_ PR 26 ⟨[.pointer (some ⟨k0,0,none⟩)]⟩ w K:=
 ab_ (okf:=⟨okL,[]⟩) ag_ (args:=[.c (.p 0 k0 true 0)]) (H:=[⟨k0,.l [.v (.pointer p1),.v (.pointer p2),.v (.int .i64 m3),.v (.map g4)],70,true⟩]) (.s .z (.s .z (.s (.r ⟨(some [0]),false,[],[]⟩) .z))) Go.Proofs.Tryz.func26 rfl ⟨rfl,trivial⟩ ⟨⟨trivial,⟨trivial,⟨trivial,⟨trivial,trivial⟩⟩⟩⟩,trivial⟩ hF hS (ac_ (by kernel_rfl) h)
theorem gx_ (k0:Nat) (p1:Option Addr) (p2:Option Addr) (m3:Int) (g4:Option Nat) (S:SP) (K:KP) (w:World) (hF:Fs S w [⟨k0,#[.pointer p1,.pointer p2,.int .i64 m3,.map g4],70,true⟩] w) (hS:S k0∧True) (h:aa_ PR 26 #[.pointer (some (⟨k0,0,none⟩))] w λv0 w0=>∃q0 l0 l1,v0=.slice q0 l0 l1∧Fs S w [⟨k0,#[.pointer p1,.pointer p2,Iv m3,.map g4],70,true⟩] w0∧((l0:Int)=0→K (.bool true) w0)∧(¬((l0:Int)=0)→K (.bool false) w0)):aa_ PR 11 ⟨[.pointer (some ⟨k0,0,none⟩)]⟩ w K:=
 ab_ (okf:=⟨okL,[]⟩) ag_ (args:=[.c (.p 0 k0 true 0)]) (H:=[⟨k0,.l [.v (.pointer p1),.v (.pointer p2),.v (.int .i64 m3),.v (.map g4)],70,true⟩]) (.s .z (.s (.r ⟨(some [0]),false,[],[]⟩) .z)) Go.Proofs.Tryz.func11 rfl ⟨rfl,trivial⟩ ⟨⟨trivial,⟨trivial,⟨trivial,⟨trivial,trivial⟩⟩⟩⟩,trivial⟩ hF hS (ac_ (by kernel_rfl) h)
theorem gv_ (k0:Nat) (p1:Option Addr) (p2:Option Addr) (m3:Int) (g4:Option Nat) (m5:Int) (y6:Option Addr) (ly6:Nat) (cy6:Nat) (S:SP) (K:KP) (w:World) (hF:Fs S w [⟨k0,#[.pointer p1,.pointer p2,.int .i64 m3,.map g4],70,true⟩] w) (hS:S k0∧True) (h:aa_ PR 18 #[.pointer p1,Iv m5] w λv0 w0=>∃q0 l0 l1,v0=.slice q0 l0 l1∧Fs S w [⟨k0,#[.pointer p1,.pointer p2,Iv m3,.map g4],70,true⟩] w0∧let B0:Blk:=⟨k0,#[.pointer p1,.pointer p2,Iv m3,.map g4],70,true⟩;∃I0:(Option Addr)→Nat→Nat→Nat→World→Prop,(∃l2,I0 none 0 0 l2 w0)∧∀q1 l3 l4,∀D0:Nat→Value,∀l5 w1,I0 q1 l3 l4 l5 w1→Fs S w [B0] w1→((ly6:Int)>0→aa_ PR 19 #[.pointer p1,Iv m5] w1 λv1 w2=>∃n0 b0,v1=.tuple #[Iv n0,.bool b0]∧(b0=true→Fs S w [B0] w2∧rn PR (Instr.lookup 68 (.map g4) (Iv n0) false) (λv2 w3=>∃n1,v2=Iv n1∧Fs S w [B0] w3∧(ly6:Int)≠0∧Dr y6 λa0=>(0:Int)≤Int.tmod (IntKind.wrap .i64 (n0+n1)) (ly6:Int)∧Int.tmod (IntKind.wrap .i64 (n0+n1)) (ly6:Int)<(ly6:Int)∧Dr (some (Addr.add a0 (Int.toNat (Int.tmod (IntKind.wrap .i64 (n0+n1)) (ly6:Int))*1))) λa1=>∃n2,World.cell? w3 a1=some (Iv n2)∧rn PR (Instr.lookup 68 (.map g4) (Iv n0) false) (λv3 w4=>∃n3,v3=Iv n3∧Fs S w [B0] w4∧rn PR (Instr.mapUpdate 68 (.map g4) (Iv n0) (Iv (IntKind.wrap .i64 (n3+1)))) (λx0 w5=>Fs S w [B0] w5∧∀l6,w5.heap.size≤l6→∀w6,Fr S w w5 [] [B0,⟨l6,#[Iv n2,Iv 2,Iv m3,Iv n0,.string ⟨#[]⟩,.slice none 0 0],45,true⟩] w6→rn PR (Builtin.append_ #[40,40] 40 #[.slice q1 l3 l4,.slice (some (⟨l6,0,none⟩)) 1 1]) (λv4 w7=>∃q2 l7 l8,v4=.slice q2 l7 l8∧Fs S w [B0,⟨l6,#[Iv n2,Iv 2,Iv m3,Iv n0,.string ⟨#[]⟩,.slice none 0 0],45,true⟩] w7∧∃l9,l9<l5∧I0 q2 l7 l8 l9 w7) w6) w4) w3) w2)∧(b0=false→Fs S w [B0] w2∧K (.slice q1 l3 l4) w2))∧(¬((ly6:Int)>0)→K (.slice q1 l3 l4) w1)):aa_ PR 8 ⟨[.pointer (some ⟨k0,0,none⟩),.int .i64 m5,.slice y6 ly6 cy6]⟩ w K:=
 ab_ (okf:=⟨okL,[]⟩) ag_ (args:=[.c (.p 0 k0 true 0),.c (.v (.int .i64 m5)),.c (.v (.slice y6 ly6 cy6))]) (H:=[⟨k0,.l [.v (.pointer p1),.v (.pointer p2),.v (.int .i64 m3),.v (.map g4)],70,true⟩]) (.s .z (.s .z (.s (.r ⟨(some [0]),false,[],[(5,[999])]⟩) (.s .z (.s (.b (.l (some [0]) (some [0]) [(7,.c (.sl))] [] (.s .z (.b (.s (.r ⟨(some [0]),false,[],[(5,[999])]⟩) (.s .z (.s (.r ⟨(some [0]),false,[],[]⟩) (.s (.r ⟨(some [0]),false,[],[]⟩) (.r ⟨(some [0]),false,[],[]⟩))))))))) .z))))) Go.Proofs.Tryz.func8 rfl ⟨rfl,trivial,trivial,trivial⟩ ⟨⟨trivial,⟨trivial,⟨trivial,⟨trivial,trivial⟩⟩⟩⟩,trivial⟩ hF hS (ac_ (by kernel_rfl) h)
theorem fV_ (k0:Nat) (p1:Option Addr) (p2:Option Addr) (m3:Int) (g4:Option Nat) (m5:Int) (S:SP) (K:KP) (w:World) (hF:Fs S w [⟨k0,#[.pointer p1,.pointer p2,.int .i64 m3,.map g4],70,true⟩] w) (hS:S k0∧True) (h:aa_ PR 57 #[.pointer p1,Iv m5] w λv0 w0=>∃n0 b0,v0=.tuple #[Iv n0,.bool b0]∧(b0=true→Fs S w [⟨k0,#[.pointer p1,.pointer p2,Iv m3,.map g4],70,true⟩] w0∧let B0:Blk:=⟨k0,#[.pointer p1,.pointer p2,Iv m3,.map g4],70,true⟩;aa_ PR 21 #[.pointer p1,Iv m5] w0 λv1 w1=>∃b1,v1=.bool b1∧(b1=true→Fs S w [B0] w1∧∀l0,w1.heap.size≤l0→∀w2,Fr S w w1 [] [B0,⟨l0,#[Iv m5],3,true⟩] w2→aa_ PR 58 #[.pointer p1,.slice (some (⟨l0,0,none⟩)) 1 1] w2 λv2 w3=>v2=.tuple #[]∧∃n1,Fs S w [B0,⟨l0,#[Iv n1],3,true⟩] w3∧K (.tuple #[]) w3)∧(b1=false→Fs S w [B0] w1∧K (.tuple #[]) w1))∧(b0=false→Fs S w [⟨k0,#[.pointer p1,.pointer p2,Iv m3,.map g4],70,true⟩] w0∧K (.tuple #[]) w0)):aa_ PR 23 ⟨[.pointer (some ⟨k0,0,none⟩),.int .i64 m5]⟩ w K:=
 ab_ (okf:=⟨okL,[]⟩) ag_ (args:=[.c (.p 0 k0 true 0),.c (.v (.int .i64 m5))]) (H:=[⟨k0,.l [.v (.pointer p1),.v (.pointer p2),.v (.int .i64 m3),.v (.map g4)],70,true⟩]) (.s (.r ⟨(some [0]),false,[],[]⟩) (.s (.r ⟨(some [0]),false,[],[(7,[999])]⟩) (.c (.r ⟨(some [0]),false,[],[(6,[999])]⟩) .z))) Go.Proofs.Tryz.func23 rfl ⟨rfl,trivial,trivial⟩ ⟨⟨trivial,⟨trivial,⟨trivial,⟨trivial,trivial⟩⟩⟩⟩,trivial⟩ hF hS (ac_ (by kernel_rfl) h)
theorem gw_ (k0:Nat) (p1:Option Addr) (p2:Option Addr) (m3:Int) (g4:Option Nat) (m5:Int) (m6:Int) (m7:Int) (z8:ByteArray) (y9:Option Addr) (ly9:Nat) (cy9:Nat) (S:SP) (K:KP) (w:World) (hF:Fs S w [⟨k0,#[.pointer p1,.pointer p2,.int .i64 m3,.map g4],70,true⟩] w) (hS:S k0∧True) (h:∀l0,w.heap.size≤l0→(m6=m3→(m5=3→∀w0,Fr S w w [] [⟨k0,#[.pointer p1,.pointer p2,Iv m3,.map g4],70,true⟩,⟨l0,#[Iv m5,Iv m6,Iv m7,.string z8,.slice y9 ly9 cy9],43,true⟩] w0→let B1:Blk:=⟨l0,#[Iv m5,Iv m6,Iv m7,.string z8,.slice y9 ly9 cy9],43,true⟩;let B0:Blk:=⟨k0,#[.pointer p1,.pointer p2,Iv m3,.map g4],70,true⟩;aa_ PR 20 #[.pointer p2,Iv m6,Iv m7,.string z8,.slice y9 ly9 cy9] w0 λv0 w1=>∃v1,v0=v1∧Fs S w [B0,B1] w1∧(v1=.nilIface→∀w2,Fr S w w1 [] [B0,B1] w2→aa_ PR 21 #[.pointer p1,Iv m7] w2 λv2 w3=>∃b0,v2=.bool b0∧(b0=true→Fs S w [B0,B1] w3∧K (.tuple #[.bool true,.nilIface]) w3)∧(b0=false→Fs S w [B0,B1] w3∧K (.tuple #[.bool false,.nilIface]) w3))∧(∀x0 v3,v1=.iface x0 v3→aa_ PR 22 #[v1,.iface 73 (Iv 11)] w1 λv4 w4=>∃b1,v4=.bool b1∧(b1=true→Fs S w [B0,B1] w4∧aa_ PR 23 #[.pointer (some (⟨k0,0,none⟩)),Iv m7] w4 λv5 w5=>v5=.tuple #[]∧∃q0 q1 n0 q2,Fs S w [⟨k0,#[.pointer q0,.pointer q1,Iv n0,.map q2],70,true⟩,B1] w5∧K (.tuple #[.bool false,v1]) w5)∧(b1=false→Fs S w [B0,B1] w4∧K (.tuple #[.bool false,v1]) w4))∧(v1=.nilIface∨∃l1 v6,v1=.iface l1 v6))∧(¬(m5=3)→(m5=4→∀w6,Fr S w w [] [⟨k0,#[.pointer p1,.pointer p2,Iv m3,.map g4],70,true⟩,⟨l0,#[Iv m5,Iv m6,Iv m7,.string z8,.slice y9 ly9 cy9],43,true⟩] w6→aa_ PR 23 #[.pointer (some (⟨k0,0,none⟩)),Iv m7] w6 λv7 w7=>v7=.tuple #[]∧∃q3 q4 n1 q5,Fs S w [⟨k0,#[.pointer q3,.pointer q4,Iv n1,.map q5],70,true⟩,⟨l0,#[Iv m5,Iv m6,Iv m7,.string z8,.slice y9 ly9 cy9],43,true⟩] w7∧K (.tuple #[.bool false,.nilIface]) w7)∧(¬(m5=4)→∀w8,Fr S w w [] [⟨k0,#[.pointer p1,.pointer p2,Iv m3,.map g4],70,true⟩] w8→K (.tuple #[.bool false,.nilIface]) w8)))∧(¬(m6=m3)→∀w9,Fr S w w [] [⟨k0,#[.pointer p1,.pointer p2,Iv m3,.map g4],70,true⟩] w9→K (.tuple #[.bool false,.nilIface]) w9)):aa_ PR 9 ⟨[.pointer (some ⟨k0,0,none⟩),.agg #[.int .i64 m5,.int .i64 m6,.int .i64 m7,.string z8,.slice y9 ly9 cy9]]⟩ w K:=
 ab_ (okf:=⟨okL,[]⟩) ag_ (args:=[.c (.p 0 k0 true 0),.a [.v (.int .i64 m5),.v (.int .i64 m6),.v (.int .i64 m7),.v (.string z8),.v (.slice y9 ly9 cy9)]]) (H:=[⟨k0,.l [.v (.pointer p1),.v (.pointer p2),.v (.int .i64 m3),.v (.map g4)],70,true⟩]) (.s (.r ⟨(some [0]),false,[],[]⟩) (.s (.b (.s .z (.c .z (.s (.r ⟨(some [0,3]),false,[],[]⟩) .z)))) (.s (.s .z (.b (.s .z (.c (.s (.r ⟨(some [0,3]),false,[],[(12,[999])]⟩) (.s (.s .z (.c (.s (.r ⟨(some [0,3]),false,[],[(6,[999])]⟩) .z) .z)) (.s (.s (.r ⟨(some [0,3]),false,[],[]⟩) .z) (.s (.r ⟨(some [0,3]),false,[],[(3,[999])]⟩) .z)))) (.s .z (.c (.r ⟨(some [0,3]),false,[],[(3,[999])]⟩) .z)))))) .z))) Go.Proofs.Tryz.func9 rfl ⟨rfl,⟨trivial,trivial,trivial,trivial,trivial,trivial⟩,trivial⟩ ⟨⟨trivial,⟨trivial,⟨trivial,⟨trivial,trivial⟩⟩⟩⟩,trivial⟩ hF hS (ac_ (by kernel_rfl) h)
theorem bJ_ (p0:Option Addr) (m1:Int) (S:SP) (K:KP) (w:World) (h:aa_ PR 15 #[Iv m1] w λv0 w0=>∃q0,v0=.pointer q0∧Fs S w [] w0∧aa_ PR 14 #[.pointer q0] w0 λv1 w1=>∃q1 v2,v1=.tuple #[.pointer q1,v2]∧Fs S w [] w1∧(v2=.nilIface→Dr p0 λa0=>Dr (some a0) λa1=>Dr (some (Addr.add a1 0)) λa2=>∃n0,World.cell? w1 (Addr.add a2 0)=some (Iv n0)∧∃n1,World.cell? w1 (Addr.add a2 1)=some (Iv n1)∧∃n2,World.cell? w1 (Addr.add a2 2)=some (Iv n2)∧∃q2 l0 l1,World.cell? w1 (Addr.add a2 3)=some (.slice q2 l0 l1)∧∃n3,World.cell? w1 (Addr.add a2 4)=some (Iv n3)∧∃s0,World.cell? w1 (Addr.add a2 5)=some (.string s0)∧aa_ PR 16 #[.pointer q1,.agg #[Iv n0,Iv n1,Iv n2,.slice q2 l0 l1,Iv n3,.string s0]] w1 λv3 w2=>∃v4,v3=v4∧Fs S w [] w2∧(v4=.nilIface→Dr p0 λa3=>Dr (some a3) λa4=>Dr (some (Addr.add a4 0)) λa5=>Dr (some (Addr.add a5 0)) λa6=>∃n4,World.cell? w2 a6=some (Iv n4)∧aa_ PR 17 #[.pointer q1,Iv n4] w2 λv5 w3=>∃q3 v6,v5=.tuple #[.pointer q3,v6]∧Fs S w [] w3∧(v6=.nilIface→∀w4,Fr S w w3 [] [] w4→K (.tuple #[.pointer q1,.pointer q3,.bool true]) w4)∧(∀x0 v7,v6=.iface x0 v7→∀w5,Fr S w w3 [] [] w5→K (.tuple #[.pointer q1,.pointer q3,.bool false]) w5)∧(v6=.nilIface∨∃l2 v8,v6=.iface l2 v8))∧(∀x1 v9,v4=.iface x1 v9→K (.tuple #[.pointer none,.pointer none,.bool false]) w2)∧(v4=.nilIface∨∃l3 v10,v4=.iface l3 v10))∧(∀x2 v11,v2=.iface x2 v11→K (.tuple #[.pointer none,.pointer none,.bool false]) w1)∧(v2=.nilIface∨∃l4 v12,v2=.iface l4 v12)):aa_ PR 7 ⟨[.pointer p0,.int .i64 m1]⟩ w K:=
 ab_ (okf:=⟨okL,[]⟩) ag_ (args:=[.c (.v (.pointer p0)),.c (.v (.int .i64 m1))]) (H:=[]) (.s .z (.s (.r ⟨(some []),false,[],[]⟩) (.s (.s (.r ⟨(some []),false,[],[(8,[999])]⟩) .z) (.s (.r ⟨(some []),false,[],[]⟩) (.s (.r ⟨(some []),false,[],[]⟩) .z))))) Go.Proofs.Tryz.func7 rfl ⟨trivial,trivial,trivial⟩ trivial (Fr.init S w) trivial (ac_ (by kernel_rfl) h)
theorem bL_ (p0:Option Addr) (m1:Int) (S:SP) (K:KP) (w:World) (h:∀l0,w.heap.size≤l0→(m1<0→Dr p0 λa0=>Dr (some a0) λa1=>Dr (some (Addr.add a1 0)) λa2=>∀w0,Fr S w w [] [⟨l0,#[Iv 0,Iv 0,Iv 0,.string ⟨#[]⟩,.slice none 0 0],43,true⟩] w0→Dr (some (Addr.add a2 0)) λa3=>∃n0,World.cell? w0 a3=some (Iv n0)∧∀w1,Fr S w w0 [l0] [] w1→K (.agg #[Iv 4,Iv n0,Iv m1,.string ⟨#[]⟩,.slice none 0 0]) w1)∧(¬(m1<0)→Dr p0 λa4=>Dr (some a4) λa5=>∀w2,Fr S w w [] [⟨l0,#[Iv 0,Iv 0,Iv 0,.string ⟨#[]⟩,.slice none 0 0],43,true⟩] w2→let B0:Blk:=⟨l0,#[Iv 0,Iv 0,Iv 0,.string ⟨#[]⟩,.slice none 0 0],43,true⟩;Dr (some (Addr.add a5 6)) λa6=>∃q0 l1 l2,World.cell? w2 a6=some (.slice q0 l1 l2)∧(m1≥(l1:Int)→Dr p0 λa7=>Dr (some a7) λa8=>Dr (some (Addr.add a8 0)) λa9=>Dr (some (Addr.add a9 0)) λa10=>∃n1,World.cell? w2 a10=some (Iv n1)∧∀w3,Fr S w w2 [l0] [] w3→K (.agg #[Iv 4,Iv n1,Iv m1,.string ⟨#[]⟩,.slice none 0 0]) w3)∧(¬(m1≥(l1:Int))→aa_ PR 24 #[.pointer p0] w2 λv0 w4=>∃q1,v0=.pointer q1∧Fs S w [B0] w4∧aa_ PR 25 #[.pointer q1,Iv m1] w4 λv1 w5=>∃q2 l3 l4 v2,v1=.tuple #[.slice q2 l3 l4,v2]∧Fs S w [B0] w5∧∀w6,Fr S w w5 [] [B0] w6→∃I0:World→Prop,I0 w6∧Dr p0 λa11=>Dr (some a11) λa12=>Dr (some (Addr.add a12 0)) λa13=>Dr (some (Addr.add a13 0)) λa14=>∃n2,(∀w7,I0 w7→World.cell? w7 a14=some (Iv n2))∧Dr p0 λa15=>Dr (some a15) λa16=>Dr (some (Addr.add a16 6)) λa17=>∃q3 l5 l6,(∀w8,I0 w8→World.cell? w8 a17=some (.slice q3 l5 l6))∧Dr q3 λa18=>(0:Int)≤m1∧m1<(l5:Int)∧Dr (some (Addr.add a18 (Int.toNat m1*1))) λa19=>∃s0,(∀w9,I0 w9→World.cell? w9 a19=some (.string s0))∧∀w10,Fr S w w6 [l0] [] w10→K (.agg #[Iv 3,Iv n2,Iv m1,.string s0,.slice q2 l3 l4]) w10))):aa_ PR 10 ⟨[.pointer p0,.int .i64 m1]⟩ w K:=
 ab_ (okf:=⟨okL,[]⟩) ag_ (args:=[.c (.v (.pointer p0)),.c (.v (.int .i64 m1))]) (H:=[]) (.s (.r ⟨(some []),true,[],[]⟩) (.s (.s .z (.c (.s (.r ⟨(some [4]),true,[],[]⟩) .z) .z)) (.s (.r ⟨(some [4]),true,[],[]⟩) (.s (.r ⟨(some [4]),true,[4],[]⟩) .z)))) Go.Proofs.Tryz.func10 rfl ⟨trivial,trivial,trivial⟩ trivial (Fr.init S w) trivial (ac_ (by kernel_rfl) h)
theorem bK_  (S:SP) (K:KP) (w:World) (h:∀l0,w.heap.size≤l0→∀l1,w.heap.size≤l1→∀w0,Fr S w w [] [⟨l0,#[Iv 0,Iv 1],56,true⟩,⟨l1,#[.slice (some (⟨l0,0,none⟩)) 1 1],22,true⟩] w0→aa_ PR 6 #[.slice (some (⟨l1,0,none⟩)) 1 1] w0 λv0 w1=>∃q0 l2 l3,v0=.slice q0 l2 l3∧Fs S w [⟨l0,#[Iv 0,Iv 1],56,true⟩,⟨l1,#[.slice (some (⟨l0,0,none⟩)) 1 1],22,true⟩] w1∧(q0=none→K (.bool false) w1)∧∀a0:Addr,q0=some a0→Dr q0 λa1=>(0:Int)≤0∧(0:Int)<(l2:Int)∧Dr (some (Addr.add a1 0)) λa2=>∃q1,World.cell? w1 a2=some (.pointer q1)∧aa_ PR 7 #[.pointer q1,Iv 9] w1 λv1 w2=>∃q2 q3 b0,v1=.tuple #[.pointer q2,.pointer q3,.bool b0]∧(b0=true→Fs S w [] w2∧∀l4,w2.heap.size≤l4→∀w3,Fr S w w2 [] [⟨l4,#[Iv 0],3,true⟩] w3→aa_ PR 8 #[.pointer q3,Iv 0,.slice (some (⟨l4,0,none⟩)) 1 1] w3 λv2 w4=>∃q4 l5 l6,v2=.slice q4 l5 l6∧∃n0,Fs S w [⟨l4,#[Iv n0],3,true⟩] w4∧Dr q0 λa3=>(0:Int)≤0∧(0:Int)<(l2:Int)∧Dr (some (Addr.add a3 0)) λa4=>∃q5,World.cell? w4 a4=some (.pointer q5)∧Dr q5 λa5=>Dr (some a5) λa6=>Dr (some (Addr.add a6 6)) λa7=>∃q6 l7 l8,World.cell? w4 a7=some (.slice q6 l7 l8)∧((l5:Int)=(l7:Int)→Dr q4 λa8=>(0:Int)≤0∧(0:Int)<(l5:Int)∧Dr (some (Addr.add a8 0)) λa9=>Dr (some (Addr.add a9 1)) λa10=>Dr (some (Addr.add a10 0)) λa11=>∃n1,World.cell? w4 a11=some (Iv n1)∧(n1=2→Dr q4 λa12=>(0:Int)≤0∧(0:Int)<(l5:Int)∧Dr (some (Addr.add a12 0)) λa13=>Dr (some (Addr.add a13 0)) λa14=>∃n2,World.cell? w4 a14=some (Iv n2)∧(n2=0→aa_ PR 11 #[.pointer q3] w4 λv3 w5=>∃b1,v3=.bool b1∧(b1=true→Fs S w [] w5∧K (.bool false) w5)∧(b1=false→Fs S w [] w5∧Dr q0 λa15=>(0:Int)≤0∧(0:Int)<(l2:Int)∧Dr (some (Addr.add a15 0)) λa16=>∃q7,World.cell? w5 a16=some (.pointer q7)∧Dr q7 λa17=>Dr (some a17) λa18=>Dr (some (Addr.add a18 6)) λa19=>∃q8 l9 l10,World.cell? w5 a19=some (.slice q8 l9 l10)∧∃I0:Int→Nat→World→Prop,(∃l11,I0 0 l11 w5)∧∀n3,∀D0:Nat→Value,∀l12 w6,I0 n3 l12 w6→Fs S w [] w6→(n3<(l9:Int)→Dr q0 λa20=>(0:Int)≤0∧(0:Int)<(l2:Int)∧Dr (some (Addr.add a20 0)) λa21=>∃q9,World.cell? w6 a21=some (.pointer q9)∧aa_ PR 10 #[.pointer q9,Iv n3] w6 λv4 w7=>∃n4 n5 n6 s0 q10 l13 l14,v4=.agg #[Iv n4,Iv n5,Iv n6,.string s0,.slice q10 l13 l14]∧Fs S w [] w7∧aa_ PR 9 #[.pointer q3,.agg #[Iv n4,Iv n5,Iv n6,.string s0,.slice q10 l13 l14]] w7 λv5 w8=>∃b2 v6,v5=.tuple #[.bool b2,v6]∧(b2=true→Fs S w [] w8∧(v6=.nilIface→∃l15,l15<l12∧I0 (IntKind.wrap .i64 (n3+1)) l15 w8)∧(∀x0 v7,v6=.iface x0 v7→K (.bool false) w8)∧(v6=.nilIface∨∃l16 v8,v6=.iface l16 v8))∧(b2=false→Fs S w [] w8∧K (.bool false) w8))∧(¬(n3<(l9:Int))→aa_ PR 11 #[.pointer q3] w6 λv9 w9=>∃b3,v9=.bool b3∧(b3=true→Fs S w [] w9∧K (.bool true) w9)∧(b3=false→Fs S w [] w9∧K (.bool false) w9))))∧(¬(n2=0)→K (.bool false) w4))∧(¬(n1=2)→K (.bool false) w4))∧(¬((l5:Int)=(l7:Int))→K (.bool false) w4))∧(b0=false→Fs S w [] w2∧K (.bool false) w2)):aa_ PR 5 ⟨[]⟩ w K:=
 ab_ (okf:=⟨okL,[]⟩) ag_ (args:=[]) (H:=[]) (.s .z (.s (.r ⟨(some []),false,[],[]⟩) (.s .z (.s (.r ⟨(some []),false,[],[]⟩) (.s .z (.s (.r ⟨(some []),false,[],[(2,[999])]⟩) (.s (.s (.r ⟨(some []),false,[],[]⟩) .z) (.s (.s .z (.b (.l (some []) (some []) [(64,.c (.int .i64))] [] (.s .z (.s .z (.s (.b (.s .z (.s (.r ⟨(some []),false,[],[(6,[999])]⟩) .z))) .z)))))) (.s (.r ⟨(some []),false,[],[]⟩) .z))))))))) Go.Proofs.Tryz.func5 rfl trivial trivial (Fr.init S w) trivial (ac_ (by kernel_rfl) h)
end Go.Vc
namespace Go.Vc
open Go Go.MapKept
structure FS where
 b:Nat
 wt:WS
 h:HS
 ver:Int
 tr:Nat
 trs:List (Int × Int)
def feC (f:FS):Array Value:=#[.pointer (some ⟨f.wt.b,0,none⟩),.pointer (some ⟨f.h.bh,0,none⟩),.int .i64 f.ver,.map (some f.tr)]
structure aL_ (w:World) (f:FS):Prop where
 blk:w.heap[f.b]? = some (.cells (feC f) T.bN_ (0,0))
 wat:WAt w f.wt
 hat:ax_ w f.h
 tm:MapI w f.tr (aI f.trs)
 dwh:∀k,wS f.wt k→¬hA f.h k
 dth:¬hA f.h f.tr
 dtw:¬wS f.wt f.tr
 dbh:¬hA f.h f.b
 dbw:¬wS f.wt f.b
def feS (f:FS):Nat→Prop:=λk=>k=f.b∨wS f.wt k∨hS f.h k∨k=f.tr
def feA (f:FS):Nat→Prop:=λk=>k=f.b∨wS f.wt k∨hA f.h k∨k=f.tr
theorem aL_.keep {S:Nat→Prop} {w w':World} {f:FS} (H:aL_ w f) (g:Chg S w w') (hn:∀k,feA f k→¬S k):aL_ w' f:=
 ⟨g.get H.blk (hn _ (.inl rfl)),H.wat.keep g λk hk=>hn k (.inr (.inl hk)),H.hat.keep g λk hk=>hn k (.inr (.inr (.inl hk))),H.tm.keep g (hn _ (.inr (.inr (.inr rfl)))),H.dwh,H.dth,H.dtw,H.dbh,H.dbw⟩
theorem aL_.grow {w w':World} {f:FS} (H:aL_ w f) (g:Grow w w'):aL_ w' f:=H.keep g λ_ _ e=>e
theorem aL_.lt {w:World} {f:FS} (H:aL_ w f):∀k,feA f k→k<w.heap.size:=by
 rintro k (rfl | hk | hk | rfl)
 ·exact aj_ H.blk
 ·exact H.wat.lt k hk
 ·exact H.hat.lt k hk
 ·exact H.tm.lt
theorem aL_.fs {w:World} {f:FS} (H:aL_ w f):Fs (feS f) w [⟨f.b,feC f,T.bN_,true⟩] w:=(Fr.init _ w).entry H.blk (λx h=>by cases h) λ_=>.inl rfl
theorem aL_.bt {w:World} {f:FS} (H:aL_ w f):f.b≠f.tr:=H.tm.ne H.blk
theorem aL_.setW {w w':World} {f:FS} (H:aL_ w f) (g:Chg (wS f.wt) w w') {miss:Int→Prop} {askd:List (Int × Int)} (hw:WAt w' { f.wt with miss:=miss,askd:=askd }):aL_ w' { f with wt:={ f.wt with miss:=miss,askd:=askd } }:=
 ⟨g.get H.blk H.dbw,hw,H.hat.keep g λk hk e=>H.dwh k e hk,H.tm.keep g H.dtw,H.dwh,H.dth,H.dtw,H.dbh,H.dbw⟩
theorem jU_ {w:World} {f:FS} (H:aL_ w f) {K:Value→World→Prop} (hK:∀w' q c (L:List Int),Grow w w'→Sl w' q (L.map Iv)→(∀i,i∈L↔f.wt.miss i)→L.Pairwise (· < ·)→L.length≤4096→K (.slice q L.length c) w'):aa_ PR F.dB_ ⟨[.pointer (some ⟨f.b,0,none⟩)]⟩ w K:=by
 refine eN_ f.b (some ⟨f.wt.b,0,none⟩) (some ⟨f.h.bh,0,none⟩) f.ver (some f.tr) (feS f) K w H.fs ⟨.inl rfl,trivial⟩ ?_
 exact c7_ H.wat λw' q c L g h1 h2 h3 h4=>⟨_,_,_,rfl,H.fs.after g,hK w' q c L g h1 h2 h3 h4⟩
theorem f5_ {w:World} {f:FS} (H:aL_ w f) {K:Value→World→Prop} (h1:∀w',Grow w w'→(∀i,¬f.wt.miss i)→K (.bool true) w') (h2:∀w' i,Grow w w'→f.wt.miss i→K (.bool false) w'):aa_ PR F.e5_ ⟨[.pointer (some ⟨f.b,0,none⟩)]⟩ w K:=by
 refine gx_ f.b (some ⟨f.wt.b,0,none⟩) (some ⟨f.h.bh,0,none⟩) f.ver (some f.tr) (feS f) K w H.fs ⟨.inl rfl,trivial⟩ ?_
 refine jU_ H λw' q c L g hs hm hp hl=>⟨_,_,_,rfl,H.fs.after g,λh0=>h1 w' g λi hi=>?_,λh0=>?_⟩
 ·have:L=[]:=List.eq_nil_of_length_eq_zero (by omega)
  subst this
  exact absurd ((hm i).2 hi) (by simp)
 ·cases L with
  | nil=>exact absurd rfl h0
  | cons a L=>exact h2 w' a g ((hm a).1 List.mem_cons_self)
def FS.again (f:FS) (i:Int):FS:={ f with wt:={ f.wt with askd:=f.wt.askd.filter λp=>p.1 != i } }
theorem iM_ {w:World} {f:FS} (H:aL_ w f) {i:Int} (hi:bc_ i) {K:Value→World→Prop} (hK:∀w',aL_ w' (f.again i)→Chg (wS f.wt) w w'→K (.tuple #[]) w'):aa_ PR F.ci_ ⟨[.pointer (some ⟨f.b,0,none⟩),.int .i64 i]⟩ w K:=by
 have h0:=H.fs
 refine fV_ f.b (some ⟨f.wt.b,0,none⟩) (some ⟨f.h.bh,0,none⟩) f.ver (some f.tr) i (feS f) K w h0 ⟨.inl rfl,trivial⟩ ?_
 refine m7_ H.wat hi (λt ht=>⟨_,true,rfl,(λ_=>⟨h0,?_⟩),λh=>by cases h⟩) λhno=>⟨_,false,rfl,(λh=>by cases h),λ_=>⟨h0,?_⟩⟩
 ·have hmi:=H.wat.sub _ ht
  have hbd:=H.wat.sm i hmi
  refine jT_ H.wat hi (λw1 _ W1 c1=>⟨true,rfl,(λ_=>⟨h0.step c1 (λz hz e=>by simp at hz;subst hz;exact H.dbw e) (λk _ e=>.inr (.inl e)),λl0 hl0 w2 hF2=>?_⟩),λh=>by cases h⟩) λhn=>absurd hmi hn
  have g2:Grow w1 w2:=hF2.grow
  have s1:=c1.size
  have hmil:=H.wat.lt f.wt.mi (.inr (.inl rfl))
  refine gT_ (xs:=[i]) (W1.grow g2) (hF2.sl 1 rfl) (λa ha e=>by cases ha;have e':l0=f.wt.mi:=e;omega) (λx hx=>by simp at hx;subst hx;omega) (by simp) λw3 W3 c3=>⟨rfl,_,hF2.step c3 (λz hz e=>?_) (λk _ e=>.inr (.inl (.inr (.inl e)))),?_⟩
  ·have e':z.b=f.wt.mi:=e
   simp only [List.mem_cons,List.not_mem_nil,or_false] at hz
   rcases hz with rfl | rfl
   ·exact H.dbw (.inr (.inl e'))
   ·simp only [] at e';omega
  ·have c13:Chg (wS f.wt) w w3:=(c1.grow g2).trans c3 λk _ e=>.inr (.inl e)
   have W3':WAt w3 { f.wt with miss:=f.wt.miss,askd:=f.wt.askd.filter λp=>p.1 != i }:=by
    have hiff:∀n,((f.wt.miss n∧n≠i)∨n∈[i])↔f.wt.miss n:=λn=>by
     constructor
     ·rintro (h | h)
      ·exact h.1
      ·simp at h;subst h;exact hmi
     ·intro h
      by_cases e:n=i
      ·exact .inr (by simp [e])
      ·exact .inl ⟨h,e⟩
    exact ⟨W3.blk,W3.mm.cong hiff,W3.am,W3.ne,H.wat.sm,λp hp=>H.wat.sub p (List.mem_filter.1 hp).1,W3.win,W3.tmo⟩
   exact hK w3 (H.setW c13 W3') c13
 ·have e:f.wt.askd.filter (λp=>p.1 != i)=f.wt.askd:=by
   rw [List.filter_eq_self];intro p hp;simpa using hno p hp
  refine hK w ?_ (.refl _ _)
  unfold FS.again
  rw [e];exact H
structure aY_ (w:World) (f:FS) (v:HV):Prop where
 at_:aL_ w f
 mem:v∈f.h.vs
 ver:v.man.version=f.ver
 miss:∀i,f.wt.miss i↔i∈bj_ v
theorem aY_.grow {w w':World} {f:FS} {v:HV} (H:aY_ w f v) (g:Grow w w'):aY_ w' f v:=⟨H.at_.grow g,H.mem,H.ver,H.miss⟩
noncomputable def FS.put (f:FS) (j:JP) (v:HV) (i sl:Int) (t:List UInt8):FS:={ f with h:=f.h.putB j v i sl t,wt:={ f.wt with miss:=λn=>f.wt.miss n∧n≠i,askd:=f.wt.askd.filter λp=>p.1 != i } }
theorem oj_ {v:HV} {i sl:Int} {t:List UInt8} {n:Int} : n∈bj_ (v.putB i sl t)↔n∈bj_ v∧n≠i:=by
 rw [ba_,ba_]
 constructor
 ·rintro ⟨h1,h2⟩
  refine ⟨⟨h1,λp hp=>h2 p (List.mem_append_left _ hp)⟩,λe=>?_⟩
  exact h2 (i,sl,ay_ t) (List.mem_append_right _ (by simp)) (by rw [e])
 ·rintro ⟨⟨h1,h2⟩,hn⟩
  refine ⟨h1,λp hp=>?_⟩
  rcases List.mem_append.1 hp with hp | hp
  ·exact h2 p hp
  ·simp at hp;subst hp;exact λe=>hn e.symm
theorem q7_ {s:HS} {j:JP} {v:HV} {i sl:Int} {t:List UInt8} {N:Nat} (hv:v∈s.vs) (hh:∀k,hS (s.putB j v i sl t) k→hS s k∨N≤k):∀k,hA (s.putB j v i sl t) k→hA s k∨N≤k:=by
 rintro k (hk | ⟨x,hx,hk⟩)
 ·exact (hh k hk).imp .inl id
 ·rcases gH_ hx with rfl | ⟨hx',_⟩
  ·exact .inl (.inr ⟨v,hv,hk⟩)
  ·exact .inl (.inr ⟨x,hx',hk⟩)
theorem f4_ {w:World} {f:FS} {v:HV} (H:aY_ w f v) (hr:qr_ f.h) {m:MsgL} {y:Option Addr} {cy:Nat} (hs:Sl w y (m.proof.map sv8')) (htl:m.text.length≤1000000) (hf:bc_ f.ver∧bc_ m.i) {K:Value→World→Prop}
  (h0:∀w',Grow w w'→(m.ver≠f.ver∨m.kind≠3∧m.kind≠4)→K (.tuple #[.bool false,.nilIface]) w')
  (h4:∀w',aY_ w' (f.again m.i) v→Chg (feS f) w w'→m.ver=f.ver→m.kind=4→K (.tuple #[.bool false,.nilIface]) w')
  (hB:∀w' e c f',errP c e→(c=2∧f'=f∨c=11∧f'=f.again m.i)→m.ver=f.ver→m.kind=3→¬a__ m.i v.man.blocks (ay_ m.text) m.proof v.man.root→gL_ m.i v.man.blocks c→aY_ w' f' v→Chg (feS f) w w'→K (.tuple #[.bool false,e]) w')
  (hI:∀w',m.ver=f.ver→m.kind=3→a__ m.i v.man.blocks (ay_ m.text) m.proof v.man.root→(∃p∈v.bl,p.1=m.i)→Grow w w'→K (.tuple #[.bool false,.nilIface]) w')
  (hN:∀w' c,m.ver=f.ver→m.kind=3→a__ m.i v.man.blocks (ay_ m.text) m.proof v.man.root→(∀p∈v.bl,p.1≠m.i)→(c=7∧(∀k:Nat,k<f.h.d.sl.length→h2_ f.h k)∨c=6∧64<m.text.length)→Grow w w'→K (.tuple #[.bool false,.iface T.an_ (.int .i64 c)]) w')
  (hK:∀w' j sl,m.ver=f.ver→m.kind=3→a__ m.i v.man.blocks (ay_ m.text) m.proof v.man.root→(∀p∈v.bl,p.1≠m.i)→m.text.length≤64→aY_ w' (f.put j v m.i sl m.text) (v.putB m.i sl m.text)→Chg (feS f) w w'→(∀k,feA (f.put j v m.i sl m.text) k→feA f k∨w.heap.size≤k)→0≤sl→K (.tuple #[.bool true,.nilIface]) w') :
  aa_ PR F.a8_ ⟨[.pointer (some ⟨f.b,0,none⟩),oi_ m y cy]⟩ w K:=by
 have H0:=H.at_
 have hF0:=H0.fs
 have hbl:=aj_ H0.blk
 refine gw_ f.b (some ⟨f.wt.b,0,none⟩) (some ⟨f.h.bh,0,none⟩) f.ver (some f.tr) m.kind m.ver m.i (str m.text) y m.proof.length cy (feS f) K w hF0 ⟨.inl rfl,trivial⟩ λl0 hl0=>⟨λhver=>⟨λhk3 w0 hFa=>?_,λhn3=>⟨λhk4 w6 hFb=>?_,λhn4 w8 hFc=>h0 w8 hFc.grow (.inr ⟨hn3,hn4⟩)⟩⟩,λhne w9 hFd=>h0 w9 hFd.grow (.inl hne)⟩
 ·have g0:Grow w w0:=hFa.grow
  have HA:=H.grow g0
  have uq:∀u∈f.h.vs,u.man.version=m.ver→u=v:=λu hu e=>H0.hat.uniq hu H.mem (by rw [e,H.ver,hver])
  have s0:=g0.size
  refine pi_ (n:=m.ver) HA.at_.hat hr (by rw [hver];exact hf.1) hf.2 htl (hs.grow g0) (λw1 g1 hno=>absurd (H.ver.trans hver.symm) (hno v H.mem)) (λw1 u c e hu hun g1 he hnok hbad=>?_) (λw1 u hu hun g1 hok hin=>?_) (λw1 u hu hun g1 hok hnew hall=>?_) (λw1 u hu hun g1 hok hnew hgt=>?_) λw1 u j sl hu hun hok hnew hle hslu H1 c1 hst1=>?_
  ·have:=uq u hu hun
   subst this
   have hF1:=hFa.after g1
   refine ⟨e,rfl,hF1,(λh=>by obtain ⟨t,x,rfl⟩:=he.err;cases h),(λt x hx=>?_),.inr (by obtain ⟨t,x,h⟩:=he.err;exact ⟨t,x,h⟩)⟩
   have HB:=HA.grow g1
   have g01:=g0.trans g1
   have fin:∀w4,Grow w1 w4→c=11→aa_ PR F.ci_ #[.pointer (some ⟨f.b,0,none⟩),.int .i64 m.i] w4 (λv5 w5=>v5=.tuple #[]∧∃q0 q1 n0 q2,Fs (feS f) w [⟨f.b,#[.pointer q0,.pointer q1,.int .i64 n0,.map q2],T.bN_,true⟩,⟨l0,#[.int .i64 m.kind,.int .i64 m.ver,.int .i64 m.i,.string (str m.text),.slice y m.proof.length cy],T.q0_,true⟩] w5∧K (.tuple #[.bool false,e]) w5):=by
    intro w4 g4 h11
    have hF4:=hF1.after g4
    have HC:=HB.grow g4
    refine iM_ HC.at_ hf.2 λw5 H5 c5=>⟨rfl,_,_,_,_,hF4.step c5 (λz hz e=>?_) (λk _ e=>.inr (.inl e)),hB w5 e c (f.again m.i) he (.inr ⟨h11,rfl⟩) hver hk3 hnok hbad ⟨H5,H.mem,H.ver,H.miss⟩ ((g01.trans g4).chg.trans c5 λk _ e=>.inr (.inl e))⟩
    simp only [List.mem_cons,List.not_mem_nil,or_false] at hz
    rcases hz with rfl | rfl
    ·exact H0.dbw e
    ·have:=H0.wat.lt _ e
     simp only [] at this;omega
   rcases he with he | ⟨rfl,a,he⟩
   ·subst he
    rcases hbad with ⟨rfl,hb⟩ | ⟨rfl,hb⟩
    ·exact r1_ ⟨false,rfl,(λh=>by cases h),λ_=>⟨hF1,hB w1 _ 2 f (.inl rfl) (.inl ⟨rfl,rfl⟩) hver hk3 hnok (.inl ⟨rfl,hb⟩) HB g01.chg⟩⟩
    ·exact ph_ ⟨true,rfl,(λ_=>⟨hF1,fin w1 (.refl _ _) rfl⟩),λh=>by cases h⟩
   ·subst he
    exact nj_ λw4 g4=>⟨true,rfl,(λ_=>⟨hF1.after g4,fin w4 g4 rfl⟩),λh=>by cases h⟩
  ·have:=uq u hu hun
   subst this
   have hF1:=hFa.after g1
   refine ⟨_,rfl,hF1,λ_ w2 hF2=>?_,(λt x h=>by cases h),.inl rfl⟩
   have g2:Grow w w2:=(g0.trans g1).trans hF2.grow
   refine jT_ (H0.grow g2).wat hf.2 (λw3 hmi _ _=>?_) λ_=>⟨false,rfl,(λh=>by cases h),λ_=>⟨hF2.reset,hI w2 hver hk3 hok hin g2⟩⟩
   obtain ⟨p,hp,e⟩:=hin
   exact absurd e ((ba_.1 ((H.miss m.i).1 hmi)).2 p hp)
  ·have:=uq u hu hun
   subst this
   have hF1:=hFa.after g1
   exact ⟨_,rfl,hF1,(λh=>by cases h),(λt x _=>rZ_ ⟨false,rfl,(λh=>by cases h),λ_=>⟨hF1,hN w1 7 hver hk3 hok hnew (.inl ⟨rfl,hall⟩) (g0.trans g1)⟩⟩),.inr ⟨_,_,rfl⟩⟩
  ·have:=uq u hu hun
   subst this
   have hF1:=hFa.after g1
   exact ⟨_,rfl,hF1,(λh=>by cases h),(λt x _=>r0_ ⟨false,rfl,(λh=>by cases h),λ_=>⟨hF1,hN w1 6 hver hk3 hok hnew (.inr ⟨rfl,hgt⟩) (g0.trans g1)⟩⟩),.inr ⟨_,_,rfl⟩⟩
  ·have:=uq u hu hun
   subst this
   have hsA:∀k,hS f.h k→hA f.h k:=λk e=>.inl e
   have hF1:=hFa.step c1 (λz hz e=>by
    simp only [List.mem_cons,List.not_mem_nil,or_false] at hz
    rcases hz with rfl | rfl
    ·exact H0.dbh (.inl e)
    ·have:=H0.hat.lt _ (.inl e)
     simp only [] at this;omega) λk _ e=>.inr (.inr (.inl e))
   refine ⟨_,rfl,hF1,λ_ w2 hF2=>?_,(λt x h=>by cases h),.inl rfl⟩
   have c01:Chg (hS f.h) w w1:=g0.chg.trans c1 λ_ _ e=>e
   have c02:Chg (hS f.h) w w2:=c01.grow hF2.grow
   have W2:WAt w2 f.wt:=H0.wat.keep c02 λk hk e=>H0.dwh k hk (.inl e)
   have H2:=H1.grow hF2.grow
   have hmi:f.wt.miss m.i:=(H.miss m.i).2 (ba_.2 ⟨by
    obtain ⟨a,b,e1,e2,e3,_⟩:=hok
    omega,hnew⟩)
   have hgrow:∀k,hA (f.h.putB j u m.i sl m.text) k→hA f.h k∨w.heap.size≤k:=λk hk=>(q7_ hu hst1 k hk).imp id λe=>by omega
   refine jT_ W2 hf.2 (λw3 _ W3 c3=>⟨true,rfl,(λ_=>⟨hF2.reset.step c3 (λz hz e=>?_) (λk _ e=>.inr (.inl e)),?_⟩),λh=>by cases h⟩) λhn=>absurd hmi hn
   ·simp only [List.mem_cons,List.not_mem_nil,or_false] at hz
    rcases hz with rfl | rfl
    ·exact H0.dbw e
    ·have:=H0.wat.lt _ e
     simp only [] at this;omega
   ·have wlt:=H0.wat.lt
    have H3:ax_ w3 (f.h.putB j u m.i sl m.text):=H2.keep c3 λk hk e=>by
     rcases hgrow k hk with h | h
     ·exact H0.dwh k e h
     ·have:=wlt k e;omega
    have c03:Chg (feS f) w w3:=(c02.mono λk _ e=>.inr (.inr (.inl e))).trans c3 λk _ e=>.inr (.inl e)
    have trl:=H0.tm.lt
    have hsl0:0≤sl:=by
     have h5:=H1.sl (u.putB m.i sl m.text) (List.mem_map.2 ⟨u,hu,by rw [if_pos (by rfl)]⟩) (m.i,sl,ay_ m.text) (by simp [HV.putB])
     exact h5.1
    refine hK w3 j sl hver hk3 hok hnew hle ⟨⟨?_,W3,H3,?_,λk hk e=>?_,λe=>?_,H0.dtw,λe=>?_,H0.dbw⟩,List.mem_map.2 ⟨u,hu,by rw [if_pos (by rfl)]⟩,H.ver,λn=>?_⟩ c03 (λk hk=>?_) hsl0
    ·exact c3.get (c02.get H0.blk λe=>H0.dbh (.inl e)) H0.dbw
    ·exact (H0.tm.keep c02 λe=>H0.dth (.inl e)).keep c3 H0.dtw
    ·rcases hgrow k e with h | h
     ·exact H0.dwh k hk h
     ·have:=wlt k hk;omega
    ·rcases hgrow _ e with h | h
     ·exact H0.dth h
     ·have h':w.heap.size≤f.tr:=h
      omega
    ·rcases hgrow _ e with h | h
     ·exact H0.dbh h
     ·have h':w.heap.size≤f.b:=h
      omega
    ·rw [oj_,← H.miss n];exact Iff.rfl
    ·rcases hk with hk | hk | hk | hk
     ·exact .inl (.inl hk)
     ·exact .inl (.inr (.inl hk))
     ·exact (hgrow k hk).imp (λe=>.inr (.inr (.inl e))) id
     ·exact .inl (.inr (.inr (.inr hk)))
 ·have g0:Grow w w6:=hFb.grow
  have s0:=g0.size
  refine iM_ (H0.grow g0) hf.2 λw7 H7 c7=>⟨rfl,_,_,_,_,hFb.step c7 (λz hz e=>?_) (λk _ e=>.inr (.inl e)),h4 w7 ⟨H7,H.mem,H.ver,H.miss⟩ (g0.chg.trans c7 λk _ e=>.inr (.inl e)) hver hk4⟩
  simp only [List.mem_cons,List.not_mem_nil,or_false] at hz
  rcases hz with rfl | rfl
  ·exact H0.dbw e
  ·have:=H0.wat.lt _ e
   simp only [] at this;omega
end Go.Vc
namespace Go.Vc
open Go Go.MapKept
theorem lt_ {w:World} {v:HV} (h:HVAt w v):∀i∈bj_ v,0≤i∧i<4096:=λi hi=>by
 have:=(ba_.1 hi).1
 have:=h.ok.blocks.2
 omega
theorem kW_ {w:World} {b tr:Nat} {s:HS} {n:Int} {v:HV} (hb:w.heap[b]? = some (.cells #[.pointer none,.pointer (some ⟨s.bh,0,none⟩),.int .i64 n,.map (some tr)] T.bN_ (0,0))) (hs:ax_ w s) (hv:v∈s.vs) (hvn:v.man.version=n) (hn:bc_ n) {K:Value→World→Prop}
  (hK:∀w' wb mi ak,WAt w' ⟨wb,mi,ak,4,6,λi=>i∈bj_ v,[]⟩→w'.heap[b]? = some (.cells #[.pointer (some ⟨wb,0,none⟩),.pointer (some ⟨s.bh,0,none⟩),.int .i64 n,.map (some tr)] T.bN_ (0,0))→Chg (· = b) w w'→w.heap.size≤wb→w.heap.size≤mi→w.heap.size≤ak→K (.int .i64 (bj_ v).length) w') :
  aa_ PR F.ex_ ⟨[.pointer (some ⟨b,0,none⟩)]⟩ w K:=by
 have h0:Fs (· = b) w [⟨b,#[.pointer none,.pointer (some ⟨s.bh,0,none⟩),.int .i64 n,.map (some tr)],T.bN_,true⟩] w:=(Fr.init _ w).entry hb (λx h=>by cases h) λ_=>rfl
 have hbl:=aj_ hb
 refine fW_ b none (some ⟨s.bh,0,none⟩) n (some tr) (· = b) K w h0 ⟨rfl,trivial⟩ λw0 hF0=>?_
 have g0:Grow w w0:=hF0.grow
 refine jS_ (hs.grow g0) hn (λw1 u q c hu hun g1 ho hof=>⟨_,_,_,rfl,hF0.reset.after g1,λ_=>?_,λa h=>by cases h⟩) λw1 g1 hno=>absurd hvn (hno v hv)
 have:u=v:=hs.uniq hu hv (by rw [hun,hvn])
 subst this
 have hbd:=lt_ (hs.vs u hv)
 have hlen:=jj_ u u.man.blocks.toNat
 have hbk:=(hs.vs u hv).ok.blocks.2
 generalize hLe:bj_ u=L at ho hbd hK ⊢
 have hLl:L.length≤2048:=by rw [← hLe];unfold bj_;omega
 have s0:=g0.size
 have s1:=g1.size
 refine ns_ (by decide) (by decide) λw2 wb mi ak W2 g2 hb2 hmi2 hak2=>⟨_,_,rfl,(hF0.reset.after g1).after g2,λw3 hF3=>?_⟩
 have s2:=g2.size
 have c3:=hF3.stp
 have W3:WAt w3 ⟨wb,mi,ak,4,6,λ_=>False,[]⟩:=W2.keep c3 λk hk e=>by
  have e':k=b:=by simpa using e
  rcases hk with h | h | h <;> simp only [] at h <;> omega
 have hs3:Sl w3 q (L.map iv):=((ho.grow g2).keep c3 λa ha e=>by
  have e':a.block=b:=by simpa using e
  exact hof a ha (by show a.block<w0.heap.size;omega)).sl
 have s3:=c3.size
 refine aU_ λw4 rs hrs hm4 g4=>⟨_,rfl,hF3.reset.after g4,?_⟩
 have hrsl:=hm4.lt
 have wl3:=W3.lt
 have rsne:∀k,wS ⟨wb,mi,ak,4,6,λ_=>False,[]⟩ k→k≠rs:=λk hk e=>by have:=wl3 k hk;omega
 refine ⟨λi lv w'=>∃k:Nat,i=k∧k≤L.length∧lv=L.length - k∧aM_ w' rs (λj=>j∈L.take k)∧WAt w' ⟨wb,mi,ak,4,6,λ_=>False,[]⟩∧Sl w' q (L.map iv),⟨_,0,rfl,by omega,rfl,⟨[],hm4,(λp hp=>by cases hp),λj=>⟨(λ⟨p,hp,_⟩=>by cases hp),λh=>by simp at h⟩⟩,W3.grow g4,hs3.grow g4⟩,?_⟩
 rintro i D lv w5 ⟨k,rfl,hk,rfl,M5,W5,hs5⟩ hF5
 refine ⟨λhlt=>?_,λhge=>?_⟩
 ·have hk':k<L.length:=by omega
  have hb5:=hbd _ (List.getElem_mem hk')
  refine hs5.rd (v:=iv L[k]) (by simp) (by omega) (by simp [hk']) λa ha=>⟨_,ha,?_⟩
  refine M5.put ⟨by omega,by omega⟩ λw6 M6 c6 s6=>⟨hF5.step c6 (λz hz e=>by simp at hz;subst hz;have e':b=rs:=e;omega) (λj hj e=>by have e':j=rs:=e;omega),L.length - (k+1),by omega,k+1,wr1 (by omega),by omega,rfl,M6.cong λj=>?_,W5.keep c6 rsne,hs5.keep c6 λa ha e=>?_⟩
  ·rw [aA_ hk',List.mem_append,List.mem_singleton]
  ·have e':a.block=rs:=e
   rcases hs3 with h | ⟨b0,o0,e0,cs,T0,fz,hh,_⟩
   ·have:L=[]:=by simpa using h
    subst this;simp at hk'
   ·rw [e0] at ha;cases ha
    have:=aj_ hh
    simp only [] at e';omega
 ·have hkL:k=L.length:=by omega
  subst hkL
  refine c7_ W5 λw7 q7 c7 L7 g7 _ hm7 _ _=>⟨_,_,_,rfl,hF5.after g7,?_⟩
  have hL7:L7=[]:=by
   cases L7 with
   | nil=>rfl
   | cons x r=>exact absurd ((hm7 x).1 List.mem_cons_self) id
  subst hL7
  refine ⟨λi lv w'=>i=0∧WAt w' ⟨wb,mi,ak,4,6,λ_=>False,[]⟩∧Sl w' q (L.map iv),⟨0,rfl,W5.grow g7,hs5.grow g7⟩,?_⟩
  rintro i D1 lv w8 ⟨rfl,W8,hs8⟩ hF8
  refine ⟨λhlt=>absurd hlt (by simp),λ_=>?_⟩
  have hqn:∀a,q=some a→L≠[]→a.block<w1.heap.size:=λa ha _=>ho.lt a ha
  refine gT_ (xs:=L) W8 hs8 (λa ha e=>?_) hbd (by omega) λw9 W9 c9=>⟨rfl,hF8.step c9 (λz hz e=>by simp at hz;subst hz;have e':b=mi:=e;omega) (λj hj e=>by have e':j=mi:=e;omega),?_⟩
  ·have:=ho.lt a ha
   have e':a.block=mi:=e
   omega
  ·have hF9:=hF8.step c9 (λz hz e=>by simp at hz;subst hz;have e':b=mi:=e;omega) (λj hj e=>by have e':j=mi:=e;omega)
   exact hK w9 wb mi ak ⟨W9.blk,W9.mm.cong λj=>by simp,W9.am,W9.ne,λj hj=>hbd j hj,(λp hp=>by cases hp),W9.win,W9.tmo⟩ (hF9.blk 0 rfl) hF9.chg (by omega) (by omega) (by omega)
theorem pj_ {w:World} {s:HS} (hs:ax_ w s) {n:Int} (hn:bc_ n) {K:Value→World→Prop}
  (h1:∀w' f v,aY_ w' f v→f.h=s→f.ver=n→f.trs=[]→f.wt.askd=[]→f.wt.win=4→f.wt.tmo=6→Grow w w'→(∀k,feA f k→hA s k∨w.heap.size≤k)→K (.tuple #[.pointer (some ⟨f.b,0,none⟩),.nilIface]) w')
  (h2:∀w',Grow w w'→(∀v∈s.vs,v.man.version≠n)→K (.tuple #[.pointer none,.iface T.an_ (.int .i64 13)]) w'):aa_ PR F.hI_ ⟨[.pointer (some ⟨s.bh,0,none⟩),.int .i64 n]⟩ w K:=by
 have hF0:Fs S0 w [] w:=.init _ w
 refine hI_ (some ⟨s.bh,0,none⟩) n S0 K w ⟨(λh=>by cases h),λa0 ha0=>?_⟩
 refine ih_ hs hn (λw0 v q c hv hvn g0 ho=>⟨_,_,_,_,_,_,_,_,_,rfl,hF0.after g0,λl2 hl2=>⟨λ_ w1 hF1=>?_,(λt x h=>by cases h),.inl rfl⟩⟩) λw0 g0 hno=>⟨_,_,_,_,_,_,_,_,_,rfl,hF0.after g0,λl2 hl2=>⟨(λh=>by cases h),(λt x h w5 hF5=>h2 w5 (hF5.unM hl2).gr hno),.inr ⟨_,_,rfl⟩⟩⟩
 have hF1':=hF1.unM hl2
 have g1:Grow w w1:=hF1'.gr
 refine aU_ λw2 tr htr hm2 g2=>⟨_,rfl,hF1'.reset.after g2,λb hb w3 hF3=>?_⟩
 have g3:Grow w2 w3:=hF3.grow
 have s1:=g1.size
 have s2:=g2.size
 have s3:=g3.size
 have trl:=hm2.lt
 have hlt:=hs.lt
 refine kW_ (hF3.blk 0 rfl) (hs.grow ((g1.trans g2).trans g3)) hv hvn hn λw4 wb mi ak W4 hb4 c4 e1 e2 e3=>?_
 have hF4:=hF3.mod1 c4 hb4
 have hbl:=aj_ (hF3.blk 0 rfl)
 simp only [] at hbl
 have fresh:∀k,wS ⟨wb,mi,ak,4,6,λi=>i∈bj_ v,[]⟩ k→w3.heap.size≤k:=by
  rintro k (h | h | h) <;> simp only [] at h <;> omega
 refine ⟨_,rfl,_,_,_,_,hF4,h1 w4 ⟨b,⟨wb,mi,ak,4,6,λi=>i∈bj_ v,[]⟩,s,n,tr,[]⟩ v ⟨⟨hb4,W4,?_,?_,λk hk e=>?_,λe=>?_,λe=>?_,λe=>?_,λe=>?_⟩,hv,hvn,λi=>Iff.rfl⟩ rfl rfl rfl rfl rfl rfl hF4.gr λk hk=>?_⟩
 ·exact hs.grow hF4.gr
 ·exact (hm2.grow g3).keep c4 λe=>by have e':tr=b:=e;omega
 ·have:=fresh k hk;have:=hlt k e;omega
 ·have h:=hlt _ e;simp only [] at h;omega
 ·have h:=fresh _ e;simp only [] at h;omega
 ·have h:=hlt _ e;simp only [] at h;omega
 ·have h:=fresh _ e;simp only [] at h;omega
 ·rcases hk with h | h | h | h
  ·exact .inr (by simp only [] at h;omega)
  ·exact .inr (by have:=fresh k h;omega)
  ·exact .inl h
  ·exact .inr (by simp only [] at h;omega)
end Go.Vc
