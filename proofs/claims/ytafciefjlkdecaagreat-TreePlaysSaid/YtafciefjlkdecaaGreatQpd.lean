/-
  The walks of env's pointers as bytes, of a child's text, and of a builder's WriteByte. The walks of a child's text, and of a node's children and Right. The walks of a node's Right and Text. The walks of node.child and node.Parse. What stays where only some blocks turn: rows that hold texts. The laws' key and update. Trees in plain words: vertices, what they have, what may be. Trees in plain words: messages that are given to a vertex; a child in another's place. Trees in plain words: what is done to a vertex; it has what it had. Trees in plain words: parts and halves; each step keeps what may be, and what is. A shelf's map of blocks, by their addresses: what it tells, and what a store makes of it. A map by pointers that is only written. Trees in plain words: what is left to do; which blocks are known. Trees in plain words: which blocks are known, and gone; a root that rises. The walk of fetch, of a node. The walks of the laws' shelf: load, save.
-/
import Derived.Deep.Cut
import Derived.Maps.OwnOps
import Derived.Maps.OwnSet
import Derived.Shelf.Abstract
import Derived.Deep.DeepCutAuto
import Derived.Deep.CutBlock
import Derived.Deep.RegionHeld3
import Derived.BigQuiet
import Derived.Test.YtafciefjlkdecaaGreatQpc
set_option maxRecDepth 100000
set_option maxHeartbeats 16000000
namespace Go.Proofs.YtafciefjlkdecaaGreat
open Go.RowKit
attribute [local go_sem ↓] Go.wp_at_zero Go.wp_at_succ
theorem XF (w:World) (g:Nat) (hg:w.heap.size=g) (x:Value) (t:TypeId):∀j u,[x][j]? =some u->(w.alloc (.cells #[x] t)).cell? ((⟨g,0,none⟩:Addr).add j)=some u:=by
 subst hg
 exact cell_one_new w x t
theorem JoV (B b:Nat) (bs:List Value) (c:Int) (w:World) (h:IsB B b bs w) (hlen:bs.length+1<=140737488355328) (hBw:B<=w.heap.size):
  Calls Tryz.prog 136 #[.pointer (some ⟨b,0,none⟩),.int .u8 c] w fun e w'=>e=.returned .nilIface/\IsB B b (bs++[.int .u8 c]) w'/\Below B w w':=by
 obtain⟨i0,hi,hz0,hz1,hz2⟩:=info_parts Jjp
 go_enter Tryz.func136,Tryz.ntmps136
 go_wp2_with fail
 refine(Jhj B b bs _ h).mono ?_
 rintro e w1 ⟨rfl,h1,hb1⟩
 obtain⟨hB,v,hbk,hown,hne⟩:=h1
 have c0:w1.cell? ⟨b,0,none⟩=some (.pointer (some ⟨b,0,none⟩)):=by rw[Lib.cell_of_heap hbk];rfl
 have c1:w1.cell? ⟨b,1,none⟩=some v:=by rw[Lib.cell_of_heap hbk];rfl
 go_wp2_with (at_builtin;refine wpList_append_own _ rfl _ _ 22 rfl B 5 i0 (.int .u8 0) 1 1 Tryz.underlying22 hi hz0 hz1 hz2 rfl (by decide) _ _ _ rfl (hown.alloc _) ⟨w1.heap.size,0,none⟩ 1 1 [.int .u8 c] rfl rfl ?c1 ?c2 ?c3 ?c4 ?c5 ?_)
 case c1=>exact XF _ _ rfl _ _
 case c2=>intro u hu;simp at hu;subst hu;rfl
 case c3=>unfold maxLen;omega
 case c4=>omega
 case c5=>have:=hb1.size;simp;omega
 intro v' w2 hown' hgrow _
 have hlt:b<w1.heap.size:=by
  rcases Nat.lt_or_ge b w1.heap.size with h'|h'
  ·exact h'
  ·simp[Array.getElem?_eq_none h'] at hbk
 have hb2:w2.heap[b]? =some (.cells #[.pointer (some ⟨b,0,none⟩),v] 200 (0,0)):=by
  rw[hgrow.block b (by simp;omega) (fun e=>hne e.symm),Lib.alloc_old w1 _ b hlt]
  exact hbk
 have d0:w2.cell? ⟨b,0,none⟩=some (.pointer (some ⟨b,0,none⟩)):=by rw[Lib.cell_of_heap hb2];rfl
 have d1:w2.cell? ⟨b,1,none⟩=some v:=by rw[Lib.cell_of_heap hb2];rfl
 have f1:w2.frozen? ⟨b,1,none⟩=false:=Lib.frozen_of_heap hb2 1
 obtain⟨ao,n',cap,rfl⟩:∃ao n' cap,v'=.slice ao n' cap:=by
  rcases hown'.2 with⟨hv,_⟩|⟨g,cap,cur,hv,_⟩
  ·exact⟨_,_,_,hv⟩
  ·exact⟨_,_,_,hv⟩
 go_wp2_with fail
 go_ret
 refine⟨rfl,Or.inr ?_,?_⟩
 ·exact Lib.BuilderAt.put (T:=200) (e:=5) hB hb2 (bs':=bs++[.int .u8 c]) (by simpa using hown') (by decide)
 ·exact((hb1.alloc (by have:=hb1.size;omega) _).grown hgrow (by have:=hb1.size;simp;omega) (fun k hk=>(hown.lt k hk).1)).setCell (p:=⟨b,1,none⟩) hB _
def Jac (w:World) (b:Nat):Nat->List Value->World
 |_,[]=>w
 |o,y::ys=>Jac (w.setCell ⟨b,o,none⟩ y) b (o+1) ys
theorem Xk {b:Nat}:∀(ys:List Value) (o:Nat) (w:World),(∀i,i<ys.length->∃x,w.cell? ⟨b,o+i,none⟩=some x)->
  (∀i v,ys[i]? =some v->(Jac w b o ys).cell? ⟨b,o+i,none⟩=some v)/\(∀b' o',(b'≠b\/o'<o)->(Jac w b o ys).cell? ⟨b',o',none⟩=w.cell? ⟨b',o',none⟩)/\(Jac w b o ys).heap.size=w.heap.size/\(∀p,(Jac w b o ys).frozen? p=w.frozen? p)/\∀B w0,Below B w0 w->B<=b->Below B w0 (Jac w b o ys)
 |[],o,w,_=>⟨fun i v h=>by simp at h,fun _ _ _=>rfl,rfl,fun _=>rfl,fun _ _ h _=>h⟩
 |y::ys,o,w,h=>by
  obtain⟨h1,h2,h3,h4,h5⟩:=Xk (b:=b) ys (o+1) (w.setCell ⟨b,o,none⟩ y) (fun i hi=>by
   obtain⟨x,hx⟩:=h (i+1) (by simp;omega)
   exact⟨x,by rw[World.cell?_setCell_other _ _ _ _ (Jp (Or.inr (by omega)))];rw[<-hx];congr 2;omega⟩)
  refine⟨fun i v hv=> ?_,fun b' o' hb=> ?_,?_,fun p=> ?_,fun B w0 hB hb=> ?_⟩
  ·cases i with
   |zero=>
    obtain⟨x,hx⟩:=h 0 (by simp)
    simp only[List.getElem?_cons_zero,Option.some.injEq] at hv
    subst hv
    show(Jac (w.setCell ⟨b,o,none⟩ y) b (o+1) ys).cell? ⟨b,o,none⟩=some y
    rw[h2 b o (Or.inr (by omega))]
    exact World.cell?_setCell_same _ _ _ hx
   |succ i=>
    have:=h1 i v (by simpa using hv)
    show(Jac (w.setCell ⟨b,o,none⟩ y) b (o+1) ys).cell? ⟨b,o+(i+1),none⟩=some v
    rw[<-this];congr 2;omega
  ·show(Jac (w.setCell ⟨b,o,none⟩ y) b (o+1) ys).cell? ⟨b',o',none⟩=_
   rw[h2 b' o' (by omega),World.cell?_setCell_other _ _ _ _ (Jp (by omega))]
  ·show(Jac (w.setCell ⟨b,o,none⟩ y) b (o+1) ys).heap.size=_
   rw[h3,World.size_setCell]
  ·show(Jac (w.setCell ⟨b,o,none⟩ y) b (o+1) ys).frozen? p=_
   rw[h4,World.frozen?_setCell]
  ·exact h5 B w0 (hB.setCell (p:=⟨b,o,none⟩) hb _) hb
def Zw (a:Int):Prop:=0<=a/\a<=2147483647
instance (a:Int):Decidable (Zw a):=by unfold Zw;infer_instance
theorem Jfd (a:Int) (w:World):Calls Tryz.prog 181 #[.int .i64 a] w fun e w'=>e=.returned (.bool (decide (Zw a)))/\Below w.heap.size w w':=by
 by_cases h1:0<=a<;>by_cases h2:a<=2147483647
 all_goals
  go_enter Tryz.func181,Tryz.ntmps181
  go_wp2_with fail
  go_ret
  exact⟨by
   first
    |rw[decide_eq_true (show Zw a from⟨h1,h2⟩)];rfl
    |rw[decide_eq_false (show¬Zw a from fun h=>by obtain⟨q1,q2⟩:=h;omega)];rfl,Below.refl _ _⟩
theorem Xv (w:World):Calls Tryz.prog 175 #[] w fun e w'=>(∃b,e=.returned (.slice (some ⟨b,0,none⟩) 3 3)/\b<w'.heap.size/\∀x y z,JbO w' (some ⟨b,0,none⟩) [(4,x),(8,y),(4,z)])/\Below w.heap.size w w':=by
 go_enter Tryz.func175,Tryz.ntmps175
 go_wp2_with fail
 go_ret
 exact⟨⟨w.heap.size,rfl,by simp,fun x y z=>ZW w #[.int .i64 4,.int .i64 8,.int .i64 4] 3 (0,0) [(4,x),(8,y),(4,z)] rfl⟩,by go_grown⟩
theorem Jkx (a:Int) (g s:Nat) (w:World) (h:¬Zw a):
  Calls Tryz.prog 166 #[.agg #[.int .i64 a,.int .u64 g,.int .u32 s]] w fun e w'=>e=.returned (.tuple #[.string (S []),.bool false])/\Below w.heap.size w w':=by
 have HP:=Lib.hid (fun w=>Jfd a w)
 rw[decide_eq_false h] at HP
 clear h
 go_enter Tryz.func166,Tryz.ntmps166
 go_wp2_with fail
 refine(Jl (HP.out _) w.heap.size w (by go_grown) (by go_grown)).mono ?_
 rintro e w1 ⟨rfl,hX1,-,-,-,hz1⟩
 go_wp2_with fail
 go_ret2
 exact⟨rfl,hX1⟩
theorem Jkw (a g s:Nat) (w:World) (ha:a<=2147483647) (hg:g<18446744073709551616) (hs:s<4294967296):
  Calls Tryz.prog 166 #[.agg #[.int .i64 a,.int .u64 g,.int .u32 s]] w fun e w'=>e=.returned (.tuple #[.string (S (Jad a g s)),.bool true])/\Below w.heap.size w w':=by
 have HP:=Lib.hid (fun w=>Jfd (a:Int) w)
 rw[decide_eq_true (show Zw (a:Int) from⟨by omega,by omega⟩)] at HP
 have hwa:IntKind.u64.wrap (a:Int)=(a:Int):=by rw[IntKind.wrap_u64];omega
 have hws:IntKind.u64.wrap (s:Int)=(s:Int):=by rw[IntKind.wrap_u64];omega
 have HF:=Lib.hid (JhH (a:=a) (by omega) hg hs)
 go_enter Tryz.func166,Tryz.ntmps166
 go_wp2_with fail
 refine(Jl (HP.out _) w.heap.size w (by go_grown) (by go_grown)).mono ?_
 rintro e w1 ⟨rfl,hX1,hk1,-,hs1,hz1⟩
 have e0:w1.cell? ⟨w.heap.size,0,none⟩=some (.int .i64 a):=(hk1 w.heap.size 0 (by simp)).trans (by simp)
 have e1:w1.cell? ⟨w.heap.size,1,none⟩=some (.int .u64 g):=(hk1 w.heap.size 1 (by simp)).trans (by simp)
 have e2:w1.cell? ⟨w.heap.size,2,none⟩=some (.int .u32 s):=(hk1 w.heap.size 2 (by simp)).trans (by simp)
 have HX1:=Lib.hid hX1
 clear hk1 hX1 hs1
 go_upto_region 3 with(fail)
 go_region_held3 (fun w'=>w'.cell? ⟨w.heap.size,0,none⟩=some (.int .i64 a)/\w'.cell? ⟨w.heap.size,1,none⟩=some (.int .u64 g)/\w'.cell? ⟨w.heap.size,2,none⟩=some (.int .u32 s)/\Below w.heap.size w w')
  (with_reducible first|assumption|exact⟨Jj e0,Jj e1,Jj e2,Jb HX1.out⟩|exact HS2.out|exact⟨Jj (Jf _ e0),Jj (Jf _ e1),Jj (Jf _ e2),Jb (HX1.out.alloc hz1 _)⟩|(obtain⟨m0,m1,m2,m3⟩:=‹_/\_/\_/\Below _ _ _›;exact⟨Jf _ m0,Jf _ m1,Jf _ m2,m3.alloc m3.size _⟩))
  (first
   |(go_at_call 175;go_must (refine(Xv _).mono ?_;rintro e w2 ⟨⟨b,rfl,hb,hI⟩,hB2⟩;obtain⟨m0,m1,m2,m3⟩:=‹_/\_/\_/\Below _ _ _›;have HS2:=Lib.hid (And.intro (Ja hB2 m0) (And.intro (Ja hB2 m1) (And.intro (Ja hB2 m2) (m3.trans (hB2.mono m3.size)))));have HI:=Lib.hid hI;have HB2:=Lib.hid hB2;clear hB2 m0 m1 m2 m3 hI))
   |(go_at_call 158;(with_reducible show Calls _ _ _ (World.alloc _ _) _);go_must (refine(JbP (some ⟨b,0,none⟩) (some ⟨w2.heap.size,0,none⟩) 3 3 [(4,a),(8,g),(4,s)] _ ((HI.out a g s).kept (show Below w2.heap.size w2 (w2.alloc (.cells #[.int .u64 a,.int .u64 g,.int .u64 s] 25)) by go_grown) (Nat.le_refl _)) (JbW w2 _ _ _ [(4,a),(8,g),(4,s)] rfl) (Jbu a g s) HF.out (by simp)).mono ?_;rintro e w3 ⟨rfl,hB3⟩;obtain⟨m0,m1,m2,m3⟩:=HS2.out;have HL3:=Lib.hid ((m3.alloc m3.size (.cells #[.int .u64 a,.int .u64 g,.int .u64 s] 25)).trans (hB3.mono (by have:=m3.size;simp;omega)));have n0:=Ja hB3 (Jf (.cells #[.int .u64 a,.int .u64 g,.int .u64 s] 25) m0);have n1:=Ja hB3 (Jf (.cells #[.int .u64 a,.int .u64 g,.int .u64 s] 25) m1);have n2:=Ja hB3 (Jf (.cells #[.int .u64 a,.int .u64 g,.int .u64 s] 25) m2);have HS2:=Lib.hid (And.intro n0 (And.intro n1 (And.intro n2 HL3.out)));clear hB3 m0 m1 m2 m3 n0 n1 n2))
   |(go_at_call 158;go_must (refine(JbP (some ⟨b,0,none⟩) (some ⟨w1.heap.size,0,none⟩) 3 3 [(4,a),(8,g),(4,s)] w2 (HI.out a g s) ((JbW w1 #[.int .u64 a,.int .u64 g,.int .u64 s] 25 (0,0) [(4,a),(8,g),(4,s)] rfl).kept ((Jb (Below.refl _ _)).trans HB2.out) (Nat.le_refl _)) (Jbu a g s) HF.out (by simp)).mono ?_;rintro e w3 ⟨rfl,hB3⟩;obtain⟨m0,m1,m2,m3⟩:=HS2.out;have HL3:=Lib.hid (m3.trans (hB3.mono m3.size));have HS2:=Lib.hid (And.intro (Ja hB3 m0) (And.intro (Ja hB3 m1) (And.intro (Ja hB3 m2) HL3.out)));clear hB3 m0 m1 m2 m3)))
 all_goals
  go_wp2_with fail
  go_ret2
  exact⟨rfl,HL3.out⟩
theorem Jed {w:World} {ao:Option Addr} {a g s:Nat} (h:Jet w ao [(4,a),(8,g),(4,s)]):∃b o,ao=some ⟨b,o,none⟩/\b<w.heap.size/\w.cell? ⟨b,o,none⟩=some (.int .u64 a)/\w.cell? ⟨b,o+1,none⟩=some (.int .u64 g)/\w.cell? ⟨b,o+2,none⟩=some (.int .u64 s):=by
 obtain⟨b,o,rfl,hb,hc⟩:=h.at (by simp)
 refine⟨b,o,rfl,hb,?_,?_,?_⟩
 ·have:=hc 0 (by simp) 0 _ rfl;simpa using this
 ·have:=hc 1 (by simp) 0 _ rfl;simpa using this
 ·have:=hc 2 (by simp) 0 _ rfl;simpa using this
theorem Ji0 (a g s:Nat) (rest:List UInt8) (w:World) (ha:a<=2147483647) (hg:g<18446744073709551616) (hs:s<4294967296) (hl:rest.length<=1000000):
  Calls Tryz.prog 153 #[.string (S (Jad a g s++rest))] w fun e w'=>e=.returned (.tuple #[.agg #[.int .i64 a,.int .u64 g,.int .u32 s],.string (S rest),.bool true])/\Below w.heap.size w w':=by
 have hwa:IntKind.i64.wrap (a:Int)=(a:Int):=IntWalk.i64_in _ (by omega)
 have hws:IntKind.u32.wrap (s:Int)=(s:Int):=by rw[IntKind.wrap_u32];omega
 have HF:=Lib.hid (JhH (a:=a) (by omega) hg hs)
 have ha':¬(2147483647:Int)<(a:Int):=by omega
 have HPL:=Lib.hid (show Jad a g s++rest=Yx [(4,a),(8,g),(4,s)]++rest from rfl)
 generalize Jad a g s++rest=s0 at*
 go_enter Tryz.func153,Tryz.ntmps153
 go_upto_region 1 with(fail)
 have hX:Below w.heap.size w (w.alloc (.cells #[.int .i64 0,.int .u64 0,.int .u32 0] 54)):=by go_grown
 have HC:=Lib.hid (show(w.alloc (.cells #[.int .i64 0,.int .u64 0,.int .u32 0] 54)).cell? ⟨w.heap.size,0,none⟩=some (.int .i64 0)/\(w.alloc (.cells #[.int .i64 0,.int .u64 0,.int .u32 0] 54)).cell? ⟨w.heap.size,1,none⟩=some (.int .u64 0)/\(w.alloc (.cells #[.int .i64 0,.int .u64 0,.int .u32 0] 54)).cell? ⟨w.heap.size,2,none⟩=some (.int .u32 0) by refine⟨?_,?_,?_⟩<;>(rw[World.cell?_alloc_at _ _ _ _ rfl];rfl))
 have HG:=Lib.hid (show∀o,(w.alloc (.cells #[.int .i64 0,.int .u64 0,.int .u32 0] 54)).frozen? ⟨w.heap.size,o,none⟩=false from fun o=>World.frozen?_alloc_at _ _ _ _ rfl)
 obtain⟨W,hW⟩:∃W,W=w.alloc (.cells #[.int .i64 0,.int .u64 0,.int .u32 0] 54):=⟨_,rfl⟩
 have hWz:W.heap.size=w.heap.size+1:=by rw[hW];simp
 rw[<-hW] at hX HC HG⊢
 clear hW
 go_wp2_with fail
 refine(Xv W).mono ?_
 rintro e w1 ⟨⟨b,rfl,hb,hI⟩,hB1⟩
 go_wp2_with fail
 rw[HPL.out]
 refine(JbT (some ⟨b,0,none⟩) 3 [(4,a),(8,g),(4,s)] rest w1 (hI a g s) (Jbu a g s) HF.out (by simp) hl).mono ?_
 rintro e w2 ⟨⟨ao,c,rfl,hn⟩,hB2⟩
 obtain⟨nb,no,rfl,hnb,n0,n1,n2⟩:=Jed hn
 have hBW:=hB1.trans (hB2.mono hB1.size)
 have HL:=Lib.hid (hX.trans (hBW.mono hX.size))
 obtain⟨k0,k1,k2⟩:=HC.out
 have z0:=Ja hBW k0
 have z1:=Ja hBW k1
 have z2:=Ja hBW k2
 have g0:=((JB hBW).2 w.heap.size 0 (by omega)).trans (HG.out 0)
 have g1:=((JB hBW).2 w.heap.size 1 (by omega)).trans (HG.out 1)
 have g2:=((JB hBW).2 w.heap.size 2 (by omega)).trans (HG.out 2)
 clear hI hB1 hB2 hBW hX HC HG hn k0 k1 k2 hWz hb HF
 rw[<-HPL.out]
 go_upto_region 4 with(fail)
 go_region
 all_goals
  go_wp2_with fail
  obtain⟨s1,-,-,-,s5⟩:=Xk (b:=w.heap.size) [.int .i64 a,.int .u64 g,.int .u32 s] 0 w2 (fun i hi=>by
   rcases i with _|_|_|i
   ·exact⟨_,z0⟩
   ·exact⟨_,z1⟩
   ·exact⟨_,z2⟩
   ·simp at hi;omega)
  have hZ:Jac w2 w.heap.size 0 [.int .i64 a,.int .u64 g,.int .u32 s]=((w2.setCell ⟨w.heap.size,0,none⟩ (.int .i64 a)).setCell ⟨w.heap.size,1,none⟩ (.int .u64 g)).setCell ⟨w.heap.size,2,none⟩ (.int .u32 s):=rfl
  have t0:=s1 0 _ rfl
  have t1:=s1 1 _ rfl
  have t2:=s1 2 _ rfl
  have t5:=s5 _ _ HL.out (Nat.le_refl _)
  simp only[Nat.zero_add] at t0 t1 t2
  rw[<-hZ]
  generalize Jac w2 w.heap.size 0 [.int .i64 a,.int .u64 g,.int .u32 s]=Z at*
  exact bodyPost_ret (v:=.tuple #[.agg #[.int .i64 a,.int .u64 g,.int .u32 s],.string (S rest),.bool true]) (by simp[results,Tryz.results153,go_sem,t0,t1,t2]) rfl ⟨rfl,Jb t5⟩
theorem JhJ (a g s:Nat) (rest:List UInt8) (w:World) (ha:¬a<=2147483647) (ha2:a<4294967296) (hg:g<18446744073709551616) (hs:s<4294967296) (hl:rest.length<=1000000):
  Calls Tryz.prog 153 #[.string (S (Jad a g s++rest))] w fun e w'=>e=.returned (.tuple #[.agg #[.int .i64 0,.int .u64 0,.int .u32 0],.string (S []),.bool false])/\Below w.heap.size w w':=by
 have HF:=Lib.hid (JhH (a:=a) ha2 hg hs)
 have ha':(2147483647:Int)<(a:Int):=by omega
 have HPL:=Lib.hid (show Jad a g s++rest=Yx [(4,a),(8,g),(4,s)]++rest from rfl)
 generalize Jad a g s++rest=s0 at*
 go_enter Tryz.func153,Tryz.ntmps153
 go_upto_region 1 with(fail)
 have hX:Below w.heap.size w (w.alloc (.cells #[.int .i64 0,.int .u64 0,.int .u32 0] 54)):=by go_grown
 have HC:=Lib.hid (show(w.alloc (.cells #[.int .i64 0,.int .u64 0,.int .u32 0] 54)).cell? ⟨w.heap.size,0,none⟩=some (.int .i64 0)/\(w.alloc (.cells #[.int .i64 0,.int .u64 0,.int .u32 0] 54)).cell? ⟨w.heap.size,1,none⟩=some (.int .u64 0)/\(w.alloc (.cells #[.int .i64 0,.int .u64 0,.int .u32 0] 54)).cell? ⟨w.heap.size,2,none⟩=some (.int .u32 0) by refine⟨?_,?_,?_⟩<;>(rw[World.cell?_alloc_at _ _ _ _ rfl];rfl))
 have HG:=Lib.hid (show∀o,(w.alloc (.cells #[.int .i64 0,.int .u64 0,.int .u32 0] 54)).frozen? ⟨w.heap.size,o,none⟩=false from fun o=>World.frozen?_alloc_at _ _ _ _ rfl)
 obtain⟨W,hW⟩:∃W,W=w.alloc (.cells #[.int .i64 0,.int .u64 0,.int .u32 0] 54):=⟨_,rfl⟩
 have hWz:W.heap.size=w.heap.size+1:=by rw[hW];simp
 rw[<-hW] at hX HC HG⊢
 clear hW
 go_wp2_with fail
 refine(Xv W).mono ?_
 rintro e w1 ⟨⟨b,rfl,hb,hI⟩,hB1⟩
 go_wp2_with fail
 rw[HPL.out]
 refine(JbT (some ⟨b,0,none⟩) 3 [(4,a),(8,g),(4,s)] rest w1 (hI a g s) (Jbu a g s) HF.out (by simp) hl).mono ?_
 rintro e w2 ⟨⟨ao,c,rfl,hn⟩,hB2⟩
 obtain⟨nb,no,rfl,hnb,n0,n1,n2⟩:=Jed hn
 have hBW:=hB1.trans (hB2.mono hB1.size)
 have HL:=Lib.hid (hX.trans (hBW.mono hX.size))
 obtain⟨k0,k1,k2⟩:=HC.out
 have z0:=Ja hBW k0
 have z1:=Ja hBW k1
 have z2:=Ja hBW k2
 have g0:=((JB hBW).2 w.heap.size 0 (by omega)).trans (HG.out 0)
 have g1:=((JB hBW).2 w.heap.size 1 (by omega)).trans (HG.out 1)
 have g2:=((JB hBW).2 w.heap.size 2 (by omega)).trans (HG.out 2)
 clear hI hB1 hB2 hBW hX HC HG hn k0 k1 k2 hWz hb HF
 rw[<-HPL.out]
 go_wp2_with fail
 obtain⟨s1,-,-,-,s5⟩:=Xk (b:=w.heap.size) [.int .i64 0,.int .u64 0,.int .u32 0] 0 w2 (fun i hi=>by
  rcases i with _|_|_|i
  ·exact⟨_,z0⟩
  ·exact⟨_,z1⟩
  ·exact⟨_,z2⟩
  ·simp at hi;omega)
 have hZ:Jac w2 w.heap.size 0 [.int .i64 0,.int .u64 0,.int .u32 0]=((w2.setCell ⟨w.heap.size,0,none⟩ (.int .i64 0)).setCell ⟨w.heap.size,1,none⟩ (.int .u64 0)).setCell ⟨w.heap.size,2,none⟩ (.int .u32 0):=rfl
 have t0:=s1 0 _ rfl
 have t1:=s1 1 _ rfl
 have t2:=s1 2 _ rfl
 have t5:=s5 _ _ HL.out (Nat.le_refl _)
 simp only[Nat.zero_add] at t0 t1 t2
 rw[<-hZ]
 generalize Jac w2 w.heap.size 0 [.int .i64 0,.int .u64 0,.int .u32 0]=Z at*
 exact bodyPost_ret (v:=.tuple #[.agg #[.int .i64 0,.int .u64 0,.int .u32 0],.string (S []),.bool false]) (by simp[results,Tryz.results153,go_sem,t0,t1,t2];rfl) rfl ⟨rfl,t5⟩
theorem Jfk (s0:List UInt8) (w:World) (hs:s0.length<16):
  Calls Tryz.prog 153 #[.string (S s0)] w fun e w'=>e=.returned (.tuple #[.agg #[.int .i64 0,.int .u64 0,.int .u32 0],.string (S []),.bool false])/\Below w.heap.size w w':=by
 go_enter Tryz.func153,Tryz.ntmps153
 go_upto_region 1 with(fail)
 have hX:Below w.heap.size w (w.alloc (.cells #[.int .i64 0,.int .u64 0,.int .u32 0] 54)):=by go_grown
 have HC:=Lib.hid (show(w.alloc (.cells #[.int .i64 0,.int .u64 0,.int .u32 0] 54)).cell? ⟨w.heap.size,0,none⟩=some (.int .i64 0)/\(w.alloc (.cells #[.int .i64 0,.int .u64 0,.int .u32 0] 54)).cell? ⟨w.heap.size,1,none⟩=some (.int .u64 0)/\(w.alloc (.cells #[.int .i64 0,.int .u64 0,.int .u32 0] 54)).cell? ⟨w.heap.size,2,none⟩=some (.int .u32 0) by refine⟨?_,?_,?_⟩<;>(rw[World.cell?_alloc_at _ _ _ _ rfl];rfl))
 have HG:=Lib.hid (show∀o,(w.alloc (.cells #[.int .i64 0,.int .u64 0,.int .u32 0] 54)).frozen? ⟨w.heap.size,o,none⟩=false from fun o=>World.frozen?_alloc_at _ _ _ _ rfl)
 obtain⟨W,hW⟩:∃W,W=w.alloc (.cells #[.int .i64 0,.int .u64 0,.int .u32 0] 54):=⟨_,rfl⟩
 have hWz:W.heap.size=w.heap.size+1:=by rw[hW];simp
 rw[<-hW] at hX HC HG⊢
 clear hW
 go_wp2_with fail
 refine(Xv W).mono ?_
 rintro e w1 ⟨⟨b,rfl,hb,hI⟩,hB1⟩
 go_wp2_with fail
 refine(X0 (some ⟨b,0,none⟩) 3 [(4,0),(8,0),(4,0)] s0 w1 (hI 0 0 0) (Jbu 0 0 0) (by simp) (by simpa[Z0] using hs)).mono ?_
 rintro e w2 ⟨rfl,hw2⟩
 obtain rfl:w2=w1:=hw2.symm
 have hBW:=hB1
 have HL:=Lib.hid (hX.trans (hBW.mono hX.size))
 obtain⟨k0,k1,k2⟩:=HC.out
 have z0:=Ja hBW k0
 have z1:=Ja hBW k1
 have z2:=Ja hBW k2
 have g0:=((JB hBW).2 w.heap.size 0 (by omega)).trans (HG.out 0)
 have g1:=((JB hBW).2 w.heap.size 1 (by omega)).trans (HG.out 1)
 have g2:=((JB hBW).2 w.heap.size 2 (by omega)).trans (HG.out 2)
 clear hI hB1 hBW hX HC HG k0 k1 k2 hWz hb
 go_wp2_with fail
 obtain⟨s1,-,-,-,s5⟩:=Xk (b:=w.heap.size) [.int .i64 0,.int .u64 0,.int .u32 0] 0 w2 (fun i hi=>by
  rcases i with _|_|_|i
  ·exact⟨_,z0⟩
  ·exact⟨_,z1⟩
  ·exact⟨_,z2⟩
  ·simp at hi;omega)
 have hZ:Jac w2 w.heap.size 0 [.int .i64 0,.int .u64 0,.int .u32 0]=((w2.setCell ⟨w.heap.size,0,none⟩ (.int .i64 0)).setCell ⟨w.heap.size,1,none⟩ (.int .u64 0)).setCell ⟨w.heap.size,2,none⟩ (.int .u32 0):=rfl
 have t0:=s1 0 _ rfl
 have t1:=s1 1 _ rfl
 have t2:=s1 2 _ rfl
 have t5:=s5 _ _ HL.out (Nat.le_refl _)
 simp only[Nat.zero_add] at t0 t1 t2
 rw[<-hZ]
 generalize Jac w2 w.heap.size 0 [.int .i64 0,.int .u64 0,.int .u32 0]=Z at*
 exact bodyPost_ret (v:=.tuple #[.agg #[.int .i64 0,.int .u64 0,.int .u32 0],.string (S []),.bool false]) (by simp[results,Tryz.results153,go_sem,t0,t1,t2];rfl) rfl ⟨rfl,t5⟩
theorem JqY (s0:List UInt8) (h:16<=s0.length):∃a g s rest,a<4294967296/\g<18446744073709551616/\s<4294967296/\s0=Jad a g s++rest:=by
 obtain⟨ps,rest,h1,h2,h3⟩:=Jl7 [4,8,4] s0 (by simpa using h)
 match ps,h1 with
 |[(_,a),(_,g),(_,s)],h1=>
  simp only[List.map_cons,List.map_nil,List.cons.injEq,and_true] at h1
  obtain⟨rfl,rfl,rfl⟩:=h1
  exact⟨a,g,s,rest,h2 (4,a) (by simp),h2 (8,g) (by simp),h2 (4,s) (by simp),h3⟩
theorem JhK (s0:List UInt8) (w:World) (hl:s0.length<=1000000):
  Calls Tryz.prog 153 #[.string (S s0)] w fun e w'=>((∃a g s rest,a<=2147483647/\g<18446744073709551616/\s<4294967296/\s0=Jad a g s++rest/\e=.returned (.tuple #[.agg #[.int .i64 (a:Nat),.int .u64 (g:Nat),.int .u32 (s:Nat)],.string (S rest),.bool true]))\/((∀a g s rest,a<=2147483647->g<18446744073709551616->s<4294967296->s0≠Jad a g s++rest)/\e=.returned (.tuple #[.agg #[.int .i64 0,.int .u64 0,.int .u32 0],.string (S []),.bool false])))/\Below w.heap.size w w':=by
 by_cases h:16<=s0.length
 ·obtain⟨a,g,s,rest,ha,hg,hs,rfl⟩:=JqY s0 h
  have hr:rest.length<=1000000:=by rw[List.length_append] at hl;omega
  by_cases hp:a<=2147483647
  ·exact(Ji0 a g s rest w hp hg hs hr).mono fun e w' ⟨he,hb⟩=>⟨Or.inl ⟨a,g,s,rest,hp,hg,hs,rfl,he⟩,hb⟩
  ·refine(JhJ a g s rest w hp ha hg hs hr).mono fun e w' ⟨he,hb⟩=>⟨Or.inr ⟨fun a' g' s' rest' ha' hg' hs' e'=> ?_,he⟩,hb⟩
   obtain⟨h1,-⟩:=List.append_inj e' (by rw[X1,X1])
   obtain⟨h2,-⟩:=JiR ha hg hs (by omega) hg' hs' h1
   omega
 ·refine(Jfk s0 w (by omega)).mono fun e w' ⟨he,hb⟩=>⟨Or.inr ⟨fun a' g' s' rest' ha' hg' hs' e'=> ?_,he⟩,hb⟩
  rw[e',List.length_append,X1] at h
  omega
open Go.RowKit
attribute [local go_sem ↓] Go.wp_at_zero Go.wp_at_succ
theorem Jgg (s:List UInt8) (hs:¬s.length<=255) (w:World):
  Calls Tryz.prog 104 #[.string (S s)] w fun e w'=>e=.returned (.tuple #[.string (S []),.bool false])/\Below w.heap.size w w':=by
 have h1:(255:Int)<(s.length:Int):=by omega
 go_enter Tryz.func104,Tryz.ntmps104
 go_wp2_with fail
 go_ret2
 exact⟨rfl,by go_grown⟩
theorem JfS (c:Chd) (w:World) (hg:c.gen<18446744073709551616) (hs:c.sum<4294967296) (hl:c.low.length<=1000000):
  Calls Tryz.prog 137 #[.agg #[.string (S c.low),.int .i64 c.addr,.int .u64 c.gen,.int .u32 c.sum]] w fun e w'=>(∃s b,e=.returned (.tuple #[.string (S s),.bool b])/\(b=true↔c.low.length<=255/\Zw c.addr)/\(b=true->s=chT c))/\Below w.heap.size w w':=by
 obtain⟨low,addr,gen,sum⟩:=c
 dsimp only at hg hs hl⊢
 have hT:chT ⟨low,addr,gen,sum⟩=Yo low++Jad addr.toNat gen sum:=rfl
 rw[hT]
 clear hT
 by_cases hp:Zw addr
 case' pos=>
  obtain⟨a,rfl⟩:=Int.eq_ofNat_of_zero_le hp.1
  have ha:a<=2147483647:=by have:=hp.2;omega
  have HP:=Lib.hid (fun w=>Jkw a gen sum w ha hg hs)
  obtain⟨P,hP⟩:∃P,P=Jad a gen sum:=⟨_,rfl⟩
  have hPl:P.length=16:=by rw[hP,X1]
  obtain⟨bp,hbp⟩:∃bp,bp=true:=⟨_,rfl⟩
  have hbi:bp=true↔Zw (a:Int):=by simp[hbp,hp]
  rw[show((a:Nat):Int).toNat=a by simp,<-hP]
  rw[<-hP,<-hbp] at HP
  have HPP:=Lib.hid (show bp=true->P=P from fun _=>rfl)
  obtain⟨A,hA⟩:∃A:Int,A=(a:Int):=⟨_,rfl⟩
  obtain⟨P0,hP0⟩:∃P0,P0=P:=⟨_,rfl⟩
  rw[show(bp=true->P=P)=(bp=true->P0=P) by rw[hP0]] at HPP
  rw[<-hP0]
  clear hbp ha hp hP
  rw[<-hA] at hbi HP⊢
  clear hA
 case' neg=>
  have HP:=Lib.hid (fun w=>Jkx addr gen sum w hp)
  obtain⟨P,hP⟩:∃P:List UInt8,P=[]:=⟨_,rfl⟩
  have hPl:P.length<=16:=by rw[hP];simp
  obtain⟨bp,hbp⟩:∃bp,bp=false:=⟨_,rfl⟩
  have hbi:bp=true↔Zw addr:=by simp[hbp,hp]
  rw[<-hP,<-hbp] at HP
  have HPP:=Lib.hid (show bp=true->Jad addr.toNat gen sum=P from fun h=>by rw[hbp] at h;cases h)
  obtain⟨A,hA⟩:∃A:Int,A=addr:=⟨_,rfl⟩
  obtain⟨P0,hP0⟩:∃P0,P0=Jad addr.toNat gen sum:=⟨_,rfl⟩
  rw[<-hP0] at HPP⊢
  clear hbp hp hP hP0
  rw[<-hA] at hbi HP⊢
  clear hA
 all_goals
  have HBI:=Lib.hid hbi
  clear hbi
  by_cases hlo:low.length<=255
  case' pos=>
   have HJ:=Lib.hid (fun w=>Xa low hlo w)
   have hJl:(Yo low).length<=256:=by rw[YW];omega
   generalize Yo low=J at*
   obtain⟨bl,hbl⟩:∃bl,bl=true:=⟨_,rfl⟩
   rw[<-hbl] at HJ
   have HB:=Lib.hid (show bl=true↔low.length<=255 from by simp[hbl,hlo])
   have HJJ:=Lib.hid (show bl=true->J=J from fun _=>rfl)
   obtain⟨J0,hJ0⟩:∃J0,J0=J:=⟨_,rfl⟩
   rw[show(bl=true->J=J)=(bl=true->J0=J) by rw[hJ0]] at HJJ
   rw[show J++P0=J0++P0 by rw[hJ0]]
   clear hbl hlo hJ0
  case' neg=>
   have HJ:=Lib.hid (fun w=>Jgg low hlo w)
   obtain⟨J,hJ⟩:∃J:List UInt8,J=[]:=⟨_,rfl⟩
   have hJl:J.length<=256:=by rw[hJ];simp
   rw[<-hJ] at HJ
   generalize Yo low=J0 at*
   obtain⟨bl,hbl⟩:∃bl,bl=false:=⟨_,rfl⟩
   rw[<-hbl] at HJ
   have HB:=Lib.hid (show bl=true↔low.length<=255 from by simp[hbl,hlo])
   have HJJ:=Lib.hid (show bl=true->J0=J from fun h=>by rw[hbl] at h;cases h)
   clear hbl hlo hJ
  all_goals
   go_enter Tryz.func137,Tryz.ntmps137
   go_wp2_with fail
   refine(Jl (HJ.out _) w.heap.size w (by go_grown) (by go_grown)).mono ?_
   rintro e w1 ⟨rfl,hX1,hk1,-,-,hz1⟩
   have e0:w1.cell? ⟨w.heap.size,0,none⟩=some (.string (S low)):=(hk1 w.heap.size 0 (by simp)).trans (by simp)
   have e1:w1.cell? ⟨w.heap.size,1,none⟩=some (.int .i64 A):=(hk1 w.heap.size 1 (by simp)).trans (by simp)
   have e2:w1.cell? ⟨w.heap.size,2,none⟩=some (.int .u64 gen):=(hk1 w.heap.size 2 (by simp)).trans (by simp)
   have e3:w1.cell? ⟨w.heap.size,3,none⟩=some (.int .u32 sum):=(hk1 w.heap.size 3 (by simp)).trans (by simp)
   clear hk1
   go_wp2_with fail
   refine(Jl (HP.out _) w.heap.size w hX1 hz1).mono ?_
   rintro e w2 ⟨rfl,hX2,-,-,-,hz2⟩
   cases bl
   all_goals
    go_wp2_with fail
    go_ret2
    refine⟨⟨J++P,_,rfl,?_,?_⟩,hX2⟩
    ·rw[<-HB.out,<-HBI.out];simp
    ·intro h
     first
      |(cases h;done)
      |(rw[HJJ.out (by trivial),HPP.out h])
structure JdZ (e:Ending) (P:Prop):Prop where
 ex:∃r:Bool,e=.returned (.bool r)/\(r=true↔P)
theorem JdZ.yes {P:Prop} (h:P):JdZ (.returned (.bool true)) P:=⟨true,rfl,by simpa using h⟩
theorem JdZ.no {P:Prop} (h:¬P):JdZ (.returned (.bool false)) P:=⟨false,rfl,by simpa using h⟩
structure Jcf (cs:List Chd) (i:Nat) (h:i<cs.length):Prop where
 ok:Zi cs[i]
 first:i=0↔cs[i].low=[]
 next:∀h0:0<i,bl (cs[i-1]'(by omega)).low cs[i].low=true
theorem Je6 {α:Type} {key:α->List UInt8}:∀(l:List α),(∀i (h:i+1<l.length),bl (key (l[i]'(by omega))) (key l[i+1])=true)->Je key l
 |[],_=>List.Pairwise.nil
 |[a],_=>by unfold Je;simp
 |a::b::l,h=>by
  have h1:=Je6 (key:=key) (b::l) (fun i hi=>h (i+1) (by simpa using hi))
  have h0:=h 0 (by simp)
  unfold Je at h1⊢
  refine List.Pairwise.cons (fun c hc=> ?_) h1
  rcases List.mem_cons.1 hc with rfl|hc
  ·exact h0
  ·exact J4 h0 ((List.pairwise_cons.1 h1).1 c hc)
theorem Jmv {cs:List Chd} (hl:1<=cs.length/\cs.length<=16) (h:∀i (hi:i<cs.length),Jcf cs i hi):Xt cs:=by
 refine⟨hl,fun c hc=> ?_,fun c hc=> ?_,Je6 cs (fun i hi=> ?_)⟩
 ·obtain⟨i,hi,rfl⟩:=List.getElem_of_mem hc
  exact(h i hi).ok
 ·rw[List.getElem?_eq_getElem (by omega)] at hc
  injection hc with hc
  rw[<-hc]
  exact(h 0 (by omega)).first.1 rfl
 ·exact(h (i+1) hi).next (by omega)
theorem Xt.fine {cs:List Chd} (h:Xt cs) (i:Nat) (hi:i<cs.length):Jcf cs i hi:=by
 have hr:=h.rising
 unfold Je at hr
 have h0:cs[0]'(by omega)=cs[0]'(by omega):=rfl
 have hf:=h.first (cs[0]'(by omega)) (List.getElem?_eq_getElem (by omega))
 refine⟨h.ok _ (List.getElem_mem hi),⟨fun e=>by subst e;exact hf,fun e=> ?_⟩,fun h0=>List.pairwise_iff_getElem.1 hr (i-1) i (by omega) hi (by omega)⟩
 rcases Nat.eq_zero_or_pos i with h1|h1
 ·exact h1
 ·have:=List.pairwise_iff_getElem.1 hr 0 i (by omega) hi h1
  rw[e,Zm] at this
  exact absurd this (by simp)
theorem Jgv {cs:List Chd} {j:Nat} {hj:j<cs.length} (h:∀i (hi:i<cs.length),i<j->Jcf cs i hi) (hk:Jcf cs j hj):∀i (hi:i<cs.length),i<j+1->Jcf cs i hi:=fun i hi hlt=>by
 rcases Nat.lt_or_ge i j with h1|h1
 ·exact h i hi h1
 ·obtain rfl:i=j:=by omega
  exact hk
theorem Jia (v:Value) (cs:List Chd) (us:List Upd) (w:World) (h:JA w v cs us) (hl:cs.length<=1000) (hw:∀c∈cs,c.Wf) (hlo:∀c∈cs,c.low.length<=1000000):
  Calls Tryz.prog 156 #[v] w fun e w'=>JdZ e (Xt cs)/\Below w.heap.size w w':=by
 obtain⟨a,b,x,y,rfl,h1,-⟩:=h
 have hs:=h1.at
 have HW:=Lib.hid hw
 have HLO:=Lib.hid hlo
 clear h1 hw hlo
 go_enter Tryz.func156,Tryz.ntmps156
 go_upto_region 1 with(fail)
 have hX:Below w.heap.size w (w.alloc (.cells #[.slice a cs.length x,.slice b us.length y] 105)):=by go_grown
 have HP:=Lib.hid (show(w.alloc (.cells #[.slice a cs.length x,.slice b us.length y] 105)).cell? ⟨w.heap.size,0,none⟩=some (.slice a cs.length x) by rw[World.cell?_alloc_at _ _ _ _ rfl];rfl)
 obtain⟨W,hW⟩:∃W,W=w.alloc (.cells #[.slice a cs.length x,.slice b us.length y] 105):=⟨_,rfl⟩
 have hWz:W.heap.size=w.heap.size+1:=by rw[hW];simp
 rw[<-hW] at hX HP⊢
 clear hW
 have HX:=Lib.hid hX
 have hp:=HP.out
 clear hX
 go_wp2_with fail
 go_loopw [10] (fun i wr=>∃j:Nat,i=.int .i64 j/\j<=cs.length/\Hid (∀i (hi:i<cs.length),i<j->Jcf cs i hi)/\Hid (Below W.heap.size W wr)) (fun i _=>cs.length- (intOf i).toNat)
 case atStart=>exact⟨0,rfl,Nat.zero_le _,Lib.hid (fun i _ hi=>absurd hi (by omega)),Lib.hid (Below.refl _ _)⟩
 case round=>
  obtain⟨j,rfl,hj,HF,HB⟩:=hrel
  have hj0:(0:Int)<=(j:Int):=Int.natCast_nonneg _
  have hp1:=Ja HB.out hp
  by_cases hjl:j<cs.length
  ·have hj1:(j:Int)<(cs.length:Int):=by omega
   obtain⟨b0,off,rfl,hb,t0,t1,t2,t3⟩:=hs.cells4C j hjl
   have HBW:=Lib.hid (HX.out.trans (HB.out.mono (by omega)))
   have q0:=(Jh HBW.out hb _).trans t0
   have q1:=(Jh HBW.out hb _).trans t1
   have q2:=(Jh HBW.out hb _).trans t2
   have q3:=(Jh HBW.out hb _).trans t3
   have hwf:=HW.out _ (List.getElem_mem hjl)
   have hll:=HLO.out _ (List.getElem_mem hjl)
   have HT:=Lib.hid (fun w=>JfS cs[j] w hwf.gen hwf.sum hll)
   clear t0 t1 t2 t3
   obtain⟨c,hc⟩:∃c,c=cs[j]:=⟨_,rfl⟩
   rw[<-hc] at q0 q1 q2 q3 hwf hll HT
   have HC:=Lib.hid hc
   clear hc
   go_upto_region 4 with(fail)
   have hX4:Below wr.heap.size wr (wr.alloc (.cells #[.string (S c.low),.int .i64 c.addr,.int .u64 c.gen,.int .u32 c.sum] 179)):=by go_grown
   have HK:=Lib.hid (show(wr.alloc (.cells #[.string (S c.low),.int .i64 c.addr,.int .u64 c.gen,.int .u32 c.sum] 179)).cell? ⟨wr.heap.size,0,none⟩=some (.string (S c.low))/\(wr.alloc (.cells #[.string (S c.low),.int .i64 c.addr,.int .u64 c.gen,.int .u32 c.sum] 179)).cell? ⟨wr.heap.size,1,none⟩=some (.int .i64 c.addr)/\(wr.alloc (.cells #[.string (S c.low),.int .i64 c.addr,.int .u64 c.gen,.int .u32 c.sum] 179)).cell? ⟨wr.heap.size,2,none⟩=some (.int .u64 c.gen)/\(wr.alloc (.cells #[.string (S c.low),.int .i64 c.addr,.int .u64 c.gen,.int .u32 c.sum] 179)).cell? ⟨wr.heap.size,3,none⟩=some (.int .u32 c.sum) by refine⟨?_,?_,?_,?_⟩<;>(rw[World.cell?_alloc_at _ _ _ _ rfl];rfl))
   obtain⟨w1,hw1⟩:∃w1,w1=wr.alloc (.cells #[.string (S c.low),.int .i64 c.addr,.int .u64 c.gen,.int .u32 c.sum] 179):=⟨_,rfl⟩
   rw[<-hw1] at hX4 HK⊢
   have HB4:=Lib.hid (HB.out.trans (hX4.mono HB.out.size))
   clear hw1 hX4 q0 q1 q2 q3 HBW HB hp1
   obtain⟨k0,k1,k2,k3⟩:=HK.out
   go_wp2_with fail
   refine(HT.out w1).mono ?_
   rintro e w2 ⟨⟨s,ok,rfl,hok,-⟩,hB2⟩
   have d0:=Ja hB2 k0
   have HB2:=Lib.hid (HB4.out.trans (hB2.mono HB4.out.size))
   have dp:=Ja HB2.out hp
   have HBW:=Lib.hid (HX.out.trans (HB2.out.mono (by omega)))
   have HOK:=Lib.hid hok
   clear hok hB2 HB4 k0 k1 k2 k3 HK HT
   have hdj:j=0\/0<j:=by omega
   cases ok with
   |false=>
    have HN:=Lib.hid (show¬Xt cs from fun h=>by
     have hf:=h.fine j hjl
     have h1:=hf.ok.is.low
     have h2:=hf.ok.addr
     rw[<-HC.out] at h1 h2
     exact absurd (HOK.out.2 ⟨h1,h2⟩) (by simp))
    go_wp2_with fail
    go_big_region
    go_wp2_with fail
    exact bodyPost_ret (v:=.bool false) (by simp[results,Tryz.results156,go_sem]) rfl ⟨.no HN.out,Jb HBW.out⟩
   |true=>
    obtain⟨hl255,hpl⟩:=HOK.out.1 rfl
    by_cases h16:c.low.length<=16
    ·have h16':¬(16:Int)<(c.low.length:Int):=by omega
     have hd16:decide ((16:Int)<(c.low.length:Int))=false:=by simpa using h16'
     have HCO:=Lib.hid (show Zi c from⟨h16,hpl,hwf.gen,hwf.sum⟩)
     rcases hdj with rfl|hj0'
     ·cases he:c.low.isEmpty with
      |true=>
       have HK:=Lib.hid (Jgv (hj:=hjl) HF.out ⟨by rw[<-HC.out];exact HCO.out,⟨fun _=>by rw[<-HC.out];simpa using he,fun _=>rfl⟩,fun h0=>absurd h0 (by omega)⟩)
       go_wp2_with fail
       go_big_region
       go_wp2_with fail
       exact⟨⟨_,by go_num,by omega,HK,Lib.hid (Jb HB2.out)⟩,by simp[intOf];omega⟩
      |false=>
       have HN:=Lib.hid (show¬Xt cs from fun h=>by
        have hf:=(h.fine 0 hjl).first.1 rfl
        rw[<-HC.out] at hf
        rw[hf] at he
        exact absurd he (by simp))
       go_wp2_with fail
       go_big_region
       go_wp2_with fail
       exact bodyPost_ret (v:=.bool false) (by simp[results,Tryz.results156,go_sem]) rfl ⟨.no HN.out,Jb HBW.out⟩
     ·obtain⟨q,rfl⟩:∃q,j=q+1:=⟨j-1,by omega⟩
      have hq0:(((q:Int)+1)==0)=false:=beq_eq_false_iff_ne.2 (by omega)
      have hq1:decide (0<((q:Int)+1))=true:=decide_eq_true (by omega)
      have hq2:((((q+1:Nat):Int))==0)=false:=beq_eq_false_iff_ne.2 (by omega)
      have hq3:decide (0<(((q+1:Nat):Int)))=true:=decide_eq_true (by omega)
      cases he:c.low.isEmpty with
      |true=>
       have HN:=Lib.hid (show¬Xt cs from fun h=>by
        have hf:=(h.fine (q+1) hjl).first.2 (by rw[<-HC.out];simpa using he)
        omega)
       go_wp2_with fail
       go_big_region
       go_wp2_with fail
       exact bodyPost_ret (v:=.bool false) (by simp[results,Tryz.results156,go_sem]) rfl ⟨.no HN.out,Jb HBW.out⟩
      |false=>
       obtain⟨b1,off1,e1,hb1,u0,-,-,-⟩:=hs.cells4C q (by omega)
       simp only[Option.some.injEq,Addr.mk.injEq,and_true] at e1
       obtain⟨rfl,rfl⟩:=e1
       have p0:=(Jh HBW.out hb _).trans u0
       clear u0
       obtain⟨pr,hpr⟩:∃pr,pr=cs[q]:=⟨_,rfl⟩
       rw[<-hpr] at p0
       have HPR:=Lib.hid hpr
       clear hpr
       cases hbl:bl pr.low c.low with
       |true=>
        have HK:=Lib.hid (Jgv (hj:=hjl) HF.out ⟨by rw[<-HC.out];exact HCO.out,⟨fun h=>absurd h (by omega),fun h=>by rw[<-HC.out] at h;rw[h] at he;exact absurd he (by simp)⟩,fun h0=>by
         rw[<-HC.out]
         show bl cs[q].low c.low=true
         rw[<-HPR.out];exact hbl⟩)
        have hb1':Op.bytesLess c.low pr.low=false:=XG hbl
        have hb2':(pr.low==c.low)=false:=by simpa using ZY hbl
        have hb3':Op.bytesLess pr.low c.low=true:=hbl
        clear hbl
        go_wp2_with fail
        go_big_region
        go_wp2_with fail
        exact⟨⟨_,by go_num,by omega,HK,Lib.hid (Jb HB2.out)⟩,by simp[intOf];omega⟩
       |false=>
        have HN:=Lib.hid (show¬Xt cs from fun h=>by
         have hf:=(h.fine (q+1) hjl).next (by omega)
         rw[<-HC.out] at hf
         have hf':bl cs[q].low c.low=true:=hf
         rw[<-HPR.out,hbl] at hf'
         exact absurd hf' (by simp))
        have hb3':Op.bytesLess pr.low c.low=false:=hbl
        rcases JcO hbl with e|e
        ·have hb2':(pr.low==c.low)=true:=by simpa using e.symm
         clear hbl e
         go_wp2_with fail
         go_big_region
         go_wp2_with fail
         exact bodyPost_ret (v:=.bool false) (by simp[results,Tryz.results156,go_sem]) rfl ⟨.no HN.out,Jb HBW.out⟩
        ·have hb1':Op.bytesLess c.low pr.low=true:=e
         clear hbl e
         go_wp2_with fail
         go_big_region
         go_wp2_with fail
         exact bodyPost_ret (v:=.bool false) (by simp[results,Tryz.results156,go_sem]) rfl ⟨.no HN.out,Jb HBW.out⟩
    ·have h16':(16:Int)<(c.low.length:Int):=by omega
     have HN:=Lib.hid (show¬Xt cs from fun h=>by
      have hf:=(h.fine j hjl).ok.low
      rw[<-HC.out] at hf
      omega)
     go_wp2_with fail
     go_big_region
     go_wp2_with fail
     exact bodyPost_ret (v:=.bool false) (by simp[results,Tryz.results156,go_sem]) rfl ⟨.no HN.out,Jb HBW.out⟩
  ·obtain rfl:j=cs.length:=by omega
   by_cases h1:1<=cs.length
   ·by_cases h2:cs.length<=16
    ·have HR:=Lib.hid (Jmv ⟨h1,h2⟩ (fun i hi=>HF.out i hi hi))
     have h2':(cs.length:Int)<=16:=by omega
     go_wp2_with fail
     exact bodyPost_ret (v:=.bool true) (by simp[results,Tryz.results156,go_sem]) rfl ⟨.yes HR.out,HX.out.trans (HB.out.mono (by omega))⟩
    ·have HR:=Lib.hid (fun h:Xt cs=>h2 h.len.2)
     have h2':¬(cs.length:Int)<=16:=by omega
     go_wp2_with fail
     exact bodyPost_ret (v:=.bool false) (by simp[results,Tryz.results156,go_sem]) rfl ⟨.no HR.out,HX.out.trans (HB.out.mono (by omega))⟩
   ·have HR:=Lib.hid (fun h:Xt cs=>h1 h.len.1)
    go_wp2_with fail
    exact bodyPost_ret (v:=.bool false) (by simp[results,Tryz.results156,go_sem]) rfl ⟨.no HR.out,HX.out.trans (HB.out.mono (by omega))⟩
open Go.RowKit
attribute [local go_sem ↓] Go.wp_at_zero Go.wp_at_succ
theorem Jio (l:List Upd) (hw:∀u∈l,u.Wf):((∀u∈l,Xg u)/\Zb [] l=(YI l,0))\/((¬∀u∈l,Xg u)/\∃c:Nat,c≠0/\Zb [] l=([],c)):=by
 by_cases h:∀u∈l,u.check=0
 ·exact Or.inl ⟨fun u hu=>⟨hw u hu,h u hu⟩,by rw[JaN l [] h];simp⟩
 ·refine Or.inr ⟨fun k=>h fun u hu=>(k u hu).check,?_⟩
  have:∀(l:List Upd) (acc:List UInt8),(¬∀u∈l,u.check=0)->∃c:Nat,c≠0/\Zb acc l=([],c):=by
   intro l
   induction l with
   |nil=>intro acc h;exact absurd (fun u hu=>by simp at hu) h
   |cons u l ih=>
    intro acc h
    by_cases hc:u.check=0
    ·rw[Zb,if_pos hc]
     exact ih _ (fun k=>h fun x hx=>by
      rcases List.mem_cons.1 hx with rfl|hx
      ·exact hc
      ·exact k x hx)
    ·exact⟨u.check,hc,by rw[Zb,if_neg hc]⟩
  exact this l [] h
structure JbN (cs:List Chd) (us:List Upd):Prop where
 kids:Xt cs
 len:us.length<=64
 ok:∀u∈us,Xg u
theorem JbN.node {cs:List Chd} {us:List Upd} (h:JbN cs us) (hr:Je Upd.key us):YR cs us:=⟨h.kids,h.len,h.ok,hr⟩
theorem YR.right {cs:List Chd} {us:List Upd} (h:YR cs us):JbN cs us:=⟨h.kids,h.len,h.ok⟩
structure Jlr (cs:List Chd) (us:List Upd):Prop where
 lenC:cs.length<=1000
 lenU:us.length<=10000
 wfC:∀c∈cs,c.Wf
 low:∀c∈cs,c.low.length<=1000000
 wfU:∀u∈us,u.Wf
theorem Jcm (v:Value) (cs:List Chd) (us:List Upd) (w:World) (h:JA w v cs us) (hi:Jlr cs us):
  Calls Tryz.prog 117 #[v] w fun e w'=>JdZ e (JbN cs us)/\Below w.heap.size w w':=by
 have HCH:=Lib.hid (fun w' h=>Jia v cs us w' h hi.lenC hi.wfC hi.low)
 have HN:=Lib.hid h
 obtain⟨a,b,x,y,rfl,h1,h2⟩:=h
 obtain⟨ao,c,e,hs,-⟩:=id h2
 simp only[Value.slice.injEq] at e
 obtain⟨rfl,-,rfl⟩:=e
 have HBT:=Lib.hid (fun w' h=>Jer b us.length y us w' rfl h hi.lenU hi.wfU)
 have H2:=Lib.hid (Jio us hi.wfU)
 have HS:=Lib.hid hs
 clear hs h1 h2
 go_enter Tryz.func117,Tryz.ntmps117
 go_upto_region 1 with(fail)
 have hX:Below w.heap.size w (w.alloc (.cells #[.slice a cs.length x,.slice b us.length y] 105)):=by go_grown
 have HP:=Lib.hid (show(w.alloc (.cells #[.slice a cs.length x,.slice b us.length y] 105)).cell? ⟨w.heap.size,0,none⟩=some (.slice a cs.length x)/\(w.alloc (.cells #[.slice a cs.length x,.slice b us.length y] 105)).cell? ⟨w.heap.size,1,none⟩=some (.slice b us.length y) by refine⟨?_,?_⟩<;>(rw[World.cell?_alloc_at _ _ _ _ rfl];rfl))
 obtain⟨W,hW⟩:∃W,W=w.alloc (.cells #[.slice a cs.length x,.slice b us.length y] 105):=⟨_,rfl⟩
 rw[<-hW] at hX HP⊢
 clear hW
 obtain⟨p0,p1⟩:=HP.out
 go_wp2_with fail
 refine(HBT.out W (HS.out.kept hX (Nat.le_refl _))).mono ?_
 rintro e w1 ⟨rfl,hB1⟩
 have q0:=Ja hB1 p0
 have q1:=Ja hB1 p1
 have HL1:=Lib.hid (hX.trans (hB1.mono hX.size))
 clear hB1 hX p0 p1 HP HBT HS
 rcases H2.out with⟨hok,ht⟩|⟨hno,ec,hc0,ht⟩
 ·rw[ht]
  have HOK:=Lib.hid hok
  clear hok ht
  by_cases h64:us.length<=64
  ·have h64':(us.length:Int)<=64:=by omega
   go_wp2_with fail
   refine(XY b us.length y w1).mono ?_
   rintro e w2 ⟨rfl,hB2⟩
   have r0:=Ja hB2 q0
   have r1:=Ja hB2 q1
   have HL2:=Lib.hid (HL1.out.trans (hB2.mono HL1.out.size))
   clear hB2 q0 q1 HL1
   go_wp2_with fail
   refine(HCH.out w2 (HN.out.kept HL2.out (Nat.le_refl _))).mono ?_
   rintro e w3 ⟨⟨r,rfl,hr⟩,hB3⟩
   have HL3:=Lib.hid (HL2.out.trans (hB3.mono HL2.out.size))
   have HR:=Lib.hid (show r=true↔JbN cs us from⟨fun h=>⟨hr.1 h,h64,HOK.out⟩,fun h=>hr.2 h.kids⟩)
   clear hr hB3
   go_wp2_with fail
   exact bodyPost_ret (v:=.bool r) (by simp[results,Tryz.results117,go_sem]) rfl ⟨⟨r,rfl,HR.out⟩,HL3.out⟩
  ·have h64':¬(us.length:Int)<=64:=by omega
   have HR:=Lib.hid (show¬JbN cs us from fun h=>h64 h.len)
   go_wp2_with fail
   refine(XY b us.length y w1).mono ?_
   rintro e w2 ⟨rfl,hB2⟩
   have HL2:=Lib.hid (HL1.out.trans (hB2.mono HL1.out.size))
   clear hB2 q0 q1 HL1
   go_wp2_with fail
   exact bodyPost_ret (v:=.bool false) (by simp[results,Tryz.results117,go_sem]) rfl ⟨.no HR.out,HL2.out⟩
 ·rw[ht]
  have HR:=Lib.hid (show¬JbN cs us from fun h=>hno h.ok)
  have hc0':¬(ec:Int)=0:=by omega
  clear hno ht
  go_wp2_with fail
  exact bodyPost_ret (v:=.bool false) (by simp[results,Tryz.results117,go_sem]) rfl ⟨.no HR.out,HL1.out⟩
theorem Jgn (b:UInt8):Lib.byteCells [b]=[.int .u8 b.toNat]:=rfl
theorem Jjb (v:Value) (cs:List Chd) (us:List Upd) (w:World) (h:JA w v cs us) (hi:Jlr cs us) (hr:JbN cs us):
  Calls Tryz.prog 108 #[v] w fun e w'=>e=.returned (.tuple #[.string (S (Yl cs us)),.int .i64 0])/\Below w.heap.size w w':=by
 have HRT:=Lib.hid (fun w' h=>Jcm v cs us w' h hi)
 have HN:=Lib.hid h
 obtain⟨a,b,x,y,rfl,h1,h2⟩:=h
 obtain⟨ao,c,e,hs,-⟩:=id h2
 simp only[Value.slice.injEq] at e
 obtain⟨rfl,-,rfl⟩:=e
 have HBT:=Lib.hid (fun w' h=>Jer b us.length y us w' rfl h hi.lenU hi.wfU)
 rw[JaN us [] (fun u hu=>(hr.ok u hu).check)] at HBT
 have HC:=Lib.hid h1.at
 have HS:=Lib.hid hs
 have HR:=Lib.hid hr
 have hl16:=hr.kids.len
 have htu:=Jae us hr.ok
 have hul:=hr.len
 have hwrap:IntKind.u8.wrap (cs.length:Int)=(cs.length:Int):=by rw[IntKind.wrap_u8];omega
 have HTN:=Lib.hid (show Yl cs us=(UInt8.ofNat cs.length::Y9 cs)++YI us by simp[Yl])
 generalize Yl cs us=TN at*
 generalize YI us=TU at*
 clear hr hs h1 h2 hi
 go_enter Tryz.func108,Tryz.ntmps108
 go_upto_region 1 with(fail)
 have hX:Below w.heap.size w (w.alloc (.cells #[.slice a cs.length x,.slice b us.length y] 105)):=by go_grown
 have HP:=Lib.hid (show(w.alloc (.cells #[.slice a cs.length x,.slice b us.length y] 105)).cell? ⟨w.heap.size,0,none⟩=some (.slice a cs.length x)/\(w.alloc (.cells #[.slice a cs.length x,.slice b us.length y] 105)).cell? ⟨w.heap.size,1,none⟩=some (.slice b us.length y) by refine⟨?_,?_⟩<;>(rw[World.cell?_alloc_at _ _ _ _ rfl];rfl))
 obtain⟨W,hW⟩:∃W,W=w.alloc (.cells #[.slice a cs.length x,.slice b us.length y] 105):=⟨_,rfl⟩
 rw[<-hW] at hX HP⊢
 clear hW
 obtain⟨p0,p1⟩:=HP.out
 go_wp2_with fail
 refine(HRT.out W (HN.out.kept hX (Nat.le_refl _))).mono ?_
 rintro e w1 ⟨⟨r,rfl,hr⟩,hB1⟩
 obtain rfl:r=true:=hr.2 HR.out
 have HQ:=Lib.hid (And.intro (Ja hB1 p0) (Ja hB1 p1))
 have HL1:=Lib.hid (hX.trans (hB1.mono hX.size))
 have hz1:=HL1.out.size
 clear hB1 hX p0 p1 HP hr
 obtain⟨p0,p1⟩:=HQ.out
 go_upto_region 4 with(fail)
 have hI:=Lib.fresh_isBuilder 200 5 w1
 obtain⟨W2,hW2⟩:∃W2,W2=w1.alloc (.cells #[.pointer none,.slice none 0 0] 200):=⟨_,rfl⟩
 have hX2:Below w1.heap.size w1 W2:=by rw[hW2];go_grown
 have hW2z:W2.heap.size=w1.heap.size+1:=by rw[hW2];simp
 have HI:=Lib.hid (show IsB w1.heap.size w1.heap.size [] W2 by rw[hW2];exact hI)
 rw[<-hW2]
 clear hW2 hI
 have q0:=Ja hX2 p0
 have q1:=Ja hX2 p1
 go_wp2_with fail
 refine(JoV w1.heap.size w1.heap.size [] (cs.length:Nat) W2 HI.out (by simp) (by omega)).mono ?_
 rintro e w2 ⟨rfl,hI2,hB2⟩
 have HL2:=Lib.hid (hX2.trans hB2)
 have hz2:w1.heap.size+1<=w2.heap.size:=by have:=hB2.size;omega
 have HI2:=Lib.hid (show IsB w1.heap.size w1.heap.size (Lib.byteCells [UInt8.ofNat cs.length]) w2 by rw[Jgn,J7 (by omega)];simpa using hI2)
 clear hI2 hB2 q0 q1 HI hX2
 have q0:=Ja HL2.out p0
 have q1:=Ja HL2.out p1
 go_wp2_with fail
 go_loopw [22] (fun i wr=>∃j:Nat,i=.int .i64 j/\j<=cs.length/\Hid (IsB w1.heap.size w1.heap.size (Lib.byteCells (UInt8.ofNat cs.length::Y9 (cs.take j))) wr)/\Hid (Below w1.heap.size w1 wr)) (fun i _=>cs.length- (intOf i).toNat)
 case atStart=>exact⟨0,rfl,Nat.zero_le _,by simpa[Y9] using HI2,HL2⟩
 case round=>
  obtain⟨j,rfl,hj,HI,HB⟩:=hrel
  have hj0:(0:Int)<=(j:Int):=Int.natCast_nonneg _
  have hzr:=HB.out.size
  by_cases hjl:j<cs.length
  ·have hj1:(j:Int)<(cs.length:Int):=by omega
   obtain⟨b0,off,rfl,hb,t0,t1,t2,t3⟩:=HC.out.cells4C j hjl
   have HBW:=Lib.hid (HL1.out.trans (HB.out.mono hz1))
   have q0:=(Jh HBW.out hb _).trans t0
   have q1:=(Jh HBW.out hb _).trans t1
   have q2:=(Jh HBW.out hb _).trans t2
   have q3:=(Jh HBW.out hb _).trans t3
   have hok:=HR.out.kids.ok _ (List.getElem_mem hjl)
   have hST:=Lib.hid (JkY hjl)
   have hkl:=Jb2 (cs.take j) (fun c hc=>(HR.out.kids.ok c (List.mem_of_mem_take hc)).is.low)
   rw[List.length_take] at hkl
   clear t0 t1 t2 t3
   generalize cs[j]=c at*
   have hcl:=Jl1 c
   have hlo:=hok.low
   have HT:=Lib.hid (fun w=>JfS c w hok.gen hok.sum (by omega))
   have HOK:=Lib.hid (show c.low.length<=255/\Zw c.addr from⟨hok.is.low,hok.addr⟩)
   generalize hCT:chT c=CT at*
   clear hok hCT
   go_wp2_with fail
   have hX4:Below wr.heap.size wr (wr.alloc (.cells #[.string (S c.low),.int .i64 c.addr,.int .u64 c.gen,.int .u32 c.sum] 179)):=by go_grown
   refine(HT.out _).mono ?_
   rintro e w4 ⟨⟨s,ok,rfl,hok,hst⟩,hB4⟩
   obtain rfl:ok=true:=hok.2 HOK.out
   obtain rfl:s=CT:=hst rfl
   have hX5:=hX4.trans (hB4.mono hX4.size)
   have HI4:=Lib.hid (HI.out.on hX5)
   have HB4:=Lib.hid (HB.out.trans (hX5.mono hzr))
   have hz4:=HB4.out.size
   have HW:=Lib.hid (JdV w1.heap.size w1.heap.size _ (S s) w4 HI4.out (by rw[Lib.byteCells_length,XI,List.length_cons];omega) hz4)
   clear HI HB hX4 hX5 hB4 hok hst q0 q1 q2 q3 HT
   go_wp2_with fail
   refine(HW.out).mono ?_
   rintro e w5 ⟨rfl,hI5,hB5⟩
   rw[Jcw,<-Jav,List.cons_append,<-hST.out] at hI5
   have HI5:=Lib.hid hI5
   have HB5:=Lib.hid (HB4.out.trans hB5)
   clear hI5 hB5 HW HI4 HB4
   go_wp2_with fail
   go_roundw
   (case rel=>exact⟨j+1,by go_num,by omega,HI5,HB5⟩)
   (case measure=>first|(simp[intOf];done)|(simp[intOf];omega))
  ·obtain rfl:j=cs.length:=by omega
   rw[List.take_length] at HI
   have HBW:=Lib.hid (HL1.out.trans (HB.out.mono hz1))
   have q1:=Ja HB.out p1
   go_wp2_with fail
   refine(HBT.out wr (HS.out.kept HBW.out (Nat.le_refl _))).mono ?_
   rintro e w3 ⟨rfl,hB3⟩
   have HI3:=Lib.hid (HI.out.on hB3)
   have HL3:=Lib.hid (HBW.out.trans (hB3.mono HBW.out.size))
   have hz3:=hB3.size
   clear hB3 q1
   go_wp2_with fail
   refine(JcN w1.heap.size w1.heap.size _ w3 HI3.out (by omega)).mono ?_
   rintro e w4 ⟨rfl,hB4⟩
   have HL4:=Lib.hid (HL3.out.trans (hB4.mono (by have:=HL1.out.size;omega)))
   have hkl:=Jb2 cs (fun c hc=>(HR.out.kids.ok c hc).is.low)
   generalize Y9 cs=KT at*
   go_wp2_with fail
   go_ret2
   exact⟨by rw[HTN.out];simp;show S (UInt8.ofNat cs.length::KT)++S TU=_;rw[Jo3];rfl,HL4.out⟩
open Go.RowKit
attribute [local go_sem ↓] Go.wp_at_zero Go.wp_at_succ
abbrev ChV (low:List UInt8) (a:Int) (g s:Nat):Value:=.agg #[.string (S low),.int .i64 a,.int .u64 g,.int .u32 s]
inductive Jqv (s0:List UInt8) (v:Value):Prop
 |yes (c:Chd) (rest:List UInt8) (h1:Jab c) (h2:Zw c.addr) (h3:s0=chT c++rest) (h4:v=.tuple #[ChV c.low c.addr c.gen c.sum,.string (S rest),.bool true])
 |no (h:∀c rest,Jab c->Zw c.addr->s0≠chT c++rest) (low:List UInt8) (a:Int) (g s:Nat) (r:List UInt8) (h4:v=.tuple #[ChV low a g s,.string (S r),.bool false])
theorem Jmo {s0:List UInt8} (h:(Jr s0).2.2=false) (c:Chd) (rest:List UInt8) (hc:Jab c):s0≠chT c++rest:=fun e=>by
 have h1:=YE c.low (Jad c.addr.toNat c.gen c.sum++rest) hc.low
 rw[e] at h
 unfold chT at h
 rw[List.append_assoc,h1] at h
 exact absurd h (by simp)
theorem Jlj (s0:List UInt8) (w:World) (hl:s0.length<=1000000):
  Calls Tryz.prog 115 #[.string (S s0)] w fun e w'=>(∃v,e=.returned v/\Jqv s0 v)/\Below w.heap.size w w':=by
 have HS:=Lib.hid (fun w=>Jax s0 hl w)
 have HNO:=Lib.hid (@Jmo s0)
 have HOF:=Lib.hid (@JdA s0)
 have htl:(Jr s0).2.1.length<=1000000:=by have:=(Y3 s0).1;omega
 have hsv:Zt s0=.tuple #[.string (S (Jr s0).1),.string (S (Jr s0).2.1),.bool (Jr s0).2.2]:=rfl
 rw[hsv] at HS
 clear hsv
 generalize(Jr s0).1=f at*
 generalize(Jr s0).2.1=t at*
 generalize(Jr s0).2.2=o at*
 have HPP:=Lib.hid (fun w=>JhK t w htl)
 go_enter Tryz.func115,Tryz.ntmps115
 go_upto_region 1 with(fail)
 have hX:Below w.heap.size w (w.alloc (.cells #[.string ⟨#[]⟩,.int .i64 0,.int .u64 0,.int .u32 0] 179)):=by go_grown
 have HC:=Lib.hid (show(w.alloc (.cells #[.string ⟨#[]⟩,.int .i64 0,.int .u64 0,.int .u32 0] 179)).cell? ⟨w.heap.size,0,none⟩=some (.string ⟨#[]⟩)/\(w.alloc (.cells #[.string ⟨#[]⟩,.int .i64 0,.int .u64 0,.int .u32 0] 179)).cell? ⟨w.heap.size,1,none⟩=some (.int .i64 0)/\(w.alloc (.cells #[.string ⟨#[]⟩,.int .i64 0,.int .u64 0,.int .u32 0] 179)).cell? ⟨w.heap.size,2,none⟩=some (.int .u64 0)/\(w.alloc (.cells #[.string ⟨#[]⟩,.int .i64 0,.int .u64 0,.int .u32 0] 179)).cell? ⟨w.heap.size,3,none⟩=some (.int .u32 0) by refine⟨?_,?_,?_,?_⟩<;>(rw[World.cell?_alloc_at _ _ _ _ rfl];rfl))
 have HG:=Lib.hid (show∀o,(w.alloc (.cells #[.string ⟨#[]⟩,.int .i64 0,.int .u64 0,.int .u32 0] 179)).frozen? ⟨w.heap.size,o,none⟩=false from fun o=>World.frozen?_alloc_at _ _ _ _ rfl)
 obtain⟨W,hW⟩:∃W,W=w.alloc (.cells #[.string ⟨#[]⟩,.int .i64 0,.int .u64 0,.int .u32 0] 179):=⟨_,rfl⟩
 have hWz:W.heap.size=w.heap.size+1:=by rw[hW];simp
 rw[<-hW] at hX HC HG⊢
 clear hW
 go_wp2_with fail
 refine(HS.out W).mono ?_
 rintro e w1 ⟨rfl,hB1⟩
 go_wp2_with fail
 refine(HPP.out w1).mono ?_
 rintro e w2 ⟨hcase,hB2⟩
 have hBW:=hB1.trans (hB2.mono hB1.size)
 have HL:=Lib.hid (hX.trans (hBW.mono hX.size))
 obtain⟨k0,k1,k2,k3⟩:=HC.out
 have HZ:=Lib.hid (And.intro (Ja hBW k0) (And.intro (Ja hBW k1) (And.intro (Ja hBW k2) (Ja hBW k3))))
 have HZG:=Lib.hid (fun o=>((JB hBW).2 w.heap.size o (by omega)).trans (HG.out o))
 have hw2:w.heap.size<w2.heap.size:=by have:=hB1.size;have:=hB2.size;omega
 clear hB1 hB2 hBW hX HC HG k0 k1 k2 k3 hWz HS HPP
 have hu:∃(A:Int) (g s:Nat) (rest:List UInt8) (P:Bool),e=.returned (.tuple #[.agg #[.int .i64 A,.int .u64 g,.int .u32 s],.string (S rest),.bool P])/\Jqv s0 (.tuple #[ChV f A g s,.string (S rest),.bool (o&&P)]):=by
  rcases hcase with⟨a,g,s,rest,ha,hg,hs,hst,he⟩|⟨hno,he⟩
  ·refine⟨a,g,s,rest,true,he,?_⟩
   cases o with
   |true=>
    obtain⟨h1,h2⟩:=HOF.out rfl
    exact .yes ⟨f,a,g,s⟩ rest ⟨h2,⟨by show(0:Int)<=(a:Int);omega,by show(a:Int)<4294967296;omega⟩,hg,hs⟩ ⟨by show(0:Int)<=(a:Int);omega,by show(a:Int)<=2147483647;omega⟩ (by rw[h1,hst];unfold chT;simp) rfl
   |false=>exact .no (fun c rest' hc _=>HNO.out rfl c rest' hc) f a g s rest rfl
  ·refine⟨0,0,0,[],false,he,.no (fun c rest' hc hp hes=> ?_) f 0 0 0 [] (by simp)⟩
   cases o with
   |true=>
    obtain⟨h1,h2⟩:=HOF.out rfl
    rw[h1] at hes
    unfold chT at hes
    rw[List.append_assoc] at hes
    have e1:=YE f t h2
    rw[hes,YE _ _ hc.low] at e1
    simp only[Prod.mk.injEq,and_true] at e1
    have a1:=hp.1
    have a2:=hp.2
    exact hno c.addr.toNat c.gen c.sum rest' (by omega) hc.gen hc.sum e1.2.symm
   |false=>exact HNO.out rfl c rest' hc hes
 obtain⟨A,g,s,rest,P,rfl,hres⟩:=hu
 have HRES:=Lib.hid hres
 clear hcase hres HNO HOF
 cases o
 all_goals
  obtain⟨z0,z1,z2,z3⟩:=HZ.out
  have g0:=HZG.out 0
  have g1:=HZG.out 1
  have g2:=HZG.out 2
  have g3:=HZG.out 3
  go_upto_region 3 with(fail)
  have hX2:Below w2.heap.size w2 (w2.alloc (.cells #[.int .i64 A,.int .u64 g,.int .u32 s] 54)):=by go_grown
  have y0:=Ja hX2 z0
  have y1:=Ja hX2 z1
  have y2:=Ja hX2 z2
  have y3:=Ja hX2 z3
  go_wp2_with fail
  obtain⟨s1,-,s3,-,s5⟩:=Xk (b:=w.heap.size) [.string (S f),.int .i64 A,.int .u64 g,.int .u32 s] 0 w2 (fun i hi=>by
   rcases i with _|_|_|_|i
   ·exact⟨_,z0⟩
   ·exact⟨_,z1⟩
   ·exact⟨_,z2⟩
   ·exact⟨_,z3⟩
   ·simp at hi;omega)
  have hZ:Jac w2 w.heap.size 0 [.string (S f),.int .i64 A,.int .u64 g,.int .u32 s]=(((w2.setCell ⟨w.heap.size,0,none⟩ (.string (S f))).setCell ⟨w.heap.size,1,none⟩ (.int .i64 A)).setCell ⟨w.heap.size,2,none⟩ (.int .u64 g)).setCell ⟨w.heap.size,3,none⟩ (.int .u32 s):=rfl
  have t0:=s1 0 _ rfl
  have t1:=s1 1 _ rfl
  have t2:=s1 2 _ rfl
  have t3:=s1 3 _ rfl
  have t5:=s5 _ _ HL.out (Nat.le_refl _)
  simp only[Nat.zero_add] at t0 t1 t2 t3
  rw[<-hZ]
  generalize Jac w2 w.heap.size 0 [.string (S f),.int .i64 A,.int .u64 g,.int .u32 s]=Z at*
  have hres:=HRES.out
  simp only[Bool.false_and,Bool.true_and] at hres
  have hT:=t5.alloc (by omega) (.cells #[.int .i64 A,.int .u64 g,.int .u32 s] 54)
  have t0:=Jf (.cells #[.int .i64 A,.int .u64 g,.int .u32 s] 54) t0
  have t1:=Jf (.cells #[.int .i64 A,.int .u64 g,.int .u32 s] 54) t1
  have t2:=Jf (.cells #[.int .i64 A,.int .u64 g,.int .u32 s] 54) t2
  have t3:=Jf (.cells #[.int .i64 A,.int .u64 g,.int .u32 s] 54) t3
  generalize Z.alloc (.cells #[.int .i64 A,.int .u64 g,.int .u32 s] 54)=ZZ at*
  first
   |exact bodyPost_ret (v:=.tuple #[ChV f A g s,.string (S rest),.bool false]) (by simp[results,Tryz.results115,go_sem,t0,t1,t2,t3]) rfl ⟨⟨_,rfl,hres⟩,hT⟩
   |exact bodyPost_ret (v:=.tuple #[ChV f A g s,.string (S rest),.bool P]) (by simp[results,Tryz.results115,go_sem,t0,t1,t2,t3]) rfl ⟨⟨_,rfl,hres⟩,hT⟩
theorem JnP {w:World} {b:Nat} {x0 x1:Value} (y0 y1:Value) (r0:w.cell? ⟨b,0,none⟩=some x0) (r1:w.cell? ⟨b,1,none⟩=some x1) {Z:World} (hZ:Z=(w.setCell ⟨b,0,none⟩ y0).setCell ⟨b,1,none⟩ y1):
  Z.cell? ⟨b,0,none⟩=some y0/\Z.cell? ⟨b,1,none⟩=some y1/\∀B w0,Below B w0 w->B<=b->Below B w0 Z:=by
 subst hZ
 refine⟨?_,?_,fun B w0 hb hB=>(hb.setCell (p:=⟨b,0,none⟩) hB _).setCell (p:=⟨b,1,none⟩) hB _⟩
 ·rw[World.cell?_setCell_other _ _ _ _ (Jp (Or.inr (by decide)))];exact World.cell?_setCell_same _ _ _ r0
 ·exact World.cell?_setCell_same _ _ _ ((World.cell?_setCell_other _ _ _ _ (Jp (Or.inr (by decide)))).trans r1)
structure Jcp (E:TypeId) (w0 w:World) (p N:Nat) (cs:List Chd) (a:Option Addr) (y:Nat):Prop where
 c0:w.cell? ⟨N,0,none⟩=some (.slice a cs.length y)
 c1:w.cell? ⟨N,1,none⟩=some (.slice none 0 0)
 fz:∀o,w.frozen? ⟨N,o,none⟩=false
 r0:w.cell? ⟨p,0,none⟩=some (.slice none 0 0)
 r1:w.cell? ⟨p,1,none⟩=some (.slice none 0 0)
 rz:∀o,w.frozen? ⟨p,o,none⟩=false
 own:w.ownsRow (N+1) E 4 (.slice a cs.length y) cs.length (cellsC cs)
 below:Below p w0 w
 lt:p<N
theorem Jcp.ltN {E:TypeId} {w0 w:World} {p N:Nat} {cs:List Chd} {a:Option Addr} {y:Nat} (h:Jcp E w0 w p N cs a y):N<w.heap.size:=World.block_lt_of_cell? w _ h.c0
theorem Jcp.on {E:TypeId} {w0 w w':World} {p N:Nat} {cs:List Chd} {a:Option Addr} {y:Nat} (h:Jcp E w0 w p N cs a y) (hb:Below w.heap.size w w'):Jcp E w0 w' p N cs a y:=
 ⟨Ja hb h.c0,Ja hb h.c1,fun o=>((JB hb).2 _ o h.ltN).trans (h.fz o),Ja hb h.r0,Ja hb h.r1,fun o=>((JB hb).2 _ o (Nat.lt_trans h.lt h.ltN)).trans (h.rz o),Ji h.own hb,h.below.trans (hb.mono (Nat.le_of_lt (Nat.lt_trans h.lt h.ltN))),h.lt⟩
theorem Jcp.grown {E:TypeId} {w0 w w':World} {p N:Nat} {cs cs':List Chd} {a a':Option Addr} {y y':Nat} (h:Jcp E w0 w p N cs a y) (hg:w.grownBy w' (Value.slice a cs.length y).ownBlock) (ho:w'.ownsRow (N+1) E 4 (.slice a' cs'.length y') cs'.length (cellsC cs')):
  Jcp E w0 (w'.setCell ⟨N,0,none⟩ (.slice a' cs'.length y')) p N cs' a' y':=by
 have eN:some N≠(Value.slice a cs.length y).ownBlock:=fun e=>by have:=(h.own.lt N e.symm).1;omega
 have ep:some p≠(Value.slice a cs.length y).ownBlock:=fun e=>by have:=(h.own.lt p e.symm).1;have:=h.lt;omega
 have hN:=h.ltN
 have hp:=h.lt
 refine⟨World.cell?_setCell_same _ _ _ (hg.cell h.c0 eN),?_,fun o=> ?_,?_,?_,fun o=> ?_,?_,?_,h.lt⟩
 ·rw[World.cell?_setCell_other _ _ _ _ (Jp (Or.inr (by decide)))];exact hg.cell h.c1 eN
 ·rw[World.frozen?_setCell];exact(World.frozen?_of_block (hg.block N hN eN)).trans (h.fz o)
 ·rw[World.cell?_setCell_other _ _ _ _ (Jp (Or.inl (by omega)))];exact hg.cell h.r0 ep
 ·rw[World.cell?_setCell_other _ _ _ _ (Jp (Or.inl (by omega)))];exact hg.cell h.r1 ep
 ·rw[World.frozen?_setCell];exact(World.frozen?_of_block (hg.block p (by omega) ep)).trans (h.rz o)
 ·exact ownsRow_setCell_other (a:=⟨N,0,none⟩) ho (fun e=>by have:=(ho.lt N e).1;omega) _
 ·exact(Ju h.below hg (fun k e=>by have:=(h.own.lt k e).1;omega) (by omega)).setCell (p:=⟨N,0,none⟩) (Nat.le_of_lt hp) _
inductive Jqb (B:Nat) (s0:List UInt8) (w':World) (ev:Int->Value) (e:Ending):Prop
 |yes (cs:List Chd) (us:List Upd) (v:Value) (h1:s0=Yl cs us) (h2:YR cs us) (h3:e=.returned (.tuple #[v,ev 0])) (h4:JA w' v cs us) (h5:∃a y b z,v=.agg #[.slice a cs.length y,.slice b us.length z]/\w'.ownsRow B 179 4 (.slice a cs.length y) cs.length (cellsC cs)/\w'.ownsRow B 39 4 (.slice b us.length z) us.length (cellsU us))
 |no (h:∀cs us,YR cs us->s0≠Yl cs us) (h3:e=.returned (.tuple #[.agg #[.slice none 0 0,.slice none 0 0],ev 4]))
theorem Jgf (s0:List UInt8) (w:World) (hl:s0.length<=10000):
  Calls Tryz.prog 87 #[.string (S s0)] w fun e w'=>Jqb w.heap.size s0 w' (.int .i64) e/\Below w.heap.size w w':=by
 obtain⟨i0,hi,iz0,iz1,iz2⟩:=info_parts Jg0
 have HS0:=Lib.hid (show s0=s0 from rfl)
 by_cases h1:1<=s0.length
 ·obtain⟨k,r0,hk,hs⟩:=Jl8 1 s0 h1
  have hk':k<256:=by have:=hk (1,k) (by simp);simpa using this
  have hsk:s0=UInt8.ofNat k::r0:=by rw[hs];simp[Yx,le,List.range_succ,Nat.mod_eq_of_lt hk']
  have HK:=Lib.hid hk
  have hr0:r0.length<=10000:=by rw[hsk,List.length_cons] at hl;omega
  have HSK:=Lib.hid hsk
  have HS:=Lib.hid hs
  clear hk hs hsk h1 hl
  go_enter Tryz.func87,Tryz.ntmps87
  go_upto_region 1 with(fail)
  obtain⟨W,hW⟩:∃W,W=w.alloc (.cells #[.slice none 0 0,.slice none 0 0] 105):=⟨_,rfl⟩
  have hX:Below w.heap.size w W:=by rw[hW];go_grown
  have hWz:=Lib.hid (show W.heap.size=w.heap.size+1 by rw[hW];simp)
  have HR:=Lib.hid (show W.cell? ⟨w.heap.size,0,none⟩=some (.slice none 0 0)/\W.cell? ⟨w.heap.size,1,none⟩=some (.slice none 0 0)/\∀o,W.frozen? ⟨w.heap.size,o,none⟩=false by
   rw[hW];refine⟨?_,?_,fun o=>World.frozen?_alloc_at _ _ _ _ rfl⟩<;>(rw[World.cell?_alloc_at _ _ _ _ rfl];rfl))
  rw[<-hW]
  clear hW
  go_wp2_with fail
  rw[HS.out]
  have hX1:Below W.heap.size W (W.alloc (.cells #[.int .i64 1] 3)):=by go_grown
  refine(JbT (some ⟨W.heap.size,0,none⟩) 1 [(1,k)] r0 _ (ZW W #[.int .i64 1] 3 (0,0) [(1,k)] rfl) (Jcj 1 _ (by decide) (by decide)) HK.out (by simp) (by omega)).mono ?_
  rintro e w1 ⟨⟨ga,gc,rfl,hgn⟩,hB1⟩
  obtain⟨gb,go,rfl,hgb,hgc⟩:=hgn.at (by simp)
  have n0:w1.cell? ⟨gb,go,none⟩=some (.int .u64 (k:Nat)):=by have:=hgc 0 (by simp) 0 _ rfl;simpa using this
  have hXW:=hX1.trans (hB1.mono hX1.size)
  have HR1:=Lib.hid (And.intro (Ja hXW HR.out.1) (And.intro (Ja hXW HR.out.2.1) (fun o=>((JB hXW).2 w.heap.size o (by have:=hWz.out;omega)).trans (HR.out.2.2 o))))
  have HL1:=Lib.hid (hX.trans (hXW.mono hX.size))
  have hz1:w.heap.size+1<=w1.heap.size:=by have:=hXW.size;have:=hWz.out;omega
  clear hX1 hB1 hXW hgn hgc HR hX
  rw[<-HS.out]
  go_upto_region 5 with(fail)
  obtain⟨W4,hW4⟩:∃W4,W4=w1.alloc (.cells #[.slice none 0 0,.slice none 0 0] 105):=⟨_,rfl⟩
  have hX4:Below w1.heap.size w1 W4:=by rw[hW4];go_grown
  have HP:=Lib.hid (show Jcp 179 w W4 w.heap.size w1.heap.size [] none 0 from
   ⟨by rw[hW4,World.cell?_alloc_at _ _ _ _ rfl];rfl,by rw[hW4,World.cell?_alloc_at _ _ _ _ rfl];rfl,fun o=>by rw[hW4];exact World.frozen?_alloc_at _ _ _ _ rfl,Ja hX4 HR1.out.1,Ja hX4 HR1.out.2.1,fun o=>((JB hX4).2 w.heap.size o (by omega)).trans (HR1.out.2.2 o),World.ownsRow_nil _ _ _ _,HL1.out.trans (hX4.mono HL1.out.size),by omega⟩)
  have n4:=Ja hX4 n0
  have hz4:w1.heap.size<W4.heap.size:=by rw[hW4];simp
  rw[<-hW4]
  clear hW4 hX4 HR1 HL1 n0
  go_wp2_with fail
  go_loopw [0,5,23] (fun s ok i wr=>∃(j:Nat) (r:List UInt8) (cs:List Chd) (a:Option Addr) (y:Nat),s=.string (S r)/\ok=.bool true/\i=.int .u64 j/\j<=k/\cs.length=j/\r.length<=10000/\Hid (∀c∈cs,Jab c/\Zw c.addr)/\Hid (r0=Y9 cs++r)/\Hid (Jcp 179 w wr w.heap.size w1.heap.size cs a y)) (fun _ _ i _=>k- (intOf i).toNat)
  case atStart=>exact⟨0,r0,[],none,0,rfl,rfl,rfl,Nat.zero_le _,rfl,hr0,Lib.hid (fun c hc=>by simp at hc),Lib.hid rfl,HP⟩
  case round=>
   obtain⟨j,r,cs,a,y,rfl,rfl,rfl,hj,hcj,hrl,HCS,HRR,HP⟩:=hrel
   have hj0:(0:Int)<=(j:Int):=Int.natCast_nonneg _
   have HCJ:=Lib.hid hcj
   clear hcj
   by_cases hjk:j<k
   ·have hj1:(j:Int)<(k:Int):=by omega
    go_upto_region 8 with(fail)
    obtain⟨w2,hw2⟩:∃w2,w2=wr.alloc (.cells #[.string ⟨#[]⟩,.int .i64 0,.int .u64 0,.int .u32 0] 179):=⟨_,rfl⟩
    have hX2:Below wr.heap.size wr w2:=by rw[hw2];go_grown
    have HC2:=Lib.hid (show w2.cell? ⟨wr.heap.size,0,none⟩=some (.string ⟨#[]⟩)/\w2.cell? ⟨wr.heap.size,1,none⟩=some (.int .i64 0)/\w2.cell? ⟨wr.heap.size,2,none⟩=some (.int .u64 0)/\w2.cell? ⟨wr.heap.size,3,none⟩=some (.int .u32 0)/\∀o,w2.frozen? ⟨wr.heap.size,o,none⟩=false by
     rw[hw2];refine⟨?_,?_,?_,?_,fun o=>World.frozen?_alloc_at _ _ _ _ rfl⟩<;>(rw[World.cell?_alloc_at _ _ _ _ rfl];rfl))
    have hzw2:wr.heap.size<w2.heap.size:=by rw[hw2];simp
    rw[<-hw2]
    clear hw2
    go_wp2_with fail
    refine(Jlj r w2 (by omega)).mono ?_
    rintro e w3 ⟨⟨v,rfl,hres⟩,hB3⟩
    have hX3:=hX2.trans (hB3.mono hX2.size)
    obtain⟨k0,k1,k2,k3,kg⟩:=HC2.out
    have y0:=Ja hB3 k0
    have y1:=Ja hB3 k1
    have y2:=Ja hB3 k2
    have y3:=Ja hB3 k3
    have f0:=((JB hB3).2 wr.heap.size 0 hzw2).trans (kg 0)
    have f1:=((JB hB3).2 wr.heap.size 1 hzw2).trans (kg 1)
    have f2:=((JB hB3).2 wr.heap.size 2 hzw2).trans (kg 2)
    have f3:=((JB hB3).2 wr.heap.size 3 hzw2).trans (kg 3)
    have HX3:=Lib.hid hX3
    have hz3:=hB3.size
    clear hX2 hB3 hX3 k0 k1 k2 k3 kg HC2
    have hu:∃low A g s rr okb,v=.tuple #[ChV low A g s,.string (S rr),.bool okb]:=by
     rcases hres with⟨c,rest,-,-,-,h4⟩|⟨-,low,A,g,s,rr,h4⟩
     ·exact⟨_,_,_,_,_,_,h4⟩
     ·exact⟨_,_,_,_,_,_,h4⟩
    obtain⟨low,A,g,s,rr,okb,rfl⟩:=hu
    have HRES:=Lib.hid hres
    clear hres
    go_upto_region 9 with(fail)
    obtain⟨s1,-,-,s4,s5⟩:=Xk (b:=wr.heap.size) [.string (S low),.int .i64 A,.int .u64 g,.int .u32 s] 0 w3 (fun i hi=>by
     rcases i with _|_|_|_|i
     ·exact⟨_,y0⟩
     ·exact⟨_,y1⟩
     ·exact⟨_,y2⟩
     ·exact⟨_,y3⟩
     ·simp at hi;omega)
    have hZ:Jac w3 wr.heap.size 0 [.string (S low),.int .i64 A,.int .u64 g,.int .u32 s]=(((w3.setCell ⟨wr.heap.size,0,none⟩ (.string (S low))).setCell ⟨wr.heap.size,1,none⟩ (.int .i64 A)).setCell ⟨wr.heap.size,2,none⟩ (.int .u64 g)).setCell ⟨wr.heap.size,3,none⟩ (.int .u32 s):=rfl
    have t0:=s1 0 _ rfl
    have t1:=s1 1 _ rfl
    have t2:=s1 2 _ rfl
    have t3:=s1 3 _ rfl
    have t5:=s5 _ _ HX3.out (Nat.le_refl _)
    simp only[Nat.zero_add] at t0 t1 t2 t3
    rw[<-hZ]
    generalize Jac w3 wr.heap.size 0 [.string (S low),.int .i64 A,.int .u64 g,.int .u32 s]=Z at*
    have HPZ:=Lib.hid (HP.out.on t5)
    have hzZ:=t5.size
    clear HX3 HP hZ s1 s4 s5 y0 y1 y2 y3 f0 f1 f2 f3 t5
    cases okb with
    |true=>
     have hyes:∃c,c=(⟨low,A,g,s⟩:Chd)/\Jab c/\Zw c.addr/\r=chT c++rr:=by
      rcases HRES.out with⟨c,rest,h1,h2,h3,h4⟩|⟨-,low',A',g',s',rr',h4⟩
      ·simp only[Value.tuple.injEq,Value.agg.injEq,Array.mk.injEq,List.cons.injEq,Value.string.injEq,Value.int.injEq,and_true,true_and] at h4
       obtain⟨⟨e1,e2,e3,e4⟩,e5⟩:=h4
       refine⟨c,?_,h1,h2,?_⟩
       ·obtain⟨lo,ad,ge,su⟩:=c
        dsimp only at*
        rw[Jqt e1,e2,show g=ge by omega,show s=su by omega]
       ·rw[Jqt e5];exact h3
      ·simp at h4
     obtain⟨c,hc,hci,hcp,hrc⟩:=hyes
     have HCS':=Lib.hid (show∀x∈cs++[c],Jab x/\Zw x.addr from fun x hx=>(List.mem_append.1 hx).elim (HCS.out x) (fun e=>by rw[List.mem_singleton.1 e];exact⟨hci,hcp⟩))
     have HRR':=Lib.hid (show r0=Y9 (cs++[c])++rr by rw[HRR.out,hrc,JgS];simp[Y9])
     have hrr:rr.length<=10000:=by rw[hrc,List.length_append] at hrl;omega
     have HCJ':=Lib.hid (show(cs++[c]).length=j+1 by rw[List.length_append,List.length_singleton,HCJ.out])
     have HCL:=Lib.hid (show cellsC cs++[.string (S low),.int .i64 A,.int .u64 g,.int .u32 s]=cellsC (cs++[c]) by rw[ZF,JcM,hc];rfl)
     clear hrc hci hcp hc HRES HCS HRR
     have p0:=HPZ.out.c0
     have pf:=HPZ.out.fz 0
     have hnl:=HPZ.out.ltN
     have HOW:=Lib.hid HPZ.out.own
     have hcl:cs.length<=255:=by rw[HCJ.out];omega
     have HLN:=Lib.hid (show(cs++[c]).length=cs.length+1 by rw[List.length_append,List.length_singleton])
     go_wp2_with (at_builtin;go_must (refine wpList_append_own_at _ rfl (.tmp 35) (.tmp 37) 100 rfl (w1.heap.size+1) 179 i0 (.agg #[.string ByteArray.empty,.int .i64 0,.int .u64 0,.int .u32 0]) 4 40 Tryz.underlying100 hi iz0 iz1 iz2 rfl (by decide) _ cs.length _ rfl (HOW.out.alloc _) ⟨Z.heap.size,0,none⟩ 1 1 [.string (S low),.int .i64 A,.int .u64 g,.int .u32 s] rfl rfl (XV _ _ rfl _ _ _ _ _) (Jjj _ _ _ _) (by unfold maxLen;omega) (by omega) (by rw[World.size_alloc];omega) ?_;intro vc wz hownvc hgrowvc _ hatvc;rw[HCL.out] at hownvc;obtain⟨ac,yc,rfl⟩:=Jm hownvc;have HPA:=Lib.hid (HPZ.out.on ((Below.refl _ Z).alloc (Nat.le_refl _) (.cells #[.string (S low),.int .i64 A,.int .u64 g,.int .u32 s] 179)));have hNe:some w1.heap.size≠(Value.slice a cs.length y).ownBlock:=(fun e=>by have:=(HPA.out.own.lt _ e.symm).1;omega);have z0:=hgrowvc.cell HPA.out.c0 hNe;have zf:=(World.frozen?_of_block (hgrowvc.block w1.heap.size HPA.out.ltN hNe)).trans (HPA.out.fz 0);have HGR:=Lib.hid (HPA.out.grown (cs':=cs++[c]) (a':=ac) (y':=yc) hgrowvc (by rw[HLN.out];exact hownvc));clear hatvc hownvc hgrowvc hNe))
     rw[HLN.out] at HGR
     exact⟨⟨j+1,rr,cs++[c],ac,yc,rfl,rfl,by go_num,by omega,HCJ'.out,hrr,HCS',HRR',HGR⟩,by simp[intOf];omega⟩
    |false=>
     have hno:∀c t,Zi c->r≠chT c++t:=by
      rcases HRES.out with⟨c,rest,h1,h2,h3,h4⟩|⟨h,low',A',g',s',rr',h4⟩
      ·simp at h4
      ·exact fun c t hc=>h c t hc.is hc.addr
     have HNO:=Lib.hid (show∀cs' us',YR cs' us'->s0≠Yl cs' us' from fun cs' us' h' e=>by
      rw[HSK.out,HRR.out] at e
      obtain⟨c,t,h1,h2⟩:=Jke hk' (by rw[HCJ.out];exact hjk) (fun c hc=>(HCS.out c hc).1) h' e
      exact hno c t h1 h2)
     clear hno HRES
     have q0:=HPZ.out.r0
     have q1:=HPZ.out.r1
     have qf0:=HPZ.out.rz 0
     have qf1:=HPZ.out.rz 1
     go_wp2_with fail
     obtain⟨ZZ,hZZ⟩:∃ZZ,ZZ=(Z.setCell ⟨w.heap.size,0,none⟩ (.slice none 0 0)).setCell ⟨w.heap.size,1,none⟩ (.slice none 0 0):=⟨_,rfl⟩
     obtain⟨s0',s1',s5'⟩:=JnP _ _ q0 q1 hZZ
     rw[<-hZZ]
     exact bodyPost_ret (v:=.tuple #[.agg #[.slice none 0 0,.slice none 0 0],.int .i64 4]) (by simp[results,Tryz.results87,go_sem,s0',s1']) rfl ⟨.no HNO.out rfl,s5' _ _ HPZ.out.below (Nat.le_refl _)⟩
   ·obtain rfl:j=k:=by omega
    have HCI:=Lib.hid (fun c hc=>(HCS.out c hc).1)
    have p0:=HP.out.c0
    have hpu:=JkD r
    have hpl:=(Jfj r).1
    have HPT:=Lib.hid (show∀l,(∀u∈l,Xg u)->Je Upd.key l->Zc (YI l)=(l,0) from fun l h k=>JiX h k)
    obtain⟨P,hP⟩:∃P,P=Zc r:=⟨_,rfl⟩
    have HBP:=Lib.hid (fun w=>Jic r (by omega) w)
    rw[<-hP] at HBP hpu hpl
    have HPB:=Lib.hid hP
    clear hP
    obtain⟨us,pe⟩:=P
    dsimp only at hpu hpl
    go_wp2_with fail
    refine(HBP.out wr).mono ?_
    rintro e w6 ⟨⟨ba,bc,rfl,hbo⟩,hB6⟩
    dsimp only at hbo⊢
    have HP6:=Lib.hid (HP.out.on hB6)
    have hzr:=HP.out.ltN
    have HBO:=Lib.hid (JI hbo (show w1.heap.size+1<=wr.heap.size by omega))
    clear hB6 hbo HP p0 HBP
    go_upto_region 14 with(fail)
    have hX7:Below w6.heap.size w6 (w6.alloc (.cells #[.slice ba us.length bc] 103)):=by go_grown
    have HP7:=Lib.hid (HP6.out.on hX7)
    have HBO7:=Lib.hid (Ji HBO.out hX7)
    have hl6:=HP6.out.ltN
    obtain⟨w7,hw7⟩:∃w7,w7=w6.alloc (.cells #[.slice ba us.length bc] 103):=⟨_,rfl⟩
    have c8:w7.cell? ⟨w6.heap.size,0,none⟩=some (.slice ba us.length bc):=by rw[hw7,World.cell?_alloc_at _ _ _ _ rfl];rfl
    rw[<-hw7] at hX7 HP7 HBO7⊢
    clear hw7 hX7 HP6 HBO
    have p1:=HP7.out.c1
    have pf1:=HP7.out.fz 1
    go_upto_region 15 with(fail)
    obtain⟨W8,hW8⟩:∃W8,W8=w7.setCell ⟨w1.heap.size,1,none⟩ (.slice ba us.length bc):=⟨_,rfl⟩
    have hw1w:=HP7.out.lt
    have HN8:=Lib.hid (show W8.cell? ⟨w1.heap.size,0,none⟩=some (.slice a cs.length y)/\W8.cell? ⟨w1.heap.size,1,none⟩=some (.slice ba us.length bc) by
     rw[hW8];exact⟨(World.cell?_setCell_other _ _ _ _ (Jp (Or.inr (by decide)))).trans HP7.out.c0,World.cell?_setCell_same _ _ _ p1⟩)
    have HR8:=Lib.hid (show W8.cell? ⟨w.heap.size,0,none⟩=some (.slice none 0 0)/\W8.cell? ⟨w.heap.size,1,none⟩=some (.slice none 0 0)/\∀o,W8.frozen? ⟨w.heap.size,o,none⟩=false by
     rw[hW8];exact⟨(World.cell?_setCell_other _ _ _ _ (Jp (Or.inl (by omega)))).trans HP7.out.r0,(World.cell?_setCell_other _ _ _ _ (Jp (Or.inl (by omega)))).trans HP7.out.r1,fun o=>by rw[World.frozen?_setCell];exact HP7.out.rz o⟩)
    have HO8:=Lib.hid (show W8.ownsRow (w1.heap.size+1) 179 4 (.slice a cs.length y) cs.length (cellsC cs) by
     rw[hW8];exact ownsRow_setCell_other (a:=⟨w1.heap.size,1,none⟩) HP7.out.own (fun e=>by have h:=(HP7.out.own.lt _ e).1;dsimp only at h;omega) _)
    have HU8:=Lib.hid (show W8.ownsRow (w1.heap.size+1) 39 4 (.slice ba us.length bc) us.length (cellsU us) by
     rw[hW8];exact ownsRow_setCell_other (a:=⟨w1.heap.size,1,none⟩) HBO7.out (fun e=>by have h:=(HBO7.out.lt _ e).1;dsimp only at h;omega) _)
    have HL8:=Lib.hid (show Below w.heap.size w W8 by rw[hW8];exact HP7.out.below.setCell (p:=⟨w1.heap.size,1,none⟩) (Nat.le_of_lt hw1w) _)
    rw[<-hW8]
    clear hW8 HP7 HBO7 c8 p1 pf1
    obtain⟨q0,q1,qz⟩:=HR8.out
    have qf0:=qz 0
    have qf1:=qz 1
    obtain⟨d0,d1⟩:=HN8.out
    by_cases hpe:pe=0
    ·subst hpe
     obtain⟨hru,hok,hris⟩:=JiZ HPB.out.symm
     have HRU:=Lib.hid hru
     have HOK:=Lib.hid hok
     have HRIS:=Lib.hid hris
     clear hru hok hris hpu
     have HND:=Lib.hid (JA.mk' (JaR HO8.out).2 (Jc2 HU8.out).2)
     have HIN:=Lib.hid (show Jlr cs us from⟨by rw[HCJ.out];omega,by omega,fun c hc=>⟨⟨by have:=(HCI.out c hc).addr;omega,by have:=(HCI.out c hc).addr;omega⟩,(HCI.out c hc).gen,(HCI.out c hc).sum⟩,fun c hc=>by have:=(HCI.out c hc).low;omega,fun u hu=>(HOK.out u hu).wf⟩)
     have HRT:=Lib.hid (fun w' h=>Jcm (.agg #[.slice a cs.length y,.slice ba us.length bc]) cs us w' h HIN.out)
     go_wp2_with fail
     refine(HRT.out W8 HND.out).mono ?_
     rintro e w9 ⟨⟨rb,rfl,hrb⟩,hB9⟩
     have HL9:=Lib.hid (HL8.out.trans (hB9.mono HL8.out.size))
     have hlw:=HL8.out.size
     have HRW:=Lib.hid (show w.heap.size<w1.heap.size from hw1w)
     have HO9:=Lib.hid (Ji HO8.out hB9)
     have HU9:=Lib.hid (Ji HU8.out hB9)
     have e0:=Ja hB9 d0
     have e1:=Ja hB9 d1
     have hlw8:=World.block_lt_of_cell? W8 _ q0
     have q0:=Ja hB9 q0
     have q1:=Ja hB9 q1
     have qf0:=((JB hB9).2 w.heap.size 0 hlw8).trans qf0
     have qf1:=((JB hB9).2 w.heap.size 1 hlw8).trans qf1
     clear HRT HIN HND HO8 HU8 HL8 HR8 HN8 d0 d1 hB9 qz
     cases rb with
     |true=>
      have HOKN:=Lib.hid ((hrb.1 rfl).node HRIS.out)
      have HSS:=Lib.hid (show s0=Yl cs us by rw[HSK.out,HRR.out,HRU.out];unfold Yl;rw[HCJ.out])
      clear hrb
      go_wp2_with fail
      obtain⟨ZZ,hZZ⟩:∃ZZ,ZZ=(w9.setCell ⟨w.heap.size,0,none⟩ (.slice a cs.length y)).setCell ⟨w.heap.size,1,none⟩ (.slice ba us.length bc):=⟨_,rfl⟩
      obtain⟨s0',s1',s5'⟩:=JnP _ _ q0 q1 hZZ
      have hoz:ZZ.ownsRow (w1.heap.size+1) 179 4 (.slice a cs.length y) cs.length (cellsC cs):=by
       rw[hZZ];exact ownsRow_setCell_other (a:=⟨w.heap.size,1,none⟩) (ownsRow_setCell_other (a:=⟨w.heap.size,0,none⟩) HO9.out (fun e=>by have h:=(HO9.out.lt _ e).1;have h2:=HRW.out;dsimp only at h;omega) _) (fun e=>by have h:=(HO9.out.lt _ e).1;have h2:=HRW.out;dsimp only at h;omega) _
      have huz:ZZ.ownsRow (w1.heap.size+1) 39 4 (.slice ba us.length bc) us.length (cellsU us):=by
       rw[hZZ];exact ownsRow_setCell_other (a:=⟨w.heap.size,1,none⟩) (ownsRow_setCell_other (a:=⟨w.heap.size,0,none⟩) HU9.out (fun e=>by have h:=(HU9.out.lt _ e).1;have h2:=HRW.out;dsimp only at h;omega) _) (fun e=>by have h:=(HU9.out.lt _ e).1;have h2:=HRW.out;dsimp only at h;omega) _
      rw[<-hZZ]
      exact bodyPost_ret (v:=.tuple #[.agg #[.slice a cs.length y,.slice ba us.length bc],.int .i64 0]) (by simp[results,Tryz.results87,go_sem,s0',s1']) rfl ⟨.yes cs us _ HSS.out HOKN.out rfl (JA.mk' (JaR hoz).2 (Jc2 huz).2) ⟨_,_,_,_,rfl,JI hoz (by have:=HRW.out;omega),JI huz (by have:=HRW.out;omega)⟩,s5' _ _ HL9.out (Nat.le_refl _)⟩
     |false=>
      have HNO:=Lib.hid (show∀cs' us',YR cs' us'->s0≠Yl cs' us' from fun cs' us' h' e=>by
       rw[HSK.out,HRR.out] at e
       obtain⟨h1,h2⟩:=JeR hk' HCJ.out HCI.out h' e
       subst h1
       have h3:=HPT.out us' h'.ok h'.rising
       rw[<-h2,<-HPB.out] at h3
       simp only[Prod.mk.injEq,and_true] at h3
       subst h3
       exact absurd (hrb.2 h'.right) (by simp))
      clear hrb
      go_wp2_with fail
      obtain⟨ZZ,hZZ⟩:∃ZZ,ZZ=(w9.setCell ⟨w.heap.size,0,none⟩ (.slice none 0 0)).setCell ⟨w.heap.size,1,none⟩ (.slice none 0 0):=⟨_,rfl⟩
      obtain⟨s0',s1',s5'⟩:=JnP _ _ q0 q1 hZZ
      rw[<-hZZ]
      exact bodyPost_ret (v:=.tuple #[.agg #[.slice none 0 0,.slice none 0 0],.int .i64 4]) (by simp[results,Tryz.results87,go_sem,s0',s1']) rfl ⟨.no HNO.out rfl,s5' _ _ HL9.out (Nat.le_refl _)⟩
    ·have hpe4:us=[]/\pe=4:=by
      rcases hpu with h|h
      ·exact absurd h hpe
      ·simpa using h
     obtain⟨rfl,rfl⟩:=hpe4
     have HNO:=Lib.hid (show∀cs' us',YR cs' us'->s0≠Yl cs' us' from fun cs' us' h' e=>by
      rw[HSK.out,HRR.out] at e
      obtain⟨h1,h2⟩:=JeR hk' HCJ.out HCI.out h' e
      have h3:=HPT.out us' h'.ok h'.rising
      rw[<-h2,<-HPB.out] at h3
      simp at h3)
     clear hpu hpe
     go_wp2_with fail
     obtain⟨ZZ,hZZ⟩:∃ZZ,ZZ=(W8.setCell ⟨w.heap.size,0,none⟩ (.slice none 0 0)).setCell ⟨w.heap.size,1,none⟩ (.slice none 0 0):=⟨_,rfl⟩
     obtain⟨s0',s1',s5'⟩:=JnP _ _ q0 q1 hZZ
     rw[<-hZZ]
     exact bodyPost_ret (v:=.tuple #[.agg #[.slice none 0 0,.slice none 0 0],.int .i64 4]) (by simp[results,Tryz.results87,go_sem,s0',s1']) rfl ⟨.no HNO.out rfl,s5' _ _ HL8.out (Nat.le_refl _)⟩
 ·have hs0:s0=[]:=List.eq_nil_of_length_eq_zero (by omega)
  subst hs0
  have HNO:=Lib.hid (show∀cs' us',YR cs' us'->[]≠Yl cs' us' from fun cs' us' h' e=>by simp[Yl] at e)
  go_enter Tryz.func87,Tryz.ntmps87
  go_upto_region 1 with(fail)
  obtain⟨W,hW⟩:∃W,W=w.alloc (.cells #[.slice none 0 0,.slice none 0 0] 105):=⟨_,rfl⟩
  have hX:Below w.heap.size w W:=by rw[hW];go_grown
  have hWz:=Lib.hid (show W.heap.size=w.heap.size+1 by rw[hW];simp)
  have HR:=Lib.hid (show W.cell? ⟨w.heap.size,0,none⟩=some (.slice none 0 0)/\W.cell? ⟨w.heap.size,1,none⟩=some (.slice none 0 0)/\∀o,W.frozen? ⟨w.heap.size,o,none⟩=false by
   rw[hW];refine⟨?_,?_,fun o=>World.frozen?_alloc_at _ _ _ _ rfl⟩<;>(rw[World.cell?_alloc_at _ _ _ _ rfl];rfl))
  rw[<-hW]
  clear hW
  go_wp2_with fail
  have hX1:Below W.heap.size W (W.alloc (.cells #[.int .i64 1] 3)):=by go_grown
  refine(X0 (some ⟨W.heap.size,0,none⟩) 1 [(1,0)] [] _ (ZW W #[.int .i64 1] 3 (0,0) [(1,0)] rfl) (Jcj 1 _ (by decide) (by decide)) (by simp) (by simp[Z0])).mono ?_
  rintro e w1 ⟨rfl,rfl⟩
  have q0:=Ja hX1 HR.out.1
  have q1:=Ja hX1 HR.out.2.1
  have qf0:=((JB hX1).2 w.heap.size 0 (by have:=hWz.out;omega)).trans (HR.out.2.2 0)
  have qf1:=((JB hX1).2 w.heap.size 1 (by have:=hWz.out;omega)).trans (HR.out.2.2 1)
  have HL:=Lib.hid (hX.trans (hX1.mono hX.size))
  generalize W.alloc (.cells #[.int .i64 1] 3)=w1 at*
  go_wp2_with fail
  obtain⟨ZZ,hZZ⟩:∃ZZ,ZZ=(w1.setCell ⟨w.heap.size,0,none⟩ (.slice none 0 0)).setCell ⟨w.heap.size,1,none⟩ (.slice none 0 0):=⟨_,rfl⟩
  obtain⟨s0',s1',s5'⟩:=JnP _ _ q0 q1 hZZ
  rw[<-hZZ]
  exact bodyPost_ret (v:=.tuple #[.agg #[.slice none 0 0,.slice none 0 0],.int .i64 4]) (by simp[results,Tryz.results87,go_sem,s0',s1']) rfl ⟨.no HNO.out rfl,s5' _ _ HL.out (Nat.le_refl _)⟩
end Go.Proofs.YtafciefjlkdecaaGreat
namespace Go.Proofs.YtafciefjlkdecaaGreat
open Go.RowKit
structure Jg (S:Nat->Prop) (w w':World):Prop where
 os:w'.os=w.os
 tape:w'.tape=w.tape
 output:w'.output=w.output
 size:w.heap.size<=w'.heap.size
 block:∀b,b<w.heap.size->¬S b->w'.heap[b]? =w.heap[b]?
theorem Jg.of_below {S:Nat->Prop} {w w':World} (h:Below w.heap.size w w'):Jg S w w':=⟨h.os,h.tape,h.output,h.size,fun b hb _=>h.block b hb⟩
theorem Jg.refl (S:Nat->Prop) (w:World):Jg S w w:=.of_below (Below.refl _ _)
theorem Jg.trans {S T:Nat->Prop} {a b c:World} (h:Jg S a b) (k:Jg T b c) (hT:∀x,T x->S x\/a.heap.size<=x):Jg S a c:=
 ⟨k.os.trans h.os,k.tape.trans h.tape,k.output.trans h.output,Nat.le_trans h.size k.size,fun x hx hs=>(k.block x (Nat.lt_of_lt_of_le hx h.size) (fun ht=>(hT x ht).elim hs (fun q=>by omega))).trans (h.block x hx hs)⟩
theorem Jg.trans' {S:Nat->Prop} {a b c:World} (h:Jg S a b) (k:Jg S b c):Jg S a c:=h.trans k fun _ hx=>Or.inl hx
theorem Jg.on {S:Nat->Prop} {a b c:World} (h:Jg S a b) (k:Below b.heap.size b c):Jg S a c:=h.trans' (.of_below k)
theorem Jg.setCell {S:Nat->Prop} {a b:World} (h:Jg S a b) (p:Addr) (hp:S p.block\/a.heap.size<=p.block) (v:Value):Jg S a (b.setCell p v):=
 ⟨h.os,h.tape,h.output,by rw[World.size_setCell];exact h.size,fun x hx hs=>(Go.heap_setCell_other b p x v (fun e=>by subst e;exact hp.elim hs (fun q=>by omega))).trans (h.block x hx hs)⟩
theorem Jg.row {S:Nat->Prop} {a b:World} {E:TypeId} {g:Nat} {cur:List Value} (h:Jg S a b) (hr:Jc a E g cur) (hs:¬S g):Jc b E g cur:=(h.block g hr.lt hs).trans hr
theorem Jg.vx {S:Nat->Prop} {a b:World} {g:Nat} {kn:Bool} {pa:Int} {pg ps:Nat} {ld:Bool} {lf cs us ks:Value} (h:Jg S a b) (hv:Jq a g kn pa pg ps ld lf cs us ks) (hs:¬S g):Jq b g kn pa pg ps ld lf cs us ks:=⟨h.row hv.row hs⟩
theorem Jg.below {S:Nat->Prop} {a b:World} {N:Nat} (h:Jg S a b) (hN:N<=a.heap.size) (hS:∀x,S x->N<=x):Below N a b:=
 ⟨h.os,h.tape,h.output,h.size,fun k hk=>h.block k (by omega) (fun q=>by have:=hS k q;omega)⟩
theorem Jg.mono {S T:Nat->Prop} {a b:World} (h:Jg S a b) (hST:∀x,S x->T x):Jg T a b:=⟨h.os,h.tape,h.output,h.size,fun x hx ht=>h.block x hx (fun q=>ht (hST x q))⟩
theorem Jg.grown {S:Nat->Prop} {a b c:World} {r:Option Nat} (h:Jg S a b) (hg:b.grownBy c r) (hr:∀k,r=some k->S k\/a.heap.size<=k):Jg S a c:=
 ⟨hg.os.trans h.os,hg.tape.trans h.tape,hg.output.trans h.output,Nat.le_trans h.size hg.size,fun x hx hs=>by
  rw[hg.block x (Nat.lt_of_lt_of_le hx h.size) (fun e=>(hr x e.symm).elim hs (fun q=>by omega))]
  exact h.block x hx hs⟩
def XO (w:World) (b:Nat):Prop:=∀o s,w.cell? ⟨b,o,none⟩≠some (.string s)
theorem Jc.noStr {w:World} {E:TypeId} {g:Nat} {cur:List Value} (h:Jc w E g cur) (hc:∀s,Value.string s∉cur):XO w g:=fun o s e=>by
 rw[h.cell] at e
 exact hc s (List.mem_of_getElem? e)
theorem JC.keep {α:Type} {enc:α->List Value} {k:Nat} {w w':World} {ao:Option Addr} {l:List α} {S:Nat->Prop} (h:JC enc k w ao l) (hk:Jg S w w') (hS:∀b,S b->XO w b) (henc:∀x:α,∃(j:Nat) (s:ByteArray),(enc x)[j]? =some (Value.string s)):JC enc k w' ao l:=by
 rcases h with rfl|⟨b,off,rfl,hb,hc⟩
 ·exact Or.inl rfl
 ·by_cases hl:l=[]
  ·exact Or.inl hl
  ·have hl0:0<l.length:=List.length_pos_iff.2 hl
   obtain⟨j,s,hj⟩:=henc l[0]
   have hnS:¬S b:=fun q=>hS b q _ s (hc 0 hl0 j _ hj)
   refine Or.inr ⟨b,off,rfl,Nat.lt_of_lt_of_le hb hk.size,fun i hi j x hx=> ?_⟩
   rw[World.cell?_of_block (hk.block b hb hnS)]
   exact hc i hi j x hx
theorem SlC.keep {w w':World} {v:Value} {l:List Chd} {S:Nat->Prop} (h:SlC w v l) (hk:Jg S w w') (hS:∀b,S b->XO w b):SlC w' v l:=by
 obtain⟨ao,c,rfl,hs,h2⟩:=h
 exact⟨ao,c,rfl,hs.keep hk hS (fun x=>⟨0,_,rfl⟩),h2⟩
theorem SlU.keep {w w':World} {v:Value} {l:List Upd} {S:Nat->Prop} (h:SlU w v l) (hk:Jg S w w') (hS:∀b,S b->XO w b):SlU w' v l:=by
 obtain⟨ao,c,rfl,hs,h2⟩:=h
 exact⟨ao,c,rfl,hs.keep hk hS (fun x=>⟨1,_,rfl⟩),h2⟩
theorem SlE.keep {w w':World} {v:Value} {l:List Ent} {S:Nat->Prop} (h:SlE w v l) (hk:Jg S w w') (hS:∀b,S b->XO w b):SlE w' v l:=by
 obtain⟨ao,c,rfl,hs,h2⟩:=h
 exact⟨ao,c,rfl,hs.keep hk hS (fun x=>⟨0,_,rfl⟩),h2⟩
theorem JZ.keep {w w':World} {v:Value} {l:List Upd} {S:Nat->Prop} (h:JZ w v l) (hk:Jg S w w') (hS:∀b,S b->XO w b):JZ w' v l:=by
 obtain⟨s,rfl,hs⟩:=h
 exact⟨s,rfl,hs.keep hk hS⟩
theorem Zq.keep {w w':World} {v:Value} {l:List Ent} {S:Nat->Prop} (h:Zq w v l) (hk:Jg S w w') (hS:∀b,S b->XO w b):Zq w' v l:=by
 obtain⟨s,rfl,hs⟩:=h
 exact⟨s,rfl,hs.keep hk hS⟩
theorem JA.keep {w w':World} {v:Value} {cs:List Chd} {us:List Upd} {S:Nat->Prop} (h:JA w v cs us) (hk:Jg S w w') (hS:∀b,S b->XO w b):JA w' v cs us:=by
 obtain⟨a,b,x,y,rfl,h1,h2⟩:=h
 exact⟨a,b,x,y,rfl,h1.keep hk hS,h2.keep hk hS⟩
theorem Jq.noStr {w:World} {b:Nat} {kn:Bool} {pa:Int} {pg ps:Nat} {ld:Bool} {a1 a2 a3 a4:Option Addr} {n1 n2 n3 n4 c1 c2 c3 c4:Nat} (h:Jq w b kn pa pg ps ld (.slice a1 n1 c1) (.slice a2 n2 c2) (.slice a3 n3 c3) (.slice a4 n4 c4)):XO w b:=
 h.row.noStr fun s=>by simp[YH]
theorem JA.parts {w:World} {x y:Value} {cs:List Chd} {us:List Upd} (h:JA w (.agg #[x,y]) cs us):SlC w x cs/\SlU w y us:=by
 obtain⟨a,b,u,v,he,h1,h2⟩:=h
 simp only[Value.agg.injEq,Array.mk.injEq,List.cons.injEq,and_true] at he
 obtain⟨rfl,rfl⟩:=he
 exact⟨h1,h2⟩
theorem Jt {w:World} {B:Nat} {E:TypeId} {k:Nat} {v:Value} {n:Nat} {xs:List Value} (h:w.ownsRow B E k v n xs):∀g,v.ownBlock=some g->∃cur,Jc w E g cur:=fun g e=>by
 rcases Jv h with⟨rfl,-,-⟩|⟨g',cap,cur,rfl,-,hr,-⟩
 ·simp[Value.ownBlock] at e
 ·simp only[Value.ownBlock,Option.some.injEq] at e
  subst e
  exact⟨cur,hr⟩
theorem YK {w w':World} {B:Nat} {E:TypeId} {k:Nat} {v:Value} {n:Nat} {xs:List Value} {S:Nat->Prop} (h:w.ownsRow B E k v n xs) (hk:Jg S w w') (hS:∀g,v.ownBlock=some g->¬S g):w'.ownsRow B E k v n xs:=by
 rcases Jv h with⟨rfl,rfl,rfl⟩|⟨g,cap,cur,rfl,h1,hr,h3,h4,h5,h6⟩
 ·exact World.ownsRow_nil _ _ _ _
 ·exact YB h1 (hk.row hr (hS g rfl)) h3 h4 h5 h6
open Go.RowKit
attribute [local go_sem ↓] Go.wp_at_zero Go.wp_at_succ
def kIx (n:Int):Nat:=(ZE 0 n).toNat% 60
def JpC (m:Nat):List UInt8:=[UInt8.ofNat (97+m/8),UInt8.ofNat (97+m% 8)].take (1+m% 2)
def Jgh (n:Int):List UInt8:=JpC (kIx n)
theorem Job (m:Nat):(JpC m).length=1+m% 2:=by
 unfold JpC
 rw[List.length_take]
 simp only[List.length_cons,List.length_nil]
 omega
theorem Jql (n:Int) (w:World) (hn: -9223372036854775808<=n/\n<=9223372036854775807):
  Calls Tryz.prog 27 #[.int .i64 n] w fun e w'=>e=.returned (.string (S (Jgh n)))/\Below w.heap.size w w':=by
 have hmax:=fun ts t a b w=>Jbq (P:=Tryz.prog) ts t a b w
 have hcv2:=fun w n c=>JnR (P:=Tryz.prog) 22 9 5 Tryz.underlying22 Tryz.underlying5 Tryz.underlying9 w n c
 obtain⟨m,hm⟩:∃m,m=kIx n:=⟨_,rfl⟩
 have hm60:m<60:=by rw[hm];unfold kIx;omega
 have hb0:0<=ZE 0 n:=by unfold ZE;split<;>omega
 have h1:(ZE 0 n).tmod 60=(m:Int):=by rw[Int.tmod_eq_emod_of_nonneg hb0,hm];unfold kIx;omega
 obtain⟨q,hq⟩:∃q,q=m/8:=⟨_,rfl⟩
 obtain⟨r,hr⟩:∃r,r=m% 8:=⟨_,rfl⟩
 obtain⟨t,ht⟩:∃t,t=m% 2:=⟨_,rfl⟩
 have h2:(m:Int).tdiv 8=(q:Int):=by rw[Int.tdiv_eq_ediv_of_nonneg (by omega),hq];omega
 have h3:(m:Int).tmod 8=(r:Int):=by rw[Int.tmod_eq_emod_of_nonneg (by omega),hr];omega
 have h4:(m:Int).tmod 2=(t:Int):=by rw[Int.tmod_eq_emod_of_nonneg (by omega),ht];omega
 have hqb:q<=7:=by omega
 have hrb:r<=7:=by omega
 have htb:t<=1:=by omega
 have HK:Jgh n=[UInt8.ofNat (97+q),UInt8.ofNat (97+r)].take (1+t):=by unfold Jgh JpC;rw[<-hm,hq,hr,ht]
 have w1:IntKind.i64.wrap (m:Int)=(m:Int):=IntWalk.i64_in _ (by omega)
 have w2:IntKind.i64.wrap (q:Int)=(q:Int):=IntWalk.i64_in _ (by omega)
 have w3:IntKind.i64.wrap (r:Int)=(r:Int):=IntWalk.i64_in _ (by omega)
 have w4:IntKind.i64.wrap (t:Int)=(t:Int):=IntWalk.i64_in _ (by omega)
 have w5:IntKind.i64.wrap (97+(q:Int))=97+(q:Int):=IntWalk.i64_in _ (by omega)
 have w6:IntKind.i64.wrap (97+(r:Int))=97+(r:Int):=IntWalk.i64_in _ (by omega)
 have w7:IntKind.i64.wrap (1+(t:Int))=1+(t:Int):=IntWalk.i64_in _ (by omega)
 have w8:IntKind.u8.wrap (97+(q:Int))=97+(q:Int):=IntWalk.u8_in _ (by omega)
 have w9:IntKind.u8.wrap (97+(r:Int))=97+(r:Int):=IntWalk.u8_in _ (by omega)
 have HK':=Lib.hid HK
 clear HK hm hq hr ht hb0
 go_enter Tryz.func27,Tryz.ntmps27
 go_wp2_with fail
 go_ret
 exact⟨by rw[HK'.out];simp,by go_grown⟩
def JcT (d k:Int) (val:List UInt8) (dl:Nat):Upd:=⟨1+(ZE 0 d).toNat% 3,Jgh k,if(ZE 0 d).toNat% 3=0 then val.take 20 else[],if(ZE 0 d).toNat% 3=2 then dl else 0⟩
theorem Jpe (d k:Int) (val:List UInt8) (dl:Nat) (h:dl<18446744073709551616):Tm (JcT d k val dl):=by
 have hk:(JcT d k val dl).key.length=1+kIx k% 2:=Job _
 refine⟨⟨?_,?_⟩,?_,?_,?_,?_,?_,?_⟩
 ·show 1+(ZE 0 d).toNat% 3<256;omega
 ·show(if _ then dl else 0)<_
  split<;>omega
 ·show 1+(ZE 0 d).toNat% 3=1\/1+(ZE 0 d).toNat% 3=2\/1+(ZE 0 d).toNat% 3=3;omega
 ·show 1+(ZE 0 d).toNat% 3=1\/(if(ZE 0 d).toNat% 3=0 then val.take 20 else[])=[]
  by_cases h:(ZE 0 d).toNat% 3=0
  ·exact Or.inl (by omega)
  ·exact Or.inr (by rw[if_neg h])
 ·show 1+(ZE 0 d).toNat% 3=3\/(if(ZE 0 d).toNat% 3=2 then dl else 0)=0
  by_cases h:(ZE 0 d).toNat% 3=2
  ·exact Or.inl (by omega)
  ·exact Or.inr (by rw[if_neg h])
 ·omega
 ·omega
 ·show(if(ZE 0 d).toNat% 3=0 then val.take 20 else[]).length<=20
  split
  ·rw[List.length_take];omega
  ·simp
theorem Jnz (d k:Int) (val:List UInt8) (dl:Nat) (w:World) (hd: -9223372036854775808<=d/\d<=9223372036854775807) (hk: -9223372036854775808<=k/\k<=9223372036854775807) (hv:val.length<=140737488355328):
  Calls Tryz.prog 23 #[.agg #[.int .i64 d,.int .i64 k,.string (S val),.int .u64 dl]] w fun e w'=>e=.returned (.tuple #[.agg #[.int .u8 (JcT d k val dl).kind,.string (S (JcT d k val dl).key),.string (S (JcT d k val dl).val),.int .u64 (JcT d k val dl).delta],.agg #[.int .u8 (JcT d k val dl).kind,.string (S (JcT d k val dl).key),.string (S (JcT d k val dl).val),.int .u64 (JcT d k val dl).delta]])/\Below w.heap.size w w':=by
 have hmax:=fun ts t a b w=>Jbq (P:=Tryz.prog) ts t a b w
 have hmin:=fun ts t a b w=>JiE (P:=Tryz.prog) ts t a b w
 have hm1:Jkc (val.length:Int) 20=((min val.length 20:Nat):Int):=Jin val.length 20
 have hb0:0<=ZE 0 d:=by unfold ZE;split<;>omega
 obtain⟨m,hm⟩:∃m,m=(ZE 0 d).toNat% 3:=⟨_,rfl⟩
 have hm3:m<3:=by omega
 have h1:(ZE 0 d).tmod 3=(m:Int):=by rw[Int.tmod_eq_emod_of_nonneg hb0,hm];omega
 have hw1:IntKind.i64.wrap (m:Int)=(m:Int):=IntWalk.i64_in _ (by omega)
 have hw2:IntKind.i64.wrap (1+(m:Int))=1+(m:Int):=IntWalk.i64_in _ (by omega)
 have hw3:IntKind.u8.wrap (1+(m:Int))=1+(m:Int):=IntWalk.u8_in _ (by omega)
 have hU0:JcT d k val dl=⟨1+m,Jgh k,if m=0 then val.take 20 else[],if m=2 then dl else 0⟩:=by unfold JcT;rw[<-hm]
 obtain⟨U,hU⟩:∃U,U=JcT d k val dl:=⟨_,rfl⟩
 rw[<-hU] at hU0⊢
 have HU:=Lib.hid hU0
 clear hU hU0
 have HK:=Lib.hid (fun w'=>Jql k w' hk)
 clear hm hb0
 go_enter Tryz.func23,Tryz.ntmps23
 go_upto_region 1 with(fail)
 obtain⟨W,hW⟩:∃W,W=((w.alloc (.cells #[.int .i64 d,.int .i64 k,.string (S val),.int .u64 dl] 51)).alloc (.cells #[.int .u8 0,.string ⟨#[]⟩,.string ⟨#[]⟩,.int .u64 0] 39)).alloc (.cells #[.int .u8 0,.string ⟨#[]⟩,.string ⟨#[]⟩,.int .u64 0] 62):=⟨_,rfl⟩
 have hX:Below w.heap.size w W:=by rw[hW];go_grown
 have hz1:∀(w:World) x,(w.alloc x).heap.size=w.heap.size+1:=fun w x=>World.size_alloc _ _
 have HA:=Lib.hid (show Jc W 51 w.heap.size [.int .i64 d,.int .i64 k,.string (S val),.int .u64 dl] by
  rw[hW]
  exact((Jc.new w _ [.int .i64 d,.int .i64 k,.string (S val),.int .u64 dl]).on ((Below.refl _ _).alloc (Nat.le_refl _) _)).on ((Below.refl _ _).alloc (Nat.le_refl _) _))
 have HR:=Lib.hid (show Jc W 39 (w.heap.size+1) [.int .u8 0,.string ⟨#[]⟩,.string ⟨#[]⟩,.int .u64 0] by
  rw[hW]
  exact(Jc.new' _ _ _ _ (by simp)).on ((Below.refl _ _).alloc (Nat.le_refl _) _))
 have HQ:=Lib.hid (show Jc W 62 (w.heap.size+1+1) [.int .u8 0,.string ⟨#[]⟩,.string ⟨#[]⟩,.int .u64 0] by
  rw[hW]
  exact Jc.new' _ _ _ _ (by simp))
 try simp only[hz1]
 rw[<-hW]
 clear hW hz1
 obtain⟨ab,hab⟩:∃ab,ab=w.heap.size:=⟨_,rfl⟩
 obtain⟨rb,hrb⟩:∃rb,rb=w.heap.size+1:=⟨_,rfl⟩
 obtain⟨qb,hqb⟩:∃qb,qb=w.heap.size+1+1:=⟨_,rfl⟩
 rw[<-hqb,<-hrb,<-hab]
 rw[<-hab] at HA
 rw[<-hrb] at HR
 rw[<-hqb] at HQ
 have hne:w.heap.size<=rb/\w.heap.size<=qb/\rb≠qb:=by omega
 have HX:=Lib.hid hX
 clear hab hrb hqb hX
 have a0:W.cell? ⟨ab,0,none⟩=some (.int .i64 d):=HA.out.cell 0
 have a1:W.cell? ⟨ab,1,none⟩=some (.int .i64 k):=HA.out.cell 1
 have hal:=HA.out.lt
 have a0a:∀x,(W.alloc x).cell? ⟨ab,0,none⟩=some (.int .i64 d):=fun x=>(World.cell?_alloc_past _ _ _ hal).trans a0
 have a1a:∀x,(W.alloc x).cell? ⟨ab,1,none⟩=some (.int .i64 k):=fun x=>(World.cell?_alloc_past _ _ _ hal).trans a1
 go_cut [4] from 5 to 14 (fun s4 wx=>∃nb,s4=.pointer (some ⟨nb,0,none⟩)/\Hid (Jc wx 62 nb [.int .u8 (1+(m:Int)),.string (S (Jgh k)),.string ⟨#[]⟩,.int .u64 0])/\Hid (Below W.heap.size W wx)/\W.heap.size<=nb)
 case first=>
  have hN:Jc (W.alloc (.cells #[.int .u8 0,.string ⟨#[]⟩,.string ⟨#[]⟩,.int .u64 0] 62)).drew 62 W.heap.size [.int .u8 0,.string ⟨#[]⟩,.string ⟨#[]⟩,.int .u64 0]:=(Jc.new W _ [.int .u8 0,.string ⟨#[]⟩,.string ⟨#[]⟩,.int .u64 0]).on (Jb (Below.refl _ _))
  have HN:=Lib.hid hN
  have hd:Below W.heap.size W W.drew:=Jb (Below.refl _ _)
  have hda:Below W.heap.size W (W.alloc (.cells #[.int .u8 0,.string ⟨#[]⟩,.string ⟨#[]⟩,.int .u64 0] 62)).drew:=Jb ((Below.refl _ _).alloc (Nat.le_refl _) _)
  have HD:=Lib.hid (And.intro hd hda)
  clear hN hd hda
  go_region_law (first|(go_simp;go_at_call 27;refine(HK.out _).mono ?_;rintro e w3 ⟨rfl,hX3⟩;have ra3:Jc w3 51 ab [.int .i64 d,.int .i64 k,.string (S val),.int .u64 dl]:=(by first|exact(HA.out.on HD.out.1).on hX3|exact(HA.out.on HD.out.2).on hX3);have y0:w3.cell? ⟨ab,0,none⟩=some (.int .i64 d):=ra3.cell 0;have y0a:∀x,(w3.alloc x).cell? ⟨ab,0,none⟩=some (.int .i64 d):=fun x=>(World.cell?_alloc_past _ _ _ ra3.lt).trans y0;try have hr3:=HN.out.on hX3;try have n0:w3.cell? ⟨W.heap.size,0,none⟩=some (.int .u8 0):=hr3.cell 0;try have n1:w3.cell? ⟨W.heap.size,1,none⟩=some (.string ⟨#[]⟩):=hr3.cell 1;try have n2:w3.cell? ⟨W.heap.size,2,none⟩=some (.string ⟨#[]⟩):=hr3.cell 2;try have n3:w3.cell? ⟨W.heap.size,3,none⟩=some (.int .u64 0):=hr3.cell 3;try have nf:=hr3.frozen))
  all_goals
   have HX3:=Lib.hid hX3
   clear hX3 y0 y0a ra3
   go_wp2_with fail
   go_meet
   first
    |(have hh:=hr3.put 0 (.int .u8 (1+(m:Int)));exact⟨_,rfl,Lib.hid (((hh.put 1 _).put 2 _).put 3 _),Lib.hid ((((((HD.out.2.trans (HX3.out.mono HD.out.2.size)).setCell (p:=⟨W.heap.size,0,none⟩) (Nat.le_refl _) _).setCell (p:=⟨W.heap.size,1,none⟩) (Nat.le_refl _) _).setCell (p:=⟨W.heap.size,2,none⟩) (Nat.le_refl _) _)).setCell (p:=⟨W.heap.size,3,none⟩) (Nat.le_refl _) _),Nat.le_refl _⟩)
    |exact⟨w3.heap.size,rfl,Lib.hid (Jc.new w3 _ [.int .u8 (1+(m:Int)),.string (S (Jgh k)),.string ⟨#[]⟩,.int .u64 0]),Lib.hid (((HD.out.1.trans (HX3.out.mono HD.out.1.size))).alloc HX3.out.size _),HX3.out.size⟩
 case rest=>
 obtain⟨nb,rfl,HN,HB,hnb⟩:=hcut
 obtain⟨w3,hw3⟩:∃w3,w3=wc:=⟨_,rfl⟩
 subst hw3
 have HA3:=Lib.hid (HA.out.on HB.out)
 have HR3:=Lib.hid (HR.out.on HB.out)
 have HQ3:=Lib.hid (HQ.out.on HB.out)
 have hlt:ab<nb/\rb<nb/\qb<nb:=by
  have h1:=HA.out.lt
  have h2:=HR.out.lt
  have h3:=HQ.out.lt
  omega
 have HB3:=Lib.hid (HX.out.trans (HB.out.mono HX.out.size))
 have hwn:w.heap.size<=nb:=Nat.le_trans HX.out.size hnb
 clear HA HR HQ HB HX hnb a0 a1 a0a a1a hal HK hmax
 have n0:w3.cell? ⟨nb,0,none⟩=some (.int .u8 (1+(m:Int))):=HN.out.cell 0
 have n1:w3.cell? ⟨nb,1,none⟩=some (.string (S (Jgh k))):=HN.out.cell 1
 have n2:w3.cell? ⟨nb,2,none⟩=some (.string ⟨#[]⟩):=HN.out.cell 2
 have n3:w3.cell? ⟨nb,3,none⟩=some (.int .u64 0):=HN.out.cell 3
 have nf2:=HN.out.frozen 2
 have nf3:=HN.out.frozen 3
 have a2:w3.cell? ⟨ab,2,none⟩=some (.string (S val)):=HA3.out.cell 2
 have a3:w3.cell? ⟨ab,3,none⟩=some (.int .u64 dl):=HA3.out.cell 3
 go_upto_if 17 with(fail)
 go_cut [] from 15 to 25 (fun wx=>Hid (Jc wx 62 nb [.int .u8 (1+(m:Int)),.string (S (Jgh k)),.string (S U.val),.int .u64 0])/\Hid (Jg (fun x=>x=nb) w3 wx))
 case first=>
  have hcs:m=0\/m=1\/m=2:=by omega
  rcases hcs with rfl|rfl|rfl
  ·replace n0:w3.cell? ⟨nb,0,none⟩=some (.int .u8 1):=n0
   have e2:val.take (min val.length 20)=val.take 20:=by
    rcases Nat.le_total val.length 20 with h|h
    ·rw[Nat.min_eq_left h,List.take_of_length_le (Nat.le_refl _),List.take_of_length_le h]
    ·rw[Nat.min_eq_right h]
   have E2:=Lib.hid e2
   clear e2
   go_wp2_with fail
   go_meet
   rw[HU.out]
   refine⟨Lib.hid ?_,Lib.hid ((Jg.refl (fun x=>x=nb) w3).setCell ⟨nb,2,none⟩ (Or.inl rfl) _)⟩
   rw[E2.out]
   exact HN.out.put 2 _
  ·replace n0:w3.cell? ⟨nb,0,none⟩=some (.int .u8 2):=n0
   go_wp2_with fail
   go_meet
   rw[HU.out]
   exact⟨Lib.hid HN.out,Lib.hid (Jg.refl _ _)⟩
  ·replace n0:w3.cell? ⟨nb,0,none⟩=some (.int .u8 3):=n0
   go_wp2_with fail
   go_meet
   rw[HU.out]
   exact⟨Lib.hid HN.out,Lib.hid (Jg.refl _ _)⟩
 case rest=>
 obtain⟨HN5,HK5⟩:=hcut
 obtain⟨w5,hw5⟩:∃w5,w5=wc:=⟨_,rfl⟩
 subst hw5
 have n0':w5.cell? ⟨nb,0,none⟩=some (.int .u8 (1+(m:Int))):=HN5.out.cell 0
 have n3':w5.cell? ⟨nb,3,none⟩=some (.int .u64 0):=HN5.out.cell 3
 have nf3':=HN5.out.frozen 3
 have a3':w5.cell? ⟨ab,3,none⟩=some (.int .u64 dl):=(HK5.out.row HA3.out (show¬ab=nb by omega)).cell 3
 clear n0 n1 n2 n3 nf2 nf3 a2 a3
 go_upto_if 28 with(fail)
 go_cut [] from 26 to 31 (fun wx=>Hid (Jc wx 62 nb [.int .u8 U.kind,.string (S U.key),.string (S U.val),.int .u64 U.delta])/\Hid (Jg (fun x=>x=nb) w5 wx))
 case first=>
  have hcs:m=0\/m=1\/m=2:=by omega
  rcases hcs with rfl|rfl|rfl
  ·replace n0':w5.cell? ⟨nb,0,none⟩=some (.int .u8 1):=n0'
   go_wp2_with fail
   go_meet
   rw[HU.out] at HN5⊢
   exact⟨Lib.hid HN5.out,Lib.hid (Jg.refl _ _)⟩
  ·replace n0':w5.cell? ⟨nb,0,none⟩=some (.int .u8 2):=n0'
   go_wp2_with fail
   go_meet
   rw[HU.out] at HN5⊢
   exact⟨Lib.hid HN5.out,Lib.hid (Jg.refl _ _)⟩
  ·replace n0':w5.cell? ⟨nb,0,none⟩=some (.int .u8 3):=n0'
   go_wp2_with fail
   go_meet
   rw[HU.out] at HN5⊢
   exact⟨Lib.hid (HN5.out.put 3 _),Lib.hid ((Jg.refl (fun x=>x=nb) w5).setCell ⟨nb,3,none⟩ (Or.inl rfl) _)⟩
 case rest=>
 obtain⟨HN6,HK6⟩:=hcut
 obtain⟨w6,hw6⟩:∃w6,w6=wc:=⟨_,rfl⟩
 subst hw6
 replace HK6:=Lib.hid (HK5.out.trans' HK6.out)
 have HR6:=Lib.hid (HK6.out.row HR3.out (show¬rb=nb by omega))
 have HQ6:=Lib.hid (HK6.out.row HQ3.out (show¬qb=nb by omega))
 have HB6:=Lib.hid (HB3.out.trans (HK6.out.below HB3.out.size (fun x hx=>by rw[show x=nb from hx];exact hwn)))
 have m0:w6.cell? ⟨nb,0,none⟩=some (.int .u8 U.kind):=HN6.out.cell 0
 have m1:w6.cell? ⟨nb,1,none⟩=some (.string (S U.key)):=HN6.out.cell 1
 have m2:w6.cell? ⟨nb,2,none⟩=some (.string (S U.val)):=HN6.out.cell 2
 have m3:w6.cell? ⟨nb,3,none⟩=some (.int .u64 U.delta):=HN6.out.cell 3
 have r0:w6.cell? ⟨rb,0,none⟩=some (.int .u8 0):=HR6.out.cell 0
 have r1:w6.cell? ⟨rb,1,none⟩=some (.string ⟨#[]⟩):=HR6.out.cell 1
 have r2:w6.cell? ⟨rb,2,none⟩=some (.string ⟨#[]⟩):=HR6.out.cell 2
 have r3:w6.cell? ⟨rb,3,none⟩=some (.int .u64 0):=HR6.out.cell 3
 have q0:w6.cell? ⟨qb,0,none⟩=some (.int .u8 0):=HQ6.out.cell 0
 have q1:w6.cell? ⟨qb,1,none⟩=some (.string ⟨#[]⟩):=HQ6.out.cell 1
 have q2:w6.cell? ⟨qb,2,none⟩=some (.string ⟨#[]⟩):=HQ6.out.cell 2
 have q3:w6.cell? ⟨qb,3,none⟩=some (.int .u64 0):=HQ6.out.cell 3
 have rf:=HR6.out.frozen
 have qf:=HQ6.out.frozen
 have hn1:nb≠rb:=by omega
 have hn2:nb≠qb:=by omega
 have hn3:rb≠qb:=hne.2.2
 have hn4:qb≠rb:=fun e=>hn3 e.symm
 clear n0' n3' nf3' a3' HN HN5 HK5 HA3 HR3 HQ3 HB3 HK6
 go_upto_region 6 with(fail)
 go_region
 all_goals
  obtain⟨W7,hW7⟩:∃W7,W7=(((((((w6.setCell ⟨rb,0,none⟩ (.int .u8 U.kind)).setCell ⟨rb,1,none⟩ (.string (S U.key))).setCell ⟨rb,2,none⟩ (.string (S U.val))).setCell ⟨rb,3,none⟩ (.int .u64 U.delta)).setCell ⟨qb,0,none⟩ (.int .u8 U.kind)).setCell ⟨qb,1,none⟩ (.string (S U.key))).setCell ⟨qb,2,none⟩ (.string (S U.val))).setCell ⟨qb,3,none⟩ (.int .u64 U.delta):=⟨_,rfl⟩
  have HR7:=Lib.hid (show Jc W7.drew 39 rb [.int .u8 U.kind,.string (S U.key),.string (S U.val),.int .u64 U.delta] from by
   rw[hW7]
   exact((((((((HR6.out.put 0 _).put 1 _).put 2 _).put 3 _).far ⟨qb,0,none⟩ hn3 _).far ⟨qb,1,none⟩ hn3 _).far ⟨qb,2,none⟩ hn3 _).far ⟨qb,3,none⟩ hn3 _).on (Jb (Below.refl _ _)))
  have HQ7:=Lib.hid (show Jc W7.drew 62 qb [.int .u8 U.kind,.string (S U.key),.string (S U.val),.int .u64 U.delta] from by
   rw[hW7]
   exact((((((((HQ6.out.far ⟨rb,0,none⟩ hn4 _).far ⟨rb,1,none⟩ hn4 _).far ⟨rb,2,none⟩ hn4 _).far ⟨rb,3,none⟩ hn4 _).put 0 _).put 1 _).put 2 _).put 3 _).on (Jb (Below.refl _ _)))
  have HB7:=Lib.hid (show Below w.heap.size w W7.drew from by
   rw[hW7]
   exact Jb ((((((((HB6.out.setCell hne.1 _).setCell hne.1 _).setCell hne.1 _).setCell hne.1 _).setCell hne.2.1 _).setCell hne.2.1 _).setCell hne.2.1 _).setCell hne.2.1 _))
  rw[<-hW7]
  obtain⟨W8,hW8⟩:∃W8,W8=W7.drew:=⟨_,rfl⟩
  rw[<-hW8] at HR7 HQ7 HB7⊢
  clear hW8 hW7 m0 m1 m2 m3 r0 r1 r2 r3 q0 q1 q2 q3 rf qf
  have y0:W8.cell? ⟨rb,0,none⟩=some (.int .u8 U.kind):=HR7.out.cell 0
  have y1:W8.cell? ⟨rb,1,none⟩=some (.string (S U.key)):=HR7.out.cell 1
  have y2:W8.cell? ⟨rb,2,none⟩=some (.string (S U.val)):=HR7.out.cell 2
  have y3:W8.cell? ⟨rb,3,none⟩=some (.int .u64 U.delta):=HR7.out.cell 3
  have x0:W8.cell? ⟨qb,0,none⟩=some (.int .u8 U.kind):=HQ7.out.cell 0
  have x1:W8.cell? ⟨qb,1,none⟩=some (.string (S U.key)):=HQ7.out.cell 1
  have x2:W8.cell? ⟨qb,2,none⟩=some (.string (S U.val)):=HQ7.out.cell 2
  have x3:W8.cell? ⟨qb,3,none⟩=some (.int .u64 U.delta):=HQ7.out.cell 3
  go_wp2_with fail
  exact bodyPost_ret (v:=.tuple #[.agg #[.int .u8 U.kind,.string (S U.key),.string (S U.val),.int .u64 U.delta],.agg #[.int .u8 U.kind,.string (S U.key),.string (S U.val),.int .u64 U.delta]]) (by simp[results,Tryz.results23,go_sem,y0,y1,y2,y3,x0,x1,x2,x3]) rfl ⟨rfl,HB7.out⟩
end Go.Proofs.YtafciefjlkdecaaGreat
namespace Go.Proofs.YtafciefjlkdecaaGreat
open Go.RowKit
structure Pt where
 a:Int
 g:Nat
 s:Nat
structure Vt where
 b:Nat
 mem:Bool
 ld:Bool
 kn:Option Pt
 es:List Ent
 us:List Upd
 ch:List (Chd×Vt)
abbrev Vt.cs (v:Vt):List Chd:=v.ch.map Prod.fst
abbrev lw (x:Chd×Vt):List UInt8:=x.1.low
def JaU:List (Chd×Vt)->List UInt8->Option Vt
 |[],_=>none
 |[x],_=>some x.2
 |x::y::r,q=>if bl q (lw y)=true then some x.2 else JaU (y::r) q
theorem JiU (x:Chd×Vt) (q:List UInt8):JaU [x] q=some x.2:=rfl
theorem Z9 (x y:Chd×Vt) (r:List (Chd×Vt)) (q:List UInt8):JaU (x::y::r) q=if bl q (lw y)=true then some x.2 else JaU (y::r) q:=rfl
theorem Jcb {q k k':List UInt8} (h:bl q k=false) (h2:bl k' k=true):bl q k'=false:=by
 cases hq:bl q k' with
 |false=>rfl
 |true=>rw[J4 hq h2] at h;cases h
theorem JY {a b:List UInt8} (h:bl a b=true):b≠[]:=fun e=>by rw[e,Zm] at h;cases h
theorem JdW {a:List UInt8} (h:a≠[]):bl [] a=true:=by
 cases a with
 |nil=>exact absurd rfl h
 |cons=>rfl
theorem Jbx:∀(A:List (Chd×Vt)) (y:Chd×Vt) (D:List (Chd×Vt)) (q:List UInt8),A≠[]->(∀a∈A,bl (lw a) (lw y)=true)->JaU (A++y::D) q=if bl q (lw y)=true then JaU A q else JaU (y::D) q
 |[],_,_,_,h,_=>absurd rfl h
 |[x],y,D,q,_,_=>Z9 x y D q
 |x::z::A,y,D,q,_,h=>by
  have ih:=Jbx (z::A) y D q (by simp) (fun a ha=>h a (List.mem_cons_of_mem _ ha))
  rw[List.cons_append,List.cons_append,Z9,Z9,<-List.cons_append,ih]
  have hz:=h z (by simp)
  cases hq:bl q (lw y) with
  |false=>rw[Jcb hq hz];simp
  |true=>simp
def YS (k hi:List UInt8):Prop:=hi=[]\/bl k hi=true
instance decUnder (k hi:List UInt8):Decidable (YS k hi):=by unfold YS;exact inferInstance
theorem JeP {k hi:List UInt8}:(hi.isEmpty||bl k hi)=true↔YS k hi:=by simp[YS]
theorem Jd {k lo hi:List UInt8}:Jn k lo hi=true↔bl k lo=false/\YS k hi:=by
 unfold Jn
 rw[Bool.and_eq_true,JeP]
 simp
theorem YS.down {k k' hi:List UInt8} (h:YS k hi) (h2:bl k k'=false):YS k' hi:=h.imp id fun q=>by
 rcases JcO h2 with rfl|h3
 ·exact q
 ·exact J4 h3 q
theorem YS.lt {k k' hi:List UInt8} (h:YS k hi) (h2:bl k' k=true):YS k' hi:=h.imp id fun q=>J4 h2 q
def OkK (R:List UInt8->List UInt8->Vt->Prop) (hi:List UInt8):List UInt8->List (Chd×Vt)->Prop
 |_,[]=>False
 |lo,[x]=>R lo hi x.2
 |lo,x::y::r=>bl lo (lw y)=true/\YS (lw y) hi/\R lo (lw y) x.2/\OkK R hi (lw y) (y::r)
theorem OkK.one {R:List UInt8->List UInt8->Vt->Prop} {hi lo:List UInt8} {x:Chd×Vt}:OkK R hi lo [x]↔R lo hi x.2:=Iff.rfl
theorem OkK.two {R:List UInt8->List UInt8->Vt->Prop} {hi lo:List UInt8} {x y:Chd×Vt} {r:List (Chd×Vt)}:OkK R hi lo (x::y::r)↔bl lo (lw y)=true/\YS (lw y) hi/\R lo (lw y) x.2/\OkK R hi (lw y) (y::r):=Iff.rfl
theorem OkK.ne {R:List UInt8->List UInt8->Vt->Prop} {hi lo:List UInt8} {l:List (Chd×Vt)} (h:OkK R hi lo l):l≠[]:=fun e=>by subst e;exact h
theorem OkK.lo_lt {R:List UInt8->List UInt8->Vt->Prop} {hi:List UInt8}:∀ {l:List (Chd×Vt)} {lo:List UInt8},OkK R hi lo l->∀x∈l.tail,bl lo (lw x)=true/\YS (lw x) hi
 |[],_,h=>absurd h id
 |[x],_,_=>by simp
 |x::y::r,lo,h=>by
  obtain⟨h1,h2,h3,h4⟩:=h
  intro z hz
  rw[List.tail_cons,List.mem_cons] at hz
  rcases hz with rfl|hz
  ·exact⟨h1,h2⟩
  ·obtain⟨k1,k2⟩:=OkK.lo_lt h4 z hz
   exact⟨J4 h1 k1,k2⟩
theorem OkK.rising {R:List UInt8->List UInt8->Vt->Prop} {hi:List UInt8}:∀ {l:List (Chd×Vt)} {lo:List UInt8},OkK R hi lo l->l.tail.Pairwise fun a b=>bl (lw a) (lw b)=true
 |[],_,h=>absurd h id
 |[x],_,_=>List.Pairwise.nil
 |x::y::r,lo,h=>by
  rw[List.tail_cons,List.pairwise_cons]
  exact⟨fun z hz=>(OkK.lo_lt h.2.2.2 z hz).1,OkK.rising h.2.2.2⟩
theorem OkK.append {R:List UInt8->List UInt8->Vt->Prop} {hi:List UInt8}:∀ {A:List (Chd×Vt)} {lo:List UInt8} {y:Chd×Vt} {D:List (Chd×Vt)},A≠[]->(OkK R hi lo (A++y::D)↔bl lo (lw y)=true/\YS (lw y) hi/\OkK R (lw y) lo A/\OkK R hi (lw y) (y::D))
 |[],_,_,_,h=>absurd rfl h
 |[x],lo,y,D,_=>by rw[List.singleton_append,OkK.two,OkK.one]
 |x::z::A,lo,y,D,_=>by
  rw[List.cons_append,List.cons_append,OkK.two,<-List.cons_append,OkK.append (A:=z::A) (by simp),OkK.two]
  constructor
  ·rintro⟨h1,h2,h3,h4,h5,h6,h7⟩
   exact⟨J4 h1 h4,h5,⟨h1,Or.inr h4,h3,h6⟩,h7⟩
  ·rintro⟨h1,h2,⟨h3,h4,h5,h6⟩,h7⟩
   have hzy:bl (lw z) (lw y)=true:=h4.elim (fun e=>absurd e (JY h1)) id
   exact⟨h3,h2.lt hzy,h5,hzy,h2,h6,h7⟩
structure Jbg (e:Ent):Prop where
 kpos:1<=e.key.length
 klen:e.key.length<=3
 vlen:e.val.length<=20
def Jk:List (Chd×Vt)->List (Chd×Vt)
 |[]=>[]
 |x::r=>({x.1 with low:=[]},x.2)::r
def Ok:Nat->List UInt8->List UInt8->Vt->Prop
 |0,lo,hi,v=>v.us=[]/\v.ch=[]/\Je Ent.key v.es/\∀e∈v.es,Jbg e/\Jn e.key lo hi=true
 |n+1,lo,hi,v=>v.es=[]/\Je Upd.key v.us/\(∀u∈v.us,Tm u/\Jn u.key lo hi=true)/\(∀x∈v.ch,Zi x.1/\x.1.low.length<=3)/\(∀x,v.ch[0]? =some x->lw x=[])/\OkK (Ok n) hi lo v.ch
def JdX (o:Option Upd) (x:Option (List UInt8)):Option (List UInt8):=match o with|none=>x|some u=>Xs u x
def den:Nat->Vt->List UInt8->Option (List UInt8)
 |0,v,q=>Jz v.es q
 |n+1,v,q=>JdX (Yn v.us q) (match JaU v.ch q with|none=>none|some t=>den n t q)
def Zo (n:Nat) (l:List (Chd×Vt)) (q:List UInt8):Option (List UInt8):=match JaU l q with|none=>none|some t=>den n t q
theorem X6 (v:Vt) (q:List UInt8):den 0 v q=Jz v.es q:=rfl
theorem Yg (n:Nat) (v:Vt) (q:List UInt8):den (n+1) v q=JdX (Yn v.us q) (Zo n v.ch q):=rfl
theorem JjC (n:Nat) (x:Chd×Vt) (q:List UInt8):Zo n [x] q=den n x.2 q:=rfl
theorem Zu (n:Nat) (A:List (Chd×Vt)) (y:Chd×Vt) (D:List (Chd×Vt)) (q:List UInt8) (hA:A≠[]) (h:∀a∈A,bl (lw a) (lw y)=true):Zo n (A++y::D) q=if bl q (lw y)=true then Zo n A q else Zo n (y::D) q:=by
 unfold Zo
 rw[Jbx A y D q hA h]
 by_cases hb:bl q (lw y)=true
 ·rw[if_pos hb,if_pos hb]
 ·rw[if_neg hb,if_neg hb]
theorem XE (n:Nat) (x y:Chd×Vt) (r:List (Chd×Vt)) (q:List UInt8):Zo n (x::y::r) q=if bl q (lw y)=true then den n x.2 q else Zo n (y::r) q:=by
 unfold Zo
 rw[Z9]
 by_cases hb:bl q (lw y)=true
 ·rw[if_pos hb,if_pos hb]
 ·rw[if_neg hb,if_neg hb]
theorem JmJ (x x':Chd×Vt) (r:List (Chd×Vt)) (h:x.2=x'.2) (q:List UInt8):JaU (x::r) q=JaU (x'::r) q:=by
 cases r with
 |nil=>rw[JiU,JiU,h]
 |cons y r=>rw[Z9,Z9,h]
theorem JnZ (l:List (Chd×Vt)) (q:List UInt8):JaU (Jk l) q=JaU l q:=by
 cases l with
 |nil=>rfl
 |cons x r=>exact JmJ ({x.1 with low:=[]},x.2) x r rfl q
theorem Jdr (n:Nat) (l:List (Chd×Vt)) (q:List UInt8):Zo n (Jk l) q=Zo n l q:=by unfold Zo;rw[JnZ]
theorem Jo5 {R:List UInt8->List UInt8->Vt->Prop} {hi lo:List UInt8} (x x':Chd×Vt) (r:List (Chd×Vt)) (h:x.2=x'.2):OkK R hi lo (x::r)↔OkK R hi lo (x'::r):=by
 cases r with
 |nil=>rw[OkK.one,OkK.one,h]
 |cons y r=>rw[OkK.two,OkK.two,h]
theorem JeI {R:List UInt8->List UInt8->Vt->Prop} {hi lo:List UInt8} (l:List (Chd×Vt)):OkK R hi lo (Jk l)↔OkK R hi lo l:=by
 cases l with
 |nil=>exact Iff.rfl
 |cons x r=>exact Jo5 ({x.1 with low:=[]},x.2) x r rfl
theorem Jw (l:List (Chd×Vt)):(Jk l).length=l.length:=by cases l<;>rfl
theorem JbE (l:List (Chd×Vt)):(Jk l).map Prod.fst=Xc (l.map Prod.fst):=by cases l<;>rfl
theorem Ja2 {l:List (Chd×Vt)} (h:∀x∈l,Zi x.1/\x.1.low.length<=3):∀x∈Jk l,Zi x.1/\x.1.low.length<=3:=by
 cases l with
 |nil=>exact h
 |cons x r=>
  intro y hy
  rcases List.mem_cons.1 hy with rfl|hy
  ·obtain⟨h1,-⟩:=h x (by simp)
   exact⟨⟨by simp,h1.addr,h1.gen,h1.sum⟩,by simp⟩
  ·exact h y (List.mem_cons_of_mem _ hy)
theorem Xy (l:List (Chd×Vt)):∀x,(Jk l)[0]? =some x->lw x=[]:=by
 cases l with
 |nil=>intro x hx;simp[Jk] at hx
 |cons y r=>intro x hx;simp only[Jk,List.getElem?_cons_zero,Option.some.injEq] at hx;rw[<-hx]
open Go.RowKit
theorem Jbg.fine {l:List Ent} (h:∀e∈l,Jbg e):ZI l:=fun e he=>⟨(h e he).kpos,by have:=(h e he).klen;omega,by have:=(h e he).vlen;omega⟩
theorem JaS {l:List Upd} (h:Je Upd.key l):(l.map Upd.key).Nodup:=by
 rw[List.Nodup,List.pairwise_map]
 exact h.imp fun hb=>ZY hb
theorem X3 {l:List Upd} {q:List UInt8} {u:Upd} (h:Yn l q=some u):u∈l/\u.key=q:=⟨List.mem_of_find?_eq_some h,by simpa using List.find?_some h⟩
theorem Jej {l:List Upd} {q:List UInt8} (p:List UInt8->Bool):Yn (l.filter fun u=>p u.key) q=if p q=true then Yn l q else none:=by
 unfold Yn
 induction l with
 |nil=>simp
 |cons u l ih=>
  by_cases hp:p u.key=true
  ·rw[List.filter_cons_of_pos (p:=fun u:Upd=>p u.key) hp]
   by_cases hu:u.key=q
   ·rw[List.find?_cons_of_pos (by simpa using hu),List.find?_cons_of_pos (by simpa using hu),<-hu,if_pos hp]
   ·rw[List.find?_cons_of_neg (by simpa using hu),List.find?_cons_of_neg (by simpa using hu)]
    exact ih
  ·rw[List.filter_cons_of_neg (p:=fun u:Upd=>p u.key) hp]
   by_cases hu:u.key=q
   ·rw[ih,if_neg (by rw[<-hu];exact hp),if_neg (by rw[<-hu];exact hp)]
   ·rw[List.find?_cons_of_neg (by simpa using hu)]
    exact ih
theorem JfF (q:List UInt8):Yn [] q=none:=rfl
theorem Jg3 (u:Upd) (l:List Upd) (q:List UInt8):Yn (u::l) q=if u.key=q then some u else Yn l q:=by
 unfold Yn
 by_cases h:u.key=q
 ·rw[List.find?_cons_of_pos (by simpa using h),if_pos h]
 ·rw[List.find?_cons_of_neg (by simpa using h),if_neg h]
theorem Jmg {l:List Upd} (hr:Je Upd.key l) {u x:Upd} (h:x∈JQ l u):x.key=u.key\/∃y∈l,y.key=x.key:=by
 by_cases hk:x.key=u.key
 ·exact Or.inl hk
 ·have h1:=(JbC (Zj hr u) x.key x).2 ⟨h,rfl⟩
  rw[Jbc hr u hk] at h1
  exact Or.inr ⟨x,(X3 h1).1,rfl⟩
structure Ja9 (P:List UInt8->Prop) (us:List Upd):Prop where
 rise:Je Upd.key us
 tm:∀u∈us,Tm u
 key:∀u∈us,P u.key
theorem Ja9.step {P:List UInt8->Prop} {us:List Upd} (h:Ja9 P us) {u:Upd} (hu:Tm u) (hp:P u.key):Ja9 P (JQ us u):=
 ⟨Zj h.rise u,Jnx h.rise h.tm u hu,fun x hx=>by
  rcases Jmg h.rise hx with e|⟨y,hy,e⟩
  ·rw[e];exact hp
  ·rw[<-e];exact h.key y hy⟩
theorem Ja9.fold {P:List UInt8->Prop}:∀(l us:List Upd),Ja9 P us->(∀u∈l,Tm u)->(∀u∈l,P u.key)->Ja9 P (l.foldl JQ us)
 |[],_,h,_,_=>h
 |u::l,us,h,h1,h2=>Ja9.fold l (JQ us u) (h.step (h1 u (by simp)) (h2 u (by simp))) (fun x hx=>h1 x (List.mem_cons_of_mem _ hx)) (fun x hx=>h2 x (List.mem_cons_of_mem _ hx))
theorem JbD:∀(l us:List Upd),Je Upd.key us->(l.foldl JQ us).length<=us.length+l.length
 |[],_,_=>by simp
 |u::l,us,h=>by
  have h1:=JbD l (JQ us u) (Zj h u)
  have h2:=Jdw h u
  simp only[List.foldl_cons,List.length_cons]
  omega
def Jqm (o n:Option Upd):Option Upd:=match n with|none=>o|some u=>some (match o with|none=>u|some f=>Zf f u)
theorem Jg2:∀(l us:List Upd),Je Upd.key us->(l.map Upd.key).Nodup->∀q,Yn (l.foldl JQ us) q=Jqm (Yn us q) (Yn l q)
 |[],us,_,_,q=>rfl
 |u::l,us,hr,hn,q=>by
  rw[List.map_cons,List.nodup_cons] at hn
  rw[List.foldl_cons,Jg2 l (JQ us u) (Zj hr u) hn.2 q,Jg3]
  by_cases hu:u.key=q
  ·subst hu
   have h0:Yn l u.key=none:=by
    cases h:Yn l u.key with
    |none=>rfl
    |some x=>exact absurd (List.mem_map.2 ⟨x,(X3 h).1,(X3 h).2⟩) hn.1
   rw[h0,if_pos rfl,Jm2 hr u]
   rfl
  ·rw[if_neg hu,Jbc hr u (fun e=>hu e.symm)]
def JkK (r:List UInt8×Bool):Option (List UInt8):=if r.2=true then some r.1 else none
theorem Jce {u:Upd} (h:u.check=0):Xs u none=JkK (onL [] false u):=by
 unfold Xs
 rw[if_neg (by rw[h];simp)]
 rfl
theorem Jcd {u:Upd} (h:u.check=0) (v:List UInt8):Xs u (some v)=JkK (onL v true u):=by
 unfold Xs
 rw[if_neg (by rw[h];simp)]
 rfl
theorem Jj0 {u:Upd} (h:u.check=0) (v:List UInt8) (th:Bool):Xs u (JkK (v,th))=JkK (onL v th u):=by
 cases th with
 |true=>exact Jcd h v
 |false=>
  rw[show JkK (v,false)=none from rfl,Jce h]
  have:=JmR v false u
  simp only[Bool.false_eq_true,if_false] at this
  rw[this]
theorem Jnm {f u:Upd} (hf:Tm f) (hu:Tm u) (x:Option (List UInt8)):Xs (Zf f u) x=Xs u (Xs f x):=by
 cases x with
 |none=>rw[Jce (Jfw hf hu).check,Jce hf.check,Ji5 hf hu,<-Jj0 hu.check]
 |some v=>rw[Jcd (Jfw hf hu).check,Jcd hf.check,Ji5 hf hu,<-Jj0 hu.check]
theorem Jnl {o n:Option Upd} (ho:∀u,o=some u->Tm u) (hn:∀u,n=some u->Tm u) (x:Option (List UInt8)):JdX (Jqm o n) x=JdX n (JdX o x):=by
 cases n with
 |none=>rfl
 |some u=>
  cases o with
  |none=>rfl
  |some f=>exact Jnm (ho f rfl) (hn u rfl) x
theorem JgO {r:List UInt8×Bool} {y:List UInt8} (h:JkK r=some y):y=r.1:=by
 unfold JkK at h
 split at h
 ·exact(Option.some.inj h).symm
 ·cases h
theorem JoX {u:Upd} (hu:Tm u) {x:Option (List UInt8)} (hx:∀v,x=some v->v.length<=20) {y:List UInt8} (h:Xs u x=some y):y.length<=20:=by
 cases x with
 |none=>
  rw[Jce hu.check] at h
  rw[JgO h]
  exact Jal _ _ _ _ (by simp) hu.vlen (by omega)
 |some v=>
  rw[Jcd hu.check] at h
  rw[JgO h]
  exact Jal _ _ _ _ (hx v rfl) hu.vlen (by omega)
def gv:Nat->Vt->List Upd->Vt
 |0,v,l=> {v with es:=Ys v.es l}
 |_+1,v,l=> {v with us:=l.foldl JQ v.us}
structure ZD (lo hi:List UInt8) (l:List Upd):Prop where
 rise:Je Upd.key l
 ok:∀u∈l,Tm u/\Jn u.key lo hi=true
theorem Ok.rise0 {lo hi:List UInt8} {v:Vt} (h:Ok 0 lo hi v):Je Ent.key v.es:=h.2.2.1
theorem Ok.ent {lo hi:List UInt8} {v:Vt} (h:Ok 0 lo hi v):∀e∈v.es,Jbg e:=fun e he=>(h.2.2.2 e he).1
theorem Ok.fine {lo hi:List UInt8} {v:Vt} (h:Ok 0 lo hi v):ZI v.es:=Jbg.fine h.ent
theorem JgR (l:List Ent) (hr:Je Ent.key l) (hf:ZI l) (us:List Upd) (hn:(us.map Upd.key).Nodup) (k:List UInt8):Jz (Ys l us) k=JdX (Yn us k) (Jz l k):=by
 rw[JkN l hr hf us hn k]
 unfold Yn
 cases us.find? (fun u=>u.key==k)<;>rfl
theorem Jk4:∀ {n:Nat} {lo hi:List UInt8} {v:Vt} {l:List Upd},Ok n lo hi v->ZD lo hi l->∀q,den n (gv n v l) q=JdX (Yn l q) (den n v q)
 |0,lo,hi,v,l,h,hl,q=>by
  rw[X6,X6,gv,JgR v.es h.rise0 h.fine l (JaS hl.rise) q]
 |n+1,lo,hi,v,l,h,hl,q=>by
  obtain⟨-,h1,h2,-⟩:=h
  rw[Yg,Yg,gv,Jg2 l v.us h1 (JaS hl.rise) q,Jnl]
  ·exact fun u hu=>(h2 u (X3 hu).1).1
  ·exact fun u hu=>(hl.ok u (X3 hu).1).1
theorem Jjt:∀ {n:Nat} {lo hi:List UInt8} {v:Vt} {l:List Upd},Ok n lo hi v->ZD lo hi l->Ok n lo hi (gv n v l)
 |0,lo,hi,v,l,h,hl=>by
  obtain⟨h0,h1,h2,h3⟩:=h
  have hA:=Jc8 v.es h2 (Jbg.fine fun e he=>(h3 e he).1) l
  refine⟨h0,h1,hA.1,fun e he=> ?_⟩
  have hk:=JbZ hA.1 e he
  rw[JgR v.es h2 (Jbg.fine fun e he=>(h3 e he).1) l (JaS hl.rise)] at hk
  have hk':JdX (Yn l e.key) (Jz v.es e.key)=some e.val:=hk
  cases hg:Yn l e.key with
  |none=>
   rw[hg] at hk'
   exact h3 ⟨e.key,e.val⟩ (Zy hk')
  |some u=>
   rw[hg] at hk'
   obtain⟨hm,hke⟩:=X3 hg
   obtain⟨ht,hw⟩:=hl.ok u hm
   refine⟨⟨by rw[<-hke];exact ht.kpos,by rw[<-hke];exact ht.klen,JoX ht (fun x hx=>(h3 _ (Zy hx)).1.vlen) hk'⟩,by rw[<-hke];exact hw⟩
 |n+1,lo,hi,v,l,h,hl=>by
  obtain⟨h0,h1,h2,h3⟩:=h
  have hF:=Ja9.fold (P:=fun k=>Jn k lo hi=true) l v.us ⟨h1,fun u hu=>(h2 u hu).1,fun u hu=>(h2 u hu).2⟩ (fun u hu=>(hl.ok u hu).1) (fun u hu=>(hl.ok u hu).2)
  exact⟨h0,hF.rise,fun u hu=>⟨hF.tm u hu,hF.key u hu⟩,h3⟩
def hdL (D:List (Chd×Vt)):List UInt8:=match D with|[]=>[]|y::_=>lw y
def loA (lo:List UInt8) (A:List (Chd×Vt)) (c:Chd):List UInt8:=match A with|[]=>lo|_::_=>c.low
def hiD (hi:List UInt8) (D:List (Chd×Vt)):List UInt8:=match D with|[]=>hi|y::_=>lw y
structure Mid (R:List UInt8->List UInt8->Vt->Prop) (hi lo:List UInt8) (A:List (Chd×Vt)) (c:Chd) (t:Vt) (D:List (Chd×Vt)):Prop where
 a:A=[]\/(bl lo c.low=true/\YS c.low hi/\OkK R c.low lo A)
 d:D=[]\/(bl (loA lo A c) (hdL D)=true/\YS (hdL D) hi/\OkK R hi (hdL D) D)
 t:R (loA lo A c) (hiD hi D) t
theorem OkK.mid {R:List UInt8->List UInt8->Vt->Prop} {hi lo:List UInt8} {A:List (Chd×Vt)} {c:Chd} {t:Vt} {D:List (Chd×Vt)} (h:OkK R hi lo (A++(c,t)::D)):Mid R hi lo A c t D:=by
 cases A with
 |nil=>
  cases D with
  |nil=>exact⟨Or.inl rfl,Or.inl rfl,h⟩
  |cons y D=>exact⟨Or.inl rfl,Or.inr ⟨h.1,h.2.1,h.2.2.2⟩,h.2.2.1⟩
 |cons x A=>
  obtain⟨h1,h2,h3,h4⟩:=(OkK.append (by simp)).1 h
  cases D with
  |nil=>exact⟨Or.inr ⟨h1,h2,h3⟩,Or.inl rfl,h4⟩
  |cons y D=>exact⟨Or.inr ⟨h1,h2,h3⟩,Or.inr ⟨h4.1,h4.2.1,h4.2.2.2⟩,h4.2.2.1⟩
theorem Mid.put {R:List UInt8->List UInt8->Vt->Prop} {hi lo:List UInt8} {A:List (Chd×Vt)} {c:Chd} {t:Vt} {D:List (Chd×Vt)} (h:Mid R hi lo A c t D) {Q:List (Chd×Vt)} (hq:hdL Q=c.low) (hQ:OkK R (hiD hi D) (loA lo A c) Q):OkK R hi lo (A++(Q++D)):=by
 have hne:=hQ.ne
 obtain⟨x,Q',rfl⟩:∃x Q',Q=x::Q':=by cases Q with|nil=>exact absurd rfl hne|cons x Q'=>exact⟨x,Q',rfl⟩
 have hQD:OkK R hi (loA lo A c) ((x::Q')++D):=by
  rcases h.d with rfl|⟨h1,h2,h3⟩
  ·rw[List.append_nil];exact hQ
  ·cases D with
   |nil=>exact absurd h3 id
   |cons y D=>exact(OkK.append (by simp)).2 ⟨h1,h2,hQ,h3⟩
 rcases h.a with rfl|⟨h1,h2,h3⟩
 ·exact hQD
 ·cases A with
  |nil=>exact absurd h3 id
  |cons z A=>
   have e:lw x=c.low:=hq
   refine(OkK.append (y:=x) (D:=Q'++D) (by simp)).2 ⟨by rw[e];exact h1,by rw[e];exact h2,by rw[e];exact h3,?_⟩
   rw[e]
   exact hQD
theorem Mid.set {R:List UInt8->List UInt8->Vt->Prop} {hi lo:List UInt8} {A:List (Chd×Vt)} {c:Chd} {t t':Vt} {D:List (Chd×Vt)} (h:Mid R hi lo A c t D) (ht:R (loA lo A c) (hiD hi D) t'):OkK R hi lo (A++(c,t')::D):=
 h.put (Q:=[(c,t')]) rfl ht
theorem OkK.below {R:List UInt8->List UInt8->Vt->Prop} {hi:List UInt8}:∀ {A:List (Chd×Vt)} {lo:List UInt8},OkK R hi lo A->hi≠[]->(∀x,A[0]? =some x->bl (lw x) hi=true)->∀a∈A,bl (lw a) hi=true
 |[],_,h,_,_=>absurd h id
 |[x],_,_,_,hx=>fun a ha=>by rw[List.mem_singleton] at ha;rw[ha];exact hx x rfl
 |x::y::r,lo,h,hne,hx=>fun a ha=>by
  rcases List.mem_cons.1 ha with rfl|ha
  ·exact hx a rfl
  ·exact OkK.below h.2.2.2 hne (fun z hz=>by simp only[List.getElem?_cons_zero,Option.some.injEq] at hz;rw[<-hz];exact h.2.1.elim (fun e=>absurd e hne) id) a ha
theorem Mid.ahead {R:List UInt8->List UInt8->Vt->Prop} {hi lo:List UInt8} {A:List (Chd×Vt)} {c:Chd} {t:Vt} {D:List (Chd×Vt)} (h:Mid R hi lo A c t D) (h0:∀x,A[0]? =some x->lw x=[]):∀a∈A,bl (lw a) c.low=true:=by
 rcases h.a with rfl|⟨h1,h2,h3⟩
 ·intro a ha;simp at ha
 ·exact OkK.below h3 (JY h1) fun x hx=>by rw[h0 x hx];exact JdW (JY h1)
theorem Mid.behind {R:List UInt8->List UInt8->Vt->Prop} {hi lo:List UInt8} {A:List (Chd×Vt)} {c:Chd} {t:Vt} {y:Chd×Vt} {D:List (Chd×Vt)} (h:Mid R hi lo A c t (y::D)):bl (loA lo A c) (lw y)=true/\YS (lw y) hi:=by
 rcases h.d with h|⟨h1,h2,-⟩
 ·cases h
 ·exact⟨h1,h2⟩
theorem JfN {n:Nat} {R:List UInt8->List UInt8->Vt->Prop} {hi lo:List UInt8} {A:List (Chd×Vt)} {c:Chd} {t:Vt} {D:List (Chd×Vt)} (h:Mid R hi lo A c t D) (h0:∀x,A[0]? =some x->lw x=[]) (hA0:A=[]->c.low=[]) {Q:List (Chd×Vt)} (hne:Q≠[]) (hq:hdL Q=c.low) (hQD:∀y D',D=y::D'->∀a∈Q,bl (lw a) (lw y)=true) (q:List UInt8):
  Zo n (A++(Q++D)) q=if Jn q c.low (hdL D)=true then Zo n Q q else Zo n (A++(c,t)::D) q:=by
 have hah:=h.ahead h0
 obtain⟨x,Q',rfl⟩:∃x Q',Q=x::Q':=by cases Q with|nil=>exact absurd rfl hne|cons x Q'=>exact⟨x,Q',rfl⟩
 have e:lw x=c.low:=hq
 have hQ:Zo n ((x::Q')++D) q=if YS q (hdL D) then Zo n (x::Q') q else Zo n D q:=by
  cases D with
  |nil=>rw[List.append_nil,if_pos (show YS q (hdL []) from Or.inl rfl)]
  |cons y D=>
   rw[Zu n (x::Q') y D q (by simp) (hQD y D rfl)]
   have hy:lw y≠[]:=JY h.behind.1
   by_cases hb:bl q (lw y)=true
   ·rw[if_pos hb,if_pos (show YS q (hdL (y::D)) from Or.inr hb)]
   ·rw[if_neg hb,if_neg (show¬YS q (hdL (y::D)) from fun hu=>hu.elim hy hb)]
 have hc:Zo n ((c,t)::D) q=if YS q (hdL D) then den n t q else Zo n D q:=by
  cases D with
  |nil=>rw[if_pos (show YS q (hdL []) from Or.inl rfl)];rfl
  |cons y D=>
   rw[XE]
   have hy:lw y≠[]:=JY h.behind.1
   by_cases hb:bl q (lw y)=true
   ·rw[if_pos hb,if_pos (show YS q (hdL (y::D)) from Or.inr hb)]
   ·rw[if_neg hb,if_neg (show¬YS q (hdL (y::D)) from fun hu=>hu.elim hy hb)]
 cases A with
 |nil=>
  rw[List.nil_append,List.nil_append,hQ,hc]
  have hcl:=hA0 rfl
  by_cases hu:YS q (hdL D)
  ·rw[if_pos hu,if_pos hu,if_pos (Jd.2 ⟨by rw[hcl,Zm],hu⟩)]
  ·rw[if_neg hu,if_neg hu,if_neg (fun hw=>hu (Jd.1 hw).2)]
 |cons z A=>
  rw[show(x::Q')++D=x::(Q'++D) from rfl,Zu n (z::A) x (Q'++D) q (by simp) (fun a ha=>by rw[e];exact hah a ha),Zu n (z::A) (c,t) D q (by simp) hah,e]
  by_cases hb:bl q c.low=true
  ·rw[if_pos hb,if_pos hb,if_neg (fun hw=>by rw[(Jd.1 hw).1] at hb;cases hb)]
  ·rw[if_neg hb,if_neg hb,show x::(Q'++D)=(x::Q')++D from rfl,hQ,hc]
   have hb':bl q c.low=false:=by simpa using hb
   by_cases hu:YS q (hdL D)
   ·rw[if_pos hu,if_pos hu,if_pos (Jd.2 ⟨hb',hu⟩)]
   ·rw[if_neg hu,if_neg hu,if_neg (fun hw=>hu (Jd.1 hw).2)]
theorem JbG {n:Nat} {R:List UInt8->List UInt8->Vt->Prop} {hi lo:List UInt8} {A:List (Chd×Vt)} {c:Chd} {t:Vt} {D:List (Chd×Vt)} (h:Mid R hi lo A c t D) (h0:∀x,A[0]? =some x->lw x=[]) (hA0:A=[]->c.low=[]) (q:List UInt8) (hq:Jn q c.low (hdL D)=true):Zo n (A++(c,t)::D) q=den n t q:=by
 have:=JfN (n:=n) h h0 hA0 (Q:=[(c,t)]) (by simp) rfl (fun y D' e a ha=>by
  subst e
  rw[List.mem_singleton] at ha
  subst ha
  have hb:=h.behind.1
  cases A with
  |nil=>show bl c.low _=true;rw[hA0 rfl];exact JdW (JY hb)
  |cons z A=>exact hb) q
 rw[if_pos hq] at this
 exact this
theorem JfM {n:Nat} {R:List UInt8->List UInt8->Vt->Prop} {hi lo:List UInt8} {A:List (Chd×Vt)} {c:Chd} {t t':Vt} {D:List (Chd×Vt)} (h:Mid R hi lo A c t D) (h0:∀x,A[0]? =some x->lw x=[]) (hA0:A=[]->c.low=[]) (q:List UInt8):
  Zo n (A++(c,t')::D) q=if Jn q c.low (hdL D)=true then den n t' q else Zo n (A++(c,t)::D) q:=
 JfN (n:=n) h h0 hA0 (Q:=[(c,t')]) (by simp) rfl (fun y D' e a ha=>by
  subst e
  rw[List.mem_singleton] at ha
  subst ha
  have hb:=h.behind.1
  cases A with
  |nil=>show bl c.low _=true;rw[hA0 rfl];exact JdW (JY hb)
  |cons z A=>exact hb) q
theorem JhQ {lo:List UInt8} {A:List (Chd×Vt)} {c:Chd} {R:List UInt8->List UInt8->Vt->Prop} {hi:List UInt8} {t:Vt} {D:List (Chd×Vt)} (h:Mid R hi lo A c t D) {q:List UInt8} (hq:Jn q lo hi=true) (hq2:Jn q c.low (hdL D)=true):Jn q (loA lo A c) (hiD hi D)=true:=by
 rw[Jd] at*
 refine⟨?_,?_⟩
 ·cases A with
  |nil=>exact hq.1
  |cons z A=>exact hq2.1
 ·cases D with
  |nil=>exact hq.2
  |cons y D=>exact hq2.2
theorem Jn7 {lo:List UInt8} {A:List (Chd×Vt)} {c:Chd} {R:List UInt8->List UInt8->Vt->Prop} {hi:List UInt8} {t:Vt} {D:List (Chd×Vt)} (h:Mid R hi lo A c t D) (hA0:A=[]->c.low=[]) {q:List UInt8} (hq:Jn q (loA lo A c) (hiD hi D)=true):Jn q lo hi=true/\Jn q c.low (hdL D)=true:=by
 rw[Jd] at hq
 rw[Jd,Jd]
 refine⟨⟨?_,?_⟩,?_,?_⟩
 ·rcases h.a with rfl|⟨h1,-,-⟩
  ·exact hq.1
  ·cases A with
   |nil=>exact hq.1
   |cons z A=>exact Jcb hq.1 h1
 ·cases D with
  |nil=>exact hq.2
  |cons y D=>
   have hy:=JY h.behind.1
   have h2:=h.behind.2
   exact h2.lt (hq.2.elim (fun e=>absurd e hy) id)
 ·cases A with
  |nil=>rw[hA0 rfl,Zm]
  |cons z A=>exact hq.1
 ·cases D with
  |nil=>exact Or.inl rfl
  |cons y D=>exact hq.2
open Go.RowKit
def Zr (x:Chd×Vt):Chd×Vt:=(x.1,{x.2 with b:=0,mem:=false})
theorem Jdq:∀(n:Nat) (t:Vt) (b:Nat) (m l:Bool) (k:Option Pt) (q:List UInt8),den n {t with b:=b,mem:=m,ld:=l,kn:=k} q=den n t q
 |0,_,_,_,_,_,_=>rfl
 |_+1,_,_,_,_,_,_=>rfl
theorem JeG:∀ {n:Nat} {lo hi:List UInt8} {t:Vt} (b:Nat) (m l:Bool) (k:Option Pt),Ok n lo hi t->Ok n lo hi {t with b:=b,mem:=m,ld:=l,kn:=k}
 |0,_,_,_,_,_,_,_,h=>h
 |_+1,_,_,_,_,_,_,_,h=>h
theorem JeH:∀ {n:Nat} {lo hi:List UInt8} {t:Vt} {b:Nat} {m l:Bool} {k:Option Pt},Ok n lo hi {t with b:=b,mem:=m,ld:=l,kn:=k}->Ok n lo hi t
 |0,_,_,_,_,_,_,_,h=>h
 |_+1,_,_,_,_,_,_,_,h=>h
theorem JgK:∀(l:List (Chd×Vt)) (q:List UInt8),JaU (l.map Zr) q=(JaU l q).map fun t=> {t with b:=0,mem:=false}
 |[],_=>rfl
 |[x],_=>rfl
 |x::y::r,q=>by
  rw[List.map_cons,List.map_cons,Z9,Z9,<-List.map_cons,JgK (y::r) q]
  show(if bl q (lw y)=true then _ else _)=_
  split<;>rfl
theorem Jhb (n:Nat) (l:List (Chd×Vt)) (q:List UInt8):Zo n (l.map Zr) q=Zo n l q:=by
 unfold Zo
 rw[JgK]
 cases JaU l q with
 |none=>rfl
 |some t=>exact Jdq n t 0 false t.ld t.kn q
theorem Jf6 {n:Nat} {hi:List UInt8}:∀ {l:List (Chd×Vt)} {lo:List UInt8},OkK (Ok n) hi lo (l.map Zr)↔OkK (Ok n) hi lo l
 |[],_=>Iff.rfl
 |[x],_=>⟨fun h=>JeH h,fun h=>JeG 0 false x.2.ld x.2.kn h⟩
 |x::y::r,lo=>by
  rw[List.map_cons,List.map_cons,OkK.two,OkK.two,<-List.map_cons,show OkK (Ok n) hi (lw (Zr y)) (List.map Zr (y::r))↔OkK (Ok n) hi (lw y) (y::r) from Jf6]
  exact⟨fun h=>⟨h.1,h.2.1,JeH h.2.2.1,h.2.2.2⟩,fun h=>⟨h.1,h.2.1,JeG 0 false x.2.ld x.2.kn h.2.2.1,h.2.2.2⟩⟩
structure YM (v v':Vt):Prop where
 b:v'.b=v.b
 mem:v'.mem=v.mem
 ld:v'.ld=true
 kn:v'.kn=v.kn
 es:v'.es=v.es
 us:v'.us=v.us
 ch:v'.ch.map Zr=v.ch.map Zr
theorem YM.fst {v v':Vt} (h:YM v v'):v'.cs=v.cs:=by
 have:=congrArg (List.map Prod.fst) h.ch
 rw[List.map_map,List.map_map] at this
 exact this
theorem YM.len {v v':Vt} (h:YM v v'):v'.ch.length=v.ch.length:=by
 have:=congrArg List.length h.ch
 rwa[List.length_map,List.length_map] at this
theorem YM.den {v v':Vt} (h:YM v v'):∀(n:Nat) (q:List UInt8),den n v' q=den n v q
 |0,q=>by rw[X6,X6,h.es]
 |n+1,q=>by rw[Yg,Yg,h.us,<-Jhb,h.ch,Jhb]
theorem JeC {l l':List (Chd×Vt)} (h:l.map Prod.fst=l'.map Prod.fst) {P:Chd->Prop} (hp:∀x∈l,P x.1):∀x∈l',P x.1:=fun x hx=>by
 have:x.1∈l.map Prod.fst:=by rw[h];exact List.mem_map_of_mem hx
 obtain⟨y,hy,e⟩:=List.mem_map.1 this
 rw[<-e]
 exact hp y hy
theorem JhS {l l':List (Chd×Vt)} (h:l.map Prod.fst=l'.map Prod.fst) {P:Chd->Prop} {i:Nat} (hp:∀x,l[i]? =some x->P x.1):∀x,l'[i]? =some x->P x.1:=fun x hx=>by
 have h2:(l'.map Prod.fst)[i]? =some x.1:=by rw[List.getElem?_map,hx];rfl
 rw[<-h,List.getElem?_map] at h2
 cases hl:l[i]? with
 |none=>rw[hl] at h2;cases h2
 |some y=>
  rw[hl] at h2
  rw[<-Option.some.inj h2]
  exact hp y hl
theorem YM.ok {v v':Vt} (h:YM v v'):∀ {n:Nat} {lo hi:List UInt8},Ok n lo hi v->Ok n lo hi v'
 |0,lo,hi,⟨h0,h1,h2,h3⟩=>by
  refine⟨by rw[h.us];exact h0,?_,by rw[h.es];exact h2,by rw[h.es];exact h3⟩
  have:=h.len
  rw[h1] at this
  exact List.length_eq_zero_iff.1 this
 |n+1,lo,hi,⟨h0,h1,h2,h3,h4,h5⟩=>by
  refine⟨by rw[h.es];exact h0,by rw[h.us];exact h1,by rw[h.us];exact h2,JeC (P:=fun c=>Zi c/\c.low.length<=3) h.fst.symm h3,JhS (P:=fun c=>c.low=[]) h.fst.symm h4,Jf6.1 ?_⟩
  rw[h.ch]
  exact Jf6.2 h5
structure Xf (L:Nat) (low:List UInt8) (es:List Ent) (Q:List (Chd×Vt)):Prop where
 all:es=Q.flatMap fun x=>x.2.es
 two:2<=Q.length
 head:hdL Q=low
 new:∀x∈Q,x.1=⟨lw x,0,0,0⟩
 leaf:∀x∈Q,x.2.us=[]/\x.2.ch=[]/\x.2.mem=true/\x.2.ld=true/\x.2.kn=none
 low:∀x∈Q.tail,∃e,x.2.es[0]? =some e/\e.key=lw x
 len:∀x∈Q,2<=x.2.es.length/\x.2.es.length<=L
structure ZH (F:Nat) (low:List UInt8) (t:Vt) (Q:List (Chd×Vt)):Prop where
 ex:∃(X:List (Chd×Vt)) (y:Chd×Vt) (Y:List (Chd×Vt)) (ba bb:Nat),t.ch=X++y::Y/\F<t.ch.length/\2<=X.length/\1<=Y.length/\
  Q=[(⟨low,0,0,0⟩,⟨ba,true,true,none,[],JH t.us [] (lw y),X⟩),(⟨lw y,0,0,0⟩,⟨bb,true,true,none,[],Ya t.us [] (lw y),Jk (y::Y)⟩)]
inductive Sm (F L:Nat):Nat->Vt->Vt->List Int->List Nat->Prop
 |refl (n:Nat) (v:Vt):Sm F L n v v [] []
 |trans {n:Nat} {a b c:Vt} {g g':List Int} {h h':List Nat}:Sm F L n a b g h->Sm F L n b c g' h'->Sm F L n a c (g++g') (h++h')
 |load {n:Nat} {v v':Vt}:YM v v'->Sm F L n v v' [] []
 |soil {n:Nat} {v:Vt} {p:Pt}:v.kn=some p->Sm F L n v {v with kn:=none} [p.a] []
 |kid {n:Nat} {v:Vt} {A:List (Chd×Vt)} {c:Chd} {t t':Vt} {D:List (Chd×Vt)} {g:List Int} {h:List Nat}:v.ch=A++(c,t)::D->v.kn=none->Sm F L n t t' g h->Sm F L (n+1) v {v with ch:=A++(c,t')::D} g h
 |kidLoad {n:Nat} {v:Vt} {A:List (Chd×Vt)} {c:Chd} {t t':Vt} {D:List (Chd×Vt)}:v.ch=A++(c,t)::D->YM t t'->Sm F L (n+1) v {v with ch:=A++(c,t')::D} [] []
 |hand {n:Nat} {v:Vt} {A:List (Chd×Vt)} {c:Chd} {t:Vt} {D:List (Chd×Vt)}:v.ch=A++(c,t)::D->v.kn=none->t.kn=none->0<(JH v.us c.low (hdL D)).length->Sm F L (n+1) v {v with us:=Ya v.us c.low (hdL D),ch:=A++(c,gv n t (JH v.us c.low (hdL D)))::D} [] [(JH v.us c.low (hdL D)).length]
 |parts {v:Vt} {A:List (Chd×Vt)} {c:Chd} {t:Vt} {D Q:List (Chd×Vt)}:v.ch=A++(c,t)::D->v.kn=none->t.kn=none->L<t.es.length->Xf L c.low t.es Q->Sm F L 1 v {v with ch:=Jk (A++(Q++D))} [] []
 |drop {v:Vt} {A:List (Chd×Vt)} {c:Chd} {t:Vt} {D:List (Chd×Vt)}:v.ch=A++(c,t)::D->v.kn=none->t.kn=none->t.es=[]->A++D≠[]->Sm F L 1 v {v with ch:=Jk (A++D)} [] []
 |halve {n:Nat} {v:Vt} {A:List (Chd×Vt)} {c:Chd} {t:Vt} {D Q:List (Chd×Vt)}:v.ch=A++(c,t)::D->v.kn=none->t.kn=none->ZH F c.low t Q->Sm F L (n+2) v {v with ch:=Jk (A++(Q++D))} [] []
theorem ZD.cut {us:List Upd} {lo hi low high lo' hi':List UInt8} (hr:Je Upd.key us) (h:∀u∈us,Tm u/\Jn u.key lo hi=true) (hw:∀q,Jn q lo hi=true->Jn q low high=true->Jn q lo' hi'=true):ZD lo' hi' (JH us low high):=by
 rw[(Y4 hr low high).1]
 exact⟨hr.sublist List.filter_sublist,fun u hu=>by
  obtain⟨h1,h2⟩:=List.mem_filter.1 hu
  exact⟨(h u h1).1,hw _ (h u h1).2 h2⟩⟩
theorem Ja3 {us:List Upd} {lo hi low high lo' hi':List UInt8} (hr:Je Upd.key us) (h:∀u∈us,Tm u/\Jn u.key lo hi=true) (hw:∀q,Jn q lo hi=true->Jn q low high=false->Jn q lo' hi'=true):ZD lo' hi' (Ya us low high):=by
 rw[(Y4 hr low high).2]
 exact⟨hr.sublist List.filter_sublist,fun u hu=>by
  obtain⟨h1,h2⟩:=List.mem_filter.1 hu
  exact⟨(h u h1).1,hw _ (h u h1).2 (by simpa using h2)⟩⟩
theorem JcH {us:List Upd} (hr:Je Upd.key us) (low high q:List UInt8):Yn (JH us low high) q=if Jn q low high=true then Yn us q else none:=by
 rw[(Y4 hr low high).1]
 exact Jej fun k=>Jn k low high
theorem Jek {us:List Upd} (hr:Je Upd.key us) (low high q:List UInt8):Yn (Ya us low high) q=if Jn q low high=true then none else Yn us q:=by
 rw[(Y4 hr low high).2,Jej fun k=> !Jn k low high]
 cases Jn q low high<;>rfl
theorem Jh4 {lo hi:List UInt8} {t:Vt} (h:Ok 0 lo hi t) {q:List UInt8} (hq:Jn q lo hi=false):den 0 t q=none:=by
 rw[X6]
 cases hl:Jz t.es q with
 |none=>rfl
 |some x=>
  have:=(h.2.2.2 _ (Zy hl)).2
  rw[hq] at this
  cases this
theorem JfO {hi:List UInt8}:∀ {A:List (Chd×Vt)} {lo:List UInt8},OkK (Ok 0) hi lo A->∀ {q:List UInt8},hi≠[]->bl q hi=false->Zo 0 A q=none
 |[],_,h,_,_,_=>absurd h id
 |[x],lo,h,q,hne,hq=>Jh4 h (by
  cases hw:Jn q lo hi with
  |false=>rfl
  |true=>
   have:=(Jd.1 hw).2.elim (fun e=>absurd e hne) id
   rw[hq] at this
   cases this)
 |x::y::r,lo,h,q,hne,hq=>by
  rw[XE]
  have hy:bl (lw y) hi=true:=h.2.1.elim (fun e=>absurd e hne) id
  rw[if_neg (by rw[Jcb hq hy];simp)]
  exact JfO h.2.2.2 hne hq
theorem JoD {hi:List UInt8} {y:Chd×Vt} {r:List (Chd×Vt)} (h:OkK (Ok 0) hi (lw y) (y::r)) {q:List UInt8} (hq:bl q (lw y)=true):Zo 0 (y::r) q=none:=by
 cases r with
 |nil=>
  exact Jh4 h (by
   cases hw:Jn q (lw y) hi with
   |false=>rfl
   |true=>rw[(Jd.1 hw).1] at hq;cases hq)
 |cons z r=>
  obtain⟨h1,-,h3,-⟩:=h
  rw[XE,if_pos (J4 hq h1)]
  exact Jh4 h3 (by
   cases hw:Jn q (lw y) (lw z) with
   |false=>rfl
   |true=>rw[(Jd.1 hw).1] at hq;cases hq)
theorem JpX {hi lo:List UInt8} {A:List (Chd×Vt)} {c:Chd} {t:Vt} {D:List (Chd×Vt)} (h:OkK (Ok 0) hi lo (A++(c,t)::D)) (hne:A++D≠[]) (hwid:∀ {lo hi lo' hi':List UInt8} {v:Vt},Ok 0 lo hi v->(∀q,Jn q lo hi=true->Jn q lo' hi'=true)->Ok 0 lo' hi' v):OkK (Ok 0) hi lo (A++D):=by
 have hm:=h.mid
 cases A with
 |nil=>
  cases D with
  |nil=>exact absurd rfl hne
  |cons y D=>
   obtain⟨h1,h2,h3⟩:=hm.d.resolve_left (by simp)
   cases D with
   |nil=>exact hwid (v:=y.2) h3 fun q hq=>Jd.2 ⟨Jcb (Jd.1 hq).1 h1,(Jd.1 hq).2⟩
   |cons z D=>
    obtain⟨k1,k2,k3,k4⟩:=h3
    exact⟨J4 h1 k1,k2,hwid k3 fun q hq=>Jd.2 ⟨Jcb (Jd.1 hq).1 h1,(Jd.1 hq).2⟩,k4⟩
 |cons x A=>
  obtain⟨h1,h2,h3⟩:=hm.a.resolve_left (by simp)
  cases D with
  |nil=>
   rw[List.append_nil]
   clear hm h hne
   generalize x::A=A at*
   induction A generalizing lo with
   |nil=>exact absurd h3 id
   |cons z A ih=>
    cases A with
    |nil=>exact hwid (v:=z.2) h3 fun q hq=>Jd.2 ⟨(Jd.1 hq).1,h2.lt ((Jd.1 hq).2.elim (fun e=>absurd e (JY h1)) id)⟩
    |cons y A=>
     obtain⟨k1,k2,k3,k4⟩:=h3
     have k2':=k2.elim (fun e=>absurd e (JY h1)) id
     exact⟨k1,h2.lt k2',k3,ih k2' k4⟩
  |cons y D=>
   obtain⟨g1,g2,g3⟩:=hm.d.resolve_left (by simp)
   have g1':bl c.low (lw y)=true:=g1
   refine(OkK.append (by simp)).2 ⟨J4 h1 g1',g2,?_,g3⟩
   clear hm h hne g3 g1 g2
   generalize x::A=A at*
   induction A generalizing lo with
   |nil=>exact absurd h3 id
   |cons z A ih=>
    cases A with
    |nil=>exact hwid (v:=z.2) h3 fun q hq=>Jd.2 ⟨(Jd.1 hq).1,Or.inr (J4 ((Jd.1 hq).2.elim (fun e=>absurd e (JY h1)) id) g1')⟩
    |cons y' A=>
     obtain⟨k1,k2,k3,k4⟩:=h3
     have k2':=k2.elim (fun e=>absurd e (JY h1)) id
     exact⟨k1,Or.inr (J4 k2' g1'),k3,ih k2' k4⟩
theorem Ok.wide {lo hi lo' hi':List UInt8} {v:Vt} (h:Ok 0 lo hi v) (k:∀q,Jn q lo hi=true->Jn q lo' hi'=true):Ok 0 lo' hi' v:=
 ⟨h.1,h.2.1,h.2.2.1,fun e he=>⟨(h.2.2.2 e he).1,k _ (h.2.2.2 e he).2⟩⟩
theorem JoA {hi lo:List UInt8} {A:List (Chd×Vt)} {c:Chd} {t:Vt} {D:List (Chd×Vt)} (h:OkK (Ok 0) hi lo (A++(c,t)::D)) (h0:∀x,A[0]? =some x->lw x=[]) (hA0:A=[]->c.low=[]) (hne:A++D≠[]) (he:t.es=[]) (q:List UInt8):Zo 0 (A++D) q=Zo 0 (A++(c,t)::D) q:=by
 have hm:=h.mid
 have hah:=hm.ahead h0
 by_cases hw:Jn q c.low (hdL D)=true
 ·rw[JbG hm h0 hA0 q hw,X6,he]
  obtain⟨hq1,hq2⟩:=Jd.1 hw
  cases A with
  |nil=>
   cases D with
   |nil=>exact absurd rfl hne
   |cons y D=>
    obtain⟨h1,h2,h3⟩:=hm.d.resolve_left (by simp)
    exact JoD h3 (hq2.elim (fun e=>absurd e (JY h1)) id)
  |cons x A=>
   obtain⟨h1,h2,h3⟩:=hm.a.resolve_left (by simp)
   cases D with
   |nil=>rw[List.append_nil];exact JfO h3 (JY h1) hq1
   |cons y D=>
    obtain⟨g1,g2,g3⟩:=hm.d.resolve_left (by simp)
    rw[Zu 0 (x::A) y D q (by simp) (fun a ha=>J4 (hah a ha) g1),if_pos (show bl q (lw y)=true from hq2.elim (fun e=>absurd e (JY g1)) id)]
    exact JfO h3 (JY h1) hq1
 ·cases A with
  |nil=>
   cases D with
   |nil=>exact absurd rfl hne
   |cons y D=>
    rw[List.nil_append,List.nil_append,XE,if_neg]
    intro hb
    exact hw (Jd.2 ⟨by rw[hA0 rfl,Zm],Or.inr hb⟩)
  |cons x A=>
   rw[Zu 0 (x::A) (c,t) D q (by simp) hah]
   cases D with
   |nil=>
    have hq:bl q c.low=true:=by
     cases hb:bl q c.low with
     |true=>rfl
     |false=>exact absurd (Jd.2 ⟨hb,Or.inl rfl⟩) hw
    rw[List.append_nil,if_pos hq]
   |cons y D=>
    obtain⟨g1,g2,g3⟩:=hm.d.resolve_left (by simp)
    have g1':bl c.low (lw y)=true:=g1
    rw[Zu 0 (x::A) y D q (by simp) (fun a ha=>J4 (hah a ha) g1'),XE]
    by_cases hb:bl q c.low=true
    ·rw[if_pos hb,if_pos (J4 hb g1')]
    ·rw[if_neg hb]
     by_cases hy:bl q (lw y)=true
     ·exact absurd (Jd.2 ⟨by simpa using hb,Or.inr hy⟩) hw
     ·rw[if_neg hy,if_neg hy]
open Go.RowKit
theorem Jdd (a b:List Ent) (q:List UInt8):Jz (a++b) q=match Jz a q with|some x=>some x|none=>Jz b q:=by
 induction a with
 |nil=>rfl
 |cons e a ih=>
  rw[List.cons_append,JcF,JcF,ih]
  by_cases h:e.key=q
  ·rw[if_pos h,if_pos h]
  ·rw[if_neg h,if_neg h]
theorem Jeh {l:List Ent} {k:List UInt8} (h:∀e∈l,bl e.key k=false) {q:List UInt8} (hq:bl q k=true):Jz l q=none:=by
 cases hl:Jz l q with
 |none=>rfl
 |some x=>have:=h _ (Zy hl);rw[show bl q k=false from this] at hq;cases hq
theorem Jeg {l:List Ent} {k:List UInt8} (h:∀e∈l,bl e.key k=true) {q:List UInt8} (hq:bl q k=false):Jz l q=none:=by
 cases hl:Jz l q with
 |none=>rfl
 |some x=>have:=h _ (Zy hl);rw[show bl q k=true from this] at hq;cases hq
theorem Jff {hi:List UInt8}:∀(Q:List (Chd×Vt)) (lo:List UInt8),Q≠[]->(∀x∈Q,x.2.us=[]/\x.2.ch=[]/\x.2.es≠[])->(∀x∈Q.tail,∃e,x.2.es[0]? =some e/\e.key=lw x)->Je Ent.key (Q.flatMap fun x=>x.2.es)->(∀e∈Q.flatMap fun x=>x.2.es,Jbg e/\Jn e.key lo hi=true)->
  OkK (Ok 0) hi lo Q/\∀q,Zo 0 Q q=Jz (Q.flatMap fun x=>x.2.es) q
 |[],_,h,_,_,_,_=>absurd rfl h
 |[x],lo,_,h1,_,h3,h4=>by
  simp only[List.flatMap_cons,List.flatMap_nil,List.append_nil] at h3 h4⊢
  obtain⟨k1,k2,-⟩:=h1 x (by simp)
  exact⟨⟨k1,k2,h3,h4⟩,fun q=>rfl⟩
 |x::y::r,lo,_,h1,h2,h3,h4=>by
  rw[List.flatMap_cons] at h3 h4⊢
  obtain⟨k1,k2,k3⟩:=h1 x (by simp)
  obtain⟨e,he,hk⟩:=h2 y (by simp)
  have hr:=List.pairwise_append.1 h3
  have hem:e∈(y::r).flatMap fun x=>x.2.es:=by
   rw[List.flatMap_cons]
   exact List.mem_append_left _ (List.mem_of_getElem? he)
  have hx:∀z∈x.2.es,bl z.key (lw y)=true:=fun z hz=>by rw[<-hk];exact hr.2.2 z hz e hem
  have hy:∀z∈(y::r).flatMap fun x=>x.2.es,bl z.key (lw y)=false:=fun z hz=>by
   rw[<-hk]
   have hye:∃t,y.2.es=e::t:=by
    cases hh:y.2.es with
    |nil=>rw[hh] at he;simp at he
    |cons e' t=>rw[hh] at he;simp only[List.getElem?_cons_zero,Option.some.injEq] at he;exact⟨t,by rw[he]⟩
   obtain⟨t,hye⟩:=hye
   have h5:=hr.2.1
   rw[List.flatMap_cons,hye,List.cons_append,List.pairwise_cons] at h5
   rw[List.flatMap_cons,hye,List.cons_append] at hz
   rcases List.mem_cons.1 hz with rfl|hz
   ·exact YN _
   ·exact XG (h5.1 z hz)
  obtain⟨z,hz⟩:∃z,z∈x.2.es:=by
   cases hh:x.2.es with
   |nil=>exact absurd hh k3
   |cons e' t=>exact⟨e',by simp⟩
  have hlo:bl lo (lw y)=true:=by
   have h6:=(Jd.1 (h4 z (List.mem_append_left _ hz)).2).1
   rcases JcO h6 with e1|h7
   ·rw[e1];exact hx z hz
   ·exact J4 h7 (hx z hz)
  have hun:YS (lw y) hi:=by rw[<-hk];exact(Jd.1 (h4 e (List.mem_append_right _ hem)).2).2
  obtain⟨i1,i2⟩:=Jff (y::r) (lw y) (by simp) (fun z hz=>h1 z (List.mem_cons_of_mem _ hz)) (fun z hz=>h2 z (by rw[List.tail_cons] at hz⊢;exact List.mem_cons_of_mem _ hz)) hr.2.1 (fun z hz=>⟨(h4 z (List.mem_append_right _ hz)).1,Jd.2 ⟨hy z hz,(Jd.1 (h4 z (List.mem_append_right _ hz)).2).2⟩⟩)
  refine⟨⟨hlo,hun,⟨k1,k2,hr.1,fun z hz=>⟨(h4 z (List.mem_append_left _ hz)).1,Jd.2 ⟨(Jd.1 (h4 z (List.mem_append_left _ hz)).2).1,Or.inr (hx z hz)⟩⟩⟩,i1⟩,fun q=> ?_⟩
  rw[XE,i2,Jdd,X6]
  cases hq:bl q (lw y) with
  |true=>
   rw[Jeh hy hq]
   cases Jz x.2.es q<;>rfl
  |false=>rw[Jeg hx hq];simp
theorem Xf.good {L:Nat} {c:List UInt8} {t:Vt} {Q:List (Chd×Vt)} {lo hi:List UInt8} (h:Xf L c t.es Q) (ht:Ok 0 lo hi t):OkK (Ok 0) hi lo Q/\∀q,Zo 0 Q q=den 0 t q:=by
 have:=Jff (hi:=hi) Q lo (fun e=>by have:=h.two;rw[e] at this;simp at this) (fun x hx=>⟨(h.leaf x hx).1,(h.leaf x hx).2.1,fun e=>by have:=(h.len x hx).1;rw[e] at this;simp at this⟩) h.low (by rw[<-h.all];exact ht.2.2.1) (by rw[<-h.all];exact ht.2.2.2)
 rw[<-h.all] at this
 exact this
theorem Xh {α:Type} {X Y:List α} (h:X≠[]):(X++Y)[0]? =X[0]? :=by
 cases X with
 |nil=>exact absurd rfl h
 |cons x X=>rfl
theorem ZH.good {F n:Nat} {c:List UInt8} {t:Vt} {Q:List (Chd×Vt)} {lo hi:List UInt8} (h:ZH F c t Q) (ht:Ok (n+1) lo hi t):OkK (Ok (n+1)) hi lo Q/\∀q,Zo (n+1) Q q=den (n+1) t q:=by
 obtain⟨X,y,Y,ba,bb,e,-,hX,-,rfl⟩:=h.ex
 obtain⟨t1,t2,t3,t4,t5,t6⟩:=ht
 rw[e] at t4 t5 t6
 have hne:X≠[]:=fun e=>by rw[e] at hX;simp at hX
 obtain⟨g1,g2,g3,g4⟩:=(OkK.append hne).1 t6
 have hyne:=JY g1
 have hXl:∀a∈X,bl (lw a) (lw y)=true:=OkK.below g3 hyne fun x hx=>by
  rw[t5 x (by rw[Xh hne];exact hx)]
  exact JdW hyne
 refine⟨⟨g1,g2,⟨rfl,?_,?_,fun x hx=>t4 x (List.mem_append_left _ hx),fun x hx=>t5 x (by rw[Xh hne];exact hx),g3⟩,⟨rfl,?_,?_,Ja2 fun x hx=>t4 x (List.mem_append_right _ hx),Xy (y::Y),(JeI (y::Y)).2 g4⟩⟩,fun q=> ?_⟩
 ·exact(ZD.cut (lo':=[]) (hi':=[]) t2 t3 (fun q _ _=>Jd.2 ⟨Zm q,Or.inl rfl⟩)).rise
 ·exact(ZD.cut (lo':=lo) (hi':=lw y) t2 t3 (fun q h1 h2=>Jd.2 ⟨(Jd.1 h1).1,(Jd.1 h2).2⟩)).ok
 ·exact(Ja3 (lo':=[]) (hi':=[]) t2 t3 (fun q _ _=>Jd.2 ⟨Zm q,Or.inl rfl⟩)).rise
 ·refine(Ja3 (lo':=lw y) (hi':=hi) t2 t3 (fun q h1 h2=>Jd.2 ⟨?_,(Jd.1 h1).2⟩)).ok
  cases hb:bl q (lw y) with
  |false=>rfl
  |true=>rw[Jd.2 ⟨Zm q,Or.inr hb⟩] at h2;cases h2
 ·rw[XE,JjC,Yg,Yg,Yg,e,Zu n X y Y q hne hXl]
  dsimp only
  rw[JcH t2,Jek t2,Jdr]
  have hw:Jn q [] (lw y)=bl q (lw y):=by
   rw[Bool.eq_iff_iff,Jd]
   exact⟨fun h=>h.2.elim (fun e=>absurd e hyne) id,fun h=>⟨Zm q,Or.inr h⟩⟩
  rw[hw]
  cases bl q (lw y)<;>rfl
theorem ZH.new {F:Nat} {c:List UInt8} {t:Vt} {Q:List (Chd×Vt)} (h:ZH F c t Q):∃a b y,Q=[(⟨c,0,0,0⟩,a),(⟨y,0,0,0⟩,b)]/\∃x∈t.ch,lw x=y:=by
 obtain⟨X,y,Y,ba,bb,e,-,-,-,rfl⟩:=h.ex
 exact⟨_,_,_,rfl,y,by rw[e];simp,rfl⟩
theorem Jib {l:List UInt8} (h:l.length<=3):Zi ⟨l,0,0,0⟩/\(⟨l,0,0,0⟩:Chd).low.length<=3:=⟨⟨by show l.length<=16;omega,by simp,by simp,by simp⟩,h⟩
theorem Xf.chd {L:Nat} {c:Chd} {t:Vt} {Q:List (Chd×Vt)} {lo hi:List UInt8} (h:Xf L c.low t.es Q) (ht:Ok 0 lo hi t) (hc:c.low.length<=3):∀x∈Q,Zi x.1/\x.1.low.length<=3:=fun x hx=>by
 have hl:(lw x).length<=3:=by
  cases Q with
  |nil=>simp at hx
  |cons z Q=>
   rcases List.mem_cons.1 hx with rfl|hx'
   ·rw[show lw x=c.low from h.head];exact hc
   ·obtain⟨e,he,hk⟩:=h.low x hx'
    rw[<-hk]
    refine(ht.ent e ?_).klen
    rw[h.all]
    exact List.mem_flatMap.2 ⟨x,hx,List.mem_of_getElem? he⟩
 rw[h.new x hx]
 exact Jib hl
theorem ZH.chd {F n:Nat} {c:Chd} {t:Vt} {Q:List (Chd×Vt)} {lo hi:List UInt8} (h:ZH F c.low t Q) (ht:Ok (n+1) lo hi t) (hc:c.low.length<=3):∀x∈Q,Zi x.1/\x.1.low.length<=3:=fun x hx=>by
 obtain⟨a,b,y,rfl,z,hz,hzy⟩:=h.new
 have h3:=ht.2.2.2.1
 simp only[List.mem_cons,List.not_mem_nil,or_false] at hx
 rcases hx with rfl|rfl
 ·exact Jib hc
 ·exact Jib (by rw[<-hzy];exact(h3 z hz).2)
theorem JiQ {n:Nat} {lo hi:List UInt8} {v:Vt} {A:List (Chd×Vt)} {c:Chd} {t:Vt} {D Q:List (Chd×Vt)} (h:Ok (n+1) lo hi v) (e:v.ch=A++(c,t)::D) (hq:hdL Q=c.low) (hQ:OkK (Ok n) (hiD hi D) (loA lo A c) Q) (hd:∀q,Zo n Q q=den n t q) (hc:∀x∈Q,Zi x.1/\x.1.low.length<=3):
  Ok (n+1) lo hi {v with ch:=Jk (A++(Q++D))}/\∀q,den (n+1) {v with ch:=Jk (A++(Q++D))} q=den (n+1) v q:=by
 obtain⟨h0,h1,h2,h3,h4,h5⟩:=h
 rw[e] at h3 h4 h5
 have hm:=h5.mid
 have hf:∀x,A[0]? =some x->lw x=[]:=fun x hx=>h4 x (by
  cases A with
  |nil=>simp at hx
  |cons z A=>exact hx)
 have hA0:A=[]->c.low=[]:=fun e=>h4 (c,t) (by rw[e];rfl)
 refine⟨⟨h0,h1,h2,Ja2 ?_,Xy _,(JeI _).2 (hm.put hq hQ)⟩,fun q=> ?_⟩
 ·intro x hx
  rcases List.mem_append.1 hx with hx|hx
  ·exact h3 x (List.mem_append_left _ hx)
  ·rcases List.mem_append.1 hx with hx|hx
   ·exact hc x hx
   ·exact h3 x (by simp[hx])
 ·rw[Yg,Yg,e]
  dsimp only
  rw[Jdr,JfN hm hf hA0 hQ.ne hq (fun y D' eD a ha=> ?_) q]
  ·by_cases hw:Jn q c.low (hdL D)=true
   ·rw[if_pos hw,hd,JbG hm hf hA0 q hw]
   ·rw[if_neg hw]
  ·subst eD
   have hb:=hm.behind.1
   cases Q with
   |nil=>simp at ha
   |cons x Q=>
    rcases List.mem_cons.1 ha with rfl|ha
    ·rw[show lw a=c.low from hq]
     cases A with
     |nil=>rw[hA0 rfl];exact JdW (JY hb)
     |cons z A=>exact hb
    ·exact((OkK.lo_lt hQ) a ha).2.elim (fun e=>absurd e (JY hb)) id
theorem Sm.good {F L:Nat} {n:Nat} {v v':Vt} {g:List Int} {h:List Nat} (s:Sm F L n v v' g h):∀ {lo hi:List UInt8},Ok n lo hi v->Ok n lo hi v'/\∀q,Jn q lo hi=true->den n v' q=den n v q:=by
 induction s with
 |refl n v=>exact fun h=>⟨h,fun _ _=>rfl⟩
 |trans _ _ ih1 ih2=>
  intro lo hi h
  obtain⟨a1,a2⟩:=ih1 h
  obtain⟨b1,b2⟩:=ih2 a1
  exact⟨b1,fun q hq=>(b2 q hq).trans (a2 q hq)⟩
 |load hl=>exact fun h=>⟨hl.ok h,fun q _=>hl.den _ q⟩
 | @soil n v p hp=>exact fun h=>⟨JeG v.b v.mem v.ld none h,fun q _=>Jdq n v v.b v.mem v.ld none q⟩
 | @kid n v A c t t' D g h e hk _ ih=>
  rintro lo hi ⟨h0,h1,h2,h3,h4,h5⟩
  rw[e] at h3 h4 h5
  have hm:=h5.mid
  have hf:∀x,A[0]? =some x->lw x=[]:=fun x hx=>h4 x (by
   cases A with
   |nil=>simp at hx
   |cons z A=>exact hx)
  have hA0:A=[]->c.low=[]:=fun e=>h4 (c,t) (by rw[e];rfl)
  obtain⟨i1,i2⟩:=ih hm.t
  refine⟨⟨h0,h1,h2,?_,?_,hm.set i1⟩,fun q hq=> ?_⟩
  ·exact JeC (l:=A++(c,t)::D) (l':=A++(c,t')::D) (P:=fun c=>Zi c/\c.low.length<=3) (by simp) h3
  ·exact JhS (l:=A++(c,t)::D) (l':=A++(c,t')::D) (P:=fun c=>c.low=[]) (by simp) h4
  ·rw[Yg,Yg,e]
   dsimp only
   rw[JfM (t':=t') hm hf hA0 q]
   by_cases hw:Jn q c.low (hdL D)=true
   ·rw[if_pos hw,i2 q (JhQ hm hq hw),JbG hm hf hA0 q hw]
   ·rw[if_neg hw]
 | @kidLoad n v A c t t' D e hl=>
  rintro lo hi ⟨h0,h1,h2,h3,h4,h5⟩
  rw[e] at h3 h4 h5
  have hm:=h5.mid
  have hf:∀x,A[0]? =some x->lw x=[]:=fun x hx=>h4 x (by
   cases A with
   |nil=>simp at hx
   |cons z A=>exact hx)
  have hA0:A=[]->c.low=[]:=fun e=>h4 (c,t) (by rw[e];rfl)
  refine⟨⟨h0,h1,h2,?_,?_,hm.set (hl.ok hm.t)⟩,fun q hq=> ?_⟩
  ·exact JeC (l:=A++(c,t)::D) (l':=A++(c,t')::D) (P:=fun c=>Zi c/\c.low.length<=3) (by simp) h3
  ·exact JhS (l:=A++(c,t)::D) (l':=A++(c,t')::D) (P:=fun c=>c.low=[]) (by simp) h4
  ·rw[Yg,Yg,e]
   dsimp only
   rw[JfM (t':=t') hm hf hA0 q]
   by_cases hw:Jn q c.low (hdL D)=true
   ·rw[if_pos hw,hl.den n q,JbG hm hf hA0 q hw]
   ·rw[if_neg hw]
 | @hand n v A c t D e _ _ _=>
  rintro lo hi ⟨h0,h1,h2,h3,h4,h5⟩
  rw[e] at h3 h4 h5
  have hm:=h5.mid
  have hf:∀x,A[0]? =some x->lw x=[]:=fun x hx=>h4 x (by
   cases A with
   |nil=>simp at hx
   |cons z A=>exact hx)
  have hA0:A=[]->c.low=[]:=fun e=>h4 (c,t) (by rw[e];rfl)
  have hG:ZD (loA lo A c) (hiD hi D) (JH v.us c.low (hdL D)):=ZD.cut h1 h2 fun q a b=>JhQ hm a b
  have hO:=Ja3 (low:=c.low) (high:=hdL D) (lo':=lo) (hi':=hi) h1 h2 fun q a _=>a
  refine⟨⟨h0,hO.rise,hO.ok,?_,?_,hm.set (Jjt hm.t hG)⟩,fun q hq=> ?_⟩
  ·exact JeC (l:=A++(c,t)::D) (l':=A++(c,_)::D) (P:=fun c=>Zi c/\c.low.length<=3) (by simp) h3
  ·exact JhS (l:=A++(c,t)::D) (l':=A++(c,_)::D) (P:=fun c=>c.low=[]) (by simp) h4
  ·rw[Yg,Yg,e]
   dsimp only
   rw[JfM hm hf hA0 q,Jek h1]
   by_cases hw:Jn q c.low (hdL D)=true
   ·rw[if_pos hw,if_pos hw,Jk4 hm.t hG,JcH h1,if_pos hw,JbG hm hf hA0 q hw]
    rfl
   ·rw[if_neg hw,if_neg hw]
 | @parts v A c t D Q e hk ht hL hP=>
  rintro lo hi h
  have hm:=(show OkK (Ok 0) hi lo (A++(c,t)::D) by rw[<-e];exact h.2.2.2.2.2).mid
  obtain⟨g1,g2⟩:=hP.good hm.t
  have:=JiQ h e hP.head g1 g2 (hP.chd hm.t (h.2.2.2.1 (c,t) (by rw[e];simp)).2)
  exact⟨this.1,fun q _=>this.2 q⟩
 | @halve n v A c t D Q e hk ht hP=>
  rintro lo hi h
  have hm:=(show OkK (Ok (n+1)) hi lo (A++(c,t)::D) by rw[<-e];exact h.2.2.2.2.2).mid
  obtain⟨g1,g2⟩:=hP.good hm.t
  obtain⟨a,b,y,eQ,-⟩:=hP.new
  have:=JiQ h e (by rw[eQ];rfl) g1 g2 (hP.chd hm.t (h.2.2.2.1 (c,t) (by rw[e];simp)).2)
  exact⟨this.1,fun q _=>this.2 q⟩
 | @drop v A c t D e hk ht he hne=>
  rintro lo hi ⟨h0,h1,h2,h3,h4,h5⟩
  rw[e] at h3 h4 h5
  have hf:∀x,A[0]? =some x->lw x=[]:=fun x hx=>h4 x (by
   cases A with
   |nil=>simp at hx
   |cons z A=>exact hx)
  have hA0:A=[]->c.low=[]:=fun e=>h4 (c,t) (by rw[e];rfl)
  refine⟨⟨h0,h1,h2,Ja2 fun x hx=>h3 x ?_,Xy _,(JeI _).2 (JpX h5 hne Ok.wide)⟩,fun q _=> ?_⟩
  ·rcases List.mem_append.1 hx with hx|hx
   ·exact List.mem_append_left _ hx
   ·exact List.mem_append_right _ (List.mem_cons_of_mem _ hx)
  ·rw[Yg,Yg,e]
   dsimp only
   rw[Jdr,JoA h5 hf hA0 hne he]
open Go.RowKit
open Go.Maps (Keyed)
structure Blk where
 kind:Nat
 pay:List UInt8
 gen:Nat
def Jlm:Blk:=⟨0,[],0⟩
def JbL (b:Blk):Value:=.agg #[.int .u8 b.kind,.string (S b.pay),.int .u64 b.gen]
def JjW (b:Blk):DataW Unit:=.agg [.lit (.int .u8 b.kind),.lit (.string b.pay),.lit (.int .u64 b.gen)]
def JoP (v:Value):Option (DataW Unit×List MemPlace):=
 match v with
 | .agg ⟨[.int .u8 k,.string s,.int .u64 g]⟩=>if 0<=k/\0<=g then some (JjW ⟨k.toNat,s.data.toList,g.toNat⟩,[]) else none
 |_=>none
theorem Jl6 (b:Blk):JoP (JbL b)=some (JjW b,[]):=by
 unfold JbL JoP
 simp[Jlq]
theorem JoQ {a b:Blk} (h:JjW a=JjW b):a=b:=by
 obtain⟨k,p,g⟩:=a
 obtain⟨k',p',g'⟩:=b
 simp[JjW] at h
 obtain⟨h1,h2,h3⟩:=h
 obtain rfl:k=k':=by omega
 obtain rfl:g=g':=by omega
 rw[h2]
theorem JoO {v:Value} {b:Blk} {ps:List MemPlace} (h:JoP v=some (JjW b,ps)):v=JbL b:=by
 unfold JoP at h
 split at h
 ·rename_i k s g
  split at h
  ·rename_i hk
   simp only[Option.some.injEq,Prod.mk.injEq] at h
   have hb:=JoQ h.1
   subst hb
   unfold JbL
   simp only[Value.agg.injEq]
   obtain⟨l,rfl⟩:=Jqa s
   rw[Jlq,Int.toNat_of_nonneg hk.1,Int.toNat_of_nonneg hk.2]
  ·cases h
 ·cases h
structure Zg (w:World) (b n sz:Nat) (f:Int->Option Blk):Prop where
 own:∃D:DataW Unit,w.ownsMap Tryz.prog 3 JoP b n D/\Maps.size D=sz/\∀i:Int,Maps.has D (.int .i64 i)=(f i).isSome/\D.atKey (.int .i64 i) (JjW Jlm)=JjW ((f i).getD Jlm)
section
variable {w w':World} {b n sz:Nat} {f:Int->Option Blk}
theorem Zg.made (w:World):Zg (w.alloc (.map #[] 0)) w.heap.size 0 0 (fun _=>none):=⟨.map [],World.ownsMap_made _ _ _ _,rfl,fun _=>⟨rfl,rfl⟩⟩
theorem Zg.lt (h:Zg w b n sz f):b<w.heap.size:=by obtain⟨D,h,_⟩:=h;exact h.lt
theorem Zg.kept' {row:Option Nat} (h:Zg w b n sz f) (hg:w.grownBy w' row) (hne:some b≠row):Zg w' b n sz f:=by
 obtain⟨D,h,hs⟩:=h
 exact⟨D,h.kept hg hne,hs⟩
theorem Zg.on (h:Zg w b n sz f) (hb:Below w.heap.size w w'):Zg w' b n sz f:=h.kept' (row:=none) ⟨hb.os,hb.tape,hb.output,hb.size,fun i hi _=>hb.block i hi⟩ (by simp)
theorem Jpb (w:World):(zeroValue 86).run Tryz.prog w=.ok (JbL Jlm) w:=by kernel_rfl
theorem Jk2:Keyed Tryz.prog 3:=Maps.int_keyed Tryz.underlying3
theorem Jdi (i:Nat) (hi:i<9223372036854775808):keyOf Tryz.prog 3 (.int .i64 (i:Int))=some (.int .i64 (i:Int)):=Maps.keyOf_int_mk Tryz.underlying3 (by simp[Lit.wf,IntKind.min,IntKind.max,IntKind.bits,IntKind.signed];omega)
theorem Zg.look (h:Zg w b n sz f) (i:Nat) (hi:i<9223372036854775808):(Instr.lookup 24 (.map (some b)) (.int .i64 (i:Int)) true).run Tryz.prog w=.ok (.tuple #[JbL ((f (i:Int)).getD Jlm),.bool (f (i:Int)).isSome]) w:=by
 obtain⟨D,h,-,hs⟩:=h
 obtain⟨v,ps,hrun,hv⟩:=h.look_ok Jk2 Tryz.underlying24 (Jpb w) (Jl6 Jlm) (Jdi i hi)
 rw[(hs i).2] at hv
 rw[hrun,(hs i).1,JoO hv]
theorem Zg.len (h:Zg w b n sz f) (ty:TypeId):(Builtin.len_ #[24] ty #[.map (some b)]).run Tryz.prog w=.ok (.int .i64 (sz:Int)) w:=by
 obtain⟨D,h,hz,-⟩:=h
 have:=h.len Tryz.underlying24 ty
 rw[hz] at this
 exact this
theorem Zg.put (h:Zg w b n sz f) (hn:n<100000) (i:Nat) (hi:i<9223372036854775808) (x:Blk) (f':Int->Option Blk) (h1:f' (i:Int)=some x) (h2:∀j:Int,j≠(i:Int)->f' j=f j):∃w',(Instr.mapUpdate 24 (.map (some b)) (.int .i64 (i:Int)) (JbL x)).run Tryz.prog w=.ok () w'/\Zg w' b (n+1) (if(f (i:Int)).isSome then sz else sz+1) f'/\w.grownBy w' (some b):=by
 obtain⟨D,h,hz,hs⟩:=h
 obtain⟨w',hrun,r1,r2⟩:=h.update Jk2 Tryz.underlying24 (by unfold maxLen;omega) (Jdi i hi) (Jl6 x)
 have hkl:WideAt.IsKeyLit (.int .i64 (i:Int)):=Jk2.key (Jdi i hi)
 refine⟨w',hrun,⟨_,r1,?_,fun j=> ?_⟩,r2⟩
 ·rw[Maps.size_put (h.tidy Jk2),(hs i).1,hz]
 ·by_cases e:j=(i:Int)
  ·subst e
   rw[Maps.has_put_same h.isMap hkl,Maps.atKey_put_same h.isMap hkl,h1]
   exact⟨rfl,rfl⟩
  ·have hne:(Lit.int .i64 j)≠ .int .i64 (i:Int):=fun q=>e (by injection q)
   rw[Maps.has_put_other hne,Maps.atKey_put_other hne,h2 j e]
   exact hs j
end
theorem JmH (w:World) (b c:Nat) (a:Addr) (v:Value) (hb:w.heap[b]? =some (.map #[] c)):∃w',(Instr.mapUpdate 119 (.map (some b)) (.pointer (some a)) v).run Tryz.prog w=.ok () w'/\w.grownBy w' (some b):=by
 have h1:(Instr.checkKey false 10000 97 (.pointer (some a))).run Tryz.prog w=.ok () w:=by
  rw[show(10000:Nat)=9999+1 from rfl,Instr.checkKey]
  simp[run_underlying Tryz.underlying97,Result.andThen]
 have h2:(Instr.findKey 97 (.pointer (some a)) []).run Tryz.prog w=.ok none w:=by
  simp[Instr.findKey,Instr.findNow,run_underlying Tryz.underlying97,Result.andThen]
 refine⟨ChangeMaps.setBlock w b (.map #[⟨.pointer (some a),v,c⟩] (c+1)),?_,⟨rfl,rfl,rfl,by simp[ChangeMaps.setBlock],fun i _ hi=>ChangeMaps.heap_setBlock_other hb _ (fun e=>hi (by rw[e]))⟩⟩
 simp[Instr.mapUpdate,run_underlying Tryz.underlying119,MapKept.run_getObj_map hb,h1,h2,MapKept.run_setObj_map _ hb,ChangeMaps.setBlock,Result.andThen]
open Go.RowKit
def JM (n:Nat):Nat:=(n-2)+(2-n)
def pot:Nat->Vt->Nat
 |0,v=>JM v.es.length
 |n+1,v=>JM v.ch.length*2^(n+1)+v.us.length+(v.ch.map fun x=>pot n x.2).sum
def mu:Nat->Vt->Nat
 |0,v=>JM v.es.length
 |n+1,v=>JM v.ch.length+2*(n+1)*v.us.length+(v.ch.map fun x=>mu n x.2).sum
def om:Nat->Vt->Nat
 |0,_=>0
 |n+1,v=>(n+1)*v.us.length+(v.ch.map fun x=>om n x.2).sum
def addrs:Nat->Vt->List Int
 |0,v=>v.kn.toList.map Pt.a
 |n+1,v=>v.kn.toList.map Pt.a++v.ch.flatMap fun x=>addrs n x.2
def Shf (f:Int->Option Blk):Nat->Vt->Prop
 |0,v=>∀p,v.kn=some p->f p.a=some ⟨4,JO v.es,p.g⟩
 |n+1,v=>(∀p,v.kn=some p->f p.a=some ⟨5,Yl v.cs v.us,p.g⟩/\YR v.cs v.us/\∀x∈v.ch,x.2.kn=some ⟨x.1.addr,x.1.gen,x.1.sum⟩)/\∀x∈v.ch,Shf f n x.2
def Yf (f:Vt->Nat) (l:List (Chd×Vt)):Nat:=(l.map fun x=>f x.2).sum
theorem Jaw (f:Vt->Nat):Yf f []=0:=rfl
theorem Jo (f:Vt->Nat) (x:Chd×Vt) (l:List (Chd×Vt)):Yf f (x::l)=f x.2+Yf f l:=by simp[Yf]
theorem JD (f:Vt->Nat) (a b:List (Chd×Vt)):Yf f (a++b)=Yf f a+Yf f b:=by simp[Yf]
theorem Yr (f:Vt->Nat) (l:List (Chd×Vt)):Yf f (Jk l)=Yf f l:=by
 cases l with
 |nil=>rfl
 |cons x l=>rw[Jk,Jo,Jo]
theorem Xj (f:Vt->Nat) (hf:∀t:Vt,f {t with b:=0,mem:=false}=f t):∀l:List (Chd×Vt),Yf f (l.map Zr)=Yf f l
 |[]=>rfl
 |x::l=>by rw[List.map_cons,Jo,Jo,Xj f hf l];congr 1;exact hf x.2
theorem Jhy {f:Vt->Nat} {l:List (Chd×Vt)} {x:Chd×Vt} (h:x∈l):f x.2<=Yf f l:=by
 induction l with
 |nil=>simp at h
 |cons y l ih=>
  rw[Jo]
  rcases List.mem_cons.1 h with rfl|h
  ·omega
  ·have:=ih h;omega
theorem Z8 (v:Vt):pot 0 v=JM v.es.length:=rfl
theorem JP (n:Nat) (v:Vt):pot (n+1) v=JM v.ch.length*2^(n+1)+v.us.length+Yf (pot n) v.ch:=rfl
theorem Xx (v:Vt):mu 0 v=JM v.es.length:=rfl
theorem Yd (n:Nat) (v:Vt):mu (n+1) v=JM v.ch.length+2*(n+1)*v.us.length+Yf (mu n) v.ch:=rfl
theorem Yw (n:Nat) (v:Vt):om (n+1) v=(n+1)*v.us.length+Yf (om n) v.ch:=rfl
theorem Jbv:∀(n:Nat) (t:Vt) (b:Nat) (m l:Bool) (k:Option Pt),pot n {t with b:=b,mem:=m,ld:=l,kn:=k}=pot n t
 |0,_,_,_,_,_=>rfl
 |_+1,_,_,_,_,_=>rfl
theorem JeA:∀(n:Nat) (t:Vt) (b:Nat) (m l:Bool) (k:Option Pt),mu n {t with b:=b,mem:=m,ld:=l,kn:=k}=mu n t
 |0,_,_,_,_,_=>rfl
 |_+1,_,_,_,_,_=>rfl
theorem JhN:∀(n:Nat) (t:Vt) (b:Nat) (m l:Bool) (k:Option Pt),om n {t with b:=b,mem:=m,ld:=l,kn:=k}=om n t
 |0,_,_,_,_,_=>rfl
 |_+1,_,_,_,_,_=>rfl
theorem YM.pot_eq {v v':Vt} (h:YM v v'):∀n,pot n v'=pot n v
 |0=>by rw[Z8,Z8,h.es]
 |n+1=>by
  rw[JP,JP,h.len,h.us,<-Xj (pot n) (fun t=>Jbv n t 0 false t.ld t.kn) v'.ch,h.ch,Xj (pot n) (fun t=>Jbv n t 0 false t.ld t.kn)]
theorem YM.mu_eq {v v':Vt} (h:YM v v'):∀n,mu n v'=mu n v
 |0=>by rw[Xx,Xx,h.es]
 |n+1=>by
  rw[Yd,Yd,h.len,h.us,<-Xj (mu n) (fun t=>JeA n t 0 false t.ld t.kn) v'.ch,h.ch,Xj (mu n) (fun t=>JeA n t 0 false t.ld t.kn)]
theorem YM.om_eq {v v':Vt} (h:YM v v'):∀n,om n v'=om n v
 |0=>rfl
 |n+1=>by
  rw[Yw,Yw,h.us,<-Xj (om n) (fun t=>JhN n t 0 false t.ld t.kn) v'.ch,h.ch,Xj (om n) (fun t=>JhN n t 0 false t.ld t.kn)]
theorem Jn3 (l:List Ent) (hr:Je Ent.key l) (u:Upd):JM (onE l u).length<=JM l.length+1:=by
 have:(onE l u).length<=l.length+1/\l.length<=(onE l u).length+1:=by
  unfold onE
  split
  ·omega
  ·split
   ·split
    ·rw[List.length_set];omega
    ·have:=Xe (key:=Ent.key) l u.key
     rw[Jfy _ _ _ this];omega
   ·split
    ·rename_i hh
     obtain⟨hi,-⟩:=(hr.found u.key).1 hh
     rw[JjE _ _ hi];omega
    ·omega
 unfold JM
 omega
theorem JcC:∀(us:List Upd) (l:List Ent),Je Ent.key l->JM (Ys l us).length<=JM l.length+us.length
 |[],l,_=>Nat.le_refl _
 |u::us,l,hr=>by
  have h1:=Jn3 l hr u
  have h2:=JcC us (onE l u) (JaY hr u)
  rw[show Ys l (u::us)=Ys (onE l u) us from rfl]
  simp only[List.length_cons]
  omega
theorem Jon:∀ {n:Nat} {lo hi:List UInt8} {v:Vt} (l:List Upd),Ok n lo hi v->pot n (gv n v l)<=pot n v+l.length
 |0,_,_,v,l,h=>JcC l v.es h.2.2.1
 |n+1,_,_,v,l,h=>by
  have:=JbD l v.us h.2.1
  rw[JP,JP]
  show _+(l.foldl JQ v.us).length+_<=_
  simp only[gv]
  omega
theorem Jqp:∀ {n:Nat} {lo hi:List UInt8} {v:Vt} (l:List Upd),Ok n lo hi v->mu n (gv n v l)+l.length<=mu n v+2*(n+1)*l.length
 |0,_,_,v,l,h=>by
  have:=JcC l v.es h.2.2.1
  rw[Xx,Xx]
  simp only[gv]
  omega
 |n+1,_,_,v,l,h=>by
  have h1:=JbD l v.us h.2.1
  rw[Yd,Yd]
  simp only[gv]
  have h2:=Nat.mul_le_mul_left (2*(n+1)) h1
  have e1:2*(n+1)*(v.us.length+l.length)=2*(n+1)*v.us.length+2*(n+1)*l.length:=Nat.mul_add _ _ _
  have e2:2*(n+1+1)*l.length=2*(n+1)*l.length+2*l.length:=by rw[show 2*(n+1+1)=2*(n+1)+2 by omega,Nat.add_mul]
  omega
theorem Jqo:∀ {n:Nat} {lo hi:List UInt8} {v:Vt} (l:List Upd),Ok n lo hi v->om n (gv n v l)<=om n v+n*l.length
 |0,_,_,v,l,h=>by simp[om]
 |n+1,_,_,v,l,h=>by
  have h1:=JbD l v.us h.2.1
  rw[Yw,Yw]
  simp only[gv]
  have h2:=Nat.mul_le_mul_left (n+1) h1
  rw[Nat.mul_add] at h2
  omega
theorem JlW {us:List Upd} (hr:Je Upd.key us) (low high:List UInt8):(JH us low high).length+(Ya us low high).length=us.length:=by
 rw[(Y4 hr low high).1,(Y4 hr low high).2]
 clear hr
 induction us with
 |nil=>rfl
 |cons u us ih=>
  cases h:Jn u.key low high with
  |true=>
   rw[List.filter_cons_of_pos (by exact h),List.filter_cons_of_neg (by simp[h])]
   simp only[List.length_cons]
   omega
  |false=>
   rw[List.filter_cons_of_neg (by simp[h]),List.filter_cons_of_pos (by simp[h])]
   simp only[List.length_cons]
   omega
theorem Xf.sum {L:Nat} {low:List UInt8} {es:List Ent} {Q:List (Chd×Vt)} (h:Xf L low es Q):Yf (pot 0) Q+2*Q.length=es.length/\Yf (mu 0) Q+2*Q.length=es.length:=by
 have h1:=h.len
 rw[h.all]
 clear h
 induction Q with
 |nil=>exact⟨rfl,rfl⟩
 |cons x Q ih=>
  obtain⟨i1,i2⟩:=ih fun z hz=>h1 z (List.mem_cons_of_mem _ hz)
  have h2:=(h1 x (by simp)).1
  have h3:JM x.2.es.length=x.2.es.length-2:=by unfold JM;omega
  rw[Jo,Jo,List.flatMap_cons,List.length_append,List.length_cons,Z8,Xx,h3]
  omega
theorem ZH.sum {F n:Nat} {c:List UInt8} {t:Vt} {Q:List (Chd×Vt)} (h:ZH F c t Q) (hr:Je Upd.key t.us) (hF:3<=F):
  Q.length=2/\Yf (pot (n+1)) Q+2*2^(n+1)=pot (n+1) t/\Yf (mu (n+1)) Q+2=mu (n+1) t/\Yf (om (n+1)) Q=om (n+1) t:=by
 obtain⟨X,y,Y,ba,bb,e,hl,hX,hY,rfl⟩:=h.ex
 have hc:=JlW hr [] (lw y)
 have hl2:t.ch.length=X.length+(Y.length+1):=by rw[e];simp
 refine⟨rfl,?_,?_,?_⟩
 ·rw[Jo,Jo,Jaw,JP,JP,JP,e,JD]
  simp only[Yr,Jw,List.length_append,List.length_cons]
  have e1:JM X.length=X.length-2:=by unfold JM;omega
  have e2:JM (Y.length+1)=Y.length+1-2:=by unfold JM;omega
  have e3:JM (X.length+(Y.length+1))=(X.length-2)+(Y.length+1-2)+2:=by unfold JM;omega
  rw[e1,e2,e3,Nat.add_mul,Nat.add_mul]
  omega
 ·rw[Jo,Jo,Jaw,Yd,Yd,Yd,e,JD]
  simp only[Yr,Jw,List.length_append,List.length_cons]
  have e1:JM X.length=X.length-2:=by unfold JM;omega
  have e2:JM (Y.length+1)=Y.length+1-2:=by unfold JM;omega
  have e3:JM (X.length+(Y.length+1))=(X.length-2)+(Y.length+1-2)+2:=by unfold JM;omega
  have e4:=Nat.mul_add (2*(n+1)) (JH t.us [] (lw y)).length (Ya t.us [] (lw y)).length
  rw[hc] at e4
  rw[e1,e2,e3]
  omega
 ·rw[Jo,Jo,Jaw,Yw,Yw,Yw,e,JD]
  simp only[Yr]
  have e4:=Nat.mul_add (n+1) (JH t.us [] (lw y)).length (Ya t.us [] (lw y)).length
  rw[hc] at e4
  omega
theorem Ok.usr {n:Nat} {lo hi:List UInt8} {v:Vt} (h:Ok (n+1) lo hi v):Je Upd.key v.us:=h.2.1
theorem Ok.okk {n:Nat} {lo hi:List UInt8} {v:Vt} (h:Ok (n+1) lo hi v):OkK (Ok n) hi lo v.ch:=h.2.2.2.2.2
theorem Ok.mid {n:Nat} {lo hi:List UInt8} {v:Vt} (h:Ok (n+1) lo hi v) {A:List (Chd×Vt)} {c:Chd} {t:Vt} {D:List (Chd×Vt)} (e:v.ch=A++(c,t)::D):Mid (Ok n) hi lo A c t D:=by
 have:=h.okk
 rw[e] at this
 exact this.mid
theorem Jfe {L:Nat} {v:Vt} {A:List (Chd×Vt)} {c:Chd} {t:Vt} {D Q:List (Chd×Vt)} (e:v.ch=A++(c,t)::D) (hL:L<t.es.length) (hL3:3<=L) (hP:Xf L c.low t.es Q):
  pot 1 {v with ch:=Jk (A++(Q++D))}<=pot 1 v/\mu 1 {v with ch:=Jk (A++(Q++D))}+Q.length<=mu 1 v+1/\om 1 {v with ch:=Jk (A++(Q++D))}=om 1 v:=by
 obtain⟨h1,h2⟩:=hP.sum
 have h3:=hP.two
 have h4:JM t.es.length=t.es.length-2:=by unfold JM;omega
 refine⟨?_,?_,?_⟩
 ·rw[JP,JP,e]
  simp only[Yr,Jw,JD,Jo,List.length_append,List.length_cons,Z8]
  rw[h4]
  have:JM (A.length+(Q.length+D.length))<=JM (A.length+(D.length+1))+(Q.length-1):=by unfold JM;omega
  simp only[Nat.reduceAdd,Nat.pow_one]
  omega
 ·rw[Yd,Yd,e]
  simp only[Yr,Jw,JD,Jo,List.length_append,List.length_cons,Xx]
  rw[h4]
  have:JM (A.length+(Q.length+D.length))<=JM (A.length+(D.length+1))+(Q.length-1):=by unfold JM;omega
  omega
 ·rw[Yw,Yw,e]
  simp only[Yr,JD,Jo]
  have:∀l:List (Chd×Vt),Yf (om 0) l=0:=fun l=>by
   induction l with
   |nil=>rfl
   |cons x l ih=>rw[Jo,ih];rfl
  rw[this,this,this,show om 0 t=0 from rfl]
theorem Jg8 {v:Vt} {A:List (Chd×Vt)} {c:Chd} {t:Vt} {D:List (Chd×Vt)} (e:v.ch=A++(c,t)::D) (he:t.es=[]):
  pot 1 {v with ch:=Jk (A++D)}<=pot 1 v/\mu 1 {v with ch:=Jk (A++D)}+1<=mu 1 v/\om 1 {v with ch:=Jk (A++D)}=om 1 v:=by
 have h4:JM t.es.length=2:=by rw[he];rfl
 have:JM (A.length+D.length)<=JM (A.length+(D.length+1))+1:=by unfold JM;omega
 refine⟨?_,?_,?_⟩
 ·rw[JP,JP,e]
  simp only[Yr,Jw,JD,Jo,List.length_append,List.length_cons,Z8]
  rw[h4]
  simp only[Nat.reduceAdd,Nat.pow_one]
  omega
 ·rw[Yd,Yd,e]
  simp only[Yr,Jw,JD,Jo,List.length_append,List.length_cons,Xx]
  rw[h4]
  omega
 ·rw[Yw,Yw,e]
  simp only[Yr,JD,Jo]
  show _=_+(_+(0+_))
  omega
theorem JfC {F n:Nat} {v:Vt} {A:List (Chd×Vt)} {c:Chd} {t:Vt} {D Q:List (Chd×Vt)} (e:v.ch=A++(c,t)::D) (hr:Je Upd.key t.us) (hF:3<=F) (hP:ZH F c.low t Q):
  pot (n+2) {v with ch:=Jk (A++(Q++D))}<=pot (n+2) v/\mu (n+2) {v with ch:=Jk (A++(Q++D))}+1<=mu (n+2) v/\om (n+2) {v with ch:=Jk (A++(Q++D))}=om (n+2) v:=by
 obtain⟨h0,h1,h2,h3⟩:=hP.sum (n:=n) hr hF
 have:JM (A.length+(2+D.length))<=JM (A.length+(D.length+1))+1:=by unfold JM;omega
 refine⟨?_,?_,?_⟩
 ·rw[JP,JP,e]
  simp only[Yr,Jw,JD,Jo,List.length_append,List.length_cons]
  rw[<-h1,h0]
  have h5:=Nat.mul_le_mul_right (2^(n+1+1)) this
  rw[Nat.add_mul,Nat.one_mul] at h5
  have h6:2^(n+1+1)=2*2^(n+1):=by rw[Nat.pow_succ 2 (n+1)];omega
  omega
 ·rw[Yd,Yd,e]
  simp only[Yr,Jw,JD,Jo,List.length_append,List.length_cons]
  rw[<-h2,h0]
  omega
 ·rw[Yw,Yw,e]
  simp only[Yr,JD,Jo]
  rw[<-h3]
structure JrD (n:Nat) (v v':Vt) (h:List Nat):Prop where
 pot:pot n v'<=pot n v
 mu:mu n v'+h.sum<=mu n v
 om:om n v'+h.sum<=om n v
theorem Sm.less {F L:Nat} (hF:3<=F) (hL3:3<=L) {n:Nat} {v v':Vt} {g:List Int} {h:List Nat} (s:Sm F L n v v' g h):∀ {lo hi:List UInt8},Ok n lo hi v->JrD n v v' h:=by
 induction s with
 |refl n v=>exact fun _=>⟨Nat.le_refl _,by simp,by simp⟩
 |trans s1 _ ih1 ih2=>
  intro lo hi h
  obtain⟨a1,a2,a3⟩:=ih1 h
  obtain⟨b1,b2,b3⟩:=ih2 (s1.good h).1
  exact⟨Nat.le_trans b1 a1,by rw[List.sum_append];omega,by rw[List.sum_append];omega⟩
 |load hl=>exact fun _=>⟨Nat.le_of_eq (hl.pot_eq _),by rw[hl.mu_eq];simp,by rw[hl.om_eq];simp⟩
 | @soil n v p hp=>exact fun _=>⟨Nat.le_of_eq (Jbv n v v.b v.mem v.ld none),by rw[JeA n v v.b v.mem v.ld none];simp,by rw[JhN n v v.b v.mem v.ld none];simp⟩
 | @kid n v A c t t' D g h e hk _ ih=>
  intro lo hi ho
  obtain⟨a1,a2,a3⟩:=ih (ho.mid e).t
  refine⟨?_,?_,?_⟩
  ·rw[JP,JP,e]
   simp only[JD,Jo,List.length_append,List.length_cons]
   omega
  ·rw[Yd,Yd,e]
   simp only[JD,Jo,List.length_append,List.length_cons]
   omega
  ·rw[Yw,Yw,e]
   simp only[JD,Jo]
   omega
 | @kidLoad n v A c t t' D e hl=>
  intro lo hi ho
  refine⟨?_,?_,?_⟩
  ·rw[JP,JP,e]
   simp only[JD,Jo,List.length_append,List.length_cons,hl.pot_eq]
   omega
  ·rw[Yd,Yd,e]
   simp only[JD,Jo,List.length_append,List.length_cons,hl.mu_eq,List.sum_nil]
   omega
  ·rw[Yw,Yw,e]
   simp only[JD,Jo,hl.om_eq,List.sum_nil]
   omega
 | @hand n v A c t D e _ _ _=>
  intro lo hi ho
  have hc:=JlW ho.usr c.low (hdL D)
  have h1:=Jon (JH v.us c.low (hdL D)) (ho.mid e).t
  have h2:=Jqp (JH v.us c.low (hdL D)) (ho.mid e).t
  have h3:=Jqo (JH v.us c.low (hdL D)) (ho.mid e).t
  refine⟨?_,?_,?_⟩
  ·rw[JP,JP,e]
   simp only[JD,Jo,List.length_append,List.length_cons]
   omega
  ·rw[Yd,Yd,e]
   simp only[JD,Jo,List.length_append,List.length_cons,List.sum_cons,List.sum_nil]
   have e4:=Nat.mul_add (2*(n+1)) (JH v.us c.low (hdL D)).length (Ya v.us c.low (hdL D)).length
   rw[hc] at e4
   omega
  ·rw[Yw,Yw,e]
   simp only[JD,Jo,List.sum_cons,List.sum_nil]
   have e4:=Nat.mul_add (n+1) (JH v.us c.low (hdL D)).length (Ya v.us c.low (hdL D)).length
   have e5:=Nat.add_mul n 1 (JH v.us c.low (hdL D)).length
   rw[hc] at e4
   omega
 | @parts v A c t D Q e hk ht hL hP=>
  intro lo hi ho
  obtain⟨a1,a2,a3⟩:=Jfe e hL hL3 hP
  have:=hP.two
  exact⟨a1,by simp only[List.sum_nil];omega,by simp only[List.sum_nil];omega⟩
 | @drop v A c t D e hk ht he hne=>
  intro lo hi ho
  obtain⟨a1,a2,a3⟩:=Jg8 e he
  exact⟨a1,by simp only[List.sum_nil];omega,by simp only[List.sum_nil];omega⟩
 | @halve n v A c t D Q e hk ht hP=>
  intro lo hi ho
  obtain⟨a1,a2,a3⟩:=JfC e (ho.mid e).t.usr hF hP
  exact⟨a1,by simp only[List.sum_nil];omega,by simp only[List.sum_nil];omega⟩
open Go.RowKit
theorem Jjy {α:Type} (f:Vt->List α) (l:List (Chd×Vt)):(Jk l).flatMap (fun x=>f x.2)=l.flatMap (fun x=>f x.2):=by
 cases l with
 |nil=>rfl
 |cons x l=>rfl
theorem JdR {α:Type} (f:Vt->List α) (hf:∀t:Vt,f {t with b:=0,mem:=false}=f t):∀l:List (Chd×Vt),(l.map Zr).flatMap (fun x=>f x.2)=l.flatMap (fun x=>f x.2)
 |[]=>rfl
 |x::l=>by rw[List.map_cons,List.flatMap_cons,List.flatMap_cons,JdR f hf l];congr 1;exact hf x.2
def YG (n:Nat) (l:List (Chd×Vt)):List Int:=l.flatMap fun x=>addrs n x.2
theorem Jf1 (n:Nat):YG n []=[]:=rfl
theorem JT (n:Nat) (x:Chd×Vt) (l:List (Chd×Vt)):YG n (x::l)=addrs n x.2++YG n l:=rfl
theorem JR (n:Nat) (a b:List (Chd×Vt)):YG n (a++b)=YG n a++YG n b:=by simp[YG]
theorem Xr (n:Nat) (l:List (Chd×Vt)):YG n (Jk l)=YG n l:=Jjy (addrs n) l
theorem YJ (v:Vt):addrs 0 v=v.kn.toList.map Pt.a:=rfl
theorem JG (n:Nat) (v:Vt):addrs (n+1) v=v.kn.toList.map Pt.a++YG n v.ch:=rfl
theorem Ja6:∀(n:Nat) (t:Vt) (b:Nat) (m l:Bool),addrs n {t with b:=b,mem:=m,ld:=l}=addrs n t
 |0,_,_,_,_=>rfl
 |_+1,_,_,_,_=>rfl
theorem YM.addrs_eq {v v':Vt} (h:YM v v'):∀n,addrs n v'=addrs n v
 |0=>by rw[YJ,YJ,h.kn]
 |n+1=>by
  rw[JG,JG,h.kn]
  have e:=JdR (addrs n) (fun t=>Ja6 n t 0 false t.ld) v'.ch
  rw[h.ch,JdR (addrs n) (fun t=>Ja6 n t 0 false t.ld) v.ch] at e
  unfold YG
  rw[<-e]
theorem Joo:∀(n:Nat) (v:Vt) (l:List Upd),(gv n v l).kn=v.kn/\(gv n v l).ch=v.ch/\(gv n v l).b=v.b/\(gv n v l).mem=v.mem/\(gv n v l).ld=v.ld
 |0,_,_=>⟨rfl,rfl,rfl,rfl,rfl⟩
 |_+1,_,_=>⟨rfl,rfl,rfl,rfl,rfl⟩
theorem Jju (n:Nat) (v:Vt) (l:List Upd):addrs n (gv n v l)=addrs n v:=by
 cases n<;>rfl
theorem Xq {n:Nat} {v:Vt} (h:v.kn=none):addrs (n+1) v=YG n v.ch:=by rw[JG,h];rfl
theorem Xf.addrs {L:Nat} {low:List UInt8} {es:List Ent} {Q:List (Chd×Vt)} (h:Xf L low es Q):YG 0 Q=[]:=by
 have h1:=h.leaf
 clear h
 induction Q with
 |nil=>rfl
 |cons x Q ih=>
  rw[JT,ih fun z hz=>h1 z (List.mem_cons_of_mem _ hz),YJ,(h1 x (by simp)).2.2.2.2]
  rfl
theorem ZH.addrs {F n:Nat} {c:List UInt8} {t:Vt} {Q:List (Chd×Vt)} (h:ZH F c t Q) (hk:t.kn=none):YG (n+1) Q=addrs (n+1) t:=by
 obtain⟨X,y,Y,ba,bb,e,-,-,-,rfl⟩:=h.ex
 rw[Xq hk,JT,JT,Jf1,Xq rfl,Xq rfl,e,JR]
 dsimp only
 rw[Xr,List.append_nil]
theorem Sm.addrs {F L:Nat} {n:Nat} {v v':Vt} {g:List Int} {h:List Nat} (s:Sm F L n v v' g h):(addrs n v'++g).Perm (addrs n v):=by
 induction s with
 |refl n v=>rw[List.append_nil]
 |trans _ _ ih1 ih2=>
  refine List.Perm.trans ?_ ih1
  refine List.Perm.trans ?_ (ih2.append_right _)
  rw[List.append_assoc]
  exact List.Perm.append_left _ List.perm_append_comm
 |load hl=>rw[hl.addrs_eq,List.append_nil]
 | @soil n v p hp=>
  cases n with
  |zero=>
   rw[YJ,YJ,hp]
   exact List.Perm.refl _
  |succ n=>
   rw[JG,JG,hp]
   exact List.perm_append_comm
 | @kid n v A c t t' D g h e hk _ ih=>
  rw[JG,JG,e]
  dsimp only
  rw[JR,JR,JT,JT]
  simp only[List.append_assoc]
  refine List.Perm.append_left _ (List.Perm.append_left _ ?_)
  refine List.Perm.trans (List.Perm.append_left _ List.perm_append_comm) ?_
  rw[<-List.append_assoc]
  exact ih.append_right _
 | @kidLoad n v A c t t' D e hl=>
  rw[JG,JG,e,List.append_nil]
  dsimp only
  rw[JR,JR,JT,JT]
  dsimp only
  rw[hl.addrs_eq]
 | @hand n v A c t D e _ _ _=>
  rw[JG,JG,e,List.append_nil]
  dsimp only
  rw[JR,JR,JT,JT]
  dsimp only
  rw[Jju]
 | @parts v A c t D Q e hk ht hL hP=>
  rw[JG,JG,e,List.append_nil]
  dsimp only
  rw[Xr,JR,JR,JR,JT,hP.addrs]
  dsimp only
  rw[YJ,ht]
  exact List.Perm.refl _
 | @halve n v A c t D Q e hk ht hP=>
  rw[JG,JG,e,List.append_nil]
  dsimp only
  rw[Xr,JR,JR,JR,JT,hP.addrs ht]
 | @drop v A c t D e hk ht he hne=>
  rw[JG,JG,e,List.append_nil]
  dsimp only
  rw[Xr,JR,JR,JT]
  dsimp only
  rw[YJ,ht]
  exact List.Perm.refl _
theorem Jds {f:Int->Option Blk}:∀ {n:Nat} {t:Vt} {b:Nat} {m l:Bool},Shf f n {t with b:=b,mem:=m,ld:=l}↔Shf f n t
 |0,_,_,_,_=>Iff.rfl
 |_+1,_,_,_,_=>Iff.rfl
theorem Jc5 {P:Chd->Option Pt->Vt->Prop} {l l':List (Chd×Vt)} (h:l'.map Zr=l.map Zr) (hp:∀x∈l,P x.1 x.2.kn x.2) (hs:∀c t t',(Zr (c,t)).2=(Zr (c,t')).2->P c t.kn t->P c t'.kn t'):∀x∈l',P x.1 x.2.kn x.2:=fun x hx=>by
 have:Zr x∈l.map Zr:=by rw[<-h];exact List.mem_map_of_mem hx
 obtain⟨y,hy,e⟩:=List.mem_map.1 this
 have e1:y.1=x.1:=(congrArg Prod.fst e:(Zr y).1=(Zr x).1)
 have:=hs x.1 y.2 x.2 (congrArg Prod.snd e:(Zr y).2=(Zr x).2) (by rw[<-e1];exact hp y hy)
 exact this
theorem YM.kns {v v':Vt} (h:YM v v') (hp:∀x∈v.ch,x.2.kn=some ⟨x.1.addr,x.1.gen,x.1.sum⟩):∀x∈v'.ch,x.2.kn=some ⟨x.1.addr,x.1.gen,x.1.sum⟩:=
 Jc5 (P:=fun c k _=>k=some ⟨c.addr,c.gen,c.sum⟩) h.ch hp fun c t t' e hk=>by
  have:t.kn=t'.kn:=(congrArg Vt.kn e:(Zr (c,t)).2.kn=(Zr (c,t')).2.kn)
  rw[<-this]
  exact hk
theorem YM.shf {f:Int->Option Blk} {v v':Vt} (h:YM v v'):∀ {n:Nat},Shf f n v->Shf f n v'
 |0,hs=>fun p hp=>by rw[h.kn] at hp;rw[h.es];exact hs p hp
 |n+1,hs=>by
  refine⟨fun p hp=> ?_,?_⟩
  ·rw[h.kn] at hp
   obtain⟨h1,h2,h3⟩:=hs.1 p hp
   rw[h.fst,h.us]
   exact⟨h1,h2,h.kns h3⟩
  ·refine Jc5 (P:=fun _ _ t=>Shf f n t) h.ch hs.2 fun c t t' e hk=> ?_
   have h1:=(Jds (f:=f) (n:=n) (t:=t) (b:=0) (m:=false) (l:=t.ld)).2 hk
   have h2:Shf f n (Zr (c,t)).2:=h1
   rw[e] at h2
   exact(Jds (f:=f) (n:=n) (t:=t') (b:=0) (m:=false) (l:=t'.ld)).1 h2
theorem Jol {f:Int->Option Blk} {n:Nat} {v:Vt} (l:List Upd) (hk:v.kn=none) (h:Shf f n v):Shf f n (gv n v l):=by
 cases n with
 |zero=>exact fun p hp=>by rw[(Joo 0 v l).1,hk] at hp;cases hp
 |succ n=>exact⟨fun p hp=>(by rw[(Joo (n+1) v l).1,hk] at hp;cases hp),h.2⟩
theorem YC {P:Vt->Prop} {l:List (Chd×Vt)} (h:∀x∈l,P x.2):∀x∈Jk l,P x.2:=by
 cases l with
 |nil=>exact h
 |cons y l=>
  intro x hx
  rcases List.mem_cons.1 hx with rfl|hx
  ·exact h y (by simp)
  ·exact h x (List.mem_cons_of_mem _ hx)
theorem ZH.shf {F n:Nat} {c:List UInt8} {t:Vt} {Q:List (Chd×Vt)} {f:Int->Option Blk} (h:ZH F c t Q) (hs:Shf f (n+1) t):∀x∈Q,Shf f (n+1) x.2:=by
 obtain⟨X,y,Y,ba,bb,e,-,-,-,rfl⟩:=h.ex
 have h2:=hs.2
 rw[e] at h2
 intro x hx
 simp only[List.mem_cons,List.not_mem_nil,or_false] at hx
 rcases hx with rfl|rfl
 ·exact⟨fun p hp=>(by cases hp),fun z hz=>h2 z (List.mem_append_left _ hz)⟩
 ·exact⟨fun p hp=>(by cases hp),YC (P:=Shf f n) fun z hz=>h2 z (List.mem_append_right _ hz)⟩
theorem ZJ {P:Vt->Prop} {v:Vt} {A:List (Chd×Vt)} {x:Chd×Vt} {D Q:List (Chd×Vt)} (e:v.ch=A++x::D) (h:∀z∈v.ch,P z.2) (hq:∀z∈Q,P z.2):∀z∈A++(Q++D),P z.2:=fun z hz=>by
 rcases List.mem_append.1 hz with hz|hz
 ·exact h z (by rw[e];exact List.mem_append_left _ hz)
 ·rcases List.mem_append.1 hz with hz|hz
  ·exact hq z hz
  ·exact h z (by rw[e];exact List.mem_append_right _ (List.mem_cons_of_mem _ hz))
theorem Sm.shf {F L:Nat} {n:Nat} {v v':Vt} {g:List Int} {h:List Nat} {f:Int->Option Blk} (s:Sm F L n v v' g h):Shf f n v->Shf f n v':=by
 induction s with
 |refl n v=>exact id
 |trans _ _ ih1 ih2=>exact fun h=>ih2 (ih1 h)
 |load hl=>exact hl.shf
 | @soil n v p hp=>
  intro h
  cases n with
  |zero=>exact fun p hp=>by cases hp
  |succ n=>exact⟨fun p hp=>(by cases hp),h.2⟩
 | @kid n v A c t t' D g h e hk _ ih=>
  intro hs
  have h2:=hs.2
  exact⟨fun p hp=>(by rw[show v.kn=some p from hp] at hk;cases hk),ZJ (P:=Shf f n) (Q:=[(c,t')]) e h2 fun z hz=>by
   rw[List.mem_singleton] at hz
   subst hz
   exact ih (h2 (c,t) (by rw[e];simp))⟩
 | @kidLoad n v A c t t' D e hl=>
  intro hs
  have h2:=hs.2
  refine⟨fun p hp=> ?_,ZJ (P:=Shf f n) (Q:=[(c,t')]) e h2 fun z hz=>by
   rw[List.mem_singleton] at hz
   subst hz
   exact hl.shf (h2 (c,t) (by rw[e];simp))⟩
  obtain⟨a1,a2,a3⟩:=hs.1 p hp
  have e1:(A++(c,t')::D).map Prod.fst=v.cs:=by rw[Vt.cs,e];simp
  refine⟨?_,?_,fun x hx=> ?_⟩
  ·show f p.a=some ⟨5,Yl ((A++(c,t')::D).map Prod.fst) v.us,p.g⟩
   rw[e1];exact a1
  ·show YR ((A++(c,t')::D).map Prod.fst) v.us
   rw[e1];exact a2
  ·have hx':x∈A++(c,t')::D:=hx
   rw[e] at a3
   rcases List.mem_append.1 hx' with hx'|hx'
   ·exact a3 x (List.mem_append_left _ hx')
   ·rcases List.mem_cons.1 hx' with rfl|hx'
    ·show t'.kn=_
     rw[hl.kn]
     exact a3 (c,t) (by simp)
    ·exact a3 x (by simp[hx'])
 | @hand n v A c t D e hk ht _=>
  intro hs
  have h2:=hs.2
  exact⟨fun p hp=>(by rw[show v.kn=some p from hp] at hk;cases hk),ZJ (P:=Shf f n) (Q:=[(c,gv n t _)]) e h2 fun z hz=>by
   rw[List.mem_singleton] at hz
   subst hz
   exact Jol _ ht (h2 (c,t) (by rw[e];simp))⟩
 | @parts v A c t D Q e hk ht hL hP=>
  intro hs
  have h2:=hs.2
  exact⟨fun p hp=>(by rw[show v.kn=some p from hp] at hk;cases hk),YC (P:=Shf f 0) (ZJ e h2 fun z hz p hp=>by rw[(hP.leaf z hz).2.2.2.2] at hp;cases hp)⟩
 | @halve n v A c t D Q e hk ht hP=>
  intro hs
  have h2:=hs.2
  exact⟨fun p hp=>(by rw[show v.kn=some p from hp] at hk;cases hk),YC (P:=Shf f (n+1)) (ZJ e h2 (hP.shf (h2 (c,t) (by rw[e];simp))))⟩
 | @drop v A c t D e hk ht he hne=>
  intro hs
  have h2:=hs.2
  exact⟨fun p hp=>(by rw[show v.kn=some p from hp] at hk;cases hk),YC (P:=Shf f 0) (ZJ (Q:=[]) e h2 fun z hz=>by simp at hz)⟩
structure JrE (v v':Vt):Prop where
 b:v'.b=v.b
 mem:v'.mem=v.mem
 kn:v'.kn=v.kn\/v'.kn=none
 ld:v.ld=true->v'.ld=true
theorem Sm.kept {F L:Nat} {n:Nat} {v v':Vt} {g:List Int} {h:List Nat} (s:Sm F L n v v' g h):JrE v v':=by
 induction s with
 |refl n v=>exact⟨rfl,rfl,Or.inl rfl,id⟩
 |trans _ _ ih1 ih2=>exact⟨ih2.b.trans ih1.b,ih2.mem.trans ih1.mem,ih2.kn.elim (fun e=>ih1.kn.imp (fun q=>e.trans q) (fun q=>e.trans q)) Or.inr,fun q=>ih2.ld (ih1.ld q)⟩
 |load hl=>exact⟨hl.b,hl.mem,Or.inl hl.kn,fun _=>hl.ld⟩
 |soil=>exact⟨rfl,rfl,Or.inr rfl,id⟩
 |kid=>exact⟨rfl,rfl,Or.inl rfl,id⟩
 |kidLoad=>exact⟨rfl,rfl,Or.inl rfl,id⟩
 |hand=>exact⟨rfl,rfl,Or.inl rfl,id⟩
 |parts=>exact⟨rfl,rfl,Or.inl rfl,id⟩
 |halve=>exact⟨rfl,rfl,Or.inl rfl,id⟩
 |drop=>exact⟨rfl,rfl,Or.inl rfl,id⟩
open Go.RowKit
attribute [local go_sem ↓] Go.wp_at_zero Go.wp_at_succ
theorem JfA:(Tryz.prog.info? 97).map (fun i=>(i.zero,i.size,i.bytes))=some (some (.pointer none),1,8):=by kernel_rfl
abbrev vp (b:Nat):Value:=.pointer (some ⟨b,0,none⟩)
abbrev Jcs (w:World) (b:Nat) (c:Chd):Prop:=Jq w b true c.addr c.gen c.sum false (.slice none 0 0) (.slice none 0 0) (.slice none 0 0) (.slice none 0 0)
structure JcR (w5:World) (ob:Nat) (pa:Int) (pg ps:Nat) (a1:Option Addr) (c1:Nat) (u:Value) (cs:List Chd) (ks:List Nat) (a3:Option Addr) (c3:Nat) (j:Nat) (w:World):Prop where
 keep:Jg (fun b=>b=ob) w5 w
 vx:Jq w ob true pa pg ps true (.slice none 0 0) (.slice a1 cs.length c1) u (.slice a3 j c3)
 row:w.ownsRow w5.heap.size 97 1 (.slice a3 j c3) j (ks.map vp)
 len:ks.length=j
 kid:∀i c,cs[i]? =some c->i<j->∃b,ks[i]? =some b/\Jcs w b c/\w5.heap.size<=b
theorem JcR.on {w5:World} {ob:Nat} {pa:Int} {pg ps:Nat} {a1:Option Addr} {c1:Nat} {u:Value} {cs:List Chd} {ks:List Nat} {a3:Option Addr} {c3:Nat} {j:Nat} {w w':World} (h:JcR w5 ob pa pg ps a1 c1 u cs ks a3 c3 j w) (hb:Below w.heap.size w w'):JcR w5 ob pa pg ps a1 c1 u cs ks a3 c3 j w':=
 ⟨h.keep.on hb,h.vx.on hb,Ji h.row hb,h.len,fun i c hc hi=>by
  obtain⟨b,h1,h2,h3⟩:=h.kid i c hc hi
  exact⟨b,h1,h2.on hb,h3⟩⟩
theorem Jq.putK {w:World} {b:Nat} {kn:Bool} {pa:Int} {pg ps:Nat} {ld:Bool} {lf cs us ks:Value} (h:Jq w b kn pa pg ps ld lf cs us ks) (v:Value):Jq (w.setCell ⟨b,8,none⟩ v) b kn pa pg ps ld lf cs us v:=⟨h.row.put 8 v⟩
theorem JcR.more {w5:World} {ob:Nat} {pa:Int} {pg ps:Nat} {a1:Option Addr} {c1:Nat} {u:Value} {cs:List Chd} {ks:List Nat} {a3 a3':Option Addr} {c3 c3':Nat} {j:Nat} {w wz:World} {kb:Nat} {c:Chd} (h:JcR w5 ob pa pg ps a1 c1 u cs ks a3 c3 j w) (hk:Jcs w kb c) (hkb:w5.heap.size<=kb) (hc:cs[j]? =some c)
  (hg:w.grownBy wz (Value.slice a3 j c3).ownBlock) (hr:wz.ownsRow w5.heap.size 97 1 (.slice a3' (j+1) c3') (j+1) (ks.map vp++[vp kb])) (hob:ob<w5.heap.size) (hrow:∀g,(Value.slice a3 j c3).ownBlock=some g->∃cur,Jc w 97 g cur):
  JcR w5 ob pa pg ps a1 c1 u cs (ks++[kb]) a3' c3' (j+1) (wz.setCell ⟨ob,8,none⟩ (.slice a3' (j+1) c3')):=by
 have hne:∀b kn pa pg ps ld lf cs us kk,Jq w b kn pa pg ps ld lf cs us kk->some b≠(Value.slice a3 j c3).ownBlock:=fun b kn pa pg ps ld lf cs us kk hv e=>by
  obtain⟨cur,hcur⟩:=hrow b e.symm
  have h1:=hv.row
  unfold Jc at h1 hcur
  rw[hcur] at h1
  simp at h1
 have hv:∀ {b kn pa pg ps ld lf cs us kk},Jq w b kn pa pg ps ld lf cs us kk->Jq wz b kn pa pg ps ld lf cs us kk:=fun hx=>⟨hx.row.kept hg (hne _ _ _ _ _ _ _ _ _ _ hx)⟩
 have hgz:∀k,(Value.slice a3 j c3).ownBlock=some k->w5.heap.size<=k:=fun k e=>(h.row.lt k e).1
 refine⟨((h.keep.grown hg fun k e=>Or.inr (hgz k e)).setCell ⟨ob,8,none⟩ (Or.inl rfl) _),(hv h.vx).putK _,?_,by simp[h.len],fun i c' hc' hi=> ?_⟩
 ·rw[List.map_append]
  exact ownsRow_setCell_other (a:=⟨ob,8,none⟩) hr (fun e=>by have:=(hr.lt ob e).1;omega) _
 ·by_cases hij:i<j
  ·obtain⟨b,h1,h2,h3⟩:=h.kid i c' hc' hij
   exact⟨b,by rw[List.getElem?_append_left (by rw[h.len];exact hij)];exact h1,(hv h2).far _ (by show b≠ob;omega) _,h3⟩
  ·obtain rfl:i=j:=by omega
   rw[hc] at hc'
   obtain rfl:=Option.some.inj hc'
   exact⟨kb,by rw[List.getElem?_append_right (by rw[h.len];exact Nat.le_refl _),h.len];simp,(hv hk).far _ (by show kb≠ob;omega) _,hkb⟩
theorem Jq.putN {w:World} {b:Nat} {kn:Bool} {pa:Int} {pg ps:Nat} {ld:Bool} {lf cs us ks:Value} (h:Jq w b kn pa pg ps ld lf cs us ks) (u v:Value):Jq ((w.setCell ⟨b,6,none⟩ u).setCell ⟨b,7,none⟩ v) b kn pa pg ps ld lf u v ks:=⟨(h.row.put 6 u).put 7 v⟩
structure Jqc (w:World) (N:Nat) (pay:List UInt8) (pa:Int) (pg ps:Nat) (e:Ending) (w':World) (ob:Nat) (cs:List Chd) (us:List Upd) (ks:List Nat) (a1:Option Addr) (c1:Nat) (a2:Option Addr) (c2:Nat) (a3:Option Addr) (c3:Nat):Prop where
 ret:e=.returned (.tuple #[.pointer (some ⟨ob,0,none⟩),.bool true,.int .i64 0])
 text:pay=Yl cs us
 ok:YR cs us
 new:w.heap.size<=ob
 vx:Jq w' ob true pa pg ps true (.slice none 0 0) (.slice a1 cs.length c1) (.slice a2 us.length c2) (.slice a3 cs.length c3)
 node:JA w' (.agg #[.slice a1 cs.length c1,.slice a2 us.length c2]) cs us
 row:w'.ownsRow N 97 1 (.slice a3 cs.length c3) cs.length (ks.map vp)
 rowC:w'.ownsRow w.heap.size 179 4 (.slice a1 cs.length c1) cs.length (cellsC cs)
 rowU:w'.ownsRow w.heap.size 39 4 (.slice a2 us.length c2) us.length (cellsU us)
 len:ks.length=cs.length
 kid:∀(i:Nat) (c:Chd),cs[i]? =some c->∃b,ks[i]? =some b/\Jcs w' b c/\N<=b
open Go.RowKit
attribute [local go_sem ↓] Go.wp_at_zero Go.wp_at_succ
structure Js (w:World) (sb mb n sz:Nat) (f:Int->Option Blk) (gen:Nat) (wrong:Int):Prop where
 row:Jc w 27 sb [.map (some mb),.int .u64 gen,.int .i64 wrong]
 map:Zg w mb n sz f
section
variable {w w':World} {sb mb n sz:Nat} {f:Int->Option Blk} {gen:Nat} {wrong:Int}
theorem Js.on (h:Js w sb mb n sz f gen wrong) (hb:Below w.heap.size w w'):Js w' sb mb n sz f gen wrong:=⟨h.row.on hb,h.map.on hb⟩
theorem Js.kept {B:Nat} (h:Js w sb mb n sz f gen wrong) (hb:Below B w w') (hB:w.heap.size<=B):Js w' sb mb n sz f gen wrong:=h.on (hb.mono hB)
theorem Js.ne (h:Js w sb mb n sz f gen wrong):sb≠mb:=fun e=>by
 obtain⟨D,⟨es,clock,hb,_⟩,_⟩:=h.map.own
 have h1:=h.row
 subst e
 unfold Jc at h1
 rw[hb] at h1
 simp at h1
theorem Js.c0 (h:Js w sb mb n sz f gen wrong):w.cell? ⟨sb,0,none⟩=some (.map (some mb)):=h.row.cell 0
theorem Js.c1 (h:Js w sb mb n sz f gen wrong):w.cell? ⟨sb,1,none⟩=some (.int .u64 gen):=h.row.cell 1
theorem Js.c2 (h:Js w sb mb n sz f gen wrong):w.cell? ⟨sb,2,none⟩=some (.int .i64 wrong):=h.row.cell 2
end
theorem Jje {sb mb n sz:Nat} {f:Int->Option Blk} {gen:Nat} (a:Nat) (ps:Nat) (b:Blk) (w:World) (h:Js w sb mb n sz f gen 0) (ha:a<1000000) (hf:f (a:Int)=some b):
  Calls Tryz.prog 11 #[.pointer (some ⟨sb,0,none⟩),.agg #[.int .i64 a,.int .u64 b.gen,.int .u32 ps]] w fun e w'=>e=.returned (.tuple #[.int .u8 b.kind,.string (S b.pay),.int .i64 0])/\Below w.heap.size w w':=by
 have HH:=Lib.hid h
 have hb0:=Below.refl w.heap.size w
 clear h
 go_enter Tryz.func11,Tryz.ntmps11
 go_upto_region 1 with(fail)
 obtain⟨W,hW_W⟩:∃W,W=(w.alloc (.cells #[.int .i64 a,.int .u64 b.gen,.int .u32 ps] 54)):=⟨_,rfl⟩
 rw[<-hW_W]
 have hX_W:Below w.heap.size w W:=by rw[hW_W];go_grown
 have gp0:W.cell? ⟨w.heap.size,0,none⟩=some (.int .i64 a):=by rw[hW_W,World.cell?_alloc_at _ _ _ _ (by simp)];rfl
 have gp1:W.cell? ⟨w.heap.size,1,none⟩=some (.int .u64 b.gen):=by rw[hW_W,World.cell?_alloc_at _ _ _ _ (by simp)];rfl
 have gp2:W.cell? ⟨w.heap.size,2,none⟩=some (.int .u32 ps):=by rw[hW_W,World.cell?_alloc_at _ _ _ _ (by simp)];rfl
 clear hW_W
 have hz_W:=hX_W.size
 replace HH:=Lib.hid (HH.out.kept hX_W (Nat.le_refl _))
 replace hb0:=hb0.trans (hX_W.mono hb0.size)
 clear hX_W
 have c0:=HH.out.c0
 have c2:=HH.out.c2
 go_upto_region 5 with(fail)
 have hl:=HH.out.map.look a (by omega)
 rw[hf] at hl
 simp only[Option.getD_some,Option.isSome_some,JbL] at hl
 have hl2:=(HH.out.on (Jb (Below.refl W.heap.size W))).map.look a (by omega)
 rw[hf] at hl2
 simp only[Option.getD_some,Option.isSome_some,JbL] at hl2
 have hX1:Below W.heap.size W (W.alloc (.cells #[.int .u8 0,.string ⟨#[]⟩,.int .u64 0] 86)).drew:=Jb ((Below.refl _ _).alloc (Nat.le_refl _) _)
 have hl3:=(HH.out.on hX1).map.look a (by omega)
 rw[hf] at hl3
 simp only[Option.getD_some,Option.isSome_some,JbL] at hl3
 have e0:∀x,(W.alloc x).cell? ⟨sb,0,none⟩=some (.map (some mb)):=fun x=>(World.cell?_alloc_past _ _ _ HH.out.row.lt).trans c0
 have hgl:=World.block_lt_of_cell? W _ gp0
 have e1:∀x,(W.alloc x).cell? ⟨w.heap.size,0,none⟩=some (.int .i64 a):=fun x=>(World.cell?_alloc_past _ _ _ hgl).trans gp0
 have e2:∀x,(W.alloc x).cell? ⟨w.heap.size,1,none⟩=some (.int .u64 b.gen):=fun x=>(World.cell?_alloc_past _ _ _ hgl).trans gp1
 go_region
 all_goals
  have hXz:Below w.heap.size w (W.alloc (.cells #[.int .u8 b.kind,.string (S b.pay),.int .u64 b.gen] 86)).drew.drew:=Jb (Jb (hb0.alloc hb0.size _))
  go_upto_region 8 with(fail)
  go_region
  all_goals
   go_wp2_with fail
   go_returns
   exact⟨rfl,hXz⟩
theorem JiD {sb mb n sz:Nat} {f:Int->Option Blk} {gen:Nat} {wrong:Int} (kd:Nat) (pay:List UInt8) (a:Nat) (w:World) (h:Js w sb mb n sz f gen wrong) (ha:a<100000) (hfree:f (a:Int)=none) (hused:∀j:Nat,j<a->(f (j:Int)).isSome=true) (hn:n<100000) (hg:gen<1000000):
  Calls Tryz.prog 20 #[.pointer (some ⟨sb,0,none⟩),.int .u8 kd,.string (S pay)] w fun e w'=>e=.returned (.tuple #[.agg #[.int .i64 a,.int .u64 (gen+1:Nat),.int .u32 0],.int .i64 0])/\Js w' sb mb (n+1) (sz+1) (fun i=>if i=(a:Int) then some ⟨kd,pay,gen+1⟩ else f i) (gen+1) wrong/\Jg (fun x=>x=sb\/x=mb) w w':=by
 have HH:=Lib.hid h
 have hb0:=Below.refl w.heap.size w
 have HU:=Lib.hid hused
 clear h hused
 go_enter Tryz.func20,Tryz.ntmps20
 go_upto_region 1 with(fail)
 obtain⟨W,hW_W⟩:∃W,W=(w.alloc (.cells #[.int .i64 0,.int .u64 0,.int .u32 0] 54)):=⟨_,rfl⟩
 rw[<-hW_W]
 have hX_W:Below w.heap.size w W:=by rw[hW_W];go_grown
 have gr0:W.cell? ⟨w.heap.size,0,none⟩=some (.int .i64 0):=by rw[hW_W,World.cell?_alloc_at _ _ _ _ (by simp)];rfl
 have gr1:W.cell? ⟨w.heap.size,1,none⟩=some (.int .u64 0):=by rw[hW_W,World.cell?_alloc_at _ _ _ _ (by simp)];rfl
 have gr2:W.cell? ⟨w.heap.size,2,none⟩=some (.int .u32 0):=by rw[hW_W,World.cell?_alloc_at _ _ _ _ (by simp)];rfl
 have grf0:W.frozen? ⟨w.heap.size,0,none⟩=false:=by rw[hW_W,World.frozen?_alloc_at _ _ _ _ (by simp)]
 have grf1:W.frozen? ⟨w.heap.size,1,none⟩=false:=by rw[hW_W,World.frozen?_alloc_at _ _ _ _ (by simp)]
 have grf2:W.frozen? ⟨w.heap.size,2,none⟩=false:=by rw[hW_W,World.frozen?_alloc_at _ _ _ _ (by simp)]
 clear hW_W
 have hz_W:=hX_W.size
 replace HH:=Lib.hid (HH.out.kept hX_W (Nat.le_refl _))
 replace hb0:=hb0.trans (hX_W.mono hb0.size)
 clear hX_W
 go_wp2_with fail
 go_loopw [8] (fun i wr=>∃j:Nat,i=.int .i64 j/\j<=a/\Below W.heap.size W wr) (fun i _=>a- (intOf i).toNat)
 case atStart=>exact⟨0,rfl,Nat.zero_le _,Below.refl _ _⟩
 case round=>
  obtain⟨j,rfl,hj,hbr⟩:=hrel
  have HR:=Lib.hid (HH.out.on hbr)
  have c0:=HR.out.c0
  have hl:=HR.out.map.look j (by omega)
  by_cases hja:j<a
  ·rw[HU.out j hja] at hl
   generalize(f (j:Int)).getD Jlm=bk at hl
   simp only[JbL] at hl
   go_wp2_with fail
   exact⟨⟨j+1,by go_num,by omega,hbr.alloc hbr.size _⟩,by simp[intOf];omega⟩
  ·obtain rfl:j=a:=by omega
   rw[hfree] at hl
   simp only[Option.getD_none,Option.isSome_none,JbL,Jlm] at hl
   have hgw:IntKind.u64.wrap ((gen:Int)+1)=(gen:Int)+1:=by rw[IntKind.wrap_u64];omega
   go_upto_region 5 with(fail)
   obtain⟨W5,hW5⟩:∃W5,W5=wr.alloc (.cells #[.int .u8 0,.string (S []),.int .u64 0] 86):=⟨_,rfl⟩
   have hX5:Below W.heap.size W W5:=by rw[hW5];exact hbr.alloc hbr.size _
   have HR5:=Lib.hid (HH.out.on hX5)
   have hX6:=hb0.trans (hX5.mono hb0.size)
   have r0:=Ja hX5 gr0
   have r1:=Ja hX5 gr1
   have r2:=Ja hX5 gr2
   have rf0:=((JB hX5).2 w.heap.size 0 (World.block_lt_of_cell? W _ gr0)).trans grf0
   have rf1:=((JB hX5).2 w.heap.size 1 (World.block_lt_of_cell? W _ gr0)).trans grf1
   have rf2:=((JB hX5).2 w.heap.size 2 (World.block_lt_of_cell? W _ gr0)).trans grf2
   rw[<-hW5]
   clear hW5 hl c0 HR gr0 gr1 gr2 grf0 grf1 grf2 hX5 hbr
   have c1:=HR5.out.c1
   have c1f:=HR5.out.row.frozen 1
   have hsne:=HR5.out.ne
   go_upto_region 6 with(fail)
   obtain⟨W6,hW6⟩:∃W6,W6=W5.setCell ⟨sb,1,none⟩ (.int .u64 ((gen:Int)+1)):=⟨_,rfl⟩
   have hrow6:Jc W6 27 sb [.map (some mb),.int .u64 ((gen:Int)+1),.int .i64 wrong]:=by rw[hW6];exact HR5.out.row.put 1 _
   have HM6:=Lib.hid (show Zg W6 mb n sz f from HR5.out.map.kept' (row:=some sb) (by rw[hW6];exact⟨rfl,rfl,rfl,by rw[World.size_setCell];exact Nat.le_refl _,fun i _ hi=>Go.heap_setCell_other _ _ _ _ (fun e=>hi (by rw[e]))⟩) (fun e=>hsne (Option.some.inj e).symm))
   have hK6:Jg (fun x=>x=sb\/x=mb) w W6:=by rw[hW6];exact(Jg.of_below (S:=fun x=>x=sb\/x=mb) hX6).setCell ⟨sb,1,none⟩ (Or.inl (Or.inl rfl)) _
   have hwz:=hX6.size
   have hsl:=HR5.out.row.lt
   have rlt:=World.block_lt_of_cell? W5 _ r0
   have hrs:w.heap.size≠sb:=fun e=>by
    have h1:=HR5.out.c0
    rw[<-e,r0] at h1
    simp at h1
   have q0:W6.cell? ⟨w.heap.size,0,none⟩=some (.int .i64 0):=by rw[hW6];exact(World.cell?_setCell_other _ _ _ _ (Jp (Or.inl (fun e=>hrs e.symm)))).trans r0
   have q1:W6.cell? ⟨w.heap.size,1,none⟩=some (.int .u64 0):=by rw[hW6];exact(World.cell?_setCell_other _ _ _ _ (Jp (Or.inl (fun e=>hrs e.symm)))).trans r1
   have q2:W6.cell? ⟨w.heap.size,2,none⟩=some (.int .u32 0):=by rw[hW6];exact(World.cell?_setCell_other _ _ _ _ (Jp (Or.inl (fun e=>hrs e.symm)))).trans r2
   have qf:∀o,W6.frozen? ⟨w.heap.size,o,none⟩=W5.frozen? ⟨w.heap.size,o,none⟩:=fun o=>by rw[hW6,World.frozen?_setCell]
   rw[<-hW6]
   clear hW6 r0 r1 r2 HR5 c1 c1f hX6
   have c0:W6.cell? ⟨sb,0,none⟩=some (.map (some mb)):=hrow6.cell 0
   have c1:W6.cell? ⟨sb,1,none⟩=some (.int .u64 ((gen:Int)+1)):=hrow6.cell 1
   have HPUT:=Lib.hid ((HM6.out.on (Jb (Below.refl W6.heap.size W6))).put hn j (by omega) ⟨kd,pay,gen+1⟩ (fun i=>if i=(j:Int) then some ⟨kd,pay,gen+1⟩ else f i) (by simp) (fun k hk=>by simp[hk]))
   rw[hfree] at HPUT
   simp only[Option.isSome_none,Bool.false_eq_true,if_false] at HPUT
   rw[show JbL ⟨kd,pay,gen+1⟩=.agg #[.int .u8 kd,.string (S pay),.int .u64 ((gen:Int)+1)] by simp[JbL]] at HPUT
   obtain⟨wz,hrun,hmz,hgz⟩:=HPUT.out
   go_region
   all_goals
    have HMZ:=Lib.hid hmz
    have hnz:some sb≠some mb:=fun e=>hsne (Option.some.inj e)
    have hrz:some w.heap.size≠some mb:=fun e=>by
     have e:=Option.some.inj e
     obtain⟨D,⟨es,clock,hb,_⟩,_⟩:=HM6.out.own
     rw[<-e] at hb
     simp[World.cell?,hb] at q0
    have hrowz:=hrow6.drew.kept hgz hnz
    have hKz:=(hK6.on (Jb (Below.refl _ _))).grown hgz (fun k e=>Or.inl (Or.inr (Option.some.inj e).symm))
    have k0:=hgz.cell (Jj q0) hrz
    have k1:=hgz.cell (Jj q1) hrz
    have k2:=hgz.cell (Jj q2) hrz
    have hlt6:w.heap.size<W6.drew.heap.size:=World.block_lt_of_cell? W6.drew _ (Jj q0)
    have kf:∀o,wz.frozen? ⟨w.heap.size,o,none⟩=W5.frozen? ⟨w.heap.size,o,none⟩:=fun o=>(World.frozen?_of_block (hgz.block w.heap.size hlt6 hrz)).trans (qf o)
    have kf0:=(kf 0).trans rf0
    have kf1:=(kf 1).trans rf1
    have kf2:=(kf 2).trans rf2
    have z1:wz.cell? ⟨sb,1,none⟩=some (.int .u64 ((gen:Int)+1)):=hrowz.cell 1
    clear hmz hgz q0 q1 q2 qf kf HM6 HPUT c0 c1 hrow6 hK6
    go_wp2_with fail
    obtain⟨s1,s2,s3,s4,s5⟩:=Xk (b:=w.heap.size) [.int .i64 (j:Int),.int .u64 ((gen:Int)+1),.int .u32 0] 0 wz (fun i hi=>by
     rcases i with _|_|_|i
     ·exact⟨_,k0⟩
     ·exact⟨_,k1⟩
     ·exact⟨_,k2⟩
     ·simp at hi;omega)
    obtain⟨ZZ,hZZ⟩:∃ZZ,ZZ=((wz.setCell ⟨w.heap.size,0,none⟩ (.int .i64 (j:Int))).setCell ⟨w.heap.size,1,none⟩ (.int .u64 ((gen:Int)+1))).setCell ⟨w.heap.size,2,none⟩ (.int .u32 0):=⟨_,rfl⟩
    have hZ:Jac wz w.heap.size 0 [.int .i64 (j:Int),.int .u64 ((gen:Int)+1),.int .u32 0]=ZZ:=by rw[hZZ];rfl
    rw[hZ] at s1
    have t0:=s1 0 _ rfl
    have t1:=s1 1 _ rfl
    have t2:=s1 2 _ rfl
    simp only[Nat.zero_add] at t0 t1 t2
    have hgl:wz.grownBy ZZ (some w.heap.size):=by
     rw[hZZ]
     exact⟨rfl,rfl,rfl,by simp only[World.size_setCell];exact Nat.le_refl _,fun k _ hk=>by
      have hkw:k≠w.heap.size:=fun e=>hk (by rw[e])
      rw[Go.heap_setCell_other _ _ _ _ hkw,Go.heap_setCell_other _ _ _ _ hkw,Go.heap_setCell_other _ _ _ _ hkw]⟩
    have hsz:Js ZZ sb mb (n+1) (sz+1) (fun i=>if i=(j:Int) then some ⟨kd,pay,gen+1⟩ else f i) (gen+1) wrong:=
     ⟨hrowz.kept hgl (fun e=>hrs (Option.some.inj e).symm),HMZ.out.kept' hgl (fun e=>hrz (by rw[Option.some.inj e]))⟩
    have hKf:Jg (fun x=>x=sb\/x=mb) w ZZ:=hKz.grown hgl (fun k e=>Or.inr (by have:=Option.some.inj e;omega))
    rw[<-hZZ]
    clear hZZ hZ s1 s2 s3 s4 s5 k0 k1 k2 kf0 kf1 kf2 hgl
    exact bodyPost_ret (v:=.tuple #[.agg #[.int .i64 (j:Int),.int .u64 ((gen:Int)+1),.int .u32 0],.int .i64 0]) (by simp[results,Tryz.results20,go_sem,t0,t1,t2]) rfl ⟨by simp,hsz,hKf⟩
end Go.Proofs.YtafciefjlkdecaaGreat
