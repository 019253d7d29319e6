/-
  The walk of Apply. The walk of shape: a tree of which nothing is saved is counted. What the shape of a tree is, in plain words. A tree like another one: the same messages, entries and keys, wherever it lies. What a Commit saves, in plain words. What a Commit saves is the tree. The walk of a saver's vertex that is dirty. The walks of a saver: a vertex that is known; a node, its children saved; any vertex. The walks of a scan of all keys: within, meets, entries. The walks of Get: where the first load fails; of a leaf. The walk of Get where every load gives the same node: there is no leaf. The walk of a scan where every load gives the same: there is no leaf. A scan in memory: its own struct, its entries so far. The walk of a scan's entries of a leaf. What stays while a scan goes on; fetch within a scan. The walk of a saver's node; a saver's vertex, whatever it is. slices.Sorted(slices.Values(s)) of ints: a row of the call's own that holds them in order. The walk of Commit, whatever the saver does. Commit of any tree. The walk of a scan's vertex, whatever tree. The walk of Scan, whatever tree. A tree in a law: all of it made since the law began; what grows with each update. TreeFlushes: a set of keys as a map; what updates make of the sums; the plain law. The walk of has: a tree's entries are the document's. A tree in a law, and what the document says it has. Two trees over one shelf.
-/
import Derived.Deep.DeepCutAuto
import Derived.Deep.CutBlock
import Derived.Maps.AppendAt
import Derived.RangeFuncWrites
import Derived.Deep.Cut
import Derived.BigQuiet
import Derived.Test.YtafciefjlkdecaaGreatQpf
set_option maxRecDepth 100000
set_option maxHeartbeats 16000000
set_option linter.unusedVariables false
namespace Go.Proofs.YtafciefjlkdecaaGreat
open Go.RowKit
attribute [local go_sem ↓] Go.wp_at_zero Go.wp_at_succ
structure AP (K:Kx) (n:Nat) (w:World) (v:Vt) (T:Tx) (u:Upd) (n1:Nat) (w1:World) (v1:Vt) (T1:Tx) (g:List Int) (l:List Nat):Prop where
 ok:Y2 K n1 w1 v1 T1
 den:∀q,den n1 v1 q=JdX (Yn [u] q) (den n v q)
 addrs:(addrs n1 v1++g).Perm (addrs n v)
 fresh:∀b∈blocks n1 v1,b∈blocks n v\/w.heap.size<=b
 gvb:∀x,T1.gv.ownBlock=some x->T.gv.ownBlock=some x\/w.heap.size<=x
 keep:Jg (fun x=>Own K T x\/x∈blocks n v) w w1
 gone:T1.gone=T.gone++g
 fl:T1.fl=T.fl+l.length
 le:T1.le=l.foldl Jjg T.le
 wr:T1.wr<=T.wr
 pot:pot n1 v1+2^(n1+1)<=pot n v+2^(n+1)+1
 mu:mu n1 v1+l.sum<=mu n v+20
 om:om n1 v1+l.sum<=om n v+n1
 gd:Gd K n v->0<T.wr\/(Gd K n1 v1/\∀m∈l,K.B/K.F<=m)
 pso:Zs n v->Zs n1 v1
theorem Z4.keep_trans {K:Kx} {n n1:Nat} {w w1 w2:World} {v v1:Vt} {T T1:Tx} {g:List Int} {l:List Nat} (a:Z4 K n w v T n1 w1 v1 T1 g l) (b:Jg (fun x=>Own K T1 x\/x∈blocks n1 v1) w1 w2):Jg (fun x=>Own K T x\/x∈blocks n v) w w2:=a.keep.trans b fun x hx=>by
 rcases hx with(q|q|q)|q
 ·exact Or.inl (Or.inl (Or.inl q))
 ·exact Or.inl (Or.inl (Or.inr (Or.inl q)))
 ·rcases a.gvb x q with k|k
  ·exact Or.inl (Or.inl (Or.inr (Or.inr k)))
  ·exact Or.inr k
 ·rcases a.fresh x q with k|k
  ·exact Or.inl (Or.inr k)
  ·exact Or.inr k
def Jme (K:Kx) (n:Nat) (w:World) (v:Vt) (T:Tx) (u:Upd) (e:Ending) (w':World):Prop:=(e=.returned (.int .i64 0)/\∃n1 v1 T1 g l,AP K n w v T u n1 w' v1 T1 g l)\/(e=.returned (.int .i64 10)/\0<T.wr/\∃n1 v1 T1 g l,RM K n w v T n1 w' v1 T1 g l)
theorem Jmh {l:List Upd} (hr:Je Upd.key l) (u:Upd) (h:Yn l u.key≠none):(JQ l u).length=l.length:=by
 cases hh:JE Upd.key l u.key with
 |false=>exact absurd (JdQ hh) h
 |true=>
  obtain⟨i,hi,hk,e⟩:=ZS hr hh
  rw[e,List.length_set]
theorem Jmf {l:List Upd} (hr:Je Upd.key l) (u:Upd):JQ l u≠[]:=by
 cases hh:JE Upd.key l u.key with
 |false=>
  rw[Xi hh]
  intro q
  have:=congrArg List.length q
  rw[Jjm] at this
  simp at this
 |true=>
  obtain⟨i,hi,hk,e⟩:=ZS hr hh
  rw[e]
  intro q
  have:=congrArg List.length q
  rw[List.length_set] at this
  simp at this
  rw[this] at hi
  simp at hi
theorem JpT {K:Kx} {n:Nat} {v:Vt} {u:Upd} (ho:Ok n [] [] v) (hg:Gd K n v) (hw:n=0\/Yn v.us u.key≠none\/v.us.length<K.B):GkB K n (gv n {v with kn:=none} [u]):=by
 cases n with
 |zero=>
  refine⟨trivial,?_⟩
  show v.us.length<=K.B
  rw[ho.1];exact Nat.zero_le _
 |succ n=>
  have hg1:v.ch.length<=K.F/\v.us.length<=K.B/\∀x∈v.ch,Gd K n x.2:=hg
  refine⟨hg1.2.2,?_⟩
  show(JQ v.us u).length<=K.B
  rcases hw with q|q|q
  ·omega
  ·rw[Jmh ho.usr u q];exact hg1.2.1
  ·have:=Jdw ho.usr u;omega
theorem Jrb {a b c d g1 g2 g3:List Int} (h1:(b++g1).Perm a) (h2:(c++g2).Perm b) (h3:(d++g3).Perm c):(d++(g1++(g2++g3))).Perm a:=by
 have e1:(d++(g1++(g2++g3))).Perm (((d++g3)++g2)++g1):=by
  rw[List.append_assoc,List.append_assoc]
  refine List.Perm.append_left _ ?_
  refine List.Perm.trans List.perm_append_comm ?_
  rw[<-List.append_assoc]
  exact List.Perm.append_right _ List.perm_append_comm
 exact e1.trans ((((h3.append_right _).trans h2).append_right _).trans h1)
theorem JqZ {K:Kx} {n:Nat} {v:Vt} {T:Tx} (u:Upd) (w:World) (hP:Ja7 K) (ht:Y2 K n w v T) (hu:Tm u) (hpot:pot n v+2^(n+1)+1<=800) (hmu:T.fl+mu n v+20<=1000000000000):
  Calls Tryz.prog 13 #[.pointer (some ⟨K.tb,0,none⟩),.agg #[.int .u8 u.kind,.string (S u.key),.string (S u.val),.int .u64 u.delta]] w fun e w'=>Jme K n w v T u e w':=by
 have HC:=Lib.hid (fun w'=>chk u.kind u.key u.val u.delta hu.wf.1 hu.wf.2 w')
 have hck:(Upd.mk u.kind u.key u.val u.delta).check=0:=hu.check
 rw[hck] at HC
 have HP:=Lib.hid (And.intro hP (And.intro ht (And.intro hu (And.intro hpot hmu))))
 have HRO:=Lib.hid (fun w' (hb:Below w.heap.size w w')=>Jq9 u.key w' hP (ht.on hb))
 obtain⟨tb,htb⟩:∃tb,tb=K.tb:=⟨_,rfl⟩
 rw[<-htb] at HRO⊢
 have Htb:=Lib.hid htb
 obtain⟨kd,hkd⟩:∃kd,kd=u.kind:=⟨_,rfl⟩
 obtain⟨key,hkey⟩:∃key,key=u.key:=⟨_,rfl⟩
 obtain⟨val,hval⟩:∃val,val=u.val:=⟨_,rfl⟩
 obtain⟨dl,hdl⟩:∃dl,dl=u.delta:=⟨_,rfl⟩
 rw[<-hkd,<-hkey,<-hval,<-hdl] at HC⊢
 rw[<-hkey] at HRO
 have HU:=Lib.hid (And.intro hkd (And.intro hkey (And.intro hval hdl)))
 clear hP ht hu hpot hmu htb hkd hkey hval hdl hck
 go_enter Tryz.func13,Tryz.ntmps13
 go_upto_region 3 with(fail)
 obtain⟨W1,hW1⟩:∃W1,W1=w.alloc (.cells #[.int .u8 kd,.string (S key),.string (S val),.int .u64 dl] 39):=⟨_,rfl⟩
 have hX1:Below w.heap.size w W1:=by rw[hW1];exact(Below.refl _ _).alloc (Nat.le_refl _) _
 have hRW:Y6 W1 39 w.heap.size [.int .u8 kd,.string (S key),.string (S val),.int .u64 dl]:=by rw[hW1];exact⟨Jc.new w _ [.int .u8 kd,.string (S key),.string (S val),.int .u64 dl]⟩
 obtain⟨ub,hub⟩:∃ub,ub=w.heap.size:=⟨_,rfl⟩
 rw[<-hub] at hRW⊢
 rw[<-hW1]
 clear hW1
 have HUB:=Lib.hid hub
 have z0:W1.cell? ⟨ub,0,none⟩=some (.int .u8 kd):=hRW.cell 0
 have z1:W1.cell? ⟨ub,1,none⟩=some (.string (S key)):=hRW.cell 1
 have z2:W1.cell? ⟨ub,2,none⟩=some (.string (S val)):=hRW.cell 2
 have z3:W1.cell? ⟨ub,3,none⟩=some (.int .u64 dl):=hRW.cell 3
 have HX1:=Lib.hid (And.intro hX1 hRW)
 clear hX1 hRW hub
 go_wp2_with fail
 refine(HC.out W1).mono ?_
 rintro e w2 ⟨rfl,hX2⟩
 have z11:=Ja hX2 z1
 have HX2:=Lib.hid (show Below w.heap.size w w2/\Y6 w2 39 ub [.int .u8 kd,.string (S key),.string (S val),.int .u64 dl] from⟨HX1.out.1.trans (hX2.mono HX1.out.1.size),HX1.out.2.kept hX2 (Nat.le_refl _)⟩)
 clear z0 z1 z2 z3 hX2
 go_wp2_with fail
 refine(HRO.out w2 HX2.out.1).mono ?_
 rintro e w3 ⟨n1,v1,T1,g1,l1,hR,hor⟩
 have HR:=Lib.hid (show RM K n w v T n1 w3 v1 T1 g1 l1 from⟨by
  have:=((Z4.refl HP.out.2.1.m HP.out.2.1.nd HP.out.2.1.c).on HX2.out.1).trans hR.run
  simpa using this,hR.gd⟩)
 have hrw3:Y6 w3 39 ub [.int .u8 kd,.string (S key),.string (S val),.int .u64 dl]:=HX2.out.2.keep hR.run.keep (JfG (HP.out.2.1.m.on HX2.out.1) (HP.out.2.1.c.on HX2.out.1) HX2.out.2.row (by decide) (by decide) (by decide) (by decide))
 clear hR HRO HC
 rcases hor with⟨rfl,hld,hwt⟩|⟨rfl,hpos⟩
 case inr=>
  go_wp2_with fail
  go_ret
  show Jme K n w v T u (.returned (.int .i64 10)) w3
  exact Or.inr ⟨rfl,hpos,n1,v1,T1,g1,l1,HR.out⟩
 case inl=>
 have htr:=HP.out.2.1.next HP.out.1 HR.out.run
 have t4:w3.cell? ⟨tb,4,none⟩=some (.pointer (some ⟨v1.b,0,none⟩)):=by rw[Htb.out];exact htr.c.tr.c4
 have htl:tb<w3.heap.size:=World.block_lt_of_cell? _ _ t4
 have e1:∀x,(w3.alloc x).cell? ⟨tb,4,none⟩=some (.pointer (some ⟨v1.b,0,none⟩)):=fun x=>(World.cell?_alloc_past _ _ _ htl).trans t4
 have z0:w3.cell? ⟨ub,0,none⟩=some (.int .u8 kd):=hrw3.cell 0
 have z1:w3.cell? ⟨ub,1,none⟩=some (.string (S key)):=hrw3.cell 1
 have z2:w3.cell? ⟨ub,2,none⟩=some (.string (S val)):=hrw3.cell 2
 have z3:w3.cell? ⟨ub,3,none⟩=some (.int .u64 dl):=hrw3.cell 3
 have hW3:Below w3.heap.size w3 (w3.alloc (.cells #[.int .u8 kd,.string (S key),.string (S val),.int .u64 dl] 39)).drew:=Jb ((Below.refl _ _).alloc (Nat.le_refl _) _)
 have huu:(⟨kd,key,val,dl⟩:Upd)=u:=by obtain⟨q1,q2,q3,q4⟩:=HU.out;rw[q1,q2,q3,q4]
 have HS3:=Lib.hid (show SlU (w3.alloc (.cells #[.int .u8 kd,.string (S key),.string (S val),.int .u64 dl] 39)).drew (.slice (some ⟨w3.heap.size,0,none⟩) 1 1) [u] from by
  rw[<-huu]
  exact⟨_,_,rfl,JC.new w3 _ _ _ [(⟨kd,key,val,dl⟩:Upd)] (fun x hx=>rfl) (by simp;rfl),Nat.le_refl _,by show(1:Int)<=_;omega,fun e=>by simp at e⟩)
 have hgv:ZD [] [] [u]:=⟨List.pairwise_singleton _ _,fun x hx=>by
  rw[List.mem_singleton] at hx
  rw[hx]
  exact⟨HP.out.2.2.1,Jd.2 ⟨Zm _,Or.inl rfl⟩⟩⟩
 have HG:=Lib.hid (Jjv (.slice (some ⟨w3.heap.size,0,none⟩) 1 1) [u] _ (htr.c.on hW3) (htr.m.on hW3) htr.nd hld htr.ok (Nat.le_trans (Nat.le_trans (Nat.le_add_right _ _) htr.pot) (by omega)) hgv (by simp) HS3.out (by have:=htr.gone;omega))
 rw[<-Htb.out] at HG
 have HV:=Lib.hid (And.intro htr (And.intro hld (And.intro hwt (And.intro hgv hW3))))
 clear htr hld hwt hgv hW3 huu hrw3 htl
 have HF:=Lib.hid (fun(w4:World) (gv4:Value) (mv:Mv K v1.b (n1+1) n1 (w3.alloc (.cells #[.int .u8 kd,.string (S key),.string (S val),.int .u64 dl] 39)).drew v1 T1 w4 (gv n1 {v1 with kn:=none} [u]) {T1 with gv:=gv4,gone:=T1.gone++v1.kn.toList.map Pt.a})=>show Calls Tryz.prog 41 #[.pointer (some ⟨tb,0,none⟩)] w4 fun e w5=>e=.returned (.tuple #[])/\Jme K n w v T u (.returned (.int .i64 0)) w5 from by
  obtain⟨htr,hld,hwt,hgv,hW3⟩:=HV.out
  obtain⟨hP,ht,hu,hpot,hmu⟩:=HP.out
  have s:Sm K.F K.L n1 v1 {v1 with kn:=none} (v1.kn.toList.map Pt.a) []:=Sm.soil' v1
  obtain⟨so1,so2⟩:=s.good htr.ok
  have sl:=s.less hP.F hP.L htr.ok
  have rl:=HR.out.run.rt.less hP.F hP.L ht.ok
  obtain⟨k1,k2,k3,k4,k5⟩:=Joo n1 {v1 with kn:=none} [u]
  obtain⟨v4,hv4⟩:∃v4,v4=gv n1 {v1 with kn:=none} [u]:=⟨_,rfl⟩
  obtain⟨T4,hT4⟩:∃T4:Tx,T4= {T1 with gv:=gv4,gone:=T1.gone++v1.kn.toList.map Pt.a}:=⟨_,rfl⟩
  have hok4:=Jjt so1 hgv
  have hpt4:=Jon [u] so1
  have hmu4:=Jqp [u] so1
  have hsh4:=Jol [u] rfl (s.shf htr.sh)
  have had:=s.addrs
  have had4:=Jju n1 {v1 with kn:=none} [u]
  rw[<-hv4] at mv k1 k2 k3 k4 k5 hok4 hpt4 hmu4 hsh4 had4
  rw[<-hT4] at mv
  rw[List.length_singleton] at hpt4 hmu4
  have hn8:=htr.n8
  have hmul:2*(n1+1)*1<=18:=by omega
  have h1:=rl.pot
  have h2:=rl.mu
  have h3:=sl.pot
  have h4:=sl.mu
  have h5:=ZP HR.out.run.rt.pos
  have h6:=HR.out.run.fl
  have hT4f:T4.fl=T1.fl:=by rw[hT4]
  have hT4g:T4.gone=T1.gone++v1.kn.toList.map Pt.a:=by rw[hT4]
  have hT4w:T4.wr=T1.wr:=by rw[hT4]
  have hT4l:T4.le=T1.le:=by rw[hT4]
  have hal:=had.length_eq
  rw[<-had4] at hal had
  rw[List.length_append] at hal
  have hg0:=htr.gone
  have hb4:v4.b=v1.b:=k3
  have hok:Y2 K n1 w4 v4 T4:=⟨by rw[hb4];exact mv.cx,mv.mem,mv.nodup,hok4,hsh4,by omega,by rw[hT4w];exact htr.wr,by rw[hT4g,List.length_append];omega,by rw[hT4f,h6];simp only[List.sum_nil] at h4;omega⟩
  have HTP:=Jq5 w4 hP hok (by rw[k5];exact hld) k1
  rw[<-Htb.out] at HTP
  refine HTP.mono ?_
  rintro e w5 ⟨rfl,n5,v5,T5,g5,l5,td⟩
  refine⟨rfl,Or.inl ⟨rfl,n5,v5,T5,g1++(v1.kn.toList.map Pt.a++g5),l1++l5,?_⟩⟩
  have tl:=td.run.rt.less hP.F hP.L hok.ok
  have z1:=HR.out.run.keep.size
  have z2:=hW3.size
  have z3:=mv.keep.size
  have K34:Jg (fun x=>Own K T1 x\/x∈blocks n1 v1) w3 w4:=(Jg.of_below hW3).trans' mv.keep
  have K35:Jg (fun x=>Own K T1 x\/x∈blocks n1 v1) w3 w5:=K34.trans td.run.keep fun x hx=>by
   rcases hx with(q|q|q)|q
   ·exact Or.inl (Or.inl (Or.inl q))
   ·exact Or.inl (Or.inl (Or.inr (Or.inl q)))
   ·rcases mv.gvb x q with k|k
    ·exact Or.inl (Or.inl (Or.inr (Or.inr k)))
    ·exact Or.inr (by omega)
   ·rcases mv.fresh x q with k|k
    ·exact Or.inl (Or.inr k)
    ·exact Or.inr (by omega)
  refine⟨hok.next hP td.run,fun q=> ?_,Jrb HR.out.run.rt.addrs had td.run.rt.addrs,fun b hb=> ?_,fun x hx=> ?_,HR.out.run.keep_trans K35,by rw[td.run.gone,hT4g,HR.out.run.gone,List.append_assoc,List.append_assoc],by rw[td.run.fl,hT4f,h6,List.length_append];omega,by rw[td.run.le,hT4l,HR.out.run.le,List.foldl_append],Nat.le_trans td.run.wr (by rw[hT4w];exact HR.out.run.wr),?_,?_,?_,fun hg=> ?_,fun hq=>td.run.rt.pso (by rw[hv4];exact Jom _ (Jn9 (HR.out.run.rt.pso hq)))⟩
  ·rw[(td.run.rt.good hok.ok).2 q,hv4,Jk4 so1 hgv q,so2 q (Jd.2 ⟨Zm q,Or.inl rfl⟩),(HR.out.run.rt.good ht.ok).2 q]
  ·rcases td.run.fresh b hb with k|k
   ·rcases mv.fresh b k with k|k
    ·exact HR.out.run.fresh b k
    ·exact Or.inr (by omega)
   ·exact Or.inr (by omega)
  ·rcases td.run.gvb x hx with k|k
   ·rcases mv.gvb x k with k|k
    ·exact HR.out.run.gvb x k
    ·exact Or.inr (by omega)
   ·exact Or.inr (by omega)
  ·have:=tl.pot;omega
  ·have:=tl.mu
   rw[List.sum_append]
   simp only[List.sum_nil] at h4
   omega
  ·have e1:=tl.om
   have e2:=rl.om
   have e3:=sl.om
   have e4:=Jqo [u] so1
   rw[<-hv4,List.length_singleton] at e4
   rw[List.sum_append]
   simp only[List.sum_nil] at e3
   have e5:n1*1<=n5:=by
    cases n1 with
    |zero=>omega
    |succ m=>
     have:=(td.up (by rw[hv4];exact Jmf (so1.usr) u)).1
     omega
   omega
  ·rcases HR.out.gd hg with q|⟨q1,q2⟩
   ·exact Or.inl q
   ·have hgk:=JpT (u:=u) htr.ok q1 (by rw[<-HU.out.2.1];exact hwt)
    rw[<-hv4] at hgk
    rcases td.gd hgk with q|q
    ·rw[hT4w] at q
     exact Or.inl (Nat.lt_of_lt_of_le q HR.out.run.wr)
    ·refine Or.inr ⟨q,fun m hm=> ?_⟩
     rcases List.mem_append.1 hm with hm|hm
     ·exact q2 m hm
     ·exact td.big m hm)
 go_upto_region 9 with(fail)
 go_region_law (first|(go_simp;go_at_call 40;refine HG.out.mono ?_;rintro e w4 ⟨rfl,gv4,mv4⟩;have HM4:=Lib.hid mv4;clear mv4))
 all_goals
  go_wp2_with fail
  refine(HF.out w4 gv4 HM4.out).mono ?_
  rintro e w5 ⟨rfl,hA⟩
  have HA:=Lib.hid hA
  clear hA
  go_wp2_with fail
  go_ret
  show Jme K n w v T u (.returned (.int .i64 0)) w5
  exact HA.out
open Go.RowKit
attribute [local go_sem ↓] Go.wp_at_zero Go.wp_at_succ
structure JrG where
 l:Nat
 i:Nat
 e:Nat
 w:Nat
abbrev c4 (c:JrG):List Value:=[.int .i64 c.l,.int .i64 c.i,.int .i64 c.e,.int .i64 c.w]
end Go.Proofs.YtafciefjlkdecaaGreat
namespace Go.Proofs.YtafciefjlkdecaaGreat
open Go.RowKit
theorem Jdz {f g:Vt->Nat}:∀ {l:List (Chd×Vt)},(∀x∈l,f x.2<=g x.2)->Yf f l<=Yf g l
 |[],_=>Nat.le_refl _
 |x::l,h=>by
  rw[Jo,Jo]
  exact Nat.add_le_add (h x (by simp)) (Jdz fun y hy=>h y (List.mem_cons_of_mem _ hy))
theorem JnH (f g:Vt->Nat):∀l:List (Chd×Vt),Yf (fun t=>f t+g t) l=Yf f l+Yf g l
 |[]=>rfl
 |x::l=>by rw[Jo,Jo,Jo,JnH f g l];omega
theorem Jcv (c:Nat):∀l:List (Chd×Vt),Yf (fun _=>c) l=c*l.length
 |[]=>rfl
 |x::l=>by rw[Jo,Jcv c l,List.length_cons,Nat.mul_add];omega
open Go.RowKit
def Za (R:Vt->Vt->Prop):List (Chd×Vt)->List (Chd×Vt)->Prop
 |[],[]=>True
 |x::l,y::m=>(y.1.low=x.1.low/\Zi y.1/\R x.2 y.2)/\Za R l m
 |_,_=>False
def Jbl:Nat->Vt->Vt->Prop
 |0,v,v'=>v'.es=v.es/\v'.us=v.us/\v'.ch=v.ch
 |n+1,v,v'=>v'.es=v.es/\v'.us=v.us/\Za (Jbl n) v.ch v'.ch
theorem Za.len {R:Vt->Vt->Prop}:∀ {l m:List (Chd×Vt)},Za R l m->m.length=l.length
 |[],[],_=>rfl
 |_::l,_::m,h=>by rw[List.length_cons,List.length_cons,Za.len h.2]
 |[],_::_,h=>absurd h id
 |_::_,[],h=>absurd h id
theorem Za.hd {R:Vt->Vt->Prop}:∀ {l m:List (Chd×Vt)},Za R l m->hdL m=hdL l
 |[],[],_=>rfl
 |_::_,_::_,h=>h.1.1
 |[],_::_,h=>absurd h id
 |_::_,[],h=>absurd h id
theorem Za.sum {R:Vt->Vt->Prop} (f:Vt->Nat) (hf:∀t t',R t t'->f t'=f t):∀ {l m:List (Chd×Vt)},Za R l m->Yf f m=Yf f l
 |[],[],_=>rfl
 |x::l,y::m,h=>by rw[Jo,Jo,Za.sum f hf h.2,hf _ _ h.1.2.2]
 |[],_::_,h=>absurd h id
 |_::_,[],h=>absurd h id
theorem Za.scK {n:Nat} {R:Vt->Vt->Prop} (hf:∀t t',R t t'->∀u,enG n t' u=enG n t u) (all:List Upd):∀ {l m:List (Chd×Vt)},Za R l m->scK (enG n) all m=scK (enG n) all l
 |[],[],_=>rfl
 |x::l,y::m,h=>by
  rw[XZ,XZ,Za.scK hf all h.2,h.2.hd,hf _ _ h.1.2.2]
  show enG n x.2 (JH all y.1.low (hdL l))++_=enG n x.2 (JH all x.1.low (hdL l))++_
  rw[h.1.1]
 |[],_::_,h=>absurd h id
 |_::_,[],h=>absurd h id
theorem Za.mem {R:Vt->Vt->Prop}:∀ {l m:List (Chd×Vt)},Za R l m->∀y∈m,∃x∈l,y.1.low=x.1.low/\Zi y.1/\R x.2 y.2
 |[],[],_,y,hy=>by cases hy
 |x::l,z::m,h,y,hy=>by
  rcases List.mem_cons.1 hy with rfl|hy
  ·exact⟨x,by simp,h.1⟩
  ·obtain⟨a,ha,hb⟩:=Za.mem h.2 y hy
   exact⟨a,List.mem_cons_of_mem _ ha,hb⟩
 |[],_::_,h,_,_=>absurd h id
 |_::_,[],h,_,_=>absurd h id
theorem Za.okk {R:Vt->Vt->Prop} {Q:List UInt8->List UInt8->Vt->Prop} {hi:List UInt8} (hq:∀t t' lo hi,R t t'->Q lo hi t->Q lo hi t'):∀ {l m:List (Chd×Vt)} {lo:List UInt8},Za R l m->OkK Q hi lo l->OkK Q hi lo m
 |[],_,_,_,h=>absurd h id
 |[x],[y],lo,h,k=>hq _ _ _ _ h.1.2.2 k
 |[x],y::z::m,_,h,_=>absurd h.2 id
 |x::z::l,[y],_,h,_=>absurd h.2 id
 |x::x'::l,y::y'::m,lo,h,k=>by
  obtain⟨k1,k2,k3,k4⟩:=OkK.two.1 k
  have e:lw y'=lw x':=h.2.1.1
  refine OkK.two.2 ⟨by rw[e];exact k1,by rw[e];exact k2,by rw[e];exact hq _ _ _ _ h.1.2.2 k3,?_⟩
  rw[e]
  exact Za.okk hq h.2 k4
 |_::_,[],_,h,_=>absurd h id
theorem Za.first {R:Vt->Vt->Prop}:∀ {l m:List (Chd×Vt)},Za R l m->(∀x,l[0]? =some x->lw x=[])->∀y,m[0]? =some y->lw y=[]
 |[],[],_,_,y,hy=>by simp at hy
 |x::l,z::m,h,k,y,hy=>by
  simp only[List.getElem?_cons_zero,Option.some.injEq] at hy
  subst hy
  have:=k x rfl
  exact h.1.1.trans this
 |[],_::_,h,_,_,_=>absurd h id
 |_::_,[],h,_,_,_=>absurd h id
theorem Jbl.gv {n:Nat} {v v':Vt} (h:Jbl n v v') (u:List Upd):Jbl n (gv n v u) (gv n v' u):=by
 cases n with
 |zero=>exact⟨by show Ys v'.es u=Ys v.es u;rw[h.1],h.2.1,h.2.2⟩
 |succ n=>exact⟨h.1,by show u.foldl JQ v'.us=u.foldl JQ v.us;rw[h.2.1],h.2.2⟩
theorem JlM:∀(n:Nat) (v v':Vt),Jbl n v v'->en n v'=en n v
 |0,v,v',h=>h.1
 |n+1,v,v',h=>by
  rw[JhZ,JhZ,h.2.1]
  exact Za.scK (fun t t' ht u=>JlM n _ _ (ht.gv u)) v.us h.2.2
theorem Jam:∀(n:Nat) (v v':Vt) (lo hi:List UInt8),Jbl n v v'->Ok n lo hi v->Ok n lo hi v'
 |0,v,v',lo,hi,h,⟨a,b,c,d⟩=>⟨h.2.1.trans a,h.2.2.trans b,by rw[h.1];exact c,by rw[h.1];exact d⟩
 |n+1,v,v',lo,hi,h,⟨a,b,c,d,e,f⟩=>by
  refine⟨h.1.trans a,by rw[h.2.1];exact b,by rw[h.2.1];exact c,fun y hy=> ?_,h.2.2.first e,h.2.2.okk (fun t t' lo hi ht ho=>Jam n t t' lo hi ht ho) f⟩
  obtain⟨x,hx,h1,h2,-⟩:=h.2.2.mem y hy
  exact⟨h2,by rw[h1];exact(d x hx).2⟩
theorem Jbz:∀(n:Nat) (v v':Vt),Jbl n v v'->pot n v'=pot n v
 |0,v,v',h=>by rw[Z8,Z8,h.1]
 |n+1,v,v',h=>by rw[JP,JP,h.2.1,h.2.2.len,h.2.2.sum (pot n) fun t t' ht=>Jbz n t t' ht]
theorem Jdf:∀(n:Nat) (v v':Vt),Jbl n v v'->mu n v'=mu n v
 |0,v,v',h=>by rw[Xx,Xx,h.1]
 |n+1,v,v',h=>by rw[Yd,Yd,h.2.1,h.2.2.len,h.2.2.sum (mu n) fun t t' ht=>Jdf n t t' ht]
theorem JeB {K:Kx}:∀(n:Nat) (v v':Vt),Jbl n v v'->Gd K n v->Gd K n v'
 |0,v,v',h,g=>by
  show v'.es.length<=K.L
  rw[h.1];exact g
 |n+1,v,v',h,g=>by
  obtain⟨g1,g2,g3⟩:=g
  refine⟨by rw[h.2.2.len];exact g1,by rw[h.2.1];exact g2,fun y hy=> ?_⟩
  obtain⟨x,hx,-,-,h3⟩:=h.2.2.mem y hy
  exact JeB n _ _ h3 (g3 x hx)
theorem Jjh {n:Nat} {v v':Vt} (h:Jbl n v v') (ho:Ok n [] [] v) (q:List UInt8):den n v' q=den n v q:=by
 obtain⟨-,-,h1⟩:=Jla ho
 obtain⟨-,-,h2⟩:=Jla (Jam n v v' [] [] h ho)
 rw[<-h1,<-h2,JlM n v v' h]
theorem Za.refl {R:Vt->Vt->Prop}:∀ {l:List (Chd×Vt)},(∀x∈l,Zi x.1/\R x.2 x.2)->Za R l l
 |[],_=>trivial
 |x::l,h=>⟨⟨rfl,h x (by simp)⟩,Za.refl fun y hy=>h y (List.mem_cons_of_mem _ hy)⟩
theorem Jb0:∀(n:Nat) (v:Vt) (lo hi:List UInt8) (b:Nat) (m l:Bool) (k:Option Pt),Ok n lo hi v->Jbl n v {v with b:=b,mem:=m,ld:=l,kn:=k}
 |0,v,_,_,_,_,_,_,_=>⟨rfl,rfl,rfl⟩
 |n+1,v,lo,hi,b,m,l,k,h=>by
  refine⟨rfl,rfl,Za.refl fun x hx=> ?_⟩
  obtain⟨j,hj,e⟩:=List.getElem_of_mem hx
  obtain⟨lo',hi',h1,-⟩:=JbA h j hj
  rw[e] at h1
  exact⟨(h.2.2.2.1 x hx).1,by have:=Jb0 n x.2 lo' hi' x.2.b x.2.mem x.2.ld x.2.kn h1;cases hx2:x.2;rw[hx2] at this;exact this⟩
open Go.RowKit
structure Sf where
 f:Int->Option Blk
 gen:Nat
 nn:Nat
 sz:Nat
def Jm6 (f:Int->Option Blk):Nat->Nat->Nat
 |0,i=>i
 |k+1,i=>if(f (i:Int)).isNone then i else Jm6 f k (i+1)
theorem Jg4 (f:Int->Option Blk):∀(k i:Nat),f ((i+k:Nat):Int)=none->(∀j:Nat,j<i->f (j:Int)≠none)->f (Jm6 f k i:Int)=none/\(∀j:Nat,j<Jm6 f k i->f (j:Int)≠none)/\Jm6 f k i<=i+k
 |0,i,h,hj=>⟨h,hj,Nat.le_refl _⟩
 |k+1,i,h,hj=>by
  unfold Jm6
  by_cases hi:f (i:Int)=none
  ·rw[if_pos (by rw[hi];rfl)]
   exact⟨hi,hj,by omega⟩
  ·rw[if_neg (by simpa using hi)]
   obtain⟨h1,h2,h3⟩:=Jg4 f k (i+1) (by rw[show i+1+k=i+(k+1) by omega];exact h) fun j hlt=>by
    rcases Nat.lt_or_eq_of_le (Nat.le_of_lt_succ hlt) with q|q
    ·exact hj j q
    ·rw[q];exact hi
   exact⟨h1,h2,by omega⟩
def Win (s:Sf):Prop:=∀a b,s.f a=some b->0<=a/\a<s.gen/\b.gen<=s.gen
def fre (s:Sf):Nat:=Jm6 s.f s.gen 0
theorem Jdm {s:Sf} (h:Win s):s.f (fre s:Int)=none/\(∀j:Nat,j<fre s->s.f (j:Int)≠none)/\fre s<=s.gen:=by
 have h0:s.f ((0+s.gen:Nat):Int)=none:=by
  cases e:s.f ((0+s.gen:Nat):Int) with
  |none=>rfl
  |some b=>
   have:=h _ _ e
   omega
 obtain⟨h1,h2,h3⟩:=Jg4 s.f s.gen 0 h0 fun j hj=>absurd hj (Nat.not_lt_zero j)
 exact⟨h1,h2,by unfold fre;omega⟩
def sv1 (s:Sf) (kd:Nat) (pay:List UInt8):Pt×Sf:=(⟨fre s,s.gen+1,0⟩,⟨fun i=>if i=(fre s:Int) then some ⟨kd,pay,s.gen+1⟩ else s.f i,s.gen+1,s.nn+1,s.sz+1⟩)
def dsk:Nat->Vt->Vt
 |0,v=> {v with mem:=false,ld:=false}
 |n+1,v=> {v with mem:=false,ld:=false,ch:=v.ch.map fun x=>(x.1,dsk n x.2)}
def Jga (c:Chd) (k:Option Pt):Chd:=match k with|none=>c|some p=>⟨c.low,p.a,p.g,p.s⟩
def svK (g:Vt->Sf->Vt×Sf):List (Chd×Vt)->Sf->List (Chd×Vt)×Sf
 |[],s=>([],s)
 |x::r,s=>((Jga x.1 (g x.2 s).1.kn,(g x.2 s).1)::(svK g r (g x.2 s).2).1,(svK g r (g x.2 s).2).2)
def sv:Nat->Vt->Sf->Vt×Sf
 |0,v,s=>match v.kn with
  |some _=>(dsk 0 v,s)
  |none=>({v with mem:=false,ld:=false,kn:=some (sv1 s 4 (JO v.es)).1},(sv1 s 4 (JO v.es)).2)
 |n+1,v,s=>match v.kn with
  |some _=>(dsk (n+1) v,s)
  |none=>
   ({v with mem:=false,ld:=false,kn:=some (sv1 (svK (sv n) v.ch s).2 5 (Yl ((svK (sv n) v.ch s).1.map Prod.fst) v.us)).1,ch:=(svK (sv n) v.ch s).1},(sv1 (svK (sv n) v.ch s).2 5 (Yl ((svK (sv n) v.ch s).1.map Prod.fst) v.us)).2)
def Yb:Nat->Vt->Nat
 |0,v=>if v.kn.isNone then 1 else 0
 |n+1,v=>if v.kn.isNone then 1+Yf (Yb n) v.ch else 0
theorem JaO {v:Vt} (h:v.kn=none) (s:Sf):sv 0 v s=({v with mem:=false,ld:=false,kn:=some (sv1 s 4 (JO v.es)).1},(sv1 s 4 (JO v.es)).2):=by unfold sv;rw[h]
theorem JcX {v:Vt} {p:Pt} (h:v.kn=some p) (s:Sf):sv 0 v s=(dsk 0 v,s):=by unfold sv;rw[h]
theorem Z6 {n:Nat} {v:Vt} (h:v.kn=none) (s:Sf):sv (n+1) v s=({v with mem:=false,ld:=false,kn:=some (sv1 (svK (sv n) v.ch s).2 5 (Yl ((svK (sv n) v.ch s).1.map Prod.fst) v.us)).1,ch:=(svK (sv n) v.ch s).1},(sv1 (svK (sv n) v.ch s).2 5 (Yl ((svK (sv n) v.ch s).1.map Prod.fst) v.us)).2):=by
 rw[sv];rw[h]
theorem JcY {n:Nat} {v:Vt} {p:Pt} (h:v.kn=some p) (s:Sf):sv (n+1) v s=(dsk (n+1) v,s):=by
 rw[sv];rw[h]
theorem JqT (n:Nat) (v:Vt):(dsk n v).kn=v.kn:=by cases n<;>rfl
theorem JfK:∀(n:Nat) (v:Vt) (lo hi:List UInt8),Ok n lo hi v->Jbl n v (dsk n v)
 |0,_,_,_,_=>⟨rfl,rfl,rfl⟩
 |n+1,v,lo,hi,h=>by
  refine⟨rfl,rfl,?_⟩
  have hk:∀x∈v.ch,Zi x.1/\Jbl n x.2 (dsk n x.2):=fun x hx=>by
   obtain⟨j,hj,e⟩:=List.getElem_of_mem hx
   obtain⟨lo',hi',h1,-⟩:=JbA h j hj
   rw[e] at h1
   exact⟨(h.2.2.2.1 x hx).1,JfK n x.2 lo' hi' h1⟩
  have key:∀l:List (Chd×Vt),(∀x∈l,Zi x.1/\Jbl n x.2 (dsk n x.2))->Za (Jbl n) l (l.map fun x=>(x.1,dsk n x.2)):=fun l=>by
   induction l with
   |nil=>exact fun _=>trivial
   |cons x l ih=>exact fun h=>⟨⟨rfl,h x (by simp)⟩,ih fun y hy=>h y (List.mem_cons_of_mem _ hy)⟩
  exact key v.ch hk
theorem Jg7:∀(n:Nat) (v:Vt),addrs n (dsk n v)=addrs n v
 |0,_=>rfl
 |n+1,v=>by
  rw[JG,JG]
  show _++YG n (v.ch.map fun x=>(x.1,dsk n x.2))=_
  congr 1
  have key:∀l:List (Chd×Vt),YG n (l.map fun x=>(x.1,dsk n x.2))=YG n l:=fun l=>by
   induction l with
   |nil=>rfl
   |cons x l ih=>rw[List.map_cons,JT,JT,ih,Jg7 n x.2]
  exact key v.ch
theorem Jh1 {f:Int->Option Blk}:∀(n:Nat) (v:Vt),Shf f n v->Shf f n (dsk n v)
 |0,_,h=>h
 |n+1,v,⟨h1,h2⟩=>by
  have hf:(v.ch.map fun x=>(x.1,dsk n x.2)).map Prod.fst=v.cs:=by rw[List.map_map];rfl
  refine⟨fun p hp=> ?_,fun y hy=> ?_⟩
  ·obtain⟨a,b,c⟩:=h1 p hp
   refine⟨by show f p.a=some ⟨5,Yl ((v.ch.map fun x=>(x.1,dsk n x.2)).map Prod.fst) v.us,p.g⟩;rw[hf];exact a,by show YR ((v.ch.map fun x=>(x.1,dsk n x.2)).map Prod.fst) v.us;rw[hf];exact b,fun y hy=> ?_⟩
   obtain⟨x,hx,rfl⟩:=List.mem_map.1 hy
   rw[JqT];exact c x hx
  ·obtain⟨x,hx,rfl⟩:=List.mem_map.1 hy
   exact Jh1 n x.2 (h2 x hx)
theorem Jh2 {f:Int->Option Blk}:∀(n:Nat) (v:Vt) (p:Pt),v.kn=some p->Shf f n v->Dsk n (dsk n v)
 |0,v,p,h,_=>⟨rfl,rfl,by show v.kn.isSome=true;rw[h];rfl⟩
 |n+1,v,p,h,⟨h1,h2⟩=>by
  refine⟨⟨rfl,rfl,by show v.kn.isSome=true;rw[h];rfl⟩,fun y hy=> ?_⟩
  obtain⟨x,hx,rfl⟩:=List.mem_map.1 hy
  exact Jh2 n x.2 _ ((h1 p h).2.2 x hx) (h2 x hx)
theorem Jc4 {f f':Int->Option Blk} (he:∀a,f a≠none->f' a=f a):∀(n:Nat) (v:Vt),Shf f n v->Shf f' n v
 |0,v,h=>fun p hp=>by rw[he p.a (by rw[h p hp];simp)];exact h p hp
 |n+1,v,⟨h1,h2⟩=>⟨fun p hp=>⟨by rw[he p.a (by rw[(h1 p hp).1];simp)];exact(h1 p hp).1,(h1 p hp).2⟩,fun x hx=>Jc4 he n x.2 (h2 x hx)⟩
structure JcQ (s s':Sf) (new:List Int):Prop where
 ext:∀a,s.f a≠none->s'.f a=s.f a
 dom:∀a,s'.f a≠none↔s.f a≠none\/a∈new
 fresh:∀a∈new,s.f a=none
 nd:new.Nodup
 win:Win s->Win s'
 gen:s'.gen=s.gen+new.length
 nn:s'.nn=s.nn+new.length
 sz:s'.sz=s.sz+new.length
theorem JcQ.refl (s:Sf):JcQ s s []:=⟨fun _ _=>rfl,fun a=>by simp,fun a h=>(by cases h),List.nodup_nil,id,rfl,rfl,rfl⟩
theorem JcQ.trans {a b c:Sf} {l m:List Int} (h:JcQ a b l) (k:JcQ b c m):JcQ a c (l++m):=by
 refine⟨fun x hx=> ?_,fun x=> ?_,fun x hx=> ?_,?_,fun w=>k.win (h.win w),by rw[k.gen,h.gen,List.length_append];omega,by rw[k.nn,h.nn,List.length_append];omega,by rw[k.sz,h.sz,List.length_append];omega⟩
 ·rw[k.ext x (by rw[h.ext x hx];exact hx),h.ext x hx]
 ·rw[k.dom,h.dom,List.mem_append];exact or_assoc
 ·rcases List.mem_append.1 hx with q|q
  ·exact h.fresh x q
  ·have:=k.fresh x q
   cases e:a.f x with
   |none=>rfl
   |some y=>
    have h2:=h.ext x (by rw[e];simp)
    rw[this] at h2
    rw[e] at h2;cases h2
 ·refine List.nodup_append.2 ⟨h.nd,k.nd,fun x hx y hy e=> ?_⟩
  subst e
  exact absurd (k.fresh x hy) ((h.dom x).2 (Or.inr hx))
theorem JcQ.one {s:Sf} (hw:Win s) (kd:Nat) (pay:List UInt8):JcQ s (sv1 s kd pay).2 [(fre s:Int)]:=by
 obtain⟨h1,h2,h3⟩:=Jdm hw
 refine⟨fun a ha=> ?_,fun a=> ?_,fun a ha=> ?_,List.nodup_cons.2 ⟨by simp,List.nodup_nil⟩,fun _ a b hb=> ?_,rfl,rfl,rfl⟩
 ·show(if a=(fre s:Int) then _ else s.f a)=s.f a
  rw[if_neg (fun e=>by rw[e] at ha;exact ha h1)]
 ·show(if a=(fre s:Int) then some _ else s.f a)≠none↔_
  by_cases e:a=(fre s:Int)
  ·rw[if_pos e];simp[e]
  ·rw[if_neg e];simp[e]
 ·rw[List.mem_singleton.1 ha];exact h1
 ·have hb':(if a=(fre s:Int) then some (⟨kd,pay,s.gen+1⟩:Blk) else s.f a)=some b:=hb
  show 0<=a/\a<((s.gen+1:Nat):Int)/\b.gen<=s.gen+1
  by_cases e:a=(fre s:Int)
  ·rw[if_pos e] at hb'
   have:=Option.some.inj hb'
   subst this
   exact⟨by omega,by omega,Nat.le_refl _⟩
  ·rw[if_neg e] at hb'
   have:=hw a b hb'
   omega
open Go.RowKit
theorem Jpk {u:Upd} (h:Tm u):Xg u:=⟨h.wf,h.check⟩
structure Jo0 (n:Nat) (lo hi:List UInt8) (v:Vt) (s:Sf):Prop where
 ok:Ok n lo hi v
 shf:Shf s.f n v
 win:Win s
 ps:Zs n v
 gen:s.gen+Yb n v<=1000000
def Few:Nat->Vt->Prop
 |0,_=>True
 |n+1,v=>v.ch.length<=16/\v.us.length<=64/\∀x∈v.ch,Few n x.2
theorem Jov {K:Kx} (hF:K.F<=16) (hB:K.B<=64):∀(n:Nat) (v:Vt),Gd K n v->Few n v
 |0,_,_=>trivial
 |n+1,v,g=>⟨Nat.le_trans g.1 hF,Nat.le_trans g.2.1 hB,fun x hx=>Jov hF hB n x.2 (g.2.2 x hx)⟩
structure Jrr (n:Nat) (v:Vt) (s:Sf) (v':Vt) (s':Sf):Prop where
 like:Jbl n v v'
 kn:∃p,v'.kn=some p/\(0<=p.a/\p.a<1000000)/\p.g<1000001/\p.s<4294967296
 dsk:Dsk n v'
 shf:Shf s'.f n v'
 ps:Zs n v'
 more:∃new,JcQ s s' new/\(addrs n v').Perm (addrs n v++new)/\new.length=Yb n v
structure Jrs (n:Nat) (l:List (Chd×Vt)) (s:Sf) (l':List (Chd×Vt)) (s':Sf):Prop where
 like:Za (Jbl n) l l'
 kid:∀y∈l',Dsk n y.2/\Shf s'.f n y.2/\y.2.kn=some ⟨y.1.addr,y.1.gen,y.1.sum⟩/\Zs n y.2
 more:∃new,JcQ s s' new/\(YG n l').Perm (YG n l++new)/\new.length=Yf (Yb n) l
theorem Jra {a b c d e f:List Int} (h:a.Perm (b++c)) (k:d.Perm (e++f)):(a++d).Perm (b++e++(c++f)):=by
 refine(h.append k).trans ?_
 rw[List.append_assoc,List.append_assoc]
 refine List.Perm.append_left _ ?_
 rw[<-List.append_assoc,<-List.append_assoc]
 exact List.Perm.append_right _ List.perm_append_comm
theorem Jhx {n:Nat} (IH:∀lo hi v s,Jo0 n lo hi v s->Few n v->Jrr n v s (sv n v s).1 (sv n v s).2):∀(l:List (Chd×Vt)) (s:Sf),(∀x∈l,(∃lo hi,Ok n lo hi x.2)/\Shf s.f n x.2/\Zs n x.2/\Few n x.2/\Zi x.1)->Win s->s.gen+Yf (Yb n) l<=1000000->Jrs n l s (svK (sv n) l s).1 (svK (sv n) l s).2
 |[],s,_,_,_=>⟨trivial,fun y hy=>(by cases hy),[],JcQ.refl s,List.Perm.refl _,rfl⟩
 |x::r,s,h,hw,hg=>by
  rw[Jo] at hg
  obtain⟨⟨lo,hi,h1⟩,h2,h3,h4,h5⟩:=h x (by simp)
  obtain⟨a1,⟨p,p1,p2,p3,p4⟩,a3,a4,a5,new,m1,m2,m3⟩:=IH lo hi x.2 s ⟨h1,h2,hw,h3,by omega⟩ h4
  have hg1:=m1.gen
  obtain⟨b1,b2,new2,n1,n2,n3⟩:=Jhx IH r (sv n x.2 s).2 (fun y hy=>by
   obtain⟨k1,k2,k3⟩:=h y (List.mem_cons_of_mem _ hy)
   exact⟨k1,Jc4 m1.ext n y.2 k2,k3⟩) (m1.win hw) (by omega)
  refine⟨⟨⟨?_,?_,a1⟩,b1⟩,fun y hy=> ?_,new++new2,m1.trans n1,?_,by rw[List.length_append,Jo,m3,n3]⟩
  ·show(Jga x.1 (sv n x.2 s).1.kn).low=x.1.low
   rw[p1];rfl
  ·show Zi (Jga x.1 (sv n x.2 s).1.kn)
   rw[p1]
   exact⟨h5.low,⟨p2.1,by show p.a<=2147483647;omega⟩,by show p.g<_;omega,p4⟩
  ·rcases List.mem_cons.1 hy with rfl|hy
   ·refine⟨a3,Jc4 n1.ext n _ a4,?_,a5⟩
    show(sv n x.2 s).1.kn=some ⟨(Jga x.1 (sv n x.2 s).1.kn).addr,(Jga x.1 (sv n x.2 s).1.kn).gen,(Jga x.1 (sv n x.2 s).1.kn).sum⟩
    rw[p1];rfl
   ·exact b2 y hy
  ·show(YG n ((Jga x.1 (sv n x.2 s).1.kn,(sv n x.2 s).1)::_)).Perm _
   rw[JT,JT]
   exact Jra m2 n2
theorem Jkq {cs:List Chd} (h:Ja8 cs):Je Chd.low cs:=by
 refine List.pairwise_iff_getElem.2 fun i j hi hj hij=> ?_
 have:=h.rise i j hij hj
 rw[JaE hi,JaE hj] at this
 exact this
theorem JlV:∀(n:Nat) (v:Vt),Zs n v->Zs n (dsk n v)
 |0,_,h=>h
 |n+1,v,h=>⟨h.1,fun y hy=>by
  obtain⟨x,hx,rfl⟩:=List.mem_map.1 hy
  exact JlV n x.2 (h.2 x hx)⟩
theorem JcZ:∀(n:Nat) (lo hi:List UInt8) (v:Vt) (s:Sf),Jo0 n lo hi v s->Few n v->Jrr n v s (sv n v s).1 (sv n v s).2
 |0,lo,hi,v,s,i,_=>by
  cases hk:v.kn with
  |some p=>
   rw[JcX hk]
   have hf:=i.shf p hk
   have hw:=i.win _ _ hf
   have hgg:p.g<=s.gen:=hw.2.2
   have:=i.gen
   exact⟨JfK 0 v lo hi i.ok,⟨p,hk,by omega,by omega,i.ps p hk⟩,Jh2 0 v p hk i.shf,Jh1 0 v i.shf,i.ps,[],JcQ.refl s,by rw[List.append_nil];exact List.Perm.refl _,by unfold Yb;rw[hk];rfl⟩
  |none=>
   rw[JaO hk]
   have hd:Yb 0 v=1:=by unfold Yb;rw[hk];rfl
   have hg:=i.gen
   obtain⟨f1,f2,f3⟩:=Jdm i.win
   refine⟨⟨rfl,rfl,rfl⟩,⟨_,rfl,⟨Int.natCast_nonneg _,?_⟩,?_,?_⟩,⟨rfl,rfl,rfl⟩,fun p hp=> ?_,fun p hp=> ?_,[(fre s:Int)],JcQ.one i.win _ _,?_,by rw[hd];rfl⟩
   ·show(fre s:Int)<1000000;omega
   ·show s.gen+1<1000001;omega
   ·show 0<4294967296;omega
   ·have:=Option.some.inj (show some (sv1 s 4 (JO v.es)).1=some p from hp)
    subst this
    show(if((fre s:Nat):Int)=(fre s:Int) then _ else _)=_
    rw[if_pos rfl]
    rfl
   ·have:=Option.some.inj (show some (sv1 s 4 (JO v.es)).1=some p from hp)
    subst this
    show 0<4294967296;omega
   ·rw[YJ,YJ,hk]
    exact List.Perm.refl _
 |n+1,lo,hi,v,s,i,few=>by
  cases hk:v.kn with
  |some p=>
   rw[JcY hk]
   have hf:=(i.shf.1 p hk).1
   have hw:=i.win _ _ hf
   have hgg:p.g<=s.gen:=hw.2.2
   have:=i.gen
   exact⟨JfK (n+1) v lo hi i.ok,⟨p,hk,by omega,by omega,i.ps.1 p hk⟩,Jh2 (n+1) v p hk i.shf,Jh1 (n+1) v i.shf,JlV (n+1) v i.ps,[],JcQ.refl s,by rw[List.append_nil,Jg7],by unfold Yb;rw[hk];rfl⟩
  |none=>
   rw[Z6 hk]
   have hd:Yb (n+1) v=1+Yf (Yb n) v.ch:=by unfold Yb;rw[hk];rfl
   have hg:=i.gen
   rw[hd] at hg
   obtain⟨a1,a2,new,m1,m2,m3⟩:=Jhx (fun lo hi v s=>JcZ n lo hi v s) v.ch s (fun x hx=>by
    obtain⟨j,hj,e⟩:=List.getElem_of_mem hx
    obtain⟨lo',hi',h1,-⟩:=JbA i.ok j hj
    rw[e] at h1
    exact⟨⟨lo',hi',h1⟩,i.shf.2 x hx,i.ps.2 x hx,few.2.2 x hx,(i.ok.2.2.2.1 x hx).1⟩) i.win (by omega)
   generalize svK (sv n) v.ch s=R at*
   obtain⟨l',s'⟩:=R
   simp only at a1 a2 m1 m2⊢
   have hg1:=m1.gen
   have hw':=m1.win i.win
   obtain⟨f1,f2,f3⟩:=Jdm hw'
   have hone:=JcQ.one hw' 5 (Yl (l'.map Prod.fst) v.us)
   have hlk:Jbl (n+1) v {v with mem:=false,ld:=false,kn:=some (sv1 s' 5 (Yl (l'.map Prod.fst) v.us)).1,ch:=l'}:=⟨rfl,rfl,a1⟩
   have hok:=Jam (n+1) _ _ lo hi hlk i.ok
   have hkids:=JdM hok
   have hnode:YR (l'.map Prod.fst) v.us:=by
    refine⟨⟨⟨hkids.pos,by rw[List.length_map,a1.len];exact few.1⟩,fun c hc=> ?_,fun c hc=> ?_,Jkq hkids⟩,few.2.1,fun u hu=>Jpk (i.ok.2.2.1 u hu).1,i.ok.usr⟩
    ·obtain⟨y,hy,rfl⟩:=List.mem_map.1 hc
     obtain⟨x,-,-,h2,-⟩:=a1.mem y hy
     exact h2
    ·rw[List.getElem?_map] at hc
     cases h0:l'[0]? with
     |none=>rw[h0] at hc;simp at hc
     |some y=>
      rw[h0] at hc
      simp only[Option.map_some,Option.some.injEq] at hc
      rw[<-hc]
      exact hok.2.2.2.2.1 y h0
   refine⟨hlk,⟨_,rfl,⟨Int.natCast_nonneg _,?_⟩,?_,?_⟩,⟨⟨rfl,rfl,rfl⟩,fun y hy=>(a2 y hy).1⟩,⟨fun p hp=> ?_,fun y hy=>Jc4 hone.ext n y.2 (a2 y hy).2.1⟩,⟨fun p hp=> ?_,fun y hy=>(a2 y hy).2.2.2⟩,new++[(fre s':Int)],m1.trans hone,?_,by rw[List.length_append,m3,hd];simp;omega⟩
   ·show(fre s':Int)<1000000;omega
   ·show s'.gen+1<1000001;omega
   ·show 0<4294967296;omega
   ·have:=Option.some.inj (show some (sv1 s' 5 (Yl (l'.map Prod.fst) v.us)).1=some p from hp)
    subst this
    refine⟨?_,hnode,fun y hy=>(a2 y hy).2.2.1⟩
    show(if((fre s':Nat):Int)=(fre s':Int) then _ else _)=_
    rw[if_pos rfl]
    rfl
   ·have:=Option.some.inj (show some (sv1 s' 5 (Yl (l'.map Prod.fst) v.us)).1=some p from hp)
    subst this
    show 0<4294967296;omega
   ·rw[JG,JG,hk]
    show([(fre s':Int)]++YG n l').Perm ([]++YG n v.ch++(new++[(fre s':Int)]))
    rw[List.nil_append,<-List.append_assoc]
    exact(List.perm_append_comm).trans (List.Perm.append_right _ m2)
open Go.RowKit
attribute [local go_sem ↓] Go.wp_at_zero Go.wp_at_succ
abbrev svV (sb:Nat):Value:=.func (.func 20) #[.pointer (some ⟨sb,0,none⟩)] #[]
abbrev Jif (w:World) (sb mb:Nat) (s:Sf) (wr:Nat):Prop:=Js w sb mb s.nn s.sz s.f s.gen wr
def S4 (sb mb db:Nat) (x:Nat):Prop:=x=sb\/x=mb\/x=db
structure XW (w:World) (vb db sb mb:Nat) (s:Sf) (wr:Nat):Prop where
 sv:JaJ w vb (svV sb) db
 dn:YU w db
 sh:Jif w sb mb s wr
 ne:db≠mb
theorem XW.on {w w':World} {vb db sb mb:Nat} {s:Sf} {wr:Nat} (h:XW w vb db sb mb s wr) (hb:Below w.heap.size w w'):XW w' vb db sb mb s wr:=⟨h.sv.on hb,h.dn.on hb,h.sh.on hb,h.ne⟩
theorem XW.row {w:World} {vb db sb mb:Nat} {s:Sf} {wr:Nat} (h:XW w vb db sb mb s wr) {E:TypeId} {x:Nat} {cur:List Value} (hr:Jc w E x cur) (hE:E≠27):¬S4 sb mb db x:=fun q=>by
 rcases q with q|q|q
 ·rw[q] at hr
  exact hE (hr.one h.sh.row).1
 ·rw[q] at hr
  exact h.sh.noMap hr
 ·rw[q] at hr
  exact h.dn.noRow hr
theorem XW.soft {w:World} {vb db sb mb:Nat} {s:Sf} {wr:Nat} (h:XW w vb db sb mb s wr):∀x,S4 sb mb db x->Z3 w x:=fun x q=>by
 rcases q with q|q|q
 ·rw[q];exact Z3.of h.sh.row (fun s=>by simp) (by decide)
 ·rw[q]
  obtain⟨D,⟨es,clock,hb,_⟩,_⟩:=h.sh.map
  refine⟨fun o q e=> ?_,fun cur hr=>h.sh.noMap hr⟩
  unfold World.cell? at e
  rw[hb] at e
  simp at e
 ·rw[q];exact⟨h.dn.soft.1,h.dn.soft.2⟩
theorem Mem.sv4 {w w':World} {vb db sb mb:Nat} {s:Sf} {wr n:Nat} {v:Vt} (hm:Mem w n v) (h:XW w vb db sb mb s wr) (hk:Jg (S4 sb mb db) w w'):Mem w' n v:=hm.keep hk h.soft fun b hb q=>by
 obtain⟨cur,hc⟩:=hm.cells b hb
 exact h.row hc (by decide) q
theorem Jd5 {vb db b sb mb:Nat} {s1:Sf} {wr:Nat} {pa:Int} {pg ps:Nat} {ld:Bool} {a a2 a3 a4:Option Addr} {n c n2 c2 n3 c3 n4 c4:Nat} (kd:Nat) (txt:List UInt8) (w:World) (hv:Jq w b false pa pg ps ld (.slice a n c) (.slice a2 n2 c2) (.slice a3 n3 c3) (.slice a4 n4 c4)) (hsv:JaJ w vb (svV sb) db) (hs1:Win s1) (hsg:s1.gen<90000) (hsn:s1.nn<90000)
  (ht:(n4=0/\kd=4/\∀w1,Below w.heap.size w w1->Calls Tryz.prog 79 #[.agg #[.slice a n c]] w1 fun e w2=>e=.returned (.tuple #[.string (S txt),.int .i64 0])/\XW w2 vb db sb mb s1 wr/\JaM w2 b/\Jg (S4 sb mb db) w1 w2)\/
   (0<n4/\kd=5/\∀w1,Below w.heap.size w w1->Calls Tryz.prog 80 #[.pointer (some ⟨vb,0,none⟩),.pointer (some ⟨b,0,none⟩)] w1 fun e w2=>e=.returned (.tuple #[.string (S txt),.int .i64 0])/\XW w2 vb db sb mb s1 wr/\JaM w2 b/\Jg (S4 sb mb db) w1 w2)) (hz:sb<w.heap.size/\mb<w.heap.size/\db<w.heap.size):
  Calls Tryz.prog 44 #[.pointer (some ⟨vb,0,none⟩),.pointer (some ⟨b,0,none⟩)] w fun e w'=>e=.returned (.tuple #[.agg #[.int .i64 (fre s1),.int .u64 (s1.gen+1:Nat),.int .u32 0],.int .i64 0])/\XW w' vb db sb mb (sv1 s1 kd txt).2 wr/\Jg (S4 sb mb db) w w':=by
 obtain⟨f1,f2,f3⟩:=Jdm hs1
 have HSV:=Lib.hid (fun w' (h:Jif w' sb mb s1 wr)=>JiD kd txt (fre s1) w' h (by omega) f1 (fun j hj=>by cases e:s1.f (j:Int) with|none=>exact absurd e (f2 j hj)|some x=>rfl) (by omega) (by omega))
 have hV:=Lib.hid hv
 have hR:=Lib.hid hsv
 have HT:=Lib.hid ht
 have hb0:=Below.refl w.heap.size w
 obtain⟨g1,hg1⟩:∃g1,g1=s1.gen:=⟨_,rfl⟩
 obtain⟨at',hat⟩:∃at',at'=fre s1:=⟨_,rfl⟩
 rw[<-hg1,<-hat] at HSV⊢
 have HG1:=Lib.hid (And.intro hg1 hat)
 have hz1:=hz.1
 have hz2:=hz.2.1
 have hz3:=hz.2.2
 have hgb:g1<90000:=by omega
 clear hv hsv ht f1 f2 f3 hs1 hg1 hat hsg hz
 go_enter Tryz.func44,Tryz.ntmps44
 go_upto_region 1 with(fail)
 obtain⟨W,hW⟩:∃W,W=w.alloc (.cells #[.int .i64 0,.int .u64 0,.int .u32 0] 54):=⟨_,rfl⟩
 have hG:=Lib.hid (show Y6 W 54 w.heap.size [.int .i64 0,.int .u64 0,.int .u32 0] from⟨by rw[hW];exact Jc.new w _ _⟩)
 have hX_W:Below w.heap.size w W:=by rw[hW];exact(Below.refl _ w).alloc (Nat.le_refl _) _
 rw[<-hW]
 clear hW
 replace hV:=Lib.hid (hV.out.kept hX_W (Nat.le_refl _))
 have HXW:=Lib.hid hX_W
 have c0:=hV.out.c0
 have c5:=hV.out.c5
 have c8:=hV.out.c8
 clear hX_W hb0
 go_upto_if 23 with(fail)
 go_cut [6,7,8] from 18 to 37 (fun s6 s7 s8 wx=>s6=.int .u8 kd/\s7=.string (S txt)/\s8=.int .i64 0/\Hid (XW wx vb db sb mb s1 wr/\JaM wx b/\Jg (S4 sb mb db) W wx))
 case first=>
  rcases HT.out with⟨h0,hk,hcall⟩|⟨h0,hk,hcall⟩
  ·subst h0
   subst hk
   have HC:=Lib.hid (hcall W HXW.out)
   clear hcall
   go_wp2_with fail
   refine HC.out.mono ?_
   rintro e w2 ⟨rfl,h1⟩
   have H1:=Lib.hid h1
   clear h1
   go_wp2_with fail
   go_meet
   exact⟨rfl,rfl,rfl,H1⟩
  ·subst hk
   have hn4:((n4:Int)==0)=false:=by simp;omega
   have HC:=Lib.hid (hcall W HXW.out)
   clear hcall
   go_wp2_with fail
   refine HC.out.mono ?_
   rintro e w2 ⟨rfl,h1⟩
   have H1:=Lib.hid h1
   clear h1
   go_wp2_with fail
   go_meet
   exact⟨rfl,rfl,rfl,H1⟩
 case rest=>
 obtain⟨rfl,rfl,rfl,H1⟩:=hcut
 obtain⟨w1,hw1⟩:∃w1,w1=wc:=⟨_,rfl⟩
 subst hw1
 have hgs:¬S4 sb mb db w.heap.size:=fun q=>by
  unfold S4 at q
  omega
 have hG1:=Lib.hid (hG.out.keep H1.out.2.2 hgs)
 have hKw:=(Jg.of_below (S:=S4 sb mb db) HXW.out).trans' H1.out.2.2
 have q0:=H1.out.1.sv.c0
 clear c0 c5 c8 hV hG HT
 go_wp2_with fail
 refine(HSV.out w1 H1.out.1.sh).mono ?_
 rintro e w2 ⟨rfl,hsh2,hK2⟩
 have hK2':Jg (S4 sb mb db) w1 w2:=hK2.mono fun x q=>q.elim Or.inl fun q=>Or.inr (Or.inl q)
 have hG2:=Lib.hid (hG1.out.keep hK2' hgs)
 have hns:∀ {E:TypeId} {x:Nat} {cur:List Value},Jc w1 E x cur->E≠27->¬S4 sb mb db x:=fun hr he=>H1.out.1.row hr he
 obtain⟨cur,hcur⟩:=H1.out.2.1
 have HVX2:=Lib.hid (show JaM w2 b from⟨cur,hK2'.row hcur (hns hcur (by decide))⟩)
 have hR2:=Lib.hid (show JaJ w2 vb _ db from⟨hK2'.row H1.out.1.sv.row (hns H1.out.1.sv.row (by decide))⟩)
 have HS2:=Lib.hid hsh2
 have HD2:=Lib.hid (H1.out.1.dn.keep hK2 (fun q=>q.elim (fun e=>by
  have:=H1.out.1.sh.row
  rw[<-e] at this
  exact H1.out.1.dn.noRow this) H1.out.1.ne) fun x ⟨cu,hx⟩ q=>hns hx (by decide) (q.elim Or.inl fun q=>Or.inr (Or.inl q)))
 have hK:=hKw.trans' hK2'
 have HNE:=Lib.hid H1.out.1.ne
 have hdsb:db≠sb:=fun e=>by
  have:=H1.out.1.sh.row
  rw[<-e] at this
  exact H1.out.1.dn.noRow this
 clear hsh2 hK2 hK2' hcur hns q0 hKw H1 hG1
 go_upto_region 11 with(fail)
 obtain⟨W3,hW3⟩:∃W3,W3=w2.alloc (.cells #[.int .i64 (at':Int),.int .u64 ((g1:Int)+1),.int .u32 0] 54):=⟨_,rfl⟩
 have hX3:Below w2.heap.size w2 W3:=by rw[hW3];exact(Below.refl _ w2).alloc (Nat.le_refl _) _
 have hP:=Lib.hid (show Y6 W3 54 w2.heap.size [.int .i64 (at':Int),.int .u64 ((g1:Int)+1),.int .u32 0] from⟨by rw[hW3];exact Jc.new w2 _ _⟩)
 rw[<-hW3]
 clear hW3
 have hX3d:Below w2.heap.size w2 W3.drew:=Jb hX3
 have hG3:=Lib.hid (hG2.out.on hX3d)
 have HS3:=Lib.hid (HS2.out.on hX3d)
 have hR3:=Lib.hid (hR2.out.on hX3)
 have hR3d:=Lib.hid (hR2.out.on hX3d)
 have HD3:=Lib.hid (HD2.out.on hX3d)
 have hP3:=Lib.hid (show Jc W3.drew 54 w2.heap.size _ from hP.out.row.drew)
 have hVX3:JaM W3.drew b:=by
  obtain⟨cu,hx⟩:=HVX2.out
  exact⟨cu,hx.on hX3d⟩
 have hK3:=hK.on hX3d
 have hww:w.heap.size<=w2.heap.size:=hK.size
 obtain⟨wz,hrun,hdz,hgz⟩:=HD3.out.put hVX3 (.agg #[.int .i64 (at':Int),.int .u64 ((g1:Int)+1),.int .u32 0])
 have q1:=hR3.out.c1
 have p0:W3.cell? ⟨w2.heap.size,0,none⟩=some (.int .i64 (at':Int)):=hP.out.cell 0
 have p1:W3.cell? ⟨w2.heap.size,1,none⟩=some (.int .u64 ((g1:Int)+1)):=hP.out.cell 1
 have p2:W3.cell? ⟨w2.heap.size,2,none⟩=some (.int .u32 0):=hP.out.cell 2
 clear hG2 HS2 hR2 HD2 hX3 hX3d hK
 go_region
 all_goals
  have hnr:∀ {E:TypeId} {x:Nat} {cu:List Value},Jc W3.drew E x cu->some x≠some db:=fun hr e=>HD3.out.noRow ((Option.some.inj e)▸hr)
  have hGz:=Lib.hid (show Jc wz 54 w.heap.size _ from hG3.out.row.kept hgz (hnr hG3.out.row))
  have hPz:=Lib.hid (show Jc wz 54 w2.heap.size _ from hP3.out.kept hgz (hnr hP3.out))
  have hSz:=Lib.hid (show Js wz sb mb _ _ _ _ wr from⟨HS3.out.row.kept hgz (hnr HS3.out.row),HS3.out.map.kept' hgz (fun e=>HNE.out (Option.some.inj e).symm)⟩)
  have hRz:=Lib.hid (show JaJ wz vb (svV sb) db from⟨hR3d.out.row.kept hgz (hnr hR3d.out.row)⟩)
  have hDz:=Lib.hid hdz
  have hKz:=hK3.grown hgz (fun k e=>Or.inl (Or.inr (Or.inr (Option.some.inj e).symm)))
  have k0:wz.cell? ⟨w2.heap.size,0,none⟩=some (.int .i64 (at':Int)):=hPz.out.cell 0
  have k1:wz.cell? ⟨w2.heap.size,1,none⟩=some (.int .u64 ((g1:Int)+1)):=hPz.out.cell 1
  have k2:wz.cell? ⟨w2.heap.size,2,none⟩=some (.int .u32 0):=hPz.out.cell 2
  have kf0:=hGz.out.frozen 0
  have kf1:=hGz.out.frozen 1
  have kf2:=hGz.out.frozen 2
  have g0:wz.cell? ⟨w.heap.size,0,none⟩=some (.int .i64 0):=hGz.out.cell 0
  have g1':wz.cell? ⟨w.heap.size,1,none⟩=some (.int .u64 0):=hGz.out.cell 1
  have g2:wz.cell? ⟨w.heap.size,2,none⟩=some (.int .u32 0):=hGz.out.cell 2
  clear hgz q1 p0 p1 p2 hG3 hP hP3 HS3 hR3 hR3d hK3 hdz hnr hVX3 HD3
  go_wp2_with fail
  obtain⟨ZZ,hZZ⟩:∃ZZ,ZZ=((wz.setCell ⟨w.heap.size,0,none⟩ (.int .i64 (at':Int))).setCell ⟨w.heap.size,1,none⟩ (.int .u64 ((g1:Int)+1))).setCell ⟨w.heap.size,2,none⟩ (.int .u32 0):=⟨_,rfl⟩
  have hrow:Jc ZZ 54 w.heap.size [.int .i64 (at':Int),.int .u64 ((g1:Int)+1),.int .u32 0]:=by rw[hZZ];exact((hGz.out.put 0 _).put 1 _).put 2 _
  have t0:ZZ.cell? ⟨w.heap.size,0,none⟩=some (.int .i64 (at':Int)):=hrow.cell 0
  have t1:ZZ.cell? ⟨w.heap.size,1,none⟩=some (.int .u64 ((g1:Int)+1)):=hrow.cell 1
  have t2:ZZ.cell? ⟨w.heap.size,2,none⟩=some (.int .u32 0):=hrow.cell 2
  have hgl:wz.grownBy ZZ (some w.heap.size):=by
   rw[hZZ]
   exact⟨rfl,rfl,rfl,by simp only[World.size_setCell];exact Nat.le_refl _,fun k _ hk=>by
    have hkw:k≠w.heap.size:=fun e=>hk (by rw[e])
    rw[Go.heap_setCell_other _ _ _ _ hkw,Go.heap_setCell_other _ _ _ _ hkw,Go.heap_setCell_other _ _ _ _ hkw]⟩
  have hKl:Jg (fun x=>x=w.heap.size) wz ZZ:=(Jg.refl (fun x=>x=w.heap.size) wz).grown hgl fun k e=>Or.inl (Option.some.inj e).symm
  have hdl:YU ZZ db:=hDz.out.keep hKl (by show¬db=w.heap.size;omega) fun x ⟨cu,hx⟩ e=>by
   have e':x=w.heap.size:=e
   rw[e'] at hx
   exact absurd (hx.one hGz.out).1 (by decide)
  have hsz:Js ZZ sb mb _ _ _ _ wr:=⟨hSz.out.row.kept hgl (fun e=>by have:=Option.some.inj e;omega),hSz.out.map.kept' hgl (fun e=>by have:=Option.some.inj e;omega)⟩
  have hrl:JaJ ZZ vb (svV sb) db:=⟨hRz.out.row.kept hgl (fun e=>by
   have e':vb=w.heap.size:=Option.some.inj e
   have h1:=hRz.out.row
   rw[e'] at h1
   exact absurd (h1.one hGz.out).1 (by decide))⟩
  have hKf:Jg (S4 sb mb db) w ZZ:=hKz.grown hgl (fun k e=>Or.inr (by have:=Option.some.inj e;omega))
  rw[<-hZZ]
  clear hZZ k0 k1 k2 kf0 kf1 kf2 hgl g0 g1' g2 hrow hKl
  refine bodyPost_ret (v:=.tuple #[.agg #[.int .i64 (at':Int),.int .u64 ((g1:Int)+1),.int .u32 0],.int .i64 0]) (by simp[results,Tryz.results44,go_sem,t0,t1,t2]) rfl ⟨by simp,⟨hrl,hdl,?_,HNE.out⟩,hKf⟩
  have h1:=HG1.out.1
  have h2:=HG1.out.2
  subst h1 h2
  exact hsz
open Go.RowKit
attribute [local go_sem ↓] Go.wp_at_zero Go.wp_at_succ
theorem JhL {w:World} {B:Nat} {E:TypeId} {k g n c:Nat} {xs:List Value} (h:w.ownsRow B E k (.slice (some ⟨g,0,none⟩) n c) n xs) (i:Nat) (v:Value):(w.setCell ⟨g,i,none⟩ v).ownsRow B E k (.slice (some ⟨g,0,none⟩) n c) n (xs.set i v):=by
 rcases Jv h with⟨e,-,-⟩|⟨g',cap,cur,e,h1,hr,h3,h4,h5,h6⟩
 ·cases e
 ·simp only[Value.slice.injEq,Option.some.injEq,Addr.mk.injEq] at e
  obtain⟨⟨rfl,-⟩,-,rfl⟩:=e
  exact YB h1 (hr.put i v) h3 h4 (by rw[List.length_set];exact h5) (by rw[List.take_set,h6])
theorem JkH {w:World} {B:Nat} {E:TypeId} {k g n c:Nat} {xs:List Value} (h:w.ownsRow B E k (.slice (some ⟨g,0,none⟩) n c) n xs) (i:Nat):w.frozen? ⟨g,i,none⟩=false:=by
 obtain⟨cur,hc⟩:=Jt h g rfl
 exact hc.frozen i
abbrev ptV (p:Pt):Value:=.agg #[.int .i64 p.a,.int .u64 p.g,.int .u32 p.s]
theorem JiB {vb b:Nat} {pa:Int} {pg ps:Nat} {ld:Bool} {lf cs us ks:Value} (w:World) (hv:Jq w b true pa pg ps ld lf cs us ks):
  Calls Tryz.prog 44 #[.pointer (some ⟨vb,0,none⟩),.pointer (some ⟨b,0,none⟩)] w fun e w'=>e=.returned (.tuple #[.agg #[.int .i64 pa,.int .u64 pg,.int .u32 ps],.int .i64 0])/\Below w.heap.size w w':=by
 have hV:=Lib.hid hv
 clear hv
 go_enter Tryz.func44,Tryz.ntmps44
 go_upto_region 1 with(fail)
 obtain⟨W,hW⟩:∃W,W=w.alloc (.cells #[.int .i64 0,.int .u64 0,.int .u32 0] 54):=⟨_,rfl⟩
 have hG:=Lib.hid (show Y6 W 54 w.heap.size [.int .i64 0,.int .u64 0,.int .u32 0] from⟨by rw[hW];exact Jc.new w _ _⟩)
 have hX:Below w.heap.size w W:=by rw[hW];exact(Below.refl _ w).alloc (Nat.le_refl _) _
 rw[<-hW]
 clear hW
 have hV1:=Lib.hid (hV.out.on hX)
 have HX:=Lib.hid hX
 have c0:=hV1.out.c0
 have c1:=hV1.out.c1
 have c2:=hV1.out.c2
 have c3:=hV1.out.c3
 have g0:W.cell? ⟨w.heap.size,0,none⟩=some (.int .i64 0):=hG.out.cell 0
 have g1:W.cell? ⟨w.heap.size,1,none⟩=some (.int .u64 0):=hG.out.cell 1
 have g2:W.cell? ⟨w.heap.size,2,none⟩=some (.int .u32 0):=hG.out.cell 2
 have f0:=hG.out.fz 0
 have f1:=hG.out.fz 1
 have f2:=hG.out.fz 2
 clear hX
 go_wp2_with fail
 obtain⟨ZZ,hZZ⟩:∃ZZ,ZZ=((W.setCell ⟨w.heap.size,0,none⟩ (.int .i64 pa)).setCell ⟨w.heap.size,1,none⟩ (.int .u64 pg)).setCell ⟨w.heap.size,2,none⟩ (.int .u32 ps):=⟨_,rfl⟩
 have hrow:Jc ZZ 54 w.heap.size [.int .i64 pa,.int .u64 pg,.int .u32 ps]:=by rw[hZZ];exact((hG.out.row.put 0 _).put 1 _).put 2 _
 have hB:Below w.heap.size w ZZ:=by rw[hZZ];exact((HX.out.setCell (Nat.le_refl _) _).setCell (Nat.le_refl _) _).setCell (Nat.le_refl _) _
 have t0:ZZ.cell? ⟨w.heap.size,0,none⟩=some (.int .i64 pa):=hrow.cell 0
 have t1:ZZ.cell? ⟨w.heap.size,1,none⟩=some (.int .u64 pg):=hrow.cell 1
 have t2:ZZ.cell? ⟨w.heap.size,2,none⟩=some (.int .u32 ps):=hrow.cell 2
 rw[<-hZZ]
 clear hZZ g0 g1 g2 f0 f1 f2 c0 c1 c2 c3
 exact bodyPost_ret (v:=.tuple #[.agg #[.int .i64 pa,.int .u64 pg,.int .u32 ps],.int .i64 0]) (by simp[results,Tryz.results44,go_sem,t0,t1,t2]) rfl ⟨rfl,hB⟩
structure Jf3 (w:World) (vb db sb mb:Nat) (s:Sf) (wr n:Nat) (lo hi:List UInt8) (v:Vt):Prop where
 st:XW w vb db sb mb s wr
 m:Mem w n v
 i:Jo0 n lo hi v s
 few:Few n v
 gen:s.gen+Yb n v<=80000
 nn:s.nn+Yb n v<=80000
 pot:pot n v<=1000
def Jqs (w:World) (vb db sb mb:Nat) (s:Sf) (wr n:Nat) (v:Vt) (e:Ending) (w':World):Prop:=
 ∃p,(sv n v s).1.kn=some p/\e=.returned (.tuple #[ptV p,.int .i64 0])/\XW w' vb db sb mb (sv n v s).2 wr/\Jg (S4 sb mb db) w w'
def Jo1 (n:Nat):Prop:=∀(w:World) (vb db sb mb:Nat) (s:Sf) (wr:Nat) (lo hi:List UInt8) (v:Vt),Jf3 w vb db sb mb s wr n lo hi v->
 Calls Tryz.prog 44 #[.pointer (some ⟨vb,0,none⟩),.pointer (some ⟨v.b,0,none⟩)] w fun e w'=>Jqs w vb db sb mb s wr n v e w'
theorem Mem.known {w:World} {n:Nat} {v:Vt} {p:Pt} (hm:Mem w n v) (hk:v.kn=some p):∃ld lf cs us ks,Jq w v.b true p.a p.g p.s ld lf cs us ks:=by
 have far:Jd1 w v->∃ld lf cs us ks,Jq w v.b true p.a p.g p.s ld lf cs us ks:=fun h=>by
  obtain⟨q,e,hv⟩:=h.ex
  rw[hk] at e
  obtain rfl:=Option.some.inj e
  exact⟨_,_,_,_,_,hv⟩
 cases n with
 |zero=>
  rcases hm.2 with h|h
  ·obtain⟨pa,pg,ps,a,c,hv,hp,-⟩:=h.ex
   obtain⟨rfl,rfl,rfl⟩:=hp p hk
   rw[hk] at hv
   exact⟨_,_,_,_,_,hv⟩
  ·exact far h
 |succ n=>
  rcases hm.2 with⟨h,-⟩|⟨h,-⟩
  ·obtain⟨pa,pg,ps,a1,c1,a2,c2,a3,c3,hv,hp,-⟩:=h.ex
   obtain⟨rfl,rfl,rfl⟩:=hp p hk
   rw[hk] at hv
   exact⟨_,_,_,_,_,hv⟩
  ·exact far h
theorem Jq7 {n:Nat} {v:Vt} {p:Pt} (hk:v.kn=some p) (s:Sf):(sv n v s).1.kn=some p/\(sv n v s).2=s:=by
 cases n with
 |zero=>rw[JcX hk];exact⟨hk,rfl⟩
 |succ n=>rw[JcY hk];exact⟨hk,rfl⟩
theorem JiC {w:World} {vb db sb mb:Nat} {s:Sf} {wr n:Nat} {lo hi:List UInt8} {v:Vt} {p:Pt} (h:Jf3 w vb db sb mb s wr n lo hi v) (hk:v.kn=some p):
  Calls Tryz.prog 44 #[.pointer (some ⟨vb,0,none⟩),.pointer (some ⟨v.b,0,none⟩)] w fun e w'=>Jqs w vb db sb mb s wr n v e w':=by
 obtain⟨ld,lf,cs,us,ks,hv⟩:=h.m.known hk
 obtain⟨e1,e2⟩:=Jq7 (n:=n) hk s
 refine(JiB w hv).mono ?_
 rintro e w' ⟨rfl,hb⟩
 exact⟨p,e1,rfl,by rw[e2];exact h.st.on hb,Jg.of_below hb⟩
theorem Mem.dirty {w:World} {n:Nat} {v:Vt} (hm:Mem w n v) (hk:v.kn=none):v.ld=true:=by
 have far:Jd1 w v->v.ld=true:=fun h=>by
  obtain⟨q,e,-⟩:=h.ex
  rw[hk] at e;cases e
 cases n with
 |zero=>exact hm.2.elim (fun h=>h.ld) far
 |succ n=>exact hm.2.elim (fun h=>h.1.ld) fun h=>far h.1
theorem XW.lt {w:World} {vb db sb mb:Nat} {s:Sf} {wr:Nat} (h:XW w vb db sb mb s wr):sb<w.heap.size/\mb<w.heap.size/\db<w.heap.size:=⟨h.sh.row.lt,h.sh.map.lt,h.dn.lt⟩
theorem Jpm:Jo1 0:=by
 intro w vb db sb mb s wr lo hi v h
 cases hk:v.kn with
 |some p=>exact JiC h hk
 |none=>
  obtain⟨-,pa,pg,ps,a,c,hv,-,hb⟩:=h.m.leaf (h.m.dirty hk)
  rw[hk] at hv
  have hd:Yb 0 v=1:=by unfold Yb;rw[hk];rfl
  have h1:=h.gen
  have h2:=h.nn
  have h3:=Jas h.pot
  refine(Jd5 (s1:=s) (wr:=wr) 4 (JO v.es) w hv h.st.sv h.i.win (by omega) (by omega) (Or.inl ⟨rfl,rfl,fun w1 hb1=> ?_⟩) h.st.lt).mono ?_
  ·refine(Jdg a v.es.length c v.es w1 rfl (hb.kept hb1 (Nat.le_refl _)) (by omega) h.i.ok.fine).mono ?_
   rintro e w2 ⟨rfl,hb2⟩
   exact⟨rfl,(h.st.on hb1).on hb2,⟨_,(hv.on hb1).on hb2|>.row⟩,Jg.of_below hb2⟩
  ·rintro e w' ⟨rfl,hst,hkp⟩
   exact⟨⟨fre s,s.gen+1,0⟩,by rw[JaO hk];rfl,rfl,by rw[JaO hk];exact hst,hkp⟩
theorem JeY (g:Vt->Sf->Vt×Sf) (x:Chd×Vt):∀(l:List (Chd×Vt)) (s:Sf),svK g (l++[x]) s=((svK g l s).1++[(Jga x.1 (g x.2 (svK g l s).2).1.kn,(g x.2 (svK g l s).2).1)],(g x.2 (svK g l s).2).2)
 |[],s=>rfl
 |y::l,s=>by
  rw[List.cons_append]
  unfold svK
  rw[JeY g x l]
  rfl
theorem Jey (g:Vt->Sf->Vt×Sf):∀(l:List (Chd×Vt)) (s:Sf),(svK g l s).1.length=l.length
 |[],_=>rfl
 |x::l,s=>by
  unfold svK
  rw[List.length_cons,List.length_cons,Jey g l]
def csA (n:Nat) (v:Vt) (s:Sf) (j:Nat):List Chd:=(svK (sv n) (v.ch.take j) s).1.map Prod.fst++(v.ch.drop j).map Prod.fst
theorem Jp3 (n:Nat) (v:Vt) (s:Sf):csA n v s v.ch.length=(svK (sv n) v.ch s).1.map Prod.fst:=by
 unfold csA
 rw[List.take_length,List.drop_length]
 simp
theorem Jh5 (n:Nat) (v:Vt) (s:Sf) (j:Nat):(csA n v s j).length=v.ch.length:=by
 unfold csA
 rw[List.length_append,List.length_map,List.length_map,Jey,<-List.length_append,List.take_append_drop]
theorem JoF (n:Nat) (v:Vt) (s:Sf) (j:Nat) (hj:j<v.ch.length):csA n v s (j+1)=(csA n v s j).set j (Jga v.ch[j].1 (sv n v.ch[j].2 (svK (sv n) (v.ch.take j) s).2).1.kn):=by
 unfold csA
 have hl:((svK (sv n) (v.ch.take j) s).1.map Prod.fst).length=j:=by rw[List.length_map,Jey,List.length_take];omega
 rw[List.take_succ_eq_append_getElem hj,JeY,List.map_append,List.append_assoc,List.set_append_right _ _ (by omega),hl,Nat.sub_self,List.drop_eq_getElem_cons hj]
 rfl
open Go.RowKit
attribute [local go_sem ↓] Go.wp_at_zero Go.wp_at_succ
section
variable {w w':World} {sb tb:Nat} {most:Int} {out:Value}
end
def Jch (most:Int) (outs:List Ent) (e:Ent):List Ent:=if(outs.length:Int)<most then outs++[e] else outs
def JdY (most:Int) (outs l:List Ent):List Ent:=l.foldl (Jch most) outs
theorem SlE.at {w:World} {a:Option Addr} {n c:Nat} {l:List Ent} (h:SlE w (.slice a n c) l):JC Ent.cells 2 w a l:=by
 obtain⟨ao,c',e,hs,-⟩:=h
 simp only[Value.slice.injEq] at e
 obtain⟨rfl,-,-⟩:=e
 exact hs
theorem JqO:(Tryz.prog.info? 73).map (fun i=>(i.zero,i.size,i.bytes))=some (some (.agg #[.string ByteArray.empty,.string ByteArray.empty]),2,32):=by kernel_rfl
theorem Jeq (l:List Ent) (u:Ent):cellsE (l++[u])=cellsE l++[.string (S u.key),.string (S u.val)]:=by simp[cellsE,Ent.cells]
theorem Jeo (u:Ent):∀v∈[Value.string (S u.key),.string (S u.val)],v.oneCell'=true:=by
 intro v hv
 simp only[List.mem_cons,List.not_mem_nil,or_false] at hv
 rcases hv with rfl|rfl<;>rfl
open Go.RowKit
attribute [local go_sem ↓] Go.wp_at_zero Go.wp_at_succ
theorem JiI (w:World):Calls Tryz.prog 52 #[.slice none 0 0] w fun e w'=>e=.returned (.tuple #[])/\Below w.heap.size w w':=by
 go_enter Tryz.func52,Tryz.ntmps52
 go_wp2_with fail
 go_loopw [2,3] (fun i j wr=>i=.int .i64 0/\j=.int .i64 (-1)/\Below w.heap.size w wr) (fun _ _ _=>0)
 case atStart=>exact⟨rfl,rfl,by go_grown⟩
 case round=>
  obtain⟨rfl,rfl,hB⟩:=hrel
  go_wp2_with fail
  exact bodyPost_end (v:=.tuple #[]) (by simp[results,Tryz.results52,go_sem]) rfl ⟨rfl,hB⟩
theorem JkS (v:List UInt8) (th:Bool) (w:World):Calls Tryz.prog 53 #[.string (S v),.bool th,.slice none 0 0] w fun e w'=>e=.returned (.tuple #[.string (S (if th then v else[])),.bool th])/\Below w.heap.size w w':=by
 cases th
 ·go_enter Tryz.func53,Tryz.ntmps53
  go_wp2_with fail
  go_loopw [0,1,14] (fun s0 s1 i wr=>s0=.string (S (([]:List UInt8)))/\s1=.bool false/\i=.int .i64 0/\Below w.heap.size w wr) (fun _ _ _ _=>0)
  case atStart=>exact⟨rfl,rfl,rfl,by go_grown⟩
  case round=>
   obtain⟨rfl,rfl,rfl,hB⟩:=hrel
   go_wp2_with fail
   go_returns
   exact⟨rfl,hB⟩
 ·go_enter Tryz.func53,Tryz.ntmps53
  go_wp2_with fail
  go_loopw [0,1,14] (fun s0 s1 i wr=>s0=.string (S (v))/\s1=.bool true/\i=.int .i64 0/\Below w.heap.size w wr) (fun _ _ _ _=>0)
  case atStart=>exact⟨rfl,rfl,rfl,by go_grown⟩
  case round=>
   obtain⟨rfl,rfl,rfl,hB⟩:=hrel
   go_wp2_with fail
   go_returns
   exact⟨rfl,hB⟩
def Jho (tb b:Nat) (es:List Ent) (ld:Bool) (w:World):Prop:=
 ∀w1,Below w.heap.size w w1->Calls Tryz.prog 50 #[.pointer (some ⟨tb,0,none⟩),.pointer (some ⟨b,0,none⟩),.int .i64 1] w1 fun e w2=>(∃b' kn pa pg ps a c cs us ks,e=.returned (.tuple #[.pointer (some ⟨b',0,none⟩),.bool ld,.int .i64 0])/\Jq w2 b' kn pa pg ps true (.slice a es.length c) cs us ks/\Zq w2 (.agg #[.slice a es.length c]) es)/\Below w1.heap.size w1 w2
theorem Jjw {tb:Nat} {F B L:Int} {ld:Value} {root:Nat} {gone:Value} {fl le:Int} (k:List UInt8) (es:List Ent) (lo:Bool) (w:World) (ht:Yj w tb F B L ld root 1 gone fl le) (hf:Jho tb root es lo w) (hr:Je Ent.key es) (hl:es.length<=100000):
  Calls Tryz.prog 25 #[.pointer (some ⟨tb,0,none⟩),.string (S k)] w fun e w'=>e=.returned (.tuple #[.string (S ((Jz es k).getD [])),.bool (Jz es k).isSome,.int .i64 (if lo then 1 else 0),.int .i64 0])/\Below w.heap.size w w':=by
 have c4:=ht.c4
 have c5:=ht.c5
 have HG:=Lib.hid (fun v w' h=>Jjx v es k w' h hl hr)
 generalize Jz es k=o at*
 obtain⟨vv,tt,hV,h1,h2⟩:∃(vv:List UInt8) (tt:Bool),Jcg o=.tuple #[.string (S vv),.bool tt]/\(if tt then vv else[])=o.getD []/\tt=o.isSome:=by
  cases o with
  |none=>exact⟨[],false,rfl,rfl,rfl⟩
  |some v=>exact⟨v,true,rfl,rfl,rfl⟩
 rw[hV] at HG
 rw[<-h1,<-h2]
 have HM:=Lib.hid (fun w=>JkS vv tt w)
 obtain⟨Z,hZ⟩:∃Z,Z=(if tt then vv else[]):=⟨_,rfl⟩
 rw[<-hZ] at HM⊢
 clear hZ h1 h2 hV o
 go_enter Tryz.func25,Tryz.ntmps25
 go_wp2_with fail
 go_loopw [8,9,10,11] (fun s8 s9 s10 s11 wr=>s8=.slice none 0 0/\s9=.int .i64 0/\s10=.pointer (some ⟨root,0,none⟩)/\s11=.int .i64 1/\Below w.heap.size w wr) (fun _ _ _ _ _=>0)
 case atStart=>exact⟨rfl,rfl,rfl,rfl,by go_grown⟩
 case round=>
  obtain⟨rfl,rfl,rfl,rfl,hB⟩:=hrel
  go_wp2_with fail
  refine(Jl (hf wr hB) wr.heap.size wr (Below.refl _ _) (Nat.le_refl _)).mono ?_
  rintro e w2 ⟨⟨b',kn,pa,pg,ps,a,c,cs,us,ks,rfl,hv,hb⟩,hX,-,-,-,hz⟩
  have hB2:=hB.trans (hX.mono hB.size)
  have v5:=hv.c5
  have HB:=Lib.hid hb
  clear hb hX
  cases lo
  all_goals
   go_wp2_with fail
   refine(Jl (HG.out _ w2 HB.out) w2.heap.size w2 (Below.refl _ _) (Nat.le_refl _)).mono ?_
   rintro e w3 ⟨rfl,hX3,-,-,-,hz3⟩
   have hB3:=hB2.trans (hX3.mono hB2.size)
   go_wp2_with fail
   refine(Jl (JiI w3) w3.heap.size w3 (Below.refl _ _) (Nat.le_refl _)).mono ?_
   rintro e w4 ⟨rfl,hX4,-,-,-,hz4⟩
   have hB4:=hB3.trans (hX4.mono hB3.size)
   go_wp2_with fail
   refine(Jl (HM.out w4) w4.heap.size w4 (Below.refl _ _) (Nat.le_refl _)).mono ?_
   rintro e w5 ⟨rfl,hX5,-,-,-,hz5⟩
   have hB5:=hB4.trans (hX5.mono hB4.size)
   go_wp2_with fail
   go_returns
   exact⟨rfl,hB5⟩
open Go.RowKit
attribute [local go_sem ↓] Go.wp_at_zero Go.wp_at_succ
theorem Jqz {w:World} {B:Nat} {E:TypeId} {a:Option Addr} {n c:Nat} {ks:List Nat} (h:w.ownsRow B E 1 (.slice a n c) n (ks.map vp)) (i:Nat) (b:Nat) (hi:ks[i]? =some b) (hin:i<n):∃g,a=some ⟨g,0,none⟩/\w.cell? ⟨g,i,none⟩=some (.pointer (some ⟨b,0,none⟩))/\n<=c:=by
 rcases Jv h with⟨e,h0,-⟩|⟨g,cap,cur,e,-,hr,h3,-,-,h6⟩
 ·omega
 ·simp only[Value.slice.injEq] at e
  obtain⟨rfl,-,rfl⟩:=e
  refine⟨g,rfl,?_,h3⟩
  rw[hr.cell]
  have:(cur.take (n*1))[i]? =some (vp b):=by rw[h6,List.getElem?_map,hi];rfl
  rwa[Nat.mul_one,List.getElem?_take,if_pos hin] at this
theorem JqN:(Tryz.prog.info? 39).map (fun i=>(i.zero,i.size,i.bytes))=some (some (.agg #[.int .u8 0,.string ByteArray.empty,.string ByteArray.empty,.int .u64 0]),4,48):=by kernel_rfl
theorem Jik (u:Upd):∀v∈[Value.int .u8 u.kind,.string (S u.key),.string (S u.val),.int .u64 u.delta],v.oneCell'=true:=by
 intro v hv
 simp only[List.mem_cons,List.not_mem_nil,or_false] at hv
 rcases hv with rfl|rfl|rfl|rfl<;>rfl
open Go.RowKit
attribute [local go_sem ↓] Go.wp_at_zero Go.wp_at_succ
theorem SlU.at {w:World} {a:Option Addr} {n c:Nat} {l:List Upd} (h:SlU w (.slice a n c) l):JC Upd.cells 4 w a l:=by
 obtain⟨ao,c',e,hs,-⟩:=h
 simp only[Value.slice.injEq] at e
 obtain⟨rfl,-,-⟩:=e
 exact hs
open Go.RowKit
attribute [local go_sem ↓] Go.wp_at_zero Go.wp_at_succ
structure XP (w:World) (v:Value) (l:List Ent):Prop where
 own:w.ownsRow 0 73 2 v l.length (cellsE l)
 str:∀g,v.ownBlock=some g->∀cur,Jc w 73 g cur->∀u∈cur,∃s,u=.string s
theorem XP.nil (w:World):XP w (.slice none 0 0) []:=⟨World.ownsRow_nil _ _ _ _,fun g e=>by simp[Value.ownBlock] at e⟩
theorem XP.keep {w w':World} {v:Value} {l:List Ent} {M:Nat->Prop} (h:XP w v l) (hk:Jg M w w') (hM:∀x,v.ownBlock=some x->¬M x):XP w' v l:=
 ⟨YK h.own hk fun g e=>hM g e,fun g e cur hc=>by
  refine h.str g e cur ?_
  have:=(h.own.lt g e).2
  have h2:=hk.block g this (hM g e)
  exact h2.symm.trans hc⟩
theorem XP.on {w w':World} {v:Value} {l:List Ent} (h:XP w v l) (hb:Below w.heap.size w w'):XP w' v l:=h.keep (Jg.of_below (S:=fun _=>False) hb) fun _ _ q=>q
theorem Jgp (k:Nat):∀u∈(Builtin.zeroCells #[Value.string ByteArray.empty,Value.string ByteArray.empty] k).toList,∃s,u=.string s:=by
 intro u hu
 unfold Builtin.zeroCells at hu
 rw[Array.mem_toList_iff,Array.mem_map] at hu
 obtain⟨i,-,e⟩:=hu
 rw[<-e]
 have h2:(#[Value.string ByteArray.empty,Value.string ByteArray.empty]:Array Value).size=2:=rfl
 rw[h2]
 rcases Nat.mod_two_eq_zero_or_one i with h|h<;>rw[h]<;>exact⟨_,rfl⟩
theorem JfW:∀l:List Ent,(cellsE l).length=l.length*2
 |[]=>rfl
 |e::l=>by
  have ih:=JfW l
  unfold cellsE at ih⊢
  rw[List.flatMap_cons,List.length_append,ih,List.length_cons]
  show 2+_=_
  omega
theorem Jgc {w:World} {ov:Value} {l:List Ent} (h:XP w ov l) (x:Ent) (a:Addr) (c:Nat) (hx:∀j u,[Value.string (S x.key),.string (S x.val)][j]? =some u->w.cell? (a.add j)=some u) (hl:l.length<=1000000) (ty:TypeId):
  ∃v' w',(Builtin.append_ #[43,43] ty #[ov,.slice (some a) 1 c]).run Tryz.prog w=.ok v' w'/\XP w' v' (l++[x])/\w.grownBy w' ov.ownBlock/\(v'.ownBlock=ov.ownBlock\/v'.ownBlock=some w.heap.size):=by
 obtain⟨i0,hi,iz0,iz1,iz2⟩:=info_parts JqO
 have h1:=Jeo x
 obtain⟨v',w',hr,h2,h3,-,h5⟩:=run_append_own_at (P:=Tryz.prog) w 0 43 ty 73 i0 (.agg #[.string ByteArray.empty,.string ByteArray.empty]) 2 32 Tryz.underlying43 hi iz0 iz1 iz2 rfl (by decide) ov l.length (cellsE l) h.own a 1 c [.string (S x.key),.string (S x.val)] rfl hx h1 (by unfold maxLen;omega) (by omega) (Nat.zero_le _)
 rw[<-Jeq] at h2
 refine⟨v',w',hr,⟨by rw[List.length_append];exact h2,?_⟩,h3,h5⟩
 have hnew:∀u∈[Value.string (S x.key),.string (S x.val)],∃s,u=.string s:=fun u hu=>by
  simp only[List.mem_cons,List.not_mem_nil,or_false] at hu
  rcases hu with rfl|rfl<;>exact⟨_,rfl⟩
 have hgn:∀u∈cellsE l,∃s,u=.string s:=fun u hu=>by
  unfold cellsE at hu
  obtain⟨y,-,hu⟩:=List.mem_flatMap.1 hu
  simp only[Ent.cells,List.mem_cons,List.not_mem_nil,or_false] at hu
  rcases hu with rfl|rfl<;>exact⟨_,rfl⟩
 rcases h.own.2 with⟨e1,e2⟩|⟨g,cap,cur,e1,hbg,hg,hnc,hcm,hcs,htake⟩
 ·rw[e1] at hr
  have hr2:=run_append_nil (P:=Tryz.prog) w 43 ty 73 i0 (.agg #[.string ByteArray.empty,.string ByteArray.empty]) Tryz.underlying43 hi iz0 a 1 c [.string (S x.key),.string (S x.val)] (by rw[iz1];rfl) hx (by omega) (by omega) (by rw[iz2];omega)
  rw[hr] at hr2
  injection hr2 with ev ew
  subst ev ew
  intro g hg cur hc u hu
  simp only[Value.ownBlock,Option.some.injEq] at hg
  subst hg
  rw[hc.cur (heap_alloc_new w.drew _)] at hu
  rw[Array.toList_append,List.mem_append] at hu
  rcases hu with hu|hu
  ·exact hnew u (by simpa using hu)
  ·exact Jgp _ u hu
 ·rw[e1] at hr
  by_cases hroom:l.length+1<=cap
  ·have hr2:=run_append_room (P:=Tryz.prog) w 43 ty 73 i0 Tryz.underlying43 hi g l.length cap cur hg a 1 c [.string (S x.key),.string (S x.val)] (by rw[iz1];rfl) hx h1 hroom (by rw[iz1,hcs];simp;omega)
   rw[hr] at hr2
   injection hr2 with ev ew
   subst ev ew
   intro g' hg' cur' hc u hu
   simp only[Value.ownBlock,Option.some.injEq] at hg'
   subst hg'
   rw[hc.cur (setRow_heap w g cur _ _ _ hg)] at hu
   have hold:=h.str g (by rw[e1];rfl) cur.toList (by unfold Jc;rw[Array.toArray_toList];exact hg)
   rw[List.mem_append,List.mem_append] at hu
   rcases hu with(hu|hu)|hu
   ·exact hold u (List.mem_of_mem_take hu)
   ·exact hnew u hu
   ·exact hold u (List.mem_of_mem_drop hu)
  ·have holds:∀j u,(cellsE l)[j]? =some u->w.cell? ((⟨g,0,none⟩:Addr).add j)=some u:=h.own.cells (g:=g) (by rw[e1];rfl)
   have hr2:=run_append_grow (P:=Tryz.prog) w 43 ty 73 i0 (.agg #[.string ByteArray.empty,.string ByteArray.empty]) Tryz.underlying43 hi iz0 ⟨g,0,none⟩ l.length cap (cellsE l) (by rw[iz1];exact JfW l) holds a 1 c [.string (S x.key),.string (S x.val)] (by rw[iz1];rfl) hx (by omega) (by omega) (growslice_fits (by omega) (by rw[iz2];omega))
   rw[hr] at hr2
   injection hr2 with ev ew
   subst ev ew
   intro g' hg' cur' hc u hu
   simp only[Value.ownBlock,Option.some.injEq] at hg'
   subst hg'
   rw[hc.cur (heap_alloc_new w.drew _)] at hu
   rw[Array.toList_append,List.mem_append,Array.toList_append,List.mem_append] at hu
   rcases hu with(hu|hu)|hu
   ·exact hgn u (by simpa using hu)
   ·exact hnew u (by simpa using hu)
   ·exact Jgp _ u hu
theorem Je0 {ops:Array Oper} {o:Oper} {a:Act} {w:World} {K:Act->World->Prop} {Q:Exit->Act->World->Prop} {E0:Prop} (hgd:∀g,o.guard=some g->Region.wanted o (yielded ops a.tmps)=true) (s x:Operand)
  (ho:o.op=Op.call {callee:=Callee.builtin Builtin.append,args:= #[s,x],argTypes:= #[43,43]})
  (ov:Value) (l:List Ent) (hs:a.eval s=ov) (h:XP w ov l) (y:Ent) (ad:Addr) (c:Nat) (hx:a.eval x=.slice (some ad) 1 c) (hnews:∀j u,[Value.string (S y.key),.string (S y.val)][j]? =some u->w.cell? (ad.add j)=some u) (hl:l.length<=1000000)
  (hk:∀v' w',XP w' v' (l++[y])->w.grownBy w' ov.ownBlock->(v'.ownBlock=ov.ownBlock\/v'.ownBlock=some w.heap.size)->K (a.put o.dst v') w'):
  if Region.wanted o (yielded ops a.tmps)=true then Oper.wp Tryz.prog o a w K Q else E0:=by
 have hw:Region.wanted o (yielded ops a.tmps)=true:=by
  cases hg:o.guard with
  |none=>simp[Region.wanted,hg]
  |some g=>exact hgd g hg
 rw[if_pos hw]
 obtain⟨v',w',hr,h2,h3,h5⟩:=Jgc h y ad c hnews hl o.type
 unfold Oper.wp
 simp only[execOp,ho,resolve,invoke,builtin,Sem.run_bind,Sem.run_pure,Result.andThen_ok,List.map_toArray,List.map_cons,List.map_nil,hs,hx,hr]
 exact hk v' w' h2 h3 h5
abbrev JlE (tb:Nat) (slo shi:List UInt8) (most:Int) (out:Value):List Value:=[.pointer (some ⟨tb,0,none⟩),.string (S slo),.string (S shi),.int .i64 most,out]
structure ScR (w:World) (sb tb:Nat) (slo shi:List UInt8) (most:Int) (outs:List Ent) (oa:Option Addr) (oc:Nat):Prop where
 row:Jc w 115 sb (JlE tb slo shi most (.slice oa outs.length oc))
 own:XP w (.slice oa outs.length oc) outs
section
variable {w w':World} {sb tb:Nat} {slo shi:List UInt8} {most:Int} {outs:List Ent} {oa:Option Addr} {oc:Nat}
theorem ScR.on (h:ScR w sb tb slo shi most outs oa oc) (hb:Below w.heap.size w w'):ScR w' sb tb slo shi most outs oa oc:=⟨h.row.on hb,h.own.on hb⟩
theorem ScR.kept {B:Nat} (h:ScR w sb tb slo shi most outs oa oc) (hb:Below B w w') (hB:w.heap.size<=B):ScR w' sb tb slo shi most outs oa oc:=h.on (hb.mono hB)
theorem ScR.lt (h:ScR w sb tb slo shi most outs oa oc):sb<w.heap.size:=h.row.lt
theorem ScR.c0 (h:ScR w sb tb slo shi most outs oa oc):w.cell? ⟨sb,0,none⟩=some (.pointer (some ⟨tb,0,none⟩)):=h.row.cell 0
theorem ScR.c1 (h:ScR w sb tb slo shi most outs oa oc):w.cell? ⟨sb,1,none⟩=some (.string (S slo)):=h.row.cell 1
theorem ScR.c2 (h:ScR w sb tb slo shi most outs oa oc):w.cell? ⟨sb,2,none⟩=some (.string (S shi)):=h.row.cell 2
theorem ScR.c3 (h:ScR w sb tb slo shi most outs oa oc):w.cell? ⟨sb,3,none⟩=some (.int .i64 most):=h.row.cell 3
theorem ScR.c4 (h:ScR w sb tb slo shi most outs oa oc):w.cell? ⟨sb,4,none⟩=some (.slice oa outs.length oc):=h.row.cell 4
theorem ScR.fz (h:ScR w sb tb slo shi most outs oa oc) (o:Nat):w.frozen? ⟨sb,o,none⟩=false:=h.row.frozen o
theorem ScR.ne (h:ScR w sb tb slo shi most outs oa oc):some sb≠(Value.slice oa outs.length oc).ownBlock:=fun e=>by
 obtain⟨cur,hc⟩:=Jt h.own.own sb e.symm
 exact absurd (hc.one h.row).1 (by decide)
theorem ScR.keep {M:Nat->Prop} (h:ScR w sb tb slo shi most outs oa oc) (hk:Jg M w w') (h1:¬M sb) (h2:∀x,(Value.slice oa outs.length oc).ownBlock=some x->¬M x):ScR w' sb tb slo shi most outs oa oc:=⟨hk.row h.row h1,h.own.keep hk h2⟩
theorem ScR.more {outs':List Ent} {oa':Option Addr} {oc':Nat} {wz:World} (h:ScR w sb tb slo shi most outs oa oc) (hg:w.grownBy wz (Value.slice oa outs.length oc).ownBlock) (hr:XP wz (.slice oa' outs'.length oc') outs'):
  ScR (wz.setCell ⟨sb,4,none⟩ (.slice oa' outs'.length oc')) sb tb slo shi most outs' oa' oc':=by
 have hrow:=h.row.kept hg h.ne
 refine⟨hrow.put 4 _,hr.keep ((Jg.refl (fun x=>x=sb) wz).setCell ⟨sb,4,none⟩ (Or.inl rfl) _) fun x e q=> ?_⟩
 have q':x=sb:=q
 rw[q'] at e
 obtain⟨cur,hc⟩:=Jt hr.own sb e
 exact absurd (hc.one hrow).1 (by decide)
end
def Jfr (low high slo shi:List UInt8):Bool:=(shi.isEmpty||bl low shi)&&(high.isEmpty||bl slo high)
theorem Jqr (a b:List UInt8):(!Op.bytesLess a b&& !(a==b))=bl b a:=by
 rcases Jid a b with rfl|h|h
 ·rw[YN];simp
 ·rw[XG h,show Op.bytesLess a b=true from h];rfl
 ·have h2:Op.bytesLess a b=false:=XG h
  have h3:(a==b)=false:=by simpa using fun e=>ZY h e.symm
  rw[h,h2,h3];rfl
theorem Jlu {sb tb:Nat} {most:Int} {outs:List Ent} {oa:Option Addr} {oc:Nat} (slo shi k:List UInt8) (w:World) (h:ScR w sb tb slo shi most outs oa oc):
  Calls Tryz.prog 102 #[.pointer (some ⟨sb,0,none⟩),.string (S k)] w fun e w'=>e=.returned (.bool (Jn k slo shi))/\Below w.heap.size w w':=by
 have c1:=h.c1
 have c2:=h.c2
 unfold Jn
 cases h1:Op.bytesLess k slo<;>cases shi with
 |nil=>
  go_enter Tryz.func102,Tryz.ntmps102
  go_wp2_with fail
  go_ret
  exact⟨by simp[h1],by go_grown⟩
 |cons x t=>
  go_enter Tryz.func102,Tryz.ntmps102
  go_wp2_with fail
  go_ret
  exact⟨by simp[h1],by go_grown⟩
theorem JqG {sb tb:Nat} {most:Int} {outs:List Ent} {oa:Option Addr} {oc:Nat} (slo shi k l:List UInt8) (w:World) (h:ScR w sb tb slo shi most outs oa oc):
  Calls Tryz.prog 77 #[.pointer (some ⟨sb,0,none⟩),.string (S k),.string (S l)] w fun e w'=>e=.returned (.bool (Jfr k l slo shi))/\Below w.heap.size w w':=by
 have c1:=h.c1
 have c2:=h.c2
 unfold Jfr
 cases l with
 |nil=>
  cases shi with
  |nil=>
   go_enter Tryz.func77,Tryz.ntmps77
   go_wp2_with fail
   go_ret
   exact⟨by simp,by go_grown⟩
  |cons x t=>
   cases h1:Op.bytesLess k (x::t)
   all_goals
    go_enter Tryz.func77,Tryz.ntmps77
    go_wp2_with fail
    go_ret
    exact⟨by simp[h1],by go_grown⟩
 |cons y s=>
  cases shi with
  |nil=>
   go_enter Tryz.func77,Tryz.ntmps77
   go_wp2_with fail
   go_ret
   exact⟨by simp[Jqr],by go_grown⟩
  |cons x t=>
   cases h1:Op.bytesLess k (x::t)
   all_goals
    go_enter Tryz.func77,Tryz.ntmps77
    go_wp2_with fail
    go_ret
    exact⟨by simp[h1,Jqr],by go_grown⟩
open Go.RowKit
attribute [local go_sem ↓] Go.wp_at_zero Go.wp_at_succ
abbrev inB (slo shi:List UInt8) (e:Ent):Bool:=Jn e.key slo shi
def Zn (most:Int) (slo shi:List UInt8) (outs l:List Ent):List Ent:=JdY most outs (l.filter (inB slo shi))
theorem Jj1 (most:Int) (outs a b:List Ent):JdY most outs (a++b)=JdY most (JdY most outs a) b:=List.foldl_append
theorem Jes (most:Int) (slo shi:List UInt8) (outs a b:List Ent):Zn most slo shi outs (a++b)=Zn most slo shi (Zn most slo shi outs a) b:=by
 unfold Zn
 rw[List.filter_append,Jj1]
theorem JoY (most:Int) (slo shi:List UInt8) (outs:List Ent):Zn most slo shi outs []=outs:=rfl
theorem Jno (most:Int) (slo shi:List UInt8) (outs l:List Ent) (j:Nat) (hj:j<l.length):Zn most slo shi outs (l.take (j+1))=if Jn l[j].key slo shi=true then Jch most (Zn most slo shi outs (l.take j)) l[j] else Zn most slo shi outs (l.take j):=by
 rw[List.take_succ_eq_append_getElem hj,Jes]
 unfold Zn
 rw[List.filter_cons]
 by_cases h:Jn l[j].key slo shi=true
 ·rw[if_pos h,if_pos h];rfl
 ·rw[if_neg h,if_neg h];rfl
theorem Jox {sb tb:Nat} {slo shi:List UInt8} {most:Int} {outs:List Ent} {oa:Option Addr} {oc:Nat} {a b:Option Addr} {n c m d:Nat} {es:List Ent} {us:List Upd} (w:World) (h:ScR w sb tb slo shi most outs oa oc) (hf:Zq w (.agg #[.slice a n c]) es) (hu:JZ w (.agg #[.slice b m d]) us) (he:es.length<=10000) (hr:Je Ent.key es) (hfi:ZI es) (hul:us.length<=10000) (huw:∀u∈us,u.Wf) (ho:outs.length<=10000):
  Calls Tryz.prog 74 #[.pointer (some ⟨sb,0,none⟩),.agg #[.slice a n c],.agg #[.slice b m d]] w fun e w'=>e=.returned (.tuple #[])/\(∃oa' oc',ScR w' sb tb slo shi most (Zn most slo shi outs (Ys es us)) oa' oc'/\∀g,(Value.slice oa' (Zn most slo shi outs (Ys es us)).length oc').ownBlock=some g->(Value.slice oa outs.length oc).ownBlock=some g\/w.heap.size<=g)/\Jg (fun x=>x=sb\/(Value.slice oa outs.length oc).ownBlock=some x) w w':=by
 obtain⟨hr',hf',hl'⟩:=Jc8 es hr hfi us
 have HL:=Lib.hid (fun w' h=>JlL (.agg #[.slice b m d]) us w' h (by omega))
 have HON:=Lib.hid (fun w' s h1 h2=>JcG (.agg #[.slice a n c]) es s us w' h1 he hr hfi h2 huw hul)
 have hOw:∀g,(Value.slice oa outs.length oc).ownBlock=some g->g<w.heap.size:=fun g e=>(h.own.own.lt g e).2
 have HOw:=Lib.hid hOw
 have hsbw:=h.lt
 clear hOw
 have HF:=Lib.hid hf
 have HU:=Lib.hid hu
 have HH:=Lib.hid h
 clear hf hu h hr hfi huw
 generalize Ys es us=E at*
 have HLE:=Lib.hid (fun w' a c h=>Jn8 (.agg #[.slice a E.length c]) E w' h (by omega))
 go_enter Tryz.func74,Tryz.ntmps74
 go_upto_region 1 with(fail)
 have hb0:=Below.refl w.heap.size w
 obtain⟨W0,hW_W0⟩:∃W0,W0=((w.alloc (.cells #[.slice a n c] 99)).alloc (.cells #[.slice b m d] 103)):=⟨_,rfl⟩
 rw[<-hW_W0]
 have hX_W0:Below w.heap.size w W0:=by rw[hW_W0];go_grown
 have gf0:W0.cell? ⟨w.heap.size,0,none⟩=some (.slice a n c):=by rw[hW_W0,World.cell?_alloc_past _ _ _ (by simp<;>omega),World.cell?_alloc_at _ _ _ _ (by simp)];rfl
 have gu0:W0.cell? ⟨w.heap.size+1,0,none⟩=some (.slice b m d):=by rw[hW_W0,World.cell?_alloc_at _ _ _ _ (by simp)];rfl
 clear hW_W0
 have hz_W0:=hX_W0.size
 replace HF:=Lib.hid (HF.out.kept hX_W0 (Nat.le_refl _))
 replace HU:=Lib.hid (HU.out.kept hX_W0 (Nat.le_refl _))
 replace HH:=Lib.hid (HH.out.kept hX_W0 (Nat.le_refl _))
 replace hb0:=hb0.trans (hX_W0.mono hb0.size)
 clear hX_W0
 have hzW:=hb0.size
 go_cut [12,13,14] (fun s12 s13 s14 wx=>∃(la:Option Addr) (lc:Nat),s12=.slice la E.length lc/\s13=.int .i64 E.length/\s14=.int .i64 0/\Hid (wx.ownsRow W0.heap.size 73 2 (.slice la E.length lc) E.length (cellsE E))/\Below W0.heap.size W0 wx)
 case first=>
  go_region_law (first
   |(go_simp;go_at_call 75;refine(HL.out _ (HU.out.kept (Jb (Below.refl _ _)) (Nat.le_refl _))).mono ?_;rintro e w1 ⟨⟨v',rfl,hown⟩,hX1⟩;have hY1:=(Jb (Below.refl W0.heap.size W0)).trans hX1;obtain⟨va,vc,rfl⟩:=Jm hown;have gf1:=Ja hY1 gf0;have gu1:=Ja hY1 gu0)
   |(go_simp;go_at_call 66;refine(HON.out _ _ (HF.out.kept hY1 (Nat.le_refl _)) (SlU.of_own hown).2).mono ?_;rintro e w2 ⟨⟨a2,c2,rfl,hb2⟩,hX2⟩;have hY2:=hY1.trans (hX2.mono hY1.size);have gf2:=Ja hY2 gf0)
   |(go_simp;go_at_call 92;refine(HLE.out _ _ _ hb2).mono ?_;rintro e w3 ⟨⟨v3,rfl,hown3⟩,hX3⟩;have hY3:=hY2.trans (hX3.mono hY2.size);obtain⟨ea,ec,rfl⟩:=Jm hown3))
  all_goals
   have hO3:=Lib.hid (JI hown3 hY2.size)
   go_wp2_with fail
   go_meet
   exact⟨_,_,rfl,rfl,rfl,hO3,hY3⟩
 case rest=>
  obtain⟨la,lc,rfl,rfl,rfl,HE1,hX1⟩:=hcut
  have HH1:=Lib.hid (HH.out.on hX1)
  obtain⟨w1,hw1⟩:∃w1,w1=wc:=⟨_,rfl⟩
  subst hw1
  have HX1:=Lib.hid (hb0.trans (hX1.mono hzW))
  have hz1:=hX1.size
  have hzw1:w.heap.size<=w1.heap.size:=Nat.le_trans hzW hz1
  clear hX1 gf0 gu0 HL HON HLE HF HU
  go_wp2_with fail
  go_loopw [14] (fun i wr=>∃(j:Nat) (O:List Ent) (a2:Option Addr) (c2:Nat),i=.int .i64 j/\j<=E.length/\Hid (O=Zn most slo shi outs (E.take j))/\O.length<=outs.length+j/\Hid (ScR wr sb tb slo shi most O a2 c2)/\(∀g,(Value.slice a2 O.length c2).ownBlock=some g->(Value.slice oa outs.length oc).ownBlock=some g\/w1.heap.size<=g)/\Jg (fun x=>x=sb\/(Value.slice oa outs.length oc).ownBlock=some x) w1 wr) (fun i _=>E.length- (intOf i).toNat)
  case atStart=>exact⟨0,outs,oa,oc,rfl,Nat.zero_le _,Lib.hid (by simp[Zn,JdY]),by omega,HH1,fun g e=>Or.inl e,Jg.refl _ _⟩
  case round=>
   obtain⟨j,O,a2,c2,rfl,hj,HO,hOl,HS,hg2,hK⟩:=hrel
   have hj0:(0:Int)<=(j:Int):=Int.natCast_nonneg _
   by_cases hjE:j<E.length
   ·have hj1:(j:Int)<(E.length:Int):=by omega
    have hEr:wr.ownsRow W0.heap.size 73 2 (.slice la E.length lc) E.length (cellsE E):=YK HE1.out hK (fun g e q=>by
     have h1:=(HE1.out.lt g e).1
     rcases q with rfl|q
     ·omega
     ·have:=HOw.out g q;omega)
    obtain⟨b0,off,ea,hb,t0,t1⟩:=JC.cells2 (SlE.of_own hEr).2.at j hjE
    subst ea
    have HST:=Lib.hid (Jno most slo shi outs E j hjE)
    generalize E[j]=u at*
    go_upto_region 4 with(fail)
    obtain⟨W2,hW2⟩:∃W2,W2=wr.alloc (.cells #[.string (S u.key),.string (S u.val)] 73):=⟨_,rfl⟩
    have hX2:Below wr.heap.size wr W2:=by rw[hW2];go_grown
    have e0:W2.cell? ⟨wr.heap.size,0,none⟩=some (.string (S u.key)):=by rw[hW2,World.cell?_alloc_at _ _ _ _ rfl];rfl
    have e1:W2.cell? ⟨wr.heap.size,1,none⟩=some (.string (S u.val)):=by rw[hW2,World.cell?_alloc_at _ _ _ _ rfl];rfl
    have HS2:=Lib.hid (HS.out.on hX2)
    have hK2:=hK.on hX2
    have hzr:=hK.size
    rw[<-hW2]
    clear hW2 hb t0 t1 hEr HS hK
    have c3:=HS2.out.c3
    have c4:=HS2.out.c4
    cases hwi:Jn u.key slo shi with
    |false=>
     have HWI:=Lib.hid hwi
     clear hwi
     refine WQ.region (C:=fun w'=>Below W2.heap.size W2 w') (by kernel_rfl) (by kernel_rfl) (Jb (Below.refl _ _)) ?_
     refine WV (by rfl) (.pointer (some ⟨sb,0,none⟩)) (fun w' hw'=> ?_) ?_
     ·have hq':=hw'
      go_simp
     try simp only[Act.put,WA,WB,WC]
     refine WV (by rfl) (.pointer (some ⟨wr.heap.size,0,none⟩)) (fun w' hw'=> ?_) ?_
     ·have hq':=hw'
      go_simp
     try simp only[Act.put,WA,WB,WC]
     refine WV (by rfl) (.string (S u.key)) (fun w' hw'=> ?_) ?_
     ·have hq':=hw'
      have z0:=Ja hw' e0;have z1:=Ja hw' c3;have z2:=Ja hw' c4;go_simp
     try simp only[Act.put,WA,WB,WC]
     refine WV (by rfl) (.bool false) (fun w' hw'=> ?_) ?_
     ·have hq':=hw'
      go_simp
      go_at_call 102
      refine((show Calls _ _ _ _ (fun e w'=>e=.returned (.bool false)/\Below _ _ _) from HWI.out▸Jlu slo shi u.key _ (HS2.out.kept hq' (Nat.le_refl _)))).mono ?_
      rintro e w6 ⟨he,hb6⟩
      exact⟨he,hq'.trans (hb6.mono hq'.size)⟩
     try simp only[Act.put,WA,WB,WC]
     refine WV (by rfl) (.bool false) (fun w' hw'=> ?_) ?_
     ·have hq':=hw'
      go_simp
     try simp only[Act.put,WA,WB,WC]
     refine WS (by rfl) ?_
     try simp only[Act.put,WA,WB,WC]
     refine WS (by rfl) ?_
     try simp only[Act.put,WA,WB,WC]
     refine WS (by rfl) ?_
     try simp only[Act.put,WA,WB,WC]
     refine WS (by rfl) ?_
     try simp only[Act.put,WA,WB,WC]
     refine WS (by rfl) ?_
     try simp only[Act.put,WA,WB,WC]
     refine WS (by rfl) ?_
     try simp only[Act.put,WA,WB,WC]
     refine WS (by rfl) ?_
     try simp only[Act.put,WA,WB,WC]
     refine WS (by rfl) ?_
     try simp only[Act.put,WA,WB,WC]
     refine WS (by rfl) ?_
     try simp only[Act.put,WA,WB,WC]
     refine WS (by rfl) ?_
     try simp only[Act.put,WA,WB,WC]
     refine WV (by rfl) (.bool false) (fun w' hw'=> ?_) ?_
     ·have hq':=hw'
      go_simp
     try simp only[Act.put,WA,WB,WC]
     refine WQ.done ?_
     rintro W3 hX3
     have hK3:=hK2.on hX3
     have HS3:=Lib.hid (HS2.out.on hX3)
     have hOa:Zn most slo shi outs (E.take (j+1))=O:=by
      rw[HST.out,if_neg (by rw[HWI.out];simp),<-HO.out]
     go_wp2_with fail
     exact⟨⟨j+1,O,a2,c2,by go_num,by omega,Lib.hid hOa.symm,by omega,HS3,hg2,hK3⟩,by simp[intOf];omega⟩
    |true=>
    have HWI:=Lib.hid hwi
    have HWR:=Lib.hid (fun w' (hq:ScR w' sb tb slo shi most O a2 c2)=>show Calls Tryz.prog 102 #[.pointer (some ⟨sb,0,none⟩),.string (S u.key)] w' (fun e w''=>e=.returned (.bool true)/\Below w'.heap.size w' w'') from HWI.out▸Jlu slo shi u.key w' hq)
    clear hwi
    by_cases hm:(O.length:Int)<most
    ·have hmd:decide ((O.length:Int)<most)=true:=by simpa using hm
     refine WQ.region (C:=fun w'=>Below W2.heap.size W2 w') (by kernel_rfl) (by kernel_rfl) (Jb (Below.refl _ _)) ?_
     refine WV (by rfl) (.pointer (some ⟨sb,0,none⟩)) (fun w' hw'=> ?_) ?_
     ·have hq':=hw'
      go_simp
     try simp only[Act.put,WA,WB,WC]
     refine WV (by rfl) (.pointer (some ⟨wr.heap.size,0,none⟩)) (fun w' hw'=> ?_) ?_
     ·have hq':=hw'
      go_simp
     try simp only[Act.put,WA,WB,WC]
     refine WV (by rfl) (.string (S u.key)) (fun w' hw'=> ?_) ?_
     ·have hq':=hw'
      have z0:=Ja hw' e0;have z1:=Ja hw' c3;have z2:=Ja hw' c4;go_simp
     try simp only[Act.put,WA,WB,WC]
     refine WV (by rfl) (.bool true) (fun w' hw'=> ?_) ?_
     ·have hq':=hw'
      go_simp
      go_at_call 102
      refine(HWR.out _ (HS2.out.kept hq' (Nat.le_refl _))).mono ?_
      rintro e w6 ⟨he,hb6⟩
      exact⟨he,hq'.trans (hb6.mono hq'.size)⟩
     try simp only[Act.put,WA,WB,WC]
     refine WV (by rfl) (.bool true) (fun w' hw'=> ?_) ?_
     ·have hq':=hw'
      go_simp
     try simp only[Act.put,WA,WB,WC]
     refine WV (by rfl) (.pointer (some ⟨sb,0,none⟩)) (fun w' hw'=> ?_) ?_
     ·have hq':=hw'
      go_simp
     try simp only[Act.put,WA,WB,WC]
     refine WV (by rfl) (.pointer (some ⟨sb,0,none⟩)) (fun w' hw'=> ?_) ?_
     ·have hq':=hw'
      go_simp
     try simp only[Act.put,WA,WB,WC]
     refine WV (by rfl) (.pointer (some ⟨sb,4,none⟩)) (fun w' hw'=> ?_) ?_
     ·have hq':=hw'
      go_simp
     try simp only[Act.put,WA,WB,WC]
     refine WV (by rfl) (.slice a2 O.length c2) (fun w' hw'=> ?_) ?_
     ·have hq':=hw'
      have z0:=Ja hw' e0;have z1:=Ja hw' c3;have z2:=Ja hw' c4;go_simp
     try simp only[Act.put,WA,WB,WC]
     refine WV (by rfl) (.int .i64 O.length) (fun w' hw'=> ?_) ?_
     ·have hq':=hw'
      go_simp
     try simp only[Act.put,WA,WB,WC]
     refine WV (by rfl) (.pointer (some ⟨sb,0,none⟩)) (fun w' hw'=> ?_) ?_
     ·have hq':=hw'
      go_simp
     try simp only[Act.put,WA,WB,WC]
     refine WV (by rfl) (.pointer (some ⟨sb,0,none⟩)) (fun w' hw'=> ?_) ?_
     ·have hq':=hw'
      go_simp
     try simp only[Act.put,WA,WB,WC]
     refine WV (by rfl) (.pointer (some ⟨sb,3,none⟩)) (fun w' hw'=> ?_) ?_
     ·have hq':=hw'
      go_simp
     try simp only[Act.put,WA,WB,WC]
     refine WV (by rfl) (.int .i64 most) (fun w' hw'=> ?_) ?_
     ·have hq':=hw'
      have z0:=Ja hw' e0;have z1:=Ja hw' c3;have z2:=Ja hw' c4;go_simp
     try simp only[Act.put,WA,WB,WC]
     refine WV (by rfl) (.bool true) (fun w' hw'=> ?_) ?_
     ·have hq':=hw'
      go_simp
     try simp only[Act.put,WA,WB,WC]
     refine WV (by rfl) (.bool true) (fun w' hw'=> ?_) ?_
     ·have hq':=hw'
      go_simp
     try simp only[Act.put,WA,WB,WC]
     refine WQ.done ?_
     rintro W3 hX3
     have hK3:=hK2.on hX3
     have HS3:=Lib.hid (HS2.out.on hX3)
     have e0:=Ja hX3 e0
     have e1:=Ja hX3 e1
     have c4:=HS3.out.c4
     have hsl:=HS3.out.lt
     have hOa:Zn most slo shi outs (E.take (j+1))=O++[u]:=by
      rw[HST.out,if_pos HWI.out,<-HO.out]
      unfold Jch
      rw[if_pos hm]
     have HOA:=Lib.hid hOa
     have HLN:=Lib.hid (show(O++[u]).length=O.length+1 by simp)
     clear hOa
     go_upto_region 5 with(fail)
     have c4a:∀x,(W3.alloc x).cell? ⟨sb,4,none⟩=some (.slice a2 O.length c2):=fun x=>(World.cell?_alloc_past _ _ _ hsl).trans c4
     obtain⟨W4,hW4⟩:∃W4,W4=(W3.alloc (.cells #[.string (S u.key),.string (S u.val)] 73)).drew:=⟨_,rfl⟩
     have hX4:Below W3.heap.size W3 W4:=by rw[hW4];exact Jb ((Below.refl _ _).alloc (Nat.le_refl _) _)
     have HS4:=Lib.hid (HS3.out.on hX4)
     have hcell:∀i v,[Value.string (S u.key),.string (S u.val)][i]? =some v->W4.cell? ((⟨W3.heap.size,0,none⟩:Addr).add i)=some v:=fun i v hv=>by
      rw[hW4]
      exact Jj (YD W3 _ _ _ i v hv)
     have HNE:=Lib.hid HS4.out.ne
     go_region_law (first|(rw[<-hW4];refine Je0 (by simp) _ _ (by rfl) _ O (by rfl) HS4.out.own u ⟨W3.heap.size,0,none⟩ 1 (by rfl) hcell (by omega) ?_;intro vz wz hownwz hgrowwz hbz;obtain⟨ac,yc,rfl⟩:=Jm hownwz.own;have z4:=hgrowwz.cell HS4.out.c4 HNE.out;have zf:=(World.frozen?_of_block (hgrowwz.block sb HS4.out.lt HNE.out)).trans (HS4.out.fz 4);have HGR:=Lib.hid (HS4.out.more (outs':=O++[u]) (oa':=ac) (oc':=yc) hgrowwz hownwz);have HKG:=Lib.hid ((hK3.on hX4).grown hgrowwz (fun g e=>(hg2 g e).imp Or.inr id));have HBZ:=Lib.hid hbz;clear hownwz hgrowwz hbz))
     all_goals
      rw[HLN.out] at HGR
      go_wp2_with fail
      refine⟨⟨j+1,O++[u],ac,yc,by go_num,by omega,Lib.hid HOA.out.symm,by rw[HLN.out];omega,HGR,fun g e=> ?_,HKG.out.setCell ⟨sb,4,none⟩ (Or.inl (Or.inl rfl)) _⟩,by simp[intOf];omega⟩
      rcases HBZ.out with h|h
      ·rw[h] at e;exact hg2 g e
      ·rw[h] at e
       have:=Option.some.inj e
       have:=hX4.size
       have:=hX3.size
       have:=hX2.size
       exact Or.inr (by omega)
    ·have hmd:decide ((O.length:Int)<most)=false:=by simpa using hm
     refine WQ.region (C:=fun w'=>Below W2.heap.size W2 w') (by kernel_rfl) (by kernel_rfl) (Jb (Below.refl _ _)) ?_
     refine WV (by rfl) (.pointer (some ⟨sb,0,none⟩)) (fun w' hw'=> ?_) ?_
     ·have hq':=hw'
      go_simp
     try simp only[Act.put,WA,WB,WC]
     refine WV (by rfl) (.pointer (some ⟨wr.heap.size,0,none⟩)) (fun w' hw'=> ?_) ?_
     ·have hq':=hw'
      go_simp
     try simp only[Act.put,WA,WB,WC]
     refine WV (by rfl) (.string (S u.key)) (fun w' hw'=> ?_) ?_
     ·have hq':=hw'
      have z0:=Ja hw' e0;have z1:=Ja hw' c3;have z2:=Ja hw' c4;go_simp
     try simp only[Act.put,WA,WB,WC]
     refine WV (by rfl) (.bool true) (fun w' hw'=> ?_) ?_
     ·have hq':=hw'
      go_simp
      go_at_call 102
      refine(HWR.out _ (HS2.out.kept hq' (Nat.le_refl _))).mono ?_
      rintro e w6 ⟨he,hb6⟩
      exact⟨he,hq'.trans (hb6.mono hq'.size)⟩
     try simp only[Act.put,WA,WB,WC]
     refine WV (by rfl) (.bool true) (fun w' hw'=> ?_) ?_
     ·have hq':=hw'
      go_simp
     try simp only[Act.put,WA,WB,WC]
     refine WV (by rfl) (.pointer (some ⟨sb,0,none⟩)) (fun w' hw'=> ?_) ?_
     ·have hq':=hw'
      go_simp
     try simp only[Act.put,WA,WB,WC]
     refine WV (by rfl) (.pointer (some ⟨sb,0,none⟩)) (fun w' hw'=> ?_) ?_
     ·have hq':=hw'
      go_simp
     try simp only[Act.put,WA,WB,WC]
     refine WV (by rfl) (.pointer (some ⟨sb,4,none⟩)) (fun w' hw'=> ?_) ?_
     ·have hq':=hw'
      go_simp
     try simp only[Act.put,WA,WB,WC]
     refine WV (by rfl) (.slice a2 O.length c2) (fun w' hw'=> ?_) ?_
     ·have hq':=hw'
      have z0:=Ja hw' e0;have z1:=Ja hw' c3;have z2:=Ja hw' c4;go_simp
     try simp only[Act.put,WA,WB,WC]
     refine WV (by rfl) (.int .i64 O.length) (fun w' hw'=> ?_) ?_
     ·have hq':=hw'
      go_simp
     try simp only[Act.put,WA,WB,WC]
     refine WV (by rfl) (.pointer (some ⟨sb,0,none⟩)) (fun w' hw'=> ?_) ?_
     ·have hq':=hw'
      go_simp
     try simp only[Act.put,WA,WB,WC]
     refine WV (by rfl) (.pointer (some ⟨sb,0,none⟩)) (fun w' hw'=> ?_) ?_
     ·have hq':=hw'
      go_simp
     try simp only[Act.put,WA,WB,WC]
     refine WV (by rfl) (.pointer (some ⟨sb,3,none⟩)) (fun w' hw'=> ?_) ?_
     ·have hq':=hw'
      go_simp
     try simp only[Act.put,WA,WB,WC]
     refine WV (by rfl) (.int .i64 most) (fun w' hw'=> ?_) ?_
     ·have hq':=hw'
      have z0:=Ja hw' e0;have z1:=Ja hw' c3;have z2:=Ja hw' c4;go_simp
     try simp only[Act.put,WA,WB,WC]
     refine WV (by rfl) (.bool false) (fun w' hw'=> ?_) ?_
     ·have hq':=hw'
      go_simp
     try simp only[Act.put,WA,WB,WC]
     refine WV (by rfl) (.bool false) (fun w' hw'=> ?_) ?_
     ·have hq':=hw'
      go_simp
     try simp only[Act.put,WA,WB,WC]
     refine WQ.done ?_
     rintro W3 hX3
     have hK3:=hK2.on hX3
     have HS3:=Lib.hid (HS2.out.on hX3)
     have hOa:Zn most slo shi outs (E.take (j+1))=O:=by
      rw[HST.out,if_pos HWI.out,<-HO.out]
      unfold Jch
      rw[if_neg hm]
     go_wp2_with fail
     exact⟨⟨j+1,O,a2,c2,by go_num,by omega,Lib.hid hOa.symm,by omega,HS3,hg2,hK3⟩,by simp[intOf];omega⟩
   ·obtain rfl:j=E.length:=by omega
    rw[List.take_length] at HO
    go_wp2_with fail
    refine bodyPost_end (v:=.tuple #[]) (by simp[results,Tryz.results74,go_sem]) rfl ⟨rfl,⟨a2,c2,by rw[<-HO.out];exact HS.out,fun g e=> ?_⟩,(Jg.of_below HX1.out).trans' hK⟩
    rw[<-HO.out] at e
    exact(hg2 g e).imp id (fun h=>by omega)
end Go.Proofs.YtafciefjlkdecaaGreat
namespace Go.Proofs.YtafciefjlkdecaaGreat
open Go.RowKit
def Num (u:Value):Prop:=(∃k,u=.int .u8 k)\/∃k,u=.int .u32 k
def Jeu (w:World) (b:Nat):Prop:=∀o u,w.cell? ⟨b,o,none⟩=some u->¬Num u
theorem Jc.noNum {w:World} {E:TypeId} {g:Nat} {cur:List Value} (h:Jc w E g cur) (hc:∀u∈cur,¬Num u):Jeu w g:=fun o u e=>by
 rw[h.cell] at e
 exact hc u (List.mem_of_getElem? e)
theorem Jg.cellAt {S:Nat->Prop} {a b:World} {g o:Nat} {v:Value} (h:Jg S a b) (hc:a.cell? ⟨g,o,none⟩=some v) (hs:¬S g):b.cell? ⟨g,o,none⟩=some v:=by
 rw[World.cell?_of_block (h.block g (World.block_lt_of_cell? a _ hc) hs)]
 exact hc
theorem JC.keepN {α:Type} {enc:α->List Value} {k:Nat} {w w':World} {ao:Option Addr} {l:List α} {S:Nat->Prop} (h:JC enc k w ao l) (hk:Jg S w w') (hS:∀b,S b->Jeu w b) (henc:∀x:α,∃(j:Nat) (u:Value),(enc x)[j]? =some u/\Num u):JC enc k w' ao l:=by
 rcases h with rfl|⟨b,off,rfl,hb,hc⟩
 ·exact Or.inl rfl
 ·by_cases hl:l=[]
  ·exact Or.inl hl
  ·have hl0:0<l.length:=List.length_pos_iff.2 hl
   obtain⟨j,u,hj,hn⟩:=henc l[0]
   have hnS:¬S b:=fun q=>hS b q _ u (hc 0 hl0 j _ hj) hn
   refine Or.inr ⟨b,off,rfl,Nat.lt_of_lt_of_le hb hk.size,fun i hi j x hx=> ?_⟩
   rw[World.cell?_of_block (hk.block b hb hnS)]
   exact hc i hi j x hx
theorem SlC.keepN {w w':World} {v:Value} {l:List Chd} {S:Nat->Prop} (h:SlC w v l) (hk:Jg S w w') (hS:∀b,S b->Jeu w b):SlC w' v l:=by
 obtain⟨ao,c,rfl,hs,h2⟩:=h
 exact⟨ao,c,rfl,hs.keepN hk hS (fun x=>⟨3,_,rfl,Or.inr ⟨_,rfl⟩⟩),h2⟩
theorem SlU.keepN {w w':World} {v:Value} {l:List Upd} {S:Nat->Prop} (h:SlU w v l) (hk:Jg S w w') (hS:∀b,S b->Jeu w b):SlU w' v l:=by
 obtain⟨ao,c,rfl,hs,h2⟩:=h
 exact⟨ao,c,rfl,hs.keepN hk hS (fun x=>⟨0,_,rfl,Or.inl ⟨_,rfl⟩⟩),h2⟩
theorem JZ.keepN {w w':World} {v:Value} {l:List Upd} {S:Nat->Prop} (h:JZ w v l) (hk:Jg S w w') (hS:∀b,S b->Jeu w b):JZ w' v l:=by
 obtain⟨s,rfl,hs⟩:=h
 exact⟨s,rfl,hs.keepN hk hS⟩
theorem JA.keepN {w w':World} {v:Value} {cs:List Chd} {us:List Upd} {S:Nat->Prop} (h:JA w v cs us) (hk:Jg S w w') (hS:∀b,S b->Jeu w b):JA w' v cs us:=by
 obtain⟨a,b,x,y,rfl,h1,h2⟩:=h
 exact⟨a,b,x,y,rfl,h1.keepN hk hS,h2.keepN hk hS⟩
def Z2 (oa:Option Addr) (n oc:Nat):Option Nat:=(Value.slice oa n oc).ownBlock
def S3 (kb sb:Nat) (ob:Option Nat) (x:Nat):Prop:=x=kb\/x=sb\/ob=some x
section
variable {w w':World} {X:Kx} {root h:Nat} {T:Tx} {sb:Nat} {slo shi:List UInt8} {most:Int} {outs:List Ent} {oa:Option Addr} {oc:Nat}
theorem Jap (c:CAt w X root h T) (s:ScR w sb X.tb slo shi most outs oa oc) {x:Nat} (hx:S3 X.sb sb (Z2 oa outs.length oc) x):x<w.heap.size/\Jeu w x/\∀E cur,Jc w E x cur->E=27\/E=115\/E=73:=by
 rcases hx with rfl|rfl|hx
 ·refine⟨c.sh.row.lt,c.sh.row.noNum fun u hu=> ?_,fun E cur hr=>Or.inl (hr.one c.sh.row).1⟩
  simp only[List.mem_cons,List.not_mem_nil,or_false] at hu
  rcases hu with rfl|rfl|rfl<;>simp[Num]
 ·refine⟨s.lt,s.row.noNum fun u hu=> ?_,fun E cur hr=>Or.inr (Or.inl (hr.one s.row).1)⟩
  simp only[JlE,List.mem_cons,List.not_mem_nil,or_false] at hu
  rcases hu with rfl|rfl|rfl|rfl|rfl<;>simp[Num]
 ·obtain⟨cur,hc⟩:=Jt s.own.own x hx
  refine⟨hc.lt,hc.noNum fun u hu=> ?_,fun E cur' hr=>Or.inr (Or.inr (hr.one hc).1)⟩
  obtain⟨q,rfl⟩:=s.own.str x hx cur hc u hu
  simp[Num]
theorem CAt.keep3 (c:CAt w X root h T) (s:ScR w sb X.tb slo shi most outs oa oc) (hk:Jg (fun x=>x=sb\/Z2 oa outs.length oc=some x) w w'):CAt w' X root h T:=by
 have hn:∀ {E:TypeId} {x:Nat} {cur:List Value},Jc w E x cur->E≠115->E≠73->¬(x=sb\/Z2 oa outs.length oc=some x):=fun {E x cur} hr h1 h2 q=>by
  rcases q with rfl|q
  ·exact h1 (hr.one s.row).1
  ·obtain⟨cur',hc⟩:=Jt s.own.own x q
   exact h2 (hr.one hc).1
 have hmb:¬(X.mb=sb\/Z2 oa outs.length oc=some X.mb):=fun q=>by
  rcases q with q|q
  ·exact c.sh.noMap (by have:=s.row;rw[<-q] at this;exact this)
  ·obtain⟨cur',hc⟩:=Jt s.own.own X.mb q
   exact c.sh.noMap hc
 refine⟨⟨hk.row c.tr.row (hn c.tr.row (by decide) (by decide))⟩,c.gn.keep hk fun x e=> ?_,c.sh.keep hk (hn c.sh.row (by decide) (by decide)) hmb⟩
 obtain⟨cur,hc⟩:=Jt c.gn.own x e
 exact hn hc (by decide) (by decide)
theorem ScR.load (s:ScR w sb X.tb slo shi most outs oa oc) (c:CAt w X root h T) (hk:Jg (fun x=>x=X.sb) w w'):ScR w' sb X.tb slo shi most outs oa oc:=
 s.keep hk (fun e=>by
  have e':sb=X.sb:=e
  have:=s.row
  rw[e'] at this
  exact absurd (this.one c.sh.row).1 (by decide)) fun x hx e=>by
  have e':x=X.sb:=e
  obtain⟨cur,hc⟩:=Jt s.own.own x hx
  rw[e'] at hc
  exact absurd (hc.one c.sh.row).1 (by decide)
end
theorem Xu.keepT {w w':World} {v:Value} {bs:List Nat} {M:Nat->Prop} (h:Xu w v bs) (hk:Jg M w w') (hM:∀x cur,Jc w 97 x cur->¬M x):Xu w' v bs:=
 YK h hk fun g e q=>by
  obtain⟨cur,hc⟩:=Jt h g e
  exact hM g cur hc q
theorem Mem.fresh {w w':World} {n:Nat} {v:Vt} {M:Nat->Prop} (hm:Mem w (n+1) v) (hl:v.ld=true) (hk:Jg M w w') (hM:∀x,M x->Jeu w x) (hr:∀x cur,Jc w 97 x cur->¬M x) (hb:∀b∈blocks (n+1) v,¬M b) (hf:∀x∈v.ch,x.2.ld=false):Mem w' (n+1) v:=by
 obtain⟨⟨-,pa,pg,ps,a1,c1,a2,c2,a3,c3,h1,h2,h3,h4⟩,hkd⟩:=hm.node hl
 refine⟨hm.in,Or.inl ⟨⟨hl,pa,pg,ps,a1,c1,a2,c2,a3,c3,hk.vx h1 (hb _ hm.head),h2,h3.keepN hk hM,h4.keepT hk hr⟩,fun x hx=> ?_⟩⟩
 have hmx:=hkd x hx
 have hbx:¬M x.2.b:=hb _ (Ze hm.in hx hmx.head)
 cases n with
 |zero=>exact⟨hmx.in,Or.inr ((hmx.far0 (hf x hx)).keep hk hbx)⟩
 |succ n=>exact⟨hmx.in,Or.inr ⟨(hmx.far (hf x hx)).1.keep hk hbx,(hmx.far (hf x hx)).2⟩⟩
theorem Jpn {l l':List (Chd×Vt)} (h:l'.map Zr=l.map Zr) (hl:∀x∈l,x.2.ld=false):∀x∈l',x.2.ld=false:=fun x hx=>by
 have:Zr x∈l.map Zr:=by rw[<-h];exact List.mem_map_of_mem hx
 obtain⟨y,hy,e⟩:=List.mem_map.1 this
 have e2:(Zr y).2.ld=(Zr x).2.ld:=by rw[e]
 have e3:y.2.ld=x.2.ld:=e2
 rw[<-e3]
 exact hl y hy
structure JrH (X:Kx) (sb:Nat) (ob:Option Nat) (n:Nat) (lo hi:List UInt8) (v v1:Vt) (w':World):Prop where
 ld:v1.ld=true
 mem:Mem w' n v1
 stab:1<=n->∀w2,Jg (S3 X.sb sb ob) w' w2->Mem w2 n v1
 ok:Ok n lo hi v1
 shf:Shf X.f n v1
 pot:pot n v1=pot n v
 en:∀u,enG n v1 u=enG n v u
def Jrx (X:Kx) (root h:Nat) (T:Tx) (sb:Nat) (slo shi:List UInt8) (most:Int) (outs:List Ent) (oa:Option Addr) (oc:Nat) (n:Nat) (lo hi:List UInt8) (v:Vt) (w:World) (e:Ending) (w':World):Prop:=
 ∃wr',wr'<=T.wr/\CAt w' X root h {T with wr:=wr'}/\Jg (S3 X.sb sb (Z2 oa outs.length oc)) w w'/\ScR w' sb X.tb slo shi most outs oa oc/\((e=.returned (.tuple #[.pointer none,.bool false,.int .i64 10])/\0<T.wr)\/∃v1 ld,e=.returned (.tuple #[.pointer (some ⟨v1.b,0,none⟩),.bool ld,.int .i64 0])/\JrH X sb (Z2 oa outs.length oc) n lo hi v v1 w')
theorem JqR {X:Kx} {root h:Nat} {T:Tx} {n:Nat} {v:Vt} {lo hi:List UInt8} {sb:Nat} {slo shi:List UInt8} {most:Int} {outs:List Ent} {oa:Option Addr} {oc:Nat} (hh:Int) (w:World) (hhn:hh=(n:Int)+1) (c:CAt w X root h T) (hst:∀w2,Jg (S3 X.sb sb (Z2 oa outs.length oc)) w w2->Mem w2 n v) (ho:Ok n lo hi v) (hs:Shf X.f n v) (hN:Jd0 X.f) (hp:pot n v<=1000) (hwr:T.wr<=1000) (s:ScR w sb X.tb slo shi most outs oa oc):
  Calls Tryz.prog 50 #[.pointer (some ⟨X.tb,0,none⟩),.pointer (some ⟨v.b,0,none⟩),.int .i64 hh] w fun e w'=>Jrx X root h T sb slo shi most outs oa oc n lo hi v w e w':=by
 have hm:=hst w (Jg.refl _ _)
 refine(Jg6 hh w hhn c hm ho hs hN hp hwr).mono ?_
 rintro e w' (⟨hl,rfl,hb⟩|⟨v',hl,rfl,hL,hm1,hn1,hb1,c1,hk1⟩|⟨hl,rfl,hw,c1,hk1⟩)
 ·exact⟨T.wr,Nat.le_refl _,c.on hb,Jg.of_below hb,s.on hb,Or.inr ⟨v,false,rfl,hl,hst w' (Jg.of_below hb),fun _ w2 hk=>hst w2 ((Jg.of_below hb).trans' hk),ho,hs,rfl,fun _=>rfl⟩⟩
 ·have s1:=s.load c hk1
  have hld:v'.ld=true:=hL.ld
  refine⟨T.wr-1,Nat.sub_le _ _,c1,hk1.mono fun x e=>Or.inl e,s1,Or.inr ⟨v',true,rfl,hld,hm1,fun hn w2 hk=> ?_,JeH (hL.ok ho),Jds.1 (hL.shf hs),?_,fun u=> ?_⟩⟩
  ·cases n with
   |zero=>omega
   |succ n=>
    refine hm1.fresh hld hk (fun x hx=>(Jap c1 s1 hx).2.1) (fun x cur hr q=> ?_) (fun b hb q=> ?_) (Jpn hL.ch fun x hx=>((hm.far hl).2 x hx).out.2.1)
    ·rcases(Jap c1 s1 q).2.2 _ _ hr with e|e|e<;>exact absurd e (by decide)
    ·have h1:=hb1 b hb
     have h2:=(Jap c s q).1
     omega
  ·have h1:=hL.pot_eq n
   rw[<-h1]
   exact(Jbv n v' v.b v'.mem v'.ld v'.kn).symm
  ·have h1:=hL.enG u n
   rw[<-h1]
   exact(Jjz n v' v.b v'.mem v'.ld v'.kn u).symm
 ·exact⟨0,Nat.zero_le _,c1,hk1.mono fun x e=>Or.inl e,s.load c hk1,Or.inl ⟨rfl,hw⟩⟩
theorem Jhl (most:Int):∀(l outs:List Ent),((JdY most outs l).length:Int)<=max (outs.length:Int) most
 |[],outs=>by show(outs.length:Int)<=_;omega
 |e::l,outs=>by
  have h1:=Jhl most l (Jch most outs e)
  have h2:((Jch most outs e).length:Int)<=max (outs.length:Int) most:=by
   unfold Jch
   split
   ·rw[List.length_append,List.length_singleton];omega
   ·omega
  show((JdY most (Jch most outs e) l).length:Int)<=_
  omega
theorem Jhm {most:Int}:∀ {l outs:List Ent},most<=(outs.length:Int)->JdY most outs l=outs
 |[],_,_=>rfl
 |e::l,outs,h=>by
  have h1:Jch most outs e=outs:=by unfold Jch;rw[if_neg (by omega)]
  show JdY most (Jch most outs e) l=outs
  rw[h1]
  exact Jhm h
theorem Jnr {most:Int} {slo shi:List UInt8} {l outs:List Ent} (h:most<=(outs.length:Int)):Zn most slo shi outs l=outs:=Jhm h
theorem Jnq {most:Int} {slo shi lo hi:List UInt8} {l outs:List Ent} (hm:Jfr lo hi slo shi=false) (hl:∀e∈l,Jn e.key lo hi=true):Zn most slo shi outs l=outs:=by
 unfold Zn
 rw[List.filter_eq_nil_iff.2]
 ·rfl
 ·intro e he hw
  obtain⟨a1,a2⟩:=Jd.1 (hl e he)
  obtain⟨b1,b2⟩:=Jd.1 (show Jn e.key slo shi=true from hw)
  have h1:(shi.isEmpty||bl lo shi)=true:=JeP.2 (b2.down a1)
  have h2:(hi.isEmpty||bl slo hi)=true:=JeP.2 (a2.down b1)
  unfold Jfr at hm
  rw[h1,h2] at hm
  cases hm
def JbM (X:Kx) (root h:Nat) (T:Tx) (sb:Nat) (slo shi:List UInt8) (most:Int) (outs:List Ent) (oa:Option Addr) (oc:Nat) (E:List Ent) (w:World) (e:Ending) (w':World):Prop:=
 ∃wr',wr'<=T.wr/\CAt w' X root h {T with wr:=wr'}/\Jg (S3 X.sb sb (Z2 oa outs.length oc)) w w'/\((e=.returned (.int .i64 10)/\0<T.wr)\/(e=.returned (.int .i64 0)/\∃oa' oc',ScR w' sb X.tb slo shi most (Zn most slo shi outs E) oa' oc'/\∀g,Z2 oa' (Zn most slo shi outs E).length oc'=some g->Z2 oa outs.length oc=some g\/w.heap.size<=g))
structure Jns (X:Kx) (root h:Nat) (T:Tx) (n:Nat) (v:Vt) (lo hi:List UInt8) (sb:Nat) (slo shi:List UInt8) (most:Int) (outs:List Ent) (oa:Option Addr) (oc:Nat) (above:List Upd) (w:World):Prop where
 c:CAt w X root h T
 st:∀w2,Jg (S3 X.sb sb (Z2 oa outs.length oc)) w w2->Mem w2 n v
 ok:Ok n lo hi v
 sh:Shf X.f n v
 near:Jd0 X.f
 pot:pot n v+above.length<=1000
 wr:T.wr<=1000
 s:ScR w sb X.tb slo shi most outs oa oc
 g:ZD lo hi above
 m:most<=1000
 o:outs.length<=1000
def Jl9 (n:Nat):Prop:=∀(X:Kx) (root h:Nat) (T:Tx) (v:Vt) (lo hi:List UInt8) (sb:Nat) (slo shi:List UInt8) (most:Int) (outs:List Ent) (oa:Option Addr) (oc:Nat) (b:Option Addr) (m d:Nat) (above:List Upd) (w:World) (hh:Int),
 Jns X root h T n v lo hi sb slo shi most outs oa oc above w->JZ w (.agg #[.slice b m d]) above->hh=(n:Int)+1->n<=100->
 Calls Tryz.prog 43 #[.pointer (some ⟨sb,0,none⟩),.pointer (some ⟨v.b,0,none⟩),.int .i64 hh,.agg #[.slice b m d]] w fun e w'=>JbM X root h T sb slo shi most outs oa oc (enG n v above) w e w'
theorem Jns.on {X:Kx} {root h:Nat} {T:Tx} {n:Nat} {v:Vt} {lo hi:List UInt8} {sb:Nat} {slo shi:List UInt8} {most:Int} {outs:List Ent} {oa:Option Addr} {oc:Nat} {above:List Upd} {w w':World} (i:Jns X root h T n v lo hi sb slo shi most outs oa oc above w) (hb:Below w.heap.size w w'):Jns X root h T n v lo hi sb slo shi most outs oa oc above w':=
 ⟨i.c.on hb,fun w2 hk=>i.st w2 ((Jg.of_below hb).trans' hk),i.ok,i.sh,i.near,i.pot,i.wr,i.s.on hb,i.g,i.m,i.o⟩
theorem Jns.fetch {X:Kx} {root h:Nat} {T:Tx} {n:Nat} {v:Vt} {lo hi:List UInt8} {sb:Nat} {slo shi:List UInt8} {most:Int} {outs:List Ent} {oa:Option Addr} {oc:Nat} {above:List Upd} {w:World} (i:Jns X root h T n v lo hi sb slo shi most outs oa oc above w) (hh:Int) (hhn:hh=(n:Int)+1):
  Calls Tryz.prog 50 #[.pointer (some ⟨X.tb,0,none⟩),.pointer (some ⟨v.b,0,none⟩),.int .i64 hh] w fun e w'=>Jrx X root h T sb slo shi most outs oa oc n lo hi v w e w':=
 JqR hh w hhn i.c i.st i.ok i.sh i.near (by have:=i.pot;omega) i.wr i.s
theorem Jnp (most:Int) (slo shi:List UInt8) (outs l:List Ent) (h1:most<=1000) (h2:outs.length<=1000):(Zn most slo shi outs l).length<=1000:=by
 have:=Jhl most (l.filter (inB slo shi)) outs
 unfold Zn
 omega
open Go.RowKit
attribute [local go_sem ↓] Go.wp_at_zero Go.wp_at_succ
theorem JfY:∀(l:List Chd) (i:Nat) (c:Chd) (hi:i<l.length),c.low=l[i].low->cellsC (l.set i c)=(((cellsC l).set (i*4+1) (.int .i64 c.addr)).set (i*4+2) (.int .u64 c.gen)).set (i*4+3) (.int .u32 c.sum)
 |[],i,c,h,_=>by simp at h
 |x::l,0,c,_,e=>by
  have e':c.low=x.low:=e
  simp[cellsC,Chd.cells,e']
 |x::l,i+1,c,h,e=>by
  have ih:=JfY l i c (by simpa using h) (by simpa using e)
  have e2:∀y:Chd,∀m:List Chd,cellsC (y::m)=Chd.cells y++cellsC m:=fun y m=>rfl
  rw[List.set_cons_succ,e2,ih,e2]
  simp[Chd.cells,Nat.add_mul,show∀k,i*4+4+k=i*4+k+4 by omega]
theorem Jhf:∀(l:List Chd) (i:Nat) (hi:i<l.length) (k:Nat),k<4->(Chd.cells l[i])[k]? =(cellsC l)[i*4+k]?
 |[],i,h,_,_=>by simp at h
 |x::l,0,_,k,hk=>by
  show(Chd.cells x)[k]? =(Chd.cells x++cellsC l)[0*4+k]?
  rw[Nat.zero_mul,Nat.zero_add,List.getElem?_append_left (by simpa[Chd.cells] using hk)]
 |x::l,i+1,h,k,hk=>by
  have hi':i<l.length:=by simpa using h
  have ih:=Jhf l i hi' k hk
  show(Chd.cells (l[i]'hi'))[k]? =(Chd.cells x++cellsC l)[(i+1)*4+k]?
  rw[ih,List.getElem?_append_right (by simp[Chd.cells];omega)]
  congr 1
  simp[Chd.cells]
  omega
theorem JnO (c:Chd) (k:Option Pt):(Jga c k).low=c.low:=by cases k<;>rfl
theorem Jp2 (n:Nat) (v:Vt) (s:Sf) (j:Nat) (hj:j<v.ch.length):((csA n v s j)[j]'(by rw[Jh5];exact hj)).low=v.ch[j].1.low:=by
 have hl:((svK (sv n) (v.ch.take j) s).1.map Prod.fst).length=j:=by rw[List.length_map,Jey,List.length_take];omega
 have h1:(csA n v s j)[j]? =some v.ch[j].1:=by
  unfold csA
  rw[List.getElem?_append_right (by omega),hl,Nat.sub_self,List.drop_eq_getElem_cons hj]
  rfl
 rw[List.getElem?_eq_getElem (by rw[Jh5];exact hj)] at h1
 rw[Option.some.inj h1]
theorem JpB {w wr:World} {vb db sb mb:Nat} {s:Sf} {wr0 n:Nat} {lo hi:List UInt8} {v:Vt} (h:Jf3 w vb db sb mb s wr0 (n+1) lo hi v) (hk:v.kn=none) (j:Nat) (hj:j<v.ch.length) (hst:XW wr vb db sb mb (svK (sv n) (v.ch.take j) s).2 wr0) (hkp:Jg (S4 sb mb db) w wr):
  ∃lo' hi',Jf3 wr vb db sb mb (svK (sv n) (v.ch.take j) s).2 wr0 n lo' hi' v.ch[j].2:=by
 have hd:Yb (n+1) v=1+Yf (Yb n) v.ch:=by unfold Yb;rw[hk];rfl
 have h1:=h.gen
 have h2:=h.nn
 rw[hd] at h1 h2
 have hx:v.ch[j]∈v.ch:=List.getElem_mem hj
 have hsum:Yf (Yb n) (v.ch.take j)+Yb n v.ch[j].2<=Yf (Yb n) v.ch:=by
  have e:v.ch=v.ch.take j++v.ch[j]::v.ch.drop (j+1):=by
   have:=List.take_append_drop j v.ch
   rw[List.drop_eq_getElem_cons hj] at this
   exact this.symm
  have e2:Yf (Yb n) v.ch=Yf (Yb n) (v.ch.take j)+(Yb n v.ch[j].2+Yf (Yb n) (v.ch.drop (j+1))):=by
   conv=>lhs;rw[e]
   rw[JD,Jo]
  omega
 obtain⟨-,-,new,m1,-,m3⟩:=Jhx (fun lo hi v s=>JcZ n lo hi v s) (v.ch.take j) s (fun x hx=>by
  have hx':=List.mem_of_mem_take hx
  obtain⟨i,hi',e⟩:=List.getElem_of_mem hx'
  obtain⟨lo',hi'',k1,-⟩:=JbA h.i.ok i hi'
  rw[e] at k1
  exact⟨⟨lo',hi'',k1⟩,h.i.shf.2 x hx',h.i.ps.2 x hx',h.few.2.2 x hx',(h.i.ok.2.2.2.1 x hx').1⟩) h.i.win (by omega)
 obtain⟨lo',hi',k1,-⟩:=JbA h.i.ok j hj
 have hm:=(h.m.node (h.m.dirty hk)).2 _ hx
 have g1:=m1.gen
 have g2:=m1.nn
 exact⟨lo',hi',hst,hm.sv4 h.st hkp,⟨k1,Jc4 m1.ext n _ (h.i.shf.2 _ hx),m1.win h.i.win,h.i.ps.2 _ hx,by omega⟩,h.few.2.2 _ hx,by omega,by omega,Jai h.pot hx⟩
theorem XW.keepG {w w':World} {vb db sb mb:Nat} {s:Sf} {wr g:Nat} {cur:List Value} (h:XW w vb db sb mb s wr) (hk:Jg (fun x=>x=g) w w') (hr:Jc w 179 g cur):XW w' vb db sb mb s wr:=
 ⟨⟨hk.row h.sv.row fun e=>by
  have e':vb=g:=e
  have:=h.sv.row
  rw[e'] at this
  exact absurd (this.one hr).1 (by decide)⟩,h.dn.keep hk (fun e=>by
  have e':db=g:=e
  exact h.dn.noRow (by rw[e'];exact hr)) (fun x ⟨cu,hx⟩ e=>by
  have e':x=g:=e
  rw[e'] at hx
  exact absurd (hx.one hr).1 (by decide)),h.sh.keep hk (fun e=>by
  have e':sb=g:=e
  have:=h.sh.row
  rw[e'] at this
  exact absurd (this.one hr).1 (by decide)) (fun e=>by
  have e':mb=g:=e
  exact h.sh.noMap (by rw[e'];exact hr)),h.ne⟩
theorem Jpl (n:Nat) (IH:Jo1 n) {w:World} {vb db sb mb:Nat} {s:Sf} {wr0:Nat} {lo hi:List UInt8} {v:Vt} (h:Jf3 w vb db sb mb s wr0 (n+1) lo hi v) (hk:v.kn=none):
  Calls Tryz.prog 80 #[.pointer (some ⟨vb,0,none⟩),.pointer (some ⟨v.b,0,none⟩)] w fun e w'=>e=.returned (.tuple #[.string (S (Yl ((svK (sv n) v.ch s).1.map Prod.fst) v.us)),.int .i64 0])/\XW w' vb db sb mb (svK (sv n) v.ch s).2 wr0/\JaM w' v.b/\Jg (S4 sb mb db) w w':=by
 have hld:=h.m.dirty hk
 obtain⟨⟨-,pa,pg,ps,a1,x1,a2,x2,a3,x3,hv,-,hnd,hkd⟩,-⟩:=h.m.node hld
 have hchl:=h.few.1
 have hch0:0<v.ch.length:=List.length_pos_iff.2 h.i.ok.okk.ne
 obtain⟨nk,hnk⟩:∃nk,nk=v.ch.length:=⟨_,rfl⟩
 obtain⟨ul,hul⟩:∃ul,ul=v.us.length:=⟨_,rfl⟩
 have HNK:=Lib.hid (And.intro hnk hul)
 rw[<-hnk,<-hul] at hv
 rw[<-hnk] at hch0 hchl
 have HH:=Lib.hid (And.intro h (And.intro hk (And.intro hld (And.intro hnd hkd))))
 have HV:=Lib.hid hv
 have HIH:=Lib.hid IH
 have hnode:=((JcZ (n+1) lo hi v s h.i h.few).shf.1 _ (by rw[Z6 hk])).2.1
 rw[Z6 hk] at hnode
 have HNO:=Lib.hid (show YR ((svK (sv n) v.ch s).1.map Prod.fst) v.us from hnode)
 have c6:=hv.c6
 have c7:=hv.c7
 clear hnk hul h hk hld hnd hkd hv IH hnode
 go_enter Tryz.func80,Tryz.ntmps80
 go_upto_region 2 with(fail)
 obtain⟨ab,hab⟩:∃ab,ab=w.heap.size:=⟨_,rfl⟩
 obtain⟨W,hW⟩:∃W,W=w.alloc (.cells #[.slice a1 nk x1,.slice a2 ul x2] 105):=⟨_,rfl⟩
 have hXW:Below w.heap.size w W:=by rw[hW];go_grown
 have HB:=Lib.hid (show Jc W 105 ab [.slice a1 nk x1,.slice a2 ul x2] by rw[hW,hab];exact Jc.new w _ [.slice a1 nk x1,.slice a2 ul x2])
 rw[<-hW,<-hab]
 have HAB:=Lib.hid hab
 clear hW c6 c7 hab
 have b0:W.cell? ⟨ab,0,none⟩=some (.slice a1 nk x1):=HB.out.cell 0
 have bf0:=HB.out.frozen 0
 have HCL:=Lib.hid (show Calls Tryz.prog 107 #[.slice a1 nk x1] W fun e w'=>(∃v',e=.returned v'/\w'.ownsRow W.heap.size 179 4 v' nk (cellsC v.cs))/\Below W.heap.size W w' by
  have h1:=(HH.out.2.2.2.1.kept hXW (Nat.le_refl _)).parts.1
  rw[<-HNK.out.1] at h1
  have h2:=Jh9 (.slice a1 nk x1) v.cs W h1 (by rw[List.length_map,<-HNK.out.1];omega)
  rw[List.length_map,<-HNK.out.1] at h2
  exact h2)
 go_wp2_with fail
 refine HCL.out.mono ?_
 rintro e w2 ⟨⟨v',rfl,hown⟩,hX2⟩
 obtain⟨ga,gc,rfl⟩:=Jm hown
 obtain⟨g,rfl,hgW,hg2,-⟩:=Yk hown hch0
 have HB2:=Lib.hid (HB.out.on hX2)
 have HOW:=Lib.hid hown
 have b0:w2.cell? ⟨ab,0,none⟩=some (.slice a1 nk x1):=HB2.out.cell 0
 have bf0:=HB2.out.frozen 0
 have habW:ab<W.heap.size:=HB.out.lt
 have hX02:=hXW.trans (hX2.mono hXW.size)
 clear hown hX2
 go_upto_region 3 with(fail)
 obtain⟨W3,hW3⟩:∃W3,W3=w2.setCell ⟨ab,0,none⟩ (.slice (some ⟨g,0,none⟩) nk gc):=⟨_,rfl⟩
 have HX3:=Lib.hid (show Below w.heap.size w W3 by rw[hW3];exact hX02.setCell (by show w.heap.size<=ab;rw[HAB.out];exact Nat.le_refl _) _)
 have HB3:=Lib.hid (show Jc W3 105 ab [.slice (some ⟨g,0,none⟩) nk gc,.slice a2 ul x2] by rw[hW3];exact HB2.out.put 0 _)
 have HO3:=Lib.hid (show W3.ownsRow W.heap.size 179 4 (.slice (some ⟨g,0,none⟩) nk gc) nk (cellsC v.cs) by
  rw[hW3]
  exact ownsRow_setCell_other (a:=⟨ab,0,none⟩) HOW.out (fun e=>by have:=Option.some.inj e;dsimp only at this;omega) _)
 rw[<-hW3]
 clear hW3 b0 bf0 HB2 HOW hX02 hXW
 have HV3:=Lib.hid (HV.out.on HX3.out)
 have c8:=HV3.out.c8
 have HST3:=Lib.hid (HH.out.1.st.on HX3.out)
 have hgw:w.heap.size<=g:=Nat.le_trans (by have:=HAB.out;omega) hgW
 have hgab:g≠ab:=by omega
 go_wp2_with fail
 go_loopw [24] (fun i wr=>∃j:Nat,i=.int .i64 j/\j<=nk/\Hid (XW wr vb db sb mb (svK (sv n) (v.ch.take j) s).2 wr0/\Jg (S4 sb mb db) w wr/\wr.ownsRow W.heap.size 179 4 (.slice (some ⟨g,0,none⟩) nk gc) nk (cellsC (csA n v s j))/\Jc wr 105 ab [.slice (some ⟨g,0,none⟩) nk gc,.slice a2 ul x2])) (fun i _=>nk- (intOf i).toNat)
 case atStart=>exact⟨0,rfl,Nat.zero_le _,Lib.hid ⟨HST3.out,Jg.of_below HX3.out,HO3.out,HB3.out⟩⟩
 case round=>
  obtain⟨j,rfl,hj,HR⟩:=hrel
  have hj0:(0:Int)<=(j:Int):=Int.natCast_nonneg _
  by_cases hjl:j<nk
  ·have hj1:(j:Int)<(nk:Int):=by omega
   have hkl:j<v.ch.length:=by rw[<-HNK.out.1];exact hjl
   obtain⟨x,hx⟩:∃x,x=v.ch[j]:=⟨_,rfl⟩
   obtain⟨hst,hkp,hown,hbox⟩:=HR.out
   have hkr:wr.ownsRow 0 97 1 (.slice a3 nk x3) nk ((v.ch.map fun x=>x.2.b).map vp):=by
    have h0:Xu wr (.slice a3 v.ch.length x3) (v.ch.map fun x=>x.2.b):=Xu.keepT HH.out.2.2.2.2 hkp fun y cur hr q=>(HH.out.1.st.soft y q).row cur hr
    have h1:wr.ownsRow 0 97 1 (.slice a3 v.ch.length x3) (v.ch.map fun x=>x.2.b).length ((v.ch.map fun x=>x.2.b).map vp):=h0
    rw[List.length_map,<-HNK.out.1] at h1
    exact h1
   obtain⟨g3,rfl,-,-,hgc⟩:=Yk hkr (by omega)
   have r0:wr.cell? ⟨g3,j,none⟩=some (.pointer (some ⟨x.2.b,0,none⟩)):=by
    have:=hgc j (vp x.2.b) (by rw[List.getElem?_map,List.getElem?_map,List.getElem?_eq_getElem hkl,hx];rfl)
    simpa using this
   obtain⟨lo',hi',hpre⟩:=JpB HH.out.1 HH.out.2.1 j hkl hst hkp
   rw[<-hx] at hpre
   have HCA:=Lib.hid (HIH.out wr vb db sb mb _ wr0 lo' hi' x.2 hpre)
   have HSN:=Lib.hid (show(svK (sv n) (v.ch.take (j+1)) s).2=(sv n v.ch[j].2 (svK (sv n) (v.ch.take j) s).2).2 by rw[List.take_succ_eq_append_getElem hkl,JeY])
   have HST:=Lib.hid (JoF n v s j hkl)
   have HLW:=Lib.hid (Jp2 n v s j hkl)
   rw[<-hx] at HSN HST HLW
   clear hst hkp hown hbox hkr hgc hpre hx
   go_wp2_with fail
   refine HCA.out.mono ?_
   rintro e w7 ⟨p,hp,rfl,hst7,hk7⟩
   have HR7:=Lib.hid (And.intro hst7 (And.intro (HR.out.2.1.trans' hk7) (And.intro (YK HR.out.2.2.1 hk7 (fun y e q=>by
    obtain⟨cur,hc⟩:=Jt HR.out.2.2.1 y e
    exact HR.out.1.row hc (by decide) q)) (hk7.row HR.out.2.2.2 (HR.out.1.row HR.out.2.2.2 (by decide))))))
   have HP:=Lib.hid hp
   clear hst7 hk7 hp r0
   go_upto_region 9 with(fail)
   obtain⟨W8,hW8⟩:∃W8,W8=w7.alloc (.cells #[.int .i64 p.a,.int .u64 p.g,.int .u32 p.s] 54):=⟨_,rfl⟩
   have hX8:Below w7.heap.size w7 W8:=by rw[hW8];go_grown
   have HP8:=Lib.hid (show Jc W8 54 w7.heap.size [.int .i64 p.a,.int .u64 p.g,.int .u32 p.s] by rw[hW8];exact Jc.new w7 _ [.int .i64 p.a,.int .u64 p.g,.int .u32 p.s])
   have HR8:=Lib.hid (And.intro (HR7.out.1.on hX8) (And.intro (HR7.out.2.1.on hX8) (And.intro (Ji HR7.out.2.2.1 hX8) (HR7.out.2.2.2.on hX8))))
   rw[<-hW8]
   clear hW8 hX8
   have p0:W8.cell? ⟨w7.heap.size,0,none⟩=some (.int .i64 p.a):=HP8.out.cell 0
   have p1:W8.cell? ⟨w7.heap.size,1,none⟩=some (.int .u64 p.g):=HP8.out.cell 1
   have p2:W8.cell? ⟨w7.heap.size,2,none⟩=some (.int .u32 p.s):=HP8.out.cell 2
   have b0:W8.cell? ⟨ab,0,none⟩=some (.slice (some ⟨g,0,none⟩) nk gc):=HR8.out.2.2.2.cell 0
   obtain⟨gg,eg,-,-,hcs⟩:=Yk HR8.out.2.2.1 hch0
   obtain rfl:g=gg:=by injection eg with eg;injection eg
   have hjc:j<(csA n v s j).length:=by rw[Jh5];exact hkl
   have hcell:∀k u,(Chd.cells (csA n v s j)[j])[k]? =some u->W8.cell? ⟨g,j*4+k,none⟩=some u:=fun k u hu=>hcs (j*4+k) u (by rw[<-Jhf (csA n v s j) j hjc k (by have:=(List.getElem?_eq_some_iff.1 hu).1;simpa[Chd.cells] using this)];exact hu)
   have q1:=hcell 1 _ rfl
   have q2:=hcell 2 _ rfl
   have q3:=hcell 3 _ rfl
   have ff:=JkH HR8.out.2.2.1
   have f1:=ff (j*4+1)
   have f2:=ff (j*4+2)
   have f3:=ff (j*4+3)
   clear hcs hcell ff eg
   go_wp2_with fail
   obtain⟨W9,hW9⟩:∃W9,W9=((W8.setCell ⟨g,j*4+1,none⟩ (.int .i64 p.a)).setCell ⟨g,j*4+1+1,none⟩ (.int .u64 p.g)).setCell ⟨g,j*4+1+2,none⟩ (.int .u32 p.s):=⟨_,rfl⟩
   have hKg:Jg (fun x=>x=g) W8 W9:=by
    rw[hW9]
    exact(((Jg.refl (fun x=>x=g) W8).setCell ⟨g,j*4+1,none⟩ (Or.inl rfl) _).setCell ⟨g,j*4+1+1,none⟩ (Or.inl rfl) _).setCell ⟨g,j*4+1+2,none⟩ (Or.inl rfl) _
   have hown9:W9.ownsRow W.heap.size 179 4 (.slice (some ⟨g,0,none⟩) nk gc) nk (cellsC (csA n v s (j+1))):=by
    rw[hW9,HST.out,HP.out,JfY _ j _ hjc (by rw[JnO];exact HLW.out.symm)]
    exact JhL (JhL (JhL HR8.out.2.2.1 (j*4+1) _) (j*4+2) _) (j*4+3) _
   obtain⟨cur,hcur⟩:=Jt HR8.out.2.2.1 g rfl
   have hst9:=HR8.out.1.keepG hKg hcur
   rw[<-HSN.out] at hst9
   have HR9:=Lib.hid (And.intro hst9 (And.intro (HR8.out.2.1.trans hKg (fun y e=>Or.inr (by rw[show y=g from e];exact hgw))) (And.intro hown9 (hKg.row HR8.out.2.2.2 (fun e=>hgab e.symm)))))
   rw[<-hW9]
   clear hW9 hKg hown9 hcur hst9
   exact⟨⟨j+1,by go_num,by omega,HR9⟩,by simp[intOf];omega⟩
  ·obtain rfl:j=nk:=by omega
   obtain⟨hst,hkp,hown,hbox⟩:=HR.out
   have e1:v.ch.take j=v.ch:=by rw[HNK.out.1,List.take_length]
   have e2:csA n v s j=(svK (sv n) v.ch s).1.map Prod.fst:=by rw[HNK.out.1];exact Jp3 n v s
   rw[e1] at hst
   rw[e2] at hown
   have hsl:SlU wr (.slice a2 ul x2) v.us:=by
    have h0:=HH.out.2.2.2.1.parts.2
    rw[<-HNK.out.2] at h0
    exact h0.keep hkp fun y q=>(HH.out.1.st.soft y q).str
   have HNA:=Lib.hid (JA.mk' (JaR hown).2 hsl)
   have HE:=Lib.hid (show XW wr vb db sb mb (svK (sv n) v.ch s).2 wr0/\JaM wr v.b/\Jg (S4 sb mb db) w wr from⟨hst,⟨_,hkp.row HV.out.row (HH.out.1.st.row HV.out.row (by decide))⟩,hkp⟩)
   have b0:wr.cell? ⟨ab,0,none⟩=some (.slice (some ⟨g,0,none⟩) j gc):=hbox.cell 0
   have b1:wr.cell? ⟨ab,1,none⟩=some (.slice a2 ul x2):=hbox.cell 1
   obtain⟨hn1,hn2,hn3,hn4⟩:=HNO.out
   have HTX:=Lib.hid (Jjb _ ((svK (sv n) v.ch s).1.map Prod.fst) v.us wr HNA.out ⟨by have:=hn1.len.2;omega,by omega,fun c hc=>⟨⟨by have:=(hn1.ok c hc).addr;omega,by have:=(hn1.ok c hc).addr;omega⟩,(hn1.ok c hc).gen,(hn1.ok c hc).sum⟩,fun c hc=>by have:=(hn1.ok c hc).low;omega,fun u hu=>(hn3 u hu).wf⟩ ⟨hn1,hn2,hn3⟩)
   clear hst hkp hown hbox e1 e2 hsl hn1 hn2 hn3 hn4
   go_upto_region 11 with(fail)
   go_wp2_with fail
   refine HTX.out.mono ?_
   rintro e w5 ⟨rfl,hX5⟩
   obtain⟨cur,hcur⟩:=HE.out.2.1
   have HE5:=Lib.hid (show XW w5 vb db sb mb (svK (sv n) v.ch s).2 wr0/\JaM w5 v.b/\Jg (S4 sb mb db) w w5 from⟨HE.out.1.on hX5,⟨cur,hcur.on hX5⟩,HE.out.2.2.on hX5⟩)
   clear hX5 b0 b1 hcur
   go_wp2_with fail
   go_returns
   exact⟨rfl,HE5.out⟩
theorem JnG:∀n,Jo1 n
 |0=>Jpm
 |n+1=>fun w vb db sb mb s wr lo hi v h=>by
  cases hk:v.kn with
  |some p=>exact JiC h hk
  |none=>
   obtain⟨⟨-,pa,pg,ps,a1,x1,a2,x2,a3,x3,hv,-,-,-⟩,-⟩:=h.m.node (h.m.dirty hk)
   rw[hk] at hv
   have hd:Yb (n+1) v=1+Yf (Yb n) v.ch:=by unfold Yb;rw[hk];rfl
   have h1:=h.gen
   have h2:=h.nn
   obtain⟨-,-,new,m1,-,m3⟩:=Jhx (fun lo hi v s=>JcZ n lo hi v s) v.ch s (fun x hx=>by
    obtain⟨i,hi',e⟩:=List.getElem_of_mem hx
    obtain⟨lo',hi'',k1,-⟩:=JbA h.i.ok i hi'
    rw[e] at k1
    exact⟨⟨lo',hi'',k1⟩,h.i.shf.2 x hx,h.i.ps.2 x hx,h.few.2.2 x hx,(h.i.ok.2.2.2.1 x hx).1⟩) h.i.win (by omega)
   have g1:=m1.gen
   have g2:=m1.nn
   refine(Jd5 (s1:=(svK (sv n) v.ch s).2) (wr:=wr) 5 (Yl ((svK (sv n) v.ch s).1.map Prod.fst) v.us) w hv h.st.sv (m1.win h.i.win) (by omega) (by omega) (Or.inr ⟨List.length_pos_iff.2 h.i.ok.okk.ne,rfl,fun w1 hb1=> ?_⟩) h.st.lt).mono ?_
   ·have h':Jf3 w1 vb db sb mb s wr (n+1) lo hi v:=⟨h.st.on hb1,h.m.on hb1,h.i,h.few,h.gen,h.nn,h.pot⟩
    exact Jpl n (JnG n) h' hk
   ·rintro e w' ⟨rfl,hst,hkp⟩
    exact⟨⟨fre (svK (sv n) v.ch s).2,(svK (sv n) v.ch s).2.gen+1,0⟩,by rw[Z6 hk];rfl,rfl,by rw[Z6 hk];exact hst,hkp⟩
end Go.Proofs.YtafciefjlkdecaaGreat
namespace Go.Proofs.YtafciefjlkdecaaGreat
open Go.RowKit Go.Maps Go.Sort Go.Shelf
set_option linter.unusedVariables false
attribute [local go_sem] Oper.semAt_some
theorem Jka (F:Fence) (n:Nat) (h8:F.fn 83) (hro:F.round=none) (hn:1<=n) (l Bs n₀ b off cap:Nat) (zs:List Int) (hreach:zs.length<=2000000) (hb:b<n₀) (J Jx:List Int->World->Prop)
  (hY:∀pre x W,J pre W->pre.length<zs.length->YieldAt F (n-1) Tryz.prog l #[.int .i64 x] W fun e W'=>
   (e=.returned (.bool true)/\J (pre++[x]) W'/\Below n₀ W W')\/(e=.returned (.bool false)/\Jx (pre++[x]) W'))
  (W:World) (hBs:W.cell? ⟨Bs,0,none⟩=some (.slice (some ⟨b,off,none⟩) zs.length cap)) (hc:∀j,j<zs.length->W.cell? ⟨b,off+j,none⟩=some (.int .i64 (zs[j]?.getD 0))) (h0:J [] W):
  CallsIn F n Tryz.prog 83 #[.func (.yield l) #[] #[],.pointer (some ⟨Bs,0,none⟩)] W fun e W'=>(∃v,e=.returned v)/\
   ((∃ys,ys=zs/\J ys W')\/(∃pre,pre<+:zs/\Jx pre W')):=by
 refine callsIn_of_wp Tryz.func83 rfl h8 ?_ hro
 simp only[Tryz.ntmps83,List.size_toArray,List.length_cons,List.length_nil,Nat.reduceAdd,Nat.reduceSub,Array.replicate_succ,Array.replicate_zero,List.push_toArray,List.append_toArray,List.nil_append,List.cons_append]
 gi_wp2
 gi_loopw [7] (fun i wr=>∃k:Nat,k<=zs.length/\i=.int .i64 k/\J (zs.take k) wr/\Below n₀ W wr)
  (fun i _=>zs.length- (intOf i).toNat)
 case atStart=>exact⟨0,Nat.zero_le _,rfl,h0,Below.refl _ _⟩
 case round=>
  obtain⟨k,hk,rfl,hJs,hnx⟩:=hrel
  by_cases hlt:k<zs.length
  ·have hcx':wr.cell? ⟨b,off+k,none⟩=some (.int .i64 (zs[k]?.getD 0)):=(hnx.cell (p:=⟨b,off+k,none⟩) hb).trans (hc k hlt)
   obtain⟨x,hx⟩:∃x,x=zs[k]?.getD 0:=⟨_,rfl⟩
   have htk:=Lib.hid (show zs.take k++[x]=zs.take (k+1) by rw[hx,List.take_succ_eq_append_getElem hlt,List.getElem?_eq_getElem hlt];rfl)
   rw[<-hx] at hcx'
   clear hx
   obtain⟨fn,tmps,assign,body,hy,hR⟩:=hY _ x wr hJs (by rw[List.length_take];omega)
   gi_wp2
   refine hR.mono ?_
   rintro e W3 (⟨rfl,hJ3,hk3⟩|⟨rfl,hJx3⟩)
   ·gi_wp2
    go_roundw
    case rel=>exact⟨k+1,by omega,by simp,by rw[<-htk.out];exact hJ3,hnx.trans hk3⟩
    case measure=>simp[intOf];omega
   ·gi_wp2
    refine bodyPost_ret (results_none rfl _ _ _) rfl ?_
    exact⟨⟨_,rfl⟩,.inr ⟨_,by rw[htk.out];exact List.take_prefix _ _,hJx3⟩⟩
  ·obtain rfl:k=zs.length:=by omega
   gi_wp2
   go_end0
   exact⟨⟨_,rfl⟩,.inl ⟨zs,rfl,by rw[List.take_length] at hJs;exact hJs⟩⟩
def Jev (n₀:Nat) (W:World) (sv:Value) (zs:List Int):Prop:=
 (sv=.slice none 0 0/\zs=[])\/∃b off cap,sv=.slice (some ⟨b,off,none⟩) zs.length cap/\b<n₀/\∀j,j<zs.length->W.cell? ⟨b,off+j,none⟩=some (.int .i64 (zs[j]?.getD 0))
theorem Jev.below {n₀:Nat} {A B:World} (h:Below n₀ A B) {sv:Value} {zs:List Int}:Jev n₀ A sv zs->Jev n₀ B sv zs
 | .inl e=>.inl e
 | .inr ⟨b,off,cap,e,hb,hc⟩=>.inr ⟨b,off,cap,e,hb,fun j hj=>(h.cell (p:=⟨b,off+j,none⟩) hb).trans (hc j hj)⟩
theorem Jhs (F:Fence) (n:Nat) (h8:F.fn 83) (hro:F.round=none) (hn:1<=n) (Bs n₀:Nat) (sv:Value) (zs:List Int) (hreach:zs.length<=2000000) (w:World) (hBs:Bs<w.heap.size) (hn₀:n₀<=w.heap.size)
  (hc:w.cell? ⟨Bs,0,none⟩=some sv) (hI:Jev n₀ w sv zs):
  SeqStopsK F n Tryz.prog 83 #[.pointer (some ⟨Bs,0,none⟩)] (fun x:Int=> #[Value.int .i64 x]) (Below n₀) (fun ys=>ys=zs) (fun pre=>pre<+:zs) zs.length w:=fun l J Jx W hW _ _ hY h0=>by
 have hc':=(hW.cell (p:=⟨Bs,0,none⟩) hBs).trans hc
 rcases hI.below (hW.mono hn₀) with⟨rfl,rfl⟩|⟨b,off,cap,rfl,hb,hcs⟩
 ·exact(Jbo F n h8 hro l Bs J W hc' h0).mono fun e W' ⟨he,hj⟩=>⟨he,.inl ⟨_,rfl,hj⟩⟩
 ·exact Jka F n h8 hro hn l Bs n₀ b off cap zs hreach hb J Jx hY W hc' hcs h0
theorem Jkm {W W':World} {row:Option Nat} {E:TypeId} {b:Nat} {cur:List Value} (h:Jc W E b cur) (hg:W.grownBy W' row) (hrow:∀r,row=some r->∃o:Obj,W.heap[r]? =some o/\o.isCells=false):Jc W' E b cur:=
 h.kept hg fun e=>by
  obtain⟨o,ho,hc⟩:=hrow b e.symm
  unfold Jc at h
  rw[h] at ho
  cases ho
  cases hc
theorem Jck {W W':World} {row:Option Nat} {B:Nat} {E:TypeId} {k n:Nat} {v:Value} {xs:List Value} (h:W.ownsRow B E k v n xs) (hg:W.grownBy W' row) (hrow:∀r,row=some r->∃o:Obj,W.heap[r]? =some o/\o.isCells=false):W'.ownsRow B E k v n xs:=
 h.kept hg (by
  cases e:v.ownBlock with
  |none=>exact Or.inl rfl
  |some g=>
   refine Or.inr fun e2=> ?_
   obtain⟨o,ho,hc⟩:=hrow g e2.symm
   rcases Jv h with⟨q,-,-⟩|⟨g',cap,cur,q,h1,hr,-⟩
   ·rw[q] at e;simp[Value.ownBlock] at e
   ·rw[q] at e
    simp[Value.ownBlock] at e
    subst e
    unfold Jc at hr
    rw[hr] at ho
    cases ho
    cases hc)
theorem JmP {W:World} {B:Nat} {E:TypeId} {k n:Nat} {v:Value} {xs:List Value} (h:W.ownsRow B E k v n xs) {j:Nat} {o:Obj} (e:v.ownBlock=some j) (ho:W.heap[j]? =some o):o.isCells=true:=by
 rcases Jv h with⟨q,-,-⟩|⟨g',cap,cur,q,h1,hr,-⟩
 ·rw[q] at e;simp[Value.ownBlock] at e
 ·rw[q] at e
  simp[Value.ownBlock] at e
  subst e
  unfold Jc at hr
  rw[hr] at ho
  cases ho
  rfl
theorem Jf0 (n:Nat) (hn:4<=n) (sv:Value) (zs:List Int) (Bs:Nat) (hl:zs.length<=2000000) (w:World) (hBs:Bs<w.heap.size) (hc:w.cell? ⟨Bs,0,none⟩=some sv) (hI:Jev w.heap.size w sv zs):
  CallsIn Fence.wide n Tryz.prog 109 #[.slice none 0 0,.func (.func 83) #[] #[.pointer (some ⟨Bs,0,none⟩)]] w fun e w'=>∃v,e=.returned v/\
   w'.ownsRow w.heap.size 3 1 v zs.length (zs.map encZ)/\Below w.heap.size w w':=by
 have h1:1<=n:=by omega
 obtain⟨i0,hi,hz0,hz1,hz2⟩:=info_parts Jly.i26
 refine callsIn_of_wp_marks Tryz.func109 rfl trivial ?_ rfl
 simp only[Tryz.ntmps109,List.size_toArray,List.length_cons,List.length_nil,Nat.reduceAdd,Nat.reduceSub,Array.replicate_succ,Array.replicate_zero,List.push_toArray,List.append_toArray,List.nil_append,List.cons_append]
 gi_wp2
 obtain⟨W0,hW0⟩:∃W0,W0=w.alloc (.cells #[.slice none 0 0] 55):=⟨_,rfl⟩
 have hs0:W0.heap.size=w.heap.size+1:=by rw[hW0];simp
 have hB0:Below w.heap.size w W0:=by rw[hW0];exact(Below.refl _ w).alloc (Nat.le_refl _) _
 have hR0:Jc W0 55 w.heap.size [.slice none 0 0]:=by rw[hW0];exact Jc.new w _ _
 rw[<-hW0]
 clear hW0
 refine wpIn_rangeFunc_ownG rfl h1 (gf:=83) (lb:= #[.pointer (some ⟨Bs,0,none⟩)]) rfl trivial (enters_of Tryz.func83 (by kernel_rfl) rfl)
  (Jhs Fence.wide (n-1) trivial rfl (by omega) Bs w.heap.size sv zs hl W0 (by omega) (by omega) ((hB0.cell (p:=⟨Bs,0,none⟩) hBs).trans hc) (hI.below hB0)) belowK_t (belowK_b (by omega)) (Below.refl _ _) (fun _=>rfl)
  (fun pre W=>(∃v,Jc W 55 w.heap.size [v]/\W.ownsRow w.heap.size 3 1 v pre.length (pre.map encZ))/\Below w.heap.size w W)
  (fun _ _ _=>False)
  (OwnFrom.and (Own.from (fun s A B row hs hg hr=>by obtain⟨v,h1,h2⟩:=hs;exact⟨v,Jkm h1 hg hr,Jck h2 hg hr⟩) _) (ownFrom_below (Nat.le_refl _) (by omega)))
  (fun _ _ _ _ _ hs _ _=>hs)
  ⟨⟨.slice none 0 0,hR0,World.ownsRow_nil _ _ _ _⟩,hB0⟩
  (fun x=> {tmps:= #[.slice none 0 0,.func (.func 83) #[] #[.pointer (some ⟨Bs,0,none⟩)],.pointer (some ⟨w.heap.size,0,none⟩),undef,.slice none 0 0,.int .i64 x,.func (.func 83) #[] #[.pointer (some ⟨Bs,0,none⟩)],.int .i64 x,undef,undef,undef,undef,undef],defers:=[]}) ?assign ?body ?done ?stop
 case assign=>
  intro l x W K hK
  gi_wp2
  exact hK
 case body=>
  rintro l pre x W ⟨⟨v,hR,hO⟩,hB⟩ hlt
  have hc0:W.cell? ⟨w.heap.size,0,none⟩=some v:=hR.cell 0
  have hf0:W.frozen? ⟨w.heap.size,0,none⟩=false:=hR.frozen 0
  have hsz:=hB.size
  have hvb:v.ownBlock≠some w.heap.size:=fun e=>by
   rcases Jv hO with⟨q,-,-⟩|⟨g',cap,cur,q,h1,hr,-⟩
   ·rw[q] at e;simp[Value.ownBlock] at e
   ·rw[q] at e
    simp[Value.ownBlock] at e
    subst e
    exact absurd (Jc.one hr hR).1 (by decide)
  gi_wp2_with (gi_at_builtin;refine wpListIn_append_own _ rfl _ _ 55 rfl w.heap.size 3 i0 (.int .i64 0) 1 8 Tryz.underlying55 hi hz0 hz1 hz2 rfl (by decide) _ _ _ rfl (hO.alloc _) ⟨W.heap.size,0,none⟩ 1 1 [encZ x] rfl rfl (cell_one_new _ _ _) (by simp[Value.oneCell',encZ]) (by unfold maxLen;omega) (by omega) (by simp;omega) ?_;intro v' w3 hown' hg3 hnil3;clear hnil3;have hR3:Jc w3 55 w.heap.size [v]:=(hR.on ((Below.refl _ _).alloc (Nat.le_refl _) _)).kept hg3 (fun e=>hvb e.symm);have hc3:w3.cell? ⟨w.heap.size,0,none⟩=some v:=hR3.cell 0;have hf3:w3.frozen? ⟨w.heap.size,0,none⟩=false:=hR3.frozen 0;obtain⟨ga,gc,rfl⟩:=Jm hown';go_frame)
  have hg3':(W.alloc (.cells #[.int .i64 x] 3)).grownBy w3 v.ownBlock:=hg3
  clear hg3
  have hvc:∀(j:Nat) (o:Obj),v.ownBlock=some j->(W.alloc (.cells #[.int .i64 x] 3)).heap[j]? =some o->o.isCells=true:=fun j o e ho=>JmP (hO.alloc _) e ho
  have hB3:Below w.heap.size W w3:=((Below.refl _ W).alloc (by omega) _).grown hg3' (by simp;omega) (fun k e=>(hO.lt k e).1)
  have hgb:(Value.slice ga (pre.length+1) gc).ownBlock≠some w.heap.size:=fun e=>by
   obtain⟨cu,hcu⟩:=Jt hown' w.heap.size e
   exact absurd (Jc.one hcu hR3).1 (by decide)
  refine⟨(((KeepsOthers.alloc W _).trans (KeepsOthers.of_grownBy hg3' hvc)).trans (KeepsOthers.setCell _ _ _)).from _,hB3.setCell (p:=⟨w.heap.size,0,none⟩) (Nat.le_refl _) _,⟨_,hR3.put 0 _,?_⟩,(hB.trans hB3).setCell (p:=⟨w.heap.size,0,none⟩) (Nat.le_refl _) _⟩
  rw[List.length_append,List.map_append]
  exact ownsRow_setCell_other (a:=⟨w.heap.size,0,none⟩) hown' (by first|exact hgb|exact fun e=>hgb e.symm) _
 case done=>
  rintro D ys W hD rfl ⟨⟨v,hR,hO⟩,hB⟩ hK
  have hc0:W.cell? ⟨w.heap.size,0,none⟩=some v:=hR.cell 0
  gi_wp2
  refine⟨by simp,.inl ⟨_,_,rfl,run_takeDeferred hK,?_⟩⟩
  exact⟨_,results_tmp rfl _ _ _,v,rfl,Jck hO (grownBy_putObj' _ D (.deferred none)) (fun r e=>by cases e;exact⟨_,hK,rfl⟩),hB.trans (belowK_b (w:=w) (Nat.le_refl _) W D _ _ (by omega) hK rfl rfl)⟩
 case stop=>
  rintro D c pre W _ _ h _
  exact h.elim
theorem Jh6 (n:Nat) (hn:5<=n) (sv:Value) (zs:List Int) (Bs:Nat) (hl:zs.length<=2000000) (w:World) (hBs:Bs<w.heap.size) (hc:w.cell? ⟨Bs,0,none⟩=some sv) (hI:Jev w.heap.size w sv zs):
  CallsIn Fence.wide n Tryz.prog 81 #[.func (.func 83) #[] #[.pointer (some ⟨Bs,0,none⟩)]] w fun e w'=>∃v,e=.returned v/\
   w'.ownsRow w.heap.size 3 1 v zs.length (zs.map encZ)/\Below w.heap.size w w':=by
 have h1:1<=n:=by omega
 refine callsIn_of_wp Tryz.func81 rfl trivial ?_ rfl
 simp only[Tryz.ntmps81,List.size_toArray,List.length_cons,List.length_nil,Nat.reduceAdd,Nat.reduceSub,Array.replicate_succ,Array.replicate_zero,List.push_toArray,List.append_toArray,List.nil_append,List.cons_append]
 gi_wp2
 refine⟨trivial,(Jf0 (n-1) (by omega) sv zs Bs hl w hBs hc hI).mono ?_⟩
 rintro e w' ⟨v,rfl,hO,hB⟩
 obtain⟨ga,gc,rfl⟩:=Jm hO
 gi_wp2
 go_ret
 exact⟨_,rfl,hO,hB⟩
theorem Jit (sv:Value) (zs:List Int) (Bs:Nat) (hl:zs.length<=2000000) (w:World) (hBs:Bs<w.heap.size) (hc:w.cell? ⟨Bs,0,none⟩=some sv) (hI:Jev w.heap.size w sv zs):
  Calls Tryz.prog 45 #[.func (.func 83) #[] #[.pointer (some ⟨Bs,0,none⟩)]] w fun e w'=>∃v,e=.returned v/\
   w'.ownsRow w.heap.size 3 1 v zs.length ((zs.mergeSort fun x y=>decide (x<=y)).map encZ)/\Below w.heap.size w w':=by
 refine(callsIn_wide (n:=9)).1 ?_
 refine callsIn_of_wp Tryz.func45 rfl trivial ?_ rfl
 simp only[Tryz.ntmps45,List.size_toArray,List.length_cons,List.length_nil,Nat.reduceAdd,Nat.reduceSub,Array.replicate_succ,Array.replicate_zero,List.push_toArray,List.append_toArray,List.nil_append,List.cons_append]
 gi_wp2
 refine⟨trivial,(Jh6 8 (by omega) sv zs Bs hl w hBs hc hI).mono ?_⟩
 rintro e W ⟨v,rfl,hrow,hb⟩
 have hsort:=JnK 8
 rcases hrow.2 with⟨rfl,hz⟩|⟨gb,cap,cur,rfl,hbase,hgb,r1,r2,r3,r4⟩
 ·have hss:zs=[]:=List.eq_nil_of_length_eq_zero hz
  subst hss
  gi_wp2
  refine⟨trivial,(hsort.2 none 0 W).mono ?_⟩
  rintro e w' ⟨rfl,rfl⟩
  gi_wp2
  go_ret
  exact⟨.slice none 0 0,rfl,by simpa using hrow,hb⟩
 ·have hH:Holds encZ W gb 0 zs.toArray:=holds_of_block_i hgb (by simpa using r4)
  have hgl:gb<W.heap.size:=(Array.getElem?_eq_some_iff.1 hgb).1
  have hsz:zs.length<4611686018427387904:=by omega
  have cS:=hsort.1 gb 0 cap zs W hH hgl hsz
  gi_wp2
  refine⟨trivial,cS.mono ?_⟩
  rintro e w' ⟨rfl,nn,os,rfl⟩
  gi_wp2
  go_ret
  exact⟨_,rfl,ownsRow_sorted_i (by simp) hbase hgb r1 r2 r3,hb.grown (grownBy_sorted_i _) hb.size (fun j hj=>by cases hj;exact hbase)⟩
end Go.Proofs.YtafciefjlkdecaaGreat
namespace Go.Proofs.YtafciefjlkdecaaGreat
open Go.RowKit
attribute [local go_sem ↓] Go.wp_at_zero Go.wp_at_succ
theorem XK.ints {w:World} {gv:Value} {gone:List Int} (h:XK w gv gone):Jev w.heap.size w gv gone:=by
 obtain⟨a,c,rfl⟩:=h.form
 cases gone with
 |nil=>
  rcases Jv h.own with⟨q,-,-⟩|⟨g,cap,cur,q,h1,hr,-⟩
  ·exact Or.inl ⟨q,rfl⟩
  ·refine Or.inr ⟨g,0,c,?_,hr.lt,fun j hj=>by simp at hj⟩
   simp only[Value.slice.injEq] at q
   rw[q.1]
 |cons x l=>
  obtain⟨g,rfl,hg,-,hc⟩:=Yk h.own (by simp)
  obtain⟨cu,hcu⟩:=Jt h.own g rfl
  refine Or.inr ⟨g,0,c,rfl,hcu.lt,fun j hj=> ?_⟩
  rw[Nat.zero_add]
  refine hc j _ ?_
  rw[List.getElem?_map,List.getElem?_eq_getElem hj]
  rfl
theorem Jlg {tb b sb mb:Nat} {F B L:Int} {h':Int} {fl le:Int} {gv:Value} {gone:List Int} {s1:Sf} {wr:Nat} {p:Pt} (fn:Fn) (xs ys:Array Value) (w:World)
  (ht:Yj w tb F B L (ldV sb) b h' gv fl le) (hgn:XK w gv gone) (hgl:gone.length<=1000000) (hgs:∀x,gv.ownBlock=some x->x≠sb/\x≠mb/\x≠tb) (hst:sb≠tb) (hmt:mb≠tb) (hz:sb<w.heap.size/\mb<w.heap.size)
  (HS:∀vb db w2,Below w.heap.size w w2->w.heap.size<=vb->w.heap.size<=db->JaJ w2 vb (.func fn xs ys) db->YU w2 db->Calls Tryz.prog 44 #[.pointer (some ⟨vb,0,none⟩),.pointer (some ⟨b,0,none⟩)] w2 fun e w3=>e=.returned (.tuple #[ptV p,.int .i64 0])/\Jif w3 sb mb s1 wr/\Jg (S4 sb mb db) w2 w3):
  Calls Tryz.prog 19 #[.pointer (some ⟨tb,0,none⟩),.func fn xs ys] w fun e w'=>∃gw,e=.returned (.tuple #[ptV p,gw,.int .i64 0])/\w'.ownsRow w.heap.size 3 1 gw gone.length ((gone.mergeSort fun x y=>decide (x<=y)).map fun x=>.int .i64 x)/\Jif w' sb mb s1 wr/\
   (∃nb,w.heap.size<=nb/\Yj w' tb F B L (ldV sb) nb h' (.slice none 0 0) fl le/\Jq w' nb true p.a p.g p.s false (.slice none 0 0) (.slice none 0 0) (.slice none 0 0) (.slice none 0 0))/\Jg (fun x=>x=sb\/x=mb\/x=tb) w w':=by
 have HSL:=Lib.hid HS
 have hT:=Lib.hid ht
 have HGN:=Lib.hid (And.intro hgn (And.intro hgl hgs))
 have htz:tb<w.heap.size:=ht.lt
 have hsz':=hz.1
 have hmz':=hz.2
 clear ht hgn hgs HS hz hgl
 go_enter Tryz.func19,Tryz.ntmps19
 go_upto_region 1 with(fail)
 obtain⟨W,hW⟩:∃W,W=w.alloc (.cells #[.int .i64 0,.int .u64 0,.int .u32 0] 54):=⟨_,rfl⟩
 have hG:=Lib.hid (show Y6 W 54 w.heap.size [.int .i64 0,.int .u64 0,.int .u32 0] from⟨by rw[hW];exact Jc.new w _ _⟩)
 have hb0:Below w.heap.size w W:=by rw[hW];exact(Below.refl _ w).alloc (Nat.le_refl _) _
 have hWs:W.heap.size=w.heap.size+1:=by rw[hW];simp
 rw[<-hW]
 clear hW
 replace hT:=Lib.hid (hT.out.kept hb0 (Nat.le_refl _))
 have hfe:=JlF fn xs ys W
 have hmm:= @run_makeMap Tryz.prog
 go_upto_region 4 with(fail)
 obtain⟨W2,hW2⟩:∃W2,W2=(W.alloc (.map #[] 0)).alloc (.cells #[.func fn xs ys,.map (some (w.heap.size+1))] 121):=⟨_,rfl⟩
 have hX2:Below W.heap.size W W2:=by rw[hW2];exact((Below.refl _ W).alloc (Nat.le_refl _) _).alloc (by simp) _
 have hd2:=Lib.hid (show YU W2 (w.heap.size+1) by
  rw[hW2]
  have h1:=YU.made W
  rw[hWs] at h1
  exact h1.on ((Below.refl _ _).alloc (Nat.le_refl _) _))
 have hsv2:=Lib.hid (show JaJ W2 (w.heap.size+2) (.func fn xs ys) (w.heap.size+1) from⟨by
  rw[hW2]
  exact Jc.new' _ _ _ _ (by simp;omega)⟩)
 have hW2s:W2.heap.size=w.heap.size+3:=by rw[hW2];simp;omega
 rw[<-hW2]
 clear hW2 hfe hmm
 have hG2:=Lib.hid (hG.out.on hX2)
 have hT2:=Lib.hid (hT.out.on hX2)
 have hb2:=hb0.trans (hX2.mono (by omega))
 clear hG hT hb0 hX2
 have c4:=hT2.out.c4
 have HCS:=Lib.hid (HSL.out _ _ W2 hb2 (by omega) (by omega) hsv2.out hd2.out)
 clear HSL hsv2 hd2
 go_wp2_with fail
 refine HCS.out.mono ?_
 rintro e w3 ⟨rfl,hs3,hK3⟩
 have hn4:∀x,x<w.heap.size->x≠sb->x≠mb->¬S4 sb mb (w.heap.size+1) x:=fun x h1 h2 h3 q=>by
  rcases q with q|q|q
  ·exact h2 q
  ·exact h3 q
  ·omega
 have hG3:=Lib.hid (hG2.out.keep hK3 (fun q=>by unfold S4 at q;omega))
 have hT3:=Lib.hid (show Yj w3 tb F B L (ldV sb) b h' gv fl le from⟨hK3.row hT2.out.row (hn4 tb htz (fun e=>hst e.symm) (fun e=>hmt e.symm))⟩)
 have HGN3:=Lib.hid (show XK w3 gv gone from(HGN.out.1.on hb2).keep hK3 fun x hx=>hn4 x (HGN.out.1.soft x hx).2 (HGN.out.2.2 x hx).1 (HGN.out.2.2 x hx).2.1)
 have HS3:=Lib.hid hs3
 have hKa:=((Jg.of_below (S:=fun x=>x=sb\/x=mb\/x=tb) hb2)).trans hK3 (fun x hx=>by
  rcases hx with q|q|q
  ·exact Or.inl (Or.inl q)
  ·exact Or.inl (Or.inr (Or.inl q))
  ·exact Or.inr (by omega))
 have hw3s:w.heap.size+3<=w3.heap.size:=by have:=hK3.size;omega
 clear hs3 hK3 hG2 hT2 hb2 c4 HCS hn4
 go_upto_region 5 with(fail)
 obtain⟨W4,hW4⟩:∃W4,W4=w3.alloc (.cells #[.int .i64 p.a,.int .u64 p.g,.int .u32 p.s] 54):=⟨_,rfl⟩
 have hX4:Below w3.heap.size w3 W4:=by rw[hW4];exact(Below.refl _ w3).alloc (Nat.le_refl _) _
 have hP4:=Lib.hid (show Y6 W4 54 w3.heap.size [.int .i64 p.a,.int .u64 p.g,.int .u32 p.s] from⟨by rw[hW4];exact Jc.new w3 _ _⟩)
 have hW4s:w3.heap.size+1<=W4.heap.size:=by rw[hW4];simp
 rw[<-hW4]
 clear hW4
 have hG4:=Lib.hid (hG3.out.on hX4)
 have hT4:=Lib.hid (hT3.out.on hX4)
 have HS4:=Lib.hid (show Jif W4 sb mb s1 wr from HS3.out.on hX4)
 have HGN4:=Lib.hid (HGN3.out.on hX4)
 have hK4:=hKa.on hX4
 clear hG3 hT3 HS3 hKa hX4 HGN3
 obtain⟨ga,gc,hgv⟩:=HGN4.out.form
 subst hgv
 obtain⟨gn,hgnl⟩:∃gn,gn=gone.length:=⟨_,rfl⟩
 have HGL:=Lib.hid hgnl
 rw[<-hgnl] at HGN4 hT4 HGN
 clear hgnl
 have c6:=hT4.out.c6
 go_wp2_with fail
 refine(JeN ga gn gc W4).mono ?_
 rintro e w5 ⟨rfl,hw5⟩
 have hX5:Below W4.heap.size W4 w5:=by rw[hw5];exact(Below.refl _ W4).alloc (Nat.le_refl _) _
 have HSO:=Lib.hid (Jit (.slice ga gn gc) gone W4.heap.size (by have:=HGN.out.2.1;have:=HGL.out;omega) w5 (by rw[hw5];simp) (by rw[hw5];simp) (by
  have h1:=HGN4.out.ints.below hX5
  rcases h1 with q|⟨x,off,cap,q1,q2,q3⟩
  ·exact Or.inl q
  ·exact Or.inr ⟨x,off,cap,q1,by have:=hX5.size;omega,q3⟩))
 clear hw5
 go_wp2_with fail
 refine HSO.out.mono ?_
 rintro e w6 ⟨gw,rfl,hgw,hX6⟩
 obtain⟨wa,wc,rfl⟩:=Jm hgw
 rw[<-HGL.out] at hgw
 have hX46:Below W4.heap.size W4 w6:=hX5.trans (hX6.mono hX5.size)
 have hG6:=Lib.hid (hG4.out.on hX46)
 have hT6:=Lib.hid (hT4.out.on hX46)
 have HS6:=Lib.hid (show Jif w6 sb mb s1 wr from HS4.out.on hX46)
 have hP6:=Lib.hid (hP4.out.on hX46)
 have hK6:=hK4.on hX46
 have hw6:w3.heap.size+1<=w6.heap.size:=by have:=hX46.size;omega
 have hw5z:w3.heap.size+1<=w5.heap.size:=by have:=hX5.size;omega
 have hgwt:(Value.slice wa gn wc).ownBlock≠some tb:=fun e=>by have:=(hgw.lt tb e).1;omega
 have hgw0:(Value.slice wa gn wc).ownBlock≠some w.heap.size:=fun e=>by have:=(hgw.lt w.heap.size e).1;omega
 rw[<-HGL.out]
 have HGW:=Lib.hid hgw
 clear hG4 hT4 HS4 hP4 hK4 hX6 hX5 c6 hX46 HSO hgw
 have tf4:=hT6.out.fz 4
 have tf6:=hT6.out.fz 6
 have c6:=hT6.out.c6
 have c4:=hT6.out.c4
 have p0:w6.cell? ⟨w3.heap.size,0,none⟩=some (.int .i64 p.a):=hP6.out.cell 0
 have p1:w6.cell? ⟨w3.heap.size,1,none⟩=some (.int .u64 p.g):=hP6.out.cell 1
 have p2:w6.cell? ⟨w3.heap.size,2,none⟩=some (.int .u32 p.s):=hP6.out.cell 2
 have g0:=hG6.out.cell 0
 have g1:=hG6.out.cell 1
 have g2:=hG6.out.cell 2
 have gf0:=hG6.out.fz 0
 have gf1:=hG6.out.fz 1
 have gf2:=hG6.out.fz 2
 have hnt:w3.heap.size≠tb:=by omega
 go_upto_region 9 with(fail)
 obtain⟨W8,hW8⟩:∃W8,W8=w6.setCell ⟨tb,6,none⟩ (.slice none 0 0):=⟨_,rfl⟩
 have hT8:=Lib.hid (show Yj W8 tb F B L (ldV sb) b h' (.slice none 0 0) fl le from⟨by rw[hW8];exact hT6.out.row.put 6 _⟩)
 have hP8:=Lib.hid (show Jc W8 54 w3.heap.size [.int .i64 p.a,.int .u64 p.g,.int .u32 p.s] by rw[hW8];exact hP6.out.row.far _ hnt _)
 have hG8:=Lib.hid (show Jc W8 54 w.heap.size [.int .i64 0,.int .u64 0,.int .u32 0] by rw[hW8];exact hG6.out.row.far _ (by show w.heap.size≠tb;omega) _)
 have hg8:w6.grownBy W8 (some tb):=by
  rw[hW8]
  exact⟨rfl,rfl,rfl,by rw[World.size_setCell];exact Nat.le_refl _,fun k _ hk=>Go.heap_setCell_other _ _ _ _ (fun e=>hk (by rw[e]))⟩
 have HS8:=Lib.hid (show Jif W8 sb mb s1 wr from⟨HS6.out.row.kept hg8 (fun e=>hst (Option.some.inj e)),HS6.out.map.kept' hg8 (fun e=>hmt (Option.some.inj e))⟩)
 have hK8:Jg (fun x=>x=sb\/x=mb\/x=tb) w W8:=hK6.grown hg8 (fun k e=>Or.inl (Or.inr (Or.inr (Option.some.inj e).symm)))
 have HGW8:=Lib.hid (HGW.out.kept hg8 (Or.inr hgwt))
 have hw8:w3.heap.size+1<=W8.heap.size:=by have:=hg8.size;omega
 rw[<-hW8]
 clear hW8 hg8 hT6 hP6 hG6 HS6 hK6 p0 p1 p2 g0 g1 g2 gf0 gf1 gf2 tf4 tf6 c6 c4 HGW
 have htz8:tb<W8.heap.size:=by omega
 have p0:W8.cell? ⟨w3.heap.size,0,none⟩=some (.int .i64 p.a):=hP8.out.cell 0
 have p1:W8.cell? ⟨w3.heap.size,1,none⟩=some (.int .u64 p.g):=hP8.out.cell 1
 have p2:W8.cell? ⟨w3.heap.size,2,none⟩=some (.int .u32 p.s):=hP8.out.cell 2
 have e4:∀x,(W8.alloc x).cell? ⟨tb,4,none⟩=some (.pointer (some ⟨b,0,none⟩)):=fun x=>(World.cell?_alloc_past _ _ _ htz8).trans hT8.out.c4
 have ef4:∀x,(W8.alloc x).frozen? ⟨tb,4,none⟩=false:=fun x=>by rw[World.frozen?_alloc_past _ _ _ htz8];exact hT8.out.fz 4
 go_upto_region 10 with(fail)
 obtain⟨W9,hW9⟩:∃W9,W9=(W8.setCell ⟨tb,4,none⟩ (.pointer (some ⟨W8.heap.size,0,none⟩))).alloc (.cells #[.bool true,.int .i64 p.a,.int .u64 p.g,.int .u32 p.s,.bool false,.slice none 0 0,.slice none 0 0,.slice none 0 0,.slice none 0 0] 108):=⟨_,rfl⟩
 have hg9:W8.grownBy W9 (some tb):=by
  rw[hW9]
  exact⟨rfl,rfl,rfl,by simp,fun k hk hk2=>(Below.heap_alloc _ _ k (by simpa using hk)).trans (Go.heap_setCell_other _ _ _ _ (fun e=>hk2 (by rw[e])))⟩
 have hT9:=Lib.hid (show Yj W9 tb F B L (ldV sb) W8.heap.size h' (.slice none 0 0) fl le from⟨by
  rw[hW9]
  exact Jc.on (show Jc (W8.setCell ⟨tb,4,none⟩ (.pointer (some ⟨W8.heap.size,0,none⟩))) _ tb _ from hT8.out.row.put 4 _) ((Below.refl _ _).alloc (Nat.le_refl _) _)⟩)
 have hV9:=Lib.hid (show Jq W9 W8.heap.size true p.a p.g p.s false (.slice none 0 0) (.slice none 0 0) (.slice none 0 0) (.slice none 0 0) from⟨by
  rw[hW9]
  exact Jc.new' _ _ _ _ (by simp)⟩)
 have hP9:=Lib.hid (show Jc W9 54 w3.heap.size _ from hP8.out.kept hg9 (fun e=>hnt (Option.some.inj e)))
 have hG9:=Lib.hid (show Jc W9 54 w.heap.size _ from hG8.out.kept hg9 (fun e=>by have:=Option.some.inj e;omega))
 have HS9:=Lib.hid (show Jif W9 sb mb s1 wr from⟨HS8.out.row.kept hg9 (fun e=>hst (Option.some.inj e)),HS8.out.map.kept' hg9 (fun e=>hmt (Option.some.inj e))⟩)
 have hK9:Jg (fun x=>x=sb\/x=mb\/x=tb) w W9:=hK8.grown hg9 (fun k e=>Or.inl (Or.inr (Or.inr (Option.some.inj e).symm)))
 have HGW9:=Lib.hid (HGW8.out.kept hg9 (Or.inr hgwt))
 have hw9:W8.heap.size<W9.heap.size:=hV9.out.lt
 have hw89:w.heap.size<=W8.heap.size:=by omega
 rw[<-hW9]
 clear hW9 hg9 hT8 hP8 hG8 HS8 hK8 p0 p1 p2 e4 ef4 HGW8
 have p0:W9.cell? ⟨w3.heap.size,0,none⟩=some (.int .i64 p.a):=hP9.out.cell 0
 have p1:W9.cell? ⟨w3.heap.size,1,none⟩=some (.int .u64 p.g):=hP9.out.cell 1
 have p2:W9.cell? ⟨w3.heap.size,2,none⟩=some (.int .u32 p.s):=hP9.out.cell 2
 have kf0:=hG9.out.frozen 0
 have kf1:=hG9.out.frozen 1
 have kf2:=hG9.out.frozen 2
 have g0:W9.cell? ⟨w.heap.size,0,none⟩=some (.int .i64 0):=hG9.out.cell 0
 have g1:W9.cell? ⟨w.heap.size,1,none⟩=some (.int .u64 0):=hG9.out.cell 1
 have g2:W9.cell? ⟨w.heap.size,2,none⟩=some (.int .u32 0):=hG9.out.cell 2
 go_wp2_with fail
 obtain⟨ZZ,hZZ⟩:∃ZZ,ZZ=((W9.setCell ⟨w.heap.size,0,none⟩ (.int .i64 p.a)).setCell ⟨w.heap.size,1,none⟩ (.int .u64 p.g)).setCell ⟨w.heap.size,2,none⟩ (.int .u32 p.s):=⟨_,rfl⟩
 have hrow:Jc ZZ 54 w.heap.size [.int .i64 p.a,.int .u64 p.g,.int .u32 p.s]:=by rw[hZZ];exact((hG9.out.put 0 _).put 1 _).put 2 _
 have t0:ZZ.cell? ⟨w.heap.size,0,none⟩=some (.int .i64 p.a):=hrow.cell 0
 have t1:ZZ.cell? ⟨w.heap.size,1,none⟩=some (.int .u64 p.g):=hrow.cell 1
 have t2:ZZ.cell? ⟨w.heap.size,2,none⟩=some (.int .u32 p.s):=hrow.cell 2
 have hgl:W9.grownBy ZZ (some w.heap.size):=by
  rw[hZZ]
  exact⟨rfl,rfl,rfl,by simp only[World.size_setCell];exact Nat.le_refl _,fun k _ hk=>by
   have hkw:k≠w.heap.size:=fun e=>hk (by rw[e])
   rw[Go.heap_setCell_other _ _ _ _ hkw,Go.heap_setCell_other _ _ _ _ hkw,Go.heap_setCell_other _ _ _ _ hkw]⟩
 have hsz:Jif ZZ sb mb s1 wr:=
  ⟨HS9.out.row.kept hgl (fun e=>by have:=Option.some.inj e;omega),HS9.out.map.kept' hgl (fun e=>by have:=Option.some.inj e;omega)⟩
 have hTz:Yj ZZ tb F B L (ldV sb) W8.heap.size h' (.slice none 0 0) fl le:=⟨hT9.out.row.kept hgl (fun e=>by have:=Option.some.inj e;omega)⟩
 have hVz:Jq ZZ W8.heap.size true p.a p.g p.s false (.slice none 0 0) (.slice none 0 0) (.slice none 0 0) (.slice none 0 0):=⟨hV9.out.row.kept hgl (fun e=>by have:=Option.some.inj e;omega)⟩
 have hKf:Jg (fun x=>x=sb\/x=mb\/x=tb) w ZZ:=hK9.grown hgl (fun k e=>Or.inr (by have:=Option.some.inj e;omega))
 have hGz:=HGW9.out.kept hgl (Or.inr hgw0)
 rw[<-hZZ]
 clear hZZ p0 p1 p2 kf0 kf1 kf2 hgl g0 g1 g2 hrow
 refine bodyPost_ret (v:=.tuple #[.agg #[.int .i64 p.a,.int .u64 p.g,.int .u32 p.s],.slice wa gn wc,.int .i64 0]) (by simp[results,Tryz.results19,go_sem,t0,t1,t2]) rfl ⟨_,rfl,?_,hsz,⟨_,hw89,hTz,hVz⟩,hKf⟩
 rw[<-HGL.out]
 exact JI hGz (by omega)
end Go.Proofs.YtafciefjlkdecaaGreat
namespace Go.Proofs.YtafciefjlkdecaaGreat
open Go.RowKit
def Kx.sf (K:Kx):Sf:=⟨K.f,K.gen,K.nn,K.sz⟩
def Kx.aft (K:Kx) (s:Sf):Kx:= {K with f:=s.f,gen:=s.gen,nn:=s.nn,sz:=s.sz}
structure Jpa (K:Kx) (n:Nat) (v:Vt):Prop where
 ps:Zs n v
 few:Few n v
 win:Win K.sf
 gen:K.gen+Yb n v<=80000
 nn:K.nn+Yb n v<=80000
 cnt:(addrs n v).length+Yb n v<=1000000
structure Jmc (K:Kx) (n:Nat) (w:World) (v:Vt) (T:Tx) (w':World) (p:Pt) (nb:Nat):Prop where
 ok:Y2 (K.aft (sv n v K.sf).2) n w' {(sv n v K.sf).1 with b:=nb,mem:=true,ld:=false} {T with gv:=.slice none 0 0,gone:=[]}
 kn:(sv n v K.sf).1.kn=some p
 nb:w.heap.size<=nb
 keep:Jg (fun x=>x=K.sb\/x=K.mb\/x=K.tb) w w'
theorem CAt.ne {w:World} {K:Kx} {root h:Nat} {T:Tx} (c:CAt w K root h T):K.sb≠K.tb/\K.mb≠K.tb/\(∀x,T.gv.ownBlock=some x->x≠K.sb/\x≠K.mb/\x≠K.tb):=by
 refine⟨fun e=> ?_,fun e=> ?_,fun x hx=> ?_⟩
 ·have h1:=c.sh.row
  rw[e] at h1
  exact absurd (h1.one c.tr.row).1 (by decide)
 ·have h1:=c.tr.row
  rw[<-e] at h1
  exact c.sh.noMap h1
 ·obtain⟨cu,hcu⟩:=Jt c.gn.own x hx
  refine⟨fun e=> ?_,fun e=> ?_,fun e=> ?_⟩
  ·rw[e] at hcu
   exact absurd (hcu.one c.sh.row).1 (by decide)
  ·rw[e] at hcu
   exact c.sh.noMap hcu
  ·rw[e] at hcu
   exact absurd (hcu.one c.tr.row).1 (by decide)
theorem JjA {w:World} {n:Nat} {v:Vt} {p:Pt} {nb:Nat} (h:Dsk n v) (hk:v.kn=some p) (hv:Jq w nb true p.a p.g p.s false (.slice none 0 0) (.slice none 0 0) (.slice none 0 0) (.slice none 0 0)):Mem w n {v with b:=nb,mem:=true,ld:=false}/\(blocks n {v with b:=nb,mem:=true,ld:=false})=[nb]:=by
 have hf:Jd1 w {v with b:=nb,mem:=true,ld:=false}:=⟨rfl,p,hk,hv⟩
 cases n with
 |zero=>exact⟨⟨rfl,Or.inr hf⟩,J8 _ rfl⟩
 |succ n=>
  refine⟨⟨rfl,Or.inr ⟨hf,h.2⟩⟩,?_⟩
  rw[Y1 _ _ rfl]
  show nb::v.ch.flatMap (fun x=>blocks n x.2)=[nb]
  rw[List.flatMap_eq_nil_iff.2 fun x hx=>(h.2 x hx).blocks]
theorem Jiv {f:Int->Option Blk}:∀ {n:Nat} {v:Vt} {b:Nat} {m l:Bool},Shf f n v->Shf f n {v with b:=b,mem:=m,ld:=l}
 |0,_,_,_,_,h=>h
 |_+1,_,_,_,_,h=>h
theorem JcW {K:Kx} {n:Nat} {w:World} {v:Vt} {T:Tx} (t:Y2 K n w v T) (h:Jpa K n v):Jo0 n [] [] v K.sf:=⟨t.ok,t.sh,h.win,h.ps,by have:=h.gen;show K.gen+_<=_;omega⟩
theorem Jp4 {K:Kx} {n:Nat} {v:Vt} {T:Tx} (w:World) (t:Y2 K n w v T) (h:Jpa K n v):
  Calls Tryz.prog 19 #[.pointer (some ⟨K.tb,0,none⟩),svV K.sb] w fun e w'=>∃p gw nb,e=.returned (.tuple #[ptV p,gw,.int .i64 0])/\w'.ownsRow w.heap.size 3 1 gw T.gone.length ((T.gone.mergeSort fun x y=>decide (x<=y)).map fun x=>.int .i64 x)/\Jmc K n w v T w' p nb:=by
 have hin:=JcW t h
 have hok:=JcZ n [] [] v K.sf hin h.few
 obtain⟨p,hp,-⟩:=hok.kn
 obtain⟨n1,n2,n3⟩:=t.c.ne
 have hgl:=t.gone
 refine(Jlg (s1:=(sv n v K.sf).2) (wr:=T.wr) (p:=p) (.func 20) #[.pointer (some ⟨K.sb,0,none⟩)] #[] w t.c.tr t.c.gn (by omega) n3 n1 n2 ⟨t.c.sh.row.lt,t.c.sh.map.lt⟩ ?_).mono ?_
 ·intro vb db w2 hb h1 h2 hsv hpm
  have hpre:Jf3 w2 vb db K.sb K.mb K.sf T.wr n [] [] v:=⟨⟨hsv,hpm,t.c.sh.on hb,fun e=>by have:=t.c.sh.map.lt;omega⟩,t.m.on hb,hin,h.few,h.gen,h.nn,Nat.le_trans (Nat.le_trans (Nat.le_add_right _ _) t.pot) (by omega)⟩
  refine(JnG n w2 vb db K.sb K.mb K.sf T.wr [] [] v hpre).mono ?_
  rintro e w3 ⟨q,hq,rfl,hst,hk⟩
  rw[hp] at hq
  obtain rfl:=Option.some.inj hq
  exact⟨rfl,hst.sh,hk⟩
 ·rintro e w' ⟨gw,rfl,hgw,hsf,⟨nb,hnb,htr,hvx⟩,hk⟩
  obtain⟨hm,hbl⟩:=JjA hok.dsk hp hvx
  obtain⟨new,m1,m2,m3⟩:=hok.more
  have hl:=m2.length_eq
  rw[List.length_append] at hl
  have hlm:=Jb0 n (sv n v K.sf).1 [] [] nb true false (sv n v K.sf).1.kn (Jam n _ _ _ _ hok.like t.ok)
  have hcnt:=h.cnt
  refine⟨p,gw,nb,rfl,hgw,⟨⟨⟨htr,XK.nil _,hsf⟩,hm,by rw[hbl];simp,Jam n _ _ _ _ hlm (Jam n _ _ _ _ hok.like t.ok),Jiv hok.shf,?_,t.wr,?_,?_⟩,hp,hnb,hk⟩⟩
  ·rw[Jbz n _ _ hlm,Jbz n _ _ hok.like];exact t.pot
  ·rw[Ja6]
   show 0+(addrs n (sv n v K.sf).1).length<=1000000
   omega
  ·rw[Jdf n _ _ hlm,Jdf n _ _ hok.like];exact t.fl
open Go.RowKit
attribute [local go_sem ↓] Go.wp_at_zero Go.wp_at_succ
theorem Jhq:Jl9 0:=by
 intro X root h T v lo hi sb slo shi most outs oa oc b m d above w hh hin hu hhn hn
 obtain rfl:hh=1:=by omega
 have hb0:=Below.refl w.heap.size w
 have HS:=Lib.hid hin.s
 have HU:=Lib.hid hu
 have HI:=Lib.hid hin
 obtain⟨tb,htb⟩:∃tb,tb=X.tb:=⟨_,rfl⟩
 rw[<-htb] at HS
 have HTB:=Lib.hid htb
 clear htb hin hu hhn
 go_enter Tryz.func43,Tryz.ntmps43
 go_upto_region 1 with(fail)
 obtain⟨W,hW_W⟩:∃W,W=(w.alloc (.cells #[.slice b m d] 103)):=⟨_,rfl⟩
 rw[<-hW_W]
 have hX_W:Below w.heap.size w W:=by rw[hW_W];go_grown
 have gu0:W.cell? ⟨w.heap.size,0,none⟩=some (.slice b m d):=by rw[hW_W,World.cell?_alloc_at _ _ _ _ (by simp)];rfl
 clear hW_W
 have hz_W:=hX_W.size
 replace HS:=Lib.hid (HS.out.kept hX_W (Nat.le_refl _))
 replace HU:=Lib.hid (HU.out.kept hX_W (Nat.le_refl _))
 replace hb0:=hb0.trans (hX_W.mono hb0.size)
 clear hX_W
 have c0:=HS.out.c0
 have HFT:=Lib.hid (show Calls Tryz.prog 50 #[.pointer (some ⟨tb,0,none⟩),.pointer (some ⟨v.b,0,none⟩),.int .i64 1] W _ from HTB.out▸(HI.out.on hb0).fetch 1 (by rfl))
 go_wp2_with fail
 refine HFT.out.mono ?_
 rintro e w2 ⟨wr1,hwr1,c1,k1,s1,⟨rfl,h0⟩|⟨v1,ld,rfl,hv1⟩⟩
 ·have HR:=Lib.hid (And.intro hwr1 (And.intro c1 (And.intro k1 h0)))
  have HB0:=Lib.hid hb0
  clear hwr1 c1 k1 s1 h0 hb0
  go_wp2_with fail
  go_ret
  show JbM X root h T sb slo shi most outs oa oc _ w (.returned (.int .i64 10)) w2
  exact⟨wr1,HR.out.1,HR.out.2.1,(Jg.of_below HB0.out).trans' HR.out.2.2.1,Or.inl ⟨rfl,HR.out.2.2.2⟩⟩
 ·obtain⟨-,pa,pg,ps,la,lc,hv,-,hbx⟩:=hv1.mem.leaf hv1.ld
  have v5:=hv.c5
  have hpw:v1.es.length<=1002/\above.length<=1000:=by
   have h1:=HI.out.pot
   have h2:=hv1.pot
   have h3:=Jas (v:=v1) (N:=1000) (by omega)
   omega
  have hgl:¬S3 X.sb sb (Z2 oa outs.length oc) w.heap.size:=fun q=>by
   have:=(Jap HI.out.c HI.out.s q).1
   omega
  have gu2:=k1.cellAt gu0 hgl
  have HU2:=Lib.hid (HU.out.keepN k1 fun x q=>(Jap (HI.out.on hb0).c (HI.out.on hb0).s q).2.1)
  have HE:=Lib.hid (And.intro hv1.ok.rise0 (And.intro hv1.ok.fine (And.intro hbx HI.out.g)))
  have HV:=Lib.hid hv1
  have HR:=Lib.hid (And.intro hwr1 (And.intro c1 (And.intro k1 s1)))
  have HB0:=Lib.hid hb0
  have hzz:=hb0.size
  have HK:=Lib.hid k1.size
  have hol:=HI.out.o
  clear hwr1 c1 k1 s1 hb0 hbx hv hv1 hgl gu0 c0
  go_upto_region 5 with(fail)
  have hd:Below w2.heap.size w2 w2.drew:=Jb (Below.refl _ _)
  go_region_law (first|(go_simp;go_at_call 74;refine(Jox (tb:=X.tb) _ (HR.out.2.2.2.on hd) (HE.out.2.2.1.kept hd (Nat.le_refl _)) (HU2.out.kept hd (Nat.le_refl _)) (by omega) HE.out.1 HE.out.2.1 (by omega) (fun u hu=>(HE.out.2.2.2.ok u hu).1.wf) (by omega)).mono ?_;rintro e w4 ⟨rfl,⟨oa',oc',h4,hg4⟩,hK4⟩))
  all_goals
   have H4:=Lib.hid (And.intro h4 (And.intro hg4 hK4))
   clear h4 hg4 hK4
   go_wp2_with fail
   go_ret
   show JbM X root h T sb slo shi most outs oa oc _ w (.returned (.int .i64 0)) w4
   obtain⟨h4,hg4,hK4⟩:=H4.out
   obtain⟨hwr1,c1,k1,s1⟩:=HR.out
   have hen:enG 0 v above=Ys v1.es above:=(HV.out.en above).symm
   have hk4:Jg (fun x=>x=sb\/Z2 oa outs.length oc=some x) w2 w4:=(Jg.of_below hd).trans' hK4
   refine⟨wr1,hwr1,c1.keep3 s1 hk4,((Jg.of_below HB0.out).trans' k1).trans' (hk4.mono fun x q=>Or.inr q),Or.inr ⟨rfl,oa',oc',?_,fun g e=> ?_⟩⟩
   ·rw[hen];exact h4
   ·rw[hen] at e
    refine(hg4 g e).imp id (fun q=> ?_)
    have q':w2.heap.size<=g:=q
    have:=HK.out
    omega
theorem JnX {n:Nat} {v:Vt} {x:Chd×Vt} (hx:x∈v.ch):v.us.length+pot n x.2<=pot (n+1) v:=by
 have h1:=Jhy (f:=pot n) hx
 rw[JP]
 omega
theorem Jpr {n:Nat} {v:Vt} {N:Nat} (h:pot (n+1) v<=N):v.ch.length<=N/2+2:=by
 rw[JP] at h
 have h1:JM v.ch.length*2<=JM v.ch.length*2^(n+1):=Nat.mul_le_mul_left _ (by rw[Nat.pow_succ];have:=Nat.one_le_two_pow (n:=n);omega)
 unfold JM at h h1
 omega
theorem Jhr (n:Nat) (IH:Jl9 n):Jl9 (n+1):=by
 intro X root h T v lo hi sb slo shi most outs oa oc b m d above w hh hin hu hhn hn
 have hb0:=Below.refl w.heap.size w
 have HS:=Lib.hid hin.s
 have HU:=Lib.hid hu
 have HI:=Lib.hid hin
 obtain⟨tb,htb⟩:∃tb,tb=X.tb:=⟨_,rfl⟩
 rw[<-htb] at HS
 have HTB:=Lib.hid htb
 have HIH:=Lib.hid IH
 have HHN:=Lib.hid hhn
 have hne:(hh==1)=false:=by simp;omega
 have hhb:2<=hh/\hh<=1000:=by omega
 clear htb hin hu IH hhn
 go_enter Tryz.func43,Tryz.ntmps43
 go_upto_region 1 with(fail)
 obtain⟨W,hW_W⟩:∃W,W=(w.alloc (.cells #[.slice b m d] 103)):=⟨_,rfl⟩
 rw[<-hW_W]
 have hX_W:Below w.heap.size w W:=by rw[hW_W];go_grown
 have gu0:W.cell? ⟨w.heap.size,0,none⟩=some (.slice b m d):=by rw[hW_W,World.cell?_alloc_at _ _ _ _ (by simp)];rfl
 clear hW_W
 have hz_W:=hX_W.size
 replace HS:=Lib.hid (HS.out.kept hX_W (Nat.le_refl _))
 replace HU:=Lib.hid (HU.out.kept hX_W (Nat.le_refl _))
 replace hb0:=hb0.trans (hX_W.mono hb0.size)
 clear hX_W
 have c0:=HS.out.c0
 have HFT:=Lib.hid (show Calls Tryz.prog 50 #[.pointer (some ⟨tb,0,none⟩),.pointer (some ⟨v.b,0,none⟩),.int .i64 hh] W _ from HTB.out▸(HI.out.on hb0).fetch hh HHN.out)
 go_wp2_with fail
 refine HFT.out.mono ?_
 rintro e w2 ⟨wr1,hwr1,c1,k1,s1,⟨rfl,h0⟩|⟨v1,ld,rfl,hv1⟩⟩
 ·have HR:=Lib.hid (And.intro hwr1 (And.intro c1 (And.intro k1 h0)))
  have HB0:=Lib.hid hb0
  clear hwr1 c1 k1 s1 h0 hb0
  go_wp2_with fail
  go_ret
  show JbM X root h T sb slo shi most outs oa oc _ w (.returned (.int .i64 10)) w2
  exact⟨wr1,HR.out.1,HR.out.2.1,(Jg.of_below HB0.out).trans' HR.out.2.2.1,Or.inl ⟨rfl,HR.out.2.2.2⟩⟩
 ·obtain⟨⟨-,pa,pg,ps,a1,x1,a2,x2,a3,x3,hv,-,hnd,-⟩,-⟩:=hv1.mem.node hv1.ld
  have hpw:above.length<=1000/\v1.us.length+above.length<=1000:=by
   have h1:=HI.out.pot
   have h2:=hv1.pot
   have h3:=JP n v1
   omega
  have hgl:¬S3 X.sb sb (Z2 oa outs.length oc) w.heap.size:=fun q=>by
   have:=(Jap HI.out.c HI.out.s q).1
   omega
  have gu2:=k1.cellAt gu0 hgl
  have HU2:=Lib.hid (HU.out.keepN k1 fun x q=>(Jap (HI.out.on hb0).c (HI.out.on hb0).s q).2.1)
  have v7:=hv.c7
  have HND:=Lib.hid hnd
  have HV:=Lib.hid hv1
  have HR:=Lib.hid (And.intro hwr1 (And.intro c1 (And.intro k1 s1)))
  have HB0:=Lib.hid hb0
  have hul:=hpw.2
  obtain⟨U,hU⟩:∃U,U=v1.us:=⟨_,rfl⟩
  rw[<-hU] at v7 HND hul
  have HUU:=Lib.hid hU
  clear hwr1 c1 k1 s1 hb0 hnd hv hv1 hgl gu0 c0 HU HS hU hpw
  go_upto_region 8 with(fail)
  obtain⟨ab,hab⟩:∃ab,ab=w2.heap.size:=⟨_,rfl⟩
  obtain⟨W3,hW3⟩:∃W3,W3=w2.alloc (.cells #[.slice a2 U.length x2] 103):=⟨_,rfl⟩
  have hX3:Below w2.heap.size w2 W3:=by rw[hW3];go_grown
  have HA:=Lib.hid (show Jc W3 103 ab [.slice a2 U.length x2] by rw[hW3,hab];exact Jc.new _ _ [.slice a2 U.length x2])
  have HND3:=Lib.hid (HND.out.kept hX3 (Nat.le_refl _))
  have HU3:=Lib.hid (HU2.out.kept hX3 (Nat.le_refl _))
  have gu3:=Ja hX3 gu2
  rw[<-hW3,<-hab]
  have HABE:=Lib.hid hab
  clear hW3 v7 gu2 HU2 HND hab
  have habW:=HA.out.lt
  go_wp2_with fail
  refine(JlL (.agg #[.slice b m d]) above W3 HU3.out (by omega)).mono ?_
  rintro e w4 ⟨⟨v',rfl,hown⟩,hX4⟩
  obtain⟨la,lc,rfl⟩:=Jm hown
  have HLR:=Lib.hid hown
  have HLA:=Lib.hid (fun g e=>(hown.lt g e).1)
  have HA4:=Lib.hid (HA.out.on hX4)
  have HND4:=Lib.hid (HND3.out.kept hX4 (Nat.le_refl _))
  have HX4:=Lib.hid (show Below w2.heap.size w2 w4 from hX3.trans (hX4.mono hX3.size))
  clear hown gu3 hX4 hX3 HA HND3 HU3
  go_wp2_with fail
  go_loopw [53] (fun i wr=>∃(j:Nat) (A:List Upd) (qa:Option Addr) (qc:Nat),i=.int .i64 j/\j<=above.length/\A.length<=U.length+j/\Hid (A=(above.take j).foldl JQ U/\Je Upd.key A/\Jlt A)/\Hid (Jc wr 103 ab [.slice qa A.length qc])/\Hid (JZ wr (.agg #[.slice qa A.length qc]) A)/\Jg (fun x=>x=ab) w4 wr) (fun i _=>above.length- (intOf i).toNat)
  case atStart=>exact⟨0,U,a2,x2,rfl,Nat.zero_le _,by omega,Lib.hid ⟨rfl,by rw[HUU.out];exact HV.out.ok.usr,by rw[HUU.out];exact Jhv fun u hu=>(HV.out.ok.2.2.1 u hu).1⟩,HA4,Lib.hid ⟨_,rfl,HND4.out.parts.2⟩,Jg.refl _ _⟩
  case round=>
   obtain⟨j,A,qa,qc,rfl,hj,hAl,HAF,HAR,HAB,hK⟩:=hrel
   have hj0:(0:Int)<=(j:Int):=Int.natCast_nonneg _
   by_cases hju:j<above.length
   ·have hj1:(j:Int)<(above.length:Int):=by omega
    have hLr:=YK HLR.out hK (fun g e q=>by subst q;have:=HLA.out _ e;omega)
    obtain⟨b0,off,ea,hb,t0,t1,t2,t3⟩:=JC.cells4 (SlU.at (Jc2 hLr).2) j hju
    subst ea
    have hfx:=Jhv (fun u hu=>(HI.out.g.ok u hu).1) _ (List.getElem_mem hju)
    have HTK:=Lib.hid (show(above.take (j+1)).foldl JQ U=JQ ((above.take j).foldl JQ U) above[j] by rw[List.take_succ_eq_append_getElem hju,List.foldl_append];rfl)
    obtain⟨hwf,hvl⟩:=hfx
    generalize above[j]=u at*
    obtain⟨kd,key,val,dl⟩:=u
    dsimp only at t0 t1 t2 t3 hvl
    have HW:=Lib.hid (fun w' h=>Jij (.agg #[.slice qa A.length qc]) A kd key val dl w' h (by omega) HAF.out.2.1 HAF.out.2.2 hwf.1 hwf.2)
    have HA2:=Lib.hid (And.intro (show JQ A ⟨kd,key,val,dl⟩=(above.take (j+1)).foldl JQ U by rw[HTK.out,<-HAF.out.1]) (And.intro (Zj HAF.out.2.1 ⟨kd,key,val,dl⟩) (Jj9 HAF.out.2.1 HAF.out.2.2 ⟨kd,key,val,dl⟩ ⟨hwf,hvl⟩)))
    have hAl2:=Jdw HAF.out.2.1 ⟨kd,key,val,dl⟩
    go_upto_region 11 with(fail)
    obtain⟨W5,hW5⟩:∃W5,W5=wr.alloc (.cells #[.int .u8 kd,.string (S key),.string (S val),.int .u64 dl] 39):=⟨_,rfl⟩
    have hX5:Below wr.heap.size wr W5:=by rw[hW5];go_grown
    have g0:W5.cell? ⟨wr.heap.size,0,none⟩=some (.int .u8 kd):=by rw[hW5,World.cell?_alloc_at _ _ _ _ rfl];rfl
    have g1:W5.cell? ⟨wr.heap.size,1,none⟩=some (.string (S key)):=by rw[hW5,World.cell?_alloc_at _ _ _ _ rfl];rfl
    have g2:W5.cell? ⟨wr.heap.size,2,none⟩=some (.string (S val)):=by rw[hW5,World.cell?_alloc_at _ _ _ _ rfl];rfl
    have g3:W5.cell? ⟨wr.heap.size,3,none⟩=some (.int .u64 dl):=by rw[hW5,World.cell?_alloc_at _ _ _ _ rfl];rfl
    have HAR5:=Lib.hid (HAR.out.on hX5)
    have HAB5:=Lib.hid (HAB.out.kept hX5 (Nat.le_refl _))
    have hK5:=hK.on hX5
    rw[<-hW5]
    clear hW5 hb t0 t1 t2 t3 hLr HAR HAB hX5 hK hwf hvl
    have p0:W5.cell? ⟨ab,0,none⟩=some (.slice qa A.length qc):=HAR5.out.cell 0
    go_wp2_with fail
    refine(HW.out W5 HAB5.out).mono ?_
    rintro e w6 ⟨⟨v',rfl,hbx⟩,hX6⟩
    obtain⟨sv,rfl,ao,cc,rfl,hrr⟩:=id hbx
    have HB6:=Lib.hid hbx
    have HAR6:=Lib.hid (HAR5.out.on hX6)
    have hK6:=hK5.on hX6
    have q0:w6.cell? ⟨ab,0,none⟩=some (.slice qa A.length qc):=HAR6.out.cell 0
    have qf:=HAR6.out.frozen 0
    generalize JQ A ⟨kd,key,val,dl⟩=A2 at*
    clear hbx hrr
    go_wp2_with fail
    exact⟨⟨j+1,A2,ao,cc,by go_num,by omega,by omega,HA2,Lib.hid (HAR6.out.put 0 _),Lib.hid (HB6.out.setAt q0 _),hK6.setCell ⟨ab,0,none⟩ (Or.inl rfl) _⟩,by simp[intOf];omega⟩
   ·obtain rfl:j=above.length:=by omega
    obtain⟨w5,hw5⟩:∃w5,w5=wr:=⟨_,rfl⟩
    subst hw5
    have hX5:Below w2.heap.size w2 w5:=HX4.out.trans (hK.below HX4.out.size (fun x hx=>by rw[show x=ab from hx,HABE.out];exact Nat.le_refl _))
    obtain⟨hwr1,c1,k1,s1⟩:=HR.out
    have HC5:=Lib.hid (And.intro (c1.on hX5) (s1.on hX5))
    have HST5:=Lib.hid (fun w' (hk:Jg (S3 X.sb sb (Z2 oa outs.length oc)) w5 w')=>HV.out.stab (by omega) w' ((Jg.of_below hX5).trans' hk))
    have HKW:=Lib.hid (show Jg (S3 X.sb sb (Z2 oa outs.length oc)) w w5 from((Jg.of_below HB0.out).trans' k1).on hX5)
    have HWR1:=Lib.hid hwr1
    obtain⟨V2,hV2⟩:∃V2,V2=gv (n+1) v1 above:=⟨_,rfl⟩
    have hVA:V2.us=A:=by
     rw[hV2,HAF.out.1,List.take_length,HUU.out]
     rfl
    have hVc:V2.ch=v1.ch:=by rw[hV2];rfl
    have HV2:=Lib.hid (And.intro hV2 (And.intro hVA (And.intro hVc (show Ok (n+1) lo hi V2 by rw[hV2];exact Jjt HV.out.ok HI.out.g))))
    have HEN:=Lib.hid (show enG (n+1) v above=scI (enG n) A V2 v1.ch.length by
     rw[<-HV.out.en above]
     show en (n+1) (gv (n+1) v1 above)=_
     rw[<-hV2,Joy,hVA,hVc])
    clear hV2 hVA hVc
    obtain⟨⟨-,p1,p2,p3,p4,p5,p6,p7,b3,y3,hv5,-,-,hkd5⟩,-⟩:=(HST5.out w5 (Jg.refl _ _)).node HV.out.ld
    obtain⟨nk,hnk⟩:∃nk,nk=v1.ch.length:=⟨_,rfl⟩
    have HKD:=Lib.hid hkd5
    have v8:=hv5.c8
    rw[<-hnk] at v8
    have hnk2:nk<=502:=by
     have h1:=HI.out.pot
     have h2:=HV.out.pot
     have h3:=Jpr (n:=n) (v:=v1) (N:=1000) (by omega)
     omega
    have HNK:=Lib.hid hnk
    have HABX:=Lib.hid (And.intro HAR.out HAB.out)
    have hob:=HI.out.o
    have HIM:=Lib.hid HI.out.m
    have HAAF:=Lib.hid HAF.out.2
    have HAL:=Lib.hid (show A.length+pot (n+1) v1<=1000+U.length by
     have h1:=HI.out.pot
     have h2:=HV.out.pot
     omega)
    have hA1:A.length<=1000:=by omega
    have HRA:=Lib.hid HAF.out.2.1
    clear hnk hwr1 c1 k1 s1 hv5 hkd5 HLR HLA HA4 HND4 HAR HAB hK HX4 hX5 HAF
    go_wp2_with fail
    go_loopw [66] (fun i wr=>∃(j:Nat) (O:List Ent) (oa2:Option Addr) (oc2:Nat),i=.int .i64 j/\j<=nk/\O.length<=1000/\Hid (O=Zn most slo shi outs (scI (enG n) A V2 j))/\Hid (∃wr2,wr2<=T.wr/\CAt wr X root h {T with wr:=wr2}/\Jg (S3 X.sb sb (Z2 oa outs.length oc)) w5 wr/\ScR wr sb X.tb slo shi most O oa2 oc2/\∀g,Z2 oa2 O.length oc2=some g->Z2 oa outs.length oc=some g\/w5.heap.size<=g)) (fun i _=>nk- (intOf i).toNat)
    case atStart=>exact⟨0,outs,oa,oc,rfl,Nat.zero_le _,hob,Lib.hid (by rw[Jiz,JoY]),Lib.hid ⟨wr1,HWR1.out,HC5.out.1,Jg.refl _ _,HC5.out.2,fun g e=>Or.inl e⟩⟩
    case round=>
     obtain⟨j,O,oa2,oc2,rfl,hj,hOl,HO,HRR⟩:=hrel
     have hj0:(0:Int)<=(j:Int):=Int.natCast_nonneg _
     by_cases hjl:j<nk
     ·have hj1:(j:Int)<(nk:Int):=by omega
      have hkl:j<v1.ch.length:=by rw[<-HNK.out];exact hjl
      obtain⟨x,hx⟩:∃x,x=v1.ch[j]:=⟨_,rfl⟩
      have hxm:x∈v1.ch:=by rw[hx];exact List.getElem_mem hkl
      obtain⟨wr2,hwr2,c2,k2,s2,hg2⟩:=HRR.out
      have hkr:wr.ownsRow 0 97 1 (.slice b3 nk y3) nk ((v1.ch.map fun x=>x.2.b).map vp):=by
       have h0:Xu wr (.slice b3 v1.ch.length y3) (v1.ch.map fun x=>x.2.b):=Xu.keepT HKD.out k2 fun x cur hr q=>by
        rcases(Jap HC5.out.1 HC5.out.2 q).2.2 _ _ hr with e|e|e<;>exact absurd e (by decide)
       have h1:wr.ownsRow 0 97 1 (.slice b3 v1.ch.length y3) (v1.ch.map fun x=>x.2.b).length ((v1.ch.map fun x=>x.2.b).map vp):=h0
       rw[List.length_map,<-HNK.out] at h1
       exact h1
      obtain⟨g3,rfl,-,-,hgc⟩:=Yk hkr (by omega)
      have r0:wr.cell? ⟨g3,j,none⟩=some (.pointer (some ⟨x.2.b,0,none⟩)):=by
       have:=hgc j (vp x.2.b) (by rw[List.getElem?_map,List.getElem?_map,List.getElem?_eq_getElem hkl,hx];rfl)
       simpa using this
      obtain⟨⟨-,p1',p2',p3',a1',x1',a2',x2',p4',p5',hvr,-,hndr,-⟩,-⟩:=(HST5.out wr k2).node HV.out.ld
      have v6:=hvr.c6
      have v7:=hvr.c7
      rw[<-HNK.out] at v6
      rw[<-HUU.out] at v7
      have HRG:=Lib.hid (show Calls Tryz.prog 76 #[.agg #[.slice a1' nk x1',.slice a2' U.length x2'],.int .i64 j] wr fun e w'=>e=.returned (.tuple #[.string (S (Yv v1.cs j)),.string (S (JX v1.cs j))])/\Below wr.heap.size wr w' by
       rw[HNK.out,HUU.out]
       exact JgJ (.agg #[.slice a1' v1.ch.length x1',.slice a2' v1.us.length x2']) v1.cs v1.us j wr hndr (by rw[List.length_map,<-HNK.out];omega) (by omega))
      obtain⟨lo',hi',hok,hgiv,hkey⟩:=JbA HV2.out.2.2.2 j (by rw[HV2.out.2.2.1];exact hkl)
      have hx2:V2.ch[j]'(by rw[HV2.out.2.2.1];exact hkl)=x:=by
       rw[hx]
       congr 1
       exact HV2.out.2.2.1
      have hcs:V2.cs=v1.cs:=by rw[Vt.cs,HV2.out.2.2.1]
      rw[hx2] at hok
      rw[hcs] at hgiv hkey
      rw[HV2.out.2.1] at hgiv
      have hstep:Zn most slo shi outs (scI (enG n) A V2 (j+1))=Zn most slo shi O (enG n x.2 (JH A (Yv v1.cs j) (JX v1.cs j))):=by
       rw[JiA (enG n) A V2 j (by rw[HV2.out.2.2.1];exact hkl),Jes,<-HO.out,hx2,hcs]
      have hcl:=JjG HRA.out (Yv v1.cs j) (JX v1.cs j)
      generalize Yv v1.cs j=kl at*
      generalize JX v1.cs j=kg at*
      have HKK:=Lib.hid (And.intro hok (And.intro hgiv (And.intro hkey (And.intro hstep hxm))))
      have HCUT:=Lib.hid (fun w' hx=>JlX (.agg #[.slice qa A.length qc]) A kl kg w' hx (by omega) HRA.out)
      have HEK:=Lib.hid (fun e he=>hkey _ ((Joz hok hgiv).ent e he).2)
      generalize JH A kl kg=I at*
      generalize Ya A kl kg=OU at*
      have HBX:=Lib.hid (show JZ wr (.agg #[.slice qa A.length qc]) A from HABX.out.2.keepN k2 fun x q=>(Jap HC5.out.1 HC5.out.2 q).2.1)
      have hab:¬S3 X.sb sb (Z2 oa outs.length oc) ab:=fun q=>by
       rcases(Jap HC5.out.1 HC5.out.2 q).2.2 _ _ HABX.out.1 with e|e|e<;>exact absurd e (by decide)
      have p0:wr.cell? ⟨ab,0,none⟩=some (.slice qa A.length qc):=(k2.row HABX.out.1 hab).cell 0
      have HS2:=Lib.hid s2
      clear hwr2 c2 k2 s2 hg2 hkr hgc hx hxm hvr hndr hok hgiv hkey hx2 hcs hstep hab v8
      go_wp2_with fail
      refine HRG.out.mono ?_
      rintro e w7 ⟨rfl,hX7⟩
      have HS7:=Lib.hid (HS2.out.on hX7)
      have HBX7:=Lib.hid (HBX.out.kept hX7 (Nat.le_refl _))
      have p7:=Ja hX7 p0
      have HB7:=Lib.hid hX7
      have c3:=HS7.out.c3
      have c4:=HS7.out.c4
      have HMT:=Lib.hid (fun w' (hq:ScR w' sb X.tb slo shi most O oa2 oc2)=>JqG slo shi kl kg w' hq)
      clear hX7 p0 r0 v6 v7
      have hskip:∀w8,Below w7.heap.size w7 w8->Zn most slo shi O (enG n x.2 I)=O->∃(j':Nat) (O':List Ent) (oa':Option Addr) (oc':Nat),Value.int .i64 ((j:Int)+1)=.int .i64 j'/\j'<=nk/\O'.length<=1000/\Hid (O'=Zn most slo shi outs (scI (enG n) A V2 j'))/\Hid (∃wr2,wr2<=T.wr/\CAt w8 X root h {T with wr:=wr2}/\Jg (S3 X.sb sb (Z2 oa outs.length oc)) w5 w8/\ScR w8 sb X.tb slo shi most O' oa' oc'/\∀g,Z2 oa' O'.length oc'=some g->Z2 oa outs.length oc=some g\/w5.heap.size<=g):=fun w8 hX8 hacc=>by
       obtain⟨wr2,hwr2,c2,k2,s2,hg2⟩:=HRR.out
       have hX:=HB7.out.trans (hX8.mono HB7.out.size)
       exact⟨j+1,O,oa2,oc2,by go_num,by omega,hOl,Lib.hid (by rw[HKK.out.2.2.2.1,hacc]),Lib.hid ⟨wr2,hwr2,c2.on hX,k2.on hX,s2.on hX,hg2⟩⟩
      have HSK:=Lib.hid hskip
      clear hskip
      go_upto_region 17 with(fail)
      cases hmt:Jfr kl kg slo shi with
      |false=>
       have HACC:=Lib.hid (Jnq (most:=most) (outs:=O) hmt HEK.out)
       have HMF:=Lib.hid (fun w' (hq:ScR w' sb X.tb slo shi most O oa2 oc2)=>show Calls Tryz.prog 77 #[.pointer (some ⟨sb,0,none⟩),.string (S kl),.string (S kg)] w' (fun e w''=>e=.returned (.bool false)/\Below w'.heap.size w' w'') from hmt▸HMT.out w' hq)
       clear hmt
       refine WQ.region (C:=fun w'=>Below w7.heap.size w7 w') (by kernel_rfl) (by kernel_rfl) (Jb (Below.refl _ _)) ?_
       refine WV (by rfl) (.pointer (some ⟨sb,0,none⟩)) (fun w' hw'=> ?_) ?_
       ·have hq':=hw'
        go_simp
       try simp only[Act.put,WA,WB,WC]
       refine WV (by rfl) (.string (S kl)) (fun w' hw'=> ?_) ?_
       ·have hq':=hw'
        go_simp
       try simp only[Act.put,WA,WB,WC]
       refine WV (by rfl) (.string (S kg)) (fun w' hw'=> ?_) ?_
       ·have hq':=hw'
        go_simp
       try simp only[Act.put,WA,WB,WC]
       refine WV (by rfl) (.bool false) (fun w' hw'=> ?_) ?_
       ·have hq':=hw'
        go_simp
        go_at_call 77
        refine(HMF.out _ (HS7.out.kept hq' (Nat.le_refl _))).mono ?_
        rintro e w6 ⟨he,hb6⟩
        exact⟨he,hq'.trans (hb6.mono hq'.size)⟩
       try simp only[Act.put,WA,WB,WC]
       refine WV (by rfl) (.bool true) (fun w' hw'=> ?_) ?_
       ·have hq':=hw'
        go_simp
       try simp only[Act.put,WA,WB,WC]
       refine WV (by rfl) (.bool true) (fun w' hw'=> ?_) ?_
       ·have hq':=hw'
        go_simp
       try simp only[Act.put,WA,WB,WC]
       refine WS (by rfl) ?_
       try simp only[Act.put,WA,WB,WC]
       refine WS (by rfl) ?_
       try simp only[Act.put,WA,WB,WC]
       refine WS (by rfl) ?_
       try simp only[Act.put,WA,WB,WC]
       refine WS (by rfl) ?_
       try simp only[Act.put,WA,WB,WC]
       refine WS (by rfl) ?_
       try simp only[Act.put,WA,WB,WC]
       refine WS (by rfl) ?_
       try simp only[Act.put,WA,WB,WC]
       refine WS (by rfl) ?_
       try simp only[Act.put,WA,WB,WC]
       refine WS (by rfl) ?_
       try simp only[Act.put,WA,WB,WC]
       refine WS (by rfl) ?_
       try simp only[Act.put,WA,WB,WC]
       refine WS (by rfl) ?_
       try simp only[Act.put,WA,WB,WC]
       refine WV (by rfl) (.bool true) (fun w' hw'=> ?_) ?_
       ·have hq':=hw'
        go_simp
       try simp only[Act.put,WA,WB,WC]
       refine WQ.done ?_
       rintro w8 hX8
       have HX8:=Lib.hid hX8
       clear hX8
       go_wp2_with fail
       exact⟨HSK.out _ HX8.out HACC.out,by simp[intOf];omega⟩
      |true=>
      have HMF:=Lib.hid (fun w' (hq:ScR w' sb X.tb slo shi most O oa2 oc2)=>show Calls Tryz.prog 77 #[.pointer (some ⟨sb,0,none⟩),.string (S kl),.string (S kg)] w' (fun e w''=>e=.returned (.bool true)/\Below w'.heap.size w' w'') from hmt▸HMT.out w' hq)
      clear hmt
      by_cases hfull:most<=(O.length:Int)
      ·have hfd:decide (most<=(O.length:Int))=true:=by simpa using hfull
       have HACC:=Lib.hid (Jnr (slo:=slo) (shi:=shi) (l:=enG n x.2 I) hfull)
       refine WQ.region (C:=fun w'=>Below w7.heap.size w7 w') (by kernel_rfl) (by kernel_rfl) (Jb (Below.refl _ _)) ?_
       refine WV (by rfl) (.pointer (some ⟨sb,0,none⟩)) (fun w' hw'=> ?_) ?_
       ·have hq':=hw'
        go_simp
       try simp only[Act.put,WA,WB,WC]
       refine WV (by rfl) (.string (S kl)) (fun w' hw'=> ?_) ?_
       ·have hq':=hw'
        go_simp
       try simp only[Act.put,WA,WB,WC]
       refine WV (by rfl) (.string (S kg)) (fun w' hw'=> ?_) ?_
       ·have hq':=hw'
        go_simp
       try simp only[Act.put,WA,WB,WC]
       refine WV (by rfl) (.bool true) (fun w' hw'=> ?_) ?_
       ·have hq':=hw'
        go_simp
        go_at_call 77
        refine(HMF.out _ (HS7.out.kept hq' (Nat.le_refl _))).mono ?_
        rintro e w6 ⟨he,hb6⟩
        exact⟨he,hq'.trans (hb6.mono hq'.size)⟩
       try simp only[Act.put,WA,WB,WC]
       refine WV (by rfl) (.bool false) (fun w' hw'=> ?_) ?_
       ·have hq':=hw'
        go_simp
       try simp only[Act.put,WA,WB,WC]
       refine WV (by rfl) (.bool false) (fun w' hw'=> ?_) ?_
       ·have hq':=hw'
        go_simp
       try simp only[Act.put,WA,WB,WC]
       refine WV (by rfl) (.pointer (some ⟨sb,0,none⟩)) (fun w' hw'=> ?_) ?_
       ·have hq':=hw'
        go_simp
       try simp only[Act.put,WA,WB,WC]
       refine WV (by rfl) (.pointer (some ⟨sb,0,none⟩)) (fun w' hw'=> ?_) ?_
       ·have hq':=hw'
        go_simp
       try simp only[Act.put,WA,WB,WC]
       refine WV (by rfl) (.pointer (some ⟨sb,4,none⟩)) (fun w' hw'=> ?_) ?_
       ·have hq':=hw'
        go_simp
       try simp only[Act.put,WA,WB,WC]
       refine WV (by rfl) (.slice oa2 O.length oc2) (fun w' hw'=> ?_) ?_
       ·have hq':=hw'
        have z0:=Ja hw' c3;have z1:=Ja hw' c4;go_simp
       try simp only[Act.put,WA,WB,WC]
       refine WV (by rfl) (.int .i64 O.length) (fun w' hw'=> ?_) ?_
       ·have hq':=hw'
        go_simp
       try simp only[Act.put,WA,WB,WC]
       refine WV (by rfl) (.pointer (some ⟨sb,0,none⟩)) (fun w' hw'=> ?_) ?_
       ·have hq':=hw'
        go_simp
       try simp only[Act.put,WA,WB,WC]
       refine WV (by rfl) (.pointer (some ⟨sb,0,none⟩)) (fun w' hw'=> ?_) ?_
       ·have hq':=hw'
        go_simp
       try simp only[Act.put,WA,WB,WC]
       refine WV (by rfl) (.pointer (some ⟨sb,3,none⟩)) (fun w' hw'=> ?_) ?_
       ·have hq':=hw'
        go_simp
       try simp only[Act.put,WA,WB,WC]
       refine WV (by rfl) (.int .i64 most) (fun w' hw'=> ?_) ?_
       ·have hq':=hw'
        have z0:=Ja hw' c3;have z1:=Ja hw' c4;go_simp
       try simp only[Act.put,WA,WB,WC]
       refine WV (by rfl) (.bool true) (fun w' hw'=> ?_) ?_
       ·have hq':=hw'
        go_simp
       try simp only[Act.put,WA,WB,WC]
       refine WV (by rfl) (.bool true) (fun w' hw'=> ?_) ?_
       ·have hq':=hw'
        go_simp
       try simp only[Act.put,WA,WB,WC]
       refine WQ.done ?_
       rintro w8 hX8
       have HX8:=Lib.hid hX8
       clear hX8
       go_wp2_with fail
       exact⟨HSK.out _ HX8.out HACC.out,by simp[intOf];omega⟩
      ·have hfd:decide (most<=(O.length:Int))=false:=by simpa using hfull
       refine WQ.region (C:=fun w'=>Below w7.heap.size w7 w') (by kernel_rfl) (by kernel_rfl) (Jb (Below.refl _ _)) ?_
       refine WV (by rfl) (.pointer (some ⟨sb,0,none⟩)) (fun w' hw'=> ?_) ?_
       ·have hq':=hw'
        go_simp
       try simp only[Act.put,WA,WB,WC]
       refine WV (by rfl) (.string (S kl)) (fun w' hw'=> ?_) ?_
       ·have hq':=hw'
        go_simp
       try simp only[Act.put,WA,WB,WC]
       refine WV (by rfl) (.string (S kg)) (fun w' hw'=> ?_) ?_
       ·have hq':=hw'
        go_simp
       try simp only[Act.put,WA,WB,WC]
       refine WV (by rfl) (.bool true) (fun w' hw'=> ?_) ?_
       ·have hq':=hw'
        go_simp
        go_at_call 77
        refine(HMF.out _ (HS7.out.kept hq' (Nat.le_refl _))).mono ?_
        rintro e w6 ⟨he,hb6⟩
        exact⟨he,hq'.trans (hb6.mono hq'.size)⟩
       try simp only[Act.put,WA,WB,WC]
       refine WV (by rfl) (.bool false) (fun w' hw'=> ?_) ?_
       ·have hq':=hw'
        go_simp
       try simp only[Act.put,WA,WB,WC]
       refine WV (by rfl) (.bool false) (fun w' hw'=> ?_) ?_
       ·have hq':=hw'
        go_simp
       try simp only[Act.put,WA,WB,WC]
       refine WV (by rfl) (.pointer (some ⟨sb,0,none⟩)) (fun w' hw'=> ?_) ?_
       ·have hq':=hw'
        go_simp
       try simp only[Act.put,WA,WB,WC]
       refine WV (by rfl) (.pointer (some ⟨sb,0,none⟩)) (fun w' hw'=> ?_) ?_
       ·have hq':=hw'
        go_simp
       try simp only[Act.put,WA,WB,WC]
       refine WV (by rfl) (.pointer (some ⟨sb,4,none⟩)) (fun w' hw'=> ?_) ?_
       ·have hq':=hw'
        go_simp
       try simp only[Act.put,WA,WB,WC]
       refine WV (by rfl) (.slice oa2 O.length oc2) (fun w' hw'=> ?_) ?_
       ·have hq':=hw'
        have z0:=Ja hw' c3;have z1:=Ja hw' c4;go_simp
       try simp only[Act.put,WA,WB,WC]
       refine WV (by rfl) (.int .i64 O.length) (fun w' hw'=> ?_) ?_
       ·have hq':=hw'
        go_simp
       try simp only[Act.put,WA,WB,WC]
       refine WV (by rfl) (.pointer (some ⟨sb,0,none⟩)) (fun w' hw'=> ?_) ?_
       ·have hq':=hw'
        go_simp
       try simp only[Act.put,WA,WB,WC]
       refine WV (by rfl) (.pointer (some ⟨sb,0,none⟩)) (fun w' hw'=> ?_) ?_
       ·have hq':=hw'
        go_simp
       try simp only[Act.put,WA,WB,WC]
       refine WV (by rfl) (.pointer (some ⟨sb,3,none⟩)) (fun w' hw'=> ?_) ?_
       ·have hq':=hw'
        go_simp
       try simp only[Act.put,WA,WB,WC]
       refine WV (by rfl) (.int .i64 most) (fun w' hw'=> ?_) ?_
       ·have hq':=hw'
        have z0:=Ja hw' c3;have z1:=Ja hw' c4;go_simp
       try simp only[Act.put,WA,WB,WC]
       refine WV (by rfl) (.bool false) (fun w' hw'=> ?_) ?_
       ·have hq':=hw'
        go_simp
       try simp only[Act.put,WA,WB,WC]
       refine WV (by rfl) (.bool false) (fun w' hw'=> ?_) ?_
       ·have hq':=hw'
        go_simp
       try simp only[Act.put,WA,WB,WC]
       refine WQ.done ?_
       rintro w8 hX8
       have p8:=Ja hX8 p7
       have HBX8:=Lib.hid (HBX7.out.kept hX8 (Nat.le_refl _))
       have HB8:=Lib.hid (HB7.out.trans (hX8.mono HB7.out.size))
       clear hX8 c3 c4 p7
       go_wp2_with fail
       refine(HCUT.out w8 HBX8.out).mono ?_
       rintro e w9 ⟨⟨z1,z2,rfl,hb1,hb2⟩,hX9⟩
       obtain⟨i1,d1,rfl,hb1'⟩:=hb1.open
       obtain⟨i2,d2,rfl,-⟩:=hb2.open
       have HB1:=Lib.hid hb1'
       have hb9:=HB8.out.trans (hX9.mono HB8.out.size)
       clear hb1 hb2 hb1' p8 hX9
       go_upto_region 19 with(fail)
       obtain⟨W10,hW_W10⟩:∃W10,W10=((w9.alloc (.cells #[.slice i1 I.length d1] 103)).alloc (.cells #[.slice i2 OU.length d2] 103)):=⟨_,rfl⟩
       rw[<-hW_W10]
       have hX_W10:Below w9.heap.size w9 W10:=by rw[hW_W10];go_grown
       have gi0:W10.cell? ⟨w9.heap.size,0,none⟩=some (.slice i1 I.length d1):=by rw[hW_W10,World.cell?_alloc_past _ _ _ (by simp<;>omega),World.cell?_alloc_at _ _ _ _ (by simp)];rfl
       have gq0:W10.cell? ⟨w9.heap.size+1,0,none⟩=some (.slice i2 OU.length d2):=by rw[hW_W10,World.cell?_alloc_at _ _ _ _ (by simp)];rfl
       clear hW_W10
       have hz_W10:=hX_W10.size
       replace HB1:=Lib.hid (HB1.out.kept hX_W10 (Nat.le_refl _))
       replace hb9:=hb9.trans (hX_W10.mono hb9.size)
       clear hX_W10
       have hwh:IntKind.i64.wrap (hh-1)=hh-1:=IntWalk.i64_in _ (by omega)
       have HB9:=Lib.hid hb9
       have HKC:=Lib.hid (show∃wr2:Nat,wr2<=T.wr/\Calls Tryz.prog 43 #[.pointer (some ⟨sb,0,none⟩),.pointer (some ⟨x.2.b,0,none⟩),.int .i64 (hh-1),.agg #[.slice i1 I.length d1]] W10 (fun e w'=>JbM X root h {T with wr:=wr2} sb slo shi most O oa2 oc2 (enG n x.2 I) W10 e w')/\(Jg (S3 X.sb sb (Z2 oa outs.length oc)) w5 W10/\∀g,Z2 oa2 O.length oc2=some g->Z2 oa outs.length oc=some g\/w5.heap.size<=g) from by
        obtain⟨wr2,hwr2,c2,k2,s2,hg2⟩:=HRR.out
        obtain⟨hok,hgiv,-,-,hxm⟩:=HKK.out
        have kW:=k2.on HB9.out
        refine⟨wr2,hwr2,HIH.out X root h {T with wr:=wr2} x.2 lo' hi' sb slo shi most O oa2 oc2 i1 I.length d1 I W10 (hh-1) ⟨c2.on HB9.out,fun w' hk=> ?_,hok,HV.out.shf.2 x hxm,HI.out.near,?_,Nat.le_trans hwr2 HI.out.wr,s2.on HB9.out,hgiv,HIM.out,hOl⟩ HB1.out (by have:=HHN.out;omega) (by omega),kW,hg2⟩
        ·have hk2:=kW.trans hk (fun y q=>by
          rcases q with q|q|q
          ·exact Or.inl (Or.inl q)
          ·exact Or.inl (Or.inr (Or.inl q))
          ·exact(hg2 y q).imp (fun r=>Or.inr (Or.inr r)) id)
         exact((HST5.out w' hk2).node HV.out.ld).2 x hxm
        ·have h1:=JnX (n:=n) hxm
         have h2:=HAL.out
         rw[HUU.out] at h2
         omega)
       obtain⟨wr2,hwr2,hcall,hkw⟩:=HKC.out
       have HCALL:=Lib.hid hcall
       have HKW2:=Lib.hid (And.intro hwr2 hkw)
       clear hcall hkw hwr2 hb9
       go_wp2_with fail
       refine HCALL.out.mono ?_
       rintro e w11 ⟨wr3,hwr3,c3,k3,⟨rfl,h0⟩|⟨rfl,oa',oc',s',hg'⟩⟩
       ·have HF:=Lib.hid (And.intro hwr3 (And.intro c3 (And.intro k3 h0)))
        clear hwr3 c3 k3 h0
        go_wp2_with fail
        go_ret
        show JbM X root h T sb slo shi most outs oa oc _ w (.returned (.int .i64 10)) w11
        obtain⟨hwr3,c3,k3,h0⟩:=HF.out
        obtain⟨hwr2,k5,hg2⟩:=HKW2.out
        have k4:=k5.trans k3 (fun y q=>by
         rcases q with q|q|q
         ·exact Or.inl (Or.inl q)
         ·exact Or.inl (Or.inr (Or.inl q))
         ·exact(hg2 y q).imp (fun r=>Or.inr (Or.inr r)) id)
        exact⟨wr3,Nat.le_trans hwr3 hwr2,c3,HKW.out.trans' k4,Or.inl ⟨rfl,Nat.lt_of_lt_of_le h0 hwr2⟩⟩
       ·have HF:=Lib.hid (And.intro hwr3 (And.intro c3 (And.intro k3 (And.intro s' hg'))))
        have hO2:=Jnp most slo shi O (enG n x.2 I) HIM.out hOl
        have HST2:=Lib.hid HKK.out.2.2.2.1
        generalize Zn most slo shi O (enG n x.2 I)=O2 at*
        clear hwr3 c3 k3 s' hg'
        go_wp2_with fail
        obtain⟨hwr3,c3,k3,s',hg'⟩:=HF.out
        obtain⟨hwr2,k5,hg2⟩:=HKW2.out
        have k4:=k5.trans k3 (fun y q=>by
         rcases q with q|q|q
         ·exact Or.inl (Or.inl q)
         ·exact Or.inl (Or.inr (Or.inl q))
         ·exact(hg2 y q).imp (fun r=>Or.inr (Or.inr r)) id)
        exact⟨⟨j+1,O2,oa',oc',by go_num,by omega,hO2,Lib.hid HST2.out.symm,Lib.hid ⟨wr3,Nat.le_trans hwr3 hwr2,c3,k4,s',fun g e=>(hg' g e).elim (fun r=>hg2 g r) (fun r=>Or.inr (Nat.le_trans k5.size r))⟩⟩,by simp[intOf];omega⟩
     ·obtain rfl:j=nk:=by omega
      go_wp2_with fail
      go_ret
      show JbM X root h T sb slo shi most outs oa oc _ w (.returned (.int .i64 0)) wr
      obtain⟨wr2,hwr2,c2,k2,s2,hg2⟩:=HRR.out
      have hO:=HO.out
      rw[HNK.out,<-HEN.out] at hO
      refine⟨wr2,hwr2,c2,HKW.out.trans' k2,Or.inr ⟨rfl,oa2,oc2,?_,fun g e=> ?_⟩⟩
      ·rw[<-hO];exact s2
      ·rw[<-hO] at e
       exact(hg2 g e).imp id (fun r=>Nat.le_trans HKW.out.size r)
theorem JeM:∀n,Jl9 n
 |0=>Jhq
 |n+1=>Jhr n (JeM n)
open Go.RowKit
attribute [local go_sem ↓] Go.wp_at_zero Go.wp_at_succ
theorem JqP (n:Nat) (v:Vt):gv n v []=v:=by cases v;cases n<;>rfl
theorem JpW (n:Nat) (v:Vt):enG n v []=en n v:=by unfold enG;rw[JqP]
def JeE (X:Kx) (n:Nat) (w:World) (v:Vt) (T:Tx) (slo shi:List UInt8) (most:Int) (e:Ending) (w':World):Prop:=
 ∃wr',wr'<=T.wr/\Y2 X n w' v {T with wr:=wr'}/\Jg (fun x=>x=X.sb) w w'/\((e=.returned (.tuple #[.slice none 0 0,.int .i64 10])/\0<T.wr)\/∃oa oc,e=.returned (.tuple #[.slice oa (Zn most slo shi [] (en n v)).length oc,.int .i64 0])/\XP w' (.slice oa (Zn most slo shi [] (en n v)).length oc) (Zn most slo shi [] (en n v))/\∀g,(Value.slice oa (Zn most slo shi [] (en n v)).length oc).ownBlock=some g->w.heap.size<=g)
theorem Y2.mem_load {X:Kx} {n:Nat} {w w':World} {v:Vt} {T:Tx} (t:Y2 X n w v T) (hk:Jg (fun x=>x=X.sb) w w'):Mem w' n v:=
 t.m.keep hk (fun b e=>by rw[show b=X.sb from e];exact(t.c.soft X.sb (Or.inr (Or.inl rfl))).1) fun b hb e=>by
  obtain⟨cur,hc⟩:=t.m.cells b hb
  rw[show b=X.sb from e] at hc
  exact absurd (hc.one t.c.sh.row).1 (by decide)
theorem Y2.load {X:Kx} {n:Nat} {w w':World} {v:Vt} {T:Tx} (t:Y2 X n w v T) {wr':Nat} (hw:wr'<=T.wr) (c:CAt w' X v.b (n+1) {T with wr:=wr'}) (hk:Jg (fun x=>x=X.sb) w w'):Y2 X n w' v {T with wr:=wr'}:=
 ⟨c,t.mem_load hk,t.nd,t.ok,t.sh,t.pot,Nat.le_trans hw t.wr,t.gone,t.fl⟩
theorem Jix {X:Kx} {n:Nat} {v:Vt} {T:Tx} (slo shi:List UInt8) (most:Int) (w:World) (t:Y2 X n w v T) (hN:Jd0 X.f) (hm:most<=1000):
  Calls Tryz.prog 17 #[.pointer (some ⟨X.tb,0,none⟩),.string (S slo),.string (S shi),.int .i64 most] w fun e w'=>JeE X n w v T slo shi most e w':=by
 have HT:=Lib.hid t.c.tr
 have HO:=Lib.hid t
 have hn8:=t.n8
 obtain⟨tb,htb⟩:∃tb,tb=X.tb:=⟨_,rfl⟩
 rw[<-htb] at HT
 have HTB:=Lib.hid htb
 rw[<-htb]
 clear t htb
 go_enter Tryz.func17,Tryz.ntmps17
 go_upto_region 4 with(fail)
 obtain⟨W,hW⟩:∃W,W=w.alloc (.cells #[.pointer (some ⟨tb,0,none⟩),.string (S slo),.string (S shi),.int .i64 most,.slice none 0 0] 115):=⟨_,rfl⟩
 have HS:=Lib.hid (show ScR W w.heap.size X.tb slo shi most [] none 0 from⟨by rw[hW,<-HTB.out];exact Jc.new _ _ [.pointer (some ⟨tb,0,none⟩),.string (S slo),.string (S shi),.int .i64 most,.slice none 0 0],XP.nil _⟩)
 have hX:Below w.heap.size w W:=by rw[hW];go_grown
 rw[<-hW]
 clear hW
 have HT1:=Lib.hid (HT.out.on hX)
 have c4:=HT1.out.c4
 have c5:=HT1.out.c5
 have hd:Below W.heap.size W W.drew:=Jb (Below.refl _ _)
 have hXd:=hX.trans (hd.mono hX.size)
 have HVL:=Lib.hid (show Calls Tryz.prog 43 #[.pointer (some ⟨w.heap.size,0,none⟩),.pointer (some ⟨v.b,0,none⟩),.int .i64 ((n+1:Nat):Int),.agg #[.slice none 0 0]] W.drew (fun e w'=>∃er:Int,e=.returned (.int .i64 er)/\Hid (JbM X v.b (n+1) T w.heap.size slo shi most [] none 0 (en n v) W.drew e w')) from by
  have t:=HO.out
  refine(JeM n X v.b (n+1) T v [] [] w.heap.size slo shi most [] none 0 none 0 0 [] W.drew _ ⟨t.c.on hXd,fun w2 hk=> ?_,t.ok,t.sh,hN,?_,t.wr,HS.out.on hd,⟨List.Pairwise.nil,fun u hu=>by simp at hu⟩,hm,by simp⟩ ⟨_,rfl,SlU.nil _⟩ (by omega) (by omega)).mono ?_
  ·have hk2:Jg (fun x=>x=X.sb) w w2:=(Jg.of_below hXd).trans hk (fun x q=>by
    rcases q with q|q|q
    ·exact Or.inl q
    ·exact Or.inr (by rw[q];exact Nat.le_refl _)
    ·simp[Z2,Value.ownBlock] at q)
   exact t.mem_load hk2
  ·have hp0:=Nat.le_trans (Nat.le_add_right (pot n v) (2^(n+1))) t.pot
   show pot n v+0<=1000
   omega
  ·rintro e w' ⟨wr',h1,h2,h3,h4⟩
   rw[JpW] at h4
   rcases h4 with⟨rfl,h0⟩|⟨rfl,h0⟩
   ·exact⟨10,rfl,Lib.hid ⟨wr',h1,h2,h3,Or.inl ⟨rfl,h0⟩⟩⟩
   ·exact⟨0,rfl,Lib.hid ⟨wr',h1,h2,h3,Or.inr ⟨rfl,h0⟩⟩⟩)
 go_region_law (first|(go_simp;go_at_call 43;refine HVL.out.mono ?_;rintro e w4 ⟨er,rfl,H4⟩))
 all_goals
  have hfin:∀wr',wr'<=T.wr->CAt w4 X v.b (n+1) {T with wr:=wr'}->Jg (S3 X.sb w.heap.size (Z2 none 0 0)) W.drew w4->Y2 X n w4 v {T with wr:=wr'}/\Jg (fun x=>x=X.sb) w w4:=fun wr' h1 h2 h3=>by
   have hk:Jg (fun x=>x=X.sb) w w4:=(Jg.of_below hXd).trans h3 (fun x q=>by
    rcases q with q|q|q
    ·exact Or.inl q
    ·exact Or.inr (by rw[q];exact Nat.le_refl _)
    ·simp[Z2,Value.ownBlock] at q)
   exact⟨HO.out.load h1 h2 hk,hk⟩
  have HFI:=Lib.hid hfin
  have HXD:=Lib.hid hXd
  clear hfin hXd hd hX c4 c5
  obtain⟨wr',h1,h2,h3,⟨he,h0⟩|⟨he,oa',oc',s4,hg4⟩⟩:=H4.out
  ·obtain rfl:er=10:=by simpa using he
   have HR:=Lib.hid (And.intro h1 (And.intro h0 (HFI.out wr' h1 h2 h3)))
   clear h1 h2 h3 he h0 H4
   go_wp2_with fail
   go_returns
   show JeE X n w v T slo shi most (.returned (.tuple #[.slice none 0 0,.int .i64 10])) w4
   exact⟨wr',HR.out.1,HR.out.2.2.1,HR.out.2.2.2,Or.inl ⟨rfl,HR.out.2.1⟩⟩
  ·obtain rfl:er=0:=by simpa using he
   have HR:=Lib.hid (And.intro h1 (And.intro (HFI.out wr' h1 h2 h3) (And.intro s4 hg4)))
   have k4:=s4.c4
   clear h1 h2 h3 he s4 hg4 H4
   go_wp2_with fail
   go_returns
   show JeE X n w v T slo shi most (.returned (.tuple #[.slice oa' (Zn most slo shi [] (en n v)).length oc',.int .i64 0])) w4
   refine⟨wr',HR.out.1,HR.out.2.1.1,HR.out.2.1.2,Or.inr ⟨oa',oc',rfl,HR.out.2.2.1.own,fun g e=> ?_⟩⟩
   rcases HR.out.2.2.2 g e with q|q
   ·simp[Z2,Value.ownBlock] at q
   ·exact Nat.le_trans HXD.out.size q
end Go.Proofs.YtafciefjlkdecaaGreat
namespace Go.Proofs.YtafciefjlkdecaaGreat
open Go.RowKit
structure Jcr (K:Kx) (n:Nat) (w:World) (v:Vt) (T:Tx) (w0:World):Prop where
 ok:Y2 K n w v T
 lo:∀x,(Own K T x\/x∈blocks n v)->w0.heap.size<=x
 b:Below w0.heap.size w0 w
section
variable {K:Kx} {n n1:Nat} {w w0 w1:World} {v v1:Vt} {T T1:Tx} {u:Upd} {g:List Int} {l:List Nat}
theorem Jcr.apply (s:Jcr K n w v T w0) (a:AP K n w v T u n1 w1 v1 T1 g l):Jcr K n1 w1 v1 T1 w0:=
 ⟨a.ok,fun x hx=>by
  have hz:=s.b.size
  rcases hx with(q|q|q)|q
  ·exact s.lo x (Or.inl (Or.inl q))
  ·exact s.lo x (Or.inl (Or.inr (Or.inl q)))
  ·rcases a.gvb x q with k|k
   ·exact s.lo x (Or.inl (Or.inr (Or.inr k)))
   ·omega
  ·rcases a.fresh x q with k|k
   ·exact s.lo x (Or.inr k)
   ·omega,s.b.trans (a.keep.below s.b.size fun x hx=>s.lo x hx)⟩
theorem Jcr.load (s:Jcr K n w v T w0) {wr':Nat} (t:Y2 K n w1 v {T with wr:=wr'}) (hk:Jg (fun x=>x=K.sb) w w1):Jcr K n w1 v {T with wr:=wr'} w0:=
 ⟨t,fun x hx=>s.lo x hx,s.b.trans (hk.below s.b.size fun x hx=>s.lo x (Or.inl (Or.inr (Or.inl hx))))⟩
theorem Jcr.on (s:Jcr K n w v T w0) (hb:Below w.heap.size w w1):Jcr K n w1 v T w0:=⟨s.ok.on hb,s.lo,s.b.trans (hb.mono s.b.size)⟩
structure Inv (K:Kx) (n:Nat) (w:World) (v:Vt) (T:Tx) (w0:World) (j:Nat):Prop where
 st:Jcr K n w v T w0
 pot:pot n v+2^(n+1)<=4+j
 fl:T.fl+mu n v<=2+20*j
 gd:Gd K n v
 wr:T.wr=0
theorem Inv.on {j:Nat} (s:Inv K n w v T w0 j) (hb:Below w.heap.size w w1):Inv K n w1 v T w0 j:=⟨s.st.on hb,s.pot,s.fl,s.gd,s.wr⟩
theorem Inv.apply {j:Nat} (s:Inv K n w v T w0 j) (hB:1<=K.B/K.F) (a:AP K n w v T u n1 w1 v1 T1 g l):Inv K n1 w1 v1 T1 w0 (j+1):=by
 have h0:=s.wr
 rcases a.gd s.gd with q|⟨g1,g2⟩
 ·omega
 ·have h1:=ZP (l:=l) fun m hm=>Nat.lt_of_lt_of_le hB (g2 m hm)
  have h2:=a.mu
  have h3:=a.fl
  have h4:=s.fl
  have h5:=a.pot
  have h6:=s.pot
  have h7:=a.wr
  exact⟨s.st.apply a,by omega,by omega,g1,by omega⟩
theorem JmV {j:Nat} (s:Inv K n w v T w0 j) (hj:j<=200):pot n v+2^(n+1)+1<=800/\T.fl+mu n v+20<=1000000000000:=by
 have h1:=s.pot
 have h2:=s.fl
 omega
theorem Inv.walk {j:Nat} (s:Inv K n w v T w0 j) (hP:Ja7 K) (hB:1<=K.B/K.F) (hj:j<=200) (hu:Tm u):
  Calls Tryz.prog 13 #[.pointer (some ⟨K.tb,0,none⟩),.agg #[.int .u8 u.kind,.string (S u.key),.string (S u.val),.int .u64 u.delta]] w fun e w'=>e=.returned (.int .i64 0)/\∃n1 v1 T1 g l,AP K n w v T u n1 w' v1 T1 g l/\Inv K n1 w' v1 T1 w0 (j+1):=by
 obtain⟨h1,h2⟩:=JmV s hj
 refine(JqZ u w hP s.st.ok hu h1 h2).mono ?_
 rintro e w' (⟨rfl,n1,v1,T1,g,l,a⟩|⟨-,h0,-⟩)
 ·exact⟨rfl,n1,v1,T1,g,l,a,s.apply hB a⟩
 ·rw[s.wr] at h0
  exact absurd h0 (Nat.lt_irrefl 0)
end
abbrev Jrd (tb sb mb F B L:Nat):Kx:=⟨tb,sb,mb,F,B,L,0,0,fun _=>none,0⟩
abbrev Jrc (vb:Nat):Vt:=⟨vb,true,true,none,[],[],[]⟩
abbrev JqE:Tx:=⟨.slice none 0 0,[],0,0,0⟩
theorem Inv.new {w0 w:World} {tb vb sb mb F B L:Nat} (ht:Yj w tb F B L (ldV sb) vb 1 (.slice none 0 0) 0 0) (hv:Jq w vb false 0 0 0 true (.slice none 0 0) (.slice none 0 0) (.slice none 0 0) (.slice none 0 0)) (hs:Js w sb mb 0 0 (fun _=>none) 0 0) (hb:Below w0.heap.size w0 w) (h1:w0.heap.size<=tb) (h2:w0.heap.size<=vb) (h3:w0.heap.size<=sb):Inv (Jrd tb sb mb F B L) 0 w (Jrc vb) JqE w0 0:=by
 refine⟨⟨⟨⟨ht,XK.nil w,hs⟩,⟨rfl,Or.inl ⟨rfl,0,0,0,none,0,hv,fun p hp=>(by cases hp),_,rfl,none,0,rfl,Or.inl rfl,by simp⟩⟩,?_,⟨rfl,rfl,List.Pairwise.nil,fun e he=>by simp at he⟩,fun p hp=>(by cases hp),?_,?_,?_,?_⟩,fun x hx=> ?_,hb⟩,?_,?_,Nat.zero_le _,rfl⟩
 ·rw[J8 _ rfl];simp
 ·show JM 0+2^(0+1)<=800;decide
 ·show 0<=1000;omega
 ·show 0+0<=1000000;omega
 ·show 0+JM 0<=1000000000000;decide
 ·rcases hx with(q|q|q)|q
  ·have q':x=tb:=q
   omega
  ·have q':x=sb:=q
   omega
  ·have q':(Value.slice none 0 0).ownBlock=some x:=q
   simp[Value.ownBlock] at q'
  ·rw[J8 _ rfl,List.mem_singleton] at q
   have q':x=vb:=q
   omega
 ·show JM 0+2^(0+1)<=4+0;decide
 ·show 0+JM 0<=2+20*0;decide
open Go.RowKit
open Go.Maps (Keyed)
attribute [local go_sem ↓] Go.wp_at_zero Go.wp_at_succ
section
variable {w w':World} {b n:Nat} {ks:List (List UInt8)}
end
theorem Jj2 {most:Int}:∀(l outs:List Ent),(outs.length:Int)+l.length<=most->JdY most outs l=outs++l
 |[],outs,_=>by show outs=_;simp
 |e::l,outs,h=>by
  rw[List.length_cons] at h
  have h1:Jch most outs e=outs++[e]:=by unfold Jch;rw[if_pos (by omega)]
  show JdY most (Jch most outs e) l=_
  rw[h1,Jj2 l (outs++[e]) (by rw[List.length_append,List.length_singleton];omega),List.append_assoc]
  rfl
theorem JoZ {most:Int} (l:List Ent) (h:(l.length:Int)<=most):Zn most [] [] [] l=l:=by
 unfold Zn
 rw[List.filter_eq_self.2 (fun e _=>JeL e.key),Jj2 l [] (by simpa using h)]
 rfl
section
variable {K:Kx} {w w1 w0:World} {j high:Nat} {ks:List (List UInt8)} {n fl le:Nat}
end
open Go.RowKit
attribute [local go_sem ↓] Go.wp_at_zero Go.wp_at_succ
theorem JpN {X:Kx} {n:Nat} {v:Vt} {T:Tx} (m:List Ent) (ao:Option Addr) (c:Nat) (w:World) (t:Y2 X n w v T) (hN:Jd0 X.f) (hwr:T.wr=0) (hen:en n v=m) (hs:JC Ent.cells 2 w ao m) (hm:m.length<=1000):
  Calls Tryz.prog 28 #[.pointer (some ⟨X.tb,0,none⟩),.slice ao m.length c] w fun e w'=>e=.returned (.bool true)/\Y2 X n w' v T/\Jg (fun x=>x=X.sb) w w':=by
 have hsc:=Jix [] [] 1000 w t hN (by omega)
 have hacc:Zn 1000 [] [] [] (en n v)=m:=by rw[hen];exact JoZ m (by omega)
 unfold JeE at hsc
 rw[hacc] at hsc
 have HSC:=Lib.hid hsc
 have HS:=Lib.hid (And.intro hs (And.intro t hwr))
 obtain⟨ml,hml⟩:∃ml,ml=m.length:=⟨_,rfl⟩
 have HML:=Lib.hid hml
 rw[<-hml]
 have hm2:ml<=1000:=by omega
 clear hsc hacc hen hs hm t hwr hml
 go_enter Tryz.func28,Tryz.ntmps28
 go_wp2_with fail
 refine HSC.out.mono ?_
 rintro e w1 ⟨wr',h1,h2,h3,(⟨rfl,h0⟩|⟨oa,oc,rfl,h4,h5⟩)⟩
 ·have:=HS.out.2.2
  omega
 ·obtain rfl:wr'=0:=by have:=HS.out.2.2;omega
  have ht1:Y2 X n w1 v T:=by
   have e:({T with wr:=0}:Tx)=T:=by have:=HS.out.2.2;cases T;simp at this;simp[this]
   rw[e] at h2;exact h2
  have HR1:=Lib.hid (And.intro ht1 h3)
  have hsl:JC Ent.cells 2 w1 ao m:=(show JC Ent.cells 2 w1 ao m from(HS.out.1).keep h3 (fun b hb=>by rw[show b=X.sb from hb];exact(HS.out.2.1.c.soft X.sb (Or.inr (Or.inl rfl))).1.str) (fun x=>⟨0,_,rfl⟩))
  have hso:JC Ent.cells 2 w1 oa m:=by
   obtain⟨-,h6⟩:=SlE.of_row h4.own
   obtain⟨a',c',e,h7,-⟩:=h6
   simp only[Value.slice.injEq] at e
   obtain⟨rfl,-,-⟩:=e
   exact h7
  have HSL:=Lib.hid (And.intro hsl hso)
  rw[<-HML.out]
  clear h1 h2 h3 h4 h5 ht1 hsl hso
  go_wp2_with fail
  go_loopw [25] (fun i wr=>∃j:Nat,i=.int .i64 j/\j<=ml/\Hid (Below w1.heap.size w1 wr)) (fun i _=>ml- (intOf i).toNat)
  case atStart=>exact⟨0,rfl,Nat.zero_le _,Lib.hid (Below.refl _ _)⟩
  case round=>
   obtain⟨j,rfl,hj,HB⟩:=hrel
   have hj0:(0:Int)<=(j:Int):=Int.natCast_nonneg _
   by_cases hjl:j<ml
   ·have hj1:(j:Int)<(ml:Int):=by omega
    have hjm:j<m.length:=by rw[<-HML.out];exact hjl
    obtain⟨b1,o1,rfl,hb1,s0,s1⟩:=JC.cells2 HSL.out.1 j hjm
    obtain⟨b2,o2,rfl,hb2,t0,t1⟩:=JC.cells2 HSL.out.2 j hjm
    replace s0:=(Jh HB.out hb1 _).trans s0
    replace s1:=(Jh HB.out hb1 _).trans s1
    replace t0:=(Jh HB.out hb2 _).trans t0
    replace t1:=(Jh HB.out hb2 _).trans t1
    generalize m[j]=e at*
    go_upto_region 7 with(fail)
    obtain⟨W,hW⟩:∃W,W=wr.alloc (.cells #[.string (S e.key),.string (S e.val)] 73):=⟨_,rfl⟩
    have hX:Below wr.heap.size wr W:=by rw[hW];go_grown
    have g0:W.cell? ⟨wr.heap.size,0,none⟩=some (.string (S e.key)):=by rw[hW,World.cell?_alloc_at _ _ _ _ rfl];rfl
    have g1:W.cell? ⟨wr.heap.size,1,none⟩=some (.string (S e.val)):=by rw[hW,World.cell?_alloc_at _ _ _ _ rfl];rfl
    rw[<-hW]
    replace s0:=Ja hX s0
    replace s1:=Ja hX s1
    replace HB:=Lib.hid (HB.out.trans (hX.mono HB.out.size))
    clear hW hX t0 t1
    go_quiet (fail)
    obtain⟨W2,hW2⟩:∃W2,W2=W.drewN nq:=⟨_,rfl⟩
    replace HB:=Lib.hid (show Below w1.heap.size w1 W2 by rw[hW2];exact HB.out.trans ((JS (Below.refl _ _) nq).mono HB.out.size))
    rw[<-hW2]
    clear hW2 s0 s1 g0 g1
    go_wp2_with fail
    exact⟨⟨j+1,by go_num,by omega,HB⟩,by simp[intOf];omega⟩
   ·obtain rfl:j=ml:=by omega
    go_wp2_with fail
    go_ret
    exact⟨rfl,HR1.out.1.on HB.out,HR1.out.2.on HB.out⟩
end Go.Proofs.YtafciefjlkdecaaGreat
namespace Go.Proofs.YtafciefjlkdecaaGreat
open Go.RowKit
theorem Jh3 {K:Kx} (hF:2<=K.F):∀(n:Nat) (v:Vt),Gd K n v->Yb n v+1<=2*K.F^n
 |0,v,_=>by
  unfold Yb
  rw[Nat.pow_zero]
  split<;>omega
 |n+1,v,g=>by
  have h1:Yb (n+1) v<=1+Yf (Yb n) v.ch:=by
   rw[Yb]
   split<;>omega
  have h2:=Jdz (f:=Yb n) (g:=fun _=>2*K.F^n-1) (l:=v.ch) (fun x hx=>by have:=Jh3 hF n x.2 (g.2.2 x hx);omega)
  rw[Jcv] at h2
  have h3:(2*K.F^n-1)*v.ch.length<=(2*K.F^n-1)*K.F:=Nat.mul_le_mul_left _ g.1
  have h4:1<=K.F^n:=Nat.one_le_pow _ _ (by omega)
  have h5:(2*K.F^n-1)*K.F+K.F=2*K.F^(n+1):=by
   rw[Nat.pow_succ,<-Nat.succ_mul,<-Nat.mul_assoc]
   congr 1
   omega
  omega
theorem JjZ {K:Kx} (hF:2<=K.F):∀(n:Nat) (v:Vt),Gd K n v->(addrs n v).length+1<=2*K.F^n
 |0,v,_=>by
  rw[YJ,Nat.pow_zero]
  cases v.kn<;>simp
 |n+1,v,g=>by
  have h0:∀l:List (Chd×Vt),(YG n l).length=Yf (fun t=>(addrs n t).length) l:=fun l=>by
   induction l with
   |nil=>rfl
   |cons x l ih=>rw[JT,List.length_append,ih,Jo]
  have h1:(addrs (n+1) v).length<=1+Yf (fun t=>(addrs n t).length) v.ch:=by
   rw[JG,List.length_append,h0]
   cases v.kn<;>simp
  have h2:=Jdz (f:=fun t=>(addrs n t).length) (g:=fun _=>2*K.F^n-1) (l:=v.ch) (fun x hx=>by have:=JjZ hF n x.2 (g.2.2 x hx);omega)
  rw[Jcv] at h2
  have h3:(2*K.F^n-1)*v.ch.length<=(2*K.F^n-1)*K.F:=Nat.mul_le_mul_left _ g.1
  have h4:1<=K.F^n:=Nat.one_le_pow _ _ (by omega)
  have h5:(2*K.F^n-1)*K.F+K.F=2*K.F^(n+1):=by
   rw[Nat.pow_succ,<-Nat.succ_mul,<-Nat.mul_assoc]
   congr 1
   omega
  omega
theorem Jot {K K':Kx} (h1:K'.F=K.F) (h2:K'.B=K.B) (h3:K'.L=K.L):∀(n:Nat) (v:Vt),Gd K n v->Gd K' n v
 |0,v,g=>by
  show v.es.length<=K'.L
  rw[h3];exact g
 |n+1,v,g=>⟨by rw[h1];exact g.1,by rw[h2];exact g.2.1,fun x hx=>Jot h1 h2 h3 n x.2 (g.2.2 x hx)⟩
structure Yp (G:Nat) (K:Kx) (n:Nat) (w:World) (v:Vt) (T:Tx) (w0:World) (j:Nat) (m:List Ent):Prop where
 inv:Inv K n w v T w0 j
 ps:Zs n v
 win:Win K.sf
 rise:Je Ent.key m
 look:∀q,Jz m q=den n v q
 len:m.length<=j
 pl:K.F=3/\K.B=4/\K.L=3
 gen:K.gen<=G
 nn:K.nn<=G
 mb:w0.heap.size<=K.mb
section
variable {G:Nat} {K:Kx} {n n1:Nat} {w w0 w1:World} {v v1:Vt} {T T1:Tx} {u:Upd} {g:List Int} {l:List Nat} {j:Nat} {m:List Ent}
theorem Yp.on (s:Yp G K n w v T w0 j m) (hb:Below w.heap.size w w1):Yp G K n w1 v T w0 j m:=⟨s.inv.on hb,s.ps,s.win,s.rise,s.look,s.len,s.pl,s.gen,s.nn,s.mb⟩
theorem Yp.below (s:Yp G K n w v T w0 j m):Below w0.heap.size w0 w:=s.inv.st.b
theorem Yp.near (s:Yp G K n w v T w0 j m) (hG:G<=80000):Jd0 K.f:=fun a ha=>by
 cases e:K.f a with
 |none=>exact absurd e ha
 |some b=>
  have h1:=s.win a b e
  have h2:=s.gen
  have h3:K.sf.gen=K.gen:=rfl
  rw[h3] at h1
  omega
theorem Yp.plan (s:Yp G K n w v T w0 j m) (hG:G<=80000):Ja7 K:=by
 obtain⟨h1,h2,h3⟩:=s.pl
 exact⟨by omega,by omega,by omega,by omega,by omega,by omega,s.near hG⟩
theorem Yp.lvl (s:Yp G K n w v T w0 j m) (hj:j<=150):n<=6:=by
 have h:=s.inv.pot
 rcases Nat.lt_or_ge 6 n with q|q
 ·have:2^8<=2^(n+1):=Nat.pow_le_pow_right (by omega) (by omega)
  omega
 ·exact q
theorem Yp.en (s:Yp G K n w v T w0 j m):en n v=m:=by
 obtain⟨h1,-,h3⟩:=Jla s.inv.st.ok.ok
 exact JmT h1 s.rise fun k=>by rw[h3,s.look]
theorem Yp.apply (s:Yp G K n w v T w0 j m) (a:AP K n w v T u n1 w1 v1 T1 g l):Yp G K n1 w1 v1 T1 w0 (j+1) (onE m u):=by
 obtain⟨h1,h2,h3⟩:=s.pl
 refine⟨s.inv.apply (by rw[h1,h2];decide) a,a.pso s.ps,s.win,JaY s.rise u,fun q=> ?_,?_,s.pl,s.gen,s.nn,s.mb⟩
 ·rw[Ji6 s.rise,a.den,<-s.look,Jg3,JfF]
  by_cases h:q=u.key
  ·rw[if_pos h,if_pos h.symm];rfl
  ·rw[if_neg h,if_neg fun e=>h e.symm];rfl
 ·have:=JhM s.rise u
  have:=s.len
  omega
theorem Yp.walk (s:Yp G K n w v T w0 j m) (hG:G<=80000) (hj:j<=200) (hu:Tm u):
  Calls Tryz.prog 13 #[.pointer (some ⟨K.tb,0,none⟩),.agg #[.int .u8 u.kind,.string (S u.key),.string (S u.val),.int .u64 u.delta]] w fun e w'=>e=.returned (.int .i64 0)/\∃n1 v1 T1 g l,AP K n w v T u n1 w' v1 T1 g l/\Yp G K n1 w' v1 T1 w0 (j+1) (onE m u):=by
 obtain⟨h1,h2,h3⟩:=s.pl
 refine(s.inv.walk (s.plan hG) (by rw[h1,h2];decide) hj hu).mono ?_
 rintro e w' ⟨rfl,n1,v1,T1,g,l,a,-⟩
 exact⟨rfl,n1,v1,T1,g,l,a,s.apply a⟩
theorem Yp.small (s:Yp G K n w v T w0 j m) (hj:j<=150):Yb n v<=1457/\(addrs n v).length<=1457:=by
 obtain⟨h1,h2,h3⟩:=s.pl
 have h4:=Jh3 (by omega) n v s.inv.gd
 have h5:=JjZ (by omega) n v s.inv.gd
 have h6:K.F^n<=729:=by
  rw[h1]
  exact Nat.le_trans (Nat.pow_le_pow_right (by omega) (s.lvl hj)) (by decide)
 omega
theorem Yp.cm (s:Yp G K n w v T w0 j m) (hG:G<=78000) (hj:j<=150):Jpa K n v:=by
 obtain⟨h1,h2,h3⟩:=s.pl
 obtain⟨h4,h5⟩:=s.small hj
 have h6:=s.gen
 have h7:=s.nn
 exact⟨s.ps,Jov (by omega) (by omega) n v s.inv.gd,s.win,by omega,by omega,by omega⟩
theorem Yp.aft (s:Yp G K n w v T w0 j m) (hG:G<=78000) (hj:j<=150) {p:Pt} {nb:Nat} (c:Jmc K n w v T w1 p nb):Yp (G+1457) (K.aft (sv n v K.sf).2) n w1 {(sv n v K.sf).1 with b:=nb,mem:=true,ld:=false} {T with gv:=.slice none 0 0,gone:=[]} w0 j m:=by
 have hin:=JcW s.inv.st.ok (s.cm hG hj)
 have hok:=JcZ n [] [] v K.sf hin (s.cm hG hj).few
 obtain⟨new,m1,m2,m3⟩:=hok.more
 have hm:=hok.like
 have hmv:=Jb0 n (sv n v K.sf).1 [] [] nb true false (sv n v K.sf).1.kn (Jam n _ _ _ _ hm s.inv.st.ok.ok)
 obtain⟨h4,h5⟩:=s.small hj
 have hz:=s.inv.st.b.size
 refine⟨⟨⟨c.ok,fun x hx=> ?_,s.inv.st.b.trans (c.keep.below hz fun x hx=> ?_)⟩,?_,?_,?_,s.inv.wr⟩,?_,m1.win s.win,s.rise,fun q=> ?_,s.len,s.pl,?_,?_,s.mb⟩
 ·rcases hx with(q|q|q)|q
  ·exact s.inv.st.lo x (Or.inl (Or.inl q))
  ·exact s.inv.st.lo x (Or.inl (Or.inr (Or.inl q)))
  ·simp[Value.ownBlock] at q
  ·obtain⟨p',hk,-⟩:=hok.kn
   have hbl:blocks n {(sv n v K.sf).1 with b:=nb,mem:=true,ld:=false}=[nb]:=by
    cases n with
    |zero=>exact J8 _ rfl
    |succ n=>
     rw[Y1 _ _ rfl]
     show nb::(sv (n+1) v K.sf).1.ch.flatMap (fun x=>blocks n x.2)=[nb]
     rw[List.flatMap_eq_nil_iff.2 fun x hx=>(hok.dsk.2 x hx).blocks]
   rw[hbl,List.mem_singleton] at q
   have:=c.nb
   omega
 ·rcases hx with q|q|q
  ·exact s.inv.st.lo x (Or.inl (Or.inr (Or.inl q)))
  ·rw[q];exact s.mb
  ·exact s.inv.st.lo x (Or.inl (Or.inl q))
 ·rw[Jbz n _ _ hmv,Jbz n _ _ hm];exact s.inv.pot
 ·rw[Jdf n _ _ hmv,Jdf n _ _ hm];exact s.inv.fl
 ·exact Jot (K:=K) (K':=K.aft (sv n v K.sf).2) rfl rfl rfl n _ (JeB n _ _ hmv (JeB n _ _ hm s.inv.gd))
 ·exact(JaK (n:=n)).2 hok.ps
 ·rw[s.look,Jjh hmv (Jam n _ _ _ _ hm s.inv.st.ok.ok),Jjh hm s.inv.st.ok.ok]
 ·show(sv n v K.sf).2.gen<=G+1457
  have h6:=m1.gen
  have h7:=s.gen
  have h8:K.sf.gen=K.gen:=rfl
  omega
 ·show(sv n v K.sf).2.nn<=G+1457
  have h6:=m1.nn
  have h7:=s.nn
  have h8:K.sf.nn=K.nn:=rfl
  omega
theorem Yp.new {tb vb sb mb:Nat} (ht:Yj w tb 3 4 3 (ldV sb) vb 1 (.slice none 0 0) 0 0) (hv:Jq w vb false 0 0 0 true (.slice none 0 0) (.slice none 0 0) (.slice none 0 0) (.slice none 0 0)) (hs:Js w sb mb 0 0 (fun _=>none) 0 0) (hb:Below w0.heap.size w0 w) (h1:w0.heap.size<=tb) (h2:w0.heap.size<=vb) (h3:w0.heap.size<=sb) (h4:w0.heap.size<=mb):Yp 0 (Jrd tb sb mb 3 4 3) 0 w (Jrc vb) JqE w0 0 []:=
 ⟨Inv.new ht hv hs hb h1 h2 h3,fun p hp=>(by cases hp),fun a b h=>(by cases h),List.Pairwise.nil,fun q=>rfl,Nat.le_refl _,⟨rfl,rfl,rfl⟩,Nat.le_refl _,Nat.le_refl _,h4⟩
theorem Yp.more (s:Yp G K n w v T w0 j m) {G':Nat} (h:G<=G'):Yp G' K n w v T w0 j m:=⟨s.inv,s.ps,s.win,s.rise,s.look,s.len,s.pl,Nat.le_trans s.gen h,Nat.le_trans s.nn h,s.mb⟩
theorem Yp.load (s:Yp G K n w v T w0 j m) (t:Y2 K n w1 v T) (hk:Jg (fun x=>x=K.sb) w w1):Yp G K n w1 v T w0 j m:=
 ⟨⟨s.inv.st.load (wr':=T.wr) t hk,s.inv.pot,s.inv.fl,s.inv.gd,s.inv.wr⟩,s.ps,s.win,s.rise,s.look,s.len,s.pl,s.gen,s.nn,s.mb⟩
theorem Yp.has (s:Yp G K n w v T w0 j m) (hG:G<=80000) (hj:j<=1000) (ao:Option Addr) (c:Nat) (hs:JC Ent.cells 2 w ao m):
  Calls Tryz.prog 28 #[.pointer (some ⟨K.tb,0,none⟩),.slice ao m.length c] w fun e w'=>e=.returned (.bool true)/\Yp G K n w' v T w0 j m/\Jg (fun x=>x=K.sb) w w':=by
 refine(JpN m ao c w s.inv.st.ok (s.near hG) s.inv.wr s.en hs (by have:=s.len;omega)).mono ?_
 rintro e w' ⟨rfl,t,hk⟩
 exact⟨rfl,s.load t hk,hk⟩
end
open Go.RowKit
theorem Js.softMap {w:World} {sb mb n sz:Nat} {f:Int->Option Blk} {gen:Nat} {wr:Int} (h:Js w sb mb n sz f gen wr):Z3 w mb:=by
 obtain⟨D,⟨es,clock,hb,_⟩,_⟩:=h.map
 refine⟨fun o q e=> ?_,fun cur hr=>h.noMap hr⟩
 unfold World.cell? at e
 rw[hb] at e
 simp at e
def Sib (K1 K2:Kx):Prop:=K2= {K1 with tb:=K2.tb}
structure JrB (G:Nat) (w0 w:World) (K1:Kx) (n1:Nat) (v1:Vt) (T1:Tx) (j1:Nat) (m1:List Ent) (K2:Kx) (n2:Nat) (v2:Vt) (T2:Tx) (j2:Nat) (m2:List Ent):Prop where
 a:Yp G K1 n1 w v1 T1 w0 j1 m1
 b:Yp G K2 n2 w v2 T2 w0 j2 m2
 sib:Sib K1 K2
 ne:K1.tb≠K2.tb
 gv:∀x,T1.gv.ownBlock=some x->T2.gv.ownBlock≠some x
 bl:∀x∈blocks n1 v1,x∉blocks n2 v2
section
variable {G:Nat} {w0 w w':World} {K1 K2:Kx} {n1 n2 n':Nat} {v1 v2 v':Vt} {T1 T2 T':Tx} {j1 j2:Nat} {m1 m2:List Ent} {u:Upd} {g:List Int} {l:List Nat}
end
end Go.Proofs.YtafciefjlkdecaaGreat
