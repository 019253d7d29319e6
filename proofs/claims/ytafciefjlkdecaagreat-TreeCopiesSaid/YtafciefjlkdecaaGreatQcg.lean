/-
  The walk of room: a message of a key may come into the root. The sums of what is known stay small. The walk of Apply. The walk of shape: a tree of which nothing is saved is counted. What the shape of a tree is, in plain words. A tree like another one: the same messages, entries and keys, wherever it lies. What a Commit saves, in plain words. What a Commit saves is the tree. The walk of a saver's vertex that is dirty. The walks of a saver: a vertex that is known; a node, its children saved; any vertex. The walks of a scan of all keys: within, meets, entries. The walks of Get: where the first load fails; of a leaf. The walk of a scan where every load gives the same: there is no leaf. A scan in memory: its own struct, its entries so far. The walk of a scan's entries of a leaf. What stays while a scan goes on; fetch within a scan. The walk of a saver's node; a saver's vertex, whatever it is. slices.Sorted(slices.Values(s)) of ints: a row of the call's own that holds them in order. The walk of Commit, whatever the saver does. Commit of any tree. Copies, in plain words; where the rows of children lie. Rows of vertices, and of nothing else: one more. The walk of a copy of a vertex, and of all in memory below it. Copy of any tree.
-/
import Derived.Deep.DeepCutAuto
import Derived.Deep.CutBlock
import Derived.Maps.AppendAt
import Derived.RangeFuncWrites
import Derived.Laws.EntriesVeiled
import Derived.Test.YtafciefjlkdecaaGreatQcf
set_option maxRecDepth 100000
set_option maxHeartbeats 16000000
set_option linter.unusedVariables false
namespace Go.Proofs.YtafciefjlkdecaaGreat
open Go.RowKit
attribute [local go_sem ↓] Go.wp_at_zero Go.wp_at_succ
structure RM (K:Kx) (n:Nat) (w:World) (v:Vt) (T:Tx) (n1:Nat) (w1:World) (v1:Vt) (T1:Tx) (g:List Int) (l:List Nat):Prop where
 run:Z6 K n w v T n1 w1 v1 T1 g l
 gd:Gd K n v->0<T.wr\/(Gd K n1 v1/\∀m∈l,K.B/K.F<=m)
def Jdh (K:Kx) (n:Nat) (w:World) (v:Vt) (T:Tx) (key:List UInt8) (e:Ending) (w':World):Prop:=∃n1 v1 T1 g l,RM K n w v T n1 w' v1 T1 g l/\((e=.returned (.int .i64 0)/\v1.ld=true/\(n1=0\/YJ v1.us key≠none\/v1.us.length<K.B))\/(e=.returned (.int .i64 10)/\0<T.wr))
theorem Joj {K:Kx} {n:Nat} {v v':Vt} (hL:YN v v') (h:Gd K n v):Gd K n v':=by
 cases n with
 |zero=>
  show v'.es.length<=K.L
  rw[hL.es];exact h
 |succ n=>
  have h0:v.ch.length<=K.F/\v.us.length<=K.B/\∀x∈v.ch,Gd K n x.2:=h
  exact⟨by rw[hL.len];exact h0.1,by rw[hL.us];exact h0.2.1,hL.gk (K:=K) (n:=n+1) h0.2.2⟩
theorem JqQ {K:Kx} {n:Nat} {v:Vt} {T:Tx} (key:List UInt8) (w:World) (hP:Ja7 K) (ht:Zf K n w v T):
  Calls Tryz.prog 39 #[.pointer (some ⟨K.tb,0,none⟩),.string (S key)] w fun e w'=>Jdh K n w v T key e w':=by
 have H0:=Lib.hid (show RM K n w v T n w v T [] [] from⟨Z6.refl ht.m ht.nd ht.c,fun q=>Or.inr ⟨q,fun m hm=>by simp at hm⟩⟩)
 have HP:=Lib.hid (And.intro hP ht)
 obtain⟨tb,htb⟩:∃tb,tb=K.tb:=⟨_,rfl⟩
 rw[<-htb]
 have Htb:=Lib.hid htb
 clear hP ht htb
 go_enter Tryz.func39,Tryz.ntmps39
 go_wp2_with fail
 go_loopg [] (mu n v) (fun g wx=>Hid (∃n1 v1 T1 gg l,RM K n w v T n1 wx v1 T1 gg l/\g=mu n1 v1))
 case atStart=>exact Lib.hid ⟨n,v,T,[],[],H0.out,rfl⟩
 case round=>
  obtain⟨n1,v1,T1,gg,l,hO,hnum⟩:=hrel.out
  have htr:=HP.out.2.next HP.out.1 hO.run
  have t4:wr.cell? ⟨tb,4,none⟩=some (.pointer (some ⟨v1.b,0,none⟩)):=by rw[Htb.out];exact htr.c.tr.c4
  have t5:wr.cell? ⟨tb,5,none⟩=some (.int .i64 ((n1+1:Nat):Int)):=by rw[Htb.out];exact htr.c.tr.c5
  have hn8:=htr.n8
  have HHO:=Lib.hid (fun w' (hb:Below wr.heap.size wr w')=>Jje ((n1:Int)+1) w' rfl (htr.c.on hb) (htr.m.on hb) htr.nd htr.ok htr.sh HP.out.1.near (Nat.le_trans (Nat.le_trans (Nat.le_add_right _ _) htr.pot) (by omega)) htr.wr)
  rw[<-Htb.out] at HHO
  have HRL:=Lib.hid (fun(e:Ending) (w' w3:World) (hb:Below wr.heap.size wr w') (h:∃wr' v',wr'<=T1.wr/\Mv K v1.b (n1+1) n1 w' v1 T1 w3 v' {T1 with wr:=wr'}/\(v'=v1\/YN v1 v')/\((e=.returned (.int .i64 0)/\v'.ld=true)\/(e=.returned (.int .i64 10)/\0<T1.wr)))=>show∃x:Int,e=.returned (.int .i64 x)/\Hid (∃v2 T2 gg l,RM K n w v T n1 w3 v2 T2 gg l/\gk=mu n1 v2/\((x=0/\v2.ld=true)\/(x=10/\0<T.wr))) from by
   obtain⟨wr',v',h1,h2,h3,h4⟩:=h
   have r1:=((hO.run.on hb).trans (Ran.of_mv (by rcases h3 with rfl|h3;·exact .refl _ _
                                                 ·exact .load h3) h2 (by simp) rfl rfl h1).tree)
   simp only[List.append_nil] at r1
   have h5:mu n1 v'=mu n1 v1:=by
    rcases h3 with rfl|h3
    ·rfl
    ·exact h3.mu_eq n1
   have h6:Gd K n1 v1->Gd K n1 v':=fun q=>by
    rcases h3 with rfl|h3
    ·exact q
    ·exact Joj h3 q
   have hrm:RM K n w v T n1 w3 v' {T1 with wr:=wr'} gg l:=⟨r1,fun q=>(hO.gd q).imp id fun q=>⟨h6 q.1,q.2⟩⟩
   rcases h4 with⟨q1,q2⟩|⟨q1,q2⟩
   ·exact⟨0,q1,Lib.hid ⟨v',_,gg,l,hrm,by rw[h5];exact hnum,Or.inl ⟨rfl,q2⟩⟩⟩
   ·exact⟨10,q1,Lib.hid ⟨v',_,gg,l,hrm,by rw[h5];exact hnum,Or.inr ⟨rfl,Nat.lt_of_lt_of_le q2 hO.run.wr⟩⟩⟩)
  clear hO hnum htr hrel
  go_upto_region 1 with(fail)
  go_cut [5] from 9 to 72 (fun s5 wx=>∃x:Int,s5=.int .i64 x/\Hid (∃v2 T2 gg l,RM K n w v T n1 wx v2 T2 gg l/\gk=mu n1 v2/\((x=0/\v2.ld=true)\/(x=10/\0<T.wr))))
  case first=>
   have hdr:Below wr.heap.size wr wr.drew:=Jb (Below.refl _ _)
   go_region_law (first|(go_simp;go_at_call 62;refine(HHO.out wr.drew hdr).mono ?_;rintro e w3 h3;obtain⟨x3,rfl,hr3⟩:=HRL.out e wr.drew w3 hdr h3;clear h3))
   all_goals
    go_wp2_with fail
    go_meet
    exact⟨x3,rfl,hr3⟩
  case rest=>
  obtain⟨x3,rfl,HR⟩:=hcut
  obtain⟨w3,hw3⟩:∃w3,w3=wc:=⟨_,rfl⟩
  subst hw3
  clear HRL HHO t4 t5
  obtain⟨v2,T2,g2,l2,hO,hnum,hor⟩:=HR.out
  rcases hor with⟨rfl,hld⟩|⟨rfl,hpos⟩
  case inr=>
   go_wp2_with fail
   go_ret
   show Jdh K n w v T key (.returned (.int .i64 10)) w3
   exact⟨n1,v2,T2,g2,l2,hO,Or.inr ⟨rfl,hpos⟩⟩
  case inl=>
  have htr:=HP.out.2.next HP.out.1 hO.run
  have t4:w3.cell? ⟨tb,4,none⟩=some (.pointer (some ⟨v2.b,0,none⟩)):=by rw[Htb.out];exact htr.c.tr.c4
  have t5:w3.cell? ⟨tb,5,none⟩=some (.int .i64 ((n1+1:Nat):Int)):=by rw[Htb.out];exact htr.c.tr.c5
  have HO:=Lib.hid (And.intro hO (And.intro hnum (And.intro hld htr)))
  clear hO hnum hld htr HR
  by_cases h0:n1=0
  ·subst h0
   replace t5:w3.cell? ⟨tb,5,none⟩=some (.int .i64 1):=t5
   go_wp2_with fail
   go_ret
   show Jdh K n w v T key (.returned (.int .i64 0)) w3
   exact⟨0,v2,T2,g2,l2,HO.out.1,Or.inl ⟨rfl,HO.out.2.2.1,Or.inl rfl⟩⟩
  ·obtain⟨nn,hnn⟩:∃nn,n1=nn+1:=⟨n1-1,by omega⟩
   subst hnn
   have hb5:¬((nn:Int)+1+1=1):=by omega
   have HG:=Lib.hid (show∃a2 ul y2,ul=v2.us.length/\w3.cell? ⟨v2.b,7,none⟩=some (.slice a2 ul y2)/\(∀w',Below w3.heap.size w3 w'->Calls Tryz.prog 54 #[.agg #[.slice a2 ul y2],.string (S key)] w' fun e w''=>e=.returned (Joh (YJ v2.us key))/\Below w'.heap.size w' w'') from by
    obtain⟨hO,hnum,hld,htr⟩:=HO.out
    obtain⟨⟨-,qa,qg,qs,b1,y1,b2,y2,b3,y3,hvt,-,hnode,-⟩,-⟩:=htr.m.node hld
    have hus:=Jdt htr.pre.pot
    exact⟨b2,v2.us.length,y2,rfl,hvt.c7,fun w' hb=>JpE _ v2.us key w' (J4.kept ⟨_,rfl,hnode.parts.2⟩ hb (Nat.le_refl _)) (by omega) htr.ok.usr⟩)
   obtain⟨a2,ul,y2,hul,c7,hget⟩:=HG.out
   have HGT:=Lib.hid (And.intro hul hget)
   have p1:w3.cell? ⟨tb,1,none⟩=some (.int .i64 K.B):=by rw[Htb.out];exact HO.out.2.2.2.c.tr.c1
   obtain⟨B,hB⟩:∃B,B=K.B:=⟨_,rfl⟩
   rw[<-hB] at p1
   have HB:=Lib.hid hB
   obtain⟨vb,hvb⟩:∃vb,vb=v2.b:=⟨_,rfl⟩
   rw[<-hvb] at t4 c7
   have HVB:=Lib.hid hvb
   obtain⟨gl,hgl⟩:∃gl,gl=YJ v2.us key:=⟨_,rfl⟩
   have HGL:=Lib.hid hgl
   obtain⟨bw,ub,hgv,hbw⟩:∃(bw:Bool) (uk:Nat×List UInt8×List UInt8×Nat),Joh gl=.tuple #[.agg #[.int .u8 uk.1,.string (S uk.2.1),.string (S uk.2.2.1),.int .u64 uk.2.2.2],.bool bw]/\bw=gl.isSome:=by
    cases gl with
    |none=>exact⟨false,(0,[],[],0),rfl,rfl⟩
    |some u=>exact⟨true,(u.kind,u.key,u.val,u.delta),rfl,rfl⟩
   have HGV:=Lib.hid (And.intro hgv hbw)
   have hget2:=Lib.hid (fun w' (hb:Below w3.heap.size w3 w')=>by
    have:=hget w' hb
    rw[<-hgl,hgv] at this
    exact this)
   clear hul hget hB hvb hgl hgv hbw HG
   go_wp2_with fail
   refine(hget2.out w3 (Below.refl _ _)).mono ?_
   rintro e w4 ⟨rfl,hX4⟩
   have t44:=Ja hX4 t4
   have c74:=Ja hX4 c7
   have p14:=Ja hX4 p1
   have t54:=Ja hX4 t5
   have HX4:=Lib.hid hX4
   clear t4 c7 p1 t5 hX4 hget2
   go_upto_region 7 with(fail)
   obtain⟨W5,hW5⟩:∃W5,W5=(w4.alloc (.cells #[.int .u8 ub.1,.string (S ub.2.1),.string (S ub.2.2.1),.int .u64 ub.2.2.2] 39)):=⟨_,rfl⟩
   have hX5:Below w4.heap.size w4 W5:=by rw[hW5];exact(Below.refl _ _).alloc (Nat.le_refl _) _
   rw[<-hW5]
   have t4:=Ja hX5 t44
   have c7:=Ja hX5 c74
   have p1:=Ja hX5 p14
   have t5:=Ja hX5 t54
   have HX5:=Lib.hid (HX4.out.trans (hX5.mono HX4.out.size))
   clear t44 c74 p14 t54 hW5 hX5 HX4
   go_cut [57] from 9 to 72 (fun s57 wx=>s57=.bool (bw||decide (ul<B))/\Below W5.heap.size W5 wx)
   case first=>
    cases bw with
    |true=>
     refine WQ.region (C:=fun w'=>Below W5.heap.size W5 w') (by kernel_rfl) (by kernel_rfl) (Jb (Below.refl _ _)) ?_
     refine WV (by rfl) (.bool true) (fun w' hw'=> ?_) ?_
     ·have hq':=hw'
      go_simp
     try simp only[Act.put,WA,WB,WC]
     refine WV (by rfl) (.bool true) (fun w' hw'=> ?_) ?_
     ·have hq':=hw'
      go_simp
     try simp only[Act.put,WA,WB,WC]
     refine WS (by rfl) ?_
     try simp only[Act.put,WA,WB,WC]
     refine WS (by rfl) ?_
     try simp only[Act.put,WA,WB,WC]
     refine WS (by rfl) ?_
     try simp only[Act.put,WA,WB,WC]
     refine WS (by rfl) ?_
     try simp only[Act.put,WA,WB,WC]
     refine WS (by rfl) ?_
     try simp only[Act.put,WA,WB,WC]
     refine WS (by rfl) ?_
     try simp only[Act.put,WA,WB,WC]
     refine WS (by rfl) ?_
     try simp only[Act.put,WA,WB,WC]
     refine WS (by rfl) ?_
     try simp only[Act.put,WA,WB,WC]
     refine WS (by rfl) ?_
     try simp only[Act.put,WA,WB,WC]
     refine WS (by rfl) ?_
     try simp only[Act.put,WA,WB,WC]
     refine WS (by rfl) ?_
     try simp only[Act.put,WA,WB,WC]
     refine WS (by rfl) ?_
     try simp only[Act.put,WA,WB,WC]
     refine WS (by rfl) ?_
     try simp only[Act.put,WA,WB,WC]
     refine WS (by rfl) ?_
     try simp only[Act.put,WA,WB,WC]
     refine WS (by rfl) ?_
     try simp only[Act.put,WA,WB,WC]
     refine WV (by rfl) (.bool true) (fun w' hw'=> ?_) ?_
     ·have hq':=hw'
      go_simp
     try simp only[Act.put,WA,WB,WC]
     refine WQ.done ?_
     intro w6 hX
     go_wp2_with fail
     go_meet
     exact⟨by simp,hX⟩
    |false=>
     refine WQ.region (C:=fun w'=>Below W5.heap.size W5 w') (by kernel_rfl) (by kernel_rfl) (Jb (Below.refl _ _)) ?_
     refine WV (by rfl) (.bool false) (fun w' hw'=> ?_) ?_
     ·have hq':=hw'
      go_simp
     try simp only[Act.put,WA,WB,WC]
     refine WV (by rfl) (.bool false) (fun w' hw'=> ?_) ?_
     ·have hq':=hw'
      go_simp
     try simp only[Act.put,WA,WB,WC]
     refine WV (by rfl) (.pointer (some ⟨tb,0,none⟩)) (fun w' hw'=> ?_) ?_
     ·have hq':=hw'
      go_simp
     try simp only[Act.put,WA,WB,WC]
     refine WV (by rfl) (.pointer (some ⟨tb,0,none⟩)) (fun w' hw'=> ?_) ?_
     ·have hq':=hw'
      go_simp
     try simp only[Act.put,WA,WB,WC]
     refine WV (by rfl) (.pointer (some ⟨tb,4,none⟩)) (fun w' hw'=> ?_) ?_
     ·have hq':=hw'
      go_simp
     try simp only[Act.put,WA,WB,WC]
     refine WV (by rfl) (.pointer (some ⟨vb,0,none⟩)) (fun w' hw'=> ?_) ?_
     ·have hq':=hw'
      have z0:=Ja hw' t4;have z1:=Ja hw' c7;have z2:=Ja hw' p1;go_simp
     try simp only[Act.put,WA,WB,WC]
     refine WV (by rfl) (.pointer (some ⟨vb,0,none⟩)) (fun w' hw'=> ?_) ?_
     ·have hq':=hw'
      go_simp
     try simp only[Act.put,WA,WB,WC]
     refine WV (by rfl) (.pointer (some ⟨vb,6,none⟩)) (fun w' hw'=> ?_) ?_
     ·have hq':=hw'
      go_simp
     try simp only[Act.put,WA,WB,WC]
     refine WV (by rfl) (.pointer (some ⟨vb,7,none⟩)) (fun w' hw'=> ?_) ?_
     ·have hq':=hw'
      go_simp
     try simp only[Act.put,WA,WB,WC]
     refine WV (by rfl) (.agg #[.slice a2 ul y2]) (fun w' hw'=> ?_) ?_
     ·have hq':=hw'
      have z0:=Ja hw' t4;have z1:=Ja hw' c7;have z2:=Ja hw' p1;go_simp
     try simp only[Act.put,WA,WB,WC]
     refine WV (by rfl) (.int .i64 ul) (fun w' hw'=> ?_) ?_
     ·have hq':=hw'
      go_simp
      go_at_call 63
      refine(XZ a2 ul y2 _).mono ?_
      rintro e w6 ⟨he,hb6⟩
      exact⟨he,hq'.trans (hb6.mono hq'.size)⟩
     try simp only[Act.put,WA,WB,WC]
     refine WV (by rfl) (.pointer (some ⟨tb,0,none⟩)) (fun w' hw'=> ?_) ?_
     ·have hq':=hw'
      go_simp
     try simp only[Act.put,WA,WB,WC]
     refine WV (by rfl) (.pointer (some ⟨tb,0,none⟩)) (fun w' hw'=> ?_) ?_
     ·have hq':=hw'
      go_simp
     try simp only[Act.put,WA,WB,WC]
     refine WV (by rfl) (.pointer (some ⟨tb,0,none⟩)) (fun w' hw'=> ?_) ?_
     ·have hq':=hw'
      go_simp
     try simp only[Act.put,WA,WB,WC]
     refine WV (by rfl) (.pointer (some ⟨tb,1,none⟩)) (fun w' hw'=> ?_) ?_
     ·have hq':=hw'
      go_simp
     try simp only[Act.put,WA,WB,WC]
     refine WV (by rfl) (.int .i64 B) (fun w' hw'=> ?_) ?_
     ·have hq':=hw'
      have z0:=Ja hw' t4;have z1:=Ja hw' c7;have z2:=Ja hw' p1;go_simp
     try simp only[Act.put,WA,WB,WC]
     refine WV (by rfl) (.bool (decide (ul<B))) (fun w' hw'=> ?_) ?_
     ·have hq':=hw'
      go_simp
     try simp only[Act.put,WA,WB,WC]
     refine WV (by rfl) (.bool (decide (ul<B))) (fun w' hw'=> ?_) ?_
     ·have hq':=hw'
      go_simp
     try simp only[Act.put,WA,WB,WC]
     refine WQ.done ?_
     intro w6 hX
     go_wp2_with fail
     go_meet
     exact⟨by simp,hX⟩
   case rest=>
   obtain⟨rfl,hX⟩:=hcut
   obtain⟨w6,hw6⟩:∃w6,w6=wc:=⟨_,rfl⟩
   subst hw6
   have HX6:=Lib.hid (HX5.out.trans (hX.mono HX5.out.size))
   have t46:=Ja hX t4
   have t56:=Ja hX t5
   clear t4 c7 p1 t5 hX HX5
   by_cases hq:(bw||decide (ul<B))=true
   ·rw[hq]
    have HQ:=Lib.hid hq
    clear hq
    go_wp2_with fail
    go_ret
    show Jdh K n w v T key (.returned (.int .i64 0)) w6
    obtain⟨hO,hnum,hld,htr⟩:=HO.out
    refine⟨nn+1,v2,T2,g2,l2,⟨hO.run.on HX6.out,hO.gd⟩,Or.inl ⟨rfl,hld,Or.inr ?_⟩⟩
    have h1:=HQ.out
    rw[Bool.or_eq_true] at h1
    rcases h1 with h1|h1
    ·rw[HGV.out.2,HGL.out] at h1
     exact Or.inl fun q=>by rw[q] at h1;simp at h1
    ·have h2:=of_decide_eq_true h1
     rw[HGT.out.1,HB.out] at h2
     exact Or.inr h2
   ·have hqf:(bw||decide (ul<B))=false:=by simpa using hq
    rw[hqf]
    have HQ:=Lib.hid hqf
    clear hq hqf
    have HU:=Lib.hid (show K.B<=v2.us.length from by
     have h1:=HQ.out
     rw[Bool.or_eq_false_iff] at h1
     have h2:=of_decide_eq_false h1.2
     rw[HGT.out.1,HB.out] at h2
     omega)
    have HHC:=Lib.hid (fun(q:Int) w' (hq:q=(nn:Int)+2) (hb:Below w6.heap.size w6 w')=>by
     obtain⟨hO,hnum,hld,htr⟩:=HO.out
     exact Jn8 nn K v2.b (nn+1+1) [] [] w' v2 T2 q HP.out.1 ((htr.on HX6.out).on hb).pre hld (fun q=>by
      have h1:=HU.out
      have h2:=HP.out.1.B
      rw[q] at h1;simp at h1;omega) hq (by have:=htr.n8;omega))
    rw[<-Htb.out,<-HVB.out] at HHC
    have HRL2:=Lib.hid (fun(e:Ending) (w' w7:World) (hb:Below w6.heap.size w6 w') (h:∃v' T' g l,Ran K v2.b (nn+1+1) (nn+1) w' v2 T2 w7 v' T' g l/\((e=.returned (.int .i64 0)/\v'.kn=none/\l≠[]/\(Gk K (nn+1) v2->Gk K (nn+1) v'))\/(e=.returned (.int .i64 10)/\0<T2.wr))/\((K.B<=v2.us.length/\v2.ch.length<=K.F)->∀m∈l,K.B/K.F<=m))=>show∃x:Int,e=.returned (.int .i64 x)/\Hid (∃v3 T3 gg l,Z6 K n w v T (nn+1) w7 v3 T3 gg l/\((x=0/\mu (nn+1) v3<gk/\v3.ld=true/\v3.kn=none/\(Gd K n v->0<T.wr\/(GkB K (nn+1) v3/\∀m∈l,K.B/K.F<=m)))\/(x=10/\0<T.wr))) from by
     obtain⟨v',T',g',l',hR,hor,hbg⟩:=h
     obtain⟨hO,hnum,hld,htr⟩:=HO.out
     have r1:=((hO.run.on HX6.out).on hb).trans hR.tree
     rcases hor with⟨q1,q2,q3,q4⟩|⟨q1,q2⟩
     ·refine⟨0,q1,Lib.hid ⟨v',T',_,_,r1,Or.inl ⟨rfl,?_,hR.sm.kept.ld hld,q2,fun hg=>(hO.gd hg).imp id fun hg2=> ?_⟩⟩⟩
      ·have h5:=(hR.sm.less HP.out.1.F HP.out.1.L htr.ok).mu
       have h6:=ZP hR.sm.pos
       have h7:0<l'.length:=List.length_pos_iff.2 q3
       omega
      ·obtain⟨g1,g2⟩:=hg2
       have g3:v2.ch.length<=K.F/\v2.us.length<=K.B/\∀x∈v2.ch,Gd K nn x.2:=g1
       refine⟨⟨q4 g1.gk,Nat.le_trans (hR.sm.us_le htr.ok) g3.2.1⟩,fun m hm=> ?_⟩
       rcases List.mem_append.1 hm with hm|hm
       ·exact g2 m hm
       ·exact hbg ⟨HU.out,g3.1⟩ m hm
     ·exact⟨10,q1,Lib.hid ⟨v',T',_,_,r1,Or.inr ⟨rfl,Nat.lt_of_lt_of_le q2 hO.run.wr⟩⟩⟩)
    go_upto_region 9 with(fail)
    go_cut [8] from 9 to 72 (fun s8 wx=>∃x:Int,s8=.int .i64 x/\Hid (∃v3 T3 gg l,Z6 K n w v T (nn+1) wx v3 T3 gg l/\((x=0/\mu (nn+1) v3<gk/\v3.ld=true/\v3.kn=none/\(Gd K n v->0<T.wr\/(GkB K (nn+1) v3/\∀m∈l,K.B/K.F<=m)))\/(x=10/\0<T.wr))))
    case first=>
     have hdr:Below w6.heap.size w6 w6.drew:=Jb (Below.refl _ _)
     go_region_law (first|(go_simp;go_at_call 64;refine(HHC.out _ w6.drew (by omega) hdr).mono ?_;rintro e w7 h7;obtain⟨x7,rfl,hr7⟩:=HRL2.out e w6.drew w7 hdr (by rw[<-HVB.out];exact h7);clear h7))
     all_goals
      go_wp2_with fail
      go_meet
      exact⟨x7,rfl,hr7⟩
    case rest=>
    obtain⟨x7,rfl,HR⟩:=hcut
    obtain⟨w7,hw7⟩:∃w7,w7=wc:=⟨_,rfl⟩
    subst hw7
    clear HRL2 HHC t46 t56
    obtain⟨v3,T3,g3,l3,hR3,hor⟩:=HR.out
    rcases hor with⟨rfl,hmu,hl3,hk3,hg3⟩|⟨rfl,hpos⟩
    case inr=>
     go_wp2_with fail
     go_ret
     show Jdh K n w v T key (.returned (.int .i64 10)) w7
     exact⟨nn+1,v3,T3,g3,l3,⟨hR3,fun _=>Or.inl hpos⟩,Or.inr ⟨rfl,hpos⟩⟩
    case inl=>
    have HTP:=Lib.hid (JqN w7 HP.out.1 (HP.out.2.next HP.out.1 hR3) hl3 hk3)
    rw[<-Htb.out] at HTP
    have HR3:=Lib.hid (And.intro hR3 (And.intro hmu hg3))
    clear hR3 hmu hg3 HR
    go_wp2_with fail
    refine HTP.out.mono ?_
    rintro e w8 ⟨rfl,n8,v8,T8,g8,l8,hT⟩
    have HT:=Lib.hid hT
    clear hT
    go_wp2_with fail
    go_roundg (mu n8 v8)
    case measure=>
     obtain⟨hR3,hmu,hg3⟩:=HR3.out
     have:=(HT.out.run.rt.less HP.out.1.F HP.out.1.L (HP.out.2.next HP.out.1 hR3).ok).mu
     omega
    case rel=>
     obtain⟨hR3,hmu,hg3⟩:=HR3.out
     refine Lib.hid ⟨n8,v8,T8,_,_,⟨hR3.trans HT.out.run,fun hg=> ?_⟩,rfl⟩
     rcases hg3 hg with q|⟨q1,q2⟩
     ·exact Or.inl q
     ·rcases HT.out.gd q1 with q|q
      ·exact Or.inl (Nat.lt_of_lt_of_le q hR3.wr)
      ·refine Or.inr ⟨q,fun m hm=> ?_⟩
       rcases List.mem_append.1 hm with hm|hm
       ·exact q2 m hm
       ·exact HT.out.big m hm
end Go.Proofs.YtafciefjlkdecaaGreat
namespace Go.Proofs.YtafciefjlkdecaaGreat
open Go.RowKit
def Zn:Nat->Vt->Prop
 |0,v=>∀p,v.kn=some p->p.s<4294967296
 |n+1,v=>(∀p,v.kn=some p->p.s<4294967296)/\∀x∈v.ch,Zn n x.2
theorem JdS:∀ {n:Nat} {t:Vt} {b:Nat} {m l:Bool},Zn n {t with b:=b,mem:=m,ld:=l}↔Zn n t
 |0,_,_,_,_=>Iff.rfl
 |_+1,_,_,_,_=>Iff.rfl
theorem YN.pso {v v':Vt} (h:YN v v'):∀ {n:Nat},Zn n v->Zn n v'
 |0,hs=>fun p hp=>hs p (by rw[<-h.kn];exact hp)
 |n+1,hs=>⟨fun p hp=>hs.1 p (by rw[<-h.kn];exact hp),by
  refine JcU (P:=fun _ _ t=>Zn n t) h.ch hs.2 fun c t t' e hk=> ?_
  have h1:=(JdS (n:=n) (t:=t) (b:=0) (m:=false) (l:=t.ld)).2 hk
  have h2:Zn n (Zs (c,t)).2:=h1
  rw[e] at h2
  exact(JdS (n:=n) (t:=t') (b:=0) (m:=false) (l:=t'.ld)).1 h2⟩
theorem Job {n:Nat} {v:Vt} (l:List Upd) (h:Zn n v):Zn n (gv n v l):=by
 cases n with
 |zero=>exact fun p hp=>h p hp
 |succ n=>exact⟨fun p hp=>h.1 p hp,h.2⟩
theorem JnY {n:Nat} {v:Vt} (h:Zn n v):Zn n {v with kn:=none}:=by
 cases n with
 |zero=>exact fun p hp=>(by cases hp)
 |succ n=>exact⟨fun p hp=>(by cases hp),h.2⟩
theorem ZH.pso {F n:Nat} {c:List UInt8} {t:Vt} {Q:List (Chd×Vt)} (h:ZH F c t Q) (hs:Zn (n+1) t):∀x∈Q,Zn (n+1) x.2:=by
 obtain⟨X,y,Y,ba,bb,e,-,-,-,rfl⟩:=h.ex
 have h2:=hs.2
 rw[e] at h2
 intro x hx
 simp only[List.mem_cons,List.not_mem_nil,or_false] at hx
 rcases hx with rfl|rfl
 ·exact⟨fun p hp=>(by cases hp),fun z hz=>h2 z (List.mem_append_left _ hz)⟩
 ·exact⟨fun p hp=>(by cases hp),YD (P:=Zn n) fun z hz=>h2 z (List.mem_append_right _ hz)⟩
theorem Sm.pso {F L:Nat} {n:Nat} {v v':Vt} {g:List Int} {h:List Nat} (s:Sm F L n v v' g h):Zn n v->Zn n v':=by
 induction s with
 |refl n v=>exact id
 |trans _ _ ih1 ih2=>exact fun h=>ih2 (ih1 h)
 |load hl=>exact hl.pso
 |soil=>exact JnY
 | @kid n v A c t t' D g h e hk _ ih=>
  exact fun hs=>⟨hs.1,ZJ (P:=Zn n) (Q:=[(c,t')]) e hs.2 fun z hz=>by
   rw[List.mem_singleton] at hz
   subst hz
   exact ih (hs.2 (c,t) (by rw[e];simp))⟩
 | @kidLoad n v A c t t' D e hl=>
  exact fun hs=>⟨hs.1,ZJ (P:=Zn n) (Q:=[(c,t')]) e hs.2 fun z hz=>by
   rw[List.mem_singleton] at hz
   subst hz
   exact hl.pso (hs.2 (c,t) (by rw[e];simp))⟩
 | @hand n v A c t D e hk ht _=>
  exact fun hs=>⟨hs.1,ZJ (P:=Zn n) (Q:=[(c,gv n t _)]) e hs.2 fun z hz=>by
   rw[List.mem_singleton] at hz
   subst hz
   exact Job _ (hs.2 (c,t) (by rw[e];simp))⟩
 | @parts v A c t D Q e hk ht hL hP=>
  exact fun hs=>⟨hs.1,YD (P:=Zn 0) (ZJ e hs.2 fun z hz p hp=>by rw[(hP.leaf z hz).2.2.2.2] at hp;cases hp)⟩
 | @halve n v A c t D Q e hk ht hP=>
  exact fun hs=>⟨hs.1,YD (P:=Zn (n+1)) (ZJ e hs.2 (hP.pso (hs.2 (c,t) (by rw[e];simp))))⟩
 | @drop v A c t D e hk ht he hne=>
  exact fun hs=>⟨hs.1,YD (P:=Zn 0) (ZJ (Q:=[]) e hs.2 fun z hz=>by simp at hz)⟩
theorem Rt.pso {F L:Nat} {n n':Nat} {v v':Vt} {g:List Int} {h:List Nat} (s:Rt F L n v n' v' g h):Zn n v->Zn n' v':=by
 induction s with
 |sm s=>exact s.pso
 |trans _ _ i1 i2=>exact fun q=>i2 (i1 q)
 | @leaf v b Q hk _ hP=>
  refine fun _=>⟨fun p hp=>(by cases hp),YD (P:=fun t=>Zn 0 t) fun x hx p hp=> ?_⟩
  rw[(hP.leaf x hx).2.2.2.2] at hp;cases hp
 | @rise n v b Q hk hP=>exact fun q=>⟨fun p hp=>(by cases hp),YD (P:=fun t=>Zn (n+1) t) (hP.pso q)⟩
 | @down n v c t hk _ hc=>exact fun q=>q.2 (c,t) (by rw[hc];simp)
open Go.RowKit
attribute [local go_sem ↓] Go.wp_at_zero Go.wp_at_succ
structure AP (K:Kx) (n:Nat) (w:World) (v:Vt) (T:Tx) (u:Upd) (n1:Nat) (w1:World) (v1:Vt) (T1:Tx) (g:List Int) (l:List Nat):Prop where
 ok:Zf K n1 w1 v1 T1
 den:∀q,den n1 v1 q=JdQ (YJ [u] q) (den n v q)
 addrs:(addrs n1 v1++g).Perm (addrs n v)
 fresh:∀b∈blocks n1 v1,b∈blocks n v\/w.heap.size<=b
 gvb:∀x,T1.gv.ownBlock=some x->T.gv.ownBlock=some x\/w.heap.size<=x
 keep:Jg (fun x=>Own K T x\/x∈blocks n v) w w1
 gone:T1.gone=T.gone++g
 fl:T1.fl=T.fl+l.length
 le:T1.le=l.foldl Ji5 T.le
 wr:T1.wr<=T.wr
 pot:pot n1 v1+2^(n1+1)<=pot n v+2^(n+1)+1
 mu:mu n1 v1+l.sum<=mu n v+20
 om:om n1 v1+l.sum<=om n v+n1
 gd:Gd K n v->0<T.wr\/(Gd K n1 v1/\∀m∈l,K.B/K.F<=m)
 pso:Zn n v->Zn n1 v1
theorem Z6.keep_trans {K:Kx} {n n1:Nat} {w w1 w2:World} {v v1:Vt} {T T1:Tx} {g:List Int} {l:List Nat} (a:Z6 K n w v T n1 w1 v1 T1 g l) (b:Jg (fun x=>Own K T1 x\/x∈blocks n1 v1) w1 w2):Jg (fun x=>Own K T x\/x∈blocks n v) w w2:=a.keep.trans b fun x hx=>by
 rcases hx with(q|q|q)|q
 ·exact Or.inl (Or.inl (Or.inl q))
 ·exact Or.inl (Or.inl (Or.inr (Or.inl q)))
 ·rcases a.gvb x q with k|k
  ·exact Or.inl (Or.inl (Or.inr (Or.inr k)))
  ·exact Or.inr k
 ·rcases a.fresh x q with k|k
  ·exact Or.inl (Or.inr k)
  ·exact Or.inr k
def Jl5 (K:Kx) (n:Nat) (w:World) (v:Vt) (T:Tx) (u:Upd) (e:Ending) (w':World):Prop:=(e=.returned (.int .i64 0)/\∃n1 v1 T1 g l,AP K n w v T u n1 w' v1 T1 g l)\/(e=.returned (.int .i64 10)/\0<T.wr/\∃n1 v1 T1 g l,RM K n w v T n1 w' v1 T1 g l)
theorem Jl8 {l:List Upd} (hr:Jd Upd.key l) (u:Upd) (h:YJ l u.key≠none):(JR l u).length=l.length:=by
 cases hh:JC Upd.key l u.key with
 |false=>exact absurd (JdJ hh) h
 |true=>
  obtain⟨i,hi,hk,e⟩:=ZS hr hh
  rw[e,List.length_set]
theorem Jl6 {l:List Upd} (hr:Jd Upd.key l) (u:Upd):JR l u≠[]:=by
 cases hh:JC Upd.key l u.key with
 |false=>
  rw[Xj hh]
  intro q
  have:=congrArg List.length q
  rw[Jja] at this
  simp at this
 |true=>
  obtain⟨i,hi,hk,e⟩:=ZS hr hh
  rw[e]
  intro q
  have:=congrArg List.length q
  rw[List.length_set] at this
  simp at this
  rw[this] at hi
  simp at hi
theorem JpD {K:Kx} {n:Nat} {v:Vt} {u:Upd} (ho:Ok n [] [] v) (hg:Gd K n v) (hw:n=0\/YJ v.us u.key≠none\/v.us.length<K.B):GkB K n (gv n {v with kn:=none} [u]):=by
 cases n with
 |zero=>
  refine⟨trivial,?_⟩
  show v.us.length<=K.B
  rw[ho.1];exact Nat.zero_le _
 |succ n=>
  have hg1:v.ch.length<=K.F/\v.us.length<=K.B/\∀x∈v.ch,Gd K n x.2:=hg
  refine⟨hg1.2.2,?_⟩
  show(JR v.us u).length<=K.B
  rcases hw with q|q|q
  ·omega
  ·rw[Jl8 ho.usr u q];exact hg1.2.1
  ·have:=Jdl ho.usr u;omega
theorem JqS {a b c d g1 g2 g3:List Int} (h1:(b++g1).Perm a) (h2:(c++g2).Perm b) (h3:(d++g3).Perm c):(d++(g1++(g2++g3))).Perm a:=by
 have e1:(d++(g1++(g2++g3))).Perm (((d++g3)++g2)++g1):=by
  rw[List.append_assoc,List.append_assoc]
  refine List.Perm.append_left _ ?_
  refine List.Perm.trans List.perm_append_comm ?_
  rw[<-List.append_assoc]
  exact List.Perm.append_right _ List.perm_append_comm
 exact e1.trans ((((h3.append_right _).trans h2).append_right _).trans h1)
theorem JqH {K:Kx} {n:Nat} {v:Vt} {T:Tx} (u:Upd) (w:World) (hP:Ja7 K) (ht:Zf K n w v T) (hu:Tm u) (hpot:pot n v+2^(n+1)+1<=800) (hmu:T.fl+mu n v+20<=1000000000000):
  Calls Tryz.prog 13 #[.pointer (some ⟨K.tb,0,none⟩),.agg #[.int .u8 u.kind,.string (S u.key),.string (S u.val),.int .u64 u.delta]] w fun e w'=>Jl5 K n w v T u e w':=by
 have HC:=Lib.hid (fun w'=>chk u.kind u.key u.val u.delta hu.wf.1 hu.wf.2 w')
 have hck:(Upd.mk u.kind u.key u.val u.delta).check=0:=hu.check
 rw[hck] at HC
 have HP:=Lib.hid (And.intro hP (And.intro ht (And.intro hu (And.intro hpot hmu))))
 have HRO:=Lib.hid (fun w' (hb:Below w.heap.size w w')=>JqQ u.key w' hP (ht.on hb))
 obtain⟨tb,htb⟩:∃tb,tb=K.tb:=⟨_,rfl⟩
 rw[<-htb] at HRO⊢
 have Htb:=Lib.hid htb
 obtain⟨kd,hkd⟩:∃kd,kd=u.kind:=⟨_,rfl⟩
 obtain⟨key,hkey⟩:∃key,key=u.key:=⟨_,rfl⟩
 obtain⟨val,hval⟩:∃val,val=u.val:=⟨_,rfl⟩
 obtain⟨dl,hdl⟩:∃dl,dl=u.delta:=⟨_,rfl⟩
 rw[<-hkd,<-hkey,<-hval,<-hdl] at HC⊢
 rw[<-hkey] at HRO
 have HU:=Lib.hid (And.intro hkd (And.intro hkey (And.intro hval hdl)))
 clear hP ht hu hpot hmu htb hkd hkey hval hdl hck
 go_enter Tryz.func13,Tryz.ntmps13
 go_upto_region 3 with(fail)
 obtain⟨W1,hW1⟩:∃W1,W1=w.alloc (.cells #[.int .u8 kd,.string (S key),.string (S val),.int .u64 dl] 39):=⟨_,rfl⟩
 have hX1:Below w.heap.size w W1:=by rw[hW1];exact(Below.refl _ _).alloc (Nat.le_refl _) _
 have hRW:Y7 W1 39 w.heap.size [.int .u8 kd,.string (S key),.string (S val),.int .u64 dl]:=by rw[hW1];exact⟨Jc.new w _ [.int .u8 kd,.string (S key),.string (S val),.int .u64 dl]⟩
 obtain⟨ub,hub⟩:∃ub,ub=w.heap.size:=⟨_,rfl⟩
 rw[<-hub] at hRW⊢
 rw[<-hW1]
 clear hW1
 have HUB:=Lib.hid hub
 have z0:W1.cell? ⟨ub,0,none⟩=some (.int .u8 kd):=hRW.cell 0
 have z1:W1.cell? ⟨ub,1,none⟩=some (.string (S key)):=hRW.cell 1
 have z2:W1.cell? ⟨ub,2,none⟩=some (.string (S val)):=hRW.cell 2
 have z3:W1.cell? ⟨ub,3,none⟩=some (.int .u64 dl):=hRW.cell 3
 have HX1:=Lib.hid (And.intro hX1 hRW)
 clear hX1 hRW hub
 go_wp2_with fail
 refine(HC.out W1).mono ?_
 rintro e w2 ⟨rfl,hX2⟩
 have z11:=Ja hX2 z1
 have HX2:=Lib.hid (show Below w.heap.size w w2/\Y7 w2 39 ub [.int .u8 kd,.string (S key),.string (S val),.int .u64 dl] from⟨HX1.out.1.trans (hX2.mono HX1.out.1.size),HX1.out.2.kept hX2 (Nat.le_refl _)⟩)
 clear z0 z1 z2 z3 hX2
 go_wp2_with fail
 refine(HRO.out w2 HX2.out.1).mono ?_
 rintro e w3 ⟨n1,v1,T1,g1,l1,hR,hor⟩
 have HR:=Lib.hid (show RM K n w v T n1 w3 v1 T1 g1 l1 from⟨by
  have:=((Z6.refl HP.out.2.1.m HP.out.2.1.nd HP.out.2.1.c).on HX2.out.1).trans hR.run
  simpa using this,hR.gd⟩)
 have hrw3:Y7 w3 39 ub [.int .u8 kd,.string (S key),.string (S val),.int .u64 dl]:=HX2.out.2.keep hR.run.keep (Jfs (HP.out.2.1.m.on HX2.out.1) (HP.out.2.1.c.on HX2.out.1) HX2.out.2.row (by decide) (by decide) (by decide) (by decide))
 clear hR HRO HC
 rcases hor with⟨rfl,hld,hwt⟩|⟨rfl,hpos⟩
 case inr=>
  go_wp2_with fail
  go_ret
  show Jl5 K n w v T u (.returned (.int .i64 10)) w3
  exact Or.inr ⟨rfl,hpos,n1,v1,T1,g1,l1,HR.out⟩
 case inl=>
 have htr:=HP.out.2.1.next HP.out.1 HR.out.run
 have t4:w3.cell? ⟨tb,4,none⟩=some (.pointer (some ⟨v1.b,0,none⟩)):=by rw[Htb.out];exact htr.c.tr.c4
 have htl:tb<w3.heap.size:=World.block_lt_of_cell? _ _ t4
 have e1:∀x,(w3.alloc x).cell? ⟨tb,4,none⟩=some (.pointer (some ⟨v1.b,0,none⟩)):=fun x=>(World.cell?_alloc_past _ _ _ htl).trans t4
 have z0:w3.cell? ⟨ub,0,none⟩=some (.int .u8 kd):=hrw3.cell 0
 have z1:w3.cell? ⟨ub,1,none⟩=some (.string (S key)):=hrw3.cell 1
 have z2:w3.cell? ⟨ub,2,none⟩=some (.string (S val)):=hrw3.cell 2
 have z3:w3.cell? ⟨ub,3,none⟩=some (.int .u64 dl):=hrw3.cell 3
 have hW3:Below w3.heap.size w3 (w3.alloc (.cells #[.int .u8 kd,.string (S key),.string (S val),.int .u64 dl] 39)).drew:=Jb ((Below.refl _ _).alloc (Nat.le_refl _) _)
 have huu:(⟨kd,key,val,dl⟩:Upd)=u:=by obtain⟨q1,q2,q3,q4⟩:=HU.out;rw[q1,q2,q3,q4]
 have HS3:=Lib.hid (show SlU (w3.alloc (.cells #[.int .u8 kd,.string (S key),.string (S val),.int .u64 dl] 39)).drew (.slice (some ⟨w3.heap.size,0,none⟩) 1 1) [u] from by
  rw[<-huu]
  exact⟨_,_,rfl,JE.new w3 _ _ _ [(⟨kd,key,val,dl⟩:Upd)] (fun x hx=>rfl) (by simp;rfl),Nat.le_refl _,by show(1:Int)<=_;omega,fun e=>by simp at e⟩)
 have hgv:ZC [] [] [u]:=⟨List.pairwise_singleton _ _,fun x hx=>by
  rw[List.mem_singleton] at hx
  rw[hx]
  exact⟨HP.out.2.2.1,Je.2 ⟨Zl _,Or.inl rfl⟩⟩⟩
 have HG:=Lib.hid (Jjj (.slice (some ⟨w3.heap.size,0,none⟩) 1 1) [u] _ (htr.c.on hW3) (htr.m.on hW3) htr.nd hld htr.ok (Nat.le_trans (Nat.le_trans (Nat.le_add_right _ _) htr.pot) (by omega)) hgv (by simp) HS3.out (by have:=htr.gone;omega))
 rw[<-Htb.out] at HG
 have HV:=Lib.hid (And.intro htr (And.intro hld (And.intro hwt (And.intro hgv hW3))))
 clear htr hld hwt hgv hW3 huu hrw3 htl
 have HF:=Lib.hid (fun(w4:World) (gv4:Value) (mv:Mv K v1.b (n1+1) n1 (w3.alloc (.cells #[.int .u8 kd,.string (S key),.string (S val),.int .u64 dl] 39)).drew v1 T1 w4 (gv n1 {v1 with kn:=none} [u]) {T1 with gv:=gv4,gone:=T1.gone++v1.kn.toList.map Pt.a})=>show Calls Tryz.prog 41 #[.pointer (some ⟨tb,0,none⟩)] w4 fun e w5=>e=.returned (.tuple #[])/\Jl5 K n w v T u (.returned (.int .i64 0)) w5 from by
  obtain⟨htr,hld,hwt,hgv,hW3⟩:=HV.out
  obtain⟨hP,ht,hu,hpot,hmu⟩:=HP.out
  have s:Sm K.F K.L n1 v1 {v1 with kn:=none} (v1.kn.toList.map Pt.a) []:=Sm.soil' v1
  obtain⟨so1,so2⟩:=s.good htr.ok
  have sl:=s.less hP.F hP.L htr.ok
  have rl:=HR.out.run.rt.less hP.F hP.L ht.ok
  obtain⟨k1,k2,k3,k4,k5⟩:=Jod n1 {v1 with kn:=none} [u]
  obtain⟨v4,hv4⟩:∃v4,v4=gv n1 {v1 with kn:=none} [u]:=⟨_,rfl⟩
  obtain⟨T4,hT4⟩:∃T4:Tx,T4= {T1 with gv:=gv4,gone:=T1.gone++v1.kn.toList.map Pt.a}:=⟨_,rfl⟩
  have hok4:=Jjh so1 hgv
  have hpt4:=Joc [u] so1
  have hmu4:=Jp8 [u] so1
  have hsh4:=Joa [u] rfl (s.shf htr.sh)
  have had:=s.addrs
  have had4:=Jji n1 {v1 with kn:=none} [u]
  rw[<-hv4] at mv k1 k2 k3 k4 k5 hok4 hpt4 hmu4 hsh4 had4
  rw[<-hT4] at mv
  rw[List.length_singleton] at hpt4 hmu4
  have hn8:=htr.n8
  have hmul:2*(n1+1)*1<=18:=by omega
  have h1:=rl.pot
  have h2:=rl.mu
  have h3:=sl.pot
  have h4:=sl.mu
  have h5:=ZP HR.out.run.rt.pos
  have h6:=HR.out.run.fl
  have hT4f:T4.fl=T1.fl:=by rw[hT4]
  have hT4g:T4.gone=T1.gone++v1.kn.toList.map Pt.a:=by rw[hT4]
  have hT4w:T4.wr=T1.wr:=by rw[hT4]
  have hT4l:T4.le=T1.le:=by rw[hT4]
  have hal:=had.length_eq
  rw[<-had4] at hal had
  rw[List.length_append] at hal
  have hg0:=htr.gone
  have hb4:v4.b=v1.b:=k3
  have hok:Zf K n1 w4 v4 T4:=⟨by rw[hb4];exact mv.cx,mv.mem,mv.nodup,hok4,hsh4,by omega,by rw[hT4w];exact htr.wr,by rw[hT4g,List.length_append];omega,by rw[hT4f,h6];simp only[List.sum_nil] at h4;omega⟩
  have HTP:=JqN w4 hP hok (by rw[k5];exact hld) k1
  rw[<-Htb.out] at HTP
  refine HTP.mono ?_
  rintro e w5 ⟨rfl,n5,v5,T5,g5,l5,td⟩
  refine⟨rfl,Or.inl ⟨rfl,n5,v5,T5,g1++(v1.kn.toList.map Pt.a++g5),l1++l5,?_⟩⟩
  have tl:=td.run.rt.less hP.F hP.L hok.ok
  have z1:=HR.out.run.keep.size
  have z2:=hW3.size
  have z3:=mv.keep.size
  have K34:Jg (fun x=>Own K T1 x\/x∈blocks n1 v1) w3 w4:=(Jg.of_below hW3).trans' mv.keep
  have K35:Jg (fun x=>Own K T1 x\/x∈blocks n1 v1) w3 w5:=K34.trans td.run.keep fun x hx=>by
   rcases hx with(q|q|q)|q
   ·exact Or.inl (Or.inl (Or.inl q))
   ·exact Or.inl (Or.inl (Or.inr (Or.inl q)))
   ·rcases mv.gvb x q with k|k
    ·exact Or.inl (Or.inl (Or.inr (Or.inr k)))
    ·exact Or.inr (by omega)
   ·rcases mv.fresh x q with k|k
    ·exact Or.inl (Or.inr k)
    ·exact Or.inr (by omega)
  refine⟨hok.next hP td.run,fun q=> ?_,JqS HR.out.run.rt.addrs had td.run.rt.addrs,fun b hb=> ?_,fun x hx=> ?_,HR.out.run.keep_trans K35,by rw[td.run.gone,hT4g,HR.out.run.gone,List.append_assoc,List.append_assoc],by rw[td.run.fl,hT4f,h6,List.length_append];omega,by rw[td.run.le,hT4l,HR.out.run.le,List.foldl_append],Nat.le_trans td.run.wr (by rw[hT4w];exact HR.out.run.wr),?_,?_,?_,fun hg=> ?_,fun hq=>td.run.rt.pso (by rw[hv4];exact Job _ (JnY (HR.out.run.rt.pso hq)))⟩
  ·rw[(td.run.rt.good hok.ok).2 q,hv4,JkP so1 hgv q,so2 q (Je.2 ⟨Zl q,Or.inl rfl⟩),(HR.out.run.rt.good ht.ok).2 q]
  ·rcases td.run.fresh b hb with k|k
   ·rcases mv.fresh b k with k|k
    ·exact HR.out.run.fresh b k
    ·exact Or.inr (by omega)
   ·exact Or.inr (by omega)
  ·rcases td.run.gvb x hx with k|k
   ·rcases mv.gvb x k with k|k
    ·exact HR.out.run.gvb x k
    ·exact Or.inr (by omega)
   ·exact Or.inr (by omega)
  ·have:=tl.pot;omega
  ·have:=tl.mu
   rw[List.sum_append]
   simp only[List.sum_nil] at h4
   omega
  ·have e1:=tl.om
   have e2:=rl.om
   have e3:=sl.om
   have e4:=Jp7 [u] so1
   rw[<-hv4,List.length_singleton] at e4
   rw[List.sum_append]
   simp only[List.sum_nil] at e3
   have e5:n1*1<=n5:=by
    cases n1 with
    |zero=>omega
    |succ m=>
     have:=(td.up (by rw[hv4];exact Jl6 (so1.usr) u)).1
     omega
   omega
  ·rcases HR.out.gd hg with q|⟨q1,q2⟩
   ·exact Or.inl q
   ·have hgk:=JpD (u:=u) htr.ok q1 (by rw[<-HU.out.2.1];exact hwt)
    rw[<-hv4] at hgk
    rcases td.gd hgk with q|q
    ·rw[hT4w] at q
     exact Or.inl (Nat.lt_of_lt_of_le q HR.out.run.wr)
    ·refine Or.inr ⟨q,fun m hm=> ?_⟩
     rcases List.mem_append.1 hm with hm|hm
     ·exact q2 m hm
     ·exact td.big m hm)
 go_upto_region 9 with(fail)
 go_region_law (first|(go_simp;go_at_call 40;refine HG.out.mono ?_;rintro e w4 ⟨rfl,gv4,mv4⟩;have HM4:=Lib.hid mv4;clear mv4))
 all_goals
  go_wp2_with fail
  refine(HF.out w4 gv4 HM4.out).mono ?_
  rintro e w5 ⟨rfl,hA⟩
  have HA:=Lib.hid hA
  clear hA
  go_wp2_with fail
  go_ret
  show Jl5 K n w v T u (.returned (.int .i64 0)) w5
  exact HA.out
open Go.RowKit
attribute [local go_sem ↓] Go.wp_at_zero Go.wp_at_succ
structure Jro where
 l:Nat
 i:Nat
 e:Nat
 w:Nat
abbrev c4 (c:Jro):List Value:=[.int .i64 c.l,.int .i64 c.i,.int .i64 c.e,.int .i64 c.w]
end Go.Proofs.YtafciefjlkdecaaGreat
namespace Go.Proofs.YtafciefjlkdecaaGreat
open Go.RowKit
theorem Jdo {f g:Vt->Nat}:∀ {l:List (Chd×Vt)},(∀x∈l,f x.2<=g x.2)->Yf f l<=Yf g l
 |[],_=>Nat.le_refl _
 |x::l,h=>by
  rw[Jo,Jo]
  exact Nat.add_le_add (h x (by simp)) (Jdo fun y hy=>h y (List.mem_cons_of_mem _ hy))
theorem Jnw (f g:Vt->Nat):∀l:List (Chd×Vt),Yf (fun t=>f t+g t) l=Yf f l+Yf g l
 |[]=>rfl
 |x::l=>by rw[Jo,Jo,Jo,Jnw f g l];omega
theorem Jcp (c:Nat):∀l:List (Chd×Vt),Yf (fun _=>c) l=c*l.length
 |[]=>rfl
 |x::l=>by rw[Jo,Jcp c l,List.length_cons,Nat.mul_add];omega
open Go.RowKit
def Y3 (R:Vt->Vt->Prop):List (Chd×Vt)->List (Chd×Vt)->Prop
 |[],[]=>True
 |x::l,y::m=>(y.1.low=x.1.low/\Zg y.1/\R x.2 y.2)/\Y3 R l m
 |_,_=>False
def Jaw:Nat->Vt->Vt->Prop
 |0,v,v'=>v'.es=v.es/\v'.us=v.us/\v'.ch=v.ch
 |n+1,v,v'=>v'.es=v.es/\v'.us=v.us/\Y3 (Jaw n) v.ch v'.ch
theorem Y3.len {R:Vt->Vt->Prop}:∀ {l m:List (Chd×Vt)},Y3 R l m->m.length=l.length
 |[],[],_=>rfl
 |_::l,_::m,h=>by rw[List.length_cons,List.length_cons,Y3.len h.2]
 |[],_::_,h=>absurd h id
 |_::_,[],h=>absurd h id
theorem Y3.hd {R:Vt->Vt->Prop}:∀ {l m:List (Chd×Vt)},Y3 R l m->hdL m=hdL l
 |[],[],_=>rfl
 |_::_,_::_,h=>h.1.1
 |[],_::_,h=>absurd h id
 |_::_,[],h=>absurd h id
theorem Y3.sum {R:Vt->Vt->Prop} (f:Vt->Nat) (hf:∀t t',R t t'->f t'=f t):∀ {l m:List (Chd×Vt)},Y3 R l m->Yf f m=Yf f l
 |[],[],_=>rfl
 |x::l,y::m,h=>by rw[Jo,Jo,Y3.sum f hf h.2,hf _ _ h.1.2.2]
 |[],_::_,h=>absurd h id
 |_::_,[],h=>absurd h id
theorem Y3.scK {n:Nat} {R:Vt->Vt->Prop} (hf:∀t t',R t t'->∀u,enG n t' u=enG n t u) (all:List Upd):∀ {l m:List (Chd×Vt)},Y3 R l m->scK (enG n) all m=scK (enG n) all l
 |[],[],_=>rfl
 |x::l,y::m,h=>by
  rw[X0,X0,Y3.scK hf all h.2,h.2.hd,hf _ _ h.1.2.2]
  show enG n x.2 (JH all y.1.low (hdL l))++_=enG n x.2 (JH all x.1.low (hdL l))++_
  rw[h.1.1]
 |[],_::_,h=>absurd h id
 |_::_,[],h=>absurd h id
theorem Y3.mem {R:Vt->Vt->Prop}:∀ {l m:List (Chd×Vt)},Y3 R l m->∀y∈m,∃x∈l,y.1.low=x.1.low/\Zg y.1/\R x.2 y.2
 |[],[],_,y,hy=>by cases hy
 |x::l,z::m,h,y,hy=>by
  rcases List.mem_cons.1 hy with rfl|hy
  ·exact⟨x,by simp,h.1⟩
  ·obtain⟨a,ha,hb⟩:=Y3.mem h.2 y hy
   exact⟨a,List.mem_cons_of_mem _ ha,hb⟩
 |[],_::_,h,_,_=>absurd h id
 |_::_,[],h,_,_=>absurd h id
theorem Y3.okk {R:Vt->Vt->Prop} {Q:List UInt8->List UInt8->Vt->Prop} {hi:List UInt8} (hq:∀t t' lo hi,R t t'->Q lo hi t->Q lo hi t'):∀ {l m:List (Chd×Vt)} {lo:List UInt8},Y3 R l m->OkK Q hi lo l->OkK Q hi lo m
 |[],_,_,_,h=>absurd h id
 |[x],[y],lo,h,k=>hq _ _ _ _ h.1.2.2 k
 |[x],y::z::m,_,h,_=>absurd h.2 id
 |x::z::l,[y],_,h,_=>absurd h.2 id
 |x::x'::l,y::y'::m,lo,h,k=>by
  obtain⟨k1,k2,k3,k4⟩:=OkK.two.1 k
  have e:lw y'=lw x':=h.2.1.1
  refine OkK.two.2 ⟨by rw[e];exact k1,by rw[e];exact k2,by rw[e];exact hq _ _ _ _ h.1.2.2 k3,?_⟩
  rw[e]
  exact Y3.okk hq h.2 k4
 |_::_,[],_,h,_=>absurd h id
theorem Y3.first {R:Vt->Vt->Prop}:∀ {l m:List (Chd×Vt)},Y3 R l m->(∀x,l[0]? =some x->lw x=[])->∀y,m[0]? =some y->lw y=[]
 |[],[],_,_,y,hy=>by simp at hy
 |x::l,z::m,h,k,y,hy=>by
  simp only[List.getElem?_cons_zero,Option.some.injEq] at hy
  subst hy
  have:=k x rfl
  exact h.1.1.trans this
 |[],_::_,h,_,_,_=>absurd h id
 |_::_,[],h,_,_,_=>absurd h id
theorem Jaw.gv {n:Nat} {v v':Vt} (h:Jaw n v v') (u:List Upd):Jaw n (gv n v u) (gv n v' u):=by
 cases n with
 |zero=>exact⟨by show Yr v'.es u=Yr v.es u;rw[h.1],h.2.1,h.2.2⟩
 |succ n=>exact⟨h.1,by show u.foldl JR v'.us=u.foldl JR v.us;rw[h.2.1],h.2.2⟩
theorem JlA:∀(n:Nat) (v v':Vt),Jaw n v v'->en n v'=en n v
 |0,v,v',h=>h.1
 |n+1,v,v',h=>by
  rw[JhM,JhM,h.2.1]
  exact Y3.scK (fun t t' ht u=>JlA n _ _ (ht.gv u)) v.us h.2.2
theorem XT:∀(n:Nat) (v v':Vt) (lo hi:List UInt8),Jaw n v v'->Ok n lo hi v->Ok n lo hi v'
 |0,v,v',lo,hi,h,⟨a,b,c,d⟩=>⟨h.2.1.trans a,h.2.2.trans b,by rw[h.1];exact c,by rw[h.1];exact d⟩
 |n+1,v,v',lo,hi,h,⟨a,b,c,d,e,f⟩=>by
  refine⟨h.1.trans a,by rw[h.2.1];exact b,by rw[h.2.1];exact c,fun y hy=> ?_,h.2.2.first e,h.2.2.okk (fun t t' lo hi ht ho=>XT n t t' lo hi ht ho) f⟩
  obtain⟨x,hx,h1,h2,-⟩:=h.2.2.mem y hy
  exact⟨h2,by rw[h1];exact(d x hx).2⟩
theorem X3:∀(n:Nat) (v v':Vt),Jaw n v v'->pot n v'=pot n v
 |0,v,v',h=>by rw[Xa,Xa,h.1]
 |n+1,v,v',h=>by rw[JO,JO,h.2.1,h.2.2.len,h.2.2.sum (pot n) fun t t' ht=>X3 n t t' ht]
theorem Ja0:∀(n:Nat) (v v':Vt),Jaw n v v'->mu n v'=mu n v
 |0,v,v',h=>by rw[Xx,Xx,h.1]
 |n+1,v,v',h=>by rw[Yc,Yc,h.2.1,h.2.2.len,h.2.2.sum (mu n) fun t t' ht=>Ja0 n t t' ht]
theorem Jer {K:Kx}:∀(n:Nat) (v v':Vt),Jaw n v v'->Gd K n v->Gd K n v'
 |0,v,v',h,g=>by
  show v'.es.length<=K.L
  rw[h.1];exact g
 |n+1,v,v',h,g=>by
  obtain⟨g1,g2,g3⟩:=g
  refine⟨by rw[h.2.2.len];exact g1,by rw[h.2.1];exact g2,fun y hy=> ?_⟩
  obtain⟨x,hx,-,-,h3⟩:=h.2.2.mem y hy
  exact Jer n _ _ h3 (g3 x hx)
theorem Jfg {n:Nat} {v v':Vt} (h:Jaw n v v') (ho:Ok n [] [] v) (q:List UInt8):den n v' q=den n v q:=by
 obtain⟨-,-,h1⟩:=JkW ho
 obtain⟨-,-,h2⟩:=JkW (XT n v v' [] [] h ho)
 rw[<-h1,<-h2,JlA n v v' h]
theorem Y3.refl {R:Vt->Vt->Prop}:∀ {l:List (Chd×Vt)},(∀x∈l,Zg x.1/\R x.2 x.2)->Y3 R l l
 |[],_=>trivial
 |x::l,h=>⟨⟨rfl,h x (by simp)⟩,Y3.refl fun y hy=>h y (List.mem_cons_of_mem _ hy)⟩
theorem JdC:∀(n:Nat) (v:Vt) (lo hi:List UInt8) (b:Nat) (m l:Bool) (k:Option Pt),Ok n lo hi v->Jaw n v {v with b:=b,mem:=m,ld:=l,kn:=k}
 |0,v,_,_,_,_,_,_,_=>⟨rfl,rfl,rfl⟩
 |n+1,v,lo,hi,b,m,l,k,h=>by
  refine⟨rfl,rfl,Y3.refl fun x hx=> ?_⟩
  obtain⟨j,hj,e⟩:=List.getElem_of_mem hx
  obtain⟨lo',hi',h1,-⟩:=Jbt h j hj
  rw[e] at h1
  exact⟨(h.2.2.2.1 x hx).1,by have:=JdC n x.2 lo' hi' x.2.b x.2.mem x.2.ld x.2.kn h1;cases hx2:x.2;rw[hx2] at this;exact this⟩
open Go.RowKit
structure Sf where
 f:Int->Option Blk
 gen:Nat
 nn:Nat
 sz:Nat
def JmX (f:Int->Option Blk):Nat->Nat->Nat
 |0,i=>i
 |k+1,i=>if(f (i:Int)).isNone then i else JmX f k (i+1)
theorem JgT (f:Int->Option Blk):∀(k i:Nat),f ((i+k:Nat):Int)=none->(∀j:Nat,j<i->f (j:Int)≠none)->f (JmX f k i:Int)=none/\(∀j:Nat,j<JmX f k i->f (j:Int)≠none)/\JmX f k i<=i+k
 |0,i,h,hj=>⟨h,hj,Nat.le_refl _⟩
 |k+1,i,h,hj=>by
  unfold JmX
  by_cases hi:f (i:Int)=none
  ·rw[if_pos (by rw[hi];rfl)]
   exact⟨hi,hj,by omega⟩
  ·rw[if_neg (by simpa using hi)]
   obtain⟨h1,h2,h3⟩:=JgT f k (i+1) (by rw[show i+1+k=i+(k+1) by omega];exact h) fun j hlt=>by
    rcases Nat.lt_or_eq_of_le (Nat.le_of_lt_succ hlt) with q|q
    ·exact hj j q
    ·rw[q];exact hi
   exact⟨h1,h2,by omega⟩
def Win (s:Sf):Prop:=∀a b,s.f a=some b->0<=a/\a<s.gen/\b.gen<=s.gen
def fre (s:Sf):Nat:=JmX s.f s.gen 0
theorem Jda {s:Sf} (h:Win s):s.f (fre s:Int)=none/\(∀j:Nat,j<fre s->s.f (j:Int)≠none)/\fre s<=s.gen:=by
 have h0:s.f ((0+s.gen:Nat):Int)=none:=by
  cases e:s.f ((0+s.gen:Nat):Int) with
  |none=>rfl
  |some b=>
   have:=h _ _ e
   omega
 obtain⟨h1,h2,h3⟩:=JgT s.f s.gen 0 h0 fun j hj=>absurd hj (Nat.not_lt_zero j)
 exact⟨h1,h2,by unfold fre;omega⟩
def sv1 (s:Sf) (kd:Nat) (pay:List UInt8):Pt×Sf:=(⟨fre s,s.gen+1,0⟩,⟨fun i=>if i=(fre s:Int) then some ⟨kd,pay,s.gen+1⟩ else s.f i,s.gen+1,s.nn+1,s.sz+1⟩)
def dsk:Nat->Vt->Vt
 |0,v=> {v with mem:=false,ld:=false}
 |n+1,v=> {v with mem:=false,ld:=false,ch:=v.ch.map fun x=>(x.1,dsk n x.2)}
def Jf1 (c:Chd) (k:Option Pt):Chd:=match k with|none=>c|some p=>⟨c.low,p.a,p.g,p.s⟩
def svK (g:Vt->Sf->Vt×Sf):List (Chd×Vt)->Sf->List (Chd×Vt)×Sf
 |[],s=>([],s)
 |x::r,s=>((Jf1 x.1 (g x.2 s).1.kn,(g x.2 s).1)::(svK g r (g x.2 s).2).1,(svK g r (g x.2 s).2).2)
def sv:Nat->Vt->Sf->Vt×Sf
 |0,v,s=>match v.kn with
  |some _=>(dsk 0 v,s)
  |none=>({v with mem:=false,ld:=false,kn:=some (sv1 s 4 (JS v.es)).1},(sv1 s 4 (JS v.es)).2)
 |n+1,v,s=>match v.kn with
  |some _=>(dsk (n+1) v,s)
  |none=>
   ({v with mem:=false,ld:=false,kn:=some (sv1 (svK (sv n) v.ch s).2 5 (Yn ((svK (sv n) v.ch s).1.map Prod.fst) v.us)).1,ch:=(svK (sv n) v.ch s).1},(sv1 (svK (sv n) v.ch s).2 5 (Yn ((svK (sv n) v.ch s).1.map Prod.fst) v.us)).2)
def Ye:Nat->Vt->Nat
 |0,v=>if v.kn.isNone then 1 else 0
 |n+1,v=>if v.kn.isNone then 1+Yf (Ye n) v.ch else 0
theorem JaO {v:Vt} (h:v.kn=none) (s:Sf):sv 0 v s=({v with mem:=false,ld:=false,kn:=some (sv1 s 4 (JS v.es)).1},(sv1 s 4 (JS v.es)).2):=by unfold sv;rw[h]
theorem JcP {v:Vt} {p:Pt} (h:v.kn=some p) (s:Sf):sv 0 v s=(dsk 0 v,s):=by unfold sv;rw[h]
theorem Z8 {n:Nat} {v:Vt} (h:v.kn=none) (s:Sf):sv (n+1) v s=({v with mem:=false,ld:=false,kn:=some (sv1 (svK (sv n) v.ch s).2 5 (Yn ((svK (sv n) v.ch s).1.map Prod.fst) v.us)).1,ch:=(svK (sv n) v.ch s).1},(sv1 (svK (sv n) v.ch s).2 5 (Yn ((svK (sv n) v.ch s).1.map Prod.fst) v.us)).2):=by
 rw[sv];rw[h]
theorem JcQ {n:Nat} {v:Vt} {p:Pt} (h:v.kn=some p) (s:Sf):sv (n+1) v s=(dsk (n+1) v,s):=by
 rw[sv];rw[h]
theorem JqA (n:Nat) (v:Vt):(dsk n v).kn=v.kn:=by cases n<;>rfl
theorem Jfx:∀(n:Nat) (v:Vt) (lo hi:List UInt8),Ok n lo hi v->Jaw n v (dsk n v)
 |0,_,_,_,_=>⟨rfl,rfl,rfl⟩
 |n+1,v,lo,hi,h=>by
  refine⟨rfl,rfl,?_⟩
  have hk:∀x∈v.ch,Zg x.1/\Jaw n x.2 (dsk n x.2):=fun x hx=>by
   obtain⟨j,hj,e⟩:=List.getElem_of_mem hx
   obtain⟨lo',hi',h1,-⟩:=Jbt h j hj
   rw[e] at h1
   exact⟨(h.2.2.2.1 x hx).1,Jfx n x.2 lo' hi' h1⟩
  have key:∀l:List (Chd×Vt),(∀x∈l,Zg x.1/\Jaw n x.2 (dsk n x.2))->Y3 (Jaw n) l (l.map fun x=>(x.1,dsk n x.2)):=fun l=>by
   induction l with
   |nil=>exact fun _=>trivial
   |cons x l ih=>exact fun h=>⟨⟨rfl,h x (by simp)⟩,ih fun y hy=>h y (List.mem_cons_of_mem _ hy)⟩
  exact key v.ch hk
theorem JgW:∀(n:Nat) (v:Vt),addrs n (dsk n v)=addrs n v
 |0,_=>rfl
 |n+1,v=>by
  rw[JG,JG]
  show _++Yv n (v.ch.map fun x=>(x.1,dsk n x.2))=_
  congr 1
  have key:∀l:List (Chd×Vt),Yv n (l.map fun x=>(x.1,dsk n x.2))=Yv n l:=fun l=>by
   induction l with
   |nil=>rfl
   |cons x l ih=>rw[List.map_cons,JQ,JQ,ih,JgW n x.2]
  exact key v.ch
theorem JhO {f:Int->Option Blk}:∀(n:Nat) (v:Vt),Shf f n v->Shf f n (dsk n v)
 |0,_,h=>h
 |n+1,v,⟨h1,h2⟩=>by
  have hf:(v.ch.map fun x=>(x.1,dsk n x.2)).map Prod.fst=v.cs:=by rw[List.map_map];rfl
  refine⟨fun p hp=> ?_,fun y hy=> ?_⟩
  ·obtain⟨a,b,c⟩:=h1 p hp
   refine⟨by show f p.a=some ⟨5,Yn ((v.ch.map fun x=>(x.1,dsk n x.2)).map Prod.fst) v.us,p.g⟩;rw[hf];exact a,by show YR ((v.ch.map fun x=>(x.1,dsk n x.2)).map Prod.fst) v.us;rw[hf];exact b,fun y hy=> ?_⟩
   obtain⟨x,hx,rfl⟩:=List.mem_map.1 hy
   rw[JqA];exact c x hx
  ·obtain⟨x,hx,rfl⟩:=List.mem_map.1 hy
   exact JhO n x.2 (h2 x hx)
theorem JhP {f:Int->Option Blk}:∀(n:Nat) (v:Vt) (p:Pt),v.kn=some p->Shf f n v->Dsk n (dsk n v)
 |0,v,p,h,_=>⟨rfl,rfl,by show v.kn.isSome=true;rw[h];rfl⟩
 |n+1,v,p,h,⟨h1,h2⟩=>by
  refine⟨⟨rfl,rfl,by show v.kn.isSome=true;rw[h];rfl⟩,fun y hy=> ?_⟩
  obtain⟨x,hx,rfl⟩:=List.mem_map.1 hy
  exact JhP n x.2 _ ((h1 p h).2.2 x hx) (h2 x hx)
theorem JbN {f f':Int->Option Blk} (he:∀a,f a≠none->f' a=f a):∀(n:Nat) (v:Vt),Shf f n v->Shf f' n v
 |0,v,h=>fun p hp=>by rw[he p.a (by rw[h p hp];simp)];exact h p hp
 |n+1,v,⟨h1,h2⟩=>⟨fun p hp=>⟨by rw[he p.a (by rw[(h1 p hp).1];simp)];exact(h1 p hp).1,(h1 p hp).2⟩,fun x hx=>JbN he n x.2 (h2 x hx)⟩
structure JcJ (s s':Sf) (new:List Int):Prop where
 ext:∀a,s.f a≠none->s'.f a=s.f a
 dom:∀a,s'.f a≠none↔s.f a≠none\/a∈new
 fresh:∀a∈new,s.f a=none
 nd:new.Nodup
 win:Win s->Win s'
 gen:s'.gen=s.gen+new.length
 nn:s'.nn=s.nn+new.length
 sz:s'.sz=s.sz+new.length
theorem JcJ.refl (s:Sf):JcJ s s []:=⟨fun _ _=>rfl,fun a=>by simp,fun a h=>(by cases h),List.nodup_nil,id,rfl,rfl,rfl⟩
theorem JcJ.trans {a b c:Sf} {l m:List Int} (h:JcJ a b l) (k:JcJ b c m):JcJ a c (l++m):=by
 refine⟨fun x hx=> ?_,fun x=> ?_,fun x hx=> ?_,?_,fun w=>k.win (h.win w),by rw[k.gen,h.gen,List.length_append];omega,by rw[k.nn,h.nn,List.length_append];omega,by rw[k.sz,h.sz,List.length_append];omega⟩
 ·rw[k.ext x (by rw[h.ext x hx];exact hx),h.ext x hx]
 ·rw[k.dom,h.dom,List.mem_append];exact or_assoc
 ·rcases List.mem_append.1 hx with q|q
  ·exact h.fresh x q
  ·have:=k.fresh x q
   cases e:a.f x with
   |none=>rfl
   |some y=>
    have h2:=h.ext x (by rw[e];simp)
    rw[this] at h2
    rw[e] at h2;cases h2
 ·refine List.nodup_append.2 ⟨h.nd,k.nd,fun x hx y hy e=> ?_⟩
  subst e
  exact absurd (k.fresh x hy) ((h.dom x).2 (Or.inr hx))
theorem JcJ.one {s:Sf} (hw:Win s) (kd:Nat) (pay:List UInt8):JcJ s (sv1 s kd pay).2 [(fre s:Int)]:=by
 obtain⟨h1,h2,h3⟩:=Jda hw
 refine⟨fun a ha=> ?_,fun a=> ?_,fun a ha=> ?_,List.nodup_cons.2 ⟨by simp,List.nodup_nil⟩,fun _ a b hb=> ?_,rfl,rfl,rfl⟩
 ·show(if a=(fre s:Int) then _ else s.f a)=s.f a
  rw[if_neg (fun e=>by rw[e] at ha;exact ha h1)]
 ·show(if a=(fre s:Int) then some _ else s.f a)≠none↔_
  by_cases e:a=(fre s:Int)
  ·rw[if_pos e];simp[e]
  ·rw[if_neg e];simp[e]
 ·rw[List.mem_singleton.1 ha];exact h1
 ·have hb':(if a=(fre s:Int) then some (⟨kd,pay,s.gen+1⟩:Blk) else s.f a)=some b:=hb
  show 0<=a/\a<((s.gen+1:Nat):Int)/\b.gen<=s.gen+1
  by_cases e:a=(fre s:Int)
  ·rw[if_pos e] at hb'
   have:=Option.some.inj hb'
   subst this
   exact⟨by omega,by omega,Nat.le_refl _⟩
  ·rw[if_neg e] at hb'
   have:=hw a b hb'
   omega
open Go.RowKit
theorem Jo8 {u:Upd} (h:Tm u):Xh u:=⟨h.wf,h.check⟩
structure JpT (n:Nat) (lo hi:List UInt8) (v:Vt) (s:Sf):Prop where
 ok:Ok n lo hi v
 shf:Shf s.f n v
 win:Win s
 ps:Zn n v
 gen:s.gen+Ye n v<=1000000
def Few:Nat->Vt->Prop
 |0,_=>True
 |n+1,v=>v.ch.length<=16/\v.us.length<=64/\∀x∈v.ch,Few n x.2
theorem Jol {K:Kx} (hF:K.F<=16) (hB:K.B<=64):∀(n:Nat) (v:Vt),Gd K n v->Few n v
 |0,_,_=>trivial
 |n+1,v,g=>⟨Nat.le_trans g.1 hF,Nat.le_trans g.2.1 hB,fun x hx=>Jol hF hB n x.2 (g.2.2 x hx)⟩
structure Jra (n:Nat) (v:Vt) (s:Sf) (v':Vt) (s':Sf):Prop where
 like:Jaw n v v'
 kn:∃p,v'.kn=some p/\(0<=p.a/\p.a<1000000)/\p.g<1000001/\p.s<4294967296
 dsk:Dsk n v'
 shf:Shf s'.f n v'
 ps:Zn n v'
 more:∃new,JcJ s s' new/\(addrs n v').Perm (addrs n v++new)/\new.length=Ye n v
structure Jrb (n:Nat) (l:List (Chd×Vt)) (s:Sf) (l':List (Chd×Vt)) (s':Sf):Prop where
 like:Y3 (Jaw n) l l'
 kid:∀y∈l',Dsk n y.2/\Shf s'.f n y.2/\y.2.kn=some ⟨y.1.addr,y.1.gen,y.1.sum⟩/\Zn n y.2
 more:∃new,JcJ s s' new/\(Yv n l').Perm (Yv n l++new)/\new.length=Yf (Ye n) l
theorem JqR {a b c d e f:List Int} (h:a.Perm (b++c)) (k:d.Perm (e++f)):(a++d).Perm (b++e++(c++f)):=by
 refine(h.append k).trans ?_
 rw[List.append_assoc,List.append_assoc]
 refine List.Perm.append_left _ ?_
 rw[<-List.append_assoc,<-List.append_assoc]
 exact List.Perm.append_right _ List.perm_append_comm
theorem Jhj {n:Nat} (IH:∀lo hi v s,JpT n lo hi v s->Few n v->Jra n v s (sv n v s).1 (sv n v s).2):∀(l:List (Chd×Vt)) (s:Sf),(∀x∈l,(∃lo hi,Ok n lo hi x.2)/\Shf s.f n x.2/\Zn n x.2/\Few n x.2/\Zg x.1)->Win s->s.gen+Yf (Ye n) l<=1000000->Jrb n l s (svK (sv n) l s).1 (svK (sv n) l s).2
 |[],s,_,_,_=>⟨trivial,fun y hy=>(by cases hy),[],JcJ.refl s,List.Perm.refl _,rfl⟩
 |x::r,s,h,hw,hg=>by
  rw[Jo] at hg
  obtain⟨⟨lo,hi,h1⟩,h2,h3,h4,h5⟩:=h x (by simp)
  obtain⟨a1,⟨p,p1,p2,p3,p4⟩,a3,a4,a5,new,m1,m2,m3⟩:=IH lo hi x.2 s ⟨h1,h2,hw,h3,by omega⟩ h4
  have hg1:=m1.gen
  obtain⟨b1,b2,new2,n1,n2,n3⟩:=Jhj IH r (sv n x.2 s).2 (fun y hy=>by
   obtain⟨k1,k2,k3⟩:=h y (List.mem_cons_of_mem _ hy)
   exact⟨k1,JbN m1.ext n y.2 k2,k3⟩) (m1.win hw) (by omega)
  refine⟨⟨⟨?_,?_,a1⟩,b1⟩,fun y hy=> ?_,new++new2,m1.trans n1,?_,by rw[List.length_append,Jo,m3,n3]⟩
  ·show(Jf1 x.1 (sv n x.2 s).1.kn).low=x.1.low
   rw[p1];rfl
  ·show Zg (Jf1 x.1 (sv n x.2 s).1.kn)
   rw[p1]
   exact⟨h5.low,⟨p2.1,by show p.a<=2147483647;omega⟩,by show p.g<_;omega,p4⟩
  ·rcases List.mem_cons.1 hy with rfl|hy
   ·refine⟨a3,JbN n1.ext n _ a4,?_,a5⟩
    show(sv n x.2 s).1.kn=some ⟨(Jf1 x.1 (sv n x.2 s).1.kn).addr,(Jf1 x.1 (sv n x.2 s).1.kn).gen,(Jf1 x.1 (sv n x.2 s).1.kn).sum⟩
    rw[p1];rfl
   ·exact b2 y hy
  ·show(Yv n ((Jf1 x.1 (sv n x.2 s).1.kn,(sv n x.2 s).1)::_)).Perm _
   rw[JQ,JQ]
   exact JqR m2 n2
theorem Jkg {cs:List Chd} (h:JbH cs):Jd Chd.low cs:=by
 refine List.pairwise_iff_getElem.2 fun i j hi hj hij=> ?_
 have:=h.rise i j hij hj
 rw[JbU hi,JbU hj] at this
 exact this
theorem JlL:∀(n:Nat) (v:Vt),Zn n v->Zn n (dsk n v)
 |0,_,h=>h
 |n+1,v,h=>⟨h.1,fun y hy=>by
  obtain⟨x,hx,rfl⟩:=List.mem_map.1 hy
  exact JlL n x.2 (h.2 x hx)⟩
theorem JeM:∀(n:Nat) (lo hi:List UInt8) (v:Vt) (s:Sf),JpT n lo hi v s->Few n v->Jra n v s (sv n v s).1 (sv n v s).2
 |0,lo,hi,v,s,i,_=>by
  cases hk:v.kn with
  |some p=>
   rw[JcP hk]
   have hf:=i.shf p hk
   have hw:=i.win _ _ hf
   have hgg:p.g<=s.gen:=hw.2.2
   have:=i.gen
   exact⟨Jfx 0 v lo hi i.ok,⟨p,hk,by omega,by omega,i.ps p hk⟩,JhP 0 v p hk i.shf,JhO 0 v i.shf,i.ps,[],JcJ.refl s,by rw[List.append_nil];exact List.Perm.refl _,by unfold Ye;rw[hk];rfl⟩
  |none=>
   rw[JaO hk]
   have hd:Ye 0 v=1:=by unfold Ye;rw[hk];rfl
   have hg:=i.gen
   obtain⟨f1,f2,f3⟩:=Jda i.win
   refine⟨⟨rfl,rfl,rfl⟩,⟨_,rfl,⟨Int.natCast_nonneg _,?_⟩,?_,?_⟩,⟨rfl,rfl,rfl⟩,fun p hp=> ?_,fun p hp=> ?_,[(fre s:Int)],JcJ.one i.win _ _,?_,by rw[hd];rfl⟩
   ·show(fre s:Int)<1000000;omega
   ·show s.gen+1<1000001;omega
   ·show 0<4294967296;omega
   ·have:=Option.some.inj (show some (sv1 s 4 (JS v.es)).1=some p from hp)
    subst this
    show(if((fre s:Nat):Int)=(fre s:Int) then _ else _)=_
    rw[if_pos rfl]
    rfl
   ·have:=Option.some.inj (show some (sv1 s 4 (JS v.es)).1=some p from hp)
    subst this
    show 0<4294967296;omega
   ·rw[YA,YA,hk]
    exact List.Perm.refl _
 |n+1,lo,hi,v,s,i,few=>by
  cases hk:v.kn with
  |some p=>
   rw[JcQ hk]
   have hf:=(i.shf.1 p hk).1
   have hw:=i.win _ _ hf
   have hgg:p.g<=s.gen:=hw.2.2
   have:=i.gen
   exact⟨Jfx (n+1) v lo hi i.ok,⟨p,hk,by omega,by omega,i.ps.1 p hk⟩,JhP (n+1) v p hk i.shf,JhO (n+1) v i.shf,JlL (n+1) v i.ps,[],JcJ.refl s,by rw[List.append_nil,JgW],by unfold Ye;rw[hk];rfl⟩
  |none=>
   rw[Z8 hk]
   have hd:Ye (n+1) v=1+Yf (Ye n) v.ch:=by unfold Ye;rw[hk];rfl
   have hg:=i.gen
   rw[hd] at hg
   obtain⟨a1,a2,new,m1,m2,m3⟩:=Jhj (fun lo hi v s=>JeM n lo hi v s) v.ch s (fun x hx=>by
    obtain⟨j,hj,e⟩:=List.getElem_of_mem hx
    obtain⟨lo',hi',h1,-⟩:=Jbt i.ok j hj
    rw[e] at h1
    exact⟨⟨lo',hi',h1⟩,i.shf.2 x hx,i.ps.2 x hx,few.2.2 x hx,(i.ok.2.2.2.1 x hx).1⟩) i.win (by omega)
   generalize svK (sv n) v.ch s=R at*
   obtain⟨l',s'⟩:=R
   simp only at a1 a2 m1 m2⊢
   have hg1:=m1.gen
   have hw':=m1.win i.win
   obtain⟨f1,f2,f3⟩:=Jda hw'
   have hone:=JcJ.one hw' 5 (Yn (l'.map Prod.fst) v.us)
   have hlk:Jaw (n+1) v {v with mem:=false,ld:=false,kn:=some (sv1 s' 5 (Yn (l'.map Prod.fst) v.us)).1,ch:=l'}:=⟨rfl,rfl,a1⟩
   have hok:=XT (n+1) _ _ lo hi hlk i.ok
   have hkids:=JgI hok
   have hnode:YR (l'.map Prod.fst) v.us:=by
    refine⟨⟨⟨hkids.pos,by rw[List.length_map,a1.len];exact few.1⟩,fun c hc=> ?_,fun c hc=> ?_,Jkg hkids⟩,few.2.1,fun u hu=>Jo8 (i.ok.2.2.1 u hu).1,i.ok.usr⟩
    ·obtain⟨y,hy,rfl⟩:=List.mem_map.1 hc
     obtain⟨x,-,-,h2,-⟩:=a1.mem y hy
     exact h2
    ·rw[List.getElem?_map] at hc
     cases h0:l'[0]? with
     |none=>rw[h0] at hc;simp at hc
     |some y=>
      rw[h0] at hc
      simp only[Option.map_some,Option.some.injEq] at hc
      rw[<-hc]
      exact hok.2.2.2.2.1 y h0
   refine⟨hlk,⟨_,rfl,⟨Int.natCast_nonneg _,?_⟩,?_,?_⟩,⟨⟨rfl,rfl,rfl⟩,fun y hy=>(a2 y hy).1⟩,⟨fun p hp=> ?_,fun y hy=>JbN hone.ext n y.2 (a2 y hy).2.1⟩,⟨fun p hp=> ?_,fun y hy=>(a2 y hy).2.2.2⟩,new++[(fre s':Int)],m1.trans hone,?_,by rw[List.length_append,m3,hd];simp;omega⟩
   ·show(fre s':Int)<1000000;omega
   ·show s'.gen+1<1000001;omega
   ·show 0<4294967296;omega
   ·have:=Option.some.inj (show some (sv1 s' 5 (Yn (l'.map Prod.fst) v.us)).1=some p from hp)
    subst this
    refine⟨?_,hnode,fun y hy=>(a2 y hy).2.2.1⟩
    show(if((fre s':Nat):Int)=(fre s':Int) then _ else _)=_
    rw[if_pos rfl]
    rfl
   ·have:=Option.some.inj (show some (sv1 s' 5 (Yn (l'.map Prod.fst) v.us)).1=some p from hp)
    subst this
    show 0<4294967296;omega
   ·rw[JG,JG,hk]
    show([(fre s':Int)]++Yv n l').Perm ([]++Yv n v.ch++(new++[(fre s':Int)]))
    rw[List.nil_append,<-List.append_assoc]
    exact(List.perm_append_comm).trans (List.Perm.append_right _ m2)
open Go.RowKit
attribute [local go_sem ↓] Go.wp_at_zero Go.wp_at_succ
abbrev svV (sb:Nat):Value:=.func (.func 20) #[.pointer (some ⟨sb,0,none⟩)] #[]
abbrev Jdg (w:World) (sb mb:Nat) (s:Sf) (wr:Nat):Prop:=Ju w sb mb s.nn s.sz s.f s.gen wr
def S4 (sb mb db:Nat) (x:Nat):Prop:=x=sb\/x=mb\/x=db
structure XX (w:World) (vb db sb mb:Nat) (s:Sf) (wr:Nat):Prop where
 sv:JaK w vb (svV sb) db
 dn:YU w db
 sh:Jdg w sb mb s wr
 ne:db≠mb
theorem XX.on {w w':World} {vb db sb mb:Nat} {s:Sf} {wr:Nat} (h:XX w vb db sb mb s wr) (hb:Below w.heap.size w w'):XX w' vb db sb mb s wr:=⟨h.sv.on hb,h.dn.on hb,h.sh.on hb,h.ne⟩
theorem XX.row {w:World} {vb db sb mb:Nat} {s:Sf} {wr:Nat} (h:XX w vb db sb mb s wr) {E:TypeId} {x:Nat} {cur:List Value} (hr:Jc w E x cur) (hE:E≠27):¬S4 sb mb db x:=fun q=>by
 rcases q with q|q|q
 ·rw[q] at hr
  exact hE (hr.one h.sh.row).1
 ·rw[q] at hr
  exact h.sh.noMap hr
 ·rw[q] at hr
  exact h.dn.noRow hr
theorem XX.soft {w:World} {vb db sb mb:Nat} {s:Sf} {wr:Nat} (h:XX w vb db sb mb s wr):∀x,S4 sb mb db x->ZF w x:=fun x q=>by
 rcases q with q|q|q
 ·rw[q];exact ZF.of h.sh.row (fun s=>by simp) (by decide)
 ·rw[q]
  obtain⟨D,⟨es,clock,hb,_⟩,_⟩:=h.sh.map
  refine⟨fun o q e=> ?_,fun cur hr=>h.sh.noMap hr⟩
  unfold World.cell? at e
  rw[hb] at e
  simp at e
 ·rw[q];exact⟨h.dn.soft.1,h.dn.soft.2⟩
theorem Mem.sv4 {w w':World} {vb db sb mb:Nat} {s:Sf} {wr n:Nat} {v:Vt} (hm:Mem w n v) (h:XX w vb db sb mb s wr) (hk:Jg (S4 sb mb db) w w'):Mem w' n v:=hm.keep hk h.soft fun b hb q=>by
 obtain⟨cur,hc⟩:=hm.cells b hb
 exact h.row hc (by decide) q
theorem JdX {vb db b sb mb:Nat} {s1:Sf} {wr:Nat} {pa:Int} {pg ps:Nat} {ld:Bool} {a a2 a3 a4:Option Addr} {n c n2 c2 n3 c3 n4 c4:Nat} (kd:Nat) (txt:List UInt8) (w:World) (hv:Jq w b false pa pg ps ld (.slice a n c) (.slice a2 n2 c2) (.slice a3 n3 c3) (.slice a4 n4 c4)) (hsv:JaK w vb (svV sb) db) (hs1:Win s1) (hsg:s1.gen<90000) (hsn:s1.nn<90000)
  (ht:(n4=0/\kd=4/\∀w1,Below w.heap.size w w1->Calls Tryz.prog 79 #[.agg #[.slice a n c]] w1 fun e w2=>e=.returned (.tuple #[.string (S txt),.int .i64 0])/\XX w2 vb db sb mb s1 wr/\JaM w2 b/\Jg (S4 sb mb db) w1 w2)\/
   (0<n4/\kd=5/\∀w1,Below w.heap.size w w1->Calls Tryz.prog 80 #[.pointer (some ⟨vb,0,none⟩),.pointer (some ⟨b,0,none⟩)] w1 fun e w2=>e=.returned (.tuple #[.string (S txt),.int .i64 0])/\XX w2 vb db sb mb s1 wr/\JaM w2 b/\Jg (S4 sb mb db) w1 w2)) (hz:sb<w.heap.size/\mb<w.heap.size/\db<w.heap.size):
  Calls Tryz.prog 44 #[.pointer (some ⟨vb,0,none⟩),.pointer (some ⟨b,0,none⟩)] w fun e w'=>e=.returned (.tuple #[.agg #[.int .i64 (fre s1),.int .u64 (s1.gen+1:Nat),.int .u32 0],.int .i64 0])/\XX w' vb db sb mb (sv1 s1 kd txt).2 wr/\Jg (S4 sb mb db) w w':=by
 obtain⟨f1,f2,f3⟩:=Jda hs1
 have HSV:=Lib.hid (fun w' (h:Jdg w' sb mb s1 wr)=>Jiq kd txt (fre s1) w' h (by omega) f1 (fun j hj=>by cases e:s1.f (j:Int) with|none=>exact absurd e (f2 j hj)|some x=>rfl) (by omega) (by omega))
 have hV:=Lib.hid hv
 have hR:=Lib.hid hsv
 have HT:=Lib.hid ht
 have hb0:=Below.refl w.heap.size w
 obtain⟨g1,hg1⟩:∃g1,g1=s1.gen:=⟨_,rfl⟩
 obtain⟨at',hat⟩:∃at',at'=fre s1:=⟨_,rfl⟩
 rw[<-hg1,<-hat] at HSV⊢
 have HG1:=Lib.hid (And.intro hg1 hat)
 have hz1:=hz.1
 have hz2:=hz.2.1
 have hz3:=hz.2.2
 have hgb:g1<90000:=by omega
 clear hv hsv ht f1 f2 f3 hs1 hg1 hat hsg hz
 go_enter Tryz.func44,Tryz.ntmps44
 go_upto_region 1 with(fail)
 obtain⟨W,hW⟩:∃W,W=w.alloc (.cells #[.int .i64 0,.int .u64 0,.int .u32 0] 54):=⟨_,rfl⟩
 have hG:=Lib.hid (show Y7 W 54 w.heap.size [.int .i64 0,.int .u64 0,.int .u32 0] from⟨by rw[hW];exact Jc.new w _ _⟩)
 have hX_W:Below w.heap.size w W:=by rw[hW];exact(Below.refl _ w).alloc (Nat.le_refl _) _
 rw[<-hW]
 clear hW
 replace hV:=Lib.hid (hV.out.kept hX_W (Nat.le_refl _))
 have HXW:=Lib.hid hX_W
 have c0:=hV.out.c0
 have c5:=hV.out.c5
 have c8:=hV.out.c8
 clear hX_W hb0
 go_upto_if 23 with(fail)
 go_cut [6,7,8] from 18 to 37 (fun s6 s7 s8 wx=>s6=.int .u8 kd/\s7=.string (S txt)/\s8=.int .i64 0/\Hid (XX wx vb db sb mb s1 wr/\JaM wx b/\Jg (S4 sb mb db) W wx))
 case first=>
  rcases HT.out with⟨h0,hk,hcall⟩|⟨h0,hk,hcall⟩
  ·subst h0
   subst hk
   have HC:=Lib.hid (hcall W HXW.out)
   clear hcall
   go_wp2_with fail
   refine HC.out.mono ?_
   rintro e w2 ⟨rfl,h1⟩
   have H1:=Lib.hid h1
   clear h1
   go_wp2_with fail
   go_meet
   exact⟨rfl,rfl,rfl,H1⟩
  ·subst hk
   have hn4:((n4:Int)==0)=false:=by simp;omega
   have HC:=Lib.hid (hcall W HXW.out)
   clear hcall
   go_wp2_with fail
   refine HC.out.mono ?_
   rintro e w2 ⟨rfl,h1⟩
   have H1:=Lib.hid h1
   clear h1
   go_wp2_with fail
   go_meet
   exact⟨rfl,rfl,rfl,H1⟩
 case rest=>
 obtain⟨rfl,rfl,rfl,H1⟩:=hcut
 obtain⟨w1,hw1⟩:∃w1,w1=wc:=⟨_,rfl⟩
 subst hw1
 have hgs:¬S4 sb mb db w.heap.size:=fun q=>by
  unfold S4 at q
  omega
 have hG1:=Lib.hid (hG.out.keep H1.out.2.2 hgs)
 have hKw:=(Jg.of_below (S:=S4 sb mb db) HXW.out).trans' H1.out.2.2
 have q0:=H1.out.1.sv.c0
 clear c0 c5 c8 hV hG HT
 go_wp2_with fail
 refine(HSV.out w1 H1.out.1.sh).mono ?_
 rintro e w2 ⟨rfl,hsh2,hK2⟩
 have hK2':Jg (S4 sb mb db) w1 w2:=hK2.mono fun x q=>q.elim Or.inl fun q=>Or.inr (Or.inl q)
 have hG2:=Lib.hid (hG1.out.keep hK2' hgs)
 have hns:∀ {E:TypeId} {x:Nat} {cur:List Value},Jc w1 E x cur->E≠27->¬S4 sb mb db x:=fun hr he=>H1.out.1.row hr he
 obtain⟨cur,hcur⟩:=H1.out.2.1
 have HVX2:=Lib.hid (show JaM w2 b from⟨cur,hK2'.row hcur (hns hcur (by decide))⟩)
 have hR2:=Lib.hid (show JaK w2 vb _ db from⟨hK2'.row H1.out.1.sv.row (hns H1.out.1.sv.row (by decide))⟩)
 have HS2:=Lib.hid hsh2
 have HD2:=Lib.hid (H1.out.1.dn.keep hK2 (fun q=>q.elim (fun e=>by
  have:=H1.out.1.sh.row
  rw[<-e] at this
  exact H1.out.1.dn.noRow this) H1.out.1.ne) fun x ⟨cu,hx⟩ q=>hns hx (by decide) (q.elim Or.inl fun q=>Or.inr (Or.inl q)))
 have hK:=hKw.trans' hK2'
 have HNE:=Lib.hid H1.out.1.ne
 have hdsb:db≠sb:=fun e=>by
  have:=H1.out.1.sh.row
  rw[<-e] at this
  exact H1.out.1.dn.noRow this
 clear hsh2 hK2 hK2' hcur hns q0 hKw H1 hG1
 go_upto_region 11 with(fail)
 obtain⟨W3,hW3⟩:∃W3,W3=w2.alloc (.cells #[.int .i64 (at':Int),.int .u64 ((g1:Int)+1),.int .u32 0] 54):=⟨_,rfl⟩
 have hX3:Below w2.heap.size w2 W3:=by rw[hW3];exact(Below.refl _ w2).alloc (Nat.le_refl _) _
 have hP:=Lib.hid (show Y7 W3 54 w2.heap.size [.int .i64 (at':Int),.int .u64 ((g1:Int)+1),.int .u32 0] from⟨by rw[hW3];exact Jc.new w2 _ _⟩)
 rw[<-hW3]
 clear hW3
 have hX3d:Below w2.heap.size w2 W3.drew:=Jb hX3
 have hG3:=Lib.hid (hG2.out.on hX3d)
 have HS3:=Lib.hid (HS2.out.on hX3d)
 have hR3:=Lib.hid (hR2.out.on hX3)
 have hR3d:=Lib.hid (hR2.out.on hX3d)
 have HD3:=Lib.hid (HD2.out.on hX3d)
 have hP3:=Lib.hid (show Jc W3.drew 54 w2.heap.size _ from hP.out.row.drew)
 have hVX3:JaM W3.drew b:=by
  obtain⟨cu,hx⟩:=HVX2.out
  exact⟨cu,hx.on hX3d⟩
 have hK3:=hK.on hX3d
 have hww:w.heap.size<=w2.heap.size:=hK.size
 obtain⟨wz,hrun,hdz,hgz⟩:=HD3.out.put hVX3 (.agg #[.int .i64 (at':Int),.int .u64 ((g1:Int)+1),.int .u32 0])
 have q1:=hR3.out.c1
 have p0:W3.cell? ⟨w2.heap.size,0,none⟩=some (.int .i64 (at':Int)):=hP.out.cell 0
 have p1:W3.cell? ⟨w2.heap.size,1,none⟩=some (.int .u64 ((g1:Int)+1)):=hP.out.cell 1
 have p2:W3.cell? ⟨w2.heap.size,2,none⟩=some (.int .u32 0):=hP.out.cell 2
 clear hG2 HS2 hR2 HD2 hX3 hX3d hK
 go_region
 all_goals
  have hnr:∀ {E:TypeId} {x:Nat} {cu:List Value},Jc W3.drew E x cu->some x≠some db:=fun hr e=>HD3.out.noRow ((Option.some.inj e)▸hr)
  have hGz:=Lib.hid (show Jc wz 54 w.heap.size _ from hG3.out.row.kept hgz (hnr hG3.out.row))
  have hPz:=Lib.hid (show Jc wz 54 w2.heap.size _ from hP3.out.kept hgz (hnr hP3.out))
  have hSz:=Lib.hid (show Ju wz sb mb _ _ _ _ wr from⟨HS3.out.row.kept hgz (hnr HS3.out.row),HS3.out.map.kept' hgz (fun e=>HNE.out (Option.some.inj e).symm)⟩)
  have hRz:=Lib.hid (show JaK wz vb (svV sb) db from⟨hR3d.out.row.kept hgz (hnr hR3d.out.row)⟩)
  have hDz:=Lib.hid hdz
  have hKz:=hK3.grown hgz (fun k e=>Or.inl (Or.inr (Or.inr (Option.some.inj e).symm)))
  have k0:wz.cell? ⟨w2.heap.size,0,none⟩=some (.int .i64 (at':Int)):=hPz.out.cell 0
  have k1:wz.cell? ⟨w2.heap.size,1,none⟩=some (.int .u64 ((g1:Int)+1)):=hPz.out.cell 1
  have k2:wz.cell? ⟨w2.heap.size,2,none⟩=some (.int .u32 0):=hPz.out.cell 2
  have kf0:=hGz.out.frozen 0
  have kf1:=hGz.out.frozen 1
  have kf2:=hGz.out.frozen 2
  have g0:wz.cell? ⟨w.heap.size,0,none⟩=some (.int .i64 0):=hGz.out.cell 0
  have g1':wz.cell? ⟨w.heap.size,1,none⟩=some (.int .u64 0):=hGz.out.cell 1
  have g2:wz.cell? ⟨w.heap.size,2,none⟩=some (.int .u32 0):=hGz.out.cell 2
  clear hgz q1 p0 p1 p2 hG3 hP hP3 HS3 hR3 hR3d hK3 hdz hnr hVX3 HD3
  go_wp2_with fail
  obtain⟨ZZ,hZZ⟩:∃ZZ,ZZ=((wz.setCell ⟨w.heap.size,0,none⟩ (.int .i64 (at':Int))).setCell ⟨w.heap.size,1,none⟩ (.int .u64 ((g1:Int)+1))).setCell ⟨w.heap.size,2,none⟩ (.int .u32 0):=⟨_,rfl⟩
  have hrow:Jc ZZ 54 w.heap.size [.int .i64 (at':Int),.int .u64 ((g1:Int)+1),.int .u32 0]:=by rw[hZZ];exact((hGz.out.put 0 _).put 1 _).put 2 _
  have t0:ZZ.cell? ⟨w.heap.size,0,none⟩=some (.int .i64 (at':Int)):=hrow.cell 0
  have t1:ZZ.cell? ⟨w.heap.size,1,none⟩=some (.int .u64 ((g1:Int)+1)):=hrow.cell 1
  have t2:ZZ.cell? ⟨w.heap.size,2,none⟩=some (.int .u32 0):=hrow.cell 2
  have hgl:wz.grownBy ZZ (some w.heap.size):=by
   rw[hZZ]
   exact⟨rfl,rfl,rfl,by simp only[World.size_setCell];exact Nat.le_refl _,fun k _ hk=>by
    have hkw:k≠w.heap.size:=fun e=>hk (by rw[e])
    rw[Go.heap_setCell_other _ _ _ _ hkw,Go.heap_setCell_other _ _ _ _ hkw,Go.heap_setCell_other _ _ _ _ hkw]⟩
  have hKl:Jg (fun x=>x=w.heap.size) wz ZZ:=(Jg.refl (fun x=>x=w.heap.size) wz).grown hgl fun k e=>Or.inl (Option.some.inj e).symm
  have hdl:YU ZZ db:=hDz.out.keep hKl (by show¬db=w.heap.size;omega) fun x ⟨cu,hx⟩ e=>by
   have e':x=w.heap.size:=e
   rw[e'] at hx
   exact absurd (hx.one hGz.out).1 (by decide)
  have hsz:Ju ZZ sb mb _ _ _ _ wr:=⟨hSz.out.row.kept hgl (fun e=>by have:=Option.some.inj e;omega),hSz.out.map.kept' hgl (fun e=>by have:=Option.some.inj e;omega)⟩
  have hrl:JaK ZZ vb (svV sb) db:=⟨hRz.out.row.kept hgl (fun e=>by
   have e':vb=w.heap.size:=Option.some.inj e
   have h1:=hRz.out.row
   rw[e'] at h1
   exact absurd (h1.one hGz.out).1 (by decide))⟩
  have hKf:Jg (S4 sb mb db) w ZZ:=hKz.grown hgl (fun k e=>Or.inr (by have:=Option.some.inj e;omega))
  rw[<-hZZ]
  clear hZZ k0 k1 k2 kf0 kf1 kf2 hgl g0 g1' g2 hrow hKl
  refine bodyPost_ret (v:=.tuple #[.agg #[.int .i64 (at':Int),.int .u64 ((g1:Int)+1),.int .u32 0],.int .i64 0]) (by simp[results,Tryz.results44,go_sem,t0,t1,t2]) rfl ⟨by simp,⟨hrl,hdl,?_,HNE.out⟩,hKf⟩
  have h1:=HG1.out.1
  have h2:=HG1.out.2
  subst h1 h2
  exact hsz
open Go.RowKit
attribute [local go_sem ↓] Go.wp_at_zero Go.wp_at_succ
theorem Jhx {w:World} {B:Nat} {E:TypeId} {k g n c:Nat} {xs:List Value} (h:w.ownsRow B E k (.slice (some ⟨g,0,none⟩) n c) n xs) (i:Nat) (v:Value):(w.setCell ⟨g,i,none⟩ v).ownsRow B E k (.slice (some ⟨g,0,none⟩) n c) n (xs.set i v):=by
 rcases Jw h with⟨e,-,-⟩|⟨g',cap,cur,e,h1,hr,h3,h4,h5,h6⟩
 ·cases e
 ·simp only[Value.slice.injEq,Option.some.injEq,Addr.mk.injEq] at e
  obtain⟨⟨rfl,-⟩,-,rfl⟩:=e
  exact YC h1 (hr.put i v) h3 h4 (by rw[List.length_set];exact h5) (by rw[List.take_set,h6])
theorem Jkv {w:World} {B:Nat} {E:TypeId} {k g n c:Nat} {xs:List Value} (h:w.ownsRow B E k (.slice (some ⟨g,0,none⟩) n c) n xs) (i:Nat):w.frozen? ⟨g,i,none⟩=false:=by
 obtain⟨cur,hc⟩:=Jr h g rfl
 exact hc.frozen i
abbrev ptV (p:Pt):Value:=.agg #[.int .i64 p.a,.int .u64 p.g,.int .u32 p.s]
theorem Jio {vb b:Nat} {pa:Int} {pg ps:Nat} {ld:Bool} {lf cs us ks:Value} (w:World) (hv:Jq w b true pa pg ps ld lf cs us ks):
  Calls Tryz.prog 44 #[.pointer (some ⟨vb,0,none⟩),.pointer (some ⟨b,0,none⟩)] w fun e w'=>e=.returned (.tuple #[.agg #[.int .i64 pa,.int .u64 pg,.int .u32 ps],.int .i64 0])/\Below w.heap.size w w':=by
 have hV:=Lib.hid hv
 clear hv
 go_enter Tryz.func44,Tryz.ntmps44
 go_upto_region 1 with(fail)
 obtain⟨W,hW⟩:∃W,W=w.alloc (.cells #[.int .i64 0,.int .u64 0,.int .u32 0] 54):=⟨_,rfl⟩
 have hG:=Lib.hid (show Y7 W 54 w.heap.size [.int .i64 0,.int .u64 0,.int .u32 0] from⟨by rw[hW];exact Jc.new w _ _⟩)
 have hX:Below w.heap.size w W:=by rw[hW];exact(Below.refl _ w).alloc (Nat.le_refl _) _
 rw[<-hW]
 clear hW
 have hV1:=Lib.hid (hV.out.on hX)
 have HX:=Lib.hid hX
 have c0:=hV1.out.c0
 have c1:=hV1.out.c1
 have c2:=hV1.out.c2
 have c3:=hV1.out.c3
 have g0:W.cell? ⟨w.heap.size,0,none⟩=some (.int .i64 0):=hG.out.cell 0
 have g1:W.cell? ⟨w.heap.size,1,none⟩=some (.int .u64 0):=hG.out.cell 1
 have g2:W.cell? ⟨w.heap.size,2,none⟩=some (.int .u32 0):=hG.out.cell 2
 have f0:=hG.out.fz 0
 have f1:=hG.out.fz 1
 have f2:=hG.out.fz 2
 clear hX
 go_wp2_with fail
 obtain⟨ZZ,hZZ⟩:∃ZZ,ZZ=((W.setCell ⟨w.heap.size,0,none⟩ (.int .i64 pa)).setCell ⟨w.heap.size,1,none⟩ (.int .u64 pg)).setCell ⟨w.heap.size,2,none⟩ (.int .u32 ps):=⟨_,rfl⟩
 have hrow:Jc ZZ 54 w.heap.size [.int .i64 pa,.int .u64 pg,.int .u32 ps]:=by rw[hZZ];exact((hG.out.row.put 0 _).put 1 _).put 2 _
 have hB:Below w.heap.size w ZZ:=by rw[hZZ];exact((HX.out.setCell (Nat.le_refl _) _).setCell (Nat.le_refl _) _).setCell (Nat.le_refl _) _
 have t0:ZZ.cell? ⟨w.heap.size,0,none⟩=some (.int .i64 pa):=hrow.cell 0
 have t1:ZZ.cell? ⟨w.heap.size,1,none⟩=some (.int .u64 pg):=hrow.cell 1
 have t2:ZZ.cell? ⟨w.heap.size,2,none⟩=some (.int .u32 ps):=hrow.cell 2
 rw[<-hZZ]
 clear hZZ g0 g1 g2 f0 f1 f2 c0 c1 c2 c3
 exact bodyPost_ret (v:=.tuple #[.agg #[.int .i64 pa,.int .u64 pg,.int .u32 ps],.int .i64 0]) (by simp[results,Tryz.results44,go_sem,t0,t1,t2]) rfl ⟨rfl,hB⟩
structure JfS (w:World) (vb db sb mb:Nat) (s:Sf) (wr n:Nat) (lo hi:List UInt8) (v:Vt):Prop where
 st:XX w vb db sb mb s wr
 m:Mem w n v
 i:JpT n lo hi v s
 few:Few n v
 gen:s.gen+Ye n v<=80000
 nn:s.nn+Ye n v<=80000
 pot:pot n v<=1000
def Jqc (w:World) (vb db sb mb:Nat) (s:Sf) (wr n:Nat) (v:Vt) (e:Ending) (w':World):Prop:=
 ∃p,(sv n v s).1.kn=some p/\e=.returned (.tuple #[ptV p,.int .i64 0])/\XX w' vb db sb mb (sv n v s).2 wr/\Jg (S4 sb mb db) w w'
def JoR (n:Nat):Prop:=∀(w:World) (vb db sb mb:Nat) (s:Sf) (wr:Nat) (lo hi:List UInt8) (v:Vt),JfS w vb db sb mb s wr n lo hi v->
 Calls Tryz.prog 44 #[.pointer (some ⟨vb,0,none⟩),.pointer (some ⟨v.b,0,none⟩)] w fun e w'=>Jqc w vb db sb mb s wr n v e w'
theorem Mem.known {w:World} {n:Nat} {v:Vt} {p:Pt} (hm:Mem w n v) (hk:v.kn=some p):∃ld lf cs us ks,Jq w v.b true p.a p.g p.s ld lf cs us ks:=by
 have far:JdT w v->∃ld lf cs us ks,Jq w v.b true p.a p.g p.s ld lf cs us ks:=fun h=>by
  obtain⟨q,e,hv⟩:=h.ex
  rw[hk] at e
  obtain rfl:=Option.some.inj e
  exact⟨_,_,_,_,_,hv⟩
 cases n with
 |zero=>
  rcases hm.2 with h|h
  ·obtain⟨pa,pg,ps,a,c,hv,hp,-⟩:=h.ex
   obtain⟨rfl,rfl,rfl⟩:=hp p hk
   rw[hk] at hv
   exact⟨_,_,_,_,_,hv⟩
  ·exact far h
 |succ n=>
  rcases hm.2 with⟨h,-⟩|⟨h,-⟩
  ·obtain⟨pa,pg,ps,a1,c1,a2,c2,a3,c3,hv,hp,-⟩:=h.ex
   obtain⟨rfl,rfl,rfl⟩:=hp p hk
   rw[hk] at hv
   exact⟨_,_,_,_,_,hv⟩
  ·exact far h
theorem JqO {n:Nat} {v:Vt} {p:Pt} (hk:v.kn=some p) (s:Sf):(sv n v s).1.kn=some p/\(sv n v s).2=s:=by
 cases n with
 |zero=>rw[JcP hk];exact⟨hk,rfl⟩
 |succ n=>rw[JcQ hk];exact⟨hk,rfl⟩
theorem Jip {w:World} {vb db sb mb:Nat} {s:Sf} {wr n:Nat} {lo hi:List UInt8} {v:Vt} {p:Pt} (h:JfS w vb db sb mb s wr n lo hi v) (hk:v.kn=some p):
  Calls Tryz.prog 44 #[.pointer (some ⟨vb,0,none⟩),.pointer (some ⟨v.b,0,none⟩)] w fun e w'=>Jqc w vb db sb mb s wr n v e w':=by
 obtain⟨ld,lf,cs,us,ks,hv⟩:=h.m.known hk
 obtain⟨e1,e2⟩:=JqO (n:=n) hk s
 refine(Jio w hv).mono ?_
 rintro e w' ⟨rfl,hb⟩
 exact⟨p,e1,rfl,by rw[e2];exact h.st.on hb,Jg.of_below hb⟩
theorem Mem.dirty {w:World} {n:Nat} {v:Vt} (hm:Mem w n v) (hk:v.kn=none):v.ld=true:=by
 have far:JdT w v->v.ld=true:=fun h=>by
  obtain⟨q,e,-⟩:=h.ex
  rw[hk] at e;cases e
 cases n with
 |zero=>exact hm.2.elim (fun h=>h.ld) far
 |succ n=>exact hm.2.elim (fun h=>h.1.ld) fun h=>far h.1
theorem XX.lt {w:World} {vb db sb mb:Nat} {s:Sf} {wr:Nat} (h:XX w vb db sb mb s wr):sb<w.heap.size/\mb<w.heap.size/\db<w.heap.size:=⟨h.sh.row.lt,h.sh.map.lt,h.dn.lt⟩
theorem Jpa:JoR 0:=by
 intro w vb db sb mb s wr lo hi v h
 cases hk:v.kn with
 |some p=>exact Jip h hk
 |none=>
  obtain⟨-,pa,pg,ps,a,c,hv,-,hb⟩:=h.m.leaf (h.m.dirty hk)
  rw[hk] at hv
  have hd:Ye 0 v=1:=by unfold Ye;rw[hk];rfl
  have h1:=h.gen
  have h2:=h.nn
  have h3:=Jbr h.pot
  refine(JdX (s1:=s) (wr:=wr) 4 (JS v.es) w hv h.st.sv h.i.win (by omega) (by omega) (Or.inl ⟨rfl,rfl,fun w1 hb1=> ?_⟩) h.st.lt).mono ?_
  ·refine(Jc5 a v.es.length c v.es w1 rfl (hb.kept hb1 (Nat.le_refl _)) (by omega) h.i.ok.fine).mono ?_
   rintro e w2 ⟨rfl,hb2⟩
   exact⟨rfl,(h.st.on hb1).on hb2,⟨_,(hv.on hb1).on hb2|>.row⟩,Jg.of_below hb2⟩
  ·rintro e w' ⟨rfl,hst,hkp⟩
   exact⟨⟨fre s,s.gen+1,0⟩,by rw[JaO hk];rfl,rfl,by rw[JaO hk];exact hst,hkp⟩
theorem JeN (g:Vt->Sf->Vt×Sf) (x:Chd×Vt):∀(l:List (Chd×Vt)) (s:Sf),svK g (l++[x]) s=((svK g l s).1++[(Jf1 x.1 (g x.2 (svK g l s).2).1.kn,(g x.2 (svK g l s).2).1)],(g x.2 (svK g l s).2).2)
 |[],s=>rfl
 |y::l,s=>by
  rw[List.cons_append]
  unfold svK
  rw[JeN g x l]
  rfl
theorem Jen (g:Vt->Sf->Vt×Sf):∀(l:List (Chd×Vt)) (s:Sf),(svK g l s).1.length=l.length
 |[],_=>rfl
 |x::l,s=>by
  unfold svK
  rw[List.length_cons,List.length_cons,Jen g l]
def csA (n:Nat) (v:Vt) (s:Sf) (j:Nat):List Chd:=(svK (sv n) (v.ch.take j) s).1.map Prod.fst++(v.ch.drop j).map Prod.fst
theorem JpN (n:Nat) (v:Vt) (s:Sf):csA n v s v.ch.length=(svK (sv n) v.ch s).1.map Prod.fst:=by
 unfold csA
 rw[List.take_length,List.drop_length]
 simp
theorem JhR (n:Nat) (v:Vt) (s:Sf) (j:Nat):(csA n v s j).length=v.ch.length:=by
 unfold csA
 rw[List.length_append,List.length_map,List.length_map,Jen,<-List.length_append,List.take_append_drop]
theorem Jow (n:Nat) (v:Vt) (s:Sf) (j:Nat) (hj:j<v.ch.length):csA n v s (j+1)=(csA n v s j).set j (Jf1 v.ch[j].1 (sv n v.ch[j].2 (svK (sv n) (v.ch.take j) s).2).1.kn):=by
 unfold csA
 have hl:((svK (sv n) (v.ch.take j) s).1.map Prod.fst).length=j:=by rw[List.length_map,Jen,List.length_take];omega
 rw[List.take_succ_eq_append_getElem hj,JeN,List.map_append,List.append_assoc,List.set_append_right _ _ (by omega),hl,Nat.sub_self,List.drop_eq_getElem_cons hj]
 rfl
open Go.RowKit
attribute [local go_sem ↓] Go.wp_at_zero Go.wp_at_succ
section
variable {w w':World} {sb tb:Nat} {most:Int} {out:Value}
end
def Jdf (most:Int) (outs:List Ent) (e:Ent):List Ent:=if(outs.length:Int)<most then outs++[e] else outs
def JfQ (most:Int) (outs l:List Ent):List Ent:=l.foldl (Jdf most) outs
theorem SlE.at {w:World} {a:Option Addr} {n c:Nat} {l:List Ent} (h:SlE w (.slice a n c) l):JE Ent.cells 2 w a l:=by
 obtain⟨ao,c',e,hs,-⟩:=h
 simp only[Value.slice.injEq] at e
 obtain⟨rfl,-,-⟩:=e
 exact hs
theorem Jqv:(Tryz.prog.info? 73).map (fun i=>(i.zero,i.size,i.bytes))=some (some (.agg #[.string ByteArray.empty,.string ByteArray.empty]),2,32):=by kernel_rfl
theorem JjH (l:List Ent) (u:Ent):cellsE (l++[u])=cellsE l++[.string (S u.key),.string (S u.val)]:=by simp[cellsE,Ent.cells]
theorem Jjo (u:Ent):∀v∈[Value.string (S u.key),.string (S u.val)],v.oneCell'=true:=by
 intro v hv
 simp only[List.mem_cons,List.not_mem_nil,or_false] at hv
 rcases hv with rfl|rfl<;>rfl
open Go.RowKit
attribute [local go_sem ↓] Go.wp_at_zero Go.wp_at_succ
theorem Jiv (w:World):Calls Tryz.prog 52 #[.slice none 0 0] w fun e w'=>e=.returned (.tuple #[])/\Below w.heap.size w w':=by
 go_enter Tryz.func52,Tryz.ntmps52
 go_wp2_with fail
 go_loopw [2,3] (fun i j wr=>i=.int .i64 0/\j=.int .i64 (-1)/\Below w.heap.size w wr) (fun _ _ _=>0)
 case atStart=>exact⟨rfl,rfl,by go_grown⟩
 case round=>
  obtain⟨rfl,rfl,hB⟩:=hrel
  go_wp2_with fail
  exact bodyPost_end (v:=.tuple #[]) (by simp[results,Tryz.results52,go_sem]) rfl ⟨rfl,hB⟩
theorem JkF (v:List UInt8) (th:Bool) (w:World):Calls Tryz.prog 53 #[.string (S v),.bool th,.slice none 0 0] w fun e w'=>e=.returned (.tuple #[.string (S (if th then v else[])),.bool th])/\Below w.heap.size w w':=by
 cases th
 ·go_enter Tryz.func53,Tryz.ntmps53
  go_wp2_with fail
  go_loopw [0,1,14] (fun s0 s1 i wr=>s0=.string (S (([]:List UInt8)))/\s1=.bool false/\i=.int .i64 0/\Below w.heap.size w wr) (fun _ _ _ _=>0)
  case atStart=>exact⟨rfl,rfl,rfl,by go_grown⟩
  case round=>
   obtain⟨rfl,rfl,rfl,hB⟩:=hrel
   go_wp2_with fail
   go_returns
   exact⟨rfl,hB⟩
 ·go_enter Tryz.func53,Tryz.ntmps53
  go_wp2_with fail
  go_loopw [0,1,14] (fun s0 s1 i wr=>s0=.string (S (v))/\s1=.bool true/\i=.int .i64 0/\Below w.heap.size w wr) (fun _ _ _ _=>0)
  case atStart=>exact⟨rfl,rfl,rfl,by go_grown⟩
  case round=>
   obtain⟨rfl,rfl,rfl,hB⟩:=hrel
   go_wp2_with fail
   go_returns
   exact⟨rfl,hB⟩
def Jhb (tb b:Nat) (es:List Ent) (ld:Bool) (w:World):Prop:=
 ∀w1,Below w.heap.size w w1->Calls Tryz.prog 50 #[.pointer (some ⟨tb,0,none⟩),.pointer (some ⟨b,0,none⟩),.int .i64 1] w1 fun e w2=>(∃b' kn pa pg ps a c cs us ks,e=.returned (.tuple #[.pointer (some ⟨b',0,none⟩),.bool ld,.int .i64 0])/\Jq w2 b' kn pa pg ps true (.slice a es.length c) cs us ks/\Zq w2 (.agg #[.slice a es.length c]) es)/\Below w1.heap.size w1 w2
theorem Jjk {tb:Nat} {F B L:Int} {ld:Value} {root:Nat} {gone:Value} {fl le:Int} (k:List UInt8) (es:List Ent) (lo:Bool) (w:World) (ht:Yg w tb F B L ld root 1 gone fl le) (hf:Jhb tb root es lo w) (hr:Jd Ent.key es) (hl:es.length<=100000):
  Calls Tryz.prog 25 #[.pointer (some ⟨tb,0,none⟩),.string (S k)] w fun e w'=>e=.returned (.tuple #[.string (S ((JN es k).getD [])),.bool (JN es k).isSome,.int .i64 (if lo then 1 else 0),.int .i64 0])/\Below w.heap.size w w':=by
 have c4:=ht.c4
 have c5:=ht.c5
 have HG:=Lib.hid (fun v w' h=>Joi v es k w' h hl hr)
 generalize JN es k=o at*
 obtain⟨vv,tt,hV,h1,h2⟩:∃(vv:List UInt8) (tt:Bool),JcM o=.tuple #[.string (S vv),.bool tt]/\(if tt then vv else[])=o.getD []/\tt=o.isSome:=by
  cases o with
  |none=>exact⟨[],false,rfl,rfl,rfl⟩
  |some v=>exact⟨v,true,rfl,rfl,rfl⟩
 rw[hV] at HG
 rw[<-h1,<-h2]
 have HM:=Lib.hid (fun w=>JkF vv tt w)
 obtain⟨Z,hZ⟩:∃Z,Z=(if tt then vv else[]):=⟨_,rfl⟩
 rw[<-hZ] at HM⊢
 clear hZ h1 h2 hV o
 go_enter Tryz.func25,Tryz.ntmps25
 go_wp2_with fail
 go_loopw [8,9,10,11] (fun s8 s9 s10 s11 wr=>s8=.slice none 0 0/\s9=.int .i64 0/\s10=.pointer (some ⟨root,0,none⟩)/\s11=.int .i64 1/\Below w.heap.size w wr) (fun _ _ _ _ _=>0)
 case atStart=>exact⟨rfl,rfl,rfl,rfl,by go_grown⟩
 case round=>
  obtain⟨rfl,rfl,rfl,rfl,hB⟩:=hrel
  go_wp2_with fail
  refine(Jl (hf wr hB) wr.heap.size wr (Below.refl _ _) (Nat.le_refl _)).mono ?_
  rintro e w2 ⟨⟨b',kn,pa,pg,ps,a,c,cs,us,ks,rfl,hv,hb⟩,hX,-,-,-,hz⟩
  have hB2:=hB.trans (hX.mono hB.size)
  have v5:=hv.c5
  have HB:=Lib.hid hb
  clear hb hX
  cases lo
  all_goals
   go_wp2_with fail
   refine(Jl (HG.out _ w2 HB.out) w2.heap.size w2 (Below.refl _ _) (Nat.le_refl _)).mono ?_
   rintro e w3 ⟨rfl,hX3,-,-,-,hz3⟩
   have hB3:=hB2.trans (hX3.mono hB2.size)
   go_wp2_with fail
   refine(Jl (Jiv w3) w3.heap.size w3 (Below.refl _ _) (Nat.le_refl _)).mono ?_
   rintro e w4 ⟨rfl,hX4,-,-,-,hz4⟩
   have hB4:=hB3.trans (hX4.mono hB3.size)
   go_wp2_with fail
   refine(Jl (HM.out w4) w4.heap.size w4 (Below.refl _ _) (Nat.le_refl _)).mono ?_
   rintro e w5 ⟨rfl,hX5,-,-,-,hz5⟩
   have hB5:=hB4.trans (hX5.mono hB4.size)
   go_wp2_with fail
   go_returns
   exact⟨rfl,hB5⟩
open Go.RowKit
attribute [local go_sem ↓] Go.wp_at_zero Go.wp_at_succ
theorem SlU.at {w:World} {a:Option Addr} {n c:Nat} {l:List Upd} (h:SlU w (.slice a n c) l):JE Upd.cells 4 w a l:=by
 obtain⟨ao,c',e,hs,-⟩:=h
 simp only[Value.slice.injEq] at e
 obtain⟨rfl,-,-⟩:=e
 exact hs
open Go.RowKit
attribute [local go_sem ↓] Go.wp_at_zero Go.wp_at_succ
structure XQ (w:World) (v:Value) (l:List Ent):Prop where
 own:w.ownsRow 0 73 2 v l.length (cellsE l)
 str:∀g,v.ownBlock=some g->∀cur,Jc w 73 g cur->∀u∈cur,∃s,u=.string s
theorem XQ.nil (w:World):XQ w (.slice none 0 0) []:=⟨World.ownsRow_nil _ _ _ _,fun g e=>by simp[Value.ownBlock] at e⟩
theorem XQ.keep {w w':World} {v:Value} {l:List Ent} {M:Nat->Prop} (h:XQ w v l) (hk:Jg M w w') (hM:∀x,v.ownBlock=some x->¬M x):XQ w' v l:=
 ⟨Zm h.own hk fun g e=>hM g e,fun g e cur hc=>by
  refine h.str g e cur ?_
  have:=(h.own.lt g e).2
  have h2:=hk.block g this (hM g e)
  exact h2.symm.trans hc⟩
theorem XQ.on {w w':World} {v:Value} {l:List Ent} (h:XQ w v l) (hb:Below w.heap.size w w'):XQ w' v l:=h.keep (Jg.of_below (S:=fun _=>False) hb) fun _ _ q=>q
theorem Jgh (k:Nat):∀u∈(Builtin.zeroCells #[Value.string ByteArray.empty,Value.string ByteArray.empty] k).toList,∃s,u=.string s:=by
 intro u hu
 unfold Builtin.zeroCells at hu
 rw[Array.mem_toList_iff,Array.mem_map] at hu
 obtain⟨i,-,e⟩:=hu
 rw[<-e]
 have h2:(#[Value.string ByteArray.empty,Value.string ByteArray.empty]:Array Value).size=2:=rfl
 rw[h2]
 rcases Nat.mod_two_eq_zero_or_one i with h|h<;>rw[h]<;>exact⟨_,rfl⟩
theorem JfK:∀l:List Ent,(cellsE l).length=l.length*2
 |[]=>rfl
 |e::l=>by
  have ih:=JfK l
  unfold cellsE at ih⊢
  rw[List.flatMap_cons,List.length_append,ih,List.length_cons]
  show 2+_=_
  omega
theorem Jf4 {w:World} {ov:Value} {l:List Ent} (h:XQ w ov l) (x:Ent) (a:Addr) (c:Nat) (hx:∀j u,[Value.string (S x.key),.string (S x.val)][j]? =some u->w.cell? (a.add j)=some u) (hl:l.length<=1000000) (ty:TypeId):
  ∃v' w',(Builtin.append_ #[43,43] ty #[ov,.slice (some a) 1 c]).run Tryz.prog w=.ok v' w'/\XQ w' v' (l++[x])/\w.grownBy w' ov.ownBlock/\(v'.ownBlock=ov.ownBlock\/v'.ownBlock=some w.heap.size):=by
 obtain⟨i0,hi,iz0,iz1,iz2⟩:=info_parts Jqv
 have h1:=Jjo x
 obtain⟨v',w',hr,h2,h3,-,h5⟩:=run_append_own_at (P:=Tryz.prog) w 0 43 ty 73 i0 (.agg #[.string ByteArray.empty,.string ByteArray.empty]) 2 32 Tryz.underlying43 hi iz0 iz1 iz2 rfl (by decide) ov l.length (cellsE l) h.own a 1 c [.string (S x.key),.string (S x.val)] rfl hx h1 (by unfold maxLen;omega) (by omega) (Nat.zero_le _)
 rw[<-JjH] at h2
 refine⟨v',w',hr,⟨by rw[List.length_append];exact h2,?_⟩,h3,h5⟩
 have hnew:∀u∈[Value.string (S x.key),.string (S x.val)],∃s,u=.string s:=fun u hu=>by
  simp only[List.mem_cons,List.not_mem_nil,or_false] at hu
  rcases hu with rfl|rfl<;>exact⟨_,rfl⟩
 have hgn:∀u∈cellsE l,∃s,u=.string s:=fun u hu=>by
  unfold cellsE at hu
  obtain⟨y,-,hu⟩:=List.mem_flatMap.1 hu
  simp only[Ent.cells,List.mem_cons,List.not_mem_nil,or_false] at hu
  rcases hu with rfl|rfl<;>exact⟨_,rfl⟩
 rcases h.own.2 with⟨e1,e2⟩|⟨g,cap,cur,e1,hbg,hg,hnc,hcm,hcs,htake⟩
 ·rw[e1] at hr
  have hr2:=run_append_nil (P:=Tryz.prog) w 43 ty 73 i0 (.agg #[.string ByteArray.empty,.string ByteArray.empty]) Tryz.underlying43 hi iz0 a 1 c [.string (S x.key),.string (S x.val)] (by rw[iz1];rfl) hx (by omega) (by omega) (by rw[iz2];omega)
  rw[hr] at hr2
  injection hr2 with ev ew
  subst ev ew
  intro g hg cur hc u hu
  simp only[Value.ownBlock,Option.some.injEq] at hg
  subst hg
  rw[hc.cur (heap_alloc_new w.drew _)] at hu
  rw[Array.toList_append,List.mem_append] at hu
  rcases hu with hu|hu
  ·exact hnew u (by simpa using hu)
  ·exact Jgh _ u hu
 ·rw[e1] at hr
  by_cases hroom:l.length+1<=cap
  ·have hr2:=run_append_room (P:=Tryz.prog) w 43 ty 73 i0 Tryz.underlying43 hi g l.length cap cur hg a 1 c [.string (S x.key),.string (S x.val)] (by rw[iz1];rfl) hx h1 hroom (by rw[iz1,hcs];simp;omega)
   rw[hr] at hr2
   injection hr2 with ev ew
   subst ev ew
   intro g' hg' cur' hc u hu
   simp only[Value.ownBlock,Option.some.injEq] at hg'
   subst hg'
   rw[hc.cur (setRow_heap w g cur _ _ _ hg)] at hu
   have hold:=h.str g (by rw[e1];rfl) cur.toList (by unfold Jc;rw[Array.toArray_toList];exact hg)
   rw[List.mem_append,List.mem_append] at hu
   rcases hu with(hu|hu)|hu
   ·exact hold u (List.mem_of_mem_take hu)
   ·exact hnew u hu
   ·exact hold u (List.mem_of_mem_drop hu)
  ·have holds:∀j u,(cellsE l)[j]? =some u->w.cell? ((⟨g,0,none⟩:Addr).add j)=some u:=h.own.cells (g:=g) (by rw[e1];rfl)
   have hr2:=run_append_grow (P:=Tryz.prog) w 43 ty 73 i0 (.agg #[.string ByteArray.empty,.string ByteArray.empty]) Tryz.underlying43 hi iz0 ⟨g,0,none⟩ l.length cap (cellsE l) (by rw[iz1];exact JfK l) holds a 1 c [.string (S x.key),.string (S x.val)] (by rw[iz1];rfl) hx (by omega) (by omega) (growslice_fits (by omega) (by rw[iz2];omega))
   rw[hr] at hr2
   injection hr2 with ev ew
   subst ev ew
   intro g' hg' cur' hc u hu
   simp only[Value.ownBlock,Option.some.injEq] at hg'
   subst hg'
   rw[hc.cur (heap_alloc_new w.drew _)] at hu
   rw[Array.toList_append,List.mem_append,Array.toList_append,List.mem_append] at hu
   rcases hu with(hu|hu)|hu
   ·exact hgn u (by simpa using hu)
   ·exact hnew u (by simpa using hu)
   ·exact Jgh _ u hu
theorem JeQ {ops:Array Oper} {o:Oper} {a:Act} {w:World} {K:Act->World->Prop} {Q:Exit->Act->World->Prop} {E0:Prop} (hgd:∀g,o.guard=some g->Region.wanted o (yielded ops a.tmps)=true) (s x:Operand)
  (ho:o.op=Op.call {callee:=Callee.builtin Builtin.append,args:= #[s,x],argTypes:= #[43,43]})
  (ov:Value) (l:List Ent) (hs:a.eval s=ov) (h:XQ w ov l) (y:Ent) (ad:Addr) (c:Nat) (hx:a.eval x=.slice (some ad) 1 c) (hnews:∀j u,[Value.string (S y.key),.string (S y.val)][j]? =some u->w.cell? (ad.add j)=some u) (hl:l.length<=1000000)
  (hk:∀v' w',XQ w' v' (l++[y])->w.grownBy w' ov.ownBlock->(v'.ownBlock=ov.ownBlock\/v'.ownBlock=some w.heap.size)->K (a.put o.dst v') w'):
  if Region.wanted o (yielded ops a.tmps)=true then Oper.wp Tryz.prog o a w K Q else E0:=by
 have hw:Region.wanted o (yielded ops a.tmps)=true:=by
  cases hg:o.guard with
  |none=>simp[Region.wanted,hg]
  |some g=>exact hgd g hg
 rw[if_pos hw]
 obtain⟨v',w',hr,h2,h3,h5⟩:=Jf4 h y ad c hnews hl o.type
 unfold Oper.wp
 simp only[execOp,ho,resolve,invoke,builtin,Sem.run_bind,Sem.run_pure,Result.andThen_ok,List.map_toArray,List.map_cons,List.map_nil,hs,hx,hr]
 exact hk v' w' h2 h3 h5
abbrev Jlr (tb:Nat) (slo shi:List UInt8) (most:Int) (out:Value):List Value:=[.pointer (some ⟨tb,0,none⟩),.string (S slo),.string (S shi),.int .i64 most,out]
structure ScR (w:World) (sb tb:Nat) (slo shi:List UInt8) (most:Int) (outs:List Ent) (oa:Option Addr) (oc:Nat):Prop where
 row:Jc w 115 sb (Jlr tb slo shi most (.slice oa outs.length oc))
 own:XQ w (.slice oa outs.length oc) outs
section
variable {w w':World} {sb tb:Nat} {slo shi:List UInt8} {most:Int} {outs:List Ent} {oa:Option Addr} {oc:Nat}
theorem ScR.on (h:ScR w sb tb slo shi most outs oa oc) (hb:Below w.heap.size w w'):ScR w' sb tb slo shi most outs oa oc:=⟨h.row.on hb,h.own.on hb⟩
theorem ScR.kept {B:Nat} (h:ScR w sb tb slo shi most outs oa oc) (hb:Below B w w') (hB:w.heap.size<=B):ScR w' sb tb slo shi most outs oa oc:=h.on (hb.mono hB)
theorem ScR.lt (h:ScR w sb tb slo shi most outs oa oc):sb<w.heap.size:=h.row.lt
theorem ScR.c0 (h:ScR w sb tb slo shi most outs oa oc):w.cell? ⟨sb,0,none⟩=some (.pointer (some ⟨tb,0,none⟩)):=h.row.cell 0
theorem ScR.c1 (h:ScR w sb tb slo shi most outs oa oc):w.cell? ⟨sb,1,none⟩=some (.string (S slo)):=h.row.cell 1
theorem ScR.c2 (h:ScR w sb tb slo shi most outs oa oc):w.cell? ⟨sb,2,none⟩=some (.string (S shi)):=h.row.cell 2
theorem ScR.c3 (h:ScR w sb tb slo shi most outs oa oc):w.cell? ⟨sb,3,none⟩=some (.int .i64 most):=h.row.cell 3
theorem ScR.c4 (h:ScR w sb tb slo shi most outs oa oc):w.cell? ⟨sb,4,none⟩=some (.slice oa outs.length oc):=h.row.cell 4
theorem ScR.fz (h:ScR w sb tb slo shi most outs oa oc) (o:Nat):w.frozen? ⟨sb,o,none⟩=false:=h.row.frozen o
theorem ScR.ne (h:ScR w sb tb slo shi most outs oa oc):some sb≠(Value.slice oa outs.length oc).ownBlock:=fun e=>by
 obtain⟨cur,hc⟩:=Jr h.own.own sb e.symm
 exact absurd (hc.one h.row).1 (by decide)
theorem ScR.keep {M:Nat->Prop} (h:ScR w sb tb slo shi most outs oa oc) (hk:Jg M w w') (h1:¬M sb) (h2:∀x,(Value.slice oa outs.length oc).ownBlock=some x->¬M x):ScR w' sb tb slo shi most outs oa oc:=⟨hk.row h.row h1,h.own.keep hk h2⟩
theorem ScR.more {outs':List Ent} {oa':Option Addr} {oc':Nat} {wz:World} (h:ScR w sb tb slo shi most outs oa oc) (hg:w.grownBy wz (Value.slice oa outs.length oc).ownBlock) (hr:XQ wz (.slice oa' outs'.length oc') outs'):
  ScR (wz.setCell ⟨sb,4,none⟩ (.slice oa' outs'.length oc')) sb tb slo shi most outs' oa' oc':=by
 have hrow:=h.row.kept hg h.ne
 refine⟨hrow.put 4 _,hr.keep ((Jg.refl (fun x=>x=sb) wz).setCell ⟨sb,4,none⟩ (Or.inl rfl) _) fun x e q=> ?_⟩
 have q':x=sb:=q
 rw[q'] at e
 obtain⟨cur,hc⟩:=Jr hr.own sb e
 exact absurd (hc.one hrow).1 (by decide)
end
def Jff (low high slo shi:List UInt8):Bool:=(shi.isEmpty||bl low shi)&&(high.isEmpty||bl slo high)
theorem Jqb (a b:List UInt8):(!Op.bytesLess a b&& !(a==b))=bl b a:=by
 rcases JhZ a b with rfl|h|h
 ·rw[YO];simp
 ·rw[XI h,show Op.bytesLess a b=true from h];rfl
 ·have h2:Op.bytesLess a b=false:=XI h
  have h3:(a==b)=false:=by simpa using fun e=>Z1 h e.symm
  rw[h,h2,h3];rfl
theorem Jlg {sb tb:Nat} {most:Int} {outs:List Ent} {oa:Option Addr} {oc:Nat} (slo shi k:List UInt8) (w:World) (h:ScR w sb tb slo shi most outs oa oc):
  Calls Tryz.prog 102 #[.pointer (some ⟨sb,0,none⟩),.string (S k)] w fun e w'=>e=.returned (.bool (Jn k slo shi))/\Below w.heap.size w w':=by
 have c1:=h.c1
 have c2:=h.c2
 unfold Jn
 cases h1:Op.bytesLess k slo<;>cases shi with
 |nil=>
  go_enter Tryz.func102,Tryz.ntmps102
  go_wp2_with fail
  go_ret
  exact⟨by simp[h1],by go_grown⟩
 |cons x t=>
  go_enter Tryz.func102,Tryz.ntmps102
  go_wp2_with fail
  go_ret
  exact⟨by simp[h1],by go_grown⟩
theorem Jqp {sb tb:Nat} {most:Int} {outs:List Ent} {oa:Option Addr} {oc:Nat} (slo shi k l:List UInt8) (w:World) (h:ScR w sb tb slo shi most outs oa oc):
  Calls Tryz.prog 77 #[.pointer (some ⟨sb,0,none⟩),.string (S k),.string (S l)] w fun e w'=>e=.returned (.bool (Jff k l slo shi))/\Below w.heap.size w w':=by
 have c1:=h.c1
 have c2:=h.c2
 unfold Jff
 cases l with
 |nil=>
  cases shi with
  |nil=>
   go_enter Tryz.func77,Tryz.ntmps77
   go_wp2_with fail
   go_ret
   exact⟨by simp,by go_grown⟩
  |cons x t=>
   cases h1:Op.bytesLess k (x::t)
   all_goals
    go_enter Tryz.func77,Tryz.ntmps77
    go_wp2_with fail
    go_ret
    exact⟨by simp[h1],by go_grown⟩
 |cons y s=>
  cases shi with
  |nil=>
   go_enter Tryz.func77,Tryz.ntmps77
   go_wp2_with fail
   go_ret
   exact⟨by simp[Jqb],by go_grown⟩
  |cons x t=>
   cases h1:Op.bytesLess k (x::t)
   all_goals
    go_enter Tryz.func77,Tryz.ntmps77
    go_wp2_with fail
    go_ret
    exact⟨by simp[h1,Jqb],by go_grown⟩
open Go.RowKit
attribute [local go_sem ↓] Go.wp_at_zero Go.wp_at_succ
abbrev inB (slo shi:List UInt8) (e:Ent):Bool:=Jn e.key slo shi
def Zp (most:Int) (slo shi:List UInt8) (outs l:List Ent):List Ent:=JfQ most outs (l.filter (inB slo shi))
theorem JjR (most:Int) (outs a b:List Ent):JfQ most outs (a++b)=JfQ most (JfQ most outs a) b:=List.foldl_append
theorem Jef (most:Int) (slo shi:List UInt8) (outs a b:List Ent):Zp most slo shi outs (a++b)=Zp most slo shi (Zp most slo shi outs a) b:=by
 unfold Zp
 rw[List.filter_append,JjR]
theorem JoP (most:Int) (slo shi:List UInt8) (outs:List Ent):Zp most slo shi outs []=outs:=rfl
theorem Jnf (most:Int) (slo shi:List UInt8) (outs l:List Ent) (j:Nat) (hj:j<l.length):Zp most slo shi outs (l.take (j+1))=if Jn l[j].key slo shi=true then Jdf most (Zp most slo shi outs (l.take j)) l[j] else Zp most slo shi outs (l.take j):=by
 rw[List.take_succ_eq_append_getElem hj,Jef]
 unfold Zp
 rw[List.filter_cons]
 by_cases h:Jn l[j].key slo shi=true
 ·rw[if_pos h,if_pos h];rfl
 ·rw[if_neg h,if_neg h];rfl
theorem Jon {sb tb:Nat} {slo shi:List UInt8} {most:Int} {outs:List Ent} {oa:Option Addr} {oc:Nat} {a b:Option Addr} {n c m d:Nat} {es:List Ent} {us:List Upd} (w:World) (h:ScR w sb tb slo shi most outs oa oc) (hf:Zq w (.agg #[.slice a n c]) es) (hu:J4 w (.agg #[.slice b m d]) us) (he:es.length<=10000) (hr:Jd Ent.key es) (hfi:ZI es) (hul:us.length<=10000) (huw:∀u∈us,u.Wf) (ho:outs.length<=10000):
  Calls Tryz.prog 74 #[.pointer (some ⟨sb,0,none⟩),.agg #[.slice a n c],.agg #[.slice b m d]] w fun e w'=>e=.returned (.tuple #[])/\(∃oa' oc',ScR w' sb tb slo shi most (Zp most slo shi outs (Yr es us)) oa' oc'/\∀g,(Value.slice oa' (Zp most slo shi outs (Yr es us)).length oc').ownBlock=some g->(Value.slice oa outs.length oc).ownBlock=some g\/w.heap.size<=g)/\Jg (fun x=>x=sb\/(Value.slice oa outs.length oc).ownBlock=some x) w w':=by
 obtain⟨hr',hf',hl'⟩:=JcZ es hr hfi us
 have HL:=Lib.hid (fun w' h=>Jlz (.agg #[.slice b m d]) us w' h (by omega))
 have HON:=Lib.hid (fun w' s h1 h2=>JcA (.agg #[.slice a n c]) es s us w' h1 he hr hfi h2 huw hul)
 have hOw:∀g,(Value.slice oa outs.length oc).ownBlock=some g->g<w.heap.size:=fun g e=>(h.own.own.lt g e).2
 have HOw:=Lib.hid hOw
 have hsbw:=h.lt
 clear hOw
 have HF:=Lib.hid hf
 have HU:=Lib.hid hu
 have HH:=Lib.hid h
 clear hf hu h hr hfi huw
 generalize Yr es us=E at*
 have HLE:=Lib.hid (fun w' a c h=>JnX (.agg #[.slice a E.length c]) E w' h (by omega))
 go_enter Tryz.func74,Tryz.ntmps74
 go_upto_region 1 with(fail)
 have hb0:=Below.refl w.heap.size w
 obtain⟨W0,hW_W0⟩:∃W0,W0=((w.alloc (.cells #[.slice a n c] 99)).alloc (.cells #[.slice b m d] 103)):=⟨_,rfl⟩
 rw[<-hW_W0]
 have hX_W0:Below w.heap.size w W0:=by rw[hW_W0];go_grown
 have gf0:W0.cell? ⟨w.heap.size,0,none⟩=some (.slice a n c):=by rw[hW_W0,World.cell?_alloc_past _ _ _ (by simp<;>omega),World.cell?_alloc_at _ _ _ _ (by simp)];rfl
 have gu0:W0.cell? ⟨w.heap.size+1,0,none⟩=some (.slice b m d):=by rw[hW_W0,World.cell?_alloc_at _ _ _ _ (by simp)];rfl
 clear hW_W0
 have hz_W0:=hX_W0.size
 replace HF:=Lib.hid (HF.out.kept hX_W0 (Nat.le_refl _))
 replace HU:=Lib.hid (HU.out.kept hX_W0 (Nat.le_refl _))
 replace HH:=Lib.hid (HH.out.kept hX_W0 (Nat.le_refl _))
 replace hb0:=hb0.trans (hX_W0.mono hb0.size)
 clear hX_W0
 have hzW:=hb0.size
 go_cut [12,13,14] (fun s12 s13 s14 wx=>∃(la:Option Addr) (lc:Nat),s12=.slice la E.length lc/\s13=.int .i64 E.length/\s14=.int .i64 0/\Hid (wx.ownsRow W0.heap.size 73 2 (.slice la E.length lc) E.length (cellsE E))/\Below W0.heap.size W0 wx)
 case first=>
  go_region_law (first
   |(go_simp;go_at_call 75;refine(HL.out _ (HU.out.kept (Jb (Below.refl _ _)) (Nat.le_refl _))).mono ?_;rintro e w1 ⟨⟨v',rfl,hown⟩,hX1⟩;have hY1:=(Jb (Below.refl W0.heap.size W0)).trans hX1;obtain⟨va,vc,rfl⟩:=Jm hown;have gf1:=Ja hY1 gf0;have gu1:=Ja hY1 gu0)
   |(go_simp;go_at_call 66;refine(HON.out _ _ (HF.out.kept hY1 (Nat.le_refl _)) (SlU.of_own hown).2).mono ?_;rintro e w2 ⟨⟨a2,c2,rfl,hb2⟩,hX2⟩;have hY2:=hY1.trans (hX2.mono hY1.size);have gf2:=Ja hY2 gf0)
   |(go_simp;go_at_call 92;refine(HLE.out _ _ _ hb2).mono ?_;rintro e w3 ⟨⟨v3,rfl,hown3⟩,hX3⟩;have hY3:=hY2.trans (hX3.mono hY2.size);obtain⟨ea,ec,rfl⟩:=Jm hown3))
  all_goals
   have hO3:=Lib.hid (JI hown3 hY2.size)
   go_wp2_with fail
   go_meet
   exact⟨_,_,rfl,rfl,rfl,hO3,hY3⟩
 case rest=>
  obtain⟨la,lc,rfl,rfl,rfl,HE1,hX1⟩:=hcut
  have HH1:=Lib.hid (HH.out.on hX1)
  obtain⟨w1,hw1⟩:∃w1,w1=wc:=⟨_,rfl⟩
  subst hw1
  have HX1:=Lib.hid (hb0.trans (hX1.mono hzW))
  have hz1:=hX1.size
  have hzw1:w.heap.size<=w1.heap.size:=Nat.le_trans hzW hz1
  clear hX1 gf0 gu0 HL HON HLE HF HU
  go_wp2_with fail
  go_loopw [14] (fun i wr=>∃(j:Nat) (O:List Ent) (a2:Option Addr) (c2:Nat),i=.int .i64 j/\j<=E.length/\Hid (O=Zp most slo shi outs (E.take j))/\O.length<=outs.length+j/\Hid (ScR wr sb tb slo shi most O a2 c2)/\(∀g,(Value.slice a2 O.length c2).ownBlock=some g->(Value.slice oa outs.length oc).ownBlock=some g\/w1.heap.size<=g)/\Jg (fun x=>x=sb\/(Value.slice oa outs.length oc).ownBlock=some x) w1 wr) (fun i _=>E.length- (intOf i).toNat)
  case atStart=>exact⟨0,outs,oa,oc,rfl,Nat.zero_le _,Lib.hid (by simp[Zp,JfQ]),by omega,HH1,fun g e=>Or.inl e,Jg.refl _ _⟩
  case round=>
   obtain⟨j,O,a2,c2,rfl,hj,HO,hOl,HS,hg2,hK⟩:=hrel
   have hj0:(0:Int)<=(j:Int):=Int.natCast_nonneg _
   by_cases hjE:j<E.length
   ·have hj1:(j:Int)<(E.length:Int):=by omega
    have hEr:wr.ownsRow W0.heap.size 73 2 (.slice la E.length lc) E.length (cellsE E):=Zm HE1.out hK (fun g e q=>by
     have h1:=(HE1.out.lt g e).1
     rcases q with rfl|q
     ·omega
     ·have:=HOw.out g q;omega)
    obtain⟨b0,off,ea,hb,t0,t1⟩:=JE.cells2 (SlE.of_own hEr).2.at j hjE
    subst ea
    have HST:=Lib.hid (Jnf most slo shi outs E j hjE)
    generalize E[j]=u at*
    go_upto_region 4 with(fail)
    obtain⟨W2,hW2⟩:∃W2,W2=wr.alloc (.cells #[.string (S u.key),.string (S u.val)] 73):=⟨_,rfl⟩
    have hX2:Below wr.heap.size wr W2:=by rw[hW2];go_grown
    have e0:W2.cell? ⟨wr.heap.size,0,none⟩=some (.string (S u.key)):=by rw[hW2,World.cell?_alloc_at _ _ _ _ rfl];rfl
    have e1:W2.cell? ⟨wr.heap.size,1,none⟩=some (.string (S u.val)):=by rw[hW2,World.cell?_alloc_at _ _ _ _ rfl];rfl
    have HS2:=Lib.hid (HS.out.on hX2)
    have hK2:=hK.on hX2
    have hzr:=hK.size
    rw[<-hW2]
    clear hW2 hb t0 t1 hEr HS hK
    have c3:=HS2.out.c3
    have c4:=HS2.out.c4
    cases hwi:Jn u.key slo shi with
    |false=>
     have HWI:=Lib.hid hwi
     clear hwi
     refine WQ.region (C:=fun w'=>Below W2.heap.size W2 w') (by kernel_rfl) (by kernel_rfl) (Jb (Below.refl _ _)) ?_
     refine WV (by rfl) (.pointer (some ⟨sb,0,none⟩)) (fun w' hw'=> ?_) ?_
     ·have hq':=hw'
      go_simp
     try simp only[Act.put,WA,WB,WC]
     refine WV (by rfl) (.pointer (some ⟨wr.heap.size,0,none⟩)) (fun w' hw'=> ?_) ?_
     ·have hq':=hw'
      go_simp
     try simp only[Act.put,WA,WB,WC]
     refine WV (by rfl) (.string (S u.key)) (fun w' hw'=> ?_) ?_
     ·have hq':=hw'
      have z0:=Ja hw' e0;have z1:=Ja hw' c3;have z2:=Ja hw' c4;go_simp
     try simp only[Act.put,WA,WB,WC]
     refine WV (by rfl) (.bool false) (fun w' hw'=> ?_) ?_
     ·have hq':=hw'
      go_simp
      go_at_call 102
      refine((show Calls _ _ _ _ (fun e w'=>e=.returned (.bool false)/\Below _ _ _) from HWI.out▸Jlg slo shi u.key _ (HS2.out.kept hq' (Nat.le_refl _)))).mono ?_
      rintro e w6 ⟨he,hb6⟩
      exact⟨he,hq'.trans (hb6.mono hq'.size)⟩
     try simp only[Act.put,WA,WB,WC]
     refine WV (by rfl) (.bool false) (fun w' hw'=> ?_) ?_
     ·have hq':=hw'
      go_simp
     try simp only[Act.put,WA,WB,WC]
     refine WS (by rfl) ?_
     try simp only[Act.put,WA,WB,WC]
     refine WS (by rfl) ?_
     try simp only[Act.put,WA,WB,WC]
     refine WS (by rfl) ?_
     try simp only[Act.put,WA,WB,WC]
     refine WS (by rfl) ?_
     try simp only[Act.put,WA,WB,WC]
     refine WS (by rfl) ?_
     try simp only[Act.put,WA,WB,WC]
     refine WS (by rfl) ?_
     try simp only[Act.put,WA,WB,WC]
     refine WS (by rfl) ?_
     try simp only[Act.put,WA,WB,WC]
     refine WS (by rfl) ?_
     try simp only[Act.put,WA,WB,WC]
     refine WS (by rfl) ?_
     try simp only[Act.put,WA,WB,WC]
     refine WS (by rfl) ?_
     try simp only[Act.put,WA,WB,WC]
     refine WV (by rfl) (.bool false) (fun w' hw'=> ?_) ?_
     ·have hq':=hw'
      go_simp
     try simp only[Act.put,WA,WB,WC]
     refine WQ.done ?_
     rintro W3 hX3
     have hK3:=hK2.on hX3
     have HS3:=Lib.hid (HS2.out.on hX3)
     have hOa:Zp most slo shi outs (E.take (j+1))=O:=by
      rw[HST.out,if_neg (by rw[HWI.out];simp),<-HO.out]
     go_wp2_with fail
     exact⟨⟨j+1,O,a2,c2,by go_num,by omega,Lib.hid hOa.symm,by omega,HS3,hg2,hK3⟩,by simp[intOf];omega⟩
    |true=>
    have HWI:=Lib.hid hwi
    have HWR:=Lib.hid (fun w' (hq:ScR w' sb tb slo shi most O a2 c2)=>show Calls Tryz.prog 102 #[.pointer (some ⟨sb,0,none⟩),.string (S u.key)] w' (fun e w''=>e=.returned (.bool true)/\Below w'.heap.size w' w'') from HWI.out▸Jlg slo shi u.key w' hq)
    clear hwi
    by_cases hm:(O.length:Int)<most
    ·have hmd:decide ((O.length:Int)<most)=true:=by simpa using hm
     refine WQ.region (C:=fun w'=>Below W2.heap.size W2 w') (by kernel_rfl) (by kernel_rfl) (Jb (Below.refl _ _)) ?_
     refine WV (by rfl) (.pointer (some ⟨sb,0,none⟩)) (fun w' hw'=> ?_) ?_
     ·have hq':=hw'
      go_simp
     try simp only[Act.put,WA,WB,WC]
     refine WV (by rfl) (.pointer (some ⟨wr.heap.size,0,none⟩)) (fun w' hw'=> ?_) ?_
     ·have hq':=hw'
      go_simp
     try simp only[Act.put,WA,WB,WC]
     refine WV (by rfl) (.string (S u.key)) (fun w' hw'=> ?_) ?_
     ·have hq':=hw'
      have z0:=Ja hw' e0;have z1:=Ja hw' c3;have z2:=Ja hw' c4;go_simp
     try simp only[Act.put,WA,WB,WC]
     refine WV (by rfl) (.bool true) (fun w' hw'=> ?_) ?_
     ·have hq':=hw'
      go_simp
      go_at_call 102
      refine(HWR.out _ (HS2.out.kept hq' (Nat.le_refl _))).mono ?_
      rintro e w6 ⟨he,hb6⟩
      exact⟨he,hq'.trans (hb6.mono hq'.size)⟩
     try simp only[Act.put,WA,WB,WC]
     refine WV (by rfl) (.bool true) (fun w' hw'=> ?_) ?_
     ·have hq':=hw'
      go_simp
     try simp only[Act.put,WA,WB,WC]
     refine WV (by rfl) (.pointer (some ⟨sb,0,none⟩)) (fun w' hw'=> ?_) ?_
     ·have hq':=hw'
      go_simp
     try simp only[Act.put,WA,WB,WC]
     refine WV (by rfl) (.pointer (some ⟨sb,0,none⟩)) (fun w' hw'=> ?_) ?_
     ·have hq':=hw'
      go_simp
     try simp only[Act.put,WA,WB,WC]
     refine WV (by rfl) (.pointer (some ⟨sb,4,none⟩)) (fun w' hw'=> ?_) ?_
     ·have hq':=hw'
      go_simp
     try simp only[Act.put,WA,WB,WC]
     refine WV (by rfl) (.slice a2 O.length c2) (fun w' hw'=> ?_) ?_
     ·have hq':=hw'
      have z0:=Ja hw' e0;have z1:=Ja hw' c3;have z2:=Ja hw' c4;go_simp
     try simp only[Act.put,WA,WB,WC]
     refine WV (by rfl) (.int .i64 O.length) (fun w' hw'=> ?_) ?_
     ·have hq':=hw'
      go_simp
     try simp only[Act.put,WA,WB,WC]
     refine WV (by rfl) (.pointer (some ⟨sb,0,none⟩)) (fun w' hw'=> ?_) ?_
     ·have hq':=hw'
      go_simp
     try simp only[Act.put,WA,WB,WC]
     refine WV (by rfl) (.pointer (some ⟨sb,0,none⟩)) (fun w' hw'=> ?_) ?_
     ·have hq':=hw'
      go_simp
     try simp only[Act.put,WA,WB,WC]
     refine WV (by rfl) (.pointer (some ⟨sb,3,none⟩)) (fun w' hw'=> ?_) ?_
     ·have hq':=hw'
      go_simp
     try simp only[Act.put,WA,WB,WC]
     refine WV (by rfl) (.int .i64 most) (fun w' hw'=> ?_) ?_
     ·have hq':=hw'
      have z0:=Ja hw' e0;have z1:=Ja hw' c3;have z2:=Ja hw' c4;go_simp
     try simp only[Act.put,WA,WB,WC]
     refine WV (by rfl) (.bool true) (fun w' hw'=> ?_) ?_
     ·have hq':=hw'
      go_simp
     try simp only[Act.put,WA,WB,WC]
     refine WV (by rfl) (.bool true) (fun w' hw'=> ?_) ?_
     ·have hq':=hw'
      go_simp
     try simp only[Act.put,WA,WB,WC]
     refine WQ.done ?_
     rintro W3 hX3
     have hK3:=hK2.on hX3
     have HS3:=Lib.hid (HS2.out.on hX3)
     have e0:=Ja hX3 e0
     have e1:=Ja hX3 e1
     have c4:=HS3.out.c4
     have hsl:=HS3.out.lt
     have hOa:Zp most slo shi outs (E.take (j+1))=O++[u]:=by
      rw[HST.out,if_pos HWI.out,<-HO.out]
      unfold Jdf
      rw[if_pos hm]
     have HOA:=Lib.hid hOa
     have HLN:=Lib.hid (show(O++[u]).length=O.length+1 by simp)
     clear hOa
     go_upto_region 5 with(fail)
     have c4a:∀x,(W3.alloc x).cell? ⟨sb,4,none⟩=some (.slice a2 O.length c2):=fun x=>(World.cell?_alloc_past _ _ _ hsl).trans c4
     obtain⟨W4,hW4⟩:∃W4,W4=(W3.alloc (.cells #[.string (S u.key),.string (S u.val)] 73)).drew:=⟨_,rfl⟩
     have hX4:Below W3.heap.size W3 W4:=by rw[hW4];exact Jb ((Below.refl _ _).alloc (Nat.le_refl _) _)
     have HS4:=Lib.hid (HS3.out.on hX4)
     have hcell:∀i v,[Value.string (S u.key),.string (S u.val)][i]? =some v->W4.cell? ((⟨W3.heap.size,0,none⟩:Addr).add i)=some v:=fun i v hv=>by
      rw[hW4]
      exact Jh (YL W3 _ _ _ i v hv)
     have HNE:=Lib.hid HS4.out.ne
     go_region_law (first|(rw[<-hW4];refine JeQ (by simp) _ _ (by rfl) _ O (by rfl) HS4.out.own u ⟨W3.heap.size,0,none⟩ 1 (by rfl) hcell (by omega) ?_;intro vz wz hownwz hgrowwz hbz;obtain⟨ac,yc,rfl⟩:=Jm hownwz.own;have z4:=hgrowwz.cell HS4.out.c4 HNE.out;have zf:=(World.frozen?_of_block (hgrowwz.block sb HS4.out.lt HNE.out)).trans (HS4.out.fz 4);have HGR:=Lib.hid (HS4.out.more (outs':=O++[u]) (oa':=ac) (oc':=yc) hgrowwz hownwz);have HKG:=Lib.hid ((hK3.on hX4).grown hgrowwz (fun g e=>(hg2 g e).imp Or.inr id));have HBZ:=Lib.hid hbz;clear hownwz hgrowwz hbz))
     all_goals
      rw[HLN.out] at HGR
      go_wp2_with fail
      refine⟨⟨j+1,O++[u],ac,yc,by go_num,by omega,Lib.hid HOA.out.symm,by rw[HLN.out];omega,HGR,fun g e=> ?_,HKG.out.setCell ⟨sb,4,none⟩ (Or.inl (Or.inl rfl)) _⟩,by simp[intOf];omega⟩
      rcases HBZ.out with h|h
      ·rw[h] at e;exact hg2 g e
      ·rw[h] at e
       have:=Option.some.inj e
       have:=hX4.size
       have:=hX3.size
       have:=hX2.size
       exact Or.inr (by omega)
    ·have hmd:decide ((O.length:Int)<most)=false:=by simpa using hm
     refine WQ.region (C:=fun w'=>Below W2.heap.size W2 w') (by kernel_rfl) (by kernel_rfl) (Jb (Below.refl _ _)) ?_
     refine WV (by rfl) (.pointer (some ⟨sb,0,none⟩)) (fun w' hw'=> ?_) ?_
     ·have hq':=hw'
      go_simp
     try simp only[Act.put,WA,WB,WC]
     refine WV (by rfl) (.pointer (some ⟨wr.heap.size,0,none⟩)) (fun w' hw'=> ?_) ?_
     ·have hq':=hw'
      go_simp
     try simp only[Act.put,WA,WB,WC]
     refine WV (by rfl) (.string (S u.key)) (fun w' hw'=> ?_) ?_
     ·have hq':=hw'
      have z0:=Ja hw' e0;have z1:=Ja hw' c3;have z2:=Ja hw' c4;go_simp
     try simp only[Act.put,WA,WB,WC]
     refine WV (by rfl) (.bool true) (fun w' hw'=> ?_) ?_
     ·have hq':=hw'
      go_simp
      go_at_call 102
      refine(HWR.out _ (HS2.out.kept hq' (Nat.le_refl _))).mono ?_
      rintro e w6 ⟨he,hb6⟩
      exact⟨he,hq'.trans (hb6.mono hq'.size)⟩
     try simp only[Act.put,WA,WB,WC]
     refine WV (by rfl) (.bool true) (fun w' hw'=> ?_) ?_
     ·have hq':=hw'
      go_simp
     try simp only[Act.put,WA,WB,WC]
     refine WV (by rfl) (.pointer (some ⟨sb,0,none⟩)) (fun w' hw'=> ?_) ?_
     ·have hq':=hw'
      go_simp
     try simp only[Act.put,WA,WB,WC]
     refine WV (by rfl) (.pointer (some ⟨sb,0,none⟩)) (fun w' hw'=> ?_) ?_
     ·have hq':=hw'
      go_simp
     try simp only[Act.put,WA,WB,WC]
     refine WV (by rfl) (.pointer (some ⟨sb,4,none⟩)) (fun w' hw'=> ?_) ?_
     ·have hq':=hw'
      go_simp
     try simp only[Act.put,WA,WB,WC]
     refine WV (by rfl) (.slice a2 O.length c2) (fun w' hw'=> ?_) ?_
     ·have hq':=hw'
      have z0:=Ja hw' e0;have z1:=Ja hw' c3;have z2:=Ja hw' c4;go_simp
     try simp only[Act.put,WA,WB,WC]
     refine WV (by rfl) (.int .i64 O.length) (fun w' hw'=> ?_) ?_
     ·have hq':=hw'
      go_simp
     try simp only[Act.put,WA,WB,WC]
     refine WV (by rfl) (.pointer (some ⟨sb,0,none⟩)) (fun w' hw'=> ?_) ?_
     ·have hq':=hw'
      go_simp
     try simp only[Act.put,WA,WB,WC]
     refine WV (by rfl) (.pointer (some ⟨sb,0,none⟩)) (fun w' hw'=> ?_) ?_
     ·have hq':=hw'
      go_simp
     try simp only[Act.put,WA,WB,WC]
     refine WV (by rfl) (.pointer (some ⟨sb,3,none⟩)) (fun w' hw'=> ?_) ?_
     ·have hq':=hw'
      go_simp
     try simp only[Act.put,WA,WB,WC]
     refine WV (by rfl) (.int .i64 most) (fun w' hw'=> ?_) ?_
     ·have hq':=hw'
      have z0:=Ja hw' e0;have z1:=Ja hw' c3;have z2:=Ja hw' c4;go_simp
     try simp only[Act.put,WA,WB,WC]
     refine WV (by rfl) (.bool false) (fun w' hw'=> ?_) ?_
     ·have hq':=hw'
      go_simp
     try simp only[Act.put,WA,WB,WC]
     refine WV (by rfl) (.bool false) (fun w' hw'=> ?_) ?_
     ·have hq':=hw'
      go_simp
     try simp only[Act.put,WA,WB,WC]
     refine WQ.done ?_
     rintro W3 hX3
     have hK3:=hK2.on hX3
     have HS3:=Lib.hid (HS2.out.on hX3)
     have hOa:Zp most slo shi outs (E.take (j+1))=O:=by
      rw[HST.out,if_pos HWI.out,<-HO.out]
      unfold Jdf
      rw[if_neg hm]
     go_wp2_with fail
     exact⟨⟨j+1,O,a2,c2,by go_num,by omega,Lib.hid hOa.symm,by omega,HS3,hg2,hK3⟩,by simp[intOf];omega⟩
   ·obtain rfl:j=E.length:=by omega
    rw[List.take_length] at HO
    go_wp2_with fail
    refine bodyPost_end (v:=.tuple #[]) (by simp[results,Tryz.results74,go_sem]) rfl ⟨rfl,⟨a2,c2,by rw[<-HO.out];exact HS.out,fun g e=> ?_⟩,(Jg.of_below HX1.out).trans' hK⟩
    rw[<-HO.out] at e
    exact(hg2 g e).imp id (fun h=>by omega)
end Go.Proofs.YtafciefjlkdecaaGreat
namespace Go.Proofs.YtafciefjlkdecaaGreat
open Go.RowKit
def Num (u:Value):Prop:=(∃k,u=.int .u8 k)\/∃k,u=.int .u32 k
def Jeh (w:World) (b:Nat):Prop:=∀o u,w.cell? ⟨b,o,none⟩=some u->¬Num u
theorem Jc.noNum {w:World} {E:TypeId} {g:Nat} {cur:List Value} (h:Jc w E g cur) (hc:∀u∈cur,¬Num u):Jeh w g:=fun o u e=>by
 rw[h.cell] at e
 exact hc u (List.mem_of_getElem? e)
theorem Jg.cellAt {S:Nat->Prop} {a b:World} {g o:Nat} {v:Value} (h:Jg S a b) (hc:a.cell? ⟨g,o,none⟩=some v) (hs:¬S g):b.cell? ⟨g,o,none⟩=some v:=by
 rw[World.cell?_of_block (h.block g (World.block_lt_of_cell? a _ hc) hs)]
 exact hc
theorem JE.keepN {α:Type} {enc:α->List Value} {k:Nat} {w w':World} {ao:Option Addr} {l:List α} {S:Nat->Prop} (h:JE enc k w ao l) (hk:Jg S w w') (hS:∀b,S b->Jeh w b) (henc:∀x:α,∃(j:Nat) (u:Value),(enc x)[j]? =some u/\Num u):JE enc k w' ao l:=by
 rcases h with rfl|⟨b,off,rfl,hb,hc⟩
 ·exact Or.inl rfl
 ·by_cases hl:l=[]
  ·exact Or.inl hl
  ·have hl0:0<l.length:=List.length_pos_iff.2 hl
   obtain⟨j,u,hj,hn⟩:=henc l[0]
   have hnS:¬S b:=fun q=>hS b q _ u (hc 0 hl0 j _ hj) hn
   refine Or.inr ⟨b,off,rfl,Nat.lt_of_lt_of_le hb hk.size,fun i hi j x hx=> ?_⟩
   rw[World.cell?_of_block (hk.block b hb hnS)]
   exact hc i hi j x hx
theorem SlC.keepN {w w':World} {v:Value} {l:List Chd} {S:Nat->Prop} (h:SlC w v l) (hk:Jg S w w') (hS:∀b,S b->Jeh w b):SlC w' v l:=by
 obtain⟨ao,c,rfl,hs,h2⟩:=h
 exact⟨ao,c,rfl,hs.keepN hk hS (fun x=>⟨3,_,rfl,Or.inr ⟨_,rfl⟩⟩),h2⟩
theorem SlU.keepN {w w':World} {v:Value} {l:List Upd} {S:Nat->Prop} (h:SlU w v l) (hk:Jg S w w') (hS:∀b,S b->Jeh w b):SlU w' v l:=by
 obtain⟨ao,c,rfl,hs,h2⟩:=h
 exact⟨ao,c,rfl,hs.keepN hk hS (fun x=>⟨0,_,rfl,Or.inl ⟨_,rfl⟩⟩),h2⟩
theorem J4.keepN {w w':World} {v:Value} {l:List Upd} {S:Nat->Prop} (h:J4 w v l) (hk:Jg S w w') (hS:∀b,S b->Jeh w b):J4 w' v l:=by
 obtain⟨s,rfl,hs⟩:=h
 exact⟨s,rfl,hs.keepN hk hS⟩
theorem JA.keepN {w w':World} {v:Value} {cs:List Chd} {us:List Upd} {S:Nat->Prop} (h:JA w v cs us) (hk:Jg S w w') (hS:∀b,S b->Jeh w b):JA w' v cs us:=by
 obtain⟨a,b,x,y,rfl,h1,h2⟩:=h
 exact⟨a,b,x,y,rfl,h1.keepN hk hS,h2.keepN hk hS⟩
def Z5 (oa:Option Addr) (n oc:Nat):Option Nat:=(Value.slice oa n oc).ownBlock
def S3 (kb sb:Nat) (ob:Option Nat) (x:Nat):Prop:=x=kb\/x=sb\/ob=some x
section
variable {w w':World} {X:Kx} {root h:Nat} {T:Tx} {sb:Nat} {slo shi:List UInt8} {most:Int} {outs:List Ent} {oa:Option Addr} {oc:Nat}
theorem Jaq (c:CAt w X root h T) (s:ScR w sb X.tb slo shi most outs oa oc) {x:Nat} (hx:S3 X.sb sb (Z5 oa outs.length oc) x):x<w.heap.size/\Jeh w x/\∀E cur,Jc w E x cur->E=27\/E=115\/E=73:=by
 rcases hx with rfl|rfl|hx
 ·refine⟨c.sh.row.lt,c.sh.row.noNum fun u hu=> ?_,fun E cur hr=>Or.inl (hr.one c.sh.row).1⟩
  simp only[List.mem_cons,List.not_mem_nil,or_false] at hu
  rcases hu with rfl|rfl|rfl<;>simp[Num]
 ·refine⟨s.lt,s.row.noNum fun u hu=> ?_,fun E cur hr=>Or.inr (Or.inl (hr.one s.row).1)⟩
  simp only[Jlr,List.mem_cons,List.not_mem_nil,or_false] at hu
  rcases hu with rfl|rfl|rfl|rfl|rfl<;>simp[Num]
 ·obtain⟨cur,hc⟩:=Jr s.own.own x hx
  refine⟨hc.lt,hc.noNum fun u hu=> ?_,fun E cur' hr=>Or.inr (Or.inr (hr.one hc).1)⟩
  obtain⟨q,rfl⟩:=s.own.str x hx cur hc u hu
  simp[Num]
theorem CAt.keep3 (c:CAt w X root h T) (s:ScR w sb X.tb slo shi most outs oa oc) (hk:Jg (fun x=>x=sb\/Z5 oa outs.length oc=some x) w w'):CAt w' X root h T:=by
 have hn:∀ {E:TypeId} {x:Nat} {cur:List Value},Jc w E x cur->E≠115->E≠73->¬(x=sb\/Z5 oa outs.length oc=some x):=fun {E x cur} hr h1 h2 q=>by
  rcases q with rfl|q
  ·exact h1 (hr.one s.row).1
  ·obtain⟨cur',hc⟩:=Jr s.own.own x q
   exact h2 (hr.one hc).1
 have hmb:¬(X.mb=sb\/Z5 oa outs.length oc=some X.mb):=fun q=>by
  rcases q with q|q
  ·exact c.sh.noMap (by have:=s.row;rw[<-q] at this;exact this)
  ·obtain⟨cur',hc⟩:=Jr s.own.own X.mb q
   exact c.sh.noMap hc
 refine⟨⟨hk.row c.tr.row (hn c.tr.row (by decide) (by decide))⟩,c.gn.keep hk fun x e=> ?_,c.sh.keep hk (hn c.sh.row (by decide) (by decide)) hmb⟩
 obtain⟨cur,hc⟩:=Jr c.gn.own x e
 exact hn hc (by decide) (by decide)
theorem ScR.load (s:ScR w sb X.tb slo shi most outs oa oc) (c:CAt w X root h T) (hk:Jg (fun x=>x=X.sb) w w'):ScR w' sb X.tb slo shi most outs oa oc:=
 s.keep hk (fun e=>by
  have e':sb=X.sb:=e
  have:=s.row
  rw[e'] at this
  exact absurd (this.one c.sh.row).1 (by decide)) fun x hx e=>by
  have e':x=X.sb:=e
  obtain⟨cur,hc⟩:=Jr s.own.own x hx
  rw[e'] at hc
  exact absurd (hc.one c.sh.row).1 (by decide)
end
theorem ZG.keepT {w w':World} {v:Value} {bs:List Nat} {M:Nat->Prop} (h:ZG w v bs) (hk:Jg M w w') (hM:∀x cur,Jc w 97 x cur->¬M x):ZG w' v bs:=
 Zm h hk fun g e q=>by
  obtain⟨cur,hc⟩:=Jr h g e
  exact hM g cur hc q
theorem Mem.fresh {w w':World} {n:Nat} {v:Vt} {M:Nat->Prop} (hm:Mem w (n+1) v) (hl:v.ld=true) (hk:Jg M w w') (hM:∀x,M x->Jeh w x) (hr:∀x cur,Jc w 97 x cur->¬M x) (hb:∀b∈blocks (n+1) v,¬M b) (hf:∀x∈v.ch,x.2.ld=false):Mem w' (n+1) v:=by
 obtain⟨⟨-,pa,pg,ps,a1,c1,a2,c2,a3,c3,h1,h2,h3,h4⟩,hkd⟩:=hm.node hl
 refine⟨hm.in,Or.inl ⟨⟨hl,pa,pg,ps,a1,c1,a2,c2,a3,c3,hk.vx h1 (hb _ hm.head),h2,h3.keepN hk hM,h4.keepT hk hr⟩,fun x hx=> ?_⟩⟩
 have hmx:=hkd x hx
 have hbx:¬M x.2.b:=hb _ (Y2 hm.in hx hmx.head)
 cases n with
 |zero=>exact⟨hmx.in,Or.inr ((hmx.far0 (hf x hx)).keep hk hbx)⟩
 |succ n=>exact⟨hmx.in,Or.inr ⟨(hmx.far (hf x hx)).1.keep hk hbx,(hmx.far (hf x hx)).2⟩⟩
theorem Jpb {l l':List (Chd×Vt)} (h:l'.map Zs=l.map Zs) (hl:∀x∈l,x.2.ld=false):∀x∈l',x.2.ld=false:=fun x hx=>by
 have:Zs x∈l.map Zs:=by rw[<-h];exact List.mem_map_of_mem hx
 obtain⟨y,hy,e⟩:=List.mem_map.1 this
 have e2:(Zs y).2.ld=(Zs x).2.ld:=by rw[e]
 have e3:y.2.ld=x.2.ld:=e2
 rw[<-e3]
 exact hl y hy
structure Jrp (X:Kx) (sb:Nat) (ob:Option Nat) (n:Nat) (lo hi:List UInt8) (v v1:Vt) (w':World):Prop where
 ld:v1.ld=true
 mem:Mem w' n v1
 stab:1<=n->∀w2,Jg (S3 X.sb sb ob) w' w2->Mem w2 n v1
 ok:Ok n lo hi v1
 shf:Shf X.f n v1
 pot:pot n v1=pot n v
 en:∀u,enG n v1 u=enG n v u
def Jrg (X:Kx) (root h:Nat) (T:Tx) (sb:Nat) (slo shi:List UInt8) (most:Int) (outs:List Ent) (oa:Option Addr) (oc:Nat) (n:Nat) (lo hi:List UInt8) (v:Vt) (w:World) (e:Ending) (w':World):Prop:=
 ∃wr',wr'<=T.wr/\CAt w' X root h {T with wr:=wr'}/\Jg (S3 X.sb sb (Z5 oa outs.length oc)) w w'/\ScR w' sb X.tb slo shi most outs oa oc/\((e=.returned (.tuple #[.pointer none,.bool false,.int .i64 10])/\0<T.wr)\/∃v1 ld,e=.returned (.tuple #[.pointer (some ⟨v1.b,0,none⟩),.bool ld,.int .i64 0])/\Jrp X sb (Z5 oa outs.length oc) n lo hi v v1 w')
theorem Jqy {X:Kx} {root h:Nat} {T:Tx} {n:Nat} {v:Vt} {lo hi:List UInt8} {sb:Nat} {slo shi:List UInt8} {most:Int} {outs:List Ent} {oa:Option Addr} {oc:Nat} (hh:Int) (w:World) (hhn:hh=(n:Int)+1) (c:CAt w X root h T) (hst:∀w2,Jg (S3 X.sb sb (Z5 oa outs.length oc)) w w2->Mem w2 n v) (ho:Ok n lo hi v) (hs:Shf X.f n v) (hN:Jgg X.f) (hp:pot n v<=1000) (hwr:T.wr<=1000) (s:ScR w sb X.tb slo shi most outs oa oc):
  Calls Tryz.prog 50 #[.pointer (some ⟨X.tb,0,none⟩),.pointer (some ⟨v.b,0,none⟩),.int .i64 hh] w fun e w'=>Jrg X root h T sb slo shi most outs oa oc n lo hi v w e w':=by
 have hm:=hst w (Jg.refl _ _)
 refine(JgV hh w hhn c hm ho hs hN hp hwr).mono ?_
 rintro e w' (⟨hl,rfl,hb⟩|⟨v',hl,rfl,hL,hm1,hn1,hb1,c1,hk1⟩|⟨hl,rfl,hw,c1,hk1⟩)
 ·exact⟨T.wr,Nat.le_refl _,c.on hb,Jg.of_below hb,s.on hb,Or.inr ⟨v,false,rfl,hl,hst w' (Jg.of_below hb),fun _ w2 hk=>hst w2 ((Jg.of_below hb).trans' hk),ho,hs,rfl,fun _=>rfl⟩⟩
 ·have s1:=s.load c hk1
  have hld:v'.ld=true:=hL.ld
  refine⟨T.wr-1,Nat.sub_le _ _,c1,hk1.mono fun x e=>Or.inl e,s1,Or.inr ⟨v',true,rfl,hld,hm1,fun hn w2 hk=> ?_,Jh5 (hL.ok ho),JfT.1 (hL.shf hs),?_,fun u=> ?_⟩⟩
  ·cases n with
   |zero=>omega
   |succ n=>
    refine hm1.fresh hld hk (fun x hx=>(Jaq c1 s1 hx).2.1) (fun x cur hr q=> ?_) (fun b hb q=> ?_) (Jpb hL.ch fun x hx=>((hm.far hl).2 x hx).out.2.1)
    ·rcases(Jaq c1 s1 q).2.2 _ _ hr with e|e|e<;>exact absurd e (by decide)
    ·have h1:=hb1 b hb
     have h2:=(Jaq c s q).1
     omega
  ·have h1:=hL.pot_eq n
   rw[<-h1]
   exact(JcY n v' v.b v'.mem v'.ld v'.kn).symm
  ·have h1:=hL.enG u n
   rw[<-h1]
   exact(Jjp n v' v.b v'.mem v'.ld v'.kn u).symm
 ·exact⟨0,Nat.zero_le _,c1,hk1.mono fun x e=>Or.inl e,s.load c hk1,Or.inl ⟨rfl,hw⟩⟩
theorem Jg8 (most:Int):∀(l outs:List Ent),((JfQ most outs l).length:Int)<=max (outs.length:Int) most
 |[],outs=>by show(outs.length:Int)<=_;omega
 |e::l,outs=>by
  have h1:=Jg8 most l (Jdf most outs e)
  have h2:((Jdf most outs e).length:Int)<=max (outs.length:Int) most:=by
   unfold Jdf
   split
   ·rw[List.length_append,List.length_singleton];omega
   ·omega
  show((JfQ most (Jdf most outs e) l).length:Int)<=_
  omega
theorem Jg9 {most:Int}:∀ {l outs:List Ent},most<=(outs.length:Int)->JfQ most outs l=outs
 |[],_,_=>rfl
 |e::l,outs,h=>by
  have h1:Jdf most outs e=outs:=by unfold Jdf;rw[if_neg (by omega)]
  show JfQ most (Jdf most outs e) l=outs
  rw[h1]
  exact Jg9 h
theorem Jni {most:Int} {slo shi:List UInt8} {l outs:List Ent} (h:most<=(outs.length:Int)):Zp most slo shi outs l=outs:=Jg9 h
theorem Jnh {most:Int} {slo shi lo hi:List UInt8} {l outs:List Ent} (hm:Jff lo hi slo shi=false) (hl:∀e∈l,Jn e.key lo hi=true):Zp most slo shi outs l=outs:=by
 unfold Zp
 rw[List.filter_eq_nil_iff.2]
 ·rfl
 ·intro e he hw
  obtain⟨a1,a2⟩:=Je.1 (hl e he)
  obtain⟨b1,b2⟩:=Je.1 (show Jn e.key slo shi=true from hw)
  have h1:(shi.isEmpty||bl lo shi)=true:=JeC.2 (b2.down a1)
  have h2:(hi.isEmpty||bl slo hi)=true:=JeC.2 (a2.down b1)
  unfold Jff at hm
  rw[h1,h2] at hm
  cases hm
def JbF (X:Kx) (root h:Nat) (T:Tx) (sb:Nat) (slo shi:List UInt8) (most:Int) (outs:List Ent) (oa:Option Addr) (oc:Nat) (E:List Ent) (w:World) (e:Ending) (w':World):Prop:=
 ∃wr',wr'<=T.wr/\CAt w' X root h {T with wr:=wr'}/\Jg (S3 X.sb sb (Z5 oa outs.length oc)) w w'/\((e=.returned (.int .i64 10)/\0<T.wr)\/(e=.returned (.int .i64 0)/\∃oa' oc',ScR w' sb X.tb slo shi most (Zp most slo shi outs E) oa' oc'/\∀g,Z5 oa' (Zp most slo shi outs E).length oc'=some g->Z5 oa outs.length oc=some g\/w.heap.size<=g))
structure Jnj (X:Kx) (root h:Nat) (T:Tx) (n:Nat) (v:Vt) (lo hi:List UInt8) (sb:Nat) (slo shi:List UInt8) (most:Int) (outs:List Ent) (oa:Option Addr) (oc:Nat) (above:List Upd) (w:World):Prop where
 c:CAt w X root h T
 st:∀w2,Jg (S3 X.sb sb (Z5 oa outs.length oc)) w w2->Mem w2 n v
 ok:Ok n lo hi v
 sh:Shf X.f n v
 near:Jgg X.f
 pot:pot n v+above.length<=1000
 wr:T.wr<=1000
 s:ScR w sb X.tb slo shi most outs oa oc
 g:ZC lo hi above
 m:most<=1000
 o:outs.length<=1000
def Jl1 (n:Nat):Prop:=∀(X:Kx) (root h:Nat) (T:Tx) (v:Vt) (lo hi:List UInt8) (sb:Nat) (slo shi:List UInt8) (most:Int) (outs:List Ent) (oa:Option Addr) (oc:Nat) (b:Option Addr) (m d:Nat) (above:List Upd) (w:World) (hh:Int),
 Jnj X root h T n v lo hi sb slo shi most outs oa oc above w->J4 w (.agg #[.slice b m d]) above->hh=(n:Int)+1->n<=100->
 Calls Tryz.prog 43 #[.pointer (some ⟨sb,0,none⟩),.pointer (some ⟨v.b,0,none⟩),.int .i64 hh,.agg #[.slice b m d]] w fun e w'=>JbF X root h T sb slo shi most outs oa oc (enG n v above) w e w'
theorem Jnj.on {X:Kx} {root h:Nat} {T:Tx} {n:Nat} {v:Vt} {lo hi:List UInt8} {sb:Nat} {slo shi:List UInt8} {most:Int} {outs:List Ent} {oa:Option Addr} {oc:Nat} {above:List Upd} {w w':World} (i:Jnj X root h T n v lo hi sb slo shi most outs oa oc above w) (hb:Below w.heap.size w w'):Jnj X root h T n v lo hi sb slo shi most outs oa oc above w':=
 ⟨i.c.on hb,fun w2 hk=>i.st w2 ((Jg.of_below hb).trans' hk),i.ok,i.sh,i.near,i.pot,i.wr,i.s.on hb,i.g,i.m,i.o⟩
theorem Jnj.fetch {X:Kx} {root h:Nat} {T:Tx} {n:Nat} {v:Vt} {lo hi:List UInt8} {sb:Nat} {slo shi:List UInt8} {most:Int} {outs:List Ent} {oa:Option Addr} {oc:Nat} {above:List Upd} {w:World} (i:Jnj X root h T n v lo hi sb slo shi most outs oa oc above w) (hh:Int) (hhn:hh=(n:Int)+1):
  Calls Tryz.prog 50 #[.pointer (some ⟨X.tb,0,none⟩),.pointer (some ⟨v.b,0,none⟩),.int .i64 hh] w fun e w'=>Jrg X root h T sb slo shi most outs oa oc n lo hi v w e w':=
 Jqy hh w hhn i.c i.st i.ok i.sh i.near (by have:=i.pot;omega) i.wr i.s
theorem Jng (most:Int) (slo shi:List UInt8) (outs l:List Ent) (h1:most<=1000) (h2:outs.length<=1000):(Zp most slo shi outs l).length<=1000:=by
 have:=Jg8 most (l.filter (inB slo shi)) outs
 unfold Zp
 omega
open Go.RowKit
attribute [local go_sem ↓] Go.wp_at_zero Go.wp_at_succ
theorem JfM:∀(l:List Chd) (i:Nat) (c:Chd) (hi:i<l.length),c.low=l[i].low->cellsC (l.set i c)=(((cellsC l).set (i*4+1) (.int .i64 c.addr)).set (i*4+2) (.int .u64 c.gen)).set (i*4+3) (.int .u32 c.sum)
 |[],i,c,h,_=>by simp at h
 |x::l,0,c,_,e=>by
  have e':c.low=x.low:=e
  simp[cellsC,Chd.cells,e']
 |x::l,i+1,c,h,e=>by
  have ih:=JfM l i c (by simpa using h) (by simpa using e)
  have e2:∀y:Chd,∀m:List Chd,cellsC (y::m)=Chd.cells y++cellsC m:=fun y m=>rfl
  rw[List.set_cons_succ,e2,ih,e2]
  simp[Chd.cells,Nat.add_mul,show∀k,i*4+4+k=i*4+k+4 by omega]
theorem Jg3:∀(l:List Chd) (i:Nat) (hi:i<l.length) (k:Nat),k<4->(Chd.cells l[i])[k]? =(cellsC l)[i*4+k]?
 |[],i,h,_,_=>by simp at h
 |x::l,0,_,k,hk=>by
  show(Chd.cells x)[k]? =(Chd.cells x++cellsC l)[0*4+k]?
  rw[Nat.zero_mul,Nat.zero_add,List.getElem?_append_left (by simpa[Chd.cells] using hk)]
 |x::l,i+1,h,k,hk=>by
  have hi':i<l.length:=by simpa using h
  have ih:=Jg3 l i hi' k hk
  show(Chd.cells (l[i]'hi'))[k]? =(Chd.cells x++cellsC l)[(i+1)*4+k]?
  rw[ih,List.getElem?_append_right (by simp[Chd.cells];omega)]
  congr 1
  simp[Chd.cells]
  omega
theorem JnD (c:Chd) (k:Option Pt):(Jf1 c k).low=c.low:=by cases k<;>rfl
theorem JpM (n:Nat) (v:Vt) (s:Sf) (j:Nat) (hj:j<v.ch.length):((csA n v s j)[j]'(by rw[JhR];exact hj)).low=v.ch[j].1.low:=by
 have hl:((svK (sv n) (v.ch.take j) s).1.map Prod.fst).length=j:=by rw[List.length_map,Jen,List.length_take];omega
 have h1:(csA n v s j)[j]? =some v.ch[j].1:=by
  unfold csA
  rw[List.getElem?_append_right (by omega),hl,Nat.sub_self,List.drop_eq_getElem_cons hj]
  rfl
 rw[List.getElem?_eq_getElem (by rw[JhR];exact hj)] at h1
 rw[Option.some.inj h1]
theorem Jpo {w wr:World} {vb db sb mb:Nat} {s:Sf} {wr0 n:Nat} {lo hi:List UInt8} {v:Vt} (h:JfS w vb db sb mb s wr0 (n+1) lo hi v) (hk:v.kn=none) (j:Nat) (hj:j<v.ch.length) (hst:XX wr vb db sb mb (svK (sv n) (v.ch.take j) s).2 wr0) (hkp:Jg (S4 sb mb db) w wr):
  ∃lo' hi',JfS wr vb db sb mb (svK (sv n) (v.ch.take j) s).2 wr0 n lo' hi' v.ch[j].2:=by
 have hd:Ye (n+1) v=1+Yf (Ye n) v.ch:=by unfold Ye;rw[hk];rfl
 have h1:=h.gen
 have h2:=h.nn
 rw[hd] at h1 h2
 have hx:v.ch[j]∈v.ch:=List.getElem_mem hj
 have hsum:Yf (Ye n) (v.ch.take j)+Ye n v.ch[j].2<=Yf (Ye n) v.ch:=by
  have e:v.ch=v.ch.take j++v.ch[j]::v.ch.drop (j+1):=by
   have:=List.take_append_drop j v.ch
   rw[List.drop_eq_getElem_cons hj] at this
   exact this.symm
  have e2:Yf (Ye n) v.ch=Yf (Ye n) (v.ch.take j)+(Ye n v.ch[j].2+Yf (Ye n) (v.ch.drop (j+1))):=by
   conv=>lhs;rw[e]
   rw[JB,Jo]
  omega
 obtain⟨-,-,new,m1,-,m3⟩:=Jhj (fun lo hi v s=>JeM n lo hi v s) (v.ch.take j) s (fun x hx=>by
  have hx':=List.mem_of_mem_take hx
  obtain⟨i,hi',e⟩:=List.getElem_of_mem hx'
  obtain⟨lo',hi'',k1,-⟩:=Jbt h.i.ok i hi'
  rw[e] at k1
  exact⟨⟨lo',hi'',k1⟩,h.i.shf.2 x hx',h.i.ps.2 x hx',h.few.2.2 x hx',(h.i.ok.2.2.2.1 x hx').1⟩) h.i.win (by omega)
 obtain⟨lo',hi',k1,-⟩:=Jbt h.i.ok j hj
 have hm:=(h.m.node (h.m.dirty hk)).2 _ hx
 have g1:=m1.gen
 have g2:=m1.nn
 exact⟨lo',hi',hst,hm.sv4 h.st hkp,⟨k1,JbN m1.ext n _ (h.i.shf.2 _ hx),m1.win h.i.win,h.i.ps.2 _ hx,by omega⟩,h.few.2.2 _ hx,by omega,by omega,Jal h.pot hx⟩
theorem XX.keepG {w w':World} {vb db sb mb:Nat} {s:Sf} {wr g:Nat} {cur:List Value} (h:XX w vb db sb mb s wr) (hk:Jg (fun x=>x=g) w w') (hr:Jc w 179 g cur):XX w' vb db sb mb s wr:=
 ⟨⟨hk.row h.sv.row fun e=>by
  have e':vb=g:=e
  have:=h.sv.row
  rw[e'] at this
  exact absurd (this.one hr).1 (by decide)⟩,h.dn.keep hk (fun e=>by
  have e':db=g:=e
  exact h.dn.noRow (by rw[e'];exact hr)) (fun x ⟨cu,hx⟩ e=>by
  have e':x=g:=e
  rw[e'] at hx
  exact absurd (hx.one hr).1 (by decide)),h.sh.keep hk (fun e=>by
  have e':sb=g:=e
  have:=h.sh.row
  rw[e'] at this
  exact absurd (this.one hr).1 (by decide)) (fun e=>by
  have e':mb=g:=e
  exact h.sh.noMap (by rw[e'];exact hr)),h.ne⟩
theorem Jo9 (n:Nat) (IH:JoR n) {w:World} {vb db sb mb:Nat} {s:Sf} {wr0:Nat} {lo hi:List UInt8} {v:Vt} (h:JfS w vb db sb mb s wr0 (n+1) lo hi v) (hk:v.kn=none):
  Calls Tryz.prog 80 #[.pointer (some ⟨vb,0,none⟩),.pointer (some ⟨v.b,0,none⟩)] w fun e w'=>e=.returned (.tuple #[.string (S (Yn ((svK (sv n) v.ch s).1.map Prod.fst) v.us)),.int .i64 0])/\XX w' vb db sb mb (svK (sv n) v.ch s).2 wr0/\JaM w' v.b/\Jg (S4 sb mb db) w w':=by
 have hld:=h.m.dirty hk
 obtain⟨⟨-,pa,pg,ps,a1,x1,a2,x2,a3,x3,hv,-,hnd,hkd⟩,-⟩:=h.m.node hld
 have hchl:=h.few.1
 have hch0:0<v.ch.length:=List.length_pos_iff.2 h.i.ok.okk.ne
 obtain⟨nk,hnk⟩:∃nk,nk=v.ch.length:=⟨_,rfl⟩
 obtain⟨ul,hul⟩:∃ul,ul=v.us.length:=⟨_,rfl⟩
 have HNK:=Lib.hid (And.intro hnk hul)
 rw[<-hnk,<-hul] at hv
 rw[<-hnk] at hch0 hchl
 have HH:=Lib.hid (And.intro h (And.intro hk (And.intro hld (And.intro hnd hkd))))
 have HV:=Lib.hid hv
 have HIH:=Lib.hid IH
 have hnode:=((JeM (n+1) lo hi v s h.i h.few).shf.1 _ (by rw[Z8 hk])).2.1
 rw[Z8 hk] at hnode
 have HNO:=Lib.hid (show YR ((svK (sv n) v.ch s).1.map Prod.fst) v.us from hnode)
 have c6:=hv.c6
 have c7:=hv.c7
 clear hnk hul h hk hld hnd hkd hv IH hnode
 go_enter Tryz.func80,Tryz.ntmps80
 go_upto_region 2 with(fail)
 obtain⟨ab,hab⟩:∃ab,ab=w.heap.size:=⟨_,rfl⟩
 obtain⟨W,hW⟩:∃W,W=w.alloc (.cells #[.slice a1 nk x1,.slice a2 ul x2] 105):=⟨_,rfl⟩
 have hXW:Below w.heap.size w W:=by rw[hW];go_grown
 have HB:=Lib.hid (show Jc W 105 ab [.slice a1 nk x1,.slice a2 ul x2] by rw[hW,hab];exact Jc.new w _ [.slice a1 nk x1,.slice a2 ul x2])
 rw[<-hW,<-hab]
 have HAB:=Lib.hid hab
 clear hW c6 c7 hab
 have b0:W.cell? ⟨ab,0,none⟩=some (.slice a1 nk x1):=HB.out.cell 0
 have bf0:=HB.out.frozen 0
 have HCL:=Lib.hid (show Calls Tryz.prog 107 #[.slice a1 nk x1] W fun e w'=>(∃v',e=.returned v'/\w'.ownsRow W.heap.size 179 4 v' nk (cellsC v.cs))/\Below W.heap.size W w' by
  have h1:=(HH.out.2.2.2.1.kept hXW (Nat.le_refl _)).parts.1
  rw[<-HNK.out.1] at h1
  have h2:=JhV (.slice a1 nk x1) v.cs W h1 (by rw[List.length_map,<-HNK.out.1];omega)
  rw[List.length_map,<-HNK.out.1] at h2
  exact h2)
 go_wp2_with fail
 refine HCL.out.mono ?_
 rintro e w2 ⟨⟨v',rfl,hown⟩,hX2⟩
 obtain⟨ga,gc,rfl⟩:=Jm hown
 obtain⟨g,rfl,hgW,hg2,-⟩:=Ym hown hch0
 have HB2:=Lib.hid (HB.out.on hX2)
 have HOW:=Lib.hid hown
 have b0:w2.cell? ⟨ab,0,none⟩=some (.slice a1 nk x1):=HB2.out.cell 0
 have bf0:=HB2.out.frozen 0
 have habW:ab<W.heap.size:=HB.out.lt
 have hX02:=hXW.trans (hX2.mono hXW.size)
 clear hown hX2
 go_upto_region 3 with(fail)
 obtain⟨W3,hW3⟩:∃W3,W3=w2.setCell ⟨ab,0,none⟩ (.slice (some ⟨g,0,none⟩) nk gc):=⟨_,rfl⟩
 have HX3:=Lib.hid (show Below w.heap.size w W3 by rw[hW3];exact hX02.setCell (by show w.heap.size<=ab;rw[HAB.out];exact Nat.le_refl _) _)
 have HB3:=Lib.hid (show Jc W3 105 ab [.slice (some ⟨g,0,none⟩) nk gc,.slice a2 ul x2] by rw[hW3];exact HB2.out.put 0 _)
 have HO3:=Lib.hid (show W3.ownsRow W.heap.size 179 4 (.slice (some ⟨g,0,none⟩) nk gc) nk (cellsC v.cs) by
  rw[hW3]
  exact ownsRow_setCell_other (a:=⟨ab,0,none⟩) HOW.out (fun e=>by have:=Option.some.inj e;dsimp only at this;omega) _)
 rw[<-hW3]
 clear hW3 b0 bf0 HB2 HOW hX02 hXW
 have HV3:=Lib.hid (HV.out.on HX3.out)
 have c8:=HV3.out.c8
 have HST3:=Lib.hid (HH.out.1.st.on HX3.out)
 have hgw:w.heap.size<=g:=Nat.le_trans (by have:=HAB.out;omega) hgW
 have hgab:g≠ab:=by omega
 go_wp2_with fail
 go_loopw [24] (fun i wr=>∃j:Nat,i=.int .i64 j/\j<=nk/\Hid (XX wr vb db sb mb (svK (sv n) (v.ch.take j) s).2 wr0/\Jg (S4 sb mb db) w wr/\wr.ownsRow W.heap.size 179 4 (.slice (some ⟨g,0,none⟩) nk gc) nk (cellsC (csA n v s j))/\Jc wr 105 ab [.slice (some ⟨g,0,none⟩) nk gc,.slice a2 ul x2])) (fun i _=>nk- (intOf i).toNat)
 case atStart=>exact⟨0,rfl,Nat.zero_le _,Lib.hid ⟨HST3.out,Jg.of_below HX3.out,HO3.out,HB3.out⟩⟩
 case round=>
  obtain⟨j,rfl,hj,HR⟩:=hrel
  have hj0:(0:Int)<=(j:Int):=Int.natCast_nonneg _
  by_cases hjl:j<nk
  ·have hj1:(j:Int)<(nk:Int):=by omega
   have hkl:j<v.ch.length:=by rw[<-HNK.out.1];exact hjl
   obtain⟨x,hx⟩:∃x,x=v.ch[j]:=⟨_,rfl⟩
   obtain⟨hst,hkp,hown,hbox⟩:=HR.out
   have hkr:wr.ownsRow 0 97 1 (.slice a3 nk x3) nk ((v.ch.map fun x=>x.2.b).map vp):=by
    have h0:ZG wr (.slice a3 v.ch.length x3) (v.ch.map fun x=>x.2.b):=ZG.keepT HH.out.2.2.2.2 hkp fun y cur hr q=>(HH.out.1.st.soft y q).row cur hr
    have h1:wr.ownsRow 0 97 1 (.slice a3 v.ch.length x3) (v.ch.map fun x=>x.2.b).length ((v.ch.map fun x=>x.2.b).map vp):=h0
    rw[List.length_map,<-HNK.out.1] at h1
    exact h1
   obtain⟨g3,rfl,-,-,hgc⟩:=Ym hkr (by omega)
   have r0:wr.cell? ⟨g3,j,none⟩=some (.pointer (some ⟨x.2.b,0,none⟩)):=by
    have:=hgc j (vp x.2.b) (by rw[List.getElem?_map,List.getElem?_map,List.getElem?_eq_getElem hkl,hx];rfl)
    simpa using this
   obtain⟨lo',hi',hpre⟩:=Jpo HH.out.1 HH.out.2.1 j hkl hst hkp
   rw[<-hx] at hpre
   have HCA:=Lib.hid (HIH.out wr vb db sb mb _ wr0 lo' hi' x.2 hpre)
   have HSN:=Lib.hid (show(svK (sv n) (v.ch.take (j+1)) s).2=(sv n v.ch[j].2 (svK (sv n) (v.ch.take j) s).2).2 by rw[List.take_succ_eq_append_getElem hkl,JeN])
   have HST:=Lib.hid (Jow n v s j hkl)
   have HLW:=Lib.hid (JpM n v s j hkl)
   rw[<-hx] at HSN HST HLW
   clear hst hkp hown hbox hkr hgc hpre hx
   go_wp2_with fail
   refine HCA.out.mono ?_
   rintro e w7 ⟨p,hp,rfl,hst7,hk7⟩
   have HR7:=Lib.hid (And.intro hst7 (And.intro (HR.out.2.1.trans' hk7) (And.intro (Zm HR.out.2.2.1 hk7 (fun y e q=>by
    obtain⟨cur,hc⟩:=Jr HR.out.2.2.1 y e
    exact HR.out.1.row hc (by decide) q)) (hk7.row HR.out.2.2.2 (HR.out.1.row HR.out.2.2.2 (by decide))))))
   have HP:=Lib.hid hp
   clear hst7 hk7 hp r0
   go_upto_region 9 with(fail)
   obtain⟨W8,hW8⟩:∃W8,W8=w7.alloc (.cells #[.int .i64 p.a,.int .u64 p.g,.int .u32 p.s] 54):=⟨_,rfl⟩
   have hX8:Below w7.heap.size w7 W8:=by rw[hW8];go_grown
   have HP8:=Lib.hid (show Jc W8 54 w7.heap.size [.int .i64 p.a,.int .u64 p.g,.int .u32 p.s] by rw[hW8];exact Jc.new w7 _ [.int .i64 p.a,.int .u64 p.g,.int .u32 p.s])
   have HR8:=Lib.hid (And.intro (HR7.out.1.on hX8) (And.intro (HR7.out.2.1.on hX8) (And.intro (Jk HR7.out.2.2.1 hX8) (HR7.out.2.2.2.on hX8))))
   rw[<-hW8]
   clear hW8 hX8
   have p0:W8.cell? ⟨w7.heap.size,0,none⟩=some (.int .i64 p.a):=HP8.out.cell 0
   have p1:W8.cell? ⟨w7.heap.size,1,none⟩=some (.int .u64 p.g):=HP8.out.cell 1
   have p2:W8.cell? ⟨w7.heap.size,2,none⟩=some (.int .u32 p.s):=HP8.out.cell 2
   have b0:W8.cell? ⟨ab,0,none⟩=some (.slice (some ⟨g,0,none⟩) nk gc):=HR8.out.2.2.2.cell 0
   obtain⟨gg,eg,-,-,hcs⟩:=Ym HR8.out.2.2.1 hch0
   obtain rfl:g=gg:=by injection eg with eg;injection eg
   have hjc:j<(csA n v s j).length:=by rw[JhR];exact hkl
   have hcell:∀k u,(Chd.cells (csA n v s j)[j])[k]? =some u->W8.cell? ⟨g,j*4+k,none⟩=some u:=fun k u hu=>hcs (j*4+k) u (by rw[<-Jg3 (csA n v s j) j hjc k (by have:=(List.getElem?_eq_some_iff.1 hu).1;simpa[Chd.cells] using this)];exact hu)
   have q1:=hcell 1 _ rfl
   have q2:=hcell 2 _ rfl
   have q3:=hcell 3 _ rfl
   have ff:=Jkv HR8.out.2.2.1
   have f1:=ff (j*4+1)
   have f2:=ff (j*4+2)
   have f3:=ff (j*4+3)
   clear hcs hcell ff eg
   go_wp2_with fail
   obtain⟨W9,hW9⟩:∃W9,W9=((W8.setCell ⟨g,j*4+1,none⟩ (.int .i64 p.a)).setCell ⟨g,j*4+1+1,none⟩ (.int .u64 p.g)).setCell ⟨g,j*4+1+2,none⟩ (.int .u32 p.s):=⟨_,rfl⟩
   have hKg:Jg (fun x=>x=g) W8 W9:=by
    rw[hW9]
    exact(((Jg.refl (fun x=>x=g) W8).setCell ⟨g,j*4+1,none⟩ (Or.inl rfl) _).setCell ⟨g,j*4+1+1,none⟩ (Or.inl rfl) _).setCell ⟨g,j*4+1+2,none⟩ (Or.inl rfl) _
   have hown9:W9.ownsRow W.heap.size 179 4 (.slice (some ⟨g,0,none⟩) nk gc) nk (cellsC (csA n v s (j+1))):=by
    rw[hW9,HST.out,HP.out,JfM _ j _ hjc (by rw[JnD];exact HLW.out.symm)]
    exact Jhx (Jhx (Jhx HR8.out.2.2.1 (j*4+1) _) (j*4+2) _) (j*4+3) _
   obtain⟨cur,hcur⟩:=Jr HR8.out.2.2.1 g rfl
   have hst9:=HR8.out.1.keepG hKg hcur
   rw[<-HSN.out] at hst9
   have HR9:=Lib.hid (And.intro hst9 (And.intro (HR8.out.2.1.trans hKg (fun y e=>Or.inr (by rw[show y=g from e];exact hgw))) (And.intro hown9 (hKg.row HR8.out.2.2.2 (fun e=>hgab e.symm)))))
   rw[<-hW9]
   clear hW9 hKg hown9 hcur hst9
   exact⟨⟨j+1,by go_num,by omega,HR9⟩,by simp[intOf];omega⟩
  ·obtain rfl:j=nk:=by omega
   obtain⟨hst,hkp,hown,hbox⟩:=HR.out
   have e1:v.ch.take j=v.ch:=by rw[HNK.out.1,List.take_length]
   have e2:csA n v s j=(svK (sv n) v.ch s).1.map Prod.fst:=by rw[HNK.out.1];exact JpN n v s
   rw[e1] at hst
   rw[e2] at hown
   have hsl:SlU wr (.slice a2 ul x2) v.us:=by
    have h0:=HH.out.2.2.2.1.parts.2
    rw[<-HNK.out.2] at h0
    exact h0.keep hkp fun y q=>(HH.out.1.st.soft y q).str
   have HNA:=Lib.hid (JA.mk' (JbM hown).2 hsl)
   have HE:=Lib.hid (show XX wr vb db sb mb (svK (sv n) v.ch s).2 wr0/\JaM wr v.b/\Jg (S4 sb mb db) w wr from⟨hst,⟨_,hkp.row HV.out.row (HH.out.1.st.row HV.out.row (by decide))⟩,hkp⟩)
   have b0:wr.cell? ⟨ab,0,none⟩=some (.slice (some ⟨g,0,none⟩) j gc):=hbox.cell 0
   have b1:wr.cell? ⟨ab,1,none⟩=some (.slice a2 ul x2):=hbox.cell 1
   obtain⟨hn1,hn2,hn3,hn4⟩:=HNO.out
   have HTX:=Lib.hid (JiZ _ ((svK (sv n) v.ch s).1.map Prod.fst) v.us wr HNA.out ⟨by have:=hn1.len.2;omega,by omega,fun c hc=>⟨⟨by have:=(hn1.ok c hc).addr;omega,by have:=(hn1.ok c hc).addr;omega⟩,(hn1.ok c hc).gen,(hn1.ok c hc).sum⟩,fun c hc=>by have:=(hn1.ok c hc).low;omega,fun u hu=>(hn3 u hu).wf⟩ ⟨hn1,hn2,hn3⟩)
   clear hst hkp hown hbox e1 e2 hsl hn1 hn2 hn3 hn4
   go_upto_region 11 with(fail)
   go_wp2_with fail
   refine HTX.out.mono ?_
   rintro e w5 ⟨rfl,hX5⟩
   obtain⟨cur,hcur⟩:=HE.out.2.1
   have HE5:=Lib.hid (show XX w5 vb db sb mb (svK (sv n) v.ch s).2 wr0/\JaM w5 v.b/\Jg (S4 sb mb db) w w5 from⟨HE.out.1.on hX5,⟨cur,hcur.on hX5⟩,HE.out.2.2.on hX5⟩)
   clear hX5 b0 b1 hcur
   go_wp2_with fail
   go_returns
   exact⟨rfl,HE5.out⟩
theorem Jnv:∀n,JoR n
 |0=>Jpa
 |n+1=>fun w vb db sb mb s wr lo hi v h=>by
  cases hk:v.kn with
  |some p=>exact Jip h hk
  |none=>
   obtain⟨⟨-,pa,pg,ps,a1,x1,a2,x2,a3,x3,hv,-,-,-⟩,-⟩:=h.m.node (h.m.dirty hk)
   rw[hk] at hv
   have hd:Ye (n+1) v=1+Yf (Ye n) v.ch:=by unfold Ye;rw[hk];rfl
   have h1:=h.gen
   have h2:=h.nn
   obtain⟨-,-,new,m1,-,m3⟩:=Jhj (fun lo hi v s=>JeM n lo hi v s) v.ch s (fun x hx=>by
    obtain⟨i,hi',e⟩:=List.getElem_of_mem hx
    obtain⟨lo',hi'',k1,-⟩:=Jbt h.i.ok i hi'
    rw[e] at k1
    exact⟨⟨lo',hi'',k1⟩,h.i.shf.2 x hx,h.i.ps.2 x hx,h.few.2.2 x hx,(h.i.ok.2.2.2.1 x hx).1⟩) h.i.win (by omega)
   have g1:=m1.gen
   have g2:=m1.nn
   refine(JdX (s1:=(svK (sv n) v.ch s).2) (wr:=wr) 5 (Yn ((svK (sv n) v.ch s).1.map Prod.fst) v.us) w hv h.st.sv (m1.win h.i.win) (by omega) (by omega) (Or.inr ⟨List.length_pos_iff.2 h.i.ok.okk.ne,rfl,fun w1 hb1=> ?_⟩) h.st.lt).mono ?_
   ·have h':JfS w1 vb db sb mb s wr (n+1) lo hi v:=⟨h.st.on hb1,h.m.on hb1,h.i,h.few,h.gen,h.nn,h.pot⟩
    exact Jo9 n (Jnv n) h' hk
   ·rintro e w' ⟨rfl,hst,hkp⟩
    exact⟨⟨fre (svK (sv n) v.ch s).2,(svK (sv n) v.ch s).2.gen+1,0⟩,by rw[Z8 hk];rfl,rfl,by rw[Z8 hk];exact hst,hkp⟩
end Go.Proofs.YtafciefjlkdecaaGreat
namespace Go.Proofs.YtafciefjlkdecaaGreat
open Go.RowKit Go.Maps Go.Sort Go.Shelf
set_option linter.unusedVariables false
attribute [local go_sem] Oper.semAt_some
theorem Jj1 (F:Fence) (n:Nat) (h8:F.fn 83) (hro:F.round=none) (hn:1<=n) (l Bs n₀ b off cap:Nat) (zs:List Int) (hreach:zs.length<=2000000) (hb:b<n₀) (J Jx:List Int->World->Prop)
  (hY:∀pre x W,J pre W->pre.length<zs.length->YieldAt F (n-1) Tryz.prog l #[.int .i64 x] W fun e W'=>
   (e=.returned (.bool true)/\J (pre++[x]) W'/\Below n₀ W W')\/(e=.returned (.bool false)/\Jx (pre++[x]) W'))
  (W:World) (hBs:W.cell? ⟨Bs,0,none⟩=some (.slice (some ⟨b,off,none⟩) zs.length cap)) (hc:∀j,j<zs.length->W.cell? ⟨b,off+j,none⟩=some (.int .i64 (zs[j]?.getD 0))) (h0:J [] W):
  CallsIn F n Tryz.prog 83 #[.func (.yield l) #[] #[],.pointer (some ⟨Bs,0,none⟩)] W fun e W'=>(∃v,e=.returned v)/\
   ((∃ys,ys=zs/\J ys W')\/(∃pre,pre<+:zs/\Jx pre W')):=by
 refine callsIn_of_wp Tryz.func83 rfl h8 ?_ hro
 simp only[Tryz.ntmps83,List.size_toArray,List.length_cons,List.length_nil,Nat.reduceAdd,Nat.reduceSub,Array.replicate_succ,Array.replicate_zero,List.push_toArray,List.append_toArray,List.nil_append,List.cons_append]
 gi_wp2
 gi_loopw [7] (fun i wr=>∃k:Nat,k<=zs.length/\i=.int .i64 k/\J (zs.take k) wr/\Below n₀ W wr)
  (fun i _=>zs.length- (intOf i).toNat)
 case atStart=>exact⟨0,Nat.zero_le _,rfl,h0,Below.refl _ _⟩
 case round=>
  obtain⟨k,hk,rfl,hJs,hnx⟩:=hrel
  by_cases hlt:k<zs.length
  ·have hcx':wr.cell? ⟨b,off+k,none⟩=some (.int .i64 (zs[k]?.getD 0)):=(hnx.cell (p:=⟨b,off+k,none⟩) hb).trans (hc k hlt)
   obtain⟨x,hx⟩:∃x,x=zs[k]?.getD 0:=⟨_,rfl⟩
   have htk:=Lib.hid (show zs.take k++[x]=zs.take (k+1) by rw[hx,List.take_succ_eq_append_getElem hlt,List.getElem?_eq_getElem hlt];rfl)
   rw[<-hx] at hcx'
   clear hx
   obtain⟨fn,tmps,assign,body,hy,hR⟩:=hY _ x wr hJs (by rw[List.length_take];omega)
   gi_wp2
   refine hR.mono ?_
   rintro e W3 (⟨rfl,hJ3,hk3⟩|⟨rfl,hJx3⟩)
   ·gi_wp2
    go_roundw
    case rel=>exact⟨k+1,by omega,by simp,by rw[<-htk.out];exact hJ3,hnx.trans hk3⟩
    case measure=>simp[intOf];omega
   ·gi_wp2
    refine bodyPost_ret (results_none rfl _ _ _) rfl ?_
    exact⟨⟨_,rfl⟩,.inr ⟨_,by rw[htk.out];exact List.take_prefix _ _,hJx3⟩⟩
  ·obtain rfl:k=zs.length:=by omega
   gi_wp2
   go_end0
   exact⟨⟨_,rfl⟩,.inl ⟨zs,rfl,by rw[List.take_length] at hJs;exact hJs⟩⟩
def Jei (n₀:Nat) (W:World) (sv:Value) (zs:List Int):Prop:=
 (sv=.slice none 0 0/\zs=[])\/∃b off cap,sv=.slice (some ⟨b,off,none⟩) zs.length cap/\b<n₀/\∀j,j<zs.length->W.cell? ⟨b,off+j,none⟩=some (.int .i64 (zs[j]?.getD 0))
theorem Jei.below {n₀:Nat} {A B:World} (h:Below n₀ A B) {sv:Value} {zs:List Int}:Jei n₀ A sv zs->Jei n₀ B sv zs
 | .inl e=>.inl e
 | .inr ⟨b,off,cap,e,hb,hc⟩=>.inr ⟨b,off,cap,e,hb,fun j hj=>(h.cell (p:=⟨b,off+j,none⟩) hb).trans (hc j hj)⟩
theorem Jhf (F:Fence) (n:Nat) (h8:F.fn 83) (hro:F.round=none) (hn:1<=n) (Bs n₀:Nat) (sv:Value) (zs:List Int) (hreach:zs.length<=2000000) (w:World) (hBs:Bs<w.heap.size) (hn₀:n₀<=w.heap.size)
  (hc:w.cell? ⟨Bs,0,none⟩=some sv) (hI:Jei n₀ w sv zs):
  SeqStopsK F n Tryz.prog 83 #[.pointer (some ⟨Bs,0,none⟩)] (fun x:Int=> #[Value.int .i64 x]) (Below n₀) (fun ys=>ys=zs) (fun pre=>pre<+:zs) zs.length w:=fun l J Jx W hW _ _ hY h0=>by
 have hc':=(hW.cell (p:=⟨Bs,0,none⟩) hBs).trans hc
 rcases hI.below (hW.mono hn₀) with⟨rfl,rfl⟩|⟨b,off,cap,rfl,hb,hcs⟩
 ·exact(Jbm F n h8 hro l Bs J W hc' h0).mono fun e W' ⟨he,hj⟩=>⟨he,.inl ⟨_,rfl,hj⟩⟩
 ·exact Jj1 F n h8 hro hn l Bs n₀ b off cap zs hreach hb J Jx hY W hc' hcs h0
theorem Jkc {W W':World} {row:Option Nat} {E:TypeId} {b:Nat} {cur:List Value} (h:Jc W E b cur) (hg:W.grownBy W' row) (hrow:∀r,row=some r->∃o:Obj,W.heap[r]? =some o/\o.isCells=false):Jc W' E b cur:=
 h.kept hg fun e=>by
  obtain⟨o,ho,hc⟩:=hrow b e.symm
  unfold Jc at h
  rw[h] at ho
  cases ho
  cases hc
theorem Jce {W W':World} {row:Option Nat} {B:Nat} {E:TypeId} {k n:Nat} {v:Value} {xs:List Value} (h:W.ownsRow B E k v n xs) (hg:W.grownBy W' row) (hrow:∀r,row=some r->∃o:Obj,W.heap[r]? =some o/\o.isCells=false):W'.ownsRow B E k v n xs:=
 h.kept hg (by
  cases e:v.ownBlock with
  |none=>exact Or.inl rfl
  |some g=>
   refine Or.inr fun e2=> ?_
   obtain⟨o,ho,hc⟩:=hrow g e2.symm
   rcases Jw h with⟨q,-,-⟩|⟨g',cap,cur,q,h1,hr,-⟩
   ·rw[q] at e;simp[Value.ownBlock] at e
   ·rw[q] at e
    simp[Value.ownBlock] at e
    subst e
    unfold Jc at hr
    rw[hr] at ho
    cases ho
    cases hc)
theorem JmH {W:World} {B:Nat} {E:TypeId} {k n:Nat} {v:Value} {xs:List Value} (h:W.ownsRow B E k v n xs) {j:Nat} {o:Obj} (e:v.ownBlock=some j) (ho:W.heap[j]? =some o):o.isCells=true:=by
 rcases Jw h with⟨q,-,-⟩|⟨g',cap,cur,q,h1,hr,-⟩
 ·rw[q] at e;simp[Value.ownBlock] at e
 ·rw[q] at e
  simp[Value.ownBlock] at e
  subst e
  unfold Jc at hr
  rw[hr] at ho
  cases ho
  rfl
theorem JfO (n:Nat) (hn:4<=n) (sv:Value) (zs:List Int) (Bs:Nat) (hl:zs.length<=2000000) (w:World) (hBs:Bs<w.heap.size) (hc:w.cell? ⟨Bs,0,none⟩=some sv) (hI:Jei w.heap.size w sv zs):
  CallsIn Fence.wide n Tryz.prog 109 #[.slice none 0 0,.func (.func 83) #[] #[.pointer (some ⟨Bs,0,none⟩)]] w fun e w'=>∃v,e=.returned v/\
   w'.ownsRow w.heap.size 3 1 v zs.length (zs.map encZ)/\Below w.heap.size w w':=by
 have h1:1<=n:=by omega
 obtain⟨i0,hi,hz0,hz1,hz2⟩:=info_parts Jll.i26
 refine callsIn_of_wp_marks Tryz.func109 rfl trivial ?_ rfl
 simp only[Tryz.ntmps109,List.size_toArray,List.length_cons,List.length_nil,Nat.reduceAdd,Nat.reduceSub,Array.replicate_succ,Array.replicate_zero,List.push_toArray,List.append_toArray,List.nil_append,List.cons_append]
 gi_wp2
 obtain⟨W0,hW0⟩:∃W0,W0=w.alloc (.cells #[.slice none 0 0] 55):=⟨_,rfl⟩
 have hs0:W0.heap.size=w.heap.size+1:=by rw[hW0];simp
 have hB0:Below w.heap.size w W0:=by rw[hW0];exact(Below.refl _ w).alloc (Nat.le_refl _) _
 have hR0:Jc W0 55 w.heap.size [.slice none 0 0]:=by rw[hW0];exact Jc.new w _ _
 rw[<-hW0]
 clear hW0
 refine wpIn_rangeFunc_ownG rfl h1 (gf:=83) (lb:= #[.pointer (some ⟨Bs,0,none⟩)]) rfl trivial (enters_of Tryz.func83 (by kernel_rfl) rfl)
  (Jhf Fence.wide (n-1) trivial rfl (by omega) Bs w.heap.size sv zs hl W0 (by omega) (by omega) ((hB0.cell (p:=⟨Bs,0,none⟩) hBs).trans hc) (hI.below hB0)) belowK_t (belowK_b (by omega)) (Below.refl _ _) (fun _=>rfl)
  (fun pre W=>(∃v,Jc W 55 w.heap.size [v]/\W.ownsRow w.heap.size 3 1 v pre.length (pre.map encZ))/\Below w.heap.size w W)
  (fun _ _ _=>False)
  (OwnFrom.and (Own.from (fun s A B row hs hg hr=>by obtain⟨v,h1,h2⟩:=hs;exact⟨v,Jkc h1 hg hr,Jce h2 hg hr⟩) _) (ownFrom_below (Nat.le_refl _) (by omega)))
  (fun _ _ _ _ _ hs _ _=>hs)
  ⟨⟨.slice none 0 0,hR0,World.ownsRow_nil _ _ _ _⟩,hB0⟩
  (fun x=> {tmps:= #[.slice none 0 0,.func (.func 83) #[] #[.pointer (some ⟨Bs,0,none⟩)],.pointer (some ⟨w.heap.size,0,none⟩),undef,.slice none 0 0,.int .i64 x,.func (.func 83) #[] #[.pointer (some ⟨Bs,0,none⟩)],.int .i64 x,undef,undef,undef,undef,undef],defers:=[]}) ?assign ?body ?done ?stop
 case assign=>
  intro l x W K hK
  gi_wp2
  exact hK
 case body=>
  rintro l pre x W ⟨⟨v,hR,hO⟩,hB⟩ hlt
  have hc0:W.cell? ⟨w.heap.size,0,none⟩=some v:=hR.cell 0
  have hf0:W.frozen? ⟨w.heap.size,0,none⟩=false:=hR.frozen 0
  have hsz:=hB.size
  have hvb:v.ownBlock≠some w.heap.size:=fun e=>by
   rcases Jw hO with⟨q,-,-⟩|⟨g',cap,cur,q,h1,hr,-⟩
   ·rw[q] at e;simp[Value.ownBlock] at e
   ·rw[q] at e
    simp[Value.ownBlock] at e
    subst e
    exact absurd (Jc.one hr hR).1 (by decide)
  gi_wp2_with (gi_at_builtin;refine wpListIn_append_own _ rfl _ _ 55 rfl w.heap.size 3 i0 (.int .i64 0) 1 8 Tryz.underlying55 hi hz0 hz1 hz2 rfl (by decide) _ _ _ rfl (hO.alloc _) ⟨W.heap.size,0,none⟩ 1 1 [encZ x] rfl rfl (cell_one_new _ _ _) (by simp[Value.oneCell',encZ]) (by unfold maxLen;omega) (by omega) (by simp;omega) ?_;intro v' w3 hown' hg3 hnil3;clear hnil3;have hR3:Jc w3 55 w.heap.size [v]:=(hR.on ((Below.refl _ _).alloc (Nat.le_refl _) _)).kept hg3 (fun e=>hvb e.symm);have hc3:w3.cell? ⟨w.heap.size,0,none⟩=some v:=hR3.cell 0;have hf3:w3.frozen? ⟨w.heap.size,0,none⟩=false:=hR3.frozen 0;obtain⟨ga,gc,rfl⟩:=Jm hown';go_frame)
  have hg3':(W.alloc (.cells #[.int .i64 x] 3)).grownBy w3 v.ownBlock:=hg3
  clear hg3
  have hvc:∀(j:Nat) (o:Obj),v.ownBlock=some j->(W.alloc (.cells #[.int .i64 x] 3)).heap[j]? =some o->o.isCells=true:=fun j o e ho=>JmH (hO.alloc _) e ho
  have hB3:Below w.heap.size W w3:=((Below.refl _ W).alloc (by omega) _).grown hg3' (by simp;omega) (fun k e=>(hO.lt k e).1)
  have hgb:(Value.slice ga (pre.length+1) gc).ownBlock≠some w.heap.size:=fun e=>by
   obtain⟨cu,hcu⟩:=Jr hown' w.heap.size e
   exact absurd (Jc.one hcu hR3).1 (by decide)
  refine⟨(((KeepsOthers.alloc W _).trans (KeepsOthers.of_grownBy hg3' hvc)).trans (KeepsOthers.setCell _ _ _)).from _,hB3.setCell (p:=⟨w.heap.size,0,none⟩) (Nat.le_refl _) _,⟨_,hR3.put 0 _,?_⟩,(hB.trans hB3).setCell (p:=⟨w.heap.size,0,none⟩) (Nat.le_refl _) _⟩
  rw[List.length_append,List.map_append]
  exact ownsRow_setCell_other (a:=⟨w.heap.size,0,none⟩) hown' (by first|exact hgb|exact fun e=>hgb e.symm) _
 case done=>
  rintro D ys W hD rfl ⟨⟨v,hR,hO⟩,hB⟩ hK
  have hc0:W.cell? ⟨w.heap.size,0,none⟩=some v:=hR.cell 0
  gi_wp2
  refine⟨by simp,.inl ⟨_,_,rfl,run_takeDeferred hK,?_⟩⟩
  exact⟨_,results_tmp rfl _ _ _,v,rfl,Jce hO (grownBy_putObj' _ D (.deferred none)) (fun r e=>by cases e;exact⟨_,hK,rfl⟩),hB.trans (belowK_b (w:=w) (Nat.le_refl _) W D _ _ (by omega) hK rfl rfl)⟩
 case stop=>
  rintro D c pre W _ _ h _
  exact h.elim
theorem JhS (n:Nat) (hn:5<=n) (sv:Value) (zs:List Int) (Bs:Nat) (hl:zs.length<=2000000) (w:World) (hBs:Bs<w.heap.size) (hc:w.cell? ⟨Bs,0,none⟩=some sv) (hI:Jei w.heap.size w sv zs):
  CallsIn Fence.wide n Tryz.prog 81 #[.func (.func 83) #[] #[.pointer (some ⟨Bs,0,none⟩)]] w fun e w'=>∃v,e=.returned v/\
   w'.ownsRow w.heap.size 3 1 v zs.length (zs.map encZ)/\Below w.heap.size w w':=by
 have h1:1<=n:=by omega
 refine callsIn_of_wp Tryz.func81 rfl trivial ?_ rfl
 simp only[Tryz.ntmps81,List.size_toArray,List.length_cons,List.length_nil,Nat.reduceAdd,Nat.reduceSub,Array.replicate_succ,Array.replicate_zero,List.push_toArray,List.append_toArray,List.nil_append,List.cons_append]
 gi_wp2
 refine⟨trivial,(JfO (n-1) (by omega) sv zs Bs hl w hBs hc hI).mono ?_⟩
 rintro e w' ⟨v,rfl,hO,hB⟩
 obtain⟨ga,gc,rfl⟩:=Jm hO
 gi_wp2
 go_ret
 exact⟨_,rfl,hO,hB⟩
theorem Jih (sv:Value) (zs:List Int) (Bs:Nat) (hl:zs.length<=2000000) (w:World) (hBs:Bs<w.heap.size) (hc:w.cell? ⟨Bs,0,none⟩=some sv) (hI:Jei w.heap.size w sv zs):
  Calls Tryz.prog 45 #[.func (.func 83) #[] #[.pointer (some ⟨Bs,0,none⟩)]] w fun e w'=>∃v,e=.returned v/\
   w'.ownsRow w.heap.size 3 1 v zs.length ((zs.mergeSort fun x y=>decide (x<=y)).map encZ)/\Below w.heap.size w w':=by
 refine(callsIn_wide (n:=9)).1 ?_
 refine callsIn_of_wp Tryz.func45 rfl trivial ?_ rfl
 simp only[Tryz.ntmps45,List.size_toArray,List.length_cons,List.length_nil,Nat.reduceAdd,Nat.reduceSub,Array.replicate_succ,Array.replicate_zero,List.push_toArray,List.append_toArray,List.nil_append,List.cons_append]
 gi_wp2
 refine⟨trivial,(JhS 8 (by omega) sv zs Bs hl w hBs hc hI).mono ?_⟩
 rintro e W ⟨v,rfl,hrow,hb⟩
 have hsort:=Jnz 8
 rcases hrow.2 with⟨rfl,hz⟩|⟨gb,cap,cur,rfl,hbase,hgb,r1,r2,r3,r4⟩
 ·have hss:zs=[]:=List.eq_nil_of_length_eq_zero hz
  subst hss
  gi_wp2
  refine⟨trivial,(hsort.2 none 0 W).mono ?_⟩
  rintro e w' ⟨rfl,rfl⟩
  gi_wp2
  go_ret
  exact⟨.slice none 0 0,rfl,by simpa using hrow,hb⟩
 ·have hH:Holds encZ W gb 0 zs.toArray:=holds_of_block_i hgb (by simpa using r4)
  have hgl:gb<W.heap.size:=(Array.getElem?_eq_some_iff.1 hgb).1
  have hsz:zs.length<4611686018427387904:=by omega
  have cS:=hsort.1 gb 0 cap zs W hH hgl hsz
  gi_wp2
  refine⟨trivial,cS.mono ?_⟩
  rintro e w' ⟨rfl,nn,os,rfl⟩
  gi_wp2
  go_ret
  exact⟨_,rfl,ownsRow_sorted_i (by simp) hbase hgb r1 r2 r3,hb.grown (grownBy_sorted_i _) hb.size (fun j hj=>by cases hj;exact hbase)⟩
end Go.Proofs.YtafciefjlkdecaaGreat
namespace Go.Proofs.YtafciefjlkdecaaGreat
open Go.RowKit
attribute [local go_sem ↓] Go.wp_at_zero Go.wp_at_succ
theorem ZR.ints {w:World} {gv:Value} {gone:List Int} (h:ZR w gv gone):Jei w.heap.size w gv gone:=by
 obtain⟨a,c,rfl⟩:=h.form
 cases gone with
 |nil=>
  rcases Jw h.own with⟨q,-,-⟩|⟨g,cap,cur,q,h1,hr,-⟩
  ·exact Or.inl ⟨q,rfl⟩
  ·refine Or.inr ⟨g,0,c,?_,hr.lt,fun j hj=>by simp at hj⟩
   simp only[Value.slice.injEq] at q
   rw[q.1]
 |cons x l=>
  obtain⟨g,rfl,hg,-,hc⟩:=Ym h.own (by simp)
  obtain⟨cu,hcu⟩:=Jr h.own g rfl
  refine Or.inr ⟨g,0,c,rfl,hcu.lt,fun j hj=> ?_⟩
  rw[Nat.zero_add]
  refine hc j _ ?_
  rw[List.getElem?_map,List.getElem?_eq_getElem hj]
  rfl
theorem Jk2 {tb b sb mb:Nat} {F B L:Int} {h':Int} {fl le:Int} {gv:Value} {gone:List Int} {s1:Sf} {wr:Nat} {p:Pt} (fn:Fn) (xs ys:Array Value) (w:World)
  (ht:Yg w tb F B L (ldV sb) b h' gv fl le) (hgn:ZR w gv gone) (hgl:gone.length<=1000000) (hgs:∀x,gv.ownBlock=some x->x≠sb/\x≠mb/\x≠tb) (hst:sb≠tb) (hmt:mb≠tb) (hz:sb<w.heap.size/\mb<w.heap.size)
  (HS:∀vb db w2,Below w.heap.size w w2->w.heap.size<=vb->w.heap.size<=db->JaK w2 vb (.func fn xs ys) db->YU w2 db->Calls Tryz.prog 44 #[.pointer (some ⟨vb,0,none⟩),.pointer (some ⟨b,0,none⟩)] w2 fun e w3=>e=.returned (.tuple #[ptV p,.int .i64 0])/\Jdg w3 sb mb s1 wr/\Jg (S4 sb mb db) w2 w3):
  Calls Tryz.prog 19 #[.pointer (some ⟨tb,0,none⟩),.func fn xs ys] w fun e w'=>∃gw,e=.returned (.tuple #[ptV p,gw,.int .i64 0])/\w'.ownsRow w.heap.size 3 1 gw gone.length ((gone.mergeSort fun x y=>decide (x<=y)).map fun x=>.int .i64 x)/\Jdg w' sb mb s1 wr/\
   (∃nb,w.heap.size<=nb/\Yg w' tb F B L (ldV sb) nb h' (.slice none 0 0) fl le/\Jq w' nb true p.a p.g p.s false (.slice none 0 0) (.slice none 0 0) (.slice none 0 0) (.slice none 0 0))/\Jg (fun x=>x=sb\/x=mb\/x=tb) w w':=by
 have HSL:=Lib.hid HS
 have hT:=Lib.hid ht
 have HGN:=Lib.hid (And.intro hgn (And.intro hgl hgs))
 have htz:tb<w.heap.size:=ht.lt
 have hsz':=hz.1
 have hmz':=hz.2
 clear ht hgn hgs HS hz hgl
 go_enter Tryz.func19,Tryz.ntmps19
 go_upto_region 1 with(fail)
 obtain⟨W,hW⟩:∃W,W=w.alloc (.cells #[.int .i64 0,.int .u64 0,.int .u32 0] 54):=⟨_,rfl⟩
 have hG:=Lib.hid (show Y7 W 54 w.heap.size [.int .i64 0,.int .u64 0,.int .u32 0] from⟨by rw[hW];exact Jc.new w _ _⟩)
 have hb0:Below w.heap.size w W:=by rw[hW];exact(Below.refl _ w).alloc (Nat.le_refl _) _
 have hWs:W.heap.size=w.heap.size+1:=by rw[hW];simp
 rw[<-hW]
 clear hW
 replace hT:=Lib.hid (hT.out.kept hb0 (Nat.le_refl _))
 have hfe:=Jls fn xs ys W
 have hmm:= @run_makeMap Tryz.prog
 go_upto_region 4 with(fail)
 obtain⟨W2,hW2⟩:∃W2,W2=(W.alloc (.map #[] 0)).alloc (.cells #[.func fn xs ys,.map (some (w.heap.size+1))] 121):=⟨_,rfl⟩
 have hX2:Below W.heap.size W W2:=by rw[hW2];exact((Below.refl _ W).alloc (Nat.le_refl _) _).alloc (by simp) _
 have hd2:=Lib.hid (show YU W2 (w.heap.size+1) by
  rw[hW2]
  have h1:=YU.made W
  rw[hWs] at h1
  exact h1.on ((Below.refl _ _).alloc (Nat.le_refl _) _))
 have hsv2:=Lib.hid (show JaK W2 (w.heap.size+2) (.func fn xs ys) (w.heap.size+1) from⟨by
  rw[hW2]
  exact Jc.new' _ _ _ _ (by simp;omega)⟩)
 have hW2s:W2.heap.size=w.heap.size+3:=by rw[hW2];simp;omega
 rw[<-hW2]
 clear hW2 hfe hmm
 have hG2:=Lib.hid (hG.out.on hX2)
 have hT2:=Lib.hid (hT.out.on hX2)
 have hb2:=hb0.trans (hX2.mono (by omega))
 clear hG hT hb0 hX2
 have c4:=hT2.out.c4
 have HCS:=Lib.hid (HSL.out _ _ W2 hb2 (by omega) (by omega) hsv2.out hd2.out)
 clear HSL hsv2 hd2
 go_wp2_with fail
 refine HCS.out.mono ?_
 rintro e w3 ⟨rfl,hs3,hK3⟩
 have hn4:∀x,x<w.heap.size->x≠sb->x≠mb->¬S4 sb mb (w.heap.size+1) x:=fun x h1 h2 h3 q=>by
  rcases q with q|q|q
  ·exact h2 q
  ·exact h3 q
  ·omega
 have hG3:=Lib.hid (hG2.out.keep hK3 (fun q=>by unfold S4 at q;omega))
 have hT3:=Lib.hid (show Yg w3 tb F B L (ldV sb) b h' gv fl le from⟨hK3.row hT2.out.row (hn4 tb htz (fun e=>hst e.symm) (fun e=>hmt e.symm))⟩)
 have HGN3:=Lib.hid (show ZR w3 gv gone from(HGN.out.1.on hb2).keep hK3 fun x hx=>hn4 x (HGN.out.1.soft x hx).2 (HGN.out.2.2 x hx).1 (HGN.out.2.2 x hx).2.1)
 have HS3:=Lib.hid hs3
 have hKa:=((Jg.of_below (S:=fun x=>x=sb\/x=mb\/x=tb) hb2)).trans hK3 (fun x hx=>by
  rcases hx with q|q|q
  ·exact Or.inl (Or.inl q)
  ·exact Or.inl (Or.inr (Or.inl q))
  ·exact Or.inr (by omega))
 have hw3s:w.heap.size+3<=w3.heap.size:=by have:=hK3.size;omega
 clear hs3 hK3 hG2 hT2 hb2 c4 HCS hn4
 go_upto_region 5 with(fail)
 obtain⟨W4,hW4⟩:∃W4,W4=w3.alloc (.cells #[.int .i64 p.a,.int .u64 p.g,.int .u32 p.s] 54):=⟨_,rfl⟩
 have hX4:Below w3.heap.size w3 W4:=by rw[hW4];exact(Below.refl _ w3).alloc (Nat.le_refl _) _
 have hP4:=Lib.hid (show Y7 W4 54 w3.heap.size [.int .i64 p.a,.int .u64 p.g,.int .u32 p.s] from⟨by rw[hW4];exact Jc.new w3 _ _⟩)
 have hW4s:w3.heap.size+1<=W4.heap.size:=by rw[hW4];simp
 rw[<-hW4]
 clear hW4
 have hG4:=Lib.hid (hG3.out.on hX4)
 have hT4:=Lib.hid (hT3.out.on hX4)
 have HS4:=Lib.hid (show Jdg W4 sb mb s1 wr from HS3.out.on hX4)
 have HGN4:=Lib.hid (HGN3.out.on hX4)
 have hK4:=hKa.on hX4
 clear hG3 hT3 HS3 hKa hX4 HGN3
 obtain⟨ga,gc,hgv⟩:=HGN4.out.form
 subst hgv
 obtain⟨gn,hgnl⟩:∃gn,gn=gone.length:=⟨_,rfl⟩
 have HGL:=Lib.hid hgnl
 rw[<-hgnl] at HGN4 hT4 HGN
 clear hgnl
 have c6:=hT4.out.c6
 go_wp2_with fail
 refine(JeA ga gn gc W4).mono ?_
 rintro e w5 ⟨rfl,hw5⟩
 have hX5:Below W4.heap.size W4 w5:=by rw[hw5];exact(Below.refl _ W4).alloc (Nat.le_refl _) _
 have HSO:=Lib.hid (Jih (.slice ga gn gc) gone W4.heap.size (by have:=HGN.out.2.1;have:=HGL.out;omega) w5 (by rw[hw5];simp) (by rw[hw5];simp) (by
  have h1:=HGN4.out.ints.below hX5
  rcases h1 with q|⟨x,off,cap,q1,q2,q3⟩
  ·exact Or.inl q
  ·exact Or.inr ⟨x,off,cap,q1,by have:=hX5.size;omega,q3⟩))
 clear hw5
 go_wp2_with fail
 refine HSO.out.mono ?_
 rintro e w6 ⟨gw,rfl,hgw,hX6⟩
 obtain⟨wa,wc,rfl⟩:=Jm hgw
 rw[<-HGL.out] at hgw
 have hX46:Below W4.heap.size W4 w6:=hX5.trans (hX6.mono hX5.size)
 have hG6:=Lib.hid (hG4.out.on hX46)
 have hT6:=Lib.hid (hT4.out.on hX46)
 have HS6:=Lib.hid (show Jdg w6 sb mb s1 wr from HS4.out.on hX46)
 have hP6:=Lib.hid (hP4.out.on hX46)
 have hK6:=hK4.on hX46
 have hw6:w3.heap.size+1<=w6.heap.size:=by have:=hX46.size;omega
 have hw5z:w3.heap.size+1<=w5.heap.size:=by have:=hX5.size;omega
 have hgwt:(Value.slice wa gn wc).ownBlock≠some tb:=fun e=>by have:=(hgw.lt tb e).1;omega
 have hgw0:(Value.slice wa gn wc).ownBlock≠some w.heap.size:=fun e=>by have:=(hgw.lt w.heap.size e).1;omega
 rw[<-HGL.out]
 have HGW:=Lib.hid hgw
 clear hG4 hT4 HS4 hP4 hK4 hX6 hX5 c6 hX46 HSO hgw
 have tf4:=hT6.out.fz 4
 have tf6:=hT6.out.fz 6
 have c6:=hT6.out.c6
 have c4:=hT6.out.c4
 have p0:w6.cell? ⟨w3.heap.size,0,none⟩=some (.int .i64 p.a):=hP6.out.cell 0
 have p1:w6.cell? ⟨w3.heap.size,1,none⟩=some (.int .u64 p.g):=hP6.out.cell 1
 have p2:w6.cell? ⟨w3.heap.size,2,none⟩=some (.int .u32 p.s):=hP6.out.cell 2
 have g0:=hG6.out.cell 0
 have g1:=hG6.out.cell 1
 have g2:=hG6.out.cell 2
 have gf0:=hG6.out.fz 0
 have gf1:=hG6.out.fz 1
 have gf2:=hG6.out.fz 2
 have hnt:w3.heap.size≠tb:=by omega
 go_upto_region 9 with(fail)
 obtain⟨W8,hW8⟩:∃W8,W8=w6.setCell ⟨tb,6,none⟩ (.slice none 0 0):=⟨_,rfl⟩
 have hT8:=Lib.hid (show Yg W8 tb F B L (ldV sb) b h' (.slice none 0 0) fl le from⟨by rw[hW8];exact hT6.out.row.put 6 _⟩)
 have hP8:=Lib.hid (show Jc W8 54 w3.heap.size [.int .i64 p.a,.int .u64 p.g,.int .u32 p.s] by rw[hW8];exact hP6.out.row.far _ hnt _)
 have hG8:=Lib.hid (show Jc W8 54 w.heap.size [.int .i64 0,.int .u64 0,.int .u32 0] by rw[hW8];exact hG6.out.row.far _ (by show w.heap.size≠tb;omega) _)
 have hg8:w6.grownBy W8 (some tb):=by
  rw[hW8]
  exact⟨rfl,rfl,rfl,by rw[World.size_setCell];exact Nat.le_refl _,fun k _ hk=>Go.heap_setCell_other _ _ _ _ (fun e=>hk (by rw[e]))⟩
 have HS8:=Lib.hid (show Jdg W8 sb mb s1 wr from⟨HS6.out.row.kept hg8 (fun e=>hst (Option.some.inj e)),HS6.out.map.kept' hg8 (fun e=>hmt (Option.some.inj e))⟩)
 have hK8:Jg (fun x=>x=sb\/x=mb\/x=tb) w W8:=hK6.grown hg8 (fun k e=>Or.inl (Or.inr (Or.inr (Option.some.inj e).symm)))
 have HGW8:=Lib.hid (HGW.out.kept hg8 (Or.inr hgwt))
 have hw8:w3.heap.size+1<=W8.heap.size:=by have:=hg8.size;omega
 rw[<-hW8]
 clear hW8 hg8 hT6 hP6 hG6 HS6 hK6 p0 p1 p2 g0 g1 g2 gf0 gf1 gf2 tf4 tf6 c6 c4 HGW
 have htz8:tb<W8.heap.size:=by omega
 have p0:W8.cell? ⟨w3.heap.size,0,none⟩=some (.int .i64 p.a):=hP8.out.cell 0
 have p1:W8.cell? ⟨w3.heap.size,1,none⟩=some (.int .u64 p.g):=hP8.out.cell 1
 have p2:W8.cell? ⟨w3.heap.size,2,none⟩=some (.int .u32 p.s):=hP8.out.cell 2
 have e4:∀x,(W8.alloc x).cell? ⟨tb,4,none⟩=some (.pointer (some ⟨b,0,none⟩)):=fun x=>(World.cell?_alloc_past _ _ _ htz8).trans hT8.out.c4
 have ef4:∀x,(W8.alloc x).frozen? ⟨tb,4,none⟩=false:=fun x=>by rw[World.frozen?_alloc_past _ _ _ htz8];exact hT8.out.fz 4
 go_upto_region 10 with(fail)
 obtain⟨W9,hW9⟩:∃W9,W9=(W8.setCell ⟨tb,4,none⟩ (.pointer (some ⟨W8.heap.size,0,none⟩))).alloc (.cells #[.bool true,.int .i64 p.a,.int .u64 p.g,.int .u32 p.s,.bool false,.slice none 0 0,.slice none 0 0,.slice none 0 0,.slice none 0 0] 108):=⟨_,rfl⟩
 have hg9:W8.grownBy W9 (some tb):=by
  rw[hW9]
  exact⟨rfl,rfl,rfl,by simp,fun k hk hk2=>(Below.heap_alloc _ _ k (by simpa using hk)).trans (Go.heap_setCell_other _ _ _ _ (fun e=>hk2 (by rw[e])))⟩
 have hT9:=Lib.hid (show Yg W9 tb F B L (ldV sb) W8.heap.size h' (.slice none 0 0) fl le from⟨by
  rw[hW9]
  exact Jc.on (show Jc (W8.setCell ⟨tb,4,none⟩ (.pointer (some ⟨W8.heap.size,0,none⟩))) _ tb _ from hT8.out.row.put 4 _) ((Below.refl _ _).alloc (Nat.le_refl _) _)⟩)
 have hV9:=Lib.hid (show Jq W9 W8.heap.size true p.a p.g p.s false (.slice none 0 0) (.slice none 0 0) (.slice none 0 0) (.slice none 0 0) from⟨by
  rw[hW9]
  exact Jc.new' _ _ _ _ (by simp)⟩)
 have hP9:=Lib.hid (show Jc W9 54 w3.heap.size _ from hP8.out.kept hg9 (fun e=>hnt (Option.some.inj e)))
 have hG9:=Lib.hid (show Jc W9 54 w.heap.size _ from hG8.out.kept hg9 (fun e=>by have:=Option.some.inj e;omega))
 have HS9:=Lib.hid (show Jdg W9 sb mb s1 wr from⟨HS8.out.row.kept hg9 (fun e=>hst (Option.some.inj e)),HS8.out.map.kept' hg9 (fun e=>hmt (Option.some.inj e))⟩)
 have hK9:Jg (fun x=>x=sb\/x=mb\/x=tb) w W9:=hK8.grown hg9 (fun k e=>Or.inl (Or.inr (Or.inr (Option.some.inj e).symm)))
 have HGW9:=Lib.hid (HGW8.out.kept hg9 (Or.inr hgwt))
 have hw9:W8.heap.size<W9.heap.size:=hV9.out.lt
 have hw89:w.heap.size<=W8.heap.size:=by omega
 rw[<-hW9]
 clear hW9 hg9 hT8 hP8 hG8 HS8 hK8 p0 p1 p2 e4 ef4 HGW8
 have p0:W9.cell? ⟨w3.heap.size,0,none⟩=some (.int .i64 p.a):=hP9.out.cell 0
 have p1:W9.cell? ⟨w3.heap.size,1,none⟩=some (.int .u64 p.g):=hP9.out.cell 1
 have p2:W9.cell? ⟨w3.heap.size,2,none⟩=some (.int .u32 p.s):=hP9.out.cell 2
 have kf0:=hG9.out.frozen 0
 have kf1:=hG9.out.frozen 1
 have kf2:=hG9.out.frozen 2
 have g0:W9.cell? ⟨w.heap.size,0,none⟩=some (.int .i64 0):=hG9.out.cell 0
 have g1:W9.cell? ⟨w.heap.size,1,none⟩=some (.int .u64 0):=hG9.out.cell 1
 have g2:W9.cell? ⟨w.heap.size,2,none⟩=some (.int .u32 0):=hG9.out.cell 2
 go_wp2_with fail
 obtain⟨ZZ,hZZ⟩:∃ZZ,ZZ=((W9.setCell ⟨w.heap.size,0,none⟩ (.int .i64 p.a)).setCell ⟨w.heap.size,1,none⟩ (.int .u64 p.g)).setCell ⟨w.heap.size,2,none⟩ (.int .u32 p.s):=⟨_,rfl⟩
 have hrow:Jc ZZ 54 w.heap.size [.int .i64 p.a,.int .u64 p.g,.int .u32 p.s]:=by rw[hZZ];exact((hG9.out.put 0 _).put 1 _).put 2 _
 have t0:ZZ.cell? ⟨w.heap.size,0,none⟩=some (.int .i64 p.a):=hrow.cell 0
 have t1:ZZ.cell? ⟨w.heap.size,1,none⟩=some (.int .u64 p.g):=hrow.cell 1
 have t2:ZZ.cell? ⟨w.heap.size,2,none⟩=some (.int .u32 p.s):=hrow.cell 2
 have hgl:W9.grownBy ZZ (some w.heap.size):=by
  rw[hZZ]
  exact⟨rfl,rfl,rfl,by simp only[World.size_setCell];exact Nat.le_refl _,fun k _ hk=>by
   have hkw:k≠w.heap.size:=fun e=>hk (by rw[e])
   rw[Go.heap_setCell_other _ _ _ _ hkw,Go.heap_setCell_other _ _ _ _ hkw,Go.heap_setCell_other _ _ _ _ hkw]⟩
 have hsz:Jdg ZZ sb mb s1 wr:=
  ⟨HS9.out.row.kept hgl (fun e=>by have:=Option.some.inj e;omega),HS9.out.map.kept' hgl (fun e=>by have:=Option.some.inj e;omega)⟩
 have hTz:Yg ZZ tb F B L (ldV sb) W8.heap.size h' (.slice none 0 0) fl le:=⟨hT9.out.row.kept hgl (fun e=>by have:=Option.some.inj e;omega)⟩
 have hVz:Jq ZZ W8.heap.size true p.a p.g p.s false (.slice none 0 0) (.slice none 0 0) (.slice none 0 0) (.slice none 0 0):=⟨hV9.out.row.kept hgl (fun e=>by have:=Option.some.inj e;omega)⟩
 have hKf:Jg (fun x=>x=sb\/x=mb\/x=tb) w ZZ:=hK9.grown hgl (fun k e=>Or.inr (by have:=Option.some.inj e;omega))
 have hGz:=HGW9.out.kept hgl (Or.inr hgw0)
 rw[<-hZZ]
 clear hZZ p0 p1 p2 kf0 kf1 kf2 hgl g0 g1 g2 hrow
 refine bodyPost_ret (v:=.tuple #[.agg #[.int .i64 p.a,.int .u64 p.g,.int .u32 p.s],.slice wa gn wc,.int .i64 0]) (by simp[results,Tryz.results19,go_sem,t0,t1,t2]) rfl ⟨_,rfl,?_,hsz,⟨_,hw89,hTz,hVz⟩,hKf⟩
 rw[<-HGL.out]
 exact JI hGz (by omega)
end Go.Proofs.YtafciefjlkdecaaGreat
namespace Go.Proofs.YtafciefjlkdecaaGreat
open Go.RowKit
def Kx.sf (K:Kx):Sf:=⟨K.f,K.gen,K.nn,K.sz⟩
def Kx.aft (K:Kx) (s:Sf):Kx:= {K with f:=s.f,gen:=s.gen,nn:=s.nn,sz:=s.sz}
structure JoZ (K:Kx) (n:Nat) (v:Vt):Prop where
 ps:Zn n v
 few:Few n v
 win:Win K.sf
 gen:K.gen+Ye n v<=80000
 nn:K.nn+Ye n v<=80000
 cnt:(addrs n v).length+Ye n v<=1000000
structure Jl4 (K:Kx) (n:Nat) (w:World) (v:Vt) (T:Tx) (w':World) (p:Pt) (nb:Nat):Prop where
 ok:Zf (K.aft (sv n v K.sf).2) n w' {(sv n v K.sf).1 with b:=nb,mem:=true,ld:=false} {T with gv:=.slice none 0 0,gone:=[]}
 kn:(sv n v K.sf).1.kn=some p
 nb:w.heap.size<=nb
 keep:Jg (fun x=>x=K.sb\/x=K.mb\/x=K.tb) w w'
theorem CAt.ne {w:World} {K:Kx} {root h:Nat} {T:Tx} (c:CAt w K root h T):K.sb≠K.tb/\K.mb≠K.tb/\(∀x,T.gv.ownBlock=some x->x≠K.sb/\x≠K.mb/\x≠K.tb):=by
 refine⟨fun e=> ?_,fun e=> ?_,fun x hx=> ?_⟩
 ·have h1:=c.sh.row
  rw[e] at h1
  exact absurd (h1.one c.tr.row).1 (by decide)
 ·have h1:=c.tr.row
  rw[<-e] at h1
  exact c.sh.noMap h1
 ·obtain⟨cu,hcu⟩:=Jr c.gn.own x hx
  refine⟨fun e=> ?_,fun e=> ?_,fun e=> ?_⟩
  ·rw[e] at hcu
   exact absurd (hcu.one c.sh.row).1 (by decide)
  ·rw[e] at hcu
   exact c.sh.noMap hcu
  ·rw[e] at hcu
   exact absurd (hcu.one c.tr.row).1 (by decide)
theorem Joq {w:World} {n:Nat} {v:Vt} {p:Pt} {nb:Nat} (h:Dsk n v) (hk:v.kn=some p) (hv:Jq w nb true p.a p.g p.s false (.slice none 0 0) (.slice none 0 0) (.slice none 0 0) (.slice none 0 0)):Mem w n {v with b:=nb,mem:=true,ld:=false}/\(blocks n {v with b:=nb,mem:=true,ld:=false})=[nb]:=by
 have hf:JdT w {v with b:=nb,mem:=true,ld:=false}:=⟨rfl,p,hk,hv⟩
 cases n with
 |zero=>exact⟨⟨rfl,Or.inr hf⟩,JP _ rfl⟩
 |succ n=>
  refine⟨⟨rfl,Or.inr ⟨hf,h.2⟩⟩,?_⟩
  rw[Yk _ _ rfl]
  show nb::v.ch.flatMap (fun x=>blocks n x.2)=[nb]
  rw[List.flatMap_eq_nil_iff.2 fun x hx=>(h.2 x hx).blocks]
theorem JnC {f:Int->Option Blk}:∀ {n:Nat} {v:Vt} {b:Nat} {m l:Bool},Shf f n v->Shf f n {v with b:=b,mem:=m,ld:=l}
 |0,_,_,_,_,h=>h
 |_+1,_,_,_,_,h=>h
theorem JeL {K:Kx} {n:Nat} {w:World} {v:Vt} {T:Tx} (t:Zf K n w v T) (h:JoZ K n v):JpT n [] [] v K.sf:=⟨t.ok,t.sh,h.win,h.ps,by have:=h.gen;show K.gen+_<=_;omega⟩
theorem JlP {K:Kx} {n:Nat} {v:Vt} {T:Tx} (w:World) (t:Zf K n w v T) (h:JoZ K n v):
  Calls Tryz.prog 19 #[.pointer (some ⟨K.tb,0,none⟩),svV K.sb] w fun e w'=>∃p gw nb,e=.returned (.tuple #[ptV p,gw,.int .i64 0])/\w'.ownsRow w.heap.size 3 1 gw T.gone.length ((T.gone.mergeSort fun x y=>decide (x<=y)).map fun x=>.int .i64 x)/\Jl4 K n w v T w' p nb:=by
 have hin:=JeL t h
 have hok:=JeM n [] [] v K.sf hin h.few
 obtain⟨p,hp,-⟩:=hok.kn
 obtain⟨n1,n2,n3⟩:=t.c.ne
 have hgl:=t.gone
 refine(Jk2 (s1:=(sv n v K.sf).2) (wr:=T.wr) (p:=p) (.func 20) #[.pointer (some ⟨K.sb,0,none⟩)] #[] w t.c.tr t.c.gn (by omega) n3 n1 n2 ⟨t.c.sh.row.lt,t.c.sh.map.lt⟩ ?_).mono ?_
 ·intro vb db w2 hb h1 h2 hsv hpm
  have hpre:JfS w2 vb db K.sb K.mb K.sf T.wr n [] [] v:=⟨⟨hsv,hpm,t.c.sh.on hb,fun e=>by have:=t.c.sh.map.lt;omega⟩,t.m.on hb,hin,h.few,h.gen,h.nn,Nat.le_trans (Nat.le_trans (Nat.le_add_right _ _) t.pot) (by omega)⟩
  refine(Jnv n w2 vb db K.sb K.mb K.sf T.wr [] [] v hpre).mono ?_
  rintro e w3 ⟨q,hq,rfl,hst,hk⟩
  rw[hp] at hq
  obtain rfl:=Option.some.inj hq
  exact⟨rfl,hst.sh,hk⟩
 ·rintro e w' ⟨gw,rfl,hgw,hsf,⟨nb,hnb,htr,hvx⟩,hk⟩
  obtain⟨hm,hbl⟩:=Joq hok.dsk hp hvx
  obtain⟨new,m1,m2,m3⟩:=hok.more
  have hl:=m2.length_eq
  rw[List.length_append] at hl
  have hlm:=JdC n (sv n v K.sf).1 [] [] nb true false (sv n v K.sf).1.kn (XT n _ _ _ _ hok.like t.ok)
  have hcnt:=h.cnt
  refine⟨p,gw,nb,rfl,hgw,⟨⟨⟨htr,ZR.nil _,hsf⟩,hm,by rw[hbl];simp,XT n _ _ _ _ hlm (XT n _ _ _ _ hok.like t.ok),JnC hok.shf,?_,t.wr,?_,?_⟩,hp,hnb,hk⟩⟩
  ·rw[X3 n _ _ hlm,X3 n _ _ hok.like];exact t.pot
  ·rw[JcI]
   show 0+(addrs n (sv n v K.sf).1).length<=1000000
   omega
  ·rw[Ja0 n _ _ hlm,Ja0 n _ _ hok.like];exact t.fl
open Go.RowKit
def CpL (R:Vt->Vt->Prop):List (Chd×Vt)->List (Chd×Vt)->Prop
 |[],[]=>True
 |x::l,y::m=>(y.1=x.1/\R x.2 y.2)/\CpL R l m
 |_,_=>False
def CpR:Nat->Vt->Vt->Prop
 |0,v,v'=>(v'.es=v.es/\v'.us=v.us/\v'.kn=v.kn/\v'.mem=v.mem/\v'.ld=v.ld)/\v'.ch=v.ch
 |n+1,v,v'=>(v'.es=v.es/\v'.us=v.us/\v'.kn=v.kn/\v'.mem=v.mem/\v'.ld=v.ld)/\CpL (CpR n) v.ch v'.ch
theorem CpL.snoc {R:Vt->Vt->Prop}:∀ {l m:List (Chd×Vt)} {x y:Chd×Vt},CpL R l m->y.1=x.1->R x.2 y.2->CpL R (l++[x]) (m++[y])
 |[],[],_,_,_,h1,h2=>⟨⟨h1,h2⟩,trivial⟩
 |_::_,_::_,_,_,h,h1,h2=>⟨h.1,CpL.snoc h.2 h1 h2⟩
 |[],_::_,_,_,h,_,_=>absurd h id
 |_::_,[],_,_,h,_,_=>absurd h id
theorem CpL.len {R:Vt->Vt->Prop}:∀ {l m:List (Chd×Vt)},CpL R l m->m.length=l.length
 |[],[],_=>rfl
 |_::l,_::m,h=>by rw[List.length_cons,List.length_cons,CpL.len h.2]
 |[],_::_,h=>absurd h id
 |_::_,[],h=>absurd h id
theorem CpL.fst {R:Vt->Vt->Prop}:∀ {l m:List (Chd×Vt)},CpL R l m->m.map Prod.fst=l.map Prod.fst
 |[],[],_=>rfl
 |_::l,_::m,h=>by rw[List.map_cons,List.map_cons,CpL.fst h.2,h.1.1]
 |[],_::_,h=>absurd h id
 |_::_,[],h=>absurd h id
theorem CpL.mem {R:Vt->Vt->Prop}:∀ {l m:List (Chd×Vt)},CpL R l m->∀y∈m,∃x∈l,y.1=x.1/\R x.2 y.2
 |[],[],_,y,hy=>by simp at hy
 |x::l,z::m,h,y,hy=>by
  rcases List.mem_cons.1 hy with rfl|hy
  ·exact⟨x,by simp,h.1⟩
  ·obtain⟨x',h1,h2⟩:=CpL.mem h.2 y hy
   exact⟨x',List.mem_cons_of_mem _ h1,h2⟩
 |[],_::_,h,_,_=>absurd h id
 |_::_,[],h,_,_=>absurd h id
theorem CpL.likeK {R:Vt->Vt->Prop} {n:Nat}:∀ {l m:List (Chd×Vt)},CpL R l m->(∀x∈l,Zg x.1/\∀t',R x.2 t'->Jaw n x.2 t')->Y3 (Jaw n) l m
 |[],[],_,_=>trivial
 |x::l,y::m,h,k=>⟨⟨by rw[h.1.1],by rw[h.1.1];exact(k x (by simp)).1,(k x (by simp)).2 _ h.1.2⟩,CpL.likeK h.2 fun z hz=>k z (List.mem_cons_of_mem _ hz)⟩
 |[],_::_,h,_=>absurd h id
 |_::_,[],h,_=>absurd h id
theorem CpR.like:∀(n:Nat) (v v':Vt) (lo hi:List UInt8),CpR n v v'->Ok n lo hi v->Jaw n v v'
 |0,v,v',_,_,h,_=>⟨h.1.1,h.1.2.1,h.2⟩
 |n+1,v,v',lo,hi,h,ho=>by
  refine⟨h.1.1,h.1.2.1,h.2.likeK fun x hx=> ?_⟩
  obtain⟨j,hj,e⟩:=List.getElem_of_mem hx
  obtain⟨lo',hi',h1,-⟩:=Jbt ho j hj
  rw[e] at h1
  exact⟨(ho.2.2.2.1 x hx).1,fun t' ht=>CpR.like n x.2 t' lo' hi' ht h1⟩
theorem CpR.kn {n:Nat} {v v':Vt} (h:CpR n v v'):v'.kn=v.kn:=by cases n<;>exact h.1.2.2.1
theorem CpR.shf {f:Int->Option Blk}:∀(n:Nat) (v v':Vt),CpR n v v'->Shf f n v->Shf f n v'
 |0,v,v',h,k=>fun p hp=>by rw[h.1.1];exact k p (by rw[<-h.kn];exact hp)
 |n+1,v,v',h,⟨k1,k2⟩=>by
  have hcs:v'.cs=v.cs:=h.2.fst
  refine⟨fun p hp=> ?_,fun y hy=> ?_⟩
  ·obtain⟨a,b,c⟩:=k1 p (by rw[<-h.kn];exact hp)
   rw[hcs,h.1.2.1]
   refine⟨a,b,fun y hy=> ?_⟩
   obtain⟨x,hx,e1,e2⟩:=h.2.mem y hy
   rw[e2.kn,c x hx,e1]
  ·obtain⟨x,hx,e1,e2⟩:=h.2.mem y hy
   exact CpR.shf n x.2 y.2 e2 (k2 x hx)
theorem CpL.addrs {n:Nat} (ih:∀v v',CpR n v v'->addrs n v'=addrs n v):∀ {l m:List (Chd×Vt)},CpL (CpR n) l m->Yv n m=Yv n l
 |[],[],_=>rfl
 |x::l,y::m,h=>by rw[JQ,JQ,CpL.addrs ih h.2,ih _ _ h.1.2]
 |[],_::_,h=>absurd h id
 |_::_,[],h=>absurd h id
theorem CpR.addrs:∀(n:Nat) (v v':Vt),CpR n v v'->addrs n v'=addrs n v
 |0,v,v',h=>by rw[YA,YA,h.kn]
 |n+1,v,v',h=>by rw[JG,JG,h.kn,CpL.addrs (fun a b k=>CpR.addrs n a b k) h.2]
theorem CpR.pso:∀(n:Nat) (v v':Vt),CpR n v v'->Zn n v->Zn n v'
 |0,v,v',h,k=>fun p hp=>k p (by rw[<-h.kn];exact hp)
 |n+1,v,v',h,k=>⟨fun p hp=>k.1 p (by rw[<-h.kn];exact hp),fun y hy=>by
  obtain⟨x,hx,e1,e2⟩:=h.2.mem y hy
  exact CpR.pso n x.2 y.2 e2 (k.2 x hx)⟩
theorem CpR.refl:∀(n:Nat) (v:Vt),CpR n v v
 |0,_=>⟨⟨rfl,rfl,rfl,rfl,rfl⟩,rfl⟩
 |n+1,v=>by
  refine⟨⟨rfl,rfl,rfl,rfl,rfl⟩,?_⟩
  have key:∀l:List (Chd×Vt),CpL (CpR n) l l:=fun l=>by
   induction l with
   |nil=>exact trivial
   |cons x l ih=>exact⟨⟨rfl,CpR.refl n x.2⟩,ih⟩
  exact key v.ch
def Yq (w:World):Nat->Vt->List Nat
 |0,_=>[]
 |n+1,v=>if v.mem then(match w.cell? ⟨v.b,8,none⟩ with|some x=>x.ownBlock.toList|none=>[])++v.ch.flatMap (fun x=>Yq w n x.2) else[]
theorem JcW {w:World}:∀ {n:Nat} {v:Vt},Dsk n v->Yq w n v=[]
 |0,_,_=>rfl
 |n+1,v,h=>by unfold Yq;rw[if_neg (by rw[h.out.1];simp)]
theorem ZU {w:World} {n:Nat} {v:Vt} (hm:v.mem=true):Yq w (n+1) v=(match w.cell? ⟨v.b,8,none⟩ with|some x=>x.ownBlock.toList|none=>[])++v.ch.flatMap (fun x=>Yq w n x.2):=by
 rw[Yq,if_pos hm]
theorem Jep {w:World}:∀ {n:Nat} {v:Vt},Mem w n v->∀g∈Yq w n v,g<w.heap.size/\∃cur,Jc w 97 g cur
 |0,_,_,g,hg=>by simp[Yq] at hg
 |n+1,v,h,g,hg=>by
  rw[ZU h.1,List.mem_append] at hg
  rcases h.2 with⟨q,qk⟩|⟨q,qk⟩
  ·obtain⟨pa,pg,ps,a1,c1,a2,c2,a3,c3,h1,h2,h3,h4⟩:=q.ex
   rcases hg with hg|hg
   ·rw[h1.c8] at hg
    obtain⟨cur,hc⟩:=Jr h4 g (by simpa using hg)
    exact⟨hc.lt,cur,hc⟩
   ·obtain⟨x,hx,hg⟩:=List.mem_flatMap.1 hg
    exact Jep (qk x hx) g hg
  ·obtain⟨p,h1,h2⟩:=q.ex
   rcases hg with hg|hg
   ·rw[Jq.c8 h2] at hg
    simp[Value.ownBlock] at hg
   ·obtain⟨x,hx,hg⟩:=List.mem_flatMap.1 hg
    rw[JcW (qk x hx)] at hg
    simp at hg
theorem Mem.keepR {w w':World} {M:Nat->Prop} (hk:Jg M w w') (hM:∀b,M b->Z2 w b):∀ {n:Nat} {v:Vt},Mem w n v->(∀b∈blocks n v,¬M b)->(∀g∈Yq w n v,¬M g)->Mem w' n v/\Yq w' n v=Yq w n v
 |0,v,h,hb,_=>by
  have hn:=hb _ h.head
  refine⟨⟨h.1,?_⟩,rfl⟩
  rcases h.2 with q|q
  ·obtain⟨hl,pa,pg,ps,a,c,h1,h2,h3⟩:=q
   exact Or.inl ⟨hl,pa,pg,ps,a,c,hk.vx h1 hn,h2,h3.keep hk hM⟩
  ·exact Or.inr (q.keep hk hn)
 |n+1,v,h,hb,hr=>by
  have hn:=hb _ h.head
  rw[ZU h.1] at hr
  rcases h.2 with⟨q,qk⟩|⟨q,qk⟩
  ·obtain⟨hl,pa,pg,ps,a1,c1,a2,c2,a3,c3,h1,h2,h3,h4⟩:=q
   have h1':=hk.vx h1 hn
   have kid:∀x∈v.ch,Mem w' n x.2/\Yq w' n x.2=Yq w n x.2:=fun x hx=>Mem.keepR hk hM (qk x hx) (fun b hb'=>hb b (Y2 h.1 hx hb')) fun g hg=>hr g (List.mem_append_right _ (List.mem_flatMap.2 ⟨x,hx,hg⟩))
   refine⟨⟨h.1,Or.inl ⟨⟨hl,pa,pg,ps,a1,c1,a2,c2,a3,c3,h1',h2,h3.keep hk hM,Zm h4 hk fun g e=>hr g (List.mem_append_left _ ?_)⟩,fun x hx=>(kid x hx).1⟩⟩,?_⟩
   ·rw[h1.c8]
    show g∈(Value.ownBlock _).toList
    rw[e]
    simp
   ·rw[ZU h.1,ZU h.1,h1.c8,h1'.c8]
    congr 1
    have key:∀l:List (Chd×Vt),(∀x∈l,Yq w' n x.2=Yq w n x.2)->l.flatMap (fun x=>Yq w' n x.2)=l.flatMap (fun x=>Yq w n x.2):=fun l hl=>by
     induction l with
     |nil=>rfl
     |cons x l ih=>rw[List.flatMap_cons,List.flatMap_cons,hl x (by simp),ih fun y hy=>hl y (List.mem_cons_of_mem _ hy)]
    exact key v.ch fun x hx=>(kid x hx).2
  ·refine⟨⟨h.1,Or.inr ⟨q.keep hk hn,qk⟩⟩,?_⟩
   have q':=q.keep hk hn
   obtain⟨p,h1,h2⟩:=q.ex
   obtain⟨p',h1',h2'⟩:=q'.ex
   rw[ZU h.1,ZU h.1,Jq.c8 h2,Jq.c8 h2']
   congr 1
   have key:∀l:List (Chd×Vt),(∀x∈l,Dsk n x.2)->l.flatMap (fun x=>Yq w' n x.2)=l.flatMap (fun x=>Yq w n x.2):=fun l hl=>by
    induction l with
    |nil=>rfl
    |cons x l ih=>rw[List.flatMap_cons,List.flatMap_cons,JcW (hl x (by simp)),JcW (hl x (by simp)),ih fun y hy=>hl y (List.mem_cons_of_mem _ hy)]
   exact key v.ch qk
theorem Mem.onR {w w':World} {n:Nat} {v:Vt} (h:Mem w n v) (hb:Below w.heap.size w w'):Mem w' n v/\Yq w' n v=Yq w n v:=h.keepR (Jg.of_below (S:=fun _=>False) hb) (fun _ q=>q.elim) (fun _ _ q=>q) fun _ _ q=>q
open Go.RowKit
attribute [local go_sem ↓] Go.wp_at_zero Go.wp_at_succ
structure Jab (w:World) (B:Nat) (kv:Value) (bs:List Nat):Prop where
 own:w.ownsRow B 97 1 kv bs.length (bs.map vp)
 ptr:∀g,kv.ownBlock=some g->∀cur,Jc w 97 g cur->∀u∈cur,∃p,u=.pointer p
theorem Jab.nil (w:World) (B:Nat):Jab w B (.slice none 0 0) []:=⟨World.ownsRow_nil _ _ _ _,fun g e=>by simp[Value.ownBlock] at e⟩
theorem Jab.noStr {w:World} {B:Nat} {kv:Value} {bs:List Nat} (h:Jab w B kv bs):∀x,kv.ownBlock=some x->Z2 w x:=fun x hx=>by
 obtain⟨cur,hc⟩:=Jr h.own x hx
 exact hc.noStr fun s hs=>by obtain⟨i,e⟩:=h.ptr x hx cur hc _ hs;cases e
theorem Jab.lt {w:World} {B:Nat} {kv:Value} {bs:List Nat} (h:Jab w B kv bs):∀x,kv.ownBlock=some x->B<=x/\x<w.heap.size:=fun x hx=>by
 obtain⟨cur,hc⟩:=Jr h.own x hx
 exact⟨(h.own.lt x hx).1,hc.lt⟩
theorem Jab.keep {w w':World} {B:Nat} {kv:Value} {bs:List Nat} {M:Nat->Prop} (h:Jab w B kv bs) (hk:Jg M w w') (hM:∀x,kv.ownBlock=some x->¬M x):Jab w' B kv bs:=
 ⟨Zm h.own hk fun g e=>hM g e,fun g e cur hc=>by
  refine h.ptr g e cur ?_
  have:=(h.lt g e).2
  have h2:=hk.block g this (hM g e)
  exact h2.symm.trans hc⟩
theorem Jab.on {w w':World} {B:Nat} {kv:Value} {bs:List Nat} (h:Jab w B kv bs) (hb:Below w.heap.size w w'):Jab w' B kv bs:=h.keep (Jg.of_below (S:=fun _=>False) hb) fun _ _ q=>q
theorem Jab.form {w:World} {B:Nat} {kv:Value} {bs:List Nat} (h:Jab w B kv bs):∃a x,kv=.slice a bs.length x:=Jm h.own
theorem Jh7 (k:Nat):∀u∈(Builtin.zeroCells #[Value.pointer none] k).toList,∃i,u=.pointer i:=by
 intro u hu
 unfold Builtin.zeroCells at hu
 rw[Array.mem_toList_iff,Array.mem_map] at hu
 obtain⟨i,-,e⟩:=hu
 rw[<-e]
 have:i% #[Value.pointer none].size=0:=Nat.mod_one _
 rw[this]
 exact⟨none,rfl⟩
theorem Jf2 {w:World} {B:Nat} {gv:Value} {gone:List Nat} (h:Jab w B gv gone) (hB:B<=w.heap.size) (x:Nat) (a:Addr) (c:Nat) (hx:∀j u,[vp x][j]? =some u->w.cell? (a.add j)=some u) (hl:gone.length<=1000000) (ty:TypeId):
  ∃v' w',(Builtin.append_ #[106,106] ty #[gv,.slice (some a) 1 c]).run Tryz.prog w=.ok v' w'/\Jab w' B v' (gone++[x])/\w.grownBy w' gv.ownBlock/\(v'.ownBlock=gv.ownBlock\/v'.ownBlock=some w.heap.size):=by
 obtain⟨i0,hi,iz0,iz1,iz2⟩:=info_parts JdI
 have h1:∀u∈[vp x],u.oneCell'=true:=fun u hu=>by rw[List.mem_singleton] at hu;rw[hu];rfl
 obtain⟨v',w',hr,h2,h3,-,h5⟩:=run_append_own_at (P:=Tryz.prog) w B 106 ty 97 i0 (.pointer none) 1 8 Tryz.underlying106 hi iz0 iz1 iz2 rfl (by decide) gv gone.length (gone.map vp) h.own a 1 c [vp x] rfl hx h1 (by unfold maxLen;omega) (by omega) hB
 refine⟨v',w',hr,⟨by rw[List.length_append];rw[List.map_append];exact h2,?_⟩,h3,h5⟩
 have hnew:∀u∈[vp x],∃i,u=.pointer i:=fun u hu=>by rw[List.mem_singleton] at hu;exact⟨_,hu⟩
 have hgn:∀u∈gone.map vp,∃i,u=.pointer i:=fun u hu=>by obtain⟨i,-,e⟩:=List.mem_map.1 hu;exact⟨_,e.symm⟩
 rcases h.own.2 with⟨e1,e2⟩|⟨g,cap,cur,e1,hbg,hg,hnc,hcm,hcs,htake⟩
 ·rw[e1] at hr
  have hr2:=run_append_nil (P:=Tryz.prog) w 106 ty 97 i0 (.pointer none) Tryz.underlying106 hi iz0 a 1 c [vp x] (by rw[iz1];rfl) hx (by omega) (by omega) (by rw[iz2];omega)
  rw[hr] at hr2
  injection hr2 with ev ew
  subst ev ew
  intro g hg cur hc u hu
  simp only[Value.ownBlock,Option.some.injEq] at hg
  subst hg
  rw[hc.cur (heap_alloc_new w.drew _)] at hu
  rw[Array.toList_append,List.mem_append] at hu
  rcases hu with hu|hu
  ·exact hnew u (by simpa using hu)
  ·exact Jh7 _ u hu
 ·rw[e1] at hr
  by_cases hroom:gone.length+1<=cap
  ·have hr2:=run_append_room (P:=Tryz.prog) w 106 ty 97 i0 Tryz.underlying106 hi g gone.length cap cur hg a 1 c [vp x] (by rw[iz1];rfl) hx h1 hroom (by rw[iz1,hcs];simp;omega)
   rw[hr] at hr2
   injection hr2 with ev ew
   subst ev ew
   intro g' hg' cur' hc u hu
   simp only[Value.ownBlock,Option.some.injEq] at hg'
   subst hg'
   rw[hc.cur (setRow_heap w g cur _ _ _ hg)] at hu
   have hold:=h.ptr g (by rw[e1];rfl) cur.toList (by unfold Jc;rw[Array.toArray_toList];exact hg)
   simp only[List.append_assoc,List.mem_append,List.mem_singleton] at hu
   rcases hu with hu|hu|hu
   ·exact hold u (List.mem_of_mem_take hu)
   ·exact⟨_,hu⟩
   ·exact hold u (List.mem_of_mem_drop hu)
  ·have holds:∀j u,(gone.map vp)[j]? =some u->w.cell? ((⟨g,0,none⟩:Addr).add j)=some u:=h.own.cells (g:=g) (by rw[e1];rfl)
   have hr2:=run_append_grow (P:=Tryz.prog) w 106 ty 97 i0 (.pointer none) Tryz.underlying106 hi iz0 ⟨g,0,none⟩ gone.length cap (gone.map vp) (by rw[iz1];simp) holds a 1 c [vp x] (by rw[iz1];rfl) hx (by omega) (by omega) (growslice_fits (by omega) (by rw[iz2];omega))
   rw[hr] at hr2
   injection hr2 with ev ew
   subst ev ew
   intro g' hg' cur' hc u hu
   simp only[Value.ownBlock,Option.some.injEq] at hg'
   subst hg'
   rw[hc.cur (heap_alloc_new w.drew _)] at hu
   rw[Array.toList_append,List.mem_append,Array.toList_append,List.mem_append] at hu
   rcases hu with(hu|hu)|hu
   ·exact hgn u (by simpa using hu)
   ·exact hnew u (by simpa using hu)
   ·exact Jh7 _ u hu
theorem JeO {ops:Array Oper} {o:Oper} {a:Act} {w:World} {B:Nat} {K:Act->World->Prop} {Q:Exit->Act->World->Prop} {E0:Prop} (hgd:o.guard=none) (s x:Operand)
  (ho:o.op=Op.call {callee:=Callee.builtin Builtin.append,args:= #[s,x],argTypes:= #[106,106]})
  (gv:Value) (gone:List Nat) (hs:a.eval s=gv) (h:Jab w B gv gone) (hB:B<=w.heap.size) (y:Nat) (ad:Addr) (c:Nat) (hx:a.eval x=.slice (some ad) 1 c) (hnews:∀j u,[vp y][j]? =some u->w.cell? (ad.add j)=some u) (hl:gone.length<=1000000)
  (hk:∀v' w',Jab w' B v' (gone++[y])->w.grownBy w' gv.ownBlock->(v'.ownBlock=gv.ownBlock\/v'.ownBlock=some w.heap.size)->K (a.put o.dst v') w'):
  if Region.wanted o (yielded ops a.tmps)=true then Oper.wp Tryz.prog o a w K Q else E0:=by
 have hw:Region.wanted o (yielded ops a.tmps)=true:=by simp[Region.wanted,hgd]
 rw[if_pos hw]
 obtain⟨v',w',hr,h2,h3,h5⟩:=Jf2 h hB y ad c hnews hl o.type
 unfold Oper.wp
 simp only[execOp,ho,resolve,invoke,builtin,Sem.run_bind,Sem.run_pure,Result.andThen_ok,List.map_toArray,List.map_cons,List.map_nil,hs,hx,hr]
 exact hk v' w' h2 h3 h5
open Go.RowKit
attribute [local go_sem ↓] Go.wp_at_zero Go.wp_at_succ
structure JjX (n:Nat) (w0:World) (ob:Nat) (kn:Bool) (pa:Int) (pg ps:Nat) (ld:Bool) (lf cs us:Value) (ch D:List (Chd×Vt)) (kv:Value) (w:World):Prop where
 below:Below w0.heap.size w0 w
 obl:w0.heap.size<=ob
 vx:Jq w ob kn pa pg ps ld lf cs us kv
 row:Jab w w0.heap.size kv (D.map fun y=>y.2.b)
 nil:D=[]->kv=.slice none 0 0
 le:D.length<=ch.length
 cp:CpL (CpR n) (ch.take D.length) D
 mem:∀y∈D,Mem w n y.2
 fresh:∀b∈Jt n D,w0.heap.size<=b/\b≠ob
 nd:(Jt n D).Nodup
 rows:∀y∈D,∀g∈Yq w n y.2,w0.heap.size<=g/\kv.ownBlock≠some g
section
variable {n:Nat} {w0 w w' wr wz:World} {ob:Nat} {kn:Bool} {pa:Int} {pg ps:Nat} {ld:Bool} {lf cs us:Value} {ch D:List (Chd×Vt)} {kv kv':Value}
theorem JjX.on (h:JjX n w0 ob kn pa pg ps ld lf cs us ch D kv w) (hb:Below w.heap.size w w'):JjX n w0 ob kn pa pg ps ld lf cs us ch D kv w':=
 ⟨h.below.trans (hb.mono h.below.size),h.obl,h.vx.on hb,h.row.on hb,h.nil,h.le,h.cp,fun y hy=>(h.mem y hy).on hb,h.fresh,h.nd,fun y hy g hg=>h.rows y hy g (by rw[<-((h.mem y hy).onR hb).2];exact hg)⟩
theorem Jab.noVx (h:Jab w w0.heap.size kv (D.map fun y=>y.2.b)) {b:Nat} {cur:List Value} (hr:Jc w 108 b cur):kv.ownBlock≠some b:=fun e=>by
 obtain⟨cu,hc⟩:=Jr h.own b e
 exact absurd (hc.one hr).1 (by decide)
theorem JjX.more (h:JjX n w0 ob kn pa pg ps ld lf cs us ch D kv wr) (hb:Below wr.heap.size wr w) {x:Chd×Vt} {y:Vt} (hx:ch[D.length]? =some x) (hr:CpR n x.2 y) (hm:Mem w n y) (hf:∀b∈blocks n y,wr.heap.size<=b) (hn:(blocks n y).Nodup) (hrw:∀g∈Yq w n y,wr.heap.size<=g)
  (hs:Z2 w ob) (hg:w.grownBy wz kv.ownBlock) (hv:Jab wz w0.heap.size kv' ((D.map fun y=>y.2.b)++[y.b])) (ho:kv'.ownBlock=kv.ownBlock\/kv'.ownBlock=some w.heap.size):
  JjX n w0 ob kn pa pg ps ld lf cs us ch (D++[(x.1,y)]) kv' (wz.setCell ⟨ob,8,none⟩ kv'):=by
 have h':=h.on hb
 have hlt:=h.vx.lt
 have hobw:=h'.vx.lt
 have hxl:D.length<ch.length:=(List.getElem?_eq_some_iff.1 hx).1
 have hvo:kv.ownBlock≠some ob:=h'.row.noVx h'.vx.row
 have hgz:wz.heap.size≥w.heap.size:=hg.size
 have hvzo:kv'.ownBlock≠some ob:=fun e=>by
  rcases ho with q|q
  ·exact hvo (q▸e)
  ·rw[q] at e
   have:=Option.some.inj e
   omega
 have hk:Jg (fun b=>kv.ownBlock=some b\/b=ob) w (wz.setCell ⟨ob,8,none⟩ kv'):=((Jg.refl (fun b=>kv.ownBlock=some b\/b=ob) w).grown hg fun k e=>Or.inl (Or.inl e)).setCell ⟨ob,8,none⟩ (Or.inl (Or.inr rfl)) _
 have hns:∀b,(kv.ownBlock=some b\/b=ob)->Z2 w b:=fun b q=>by
  rcases q with q|q
  ·exact h'.row.noStr b q
  ·rw[q];exact hs
 have kD:∀z∈D,Mem (wz.setCell ⟨ob,8,none⟩ kv') n z.2/\Yq (wz.setCell ⟨ob,8,none⟩ kv') n z.2=Yq w n z.2:=fun z hz=>(h'.mem z hz).keepR hk hns (fun b hb' q=>by
  rcases q with q|q
  ·obtain⟨cur,hc⟩:=(h'.mem z hz).cells b hb'
   exact h'.row.noVx hc q
  ·exact(h'.fresh b (List.mem_flatMap.2 ⟨z,hz,hb'⟩)).2 q) fun g hg' q=>by
  rcases q with q|q
  ·exact(h'.rows z hz g hg').2 q
  ·obtain⟨-,cur,hc⟩:=Jep (h'.mem z hz) g hg'
   rw[q] at hc
   exact absurd (hc.one h'.vx.row).1 (by decide)
 have kY:=hm.keepR hk hns (fun b hb' q=>by
  have h1:=hf b hb'
  rcases q with q|q
  ·have:=(h.row.lt b q).2;omega
  ·omega) fun g hg' q=>by
  have h1:=hrw g hg'
  rcases q with q|q
  ·have:=(h.row.lt g q).2;omega
  ·omega
 have hvx:Jq wz ob kn pa pg ps ld lf cs us kv:=⟨h'.vx.row.kept hg fun e=>hvo e.symm⟩
 refine⟨?_,h.obl,hvx.putK _,?_,fun e=>by simp at e,by rw[List.length_append,List.length_singleton];omega,?_,fun z hz=> ?_,fun b hb'=> ?_,?_,fun z hz g hg'=> ?_⟩
 ·exact h'.below.trans (hk.below h'.below.size fun b q=>by
   rcases q with q|q
   ·exact(h'.row.lt b q).1
   ·rw[q];exact h.obl)
 ·rw[List.map_append]
  exact hv.keep ((Jg.refl (fun b=>b=ob) wz).setCell ⟨ob,8,none⟩ (Or.inl rfl) _) fun z e q=>by
   have q':z=ob:=q
   exact hvzo (q'▸e)
 ·rw[List.length_append,List.length_singleton,List.take_succ_eq_append_getElem hxl]
  have e:ch[D.length]=x:=by rw[List.getElem?_eq_getElem hxl] at hx;exact Option.some.inj hx
  rw[e]
  exact h.cp.snoc rfl hr
 ·rcases List.mem_append.1 hz with q|q
  ·exact(kD z q).1
  ·rw[List.mem_singleton] at q
   subst q
   exact kY.1
 ·rw[JF,List.mem_append] at hb'
  rcases hb' with q|q
  ·exact h.fresh b q
  ·rw[JT] at q
   have q':b∈blocks n y:=by simpa[Jt] using q
   have h1:=hf b q'
   have h2:=h.below.size
   omega
 ·rw[JF,List.nodup_append]
  refine⟨h.nd,by rw[JT];simpa[Jt] using hn,fun a ha b hb' e=> ?_⟩
  rw[JT] at hb'
  have q':b∈blocks n y:=by simpa[Jt] using hb'
  have h1:=hf b q'
  obtain⟨z,hz,ha⟩:=List.mem_flatMap.1 ha
  have h2:=((h.mem z hz).lt a ha).2
  omega
 ·rcases List.mem_append.1 hz with q|q
  ·rw[(kD z q).2] at hg'
   have h1:=h'.rows z q g hg'
   refine⟨h1.1,fun e=> ?_⟩
   rcases ho with k|k
   ·exact h1.2 (k▸e)
   ·have h2:=(Jep (h'.mem z q) g hg').1
    rw[k] at e
    have:=Option.some.inj e
    omega
  ·rw[List.mem_singleton] at q
   subst q
   have hg2:g∈Yq w n y:=by rw[<-kY.2];exact hg'
   have h1:=hrw g hg2
   have h3:=h.below.size
   refine⟨by omega,fun e=> ?_⟩
   rcases ho with k|k
   ·rw[k] at e
    have:=(h.row.lt g e).2
    omega
   ·have h2:=(Jep hm g hg2).1
    rw[k] at e
    have:=Option.some.inj e
    omega
end
structure Jrh (n:Nat) (w:World) (v:Vt) (w':World) (v':Vt):Prop where
 r:CpR n v v'
 mem:Mem w' n v'
 fresh:∀b∈blocks n v',w.heap.size<=b
 nd:(blocks n v').Nodup
 rows:∀g∈Yq w' n v',w.heap.size<=g
 below:Below w.heap.size w w'
def Jqg (n:Nat):Prop:=∀(w:World) (v:Vt),Mem w n v->pot n v<=1000->
 Calls Tryz.prog 57 #[.pointer (some ⟨v.b,0,none⟩)] w fun e w'=>∃v',e=.returned (.pointer (some ⟨v'.b,0,none⟩))/\Jrh n w v w' v'
theorem Jao (n:Nat) {b:Nat} {kn:Bool} {pa:Int} {pg ps:Nat} {ld:Bool} {l1 l2 l3 l4:Option Addr} {m1 m2 m3 nk c1 c2 c3 c4:Nat} (ch:List (Chd×Vt)) (IH:Jqg n\/ch=[]) (w:World) (hv:Jq w b kn pa pg ps ld (.slice l1 m1 c1) (.slice l2 m2 c2) (.slice l3 m3 c3) (.slice l4 nk c4)) (hnk:nk=ch.length)
  (hkd:ZG w (.slice l4 ch.length c4) (ch.map fun x=>x.2.b)) (hm:∀x∈ch,Mem w n x.2/\pot n x.2<=1000) (hl:ch.length<=2000):
  Calls Tryz.prog 57 #[.pointer (some ⟨b,0,none⟩)] w fun e w'=>∃ob D kv,e=.returned (.pointer (some ⟨ob,0,none⟩))/\JjX n w ob kn pa pg ps ld (.slice l1 m1 c1) (.slice l2 m2 c2) (.slice l3 m3 c3) ch D kv w'/\D.length=ch.length:=by
 have HH:=Lib.hid (And.intro hnk (And.intro hkd (And.intro hm hv)))
 have HIH:=Lib.hid IH
 have hl2:nk<=2000:=by omega
 have v0:=hv.c0
 have v1:=hv.c1
 have v2:=hv.c2
 have v3:=hv.c3
 have v4:=hv.c4
 have v5:=hv.c5
 have v6:=hv.c6
 have v7:=hv.c7
 have v8:=hv.c8
 clear hnk hkd hm hv IH hl
 go_enter Tryz.func57,Tryz.ntmps57
 go_upto_region 2 with(fail)
 obtain⟨W,hW⟩:∃W,W=w.alloc (.cells #[.bool kn,.int .i64 pa,.int .u64 pg,.int .u32 ps,.bool ld,.slice l1 m1 c1,.slice l2 m2 c2,.slice l3 m3 c3,.slice l4 nk c4] 108):=⟨_,rfl⟩
 have hX:Below w.heap.size w W:=by rw[hW];exact(Below.refl _ w).alloc (Nat.le_refl _) _
 have hV:Jq W w.heap.size kn pa pg ps ld (.slice l1 m1 c1) (.slice l2 m2 c2) (.slice l3 m3 c3) (.slice l4 nk c4):=⟨by rw[hW];exact Jc.new w _ _⟩
 rw[<-hW]
 clear hW v0 v1 v2 v3 v4 v5 v6 v7 v8
 have HX:=Lib.hid hX
 have HV:=Lib.hid hV
 have v8:=hV.c8
 have f8:=hV.fz 8
 clear hX hV
 go_upto_region 3 with(fail)
 obtain⟨W1,hW1⟩:∃W1,W1=W.setCell ⟨w.heap.size,8,none⟩ (.slice none 0 0):=⟨_,rfl⟩
 have HB1:=Lib.hid (show Below w.heap.size w W1 by rw[hW1];exact HX.out.setCell (Nat.le_refl _) _)
 have HV1:=Lib.hid (show Jq W1 w.heap.size kn pa pg ps ld (.slice l1 m1 c1) (.slice l2 m2 c2) (.slice l3 m3 c3) (.slice none 0 0) by rw[hW1];exact HV.out.putK _)
 rw[<-hW1]
 clear hW1 v8 f8 HX HV
 have u8:=(HH.out.2.2.2.on HB1.out).c8
 go_wp2_with fail
 go_loopw [15] (fun i wr=>∃(j:Nat) (D:List (Chd×Vt)) (kv:Value),i=.int .i64 j/\j<=nk/\D.length=j/\Hid (JjX n w w.heap.size kn pa pg ps ld (.slice l1 m1 c1) (.slice l2 m2 c2) (.slice l3 m3 c3) ch D kv wr)) (fun i _=>nk- (intOf i).toNat)
 case atStart=>exact⟨0,[],.slice none 0 0,rfl,Nat.zero_le _,rfl,Lib.hid ⟨HB1.out,Nat.le_refl _,HV1.out,Jab.nil _ _,fun _=>rfl,Nat.zero_le _,trivial,fun y hy=>by simp at hy,fun b hb=>by simp[Jt] at hb,by simp[Jt],fun y hy=>by simp at hy⟩⟩
 case round=>
  obtain⟨j,D,kv,rfl,hj,hD,HK⟩:=hrel
  have hj0:(0:Int)<=(j:Int):=Int.natCast_nonneg _
  by_cases hjl:j<nk
  ·have hj1:(j:Int)<(nk:Int):=by omega
   have hkl:j<ch.length:=by rw[<-HH.out.1];exact hjl
   obtain⟨x,hx⟩:∃x,x=ch[j]:=⟨_,rfl⟩
   have hkr:wr.ownsRow 0 97 1 (.slice l4 nk c4) nk ((ch.map fun x=>x.2.b).map vp):=by
    have h0:ZG wr (.slice l4 ch.length c4) (ch.map fun x=>x.2.b):=Jk HH.out.2.1 HK.out.below
    have h1:wr.ownsRow 0 97 1 (.slice l4 ch.length c4) (ch.map fun x=>x.2.b).length ((ch.map fun x=>x.2.b).map vp):=h0
    rw[List.length_map,<-HH.out.1] at h1
    exact h1
   obtain⟨g3,rfl,-,-,hgc⟩:=Ym hkr (by omega)
   have r0:wr.cell? ⟨g3,j,none⟩=some (.pointer (some ⟨x.2.b,0,none⟩)):=by
    have:=hgc j (vp x.2.b) (by rw[List.getElem?_map,List.getElem?_map,List.getElem?_eq_getElem hkl,hx];rfl)
    simpa using this
   have hxm:=HH.out.2.2.1 x (by rw[hx];exact List.getElem_mem hkl)
   have HCA:=Lib.hid ((HIH.out.resolve_right fun e=>by rw[e] at hkl;simp at hkl) wr.drew x.2 ((hxm.1.on HK.out.below).on (Jb (Below.refl _ _))) hxm.2)
   have HXJ:=Lib.hid (show ch[D.length]? =some x by rw[hD,hx];exact List.getElem?_eq_getElem hkl)
   obtain⟨ka,kc,hkv⟩:=HK.out.row.form
   rw[List.length_map,hD] at hkv
   subst hkv
   have p8:=HK.out.vx.c8
   have HKd:=Lib.hid (HK.out.on (Jb (Below.refl _ _)))
   have hdl:D.length<=2000:=by omega
   clear hkr hgc hx hxm
   go_upto_region 6 with(fail)
   go_region_law (first
    |(go_simp;go_at_call 57;refine HCA.out.mono ?_;rintro e w7 ⟨y,rfl,hy⟩;have HY:=Lib.hid hy;have HK7:=Lib.hid (HKd.out.on hy.below);have z8:=HK7.out.vx.c8;have z8l:=HK7.out.vx.lt;have z8a:∀o,(w7.alloc o).cell? ⟨w.heap.size,8,none⟩=some (.slice ka j kc):=fun o=>(World.cell?_alloc_past _ _ _ z8l).trans z8;clear hy z8l)
    |(obtain⟨W8,hW8⟩:∃W8,W8=w7.alloc (.cells #[.pointer (some ⟨y.b,0,none⟩)] 97):=⟨_,rfl⟩;have hX8:Below w7.heap.size w7 W8:=(by rw[hW8];exact(Below.refl _ _).alloc (Nat.le_refl _) _);have HK8:=Lib.hid (HK7.out.on hX8);have hcell:∀i u,[vp y.b][i]? =some u->W8.cell? ((⟨w7.heap.size,0,none⟩:Addr).add i)=some u:=fun i u hu=>(by rw[hW8];exact cell_one_new w7 (vp y.b) _ i u hu);rw[<-hW8];refine JeO (by rfl) _ _ (by rfl) (.slice ka j kc) (D.map fun z=>z.2.b) (by rfl) HK8.out.row (by have:=HK8.out.below.size;exact this) y.b ⟨w7.heap.size,0,none⟩ 1 (by rfl) hcell (by rw[List.length_map];omega) ?_;intro vz wz hvz hgz hoz;have HMO:=Lib.hid (HKd.out.more (HY.out.below.trans (hX8.mono HY.out.below.size)) HXJ.out HY.out.r (HY.out.mem.on hX8) HY.out.fresh HY.out.nd (fun g hg=>HY.out.rows g (by rw[<-(HY.out.mem.onR hX8).2];exact hg)) (Jq.soft HK8.out.vx).str hgz hvz hoz);obtain⟨az,cz,ez⟩:=hvz.form;rw[List.length_append,List.length_map,List.length_singleton,hD] at ez;subst ez;have hvo:=HK8.out.row.noVx HK8.out.vx.row;have q8:wz.cell? ⟨w.heap.size,8,none⟩=some (.slice ka j kc):=hgz.cell HK8.out.vx.c8 (fun e=>hvo e.symm);have qf:wz.frozen? ⟨w.heap.size,8,none⟩=false:=(World.frozen?_of_block (hgz.block w.heap.size HK8.out.vx.lt (fun e=>hvo e.symm))).trans (HK8.out.vx.fz 8);clear hvz hgz hoz hvo hcell hX8 hW8))
   all_goals
    go_wp2_with fail
    exact⟨⟨j+1,D++[(x.1,y)],_,by go_num,by omega,by rw[List.length_append,List.length_singleton,hD],HMO⟩,by simp[intOf];omega⟩
  ·obtain rfl:j=nk:=by omega
   go_wp2_with fail
   go_returns
   exact⟨_,D,kv,rfl,HK.out,by rw[hD,HH.out.1]⟩
theorem JfE:∀n,Jqg n
 |0=>fun w v hm hp=>by
  rcases hm.2 with q|q
  ·obtain⟨hl,pa,pg,ps,a,c,h1,h2,h3⟩:=q
   refine(Jao 0 [] (Or.inr rfl) w h1 rfl (World.ownsRow_nil _ _ _ _) (fun x hx=>by simp at hx) (by simp)).mono ?_
   rintro e w' ⟨ob,D,kv,rfl,hc,hD⟩
   have hD0:D=[]:=List.eq_nil_of_length_eq_zero hD
   have hvx:=hc.vx
   rw[hc.nil hD0] at hvx
   refine⟨{v with b:=ob},rfl,⟨⟨rfl,rfl,rfl,rfl,rfl⟩,rfl⟩,⟨hm.1,Or.inl ⟨hl,pa,pg,ps,a,c,hvx,h2,h3.kept hc.below (Nat.le_refl _)⟩⟩,fun b hb=> ?_,?_,fun g hg=>by simp[Yq] at hg,hc.below⟩
   ·rw[JP {v with b:=ob} hm.1,List.mem_singleton] at hb
    rw[hb];exact hc.obl
   ·rw[JP {v with b:=ob} hm.1];simp
  ·obtain⟨hl,p,h1,h2⟩:=q
   refine(Jao 0 [] (Or.inr rfl) w h2 rfl (World.ownsRow_nil _ _ _ _) (fun x hx=>by simp at hx) (by simp)).mono ?_
   rintro e w' ⟨ob,D,kv,rfl,hc,hD⟩
   have hD0:D=[]:=List.eq_nil_of_length_eq_zero hD
   have hvx:=hc.vx
   rw[hc.nil hD0] at hvx
   refine⟨{v with b:=ob},rfl,⟨⟨rfl,rfl,rfl,rfl,rfl⟩,rfl⟩,⟨hm.1,Or.inr ⟨hl,p,h1,hvx⟩⟩,fun b hb=> ?_,?_,fun g hg=>by simp[Yq] at hg,hc.below⟩
   ·rw[JP {v with b:=ob} hm.1,List.mem_singleton] at hb
    rw[hb];exact hc.obl
   ·rw[JP {v with b:=ob} hm.1];simp
 |n+1=>fun w v hm hp=>by
  rcases hm.2 with⟨q,qk⟩|⟨q,qk⟩
  ·obtain⟨hl,pa,pg,ps,a1,c1,a2,c2,a3,c3,h1,h2,h3,h4⟩:=q
   have hch:v.ch.length<=2000:=by
    rw[JO] at hp
    have h5:1<=2^(n+1):=Nat.one_le_two_pow
    have h6:JJ v.ch.length<=JJ v.ch.length*2^(n+1):=Nat.le_mul_of_pos_right _ h5
    unfold JJ at h6 hp
    omega
   have h4':ZG w (.slice a3 v.ch.length c3) (v.ch.map fun x=>x.2.b):=h4
   refine(Jao n v.ch (Or.inl (JfE n)) w h1 rfl h4' (fun x hx=>⟨qk x hx,Jal hp hx⟩) hch).mono ?_
   rintro e w' ⟨ob,D,kv,rfl,hc,hD⟩
   obtain⟨ka,kc,hkv⟩:=hc.row.form
   rw[List.length_map,hD] at hkv
   subst hkv
   have hcp:=hc.cp
   rw[hD,List.take_length] at hcp
   have hcs:D.map Prod.fst=v.cs:=hcp.fst
   have hrow:=hc.row.own
   rw[List.length_map,hD] at hrow
   have hM:Mem w' (n+1) {v with b:=ob,ch:=D}:=by
    refine⟨hm.1,Or.inl ⟨⟨hl,pa,pg,ps,a1,c1,a2,c2,ka,kc,?_,h2,?_,?_⟩,hc.mem⟩⟩
    ·show Jq w' ob _ _ _ _ _ _ (.slice a1 D.length c1) _ (.slice ka D.length kc)
     rw[hD];exact hc.vx
    ·show JA w' (.agg #[.slice a1 D.length c1,.slice a2 v.us.length c2]) (D.map Prod.fst) v.us
     rw[hD,hcs]
     exact h3.keep (Jg.of_below (S:=fun _=>False) hc.below) fun _ q=>q.elim
    ·show ZG w' (.slice ka D.length kc) (D.map fun x=>x.2.b)
     have h0:w'.ownsRow 0 97 1 (.slice ka v.ch.length kc) v.ch.length ((D.map fun y=>y.2.b).map vp):=JI hrow (Nat.zero_le _)
     unfold ZG
     rw[List.length_map,hD]
     exact h0
   refine⟨{v with b:=ob,ch:=D},rfl,⟨⟨rfl,rfl,rfl,rfl,rfl⟩,hcp⟩,hM,fun b hb=> ?_,?_,fun g hg=> ?_,hc.below⟩
   ·rw[Yk n {v with b:=ob,ch:=D} hm.1,List.mem_cons] at hb
    rcases hb with rfl|hb
    ·exact hc.obl
    ·exact(hc.fresh b hb).1
   ·rw[Yk n {v with b:=ob,ch:=D} hm.1,List.nodup_cons]
    exact⟨fun hb=>(hc.fresh ob hb).2 rfl,hc.nd⟩
   ·rw[ZU (v:= {v with b:=ob,ch:=D}) hm.1,List.mem_append] at hg
    rcases hg with hg|hg
    ·have hg':g∈(match w'.cell? ⟨ob,8,none⟩ with|some x=>x.ownBlock.toList|none=>[]):=hg
     rw[hc.vx.c8] at hg'
     exact(hc.row.lt g (by simpa using hg')).1
    ·obtain⟨x,hx,hg⟩:=List.mem_flatMap.1 hg
     exact(hc.rows x hx g hg).1
  ·obtain⟨hl,p,h1,h2⟩:=q
   refine(Jao n [] (Or.inr rfl) w h2 rfl (World.ownsRow_nil _ _ _ _) (fun x hx=>by simp at hx) (by simp)).mono ?_
   rintro e w' ⟨ob,D,kv,rfl,hc,hD⟩
   have hD0:D=[]:=List.eq_nil_of_length_eq_zero hD
   have hvx:=hc.vx
   rw[hc.nil hD0] at hvx
   have hbl:blocks (n+1) {v with b:=ob}=[ob]:=by
    rw[Yk n {v with b:=ob} hm.1]
    show ob::v.ch.flatMap (fun x=>blocks n x.2)=[ob]
    rw[List.flatMap_eq_nil_iff.2 fun x hx=>(qk x hx).blocks]
   refine⟨{v with b:=ob},rfl,⟨⟨rfl,rfl,rfl,rfl,rfl⟩,(CpR.refl (n+1) v).2⟩,⟨hm.1,Or.inr ⟨⟨hl,p,h1,hvx⟩,qk⟩⟩,fun b hb=> ?_,?_,fun g hg=> ?_,hc.below⟩
   ·rw[hbl,List.mem_singleton] at hb
    rw[hb];exact hc.obl
   ·rw[hbl];simp
   ·rw[ZU (v:= {v with b:=ob}) hm.1,List.mem_append] at hg
    rcases hg with hg|hg
    ·have hg':g∈(match w'.cell? ⟨ob,8,none⟩ with|some x=>x.ownBlock.toList|none=>[]):=hg
     rw[hvx.c8] at hg'
     simp[Value.ownBlock] at hg'
    ·obtain⟨x,hx,hg⟩:=List.mem_flatMap.1 hg
     rw[JcW (qk x hx)] at hg
     simp at hg
open Go.RowKit
attribute [local go_sem ↓] Go.wp_at_zero Go.wp_at_succ
structure Jqf (K:Kx) (n:Nat) (w:World) (v:Vt) (T:Tx) (w':World) (tb2:Nat) (v2:Vt) (gv2:Value):Prop where
 ok:Zf {K with tb:=tb2} n w' v2 {T with gv:=gv2}
 tb:w.heap.size<=tb2
 r:CpR n v v2
 fresh:∀b∈blocks n v2,w.heap.size<=b
 gv:∀x,gv2.ownBlock=some x->w.heap.size<=x
 below:Below w.heap.size w w'
theorem Jq8 {K:Kx} {n:Nat} {v:Vt} {T:Tx} (w:World) (t:Zf K n w v T):
  Calls Tryz.prog 31 #[.pointer (some ⟨K.tb,0,none⟩)] w fun e w'=>∃tb2 v2 gv2,e=.returned (.pointer (some ⟨tb2,0,none⟩))/\Jqf K n w v T w' tb2 v2 gv2:=by
 obtain⟨tb,htb⟩:∃tb,tb=K.tb:=⟨_,rfl⟩
 have HTB:=Lib.hid htb
 have htr:=t.c.tr
 obtain⟨ga,gc,hgv⟩:=t.c.gn.form
 rw[hgv] at htr
 obtain⟨gl,hgl⟩:∃gl,gl=T.gone.length:=⟨_,rfl⟩
 rw[<-hgl] at htr hgv
 rw[<-htb] at htr⊢
 obtain⟨fn,xs,ys,hld⟩:∃fn xs ys,ldV K.sb=.func fn xs ys:=⟨_,_,_,rfl⟩
 rw[hld] at htr
 have HLD:=Lib.hid hld
 have HH:=Lib.hid (And.intro t hgv)
 have HTR:=Lib.hid htr
 have v0:=htr.c0
 have v1:=htr.c1
 have v2:=htr.c2
 have v3:=htr.c3
 have v4:=htr.c4
 have v5:=htr.c5
 have v6:=htr.c6
 have v7:=htr.c7
 have v8:=htr.c8
 clear htr t hgv htb hgl hld
 go_enter Tryz.func31,Tryz.ntmps31
 go_upto_region 4 with(fail)
 obtain⟨W,hW⟩:∃W,W=w.alloc (.cells #[.int .i64 K.F,.int .i64 K.B,.int .i64 K.L,.func fn xs ys,.pointer (some ⟨v.b,0,none⟩),.int .i64 ((n:Int)+1),.slice ga gl gc,.int .i64 T.fl,.int .i64 T.le] 110):=⟨_,rfl⟩
 have HX:=Lib.hid (show Below w.heap.size w W by rw[hW];exact(Below.refl _ w).alloc (Nat.le_refl _) _)
 have HV:=Lib.hid (show Yg W w.heap.size K.F K.B K.L (.func fn xs ys) v.b ((n:Int)+1) (.slice ga gl gc) T.fl T.le from⟨by rw[hW];exact Jc.new w _ _⟩)
 rw[<-hW]
 clear hW v0 v1 v2 v3 v4 v5 v6 v7 v8
 have HTW:=Lib.hid (HTR.out.on HX.out)
 have c4:=HTW.out.c4
 have HCA:=Lib.hid (JfE n W v (HH.out.1.m.on HX.out) (Nat.le_trans (Nat.le_trans (Nat.le_add_right _ _) HH.out.1.pot) (by omega)))
 go_wp2_with fail
 refine HCA.out.mono ?_
 rintro e w2 ⟨y,rfl,hy⟩
 have HY:=Lib.hid hy
 have HV2:=Lib.hid (HV.out.on hy.below)
 clear hy HCA c4
 have c4:=HV2.out.c4
 have f4:=HV2.out.fz 4
 go_upto_region 5 with(fail)
 obtain⟨w3,hw3⟩:∃w3,w3=w2.setCell ⟨w.heap.size,4,none⟩ (.pointer (some ⟨y.b,0,none⟩)):=⟨_,rfl⟩
 have HV3:=Lib.hid (show Yg w3 w.heap.size K.F K.B K.L (.func fn xs ys) y.b ((n:Int)+1) (.slice ga gl gc) T.fl T.le from⟨by rw[hw3];exact HV2.out.row.put 4 _⟩)
 have HK3:=Lib.hid (show Jg (fun x=>x=w.heap.size) w2 w3 by rw[hw3];exact(Jg.refl (fun x=>x=w.heap.size) w2).setCell ⟨w.heap.size,4,none⟩ (Or.inl rfl) _)
 rw[<-hw3]
 clear hw3 c4 f4
 have hWs:W.heap.size<=w2.heap.size:=HY.out.below.size
 have hWw:w.heap.size<W.heap.size:=HV.out.lt
 have HB3:=Lib.hid (show Below w.heap.size w w3 from(HX.out.trans (HY.out.below.mono HX.out.size)).trans (HK3.out.below (by omega) fun x e=>by rw[show x=w.heap.size from e];exact Nat.le_refl _))
 have HT3:=Lib.hid (HTR.out.on HB3.out)
 have c6:=HT3.out.c6
 have HG3:=Lib.hid (show ZR w3 (.slice ga gl gc) T.gone by
  have h1:=HH.out.1.c.gn
  rw[HH.out.2] at h1
  exact h1.on HB3.out)
 have HCG:=Lib.hid (JqE HG3.out (by have:=HH.out.1.gone;omega))
 go_wp2_with fail
 refine HCG.out.mono ?_
 rintro e w5 ⟨gv2,rfl,hg5,hgf,hX5⟩
 obtain⟨gb,gd,hgv2⟩:=hg5.form
 have HG5:=Lib.hid (And.intro hg5 (And.intro hgf hX5))
 have HV5:=Lib.hid (HV3.out.on hX5)
 clear hg5 hgf hX5 HCG c6
 have c6:=HV5.out.c6
 have f6:=HV5.out.fz 6
 subst hgv2
 go_upto_region 6 with(fail)
 obtain⟨w6,hw6⟩:∃w6,w6=w5.setCell ⟨w.heap.size,6,none⟩ (.slice gb T.gone.length gd):=⟨_,rfl⟩
 have HV6:=Lib.hid (show Yg w6 w.heap.size K.F K.B K.L (.func fn xs ys) y.b ((n:Int)+1) (.slice gb T.gone.length gd) T.fl T.le from⟨by rw[hw6];exact HV5.out.row.put 6 _⟩)
 have HK6:=Lib.hid (show Jg (fun x=>x=w.heap.size) w5 w6 by rw[hw6];exact(Jg.refl (fun x=>x=w.heap.size) w5).setCell ⟨w.heap.size,6,none⟩ (Or.inl rfl) _)
 rw[<-hw6]
 clear hw6 c6 f6
 go_wp2_with fail
 go_returns
 have h3s:w3.heap.size≥w2.heap.size:=HK3.out.size
 have h5s:w5.heap.size≥w3.heap.size:=HG5.out.2.2.size
 have hB6:Below w.heap.size w w6:=(HB3.out.trans (HG5.out.2.2.mono HB3.out.size)).trans (HK6.out.below (by omega) fun x e=>by rw[show x=w.heap.size from e];exact Nat.le_refl _)
 have hG6:ZR w6 (.slice gb T.gone.length gd) T.gone:=HG5.out.1.keep HK6.out fun x hx e=>by
  have h1:=HG5.out.2.1 x hx
  have h2:x=w.heap.size:=e
  omega
 have hob:∀b∈blocks n y,b≠w.heap.size:=fun b hb e=>by
  have:=HY.out.fresh b hb
  omega
 have hm3:Mem w3 n y:=HY.out.mem.keep HK3.out (fun b e=>by rw[show b=w.heap.size from e];exact HV2.out.soft) fun b hb e=>hob b hb e
 have hm6:Mem w6 n y:=(hm3.on HG5.out.2.2).keep HK6.out (fun b e=>by rw[show b=w.heap.size from e];exact HV5.out.soft) fun b hb e=>hob b hb e
 have t:=HH.out.1
 have hl:=CpR.like n v y [] [] HY.out.r t.ok
 refine⟨w.heap.size,y,.slice gb T.gone.length gd,rfl,⟨⟨⟨?_,hG6,t.c.sh.on hB6⟩,hm6,HY.out.nd,XT n v y [] [] hl t.ok,CpR.shf n v y HY.out.r t.sh,?_,t.wr,?_,?_⟩,Nat.le_refl _,HY.out.r,fun b hb=>Nat.le_trans (Nat.le_of_lt hWw) (HY.out.fresh b hb),fun x hx=> ?_,hB6⟩⟩
 ·show Yg w6 w.heap.size K.F K.B K.L (ldV K.sb) y.b ((n+1:Nat):Int) _ T.fl T.le
  rw[HLD.out]
  have h:=HV6.out
  rwa[show((n+1:Nat):Int)=(n:Int)+1 by omega]
 ·rw[X3 n _ _ hl];exact t.pot
 ·rw[HY.out.r.addrs];exact t.gone
 ·rw[Ja0 n _ _ hl];exact t.fl
 ·have:=HG5.out.2.1 x hx
  omega
end Go.Proofs.YtafciefjlkdecaaGreat
