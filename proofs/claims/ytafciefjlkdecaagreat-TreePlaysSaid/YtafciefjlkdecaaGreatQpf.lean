/-
  What is run on a vertex: steps, in memory; what must hold ahead of it. slices.Sort, slices.Sorted at ints, laid; slices.Values of nil; what was gone when nothing was. The walks of a commit of a tree of one leaf: the saver's vertex, Commit. The walk of hand, over that of order. Children are put in order: plain laws, and what a child's place becomes in memory. The walk of order over leaves. The walk of order over inner vertices, over that of hand below. What is done to a root: it is parted and has a new one above it, or its one child stands in its place. The walk of rise: a root that is parted has a new one above it. The walk of top: a root is as it may be. The walk of room: a message of a key may come into the root. The sums of what is known stay small.
-/
import Derived.RangeFuncNested
import Derived.RangeFuncBound
import Derived.RangeFuncCalls
import Derived.RangeFuncLeaves
import Derived.RangeFuncBox
import Derived.Shelf.Abstract
import Derived.Shelf.RegionOpen
import Derived.WalkKit
import Derived.OwnWalkIn
import Derived.TacticsInMore
import Derived.LoopNIn
import Derived.LoopIn
import Derived.Shelf.SlIterI.Sorted
import Derived.Shelf.Sort.Plain
import Derived.Shelf.Slices.In.SortNone
import Derived.Ground.NamesProg
import Derived.Ground.GgzProg
import Derived.Deep.LoopGhost
import Derived.Test.YtafciefjlkdecaaGreatQpe
set_option maxRecDepth 100000
set_option maxHeartbeats 16000000
namespace Go.Proofs.YtafciefjlkdecaaGreat
open Go.RowKit
def Jjg (a m:Nat):Nat:=if a=0\/m<a then m else a
structure Ran (K:Kx) (root h n:Nat) (w:World) (v:Vt) (T:Tx) (w':World) (v':Vt) (T':Tx) (g:List Int) (l:List Nat):Prop where
 sm:Sm K.F K.L n v v' g l
 mv:Mv K root h n w v T w' v' T'
 gone:T'.gone=T.gone++g
 fl:T'.fl=T.fl+l.length
 le:T'.le=l.foldl Jjg T.le
 wr:T'.wr<=T.wr
structure Ja7 (K:Kx):Prop where
 F:3<=K.F
 F2:K.F<=1000
 B:1<=K.B
 B2:K.B<=1000
 L:3<=K.L
 L2:K.L<=1000
 near:Jd0 K.f
structure Pre (K:Kx) (root h n:Nat) (lo hi:List UInt8) (w:World) (v:Vt) (T:Tx):Prop where
 c:CAt w K root h T
 m:Mem w n v
 nd:(blocks n v).Nodup
 ok:Ok n lo hi v
 sh:Shf K.f n v
 pot:pot n v<=800
 wr:T.wr<=1000
 gone:T.gone.length+(addrs n v).length<=1000000
 fl:T.fl+mu n v<=1000000000000
theorem Sm.pos {F L:Nat} {n:Nat} {v v':Vt} {g:List Int} {h:List Nat} (s:Sm F L n v v' g h):∀m∈h,0<m:=by
 induction s with
 |refl=>simp
 |trans _ _ i1 i2=>exact fun m hm=>(List.mem_append.1 hm).elim (i1 m) (i2 m)
 |load=>simp
 |soil=>simp
 |kid _ _ _ i=>exact i
 |kidLoad=>simp
 |hand _ _ _ h=>exact fun m hm=>by rw[List.mem_singleton] at hm;rw[hm];exact h
 |parts=>simp
 |drop=>simp
 |halve=>simp
theorem ZP:∀ {l:List Nat},(∀m∈l,0<m)->l.length<=l.sum
 |[],_=>Nat.le_refl _
 |m::l,h=>by
  have h1:=h m (by simp)
  have h2:=ZP (l:=l) fun x hx=>h x (List.mem_cons_of_mem _ hx)
  simp only[List.length_cons,List.sum_cons]
  omega
section
variable {K:Kx} {root h n:Nat} {w w1 w2:World} {v v1 v2:Vt} {T T1 T2:Tx} {g g':List Int} {l l':List Nat} {lo hi:List UInt8}
theorem Ran.refl (hm:Mem w n v) (hn:(blocks n v).Nodup) (c:CAt w K root h T):Ran K root h n w v T w v T [] []:=
 ⟨.refl n v,Mv.refl hm hn c,by simp,rfl,rfl,Nat.le_refl _⟩
theorem Ran.trans (a:Ran K root h n w v T w1 v1 T1 g l) (b:Ran K root h n w1 v1 T1 w2 v2 T2 g' l'):Ran K root h n w v T w2 v2 T2 (g++g') (l++l'):=
 ⟨.trans a.sm b.sm,a.mv.trans b.mv,by rw[b.gone,a.gone,List.append_assoc],by rw[b.fl,a.fl,List.length_append];omega,by rw[b.le,a.le,List.foldl_append],Nat.le_trans b.wr a.wr⟩
theorem Ran.on (a:Ran K root h n w v T w1 v1 T1 g l) (hb:Below w1.heap.size w1 w2):Ran K root h n w v T w2 v1 T1 g l:=⟨a.sm,a.mv.on hb,a.gone,a.fl,a.le,a.wr⟩
theorem Pre.next (hP:Ja7 K) (p:Pre K root h n lo hi w v T) (a:Ran K root h n w v T w1 v1 T1 g l):Pre K root h n lo hi w1 v1 T1:=by
 have hl:=a.sm.less hP.F hP.L p.ok
 have ha:=a.sm.addrs.length_eq
 have h1:=p.gone
 have h2:=p.fl
 have h3:=ZP a.sm.pos
 have h4:=hl.mu
 rw[List.length_append] at ha
 refine⟨a.mv.cx,a.mv.mem,a.mv.nodup,(a.sm.good p.ok).1,a.sm.shf p.sh,Nat.le_trans hl.pot p.pot,Nat.le_trans a.wr p.wr,?_,?_⟩
 ·rw[a.gone,List.length_append];omega
 ·rw[a.fl];omega
theorem Pre.on (p:Pre K root h n lo hi w v T) (hb:Below w.heap.size w w1):Pre K root h n lo hi w1 v T:=
 ⟨p.c.on hb,p.m.on hb,p.nd,p.ok,p.sh,p.pot,p.wr,p.gone,p.fl⟩
theorem Jou {α:Type} (f:Chd×Vt->List α) {l:List (Chd×Vt)} {x:Chd×Vt} (hx:x∈l):(f x).length<=(l.flatMap f).length:=by
 induction l with
 |nil=>simp at hx
 |cons y l ih=>
  rw[List.flatMap_cons,List.length_append]
  rcases List.mem_cons.1 hx with rfl|hx
  ·omega
  ·have:=ih hx;omega
theorem JfH {α:Type} (f:Chd×Vt->List α) {l:List (Chd×Vt)} (h:(l.flatMap f).Nodup) {x:Chd×Vt} (hx:x∈l):(f x).Nodup:=by
 induction l with
 |nil=>simp at hx
 |cons y l ih=>
  rw[List.flatMap_cons,List.nodup_append] at h
  rcases List.mem_cons.1 hx with rfl|hx
  ·exact h.1
  ·exact ih h.2.1 hx
theorem Pre.kid (p:Pre K root h (n+1) lo hi w v T) (hl:v.ld=true) {A:List (Chd×Vt)} {c:Chd} {t:Vt} {D:List (Chd×Vt)} (e:v.ch=A++(c,t)::D):Pre K root h n (loA lo A c) (hiD hi D) w t T:=by
 have hx:(c,t)∈v.ch:=by rw[e];simp
 have h1:=(p.m.node hl).2 (c,t) hx
 have hnd:=p.nd
 rw[JL p.m.in,List.nodup_cons] at hnd
 have hg:=p.gone
 have ha:=Jou (fun x:Chd×Vt=>addrs n x.2) hx
 rw[JG,List.length_append] at hg
 have hm:mu n t<=mu (n+1) v:=by
  rw[Yd]
  have:mu n t<=Yf (mu n) v.ch:=Jhy (f:=mu n) hx
  omega
 refine⟨p.c,h1,JfH _ hnd.2 hx,(p.ok.mid e).t,p.sh.2 _ hx,Jai p.pot hx,p.wr,?_,?_⟩
 ·unfold YG at hg
  have ha':(addrs n t).length<=(v.ch.flatMap fun x=>addrs n x.2).length:=ha
  omega
 ·have:=p.fl;omega
theorem Ran.kid (hm:Mem w (n+1) v) (hl:v.ld=true) (hn:(blocks (n+1) v).Nodup) (c0:CAt w K root h T) (hk:v.kn=none) {A:List (Chd×Vt)} {c:Chd} {t t':Vt} {D:List (Chd×Vt)} (e:v.ch=A++(c,t)::D) (a:Ran K root h n w t T w1 t' T1 g l):
  Ran K root h (n+1) w v T w1 {v with ch:=A++(c,t')::D} T1 g l:=
 ⟨.kid e hk a.sm,a.mv.kid hm hl hn c0 e,a.gone,a.fl,a.le,a.wr⟩
end
def Gd (K:Kx):Nat->Vt->Prop
 |0,v=>v.es.length<=K.L
 |n+1,v=>v.ch.length<=K.F/\v.us.length<=K.B/\∀x∈v.ch,Gd K n x.2
def Gk (K:Kx):Nat->Vt->Prop
 |0,_=>True
 |n+1,v=>∀x∈v.ch,Gd K n x.2
def Jls (n:Nat):Prop:=∀(K:Kx) (root h:Nat) (lo hi:List UInt8) (w:World) (v:Vt) (T:Tx) (hh:Int),Ja7 K->Pre K root h (n+1) lo hi w v T->v.ld=true->v.us≠[]->hh=(n:Int)+2->n<=100->
 Calls Tryz.prog 64 #[.pointer (some ⟨K.tb,0,none⟩),.pointer (some ⟨v.b,0,none⟩),.int .i64 hh] w fun e w'=>∃v' T' g l,Ran K root h (n+1) w v T w' v' T' g l/\((e=.returned (.int .i64 0)/\v'.kn=none/\l≠[]/\(Gk K (n+1) v->Gk K (n+1) v'))\/(e=.returned (.int .i64 10)/\0<T.wr))/\((K.B<=v.us.length/\v.ch.length<=K.F)->∀m∈l,K.B/K.F<=m)
def JeF (n:Nat):Prop:=∀(K:Kx) (root h:Nat) (lo hi:List UInt8) (w:World) (v:Vt) (T:Tx) (hh:Int) (k en:Nat),Ja7 K->Pre K root h (n+1) lo hi w v T->v.ld=true->v.kn=none->k<=en->en<=v.ch.length->(∀i x,k<=i->i<en->v.ch[i]? =some x->x.2.ld=true/\x.2.kn=none)->hh=(n:Int)+2->n<=100->
 Calls Tryz.prog 73 #[.pointer (some ⟨K.tb,0,none⟩),.pointer (some ⟨v.b,0,none⟩),.int .i64 k,.int .i64 en,.int .i64 hh] w fun e w'=>∃v' T' g l,Ran K root h (n+1) w v T w' v' T' g l/\((e=.returned (.int .i64 0)/\((∀i x,v.ch[i]? =some x->if k<=i/\i<en then Gk K n x.2 else Gd K n x.2)->Gk K (n+1) v'))\/(e=.returned (.int .i64 10)/\0<T.wr))/\∀m∈l,K.B/K.F<=m
end Go.Proofs.YtafciefjlkdecaaGreat
namespace Go.Proofs.YtafciefjlkdecaaGreat
open Go.RowKit Go.Maps Go.Sort Go.Shelf
set_option linter.unusedVariables false
attribute [local go_sem] Oper.semAt_some
def Jmp:Go.Shelf.Ren:=⟨fun|189=>82|125=>111|257=>110|128=>148|129=>149|294=>139|295=>140|296=>141|297=>142|298=>143|299=>144|216=>145|300=>146|301=>147|328=>168|329=>169|330=>170|331=>171|332=>172|215=>173|343=>183|n=>n,fun|28=>55|3=>3|46=>210|0=>0|51=>52|53=>25|4=>4|183=>244|182=>243|131=>180|5=>5|9=>9|218=>270|222=>274|228=>285|229=>41|n=>n,fun|n=>n⟩
theorem Jqh:Go.Proofs.Lays.n189 Tryz.prog Jmp:= {
 mixed:=(by kernel_rfl),
 f125:=Tryz.func111.trans (congrArg some (by kernel_rfl)),
 f128:=Tryz.func148.trans (congrArg some (by kernel_rfl)),
 f129:=Tryz.func149.trans (congrArg some (by kernel_rfl)),
 f189:=Tryz.func82.trans (congrArg some (by kernel_rfl)),
 f215:=Tryz.func173.trans (congrArg some (by kernel_rfl)),
 f216:=Tryz.func145.trans (congrArg some (by kernel_rfl)),
 f257:=Tryz.func110.trans (congrArg some (by kernel_rfl)),
 f294:=Tryz.func139.trans (congrArg some (by kernel_rfl)),
 f295:=Tryz.func140.trans (congrArg some (by kernel_rfl)),
 f296:=Tryz.func141.trans (congrArg some (by kernel_rfl)),
 f297:=Tryz.func142.trans (congrArg some (by kernel_rfl)),
 f298:=Tryz.func143.trans (congrArg some (by kernel_rfl)),
 f299:=Tryz.func144.trans (congrArg some (by kernel_rfl)),
 f300:=Tryz.func146.trans (congrArg some (by kernel_rfl)),
 f301:=Tryz.func147.trans (congrArg some (by kernel_rfl)),
 f328:=Tryz.func168.trans (congrArg some (by kernel_rfl)),
 f329:=Tryz.func169.trans (congrArg some (by kernel_rfl)),
 f330:=Tryz.func170.trans (congrArg some (by kernel_rfl)),
 f331:=Tryz.func171.trans (congrArg some (by kernel_rfl)),
 f332:=Tryz.func172.trans (congrArg some (by kernel_rfl)),
 f343:=Tryz.func183.trans (congrArg some (by kernel_rfl)),
 t0:=Tryz.underlying0,
 a0:=Tryz.isAgg0,
 z0:=Tryz.sizeOf0,
 v0:=Tryz.zeroValue0,
 t3:=Tryz.underlying3,
 a3:=Tryz.isAgg3,
 z3:=Tryz.sizeOf3,
 v3:=Tryz.zeroValue3,
 t4:=Tryz.underlying4,
 a4:=Tryz.isAgg4,
 z4:=Tryz.sizeOf4,
 v4:=Tryz.zeroValue4,
 t5:=Tryz.underlying5,
 a5:=Tryz.isAgg5,
 z5:=Tryz.sizeOf5,
 v5:=Tryz.zeroValue5,
 t9:=Tryz.underlying9,
 a9:=Tryz.isAgg9,
 z9:=Tryz.sizeOf9,
 v9:=Tryz.zeroValue9,
 t28:=Tryz.underlying55,
 a28:=Tryz.isAgg55,
 z28:=Tryz.sizeOf55,
 v28:=Tryz.zeroValue55,
 t46:=Tryz.underlying210,
 a46:=Tryz.isAgg210,
 z46:=Tryz.sizeOf210,
 v46:=Tryz.zeroValue210,
 t51:=Tryz.underlying52,
 a51:=Tryz.isAgg52,
 z51:=Tryz.sizeOf52,
 v51:=Tryz.zeroValue52,
 t53:=Tryz.underlying25,
 a53:=Tryz.isAgg25,
 z53:=Tryz.sizeOf25,
 v53:=Tryz.zeroValue25,
 t131:=Tryz.underlying180,
 a131:=Tryz.isAgg180,
 z131:=Tryz.sizeOf180,
 v131:=Tryz.zeroValue180,
 t182:=Tryz.underlying243,
 a182:=Tryz.isAgg243,
 z182:=Tryz.sizeOf243,
 v182:=Tryz.zeroValue243,
 t183:=Tryz.underlying244,
 a183:=Tryz.isAgg244,
 z183:=Tryz.sizeOf244,
 v183:=Tryz.zeroValue244,
 t218:=Tryz.underlying270,
 a218:=Tryz.isAgg270,
 z218:=Tryz.sizeOf270,
 v218:=Tryz.zeroValue270,
 t222:=Tryz.underlying274,
 a222:=Tryz.isAgg274,
 z222:=Tryz.sizeOf274,
 v222:=Tryz.zeroValue274,
 t228:=Tryz.underlying285,
 a228:=Tryz.isAgg285,
 z228:=Tryz.sizeOf285,
 v228:=Tryz.zeroValue285,
 t229:=Tryz.underlying41,
 a229:=Tryz.isAgg41,
 z229:=Tryz.sizeOf41,
 v229:=Tryz.zeroValue41}
def Jd4:Go.Shelf.Ren:=⟨fun|6=>45|8=>81|9=>82|11=>109|13=>111|12=>110|23=>148|24=>149|14=>139|15=>140|16=>141|17=>142|18=>143|19=>144|20=>145|21=>146|22=>147|25=>168|26=>169|27=>170|28=>171|29=>172|30=>173|31=>183|n=>n,fun|26=>3|28=>126|24=>55|0=>0|3=>3|37=>210|48=>52|50=>25|4=>4|40=>244|39=>243|45=>180|5=>5|9=>9|51=>270|55=>274|57=>285|58=>41|33=>170|n=>n,fun|n=>n⟩
theorem Jly:Go.Proofs.SlLaysZI.n6 Tryz.prog Jd4:= {
 mixed:=(by kernel_rfl),
 f6:=⟨Tryz.f45.name,by decide,Tryz.func45.trans (congrArg some (by kernel_rfl))⟩,
 f8:=⟨Tryz.f81.name,by decide,Tryz.func81.trans (congrArg some (by kernel_rfl))⟩,
 f11:=⟨Tryz.f109.name,by decide,Tryz.func109.trans (congrArg some (by kernel_rfl))⟩,
 t0:=Tryz.underlying0,
 a0:=Tryz.isAgg0,
 z0:=Tryz.sizeOf0,
 v0:=Tryz.zeroValue0,
 t24:=Tryz.underlying55,
 a24:=Tryz.isAgg55,
 z24:=Tryz.sizeOf55,
 v24:=Tryz.zeroValue55,
 t26:=Tryz.underlying3,
 a26:=Tryz.isAgg3,
 z26:=Tryz.sizeOf3,
 v26:=Tryz.zeroValue3,
 t28:=Tryz.underlying126,
 a28:=Tryz.isAgg126,
 z28:=Tryz.sizeOf126,
 v28:=Tryz.zeroValue126,
 i26:=(by kernel_rfl)}
theorem JnK (m:Nat):AnyZI.SortsIn Tryz.prog Jd4 Fence.wide m:=
 ⟨fun blk off cap ss W hH hblk hsz=>callsIn_wide.2 (Any.slices_Sort_int Jqh blk off cap ss W hH hblk hsz),
  fun p cap W=>callsIn_wide.2 (Any.slices_Sort_int_none Jqh p cap W)⟩
theorem JeN (a:Option Addr) (len cap:Nat) (w:World):
  Calls Tryz.prog 46 #[.slice a len cap] w fun e w'=>e=.returned (.func (.func 83) #[] #[.pointer (some ⟨w.heap.size,0,none⟩)])/\w'=w.alloc (.cells #[.slice a len cap] 55):=by
 refine(callsIn_wide (n:=5)).1 ?_
 refine callsIn_of_wp Tryz.func46 rfl trivial ?_ rfl
 simp only[Tryz.ntmps46,List.size_toArray,List.length_cons,List.length_nil,Nat.reduceAdd,Nat.reduceSub,Array.replicate_succ,Array.replicate_zero,List.push_toArray,List.append_toArray,List.nil_append,List.cons_append]
 gi_wp2
 go_ret
 exact⟨rfl,rfl⟩
theorem Jbo (F:Fence) (n:Nat) (h8:F.fn 83) (hro:F.round=none) (l Bs:Nat) (J:List Int->World->Prop) (W:World) (hBs:W.cell? ⟨Bs,0,none⟩=some (.slice none 0 0)) (h0:J [] W):
  CallsIn F n Tryz.prog 83 #[.func (.yield l) #[] #[],.pointer (some ⟨Bs,0,none⟩)] W fun e W'=>(∃v,e=.returned v)/\J [] W':=by
 refine callsIn_of_wp Tryz.func83 rfl h8 ?_ hro
 simp only[Tryz.ntmps83,List.size_toArray,List.length_cons,List.length_nil,Nat.reduceAdd,Nat.reduceSub,Array.replicate_succ,Array.replicate_zero,List.push_toArray,List.append_toArray,List.nil_append,List.cons_append]
 gi_wp2
 gi_loopw [7] (fun i wr=>i=.int .i64 0/\J [] wr) (fun _ _=>0)
 case atStart=>exact⟨rfl,h0⟩
 case round=>
  obtain⟨rfl,hJs⟩:=hrel
  gi_wp2
  go_end0
  exact⟨⟨_,rfl⟩,hJs⟩
theorem Jkj (w:World):
  Calls Tryz.prog 45 #[.func (.func 83) #[] #[.pointer (some ⟨w.heap.size,0,none⟩)]] (w.alloc (.cells #[.slice none 0 0] 55)) fun e w'=>e=.returned (.slice none 0 0)/\Below w.heap.size w w':=by
 obtain⟨w1,hw1⟩:∃w1,w1=w.alloc (.cells #[.slice none 0 0] 55):=⟨_,rfl⟩
 have hc:w1.cell? ⟨w.heap.size,0,none⟩=some (.slice none 0 0):=by rw[hw1];simp[go_sem]
 have hs:w.heap.size<w1.heap.size:=by rw[hw1];simp
 have hb0:Below w.heap.size w w1:=by rw[hw1];exact(Below.refl _ w).alloc (Nat.le_refl _) _
 rw[<-hw1]
 clear hw1
 have hseq:SeqGives Fence.wide 2 Tryz.prog 83 #[.pointer (some ⟨w.heap.size,0,none⟩)] encZ (fun ss=>ss=[]) 0 w1:=by
  intro l J W hW _ hY h0
  exact(Jbo Fence.wide 2 trivial rfl l w.heap.size J W ((hW.cell (p:=⟨w.heap.size,0,none⟩) hs).trans hc) h0).mono fun e W' ⟨he,hj⟩=>⟨he,[],rfl,hj⟩
 have cS:=AnyZI.sorted_in Jly Fence.wide 5 trivial trivial trivial trivial rfl (by omega) (JnK _) (enters_of Tryz.func82 (by kernel_rfl) rfl) 83 #[.pointer (some ⟨w.heap.size,0,none⟩)] trivial (enters_of Tryz.func83 (by kernel_rfl) rfl) _ 0 (Nat.zero_le _) (by omega) _ hseq
 change CallsIn _ _ Tryz.prog 45 _ _ _ at cS
 refine(callsIn_wide.1 cS).mono ?_
 rintro e w' ⟨v,ss,rfl,rfl,hrow,hnil,hb⟩
 exact⟨by rw[hnil.2 rfl],hb0.trans (hb.mono (by omega))⟩
end Go.Proofs.YtafciefjlkdecaaGreat
namespace Go.Proofs.YtafciefjlkdecaaGreat
open Go.RowKit
attribute [local go_sem ↓] Go.wp_at_zero Go.wp_at_succ
theorem JlF (fn:Fn) (xs ys:Array Value) (w:World):(binOp BinOp.eql 117 (.func fn xs ys) .nilFunc).run Tryz.prog w=.ok (.bool false) w:=by
 kernel_rfl
structure Y6 (w:World) (E:TypeId) (b:Nat) (cur:List Value):Prop where
 row:Jc w E b cur
theorem Y6.on {w w':World} {E:TypeId} {b:Nat} {cur:List Value} (h:Y6 w E b cur) (hb:Below w.heap.size w w'):Y6 w' E b cur:=⟨h.row.on hb⟩
theorem Y6.kept {w w':World} {E:TypeId} {b:Nat} {cur:List Value} {B:Nat} (h:Y6 w E b cur) (hb:Below B w w') (hB:w.heap.size<=B):Y6 w' E b cur:=h.on (hb.mono hB)
theorem Y6.keep {S:Nat->Prop} {w w':World} {E:TypeId} {b:Nat} {cur:List Value} (h:Y6 w E b cur) (hk:Jg S w w') (hs:¬S b):Y6 w' E b cur:=⟨hk.row h.row hs⟩
theorem Y6.cell {w:World} {E:TypeId} {b:Nat} {cur:List Value} (h:Y6 w E b cur) (i:Nat):w.cell? ⟨b,i,none⟩=cur[i]? :=h.row.cell i
theorem Y6.fz {w:World} {E:TypeId} {b:Nat} {cur:List Value} (h:Y6 w E b cur) (i:Nat):w.frozen? ⟨b,i,none⟩=false:=h.row.frozen i
structure JaJ (w:World) (vb:Nat) (fv:Value) (db:Nat):Prop where
 row:Jc w 121 vb [fv,.map (some db)]
section
variable {w w':World} {vb db:Nat} {fv:Value}
theorem JaJ.on (h:JaJ w vb fv db) (hb:Below w.heap.size w w'):JaJ w' vb fv db:=⟨h.row.on hb⟩
theorem JaJ.kept {B:Nat} (h:JaJ w vb fv db) (hb:Below B w w') (hB:w.heap.size<=B):JaJ w' vb fv db:=h.on (hb.mono hB)
theorem JaJ.c0 (h:JaJ w vb fv db):w.cell? ⟨vb,0,none⟩=some fv:=h.row.cell 0
theorem JaJ.c1 (h:JaJ w vb fv db):w.cell? ⟨vb,1,none⟩=some (.map (some db)):=h.row.cell 1
end
theorem Jkk {vb db b sb mb nn sz:Nat} {f:Int->Option Blk} {gen:Nat} {wrong:Int} {cl:Nat} {pa:Int} {pg ps:Nat} {ld:Bool} {a:Option Addr} {n c:Nat} {cs us:Value} {es:List Ent} (at':Nat) (w:World)
  (hs0:JaJ w vb (.func (.func 20) #[.pointer (some ⟨sb,0,none⟩)] #[]) db) (hd:w.heap[db]? =some (.map #[] cl))
  (hv:Jq w b false pa pg ps ld (.slice a n c) cs us (.slice none 0 0)) (hb:Zq w (.agg #[.slice a n c]) es) (hn:n=es.length) (hl:es.length<=10000) (hf:ZI es)
  (hsh:Js w sb mb nn sz f gen wrong) (ha:at'<100000) (hfree:f (at':Int)=none) (hused:∀j:Nat,j<at'->(f (j:Int)).isSome=true) (hnn:nn<100000) (hg:gen<1000000) (hdm:db≠mb):
  Calls Tryz.prog 44 #[.pointer (some ⟨vb,0,none⟩),.pointer (some ⟨b,0,none⟩)] w fun e w'=>e=.returned (.tuple #[.agg #[.int .i64 at',.int .u64 (gen+1:Nat),.int .u32 0],.int .i64 0])/\Js w' sb mb (nn+1) (sz+1) (fun i=>if i=(at':Int) then some ⟨4,JO es,gen+1⟩ else f i) (gen+1) wrong/\Jg (fun x=>x=sb\/x=mb\/x=db) w w':=by
 have HT:=Lib.hid (fun w' h=>Jdg a n c es w' hn h hl hf)
 have HSV:=Lib.hid (fun w' (h:Js w' sb mb nn sz f gen wrong)=>JiD 4 (JO es) at' w' h ha hfree hused hnn hg)
 have hr:=hs0.row
 have hsb:sb≠vb:=fun e=>by
  subst e
  have h1:=hsh.row
  unfold Jc at h1 hr
  rw[h1] at hr
  simp at hr
 have hbs:b≠sb:=fun e=>by
  subst e
  have h1:=hsh.row
  have h2:=hv.row
  unfold Jc at h1 h2
  rw[h1] at h2
  simp at h2
 obtain⟨DD,⟨es0,clock0,hmb,hmb2⟩,hmb3⟩:=hsh.map.own
 have hvm:vb≠mb:=fun e=>by
  subst e
  unfold Jc at hr
  rw[hr] at hmb
  simp at hmb
 have hbm:b≠mb:=fun e=>by
  subst e
  have h2:=hv.row
  unfold Jc at h2
  rw[h2] at hmb
  simp at hmb
 have hds:db≠sb:=fun e=>by
  subst e
  have h2:=hsh.row
  unfold Jc at h2
  rw[h2] at hd
  simp at hd
 have hdv:db≠vb:=fun e=>by
  subst e
  unfold Jc at hr
  rw[hr] at hd
  simp at hd
 have hdb:db≠b:=fun e=>by
  subst e
  have h2:=hv.row
  unfold Jc at h2
  rw[h2] at hd
  simp at hd
 have HS:=Lib.hid hsh
 have HB:=Lib.hid hb
 have hR:=Lib.hid hs0
 have hV:=Lib.hid hv
 have hD:=Lib.hid hd
 have hb0:=Below.refl w.heap.size w
 have hwz:b<w.heap.size:=hv.lt
 have hvz:vb<w.heap.size:=hr.lt
 have hdz:db<w.heap.size:=by
  rcases Nat.lt_or_ge db w.heap.size with h|h
  ·exact h
  ·rw[Array.getElem?_eq_none h] at hd;cases hd
 have hsz':sb<w.heap.size:=hsh.row.lt
 have hmz':mb<w.heap.size:=hsh.map.lt
 clear hn hsh hb hr hs0 hv hd hmb hmb2 hmb3 hf hused hfree
 go_enter Tryz.func44,Tryz.ntmps44
 go_upto_region 1 with(fail)
 obtain⟨W,hW⟩:∃W,W=w.alloc (.cells #[.int .i64 0,.int .u64 0,.int .u32 0] 54):=⟨_,rfl⟩
 have hG:=Lib.hid (show Y6 W 54 w.heap.size [.int .i64 0,.int .u64 0,.int .u32 0] from⟨by rw[hW];exact Jc.new w _ _⟩)
 have hX_W:Below w.heap.size w W:=by rw[hW];exact(Below.refl _ w).alloc (Nat.le_refl _) _
 rw[<-hW]
 clear hW
 replace HS:=Lib.hid (HS.out.kept hX_W (Nat.le_refl _))
 replace HB:=Lib.hid (HB.out.kept hX_W (Nat.le_refl _))
 replace hV:=Lib.hid (hV.out.kept hX_W (Nat.le_refl _))
 replace hR:=Lib.hid (hR.out.kept hX_W (Nat.le_refl _))
 replace hb0:=hb0.trans hX_W
 clear hX_W
 have c0:=hV.out.c0
 have c5:=hV.out.c5
 have c8:=hV.out.c8
 go_wp2_with fail
 go_wp2_with fail
 refine(Jl (HT.out W HB.out) W.heap.size W (Below.refl _ _) (Nat.le_refl _)).mono ?_
 rintro e w1 ⟨rfl,hX_w1,-,-,-,hz_w1⟩
 replace HS:=Lib.hid (HS.out.kept hX_w1 (Nat.le_refl _))
 replace HB:=Lib.hid (HB.out.kept hX_w1 (Nat.le_refl _))
 replace hV:=Lib.hid (hV.out.kept hX_w1 (Nat.le_refl _))
 replace hR:=Lib.hid (hR.out.kept hX_w1 (Nat.le_refl _))
 replace hG:=Lib.hid (hG.out.kept hX_w1 (Nat.le_refl _))
 replace hb0:=hb0.trans (hX_w1.mono hb0.size)
 clear hX_w1
 have q0:=hR.out.c0
 go_wp2_with fail
 refine(HSV.out w1 HS.out).mono ?_
 rintro e w2 ⟨rfl,hsh2,hK2⟩
 have hws:¬(w.heap.size=sb\/w.heap.size=mb):=by omega
 have hG2:=Lib.hid (hG.out.keep hK2 hws)
 have HS2:=Lib.hid hsh2
 have hR2:=Lib.hid (show JaJ w2 vb _ db from⟨hK2.row hR.out.row (by show¬(vb=sb\/vb=mb);omega)⟩)
 have hD2:=Lib.hid ((hK2.block db (by have:=hb0.size;omega) (by show¬(db=sb\/db=mb);omega)).trans ((hb0.block db hdz).trans hD.out))
 have hK:=((Jg.of_below (S:=fun x=>x=sb\/x=mb\/x=db) hb0)).trans hK2 (fun x hx=>Or.inl (by rcases hx with h|h;exact Or.inl h;exact Or.inr (Or.inl h)))
 clear hsh2 hK2 HS hV hR HB hG hb0 hws c0 c5 c8 q0
 go_upto_region 11 with(fail)
 obtain⟨W3,hW3⟩:∃W3,W3=w2.alloc (.cells #[.int .i64 (at':Int),.int .u64 ((gen:Int)+1),.int .u32 0] 54):=⟨_,rfl⟩
 have hX3:Below w2.heap.size w2 W3:=by rw[hW3];exact(Below.refl _ w2).alloc (Nat.le_refl _) _
 have hP:=Lib.hid (show Y6 W3 54 w2.heap.size [.int .i64 (at':Int),.int .u64 ((gen:Int)+1),.int .u32 0] from⟨by rw[hW3];exact Jc.new w2 _ _⟩)
 rw[<-hW3]
 clear hW3
 have hG3:=Lib.hid (hG2.out.on hX3)
 have HS3:=Lib.hid (HS2.out.on hX3)
 have hR3:=Lib.hid (hR2.out.on hX3)
 have hdz2:db<w2.heap.size:=by have:=hK.size;omega
 have hD3:=Lib.hid ((hX3.block db hdz2).trans hD2.out)
 have hK3:=hK.on hX3
 have hww:w.heap.size<=w2.heap.size:=hK.size
 have hww3:w2.heap.size<=W3.heap.size:=hX3.size
 clear hG2 HS2 hR2 hD2 hX3 hK
 have hD4:W3.drew.heap[db]? =some (.map #[] cl):=hD3.out
 obtain⟨wz,hrun,hgz⟩:=JmH W3.drew db cl ⟨b,0,none⟩ (.agg #[.int .i64 (at':Int),.int .u64 ((gen:Int)+1),.int .u32 0]) hD4
 have q1:=hR3.out.c1
 have p0:W3.cell? ⟨w2.heap.size,0,none⟩=some (.int .i64 (at':Int)):=hP.out.cell 0
 have p1:W3.cell? ⟨w2.heap.size,1,none⟩=some (.int .u64 ((gen:Int)+1)):=hP.out.cell 1
 have p2:W3.cell? ⟨w2.heap.size,2,none⟩=some (.int .u32 0):=hP.out.cell 2
 go_region
 all_goals
  have hGz:=Lib.hid (show Jc wz 54 w.heap.size _ from hG3.out.row.drew.kept hgz (fun e=>by have:=Option.some.inj e;omega))
  have hPz:=Lib.hid (show Jc wz 54 w2.heap.size _ from hP.out.row.drew.kept hgz (fun e=>by have:=Option.some.inj e;omega))
  have hSz:=Lib.hid (show Js wz sb mb (nn+1) (sz+1) _ (gen+1) wrong from⟨HS3.out.row.drew.kept hgz (fun e=>hds (Option.some.inj e).symm),(HS3.out.map.on (Jb (Below.refl _ _))).kept' hgz (fun e=>hdm (Option.some.inj e).symm)⟩)
  have hKz:=(hK3.on (Jb (Below.refl _ _))).grown hgz (fun k e=>Or.inl (Or.inr (Or.inr (Option.some.inj e).symm)))
  have k0:wz.cell? ⟨w2.heap.size,0,none⟩=some (.int .i64 (at':Int)):=hPz.out.cell 0
  have k1:wz.cell? ⟨w2.heap.size,1,none⟩=some (.int .u64 ((gen:Int)+1)):=hPz.out.cell 1
  have k2:wz.cell? ⟨w2.heap.size,2,none⟩=some (.int .u32 0):=hPz.out.cell 2
  have kf0:=hGz.out.frozen 0
  have kf1:=hGz.out.frozen 1
  have kf2:=hGz.out.frozen 2
  have g0:wz.cell? ⟨w.heap.size,0,none⟩=some (.int .i64 0):=hGz.out.cell 0
  have g1:wz.cell? ⟨w.heap.size,1,none⟩=some (.int .u64 0):=hGz.out.cell 1
  have g2:wz.cell? ⟨w.heap.size,2,none⟩=some (.int .u32 0):=hGz.out.cell 2
  clear hgz q1 p0 p1 p2 hD4 hG3 hP HS3 hR3 hD3 hK3
  go_wp2_with fail
  obtain⟨ZZ,hZZ⟩:∃ZZ,ZZ=((wz.setCell ⟨w.heap.size,0,none⟩ (.int .i64 (at':Int))).setCell ⟨w.heap.size,1,none⟩ (.int .u64 ((gen:Int)+1))).setCell ⟨w.heap.size,2,none⟩ (.int .u32 0):=⟨_,rfl⟩
  have hrow:Jc ZZ 54 w.heap.size [.int .i64 (at':Int),.int .u64 ((gen:Int)+1),.int .u32 0]:=by rw[hZZ];exact((hGz.out.put 0 _).put 1 _).put 2 _
  have t0:ZZ.cell? ⟨w.heap.size,0,none⟩=some (.int .i64 (at':Int)):=hrow.cell 0
  have t1:ZZ.cell? ⟨w.heap.size,1,none⟩=some (.int .u64 ((gen:Int)+1)):=hrow.cell 1
  have t2:ZZ.cell? ⟨w.heap.size,2,none⟩=some (.int .u32 0):=hrow.cell 2
  have hgl:wz.grownBy ZZ (some w.heap.size):=by
   rw[hZZ]
   exact⟨rfl,rfl,rfl,by simp only[World.size_setCell];exact Nat.le_refl _,fun k _ hk=>by
    have hkw:k≠w.heap.size:=fun e=>hk (by rw[e])
    rw[Go.heap_setCell_other _ _ _ _ hkw,Go.heap_setCell_other _ _ _ _ hkw,Go.heap_setCell_other _ _ _ _ hkw]⟩
  have hsz:Js ZZ sb mb (nn+1) (sz+1) (fun i=>if i=(at':Int) then some ⟨4,JO es,gen+1⟩ else f i) (gen+1) wrong:=
   ⟨hSz.out.row.kept hgl (fun e=>by have:=Option.some.inj e;omega),hSz.out.map.kept' hgl (fun e=>by have:=Option.some.inj e;omega)⟩
  have hKf:Jg (fun x=>x=sb\/x=mb\/x=db) w ZZ:=hKz.grown hgl (fun k e=>Or.inr (by have:=Option.some.inj e;omega))
  rw[<-hZZ]
  clear hZZ k0 k1 k2 kf0 kf1 kf2 hgl g0 g1 g2 hrow
  exact bodyPost_ret (v:=.tuple #[.agg #[.int .i64 (at':Int),.int .u64 ((gen:Int)+1),.int .u32 0],.int .i64 0]) (by simp[results,Tryz.results44,go_sem,t0,t1,t2]) rfl ⟨by simp,hsz,hKf⟩
theorem JjH {tb b sb mb nn sz:Nat} {F B L:Int} {ldf:Fn} {xs ys:Array Value} {h':Int} {fl le:Int} {f:Int->Option Blk} {gen:Nat} {wrong:Int} {pa:Int} {pg ps:Nat} {ld:Bool} {a:Option Addr} {n c:Nat} {cs us:Value} {es:List Ent} (at':Nat) (w:World)
  (ht:Yj w tb F B L (.func ldf xs ys) b h' (.slice none 0 0) fl le)
  (hv:Jq w b false pa pg ps ld (.slice a n c) cs us (.slice none 0 0)) (hb:Zq w (.agg #[.slice a n c]) es) (hn:n=es.length) (hl:es.length<=10000) (hf:ZI es)
  (hsh:Js w sb mb nn sz f gen wrong) (ha:at'<100000) (hfree:f (at':Int)=none) (hused:∀j:Nat,j<at'->(f (j:Int)).isSome=true) (hnn:nn<100000) (hg:gen<1000000):
  Calls Tryz.prog 19 #[.pointer (some ⟨tb,0,none⟩),.func (.func 20) #[.pointer (some ⟨sb,0,none⟩)] #[]] w fun e w'=>e=.returned (.tuple #[.agg #[.int .i64 at',.int .u64 (gen+1:Nat),.int .u32 0],.slice none 0 0,.int .i64 0])/\Js w' sb mb (nn+1) (sz+1) (fun i=>if i=(at':Int) then some ⟨4,JO es,gen+1⟩ else f i) (gen+1) wrong/\
   (∃nb,w.heap.size<=nb/\Yj w' tb F B L (.func ldf xs ys) nb h' (.slice none 0 0) fl le/\Jq w' nb true at' (gen+1) 0 false (.slice none 0 0) (.slice none 0 0) (.slice none 0 0) (.slice none 0 0))/\Jg (fun x=>x=sb\/x=mb\/x=tb) w w':=by
 have HSL:=Lib.hid (fun vb db w' h1 h2 h3 h4 h5 h6=>Jkk (vb:=vb) (db:=db) (b:=b) (sb:=sb) (mb:=mb) (nn:=nn) (sz:=sz) (f:=f) (gen:=gen) (pa:=pa) (pg:=pg) (ps:=ps) (ld:=ld) (cl:=0) (a:=a) (c:=c) (cs:=cs) (us:=us) (wrong:=wrong) at' w' h1 h2 h3 h4 hn hl hf h5 ha hfree hused hnn hg h6)
 have hst:sb≠tb:=fun e=>by
  subst e
  have h1:=hsh.row
  have h2:=ht.row
  unfold Jc at h1 h2
  rw[h1] at h2
  simp at h2
 have hmt:mb≠tb:=fun e=>by
  subst e
  obtain⟨DD,⟨es0,clock0,hmb,hmb2⟩,hmb3⟩:=hsh.map.own
  have h2:=ht.row
  unfold Jc at h2
  rw[h2] at hmb
  simp at hmb
 have HS:=Lib.hid hsh
 have HB:=Lib.hid hb
 have hT:=Lib.hid ht
 have hV:=Lib.hid hv
 have hwz:b<w.heap.size:=hv.lt
 have htz:tb<w.heap.size:=ht.lt
 have hsz':sb<w.heap.size:=hsh.row.lt
 have hmz':mb<w.heap.size:=hsh.map.lt
 clear hn hsh hb ht hv hf hused hfree
 go_enter Tryz.func19,Tryz.ntmps19
 go_upto_region 1 with(fail)
 obtain⟨W,hW⟩:∃W,W=w.alloc (.cells #[.int .i64 0,.int .u64 0,.int .u32 0] 54):=⟨_,rfl⟩
 have hG:=Lib.hid (show Y6 W 54 w.heap.size [.int .i64 0,.int .u64 0,.int .u32 0] from⟨by rw[hW];exact Jc.new w _ _⟩)
 have hb0:Below w.heap.size w W:=by rw[hW];exact(Below.refl _ w).alloc (Nat.le_refl _) _
 have hWs:W.heap.size=w.heap.size+1:=by rw[hW];simp
 rw[<-hW]
 clear hW
 replace HS:=Lib.hid (HS.out.kept hb0 (Nat.le_refl _))
 replace HB:=Lib.hid (HB.out.kept hb0 (Nat.le_refl _))
 replace hV:=Lib.hid (hV.out.kept hb0 (Nat.le_refl _))
 replace hT:=Lib.hid (hT.out.kept hb0 (Nat.le_refl _))
 have hfe:=JlF (.func 20) #[.pointer (some ⟨sb,0,none⟩)] #[] W
 have hmm:= @run_makeMap Tryz.prog
 go_upto_region 4 with(fail)
 obtain⟨W2,hW2⟩:∃W2,W2=(W.alloc (.map #[] 0)).alloc (.cells #[.func (.func 20) #[.pointer (some ⟨sb,0,none⟩)] #[],.map (some (w.heap.size+1))] 121):=⟨_,rfl⟩
 have hX2:Below W.heap.size W W2:=by rw[hW2];exact((Below.refl _ W).alloc (Nat.le_refl _) _).alloc (by simp) _
 have hd2:W2.heap[w.heap.size+1]? =some (.map #[] 0):=by
  rw[hW2,Below.heap_alloc _ _ _ (by simp;omega),<-hWs]
  exact World.alloc_heap_new W _
 have hsv2:=Lib.hid (show JaJ W2 (w.heap.size+2) (.func (.func 20) #[.pointer (some ⟨sb,0,none⟩)] #[]) (w.heap.size+1) from⟨by
  rw[hW2]
  exact Jc.new' _ _ _ _ (by simp;omega)⟩)
 have hW2s:W2.heap.size=w.heap.size+3:=by rw[hW2];simp;omega
 rw[<-hW2]
 clear hW2 hfe hmm
 have hG2:=Lib.hid (hG.out.on hX2)
 have HS2:=Lib.hid (HS.out.on hX2)
 have HB2:=Lib.hid (HB.out.kept hX2 (Nat.le_refl _))
 have hV2:=Lib.hid (hV.out.on hX2)
 have hT2:=Lib.hid (hT.out.on hX2)
 have hb2:=hb0.trans (hX2.mono (by omega))
 clear hG HS HB hV hT hb0 hX2
 have c4:=hT2.out.c4
 go_wp2_with fail
 refine(HSL.out _ _ W2 hsv2.out hd2 hV2.out HB2.out HS2.out (by omega)).mono ?_
 rintro e w3 ⟨rfl,hs3,hK3⟩
 have hG3:=Lib.hid (hG2.out.keep hK3 (by omega))
 have hT3:=Lib.hid (show Yj w3 tb F B L (.func ldf xs ys) b h' (.slice none 0 0) fl le from⟨hK3.row hT2.out.row (by omega)⟩)
 have HS3:=Lib.hid hs3
 have hKa:=((Jg.of_below (S:=fun x=>x=sb\/x=mb\/x=tb) hb2)).trans hK3 (fun x hx=>by omega)
 have hw3s:w.heap.size+3<=w3.heap.size:=by have:=hK3.size;omega
 clear hs3 hK3 hd2 hsv2 hG2 HS2 HB2 hV2 hT2 hb2 c4
 go_upto_region 5 with(fail)
 obtain⟨W4,hW4⟩:∃W4,W4=w3.alloc (.cells #[.int .i64 (at':Int),.int .u64 ((gen:Int)+1),.int .u32 0] 54):=⟨_,rfl⟩
 have hX4:Below w3.heap.size w3 W4:=by rw[hW4];exact(Below.refl _ w3).alloc (Nat.le_refl _) _
 have hP4:=Lib.hid (show Y6 W4 54 w3.heap.size [.int .i64 (at':Int),.int .u64 ((gen:Int)+1),.int .u32 0] from⟨by rw[hW4];exact Jc.new w3 _ _⟩)
 have hW4s:w3.heap.size+1<=W4.heap.size:=by rw[hW4];simp
 rw[<-hW4]
 clear hW4
 have hG4:=Lib.hid (hG3.out.on hX4)
 have hT4:=Lib.hid (hT3.out.on hX4)
 have HS4:=Lib.hid (HS3.out.on hX4)
 have hK4:=hKa.on hX4
 clear hG3 hT3 HS3 hKa hX4
 have c6:=hT4.out.c6
 go_wp2_with fail
 refine(JeN none 0 0 W4).mono ?_
 rintro e w5 ⟨rfl,rfl⟩
 go_wp2_with fail
 refine(Jkj W4).mono ?_
 rintro e w6 ⟨rfl,hX6⟩
 have hG6:=Lib.hid (hG4.out.on hX6)
 have hT6:=Lib.hid (hT4.out.on hX6)
 have HS6:=Lib.hid (HS4.out.on hX6)
 have hP6:=Lib.hid (hP4.out.on hX6)
 have hK6:=hK4.on hX6
 have hw6:w3.heap.size+1<=w6.heap.size:=by have:=hX6.size;omega
 clear hG4 hT4 HS4 hP4 hK4 hX6 c6
 have tf4:=hT6.out.fz 4
 have tf6:=hT6.out.fz 6
 have c6:=hT6.out.c6
 have c4:=hT6.out.c4
 have p0:w6.cell? ⟨w3.heap.size,0,none⟩=some (.int .i64 (at':Int)):=hP6.out.cell 0
 have p1:w6.cell? ⟨w3.heap.size,1,none⟩=some (.int .u64 ((gen:Int)+1)):=hP6.out.cell 1
 have p2:w6.cell? ⟨w3.heap.size,2,none⟩=some (.int .u32 0):=hP6.out.cell 2
 have g0:=hG6.out.cell 0
 have g1:=hG6.out.cell 1
 have g2:=hG6.out.cell 2
 have gf0:=hG6.out.fz 0
 have gf1:=hG6.out.fz 1
 have gf2:=hG6.out.fz 2
 have hnt:w3.heap.size≠tb:=by omega
 go_upto_region 9 with(fail)
 obtain⟨W8,hW8⟩:∃W8,W8=w6.setCell ⟨tb,6,none⟩ (.slice none 0 0):=⟨_,rfl⟩
 have hT8:=Lib.hid (show Yj W8 tb F B L (.func ldf xs ys) b h' (.slice none 0 0) fl le from⟨by rw[hW8];exact hT6.out.row.put 6 _⟩)
 have hP8:=Lib.hid (show Jc W8 54 w3.heap.size [.int .i64 (at':Int),.int .u64 ((gen:Int)+1),.int .u32 0] by rw[hW8];exact hP6.out.row.far _ hnt _)
 have hG8:=Lib.hid (show Jc W8 54 w.heap.size [.int .i64 0,.int .u64 0,.int .u32 0] by rw[hW8];exact hG6.out.row.far _ (by show w.heap.size≠tb;omega) _)
 have hg8:w6.grownBy W8 (some tb):=by
  rw[hW8]
  exact⟨rfl,rfl,rfl,by rw[World.size_setCell];exact Nat.le_refl _,fun k _ hk=>Go.heap_setCell_other _ _ _ _ (fun e=>hk (by rw[e]))⟩
 have HS8:=Lib.hid (show Js W8 sb mb (nn+1) (sz+1) _ (gen+1) wrong from⟨HS6.out.row.kept hg8 (fun e=>hst (Option.some.inj e)),HS6.out.map.kept' hg8 (fun e=>hmt (Option.some.inj e))⟩)
 have hK8:Jg (fun x=>x=sb\/x=mb\/x=tb) w W8:=hK6.grown hg8 (fun k e=>Or.inl (Or.inr (Or.inr (Option.some.inj e).symm)))
 have hw8:w3.heap.size+1<=W8.heap.size:=by have:=hg8.size;omega
 rw[<-hW8]
 clear hW8 hg8 hT6 hP6 hG6 HS6 hK6 p0 p1 p2 g0 g1 g2 gf0 gf1 gf2 tf4 tf6 c6 c4
 have htz8:tb<W8.heap.size:=by omega
 have p0:W8.cell? ⟨w3.heap.size,0,none⟩=some (.int .i64 (at':Int)):=hP8.out.cell 0
 have p1:W8.cell? ⟨w3.heap.size,1,none⟩=some (.int .u64 ((gen:Int)+1)):=hP8.out.cell 1
 have p2:W8.cell? ⟨w3.heap.size,2,none⟩=some (.int .u32 0):=hP8.out.cell 2
 have e4:∀x,(W8.alloc x).cell? ⟨tb,4,none⟩=some (.pointer (some ⟨b,0,none⟩)):=fun x=>(World.cell?_alloc_past _ _ _ htz8).trans hT8.out.c4
 have ef4:∀x,(W8.alloc x).frozen? ⟨tb,4,none⟩=false:=fun x=>by rw[World.frozen?_alloc_past _ _ _ htz8];exact hT8.out.fz 4
 go_upto_region 10 with(fail)
 obtain⟨W9,hW9⟩:∃W9,W9=(W8.setCell ⟨tb,4,none⟩ (.pointer (some ⟨W8.heap.size,0,none⟩))).alloc (.cells #[.bool true,.int .i64 (at':Int),.int .u64 ((gen:Int)+1),.int .u32 0,.bool false,.slice none 0 0,.slice none 0 0,.slice none 0 0,.slice none 0 0] 108):=⟨_,rfl⟩
 have hg9:W8.grownBy W9 (some tb):=by
  rw[hW9]
  exact⟨rfl,rfl,rfl,by simp,fun k hk hk2=>(Below.heap_alloc _ _ k (by simpa using hk)).trans (Go.heap_setCell_other _ _ _ _ (fun e=>hk2 (by rw[e])))⟩
 have hT9:=Lib.hid (show Yj W9 tb F B L (.func ldf xs ys) W8.heap.size h' (.slice none 0 0) fl le from⟨by
  rw[hW9]
  exact Jc.on (show Jc (W8.setCell ⟨tb,4,none⟩ (.pointer (some ⟨W8.heap.size,0,none⟩))) _ tb _ from hT8.out.row.put 4 _) ((Below.refl _ _).alloc (Nat.le_refl _) _)⟩)
 have hV9:=Lib.hid (show Jq W9 W8.heap.size true at' (gen+1) 0 false (.slice none 0 0) (.slice none 0 0) (.slice none 0 0) (.slice none 0 0) from⟨by
  rw[hW9]
  exact Jc.new' _ _ _ _ (by simp)⟩)
 have hP9:=Lib.hid (show Jc W9 54 w3.heap.size _ from hP8.out.kept hg9 (fun e=>hnt (Option.some.inj e)))
 have hG9:=Lib.hid (show Jc W9 54 w.heap.size _ from hG8.out.kept hg9 (fun e=>by have:=Option.some.inj e;omega))
 have HS9:=Lib.hid (show Js W9 sb mb (nn+1) (sz+1) _ (gen+1) wrong from⟨HS8.out.row.kept hg9 (fun e=>hst (Option.some.inj e)),HS8.out.map.kept' hg9 (fun e=>hmt (Option.some.inj e))⟩)
 have hK9:Jg (fun x=>x=sb\/x=mb\/x=tb) w W9:=hK8.grown hg9 (fun k e=>Or.inl (Or.inr (Or.inr (Option.some.inj e).symm)))
 have hw9:W8.heap.size<W9.heap.size:=hV9.out.lt
 have hw89:w.heap.size<=W8.heap.size:=by omega
 rw[<-hW9]
 clear hW9 hg9 hT8 hP8 hG8 HS8 hK8 p0 p1 p2 e4 ef4
 have p0:W9.cell? ⟨w3.heap.size,0,none⟩=some (.int .i64 (at':Int)):=hP9.out.cell 0
 have p1:W9.cell? ⟨w3.heap.size,1,none⟩=some (.int .u64 ((gen:Int)+1)):=hP9.out.cell 1
 have p2:W9.cell? ⟨w3.heap.size,2,none⟩=some (.int .u32 0):=hP9.out.cell 2
 have kf0:=hG9.out.frozen 0
 have kf1:=hG9.out.frozen 1
 have kf2:=hG9.out.frozen 2
 have g0:W9.cell? ⟨w.heap.size,0,none⟩=some (.int .i64 0):=hG9.out.cell 0
 have g1:W9.cell? ⟨w.heap.size,1,none⟩=some (.int .u64 0):=hG9.out.cell 1
 have g2:W9.cell? ⟨w.heap.size,2,none⟩=some (.int .u32 0):=hG9.out.cell 2
 go_wp2_with fail
 obtain⟨ZZ,hZZ⟩:∃ZZ,ZZ=((W9.setCell ⟨w.heap.size,0,none⟩ (.int .i64 (at':Int))).setCell ⟨w.heap.size,1,none⟩ (.int .u64 ((gen:Int)+1))).setCell ⟨w.heap.size,2,none⟩ (.int .u32 0):=⟨_,rfl⟩
 have hrow:Jc ZZ 54 w.heap.size [.int .i64 (at':Int),.int .u64 ((gen:Int)+1),.int .u32 0]:=by rw[hZZ];exact((hG9.out.put 0 _).put 1 _).put 2 _
 have t0:ZZ.cell? ⟨w.heap.size,0,none⟩=some (.int .i64 (at':Int)):=hrow.cell 0
 have t1:ZZ.cell? ⟨w.heap.size,1,none⟩=some (.int .u64 ((gen:Int)+1)):=hrow.cell 1
 have t2:ZZ.cell? ⟨w.heap.size,2,none⟩=some (.int .u32 0):=hrow.cell 2
 have hgl:W9.grownBy ZZ (some w.heap.size):=by
  rw[hZZ]
  exact⟨rfl,rfl,rfl,by simp only[World.size_setCell];exact Nat.le_refl _,fun k _ hk=>by
   have hkw:k≠w.heap.size:=fun e=>hk (by rw[e])
   rw[Go.heap_setCell_other _ _ _ _ hkw,Go.heap_setCell_other _ _ _ _ hkw,Go.heap_setCell_other _ _ _ _ hkw]⟩
 have hsz:Js ZZ sb mb (nn+1) (sz+1) (fun i=>if i=(at':Int) then some ⟨4,JO es,gen+1⟩ else f i) (gen+1) wrong:=
  ⟨HS9.out.row.kept hgl (fun e=>by have:=Option.some.inj e;omega),HS9.out.map.kept' hgl (fun e=>by have:=Option.some.inj e;omega)⟩
 have hTz:Yj ZZ tb F B L (.func ldf xs ys) W8.heap.size h' (.slice none 0 0) fl le:=⟨hT9.out.row.kept hgl (fun e=>by have:=Option.some.inj e;omega)⟩
 have hVz:Jq ZZ W8.heap.size true at' (gen+1) 0 false (.slice none 0 0) (.slice none 0 0) (.slice none 0 0) (.slice none 0 0):=⟨hV9.out.row.kept hgl (fun e=>by have:=Option.some.inj e;omega)⟩
 have hKf:Jg (fun x=>x=sb\/x=mb\/x=tb) w ZZ:=hK9.grown hgl (fun k e=>Or.inr (by have:=Option.some.inj e;omega))
 rw[<-hZZ]
 clear hZZ p0 p1 p2 kf0 kf1 kf2 hgl g0 g1 g2 hrow
 exact bodyPost_ret (v:=.tuple #[.agg #[.int .i64 (at':Int),.int .u64 ((gen:Int)+1),.int .u32 0],.slice none 0 0,.int .i64 0]) (by simp[results,Tryz.results19,go_sem,t0,t1,t2]) rfl ⟨by simp,hsz,⟨_,hw89,hTz,hVz⟩,hKf⟩
open Go.RowKit
attribute [local go_sem ↓] Go.wp_at_zero Go.wp_at_succ
theorem JfG {K:Kx} {root h n:Nat} {w:World} {v:Vt} {T:Tx} (m:Mem w n v) (c:CAt w K root h T) {E:TypeId} {b:Nat} {cur:List Value} (hr:Jc w E b cur) (h1:E≠108) (h2:E≠110) (h3:E≠27) (h4:E≠3):¬(Own K T b\/b∈blocks n v):=fun hq=>by
 rcases hq with(rfl|rfl|hq)|hq
 ·exact h2 (hr.one c.tr.row).1
 ·exact h3 (hr.one c.sh.row).1
 ·obtain⟨cur',hc⟩:=Jt c.gn.own b hq
  exact h4 (hr.one hc).1
 ·obtain⟨cur',hc⟩:=m.cells b hq
  exact h1 (hr.one hc).1
theorem Mv.rw {K:Kx} {root h n:Nat} {w w':World} {v v':Vt} {T T':Tx} (a:Mv K root h n w v T w' v' T') (m:Mem w n v) (c:CAt w K root h T) {E:TypeId} {b:Nat} {cur:List Value} (hr:Y6 w E b cur) (h1:E≠108) (h2:E≠110) (h3:E≠27) (h4:E≠3):Y6 w' E b cur:=hr.keep a.keep (JfG m c hr.row h1 h2 h3 h4)
theorem Mv.tb {K:Kx} {root h n:Nat} {w w':World} {v:Vt} {T T':Tx} (hm:Mem w n v) (hn:(blocks n v).Nodup) (c:CAt w K root h T) (hk:Jg (fun x=>x=K.tb) w w') (c':CAt w' K root h T') (hg:T'.gv=T.gv):Mv K root h n w v T w' v T':=
 ⟨hm.keep hk (fun b e=>by rw[show b=K.tb from e];exact(c.soft _ (Or.inl rfl)).1) (fun b hb e=>by
  obtain⟨cur,hc⟩:=hm.cells b hb
  exact(c.notVx hc).1 (Or.inl e)),hn,fun _ q=>Or.inl q,rfl,c',fun x q=>Or.inl (by rw[hg] at q;exact q),hk.mono fun x e=>Or.inl (Or.inl e)⟩
theorem CAt.set {w:World} {K:Kx} {root h:Nat} {T T':Tx} (c:CAt w K root h T) (i:Nat) (x:Value) (ht:Yj (w.setCell ⟨K.tb,i,none⟩ x) K.tb K.F K.B K.L (ldV K.sb) root h T'.gv T'.fl T'.le) (h1:T'.gv=T.gv) (h2:T'.gone=T.gone) (h3:T'.wr=T.wr):CAt (w.setCell ⟨K.tb,i,none⟩ x) K root h T'/\Jg (fun y=>y=K.tb) w (w.setCell ⟨K.tb,i,none⟩ x):=by
 have hk:Jg (fun y=>y=K.tb) w (w.setCell ⟨K.tb,i,none⟩ x):=(Jg.refl (fun y=>y=K.tb) w).setCell ⟨K.tb,i,none⟩ (Or.inl rfl) _
 refine⟨⟨ht,?_,?_⟩,hk⟩
 ·rw[h1,h2]
  exact c.gn.keep hk fun y e k=>by
   have k':y=K.tb:=k
   subst k'
   obtain⟨cur,hc⟩:=Jt c.gn.own _ e
   exact absurd (hc.one c.tr.row).1 (by decide)
 ·rw[h3]
  exact c.sh.keep hk (fun e=>by
   have h1:=c.tr.row
   rw[<-show K.sb=K.tb from e] at h1
   exact absurd (h1.one c.sh.row).1 (by decide)) (fun e=>by
   have h1:=c.tr.row
   rw[<-show K.mb=K.tb from e] at h1
   exact c.sh.noMap h1)
theorem CAt.setFl {w:World} {K:Kx} {root h:Nat} {T:Tx} (c:CAt w K root h T) (x:Nat):CAt (w.setCell ⟨K.tb,7,none⟩ (.int .i64 x)) K root h {T with fl:=x}/\Jg (fun y=>y=K.tb) w (w.setCell ⟨K.tb,7,none⟩ (.int .i64 x)):=
 c.set (T':= {T with fl:=x}) 7 _ ⟨c.tr.row.put 7 _⟩ rfl rfl rfl
theorem CAt.setLe {w:World} {K:Kx} {root h:Nat} {T:Tx} (c:CAt w K root h T) (x:Nat):CAt (w.setCell ⟨K.tb,8,none⟩ (.int .i64 x)) K root h {T with le:=x}/\Jg (fun y=>y=K.tb) w (w.setCell ⟨K.tb,8,none⟩ (.int .i64 x)):=
 c.set (T':= {T with le:=x}) 8 _ ⟨c.tr.row.put 8 _⟩ rfl rfl rfl
theorem Mem.setN {w w':World} {n:Nat} {v:Vt} {us:List Upd} {a1 a2:Option Addr} {x1 x2:Nat} (hm:Mem w (n+1) v) (hl:v.ld=true) (hnd:(blocks (n+1) v).Nodup) (hk:Jg (fun x=>x=v.b) w w') (hv:∀kn pa pg ps ld lf cs' us' ks,Jq w v.b kn pa pg ps ld lf cs' us' ks->Jq w' v.b kn pa pg ps ld lf (.slice a1 v.ch.length x1) (.slice a2 us.length x2) ks) (hb:JA w' (.agg #[.slice a1 v.ch.length x1,.slice a2 us.length x2]) v.cs us):Mem w' (n+1) {v with us:=us}:=by
 obtain⟨⟨g,pa,pg,ps,b1,c1,b2,c2,a3,c3,h1,h2,h3,h4⟩,hkids⟩:=hm.node hl
 have hs:=(hm.lt v.b hm.head).1
 have hS:∀b,b=v.b->Z3 w b:=fun b e=>by rw[e];exact hs
 refine⟨hm.in,Or.inl ⟨⟨g,pa,pg,ps,a1,x1,a2,x2,a3,c3,hv _ _ _ _ _ _ _ _ _ h1,h2,hb,Xu.keep h4 hk hS⟩,fun y hy=>(hkids y hy).keep hk hS fun b hb e=> ?_⟩⟩
 rw[e] at hb
 rw[JL hm.in,List.nodup_cons] at hnd
 exact hnd.1 (List.mem_flatMap.2 ⟨y,hy,hb⟩)
theorem Jmb {K:Kx}:∀ {n:Nat} {t:Vt} {b:Nat} {m l:Bool} {k:Option Pt},Gd K n {t with b:=b,mem:=m,ld:=l,kn:=k}↔Gd K n t
 |0,_,_,_,_,_=>Iff.rfl
 |_+1,_,_,_,_,_=>Iff.rfl
theorem YM.gk {K:Kx} {n:Nat} {v v':Vt} (h:YM v v') (hg:Gk K n v):Gk K n v':=by
 cases n with
 |zero=>trivial
 |succ n=>
  refine Jc5 (P:=fun _ _ t=>Gd K n t) h.ch hg fun c t t' e hk=> ?_
  have h1:=(Jmb (K:=K) (n:=n) (t:=t) (b:=0) (m:=false) (l:=t.ld) (k:=t.kn)).2 hk
  have h2:Gd K n (Zr (c,t)).2:=h1
  rw[e] at h2
  exact(Jmb (K:=K) (n:=n) (t:=t') (b:=0) (m:=false) (l:=t'.ld) (k:=t'.kn)).1 h2
theorem Gd.gk {K:Kx} {n:Nat} {v:Vt} (h:Gd K n v):Gk K n v:=by
 cases n with
 |zero=>trivial
 |succ n=>exact h.2.2
theorem Jrk {K:Kx} {n:Nat} {v:Vt} (l:List Upd) (h:Gk K n v):Gk K n (gv n {v with kn:=none} l):=by
 cases n with
 |zero=>trivial
 |succ n=>exact h
theorem Sm.soil' {F L n:Nat} (v:Vt):Sm F L n v {v with kn:=none} (v.kn.toList.map Pt.a) []:=by
 cases hk:v.kn with
 |none=>rw[JlO hk];exact .refl n v
 |some p=>exact .soil hk
theorem Jji {v:Vt} {A:List (Chd×Vt)} {c:Chd} {t:Vt} {D:List (Chd×Vt)} (e:v.ch=A++(c,t)::D): {v with ch:=A++(c,t)::D}=v:=by cases v;simp at e;simp[e]
theorem Joa {K:Kx} {root h n:Nat} {w w':World} {v:Vt} {A:List (Chd×Vt)} {c:Chd} {t t':Vt} {D:List (Chd×Vt)} {T T':Tx} (hm:Mem w (n+1) v) (hn:(blocks (n+1) v).Nodup) (c0:CAt w K root h T) (e:v.ch=A++(c,t)::D) (m:Mv K root h n w t T w' t' T'):
  (∀kn pa pg ps ld lf cs us ks,Jq w v.b kn pa pg ps ld lf cs us ks->Jq w' v.b kn pa pg ps ld lf cs us ks)/\∀s k xs,w.ownsRow 0 97 1 s k xs->w'.ownsRow 0 97 1 s k xs:=by
 have hin:=hm.in
 rw[JL hin,e,JN,J3,List.nodup_cons] at hn
 have hSoft:∀b,(Own K T b\/b∈blocks n t)->Z3 w b:=fun b hb2=>hb2.elim (fun q=>(c0.soft b q).1) (fun q=>(hm.lt b (Ze hin (x:=(c,t)) (by rw[e];simp) q)).1)
 have hvb:¬(Own K T v.b\/v.b∈blocks n t):=fun hq=>by
  rcases hq with hq|hq
  ·obtain⟨cur,hc⟩:=hm.cells v.b hm.head
   exact(c0.notVx hc).1 hq
  ·exact hn.1 (List.mem_append_right _ (List.mem_append_left _ hq))
 exact⟨fun _ _ _ _ _ _ _ _ _ hq=>m.keep.vx hq hvb,fun _ _ _ ho=>YK ho m.keep fun g e hg=>by
  obtain⟨cur,hc⟩:=Jt ho g e
  exact(hSoft g hg).row cur hc⟩
theorem JlR (n:Nat) (HO:JeF n):Jls n:=by
 intro K root h lo hi w v T hh hP hpre hl hus hhh hn100
 obtain⟨A,c,t,D,e,htop,⟨hkl,hcnt⟩,hr1,hr2,hm0,hmle⟩:=Jki hpre.ok hus
 obtain⟨⟨-,pa,pg,ps,a1,x1,a2,x2,a3,x3,hv,-,hnode,hkd⟩,-⟩:=hpre.m.node hl
 have hsz:=Jcy hpre.pot
 have HST:=Lib.hid (Jmn _ v.cs v.us w hnode (by rw[List.length_map];omega) (by omega) hpre.ok.usr A.length htop hkl hcnt)
 rw[hr1,hr2] at HST
 have hmvl:=JjG hpre.ok.usr c.low (hdL D)
 have hrl:(Ya v.us c.low (hdL D)).length<=v.us.length:=by
  rw[(Y4 hpre.ok.usr c.low (hdL D)).2];exact List.length_filter_le _ _
 obtain⟨MV,hMV⟩:∃MV,MV=JH v.us c.low (hdL D):=⟨_,rfl⟩
 obtain⟨RS,hRS⟩:∃RS,RS=Ya v.us c.low (hdL D):=⟨_,rfl⟩
 obtain⟨k,hk⟩:∃k,k=A.length:=⟨_,rfl⟩
 rw[<-hMV,<-hRS,<-hk] at HST
 rw[<-hMV] at hmvl
 rw[<-hRS] at hrl
 have hkc:k<v.ch.length:=by rw[e,hk];simp
 have hkg:(v.ch.map fun x=>x.2.b)[k]? =some t.b:=by rw[e,hk];simp
 have hkv:({v with kn:=none}:Vt).cs=v.cs:=rfl
 have HP:=Lib.hid (And.intro hP hpre)
 have HE:=Lib.hid (And.intro e (And.intro hMV (And.intro hRS (And.intro hk (And.intro hm0 hmle)))))
 have HO':=Lib.hid HO
 have HV:=Lib.hid hv
 have HKD:=Lib.hid hkd
 have c6:=hv.c6
 have c7:=hv.c7
 clear hP hpre htop hkl hcnt hr1 hr2 hMV hRS hk hv hnode hkd hm0 hmle e HO hus hkv
 go_enter Tryz.func64,Tryz.ntmps64
 go_wp2_with fail
 refine HST.out.mono ?_
 rintro e w1 ⟨⟨s1,y1,nv,rfl,hbm,hnv⟩,hX1⟩
 obtain⟨n1,n2,z1,z2,rfl,hnc,hnu⟩:=hnv
 have hcsl:v.cs.length=v.ch.length:=List.length_map ..
 rw[hcsl] at hnc
 rw[hcsl]
 clear hcsl
 go_upto_region 4 with(fail)
 obtain⟨W1,hW1⟩:∃W1,W1=(w1.alloc (.cells #[.slice s1 MV.length y1] 103)).alloc (.cells #[.slice n1 v.ch.length z1,.slice n2 RS.length z2] 105):=⟨_,rfl⟩
 have hXW:Below w1.heap.size w1 W1:=by rw[hW1];exact((Below.refl _ _).alloc (Nat.le_refl _) _).alloc (by simp) _
 have hX:Below w.heap.size w W1:=hX1.trans (hXW.mono hX1.size)
 have hRB:Y6 W1 103 w1.heap.size [.slice s1 MV.length y1]:=by
  rw[hW1];exact⟨(Jc.new w1 _ [.slice s1 MV.length y1]).alloc _⟩
 have hRN:Y6 W1 105 (w1.heap.size+1) [.slice n1 v.ch.length z1,.slice n2 RS.length z2]:=by
  rw[hW1]
  have:=Jc.new (w1.alloc (.cells #[.slice s1 MV.length y1] 103)) 105 [.slice n1 v.ch.length z1,.slice n2 RS.length z2]
  simp only[World.size_alloc] at this
  exact⟨this⟩
 have HMV0:=Lib.hid (show Mv K root h (n+1) w v T W1 v T from(Mv.refl HP.out.2.m HP.out.2.nd HP.out.2.c).on hX)
 obtain⟨B1,hB1⟩:∃B1,B1=w1.heap.size:=⟨_,rfl⟩
 rw[<-hB1] at hRB hRN⊢
 clear hB1
 have HA:=Lib.hid (show(Y6 W1 103 B1 [.slice s1 MV.length y1]/\Y6 W1 105 (B1+1) [.slice n1 v.ch.length z1,.slice n2 RS.length z2])/\JZ W1 (.agg #[.slice s1 MV.length y1]) MV/\SlC W1 (.slice n1 v.ch.length z1) v.cs/\SlU W1 (.slice n2 RS.length z2) RS from⟨⟨hRB,hRN⟩,hbm.kept hXW (Nat.le_refl _),hnc.kept hXW (Nat.le_refl _),hnu.kept hXW (Nat.le_refl _)⟩)
 have hkd1:W1.ownsRow 0 97 1 (.slice a3 v.ch.length x3) v.ch.length ((v.ch.map fun x=>x.2.b).map vp):=by
  have:=Ji HKD.out hX
  rwa[List.length_map] at this
 obtain⟨g3,rfl,-,-,hgc⟩:=Yk hkd1 (by omega)
 clear hkd1
 have r0:W1.cell? ⟨g3,k,none⟩=some (.pointer (some ⟨t.b,0,none⟩)):=by
  have:=hgc k (vp t.b) (by rw[List.getElem?_map,hkg];rfl)
  simpa using this
 have c8:=(HV.out.on hX).c8
 rw[<-hW1]
 clear hW1 hXW hRB hRN hbm hnc hnu hgc c6 c7
 have HH:=Lib.hid (fun(q:Int) (hq:q=(n:Int)+1)=>by
  have p:=HP.out.2.kid hl HE.out.1
  have c0:=HMV0.out.cx
  exact Jjq q W1 hq c0 ((HMV0.out.mem.node hl).2 (c,t) (by rw[HE.out.1];simp)) p.nd p.ok p.sh HP.out.1.near (Nat.le_trans p.pot (by omega)) p.wr)
 go_wp2_with fail
 refine(HH.out _ (by omega)).mono ?_
 rintro e wh ⟨wr',t1,hwr,mvt,ht1,hor⟩
 obtain⟨mv1,sm1⟩:Mv K root h (n+1) w v T wh {v with ch:=A++(c,t1)::D} {T with wr:=wr'}/\Sm K.F K.L (n+1) v {v with ch:=A++(c,t1)::D} [] []:=by
  refine⟨HMV0.out.trans (Mv.kid HMV0.out.mem hl HMV0.out.nodup HMV0.out.cx HE.out.1 mvt),?_⟩
  rcases ht1 with rfl|ht1
  ·rw[Jji HE.out.1];exact .refl _ _
  ·exact .kidLoad HE.out.1 ht1
 rcases hor with⟨rfl,hld⟩|⟨rfl,hpos⟩
 case inr=>
  go_wp2_with fail
  go_ret
  exact⟨_,_,[],[],⟨sm1,mv1,by simp,rfl,rfl,hwr⟩,Or.inr ⟨rfl,hpos⟩,fun _ m hm=>by simp at hm⟩
 case inl=>
 obtain⟨T1,hT1⟩:∃T1:Tx,T1= {T with wr:=wr'}:=⟨_,rfl⟩
 obtain⟨v1,hv1⟩:∃v1:Vt,v1= {v with ch:=A++(c,t1)::D}:=⟨_,rfl⟩
 rw[<-hT1,<-hv1] at mv1
 rw[<-hv1] at sm1
 have hv1l:v1.ld=true:=by rw[hv1];exact hl
 have hv1b:v1.b=v.b:=by rw[hv1]
 have hv1k:v1.kn=v.kn:=by rw[hv1]
 have hT1g:T1.gone=T.gone:=by rw[hT1]
 have hgl:=HP.out.2.gone
 have HSO:=Lib.hid (Jc1 wh mv1.cx mv1.mem mv1.nodup hv1l (by rw[hT1g];omega))
 rw[hv1b,hv1k,hT1g] at HSO
 have HK1:=Lib.hid (And.intro mv1 (And.intro sm1 (And.intro hv1 (And.intro hT1 (And.intro hwr (And.intro ht1 (And.intro hld (And.intro mvt.b (And.intro hv1l (And.intro hv1b hv1k))))))))))
 have hAh:(Y6 wh 103 B1 [.slice s1 MV.length y1]/\Y6 wh 105 (B1+1) [.slice n1 v.ch.length z1,.slice n2 RS.length z2])/\JZ wh (.agg #[.slice s1 MV.length y1]) MV/\SlC wh (.slice n1 v.ch.length z1) v.cs/\SlU wh (.slice n2 RS.length z2) RS:=by
  have m0:=HP.out.2.m
  have c0:=HP.out.2.c
  have mvx:Mv K root h (n+1) W1 v T wh v1 T1:=by
   have:=Mv.kid HMV0.out.mem hl HMV0.out.nodup HMV0.out.cx HE.out.1 mvt
   rw[hv1,hT1];exact this
  have hs:=Jdx HMV0.out.mem HMV0.out.cx
  obtain⟨⟨q1,q2⟩,q3,q4,q5⟩:=HA.out
  exact⟨⟨mvx.rw HMV0.out.mem HMV0.out.cx q1 (by decide) (by decide) (by decide) (by decide),mvx.rw HMV0.out.mem HMV0.out.cx q2 (by decide) (by decide) (by decide) (by decide)⟩,q3.keep mvx.keep hs,q4.keep mvx.keep hs,q5.keep mvx.keep hs⟩
 have HAh:=Lib.hid hAh
 clear mvt ht1 mv1 sm1 hv1 hT1 hwr hld hAh hv1l hv1b hv1k hT1g hgl HMV0 HA r0 c8
 go_wp2_with fail
 refine HSO.out.mono ?_
 rintro e ws ⟨rfl,gv',mv2⟩
 obtain⟨T2,hT2⟩:∃T2:Tx,T2= {T1 with gv:=gv',gone:=T.gone++v.kn.toList.map Pt.a}:=⟨_,rfl⟩
 obtain⟨v2,hv2⟩:∃v2:Vt,v2= {v1 with kn:=none}:=⟨_,rfl⟩
 obtain⟨mv1,sm1,hv1,hT1,hwr,ht1,hld,htb,hv1l,hv1b,hv1k⟩:=HK1.out
 rw[<-hT2,<-hv1b,<-hv2] at mv2
 have hs1:=Jdx mv1.mem mv1.cx
 obtain⟨⟨q1,q2⟩,q3,q4,q5⟩:=HAh.out
 have r1:=mv2.rw mv1.mem mv1.cx q1 (by decide) (by decide) (by decide) (by decide)
 have r2:=mv2.rw mv1.mem mv1.cx q2 (by decide) (by decide) (by decide) (by decide)
 have r3:=q3.keep mv2.keep hs1
 have r4:=q4.keep mv2.keep hs1
 have r5:=q5.keep mv2.keep hs1
 have sm2:Sm K.F K.L (n+1) v v2 (v.kn.toList.map Pt.a) []:=by
  have:=sm1.trans (Sm.soil' (F:=K.F) (L:=K.L) (n:=n+1) v1)
  rw[hv1k,<-hv2] at this
  exact this
 have hv2l:v2.ld=true:=by rw[hv2];exact hv1l
 have hv2b:v2.b=v.b:=by rw[hv2];exact hv1b
 have hv2c:v2.ch=A++(c,t1)::D:=by rw[hv2,hv1]
 have hv2n:v2.ch.length=v.ch.length:=by rw[hv2c,HE.out.1];simp
 have hv2s:v2.cs=v.cs:=by rw[Vt.cs,Vt.cs,hv2c,HE.out.1];simp
 have HK2:=Lib.hid (And.intro (mv1.trans mv2) (And.intro sm2 (And.intro (And.intro r1 r2) (And.intro r3 (And.intro r4 (And.intro r5 (And.intro hv2l (And.intro hv2b (And.intro hv2c (And.intro hv2n (And.intro hv2s (And.intro hv2 (And.intro hv1 (And.intro hT2 (And.intro hT1 (And.intro hwr (And.intro ht1 (And.intro hld htb))))))))))))))))))
 obtain⟨⟨-,qa,qg,qs,b1,y4,b2,y5,b3,y6,hvx,-,-,-⟩,-⟩:=mv2.mem.node hv2l
 rw[hv2b] at hvx
 have d6:=hvx.c6
 have d7:=hvx.c7
 have f6:=hvx.fz 6
 have f7:=hvx.fz 7
 have e0:ws.cell? ⟨B1+1,0,none⟩=some (.slice n1 v.ch.length z1):=r2.cell 0
 have e1:ws.cell? ⟨B1+1,1,none⟩=some (.slice n2 RS.length z2):=r2.cell 1
 clear mv1 sm1 hv1 hT1 hwr ht1 hld htb hv1l hv1b hv1k mv2 hs1 q1 q2 q3 q4 q5 r1 r2 r3 r4 r5 sm2 hv2l hv2b hv2c hv2n hv2s hv2 hT2 hvx HK1 HAh
 go_upto_region 9 with(fail)
 obtain⟨W3,hW3⟩:∃W3,W3=(ws.setCell ⟨v.b,6,none⟩ (.slice n1 v.ch.length z1)).setCell ⟨v.b,7,none⟩ (.slice n2 RS.length z2):=⟨_,rfl⟩
 obtain⟨v3,hv3⟩:∃v3:Vt,v3= {v2 with us:=RS}:=⟨_,rfl⟩
 obtain⟨mv2,sm2,⟨r1,r2⟩,r3,r4,r5,hv2l,hv2b,hv2c,hv2n,hv2s,-⟩:=HK2.out
 have hk3:Jg (fun x=>x=v2.b) ws W3:=by
  rw[hW3,hv2b]
  exact((Jg.refl (fun x=>x=v.b) ws).setCell ⟨v.b,6,none⟩ (Or.inl rfl) _).setCell ⟨v.b,7,none⟩ (Or.inl rfl) _
 have hso:=(mv2.mem.lt _ mv2.mem.head).1
 have hst:∀b,b=v2.b->XO ws b:=fun b e=>by rw[e];exact hso.str
 have hm3:Mem W3 (n+1) v3:=by
  rw[hv3]
  refine mv2.mem.setN (x1:=z1) (x2:=z2) (a1:=n1) (a2:=n2) hv2l mv2.nodup hk3 (fun kn pa pg ps ld lf cs' us' ks hq=> ?_) ?_
  ·rw[hW3,hv2n,hv2b]
   rw[hv2b] at hq
   exact⟨(hq.row.put 6 _).put 7 _⟩
  ·rw[hv2n,hv2s]
   exact JA.mk' (r4.keep hk3 hst) (r5.keep hk3 hst)
 have mv3:Mv K root h (n+1) w v T W3 v3 T2:=mv2.trans (Mv.at mv2.mem mv2.cx hk3 hm3 (by rw[hv3]) (by rw[hv3];exact Jhh (n+1) v2 RS) mv2.nodup)
 have hrw:∀ {E:TypeId} {b:Nat} {cur:List Value},Y6 ws E b cur->E≠108->Y6 W3 E b cur:=fun {E b cur} hr he=>hr.keep hk3 fun e=>he (by
  obtain⟨cur',hc⟩:=mv2.mem.cells _ mv2.mem.head
  rw[<-show b=v2.b from e] at hc
  exact hr.row.one hc|>.1)
 have HK3:=Lib.hid (And.intro mv3 (And.intro (hrw r1 (by decide)) (r3.keep hk3 hst)))
 have t7:=mv3.cx.tr.c7
 have ft7:=mv3.cx.tr.fz 7
 rw[<-hW3]
 have HV3:=Lib.hid hv3
 have hfl:T2.fl=T.fl:=by
  obtain⟨-,-,-,-,-,-,-,-,-,-,-,-,-,q1,q2,-⟩:=HK2.out
  rw[q1,q2]
 have hfb:=HP.out.2.fl
 have hflb:T2.fl<=1000000000000:=by omega
 clear mv2 sm2 r1 r2 r3 r4 r5 hv2l hv2b hv2c hv2n hv2s hk3 hso hst hm3 mv3 hrw hv3 hW3 d6 d7 f6 f7 e0 e1 hfl hfb
 go_upto_if 65 with(fail)
 obtain⟨W4,hW4⟩:∃W4,W4=W3.setCell ⟨K.tb,7,none⟩ (.int .i64 ((T2.fl:Int)+1)):=⟨_,rfl⟩
 obtain⟨T4,hT4⟩:∃T4:Tx,T4= {T2 with fl:=T2.fl+1}:=⟨_,rfl⟩
 obtain⟨mv3,r3,b3⟩:=HK3.out
 obtain⟨c4,k4⟩:=mv3.cx.setFl (T2.fl+1)
 rw[show((T2.fl+1:Nat):Int)=(T2.fl:Int)+1 from rfl,<-hW4] at c4 k4
 rw[<-hT4] at c4
 have hv3b:v3.b=v.b:=mv3.b
 have m4:Mv K root h (n+1) w v T W4 v3 T4:=mv3.trans (Mv.tb mv3.mem mv3.nodup mv3.cx k4 c4 (by rw[hT4]))
 have hstb:∀b,b=K.tb->XO W3 b:=fun b e=>by rw[e];exact(mv3.cx.soft K.tb (Or.inl rfl)).1.str
 have r4:Y6 W4 103 B1 [.slice s1 MV.length y1]:=r3.keep k4 fun e=>by
  have h1:=r3.row
  rw[show B1=K.tb from e] at h1
  exact absurd (h1.one mv3.cx.tr.row).1 (by decide)
 have HK4:=Lib.hid (And.intro m4 (And.intro r4 (And.intro (b3.keep k4 hstb) hT4)))
 have t8:=c4.tr.c8
 have ft8:=c4.tr.fz 8
 have e0:W4.cell? ⟨B1,0,none⟩=some (.slice s1 MV.length y1):=r4.cell 0
 have HLE:=Lib.hid (fun w'=>XY s1 MV.length y1 w')
 obtain⟨le,hle⟩:∃le,le=T4.le:=⟨_,rfl⟩
 rw[<-hle] at t8
 have HLe:=Lib.hid hle
 have hmvl2:MV.length<=1000:=by omega
 rw[<-hW4]
 clear hW4 hT4 mv3 r3 b3 c4 k4 m4 hstb r4 t7 ft7 HK3 hle
 go_cut [7,65] from 52 to 65 (fun s7 s65 wx=>s7=.int .i64 k/\s65=.bool (decide (le=0\/MV.length<le))/\Hid (Mv K root h (n+1) w v T wx v3 T4/\Y6 wx 103 B1 [.slice s1 MV.length y1]/\JZ wx (.agg #[.slice s1 MV.length y1]) MV))
 case first=>
  obtain⟨tb,htb⟩:∃tb,tb=K.tb:=⟨_,rfl⟩
  rw[<-htb]
  rw[<-htb] at t8
  have Htb:=Lib.hid htb
  clear htb
  by_cases h0:le=0
  ·subst h0
   replace t8:W4.cell? ⟨tb,8,none⟩=some (.int .i64 0):=t8
   refine WQ.region (C:=fun w'=>Below W4.heap.size W4 w') (by kernel_rfl) (by kernel_rfl) (Jb (Below.refl _ _)) ?_
   refine WV (by rfl) (.pointer (some ⟨tb,0,none⟩)) (fun w' hw'=> ?_) ?_
   ·have hq':=hw'
    go_simp
   try simp only[Act.put,WA,WB,WC]
   refine WV (by rfl) (.pointer (some ⟨tb,0,none⟩)) (fun w' hw'=> ?_) ?_
   ·have hq':=hw'
    go_simp
   try simp only[Act.put,WA,WB,WC]
   refine WV (by rfl) (.pointer (some ⟨tb,8,none⟩)) (fun w' hw'=> ?_) ?_
   ·have hq':=hw'
    go_simp
   try simp only[Act.put,WA,WB,WC]
   refine WV (by rfl) (.int .i64 0) (fun w' hw'=> ?_) ?_
   ·have hq':=hw'
    have z0:=Ja hw' t8;have z1:=Ja hw' e0;go_simp
   try simp only[Act.put,WA,WB,WC]
   refine WV (by rfl) (.bool true) (fun w' hw'=> ?_) ?_
   ·have hq':=hw'
    go_simp
   try simp only[Act.put,WA,WB,WC]
   refine WV (by rfl) (.bool true) (fun w' hw'=> ?_) ?_
   ·have hq':=hw'
    go_simp
   try simp only[Act.put,WA,WB,WC]
   refine WS (by rfl) ?_
   try simp only[Act.put,WA,WB,WC]
   refine WS (by rfl) ?_
   try simp only[Act.put,WA,WB,WC]
   refine WS (by rfl) ?_
   try simp only[Act.put,WA,WB,WC]
   refine WS (by rfl) ?_
   try simp only[Act.put,WA,WB,WC]
   refine WS (by rfl) ?_
   try simp only[Act.put,WA,WB,WC]
   refine WS (by rfl) ?_
   try simp only[Act.put,WA,WB,WC]
   refine WS (by rfl) ?_
   try simp only[Act.put,WA,WB,WC]
   refine WV (by rfl) (.bool true) (fun w' hw'=> ?_) ?_
   ·have hq':=hw'
    go_simp
   try simp only[Act.put,WA,WB,WC]
   refine WQ.done ?_
   intro w5 hX5
   obtain rfl:=Htb.out
   have HK5:=Lib.hid (show Mv K root h (n+1) w v T w5 v3 T4/\Y6 w5 103 B1 [.slice s1 MV.length y1]/\JZ w5 (.agg #[.slice s1 MV.length y1]) MV from⟨HK4.out.1.on hX5,HK4.out.2.1.kept hX5 (Nat.le_refl _),HK4.out.2.2.1.kept hX5 (Nat.le_refl _)⟩)
   clear HK4
   go_wp2_with fail
   go_meet
   exact⟨rfl,by simp,HK5⟩
  ·have hb0:((le:Int)==0)=false:=by simp;omega
   by_cases h1:MV.length<le
   ·have hb1:(MV.length:Int)<(le:Int):=by omega
    refine WQ.region (C:=fun w'=>Below W4.heap.size W4 w') (by kernel_rfl) (by kernel_rfl) (Jb (Below.refl _ _)) ?_
    refine WV (by rfl) (.pointer (some ⟨tb,0,none⟩)) (fun w' hw'=> ?_) ?_
    ·have hq':=hw'
     go_simp
    try simp only[Act.put,WA,WB,WC]
    refine WV (by rfl) (.pointer (some ⟨tb,0,none⟩)) (fun w' hw'=> ?_) ?_
    ·have hq':=hw'
     go_simp
    try simp only[Act.put,WA,WB,WC]
    refine WV (by rfl) (.pointer (some ⟨tb,8,none⟩)) (fun w' hw'=> ?_) ?_
    ·have hq':=hw'
     go_simp
    try simp only[Act.put,WA,WB,WC]
    refine WV (by rfl) (.int .i64 le) (fun w' hw'=> ?_) ?_
    ·have hq':=hw'
     have z0:=Ja hw' t8;have z1:=Ja hw' e0;go_simp
    try simp only[Act.put,WA,WB,WC]
    refine WV (by rfl) (.bool false) (fun w' hw'=> ?_) ?_
    ·have hq':=hw'
     go_simp
    try simp only[Act.put,WA,WB,WC]
    refine WV (by rfl) (.bool false) (fun w' hw'=> ?_) ?_
    ·have hq':=hw'
     go_simp
    try simp only[Act.put,WA,WB,WC]
    refine WV (by rfl) (.agg #[.slice s1 MV.length y1]) (fun w' hw'=> ?_) ?_
    ·have hq':=hw'
     have z0:=Ja hw' t8;have z1:=Ja hw' e0;go_simp
    try simp only[Act.put,WA,WB,WC]
    refine WV (by rfl) (.int .i64 MV.length) (fun w' hw'=> ?_) ?_
    ·have hq':=hw'
     go_simp
     go_at_call 63
     refine(HLE.out _).mono ?_
     rintro e w6 ⟨he,hb6⟩
     exact⟨he,hq'.trans (hb6.mono hq'.size)⟩
    try simp only[Act.put,WA,WB,WC]
    refine WV (by rfl) (.pointer (some ⟨tb,0,none⟩)) (fun w' hw'=> ?_) ?_
    ·have hq':=hw'
     go_simp
    try simp only[Act.put,WA,WB,WC]
    refine WV (by rfl) (.pointer (some ⟨tb,0,none⟩)) (fun w' hw'=> ?_) ?_
    ·have hq':=hw'
     go_simp
    try simp only[Act.put,WA,WB,WC]
    refine WV (by rfl) (.pointer (some ⟨tb,8,none⟩)) (fun w' hw'=> ?_) ?_
    ·have hq':=hw'
     go_simp
    try simp only[Act.put,WA,WB,WC]
    refine WV (by rfl) (.int .i64 le) (fun w' hw'=> ?_) ?_
    ·have hq':=hw'
     have z0:=Ja hw' t8;have z1:=Ja hw' e0;go_simp
    try simp only[Act.put,WA,WB,WC]
    refine WV (by rfl) (.bool true) (fun w' hw'=> ?_) ?_
    ·have hq':=hw'
     go_simp
    try simp only[Act.put,WA,WB,WC]
    refine WV (by rfl) (.bool true) (fun w' hw'=> ?_) ?_
    ·have hq':=hw'
     go_simp
    try simp only[Act.put,WA,WB,WC]
    refine WQ.done ?_
    intro w5 hX5
    obtain rfl:=Htb.out
    have HK5:=Lib.hid (show Mv K root h (n+1) w v T w5 v3 T4/\Y6 w5 103 B1 [.slice s1 MV.length y1]/\JZ w5 (.agg #[.slice s1 MV.length y1]) MV from⟨HK4.out.1.on hX5,HK4.out.2.1.kept hX5 (Nat.le_refl _),HK4.out.2.2.1.kept hX5 (Nat.le_refl _)⟩)
    clear HK4
    go_wp2_with fail
    go_meet
    exact⟨rfl,by rw[decide_eq_true (Or.inr h1)],HK5⟩
   ·have hb1:decide ((MV.length:Int)<(le:Int))=false:=by simp;omega
    refine WQ.region (C:=fun w'=>Below W4.heap.size W4 w') (by kernel_rfl) (by kernel_rfl) (Jb (Below.refl _ _)) ?_
    refine WV (by rfl) (.pointer (some ⟨tb,0,none⟩)) (fun w' hw'=> ?_) ?_
    ·have hq':=hw'
     go_simp
    try simp only[Act.put,WA,WB,WC]
    refine WV (by rfl) (.pointer (some ⟨tb,0,none⟩)) (fun w' hw'=> ?_) ?_
    ·have hq':=hw'
     go_simp
    try simp only[Act.put,WA,WB,WC]
    refine WV (by rfl) (.pointer (some ⟨tb,8,none⟩)) (fun w' hw'=> ?_) ?_
    ·have hq':=hw'
     go_simp
    try simp only[Act.put,WA,WB,WC]
    refine WV (by rfl) (.int .i64 le) (fun w' hw'=> ?_) ?_
    ·have hq':=hw'
     have z0:=Ja hw' t8;have z1:=Ja hw' e0;go_simp
    try simp only[Act.put,WA,WB,WC]
    refine WV (by rfl) (.bool false) (fun w' hw'=> ?_) ?_
    ·have hq':=hw'
     go_simp
    try simp only[Act.put,WA,WB,WC]
    refine WV (by rfl) (.bool false) (fun w' hw'=> ?_) ?_
    ·have hq':=hw'
     go_simp
    try simp only[Act.put,WA,WB,WC]
    refine WV (by rfl) (.agg #[.slice s1 MV.length y1]) (fun w' hw'=> ?_) ?_
    ·have hq':=hw'
     have z0:=Ja hw' t8;have z1:=Ja hw' e0;go_simp
    try simp only[Act.put,WA,WB,WC]
    refine WV (by rfl) (.int .i64 MV.length) (fun w' hw'=> ?_) ?_
    ·have hq':=hw'
     go_simp
     go_at_call 63
     refine(HLE.out _).mono ?_
     rintro e w6 ⟨he,hb6⟩
     exact⟨he,hq'.trans (hb6.mono hq'.size)⟩
    try simp only[Act.put,WA,WB,WC]
    refine WV (by rfl) (.pointer (some ⟨tb,0,none⟩)) (fun w' hw'=> ?_) ?_
    ·have hq':=hw'
     go_simp
    try simp only[Act.put,WA,WB,WC]
    refine WV (by rfl) (.pointer (some ⟨tb,0,none⟩)) (fun w' hw'=> ?_) ?_
    ·have hq':=hw'
     go_simp
    try simp only[Act.put,WA,WB,WC]
    refine WV (by rfl) (.pointer (some ⟨tb,8,none⟩)) (fun w' hw'=> ?_) ?_
    ·have hq':=hw'
     go_simp
    try simp only[Act.put,WA,WB,WC]
    refine WV (by rfl) (.int .i64 le) (fun w' hw'=> ?_) ?_
    ·have hq':=hw'
     have z0:=Ja hw' t8;have z1:=Ja hw' e0;go_simp
    try simp only[Act.put,WA,WB,WC]
    refine WV (by rfl) (.bool false) (fun w' hw'=> ?_) ?_
    ·have hq':=hw'
     go_simp
    try simp only[Act.put,WA,WB,WC]
    refine WV (by rfl) (.bool false) (fun w' hw'=> ?_) ?_
    ·have hq':=hw'
     go_simp
    try simp only[Act.put,WA,WB,WC]
    refine WQ.done ?_
    intro w5 hX5
    obtain rfl:=Htb.out
    have HK5:=Lib.hid (show Mv K root h (n+1) w v T w5 v3 T4/\Y6 w5 103 B1 [.slice s1 MV.length y1]/\JZ w5 (.agg #[.slice s1 MV.length y1]) MV from⟨HK4.out.1.on hX5,HK4.out.2.1.kept hX5 (Nat.le_refl _),HK4.out.2.2.1.kept hX5 (Nat.le_refl _)⟩)
    clear HK4
    go_wp2_with fail
    go_meet
    exact⟨rfl,by rw[decide_eq_false (fun q=>q.elim h0 h1)],HK5⟩
 case rest=>
 obtain⟨rfl,rfl,HK5⟩:=hcut
 obtain⟨w5,hw5⟩:∃w5,w5=wc:=⟨_,rfl⟩
 subst hw5
 have HT4:=Lib.hid HK4.out.2.2.2
 clear HK4 t8 ft8 e0
 go_upto_if 65 with(fail)
 go_cut [7] from 65 to 70 (fun s7 wx=>s7=.int .i64 k/\Hid (Mv K root h (n+1) w v T wx v3 {T4 with le:=Jjg le MV.length}/\Y6 wx 103 B1 [.slice s1 MV.length y1]/\JZ wx (.agg #[.slice s1 MV.length y1]) MV))
 case first=>
  by_cases hq:le=0\/MV.length<le
  ·have hqd:decide (le=0\/MV.length<le)=true:=decide_eq_true hq
   have e05:w5.cell? ⟨B1,0,none⟩=some (.slice s1 MV.length y1):=HK5.out.2.1.cell 0
   rw[hqd]
   go_wp2_with fail
   refine(HLE.out _).mono ?_
   rintro e w6 ⟨rfl,hX6⟩
   have HK6:=Lib.hid (show Mv K root h (n+1) w v T w6 v3 T4/\Y6 w6 103 B1 [.slice s1 MV.length y1]/\JZ w6 (.agg #[.slice s1 MV.length y1]) MV from⟨HK5.out.1.on hX6,HK5.out.2.1.kept hX6 (Nat.le_refl _),HK5.out.2.2.kept hX6 (Nat.le_refl _)⟩)
   have t86:=HK6.out.1.cx.tr.c8
   have ft86:=HK6.out.1.cx.tr.fz 8
   go_wp2_with fail
   go_meet
   obtain⟨m6,r6,b6⟩:=HK6.out
   obtain⟨c7,k7⟩:=m6.cx.setLe MV.length
   refine⟨rfl,Lib.hid ⟨?_,r6.keep k7 fun e=> ?_,b6.keep k7 fun b e=>by rw[show b=K.tb from e];exact(m6.cx.soft K.tb (Or.inl rfl)).1.str⟩⟩
   ·rw[show Jjg le MV.length=MV.length from if_pos hq]
    exact m6.trans (Mv.tb m6.mem m6.nodup m6.cx k7 c7 rfl)
   ·have h1:=r6.row
    rw[show B1=K.tb from e] at h1
    exact absurd (h1.one m6.cx.tr.row).1 (by decide)
  ·have hqd:decide (le=0\/MV.length<le)=false:=decide_eq_false hq
   rw[hqd]
   go_wp2_with fail
   go_meet
   obtain⟨m6,r6,b6⟩:=HK5.out
   refine⟨rfl,Lib.hid ⟨?_,r6,b6⟩⟩
   rw[show Jjg le MV.length=le from if_neg hq,HLe.out]
   exact m6
 case rest=>
 obtain⟨rfl,HK6⟩:=hcut
 obtain⟨w6,hw6⟩:∃w6,w6=wc:=⟨_,rfl⟩
 subst hw6
 clear HK5 HLE
 obtain⟨T6,hT6⟩:∃T6:Tx,T6= {T4 with le:=Jjg le MV.length}:=⟨_,rfl⟩
 rw[<-hT6] at HK6
 obtain⟨m6,r6,b6⟩:=HK6.out
 obtain⟨-,-,-,-,-,-,hv2l,hv2b,hv2c,hv2n,hv2s,hv2,hv1,hT2,hT1,hwr,ht1,hld,htb⟩:=HK2.out
 have hv3l:v3.ld=true:=by rw[HV3.out];exact hv2l
 have hv3c:v3.ch=A++(c,t1)::D:=by rw[HV3.out];exact hv2c
 have hv3n:v3.ch.length=v.ch.length:=by rw[HV3.out];exact hv2n
 have hT6g:T6.gone=T.gone++v.kn.toList.map Pt.a:=by rw[hT6,HT4.out,hT2]
 obtain⟨⟨-,qa,qg,qs,b1,y4,b2,y5,b3,y6,hvx,-,-,hkd6⟩,hkm6⟩:=m6.mem.node hv3l
 rw[hv3b,hv3n] at hvx
 have c8:=hvx.c8
 have hkd7:w6.ownsRow 0 97 1 (.slice b3 v.ch.length y6) v.ch.length ((v3.ch.map fun x=>x.2.b).map vp):=by
  have:w6.ownsRow 0 97 1 (.slice b3 v3.ch.length y6) (v3.ch.map fun x=>x.2.b).length ((v3.ch.map fun x=>x.2.b).map vp):=hkd6
  rw[List.length_map,hv3n] at this
  exact this
 obtain⟨g4,rfl,-,-,hgc⟩:=Yk hkd7 (by omega)
 have hkg6:(v3.ch.map fun x=>x.2.b)[k]? =some t.b:=by
  obtain⟨-,-,-,ek,-⟩:=HE.out
  rw[hv3c,ek,<-htb];simp
 have r0:w6.cell? ⟨g4,k,none⟩=some (.pointer (some ⟨t.b,0,none⟩)):=by
  have:=hgc k (vp t.b) (by rw[List.getElem?_map,hkg6];rfl)
  simpa using this
 have e0:w6.cell? ⟨B1,0,none⟩=some (.slice s1 MV.length y1):=r6.cell 0
 have hgl:=HP.out.2.gone
 have hg6:T6.gone.length<=1000000:=by
  rw[JG,List.length_append] at hgl
  rw[hT6g,List.length_append]
  omega
 have hx1:(c,t1)∈v3.ch:=by rw[hv3c];simp
 have mt6:Mem w6 n t1:=hkm6 (c,t1) hx1
 have nt6:(blocks n t1).Nodup:=by
  have:=m6.nodup
  rw[JL m6.mem.in,List.nodup_cons] at this
  exact JfH _ this.2 hx1
 have sm1:Sm K.F K.L (n+1) v v1 [] []:=by
  rw[hv1]
  rcases ht1 with rfl|ht1
  ·rw[Jji HE.out.1];exact .refl _ _
  ·exact .kidLoad HE.out.1 ht1
 have ho1:Ok n (loA lo A c) (hiD hi D) t1:=by
  have:=(sm1.good HP.out.2.ok).1
  exact(this.mid (by rw[hv1])).t
 have hpt1:pot n t1<=1000:=by
  have h1:=(sm1.less HP.out.1.F HP.out.1.L HP.out.2.ok).pot
  have h2:=HP.out.2.pot
  exact Jai (v:=v1) (by omega) (x:=(c,t1)) (by rw[hv1];simp)
 have hgv:ZD (loA lo A c) (hiD hi D) MV:=by
  obtain⟨e,hMV,-⟩:=HE.out
  obtain⟨-,h1,h2,-⟩:=HP.out.2.ok
  rw[hMV]
  exact ZD.cut h1 h2 fun q a b=>JhQ (HP.out.2.ok.mid e) a b
 have HLI:=Lib.hid (fun w' h=>JlL (.agg #[.slice s1 MV.length y1]) MV w' h (by omega))
 have HGI:=Lib.hid (fun(s:Value) (w':World) (hb:Below w6.heap.size w6 w') (hs:SlU w' s MV)=>Jjv s MV w' (m6.cx.on hb) (mt6.on hb) nt6 hld ho1 hpt1 hgv hmvl2 hs hg6)
 rw[htb] at HGI
 have HK7:=Lib.hid (And.intro hT6g hT6)
 have HS7:=Lib.hid (fun(w4 w7:World) (t':Vt) (T':Tx) (hb:Below w6.heap.size w6 w4) (mv:Mv K root h n w4 t1 T6 w7 t' T')=>show(w7.cell? ⟨v.b,8,none⟩=some (.slice (some ⟨g4,0,none⟩) v.ch.length y6)/\w7.cell? ⟨g4,k,none⟩=some (.pointer (some ⟨t.b,0,none⟩))/\w7.cell? ⟨B1,0,none⟩=some (.slice s1 MV.length y1)) from by
  obtain⟨q1,q2⟩:=Joa (m6.mem.on hb) m6.nodup (m6.cx.on hb) hv3c mv
  rw[hv3b] at q1
  refine⟨(q1 _ _ _ _ _ _ _ _ _ (hvx.on hb)).c8,?_,((mv.rw (mt6.on hb) (m6.cx.on hb) (r6.kept hb (Nat.le_refl _)) (by decide) (by decide) (by decide) (by decide)).cell 0).trans rfl⟩
  obtain⟨g5,e5,-,-,hc5⟩:=Yk (q2 _ _ _ (Ji hkd7 hb)) (by omega)
  obtain rfl:g4=g5:=by simpa using e5
  have:=hc5 k (vp t.b) (by rw[List.getElem?_map,hkg6];rfl)
  simpa using this)
 clear m6 r6 b6 hv2l hv2b hv2c hv2n hv2s hv2 hv1 hT2 hT1 hwr ht1 hld htb hv3l hv3c hv3n hT6g hT6 hvx hkd6 hkm6 hkd7 hgc hkg6 hgl hg6 hx1 mt6 nt6 sm1 ho1 hpt1 hgv
 go_upto_region 12 with(fail)
 have hdr:Below w6.heap.size w6 w6.drew:=Jb (Below.refl _ _)
 have s0:(w6.drew.cell? ⟨v.b,8,none⟩=some (.slice (some ⟨g4,0,none⟩) v.ch.length y6)/\w6.drew.cell? ⟨g4,k,none⟩=some (.pointer (some ⟨t.b,0,none⟩))/\w6.drew.cell? ⟨B1,0,none⟩=some (.slice s1 MV.length y1)):=⟨Jj c8,Jj r0,Jj e0⟩
 have sB:∀ {w4:World},Below w6.heap.size w6 w4->(w4.cell? ⟨v.b,8,none⟩=some (.slice (some ⟨g4,0,none⟩) v.ch.length y6)/\w4.cell? ⟨g4,k,none⟩=some (.pointer (some ⟨t.b,0,none⟩))/\w4.cell? ⟨B1,0,none⟩=some (.slice s1 MV.length y1)):=fun hb=>⟨Ja hb c8,Ja hb r0,Ja hb e0⟩
 go_region_held3 (fun w'=>(w'.cell? ⟨v.b,8,none⟩=some (.slice (some ⟨g4,0,none⟩) v.ch.length y6)/\w'.cell? ⟨g4,k,none⟩=some (.pointer (some ⟨t.b,0,none⟩))/\w'.cell? ⟨B1,0,none⟩=some (.slice s1 MV.length y1)))
  (with_reducible first|exact s0|exact s4|exact s7)
  (first
   |(go_simp;go_at_call 75;refine(HLI.out w6.drew (HK6.out.2.2.kept hdr (Nat.le_refl _))).mono ?_;rintro e w4 ⟨⟨v4,rfl,ho4⟩,hX4⟩;obtain⟨va,vc,rfl⟩:=Jm ho4;have HO4:=Lib.hid (And.intro (SlU.of_own ho4).2 (hdr.trans (hX4.mono (Nat.le_refl _))));clear ho4 hX4;have s4:=sB HO4.out.2)
   |(go_simp;go_at_call 40;refine(HGI.out (.slice va MV.length vc) w4 HO4.out.2 HO4.out.1).mono ?_;rintro e w7 ⟨rfl,gv7,mv7⟩;have s7:=HS7.out w4 w7 _ _ HO4.out.2 mv7;have HM7:=Lib.hid mv7;clear mv7))
 all_goals
  obtain⟨t2,ht2⟩:∃t2:Vt,t2= {t1 with kn:=none}:=⟨_,rfl⟩
  obtain⟨v7,hv7⟩:∃v7:Vt,v7= {v3 with ch:=A++(c,gv n t2 MV)::D}:=⟨_,rfl⟩
  obtain⟨T7,hT7⟩:∃T7:Tx,T7= {T6 with gv:=gv7,gone:=T6.gone++t1.kn.toList.map Pt.a}:=⟨_,rfl⟩
  have HR:=Lib.hid (show Ran K root h (n+1) w v T w7 v7 T7 (v.kn.toList.map Pt.a++t1.kn.toList.map Pt.a) [MV.length]/\v7.b=v.b/\v7.ld=true/\v7.kn=none/\k+1<=v7.ch.length/\(∀i x,k<=i->i<k+1->v7.ch[i]? =some x->x.2.ld=true/\x.2.kn=none)/\(Gk K (n+1) v->∀i x,v7.ch[i]? =some x->if k<=i/\i<k+1 then Gk K n x.2 else Gd K n x.2)/\((K.B<=v.us.length/\v.ch.length<=K.F)->K.B/K.F<=MV.length) from by
   obtain⟨-,sm2,-,-,-,-,hv2l,hv2b,hv2c,hv2n,hv2s,hv2,hv1,hT2,hT1,hwr,ht1,hld,htb⟩:=HK2.out
   obtain⟨e,hMV,hRS,hk,hm0,hmle⟩:=HE.out
   have m6:=HK6.out.1
   have hv3l:v3.ld=true:=by rw[HV3.out];exact hv2l
   have hv3c:v3.ch=A++(c,t1)::D:=by rw[HV3.out];exact hv2c
   have hv2k:v2.kn=none:=by rw[hv2]
   have hv2u:v2.us=v.us:=by rw[hv2,hv1]
   have m4:=m6.on HO4.out.2
   have mv7:Mv K root h n w4 t1 T6 w7 (gv n t2 MV) T7:=by
    rw[ht2,hT7]
    have:=HM7.out
    rw[<-htb] at this
    exact this
   have hgk:∀t':Vt,(t'=gv n t2 MV)->t'.ld=true/\t'.kn=none:=fun t' q=>by
    rw[q,ht2]
    cases n<;>exact⟨hld,rfl⟩
   refine⟨⟨?_,?_,?_,?_,?_,?_⟩,?_,?_,?_,?_,?_,?_,?_⟩
   ·have s3:Sm K.F K.L (n+1) v2 {v2 with ch:=A++(c,t2)::D} (t1.kn.toList.map Pt.a) []:=.kid hv2c hv2k (by rw[ht2];exact Sm.soil' t1)
    have s4:=Sm.hand (F:=K.F) (L:=K.L) (n:=n) (v:= {v2 with ch:=A++(c,t2)::D}) (A:=A) (c:=c) (t:=t2) (D:=D) rfl hv2k (by rw[ht2]) (by show 0<(JH v2.us c.low (hdL D)).length;rw[hv2u];exact hm0)
    have s5:=(sm2.trans s3).trans s4
    simp only[hv2u] at s5
    rw[<-hMV,<-hRS] at s5
    rw[hv7,HV3.out]
    simpa using s5
   ·have:=Mv.kid m4.mem hv3l m4.nodup m4.cx hv3c mv7
    rw[hv7]
    exact m4.trans this
   ·rw[hT7]
    show T6.gone++_=_
    rw[HK7.out.1,List.append_assoc]
   ·rw[hT7]
    show T6.fl=T.fl+1
    rw[HK7.out.2,HT4.out,hT2,hT1]
   ·rw[hT7]
    show T6.le=Jjg T.le MV.length
    rw[HK7.out.2,HLe.out,HT4.out,hT2,hT1]
   ·rw[hT7]
    show T6.wr<=T.wr
    rw[HK7.out.2,HT4.out,hT2,hT1]
    exact hwr
   ·rw[hv7];exact hv3b
   ·rw[hv7];exact hv3l
   ·rw[hv7,HV3.out];exact hv2k
   ·rw[hv7,hk];simp
   ·intro i x h1 h2 hx
    obtain rfl:i=k:=by omega
    rw[hv7,hk] at hx
    have:(c,gv n t2 MV)=x:=by simpa using hx
    rw[<-this]
    exact hgk _ rfl
   ·intro hg i x hx
    rw[hv7] at hx
    have hgd:∀y∈v.ch,Gd K n y.2:=hg
    have hx':(A++(c,gv n t2 MV)::D)[i]? =some x:=hx
    by_cases hi:i=k
    ·rw[if_pos ⟨by omega,by omega⟩]
     rw[hi,hk] at hx'
     have:(c,gv n t2 MV)=x:=by simpa using hx'
     rw[<-this,ht2]
     refine Jrk MV ?_
     have h0:=(hgd (c,t) (by rw[e];simp)).gk
     rcases ht1 with rfl|ht1
     ·exact h0
     ·exact ht1.gk h0
    ·rw[if_neg (by omega)]
     refine hgd x ?_
     rw[e]
     have hne:¬i=A.length:=by omega
     rcases Nat.lt_or_ge i A.length with hl|hl
     ·rw[List.getElem?_append_left hl] at hx'
      exact List.mem_append_left _ (List.mem_of_getElem? hx')
     ·rw[List.getElem?_append_right hl,show i-A.length=(i-A.length-1)+1 by omega,List.getElem?_cons_succ] at hx'
      exact List.mem_append_right _ (List.mem_cons_of_mem _ (List.mem_of_getElem? hx'))
   ·rintro⟨h1,h2⟩
    rw[<-hMV] at hmle
    refine Nat.div_le_of_le_mul ?_
    exact Nat.le_trans h1 (Nat.le_trans hmle (Nat.mul_le_mul_right _ h2)))
  have HOC:=Lib.hid (HO'.out K root h lo hi w7 v7 T7 ((n:Int)+2) k (k+1) HP.out.1 (HP.out.2.next HP.out.1 HR.out.1) HR.out.2.2.1 HR.out.2.2.2.1 (by omega) HR.out.2.2.2.2.1 HR.out.2.2.2.2.2.1 rfl hn100)
  rw[HR.out.2.1,show((k+1:Nat):Int)=(k:Int)+1 from rfl] at HOC
  clear hv7 ht2 hT7 HM7 s7 s4 s0 sB HO4 HS7 HGI HLI HK6 HK7 HV3 HT4 HLe
  go_wp2_with fail
  refine HOC.out.mono ?_
  rintro e w8 ⟨v8,T8,g8,l8,R8,hor,hm8⟩
  have hk8:=R8.sm.kept.kn
  have R:=HR.out.1.trans R8
  rcases hor with⟨rfl,hgk8⟩|⟨rfl,hpos⟩
  ·go_wp2_with fail
   go_ret
   refine⟨v8,T8,_,_,R,Or.inl ⟨rfl,hk8.elim (fun q=>q.trans HR.out.2.2.2.1) id,by simp,fun hg=>hgk8 (HR.out.2.2.2.2.2.2.1 hg)⟩,fun hbf m hm=> ?_⟩
   rcases List.mem_append.1 hm with hm|hm
   ·rw[List.mem_singleton.1 hm];exact HR.out.2.2.2.2.2.2.2 hbf
   ·exact hm8 m hm
  ·go_wp2_with fail
   go_ret
   refine⟨v8,T8,_,_,R,Or.inr ⟨rfl,Nat.lt_of_lt_of_le hpos HR.out.1.wr⟩,fun hbf m hm=> ?_⟩
   rcases List.mem_append.1 hm with hm|hm
   ·rw[List.mem_singleton.1 hm];exact HR.out.2.2.2.2.2.2.2 hbf
   ·exact hm8 m hm
open Go.RowKit
attribute [local go_sem ↓] Go.wp_at_zero Go.wp_at_succ
theorem Jqg (a b:Option Addr) (n x m y:Nat) (F B L:Int) (w:World):
  Calls Tryz.prog 71 #[.agg #[.slice a n x,.slice b m y],.agg #[.int .i64 F,.int .i64 B,.int .i64 L]] w fun e w'=>e=.returned (.bool (decide (F<(n:Int))))/\Below w.heap.size w w':=by
 go_enter Tryz.func71,Tryz.ntmps71
 go_wp2_with fail
 go_ret
 exact⟨rfl,by go_grown⟩
theorem Jrl (a b:Option Addr) (n x m y:Nat) (F B L:Int) (w:World):
  Calls Tryz.prog 101 #[.agg #[.slice a n x,.slice b m y],.agg #[.int .i64 F,.int .i64 B,.int .i64 L]] w fun e w'=>e=.returned (.bool (decide (B<(m:Int))))/\Below w.heap.size w w':=by
 have HL:=Lib.hid (fun w'=>XY b m y w')
 go_enter Tryz.func101,Tryz.ntmps101
 go_upto_region 1 with(fail)
 obtain⟨W1,hW1⟩:∃W1,W1=(w.alloc (.cells #[.slice a n x,.slice b m y] 105)).alloc (.cells #[.int .i64 F,.int .i64 B,.int .i64 L] 29):=⟨_,rfl⟩
 have hX1:Below w.heap.size w W1:=by rw[hW1];exact((Below.refl _ _).alloc (Nat.le_refl _) _).alloc (by simp) _
 have z0:W1.cell? ⟨w.heap.size,1,none⟩=some (.slice b m y):=by
  rw[hW1]
  exact((Jc.new w _ [.slice a n x,.slice b m y]).alloc _).cell 1
 have z1:W1.cell? ⟨w.heap.size+1,1,none⟩=some (.int .i64 B):=by
  rw[hW1]
  have:=(Jc.new (w.alloc (.cells #[.slice a n x,.slice b m y] 105)) 29 [.int .i64 F,.int .i64 B,.int .i64 L]).cell 1
  simp only[World.size_alloc] at this
  exact this
 rw[<-hW1]
 clear hW1
 have hdr:Below W1.heap.size W1 W1.drew:=Jb (Below.refl _ _)
 go_region_law (first|(go_simp;go_at_call 63;refine(HL.out _).mono ?_;rintro e w2 ⟨rfl,hX2⟩;have z2:=Ja hX2 (Jj z1)))
 all_goals
  go_wp2_with fail
  first
   |exact bodyPost_ret (v:=.bool (decide (B<(m:Int)))) (by simp[results,Tryz.results101,go_sem]) rfl ⟨rfl,hX1.trans ((hdr.trans (hX2.mono (Nat.le_refl _))).mono hX1.size)⟩
   |(go_ret;exact⟨rfl,hX1.trans ((hdr.trans (hX2.mono (Nat.le_refl _))).mono hX1.size)⟩)
theorem JhU {l:List (Chd×Vt)} {i:Nat} {y:Chd×Vt} (h:(Jk l)[i]? =some y):∃z,l[i]? =some z/\z.2=y.2:=by
 cases l with
 |nil=>simp[Jk] at h
 |cons x l=>
  cases i with
  |zero=>simp[Jk] at h;exact⟨x,rfl,by rw[<-h]⟩
  |succ i=>exact⟨y,by simpa[Jk] using h,rfl⟩
theorem Jdl {l A D Q:List (Chd×Vt)} {x y:Chd×Vt} {i:Nat} (e:l=A++x::D) (h:(A++(Q++D))[i]? =some y):(i<A.length/\l[i]? =some y)\/(A.length<=i/\i<A.length+Q.length/\y∈Q)\/(A.length+Q.length<=i/\l[i-Q.length+1]? =some y):=by
 rcases Nat.lt_or_ge i A.length with hi|hi
 ·rw[List.getElem?_append_left hi] at h
  exact Or.inl ⟨hi,by rw[e,List.getElem?_append_left hi];exact h⟩
 ·rw[List.getElem?_append_right hi] at h
  rcases Nat.lt_or_ge (i-A.length) Q.length with hj|hj
  ·rw[List.getElem?_append_left hj] at h
   exact Or.inr (Or.inl ⟨hi,by omega,List.mem_of_getElem? h⟩)
  ·rw[List.getElem?_append_right hj] at h
   refine Or.inr (Or.inr ⟨by omega,?_⟩)
   rw[e,List.getElem?_append_right (by omega),show i-Q.length+1-A.length=(i-A.length-Q.length)+1 by omega,List.getElem?_cons_succ]
   exact h
theorem JjX {l:List (Chd×Vt)} {k:Nat} (h:k<l.length):∃A c t D,l=A++(c,t)::D/\k=A.length/\l[k]? =some (c,t):=by
 refine⟨l.take k,l[k].1,l[k].2,l.drop (k+1),?_,by rw[List.length_take];omega,List.getElem?_eq_getElem h⟩
 have:=List.take_append_drop k l
 rw[List.drop_eq_getElem_cons h] at this
 exact this.symm
def Hyp (K:Kx) (n:Nat) (v:Vt) (k en:Nat):Prop:=∀i x,v.ch[i]? =some x->if k<=i/\i<en then Gk K n x.2 else Gd K n x.2
def LdK (v:Vt) (k en:Nat):Prop:=∀i x,k<=i->i<en->v.ch[i]? =some x->x.2.ld=true/\x.2.kn=none
theorem Hyp.end' {K:Kx} {n:Nat} {v:Vt} {k:Nat} (h:Hyp K n v k k):Gk K (n+1) v:=fun x hx=>by
 obtain⟨i,hi⟩:=List.getElem?_of_mem hx
 have:=h i x hi
 rwa[if_neg (by omega)] at this
section
variable {K:Kx} {n:Nat} {v:Vt} {k en:Nat} {A:List (Chd×Vt)} {c:Chd} {t:Vt} {D Q:List (Chd×Vt)}
theorem LdK.put (h:LdK v k en) (e:v.ch=A++(c,t)::D) (hk:k=A.length) (_:k<en) {k' en':Nat} (hen':en'+1=en+Q.length) (hk':k<=k') (hQ:∀x∈Q,x.2.ld=true/\x.2.kn=none):LdK {v with ch:=Jk (A++(Q++D))} k' en':=fun i x h1 h2 hx=>by
 obtain⟨z,hz,hzx⟩:=JhU hx
 rw[<-hzx]
 rcases Jdl e hz with⟨q1,q2⟩|⟨q1,q2,q3⟩|⟨q1,q2⟩
 ·omega
 ·exact hQ z q3
 ·exact h _ z (by omega) (by omega) q2
theorem Hyp.put (h:Hyp K n v k en) (e:v.ch=A++(c,t)::D) (hk:k=A.length) (hen:k<en) {en':Nat} (hen':en'+1=en+Q.length) (hQ:∀x∈Q,Gk K n x.2):Hyp K n {v with ch:=Jk (A++(Q++D))} k en':=fun i x hx=>by
 obtain⟨z,hz,hzx⟩:=JhU hx
 rw[<-hzx]
 rcases Jdl e hz with⟨q1,q2⟩|⟨q1,q2,q3⟩|⟨q1,q2⟩
 ·have:=h i z q2
  rw[if_neg (by omega)] at this
  rw[if_neg (by omega)];exact this
 ·rw[if_pos ⟨by omega,by omega⟩];exact hQ z q3
 ·have:=h _ z q2
  by_cases hi:i<en'
  ·rw[if_pos ⟨by omega,hi⟩]
   rwa[if_pos ⟨by omega,by omega⟩] at this
  ·rw[if_neg (by omega)]
   rwa[if_neg (by omega)] at this
theorem Hyp.done (h:Hyp K n v k en) (e:v.ch=A++(c,t)::D) (hk:k=A.length) (_:k<en) {k' en':Nat} (hen':en'+1=en+Q.length) (hk':k'=k+Q.length) (hQ:∀x∈Q,Gd K n x.2):Hyp K n {v with ch:=Jk (A++(Q++D))} k' en':=fun i x hx=>by
 obtain⟨z,hz,hzx⟩:=JhU hx
 rw[<-hzx]
 rcases Jdl e hz with⟨q1,q2⟩|⟨q1,q2,q3⟩|⟨q1,q2⟩
 ·have:=h i z q2
  rw[if_neg (by omega)] at this
  rw[if_neg (by omega)];exact this
 ·rw[if_neg (by omega)];exact hQ z q3
 ·have:=h _ z q2
  by_cases hi:i<en'
  ·rw[if_pos ⟨by omega,hi⟩]
   rwa[if_pos ⟨by omega,by omega⟩] at this
  ·rw[if_neg (by omega)]
   rwa[if_neg (by omega)] at this
theorem Hyp.set (h:Hyp K n v k en) (e:v.ch=A++(c,t)::D) (hk:k=A.length) (hen:k<en) {t':Vt} (hQ:Gk K n t->Gk K n t'):Hyp K n {v with ch:=A++(c,t')::D} k en:=fun i x hx=>by
 have hx':(A++([(c,t')]++D))[i]? =some x:=hx
 rcases Jdl e hx' with⟨q1,q2⟩|⟨q1,q2,q3⟩|⟨q1,q2⟩
 ·exact h i x q2
 ·rw[List.length_singleton] at q2
  rw[if_pos ⟨by omega,by omega⟩]
  rw[List.mem_singleton] at q3
  rw[q3]
  have:=h k (c,t) (by rw[e,hk];simp)
  rw[if_pos ⟨by omega,hen⟩] at this
  exact hQ this
 ·rw[List.length_singleton] at q1 q2
  have:=h _ x q2
  rwa[show i-1+1=i by omega] at this
theorem LdK.set (h:LdK v k en) (e:v.ch=A++(c,t)::D) (hk:k=A.length) {t':Vt} (hQ:t'.ld=true/\t'.kn=none):LdK {v with ch:=A++(c,t')::D} k en:=fun i x h1 h2 hx=>by
 have hx':(A++([(c,t')]++D))[i]? =some x:=hx
 rcases Jdl e hx' with⟨q1,q2⟩|⟨q1,q2,q3⟩|⟨q1,q2⟩
 ·exact h i x h1 h2 q2
 ·rw[List.mem_singleton] at q3
  rw[q3];exact hQ
 ·rw[List.length_singleton] at q1 q2
  rw[show i-1+1=i by omega] at q2
  exact h i x h1 h2 q2
theorem Hyp.next (h:Hyp K n v k en) (e:v.ch=A++(c,t)::D) (hk:k=A.length) (hen:k<en) (hQ:Gk K n t->Gd K n t):Hyp K n v (k+1) en:=fun i x hx=>by
 have:=h i x hx
 by_cases hi:i=k
 ·rw[if_neg (by omega)]
  have hx2:v.ch[k]? =some (c,t):=by rw[e,hk];simp
  rw[hi,hx2] at hx
  rw[if_pos ⟨by omega,by omega⟩] at this
  obtain rfl:(c,t)=x:=by simpa using hx
  exact hQ this
 ·by_cases h2:k+1<=i/\i<en
  ·rw[if_pos h2]
   rwa[if_pos ⟨by omega,h2.2⟩] at this
  ·rw[if_neg h2]
   rwa[if_neg (by omega)] at this
end
theorem LdK.next {v:Vt} {k en:Nat} (h:LdK v k en) {k':Nat} (hk:k<=k'):LdK v k' en:=fun i x h1 h2 hx=>h i x (by omega) h2 hx
theorem Mv.put {K:Kx} {root h n:Nat} {w w1 w2:World} {v:Vt} {A:List (Chd×Vt)} {c:Chd} {t:Vt} {D Q:List (Chd×Vt)} {T:Tx} (hm:Mem w (n+1) v) (hl:v.ld=true) (hn:(blocks (n+1) v).Nodup) (c0:CAt w K root h T) (e:v.ch=A++(c,t)::D) (hb:Below w.heap.size w w1) (hk:Jg (fun x=>x=v.b) w1 w2) (hN:Zh w2 {v with ch:=Jk (A++(Q++D))}) (hQ:∀x∈Q,Mem w2 n x.2) (hQf:∀b∈Jy n Q,b∈blocks n t\/w.heap.size<=b) (hQn:(Jy n Q).Nodup):
  Mv K root h (n+1) w v T w2 {v with ch:=Jk (A++(Q++D))} T:=by
 have hin:=hm.in
 have hlt:=hm.lt
 have hs:=(hlt _ hm.head).1
 obtain⟨-,kids⟩:=hm.node hl
 have hkk:Jg (fun x=>x=v.b) w w2:=(Jg.of_below hb).trans' hk
 have hb':blocks (n+1) {v with ch:=Jk (A++(Q++D))}=v.b::(Jy n A++(Jy n Q++Jy n D)):=by
  rw[JL (n:=n) (v:= {v with ch:=Jk (A++(Q++D))}) hin]
  show v.b::Jy n (Jk (A++(Q++D)))=_
  rw[Jao,JN,JN]
 have hn0:=hn
 rw[JL hin,e,JN,J3,List.nodup_cons] at hn0
 have hold:∀x∈v.ch,Mem w2 n x.2:=fun x hx=>(kids x hx).keep hkk (fun b q=>by rw[show b=v.b from q];exact hs) fun b hbx q=>by
  rw[JL hin,List.nodup_cons] at hn
  refine hn.1 ?_
  rw[<-show b=v.b from q]
  exact List.mem_flatMap.2 ⟨x,hx,hbx⟩
 refine⟨⟨hin,Or.inl ⟨hN,YC (P:=fun t=>Mem w2 n t) fun x hx=> ?_⟩⟩,?_,fun b hbx=> ?_,rfl,?_,fun _ q=>Or.inl q,?_⟩
 ·rcases List.mem_append.1 hx with hx|hx
  ·exact hold x (by rw[e];exact List.mem_append_left _ hx)
  ·rcases List.mem_append.1 hx with hx|hx
   ·exact hQ x hx
   ·exact hold x (by rw[e];simp[hx])
 ·rw[hb',List.nodup_cons]
  have hltA:∀b∈Jy n A,b<w.heap.size:=fun b hbx=>by
   obtain⟨x,hx,hbx⟩:=List.mem_flatMap.1 hbx
   exact(hlt b (Ze hin (x:=x) (by rw[e];exact List.mem_append_left _ hx) hbx)).2
  have hltD:∀b∈Jy n D,b<w.heap.size:=fun b hbx=>by
   obtain⟨x,hx,hbx⟩:=List.mem_flatMap.1 hbx
   exact(hlt b (Ze hin (x:=x) (by rw[e];simp[hx]) hbx)).2
  refine⟨fun q=> ?_,Jfn hn0.2 hQn hQf hltA hltD⟩
  rcases List.mem_append.1 q with q|q
  ·exact hn0.1 (List.mem_append_left _ q)
  ·rcases List.mem_append.1 q with q|q
   ·rcases hQf _ q with j|j
    ·exact hn0.1 (List.mem_append_right _ (List.mem_append_left _ j))
    ·have:=(hlt v.b hm.head).2;omega
   ·exact hn0.1 (List.mem_append_right _ (List.mem_append_right _ q))
 ·rw[hb'] at hbx
  rw[JL hin,e,JN,J3]
  simp only[List.mem_cons,List.mem_append] at hbx⊢
  rcases hbx with j|j|j|j
  ·exact Or.inl (Or.inl j)
  ·exact Or.inl (Or.inr (Or.inl j))
  ·rcases hQf b j with i|i
   ·exact Or.inl (Or.inr (Or.inr (Or.inl i)))
   ·exact Or.inr i
  ·exact Or.inl (Or.inr (Or.inr (Or.inr j)))
 ·exact c0.keep hkk fun x q=>by
   obtain rfl:x=v.b:=q
   exact Or.inl (hm.cells _ hm.head)
 ·exact hkk.mono fun x q=>Or.inr (by rw[show x=v.b from q];exact hm.head)
structure OL (K:Kx) (root h n:Nat) (w:World) (v:Vt) (T:Tx) (k en g k' en':Nat) (wr:World) (v':Vt) (T':Tx) (gg:List Int) (l:List Nat):Prop where
 ran:Ran K root h (n+1) w v T wr v' T' gg l
 le:k'<=en'
 top:en'<=v'.ch.length
 ld:LdK v' k' en'
 gd:Hyp K n v k en->Hyp K n v' k' en'
 big:∀m∈l,K.B/K.F<=m
 num:g=(en'-k')+2*mu (n+1) v'
theorem Ran.put {K:Kx} {root h n:Nat} {w w1 w2 w3:World} {v v':Vt} {A:List (Chd×Vt)} {c:Chd} {t:Vt} {D Q:List (Chd×Vt)} {T T':Tx} {gg:List Int} {l:List Nat} (a:Ran K root h (n+1) w v T w1 v' T' gg l) (hl:v'.ld=true) (e:v'.ch=A++(c,t)::D) (hb:Below w1.heap.size w1 w2) (hk:Jg (fun x=>x=v'.b) w2 w3) (hN:Zh w3 {v' with ch:=Jk (A++(Q++D))}) (hQ:∀x∈Q,Mem w3 n x.2) (hQf:∀b∈Jy n Q,b∈blocks n t\/w1.heap.size<=b) (hQn:(Jy n Q).Nodup) (s:Sm K.F K.L (n+1) v' {v' with ch:=Jk (A++(Q++D))} [] []):Ran K root h (n+1) w v T w3 {v' with ch:=Jk (A++(Q++D))} T' gg l:=by
 have:=a.trans ⟨s,Mv.put a.mv.mem hl a.mv.nodup a.mv.cx e hb hk hN hQ hQf hQn,by simp,rfl,rfl,Nat.le_refl _⟩
 rwa[List.append_nil,List.append_nil] at this
theorem SlV.nil (w:World):SlV w (.slice none 0 0) []:=⟨none,0,rfl,JC.nil _ _ _ _,Nat.le_refl _,by omega,fun _=>rfl⟩
theorem Jbe.of_own {w:World} {B n:Nat} {ao:Option Addr} {c:Nat} {l:List (List UInt8)} (h:w.ownsRow B 9 1 (.slice ao n c) n (l.map fun s=>.string (S s))) (hn:l.length=n):Jbe w ao l:=by
 by_cases h0:0<n
 ·obtain⟨g,rfl,-,hg,hc⟩:=Yk h h0
  refine Or.inr ⟨g,0,rfl,hg,fun i hi j x hx=> ?_⟩
  cases j with
  |zero=>
   have:=hc i (.string (S l[i])) (by rw[List.getElem?_map,List.getElem?_eq_getElem hi];rfl)
   simp at hx
   rw[<-hx]
   simpa using this
  |succ j=>simp at hx
 ·exact Or.inl (List.eq_nil_of_length_eq_zero (by omega))
open Go.RowKit
attribute [local go_sem ↓] Go.wp_at_zero Go.wp_at_succ
theorem JkI:JeF 0:=by
 intro K root h lo hi w v T hh k en hP hpre hl hkn hken henl hld hhh hn100
 have H0:=Lib.hid (show OL K root h 0 w v T k en ((en-k)+2*mu (0+1) v) k en w v T [] [] from⟨Ran.refl hpre.m hpre.nd hpre.c,hken,henl,hld,id,fun m hm=>by simp at hm,rfl⟩)
 have HP:=Lib.hid (And.intro hP (And.intro hpre (And.intro hl hkn)))
 have hhh2:hh=2:=by omega
 subst hhh2
 clear hP hpre hl hkn hken henl hld hhh hn100
 go_enter Tryz.func73,Tryz.ntmps73
 go_wp2_with fail
 go_loopg [2,3] ((en-k)+2*mu (0+1) v) (fun g s2 s3 wx=>∃k' en':Nat,s2=.int .i64 k'/\s3=.int .i64 en'/\Hid (∃v' T' gg l,OL K root h 0 w v T k en g k' en' wx v' T' gg l))
 case atStart=>exact⟨k,en,rfl,rfl,Lib.hid ⟨v,T,[],[],H0.out⟩⟩
 case round=>
  obtain⟨k',en',rfl,rfl,HR⟩:=hrel
  obtain⟨v',T',gg,l,hO⟩:=HR.out
  have hle:=hO.le
  have hv'l:v'.ld=true:=hO.ran.sm.kept.ld HP.out.2.2.1
  have hv'k:v'.kn=none:=hO.ran.sm.kept.kn.elim (fun q=>q.trans HP.out.2.2.2) id
  have hv'b:v'.b=v.b:=hO.ran.mv.b
  have hp':=HP.out.2.1.next HP.out.1 hO.ran
  by_cases hlt:k'<en'
  ·have htop:=hO.top
   have hkl:k'<v'.ch.length:=by omega
   obtain⟨A,c,t,D,e,hkA,hx⟩:=JjX hkl
   obtain⟨htl,htk⟩:=hO.ld k' (c,t) (Nat.le_refl _) hlt hx
   obtain⟨⟨-,pa,pg,ps,a1,x1,a2,x2,a3,x3,hv,-,hnode,hkd⟩,hkm⟩:=hp'.m.node hv'l
   have mt:Mem wr 0 t:=hkm (c,t) (by rw[e];simp)
   obtain⟨-,qa,qg,qs,la,lc,hvt,-,hbx⟩:=mt.leaf htl
   rw[hv'b] at hv
   have hsz:=Jcy hp'.pot
   have hkd1:wr.ownsRow 0 97 1 (.slice a3 v'.ch.length x3) v'.ch.length ((v'.ch.map fun x=>x.2.b).map vp):=by
    have:wr.ownsRow 0 97 1 (.slice a3 v'.ch.length x3) (v'.ch.map fun x=>x.2.b).length ((v'.ch.map fun x=>x.2.b).map vp):=hkd
    rwa[List.length_map] at this
   obtain⟨g3,rfl,-,-,hgc⟩:=Yk hkd1 (by omega)
   have r0:wr.cell? ⟨g3,k',none⟩=some (.pointer (some ⟨t.b,0,none⟩)):=by
    have:=hgc k' (vp t.b) (by rw[List.getElem?_map,List.getElem?_map,hx];rfl)
    simpa using this
   have hcsl:v'.cs.length=v'.ch.length:=List.length_map ..
   obtain⟨gc,goff,rfl,-,l0,-⟩:=JC.cells4C (SlC.at hnode.parts.1) k' (by rw[hcsl];exact hkl)
   have hcs:v'.cs[k']'(by rw[hcsl];exact hkl)=c:=by
    have:v'.cs[k']? =some c:=by rw[Vt.cs,List.getElem?_map,hx];rfl
    rw[List.getElem?_eq_getElem (by rw[hcsl];exact hkl)] at this
    exact Option.some.inj this
   rw[hcs] at l0
   have c6:=hv.c6
   have c8:=hv.c8
   have t5:=hvt.c5
   have HLN:=Lib.hid (fun w'=>JdK la t.es.length lc w')
   have HE:=Lib.hid (And.intro e (And.intro hkA (And.intro hx (And.intro htl (And.intro htk (And.intro mt (And.intro hp' (And.intro hv'l (And.intro hv'k (And.intro hv'b hO))))))))))
   clear e hkA hx htl htk mt hp' hv'l hv'k hv'b hO hv hnode hkd hkm hvt hbx hkd1 hgc hcs hcsl HR
   go_upto_region 4 with(fail)
   go_cut [30] from 18 to 141 (fun s30 wx=>s30=.bool (decide (t.es.length=0/\1<v'.ch.length))/\Below wr.heap.size wr wx)
   case first=>
    by_cases he:t.es.length=0
    ·have hb0:((t.es.length:Int)==0)=true:=by rw[he];rfl
     have He:=Lib.hid he
     clear he
     by_cases h1:1<v'.ch.length
     ·have hb1:(1:Int)<(v'.ch.length:Int):=by omega
      have HQ:=Lib.hid (show decide (t.es.length=0/\1<v'.ch.length)=true from decide_eq_true ⟨He.out,h1⟩)
      go_wp2_with fail
      refine(HLN.out _).mono ?_
      rintro e w2 ⟨rfl,hX⟩
      have k8:=Ja hX c8
      go_wp2_with fail
      go_meet
      exact⟨by rw[HQ.out],hX⟩
     ·have hb1:¬((1:Int)<(v'.ch.length:Int)):=by omega
      have HQ:=Lib.hid (show decide (t.es.length=0/\1<v'.ch.length)=false from decide_eq_false fun q=>h1 q.2)
      go_wp2_with fail
      refine(HLN.out _).mono ?_
      rintro e w2 ⟨rfl,hX⟩
      have k8:=Ja hX c8
      go_wp2_with fail
      go_meet
      exact⟨by rw[HQ.out];simp;omega,hX⟩
    ·have hb0:((t.es.length:Int)==0)=false:=by simp;exact fun q=>he (by rw[q];rfl)
     have HQ:=Lib.hid (show decide (t.es.length=0/\1<v'.ch.length)=false from decide_eq_false fun q=>he q.1)
     clear he
     go_wp2_with fail
     refine(HLN.out _).mono ?_
     rintro e w2 ⟨rfl,hX⟩
     go_wp2_with fail
     go_meet
     exact⟨by rw[HQ.out],hX⟩
   case rest=>
   obtain⟨rfl,hX⟩:=hcut
   obtain⟨w2,hw2⟩:∃w2,w2=wc:=⟨_,rfl⟩
   subst hw2
   have c62:=Ja hX c6
   have l02:=Ja hX l0
   have HX:=Lib.hid hX
   clear c6 c8 r0 l0 t5 hX HLN
   by_cases hq:t.es.length=0/\1<v'.ch.length
   ·have HQ:=Lib.hid hq
    have hqd:decide (t.es.length=0/\1<v'.ch.length)=true:=decide_eq_true hq
    rw[hqd]
    clear hq hqd
    have HPU:=Lib.hid (show Calls Tryz.prog 100 #[.pointer (some ⟨v.b,0,none⟩),.int .i64 k',.slice none 0 0,.slice none 0 0] w2 fun e w'=>e=.returned (.tuple #[])/\Jg (fun x=>x=v'.b) w2 w'/\Zh w' {v' with ch:=Jk (A++([]++D))} from by
     obtain⟨e,hkA,hx,htl,htk,mt,hp',hv'l,hv'k,hv'b,hO⟩:=HE.out
     have:=Jqy (Q:=[]) (.slice none 0 0) none 0 k' (hp'.m.on HX.out) hv'l e hkA (SlV.nil _) (JC.nil _ _ _ _) (by omega) (by simp) (by
      have h1:=HQ.out.2
      rw[e] at h1
      intro q
      obtain⟨q1,q2⟩:=List.append_eq_nil_iff.1 q
      rw[List.nil_append] at q2
      rw[q1,q2] at h1
      simp at h1) (fun x hx=>by simp at hx)
     rw[hv'b] at this
     rw[hv'b]
     exact this)
    go_wp2_with fail
    refine HPU.out.mono ?_
    rintro e w3 ⟨rfl,hK3,hN3⟩
    have HN3:=Lib.hid (And.intro hK3 hN3)
    clear hK3 hN3 HPU
    go_wp2_with fail
    go_roundg ((en'-1-k')+2*mu (0+1) {v' with ch:=Jk (A++([]++D))})
    case measure=>
     obtain⟨e,hkA,hx,htl,htk,mt,hp',hv'l,hv'k,hv'b,hO⟩:=HE.out
     have h1:mu (0+1) {v' with ch:=Jk (A++([]++D))}+1<=mu (0+1) v':=(Jg8 e (List.eq_nil_of_length_eq_zero HQ.out.1)).2.1
     have h2:=hO.num
     omega
    case rel=>
     obtain⟨e,hkA,hx,htl,htk,mt,hp',hv'l,hv'k,hv'b,hO⟩:=HE.out
     have hes:=List.eq_nil_of_length_eq_zero HQ.out.1
     have hne:A++D≠[]:=fun q=>by
      have h1:=HQ.out.2
      obtain⟨q1,q2⟩:=List.append_eq_nil_iff.1 q
      rw[e,q1,q2] at h1
      simp at h1
     refine⟨k',en'-1,rfl,by go_num,Lib.hid ⟨_,T',gg,l,⟨hO.ran.put (Q:=[]) hv'l e HX.out HN3.out.1 HN3.out.2 (fun x hx=>by simp at hx) (fun x hx=>by simp[Jy] at hx) (by simp[Jy]) (Sm.drop e hv'k htk hes hne),by omega,?_,hO.ld.put e hkA hlt (by simp;omega) (Nat.le_refl _) (fun x hx=>by simp at hx),fun hh=>(hO.gd hh).put e hkA hlt (by simp;omega) (fun x hx=>by simp at hx),hO.big,rfl⟩⟩⟩
     have h1:=hO.top
     rw[Jw]
     rw[e] at h1
     simp at h1⊢
     omega
   ·have HQ:=Lib.hid hq
    have hqd:decide (t.es.length=0/\1<v'.ch.length)=false:=decide_eq_false hq
    rw[hqd]
    clear hq hqd
    have HPT:=Lib.hid (by
     obtain⟨e,hkA,hx,htl,htk,mt,hp',hv'l,hv'k,hv'b,hO⟩:=HE.out
     exact Jn1 c.low w2 (hp'.c.on HX.out) (mt.on HX.out) htl (Nat.le_trans (Jai hp'.pot (x:=(c,t)) (by rw[e];simp)) (by omega)) HP.out.1.L HP.out.1.L2)
    go_wp2_with fail
    refine HPT.out.mono ?_
    rintro e w3 ⟨Q,kv,lv,rfl,hPt,hQl⟩
    obtain⟨ka,kc,rfl⟩:=Jm hPt.rowK
    obtain⟨ja,jc,rfl⟩:=Jm hPt.rowL
    have HPt:=Lib.hid (And.intro hPt hQl)
    clear hPt hQl HPT
    have hql:Q.length<=1000:=by
     obtain⟨e,hkA,hx,htl,htk,mt,hp',hv'l,hv'k,hv'b,hO⟩:=HE.out
     have hQl:=HPt.out.2
     have hpe:t.es.length<=802:=Jas (Jai hp'.pot (x:=(c,t)) (by rw[e];simp))
     have hnl:=JaA t.es.length K.L
     omega
    by_cases h1:1<Q.length
    ·have hb1:(1:Int)<(Q.length:Int):=by omega
     have HPU:=Lib.hid (show Calls Tryz.prog 100 #[.pointer (some ⟨v.b,0,none⟩),.int .i64 k',.slice ka Q.length kc,.slice ja Q.length jc] w3 fun e w'=>e=.returned (.tuple #[])/\Jg (fun x=>x=v'.b) w3 w'/\Zh w' {v' with ch:=Jk (A++(Q++D))} from by
      obtain⟨e,hkA,hx,htl,htk,mt,hp',hv'l,hv'k,hv'b,hO⟩:=HE.out
      obtain⟨hPt,hQl⟩:=HPt.out
      have hsv:=(SlV.of_own hPt.rowK).2
      have hpe:t.es.length<=802:=Jas (Jai hp'.pot (x:=(c,t)) (by rw[e];simp))
      have hnl:=JaA t.es.length K.L
      have:=Jqy (.slice ka Q.length kc) ja jc k' ((hp'.m.on HX.out).on hPt.keep) hv'l e hkA hsv (Jbe.of_own hPt.rowL (by simp)) (by omega) (by omega) (by
       intro q
       obtain⟨q1,q2⟩:=List.append_eq_nil_iff.1 q
       rw[(List.append_eq_nil_iff.1 q2).1] at h1
       simp at h1) (fun x hx=>(hPt.mem x hx).2.2.2.2.2.2.2)
      rw[hv'b] at this
      rw[hv'b]
      exact this)
     go_wp2_with fail
     refine HPU.out.mono ?_
     rintro e w4 ⟨rfl,hK4,hN4⟩
     have HN4:=Lib.hid (And.intro hK4 hN4)
     clear hK4 hN4 HPU
     go_wp2_with fail
     go_roundg ((en'+Q.length-1- (k'+Q.length))+2*mu (0+1) {v' with ch:=Jk (A++(Q++D))})
     case measure=>
      obtain⟨e,hkA,hx,htl,htk,mt,hp',hv'l,hv'k,hv'b,hO⟩:=HE.out
      obtain⟨hPt,hQl⟩:=HPt.out
      have hbig:K.L<t.es.length:=by
       rcases Nat.lt_or_ge K.L t.es.length with q|q
       ·exact q
       ·rw[JaV HP.out.1.L q] at hQl;omega
      have hPQ:=hPt.all hQl HP.out.1.L hbig
      have h5:mu (0+1) {v' with ch:=Jk (A++(Q++D))}+Q.length<=mu (0+1) v'+1:=(Jfe e hbig HP.out.1.L hPQ).2.1
      have h2:=hO.num
      omega
     case rel=>
      obtain⟨e,hkA,hx,htl,htk,mt,hp',hv'l,hv'k,hv'b,hO⟩:=HE.out
      obtain⟨hPt,hQl⟩:=HPt.out
      have hbig:K.L<t.es.length:=by
       rcases Nat.lt_or_ge K.L t.es.length with q|q
       ·exact q
       ·rw[JaV HP.out.1.L q] at hQl;omega
      have hPQ:=hPt.all hQl HP.out.1.L hbig
      have hbl:Jy 0 Q=Q.map fun x=>x.2.b:=by
       have:∀l:List (Chd×Vt),(∀x∈l,x.2.mem=true)->Jy 0 l=l.map fun x=>x.2.b:=fun l=>by
        induction l with
        |nil=>intro _;rfl
        |cons x l ih=>
         intro hl
         rw[J3,ih fun y hy=>hl y (List.mem_cons_of_mem _ hy),J8 _ (hl x (by simp))]
         rfl
       exact this Q fun x hx=>(hPt.mem x hx).2.1
      have hs2:=HX.out.size
      have hs3:=hPt.keep.size
      have hnv:∀x∈Q,x.2.b≠v'.b:=fun x hx q=>by
       have h6:=(hPt.mem x hx).2.2.2.2.2.2.1
       have h7:=(hp'.m.lt _ hp'.m.head).2
       omega
      have hQm:∀x∈Q,Mem w4 0 x.2:=fun x hx=>by
       obtain⟨q1,q2,q3,q4,-⟩:=hPt.mem x hx
       refine(q1.tree q2 q3 q4).keep HN4.out.1 (fun b q=> ?_) fun b hb q=> ?_
       ·rw[show b=v'.b from q]
        exact(((hp'.m.on HX.out).on hPt.keep).lt _ hp'.m.head).1
       ·rw[J8 _ q2,List.mem_singleton] at hb
        exact hnv x hx (by rw[<-hb];exact q)
      have hrn:=hO.ran.put hv'l e (HX.out.trans (hPt.keep.mono hs2)) HN4.out.1 HN4.out.2 hQm (fun b hb=>by
       rw[hbl] at hb
       obtain⟨x,hx,rfl⟩:=List.mem_map.1 hb
       have h6:=(hPt.mem x hx).2.2.2.2.2.2.1
       exact Or.inr (by omega)) (by rw[hbl];exact hPt.nodup) (Sm.parts e hv'k htk hbig hPQ)
      have hQd:∀x∈Q,x.2.ld=true/\x.2.kn=none:=fun x hx=>⟨(hPt.mem x hx).2.2.2.1,(hPt.mem x hx).2.2.1⟩
      refine⟨k'+Q.length,en'+Q.length-1,by go_num,by go_num,Lib.hid ⟨_,T',gg,l,⟨hrn,by omega,?_,hO.ld.put e hkA hlt (by omega) (by omega) hQd,fun hh=>(hO.gd hh).done e hkA hlt (by omega) rfl (fun x hx=>(hPQ.len x hx).2),hO.big,rfl⟩⟩⟩
      have h1:=hO.top
      rw[Jw]
      rw[e] at h1
      simp at h1⊢
      omega
    ·have hb1:¬((1:Int)<(Q.length:Int)):=by omega
     go_wp2_with fail
     have hone:Q.length=1:=by
      have:=JaW t.es.length K.L
      have:=HPt.out.2
      omega
     go_roundg ((en'- (k'+1))+2*mu (0+1) v')
     case measure=>
      obtain⟨e,hkA,hx,htl,htk,mt,hp',hv'l,hv'k,hv'b,hO⟩:=HE.out
      have h2:=hO.num
      omega
     case rel=>
      obtain⟨e,hkA,hx,htl,htk,mt,hp',hv'l,hv'k,hv'b,hO⟩:=HE.out
      obtain⟨hPt,hQl⟩:=HPt.out
      have hsm:t.es.length<=K.L:=by
       rcases Nat.lt_or_ge K.L t.es.length with q|q
       ·have:=(Jcz HP.out.1.L q).1;omega
       ·exact q
      exact⟨k'+1,en',by rw[hone];go_num,by rw[hone];go_num,Lib.hid ⟨v',T',gg,l,⟨hO.ran.on (HX.out.trans (hPt.keep.mono HX.out.size)),by omega,hO.top,hO.ld.next (by omega),fun hh=>(hO.gd hh).next e hkA hlt (fun _=>hsm),hO.big,rfl⟩⟩⟩
  ·go_wp2_with fail
   go_ret
   obtain rfl:k'=en':=by omega
   exact⟨v',T',gg,l,hO.ran,Or.inl ⟨rfl,fun hh=>(hO.gd hh).end'⟩,hO.big⟩
open Go.RowKit
attribute [local go_sem ↓] Go.wp_at_zero Go.wp_at_succ
theorem Jil (w:World) (ba bb:Nat) (s1 s2:List UInt8):SlV ((w.alloc (.cells #[.pointer (some ⟨ba,0,none⟩),.pointer (some ⟨bb,0,none⟩)] 97)).alloc (.cells #[.string (S s1),.string (S s2)] 9)) (.slice (some ⟨w.heap.size,0,none⟩) 2 2) [ba,bb]/\Jbe ((w.alloc (.cells #[.pointer (some ⟨ba,0,none⟩),.pointer (some ⟨bb,0,none⟩)] 97)).alloc (.cells #[.string (S s1),.string (S s2)] 9)) (some ⟨w.heap.size+1,0,none⟩) [s1,s2]:=by
 have r1:=(Jc.new w 97 [.pointer (some ⟨ba,0,none⟩),.pointer (some ⟨bb,0,none⟩)]).alloc (.cells #[.string (S s1),.string (S s2)] 9)
 have r2:=Jc.new (w.alloc (.cells #[.pointer (some ⟨ba,0,none⟩),.pointer (some ⟨bb,0,none⟩)] 97)) 9 [.string (S s1),.string (S s2)]
 simp only[World.size_alloc] at r2
 refine⟨⟨some ⟨w.heap.size,0,none⟩,2,rfl,Or.inr ⟨w.heap.size,0,rfl,r1.lt,fun i hi j x hx=> ?_⟩,Nat.le_refl _,by omega,fun q=>by simp at q⟩,Or.inr ⟨w.heap.size+1,0,rfl,r2.lt,fun i hi j x hx=> ?_⟩⟩
 ·have hi':i<2:=hi
  cases j with
  |succ j=>simp at hx
  |zero=>
   have:i=0\/i=1:=by omega
   rcases this with rfl|rfl
   ·simp at hx;rw[<-hx];exact r1.cell 0
   ·simp at hx;rw[<-hx];exact r1.cell 1
 ·have hi':i<2:=hi
  cases j with
  |succ j=>simp at hx
  |zero=>
   have:i=0\/i=1:=by omega
   rcases this with rfl|rfl
   ·simp at hx;rw[<-hx];exact r2.cell 0
   ·simp at hx;rw[<-hx];exact r2.cell 1
theorem JkJ (n:Nat) (HH:Jls n):JeF (n+1):=by
 intro K root h lo hi w v T hh k en hP hpre hl hkn hken henl hld hhh hn100
 have H0:=Lib.hid (show OL K root h (n+1) w v T k en ((en-k)+2*mu (n+1+1) v) k en w v T [] [] from⟨Ran.refl hpre.m hpre.nd hpre.c,hken,henl,hld,id,fun m hm=>by simp at hm,rfl⟩)
 have HP:=Lib.hid (And.intro hP (And.intro hpre (And.intro hl hkn)))
 have HHN:=Lib.hid HH
 have hb2:(hh==2)=false:=by simp;omega
 have hhb:2<=hh/\hh<=1000:=by omega
 have Hhh:=Lib.hid hhh
 clear hP hpre hl hkn hken henl hld hhh HH
 go_enter Tryz.func73,Tryz.ntmps73
 go_wp2_with fail
 go_loopg [2,3] ((en-k)+2*mu (n+1+1) v) (fun g s2 s3 wx=>∃k' en':Nat,s2=.int .i64 k'/\s3=.int .i64 en'/\Hid (∃v' T' gg l,OL K root h (n+1) w v T k en g k' en' wx v' T' gg l))
 case atStart=>exact⟨k,en,rfl,rfl,Lib.hid ⟨v,T,[],[],H0.out⟩⟩
 case round=>
  obtain⟨k',en',rfl,rfl,HR⟩:=hrel
  obtain⟨v',T',gg,l,hO⟩:=HR.out
  have hle:=hO.le
  have hv'l:v'.ld=true:=hO.ran.sm.kept.ld HP.out.2.2.1
  have hv'k:v'.kn=none:=hO.ran.sm.kept.kn.elim (fun q=>q.trans HP.out.2.2.2) id
  have hv'b:v'.b=v.b:=hO.ran.mv.b
  have hp':=HP.out.2.1.next HP.out.1 hO.ran
  by_cases hlt:k'<en'
  ·have htop:=hO.top
   have hkl:k'<v'.ch.length:=by omega
   obtain⟨A,c,t,D,e,hkA,hx⟩:=JjX hkl
   obtain⟨htl,htk⟩:=hO.ld k' (c,t) (Nat.le_refl _) hlt hx
   obtain⟨⟨-,pa,pg,ps,a1,x1,a2,x2,a3,x3,hv,-,hnode,hkd⟩,hkm⟩:=hp'.m.node hv'l
   have mt:Mem wr (n+1) t:=hkm (c,t) (by rw[e];simp)
   obtain⟨⟨-,qa,qg,qs,b1,y1,b2,y2,b3,y3,hvt,-,-,-⟩,-⟩:=mt.node htl
   rw[hv'b] at hv
   have hsz:=Jcy hp'.pot
   have hkd1:wr.ownsRow 0 97 1 (.slice a3 v'.ch.length x3) v'.ch.length ((v'.ch.map fun x=>x.2.b).map vp):=by
    have:wr.ownsRow 0 97 1 (.slice a3 v'.ch.length x3) (v'.ch.map fun x=>x.2.b).length ((v'.ch.map fun x=>x.2.b).map vp):=hkd
    rwa[List.length_map] at this
   obtain⟨g3,rfl,-,-,hgc⟩:=Yk hkd1 (by omega)
   have r0:wr.cell? ⟨g3,k',none⟩=some (.pointer (some ⟨t.b,0,none⟩)):=by
    have:=hgc k' (vp t.b) (by rw[List.getElem?_map,List.getElem?_map,hx];rfl)
    simpa using this
   have hcsl:v'.cs.length=v'.ch.length:=List.length_map ..
   obtain⟨gc,goff,rfl,-,l0,-⟩:=JC.cells4C (SlC.at hnode.parts.1) k' (by rw[hcsl];exact hkl)
   have hcs:v'.cs[k']'(by rw[hcsl];exact hkl)=c:=by
    have:v'.cs[k']? =some c:=by rw[Vt.cs,List.getElem?_map,hx];rfl
    rw[List.getElem?_eq_getElem (by rw[hcsl];exact hkl)] at this
    exact Option.some.inj this
   rw[hcs] at l0
   have c6:=hv.c6
   have c8:=hv.c8
   have t6:=hvt.c6
   have t7:=hvt.c7
   have p0:=hp'.c.tr.c0
   have p1:=hp'.c.tr.c1
   have p2:=hp'.c.tr.c2
   have HW:=Lib.hid (fun w'=>Jqg b1 b2 t.ch.length y1 t.us.length y2 (K.F:Int) (K.B:Int) (K.L:Int) w')
   have HFU:=Lib.hid (fun w'=>Jrl b1 b2 t.ch.length y1 t.us.length y2 (K.F:Int) (K.B:Int) (K.L:Int) w')
   have hpk:=hp'.kid hv'l e
   have HE:=Lib.hid (And.intro e (And.intro hkA (And.intro hx (And.intro htl (And.intro htk (And.intro mt (And.intro hp' (And.intro hv'l (And.intro hv'k (And.intro hv'b (And.intro hpk hO)))))))))))
   clear e hkA hx htl htk mt hp' hv'l hv'k hv'b hO hv hnode hkd hkm hvt hkd1 hgc hcs hcsl HR hpk
   go_upto_region 12 with(fail)
   go_cut [89] from 18 to 141 (fun s89 wx=>s89=.bool (decide ((K.F:Int)<(t.ch.length:Int)))/\Below wr.heap.size wr wx)
   case first=>
    have hdr:Below wr.heap.size wr wr.drew:=Jb (Below.refl _ _)
    go_region_law (first|(go_simp;go_at_call 71;refine(HW.out _).mono ?_;rintro e w2 ⟨rfl,hX⟩))
    all_goals
     go_wp2_with fail
     go_meet
     exact⟨by simp,hdr.trans (hX.mono (Nat.le_refl _))⟩
   case rest=>
   obtain⟨rfl,hX⟩:=hcut
   obtain⟨w2,hw2⟩:∃w2,w2=wc:=⟨_,rfl⟩
   subst hw2
   have HX:=Lib.hid hX
   have c62:=Ja hX c6
   have l02:=Ja hX l0
   have t62:=Ja hX t6
   have t72:=Ja hX t7
   have p02:=Ja hX p0
   have p12:=Ja hX p1
   have p22:=Ja hX p2
   clear c6 l0 t6 t7 p0 p1 p2 c8 r0 hX HW
   by_cases hw:K.F<t.ch.length
   ·have hwi:(K.F:Int)<(t.ch.length:Int):=by omega
    have HHV:=Lib.hid (by
     obtain⟨e,hkA,hx,htl,htk,mt,hp',hv'l,hv'k,hv'b,hpk,hO⟩:=HE.out
     exact JlS w2 (mt.on HX.out) htl hpk.ok (Nat.le_trans hpk.pot (by omega)) HP.out.1.F hw)
    clear t62 t72 p02 p12 p22 HFU
    go_wp2_with fail
    refine HHV.out.mono ?_
    rintro e w4 ⟨X,y,Y,ba,bb,hch,hX2,hY1,rfl,hMa,hMb,hba,hbb,hab,hX4⟩
    have c64:=Ja hX4 c62
    have l04:=Ja hX4 l02
    have hvlt:v.b<w4.heap.size:=World.block_lt_of_cell? _ _ c64
    have hglt:gc<w4.heap.size:=World.block_lt_of_cell? _ _ l04
    have c64a:∀x,(w4.alloc x).cell? ⟨v.b,6,none⟩=some (.slice (some ⟨gc,goff,none⟩) v'.ch.length x1):=fun x=>(World.cell?_alloc_past _ _ _ hvlt).trans c64
    have l04a:∀x,(w4.alloc x).cell? ⟨gc,goff+k'*4,none⟩=some (.string (S c.low)):=fun x=>(World.cell?_alloc_past _ _ _ hglt).trans l04
    have HV4:=Lib.hid (And.intro hch (And.intro hX2 (And.intro hY1 (And.intro hMa (And.intro hMb (And.intro hba (And.intro hbb (And.intro hab hX4))))))))
    obtain⟨Q,hQe⟩:∃Q:List (Chd×Vt),Q=[(⟨c.low,0,0,0⟩,⟨ba,true,true,none,[],JH t.us [] (lw y),X⟩),(⟨lw y,0,0,0⟩,⟨bb,true,true,none,[],Ya t.us [] (lw y),Jk (y::Y)⟩)]:=⟨_,rfl⟩
    obtain⟨ly,hly⟩:∃ly,ly=lw y:=⟨_,rfl⟩
    rw[<-hly]
    have hX5:∀X Y,Below w4.heap.size w4 ((w4.alloc X).alloc Y):=fun X Y=>((Below.refl _ _).alloc (Nat.le_refl _) _).alloc (by simp) _
    have HPU:=Lib.hid (show Calls Tryz.prog 100 #[.pointer (some ⟨v.b,0,none⟩),.int .i64 k',.slice (some ⟨w4.heap.size,0,none⟩) 2 2,.slice (some ⟨w4.heap.size+1,0,none⟩) 2 2] ((w4.alloc (.cells #[.pointer (some ⟨ba,0,none⟩),.pointer (some ⟨bb,0,none⟩)] 97)).alloc (.cells #[.string (S c.low),.string (S ly)] 9)) fun e w'=>e=.returned (.tuple #[])/\Jg (fun x=>x=v'.b) ((w4.alloc (.cells #[.pointer (some ⟨ba,0,none⟩),.pointer (some ⟨bb,0,none⟩)] 97)).alloc (.cells #[.string (S c.low),.string (S ly)] 9)) w'/\Zh w' {v' with ch:=Jk (A++(Q++D))} from by
     obtain⟨e,hkA,hx,htl,htk,mt,hp',hv'l,hv'k,hv'b,hpk,hO⟩:=HE.out
     obtain⟨r1,r2⟩:=Jil w4 ba bb c.low ly
     have:=Jqy (Q:=Q) (.slice (some ⟨w4.heap.size,0,none⟩) 2 2) (some ⟨w4.heap.size+1,0,none⟩) 2 k' (((hp'.m.on HX.out).on hX4).on (hX5 _ _)) hv'l e hkA (by rw[hQe];exact r1) (by rw[hQe,hly];rw[hly] at r2;exact r2) (by omega) (by rw[hQe];simp) (by rw[hQe];simp) (fun x hx=>by
      rw[hQe] at hx
      rcases List.mem_cons.1 hx with rfl|hx
      ·rfl
      ·rw[List.mem_singleton.1 hx])
     rw[hv'b,show Q.length=2 by rw[hQe];rfl] at this
     rw[hv'b]
     exact this)
    have HQ:=Lib.hid (And.intro hQe hly)
    clear hch hX2 hY1 hMa hMb hba hbb hab hX4 hQe hly hvlt hglt
    go_wp2_with fail
    refine HPU.out.mono ?_
    rintro e w6 ⟨rfl,hK6,hN6⟩
    have HN6:=Lib.hid (And.intro hK6 hN6)
    clear hK6 hN6 HPU c64a l04a c64 l04 c62 l02
    go_wp2_with fail
    have HHF:=Lib.hid (show ZH K.F c.low t Q from⟨X,y,Y,ba,bb,HV4.out.1,hw,HV4.out.2.1,HV4.out.2.2.1,HQ.out.1⟩)
    go_roundg ((en'+1-k')+2*mu (n+1+1) {v' with ch:=Jk (A++(Q++D))})
    case measure=>
     obtain⟨e,hkA,hx,htl,htk,mt,hp',hv'l,hv'k,hv'b,hpk,hO⟩:=HE.out
     have h5:mu (n+1+1) {v' with ch:=Jk (A++(Q++D))}+1<=mu (n+1+1) v':=(JfC e hpk.ok.usr HP.out.1.F HHF.out).2.1
     have h2:=hO.num
     omega
    case rel=>
     obtain⟨e,hkA,hx,htl,htk,mt,hp',hv'l,hv'k,hv'b,hpk,hO⟩:=HE.out
     obtain⟨hch,hX2,hY1,hMa,hMb,hba,hbb,hab,hX4⟩:=HV4.out
     have hQe:=HQ.out.1
     have hs2:=HX.out.size
     have hs4:=hX4.size
     obtain⟨W5,hW5⟩:∃W5,W5=((w4.alloc (.cells #[.pointer (some ⟨ba,0,none⟩),.pointer (some ⟨bb,0,none⟩)] 97)).alloc (.cells #[.string (S c.low),.string (S ly)] 9)):=⟨_,rfl⟩
     have hX45:Below w4.heap.size w4 W5:=by rw[hW5];exact hX5 _ _
     obtain⟨hK6,hN6⟩:=HN6.out
     rw[<-hW5] at hK6
     have hX25:Below w2.heap.size w2 W5:=hX4.trans (hX45.mono hs4)
     have hX05:Below wr.heap.size wr W5:=HX.out.trans (hX25.mono hs2)
     have hvs:=hp'.m.lt _ hp'.m.head
     have hsf:∀b,b=v'.b->Z3 W5 b:=fun b q=>by
      rw[q]
      exact((hp'.m.on hX05).lt _ hp'.m.head).1
     have htn:=hpk.nd
     rw[JL mt.in,hch,List.nodup_cons] at htn
     have htlt:∀b∈blocks (n+1) t,b<wr.heap.size:=fun b hb=>(mt.lt b hb).2
     have hvt:v'.b∉blocks (n+1) t:=fun q=>by
      have:=hp'.nd
      rw[JL hp'.m.in,List.nodup_cons] at this
      exact this.1 (List.mem_flatMap.2 ⟨(c,t),by rw[e];simp,q⟩)
     obtain⟨-,htk2⟩:=mt.node htl
     have hkid:∀x∈t.ch,Mem w6 n x.2:=fun x hx=>((htk2 x hx).on hX05).keep hK6 hsf fun b hb q=>hvt (by
      rw[<-show b=v'.b from q]
      exact Ze mt.in hx hb)
     have hXk:∀x∈X,Mem w6 n x.2:=fun x hx=>hkid x (by rw[hch];exact List.mem_append_left _ hx)
     have hYk:∀x∈Jk (y::Y),Mem w6 n x.2:=YC (P:=fun t=>Mem w6 n t) fun x hx=>hkid x (by rw[hch];exact List.mem_append_right _ hx)
     have hbX:∀b∈Jy n X,b∈blocks (n+1) t:=fun b hb=>by
      rw[JL mt.in,hch,JN];exact List.mem_cons_of_mem _ (List.mem_append_left _ hb)
     have hbY:∀b∈Jy n (y::Y),b∈blocks (n+1) t:=fun b hb=>by
      rw[JL mt.in,hch,JN];exact List.mem_cons_of_mem _ (List.mem_append_right _ hb)
     have hbl:Jy (n+1) Q=(ba::Jy n X)++(bb::Jy n (y::Y)):=by
      rw[hQe,J3,J3,JL (by rfl),JL (by rfl)]
      show(ba::Jy n X)++((bb::Jy n (Jk (y::Y)))++[])=_
      rw[Jao,List.append_nil]
     have hnb:∀b0,w2.heap.size<=b0->∀b∈blocks (n+1) t,b0≠b:=fun b0 h0 b hb q=>by have:=htlt b hb;omega
     have hQn:(Jy (n+1) Q).Nodup:=by
      rw[hbl,List.cons_append,List.nodup_cons]
      have h1:=htn.2
      rw[JN] at h1
      refine⟨fun q=> ?_,?_⟩
      ·rcases List.mem_append.1 q with q|q
       ·exact hnb ba hba _ (hbX _ q) rfl
       ·rcases List.mem_cons.1 q with q|q
        ·exact hab q
        ·exact hnb ba hba _ (hbY _ q) rfl
      ·rw[List.nodup_append] at h1⊢
       refine⟨h1.1,List.nodup_cons.2 ⟨fun q=>hnb bb hbb _ (hbY _ q) rfl,h1.2.1⟩,fun a ha b hb q=> ?_⟩
       rcases List.mem_cons.1 hb with hb|hb
       ·exact hnb bb hbb _ (hbX _ ha) (by rw[<-hb,q])
       ·exact h1.2.2 a ha b hb q
     have hvab:ba≠v'.b/\bb≠v'.b:=⟨fun q=>by omega,fun q=>by omega⟩
     have hQm:∀x∈Q,Mem w6 (n+1) x.2:=fun x hx=>by
      rw[hQe] at hx
      rcases List.mem_cons.1 hx with rfl|hx
      ·exact⟨rfl,Or.inl ⟨(hMa.keep (Jg.of_below (S:=fun _=>False) hX45) (fun _ q=>q.elim) fun q=>q).keep hK6 hsf (fun q=>hvab.1 q),hXk⟩⟩
      ·rw[List.mem_singleton.1 hx]
       exact⟨rfl,Or.inl ⟨(hMb.keep (Jg.of_below (S:=fun _=>False) hX45) (fun _ q=>q.elim) fun q=>q).keep hK6 hsf (fun q=>hvab.2 q),hYk⟩⟩
     have hrn:=hO.ran.put hv'l e hX05 hK6 hN6 hQm (fun b hb=>by
      rw[hbl] at hb
      rcases List.mem_append.1 hb with hb|hb
      ·rcases List.mem_cons.1 hb with rfl|hb
       ·exact Or.inr (by omega)
       ·exact Or.inl (hbX b hb)
      ·rcases List.mem_cons.1 hb with rfl|hb
       ·exact Or.inr (by omega)
       ·exact Or.inl (hbY b hb)) hQn (Sm.halve e hv'k htk HHF.out)
     have hQd:∀x∈Q,x.2.ld=true/\x.2.kn=none:=fun x hx=>by
      rw[hQe] at hx
      rcases List.mem_cons.1 hx with rfl|hx
      ·exact⟨rfl,rfl⟩
      ·rw[List.mem_singleton.1 hx];exact⟨rfl,rfl⟩
     have hQ2:Q.length=2:=by rw[hQe];rfl
     refine⟨k',en'+1,rfl,by go_num,Lib.hid ⟨_,T',gg,l,⟨hrn,by omega,?_,hO.ld.put e hkA hlt (by omega) (Nat.le_refl _) hQd,fun hh=> ?_,hO.big,rfl⟩⟩⟩
     ·have h1:=hO.top
      rw[Jw]
      rw[e] at h1
      simp only[List.length_append,List.length_cons] at h1⊢
      omega
     ·have hg:=hO.gd hh
      have ht:Gk K (n+1) t:=by
       have:=hg k' (c,t) hx
       rwa[if_pos ⟨Nat.le_refl _,hlt⟩] at this
      refine hg.put e hkA hlt (by omega) fun x hx=> ?_
      rw[hQe] at hx
      rcases List.mem_cons.1 hx with rfl|hx
      ·exact fun z hz=>ht z (by rw[hch];exact List.mem_append_left _ hz)
      ·rw[List.mem_singleton.1 hx]
       exact YC (P:=fun t=>Gd K n t) fun z hz=>ht z (by rw[hch];exact List.mem_append_right _ hz)
   ·have hwi:¬((K.F:Int)<(t.ch.length:Int)):=by omega
    go_upto_region 16 with(fail)
    go_cut [124] from 18 to 141 (fun s124 wx=>s124=.bool (decide ((K.B:Int)<(t.us.length:Int)))/\Below w2.heap.size w2 wx)
    case first=>
     have hdr:Below w2.heap.size w2 w2.drew:=Jb (Below.refl _ _)
     go_region_law (first|(go_simp;go_at_call 101;refine(HFU.out _).mono ?_;rintro e w3 ⟨rfl,hX⟩))
     all_goals
      go_wp2_with fail
      go_meet
      exact⟨by simp,hdr.trans (hX.mono (Nat.le_refl _))⟩
    case rest=>
    obtain⟨rfl,hX3⟩:=hcut
    obtain⟨w3,hw3⟩:∃w3,w3=wc:=⟨_,rfl⟩
    subst hw3
    have HX3:=Lib.hid (HX.out.trans (hX3.mono HX.out.size))
    clear c62 l02 t62 t72 p02 p12 p22 HFU hX3
    by_cases hf:K.B<t.us.length
    ·have hfi:(K.B:Int)<(t.us.length:Int):=by omega
     have HHC:=Lib.hid (fun(q:Int) (hq:q=(n:Int)+2)=>by
      obtain⟨e,hkA,hx,htl,htk,mt,hp',hv'l,hv'k,hv'b,hpk,hO⟩:=HE.out
      exact HHN.out K root h _ _ w3 t T' q HP.out.1 (hpk.on HX3.out) htl (fun q=>by rw[q] at hf;simp at hf) hq (by omega))
     go_wp2_with fail
     refine(HHC.out _ (by have:=Hhh.out;omega)).mono ?_
     rintro e w4 ⟨t',T2,g2,l2,hR,hor,hbg⟩
     have HR4:=Lib.hid hR
     have HK:=Lib.hid (show Ran K root h (n+1+1) w v T w4 {v' with ch:=A++(c,t')::D} T2 (gg++g2) (l++l2)/\(∀m∈l++l2,K.B/K.F<=m)/\T'.wr<=T.wr/\Sm K.F K.L (n+1+1) v' {v' with ch:=A++(c,t')::D} g2 l2 from by
      obtain⟨e,hkA,hx,htl,htk,mt,hp',hv'l,hv'k,hv'b,hpk,hO⟩:=HE.out
      have h1:=hO.ran.on HX3.out
      have h2:=Ran.kid h1.mv.mem hv'l h1.mv.nodup h1.mv.cx hv'k e hR
      refine⟨h1.trans h2,fun m hm=> ?_,hO.ran.wr,h2.sm⟩
      rcases List.mem_append.1 hm with hm|hm
      ·exact hO.big m hm
      ·exact hbg ⟨by omega,by omega⟩ m hm)
     clear hR hbg
     rcases hor with⟨rfl,htk',hl2,hgk⟩|⟨rfl,hpos⟩
     ·have HG:=Lib.hid (And.intro htk' (And.intro hl2 hgk))
      clear htk' hl2 hgk
      go_wp2_with fail
      go_roundg ((en'-k')+2*mu (n+1+1) {v' with ch:=A++(c,t')::D})
      case measure=>
       obtain⟨e,hkA,hx,htl,htk,mt,hp',hv'l,hv'k,hv'b,hpk,hO⟩:=HE.out
       have h5:=(HK.out.2.2.2.less HP.out.1.F HP.out.1.L hp'.ok).mu
       have h6:=ZP HK.out.2.2.2.pos
       have h7:0<l2.length:=List.length_pos_iff.2 HG.out.2.1
       have h2:=hO.num
       omega
      case rel=>
       obtain⟨e,hkA,hx,htl,htk,mt,hp',hv'l,hv'k,hv'b,hpk,hO⟩:=HE.out
       refine⟨k',en',rfl,rfl,Lib.hid ⟨_,T2,_,_,⟨HK.out.1,hO.le,?_,hO.ld.set e hkA ⟨HR4.out.sm.kept.ld htl,HG.out.1⟩,fun hh=>(hO.gd hh).set e hkA hlt HG.out.2.2,HK.out.2.1,rfl⟩⟩⟩
       have h1:=hO.top
       rw[e] at h1
       simp only[List.length_append,List.length_cons] at h1⊢
       exact h1
     ·go_wp2_with fail
      go_ret
      exact⟨_,T2,_,_,HK.out.1,Or.inr ⟨rfl,Nat.lt_of_lt_of_le hpos HK.out.2.2.1⟩,HK.out.2.1⟩
    ·have hfi:¬((K.B:Int)<(t.us.length:Int)):=by omega
     go_wp2_with fail
     go_roundg ((en'- (k'+1))+2*mu (n+1+1) v')
     case measure=>
      obtain⟨e,hkA,hx,htl,htk,mt,hp',hv'l,hv'k,hv'b,hpk,hO⟩:=HE.out
      have h2:=hO.num
      omega
     case rel=>
      obtain⟨e,hkA,hx,htl,htk,mt,hp',hv'l,hv'k,hv'b,hpk,hO⟩:=HE.out
      exact⟨k'+1,en',by go_num,rfl,Lib.hid ⟨v',T',gg,l,⟨hO.ran.on HX3.out,by omega,hO.top,hO.ld.next (by omega),fun hh=>(hO.gd hh).next e hkA hlt (fun ht=>⟨by omega,by omega,ht⟩),hO.big,rfl⟩⟩⟩
  ·go_wp2_with fail
   go_ret
   obtain rfl:k'=en':=by omega
   exact⟨v',T',gg,l,hO.ran,Or.inl ⟨rfl,fun hh=>(hO.gd hh).end'⟩,hO.big⟩
theorem JdI:∀n,JeF n
 |0=>JkI
 |n+1=>JkJ n (JlR n (JdI n))
theorem Joj (n:Nat):Jls n:=JlR n (JdI n)
end Go.Proofs.YtafciefjlkdecaaGreat
namespace Go.Proofs.YtafciefjlkdecaaGreat
open Go.RowKit
abbrev Jdy (b:Nat) (l:List (Chd×Vt)):Vt:=⟨b,true,true,none,[],[],Jk l⟩
inductive Rt (F L:Nat):Nat->Vt->Nat->Vt->List Int->List Nat->Prop
 |sm {n:Nat} {v v':Vt} {g:List Int} {h:List Nat}:Sm F L n v v' g h->Rt F L n v n v' g h
 |trans {n1 n2 n3:Nat} {a b c:Vt} {g g':List Int} {h h':List Nat}:Rt F L n1 a n2 b g h->Rt F L n2 b n3 c g' h'->Rt F L n1 a n3 c (g++g') (h++h')
 |leaf {v:Vt} {b:Nat} {Q:List (Chd×Vt)}:v.kn=none->L<v.es.length->Xf L [] v.es Q->Rt F L 0 v 1 (Jdy b Q) [] []
 |rise {n:Nat} {v:Vt} {b:Nat} {Q:List (Chd×Vt)}:v.kn=none->ZH F [] v Q->Rt F L (n+1) v (n+2) (Jdy b Q) [] []
 |down {n:Nat} {v:Vt} {c:Chd} {t:Vt}:v.kn=none->v.us=[]->v.ch=[(c,t)]->Rt F L (n+1) v n t [] []
theorem JnB {n:Nat} {b:Nat} {Q:List (Chd×Vt)} (h1:∀x∈Q,Zi x.1/\x.1.low.length<=3) (h2:OkK (Ok n) [] [] Q):Ok (n+1) [] [] (Jdy b Q):=
 ⟨rfl,List.Pairwise.nil,fun u hu=>(by cases hu),Ja2 h1,Xy Q,(JeI Q).2 h2⟩
theorem Jlx (n b:Nat) (Q:List (Chd×Vt)) (q:List UInt8):den (n+1) (Jdy b Q) q=Zo n Q q:=by
 rw[Yg]
 show JdX (Yn [] q) (Zo n (Jk Q) q)=_
 rw[JfF,Jdr]
 rfl
theorem Rt.good {F L:Nat} {n n':Nat} {v v':Vt} {g:List Int} {h:List Nat} (s:Rt F L n v n' v' g h):Ok n [] [] v->Ok n' [] [] v'/\∀q,den n' v' q=den n v q:=by
 induction s with
 |sm s=>exact fun ho=>⟨(s.good ho).1,fun q=>(s.good ho).2 q (Jd.2 ⟨Zm q,Or.inl rfl⟩)⟩
 |trans _ _ i1 i2=>exact fun ho=>⟨(i2 (i1 ho).1).1,fun q=>((i2 (i1 ho).1).2 q).trans ((i1 ho).2 q)⟩
 | @leaf v b Q _ _ hP=>
  intro ho
  obtain⟨h1,h2⟩:=Xf.good (c:=[]) (t:=v) hP ho
  exact⟨JnB (Xf.chd (c:=⟨[],0,0,0⟩) hP ho (by simp)) h1,fun q=>by rw[Jlx];exact h2 q⟩
 | @rise n v b Q _ hP=>
  intro ho
  obtain⟨h1,h2⟩:=hP.good ho
  exact⟨JnB (ZH.chd (c:=⟨[],0,0,0⟩) hP ho (by simp)) h1,fun q=>by rw[Jlx];exact h2 q⟩
 | @down n v c t _ hu hc=>
  intro ho
  have h1:=ho.okk
  rw[hc] at h1
  refine⟨OkK.one.1 h1,fun q=> ?_⟩
  rw[Yg,hu,JfF,hc,JjC]
  rfl
structure Jrt (n:Nat) (v:Vt) (n':Nat) (v':Vt) (h:List Nat):Prop where
 pot:pot n' v'+2^(n'+1)<=pot n v+2^(n+1)
 mu:mu n' v'+h.sum<=mu n v
 om:om n' v'+h.sum<=om n v
theorem JdT:JM 2=0:=rfl
theorem Ji8:∀Q:List (Chd×Vt),Yf (om 0) Q=0
 |[]=>rfl
 |x::Q=>by rw[Jo,Ji8 Q];rfl
theorem Rt.less {F L:Nat} (hF:3<=F) (hL:3<=L) {n n':Nat} {v v':Vt} {g:List Int} {h:List Nat} (s:Rt F L n v n' v' g h):Ok n [] [] v->Jrt n v n' v' h:=by
 induction s with
 |sm s=>exact fun ho=>⟨Nat.add_le_add_right (s.less hF hL ho).pot _,(s.less hF hL ho).mu,(s.less hF hL ho).om⟩
 |trans s1 _ i1 i2=>
  intro ho
  obtain⟨p1,p2,p3⟩:=i1 ho
  obtain⟨q1,q2,q3⟩:=i2 (s1.good ho).1
  exact⟨Nat.le_trans q1 p1,by rw[List.sum_append];omega,by rw[List.sum_append];omega⟩
 | @leaf v b Q _ hl hP=>
  intro ho
  obtain⟨h1,h2⟩:=hP.sum
  have h3:=hP.two
  have hd:JM Q.length=Q.length-2:=by unfold JM;omega
  have hv:JM v.es.length=v.es.length-2:=by unfold JM;omega
  refine⟨?_,?_,?_⟩
  ·rw[JP,Z8,Yr,Jw,hd,hv]
   show(Q.length-2)*2^(0+1)+0+Yf (pot 0) Q+2^(1+1)<=_
   omega
  ·rw[Yd,Xx,Yr,Jw,hd,hv]
   show(Q.length-2)+2*(0+1)*0+Yf (mu 0) Q+0<=_
   omega
  ·rw[Yw,Yr,Ji8]
   show(0+1)*0+0+0<=_
   omega
 | @rise n v b Q _ hP=>
  intro ho
  obtain⟨h0,h1,h2,h3⟩:=hP.sum (n:=n) ho.usr hF
  refine⟨?_,?_,?_⟩
  ·rw[JP,Yr,Jw,h0,JdT]
   show 0*2^(n+1+1)+0+Yf (pot (n+1)) Q+2^(n+2+1)<=_
   have:2^(n+2+1)=2*2^(n+1)+2^(n+1+1):=by rw[Nat.pow_succ,Nat.pow_succ];omega
   omega
  ·rw[Yd,Yr,Jw,h0,JdT]
   show 0+2*(n+1+1)*0+Yf (mu (n+1)) Q+0<=_
   omega
  ·rw[Yw,Yr]
   show(n+1+1)*0+Yf (om (n+1)) Q+0<=_
   omega
 | @down n v c t _ hu hc=>
  intro ho
  have hs:∀f:Vt->Nat,Yf f [(c,t)]=f t:=fun f=>by rw[Jo,Jaw];rfl
  refine⟨?_,?_,?_⟩
  ·rw[JP,hc,hs,hu]
   show pot n t+2^(n+1)<=JM 1*2^(n+1)+0+pot n t+2^(n+1+1)
   have:2^(n+1+1)=2*2^(n+1):=by rw[Nat.pow_succ];omega
   omega
  ·rw[Yd,hc,hs]
   show mu n t+0<=_
   omega
  ·rw[Yw,hc,hs]
   show om n t+0<=_
   omega
theorem Rt.addrs {F L:Nat} {n n':Nat} {v v':Vt} {g:List Int} {h:List Nat} (s:Rt F L n v n' v' g h):(addrs n' v'++g).Perm (addrs n v):=by
 induction s with
 |sm s=>exact s.addrs
 |trans _ _ ih1 ih2=>
  refine List.Perm.trans ?_ ih1
  refine List.Perm.trans ?_ (ih2.append_right _)
  rw[List.append_assoc]
  exact List.Perm.append_left _ List.perm_append_comm
 | @leaf v b Q hk _ hP=>
  rw[Xq (v:=Jdy b Q) rfl,YJ,hk]
  show(YG 0 (Jk Q)++[]).Perm []
  rw[Xr,hP.addrs]
  exact List.Perm.refl _
 | @rise n v b Q hk hP=>
  rw[Xq (v:=Jdy b Q) rfl]
  show(YG (n+1) (Jk Q)++[]).Perm _
  rw[Xr,hP.addrs hk,List.append_nil]
 | @down n v c t hk _ hc=>
  rw[Xq hk,hc,JT,Jf1]
theorem Rt.shf {F L:Nat} {n n':Nat} {v v':Vt} {g:List Int} {h:List Nat} {f:Int->Option Blk} (s:Rt F L n v n' v' g h):Shf f n v->Shf f n' v':=by
 induction s with
 |sm s=>exact s.shf
 |trans _ _ i1 i2=>exact fun q=>i2 (i1 q)
 | @leaf v b Q hk _ hP=>
  refine fun _=>⟨fun p hp=>(by cases hp),YC (P:=fun t=>Shf f 0 t) fun x hx p hp=> ?_⟩
  rw[(hP.leaf x hx).2.2.2.2] at hp;cases hp
 | @rise n v b Q hk hP=>exact fun q=>⟨fun p hp=>(by cases hp),YC (P:=fun t=>Shf f (n+1) t) (hP.shf q)⟩
 | @down n v c t hk _ hc=>exact fun q=>q.2 (c,t) (by rw[hc];simp)
theorem Rt.pos {F L:Nat} {n n':Nat} {v v':Vt} {g:List Int} {h:List Nat} (s:Rt F L n v n' v' g h):∀m∈h,0<m:=by
 induction s with
 |sm s=>exact s.pos
 |trans _ _ i1 i2=>exact fun m hm=>(List.mem_append.1 hm).elim (i1 m) (i2 m)
 |leaf=>simp
 |rise=>simp
 |down=>simp
structure Z4 (K:Kx) (n:Nat) (w:World) (v:Vt) (T:Tx) (n':Nat) (w':World) (v':Vt) (T':Tx) (g:List Int) (l:List Nat):Prop where
 rt:Rt K.F K.L n v n' v' g l
 mem:Mem w' n' v'
 nodup:(blocks n' v').Nodup
 fresh:∀b∈blocks n' v',b∈blocks n v\/w.heap.size<=b
 cx:CAt w' K v'.b (n'+1) T'
 gvb:∀x,T'.gv.ownBlock=some x->T.gv.ownBlock=some x\/w.heap.size<=x
 keep:Jg (fun x=>Own K T x\/x∈blocks n v) w w'
 gone:T'.gone=T.gone++g
 fl:T'.fl=T.fl+l.length
 le:T'.le=l.foldl Jjg T.le
 wr:T'.wr<=T.wr
section
variable {K:Kx} {n n1 n2:Nat} {w w1 w2:World} {v v1 v2:Vt} {T T1 T2:Tx} {g g':List Int} {l l':List Nat}
theorem Ran.tree (a:Ran K v.b (n+1) n w v T w1 v1 T1 g l):Z4 K n w v T n w1 v1 T1 g l:=
 ⟨.sm a.sm,a.mv.mem,a.mv.nodup,a.mv.fresh,by rw[a.mv.b];exact a.mv.cx,a.mv.gvb,a.mv.keep,a.gone,a.fl,a.le,a.wr⟩
theorem Z4.trans (a:Z4 K n w v T n1 w1 v1 T1 g l) (b:Z4 K n1 w1 v1 T1 n2 w2 v2 T2 g' l'):Z4 K n w v T n2 w2 v2 T2 (g++g') (l++l'):=by
 have hs:=a.keep.size
 refine⟨.trans a.rt b.rt,b.mem,b.nodup,fun x hx=> ?_,b.cx,fun x hx=> ?_,a.keep.trans b.keep fun x hx=> ?_,by rw[b.gone,a.gone,List.append_assoc],by rw[b.fl,a.fl,List.length_append];omega,by rw[b.le,a.le,List.foldl_append],Nat.le_trans b.wr a.wr⟩
 ·rcases b.fresh x hx with q|q
  ·exact a.fresh x q
  ·exact Or.inr (by omega)
 ·rcases b.gvb x hx with q|q
  ·exact a.gvb x q
  ·exact Or.inr (by omega)
 ·rcases hx with(q|q|q)|q
  ·exact Or.inl (Or.inl (Or.inl q))
  ·exact Or.inl (Or.inl (Or.inr (Or.inl q)))
  ·rcases a.gvb x q with k|k
   ·exact Or.inl (Or.inl (Or.inr (Or.inr k)))
   ·exact Or.inr k
  ·rcases a.fresh x q with k|k
   ·exact Or.inl (Or.inr k)
   ·exact Or.inr k
theorem Z4.refl (hm:Mem w n v) (hn:(blocks n v).Nodup) (c:CAt w K v.b (n+1) T):Z4 K n w v T n w v T [] []:=(Ran.refl hm hn c).tree
theorem Z4.on (a:Z4 K n w v T n1 w1 v1 T1 g l) (hb:Below w1.heap.size w1 w2):Z4 K n w v T n1 w2 v1 T1 g l:=
 ⟨a.rt,a.mem.on hb,a.nodup,a.fresh,a.cx.on hb,a.gvb,a.keep.on hb,a.gone,a.fl,a.le,a.wr⟩
structure Y2 (K:Kx) (n:Nat) (w:World) (v:Vt) (T:Tx):Prop where
 c:CAt w K v.b (n+1) T
 m:Mem w n v
 nd:(blocks n v).Nodup
 ok:Ok n [] [] v
 sh:Shf K.f n v
 pot:pot n v+2^(n+1)<=800
 wr:T.wr<=1000
 gone:T.gone.length+(addrs n v).length<=1000000
 fl:T.fl+mu n v<=1000000000000
theorem Y2.pre (t:Y2 K n w v T):Pre K v.b (n+1) n [] [] w v T:=⟨t.c,t.m,t.nd,t.ok,t.sh,Nat.le_trans (Nat.le_add_right _ _) t.pot,t.wr,t.gone,t.fl⟩
theorem Y2.n8 (t:Y2 K n w v T):n<=8:=by
 have h:=t.pot
 rcases Nat.lt_or_ge 8 n with q|q
 ·have:2^10<=2^(n+1):=Nat.pow_le_pow_right (by omega) (by omega)
  omega
 ·exact q
theorem Y2.next (hP:Ja7 K) (t:Y2 K n w v T) (a:Z4 K n w v T n1 w1 v1 T1 g l):Y2 K n1 w1 v1 T1:=by
 have hl:=a.rt.less hP.F hP.L t.ok
 have ha:=a.rt.addrs.length_eq
 have h1:=t.gone
 have h2:=t.fl
 have h3:=ZP a.rt.pos
 have h4:=hl.mu
 rw[List.length_append] at ha
 refine⟨a.cx,a.mem,a.nodup,(a.rt.good t.ok).1,a.rt.shf t.sh,Nat.le_trans hl.pot t.pot,Nat.le_trans a.wr t.wr,?_,?_⟩
 ·rw[a.gone,List.length_append];omega
 ·rw[a.fl];omega
theorem Y2.on (t:Y2 K n w v T) (hb:Below w.heap.size w w1):Y2 K n w1 v T:=⟨t.c.on hb,t.m.on hb,t.nd,t.ok,t.sh,t.pot,t.wr,t.gone,t.fl⟩
end
theorem Ran.of_mv {K:Kx} {root h n:Nat} {w w1:World} {v v1:Vt} {T T1:Tx} {g:List Int} (s:Sm K.F K.L n v v1 g []) (m:Mv K root h n w v T w1 v1 T1) (h1:T1.gone=T.gone++g) (h2:T1.fl=T.fl) (h3:T1.le=T.le) (h4:T1.wr<=T.wr):Ran K root h n w v T w1 v1 T1 g []:=⟨s,m,h1,h2,h3,h4⟩
open Go.RowKit
attribute [local go_sem ↓] Go.wp_at_zero Go.wp_at_succ
theorem CAt.top {w:World} {K:Kx} {root h:Nat} {T:Tx} (c:CAt w K root h T) (root' h':Nat):CAt ((w.setCell ⟨K.tb,4,none⟩ (vp root')).setCell ⟨K.tb,5,none⟩ (.int .i64 h')) K root' h' T/\Jg (fun y=>y=K.tb) w ((w.setCell ⟨K.tb,4,none⟩ (vp root')).setCell ⟨K.tb,5,none⟩ (.int .i64 h')):=by
 have hk:Jg (fun y=>y=K.tb) w ((w.setCell ⟨K.tb,4,none⟩ (vp root')).setCell ⟨K.tb,5,none⟩ (.int .i64 h')):=((Jg.refl (fun y=>y=K.tb) w).setCell ⟨K.tb,4,none⟩ (Or.inl rfl) _).setCell ⟨K.tb,5,none⟩ (Or.inl rfl) _
 refine⟨⟨⟨(c.tr.row.put 4 _).put 5 _⟩,?_,?_⟩,hk⟩
 ·exact c.gn.keep hk fun y e k=>by
   have k':y=K.tb:=k
   subst k'
   obtain⟨cur,hc⟩:=Jt c.gn.own _ e
   exact absurd (hc.one c.tr.row).1 (by decide)
 ·exact c.sh.keep hk (fun e=>by
   have h1:=c.tr.row
   rw[<-show K.sb=K.tb from e] at h1
   exact absurd (h1.one c.sh.row).1 (by decide)) (fun e=>by
   have h1:=c.tr.row
   rw[<-show K.mb=K.tb from e] at h1
   exact c.sh.noMap h1)
theorem Jqi {K:Kx} {root h:Nat} {T:Tx} {Q:List (Chd×Vt)} (ka:Option Addr) (kc:Nat) (la:Option Addr) (lc:Nat) (w:World) (c:CAt w K root h T) (hkd:w.ownsRow 0 97 1 (.slice ka Q.length kc) Q.length (cellsVx (Q.map fun x=>x.2.b))) (hlv:Jbe w la (Q.map lw)) (hq:0<Q.length) (hq2:Q.length<=10000) (hh:h<=1000) (hnew:∀x∈Q,x.1=⟨lw x,0,0,0⟩):
  Calls Tryz.prog 69 #[.pointer (some ⟨K.tb,0,none⟩),.slice ka Q.length kc,.slice la Q.length lc] w fun e w'=>e=.returned (.tuple #[])/\CAt w' K w.heap.size (h+1) T/\Zh w' (Jdy w.heap.size Q)/\Jg (fun x=>x=K.tb) w w':=by
 obtain⟨i0,hi,hz0,hz1,hz2⟩:=info_parts Jg0
 have HLV:=Lib.hid hlv
 have HC:=Lib.hid c
 have HKD:=Lib.hid hkd
 clear c hkd hlv
 go_enter Tryz.func69,Tryz.ntmps69
 go_wp2_with fail
 go_loopw [14] (fun i wr=>∃(j:Nat) (sa:Option Addr) (sc:Nat),i=.int .i64 j/\j<=Q.length/\Hid (wr.ownsRow w.heap.size 179 4 (.slice sa j sc) j (cellsC ((Q.take j).map Prod.fst))/\Jq wr w.heap.size false 0 0 0 true (.slice none 0 0) (.slice sa j sc) (.slice none 0 0) (.slice ka Q.length kc)/\Below w.heap.size w wr)) (fun i _=>Q.length- (intOf i).toNat)
 case atStart=>exact⟨0,none,0,rfl,Nat.zero_le _,Lib.hid ⟨World.ownsRow_nil _ _ _ _,⟨Jc.new w _ (YH false 0 0 0 true (.slice none 0 0) (.slice none 0 0) (.slice none 0 0) (.slice ka Q.length kc))⟩,(Below.refl _ _).alloc (Nat.le_refl _) _⟩⟩
 case round=>
  obtain⟨j,sa,sc,rfl,hj,HR⟩:=hrel
  obtain⟨hown,hvx,hB⟩:=HR.out
  have hj0:(0:Int)<=(j:Int):=Int.natCast_nonneg _
  by_cases hjl:j<Q.length
  ·have hj1:(j:Int)<(Q.length:Int):=by omega
   obtain⟨b0,off,rfl,hb0,t0⟩:=Jbe.cell (HLV.out.kept hB (Nat.le_refl _)) j (by rw[List.length_map];exact hjl)
   rw[List.getElem_map] at t0
   have HQ:=Lib.hid (show(Q.take (j+1)).map Prod.fst=(Q.take j).map Prod.fst++[⟨lw Q[j],0,0,0⟩] by rw[List.take_succ_eq_append_getElem hjl,List.map_append,List.map_cons,List.map_nil,hnew _ (List.getElem_mem hjl)])
   generalize lw Q[j]=low at*
   have v6:=hvx.c6
   have v6a:∀x,(wr.alloc x).cell? ⟨w.heap.size,6,none⟩=some (.slice sa j sc):=fun x=>(World.cell?_alloc_past _ _ _ hvx.lt).trans v6
   have hne:some w.heap.size≠(Value.slice sa j sc).ownBlock:=fun e=>by
    obtain⟨cur,hc⟩:=Jt hown _ e.symm
    exact absurd (hc.one hvx.row).1 (by decide)
   have hvr:=hvx.row
   clear hvx HR
   go_wp2_with (at_builtin;refine wpList_append_own_at _ rfl _ _ 100 rfl w.heap.size 179 i0 (.agg #[.string ByteArray.empty,.int .i64 0,.int .u64 0,.int .u32 0]) 4 40 Tryz.underlying100 hi hz0 hz1 hz2 rfl (by decide) _ j _ rfl (hown.alloc _) ⟨_,0,none⟩ 1 1 [.string (S low),.int .i64 0,.int .u64 0,.int .u32 0] rfl rfl (fun j u hu=>XV _ _ rfl _ _ _ _ _ j u hu) (Jee _) (by unfold maxLen;omega) (by omega) (by have:=hB.size;simp;omega) ?_;intro v' w2 hown' hgrow hnil' hat;obtain⟨a7,c7,rfl⟩:=Jm hown';have hvr2:=(hvr.alloc (.cells #[.string (S low),.int .i64 0,.int .u64 0,.int .u32 0] 179)).kept hgrow hne;have z6:=(hvr2.cell 6).trans (show _=some (Value.slice sa j sc) from rfl);have zf:=hvr2.frozen 6)
   have hfin:(w2.setCell ⟨w.heap.size,6,none⟩ (.slice a7 (j+1) c7)).ownsRow w.heap.size 179 4 (.slice a7 (j+1) c7) (j+1) (cellsC ((Q.take (j+1)).map Prod.fst))/\Jq (w2.setCell ⟨w.heap.size,6,none⟩ (.slice a7 (j+1) c7)) w.heap.size false 0 0 0 true (.slice none 0 0) (.slice a7 (j+1) c7) (.slice none 0 0) (.slice ka Q.length kc)/\Below w.heap.size w (w2.setCell ⟨w.heap.size,6,none⟩ (.slice a7 (j+1) c7)):=by
    have hb2:=Ju (hB.alloc hB.size (.cells #[.string (S low),.int .i64 0,.int .u64 0,.int .u32 0] 179)) hgrow (fun q e=>(hown.lt q e).1) (by have:=hB.size;simp;omega)
    have hown2:w2.ownsRow w.heap.size 179 4 (.slice a7 (j+1) c7) (j+1) (cellsC ((Q.take (j+1)).map Prod.fst)):=by rw[HQ.out,ZF,JcM];exact hown'
    refine⟨ownsRow_setCell_other (a:=⟨w.heap.size,6,none⟩) hown2 (fun e=> ?_) _,⟨hvr2.put 6 _⟩,hb2.setCell (Nat.le_refl _) _⟩
    obtain⟨cur,hc⟩:=Jt hown2 _ e
    exact absurd (hc.one hvr2).1 (by decide)
   have HFIN:=Lib.hid hfin
   clear hfin z6 zf hvr2 hown' hgrow hnil' hat hown
   go_wp2_with fail
   exact⟨⟨j+1,a7,c7,by go_num,by omega,HFIN⟩,by simp[intOf];omega⟩
  ·obtain rfl:j=Q.length:=by omega
   obtain⟨w1,hw1⟩:∃w1,w1=wr:=⟨_,rfl⟩
   subst hw1
   rw[List.take_length] at hown HR
   obtain⟨CS,hCS⟩:∃CS,CS=Q.map Prod.fst:=⟨_,rfl⟩
   have hCL:CS.length=Q.length:=by rw[hCS,List.length_map]
   rw[<-hCS] at hown HR
   obtain⟨g,rfl,hg1,hg2,hg3⟩:=Yk hown hq
   obtain⟨low0,CS',hCC⟩:∃c0 CS',CS=c0::CS':=by
    cases hc:CS with
    |nil=>rw[hc] at hCL;simp at hCL;omega
    |cons a b=>exact⟨a,b,rfl⟩
   have r0:w1.cell? ⟨g,0,none⟩=some (.string (S low0.low)):=hg3 0 _ (by rw[hCC];rfl)
   obtain⟨cur,hcur⟩:=Jt hown g rfl
   have rf:=hcur.frozen 0
   have v6:=hvx.c6
   have hq1:(0:Int)<(Q.length:Int):=by omega
   have hc1:=HC.out.on hB
   have t4:=hc1.tr.c4
   have t5:=hc1.tr.c5
   have f4:=hc1.tr.fz 4
   have f5:=hc1.tr.fz 5
   have hgt:g≠K.tb:=fun e=>by
    rw[e] at hcur
    exact absurd (hcur.one hc1.tr.row).1 (by decide)
   have hbt:w.heap.size≠K.tb:=fun e=>by
    have:=HC.out.tr.lt
    omega
   have hgb:g≠w.heap.size:=fun e=>by
    rw[e] at hcur
    exact absurd (hcur.one hvx.row).1 (by decide)
   have HN:=Lib.hid (And.intro hgt (And.intro hbt (And.intro hgb (And.intro hg1 (And.intro hCL hCS)))))
   have HC1:=Lib.hid hc1
   obtain⟨W2,hW2⟩:∃W2,W2=w1.setCell ⟨g,0,none⟩ (.string ⟨#[]⟩):=⟨_,rfl⟩
   have t42:W2.cell? ⟨K.tb,4,none⟩=some (vp root):=by rw[hW2];exact J5 (fun e=>hgt e.symm) t4
   have t52:W2.cell? ⟨K.tb,5,none⟩=some (.int .i64 h):=by rw[hW2];exact J5 (fun e=>hgt e.symm) t5
   clear hown hvx hB hg3 hCC hcur hc1 hgt hbt hgb hg1 hCL hCS hj hj0 hjl
   go_upto_region 7 with(fail)
   rw[<-hW2]
   have f42:W2.frozen? ⟨K.tb,4,none⟩=false:=by rw[hW2,World.frozen?_setCell];exact f4
   have f52:W2.frozen? ⟨K.tb,5,none⟩=false:=by rw[hW2,World.frozen?_setCell];exact f5
   have HW2:=Lib.hid hW2
   clear t4 t5 f4 f5 r0 rf v6 hW2
   go_wp2_with fail
   refine bodyPost_end (v:=.tuple #[]) (by simp[results,Tryz.results69,go_sem]) rfl ?_
   obtain⟨hgt,hbt,hgb,hg1,hCL,hCS⟩:=HN.out
   obtain⟨hown,hvx,hB⟩:=HR.out
   have hrow:W2.ownsRow w.heap.size 179 4 (.slice (some ⟨g,0,none⟩) CS.length sc) CS.length (cellsC (Xc CS)):=by
    rw[HW2.out]
    exact Ji1 (by rw[hCL];exact hown) (by omega)
   have hv2:Jq W2 w.heap.size false 0 0 0 true (.slice none 0 0) (.slice (some ⟨g,0,none⟩) Q.length sc) (.slice none 0 0) (.slice ka Q.length kc):=by
    rw[HW2.out];exact hvx.far ⟨g,0,none⟩ (fun e=>hgb e.symm) _
   have hb2:Below w.heap.size w W2:=by
    rw[HW2.out];exact hB.setCell hg1 _
   have hc2:=HC.out.on hb2
   obtain⟨hc3,hk3⟩:=hc2.top w.heap.size (h+1)
   have hk03:Jg (fun x=>x=K.tb) w ((W2.setCell ⟨K.tb,4,none⟩ (vp w.heap.size)).setCell ⟨K.tb,5,none⟩ (.int .i64 ((h+1:Nat):Int))):=(Jg.of_below hb2).trans' hk3
   have hnt:∀b,b=K.tb->XO W2 b:=fun b e=>by rw[show b=K.tb from e];exact(hc2.soft K.tb (Or.inl rfl)).1.str
   refine⟨rfl,hc3,⟨rfl,0,0,0,some ⟨g,0,none⟩,sc,none,0,ka,kc,?_,fun p hp=>(by cases hp),?_,?_⟩,hk03⟩
   ·show Jq _ w.heap.size false 0 0 0 true _ (.slice _ (Jk Q).length sc) _ (.slice ka (Jk Q).length kc)
    rw[Jw]
    exact hk3.vx hv2 hbt
   ·show JA _ (.agg #[.slice _ (Jk Q).length sc,.slice none 0 0]) ((Jk Q).map Prod.fst) []
    rw[Jw,JbE,<-hCS,<-hCL]
    exact(JA.mk' (SlC.of_own (n:=CS.length) (l:=Xc CS) hrow).2 (SlU.nil _)).keep hk3 hnt
   ·show Xu _ (.slice ka (Jk Q).length kc) ((Jk Q).map fun x=>x.2.b)
    have e1:((Jk Q).map fun x=>x.2.b)=Q.map fun x=>x.2.b:=by cases Q<;>rfl
    rw[Jw,e1]
    have h1:=HKD.out
    have h2:Xu w (.slice ka Q.length kc) (Q.map fun x=>x.2.b):=by
     have:w.ownsRow 0 97 1 (.slice ka Q.length kc) (Q.map fun x=>x.2.b).length ((Q.map fun x=>x.2.b).map vp):=by
      rw[List.length_map];exact h1
     exact this
    exact Xu.keep h2 hk03 (fun b e=>by rw[show b=K.tb from e];exact(HC.out.soft K.tb (Or.inl rfl)).1)
open Go.RowKit
attribute [local go_sem ↓] Go.wp_at_zero Go.wp_at_succ
theorem Jld {us:List Upd} (hr:Je Upd.key us) (a b:List UInt8):(Ya us a b).length<=us.length:=by
 rw[(Y4 hr a b).2];exact List.length_filter_le _ _
theorem Sm.us_le {F L:Nat} {n:Nat} {v v':Vt} {g:List Int} {h:List Nat} (s:Sm F L n v v' g h):∀ {lo hi:List UInt8},Ok n lo hi v->v'.us.length<=v.us.length:=by
 induction s with
 |refl=>exact fun _=>Nat.le_refl _
 |trans s1 _ i1 i2=>exact fun ho=>Nat.le_trans (i2 (s1.good ho).1) (i1 ho)
 |load hl=>exact fun _=>by rw[hl.us];exact Nat.le_refl _
 |soil=>exact fun _=>Nat.le_refl _
 |kid _ _ _ _=>exact fun _=>Nat.le_refl _
 |kidLoad=>exact fun _=>Nat.le_refl _
 |hand=>exact fun ho=>Jld ho.usr _ _
 |parts=>exact fun _=>Nat.le_refl _
 |drop=>exact fun _=>Nat.le_refl _
 |halve=>exact fun _=>Nat.le_refl _
theorem Sm.len2 {F L:Nat} {n:Nat} {v v':Vt} {g:List Int} {h:List Nat} (s:Sm F L n v v' g h):2<=n->v.ch.length<=v'.ch.length:=by
 induction s with
 |refl=>exact fun _=>Nat.le_refl _
 |trans _ _ i1 i2=>exact fun q=>Nat.le_trans (i1 q) (i2 q)
 |load hl=>exact fun _=>by rw[hl.len];exact Nat.le_refl _
 |soil=>exact fun _=>Nat.le_refl _
 |kid e _ _ _=>exact fun _=>by rw[e];simp
 |kidLoad e _=>exact fun _=>by rw[e];simp
 |hand e _ _ _=>exact fun _=>by rw[e];simp
 |parts=>exact fun q=>by omega
 |drop=>exact fun q=>by omega
 |halve e _ _ hP=>
  intro _
  obtain⟨a,b,y,rfl,-⟩:=hP.new
  show _<=(Jk _).length
  rw[Jw,e]
  simp only[List.length_append,List.length_cons,List.length_nil]
  omega
def GkB (K:Kx) (n:Nat) (v:Vt):Prop:=Gk K n v/\v.us.length<=K.B
structure TL (K:Kx) (n:Nat) (w:World) (v:Vt) (T:Tx) (n1:Nat) (w1:World) (v1:Vt) (T1:Tx) (g:List Int) (l:List Nat):Prop where
 run:Z4 K n w v T n1 w1 v1 T1 g l
 ld:v1.ld=true
 kn:v1.kn=none
 big:∀m∈l,K.B/K.F<=m
 gd:GkB K n v->0<T.wr\/GkB K n1 v1
 up:v.us≠[]->n<=n1/\(v1.us≠[]\/2<=v1.ch.length)
structure TD (K:Kx) (n:Nat) (w:World) (v:Vt) (T:Tx) (n1:Nat) (w1:World) (v1:Vt) (T1:Tx) (g:List Int) (l:List Nat):Prop where
 run:Z4 K n w v T n1 w1 v1 T1 g l
 big:∀m∈l,K.B/K.F<=m
 gd:GkB K n v->0<T.wr\/Gd K n1 v1
 up:v.us≠[]->n<=n1/\(v1.us≠[]\/2<=v1.ch.length)
theorem Z4.up {K:Kx} {n:Nat} {w w3 w4:World} {v:Vt} {T:Tx} {Q:List (Chd×Vt)} (rt:Rt K.F K.L n v (n+1) (Jdy w3.heap.size Q) [] []) (ht:Y2 K n w v T) (hb:Below w.heap.size w w3) (hc:CAt w4 K w3.heap.size (n+1+1) T) (hN:Zh w4 (Jdy w3.heap.size Q)) (hk:Jg (fun x=>x=K.tb) w3 w4) (hQm:∀x∈Q,Mem w3 n x.2) (hQf:∀b∈Jy n Q,b∈blocks n v\/w.heap.size<=b) (hQn:(Jy n Q).Nodup):
  Z4 K n w v T (n+1) w4 (Jdy w3.heap.size Q) T [] []:=by
 have hs:=hb.size
 have hc3:=ht.c.on hb
 have hbl:blocks (n+1) (Jdy w3.heap.size Q)=w3.heap.size::Jy n Q:=by
  rw[JL (by rfl)]
  show _::Jy n (Jk Q)=_
  rw[Jao]
 have hlt:∀b∈Jy n Q,b<w3.heap.size:=fun b hb=>by
  obtain⟨x,hx,hbx⟩:=List.mem_flatMap.1 hb
  exact((hQm x hx).lt b hbx).2
 refine⟨rt,⟨rfl,Or.inl ⟨hN,YC (P:=fun t=>Mem w4 n t) fun x hx=>(hQm x hx).keep hk (fun b e=>by rw[show b=K.tb from e];exact(hc3.soft K.tb (Or.inl rfl)).1) fun b hbx e=> ?_⟩⟩,?_,fun b hbx=> ?_,hc,fun _ q=>Or.inl q,?_,by simp,rfl,rfl,Nat.le_refl _⟩
 ·obtain⟨cur,hcur⟩:=(hQm x hx).cells b hbx
  exact(hc3.notVx hcur).1 (Or.inl e)
 ·rw[hbl,List.nodup_cons]
  exact⟨fun q=>by have:=hlt _ q;omega,hQn⟩
 ·rw[hbl] at hbx
  rcases List.mem_cons.1 hbx with rfl|hbx
  ·exact Or.inr hs
  ·exact hQf b hbx
 ·exact(Jg.of_below hb).trans' (hk.mono fun x e=>Or.inl (Or.inl e))
theorem Jq4 (a b:Option Addr) (n x m y:Nat) (F B L:Nat) (w:World):
  Calls Tryz.prog 71 #[.agg #[.slice a n x,.slice b m y],.agg #[.int .i64 F,.int .i64 B,.int .i64 L]] w fun e w'=>e=.returned (.bool (decide (F<n)))/\Below w.heap.size w w':=
 (Jqg a b n x m y F B L w).mono fun e w' h=>⟨by rw[h.1];simp,h.2⟩
theorem JqF {F n b:Nat} {v:Vt} {Q:List (Chd×Vt)} (hF:3<=F) (hr:Je Upd.key v.us) (hP:ZH F [] v Q):mu (n+2) (Jdy b Q)+2=mu (n+1) v:=by
 obtain⟨h0,h1,h2,h3⟩:=hP.sum (n:=n) hr hF
 rw[Yd,Yr,Jw,h0,JdT]
 show 0+2*(n+1+1)*0+Yf (mu (n+1)) Q+2=_
 omega
theorem Jok {n:Nat} {wr w4:World} {t:Vt} {X:List (Chd×Vt)} {y:Chd×Vt} {Y Q:List (Chd×Vt)} {ba bb:Nat} {c1 c2:Chd} {u1 u2:List Upd} (mt:Mem wr (n+1) t) (htl:t.ld=true) (hnd:(blocks (n+1) t).Nodup) (hch:t.ch=X++y::Y) (hMa:Zh w4 ⟨ba,true,true,none,[],u1,X⟩) (hMb:Zh w4 ⟨bb,true,true,none,[],u2,Jk (y::Y)⟩) (hba:wr.heap.size<=ba) (hbb:wr.heap.size<=bb) (hab:ba≠bb) (hX4:Below wr.heap.size wr w4) (hQe:Q=[(c1,⟨ba,true,true,none,[],u1,X⟩),(c2,⟨bb,true,true,none,[],u2,Jk (y::Y)⟩)]):
  (∀x∈Q,Mem w4 (n+1) x.2)/\(∀b∈Jy (n+1) Q,b∈blocks (n+1) t\/wr.heap.size<=b)/\(Jy (n+1) Q).Nodup:=by
 have htn:=hnd
 rw[JL mt.in,hch,List.nodup_cons] at htn
 have htlt:∀b∈blocks (n+1) t,b<wr.heap.size:=fun b hb=>(mt.lt b hb).2
 obtain⟨-,htk2⟩:=mt.node htl
 have hXk:∀x∈X,Mem w4 n x.2:=fun x hx=>(htk2 x (by rw[hch];exact List.mem_append_left _ hx)).on hX4
 have hYk:∀x∈Jk (y::Y),Mem w4 n x.2:=YC (P:=fun t=>Mem w4 n t) fun x hx=>(htk2 x (by rw[hch];exact List.mem_append_right _ hx)).on hX4
 have hbX:∀b∈Jy n X,b∈blocks (n+1) t:=fun b hb=>by
  rw[JL mt.in,hch,JN];exact List.mem_cons_of_mem _ (List.mem_append_left _ hb)
 have hbY:∀b∈Jy n (y::Y),b∈blocks (n+1) t:=fun b hb=>by
  rw[JL mt.in,hch,JN];exact List.mem_cons_of_mem _ (List.mem_append_right _ hb)
 have hbl:Jy (n+1) Q=(ba::Jy n X)++(bb::Jy n (y::Y)):=by
  rw[hQe,J3,J3,JL (by rfl),JL (by rfl)]
  show(ba::Jy n X)++((bb::Jy n (Jk (y::Y)))++[])=_
  rw[Jao,List.append_nil]
 have hnb:∀b0,wr.heap.size<=b0->∀b∈blocks (n+1) t,b0≠b:=fun b0 h0 b hb q=>by have:=htlt b hb;omega
 refine⟨fun x hx=> ?_,fun b hb=> ?_,?_⟩
 ·rw[hQe] at hx
  rcases List.mem_cons.1 hx with rfl|hx
  ·exact⟨rfl,Or.inl ⟨hMa,hXk⟩⟩
  ·rw[List.mem_singleton.1 hx]
   exact⟨rfl,Or.inl ⟨hMb,hYk⟩⟩
 ·rw[hbl] at hb
  rcases List.mem_append.1 hb with hb|hb
  ·rcases List.mem_cons.1 hb with rfl|hb
   ·exact Or.inr hba
   ·exact Or.inl (hbX b hb)
  ·rcases List.mem_cons.1 hb with rfl|hb
   ·exact Or.inr hbb
   ·exact Or.inl (hbY b hb)
 ·rw[hbl,List.cons_append,List.nodup_cons]
  have h1:=htn.2
  rw[JN] at h1
  refine⟨fun q=> ?_,?_⟩
  ·rcases List.mem_append.1 q with q|q
   ·exact hnb ba hba _ (hbX _ q) rfl
   ·rcases List.mem_cons.1 q with q|q
    ·exact hab q
    ·exact hnb ba hba _ (hbY _ q) rfl
  ·rw[List.nodup_append] at h1⊢
   refine⟨h1.1,List.nodup_cons.2 ⟨fun q=>hnb bb hbb _ (hbY _ q) rfl,h1.2.1⟩,fun a ha b hb q=> ?_⟩
   rcases List.mem_cons.1 hb with hb|hb
   ·exact hnb bb hbb _ (hbX _ ha) (by rw[<-hb,q])
   ·exact h1.2.2 a ha b hb q
theorem Jgo (l:List (Chd×Vt)) (h:∀x∈l,x.2.mem=true):Jy 0 l=l.map fun x=>x.2.b:=by
 induction l with
 |nil=>rfl
 |cons x l ih=>
  rw[J3,ih fun y hy=>h y (List.mem_cons_of_mem _ hy),J8 _ (h x (by simp))]
  rfl
theorem Z4.downT {K:Kx} {n:Nat} {w w':World} {v t:Vt} {c:Chd} {T:Tx} (ht:Y2 K (n+1) w v T) (hk:v.kn=none) (hl:v.ld=true) (hu:v.us=[]) (hc:v.ch=[(c,t)]) (hcx:CAt w' K t.b (n+1) T) (hkp:Jg (fun x=>x=K.tb) w w'):Z4 K (n+1) w v T n w' t T [] []:=by
 obtain⟨-,hkm⟩:=ht.m.node hl
 have hmt:=hkm (c,t) (by rw[hc];simp)
 have hb:=ht.nd
 rw[JL ht.m.in,hc,J3,List.nodup_cons] at hb
 have hb2:=(List.nodup_append.1 hb.2).1
 refine⟨.down hk hu hc,hmt.keep hkp (fun b e=>by rw[show b=K.tb from e];exact(ht.c.soft K.tb (Or.inl rfl)).1) (fun b hb e=> ?_),hb2,fun b hbx=>Or.inl ?_,hcx,fun _ q=>Or.inl q,hkp.mono fun x e=>Or.inl (Or.inl e),by simp,rfl,rfl,Nat.le_refl _⟩
 ·obtain⟨cur,hcur⟩:=hmt.cells b hb
  exact(ht.c.notVx hcur).1 (Or.inl e)
 ·exact Ze (x:=(c,t)) ht.m.in (by rw[hc];simp) hbx
theorem Mem.kids1 {w:World} {n:Nat} {v:Vt} (hm:Mem w (n+1) v) {kn:Bool} {pa:Int} {pg ps:Nat} {ld:Bool} {lf cs:Value} {a2 a3:Option Addr} {ul x2 kl x3:Nat} (hv:Jq w v.b kn pa pg ps ld lf cs (.slice a2 ul x2) (.slice a3 kl x3)) (h1:kl=1):v.ld=true/\v.us.length=ul/\v.ch.length=1:=by
 rcases hm.2 with⟨q,-⟩|⟨q,-⟩
 ·obtain⟨pa,pg,ps,a1,y1,a2,y2,a3,y3,h2,-⟩:=q.ex
  obtain⟨-,-,-,-,-,-,-,e1,e2⟩:=hv.one h2
  simp only[Value.slice.injEq] at e1 e2
  exact⟨q.ld,e1.2.1.symm,by rw[<-e2.2.1];exact h1⟩
 ·obtain⟨p,-,h2⟩:=q.ex
  obtain⟨-,-,-,-,-,-,-,-,e2⟩:=hv.one h2
  simp only[Value.slice.injEq] at e2
  omega
theorem Jq5 {K:Kx} {n:Nat} {v:Vt} {T:Tx} (w:World) (hP:Ja7 K) (ht:Y2 K n w v T) (hl:v.ld=true) (hk:v.kn=none):
  Calls Tryz.prog 41 #[.pointer (some ⟨K.tb,0,none⟩)] w fun e w'=>e=.returned (.tuple #[])/\∃n1 v1 T1 g l,TD K n w v T n1 w' v1 T1 g l:=by
 have H0:=Lib.hid (show TL K n w v T n w v T [] [] from⟨Z4.refl ht.m ht.nd ht.c,hl,hk,fun m hm=>by simp at hm,Or.inr,fun q=>⟨Nat.le_refl _,Or.inl q⟩⟩)
 have HP:=Lib.hid (And.intro hP ht)
 obtain⟨tb,htb⟩:∃tb,tb=K.tb:=⟨_,rfl⟩
 rw[<-htb]
 have Htb:=Lib.hid htb
 clear hP ht hl hk htb
 go_enter Tryz.func41,Tryz.ntmps41
 go_wp2_with fail
 go_loopg [] (if n=0 then 1 else 0) (fun g wx=>Hid (∃n1 v1 T1 gg l,TL K n w v T n1 wx v1 T1 gg l/\(n1=0->g=1)))
 case atStart=>exact Lib.hid ⟨n,v,T,[],[],H0.out,fun q=>if_pos q⟩
 case round=>
  obtain⟨n1,v1,T1,gg,l,hO,hnum⟩:=hrel.out
  have htr:=HP.out.2.next HP.out.1 hO.run
  have c0:=htr.c
  have t4:wr.cell? ⟨tb,4,none⟩=some (.pointer (some ⟨v1.b,0,none⟩)):=by rw[Htb.out];exact c0.tr.c4
  have t5:wr.cell? ⟨tb,5,none⟩=some (.int .i64 ((n1+1:Nat):Int)):=by rw[Htb.out];exact c0.tr.c5
  obtain⟨LL,hLL⟩:∃LL,LL=K.L:=⟨_,rfl⟩
  have t2:wr.cell? ⟨tb,2,none⟩=some (.int .i64 LL):=by rw[Htb.out,hLL];exact c0.tr.c2
  have HO:=Lib.hid (And.intro hO (And.intro hnum (And.intro htr hLL)))
  obtain⟨m,hm⟩:∃m,m=v1.es.length:=⟨_,rfl⟩
  obtain⟨vb,hvb⟩:∃vb,vb=v1.b:=⟨_,rfl⟩
  rw[<-hvb] at t4
  have HM:=Lib.hid (And.intro hm hvb)
  clear hO hnum htr hLL hrel c0 hm hvb
  go_upto_region 0 with(fail)
  go_cut [25] from 5 to 35 (fun s25 wx=>s25=.bool (decide (n1=0/\LL<m))/\Below wr.heap.size wr wx)
  case first=>
   by_cases h0:n1=0
   ·subst h0
    obtain⟨-,qa,qg,qs,la,lc,hvt,-,-⟩:=HO.out.2.2.1.m.leaf HO.out.1.ld
    rw[<-HM.out.1,<-HM.out.2] at hvt
    have l5:=hvt.c5
    replace t5:wr.cell? ⟨tb,5,none⟩=some (.int .i64 1):=t5
    clear hvt
    refine WQ.region (C:=fun w'=>Below wr.heap.size wr w') (by kernel_rfl) (by kernel_rfl) (Jb (Below.refl _ _)) ?_
    refine WV (by rfl) (.pointer (some ⟨tb,0,none⟩)) (fun w' hw'=> ?_) ?_
    ·have hq':=hw'
     go_simp
    try simp only[Act.put,WA,WB,WC]
    refine WV (by rfl) (.pointer (some ⟨tb,0,none⟩)) (fun w' hw'=> ?_) ?_
    ·have hq':=hw'
     go_simp
    try simp only[Act.put,WA,WB,WC]
    refine WV (by rfl) (.pointer (some ⟨tb,5,none⟩)) (fun w' hw'=> ?_) ?_
    ·have hq':=hw'
     go_simp
    try simp only[Act.put,WA,WB,WC]
    refine WV (by rfl) (.int .i64 1) (fun w' hw'=> ?_) ?_
    ·have hq':=hw'
     have z0:=Ja hw' t2;have z1:=Ja hw' t4;have z2:=Ja hw' t5;have z3:=Ja hw' l5;go_simp
    try simp only[Act.put,WA,WB,WC]
    refine WV (by rfl) (.bool true) (fun w' hw'=> ?_) ?_
    ·have hq':=hw'
     go_simp
    try simp only[Act.put,WA,WB,WC]
    refine WV (by rfl) (.bool true) (fun w' hw'=> ?_) ?_
    ·have hq':=hw'
     go_simp
    try simp only[Act.put,WA,WB,WC]
    refine WV (by rfl) (.pointer (some ⟨tb,0,none⟩)) (fun w' hw'=> ?_) ?_
    ·have hq':=hw'
     go_simp
    try simp only[Act.put,WA,WB,WC]
    refine WV (by rfl) (.pointer (some ⟨tb,0,none⟩)) (fun w' hw'=> ?_) ?_
    ·have hq':=hw'
     go_simp
    try simp only[Act.put,WA,WB,WC]
    refine WV (by rfl) (.pointer (some ⟨tb,4,none⟩)) (fun w' hw'=> ?_) ?_
    ·have hq':=hw'
     go_simp
    try simp only[Act.put,WA,WB,WC]
    refine WV (by rfl) (.pointer (some ⟨vb,0,none⟩)) (fun w' hw'=> ?_) ?_
    ·have hq':=hw'
     have z0:=Ja hw' t2;have z1:=Ja hw' t4;have z2:=Ja hw' t5;have z3:=Ja hw' l5;go_simp
    try simp only[Act.put,WA,WB,WC]
    refine WV (by rfl) (.pointer (some ⟨vb,0,none⟩)) (fun w' hw'=> ?_) ?_
    ·have hq':=hw'
     go_simp
    try simp only[Act.put,WA,WB,WC]
    refine WV (by rfl) (.pointer (some ⟨vb,5,none⟩)) (fun w' hw'=> ?_) ?_
    ·have hq':=hw'
     go_simp
    try simp only[Act.put,WA,WB,WC]
    refine WV (by rfl) (.agg #[.slice la m lc]) (fun w' hw'=> ?_) ?_
    ·have hq':=hw'
     have z0:=Ja hw' t2;have z1:=Ja hw' t4;have z2:=Ja hw' t5;have z3:=Ja hw' l5;go_simp
    try simp only[Act.put,WA,WB,WC]
    refine WV (by rfl) (.int .i64 m) (fun w' hw'=> ?_) ?_
    ·have hq':=hw'
     go_simp
     go_at_call 68
     refine(JdK la m lc _).mono ?_
     rintro e w6 ⟨he,hb6⟩
     exact⟨he,hq'.trans (hb6.mono hq'.size)⟩
    try simp only[Act.put,WA,WB,WC]
    refine WV (by rfl) (.pointer (some ⟨tb,0,none⟩)) (fun w' hw'=> ?_) ?_
    ·have hq':=hw'
     go_simp
    try simp only[Act.put,WA,WB,WC]
    refine WV (by rfl) (.pointer (some ⟨tb,0,none⟩)) (fun w' hw'=> ?_) ?_
    ·have hq':=hw'
     go_simp
    try simp only[Act.put,WA,WB,WC]
    refine WV (by rfl) (.pointer (some ⟨tb,0,none⟩)) (fun w' hw'=> ?_) ?_
    ·have hq':=hw'
     go_simp
    try simp only[Act.put,WA,WB,WC]
    refine WV (by rfl) (.pointer (some ⟨tb,2,none⟩)) (fun w' hw'=> ?_) ?_
    ·have hq':=hw'
     go_simp
    try simp only[Act.put,WA,WB,WC]
    refine WV (by rfl) (.int .i64 LL) (fun w' hw'=> ?_) ?_
    ·have hq':=hw'
     have z0:=Ja hw' t2;have z1:=Ja hw' t4;have z2:=Ja hw' t5;have z3:=Ja hw' l5;go_simp
    try simp only[Act.put,WA,WB,WC]
    refine WV (by rfl) (.bool (decide (LL<m))) (fun w' hw'=> ?_) ?_
    ·have hq':=hw'
     go_simp
    try simp only[Act.put,WA,WB,WC]
    refine WV (by rfl) (.bool (decide (LL<m))) (fun w' hw'=> ?_) ?_
    ·have hq':=hw'
     go_simp
    try simp only[Act.put,WA,WB,WC]
    refine WQ.done ?_
    rintro w2 hX
    go_wp2_with fail
    go_meet
    exact⟨by simp,hX⟩
   ·have hb5:¬((n1:Int)+1=1):=by omega
    refine WQ.region (C:=fun w'=>Below wr.heap.size wr w') (by kernel_rfl) (by kernel_rfl) (Jb (Below.refl _ _)) ?_
    refine WV (by rfl) (.pointer (some ⟨tb,0,none⟩)) (fun w' hw'=> ?_) ?_
    ·have hq':=hw'
     go_simp
    try simp only[Act.put,WA,WB,WC]
    refine WV (by rfl) (.pointer (some ⟨tb,0,none⟩)) (fun w' hw'=> ?_) ?_
    ·have hq':=hw'
     go_simp
    try simp only[Act.put,WA,WB,WC]
    refine WV (by rfl) (.pointer (some ⟨tb,5,none⟩)) (fun w' hw'=> ?_) ?_
    ·have hq':=hw'
     go_simp
    try simp only[Act.put,WA,WB,WC]
    refine WV (by rfl) (.int .i64 ((n1+1:Nat):Int)) (fun w' hw'=> ?_) ?_
    ·have hq':=hw'
     have z0:=Ja hw' t5;go_simp
    try simp only[Act.put,WA,WB,WC]
    refine WV (by rfl) (.bool false) (fun w' hw'=> ?_) ?_
    ·have hq':=hw'
     go_simp
    try simp only[Act.put,WA,WB,WC]
    refine WV (by rfl) (.bool false) (fun w' hw'=> ?_) ?_
    ·have hq':=hw'
     go_simp
    try simp only[Act.put,WA,WB,WC]
    refine WS (by rfl) ?_
    try simp only[Act.put,WA,WB,WC]
    refine WS (by rfl) ?_
    try simp only[Act.put,WA,WB,WC]
    refine WS (by rfl) ?_
    try simp only[Act.put,WA,WB,WC]
    refine WS (by rfl) ?_
    try simp only[Act.put,WA,WB,WC]
    refine WS (by rfl) ?_
    try simp only[Act.put,WA,WB,WC]
    refine WS (by rfl) ?_
    try simp only[Act.put,WA,WB,WC]
    refine WS (by rfl) ?_
    try simp only[Act.put,WA,WB,WC]
    refine WS (by rfl) ?_
    try simp only[Act.put,WA,WB,WC]
    refine WS (by rfl) ?_
    try simp only[Act.put,WA,WB,WC]
    refine WS (by rfl) ?_
    try simp only[Act.put,WA,WB,WC]
    refine WS (by rfl) ?_
    try simp only[Act.put,WA,WB,WC]
    refine WS (by rfl) ?_
    try simp only[Act.put,WA,WB,WC]
    refine WS (by rfl) ?_
    try simp only[Act.put,WA,WB,WC]
    refine WS (by rfl) ?_
    try simp only[Act.put,WA,WB,WC]
    refine WV (by rfl) (.bool false) (fun w' hw'=> ?_) ?_
    ·have hq':=hw'
     go_simp
    try simp only[Act.put,WA,WB,WC]
    refine WQ.done ?_
    rintro w2 hX
    go_wp2_with fail
    go_meet
    exact⟨by simp[h0],hX⟩
  case rest=>
  obtain⟨rfl,hX⟩:=hcut
  obtain⟨w2,hw2⟩:∃w2,w2=wc:=⟨_,rfl⟩
  subst hw2
  have HX:=Lib.hid hX
  have t42:=Ja hX t4
  clear t2 t4 t5 hX
  by_cases hq:n1=0/\LL<m
  ·have hqd:decide (n1=0/\LL<m)=true:=decide_eq_true hq
   rw[hqd]
   have HQ:=Lib.hid hq
   clear hq hqd
   obtain⟨rfl,-⟩:=HQ.out
   have HPT:=Lib.hid (by
    obtain⟨hO,hnum,htr,hLL⟩:=HO.out
    exact Jn1 [] w2 (htr.c.on HX.out) (htr.m.on HX.out) hO.ld (Nat.le_trans (Nat.le_trans (Nat.le_add_right _ _) htr.pot) (by omega)) HP.out.1.L HP.out.1.L2)
   rw[<-Htb.out,<-HM.out.2,show S []=(⟨#[]⟩:ByteArray) from rfl] at HPT
   go_wp2_with fail
   refine HPT.out.mono ?_
   rintro e w3 ⟨Q,kv,lv,rfl,hPt,hQl⟩
   obtain⟨ka,kc,rfl⟩:=Jm hPt.rowK
   obtain⟨ja,jc,rfl⟩:=Jm hPt.rowL
   have HPt:=Lib.hid (And.intro hPt hQl)
   have HRI:=Lib.hid (by
    obtain⟨hO,hnum,htr,hLL⟩:=HO.out
    have hpe:v1.es.length<=802:=Jas (Nat.le_trans (Nat.le_add_right _ _) htr.pot)
    have hnl:=JaA v1.es.length K.L
    have hnp:=JaW v1.es.length K.L
    exact Jqi ka kc ja jc w3 ((htr.c.on HX.out).on hPt.keep) (JI hPt.rowK (Nat.zero_le _)) (Jbe.of_own hPt.rowL (by simp)) (by omega) (by omega) (by omega) (fun x hx=>(hPt.mem x hx).2.2.2.2.2.2.2))
   rw[<-Htb.out] at HRI
   clear hPt hQl HPT
   go_wp2_with fail
   refine HRI.out.mono ?_
   rintro e w4 ⟨rfl,hc4,hN4,hk4⟩
   have HR4:=Lib.hid (And.intro hc4 (And.intro hN4 hk4))
   clear hc4 hN4 hk4 HRI
   go_wp2_with fail
   go_roundg 0
   case measure=>
    have:=HO.out.2.1 (by simp)
    omega
   case rel=>
    obtain⟨hO,hnum,htr,hLL⟩:=HO.out
    obtain⟨hPt,hQl⟩:=HPt.out
    obtain⟨hc4,hN4,hk4⟩:=HR4.out
    have hbig:K.L<v1.es.length:=by
     have:=HQ.out.2
     rw[hLL,HM.out.1] at this
     exact this
    have hPQ:=hPt.all hQl HP.out.1.L hbig
    have hbl:=Jgo Q fun x hx=>(hPt.mem x hx).2.1
    have hs2:=HX.out.size
    rw[Htb.out] at hk4
    have hup:=Z4.up (.leaf hO.kn hbig hPQ) htr (HX.out.trans (hPt.keep.mono hs2)) hc4 hN4 hk4 (fun x hx=>(hPt.mem x hx).1.tree (hPt.mem x hx).2.1 (hPt.mem x hx).2.2.1 (hPt.mem x hx).2.2.2.1) (fun b hb=>by
     rw[hbl] at hb
     obtain⟨x,hx,rfl⟩:=List.mem_map.1 hb
     have h6:=(hPt.mem x hx).2.2.2.2.2.2.1
     exact Or.inr (by omega)) (by rw[hbl];exact hPt.nodup)
    have hrun:=hO.run.trans hup
    rw[List.append_nil,List.append_nil] at hrun
    exact Lib.hid ⟨1,_,T1,_,_,⟨hrun,rfl,rfl,hO.big,fun _=>Or.inr ⟨YC (P:=fun t=>Gd K 0 t) fun x hx=>(hPQ.len x hx).2,Nat.zero_le _⟩,fun q=>⟨by have:=(hO.up q).1;omega,Or.inr (by show 2<=(Jk Q).length;rw[Jw];exact hPQ.two)⟩⟩,fun q=>by omega⟩
  ·have hqd:decide (n1=0/\LL<m)=false:=decide_eq_false hq
   rw[hqd]
   have HQ1:=Lib.hid (show n1=0->v1.es.length<=K.L from fun q0=>by
    rcases Nat.lt_or_ge LL m with q|q
    ·exact absurd ⟨q0,q⟩ hq
    ·rw[<-HM.out.1,<-HO.out.2.2.2];exact q)
   have H1:=Lib.hid (show TL K n w v T n1 w2 v1 T1 gg l from⟨HO.out.1.run.on HX.out,HO.out.1.ld,HO.out.1.kn,HO.out.1.big,HO.out.1.gd,HO.out.1.up⟩)
   clear hq hqd HO HX HM t42
   go_wp2_with fail
   go_loopg [] (mu n1 v1) (fun g wx=>Hid (∃n2 v2 T2 gg l,TL K n w v T n2 wx v2 T2 gg l/\(n2=0->v2.es.length<=K.L)/\g=mu n2 v2))
   case atStart=>exact Lib.hid ⟨n1,v1,T1,gg,l,H1.out,HQ1.out,rfl⟩
   case round=>
    obtain⟨n2,v2,T2,g2,l2,hO,hq0,hnum⟩:=hrel.out
    have htr:=HP.out.2.next HP.out.1 hO.run
    have t4:wr.cell? ⟨tb,4,none⟩=some (.pointer (some ⟨v2.b,0,none⟩)):=by rw[Htb.out];exact htr.c.tr.c4
    have t5:wr.cell? ⟨tb,5,none⟩=some (.int .i64 ((n2+1:Nat):Int)):=by rw[Htb.out];exact htr.c.tr.c5
    have p0:wr.cell? ⟨tb,0,none⟩=some (.int .i64 K.F):=by rw[Htb.out];exact htr.c.tr.c0
    have p1:wr.cell? ⟨tb,1,none⟩=some (.int .i64 K.B):=by rw[Htb.out];exact htr.c.tr.c1
    have p2:wr.cell? ⟨tb,2,none⟩=some (.int .i64 K.L):=by rw[Htb.out];exact htr.c.tr.c2
    obtain⟨vb,hvb⟩:∃vb,vb=v2.b:=⟨_,rfl⟩
    rw[<-hvb] at t4
    obtain⟨F,hF⟩:∃F,F=K.F:=⟨_,rfl⟩
    obtain⟨B,hB⟩:∃B,B=K.B:=⟨_,rfl⟩
    obtain⟨L,hL⟩:∃L,L=K.L:=⟨_,rfl⟩
    rw[<-hF] at p0
    rw[<-hB] at p1
    rw[<-hL] at p2
    obtain⟨m,hm⟩:∃m,m=v2.ch.length:=⟨_,rfl⟩
    have HO:=Lib.hid (And.intro hO (And.intro hq0 (And.intro hnum (And.intro htr (And.intro hvb (And.intro hF hm))))))
    clear hO hq0 hnum htr hvb hF hB hL hm hrel
    go_upto_region 2 with(fail)
    go_cut [54] from 36 to 88 (fun s54 wx=>s54=.bool (decide (0<n2/\F<m))/\Below wr.heap.size wr wx)
    case first=>
     by_cases h0:n2=0
     ·subst h0
      replace t5:wr.cell? ⟨tb,5,none⟩=some (.int .i64 1):=t5
      refine WQ.region (C:=fun w'=>Below wr.heap.size wr w') (by kernel_rfl) (by kernel_rfl) (Jb (Below.refl _ _)) ?_
      refine WV (by rfl) (.pointer (some ⟨tb,0,none⟩)) (fun w' hw'=> ?_) ?_
      ·have hq':=hw'
       go_simp
      try simp only[Act.put,WA,WB,WC]
      refine WV (by rfl) (.pointer (some ⟨tb,0,none⟩)) (fun w' hw'=> ?_) ?_
      ·have hq':=hw'
       go_simp
      try simp only[Act.put,WA,WB,WC]
      refine WV (by rfl) (.pointer (some ⟨tb,5,none⟩)) (fun w' hw'=> ?_) ?_
      ·have hq':=hw'
       go_simp
      try simp only[Act.put,WA,WB,WC]
      refine WV (by rfl) (.int .i64 1) (fun w' hw'=> ?_) ?_
      ·have hq':=hw'
       have z0:=Ja hw' t5;go_simp
      try simp only[Act.put,WA,WB,WC]
      refine WV (by rfl) (.bool false) (fun w' hw'=> ?_) ?_
      ·have hq':=hw'
       go_simp
      try simp only[Act.put,WA,WB,WC]
      refine WV (by rfl) (.bool false) (fun w' hw'=> ?_) ?_
      ·have hq':=hw'
       go_simp
      try simp only[Act.put,WA,WB,WC]
      refine WS (by rfl) ?_
      try simp only[Act.put,WA,WB,WC]
      refine WS (by rfl) ?_
      try simp only[Act.put,WA,WB,WC]
      refine WS (by rfl) ?_
      try simp only[Act.put,WA,WB,WC]
      refine WS (by rfl) ?_
      try simp only[Act.put,WA,WB,WC]
      refine WS (by rfl) ?_
      try simp only[Act.put,WA,WB,WC]
      refine WS (by rfl) ?_
      try simp only[Act.put,WA,WB,WC]
      refine WS (by rfl) ?_
      try simp only[Act.put,WA,WB,WC]
      refine WS (by rfl) ?_
      try simp only[Act.put,WA,WB,WC]
      refine WS (by rfl) ?_
      try simp only[Act.put,WA,WB,WC]
      refine WS (by rfl) ?_
      try simp only[Act.put,WA,WB,WC]
      refine WS (by rfl) ?_
      try simp only[Act.put,WA,WB,WC]
      refine WS (by rfl) ?_
      try simp only[Act.put,WA,WB,WC]
      refine WV (by rfl) (.bool false) (fun w' hw'=> ?_) ?_
      ·have hq':=hw'
       go_simp
      try simp only[Act.put,WA,WB,WC]
      refine WQ.done ?_
      rintro w2 hX
      go_wp2_with fail
      go_meet
      exact⟨by simp,hX⟩
     ·obtain⟨nn,hnn⟩:∃nn,n2=nn+1:=⟨n2-1,by omega⟩
      subst hnn
      obtain⟨⟨-,qa,qg,qs,b1,y1,b2,y2,b3,y3,hvt,-,-,-⟩,-⟩:=HO.out.2.2.2.1.m.node HO.out.1.ld
      rw[<-HO.out.2.2.2.2.2.2,<-HO.out.2.2.2.2.1] at hvt
      have c6:=hvt.c6
      have c7:=hvt.c7
      obtain⟨ul,hul⟩:∃ul,ul=v2.us.length:=⟨_,rfl⟩
      rw[<-hul] at c7
      have hb5:(1:Int)<(nn:Int)+1+1:=by omega
      clear hvt hul
      refine WQ.region (C:=fun w'=>Below wr.heap.size wr w') (by kernel_rfl) (by kernel_rfl) (Jb (Below.refl _ _)) ?_
      refine WV (by rfl) (.pointer (some ⟨tb,0,none⟩)) (fun w' hw'=> ?_) ?_
      ·have hq':=hw'
       go_simp
      try simp only[Act.put,WA,WB,WC]
      refine WV (by rfl) (.pointer (some ⟨tb,0,none⟩)) (fun w' hw'=> ?_) ?_
      ·have hq':=hw'
       go_simp
      try simp only[Act.put,WA,WB,WC]
      refine WV (by rfl) (.pointer (some ⟨tb,5,none⟩)) (fun w' hw'=> ?_) ?_
      ·have hq':=hw'
       go_simp
      try simp only[Act.put,WA,WB,WC]
      refine WV (by rfl) (.int .i64 ((nn+1+1:Nat):Int)) (fun w' hw'=> ?_) ?_
      ·have hq':=hw'
       have z0:=Ja hw' t5;have z1:=Ja hw' t4;have z2:=Ja hw' c6;have z3:=Ja hw' c7;have z4:=Ja hw' p0;have z5:=Ja hw' p1;have z6:=Ja hw' p2;go_simp
      try simp only[Act.put,WA,WB,WC]
      refine WV (by rfl) (.bool true) (fun w' hw'=> ?_) ?_
      ·have hq':=hw'
       go_simp
      try simp only[Act.put,WA,WB,WC]
      refine WV (by rfl) (.bool true) (fun w' hw'=> ?_) ?_
      ·have hq':=hw'
       go_simp
      try simp only[Act.put,WA,WB,WC]
      refine WV (by rfl) (.pointer (some ⟨tb,0,none⟩)) (fun w' hw'=> ?_) ?_
      ·have hq':=hw'
       go_simp
      try simp only[Act.put,WA,WB,WC]
      refine WV (by rfl) (.pointer (some ⟨tb,0,none⟩)) (fun w' hw'=> ?_) ?_
      ·have hq':=hw'
       go_simp
      try simp only[Act.put,WA,WB,WC]
      refine WV (by rfl) (.pointer (some ⟨tb,4,none⟩)) (fun w' hw'=> ?_) ?_
      ·have hq':=hw'
       go_simp
      try simp only[Act.put,WA,WB,WC]
      refine WV (by rfl) (.pointer (some ⟨vb,0,none⟩)) (fun w' hw'=> ?_) ?_
      ·have hq':=hw'
       have z0:=Ja hw' t5;have z1:=Ja hw' t4;have z2:=Ja hw' c6;have z3:=Ja hw' c7;have z4:=Ja hw' p0;have z5:=Ja hw' p1;have z6:=Ja hw' p2;go_simp
      try simp only[Act.put,WA,WB,WC]
      refine WV (by rfl) (.pointer (some ⟨vb,0,none⟩)) (fun w' hw'=> ?_) ?_
      ·have hq':=hw'
       go_simp
      try simp only[Act.put,WA,WB,WC]
      refine WV (by rfl) (.pointer (some ⟨vb,6,none⟩)) (fun w' hw'=> ?_) ?_
      ·have hq':=hw'
       go_simp
      try simp only[Act.put,WA,WB,WC]
      refine WV (by rfl) (.agg #[.slice b1 m y1,.slice b2 ul y2]) (fun w' hw'=> ?_) ?_
      ·have hq':=hw'
       have z0:=Ja hw' t5;have z1:=Ja hw' t4;have z2:=Ja hw' c6;have z3:=Ja hw' c7;have z4:=Ja hw' p0;have z5:=Ja hw' p1;have z6:=Ja hw' p2;go_simp
      try simp only[Act.put,WA,WB,WC]
      refine WV (by rfl) (.pointer (some ⟨tb,0,none⟩)) (fun w' hw'=> ?_) ?_
      ·have hq':=hw'
       go_simp
      try simp only[Act.put,WA,WB,WC]
      refine WV (by rfl) (.pointer (some ⟨tb,0,none⟩)) (fun w' hw'=> ?_) ?_
      ·have hq':=hw'
       go_simp
      try simp only[Act.put,WA,WB,WC]
      refine WV (by rfl) (.pointer (some ⟨tb,0,none⟩)) (fun w' hw'=> ?_) ?_
      ·have hq':=hw'
       go_simp
      try simp only[Act.put,WA,WB,WC]
      refine WV (by rfl) (.agg #[.int .i64 F,.int .i64 B,.int .i64 L]) (fun w' hw'=> ?_) ?_
      ·have hq':=hw'
       have z0:=Ja hw' t5;have z1:=Ja hw' t4;have z2:=Ja hw' c6;have z3:=Ja hw' c7;have z4:=Ja hw' p0;have z5:=Ja hw' p1;have z6:=Ja hw' p2;go_simp
      try simp only[Act.put,WA,WB,WC]
      refine WV (by rfl) (.bool (decide (F<m))) (fun w' hw'=> ?_) ?_
      ·have hq':=hw'
       go_simp
       go_at_call 71
       refine(Jq4 b1 b2 m y1 ul y2 F B L _).mono ?_
       rintro e w6 ⟨he,hb6⟩
       exact⟨he,hq'.trans (hb6.mono hq'.size)⟩
      try simp only[Act.put,WA,WB,WC]
      refine WV (by rfl) (.bool (decide (F<m))) (fun w' hw'=> ?_) ?_
      ·have hq':=hw'
       go_simp
      try simp only[Act.put,WA,WB,WC]
      refine WQ.done ?_
      rintro w2 hX
      go_wp2_with fail
      go_meet
      exact⟨by simp,hX⟩
    case rest=>
    obtain⟨rfl,hX⟩:=hcut
    obtain⟨w3,hw3⟩:∃w3,w3=wc:=⟨_,rfl⟩
    subst hw3
    have HX:=Lib.hid hX
    have t42:=Ja hX t4
    clear t4 t5 p0 p1 p2 hX
    by_cases hq:0<n2/\F<m
    ·have hqd:decide (0<n2/\F<m)=true:=decide_eq_true hq
     rw[hqd]
     have HQ:=Lib.hid hq
     clear hq hqd
     obtain⟨nn,hnn⟩:∃nn,n2=nn+1:=⟨n2-1,by have:=HQ.out.1;omega⟩
     subst hnn
     have HHV:=Lib.hid (by
      obtain⟨hO,hq0,hnum,htr,hvb,hF,hm⟩:=HO.out
      have hw:K.F<v2.ch.length:=by rw[<-hF,<-hm];exact HQ.out.2
      exact JlS w3 (htr.m.on HX.out) hO.ld htr.ok (Nat.le_trans (Nat.le_trans (Nat.le_add_right _ _) htr.pot) (by omega)) HP.out.1.F hw)
     rw[<-HO.out.2.2.2.2.1] at HHV
     go_wp2_with fail
     refine HHV.out.mono ?_
     rintro e w4 ⟨X,y,Y,ba,bb,hch,hX2,hY1,rfl,hMa,hMb,hba,hbb,hab,hX4⟩
     obtain⟨ly,hly⟩:∃ly,ly=lw y:=⟨_,rfl⟩
     rw[<-hly]
     obtain⟨Q,hQe⟩:∃Q:List (Chd×Vt),Q=[(⟨[],0,0,0⟩,⟨ba,true,true,none,[],JH v2.us [] (lw y),X⟩),(⟨lw y,0,0,0⟩,⟨bb,true,true,none,[],Ya v2.us [] (lw y),Jk (y::Y)⟩)]:=⟨_,rfl⟩
     have hQ2:Q.length=2:=by rw[hQe];rfl
     obtain⟨W5,hW5⟩:∃W5,W5=(w4.alloc (.cells #[.pointer (some ⟨ba,0,none⟩),.pointer (some ⟨bb,0,none⟩)] 97)).alloc (.cells #[.string ⟨#[]⟩,.string (S ly)] 9):=⟨_,rfl⟩
     have hX5:Below w4.heap.size w4 W5:=by rw[hW5];exact((Below.refl _ _).alloc (Nat.le_refl _) _).alloc (by simp) _
     have HRI:=Lib.hid (by
      obtain⟨hO,hq0,hnum,htr,hvb,hF,hm⟩:=HO.out
      have hn8:=htr.n8
      obtain⟨r1,r2⟩:=Jil w4 ba bb [] ly
      have hs2:Jbe W5 (some ⟨w4.heap.size+1,0,none⟩) (Q.map lw):=by rw[hW5,hQe];rw[hly] at r2⊢;exact r2
      have hrow:W5.ownsRow 0 97 1 (.slice (some ⟨w4.heap.size,0,none⟩) Q.length 2) Q.length (cellsVx (Q.map fun x=>x.2.b)):=by
       rw[hQ2,hQe,hW5]
       exact YB (Nat.zero_le _) ((Jc.new w4 97 [.pointer (some ⟨ba,0,none⟩),.pointer (some ⟨bb,0,none⟩)]).alloc _) (Nat.le_refl _) (by unfold maxLen;omega) rfl rfl
      have:=Jqi (some ⟨w4.heap.size,0,none⟩) 2 (some ⟨w4.heap.size+1,0,none⟩) 2 W5 (((htr.c.on HX.out).on hX4).on hX5) hrow hs2 (by omega) (by omega) (by omega) (fun x hx=>by
       rw[hQe] at hx
       rcases List.mem_cons.1 hx with rfl|hx
       ·rfl
       ·rw[List.mem_singleton.1 hx])
      rw[hQ2] at this
      exact this)
     rw[<-Htb.out] at HRI
     have HV4:=Lib.hid (And.intro hch (And.intro hX2 (And.intro hY1 (And.intro hMa (And.intro hMb (And.intro hba (And.intro hbb (And.intro hab (And.intro hX4 (And.intro hX5 (And.intro hQe hQ2)))))))))))
     clear hch hX2 hY1 hMa hMb hba hbb hab hX4 hX5 hQe hQ2 HHV t42 hly
     go_wp2_with fail
     rw[<-hW5]
     refine HRI.out.mono ?_
     rintro e w6 ⟨rfl,hc6,hN6,hk6⟩
     clear hW5 HRI
     obtain⟨v6,hv6⟩:∃v6,v6=Jdy W5.heap.size Q:=⟨_,rfl⟩
     have HUP:=Lib.hid (show Z4 K (nn+1) wr v2 T2 (nn+2) w6 v6 T2 [] []/\mu (nn+2) v6+2=mu (nn+1) v2/\(GkB K (nn+1) v2->∀x∈v6.ch,Gk K (nn+1) x.2)/\v6.ch.length=2/\v6.ld=true/\v6.kn=none/\v6.us=[]/\(∀x∈v6.ch,x.2.ld=true/\x.2.kn=none) from by
      obtain⟨hO,hq0,hnum,htr,hvb,hF,hm⟩:=HO.out
      obtain⟨hch,hX2,hY1,hMa,hMb,hba,hbb,hab,hX4,hX5,hQe,hQ2⟩:=HV4.out
      have hw:K.F<v2.ch.length:=by rw[<-hF,<-hm];exact HQ.out.2
      have hHF:ZH K.F [] v2 Q:=⟨X,y,Y,ba,bb,hch,hw,hX2,hY1,hQe⟩
      have hX04:Below w3.heap.size w3 w4:=hX4
      obtain⟨q1,q2,q3⟩:=Jok (htr.m.on HX.out) hO.ld htr.nd hch hMa hMb hba hbb hab hX4 hQe
      have hs3:=HX.out.size
      rw[Htb.out] at hk6
      have hX05:Below wr.heap.size wr W5:=HX.out.trans ((hX4.trans (hX5.mono hX4.size)).mono hs3)
      have hup:=Z4.up (.rise hO.kn hHF) htr hX05 hc6 hN6 hk6 (fun x hx=>(q1 x hx).on hX5) (fun b hb=>(q2 b hb).imp id fun q=>by omega) q3
      have hQd:∀x∈Q,x.2.ld=true/\x.2.kn=none:=fun x hx=>by
       rw[hQe] at hx
       rcases List.mem_cons.1 hx with rfl|hx
       ·exact⟨rfl,rfl⟩
       ·rw[List.mem_singleton.1 hx];exact⟨rfl,rfl⟩
      rw[hv6]
      refine⟨hup,JqF HP.out.1.F htr.ok.usr hHF,fun hg=>YC (P:=fun t=>Gk K (nn+1) t) fun x hx=> ?_,by show(Jk Q).length=2;rw[Jw];exact hQ2,rfl,rfl,rfl,YC (P:=fun t=>t.ld=true/\t.kn=none) hQd⟩
      have hg1:∀z∈v2.ch,Gd K nn z.2:=hg.1
      rw[hQe] at hx
      rcases List.mem_cons.1 hx with rfl|hx
      ·exact fun z hz=>hg1 z (by rw[hch];exact List.mem_append_left _ hz)
      ·rw[List.mem_singleton.1 hx]
       exact YC (P:=fun t=>Gd K nn t) fun z hz=>hg1 z (by rw[hch];exact List.mem_append_right _ hz))
     clear hc6 hN6 hk6 hv6 HV4
     have htr6:=HO.out.2.2.2.1.next HP.out.1 HUP.out.1
     obtain⟨⟨-,qa,qg,qs,b1,y1,b2,y2,b3,y3,hvt,-,-,-⟩,-⟩:=htr6.m.node HUP.out.2.2.2.2.1
     have t4:w6.cell? ⟨tb,4,none⟩=some (.pointer (some ⟨v6.b,0,none⟩)):=by rw[Htb.out];exact htr6.c.tr.c4
     have t5:w6.cell? ⟨tb,5,none⟩=some (.int .i64 ((nn+2+1:Nat):Int)):=by rw[Htb.out];exact htr6.c.tr.c5
     have c8:=hvt.c8
     rw[HUP.out.2.2.2.1] at c8
     obtain⟨hgt,hhgt⟩:∃hgt:Nat,hgt=nn+2+1:=⟨_,rfl⟩
     rw[<-hhgt] at t5
     have hOC:=Lib.hid (fun w' (hb:Below w6.heap.size w6 w')=>JdI (nn+1) K v6.b (nn+2+1) [] [] w' v6 T2 (hgt:Int) 0 2 HP.out.1 (htr6.pre.on hb) HUP.out.2.2.2.2.1 HUP.out.2.2.2.2.2.1 (by omega) (by rw[HUP.out.2.2.2.1];omega) (fun i x _ _ hx=>HUP.out.2.2.2.2.2.2.2 x (List.mem_of_getElem? hx)) (by omega) (by have:=htr6.n8;omega))
     rw[<-Htb.out,show((0:Nat):Int)=0 from rfl,show((2:Nat):Int)=2 from rfl] at hOC
     have HT6:=Lib.hid (And.intro htr6 hhgt)
     clear hvt htr6 hhgt
     go_upto_region 5 with(fail)
     have hdr:Below w6.heap.size w6 w6.drew:=Jb (Below.refl _ _)
     have HRL:=Lib.hid (fun(e:Ending) (w7:World) (h7:∃v7 T7 g7 l7,Ran K v6.b (nn+2+1) (nn+1+1) w6.drew v6 T2 w7 v7 T7 g7 l7/\((e=.returned (.int .i64 0)/\(Hyp K (nn+1) v6 0 2->Gk K (nn+1+1) v7))\/(e=.returned (.int .i64 10)/\0<T2.wr))/\∀m∈l7,K.B/K.F<=m)=>show(∃x7,e=.returned x7)/\∃num,num<gk/\Hid (∃n2 v2 T2 gg l,TL K n w v T n2 w7 v2 T2 gg l/\(n2=0->v2.es.length<=K.L)/\num=mu n2 v2) from by
      obtain⟨v7,T7,g7,l7,hR7,hor7,hb7⟩:=h7
      obtain⟨hO,hq0,hnum,htr,hvb,hF,hm⟩:=HO.out
      obtain⟨hup,hmu,hgk,hc2,hl6,hk6,hu6,hq6⟩:=HUP.out
      have r1:=(hO.run.trans hup).on hdr
      rw[List.append_nil,List.append_nil] at r1
      have r2:=r1.trans hR7.tree
      have h1:mu (nn+2) v7+l7.sum<=mu (nn+2) v6:=(hR7.sm.less HP.out.1.F HP.out.1.L HT6.out.1.ok).mu
      refine⟨hor7.elim (fun q=>⟨_,q.1⟩) (fun q=>⟨_,q.1⟩),mu (nn+2) v7,by omega,Lib.hid ⟨nn+2,v7,T7,_,_,⟨r2,hR7.sm.kept.ld hl6,hR7.sm.kept.kn.elim (fun q=>q.trans hk6) id,fun m hm=> ?_,fun hg=> ?_,fun q=>⟨by have:=(hO.up q).1;omega,Or.inr (by have:=hR7.sm.len2 (by omega);rw[hc2] at this;exact this)⟩⟩,fun q=>by omega,rfl⟩⟩
      ·rcases List.mem_append.1 hm with hm|hm
       ·exact hO.big m hm
       ·exact hb7 m hm
      ·rcases hO.gd hg with q|q
       ·exact Or.inl q
       ·rcases hor7 with⟨-,q2⟩|⟨-,q2⟩
        ·have hus:=hR7.sm.us_le HT6.out.1.ok
         rw[hu6] at hus
         refine Or.inr ⟨q2 fun i x hx=> ?_,Nat.le_trans hus (Nat.zero_le _)⟩
         have hil:i<2:=by
          rw[<-hc2]
          exact(List.getElem?_eq_some_iff.1 hx).1
         rw[if_pos ⟨Nat.zero_le _,hil⟩]
         exact hgk q x (List.mem_of_getElem? hx)
        ·exact Or.inl (Nat.lt_of_lt_of_le q2 hO.run.wr))
     have HDR:=Lib.hid hdr
     clear hdr
     go_region_law (first|(go_simp;go_at_call 73;refine(hOC.out w6.drew HDR.out).mono ?_;rintro e w7 h7;obtain⟨⟨x7,hx7⟩,num,hn7,hr7⟩:=HRL.out e w7 h7;clear h7;subst hx7))
     all_goals
      go_wp2_with fail
      go_roundg num
      case measure=>exact hn7
      case rel=>exact hr7
    ·have hqd:decide (0<n2/\F<m)=false:=decide_eq_false hq
     rw[hqd]
     have H2:=Lib.hid (show TD K n w v T n2 w3 v2 T2 g2 l2 from by
      obtain⟨hO,hq0,hnum,htr,hvb,hF,hm⟩:=HO.out
      refine⟨hO.run.on HX.out,hO.big,fun hg=>(hO.gd hg).imp id fun q=> ?_,hO.up⟩
      cases n2 with
      |zero=>exact hq0 rfl
      |succ nn=>
       have h1:¬F<m:=fun q=>hq ⟨by omega,q⟩
       exact⟨by rw[<-hF,<-hm];omega,q.2,q.1⟩)
     clear hq hqd HO HX t42
     go_wp2_with fail
     go_loopg [] n2 (fun g wx=>Hid (∃v3 T3 gg l,TD K n w v T g wx v3 T3 gg l))
     case atStart=>exact Lib.hid ⟨v2,T2,g2,l2,H2.out⟩
     case round=>
      obtain⟨v3,T3,g3,l3,hO⟩:=hrel.out
      have htr:=HP.out.2.next HP.out.1 hO.run
      obtain⟨pa,pg,ps,a1,n1',c1,a2,n2',c2,a3,ul,c3,a4,kl,c4,hvx⟩:=htr.m.vxAt
      have t4:wr.cell? ⟨tb,4,none⟩=some (.pointer (some ⟨v3.b,0,none⟩)):=by rw[Htb.out];exact htr.c.tr.c4
      have t5:wr.cell? ⟨tb,5,none⟩=some (.int .i64 ((gk+1:Nat):Int)):=by rw[Htb.out];exact htr.c.tr.c5
      have c7:=hvx.c7
      have c8:=hvx.c8
      have HO:=Lib.hid (And.intro hO (And.intro htr hvx))
      have HLU:=Lib.hid (fun w'=>XY a3 ul c3 w')
      clear hO htr hvx hrel
      go_upto_region 6 with(fail)
      go_cut [116] from 89 to 141 (fun s116 wx=>s116=.bool (decide (0<gk/\kl=1/\ul=0))/\Below wr.heap.size wr wx)
      case first=>
       by_cases h0:0<gk
       ·have hi0:(1:Int)<(gk:Int)+1:=by omega
        by_cases h1:kl=1
        ·have hi1:((kl:Int)==1)=true:=by rw[h1];rfl
         have hkl:Hid (kl=1):=Lib.hid h1
         clear h1
         by_cases h2:ul=0
         ·have hi2:((ul:Int)==0)=true:=by rw[h2];rfl
          have HQ:=Lib.hid (show decide (0<gk/\kl=1/\ul=0)=true from decide_eq_true ⟨h0,hkl.out,h2⟩)
          clear h2
          go_wp2_with fail
          refine(HLU.out _).mono ?_
          rintro e w3 ⟨rfl,hX⟩
          go_wp2_with fail
          go_meet
          exact⟨by rw[HQ.out],hX⟩
         ·have hi2:((ul:Int)==0)=false:=by simp;omega
          have HQ:=Lib.hid (show decide (0<gk/\kl=1/\ul=0)=false from decide_eq_false fun q=>h2 q.2.2)
          clear h2
          go_wp2_with fail
          refine(HLU.out _).mono ?_
          rintro e w3 ⟨rfl,hX⟩
          go_wp2_with fail
          go_meet
          exact⟨by rw[HQ.out],hX⟩
        ·have hi1:((kl:Int)==1)=false:=by simp;omega
         have HQ:=Lib.hid (show decide (0<gk/\kl=1/\ul=0)=false from decide_eq_false fun q=>h1 q.2.1)
         clear h1
         go_wp2_with fail
         go_meet
         exact⟨by rw[HQ.out],Below.refl _ _⟩
       ·have hi0:¬((1:Int)<(gk:Int)+1):=by omega
        have HQ:=Lib.hid (show decide (0<gk/\kl=1/\ul=0)=false from decide_eq_false fun q=>h0 q.1)
        clear h0
        go_wp2_with fail
        go_meet
        exact⟨by rw[HQ.out],Below.refl _ _⟩
      case rest=>
      obtain⟨rfl,hX⟩:=hcut
      obtain⟨w4,hw4⟩:∃w4,w4=wc:=⟨_,rfl⟩
      subst hw4
      have HX:=Lib.hid hX
      have t42:=Ja hX t4
      clear t4 t5 c7 c8 hX HLU
      by_cases hq:0<gk/\kl=1/\ul=0
      ·have hqd:decide (0<gk/\kl=1/\ul=0)=true:=decide_eq_true hq
       rw[hqd]
       have HQ:=Lib.hid hq
       clear hq hqd
       obtain⟨nn,hnn⟩:∃nn,gk=nn+1:=⟨gk-1,by have:=HQ.out.1;omega⟩
       subst hnn
       have HS:=Lib.hid (show v3.ld=true/\v3.us=[]/\∃c t,v3.ch=[(c,t)] from by
        obtain⟨hO,htr,hvx⟩:=HO.out
        obtain⟨q1,q2,q3⟩:=htr.m.kids1 hvx HQ.out.2.1
        refine⟨q1,List.eq_nil_of_length_eq_zero (by rw[q2];exact HQ.out.2.2),?_⟩
        obtain⟨x,hx⟩:=List.length_eq_one_iff.1 q3
        exact⟨x.1,x.2,hx⟩)
       have HSO:=Lib.hid (by
        obtain⟨hO,htr,hvx⟩:=HO.out
        exact Jc1 w4 (htr.c.on HX.out) (htr.m.on HX.out) htr.nd HS.out.1 (by have:=htr.gone;omega))
       rw[<-Htb.out] at HSO
       go_wp2_with fail
       refine HSO.out.mono ?_
       rintro e w5 ⟨rfl,gv5,mv5⟩
       obtain⟨v4,hv4⟩:∃v4:Vt,v4= {v3 with kn:=none}:=⟨_,rfl⟩
       obtain⟨T4,hT4⟩:∃T4:Tx,T4= {T3 with gv:=gv5,gone:=T3.gone++v3.kn.toList.map Pt.a}:=⟨_,rfl⟩
       rw[<-hv4,<-hT4] at mv5
       obtain⟨hl3,hu3,c,t,hct⟩:=HS.out
       have HR5:=Lib.hid (show Z4 K (nn+1) w4 v3 T3 (nn+1) w5 v4 T4 (v3.kn.toList.map Pt.a) [] from(Ran.of_mv (by rw[hv4];exact Sm.soil' v3) mv5 (by rw[hT4]) (by rw[hT4]) (by rw[hT4]) (by rw[hT4];exact Nat.le_refl _)).tree)
       have htr5:Y2 K (nn+1) w5 v4 T4:=(HO.out.2.1.on HX.out).next HP.out.1 HR5.out
       have hl4:v4.ld=true:=by rw[hv4];exact hl3
       have hk4:v4.kn=none:=by rw[hv4]
       have hu4:v4.us=[]:=by rw[hv4];exact hu3
       have hc4:v4.ch=[(c,t)]:=by rw[hv4];exact hct
       obtain⟨⟨-,ra,rg,rs,b1,y1,b2,y2,b3,y3,hv5,-,-,hkd⟩,-⟩:=htr5.m.node hl4
       rw[hc4] at hv5 hkd
       have hkd1:w5.ownsRow 0 97 1 (.slice b3 1 y3) 1 [vp t.b]:=hkd
       obtain⟨g,rfl,-,-,hgc⟩:=Yk hkd1 (by omega)
       have r0:w5.cell? ⟨g,0,none⟩=some (.pointer (some ⟨t.b,0,none⟩)):=hgc 0 _ rfl
       have c85:w5.cell? ⟨v4.b,8,none⟩=some (.slice (some ⟨g,0,none⟩) 1 y3):=hv5.c8
       have t45:w5.cell? ⟨tb,4,none⟩=some (.pointer (some ⟨v4.b,0,none⟩)):=by rw[Htb.out];exact htr5.c.tr.c4
       have t55:w5.cell? ⟨tb,5,none⟩=some (.int .i64 ((nn+1+1:Nat):Int)):=by rw[Htb.out];exact htr5.c.tr.c5
       have f45:w5.frozen? ⟨tb,4,none⟩=false:=by rw[Htb.out];exact htr5.c.tr.fz 4
       have f55:w5.frozen? ⟨tb,5,none⟩=false:=by rw[Htb.out];exact htr5.c.tr.fz 5
       have hn8:=htr5.n8
       obtain⟨c5,k5⟩:=htr5.c.top t.b (nn+1)
       rw[<-Htb.out] at c5 k5
       have hv34:v4.ch=v3.ch:=by rw[hv4]
       have HV34:=Lib.hid hv34
       clear hv34
       have HN5:=Lib.hid (And.intro htr5 (And.intro hl4 (And.intro hk4 (And.intro hu4 (And.intro hc4 (And.intro c5 k5))))))
       clear mv5 hv4 hT4 hl3 hu3 hct htr5 hl4 hk4 hu4 hc4 hv5 hkd hkd1 hgc HSO t42 c5 k5
       go_wp2_with fail
       go_roundg nn
       case measure=>omega
       case rel=>
        obtain⟨htr5,hl4,hk4,hu4,hc4,c5,k5⟩:=HN5.out
        obtain⟨hO,htr,hvx⟩:=HO.out
        have hd:=Z4.downT htr5 hk4 hl4 hu4 hc4 c5 (k5.mono fun x q=>by rw[<-Htb.out];exact q)
        have hr:=((hO.run.on HX.out).trans HR5.out).trans hd
        simp only[List.append_nil] at hr
        refine Lib.hid ⟨t,T4,_,_,⟨hr,hO.big,fun hg=>(hO.gd hg).imp id fun q=> ?_,fun q=> ?_⟩⟩
        rotate_left
        ·exfalso
         obtain⟨-,u1,c',t',u2⟩:=HS.out
         rcases(hO.up q).2 with u3|u3
         ·exact u3 u1
         ·rw[u2] at u3;simp at u3
        exact q.2.2 (c,t) (by obtain⟨-,-,c',t',e⟩:=HS.out;have h1:=HV34.out;rw[<-h1];rw[hc4];simp)
      ·have hqd:decide (0<gk/\kl=1/\ul=0)=false:=decide_eq_false hq
       rw[hqd]
       go_wp2_with fail
       refine bodyPost_end (v:=.tuple #[]) (by simp[results,Tryz.results41,go_sem]) rfl ⟨rfl,gk,v3,T3,g3,l3,?_⟩
       obtain⟨hO,-⟩:=HO.out
       exact⟨hO.run.on HX.out,hO.big,hO.gd,hO.up⟩
open Go.RowKit
attribute [local go_sem ↓] Go.wp_at_zero Go.wp_at_succ
structure RM (K:Kx) (n:Nat) (w:World) (v:Vt) (T:Tx) (n1:Nat) (w1:World) (v1:Vt) (T1:Tx) (g:List Int) (l:List Nat):Prop where
 run:Z4 K n w v T n1 w1 v1 T1 g l
 gd:Gd K n v->0<T.wr\/(Gd K n1 v1/\∀m∈l,K.B/K.F<=m)
def Jdt (K:Kx) (n:Nat) (w:World) (v:Vt) (T:Tx) (key:List UInt8) (e:Ending) (w':World):Prop:=∃n1 v1 T1 g l,RM K n w v T n1 w' v1 T1 g l/\((e=.returned (.int .i64 0)/\v1.ld=true/\(n1=0\/Yn v1.us key≠none\/v1.us.length<K.B))\/(e=.returned (.int .i64 10)/\0<T.wr))
theorem Jos {K:Kx} {n:Nat} {v v':Vt} (hL:YM v v') (h:Gd K n v):Gd K n v':=by
 cases n with
 |zero=>
  show v'.es.length<=K.L
  rw[hL.es];exact h
 |succ n=>
  have h0:v.ch.length<=K.F/\v.us.length<=K.B/\∀x∈v.ch,Gd K n x.2:=h
  exact⟨by rw[hL.len];exact h0.1,by rw[hL.us];exact h0.2.1,hL.gk (K:=K) (n:=n+1) h0.2.2⟩
theorem Jq9 {K:Kx} {n:Nat} {v:Vt} {T:Tx} (key:List UInt8) (w:World) (hP:Ja7 K) (ht:Y2 K n w v T):
  Calls Tryz.prog 39 #[.pointer (some ⟨K.tb,0,none⟩),.string (S key)] w fun e w'=>Jdt K n w v T key e w':=by
 have H0:=Lib.hid (show RM K n w v T n w v T [] [] from⟨Z4.refl ht.m ht.nd ht.c,fun q=>Or.inr ⟨q,fun m hm=>by simp at hm⟩⟩)
 have HP:=Lib.hid (And.intro hP ht)
 obtain⟨tb,htb⟩:∃tb,tb=K.tb:=⟨_,rfl⟩
 rw[<-htb]
 have Htb:=Lib.hid htb
 clear hP ht htb
 go_enter Tryz.func39,Tryz.ntmps39
 go_wp2_with fail
 go_loopg [] (mu n v) (fun g wx=>Hid (∃n1 v1 T1 gg l,RM K n w v T n1 wx v1 T1 gg l/\g=mu n1 v1))
 case atStart=>exact Lib.hid ⟨n,v,T,[],[],H0.out,rfl⟩
 case round=>
  obtain⟨n1,v1,T1,gg,l,hO,hnum⟩:=hrel.out
  have htr:=HP.out.2.next HP.out.1 hO.run
  have t4:wr.cell? ⟨tb,4,none⟩=some (.pointer (some ⟨v1.b,0,none⟩)):=by rw[Htb.out];exact htr.c.tr.c4
  have t5:wr.cell? ⟨tb,5,none⟩=some (.int .i64 ((n1+1:Nat):Int)):=by rw[Htb.out];exact htr.c.tr.c5
  have hn8:=htr.n8
  have HHO:=Lib.hid (fun w' (hb:Below wr.heap.size wr w')=>Jjq ((n1:Int)+1) w' rfl (htr.c.on hb) (htr.m.on hb) htr.nd htr.ok htr.sh HP.out.1.near (Nat.le_trans (Nat.le_trans (Nat.le_add_right _ _) htr.pot) (by omega)) htr.wr)
  rw[<-Htb.out] at HHO
  have HRL:=Lib.hid (fun(e:Ending) (w' w3:World) (hb:Below wr.heap.size wr w') (h:∃wr' v',wr'<=T1.wr/\Mv K v1.b (n1+1) n1 w' v1 T1 w3 v' {T1 with wr:=wr'}/\(v'=v1\/YM v1 v')/\((e=.returned (.int .i64 0)/\v'.ld=true)\/(e=.returned (.int .i64 10)/\0<T1.wr)))=>show∃x:Int,e=.returned (.int .i64 x)/\Hid (∃v2 T2 gg l,RM K n w v T n1 w3 v2 T2 gg l/\gk=mu n1 v2/\((x=0/\v2.ld=true)\/(x=10/\0<T.wr))) from by
   obtain⟨wr',v',h1,h2,h3,h4⟩:=h
   have r1:=((hO.run.on hb).trans (Ran.of_mv (by rcases h3 with rfl|h3;·exact .refl _ _
                                                 ·exact .load h3) h2 (by simp) rfl rfl h1).tree)
   simp only[List.append_nil] at r1
   have h5:mu n1 v'=mu n1 v1:=by
    rcases h3 with rfl|h3
    ·rfl
    ·exact h3.mu_eq n1
   have h6:Gd K n1 v1->Gd K n1 v':=fun q=>by
    rcases h3 with rfl|h3
    ·exact q
    ·exact Jos h3 q
   have hrm:RM K n w v T n1 w3 v' {T1 with wr:=wr'} gg l:=⟨r1,fun q=>(hO.gd q).imp id fun q=>⟨h6 q.1,q.2⟩⟩
   rcases h4 with⟨q1,q2⟩|⟨q1,q2⟩
   ·exact⟨0,q1,Lib.hid ⟨v',_,gg,l,hrm,by rw[h5];exact hnum,Or.inl ⟨rfl,q2⟩⟩⟩
   ·exact⟨10,q1,Lib.hid ⟨v',_,gg,l,hrm,by rw[h5];exact hnum,Or.inr ⟨rfl,Nat.lt_of_lt_of_le q2 hO.run.wr⟩⟩⟩)
  clear hO hnum htr hrel
  go_upto_region 1 with(fail)
  go_cut [5] from 9 to 72 (fun s5 wx=>∃x:Int,s5=.int .i64 x/\Hid (∃v2 T2 gg l,RM K n w v T n1 wx v2 T2 gg l/\gk=mu n1 v2/\((x=0/\v2.ld=true)\/(x=10/\0<T.wr))))
  case first=>
   have hdr:Below wr.heap.size wr wr.drew:=Jb (Below.refl _ _)
   go_region_law (first|(go_simp;go_at_call 62;refine(HHO.out wr.drew hdr).mono ?_;rintro e w3 h3;obtain⟨x3,rfl,hr3⟩:=HRL.out e wr.drew w3 hdr h3;clear h3))
   all_goals
    go_wp2_with fail
    go_meet
    exact⟨x3,rfl,hr3⟩
  case rest=>
  obtain⟨x3,rfl,HR⟩:=hcut
  obtain⟨w3,hw3⟩:∃w3,w3=wc:=⟨_,rfl⟩
  subst hw3
  clear HRL HHO t4 t5
  obtain⟨v2,T2,g2,l2,hO,hnum,hor⟩:=HR.out
  rcases hor with⟨rfl,hld⟩|⟨rfl,hpos⟩
  case inr=>
   go_wp2_with fail
   go_ret
   show Jdt K n w v T key (.returned (.int .i64 10)) w3
   exact⟨n1,v2,T2,g2,l2,hO,Or.inr ⟨rfl,hpos⟩⟩
  case inl=>
  have htr:=HP.out.2.next HP.out.1 hO.run
  have t4:w3.cell? ⟨tb,4,none⟩=some (.pointer (some ⟨v2.b,0,none⟩)):=by rw[Htb.out];exact htr.c.tr.c4
  have t5:w3.cell? ⟨tb,5,none⟩=some (.int .i64 ((n1+1:Nat):Int)):=by rw[Htb.out];exact htr.c.tr.c5
  have HO:=Lib.hid (And.intro hO (And.intro hnum (And.intro hld htr)))
  clear hO hnum hld htr HR
  by_cases h0:n1=0
  ·subst h0
   replace t5:w3.cell? ⟨tb,5,none⟩=some (.int .i64 1):=t5
   go_wp2_with fail
   go_ret
   show Jdt K n w v T key (.returned (.int .i64 0)) w3
   exact⟨0,v2,T2,g2,l2,HO.out.1,Or.inl ⟨rfl,HO.out.2.2.1,Or.inl rfl⟩⟩
  ·obtain⟨nn,hnn⟩:∃nn,n1=nn+1:=⟨n1-1,by omega⟩
   subst hnn
   have hb5:¬((nn:Int)+1+1=1):=by omega
   have HG:=Lib.hid (show∃a2 ul y2,ul=v2.us.length/\w3.cell? ⟨v2.b,7,none⟩=some (.slice a2 ul y2)/\(∀w',Below w3.heap.size w3 w'->Calls Tryz.prog 54 #[.agg #[.slice a2 ul y2],.string (S key)] w' fun e w''=>e=.returned (Jm1 (Yn v2.us key))/\Below w'.heap.size w' w'') from by
    obtain⟨hO,hnum,hld,htr⟩:=HO.out
    obtain⟨⟨-,qa,qg,qs,b1,y1,b2,y2,b3,y3,hvt,-,hnode,-⟩,-⟩:=htr.m.node hld
    have hus:=Jcy htr.pre.pot
    exact⟨b2,v2.us.length,y2,rfl,hvt.c7,fun w' hb=>JlT _ v2.us key w' (JZ.kept ⟨_,rfl,hnode.parts.2⟩ hb (Nat.le_refl _)) (by omega) htr.ok.usr⟩)
   obtain⟨a2,ul,y2,hul,c7,hget⟩:=HG.out
   have HGT:=Lib.hid (And.intro hul hget)
   have p1:w3.cell? ⟨tb,1,none⟩=some (.int .i64 K.B):=by rw[Htb.out];exact HO.out.2.2.2.c.tr.c1
   obtain⟨B,hB⟩:∃B,B=K.B:=⟨_,rfl⟩
   rw[<-hB] at p1
   have HB:=Lib.hid hB
   obtain⟨vb,hvb⟩:∃vb,vb=v2.b:=⟨_,rfl⟩
   rw[<-hvb] at t4 c7
   have HVB:=Lib.hid hvb
   obtain⟨gl,hgl⟩:∃gl,gl=Yn v2.us key:=⟨_,rfl⟩
   have HGL:=Lib.hid hgl
   obtain⟨bw,ub,hgv,hbw⟩:∃(bw:Bool) (uk:Nat×List UInt8×List UInt8×Nat),Jm1 gl=.tuple #[.agg #[.int .u8 uk.1,.string (S uk.2.1),.string (S uk.2.2.1),.int .u64 uk.2.2.2],.bool bw]/\bw=gl.isSome:=by
    cases gl with
    |none=>exact⟨false,(0,[],[],0),rfl,rfl⟩
    |some u=>exact⟨true,(u.kind,u.key,u.val,u.delta),rfl,rfl⟩
   have HGV:=Lib.hid (And.intro hgv hbw)
   have hget2:=Lib.hid (fun w' (hb:Below w3.heap.size w3 w')=>by
    have:=hget w' hb
    rw[<-hgl,hgv] at this
    exact this)
   clear hul hget hB hvb hgl hgv hbw HG
   go_wp2_with fail
   refine(hget2.out w3 (Below.refl _ _)).mono ?_
   rintro e w4 ⟨rfl,hX4⟩
   have t44:=Ja hX4 t4
   have c74:=Ja hX4 c7
   have p14:=Ja hX4 p1
   have t54:=Ja hX4 t5
   have HX4:=Lib.hid hX4
   clear t4 c7 p1 t5 hX4 hget2
   go_upto_region 7 with(fail)
   obtain⟨W5,hW5⟩:∃W5,W5=(w4.alloc (.cells #[.int .u8 ub.1,.string (S ub.2.1),.string (S ub.2.2.1),.int .u64 ub.2.2.2] 39)):=⟨_,rfl⟩
   have hX5:Below w4.heap.size w4 W5:=by rw[hW5];exact(Below.refl _ _).alloc (Nat.le_refl _) _
   rw[<-hW5]
   have t4:=Ja hX5 t44
   have c7:=Ja hX5 c74
   have p1:=Ja hX5 p14
   have t5:=Ja hX5 t54
   have HX5:=Lib.hid (HX4.out.trans (hX5.mono HX4.out.size))
   clear t44 c74 p14 t54 hW5 hX5 HX4
   go_cut [57] from 9 to 72 (fun s57 wx=>s57=.bool (bw||decide (ul<B))/\Below W5.heap.size W5 wx)
   case first=>
    cases bw with
    |true=>
     refine WQ.region (C:=fun w'=>Below W5.heap.size W5 w') (by kernel_rfl) (by kernel_rfl) (Jb (Below.refl _ _)) ?_
     refine WV (by rfl) (.bool true) (fun w' hw'=> ?_) ?_
     ·have hq':=hw'
      go_simp
     try simp only[Act.put,WA,WB,WC]
     refine WV (by rfl) (.bool true) (fun w' hw'=> ?_) ?_
     ·have hq':=hw'
      go_simp
     try simp only[Act.put,WA,WB,WC]
     refine WS (by rfl) ?_
     try simp only[Act.put,WA,WB,WC]
     refine WS (by rfl) ?_
     try simp only[Act.put,WA,WB,WC]
     refine WS (by rfl) ?_
     try simp only[Act.put,WA,WB,WC]
     refine WS (by rfl) ?_
     try simp only[Act.put,WA,WB,WC]
     refine WS (by rfl) ?_
     try simp only[Act.put,WA,WB,WC]
     refine WS (by rfl) ?_
     try simp only[Act.put,WA,WB,WC]
     refine WS (by rfl) ?_
     try simp only[Act.put,WA,WB,WC]
     refine WS (by rfl) ?_
     try simp only[Act.put,WA,WB,WC]
     refine WS (by rfl) ?_
     try simp only[Act.put,WA,WB,WC]
     refine WS (by rfl) ?_
     try simp only[Act.put,WA,WB,WC]
     refine WS (by rfl) ?_
     try simp only[Act.put,WA,WB,WC]
     refine WS (by rfl) ?_
     try simp only[Act.put,WA,WB,WC]
     refine WS (by rfl) ?_
     try simp only[Act.put,WA,WB,WC]
     refine WS (by rfl) ?_
     try simp only[Act.put,WA,WB,WC]
     refine WS (by rfl) ?_
     try simp only[Act.put,WA,WB,WC]
     refine WV (by rfl) (.bool true) (fun w' hw'=> ?_) ?_
     ·have hq':=hw'
      go_simp
     try simp only[Act.put,WA,WB,WC]
     refine WQ.done ?_
     intro w6 hX
     go_wp2_with fail
     go_meet
     exact⟨by simp,hX⟩
    |false=>
     refine WQ.region (C:=fun w'=>Below W5.heap.size W5 w') (by kernel_rfl) (by kernel_rfl) (Jb (Below.refl _ _)) ?_
     refine WV (by rfl) (.bool false) (fun w' hw'=> ?_) ?_
     ·have hq':=hw'
      go_simp
     try simp only[Act.put,WA,WB,WC]
     refine WV (by rfl) (.bool false) (fun w' hw'=> ?_) ?_
     ·have hq':=hw'
      go_simp
     try simp only[Act.put,WA,WB,WC]
     refine WV (by rfl) (.pointer (some ⟨tb,0,none⟩)) (fun w' hw'=> ?_) ?_
     ·have hq':=hw'
      go_simp
     try simp only[Act.put,WA,WB,WC]
     refine WV (by rfl) (.pointer (some ⟨tb,0,none⟩)) (fun w' hw'=> ?_) ?_
     ·have hq':=hw'
      go_simp
     try simp only[Act.put,WA,WB,WC]
     refine WV (by rfl) (.pointer (some ⟨tb,4,none⟩)) (fun w' hw'=> ?_) ?_
     ·have hq':=hw'
      go_simp
     try simp only[Act.put,WA,WB,WC]
     refine WV (by rfl) (.pointer (some ⟨vb,0,none⟩)) (fun w' hw'=> ?_) ?_
     ·have hq':=hw'
      have z0:=Ja hw' t4;have z1:=Ja hw' c7;have z2:=Ja hw' p1;go_simp
     try simp only[Act.put,WA,WB,WC]
     refine WV (by rfl) (.pointer (some ⟨vb,0,none⟩)) (fun w' hw'=> ?_) ?_
     ·have hq':=hw'
      go_simp
     try simp only[Act.put,WA,WB,WC]
     refine WV (by rfl) (.pointer (some ⟨vb,6,none⟩)) (fun w' hw'=> ?_) ?_
     ·have hq':=hw'
      go_simp
     try simp only[Act.put,WA,WB,WC]
     refine WV (by rfl) (.pointer (some ⟨vb,7,none⟩)) (fun w' hw'=> ?_) ?_
     ·have hq':=hw'
      go_simp
     try simp only[Act.put,WA,WB,WC]
     refine WV (by rfl) (.agg #[.slice a2 ul y2]) (fun w' hw'=> ?_) ?_
     ·have hq':=hw'
      have z0:=Ja hw' t4;have z1:=Ja hw' c7;have z2:=Ja hw' p1;go_simp
     try simp only[Act.put,WA,WB,WC]
     refine WV (by rfl) (.int .i64 ul) (fun w' hw'=> ?_) ?_
     ·have hq':=hw'
      go_simp
      go_at_call 63
      refine(XY a2 ul y2 _).mono ?_
      rintro e w6 ⟨he,hb6⟩
      exact⟨he,hq'.trans (hb6.mono hq'.size)⟩
     try simp only[Act.put,WA,WB,WC]
     refine WV (by rfl) (.pointer (some ⟨tb,0,none⟩)) (fun w' hw'=> ?_) ?_
     ·have hq':=hw'
      go_simp
     try simp only[Act.put,WA,WB,WC]
     refine WV (by rfl) (.pointer (some ⟨tb,0,none⟩)) (fun w' hw'=> ?_) ?_
     ·have hq':=hw'
      go_simp
     try simp only[Act.put,WA,WB,WC]
     refine WV (by rfl) (.pointer (some ⟨tb,0,none⟩)) (fun w' hw'=> ?_) ?_
     ·have hq':=hw'
      go_simp
     try simp only[Act.put,WA,WB,WC]
     refine WV (by rfl) (.pointer (some ⟨tb,1,none⟩)) (fun w' hw'=> ?_) ?_
     ·have hq':=hw'
      go_simp
     try simp only[Act.put,WA,WB,WC]
     refine WV (by rfl) (.int .i64 B) (fun w' hw'=> ?_) ?_
     ·have hq':=hw'
      have z0:=Ja hw' t4;have z1:=Ja hw' c7;have z2:=Ja hw' p1;go_simp
     try simp only[Act.put,WA,WB,WC]
     refine WV (by rfl) (.bool (decide (ul<B))) (fun w' hw'=> ?_) ?_
     ·have hq':=hw'
      go_simp
     try simp only[Act.put,WA,WB,WC]
     refine WV (by rfl) (.bool (decide (ul<B))) (fun w' hw'=> ?_) ?_
     ·have hq':=hw'
      go_simp
     try simp only[Act.put,WA,WB,WC]
     refine WQ.done ?_
     intro w6 hX
     go_wp2_with fail
     go_meet
     exact⟨by simp,hX⟩
   case rest=>
   obtain⟨rfl,hX⟩:=hcut
   obtain⟨w6,hw6⟩:∃w6,w6=wc:=⟨_,rfl⟩
   subst hw6
   have HX6:=Lib.hid (HX5.out.trans (hX.mono HX5.out.size))
   have t46:=Ja hX t4
   have t56:=Ja hX t5
   clear t4 c7 p1 t5 hX HX5
   by_cases hq:(bw||decide (ul<B))=true
   ·rw[hq]
    have HQ:=Lib.hid hq
    clear hq
    go_wp2_with fail
    go_ret
    show Jdt K n w v T key (.returned (.int .i64 0)) w6
    obtain⟨hO,hnum,hld,htr⟩:=HO.out
    refine⟨nn+1,v2,T2,g2,l2,⟨hO.run.on HX6.out,hO.gd⟩,Or.inl ⟨rfl,hld,Or.inr ?_⟩⟩
    have h1:=HQ.out
    rw[Bool.or_eq_true] at h1
    rcases h1 with h1|h1
    ·rw[HGV.out.2,HGL.out] at h1
     exact Or.inl fun q=>by rw[q] at h1;simp at h1
    ·have h2:=of_decide_eq_true h1
     rw[HGT.out.1,HB.out] at h2
     exact Or.inr h2
   ·have hqf:(bw||decide (ul<B))=false:=by simpa using hq
    rw[hqf]
    have HQ:=Lib.hid hqf
    clear hq hqf
    have HU:=Lib.hid (show K.B<=v2.us.length from by
     have h1:=HQ.out
     rw[Bool.or_eq_false_iff] at h1
     have h2:=of_decide_eq_false h1.2
     rw[HGT.out.1,HB.out] at h2
     omega)
    have HHC:=Lib.hid (fun(q:Int) w' (hq:q=(nn:Int)+2) (hb:Below w6.heap.size w6 w')=>by
     obtain⟨hO,hnum,hld,htr⟩:=HO.out
     exact Joj nn K v2.b (nn+1+1) [] [] w' v2 T2 q HP.out.1 ((htr.on HX6.out).on hb).pre hld (fun q=>by
      have h1:=HU.out
      have h2:=HP.out.1.B
      rw[q] at h1;simp at h1;omega) hq (by have:=htr.n8;omega))
    rw[<-Htb.out,<-HVB.out] at HHC
    have HRL2:=Lib.hid (fun(e:Ending) (w' w7:World) (hb:Below w6.heap.size w6 w') (h:∃v' T' g l,Ran K v2.b (nn+1+1) (nn+1) w' v2 T2 w7 v' T' g l/\((e=.returned (.int .i64 0)/\v'.kn=none/\l≠[]/\(Gk K (nn+1) v2->Gk K (nn+1) v'))\/(e=.returned (.int .i64 10)/\0<T2.wr))/\((K.B<=v2.us.length/\v2.ch.length<=K.F)->∀m∈l,K.B/K.F<=m))=>show∃x:Int,e=.returned (.int .i64 x)/\Hid (∃v3 T3 gg l,Z4 K n w v T (nn+1) w7 v3 T3 gg l/\((x=0/\mu (nn+1) v3<gk/\v3.ld=true/\v3.kn=none/\(Gd K n v->0<T.wr\/(GkB K (nn+1) v3/\∀m∈l,K.B/K.F<=m)))\/(x=10/\0<T.wr))) from by
     obtain⟨v',T',g',l',hR,hor,hbg⟩:=h
     obtain⟨hO,hnum,hld,htr⟩:=HO.out
     have r1:=((hO.run.on HX6.out).on hb).trans hR.tree
     rcases hor with⟨q1,q2,q3,q4⟩|⟨q1,q2⟩
     ·refine⟨0,q1,Lib.hid ⟨v',T',_,_,r1,Or.inl ⟨rfl,?_,hR.sm.kept.ld hld,q2,fun hg=>(hO.gd hg).imp id fun hg2=> ?_⟩⟩⟩
      ·have h5:=(hR.sm.less HP.out.1.F HP.out.1.L htr.ok).mu
       have h6:=ZP hR.sm.pos
       have h7:0<l'.length:=List.length_pos_iff.2 q3
       omega
      ·obtain⟨g1,g2⟩:=hg2
       have g3:v2.ch.length<=K.F/\v2.us.length<=K.B/\∀x∈v2.ch,Gd K nn x.2:=g1
       refine⟨⟨q4 g1.gk,Nat.le_trans (hR.sm.us_le htr.ok) g3.2.1⟩,fun m hm=> ?_⟩
       rcases List.mem_append.1 hm with hm|hm
       ·exact g2 m hm
       ·exact hbg ⟨HU.out,g3.1⟩ m hm
     ·exact⟨10,q1,Lib.hid ⟨v',T',_,_,r1,Or.inr ⟨rfl,Nat.lt_of_lt_of_le q2 hO.run.wr⟩⟩⟩)
    go_upto_region 9 with(fail)
    go_cut [8] from 9 to 72 (fun s8 wx=>∃x:Int,s8=.int .i64 x/\Hid (∃v3 T3 gg l,Z4 K n w v T (nn+1) wx v3 T3 gg l/\((x=0/\mu (nn+1) v3<gk/\v3.ld=true/\v3.kn=none/\(Gd K n v->0<T.wr\/(GkB K (nn+1) v3/\∀m∈l,K.B/K.F<=m)))\/(x=10/\0<T.wr))))
    case first=>
     have hdr:Below w6.heap.size w6 w6.drew:=Jb (Below.refl _ _)
     go_region_law (first|(go_simp;go_at_call 64;refine(HHC.out _ w6.drew (by omega) hdr).mono ?_;rintro e w7 h7;obtain⟨x7,rfl,hr7⟩:=HRL2.out e w6.drew w7 hdr (by rw[<-HVB.out];exact h7);clear h7))
     all_goals
      go_wp2_with fail
      go_meet
      exact⟨x7,rfl,hr7⟩
    case rest=>
    obtain⟨x7,rfl,HR⟩:=hcut
    obtain⟨w7,hw7⟩:∃w7,w7=wc:=⟨_,rfl⟩
    subst hw7
    clear HRL2 HHC t46 t56
    obtain⟨v3,T3,g3,l3,hR3,hor⟩:=HR.out
    rcases hor with⟨rfl,hmu,hl3,hk3,hg3⟩|⟨rfl,hpos⟩
    case inr=>
     go_wp2_with fail
     go_ret
     show Jdt K n w v T key (.returned (.int .i64 10)) w7
     exact⟨nn+1,v3,T3,g3,l3,⟨hR3,fun _=>Or.inl hpos⟩,Or.inr ⟨rfl,hpos⟩⟩
    case inl=>
    have HTP:=Lib.hid (Jq5 w7 HP.out.1 (HP.out.2.next HP.out.1 hR3) hl3 hk3)
    rw[<-Htb.out] at HTP
    have HR3:=Lib.hid (And.intro hR3 (And.intro hmu hg3))
    clear hR3 hmu hg3 HR
    go_wp2_with fail
    refine HTP.out.mono ?_
    rintro e w8 ⟨rfl,n8,v8,T8,g8,l8,hT⟩
    have HT:=Lib.hid hT
    clear hT
    go_wp2_with fail
    go_roundg (mu n8 v8)
    case measure=>
     obtain⟨hR3,hmu,hg3⟩:=HR3.out
     have:=(HT.out.run.rt.less HP.out.1.F HP.out.1.L (HP.out.2.next HP.out.1 hR3).ok).mu
     omega
    case rel=>
     obtain⟨hR3,hmu,hg3⟩:=HR3.out
     refine Lib.hid ⟨n8,v8,T8,_,_,⟨hR3.trans HT.out.run,fun hg=> ?_⟩,rfl⟩
     rcases hg3 hg with q|⟨q1,q2⟩
     ·exact Or.inl q
     ·rcases HT.out.gd q1 with q|q
      ·exact Or.inl (Nat.lt_of_lt_of_le q hR3.wr)
      ·refine Or.inr ⟨q,fun m hm=> ?_⟩
       rcases List.mem_append.1 hm with hm|hm
       ·exact q2 m hm
       ·exact HT.out.big m hm
end Go.Proofs.YtafciefjlkdecaaGreat
namespace Go.Proofs.YtafciefjlkdecaaGreat
open Go.RowKit
def Zs:Nat->Vt->Prop
 |0,v=>∀p,v.kn=some p->p.s<4294967296
 |n+1,v=>(∀p,v.kn=some p->p.s<4294967296)/\∀x∈v.ch,Zs n x.2
theorem JaK:∀ {n:Nat} {t:Vt} {b:Nat} {m l:Bool},Zs n {t with b:=b,mem:=m,ld:=l}↔Zs n t
 |0,_,_,_,_=>Iff.rfl
 |_+1,_,_,_,_=>Iff.rfl
theorem YM.pso {v v':Vt} (h:YM v v'):∀ {n:Nat},Zs n v->Zs n v'
 |0,hs=>fun p hp=>hs p (by rw[<-h.kn];exact hp)
 |n+1,hs=>⟨fun p hp=>hs.1 p (by rw[<-h.kn];exact hp),by
  refine Jc5 (P:=fun _ _ t=>Zs n t) h.ch hs.2 fun c t t' e hk=> ?_
  have h1:=(JaK (n:=n) (t:=t) (b:=0) (m:=false) (l:=t.ld)).2 hk
  have h2:Zs n (Zr (c,t)).2:=h1
  rw[e] at h2
  exact(JaK (n:=n) (t:=t') (b:=0) (m:=false) (l:=t'.ld)).1 h2⟩
theorem Jom {n:Nat} {v:Vt} (l:List Upd) (h:Zs n v):Zs n (gv n v l):=by
 cases n with
 |zero=>exact fun p hp=>h p hp
 |succ n=>exact⟨fun p hp=>h.1 p hp,h.2⟩
theorem Jn9 {n:Nat} {v:Vt} (h:Zs n v):Zs n {v with kn:=none}:=by
 cases n with
 |zero=>exact fun p hp=>(by cases hp)
 |succ n=>exact⟨fun p hp=>(by cases hp),h.2⟩
theorem ZH.pso {F n:Nat} {c:List UInt8} {t:Vt} {Q:List (Chd×Vt)} (h:ZH F c t Q) (hs:Zs (n+1) t):∀x∈Q,Zs (n+1) x.2:=by
 obtain⟨X,y,Y,ba,bb,e,-,-,-,rfl⟩:=h.ex
 have h2:=hs.2
 rw[e] at h2
 intro x hx
 simp only[List.mem_cons,List.not_mem_nil,or_false] at hx
 rcases hx with rfl|rfl
 ·exact⟨fun p hp=>(by cases hp),fun z hz=>h2 z (List.mem_append_left _ hz)⟩
 ·exact⟨fun p hp=>(by cases hp),YC (P:=Zs n) fun z hz=>h2 z (List.mem_append_right _ hz)⟩
theorem Sm.pso {F L:Nat} {n:Nat} {v v':Vt} {g:List Int} {h:List Nat} (s:Sm F L n v v' g h):Zs n v->Zs n v':=by
 induction s with
 |refl n v=>exact id
 |trans _ _ ih1 ih2=>exact fun h=>ih2 (ih1 h)
 |load hl=>exact hl.pso
 |soil=>exact Jn9
 | @kid n v A c t t' D g h e hk _ ih=>
  exact fun hs=>⟨hs.1,ZJ (P:=Zs n) (Q:=[(c,t')]) e hs.2 fun z hz=>by
   rw[List.mem_singleton] at hz
   subst hz
   exact ih (hs.2 (c,t) (by rw[e];simp))⟩
 | @kidLoad n v A c t t' D e hl=>
  exact fun hs=>⟨hs.1,ZJ (P:=Zs n) (Q:=[(c,t')]) e hs.2 fun z hz=>by
   rw[List.mem_singleton] at hz
   subst hz
   exact hl.pso (hs.2 (c,t) (by rw[e];simp))⟩
 | @hand n v A c t D e hk ht _=>
  exact fun hs=>⟨hs.1,ZJ (P:=Zs n) (Q:=[(c,gv n t _)]) e hs.2 fun z hz=>by
   rw[List.mem_singleton] at hz
   subst hz
   exact Jom _ (hs.2 (c,t) (by rw[e];simp))⟩
 | @parts v A c t D Q e hk ht hL hP=>
  exact fun hs=>⟨hs.1,YC (P:=Zs 0) (ZJ e hs.2 fun z hz p hp=>by rw[(hP.leaf z hz).2.2.2.2] at hp;cases hp)⟩
 | @halve n v A c t D Q e hk ht hP=>
  exact fun hs=>⟨hs.1,YC (P:=Zs (n+1)) (ZJ e hs.2 (hP.pso (hs.2 (c,t) (by rw[e];simp))))⟩
 | @drop v A c t D e hk ht he hne=>
  exact fun hs=>⟨hs.1,YC (P:=Zs 0) (ZJ (Q:=[]) e hs.2 fun z hz=>by simp at hz)⟩
theorem Rt.pso {F L:Nat} {n n':Nat} {v v':Vt} {g:List Int} {h:List Nat} (s:Rt F L n v n' v' g h):Zs n v->Zs n' v':=by
 induction s with
 |sm s=>exact s.pso
 |trans _ _ i1 i2=>exact fun q=>i2 (i1 q)
 | @leaf v b Q hk _ hP=>
  refine fun _=>⟨fun p hp=>(by cases hp),YC (P:=fun t=>Zs 0 t) fun x hx p hp=> ?_⟩
  rw[(hP.leaf x hx).2.2.2.2] at hp;cases hp
 | @rise n v b Q hk hP=>exact fun q=>⟨fun p hp=>(by cases hp),YC (P:=fun t=>Zs (n+1) t) (hP.pso q)⟩
 | @down n v c t hk _ hc=>exact fun q=>q.2 (c,t) (by rw[hc];simp)
end Go.Proofs.YtafciefjlkdecaaGreat
