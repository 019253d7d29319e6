/-
  Trees in memory: where vertices lie, what stays where others turn. The walk of the laws' load, also one that fails. The walk of fetch over any load. A vertex of a tree is fetched. What turns in memory where something is done to a vertex; what is done to a child is done to its vertex. The walk of hold: a vertex at a height is in memory. The walks of an update of a tree of one leaf: hold, room, soil, give, top, Apply. Addresses that are gone: one more; the walk of soil. A map by vertices that is only written. Which child is handed messages: plain laws. The entries that a scan tells, in plain words. The walk of give: messages come into a vertex. The walks of slices.Grow (of nil), of slices.Concat (of three slices), and of slices.Clone, of children and of vertices. The walk of put: vertices stand in the place of a child. The walk of parts: a leaf of too many entries, in parts. The walk of halves: an inner vertex of too many children, in two.
-/
import Derived.Deep.Cut
import Derived.Deep.RegionHeld3
import Derived.BigQuiet
import Derived.Shelf.Abstract
import Derived.Deep.DeepCutAuto
import Derived.Deep.CutBlock
import Derived.LaidEql
import Derived.Test.YtafciefjlkdecaaGreatQpd
set_option maxRecDepth 100000
set_option maxHeartbeats 16000000
namespace Go.Proofs.YtafciefjlkdecaaGreat
open Go.RowKit
abbrev Xu (w:World) (v:Value) (bs:List Nat):Prop:=w.ownsRow 0 97 1 v bs.length (bs.map vp)
def Jru (k:Option Pt) (pa:Int) (pg ps:Nat):Prop:=∀p,k=some p->pa=p.a/\pg=p.g/\ps=p.s
structure Jcq (w:World) (v:Vt):Prop where
 ld:v.ld=true
 ex:∃pa pg ps a c,Jq w v.b v.kn.isSome pa pg ps true (.slice a v.es.length c) (.slice none 0 0) (.slice none 0 0) (.slice none 0 0)/\Jru v.kn pa pg ps/\Zq w (.agg #[.slice a v.es.length c]) v.es
structure Jd1 (w:World) (v:Vt):Prop where
 ld:v.ld=false
 ex:∃p,v.kn=some p/\Jcs w v.b ⟨[],p.a,p.g,p.s⟩
structure Zh (w:World) (v:Vt):Prop where
 ld:v.ld=true
 ex:∃pa pg ps a1 c1 a2 c2 a3 c3,Jq w v.b v.kn.isSome pa pg ps true (.slice none 0 0) (.slice a1 v.ch.length c1) (.slice a2 v.us.length c2) (.slice a3 v.ch.length c3)/\Jru v.kn pa pg ps/\JA w (.agg #[.slice a1 v.ch.length c1,.slice a2 v.us.length c2]) v.cs v.us/\Xu w (.slice a3 v.ch.length c3) (v.ch.map fun x=>x.2.b)
def Dsk:Nat->Vt->Prop
 |0,v=>v.mem=false/\v.ld=false/\v.kn.isSome=true
 |n+1,v=>(v.mem=false/\v.ld=false/\v.kn.isSome=true)/\∀x∈v.ch,Dsk n x.2
def Mem (w:World):Nat->Vt->Prop
 |0,v=>v.mem=true/\(Jcq w v\/Jd1 w v)
 |n+1,v=>v.mem=true/\((Zh w v/\∀x∈v.ch,Mem w n x.2)\/(Jd1 w v/\∀x∈v.ch,Dsk n x.2))
def blocks:Nat->Vt->List Nat
 |0,v=>if v.mem then[v.b] else[]
 |n+1,v=>if v.mem then v.b::v.ch.flatMap (fun x=>blocks n x.2) else[]
theorem J8 (v:Vt) (h:v.mem=true):blocks 0 v=[v.b]:=by rw[blocks,if_pos h]
theorem Y1 (n:Nat) (v:Vt) (h:v.mem=true):blocks (n+1) v=v.b::v.ch.flatMap (fun x=>blocks n x.2):=by rw[blocks,if_pos h]
theorem Mem.in {w:World}:∀ {n:Nat} {v:Vt},Mem w n v->v.mem=true
 |0,_,h=>h.1
 |_+1,_,h=>h.1
theorem Dsk.out:∀ {n:Nat} {v:Vt},Dsk n v->v.mem=false/\v.ld=false/\v.kn.isSome=true
 |0,_,h=>h
 |_+1,_,h=>h.1
theorem Dsk.blocks {n:Nat} {v:Vt} (h:Dsk n v):blocks n v=[]:=by
 cases n with
 |zero=>rw[YtafciefjlkdecaaGreat.blocks,if_neg (by rw[h.out.1];simp)]
 |succ n=>rw[YtafciefjlkdecaaGreat.blocks,if_neg (by rw[h.out.1];simp)]
theorem Mem.head {w:World} {n:Nat} {v:Vt} (h:Mem w n v):v.b∈blocks n v:=by
 cases n with
 |zero=>rw[J8 v h.in];simp
 |succ n=>rw[Y1 n v h.in];simp
structure Z3 (w:World) (b:Nat):Prop where
 str:XO w b
 row:∀cur,¬Jc w 97 b cur
theorem Jc.one {w:World} {E E':TypeId} {b:Nat} {cur cur':List Value} (h:Jc w E b cur) (h':Jc w E' b cur'):E=E'/\cur=cur':=by
 unfold Jc at h h'
 rw[h] at h'
 simp only[Option.some.injEq,Obj.cells.injEq,and_true] at h'
 exact⟨h'.2,by simpa using h'.1⟩
theorem Z3.of {w:World} {b:Nat} {E:TypeId} {cur:List Value} (h:Jc w E b cur) (hs:∀s,Value.string s∉cur) (h1:E≠97):Z3 w b:=
 ⟨h.noStr hs,fun _ k=>h1 (h.one k).1⟩
theorem Jq.soft {w:World} {b:Nat} {kn:Bool} {pa:Int} {pg ps:Nat} {ld:Bool} {a1 a2 a3 a4:Option Addr} {n1 n2 n3 n4 c1 c2 c3 c4:Nat} (h:Jq w b kn pa pg ps ld (.slice a1 n1 c1) (.slice a2 n2 c2) (.slice a3 n3 c3) (.slice a4 n4 c4)):Z3 w b:=
 Z3.of h.row (fun s=>by simp[YH]) (by decide)
theorem Yj.soft {w:World} {b:Nat} {F B L:Int} {fn:Fn} {xs ys:Array Value} {root:Nat} {h':Int} {a:Option Addr} {n c:Nat} {fl le:Int} (h:Yj w b F B L (.func fn xs ys) root h' (.slice a n c) fl le):Z3 w b:=
 Z3.of h.row (fun s=>by simp[Jex]) (by decide)
theorem Xu.keep {w w':World} {v:Value} {bs:List Nat} {M:Nat->Prop} (h:Xu w v bs) (hk:Jg M w w') (hM:∀b,M b->Z3 w b):Xu w' v bs:=
 YK h hk fun g e hg=>by
  obtain⟨cur,hc⟩:=Jt h g e
  exact(hM g hg).row cur hc
theorem Jcq.vx {w:World} {v:Vt} (h:Jcq w v):Z3 w v.b/\v.b<w.heap.size:=by
 obtain⟨pa,pg,ps,a,c,h1,-⟩:=h.ex
 exact⟨h1.soft,h1.lt⟩
theorem Jd1.vx {w:World} {v:Vt} (h:Jd1 w v):Z3 w v.b/\v.b<w.heap.size:=by
 obtain⟨p,-,h1⟩:=h.ex
 exact⟨Jq.soft h1,Jq.lt h1⟩
theorem Zh.vx {w:World} {v:Vt} (h:Zh w v):Z3 w v.b/\v.b<w.heap.size:=by
 obtain⟨pa,pg,ps,a1,c1,a2,c2,a3,c3,h1,-⟩:=h.ex
 exact⟨h1.soft,h1.lt⟩
theorem Jcq.keep {w w':World} {v:Vt} {M:Nat->Prop} (h:Jcq w v) (hk:Jg M w w') (hM:∀b,M b->Z3 w b) (hb:¬M v.b):Jcq w' v:=by
 obtain⟨hl,pa,pg,ps,a,c,h1,h2,h3⟩:=h
 exact⟨hl,pa,pg,ps,a,c,hk.vx h1 hb,h2,h3.keep hk fun b hb=>(hM b hb).str⟩
theorem Jd1.keep {w w':World} {v:Vt} {M:Nat->Prop} (h:Jd1 w v) (hk:Jg M w w') (hb:¬M v.b):Jd1 w' v:=by
 obtain⟨hl,p,h1,h2⟩:=h
 exact⟨hl,p,h1,hk.vx h2 hb⟩
theorem Zh.keep {w w':World} {v:Vt} {M:Nat->Prop} (h:Zh w v) (hk:Jg M w w') (hM:∀b,M b->Z3 w b) (hb:¬M v.b):Zh w' v:=by
 obtain⟨hl,pa,pg,ps,a1,c1,a2,c2,a3,c3,h1,h2,h3,h4⟩:=h
 exact⟨hl,pa,pg,ps,a1,c1,a2,c2,a3,c3,hk.vx h1 hb,h2,h3.keep hk (fun b hb=>(hM b hb).str),Xu.keep h4 hk hM⟩
theorem Ze {n:Nat} {v:Vt} (hm:v.mem=true) {x:Chd×Vt} (hx:x∈v.ch) {b:Nat} (hb:b∈blocks n x.2):b∈blocks (n+1) v:=by
 rw[Y1 n v hm]
 exact List.mem_cons_of_mem _ (List.mem_flatMap.2 ⟨x,hx,hb⟩)
theorem Mem.keep {w w':World} {M:Nat->Prop} (hk:Jg M w w') (hM:∀b,M b->Z3 w b):∀ {n:Nat} {v:Vt},Mem w n v->(∀b∈blocks n v,¬M b)->Mem w' n v
 |0,_,h,hb=>⟨h.1,h.2.imp (fun q=>q.keep hk hM (hb _ h.head)) (fun q=>q.keep hk (hb _ h.head))⟩
 |_+1,_,h,hb=>⟨h.1,h.2.imp (fun q=>⟨q.1.keep hk hM (hb _ h.head),fun x hx=>Mem.keep hk hM (q.2 x hx) fun b hb'=>hb b (Ze h.1 hx hb')⟩) (fun q=>⟨q.1.keep hk (hb _ h.head),q.2⟩)⟩
theorem Mem.on {w w':World} {n:Nat} {v:Vt} (h:Mem w n v) (hb:Below w.heap.size w w'):Mem w' n v:=h.keep (Jg.of_below (S:=fun _=>False) hb) (fun _ q=>q.elim) fun _ _ q=>q
theorem Mem.lt {w:World}:∀ {n:Nat} {v:Vt},Mem w n v->∀b∈blocks n v,Z3 w b/\b<w.heap.size
 |0,v,h,b,hb=>by
  rw[J8 v h.1,List.mem_singleton] at hb
  subst hb
  exact h.2.elim (fun q=>q.vx) (fun q=>q.vx)
 |n+1,v,h,b,hb=>by
  rw[Y1 n v h.1,List.mem_cons] at hb
  rcases hb with rfl|hb
  ·exact h.2.elim (fun q=>q.1.vx) (fun q=>q.1.vx)
  ·obtain⟨x,hx,hb⟩:=List.mem_flatMap.1 hb
   rcases h.2 with q|q
   ·exact Mem.lt (q.2 x hx) b hb
   ·rw[(q.2 x hx).blocks] at hb
    simp at hb
abbrev ldV (sb:Nat):Value:=.func (.func 11) #[.pointer (some ⟨sb,0,none⟩)] #[]
abbrev Jg1 (gone:List Int):List Value:=gone.map fun a=>.int .i64 a
structure XK (w:World) (gv:Value) (gone:List Int):Prop where
 own:w.ownsRow 0 3 1 gv gone.length (Jg1 gone)
 int:∀g,gv.ownBlock=some g->∀cur,Jc w 3 g cur->∀u∈cur,∃i,u=.int .i64 i
theorem XK.nil (w:World):XK w (.slice none 0 0) []:=⟨World.ownsRow_nil _ _ _ _,fun g e=>by simp[Value.ownBlock] at e⟩
theorem XK.soft {w:World} {gv:Value} {gone:List Int} (h:XK w gv gone):∀x,gv.ownBlock=some x->Z3 w x/\x<w.heap.size:=fun x hx=>by
 obtain⟨cur,hc⟩:=Jt h.own x hx
 exact⟨Z3.of hc (fun s hs=>by obtain⟨i,e⟩:=h.int x hx cur hc _ hs;cases e) (by decide),hc.lt⟩
theorem XK.keep {w w':World} {gv:Value} {gone:List Int} {M:Nat->Prop} (h:XK w gv gone) (hk:Jg M w w') (hM:∀x,gv.ownBlock=some x->¬M x):XK w' gv gone:=
 ⟨YK h.own hk fun g e=>hM g e,fun g e cur hc=>by
  refine h.int g e cur ?_
  have:=(h.soft g e).2
  have h2:=hk.block g this (hM g e)
  exact h2.symm.trans hc⟩
theorem XK.on {w w':World} {gv:Value} {gone:List Int} (h:XK w gv gone) (hb:Below w.heap.size w w'):XK w' gv gone:=h.keep (Jg.of_below (S:=fun _=>False) hb) fun _ _ q=>q
theorem XK.form {w:World} {gv:Value} {gone:List Int} (h:XK w gv gone):∃a x,gv=.slice a gone.length x:=Jm h.own
structure Kx where
 tb:Nat
 sb:Nat
 mb:Nat
 F:Nat
 B:Nat
 L:Nat
 nn:Nat
 sz:Nat
 f:Int->Option Blk
 gen:Nat
structure Tx where
 gv:Value
 gone:List Int
 fl:Nat
 le:Nat
 wr:Nat
structure CAt (w:World) (K:Kx) (root h:Nat) (T:Tx):Prop where
 tr:Yj w K.tb K.F K.B K.L (ldV K.sb) root h T.gv T.fl T.le
 gn:XK w T.gv T.gone
 sh:Js w K.sb K.mb K.nn K.sz K.f K.gen T.wr
def Own (K:Kx) (T:Tx) (x:Nat):Prop:=x=K.tb\/x=K.sb\/T.gv.ownBlock=some x
theorem CAt.soft {w:World} {K:Kx} {root h:Nat} {T:Tx} (c:CAt w K root h T):∀x,Own K T x->Z3 w x/\x<w.heap.size:=by
 obtain⟨a,y,hg⟩:=c.gn.form
 intro x hx
 rcases hx with rfl|rfl|hx
 ·have:=c.tr
  rw[hg] at this
  exact⟨this.soft,c.tr.lt⟩
 ·exact⟨Z3.of c.sh.row (fun s=>by simp) (by decide),c.sh.row.lt⟩
 ·exact c.gn.soft x hx
theorem CAt.on {w w':World} {K:Kx} {root h:Nat} {T:Tx} (c:CAt w K root h T) (hb:Below w.heap.size w w'):CAt w' K root h T:=⟨c.tr.on hb,c.gn.on hb,c.sh.on hb⟩
theorem Zg.keep {w w':World} {M:Nat->Prop} {b n sz:Nat} {f:Int->Option Blk} (h:Zg w b n sz f) (hk:Jg M w w') (hb:¬M b):Zg w' b n sz f:=by
 have hl:=h.lt
 obtain⟨D,⟨es0,clock0,h1,h2⟩,h3⟩:=h
 exact⟨D,⟨es0,clock0,(hk.block b hl hb).trans h1,h2⟩,h3⟩
theorem Js.keep {w w':World} {M:Nat->Prop} {sb mb n sz:Nat} {f:Int->Option Blk} {gen:Nat} {wr:Int} (h:Js w sb mb n sz f gen wr) (hk:Jg M w w') (h1:¬M sb) (h2:¬M mb):Js w' sb mb n sz f gen wr:=⟨hk.row h.row h1,h.map.keep hk h2⟩
theorem Js.noMap {w:World} {sb mb n sz:Nat} {f:Int->Option Blk} {gen:Nat} {wr:Int} (h:Js w sb mb n sz f gen wr) {E:TypeId} {cur:List Value}:¬Jc w E mb cur:=fun hr=>by
 obtain⟨D,⟨es,clock,hb,_⟩,_⟩:=h.map
 unfold Jc at hr
 rw[hb] at hr
 simp at hr
theorem Mem.cells {w:World}:∀ {n:Nat} {v:Vt},Mem w n v->∀b∈blocks n v,∃cur,Jc w 108 b cur
 |0,v,h,b,hb=>by
  rw[J8 v h.1,List.mem_singleton] at hb
  subst hb
  rcases h.2 with q|q
  ·obtain⟨pa,pg,ps,a,c,h1,-⟩:=q.ex
   exact⟨_,h1.row⟩
  ·obtain⟨p,-,h1⟩:=q.ex
   exact⟨_,Jq.row h1⟩
 |n+1,v,h,b,hb=>by
  rw[Y1 n v h.1,List.mem_cons] at hb
  rcases hb with rfl|hb
  ·rcases h.2 with q|q
   ·obtain⟨pa,pg,ps,a1,c1,a2,c2,a3,c3,h1,-⟩:=q.1.ex
    exact⟨_,h1.row⟩
   ·obtain⟨p,-,h1⟩:=q.1.ex
    exact⟨_,Jq.row h1⟩
  ·obtain⟨x,hx,hb⟩:=List.mem_flatMap.1 hb
   rcases h.2 with q|q
   ·exact Mem.cells (q.2 x hx) b hb
   ·rw[(q.2 x hx).blocks] at hb
    simp at hb
theorem CAt.notVx {w:World} {K:Kx} {root h:Nat} {T:Tx} (c:CAt w K root h T) {x:Nat} {cur:List Value} (hx:Jc w 108 x cur):¬Own K T x/\x≠K.mb:=by
 refine⟨fun ho=> ?_,fun e=>c.sh.noMap (e▸hx)⟩
 rcases ho with rfl|rfl|ho
 ·exact absurd (hx.one c.tr.row).1 (by decide)
 ·exact absurd (hx.one c.sh.row).1 (by decide)
 ·obtain⟨cur',hc⟩:=Jt c.gn.own x ho
  exact absurd (hx.one hc).1 (by decide)
theorem CAt.keep {w w':World} {K:Kx} {root h:Nat} {T:Tx} {M:Nat->Prop} (c:CAt w K root h T) (hk:Jg M w w') (hM:∀x,M x->(∃cur,Jc w 108 x cur)\/w.heap.size<=x):CAt w' K root h T:=by
 have hn:∀x,x<w.heap.size->(Own K T x\/x=K.mb)->¬M x:=fun x hl hx hm=>by
  rcases hM x hm with⟨cur,hc⟩|hg
  ·exact hx.elim (c.notVx hc).1 (c.notVx hc).2
  ·omega
 exact⟨⟨hk.row c.tr.row (hn _ c.tr.lt (Or.inl (Or.inl rfl)))⟩,c.gn.keep hk fun x e=>hn x (c.gn.soft x e).2 (Or.inl (Or.inr (Or.inr e))),c.sh.keep hk (hn _ c.sh.row.lt (Or.inl (Or.inr (Or.inl rfl)))) (hn _ c.sh.map.lt (Or.inr rfl))⟩
open Go.RowKit
attribute [local go_sem ↓] Go.wp_at_zero Go.wp_at_succ
theorem Js.count {w:World} {sb mb n sz:Nat} {f:Int->Option Blk} {gen:Nat} {wr wr':Int} (h:Js w sb mb n sz f gen wr):Js (w.setCell ⟨sb,2,none⟩ (.int .i64 wr')) sb mb n sz f gen wr':=
 ⟨h.row.put 2 _,h.map.keep ((Jg.refl (fun x=>x=sb) w).setCell ⟨sb,2,none⟩ (Or.inl rfl) _) (fun e=>h.ne e.symm)⟩
theorem Jpy {sb mb n sz:Nat} {f:Int->Option Blk} {gen:Nat} (a:Int) (g s:Nat) (w:World) (h:Js w sb mb n sz f gen 1):
  Calls Tryz.prog 11 #[.pointer (some ⟨sb,0,none⟩),.agg #[.int .i64 a,.int .u64 g,.int .u32 s]] w fun e w'=>e=.returned (.tuple #[.int .u8 0,.string ⟨#[]⟩,.int .i64 10])/\Js w' sb mb n sz f gen 0/\Jg (fun x=>x=sb) w w':=by
 have HH:=Lib.hid h
 have hb0:=Below.refl w.heap.size w
 clear h
 go_enter Tryz.func11,Tryz.ntmps11
 go_upto_region 1 with(fail)
 obtain⟨W,hW_W⟩:∃W,W=(w.alloc (.cells #[.int .i64 a,.int .u64 g,.int .u32 s] 54)):=⟨_,rfl⟩
 rw[<-hW_W]
 have hX_W:Below w.heap.size w W:=by rw[hW_W];go_grown
 have gp0:W.cell? ⟨w.heap.size,0,none⟩=some (.int .i64 a):=by rw[hW_W,World.cell?_alloc_at _ _ _ _ (by simp)];rfl
 have gp1:W.cell? ⟨w.heap.size,1,none⟩=some (.int .u64 g):=by rw[hW_W,World.cell?_alloc_at _ _ _ _ (by simp)];rfl
 have gp2:W.cell? ⟨w.heap.size,2,none⟩=some (.int .u32 s):=by rw[hW_W,World.cell?_alloc_at _ _ _ _ (by simp)];rfl
 clear hW_W
 have hz_W:=hX_W.size
 replace HH:=Lib.hid (HH.out.kept hX_W (Nat.le_refl _))
 replace hb0:=hb0.trans (hX_W.mono hb0.size)
 clear hX_W
 have c2:=HH.out.c2
 have f2:=HH.out.row.frozen 2
 have HC:=Lib.hid (HH.out.count (wr':=0))
 have hK:=Jg.of_below (S:=fun x=>x=sb) hb0
 go_wp2_with fail
 go_returns
 exact⟨rfl,HC.out,hK.setCell ⟨sb,2,none⟩ (Or.inl rfl) _⟩
theorem JkV {sb mb n sz:Nat} {f:Int->Option Blk} {gen:Nat} (wr:Nat) (hwr:2<=wr) (hwr2:wr<=1000) (a:Nat) (ps:Nat) (b:Blk) (w:World) (h:Js w sb mb n sz f gen wr) (ha:a<1000000) (hf:f (a:Int)=some b):
  Calls Tryz.prog 11 #[.pointer (some ⟨sb,0,none⟩),.agg #[.int .i64 a,.int .u64 b.gen,.int .u32 ps]] w fun e w'=>e=.returned (.tuple #[.int .u8 b.kind,.string (S b.pay),.int .i64 0])/\Js w' sb mb n sz f gen ((wr-1:Nat):Int)/\Jg (fun x=>x=sb) w w':=by
 have HH:=Lib.hid h
 have hb0:=Below.refl w.heap.size w
 clear h
 obtain⟨k,hk⟩:∃k,wr=k+1:=⟨wr-1,by omega⟩
 have hw1:0<wr:=by omega
 have hw2:IntKind.i64.wrap ((wr:Int)-1)=(k:Int):=by rw[show(wr:Int)-1=(k:Int) by omega];exact IntWalk.i64_in _ (by omega)
 have hw3:((k:Int)==0)=false:=by simp;omega
 rw[show wr-1=k by omega]
 clear hwr hwr2 hk
 go_enter Tryz.func11,Tryz.ntmps11
 go_upto_region 1 with(fail)
 obtain⟨W,hW_W⟩:∃W,W=(w.alloc (.cells #[.int .i64 a,.int .u64 b.gen,.int .u32 ps] 54)):=⟨_,rfl⟩
 rw[<-hW_W]
 have hX_W:Below w.heap.size w W:=by rw[hW_W];go_grown
 have gp0:W.cell? ⟨w.heap.size,0,none⟩=some (.int .i64 a):=by rw[hW_W,World.cell?_alloc_at _ _ _ _ (by simp)];rfl
 have gp1:W.cell? ⟨w.heap.size,1,none⟩=some (.int .u64 b.gen):=by rw[hW_W,World.cell?_alloc_at _ _ _ _ (by simp)];rfl
 have gp2:W.cell? ⟨w.heap.size,2,none⟩=some (.int .u32 ps):=by rw[hW_W,World.cell?_alloc_at _ _ _ _ (by simp)];rfl
 clear hW_W
 have hz_W:=hX_W.size
 replace HH:=Lib.hid (HH.out.kept hX_W (Nat.le_refl _))
 replace hb0:=hb0.trans (hX_W.mono hb0.size)
 clear hX_W
 have hgl:=World.block_lt_of_cell? W _ gp0
 have hne:sb≠w.heap.size:=fun e=>by
  have h1:=HH.out.c0
  rw[e,gp0] at h1
  simp at h1
 have c2:=HH.out.c2
 have f2:=HH.out.row.frozen 2
 go_upto_if 13 with(fail)
 go_cut [] from 9 to 25 (fun wx=>wx=W.setCell ⟨sb,2,none⟩ (.int .i64 (k:Int)))
 case first=>
  go_wp2_with fail
  go_meet
  rfl
 case rest=>
 obtain⟨W2,hW2⟩:∃W2,W2=W.setCell ⟨sb,2,none⟩ (.int .i64 (k:Int)):=⟨_,rfl⟩
 rw[hcut,<-hW2]
 clear hcut
 have HH2:=Lib.hid (show Js W2 sb mb n sz f gen (k:Int) by rw[hW2];exact HH.out.count)
 have gq0:W2.cell? ⟨w.heap.size,0,none⟩=some (.int .i64 a):=by rw[hW2];exact J5 hne.symm gp0
 have gq1:W2.cell? ⟨w.heap.size,1,none⟩=some (.int .u64 b.gen):=by rw[hW2];exact J5 hne.symm gp1
 have hK:=(Jg.of_below (S:=fun x=>x=sb) hb0).setCell ⟨sb,2,none⟩ (Or.inl rfl) (.int .i64 (k:Int))
 rw[<-hW2] at hK
 clear hW2 gp0 gp1 gp2 c2 f2 HH hb0
 have c0:=HH2.out.c0
 have c2:=HH2.out.c2
 go_upto_region 5 with(fail)
 have hl:=HH2.out.map.look a (by omega)
 rw[hf] at hl
 simp only[Option.getD_some,Option.isSome_some,JbL] at hl
 have hl2:=(HH2.out.on (Jb (Below.refl W2.heap.size W2))).map.look a (by omega)
 rw[hf] at hl2
 simp only[Option.getD_some,Option.isSome_some,JbL] at hl2
 have hX1:Below W2.heap.size W2 (W2.alloc (.cells #[.int .u8 0,.string ⟨#[]⟩,.int .u64 0] 86)).drew:=Jb ((Below.refl _ _).alloc (Nat.le_refl _) _)
 have hl3:=(HH2.out.on hX1).map.look a (by omega)
 rw[hf] at hl3
 simp only[Option.getD_some,Option.isSome_some,JbL] at hl3
 have hgl2:=World.block_lt_of_cell? W2 _ gq0
 have e0:∀x,(W2.alloc x).cell? ⟨sb,0,none⟩=some (.map (some mb)):=fun x=>(World.cell?_alloc_past _ _ _ HH2.out.row.lt).trans c0
 have e1:∀x,(W2.alloc x).cell? ⟨w.heap.size,0,none⟩=some (.int .i64 a):=fun x=>(World.cell?_alloc_past _ _ _ hgl2).trans gq0
 have e2:∀x,(W2.alloc x).cell? ⟨w.heap.size,1,none⟩=some (.int .u64 b.gen):=fun x=>(World.cell?_alloc_past _ _ _ hgl2).trans gq1
 go_region
 all_goals
  have hXz:Below W2.heap.size W2 (W2.alloc (.cells #[.int .u8 b.kind,.string (S b.pay),.int .u64 b.gen] 86)).drew.drew:=Jb (Jb ((Below.refl _ _).alloc (Nat.le_refl _) _))
  go_upto_region 8 with(fail)
  go_region
  all_goals
   go_wp2_with fail
   go_returns
   exact⟨rfl,HH2.out.on hXz,hK.on hXz⟩
theorem Jjf {sb mb n sz:Nat} {f:Int->Option Blk} {gen wr:Nat} (p:Pt) (b:Blk) (w:World) (h:Js w sb mb n sz f gen wr) (hwr:wr<=1000) (ha:0<=p.a/\p.a<1000000) (hf:f p.a=some b) (hg:b.gen=p.g):
  Calls Tryz.prog 11 #[.pointer (some ⟨sb,0,none⟩),.agg #[.int .i64 p.a,.int .u64 p.g,.int .u32 p.s]] w fun e w'=>((wr=1/\e=.returned (.tuple #[.int .u8 0,.string ⟨#[]⟩,.int .i64 10]))\/(wr≠1/\e=.returned (.tuple #[.int .u8 b.kind,.string (S b.pay),.int .i64 0])))/\Js w' sb mb n sz f gen ((wr-1:Nat):Int)/\Jg (fun x=>x=sb) w w':=by
 obtain⟨k,hk⟩:∃k:Nat,p.a=(k:Int):=⟨p.a.toNat,by omega⟩
 rw[hk] at hf⊢
 rw[<-hg]
 by_cases h0:wr=0
 ·subst h0
  refine(Jje k p.s b w h (by omega) hf).mono ?_
  rintro e w' ⟨rfl,hb⟩
  exact⟨Or.inr ⟨by omega,rfl⟩,h.on hb,Jg.of_below hb⟩
 ·by_cases h1:wr=1
  ·subst h1
   refine(Jpy _ _ _ w h).mono ?_
   rintro e w' ⟨rfl,hs,hk⟩
   exact⟨Or.inl ⟨rfl,rfl⟩,hs,hk⟩
  ·refine(JkV wr (by omega) hwr k p.s b w h (by omega) hf).mono ?_
   rintro e w' ⟨rfl,hs,hk⟩
   exact⟨Or.inr ⟨h1,rfl⟩,hs,hk⟩
open Go.RowKit
attribute [local go_sem ↓] Go.wp_at_zero Go.wp_at_succ
structure Jj5 (fid:FuncId) (xs ys:Array Value) (pa:Int) (pg ps:Nat) (k:Nat) (pay:List UInt8) (er:Int) (w:World) (R:World->Prop):Prop where
 ent:∀args w,(callFunc fid args).run Tryz.prog w=.ok (.enter fid args) w
 go:∀w1,Below w.heap.size w w1->Calls Tryz.prog fid (xs++ #[.agg #[.int .i64 pa,.int .u64 pg,.int .u32 ps]]++ys) w1 fun e w2=>e=.returned (.tuple #[.int .u8 k,.string (S pay),.int .i64 er])/\R w2
theorem JcI {tb b:Nat} {F B L:Int} {fid:FuncId} {xs ys:Array Value} {root:Nat} {h':Int} {gone:Value} {fl le:Int} {kn:Bool} {pa:Int} {pg ps:Nat} {lf cs us ks:Value} (k:Nat) (pay:List UInt8) (er:Int) (h:Int) (w:World)
  (ht:Yj w tb F B L (.func (.func fid) xs ys) root h' gone fl le) (hv:Jq w b kn pa pg ps false lf cs us ks) (R:World->Prop) (hl:Jj5 fid xs ys pa pg ps k pay er w R) (he:er≠0):
  Calls Tryz.prog 50 #[.pointer (some ⟨tb,0,none⟩),.pointer (some ⟨b,0,none⟩),.int .i64 h] w fun e w'=>e=.returned (.tuple #[.pointer none,.bool false,.int .i64 er])/\R w':=by
 have c4:=hv.c4
 have c1:=hv.c1
 have c2:=hv.c2
 have c3:=hv.c3
 have t3:=ht.c3
 have hent:=hl.ent
 go_enter Tryz.func50,Tryz.ntmps50
 go_upto_region 3 with(fail)
 go_region_law (first|(go_simp;go_at_fn fid;refine(hl.go _ (Jb (Below.refl _ _))).mono ?_;rintro e w2 ⟨rfl,hR2⟩))
 all_goals
  have he':(er !=0)=true:=by simpa using he
  go_wp2_with fail
  go_returns
  exact⟨rfl,hR2⟩
theorem Jen {tb b:Nat} {F B L:Int} {fid:FuncId} {xs ys:Array Value} {root:Nat} {h':Int} {gone:Value} {fl le:Int} {kn:Bool} {pa:Int} {pg ps:Nat} {lf cs us ks:Value} (k:Nat) (pay:List UInt8) (h:Int) (w:World)
  (ht:Yj w tb F B L (.func (.func fid) xs ys) root h' gone fl le) (hv:Jq w b kn pa pg ps false lf cs us ks) (R:World->Prop) (hRv:∀w2,R w2->Jq w2 b kn pa pg ps false lf cs us ks) (hl:Jj5 fid xs ys pa pg ps k pay 0 w R) (hk:k=4) (hh:h=1) (hp:pay.length<=100000) (n:Nat) (es:List Ent) (hpe:ZO pay=(es,n)):
  Calls Tryz.prog 50 #[.pointer (some ⟨tb,0,none⟩),.pointer (some ⟨b,0,none⟩),.int .i64 h] w fun e w'=>∃w2,R w2/\((n=0/\∃b' a c,e=.returned (.tuple #[.pointer (some ⟨b',0,none⟩),.bool true,.int .i64 0])/\w2.heap.size<=b'/\Jq w' b' true pa pg ps true (.slice a es.length c) (.slice none 0 0) (.slice none 0 0) (.slice none 0 0)/\Zq w' (.agg #[.slice a es.length c]) es)\/(n≠0/\e=.returned (.tuple #[.pointer none,.bool false,.int .i64 10])))/\Below w2.heap.size w2 w':=by
 subst hk hh
 have HP:=Lib.hid (fun w'=>Jcn pay (by omega) w')
 rw[hpe] at HP
 clear hpe
 have c4:=hv.c4
 have c1:=hv.c1
 have c2:=hv.c2
 have c3:=hv.c3
 have t3:=ht.c3
 have hent:=hl.ent
 go_enter Tryz.func50,Tryz.ntmps50
 go_upto_region 3 with(fail)
 go_cut [9,10,11] (fun s9 s10 s11 wx=>s9=.int .u8 (4:Nat)/\s10=.string (S pay)/\s11=.int .i64 0/\R wx)
 case first=>
  go_region_law (first|(go_simp;go_at_fn fid;refine(hl.go _ (Jb (Below.refl _ _))).mono ?_;rintro e w2 ⟨rfl,hR2⟩))
  all_goals
   go_wp2_with fail
   go_meet
   exact⟨rfl,rfl,rfl,hR2⟩
 case rest=>
 obtain⟨rfl,rfl,rfl,hR2⟩:=hcut
 obtain⟨w2,hw2⟩:∃w2,w2=wc:=⟨_,rfl⟩
 subst hw2
 have hv2:=hRv w2 hR2
 replace c1:=hv2.c1
 replace c2:=hv2.c2
 replace c3:=hv2.c3
 have HR:=Lib.hid hR2
 have hX2:=Below.refl w2.heap.size w2
 have hz:w2.heap.size<=w2.heap.size:=Nat.le_refl _
 clear hR2 hv2
 have HX2:=Lib.hid hX2
 clear hX2 hl
 go_upto_region 8 with(fail)
 obtain⟨W,hW⟩:∃W,W=w2.alloc (.cells (YH true pa pg ps true (.slice none 0 0) (.slice none 0 0) (.slice none 0 0) (.slice none 0 0)).toArray 108):=⟨_,rfl⟩
 have hV:Jq W w2.heap.size true pa pg ps true (.slice none 0 0) (.slice none 0 0) (.slice none 0 0) (.slice none 0 0):=⟨by rw[hW];exact Jc.new _ _ _⟩
 have hX3:Below w2.heap.size w2 W:=by rw[hW];exact HX2.out.alloc hz _
 have e0:w2.alloc (.cells #[.bool true,.int .i64 pa,.int .u64 pg,.int .u32 ps,.bool true,.slice none 0 0,.slice none 0 0,.slice none 0 0,.slice none 0 0] 108)=W:=hW.symm
 rw[e0]
 clear e0 hW HX2 c1 c2 c3
 go_wp2_with fail
 refine(Jl (HP.out W) W.heap.size W (Below.refl _ _) (Nat.le_refl _)).mono ?_
 rintro e w4 ⟨⟨a,c,rfl,hown⟩,hX4,-,-,-,hz4⟩
 dsimp only at hown⊢
 have hV4:=hV.on hX4
 have v5:=hV4.c5
 have vf:=hV4.fz 5
 have hB4:=Lib.hid (Zq.of_own hown)
 have hLB:=Lib.hid (hX3.trans (hX4.mono hX3.size))
 have hzw:=hLB.out.size
 by_cases hn:n=0
 ·have hn':((n:Int) !=0)=false:=by simp;omega
  go_wp2_with fail
  go_returns
  refine⟨w2,HR.out,Or.inl ⟨hn,_,a,c,rfl,hz,hV4.putL _,hB4.out.setAt v5 _⟩,hLB.out.setCell (p:=⟨w2.heap.size,5,none⟩) hz _⟩
 ·have hn':((n:Int) !=0)=true:=by simp;omega
  go_wp2_with fail
  go_returns
  exact⟨w2,HR.out,Or.inr ⟨hn,rfl⟩,hLB.out.setCell (p:=⟨w2.heap.size,5,none⟩) hz _⟩
structure JcS (w:World) (ks:List Nat):Prop where
 nd:ks.Nodup
 lt:∀b∈ks,b<w.heap.size
theorem JcS.on {w w':World} {ks:List Nat} (h:JcS w ks) (hs:w.heap.size<=w'.heap.size):JcS w' ks:=⟨h.nd,fun b hb=>Nat.lt_of_lt_of_le (h.lt b hb) hs⟩
theorem JcS.more {w w':World} {ks:List Nat} (h:JcS w ks) {b:Nat} (h1:w.heap.size<=b) (h2:b<w'.heap.size):JcS w' (ks++[b]):=
 ⟨List.nodup_append.2 ⟨h.nd,by simp,fun x hx y hy e=>by rw[List.mem_singleton] at hy;have:=h.lt x hx;omega⟩,fun x hx=>by
  rcases List.mem_append.1 hx with hx|hx
  ·have:=h.lt x hx;omega
  ·rw[List.mem_singleton] at hx;omega⟩
theorem Jem {tb b:Nat} {F B L:Int} {fid:FuncId} {xs ys:Array Value} {root:Nat} {h':Int} {gone:Value} {fl le:Int} {kn:Bool} {pa:Int} {pg ps:Nat} {lf cs us ks:Value} (k:Nat) (pay:List UInt8) (h:Int) (w:World)
  (ht:Yj w tb F B L (.func (.func fid) xs ys) root h' gone fl le) (hv:Jq w b kn pa pg ps false lf cs us ks) (R:World->Prop) (hRv:∀w2,R w2->Jq w2 b kn pa pg ps false lf cs us ks) (hl:Jj5 fid xs ys pa pg ps k pay 0 w R) (hk:k=5) (hh:1<h) (hp:pay.length<=10000):
  Calls Tryz.prog 50 #[.pointer (some ⟨tb,0,none⟩),.pointer (some ⟨b,0,none⟩),.int .i64 h] w fun e w'=>∃w2,R w2/\((∃N ob cs us ks a1 c1 a2 c2 a3 c3,w2.heap.size<=N/\Jqc w2 N pay pa pg ps e w' ob cs us ks a1 c1 a2 c2 a3 c3/\ks.Nodup/\ob<N)\/((∀cs us,YR cs us->pay≠Yl cs us)/\e=.returned (.tuple #[.pointer none,.bool false,.int .i64 10])))/\Below w2.heap.size w2 w':=by
 subst hk
 have HP:=Lib.hid (fun w'=>Jgf pay w' hp)
 have hh1:(h==1)=false:=by simp;omega
 have hh2:decide (1<h)=true:=by simpa using hh
 obtain⟨i0,hi,iz0,iz1,iz2⟩:=info_parts JfA
 have c4:=hv.c4
 have c1:=hv.c1
 have c2:=hv.c2
 have c3:=hv.c3
 have t3:=ht.c3
 have hent:=hl.ent
 go_enter Tryz.func50,Tryz.ntmps50
 go_upto_region 3 with(fail)
 go_cut [9,10,11] (fun s9 s10 s11 wx=>s9=.int .u8 (5:Nat)/\s10=.string (S pay)/\s11=.int .i64 0/\R wx)
 case first=>
  go_region_law (first|(go_simp;go_at_fn fid;refine(hl.go _ (Jb (Below.refl _ _))).mono ?_;rintro e w2 ⟨rfl,hR2⟩))
  all_goals
   go_wp2_with fail
   go_meet
   exact⟨rfl,rfl,rfl,hR2⟩
 case rest=>
 obtain⟨rfl,rfl,rfl,hR2⟩:=hcut
 obtain⟨w2,hw2⟩:∃w2,w2=wc:=⟨_,rfl⟩
 subst hw2
 have hv2:=hRv w2 hR2
 replace c1:=hv2.c1
 replace c2:=hv2.c2
 replace c3:=hv2.c3
 have HR:=Lib.hid hR2
 have hX2:=Below.refl w2.heap.size w2
 have hz:w2.heap.size<=w2.heap.size:=Nat.le_refl _
 clear hR2 hv2
 have HX2:=Lib.hid hX2
 clear hX2 hl
 go_upto_region 8 with(fail)
 obtain⟨W,hW⟩:∃W,W=w2.alloc (.cells (YH true pa pg ps true (.slice none 0 0) (.slice none 0 0) (.slice none 0 0) (.slice none 0 0)).toArray 108):=⟨_,rfl⟩
 have hV:Jq W w2.heap.size true pa pg ps true (.slice none 0 0) (.slice none 0 0) (.slice none 0 0) (.slice none 0 0):=⟨by rw[hW];exact Jc.new _ _ _⟩
 have hX3:Below w2.heap.size w2 W:=by rw[hW];exact HX2.out.alloc hz _
 have e0:w2.alloc (.cells #[.bool true,.int .i64 pa,.int .u64 pg,.int .u32 ps,.bool true,.slice none 0 0,.slice none 0 0,.slice none 0 0,.slice none 0 0] 108)=W:=hW.symm
 rw[e0]
 clear e0 hW HX2 c1 c2 c3
 go_wp2_with fail
 refine(Jl (HP.out W) W.heap.size W (Below.refl _ _) (Nat.le_refl _)).mono ?_
 rintro e w4 ⟨hres,hX4,-,-,-,hz4⟩
 have hV4:=hV.on hX4
 have hLB:=Lib.hid (hX3.trans (hX4.mono hX3.size))
 have hzw:=hLB.out.size
 have hob:=hV4.lt
 have v6:=hV4.c6
 have v7:=hV4.c7
 have f6:=hV4.fz 6
 have f7:=hV4.fz 7
 rcases hres with⟨cs,us,v,h1,h2,rfl,h4,h5⟩|⟨hno,rfl⟩
 ·obtain⟨a1,a2,x1,x2,rfl,hsc,hsu⟩:=h4
  obtain⟨a1',y1,a2',y2,ev,hrc,hru⟩:=h5
  simp only[Value.agg.injEq,Array.mk.injEq,List.cons.injEq,Value.slice.injEq,and_true,true_and] at ev
  obtain⟨⟨rfl,rfl⟩,rfl,rfl⟩:=ev
  have HRC:=Lib.hid hrc
  have HRU:=Lib.hid hru
  have hWob:w2.heap.size<W.heap.size:=hV.lt
  clear hrc hru
  have HN4:=Lib.hid (show JA w4 (.agg #[.slice a1 cs.length x1,.slice a2 us.length x2]) cs us from⟨a1,a2,x1,x2,rfl,hsc,hsu⟩)
  have HTX:=Lib.hid h1
  have HOK:=Lib.hid h2
  clear hsc hsu h1 h2
  go_upto_region 12 with(fail)
  obtain⟨w5,hw5⟩:∃w5,w5=(w4.setCell ⟨w2.heap.size,6,none⟩ (.slice a1 cs.length x1)).setCell ⟨w2.heap.size,7,none⟩ (.slice a2 us.length x2):=⟨_,rfl⟩
  have hV5:Jq w5 w2.heap.size true pa pg ps true (.slice none 0 0) (.slice a1 cs.length x1) (.slice a2 us.length x2) (.slice none 0 0):=by rw[hw5];exact hV4.putN _ _
  have HN5:=Lib.hid (show JA w5 (.agg #[.slice a1 cs.length x1,.slice a2 us.length x2]) cs us by
   rw[hw5]
   exact(HN4.out.setAt v6 _).setAt (p:=⟨w2.heap.size,7,none⟩) ((World.cell?_setCell_other _ _ _ _ (Jp (Or.inr (by decide)))).trans v7) _)
  have hL5:Below w2.heap.size w2 w5:=by rw[hw5];exact(hLB.out.setCell (p:=⟨w2.heap.size,6,none⟩) hz _).setCell (p:=⟨w2.heap.size,7,none⟩) hz _
  have HRC5:=Lib.hid (show w5.ownsRow W.heap.size 179 4 (.slice a1 cs.length x1) cs.length (cellsC cs) by
   rw[hw5]
   exact ownsRow_setCell_other (a:=⟨w2.heap.size,7,none⟩) (ownsRow_setCell_other (a:=⟨w2.heap.size,6,none⟩) HRC.out (fun e=>by have:=(HRC.out.lt w2.heap.size e).1;omega) _) (fun e=>by have:=(HRC.out.lt w2.heap.size e).1;omega) _)
  have HRU5:=Lib.hid (show w5.ownsRow W.heap.size 39 4 (.slice a2 us.length x2) us.length (cellsU us) by
   rw[hw5]
   exact ownsRow_setCell_other (a:=⟨w2.heap.size,7,none⟩) (ownsRow_setCell_other (a:=⟨w2.heap.size,6,none⟩) HRU.out (fun e=>by have:=(HRU.out.lt w2.heap.size e).1;omega) _) (fun e=>by have:=(HRU.out.lt w2.heap.size e).1;omega) _)
  have HWW:=Lib.hid (show w2.heap.size<=W.heap.size by omega)
  have HWO:=Lib.hid hWob
  rw[<-hw5]
  clear hw5 v6 v7 f6 f7 hLB hzw hX3 hX4 hV hz4 HN4 HRC HRU hWob
  have hob5:=hV5.lt
  have v6:=hV5.c6
  go_wp2_with fail
  go_loopw [78] (fun i wr=>∃(j:Nat) (ks:List Nat) (a3:Option Addr) (c3:Nat),i=.int .i64 j/\j<=cs.length/\Hid (JcR w5 w2.heap.size pa pg ps a1 x1 (.slice a2 us.length x2) cs ks a3 c3 j wr/\JcS wr ks)) (fun i _=>cs.length- (intOf i).toNat)
  case atStart=>exact⟨0,[],none,0,rfl,Nat.zero_le _,Lib.hid ⟨⟨Jg.refl _ _,hV5,World.ownsRow_nil _ _ _ _,rfl,fun i c _ h=>absurd h (Nat.not_lt_zero _)⟩,by simp,fun b hb=>by simp at hb⟩⟩
  case round=>
   obtain⟨j,ks,a3,c3,rfl,hj,HK⟩:=hrel
   have hj0:(0:Int)<=(j:Int):=Int.natCast_nonneg _
   by_cases hjl:j<cs.length
   ·have hj1:(j:Int)<(cs.length:Int):=by omega
    obtain⟨b0,off,ea,hb,t0,t1,t2,t3⟩:=(SlC.at ((HN5.out.keep HK.out.1.keep (fun x hx=>by subst hx;exact hV5.noStr)).parts.1)).cells4C j hjl
    subst ea
    have HCJ:=Lib.hid (List.getElem?_eq_getElem hjl)
    have hlc:cs.length<=16:=HOK.out.kids.len.2
    generalize cs[j]=ch at*
    obtain⟨low,ad,ge,su⟩:=ch
    dsimp only at t0 t1 t2 t3
    go_upto_region 15 with(fail)
    obtain⟨W1,hW1⟩:∃W1,W1=wr.alloc (.cells #[.string (S low),.int .i64 ad,.int .u64 ge,.int .u32 su] 179):=⟨_,rfl⟩
    have hX1:Below wr.heap.size wr W1:=by rw[hW1];go_grown
    have g1:W1.cell? ⟨wr.heap.size,1,none⟩=some (.int .i64 ad):=by rw[hW1,World.cell?_alloc_at _ _ _ _ rfl];rfl
    have g2:W1.cell? ⟨wr.heap.size,2,none⟩=some (.int .u64 ge):=by rw[hW1,World.cell?_alloc_at _ _ _ _ rfl];rfl
    have g3:W1.cell? ⟨wr.heap.size,3,none⟩=some (.int .u32 su):=by rw[hW1,World.cell?_alloc_at _ _ _ _ rfl];rfl
    have HK1:=Lib.hid (And.intro (HK.out.1.on hX1) (HK.out.2.on hX1.size))
    rw[<-hW1]
    clear hW1 hX1 t0 t1 t2 t3 hb HK
    have p8:=HK1.out.1.vx.c8
    have hlt1:=HK1.out.1.vx.lt
    have hw5:=HK1.out.1.keep.size
    have p8a:∀x,(W1.alloc x).cell? ⟨w2.heap.size,8,none⟩=some (.slice a3 j c3):=fun x=>(World.cell?_alloc_past _ _ _ hlt1).trans p8
    have p8b:∀x y,((W1.alloc x).alloc y).cell? ⟨w2.heap.size,8,none⟩=some (.slice a3 j c3):=fun x y=>(World.cell?_alloc_past _ _ _ (by simp;omega)).trans (p8a x)
    obtain⟨W3,hW3⟩:∃W3,W3=((W1.alloc (.cells #[.bool true,.int .i64 ad,.int .u64 ge,.int .u32 su,.bool false,.slice none 0 0,.slice none 0 0,.slice none 0 0,.slice none 0 0] 108)).alloc (.cells #[.pointer (some ⟨W1.heap.size,0,none⟩)] 97)).drew:=⟨_,rfl⟩
    have hX3:Below W1.heap.size W1 W3:=by rw[hW3];exact Jb (((Below.refl _ _).alloc (Nat.le_refl _) _).alloc (by simp) _)
    have HK3:=Lib.hid (HK1.out.1.on hX3)
    have hlt3:W1.heap.size<W3.heap.size:=by rw[hW3];simp;omega
    have hkn:Jcs W3 W1.heap.size ⟨low,ad,ge,su⟩:=by
     rw[hW3]
     exact⟨((Jc.new W1 108 (YH true ad ge su false (.slice none 0 0) (.slice none 0 0) (.slice none 0 0) (.slice none 0 0))).alloc _).drew⟩
    have hrow:=Jt HK3.out.row
    have hcell:∀i u,[vp W1.heap.size][i]? =some u->W3.cell? ((⟨W1.heap.size+1,0,none⟩:Addr).add i)=some u:=fun i u hu=>by
     rw[hW3]
     exact Jj (XF _ _ (by simp) _ _ i u hu)
    go_region_law (first|(rw[<-hW3];refine Jbb (by rfl) _ _ 106 (by rfl) w5.heap.size 97 i0 (.pointer none) 1 8 Tryz.underlying106 hi iz0 iz1 iz2 rfl (by decide) _ j _ (by rfl) HK3.out.row ⟨W1.heap.size+1,0,none⟩ 1 1 [vp W1.heap.size] (by rfl) (by rfl) hcell (fun u hu=>by rw[List.mem_singleton] at hu;rw[hu];rfl) (by unfold maxLen;omega) (by omega) (by have:=hX3.size;omega) ?_;intro vz wz hownwz hgrowwz hbz;obtain⟨ac,yc,rfl⟩:=Jm hownwz;have hNe:some w2.heap.size≠(Value.slice a3 j c3).ownBlock:=(fun e=>by have:=(HK3.out.row.lt _ e.symm).1;omega);have z8:=hgrowwz.cell HK3.out.vx.c8 hNe;have zf:=(World.frozen?_of_block (hgrowwz.block w2.heap.size HK3.out.vx.lt hNe)).trans (HK3.out.vx.fz 8);have HGR:=Lib.hid (And.intro (HK3.out.more hkn hw5 HCJ.out hgrowwz hownwz hob5 hrow) (HK1.out.2.more (w':=wz.setCell ⟨w2.heap.size,8,none⟩ (.slice ac (j+1) yc)) (Nat.le_refl _) (by rw[World.size_setCell];have:=hgrowwz.size;omega)));clear hownwz hgrowwz hbz hNe))
    all_goals
     go_wp2_with fail
     exact⟨⟨j+1,_,ac,yc,by go_num,by omega,HGR⟩,by simp[intOf];omega⟩
   ·obtain rfl:j=cs.length:=by omega
    go_wp2_with fail
    go_returns
    refine⟨w2,HR.out,Or.inl ⟨w5.heap.size,w2.heap.size,cs,us,ks,a1,x1,a2,x2,a3,c3,by have:=hL5.size;omega,⟨rfl,HTX.out,HOK.out,hz,HK.out.1.vx,HN5.out.keep HK.out.1.keep (fun x hx=>by subst hx;exact hV5.noStr),HK.out.1.row,JI (YK HRC5.out HK.out.1.keep (fun g e q=>by subst q;have:=(HRC5.out.lt _ e).1;have:=HWO.out;omega)) HWW.out,JI (YK HRU5.out HK.out.1.keep (fun g e q=>by subst q;have:=(HRU5.out.lt _ e).1;have:=HWO.out;omega)) HWW.out,HK.out.1.len,fun i c hc=>HK.out.1.kid i c hc (List.getElem?_eq_some_iff.1 hc).1⟩,HK.out.2.nd,hob5⟩,hL5.trans (HK.out.1.keep.below hL5.size (fun x hx=>by subst hx;exact hz))⟩
 ·go_upto_region 12 with(fail)
  obtain⟨w5,hw5⟩:∃w5,w5=(w4.setCell ⟨w2.heap.size,6,none⟩ (.slice none 0 0)).setCell ⟨w2.heap.size,7,none⟩ (.slice none 0 0):=⟨_,rfl⟩
  have hV5:Jq w5 w2.heap.size true pa pg ps true (.slice none 0 0) (.slice none 0 0) (.slice none 0 0) (.slice none 0 0):=by rw[hw5];exact hV4.putN _ _
  have hL5:Below w2.heap.size w2 w5:=by rw[hw5];exact(hLB.out.setCell (p:=⟨w2.heap.size,6,none⟩) hz _).setCell (p:=⟨w2.heap.size,7,none⟩) hz _
  rw[<-hw5]
  clear hw5 v6 v7 f6 f7
  have v6:=hV5.c6
  go_wp2_with fail
  go_loopw [78] (fun i wr=>i=.int .i64 0/\wr=w5) (fun _ _=>0)
  case atStart=>exact⟨rfl,rfl⟩
  case round=>
   obtain⟨rfl,rfl⟩:=hrel
   go_wp2_with fail
   go_returns
   exact⟨w2,HR.out,Or.inr ⟨hno,rfl⟩,hL5⟩
end Go.Proofs.YtafciefjlkdecaaGreat
namespace Go.Proofs.YtafciefjlkdecaaGreat
open Go.RowKit
theorem Jis {e:Ent} (h1:e.key.length<=255) (h2:e.val.length<=255) (r:List UInt8):XM (e.bytes++r)=some (e,r):=by
 unfold XM
 rw[Jdn,List.append_assoc,YE _ _ h1]
 dsimp only
 rw[YE _ _ h2]
 rfl
theorem JgH:∀(l:List Ent),ZI l->Z1 (JO l)=some l
 |[],_=>JiP
 |e::l,h=>by
  have he:=h e (by simp)
  have ih:=JgH l fun x hx=>h x (List.mem_cons_of_mem _ hx)
  have e1:JO (e::l)=e.bytes++JO l:=by unfold JO;rw[List.flatMap_cons]
  rw[e1,JgI (by rw[Jdn];simp[Yo]) (Jis (by omega) (by omega) _),ih]
  rfl
theorem Jea {l:List Ent} (h:ZI l) (hr:Je Ent.key l):ZO (JO l)=(l,0):=JdF (JgH l h) ((Jcx l).2 ⟨h,hr⟩)
theorem Jcy {n:Nat} {v:Vt} {N:Nat} (h:pot (n+1) v<=N):v.us.length<=N/\v.ch.length<=N+2:=by
 rw[JP] at h
 have h1:JM v.ch.length<=JM v.ch.length*2^(n+1):=Nat.le_mul_of_pos_right _ (Nat.pow_pos (by omega))
 have h2:v.ch.length<=JM v.ch.length+2:=by unfold JM;omega
 omega
theorem Jas {v:Vt} {N:Nat} (h:pot 0 v<=N):v.es.length<=N+2:=by
 rw[Z8] at h
 have h2:v.es.length<=JM v.es.length+2:=by unfold JM;omega
 omega
theorem Jai {n:Nat} {v:Vt} {N:Nat} (h:pot (n+1) v<=N) {x:Chd×Vt} (hx:x∈v.ch):pot n x.2<=N:=by
 rw[JP] at h
 have:=Jhy (f:=pot n) hx
 omega
def Jd0 (f:Int->Option Blk):Prop:=∀a,f a≠none->0<=a/\a<1000000
inductive Jo9 (K:Kx) (root h:Nat) (T:Tx) (n:Nat) (v:Vt) (w:World) (e:Ending) (w':World):Prop
 |here (hl:v.ld=true) (he:e=.returned (.tuple #[.pointer (some ⟨v.b,0,none⟩),.bool false,.int .i64 0])) (hb:Below w.heap.size w w')
 |came (v':Vt) (hl:v.ld=false) (he:e=.returned (.tuple #[.pointer (some ⟨v'.b,0,none⟩),.bool true,.int .i64 0])) (hL:YM v {v' with b:=v.b}) (hm:Mem w' n v') (hn:(blocks n v').Nodup) (hb:∀b∈blocks n v',w.heap.size<=b) (c:CAt w' K root h {T with wr:=T.wr-1}) (hk:Jg (fun x=>x=K.sb) w w')
 |failed (hl:v.ld=false) (he:e=.returned (.tuple #[.pointer none,.bool false,.int .i64 10])) (hw:0<T.wr) (c:CAt w' K root h {T with wr:=0}) (hk:Jg (fun x=>x=K.sb) w w')
theorem CAt.count {w w2:World} {K:Kx} {root h:Nat} {T:Tx} (c:CAt w K root h T) (hk:Jg (fun x=>x=K.sb) w w2) {wr':Nat} (hs:Js w2 K.sb K.mb K.nn K.sz K.f K.gen wr'):CAt w2 K root h {T with wr:=wr'}:=
 ⟨⟨hk.row c.tr.row fun e=>by
  have e':K.tb=K.sb:=e
  have:=c.tr.row
  rw[e'] at this
  exact absurd (this.one c.sh.row).1 (by decide)⟩,c.gn.keep hk fun x hx e=>by
  have e':x=K.sb:=e
  obtain⟨cur',hc⟩:=Jt c.gn.own x hx
  rw[e'] at hc
  exact absurd (hc.one c.sh.row).1 (by decide),hs⟩
theorem Jde {w:World} {K:Kx} {root h:Nat} {T:Tx} (c:CAt w K root h T) (p:Pt) (bk:Blk) (hN:Jd0 K.f) (hf:K.f p.a=some bk) (hg:bk.gen=p.g) (hwr:T.wr<=1000) (hw:T.wr≠1):
  Jj5 11 #[.pointer (some ⟨K.sb,0,none⟩)] #[] p.a p.g p.s bk.kind bk.pay 0 w (fun w2=>CAt w2 K root h {T with wr:=T.wr-1}/\Jg (fun x=>x=K.sb) w w2):=
 ⟨enters_of Tryz.func11 (by kernel_rfl) rfl,fun w1 hX=>by
  have h1:=Jjf p bk w1 (c.sh.on hX) hwr (hN p.a (by rw[hf];simp)) hf hg
  refine(show Calls Tryz.prog 11 #[.pointer (some ⟨K.sb,0,none⟩),.agg #[.int .i64 p.a,.int .u64 p.g,.int .u32 p.s]] w1 _ from h1).mono ?_
  rintro e w2 ⟨⟨h0,-⟩|⟨-,rfl⟩,hs,hk⟩
  ·exact absurd h0 hw
  ·exact⟨rfl,(c.on hX).count hk hs,(Jg.of_below hX).trans' hk⟩⟩
theorem Jfs {w:World} {K:Kx} {root h:Nat} {T:Tx} (c:CAt w K root h T) (p:Pt) (bk:Blk) (hN:Jd0 K.f) (hf:K.f p.a=some bk) (hg:bk.gen=p.g) (hw:T.wr=1):
  Jj5 11 #[.pointer (some ⟨K.sb,0,none⟩)] #[] p.a p.g p.s 0 [] 10 w (fun w2=>CAt w2 K root h {T with wr:=0}/\Jg (fun x=>x=K.sb) w w2):=
 ⟨enters_of Tryz.func11 (by kernel_rfl) rfl,fun w1 hX=>by
  have h1:=Jjf p bk w1 (c.sh.on hX) (by omega) (hN p.a (by rw[hf];simp)) hf hg
  refine(show Calls Tryz.prog 11 #[.pointer (some ⟨K.sb,0,none⟩),.agg #[.int .i64 p.a,.int .u64 p.g,.int .u32 p.s]] w1 _ from h1).mono ?_
  rintro e w2 ⟨⟨-,rfl⟩|⟨h0,-⟩,hs,hk⟩
  ·refine⟨rfl,(c.on hX).count hk (wr':=0) ?_,(Jg.of_below hX).trans' hk⟩
   rw[hw] at hs
   exact hs
  ·exact absurd hw h0⟩
theorem Jft {w:World} {n:Nat} {N:Nat}:∀ {l:List (Chd×Vt)},(∀x∈l,Mem w n x.2/\x.2.ld=false)->l.flatMap (fun x=>blocks n x.2)=l.map fun x=>x.2.b
 |[],_=>rfl
 |x::l,h=>by
  have hx:=h x (by simp)
  have ih:=Jft (w:=w) (n:=n) (N:=N) fun y hy=>h y (List.mem_cons_of_mem _ hy)
  have e:blocks n x.2=[x.2.b]:=by
   cases n with
   |zero=>exact J8 _ hx.1.1
   |succ n=>
    rw[Y1 n _ hx.1.1]
    rcases hx.1.2 with⟨q,-⟩|⟨q,k⟩
    ·rw[q.ld] at hx;simp at hx
    ·have:x.2.ch.flatMap (fun y=>blocks n y.2)=[]:=by
      rw[List.flatMap_eq_nil_iff]
      intro y hy
      exact(k y hy).blocks
     rw[this]
  rw[List.flatMap_cons,List.map_cons,ih,e]
  rfl
def YO (l:List (Chd×Vt)) (ks:List Nat):List (Chd×Vt):=List.zipWith (fun(x:Chd×Vt) (b:Nat)=>(x.1,{x.2 with b:=b,mem:=true})) l ks
theorem Jkz {l:List (Chd×Vt)} {ks:List Nat} (h:ks.length=l.length):(YO l ks).length=l.length:=by unfold YO;rw[List.length_zipWith];omega
theorem Jbw:∀ {l:List (Chd×Vt)} {ks:List Nat},ks.length=l.length->(YO l ks).map Zr=l.map Zr
 |[],[],_=>rfl
 |[],_::_,h=>by simp at h
 |_::_,[],h=>by simp at h
 |x::l,k::ks,h=>by
  rw[show YO (x::l) (k::ks)=(x.1,{x.2 with b:=k,mem:=true})::YO l ks from rfl,List.map_cons,List.map_cons,Jbw (by simpa using h)]
  rfl
theorem Jfc:∀ {l:List (Chd×Vt)} {ks:List Nat},ks.length=l.length->(YO l ks).map (fun x=>x.2.b)=ks
 |[],[],_=>rfl
 |[],_::_,h=>by simp at h
 |_::_,[],h=>by simp at h
 |x::l,k::ks,h=>by
  rw[show YO (x::l) (k::ks)=(x.1,{x.2 with b:=k,mem:=true})::YO l ks from rfl,List.map_cons,Jfc (by simpa using h)]
theorem Jfb:∀ {l:List (Chd×Vt)} {ks:List Nat} {y:Chd×Vt},y∈YO l ks->∃(i:Nat) (x:Chd×Vt) (b:Nat),l[i]? =some x/\ks[i]? =some b/\y=(x.1,{x.2 with b:=b,mem:=true})
 |[],_,y,h=>by simp[YO] at h
 |_::_,[],y,h=>by simp[YO] at h
 |x::l,k::ks,y,h=>by
  rcases List.mem_cons.1 (show y∈(x.1,{x.2 with b:=k,mem:=true})::YO l ks from h) with rfl|h
  ·exact⟨0,x,k,rfl,rfl,rfl⟩
  ·obtain⟨i,x',b,h1,h2,h3⟩:=Jfb h
   exact⟨i+1,x',b,h1,h2,h3⟩
theorem Jq1 {n:Nat} {t:Vt} (h:Dsk n t) (b:Nat):∀ {w:World} {c:Chd},t.kn=some ⟨c.addr,c.gen,c.sum⟩->Jcs w b c->Mem w n {t with b:=b,mem:=true}:=by
 intro w c hk hv
 have h0:=h.out
 cases n with
 |zero=>exact⟨rfl,Or.inr ⟨h0.2.1,_,hk,hv⟩⟩
 |succ n=>exact⟨rfl,Or.inr ⟨⟨h0.2.1,_,hk,hv⟩,h.2⟩⟩
theorem JkA {l:List (Chd×Vt)} {ks:List Nat} (h:ks.length=l.length):(YO l ks).map Prod.fst=l.map Prod.fst:=by
 have:=congrArg (List.map Prod.fst) (Jbw h)
 rw[List.map_map,List.map_map] at this
 exact this
theorem Mem.node {w:World} {n:Nat} {v:Vt} (h:Mem w (n+1) v) (hl:v.ld=true):Zh w v/\∀x∈v.ch,Mem w n x.2:=by
 rcases h.2 with q|q
 ·exact q
 ·rw[q.1.ld] at hl;cases hl
theorem Mem.far {w:World} {n:Nat} {v:Vt} (h:Mem w (n+1) v) (hl:v.ld=false):Jd1 w v/\∀x∈v.ch,Dsk n x.2:=by
 rcases h.2 with q|q
 ·rw[q.1.ld] at hl;cases hl
 ·exact q
theorem Mem.leaf {w:World} {v:Vt} (h:Mem w 0 v) (hl:v.ld=true):Jcq w v:=by
 rcases h.2 with q|q
 ·exact q
 ·rw[q.ld] at hl;cases hl
theorem Mem.far0 {w:World} {v:Vt} (h:Mem w 0 v) (hl:v.ld=false):Jd1 w v:=by
 rcases h.2 with q|q
 ·rw[q.ld] at hl;cases hl
 ·exact q
theorem Jg6 {K:Kx} {root h:Nat} {T:Tx} {n:Nat} {v:Vt} {lo hi:List UInt8} (hh:Int) (w:World) (hhn:hh=(n:Int)+1) (c:CAt w K root h T) (hm:Mem w n v) (ho:Ok n lo hi v) (hs:Shf K.f n v) (hN:Jd0 K.f) (hp:pot n v<=1000) (hwr:T.wr<=1000):
  Calls Tryz.prog 50 #[.pointer (some ⟨K.tb,0,none⟩),.pointer (some ⟨v.b,0,none⟩),.int .i64 hh] w fun e w'=>Jo9 K root h T n v w e w':=by
 cases hl:v.ld with
 |true=>
  cases n with
  |zero=>
   obtain⟨pa,pg,ps,a,x,h1,-⟩:=(hm.leaf hl).ex
   refine(JbF _ hh w h1).mono ?_
   rintro e w' ⟨he,hb⟩
   exact .here hl he hb
  |succ n=>
   obtain⟨pa,pg,ps,a1,x1,a2,x2,a3,x3,h1,-⟩:=(hm.node hl).1.ex
   refine(JbF _ hh w h1).mono ?_
   rintro e w' ⟨he,hb⟩
   exact .here hl he hb
 |false=>
  have hfar:Jd1 w v:=by
   cases n with
   |zero=>exact hm.far0 hl
   |succ n=>exact(hm.far hl).1
  obtain⟨p,hk,hv⟩:=hfar.ex
  have hvb:∀w2,Jg (fun x=>x=K.sb) w w2->Jcs w2 v.b ⟨[],p.a,p.g,p.s⟩:=fun w2 hk2=>hk2.vx hv fun e=>by
   have e':v.b=K.sb:=e
   obtain⟨cur,hc⟩:=hm.cells v.b hm.head
   exact(c.notVx hc).1 (Or.inr (Or.inl e'))
  by_cases hw1:T.wr=1
  ·have hbk:∃bk:Blk,K.f p.a=some bk/\bk.gen=p.g:=by
    cases n with
    |zero=>exact⟨_,hs p hk,rfl⟩
    |succ n=>exact⟨_,(hs.1 p hk).1,rfl⟩
   obtain⟨bk,hf,hg⟩:=hbk
   refine(JcI 0 [] 10 hh w c.tr hv _ (Jfs c p bk hN hf hg hw1) (by decide)).mono ?_
   rintro e w' ⟨he,h1,h2⟩
   exact .failed hl he (by omega) h1 h2
  ·cases n with
   |zero=>
    have hf:=hs p hk
    have hlen:(JO v.es).length<=100000:=by
     have h1:=Jan v.es ho.fine
     have h2:=Jas hp
     omega
    refine(Jen 4 (JO v.es) hh w c.tr hv _ (fun w2 q=>hvb w2 q.2) (Jde c p _ hN hf rfl hwr hw1) rfl (by simpa using hhn) hlen 0 v.es (Jea ho.fine ho.rise0)).mono ?_
    rintro e w' ⟨w2,⟨h1,h2⟩,⟨-,b',a,x,he,hb',hv',hbx⟩|⟨h0,-⟩,hX⟩
    ·refine .came {v with b:=b',ld:=true} hl he ⟨rfl,rfl,rfl,rfl,rfl,rfl,rfl⟩ ⟨hm.in,Or.inl ⟨rfl,p.a,p.g,p.s,a,x,?_,?_,hbx⟩⟩ ?_ ?_ (h1.on hX) (h2.on hX)
     ·show Jq w' b' v.kn.isSome _ _ _ _ _ _ _ _
      rw[hk]
      exact hv'
     ·intro q hq
      rw[show v.kn=some q from hq] at hk
      cases hk
      exact⟨rfl,rfl,rfl⟩
     ·rw[J8 {v with b:=b',ld:=true} hm.in];simp
     ·intro b hb
      rw[J8 {v with b:=b',ld:=true} hm.in,List.mem_singleton] at hb
      rw[hb]
      exact Nat.le_trans h2.size hb'
    ·exact absurd rfl h0
   |succ n=>
    obtain⟨hf,hok,hkn⟩:=hs.1 p hk
    have hdsk:=(hm.far hl).2
    refine(Jem 5 (Yl v.cs v.us) hh w c.tr hv _ (fun w2 q=>hvb w2 q.2) (Jde c p _ hN hf rfl hwr hw1) rfl (by omega) (by have:=Jgt hok;omega)).mono ?_
    rintro e w' ⟨w2,⟨h1,h2⟩,⟨N,ob,cs,us,ks,a1,c1,a2,c2,a3,c3,hNw,hG,hnd,hob⟩|⟨hno,-⟩,hX⟩
    ·obtain⟨rfl,rfl⟩:=Jgu hG.ok hok hG.text
     have hkl:ks.length=v.ch.length:=by rw[hG.len,List.length_map]
     have hpl:=Jkz hkl
     have hkid:∀x∈YO v.ch ks,Mem w' n x.2/\x.2.ld=false:=fun x hx=>by
      obtain⟨i,y,b,g1,g2,rfl⟩:=Jfb hx
      obtain⟨b',k1,k2,-⟩:=hG.kid i y.1 (by rw[List.getElem?_map,g1];rfl)
      rw[g2] at k1
      obtain rfl:=Option.some.inj k1
      have hy:=List.mem_of_getElem? g1
      exact⟨Jq1 (hdsk y hy) b (hkn y hy) k2,(hdsk y hy).out.2.1⟩
     have hblk:blocks (n+1) {v with b:=ob,ld:=true,ch:=YO v.ch ks}=ob::ks:=by
      rw[Y1 n {v with b:=ob,ld:=true,ch:=YO v.ch ks} hm.in,Jft (w:=w') (N:=0) hkid,Jfc hkl]
     have hge:∀b∈ks,N<=b:=fun b hb=>by
      obtain⟨i,hi,e⟩:=List.getElem_of_mem hb
      obtain⟨b',k1,-,k3⟩:=hG.kid i (v.cs[i]'(by rw[List.length_map];omega)) (List.getElem?_eq_getElem _)
      rw[List.getElem?_eq_getElem hi,e] at k1
      rw[Option.some.inj k1]
      exact k3
     refine .came {v with b:=ob,ld:=true,ch:=YO v.ch ks} hl hG.ret ⟨rfl,rfl,rfl,rfl,rfl,rfl,Jbw hkl⟩ ⟨hm.in,Or.inl ⟨⟨rfl,p.a,p.g,p.s,a1,c1,a2,c2,a3,c3,?_,?_,?_,?_⟩,fun x hx=>(hkid x hx).1⟩⟩ ?_ ?_ (h1.on hX) (h2.on hX)
     ·show Jq w' ob v.kn.isSome _ _ _ _ _ (.slice a1 (YO v.ch ks).length c1) _ (.slice a3 (YO v.ch ks).length c3)
      rw[hk,hpl]
      have:=hG.vx
      rw[List.length_map] at this
      exact this
     ·intro q hq
      rw[show v.kn=some q from hq] at hk
      cases hk
      exact⟨rfl,rfl,rfl⟩
     ·show JA w' (.agg #[.slice a1 (YO v.ch ks).length c1,.slice a2 v.us.length c2]) ((YO v.ch ks).map Prod.fst) v.us
      rw[hpl,JkA hkl]
      have:=hG.node
      rw[List.length_map] at this
      exact this
     ·show Xu w' (.slice a3 (YO v.ch ks).length c3) ((YO v.ch ks).map fun x=>x.2.b)
      rw[Jfc hkl,hpl]
      have:=hG.row
      rw[List.length_map] at this
      show w'.ownsRow 0 97 1 (.slice a3 v.ch.length c3) ks.length (ks.map vp)
      rw[hkl]
      exact JI this (Nat.zero_le _)
     ·rw[hblk,List.nodup_cons]
      exact⟨fun hq=>by have:=hge ob hq;omega,hnd⟩
     ·intro b hb
      rw[hblk] at hb
      have hsz:=h2.size
      have hnew:=hG.new
      rcases List.mem_cons.1 hb with rfl|hb
      ·omega
      ·have:=hge b hb;omega
    ·exact absurd rfl (hno v.cs v.us hok)
open Go.RowKit
theorem Jfn {P Q Q' R:List Nat} {N:Nat} (h:(P++(Q++R)).Nodup) (hQ:Q'.Nodup) (hf:∀b∈Q',b∈Q\/N<=b) (hP:∀b∈P,b<N) (hR:∀b∈R,b<N):(P++(Q'++R)).Nodup:=by
 rw[List.nodup_append] at h⊢
 obtain⟨h1,h2,h3⟩:=h
 rw[List.nodup_append] at h2⊢
 obtain⟨k1,k2,k3⟩:=h2
 refine⟨h1,⟨hQ,k2,fun a ha b hb e=> ?_⟩,fun a ha b hb e=> ?_⟩
 ·rcases hf a ha with q|q
  ·exact k3 a q b hb e
  ·have:=hR b hb;omega
 ·rcases List.mem_append.1 hb with q|q
  ·rcases hf b q with q|q
   ·exact h3 a ha b (List.mem_append_left _ q) e
   ·have:=hP a ha;omega
  ·exact h3 a ha b (List.mem_append_right _ q) e
def Jy (n:Nat) (l:List (Chd×Vt)):List Nat:=l.flatMap fun x=>blocks n x.2
theorem JN (n:Nat) (a b:List (Chd×Vt)):Jy n (a++b)=Jy n a++Jy n b:=by simp[Jy]
theorem J3 (n:Nat) (x:Chd×Vt) (l:List (Chd×Vt)):Jy n (x::l)=blocks n x.2++Jy n l:=rfl
theorem Jao (n:Nat) (l:List (Chd×Vt)):Jy n (Jk l)=Jy n l:=Jjy (blocks n) l
theorem JL {n:Nat} {v:Vt} (hm:v.mem=true):blocks (n+1) v=v.b::Jy n v.ch:=Y1 n v hm
theorem Zh.like {w:World} {v v':Vt} (h:Zh w v) (h1:v'.b=v.b) (h2:v'.ld=v.ld) (h3:v'.kn=v.kn) (h4:v'.us=v.us) (h5:v'.cs=v.cs) (h6:v'.ch.map (fun x=>x.2.b)=v.ch.map (fun x=>x.2.b)):Zh w v':=by
 have hl:v'.ch.length=v.ch.length:=by
  have:=congrArg List.length h5
  rwa[List.length_map,List.length_map] at this
 obtain⟨g,pa,pg,ps,a1,c1,a2,c2,a3,c3,g1,g2,g3,g4⟩:=h
 refine⟨by rw[h2];exact g,pa,pg,ps,a1,c1,a2,c2,a3,c3,?_,?_,?_,?_⟩
 ·rw[h1,h3,hl,h4];exact g1
 ·rw[h3];exact g2
 ·rw[hl,h4,h5];exact g3
 ·rw[hl,h6];exact g4
structure Mv (K:Kx) (root h n:Nat) (w:World) (v:Vt) (T:Tx) (w':World) (v':Vt) (T':Tx):Prop where
 mem:Mem w' n v'
 nodup:(blocks n v').Nodup
 fresh:∀b∈blocks n v',b∈blocks n v\/w.heap.size<=b
 b:v'.b=v.b
 cx:CAt w' K root h T'
 gvb:∀x,T'.gv.ownBlock=some x->T.gv.ownBlock=some x\/w.heap.size<=x
 keep:Jg (fun x=>Own K T x\/x∈blocks n v) w w'
section
variable {K:Kx} {root h n:Nat} {w w1 w2:World} {v v1 v2:Vt} {T T1 T2:Tx}
theorem Mv.refl (hm:Mem w n v) (hn:(blocks n v).Nodup) (c:CAt w K root h T):Mv K root h n w v T w v T:=
 ⟨hm,hn,fun _ q=>Or.inl q,rfl,c,fun _ q=>Or.inl q,Jg.refl _ _⟩
theorem Mv.trans (a:Mv K root h n w v T w1 v1 T1) (b:Mv K root h n w1 v1 T1 w2 v2 T2):Mv K root h n w v T w2 v2 T2:=by
 have hs:=a.keep.size
 refine⟨b.mem,b.nodup,fun x hx=> ?_,b.b.trans a.b,b.cx,fun x hx=> ?_,a.keep.trans b.keep fun x hx=> ?_⟩
 ·rcases b.fresh x hx with q|q
  ·exact a.fresh x q
  ·exact Or.inr (by omega)
 ·rcases b.gvb x hx with q|q
  ·exact a.gvb x q
  ·exact Or.inr (by omega)
 ·rcases hx with(q|q|q)|q
  ·exact Or.inl (Or.inl (Or.inl q))
  ·exact Or.inl (Or.inl (Or.inr (Or.inl q)))
  ·rcases a.gvb x q with k|k
   ·exact Or.inl (Or.inl (Or.inr (Or.inr k)))
   ·exact Or.inr k
  ·rcases a.fresh x q with k|k
   ·exact Or.inl (Or.inr k)
   ·exact Or.inr k
theorem Mv.on (a:Mv K root h n w v T w1 v1 T1) (hb:Below w1.heap.size w1 w2):Mv K root h n w v T w2 v1 T1:=
 ⟨a.mem.on hb,a.nodup,a.fresh,a.b,a.cx.on hb,a.gvb,a.keep.on hb⟩
end
theorem Mv.kid {K:Kx} {root h n:Nat} {w w':World} {v:Vt} {A:List (Chd×Vt)} {c:Chd} {t t':Vt} {D:List (Chd×Vt)} {T T':Tx} (hm:Mem w (n+1) v) (hl:v.ld=true) (hn:(blocks (n+1) v).Nodup) (c0:CAt w K root h T) (e:v.ch=A++(c,t)::D) (m:Mv K root h n w t T w' t' T'):
  Mv K root h (n+1) w v T w' {v with ch:=A++(c,t')::D} T':=by
 obtain⟨q,kids⟩:Zh w v/\∀x∈v.ch,Mem w n x.2:=by
  rcases hm.2 with q|q
  ·exact q
  ·rw[q.1.ld] at hl;cases hl
 have hin:=hm.in
 have hb:=JL (n:=n) hin
 have hb':blocks (n+1) {v with ch:=A++(c,t')::D}=v.b::Jy n (A++(c,t')::D):=JL (n:=n) (v:= {v with ch:=A++(c,t')::D}) hin
 have hlt:=hm.lt
 have hn0:=hn
 rw[hb,e,JN,J3,List.nodup_cons] at hn
 obtain⟨hn1,hn2⟩:=hn
 have hAt:∀x∈A,∀b∈blocks n x.2,b∉blocks n t:=fun x hx b hbx hbt=>by
  have:=(List.nodup_append.1 hn2).2.2 b (List.mem_flatMap.2 ⟨x,hx,hbx⟩) b (List.mem_append_left _ hbt)
  exact this rfl
 have hDt:∀x∈D,∀b∈blocks n x.2,b∉blocks n t:=fun x hx b hbx hbt=>by
  have:=(List.nodup_append.1 (List.nodup_append.1 hn2).2.1).2.2 b hbt b (List.mem_flatMap.2 ⟨x,hx,hbx⟩)
  exact this rfl
 have hcell:=hm.cells
 have hSoft:∀b,(Own K T b\/b∈blocks n t)->Z3 w b:=fun b hb2=>hb2.elim (fun q=>(c0.soft b q).1) (fun q=>(hlt b (Ze hin (x:=(c,t)) (by rw[e];simp) q)).1)
 have hvb:¬(Own K T v.b\/v.b∈blocks n t):=fun hq=>by
  rcases hq with hq|hq
  ·obtain⟨cur,hc⟩:=hcell v.b hm.head
   exact(c0.notVx hc).1 hq
  ·exact hn1 (List.mem_append_right _ (List.mem_append_left _ hq))
 have hother:∀x∈v.ch,(∀b∈blocks n x.2,b∉blocks n t)->Mem w' n x.2:=fun x hx hd=>(kids x hx).keep m.keep hSoft fun b hbx hq=>by
  rcases hq with hq|hq
  ·obtain⟨cur,hc⟩:=hcell b (Ze hin hx hbx)
   exact(c0.notVx hc).1 hq
  ·exact hd b hbx hq
 refine⟨⟨hin,Or.inl ⟨(q.keep m.keep hSoft hvb).like rfl rfl rfl rfl ?_ ?_,fun x hx=> ?_⟩⟩,?_,fun b hbx=> ?_,rfl,m.cx,m.gvb,?_⟩
 ·rw[Vt.cs,Vt.cs,e];simp
 ·rw[e];simp[m.b]
 ·have hx':x∈A++(c,t')::D:=hx
  rcases List.mem_append.1 hx' with hx'|hx'
  ·exact hother x (by rw[e];exact List.mem_append_left _ hx') (hAt x hx')
  ·rcases List.mem_cons.1 hx' with rfl|hx'
   ·exact m.mem
   ·exact hother x (by rw[e];simp[hx']) (hDt x hx')
 ·rw[hb',JN,J3,List.nodup_cons]
  have hltA:∀b∈Jy n A,b<w.heap.size:=fun b hbx=>by
   obtain⟨x,hx,hbx⟩:=List.mem_flatMap.1 hbx
   exact(hlt b (Ze hin (x:=x) (by rw[e];exact List.mem_append_left _ hx) hbx)).2
  have hltD:∀b∈Jy n D,b<w.heap.size:=fun b hbx=>by
   obtain⟨x,hx,hbx⟩:=List.mem_flatMap.1 hbx
   exact(hlt b (Ze hin (x:=x) (by rw[e];simp[hx]) hbx)).2
  refine⟨fun hq=> ?_,Jfn hn2 m.nodup m.fresh hltA hltD⟩
  rcases List.mem_append.1 hq with hq|hq
  ·exact hn1 (List.mem_append_left _ hq)
  ·rcases List.mem_append.1 hq with hq|hq
   ·rcases m.fresh _ hq with k|k
    ·exact hn1 (List.mem_append_right _ (List.mem_append_left _ k))
    ·have:=(hlt v.b hm.head).2
     omega
   ·exact hn1 (List.mem_append_right _ (List.mem_append_right _ hq))
 ·rw[hb',JN,J3] at hbx
  rw[hb,e,JN,J3]
  simp only[List.mem_cons,List.mem_append] at hbx⊢
  rcases hbx with k|k|k|k
  ·exact Or.inl (Or.inl k)
  ·exact Or.inl (Or.inr (Or.inl k))
  ·rcases m.fresh b k with j|j
   ·exact Or.inl (Or.inr (Or.inr (Or.inl j)))
   ·exact Or.inr j
  ·exact Or.inl (Or.inr (Or.inr (Or.inr k)))
 ·exact m.keep.mono fun x hx=>hx.imp id fun q=>Ze hin (x:=(c,t)) (by rw[e];simp) q
open Go.RowKit
attribute [local go_sem ↓] Go.wp_at_zero Go.wp_at_succ
theorem Mem.vxAt {w:World} {n:Nat} {v:Vt} (h:Mem w n v):∃pa pg ps a1 n1 c1 a2 n2 c2 a3 n3 c3 a4 n4 c4,Jq w v.b v.kn.isSome pa pg ps v.ld (.slice a1 n1 c1) (.slice a2 n2 c2) (.slice a3 n3 c3) (.slice a4 n4 c4):=by
 cases n with
 |zero=>
  rcases h.2 with q|q
  ·obtain⟨pa,pg,ps,a,x,h1,-⟩:=q.ex
   exact⟨pa,pg,ps,_,_,_,_,_,_,_,_,_,_,_,_,by rw[q.ld];exact h1⟩
  ·obtain⟨p,hk,h1⟩:=q.ex
   exact⟨p.a,p.g,p.s,_,_,_,_,_,_,_,_,_,_,_,_,by rw[q.ld,hk];exact h1⟩
 |succ n=>
  rcases h.2 with⟨q,-⟩|⟨q,-⟩
  ·obtain⟨pa,pg,ps,a1,x1,a2,x2,a3,x3,h1,-⟩:=q.ex
   exact⟨pa,pg,ps,_,_,_,_,_,_,_,_,_,_,_,_,by rw[q.ld];exact h1⟩
  ·obtain⟨p,hk,h1⟩:=q.ex
   exact⟨p.a,p.g,p.s,_,_,_,_,_,_,_,_,_,_,_,_,by rw[q.ld,hk];exact h1⟩
theorem Jq.one {w:World} {b:Nat} {kn kn':Bool} {pa pa':Int} {pg ps pg' ps':Nat} {ld ld':Bool} {lf cs us ks lf' cs' us' ks':Value} (h:Jq w b kn pa pg ps ld lf cs us ks) (h':Jq w b kn' pa' pg' ps' ld' lf' cs' us' ks'):kn=kn'/\pa=pa'/\pg=pg'/\ps=ps'/\ld=ld'/\lf=lf'/\cs=cs'/\us=us'/\ks=ks':=by
 have:=(h.row.one h'.row).2
 simp only[YH,List.cons.injEq,Value.bool.injEq,Value.int.injEq,true_and,and_true] at this
 obtain⟨e1,e2,e3,e4,e5,e6,e7,e8,e9⟩:=this
 exact⟨e1,e2,by omega,by omega,e5,e6,e7,e8,e9⟩
theorem JjV (n:Nat) (v:Vt) (hm:v.mem=true):∃r,blocks n v=v.b::r/\∀b0,blocks n {v with b:=b0}=b0::r:=by
 cases n with
 |zero=>exact⟨[],J8 v hm,fun b0=>J8 {v with b:=b0} hm⟩
 |succ n=>exact⟨_,JL hm,fun b0=>JL (v:= {v with b:=b0}) hm⟩
theorem Mem.moved {w1 w2:World} {n:Nat} {v:Vt} {b0:Nat} (hm:Mem w1 n v) (hl:v.ld=true) (hk:Jg (fun x=>x=b0) w1 w2) (hs:Z3 w1 b0) (hb:b0∉blocks n v) (hv:∀kn pa pg ps ld lf cs us ks,Jq w1 v.b kn pa pg ps ld lf cs us ks->Jq w2 b0 kn pa pg ps ld lf cs us ks):Mem w2 n {v with b:=b0}:=by
 have hS:∀b,b=b0->Z3 w1 b:=fun b e=>by rw[e];exact hs
 cases n with
 |zero=>
  obtain⟨g,pa,pg,ps,a,x,h1,h2,h3⟩:=hm.leaf hl
  exact⟨hm.in,Or.inl ⟨g,pa,pg,ps,a,x,hv _ _ _ _ _ _ _ _ _ h1,h2,h3.keep hk fun b e=>(hS b e).str⟩⟩
 |succ n=>
  obtain⟨⟨g,pa,pg,ps,a1,c1,a2,c2,a3,c3,h1,h2,h3,h4⟩,hkids⟩:=hm.node hl
  refine⟨hm.in,Or.inl ⟨⟨g,pa,pg,ps,a1,c1,a2,c2,a3,c3,hv _ _ _ _ _ _ _ _ _ h1,h2,h3.keep hk (fun b e=>(hS b e).str),Xu.keep h4 hk hS⟩,fun x hx=>(hkids x hx).keep hk hS fun b hbx e=> ?_⟩⟩
  rw[e] at hbx
  exact hb (Ze hm.in hx hbx)
theorem Jjq {K:Kx} {root h:Nat} {T:Tx} {n:Nat} {v:Vt} {lo hi:List UInt8} (hh:Int) (w:World) (hhn:hh=(n:Int)+1) (c:CAt w K root h T) (hm:Mem w n v) (hnd:(blocks n v).Nodup) (ho:Ok n lo hi v) (hs:Shf K.f n v) (hN:Jd0 K.f) (hp:pot n v<=1000) (hwr:T.wr<=1000):
  Calls Tryz.prog 62 #[.pointer (some ⟨K.tb,0,none⟩),.pointer (some ⟨v.b,0,none⟩),.int .i64 hh] w fun e w'=>∃wr' v',wr'<=T.wr/\Mv K root h n w v T w' v' {T with wr:=wr'}/\(v'=v\/YM v v')/\((e=.returned (.int .i64 0)/\v'.ld=true)\/(e=.returned (.int .i64 10)/\0<T.wr)):=by
 have HF:=Lib.hid (Jg6 hh w hhn c hm ho hs hN hp hwr)
 have HM:=Lib.hid (And.intro hm (And.intro hnd c))
 clear hhn c hm hnd ho hs hN hp hwr
 go_enter Tryz.func62,Tryz.ntmps62
 go_wp2_with fail
 refine(HF.out).mono ?_
 rintro e w1 (⟨hl,rfl,hb⟩|⟨v',hl,rfl,hL,hm1,hn1,hb1,c1,hk1⟩|⟨hl,rfl,hw,c1,hk1⟩)
 ·go_wp2_with fail
  go_ret
  exact⟨T.wr,v,Nat.le_refl _,(Mv.refl HM.out.1 HM.out.2.1 HM.out.2.2).on hb,Or.inl rfl,Or.inl ⟨rfl,hl⟩⟩
 ·obtain⟨pa,pg,ps,a1,n1,x1,a2,n2,x2,a3,n3,x3,a4,n4,x4,hx⟩:=hm1.vxAt
  have hmw:Mem w1 n v/\v.b<w1.heap.size:=by
   have hsb:∀b∈blocks n v,¬b=K.sb:=fun b hb e=>by
    obtain⟨cur,hc⟩:=HM.out.1.cells b hb
    exact(HM.out.2.2.notVx hc).1 (Or.inr (Or.inl e))
   have:=HM.out.1.keep hk1 (fun b e=>by rw[e];exact(HM.out.2.2.soft K.sb (Or.inr (Or.inl rfl))).1) hsb
   exact⟨this,(this.lt _ this.head).2⟩
  obtain⟨qa,qg,qs,b1,m1,y1,b2,m2,y2,b3,m3,y3,b4,m4,y4,hy⟩:=hmw.1.vxAt
  have hne:v.b≠v'.b:=fun e=>by
   have h1:=hb1 v'.b hm1.head
   have h2:=(HM.out.1.lt v.b HM.out.1.head).2
   omega
  have c0:=hx.c0
  have c1':=hx.c1
  have c2:=hx.c2
  have c3:=hx.c3
  have c4:=hx.c4
  have c5:=hx.c5
  have c6:=hx.c6
  have c7:=hx.c7
  have c8:=hx.c8
  have d0:=hy.c0
  have d1:=hy.c1
  have d2:=hy.c2
  have d3:=hy.c3
  have d4:=hy.c4
  have d5:=hy.c5
  have d6:=hy.c6
  have d7:=hy.c7
  have d8:=hy.c8
  have f0:=hy.fz 0
  have f1:=hy.fz 1
  have f2:=hy.fz 2
  have f3:=hy.fz 3
  have f4:=hy.fz 4
  have f5:=hy.fz 5
  have f6:=hy.fz 6
  have f7:=hy.fz 7
  have f8:=hy.fz 8
  have HX:=Lib.hid (And.intro hx hy)
  have HL:=Lib.hid (And.intro hL (And.intro hm1 (And.intro hn1 (And.intro hb1 (And.intro c1 (And.intro hk1 hmw))))))
  clear hx hy hL hm1 hn1 hb1 c1 hk1 hmw
  go_upto_region 4 with(fail)
  obtain⟨W,hW⟩:∃W,W=(((((((((w1.setCell ⟨v.b,0,none⟩ (.bool v'.kn.isSome)).setCell ⟨v.b,1,none⟩ (.int .i64 pa)).setCell ⟨v.b,2,none⟩ (.int .u64 pg)).setCell ⟨v.b,3,none⟩ (.int .u32 ps)).setCell ⟨v.b,4,none⟩ (.bool v'.ld)).setCell ⟨v.b,5,none⟩ (.slice a1 n1 x1)).setCell ⟨v.b,6,none⟩ (.slice a2 n2 x2)).setCell ⟨v.b,7,none⟩ (.slice a3 n3 x3)).setCell ⟨v.b,8,none⟩ (.slice a4 n4 x4)):=⟨_,rfl⟩
  have hV:Jq W v.b v'.kn.isSome pa pg ps v'.ld (.slice a1 n1 x1) (.slice a2 n2 x2) (.slice a3 n3 x3) (.slice a4 n4 x4):=by
   rw[hW]
   exact⟨((((((((HX.out.2.row.put 0 _).put 1 _).put 2 _).put 3 _).put 4 _).put 5 _).put 6 _).put 7 _).put 8 _⟩
  have hKW:Jg (fun x=>x=v.b) w1 W:=by
   rw[hW]
   exact((((((((((Jg.refl (fun x=>x=v.b) w1).setCell ⟨v.b,0,none⟩ (Or.inl rfl) _).setCell ⟨v.b,1,none⟩ (Or.inl rfl) _).setCell ⟨v.b,2,none⟩ (Or.inl rfl) _).setCell ⟨v.b,3,none⟩ (Or.inl rfl) _).setCell ⟨v.b,4,none⟩ (Or.inl rfl) _).setCell ⟨v.b,5,none⟩ (Or.inl rfl) _).setCell ⟨v.b,6,none⟩ (Or.inl rfl) _).setCell ⟨v.b,7,none⟩ (Or.inl rfl) _).setCell ⟨v.b,8,none⟩ (Or.inl rfl) _)
  rw[<-hW]
  clear hW
  go_wp2_with fail
  go_ret
  obtain⟨hL,hm1,hn1,hb1,c1,hk1,hmw⟩:=HL.out
  obtain⟨hx,hy⟩:=HX.out
  obtain⟨hm,hnd,c⟩:=HM.out
  have hlt:=(hm.lt v.b hm.head).2
  have hnb:v.b∉blocks n v':=fun q=>by have:=hb1 _ q;omega
  have hld:v'.ld=true:=hL.ld
  have hM:Mem W n {v' with b:=v.b}:=hm1.moved hld hKW hy.soft hnb fun kn qa qg qs ld lf cs us ks hq=>by
   obtain⟨rfl,rfl,rfl,rfl,rfl,rfl,rfl,rfl,rfl⟩:=hx.one hq
   exact hV
  obtain⟨r,e1,e2⟩:=JjV n v' hm1.in
  rw[e1] at hn1 hb1 hnb
  refine⟨T.wr-1,{v' with b:=v.b},by omega,⟨hM,?_,fun b hb=> ?_,rfl,c1.keep hKW (fun x e=>by obtain rfl:x=v.b:=e;exact Or.inl ⟨_,hy.row⟩),fun x hx=>Or.inl hx,?_⟩,Or.inr hL,Or.inl ⟨rfl,hld⟩⟩
  ·rw[e2,List.nodup_cons]
   exact⟨fun q=>hnb (List.mem_cons_of_mem _ q),(List.nodup_cons.1 hn1).2⟩
  ·rw[e2] at hb
   rcases List.mem_cons.1 hb with rfl|hb
   ·exact Or.inl hm.head
   ·exact Or.inr (hb1 b (List.mem_cons_of_mem _ hb))
  ·exact(hk1.mono fun x e=>Or.inl (Or.inr (Or.inl e))).trans' (hKW.mono fun x e=>Or.inr (by rw[show x=v.b from e];exact hm.head))
 ·go_wp2_with fail
  go_ret
  obtain⟨hm,hnd,c⟩:=HM.out
  refine⟨0,v,Nat.zero_le _,⟨hm.keep hk1 (fun b e=>by rw[e];exact(c.soft K.sb (Or.inr (Or.inl rfl))).1) (fun b hb e=> ?_),hnd,fun _ q=>Or.inl q,rfl,c1,fun _ q=>Or.inl q,hk1.mono fun x e=>Or.inl (Or.inr (Or.inl e))⟩,Or.inl rfl,Or.inr ⟨rfl,hw⟩⟩
  obtain⟨cur,hc⟩:=hm.cells b hb
  exact(c.notVx hc).1 (Or.inr (Or.inl e))
open Go.RowKit
attribute [local go_sem ↓] Go.wp_at_zero Go.wp_at_succ
theorem JdK (a:Option Addr) (n c:Nat) (w:World):
  Calls Tryz.prog 68 #[.agg #[.slice a n c]] w fun e w'=>e=.returned (.int .i64 n)/\Below w.heap.size w w':=by
 go_enter Tryz.func68,Tryz.ntmps68
 go_wp2
 go_ret
 exact⟨rfl,by go_grown⟩
theorem JpM {b:Nat} {kn:Bool} {pa:Int} {pg ps:Nat} {lf cs us ks:Value} (tb:Nat) (h:Int) (w:World) (hv:Jq w b kn pa pg ps true lf cs us ks):
  Calls Tryz.prog 62 #[.pointer (some ⟨tb,0,none⟩),.pointer (some ⟨b,0,none⟩),.int .i64 h] w fun e w'=>e=.returned (.int .i64 0)/\Below w.heap.size w w':=by
 go_enter Tryz.func62,Tryz.ntmps62
 go_wp2_with fail
 refine(Jl (JbF (.pointer (some ⟨tb,0,none⟩)) h w hv) w.heap.size w (Below.refl _ _) (Nat.le_refl _)).mono ?_
 rintro e w2 ⟨rfl,hX,-,-,-,hz⟩
 go_wp2_with fail
 go_ret
 exact⟨rfl,hX⟩
theorem Je1 {b:Nat} {pa:Int} {pg ps:Nat} {ld:Bool} {lf cs us ks:Value} (tb:Nat) (w:World) (hv:Jq w b false pa pg ps ld lf cs us ks):
  Calls Tryz.prog 65 #[.pointer (some ⟨tb,0,none⟩),.pointer (some ⟨b,0,none⟩)] w fun e w'=>e=.returned (.tuple #[])/\Below w.heap.size w w':=by
 have c0:=hv.c0
 go_enter Tryz.func65,Tryz.ntmps65
 go_wp2_with fail
 exact bodyPost_end (v:=.tuple #[]) (by simp[results,Tryz.results65,go_sem]) rfl ⟨rfl,by go_grown⟩
theorem Jmu {tb b:Nat} {F B L:Int} {ld:Value} {gone:Value} {fl le:Int} {kn:Bool} {pa:Int} {pg ps:Nat} {lf cs us ks:Value} (k:List UInt8) (w:World) (ht:Yj w tb F B L ld b 1 gone fl le) (hv:Jq w b kn pa pg ps true lf cs us ks):
  Calls Tryz.prog 39 #[.pointer (some ⟨tb,0,none⟩),.string (S k)] w fun e w'=>e=.returned (.int .i64 0)/\Below w.heap.size w w':=by
 go_enter Tryz.func39,Tryz.ntmps39
 go_wp2_with fail
 go_loopw [] (fun wr=>wr=w) (fun _=>0)
 case atStart=>rfl
 case round=>
  subst hrel
  have c4:=ht.c4
  have c5:=ht.c5
  go_upto_region 1 with(fail)
  refine WQ.region (C:=fun w'=>Below wr.heap.size wr w') (by kernel_rfl) (by kernel_rfl) (Jb (Below.refl _ _)) ?_
  refine WV (by rfl) (.pointer (some ⟨tb,0,none⟩)) (fun w' hw'=> ?_) ?_
  ·have hq':=hw'
   go_simp
  try simp only[Act.put,WA,WB,WC]
  refine WV (by rfl) (.pointer (some ⟨tb,0,none⟩)) (fun w' hw'=> ?_) ?_
  ·have hq':=hw'
   go_simp
  try simp only[Act.put,WA,WB,WC]
  refine WV (by rfl) (.pointer (some ⟨tb,0,none⟩)) (fun w' hw'=> ?_) ?_
  ·have hq':=hw'
   go_simp
  try simp only[Act.put,WA,WB,WC]
  refine WV (by rfl) (.pointer (some ⟨tb,4,none⟩)) (fun w' hw'=> ?_) ?_
  ·have hq':=hw'
   go_simp
  try simp only[Act.put,WA,WB,WC]
  refine WV (by rfl) (.pointer (some ⟨b,0,none⟩)) (fun w' hw'=> ?_) ?_
  ·have hq':=hw'
   have z0:=Ja hw' c4;have z1:=Ja hw' c5;go_simp
  try simp only[Act.put,WA,WB,WC]
  refine WV (by rfl) (.pointer (some ⟨tb,0,none⟩)) (fun w' hw'=> ?_) ?_
  ·have hq':=hw'
   go_simp
  try simp only[Act.put,WA,WB,WC]
  refine WV (by rfl) (.pointer (some ⟨tb,0,none⟩)) (fun w' hw'=> ?_) ?_
  ·have hq':=hw'
   go_simp
  try simp only[Act.put,WA,WB,WC]
  refine WV (by rfl) (.pointer (some ⟨tb,5,none⟩)) (fun w' hw'=> ?_) ?_
  ·have hq':=hw'
   go_simp
  try simp only[Act.put,WA,WB,WC]
  refine WV (by rfl) (.int .i64 1) (fun w' hw'=> ?_) ?_
  ·have hq':=hw'
   have z0:=Ja hw' c4;have z1:=Ja hw' c5;go_simp
  try simp only[Act.put,WA,WB,WC]
  refine WV (by rfl) (.int .i64 0) (fun w' hw'=> ?_) ?_
  ·have hq':=hw'
   go_simp
   go_at_call 62
   refine(JpM tb 1 _ (hv.kept hq' (Nat.le_refl _))).mono ?_
   rintro e w6 ⟨he,hb6⟩
   exact⟨he,hq'.trans (hb6.mono hq'.size)⟩
  try simp only[Act.put,WA,WB,WC]
  refine WV (by rfl) (.int .i64 0) (fun w' hw'=> ?_) ?_
  ·have hq':=hw'
   go_simp
  try simp only[Act.put,WA,WB,WC]
  refine WQ.done ?_
  rintro w2 hX
  replace c5:=Ja hX c5
  go_wp2_with fail
  go_ret
  exact⟨rfl,hX⟩
theorem Jm0 {tb b:Nat} {pa:Int} {pg ps:Nat} {ld:Bool} {a:Option Addr} {n c:Nat} {cs us:Value} {es:List Ent} (s:Value) (l:List Upd) (w:World) (hv:Jq w b false pa pg ps ld (.slice a n c) cs us (.slice none 0 0)) (hb:Zq w (.agg #[.slice a n c]) es) (hs:SlU w s l) (hl:es.length<=10000) (hr:Je Ent.key es) (hf:ZI es) (hw:∀u∈l,u.Wf) (hll:l.length<=10000):
  Calls Tryz.prog 40 #[.pointer (some ⟨tb,0,none⟩),.pointer (some ⟨b,0,none⟩),s] w fun e w'=>e=.returned (.tuple #[])/\(∃a' c',Jq w' b false pa pg ps ld (.slice a' (Ys es l).length c') cs us (.slice none 0 0)/\Zq w' (.agg #[.slice a' (Ys es l).length c']) (Ys es l))/\Jg (fun x=>x=b) w w':=by
 have HO:=Lib.hid (fun w' h1 h2=>JcG (.agg #[.slice a n c]) es s l w' h1 hl hr hf h2 hw hll)
 have HB:=Lib.hid hb
 have HS:=Lib.hid hs
 obtain⟨sa,sc,es1,-⟩:=hs
 subst es1
 clear hb
 go_enter Tryz.func40,Tryz.ntmps40
 go_wp2_with fail
 refine(Jl (Je1 tb w hv) w.heap.size w (Below.refl _ _) (Nat.le_refl _)).mono ?_
 rintro e w1 ⟨rfl,hX1,-,-,-,hz1⟩
 have hv1:=hv.on hX1
 have v8:=hv1.c8
 have v5:=hv1.c5
 have vf:=hv1.fz 5
 go_wp2_with fail
 refine(HO.out w1 (HB.out.kept hX1 (Nat.le_refl _)) (HS.out.kept hX1 (Nat.le_refl _))).mono ?_
 rintro e w2 ⟨⟨a',c',rfl,hb2⟩,hX2⟩
 have hv2:=hv1.on hX2
 have v5':=hv2.c5
 have vf':=hv2.fz 5
 have HB2:=Lib.hid hb2
 have hX:=hX1.trans (hX2.mono hX1.size)
 go_wp2_with fail
 refine bodyPost_ret (v:=.tuple #[]) (by simp[results,Tryz.results40,go_sem]) rfl ⟨rfl,⟨a',c',hv2.putL _,HB2.out.setAt v5' _⟩,(Jg.of_below (S:=fun x=>x=b) hX).setCell ⟨b,5,none⟩ (Or.inl rfl) _⟩
theorem JnD {tb b:Nat} {F B L:Int} {ld:Value} {gone:Value} {fl le:Int} {kn:Bool} {pa:Int} {pg ps:Nat} {ldd:Bool} {a:Option Addr} {n c:Nat} {cs us ks:Value} (w:World) (ht:Yj w tb F B L ld b 1 gone fl le) (hv:Jq w b kn pa pg ps ldd (.slice a n c) cs us ks) (hn:¬L<(n:Int)):
  Calls Tryz.prog 41 #[.pointer (some ⟨tb,0,none⟩)] w fun e w'=>e=.returned (.tuple #[])/\Below w.heap.size w w':=by
 have c4:=ht.c4
 have c5:=ht.c5
 have c2:=ht.c2
 have v5:=hv.c5
 go_enter Tryz.func41,Tryz.ntmps41
 go_wp2_with fail
 go_loopw [] (fun wr=>wr=w) (fun _=>0)
 case atStart=>rfl
 case round=>
  subst hrel
  go_upto_region 0 with(fail)
  refine WQ.region (C:=fun w'=>Below wr.heap.size wr w') (by kernel_rfl) (by kernel_rfl) (Jb (Below.refl _ _)) ?_
  refine WV (by rfl) (.pointer (some ⟨tb,0,none⟩)) (fun w' hw'=> ?_) ?_
  ·have hq':=hw'
   go_simp
  try simp only[Act.put,WA,WB,WC]
  refine WV (by rfl) (.pointer (some ⟨tb,0,none⟩)) (fun w' hw'=> ?_) ?_
  ·have hq':=hw'
   go_simp
  try simp only[Act.put,WA,WB,WC]
  refine WV (by rfl) (.pointer (some ⟨tb,5,none⟩)) (fun w' hw'=> ?_) ?_
  ·have hq':=hw'
   go_simp
  try simp only[Act.put,WA,WB,WC]
  refine WV (by rfl) (.int .i64 1) (fun w' hw'=> ?_) ?_
  ·have hq':=hw'
   have z0:=Ja hw' c4;have z1:=Ja hw' c5;have z2:=Ja hw' c2;have z3:=Ja hw' v5;go_simp
  try simp only[Act.put,WA,WB,WC]
  refine WV (by rfl) (.bool true) (fun w' hw'=> ?_) ?_
  ·have hq':=hw'
   go_simp
  try simp only[Act.put,WA,WB,WC]
  refine WV (by rfl) (.bool true) (fun w' hw'=> ?_) ?_
  ·have hq':=hw'
   go_simp
  try simp only[Act.put,WA,WB,WC]
  refine WV (by rfl) (.pointer (some ⟨tb,0,none⟩)) (fun w' hw'=> ?_) ?_
  ·have hq':=hw'
   go_simp
  try simp only[Act.put,WA,WB,WC]
  refine WV (by rfl) (.pointer (some ⟨tb,0,none⟩)) (fun w' hw'=> ?_) ?_
  ·have hq':=hw'
   go_simp
  try simp only[Act.put,WA,WB,WC]
  refine WV (by rfl) (.pointer (some ⟨tb,4,none⟩)) (fun w' hw'=> ?_) ?_
  ·have hq':=hw'
   go_simp
  try simp only[Act.put,WA,WB,WC]
  refine WV (by rfl) (.pointer (some ⟨b,0,none⟩)) (fun w' hw'=> ?_) ?_
  ·have hq':=hw'
   have z0:=Ja hw' c4;have z1:=Ja hw' c5;have z2:=Ja hw' c2;have z3:=Ja hw' v5;go_simp
  try simp only[Act.put,WA,WB,WC]
  refine WV (by rfl) (.pointer (some ⟨b,0,none⟩)) (fun w' hw'=> ?_) ?_
  ·have hq':=hw'
   go_simp
  try simp only[Act.put,WA,WB,WC]
  refine WV (by rfl) (.pointer (some ⟨b,5,none⟩)) (fun w' hw'=> ?_) ?_
  ·have hq':=hw'
   go_simp
  try simp only[Act.put,WA,WB,WC]
  refine WV (by rfl) (.agg #[.slice a n c]) (fun w' hw'=> ?_) ?_
  ·have hq':=hw'
   have z0:=Ja hw' c4;have z1:=Ja hw' c5;have z2:=Ja hw' c2;have z3:=Ja hw' v5;go_simp
  try simp only[Act.put,WA,WB,WC]
  refine WV (by rfl) (.int .i64 n) (fun w' hw'=> ?_) ?_
  ·have hq':=hw'
   go_simp
   go_at_call 68
   refine(JdK a n c _).mono ?_
   rintro e w6 ⟨he,hb6⟩
   exact⟨he,hq'.trans (hb6.mono hq'.size)⟩
  try simp only[Act.put,WA,WB,WC]
  refine WV (by rfl) (.pointer (some ⟨tb,0,none⟩)) (fun w' hw'=> ?_) ?_
  ·have hq':=hw'
   go_simp
  try simp only[Act.put,WA,WB,WC]
  refine WV (by rfl) (.pointer (some ⟨tb,0,none⟩)) (fun w' hw'=> ?_) ?_
  ·have hq':=hw'
   go_simp
  try simp only[Act.put,WA,WB,WC]
  refine WV (by rfl) (.pointer (some ⟨tb,0,none⟩)) (fun w' hw'=> ?_) ?_
  ·have hq':=hw'
   go_simp
  try simp only[Act.put,WA,WB,WC]
  refine WV (by rfl) (.pointer (some ⟨tb,2,none⟩)) (fun w' hw'=> ?_) ?_
  ·have hq':=hw'
   go_simp
  try simp only[Act.put,WA,WB,WC]
  refine WV (by rfl) (.int .i64 L) (fun w' hw'=> ?_) ?_
  ·have hq':=hw'
   have z0:=Ja hw' c4;have z1:=Ja hw' c5;have z2:=Ja hw' c2;have z3:=Ja hw' v5;go_simp
  try simp only[Act.put,WA,WB,WC]
  refine WV (by rfl) (.bool false) (fun w' hw'=> ?_) ?_
  ·have hq':=hw'
   go_simp
  try simp only[Act.put,WA,WB,WC]
  refine WV (by rfl) (.bool false) (fun w' hw'=> ?_) ?_
  ·have hq':=hw'
   go_simp
  try simp only[Act.put,WA,WB,WC]
  refine WQ.done ?_
  rintro w2 hX
  replace c5:=Ja hX c5
  obtain⟨W1,hW1⟩:∃W1,W1=wr:=⟨_,rfl⟩
  subst hW1
  go_wp2_with fail
  go_loopw [] (fun wr'=>wr'=w2) (fun _=>0)
  case atStart=>rfl
  case round=>
   subst hrel
   go_upto_region 2 with(fail)
   refine WQ.region (C:=fun w'=>Below wr.heap.size wr w') (by kernel_rfl) (by kernel_rfl) (Jb (Below.refl _ _)) ?_
   refine WV (by rfl) (.pointer (some ⟨tb,0,none⟩)) (fun w' hw'=> ?_) ?_
   ·have hq':=hw'
    go_simp
   try simp only[Act.put,WA,WB,WC]
   refine WV (by rfl) (.pointer (some ⟨tb,0,none⟩)) (fun w' hw'=> ?_) ?_
   ·have hq':=hw'
    go_simp
   try simp only[Act.put,WA,WB,WC]
   refine WV (by rfl) (.pointer (some ⟨tb,5,none⟩)) (fun w' hw'=> ?_) ?_
   ·have hq':=hw'
    go_simp
   try simp only[Act.put,WA,WB,WC]
   refine WV (by rfl) (.int .i64 1) (fun w' hw'=> ?_) ?_
   ·have hq':=hw'
    have z0:=Ja hw' c5;go_simp
   try simp only[Act.put,WA,WB,WC]
   refine WV (by rfl) (.bool false) (fun w' hw'=> ?_) ?_
   ·have hq':=hw'
    go_simp
   try simp only[Act.put,WA,WB,WC]
   refine WV (by rfl) (.bool false) (fun w' hw'=> ?_) ?_
   ·have hq':=hw'
    go_simp
   try simp only[Act.put,WA,WB,WC]
   refine WS (by rfl) ?_
   try simp only[Act.put,WA,WB,WC]
   refine WS (by rfl) ?_
   try simp only[Act.put,WA,WB,WC]
   refine WS (by rfl) ?_
   try simp only[Act.put,WA,WB,WC]
   refine WS (by rfl) ?_
   try simp only[Act.put,WA,WB,WC]
   refine WS (by rfl) ?_
   try simp only[Act.put,WA,WB,WC]
   refine WS (by rfl) ?_
   try simp only[Act.put,WA,WB,WC]
   refine WS (by rfl) ?_
   try simp only[Act.put,WA,WB,WC]
   refine WS (by rfl) ?_
   try simp only[Act.put,WA,WB,WC]
   refine WS (by rfl) ?_
   try simp only[Act.put,WA,WB,WC]
   refine WS (by rfl) ?_
   try simp only[Act.put,WA,WB,WC]
   refine WS (by rfl) ?_
   try simp only[Act.put,WA,WB,WC]
   refine WS (by rfl) ?_
   try simp only[Act.put,WA,WB,WC]
   refine WV (by rfl) (.bool false) (fun w' hw'=> ?_) ?_
   ·have hq':=hw'
    go_simp
   try simp only[Act.put,WA,WB,WC]
   refine WQ.done ?_
   rintro w3 hX3
   replace c5:=Ja hX3 c5
   obtain⟨W2,hW2⟩:∃W2,W2=wr:=⟨_,rfl⟩
   subst hW2
   have hX4:=hX.trans (hX3.mono hX.size)
   go_wp2_with fail
   go_loopw [] (fun wr'=>wr'=w3) (fun _=>0)
   case atStart=>rfl
   case round=>
    subst hrel
    go_wp2_with fail
    exact bodyPost_end (v:=.tuple #[]) (by simp[results,Tryz.results41,go_sem]) rfl ⟨rfl,hX4⟩
theorem Jlp {tb b:Nat} {F B L:Int} {fn:Fn} {xs ys:Array Value} {ga:Option Addr} {gn gc:Nat} {fl le:Int} {pa:Int} {pg ps:Nat} {a:Option Addr} {n c:Nat} {cs us:Value} {es:List Ent} (kd:Nat) (key val:List UInt8) (dl:Nat) (w:World)
  (ht:Yj w tb F B L (.func fn xs ys) b 1 (.slice ga gn gc) fl le) (hv:Jq w b false pa pg ps true (.slice a n c) cs us (.slice none 0 0)) (hb:Zq w (.agg #[.slice a n c]) es) (hl:es.length<=10000) (hr:Je Ent.key es) (hf:ZI es)
  (hk:kd<256) (hd:dl<18446744073709551616) (hc:(Upd.mk kd key val dl).check=0) (hL:((Ys es [⟨kd,key,val,dl⟩]).length:Int)<=L):
  Calls Tryz.prog 13 #[.pointer (some ⟨tb,0,none⟩),.agg #[.int .u8 kd,.string (S key),.string (S val),.int .u64 dl]] w fun e w'=>e=.returned (.int .i64 0)/\(∃a' c',Jq w' b false pa pg ps true (.slice a' (Ys es [⟨kd,key,val,dl⟩]).length c') cs us (.slice none 0 0)/\Zq w' (.agg #[.slice a' (Ys es [⟨kd,key,val,dl⟩]).length c']) (Ys es [⟨kd,key,val,dl⟩]))/\Yj w' tb F B L (.func fn xs ys) b 1 (.slice ga gn gc) fl le/\Jg (fun x=>x=b) w w':=by
 have hne:b≠tb:=fun e=>by
  subst e
  have h1:=ht.row
  have h2:=hv.row
  unfold Jc at h1 h2
  rw[h1] at h2
  simp at h2
 have HC:=Lib.hid (fun w=>chk kd key val dl hk hd w)
 rw[hc] at HC
 have HGV:=Lib.hid (fun w' (s:Value) (h1:Jq w' b false pa pg ps true (.slice a n c) cs us (.slice none 0 0)) h2 h3=>Jm0 (tb:=tb) s [⟨kd,key,val,dl⟩] w' h1 h2 h3 hl hr hf (fun u hu=>by rw[List.mem_singleton] at hu;rw[hu];exact⟨hk,hd⟩) (by simp))
 have HB:=Lib.hid hb
 clear hb hr hf hc
 generalize Ys es [⟨kd,key,val,dl⟩]=E at*
 go_enter Tryz.func13,Tryz.ntmps13
 go_upto_region 3 with(fail)
 have hT:=Lib.hid ht
 have hV:=Lib.hid hv
 have hK:=Jg.refl (fun x=>x=b) w
 have hb0:=Below.refl w.heap.size w
 clear ht hv
 obtain⟨W,hW_W⟩:∃W,W=(w.alloc (.cells #[.int .u8 kd,.string (S key),.string (S val),.int .u64 dl] 39)):=⟨_,rfl⟩
 rw[<-hW_W]
 have hX_W:Below w.heap.size w W:=by rw[hW_W];go_grown
 have gu0:W.cell? ⟨w.heap.size,0,none⟩=some (.int .u8 kd):=by rw[hW_W,World.cell?_alloc_at _ _ _ _ (by simp)];rfl
 have gu1:W.cell? ⟨w.heap.size,1,none⟩=some (.string (S key)):=by rw[hW_W,World.cell?_alloc_at _ _ _ _ (by simp)];rfl
 have gu2:W.cell? ⟨w.heap.size,2,none⟩=some (.string (S val)):=by rw[hW_W,World.cell?_alloc_at _ _ _ _ (by simp)];rfl
 have gu3:W.cell? ⟨w.heap.size,3,none⟩=some (.int .u64 dl):=by rw[hW_W,World.cell?_alloc_at _ _ _ _ (by simp)];rfl
 clear hW_W
 have hz_W:=hX_W.size
 replace hT:=Lib.hid (hT.out.kept hX_W (Nat.le_refl _))
 replace hV:=Lib.hid (hV.out.kept hX_W (Nat.le_refl _))
 replace HB:=Lib.hid (HB.out.kept hX_W (Nat.le_refl _))
 replace hb0:=hb0.trans (hX_W.mono hb0.size)
 clear hX_W
 go_wp2_with fail
 refine(Jl (HC.out W) W.heap.size W (Below.refl _ _) (Nat.le_refl _)).mono ?_
 rintro e w1 ⟨rfl,hX_w1,-,-,-,hz_w1⟩
 replace gu0:=Ja hX_w1 gu0
 replace gu1:=Ja hX_w1 gu1
 replace gu2:=Ja hX_w1 gu2
 replace gu3:=Ja hX_w1 gu3
 replace hT:=Lib.hid (hT.out.kept hX_w1 (Nat.le_refl _))
 replace hV:=Lib.hid (hV.out.kept hX_w1 (Nat.le_refl _))
 replace HB:=Lib.hid (HB.out.kept hX_w1 (Nat.le_refl _))
 replace hb0:=hb0.trans (hX_w1.mono hb0.size)
 clear hX_w1
 go_wp2_with fail
 refine(Jl (Jmu key w1 hT.out hV.out) w1.heap.size w1 (Below.refl _ _) (Nat.le_refl _)).mono ?_
 rintro e w2 ⟨rfl,hX_w2,-,-,-,hz_w2⟩
 replace gu0:=Ja hX_w2 gu0
 replace gu1:=Ja hX_w2 gu1
 replace gu2:=Ja hX_w2 gu2
 replace gu3:=Ja hX_w2 gu3
 replace hT:=Lib.hid (hT.out.kept hX_w2 (Nat.le_refl _))
 replace hV:=Lib.hid (hV.out.kept hX_w2 (Nat.le_refl _))
 replace HB:=Lib.hid (HB.out.kept hX_w2 (Nat.le_refl _))
 replace hb0:=hb0.trans (hX_w2.mono hb0.size)
 clear hX_w2
 have c4:=hT.out.c4
 go_upto_region 9 with(fail)
 have e1:∀x,(w2.alloc x).cell? ⟨tb,4,none⟩=some (.pointer (some ⟨b,0,none⟩)):=fun x=>(World.cell?_alloc_past _ _ _ hT.out.lt).trans c4
 have hW3:Below w2.heap.size w2 (w2.alloc (.cells #[.int .u8 kd,.string (S key),.string (S val),.int .u64 dl] 39)).drew:=Jb ((Below.refl _ _).alloc (Nat.le_refl _) _)
 have HS3:=Lib.hid (show SlU (w2.alloc (.cells #[.int .u8 kd,.string (S key),.string (S val),.int .u64 dl] 39)).drew (.slice (some ⟨w2.heap.size,0,none⟩) 1 1) [⟨kd,key,val,dl⟩] from
  ⟨_,_,rfl,JC.new w2 _ _ _ [(⟨kd,key,val,dl⟩:Upd)] (fun x hx=>rfl) (by simp;rfl),Nat.le_refl _,by show(1:Int)<=_;omega,fun e=>by simp at e⟩)
 go_region_law (first|(go_simp;go_at_call 40;refine(HGV.out _ _ (hV.out.on hW3) (HB.out.kept hW3 (Nat.le_refl _)) HS3.out).mono ?_;rintro e w4 ⟨rfl,⟨a',c',hv4,hb4⟩,hK4⟩))
 all_goals
  have HT4:=Lib.hid (show Yj w4 tb F B L (.func fn xs ys) b 1 (.slice ga gn gc) fl le from⟨hK4.row (hT.out.on hW3).row (fun e=>hne e.symm)⟩)
  have HB4:=Lib.hid hb4
  have hK2:Jg (fun x=>x=b) w w4:=((Jg.of_below (S:=fun x=>x=b) hb0).trans' (.of_below (hW3.mono (Nat.le_refl _)))).trans' hK4
  clear hb4 hK4 hW3
  go_wp2_with fail
  refine(Jl (JnD w4 HT4.out hv4 (by omega)) w4.heap.size w4 (Below.refl _ _) (Nat.le_refl _)).mono ?_
  rintro e w5 ⟨rfl,hX5,-,-,-,hz5⟩
  have hK5:=hK2.on hX5
  have hv5:=hv4.on hX5
  have HB5:=Lib.hid (HB4.out.kept hX5 (Nat.le_refl _))
  have HT5:=Lib.hid (HT4.out.on hX5)
  go_wp2_with fail
  go_ret
  exact⟨rfl,⟨a',c',hv5,HB5.out⟩,HT5.out,hK5⟩
open Go.RowKit
attribute [local go_sem ↓] Go.wp_at_zero Go.wp_at_succ
theorem JpK:(Tryz.prog.info? 3).map (fun i=>(i.zero,i.size,i.bytes))=some (some (.int .i64 0),1,8):=by kernel_rfl
theorem Jgq (k:Nat):∀u∈(Builtin.zeroCells #[Value.int .i64 0] k).toList,∃i,u=.int .i64 i:=by
 intro u hu
 unfold Builtin.zeroCells at hu
 rw[Array.mem_toList_iff,Array.mem_map] at hu
 obtain⟨i,-,e⟩:=hu
 rw[<-e]
 have:i% #[Value.int .i64 0].size=0:=Nat.mod_one _
 rw[this]
 exact⟨0,rfl⟩
theorem Jc.cur {w:World} {E E':TypeId} {b:Nat} {cur:List Value} {cs:Array Value} (h:Jc w E b cur) (h':w.heap[b]? =some (.cells cs E' (0,0))):cur=cs.toList:=by
 unfold Jc at h
 rw[h] at h'
 simp only[Option.some.injEq,Obj.cells.injEq,and_true] at h'
 rw[<-h'.1]
theorem Jgb {w:World} {gv:Value} {gone:List Int} (h:XK w gv gone) (x:Int) (a:Addr) (c:Nat) (hx:∀j u,[Value.int .i64 x][j]? =some u->w.cell? (a.add j)=some u) (hl:gone.length<=1000000) (ty:TypeId):
  ∃v' w',(Builtin.append_ #[55,55] ty #[gv,.slice (some a) 1 c]).run Tryz.prog w=.ok v' w'/\XK w' v' (gone++[x])/\w.grownBy w' gv.ownBlock/\(v'.ownBlock=gv.ownBlock\/v'.ownBlock=some w.heap.size):=by
 obtain⟨i0,hi,iz0,iz1,iz2⟩:=info_parts JpK
 have h1:∀u∈[Value.int .i64 x],u.oneCell'=true:=fun u hu=>by rw[List.mem_singleton] at hu;rw[hu];rfl
 obtain⟨v',w',hr,h2,h3,-,h5⟩:=run_append_own_at (P:=Tryz.prog) w 0 55 ty 3 i0 (.int .i64 0) 1 8 Tryz.underlying55 hi iz0 iz1 iz2 rfl (by decide) gv gone.length (Jg1 gone) h.own a 1 c [.int .i64 x] rfl hx h1 (by unfold maxLen;omega) (by omega) (Nat.zero_le _)
 refine⟨v',w',hr,⟨by rw[List.length_append];unfold Jg1 at h2⊢;rw[List.map_append];exact h2,?_⟩,h3,h5⟩
 have hnew:∀u∈[Value.int .i64 x],∃i,u=.int .i64 i:=fun u hu=>by rw[List.mem_singleton] at hu;exact⟨x,hu⟩
 have hgn:∀u∈Jg1 gone,∃i,u=.int .i64 i:=fun u hu=>by obtain⟨i,-,e⟩:=List.mem_map.1 hu;exact⟨i,e.symm⟩
 rcases h.own.2 with⟨e1,e2⟩|⟨g,cap,cur,e1,hbg,hg,hnc,hcm,hcs,htake⟩
 ·rw[e1] at hr
  have hr2:=run_append_nil (P:=Tryz.prog) w 55 ty 3 i0 (.int .i64 0) Tryz.underlying55 hi iz0 a 1 c [.int .i64 x] (by rw[iz1];rfl) hx (by omega) (by omega) (by rw[iz2];omega)
  rw[hr] at hr2
  injection hr2 with ev ew
  subst ev ew
  intro g hg cur hc u hu
  simp only[Value.ownBlock,Option.some.injEq] at hg
  subst hg
  rw[hc.cur (heap_alloc_new w.drew _)] at hu
  rw[Array.toList_append,List.mem_append] at hu
  rcases hu with hu|hu
  ·exact hnew u (by simpa using hu)
  ·exact Jgq _ u hu
 ·rw[e1] at hr
  by_cases hroom:gone.length+1<=cap
  ·have hr2:=run_append_room (P:=Tryz.prog) w 55 ty 3 i0 Tryz.underlying55 hi g gone.length cap cur hg a 1 c [.int .i64 x] (by rw[iz1];rfl) hx h1 hroom (by rw[iz1,hcs];simp;omega)
   rw[hr] at hr2
   injection hr2 with ev ew
   subst ev ew
   intro g' hg' cur' hc u hu
   simp only[Value.ownBlock,Option.some.injEq] at hg'
   subst hg'
   rw[hc.cur (setRow_heap w g cur _ _ _ hg)] at hu
   have hold:=h.int g (by rw[e1];rfl) cur.toList (by unfold Jc;rw[Array.toArray_toList];exact hg)
   simp only[List.append_assoc,List.mem_append,List.mem_singleton] at hu
   rcases hu with hu|hu|hu
   ·exact hold u (List.mem_of_mem_take hu)
   ·exact⟨x,hu⟩
   ·exact hold u (List.mem_of_mem_drop hu)
  ·have holds:∀j u,(Jg1 gone)[j]? =some u->w.cell? ((⟨g,0,none⟩:Addr).add j)=some u:=h.own.cells (g:=g) (by rw[e1];rfl)
   have hr2:=run_append_grow (P:=Tryz.prog) w 55 ty 3 i0 (.int .i64 0) Tryz.underlying55 hi iz0 ⟨g,0,none⟩ gone.length cap (Jg1 gone) (by rw[iz1];simp) holds a 1 c [.int .i64 x] (by rw[iz1];rfl) hx (by omega) (by omega) (growslice_fits (by omega) (by rw[iz2];omega))
   rw[hr] at hr2
   injection hr2 with ev ew
   subst ev ew
   intro g' hg' cur' hc u hu
   simp only[Value.ownBlock,Option.some.injEq] at hg'
   subst hg'
   rw[hc.cur (heap_alloc_new w.drew _)] at hu
   rw[Array.toList_append,List.mem_append,Array.toList_append,List.mem_append] at hu
   rcases hu with(hu|hu)|hu
   ·exact hgn u (by simpa using hu)
   ·exact hnew u (by simpa using hu)
   ·exact Jgq _ u hu
theorem JeZ {ops:Array Oper} {o:Oper} {a:Act} {w:World} {K:Act->World->Prop} {Q:Exit->Act->World->Prop} {E0:Prop} (hgd:o.guard=none) (s x:Operand)
  (ho:o.op=Op.call {callee:=Callee.builtin Builtin.append,args:= #[s,x],argTypes:= #[55,55]})
  (gv:Value) (gone:List Int) (hs:a.eval s=gv) (h:XK w gv gone) (y:Int) (ad:Addr) (c:Nat) (hx:a.eval x=.slice (some ad) 1 c) (hnews:∀j u,[Value.int .i64 y][j]? =some u->w.cell? (ad.add j)=some u) (hl:gone.length<=1000000)
  (hk:∀v' w',XK w' v' (gone++[y])->w.grownBy w' gv.ownBlock->(v'.ownBlock=gv.ownBlock\/v'.ownBlock=some w.heap.size)->K (a.put o.dst v') w'):
  if Region.wanted o (yielded ops a.tmps)=true then Oper.wp Tryz.prog o a w K Q else E0:=by
 have hw:Region.wanted o (yielded ops a.tmps)=true:=by simp[Region.wanted,hgd]
 rw[if_pos hw]
 obtain⟨v',w',hr,h2,h3,h5⟩:=Jgb h y ad c hnews hl o.type
 unfold Oper.wp
 simp only[execOp,ho,resolve,invoke,builtin,Sem.run_bind,Sem.run_pure,Result.andThen_ok,List.map_toArray,List.map_cons,List.map_nil,hs,hx,hr]
 exact hk v' w' h2 h3 h5
theorem JlO {v:Vt} (h:v.kn=none): {v with kn:=none}=v:=by cases v;simp at h;simp[h]
theorem Jhi (n:Nat) (v:Vt) (k:Option Pt):blocks n {v with kn:=k}=blocks n v:=by cases n<;>rfl
theorem Jcq.soil {w w':World} {v:Vt} (h:Jcq w v) (hk:Jg (fun x=>x=v.b) w w') (hs:Z3 w v.b) (hv:∀kn pa pg ps ld lf cs us ks,Jq w v.b kn pa pg ps ld lf cs us ks->Jq w' v.b false pa pg ps ld lf cs us ks):Jcq w' {v with kn:=none}:=by
 obtain⟨g,pa,pg,ps,a,x,h1,h2,h3⟩:=h
 exact⟨g,pa,pg,ps,a,x,hv _ _ _ _ _ _ _ _ _ h1,fun p hp=>(by cases hp),h3.keep hk fun b e=>by rw[show b=v.b from e];exact hs.str⟩
theorem Zh.soil {w w':World} {v:Vt} (h:Zh w v) (hk:Jg (fun x=>x=v.b) w w') (hs:Z3 w v.b) (hv:∀kn pa pg ps ld lf cs us ks,Jq w v.b kn pa pg ps ld lf cs us ks->Jq w' v.b false pa pg ps ld lf cs us ks):Zh w' {v with kn:=none}:=by
 obtain⟨g,pa,pg,ps,a1,c1,a2,c2,a3,c3,h1,h2,h3,h4⟩:=h
 exact⟨g,pa,pg,ps,a1,c1,a2,c2,a3,c3,hv _ _ _ _ _ _ _ _ _ h1,fun p hp=>(by cases hp),h3.keep hk (fun b e=>by rw[show b=v.b from e];exact hs.str),Xu.keep h4 hk (fun b e=>by rw[show b=v.b from e];exact hs)⟩
theorem Mem.soil {w w':World} {n:Nat} {v:Vt} (hm:Mem w n v) (hl:v.ld=true) (hnd:(blocks n v).Nodup) (hk:Jg (fun x=>x=v.b) w w') (hv:∀kn pa pg ps ld lf cs us ks,Jq w v.b kn pa pg ps ld lf cs us ks->Jq w' v.b false pa pg ps ld lf cs us ks):Mem w' n {v with kn:=none}:=by
 have hs:=(hm.lt v.b hm.head).1
 cases n with
 |zero=>exact⟨hm.in,Or.inl ((hm.leaf hl).soil hk hs hv)⟩
 |succ n=>
  obtain⟨h1,h2⟩:=hm.node hl
  refine⟨hm.in,Or.inl ⟨h1.soil hk hs hv,fun x hx=>(h2 x hx).keep hk (fun b e=>by rw[show b=v.b from e];exact hs) fun b hb e=> ?_⟩⟩
  rw[show b=v.b from e] at hb
  rw[JL hm.in,List.nodup_cons] at hnd
  exact hnd.1 (List.mem_flatMap.2 ⟨x,hx,hb⟩)
theorem CAt.gone {w w':World} {K:Kx} {root h:Nat} {T:Tx} (c:CAt w K root h T) {gv':Value} {gone':List Int} (hg:w.grownBy w' T.gv.ownBlock) (hG:XK w' gv' gone'):CAt (w'.setCell ⟨K.tb,6,none⟩ gv') K root h {T with gv:=gv',gone:=gone'}/\Jg (fun x=>x=K.tb\/T.gv.ownBlock=some x) w (w'.setCell ⟨K.tb,6,none⟩ gv'):=by
 have hne:some K.tb≠T.gv.ownBlock:=fun e=>by
  obtain⟨cur,hc⟩:=Jt c.gn.own K.tb e.symm
  exact absurd (hc.one c.tr.row).1 (by decide)
 have hsb:some K.sb≠T.gv.ownBlock:=fun e=>by
  obtain⟨cur,hc⟩:=Jt c.gn.own K.sb e.symm
  exact absurd (hc.one c.sh.row).1 (by decide)
 have hmb:some K.mb≠T.gv.ownBlock:=fun e=>by
  obtain⟨cur,hc⟩:=Jt c.gn.own K.mb e.symm
  exact c.sh.noMap hc
 have hts:K.sb≠K.tb:=fun e=>by
  have:=c.tr.row
  rw[<-e] at this
  exact absurd (this.one c.sh.row).1 (by decide)
 have htm:K.mb≠K.tb:=fun e=>by
  have:=c.tr.row
  rw[<-e] at this
  exact c.sh.noMap this
 have hr:=c.tr.row.kept hg hne
 refine⟨⟨⟨hr.put 6 gv'⟩,hG.keep ((Jg.refl (fun x=>x=K.tb) w').setCell ⟨K.tb,6,none⟩ (Or.inl rfl) _) (fun x e k=> ?_),⟨(c.sh.row.kept hg hsb).far ⟨K.tb,6,none⟩ hts _,(c.sh.map.kept' hg hmb).keep ((Jg.refl (fun x=>x=K.tb) w').setCell ⟨K.tb,6,none⟩ (Or.inl rfl) _) htm⟩⟩,?_⟩
 ·have k':x=K.tb:=k
  subst k'
  obtain⟨cur,hc⟩:=Jt hG.own _ e
  exact absurd (hc.one hr).1 (by decide)
 ·exact((Jg.refl (fun x=>x=K.tb\/T.gv.ownBlock=some x) w).grown hg fun k e=>Or.inl (Or.inr e)).setCell ⟨K.tb,6,none⟩ (Or.inl (Or.inl rfl)) _
theorem Jc1 {K:Kx} {root h:Nat} {T:Tx} {n:Nat} {v:Vt} (w:World) (c:CAt w K root h T) (hm:Mem w n v) (hnd:(blocks n v).Nodup) (hl:v.ld=true) (hg:T.gone.length<=1000000):
  Calls Tryz.prog 65 #[.pointer (some ⟨K.tb,0,none⟩),.pointer (some ⟨v.b,0,none⟩)] w fun e w'=>e=.returned (.tuple #[])/\∃gv',Mv K root h n w v T w' {v with kn:=none} {T with gv:=gv',gone:=T.gone++v.kn.toList.map Pt.a}:=by
 obtain⟨pa,pg,ps,a1,n1,x1,a2,n2,x2,a3,n3,x3,a4,n4,x4,hv⟩:=hm.vxAt
 cases hk:v.kn with
 |none=>
  rw[hk] at hv
  refine(Je1 K.tb w hv).mono ?_
  rintro e w' ⟨rfl,hb⟩
  refine⟨rfl,T.gv,?_⟩
  rw[JlO hk]
  have:=(Mv.refl hm hnd c).on hb
  simp only[Option.toList_none,List.map_nil,List.append_nil]
  exact this
 |some p=>
  have hpa:pa=p.a:=by
   cases n with
   |zero=>
    obtain⟨qa,qg,qs,a,x,h1,h2,-⟩:=(hm.leaf hl).ex
    rw[(hv.one h1).2.1,(h2 p hk).1]
   |succ n=>
    obtain⟨qa,qg,qs,b1,y1,b2,y2,b3,y3,h1,h2,-⟩:=(hm.node hl).1.ex
    rw[(hv.one h1).2.1,(h2 p hk).1]
  rw[hk,hl] at hv
  subst hpa
  replace hv:Jq w v.b true p.a pg ps true (.slice a1 n1 x1) (.slice a2 n2 x2) (.slice a3 n3 x3) (.slice a4 n4 x4):=hv
  obtain⟨ga,gx,hgv⟩:=c.gn.form
  have HV:=Lib.hid hv
  have HM:=Lib.hid (And.intro hm (And.intro hnd c))
  have c0:=hv.c0
  have c1:=hv.c1
  have f0:=hv.fz 0
  have t6:=c.tr.c6
  have ft6:=c.tr.fz 6
  have htl:=c.tr.lt
  have hvl:=hv.lt
  have hG:=Lib.hid c.gn
  rw[hgv] at t6
  have t6a:∀x,(w.alloc x).cell? ⟨K.tb,6,none⟩=some (.slice ga T.gone.length gx):=fun x=>(World.cell?_alloc_past _ _ _ htl).trans t6
  have c1a:∀x,(w.alloc x).cell? ⟨v.b,1,none⟩=some (.int .i64 p.a):=fun x=>(World.cell?_alloc_past _ _ _ hvl).trans c1
  clear hv hm hnd c
  go_enter Tryz.func65,Tryz.ntmps65
  go_upto_region 1 with(fail)
  obtain⟨W3,hW3⟩:∃W3,W3=(w.alloc (.cells #[.int .i64 p.a] 3)).drew:=⟨_,rfl⟩
  have hX3:Below w.heap.size w W3:=by rw[hW3];exact Jb ((Below.refl _ _).alloc (Nat.le_refl _) _)
  have hG3:=Lib.hid (hG.out.on hX3)
  have hC3:=Lib.hid (HM.out.2.2.on hX3)
  have hV3:=Lib.hid (HV.out.on hX3)
  have hcell:∀j u,[Value.int .i64 p.a][j]? =some u->W3.cell? ((⟨w.heap.size,0,none⟩:Addr).add j)=some u:=fun j u hu=>by
   rw[hW3]
   exact Jj (XF _ _ rfl _ _ j u hu)
  have hne:some K.tb≠T.gv.ownBlock:=fun e=>by
   obtain⟨cur,hc⟩:=Jt hG.out.own K.tb e.symm
   exact absurd (hc.one HM.out.2.2.tr.row).1 (by decide)
  have hnv:some v.b≠T.gv.ownBlock:=fun e=>by
   obtain⟨cur,hc⟩:=Jt hG.out.own v.b e.symm
   exact absurd (hc.one HV.out.row).1 (by decide)
  go_region_law (first|(rw[<-hW3];refine JeZ (by rfl) _ _ (by rfl) _ T.gone (by exact hgv.symm) hG3.out p.a ⟨w.heap.size,0,none⟩ 1 (by rfl) hcell hg ?_;intro vz wz hgz hgrowz hbz;obtain⟨ac,yc,rfl⟩:=hgz.form;have z6:=hgrowz.cell hC3.out.tr.c6 hne;have zf:=(World.frozen?_of_block (hgrowz.block K.tb hC3.out.tr.lt hne)).trans (hC3.out.tr.fz 6);have HZ:=Lib.hid (And.intro hgz (And.intro hgrowz hbz));have y0:=hgrowz.cell hV3.out.c0 hnv;have yf:=(World.frozen?_of_block (hgrowz.block v.b hV3.out.lt hnv)).trans (hV3.out.fz 0);clear hgz hgrowz hbz))
  all_goals
   obtain⟨hgz,hgrowz,hbz⟩:=HZ.out
   have el:(T.gone++[p.a]).length=T.gone.length+1:=by simp
   rw[el] at hgz hbz
   obtain⟨hC4,hK4⟩:=hC3.out.gone hgrowz hgz
   have hvt:v.b≠K.tb:=fun e=>by
    have h1:=HV.out.row
    rw[e] at h1
    exact absurd (h1.one HM.out.2.2.tr.row).1 (by decide)
   obtain⟨W4,hW4⟩:∃W4,W4=wz.setCell ⟨K.tb,6,none⟩ (.slice ac (T.gone.length+1) yc):=⟨_,rfl⟩
   have y0':W4.cell? ⟨v.b,0,none⟩=some (.bool true):=by rw[hW4];exact J5 hvt y0
   have yf':W4.frozen? ⟨v.b,0,none⟩=false:=by
    rw[hW4,World.frozen?_setCell]
    exact yf
   rw[<-hW4] at hC4 hK4⊢
   clear hW4 z6 zf y0 yf
   go_wp2_with fail
   refine bodyPost_end (v:=.tuple #[]) (by simp[results,Tryz.results65,go_sem]) rfl ⟨rfl,.slice ac (T.gone.length+1) yc,?_⟩
   obtain⟨hm,hnd,c⟩:=HM.out
   have hKw:Jg (fun x=>Own K T x) w W4:=(Jg.of_below hX3).trans' (hK4.mono fun x hx=>hx.elim (fun e=>Or.inl e) (fun e=>Or.inr (Or.inr e)))
   have hm4:Mem W4 n v:=hm.keep hKw (fun b hb=>(c.soft b hb).1) fun b hb ho=>by
    obtain⟨cur,hc⟩:=hm.cells b hb
    exact(c.notVx hc).1 ho
   have hK5:Jg (fun x=>x=v.b) W4 (W4.setCell ⟨v.b,0,none⟩ (.bool false)):=(Jg.refl (fun x=>x=v.b) W4).setCell ⟨v.b,0,none⟩ (Or.inl rfl) _
   have hm5:=hm4.soil hl hnd hK5 fun kn pa pg ps ld lf cs us ks hq=>⟨hq.row.put 0 _⟩
   refine⟨hm5,by rw[Jhi];exact hnd,fun b hb=>Or.inl (by rw[Jhi] at hb;exact hb),rfl,?_,fun x hx=> ?_,?_⟩
   ·exact hC4.keep hK5 fun x e=>by
     obtain rfl:x=v.b:=e
     exact Or.inl (hm4.cells _ hm4.head)
   ·rcases hbz with e|e
    ·rw[e] at hx;exact Or.inl hx
    ·rw[e] at hx
     have:=hX3.size
     exact Or.inr (by rw[<-Option.some.inj hx];exact this)
   ·exact(hKw.mono fun x hx=>Or.inl hx).trans' (hK5.mono fun x e=>Or.inr (by obtain rfl:x=v.b:=e;exact hm.head))
end Go.Proofs.YtafciefjlkdecaaGreat
namespace Go.Proofs.YtafciefjlkdecaaGreat
open Go.RowKit
abbrev Jbn (x:Nat):Value:=.pointer (some ⟨x,0,none⟩)
def JaM (w:World) (x:Nat):Prop:=∃cur,Jc w 108 x cur
structure YU (w:World) (b:Nat):Prop where
 own:∃es clock,w.heap[b]? =some (.map es clock)/\∀e∈es.toList,∃x,e.key=Jbn x/\JaM w x
theorem YU.made (w:World):YU (w.alloc (.map #[] 0)) w.heap.size:=⟨#[],0,heap_alloc_new w _,fun e he=>by simp at he⟩
theorem YU.lt {w:World} {b:Nat} (h:YU w b):b<w.heap.size:=by
 obtain⟨es,c,h1,-⟩:=h
 exact(Array.getElem?_eq_some_iff.1 h1).1
theorem YU.keep {w w':World} {b:Nat} {M:Nat->Prop} (h:YU w b) (hk:Jg M w w') (hb:¬M b) (hM:∀x,JaM w x->¬M x):YU w' b:=by
 have hl:=h.lt
 obtain⟨es,c,h1,h2⟩:=h
 refine⟨es,c,(hk.block b hl hb).trans h1,fun e he=> ?_⟩
 obtain⟨x,e1,cur,hc⟩:=h2 e he
 exact⟨x,e1,cur,hk.row hc (hM x ⟨cur,hc⟩)⟩
theorem YU.on {w w':World} {b:Nat} (h:YU w b) (hb:Below w.heap.size w w'):YU w' b:=h.keep (Jg.of_below (S:=fun _=>False) hb) (fun q=>q) fun _ _ q=>q
theorem YU.noRow {w:World} {b:Nat} (h:YU w b) {E:TypeId} {cur:List Value}:¬Jc w E b cur:=fun hr=>by
 obtain⟨es,clock,hb,_⟩:=h
 unfold Jc at hr
 rw[hb] at hr
 simp at hr
theorem YU.soft {w:World} {b:Nat} (h:YU w b):XO w b/\∀cur,¬Jc w 97 b cur:=by
 refine⟨fun o q e=> ?_,fun cur hr=>h.noRow hr⟩
 obtain⟨es,clock,hb,_⟩:=h
 unfold World.cell? at e
 rw[hb] at e
 simp at e
theorem Jow {w:World} {x y:Nat} (hx:JaM w x) (hy:JaM w y):(Op.equal 97 (Jbn x) (Jbn y)).run Tryz.prog w=.ok (decide (x=y)) w:=by
 obtain⟨cx,hx⟩:=hx
 obtain⟨cy,hy⟩:=hy
 have hs:(sameAddr ⟨x,0,none⟩ ⟨y,0,none⟩).run Tryz.prog w=.ok (decide (x=y)) w:=by
  by_cases e:x=y
  ·subst e
   rw[run_sameAddr_same];simp
  ·rw[run_sameAddr_other w (a:=⟨x,0,none⟩) (b:=⟨y,0,none⟩) (fun q=>e (congrArg Addr.block q)) hx hy]
   simp[e]
 unfold Op.equal
 rw[show Op.maxDepth=(Op.maxDepth-1)+1 by decide,Op.equalIn]
 simp[run_underlying Tryz.underlying97,Result.andThen,hs]
theorem JlU {w:World} {x:Nat} (hx:JaM w x):∀(es:List MapEntry) (i:Nat),(∀e∈es,∃x,e.key=Jbn x/\JaM w x)->∃r,(Instr.findAsking 97 (Jbn x) es i).run Tryz.prog w=.ok r w/\∀j q,r=some (j,q)->i<=j/\∃e,es[j-i]? =some e/\e.key=Jbn x
 |[],i,_=>⟨none,rfl,fun j q h=>by cases h⟩
 |e::es,i,h=>by
  obtain⟨y,hb,hy⟩:=h e (by simp)
  have hr:=Jow hx hy
  obtain⟨q,hq,hq2⟩:=JlU hx es (i+1) fun x hx=>h x (List.mem_cons_of_mem _ hx)
  by_cases exy:x=y
  ·subst exy
   refine⟨some (i,e.val),?_,fun j q hj=> ?_⟩
   ·rw[Instr.findAsking,hb]
    simp[hr,Result.andThen]
   ·simp only[Option.some.injEq,Prod.mk.injEq] at hj
    obtain⟨rfl,-⟩:=hj
    exact⟨Nat.le_refl _,e,by simp,hb⟩
  ·refine⟨q,?_,fun j z hj=> ?_⟩
   ·rw[Instr.findAsking,hb]
    simp[hr,exy,hq,Result.andThen]
   ·obtain⟨h1,e',h2,h3⟩:=hq2 j z hj
    refine⟨by omega,e',?_,h3⟩
    rw[show j-i=(j- (i+1))+1 by omega,List.getElem?_cons_succ]
    exact h2
theorem Jk8 {w:World} {x:Nat} (hx:JaM w x) (es:List MapEntry) (h:∀e∈es,∃x,e.key=Jbn x/\JaM w x):∃r,(Instr.findKey 97 (Jbn x) es).run Tryz.prog w=.ok r w/\∀j q,r=some (j,q)->∃e,es[j]? =some e/\e.key=Jbn x:=by
 obtain⟨q,hq,hq2⟩:=JlU hx es 0 h
 unfold Instr.findKey
 cases es with
 |nil=>exact⟨none,by simp[Instr.findNow,run_underlying Tryz.underlying97,Result.andThen],fun j q h=>by cases h⟩
 |cons e es=>
  obtain⟨b,hb,-⟩:=h e (by simp)
  refine⟨q,by simp[Instr.findNow,Instr.sameNow,hb,run_underlying Tryz.underlying97,Result.andThen,hq],fun j z hj=> ?_⟩
  obtain⟨-,e',h2,h3⟩:=hq2 j z hj
  exact⟨e',by simpa using h2,h3⟩
theorem Jq8 (a:Value) (x:Nat) (h:a=Jbn x) (w:World):(Instr.keyThatStays a (Jbn x)).run Tryz.prog w=.ok (Jbn x) w:=by
 subst h
 unfold Instr.keyThatStays
 rw[show(10000:Nat)=9999+1 from rfl]
 simp[Instr.sameBits]
theorem YU.put {w:World} {b x:Nat} (h:YU w b) (hx:JaM w x) (v:Value):∃w',(Instr.mapUpdate 119 (.map (some b)) (Jbn x) v).run Tryz.prog w=.ok () w'/\YU w' b/\w.grownBy w' (some b):=by
 have hnr:∀y,JaM w y->y≠b:=fun y ⟨cur,hc⟩ e=>h.noRow (e▸hc)
 obtain⟨es,c,hb,hk⟩:=h
 have h1:(Instr.checkKey false 10000 97 (Jbn x)).run Tryz.prog w=.ok () w:=by
  rw[show(10000:Nat)=9999+1 from rfl,Instr.checkKey]
  simp[run_underlying Tryz.underlying97,Result.andThen]
 obtain⟨r,hr,hr2⟩:=Jk8 hx es.toList hk
 have hbl:b<w.heap.size:=(Array.getElem?_eq_some_iff.1 hb).1
 have hgr:∀o,w.grownBy (ChangeMaps.setBlock w b o) (some b):=fun o=>⟨rfl,rfl,rfl,by simp[ChangeMaps.setBlock],fun i _ hi=>ChangeMaps.heap_setBlock_other hb _ (fun e=>hi (by rw[e]))⟩
 have hnew:∀o,(ChangeMaps.setBlock w b o).heap[b]? =some o:=fun o=>by simp[ChangeMaps.setBlock,hbl]
 have hvx:∀o y,JaM w y->JaM (ChangeMaps.setBlock w b o) y:=fun o y ⟨cur,hc⟩=>⟨cur,((hgr o).block y hc.lt (fun e=>hnr y ⟨cur,hc⟩ (Option.some.inj e).symm.symm)).trans hc⟩
 cases r with
 |none=>
  refine⟨_,?_,⟨_,_,hnew _,fun e he=> ?_⟩,hgr (.map (es.push ⟨Jbn x,v,c⟩) (c+1))⟩
  ·simp[Instr.mapUpdate,run_underlying Tryz.underlying119,MapKept.run_getObj_map hb,h1,hr,MapKept.run_setObj_map _ hb,ChangeMaps.setBlock,Result.andThen]
  ·rw[Array.toList_push,List.mem_append,List.mem_singleton] at he
   rcases he with he|rfl
   ·obtain⟨y,e1,e2⟩:=hk e he
    exact⟨y,e1,hvx _ y e2⟩
   ·exact⟨x,rfl,hvx _ x hx⟩
 |some p=>
  obtain⟨i,q⟩:=p
  obtain⟨e',hi,he'⟩:=hr2 i q rfl
  rw[Array.getElem?_toList] at hi
  have hst:=Jq8 (((es[i]?).map (·.key)).getD (Jbn x)) x (by rw[hi];exact he') w
  refine⟨_,?_,⟨_,_,hnew _,fun e he=> ?_⟩,hgr (.map (es.modify i fun e=> {e with key:=Jbn x,val:=v}) c)⟩
  ·simp[Instr.mapUpdate,run_underlying Tryz.underlying119,MapKept.run_getObj_map hb,h1,hr,hst,MapKept.run_setObj_map _ hb,ChangeMaps.setBlock,Result.andThen]
  ·rw[Array.toList_modify] at he
   obtain⟨k,hk1,hk2⟩:=List.mem_iff_getElem.1 he
   rw[List.getElem_modify] at hk2
   split at hk2
   ·rw[<-hk2];exact⟨x,rfl,hvx _ x hx⟩
   ·rw[<-hk2]
    obtain⟨y,e1,e2⟩:=hk _ (List.getElem_mem (by simpa using hk1))
    exact⟨y,e1,hvx _ y e2⟩
open Go.RowKit
theorem JjK (l:List Chd) (k:List UInt8) (h0:0<l.length) (h:l[0].low=[]):∀j,0<j->0<=Jbk l k j
 |0,hj=>absurd hj (by omega)
 |1,_=>by rw[JfT h0 (by rw[h];exact Zm k)];simp
 |j+2,_=>by
  have:=JjK l k h0 h (j+1) (by omega)
  unfold Jbk
  split
  ·split<;>omega
  ·omega
theorem JaE {cs:List Chd} {i:Nat} (h:i<cs.length):Y8 cs i=cs[i].low:=by
 unfold Y8;rw[List.getElem?_eq_getElem h];rfl
structure Bel (cs:List Chd) (k:List UInt8) (i:Nat):Prop where
 lt:i<cs.length
 no:bl k (Y8 cs i)=false
 up:∀j,i<j->j<cs.length->bl k (Y8 cs j)=true
theorem JjL (cs:List Chd) (k:List UInt8) (i:Nat):∀n,n<=cs.length->(Jbk cs k n=(i:Int)↔i<n/\bl k (Y8 cs i)=false/\∀j,i<j->j<n->bl k (Y8 cs j)=true)
 |0,_=>by unfold Jbk;constructor;·intro h;omega
          ·rintro⟨h,-⟩;omega
 |n+1,hn=>by
  have ih:=JjL cs k i n (by omega)
  have hl:Y8 cs n=cs[n].low:=JaE (by omega)
  cases hb:bl k cs[n].low with
  |true=>
   rw[Jl3 (by omega) hb,ih]
   constructor
   ·rintro⟨h1,h2,h3⟩
    refine⟨by omega,h2,fun j hj hj2=> ?_⟩
    by_cases e:j=n
    ·subst e;rw[hl];exact hb
    ·exact h3 j hj (by omega)
   ·rintro⟨h1,h2,h3⟩
    have hin:i≠n:=fun e=>by subst e;rw[hl,hb] at h2;exact absurd h2 (by simp)
    exact⟨by omega,h2,fun j hj hj2=>h3 j hj (by omega)⟩
  |false=>
   rw[JfT (by omega) hb]
   constructor
   ·intro h
    obtain rfl:n=i:=by omega
    exact⟨by omega,by rw[hl];exact hb,fun j _ _=>by omega⟩
   ·rintro⟨h1,h2,h3⟩
    by_cases e:n=i
    ·omega
    ·have:=h3 n (by omega) (by omega)
     rw[hl,hb] at this;exact absurd this (by simp)
theorem JjJ (cs:List Chd) (k:List UInt8) (i:Nat):Xn cs k=(i:Int)↔Bel cs k i:=by
 unfold Xn
 rw[JjL cs k i _ (Nat.le_refl _)]
 exact⟨fun⟨h1,h2,h3⟩=>⟨h1,h2,h3⟩,fun h=>⟨h.lt,h.no,h.up⟩⟩
structure Ja8 (cs:List Chd):Prop where
 pos:0<cs.length
 first:Y8 cs 0=[]
 rise:∀i j,i<j->j<cs.length->bl (Y8 cs i) (Y8 cs j)=true
theorem Ja8.bel {cs:List Chd} (h:Ja8 cs) (k:List UInt8):∃i:Nat,Xn cs k=(i:Int)/\Bel cs k i:=by
 have h1:0<=Xn cs k:=JjK cs k h.pos (by rw[<-JaE h.pos];exact h.first) _ h.pos
 obtain⟨i,hi⟩:=Int.eq_ofNat_of_zero_le h1
 exact⟨i,hi,(JjJ cs k i).1 hi⟩
theorem Ja8.high_ne {cs:List Chd} (h:Ja8 cs) {i:Nat} (hi:0<i) (hl:i<cs.length):(Y8 cs i).isEmpty=false:=by
 have:=h.rise 0 i hi hl
 cases e:Y8 cs i with
 |nil=>rw[e,Zm] at this;exact absurd this (by simp)
 |cons a l=>rfl
theorem Jj8 {cs:List Chd} (h:Ja8 cs) (k:List UInt8) (i:Nat) (hi:i<cs.length):Jn k (Yv cs (i:Int)) (JX cs (i:Int))=decide (Xn cs k=(i:Int)):=by
 have hlo:Yv cs (i:Int)=Y8 cs i:=by unfold Yv Y8;rw[if_neg (by omega)];rfl
 have hhi:JX cs (i:Int)=Y8 cs (i+1):=by unfold JX Y8;rw[if_neg (by omega),if_pos (by simpa using hi)];rfl
 rw[hlo,hhi,Bool.eq_iff_iff,decide_eq_true_iff,JjJ]
 unfold Jn
 simp only[Bool.and_eq_true,Bool.not_eq_true',Bool.or_eq_true]
 constructor
 ·rintro⟨h1,h2⟩
  refine⟨hi,h1,fun j hj hjl=> ?_⟩
  rcases h2 with h2|h2
  ·rw[h.high_ne (by omega) (by omega)] at h2;exact absurd h2 (by simp)
  ·by_cases e:j=i+1
   ·subst e;exact h2
   ·exact J4 h2 (h.rise (i+1) j (by omega) hjl)
 ·intro hb
  refine⟨hb.no,?_⟩
  by_cases e:i+1<cs.length
  ·exact Or.inr (hb.up (i+1) (by omega) e)
  ·left;unfold Y8;rw[List.getElem?_eq_none (by omega)];rfl
theorem Jnb {cs:List Chd} (h:Ja8 cs) {us:List Upd} (hr:Je Upd.key us) (i:Nat) (hi:i<cs.length):JH us (Yv cs (i:Int)) (JX cs (i:Int))=us.filter (fun u=>decide (Xn cs u.key=(i:Int))):=by
 rw[(Y4 hr _ _).1]
 congr 1;funext u;exact Jj8 h u.key i hi
theorem Jgi (l:List Upd) (p q:Upd->Bool):((l.filter p).filter q).length<=(l.filter q).length:=by
 rw[List.filter_filter,List.filter_congr (q:=fun a=>p a&&q a) (fun x _=>Bool.and_comm _ _),<-List.filter_filter]
 exact List.length_filter_le _ _
theorem JhX (l:List Upd) (p:Upd->Bool):(l.filter p).length+(l.filter fun u=> !p u).length=l.length:=by
 induction l with
 |nil=>rfl
 |cons u t ih=>
  cases hp:p u with
  |true=>rw[List.filter_cons_of_pos hp,List.filter_cons_of_neg (by simp[hp])];simp only[List.length_cons];omega
  |false=>rw[List.filter_cons_of_neg (by simp[hp]),List.filter_cons_of_pos (by simp[hp])];simp only[List.length_cons];omega
theorem JlY (cs:List Chd) (m:Int):∀(n:Nat) (us:List Upd),(∀u∈us,0<=Xn cs u.key/\Xn cs u.key<(n:Int))->(∀i:Nat,i<n->((us.filter fun u=>decide (Xn cs u.key=(i:Int))).length:Int)<=m)->(us.length:Int)<=m*(n:Int)
 |0,us,h,_=>by
  cases us with
  |nil=>simp
  |cons u l=>have:=h u (by simp);omega
 |n+1,us,h,hm=>by
  have h1:=JlY cs m n (us.filter fun u=> !decide (Xn cs u.key=(n:Int))) (fun u hu=>by
   obtain⟨h1,h2⟩:=List.mem_filter.1 hu
   have:=h u h1
   simp at h2
   omega) (fun i hi=>by
   have:=hm i (by omega)
   have h2:=Jgi us (fun u=> !decide (Xn cs u.key=(n:Int))) (fun u=>decide (Xn cs u.key=(i:Int)))
   omega)
  have h2:=JhX us (fun u=>decide (Xn cs u.key=(n:Int)))
  have h3:=hm n (by omega)
  have e:m*((n+1:Nat):Int)=m*(n:Int)+m:=by rw[Int.natCast_succ,Int.mul_add,Int.mul_one]
  rw[e]
  omega
theorem JdM {n:Nat} {lo hi:List UInt8} {v:Vt} (h:Ok (n+1) lo hi v):Ja8 v.cs:=by
 have hk:=h.okk
 have hf:=h.2.2.2.2.1
 have hr:=hk.rising
 have hne:=hk.ne
 cases hc:v.ch with
 |nil=>exact absurd hc hne
 |cons x l=>
  rw[hc] at hf hr hk
  have hx:=hf x rfl
  rw[List.tail_cons] at hr
  have e:v.cs=x.1::l.map Prod.fst:=by rw[Vt.cs,hc];rfl
  refine⟨by rw[e];simp,by rw[e];exact hx,fun i j hij hj=> ?_⟩
  rw[e] at hj⊢
  rw[List.length_cons,List.length_map] at hj
  have hl:∀j (hj:j<l.length),Y8 (x.1::l.map Prod.fst) (j+1)=lw l[j]:=fun j hj=>by
   unfold Y8
   rw[List.getElem?_cons_succ,List.getElem?_map,List.getElem?_eq_getElem hj]
   rfl
  obtain⟨j,rfl⟩:∃j',j=j'+1:=⟨j-1,by omega⟩
  rw[hl j (by omega)]
  cases i with
  |zero=>
   show bl x.1.low _=true
   rw[show x.1.low=[] from hx]
   exact JdW (JY ((hk.lo_lt _ (by rw[List.tail_cons];exact List.getElem_mem (by omega:j<l.length))).1))
  |succ i=>
   rw[hl i (by omega)]
   exact List.pairwise_iff_getElem.1 hr i j (by omega) (by omega) (by omega)
theorem Jkn {A D:List (Chd×Vt)} {c:Chd} {t:Vt} {v:Vt} (e:v.ch=A++(c,t)::D):Yv v.cs (A.length:Int)=c.low/\JX v.cs (A.length:Int)=hdL D:=by
 have ec:v.cs=A.map Prod.fst++c::D.map Prod.fst:=by rw[Vt.cs,e];simp
 refine⟨?_,?_⟩
 ·unfold Yv
  rw[if_neg (by omega),ec,Int.toNat_natCast,List.getElem?_append_right (by rw[List.length_map];exact Nat.le_refl _),List.length_map,Nat.sub_self]
  rfl
 ·unfold JX
  rw[if_neg (by omega),ec,Int.toNat_natCast,if_pos (by simp),List.getElem?_append_right (by rw[List.length_map];omega),List.length_map]
  rw[show A.length+1-A.length=1 by omega]
  cases D with
  |nil=>rfl
  |cons y D=>rfl
theorem Jki {n:Nat} {lo hi:List UInt8} {v:Vt} (ho:Ok (n+1) lo hi v) (hus:v.us≠[]):∃A c t D,v.ch=A++(c,t)::D/\Jct (Ye v.cs v.us) 1=[((A.length:Nat):Int)]/\(∃hk:A.length<(Ye v.cs v.us).length,¬(Ye v.cs v.us)[A.length]<1)/\Yv v.cs (A.length:Int)=c.low/\JX v.cs (A.length:Int)=hdL D/\0<(JH v.us c.low (hdL D)).length/\v.us.length<=v.ch.length*(JH v.us c.low (hdL D)).length:=by
 have hK:=JdM ho
 have hpos:=hK.pos
 obtain⟨k,hk,htop,hbest⟩:=Jpf (Ye v.cs v.us) (by rw[ZB];exact hpos)
 have hkl:k<v.ch.length:=by rw[ZB,List.length_map] at hk;exact hk
 have hsplit:v.ch=v.ch.take k++(v.ch[k].1,v.ch[k].2)::v.ch.drop (k+1):=by
  have:=List.take_append_drop k v.ch
  rw[List.drop_eq_getElem_cons hkl] at this
  exact this.symm
 have hlen:(v.ch.take k).length=k:=by rw[List.length_take];omega
 obtain⟨h1,h2⟩:=Jkn hsplit
 have hcut:=Jnb hK ho.usr k (by rw[List.length_map];exact hkl)
 rw[hlen] at h1 h2
 rw[h1,h2] at hcut
 have hcnt:(Ye v.cs v.us)[k]=((JH v.us v.ch[k].1.low (hdL (v.ch.drop (k+1)))).length:Int):=by
  rw[ZX,hcut]
 have hsum:=JlY v.cs ((Ye v.cs v.us)[k]) v.cs.length v.us (fun u _=>by
  obtain⟨i,hi,hb⟩:=hK.bel u.key
  rw[hi]
  have:=hb.lt
  omega) (fun i hi=>by
  have:=hbest _ (List.getElem_mem (l:=Ye v.cs v.us) (n:=i) (by rw[ZB];exact hi))
  rw[ZX] at this
  exact this)
 have hul:0<v.us.length:=List.length_pos_iff.2 hus
 have hle:v.us.length<=v.ch.length*(JH v.us v.ch[k].1.low (hdL (v.ch.drop (k+1)))).length:=by
  rw[hcnt,List.length_map] at hsum
  have h3:(v.us.length:Int)<=((v.ch.length*(JH v.us v.ch[k].1.low (hdL (v.ch.drop (k+1)))).length:Nat):Int):=by
   rw[Int.natCast_mul,Int.mul_comm]
   exact hsum
  omega
 have hc0:0<(JH v.us v.ch[k].1.low (hdL (v.ch.drop (k+1)))).length:=by
  rcases Nat.eq_zero_or_pos (JH v.us v.ch[k].1.low (hdL (v.ch.drop (k+1)))).length with h0|h0
  ·rw[h0,Nat.mul_zero] at hle;omega
  ·exact h0
 refine⟨v.ch.take k,v.ch[k].1,v.ch[k].2,v.ch.drop (k+1),hsplit,?_,⟨by rw[hlen];exact hk,?_⟩,?_,?_,hc0,hle⟩
 ·rw[hlen];exact htop
 ·have:(Ye v.cs v.us)[(v.ch.take k).length]'(by rw[hlen];exact hk)=(Ye v.cs v.us)[k]:=by congr 1
  rw[this,hcnt]
  omega
 ·rw[hlen];exact h1
 ·rw[hlen];exact h2
open Go.RowKit
def scK (f:Vt->List Upd->List Ent) (all:List Upd):List (Chd×Vt)->List Ent
 |[]=>[]
 |x::r=>f x.2 (JH all (lw x) (hdL r))++scK f all r
def en:Nat->Vt->List Ent
 |0,v=>v.es
 |n+1,v=>scK (fun t I=>en n (gv n t I)) v.us v.ch
def enG (n:Nat) (v:Vt) (above:List Upd):List Ent:=en n (gv n v above)
theorem JhZ (n:Nat) (v:Vt):en (n+1) v=scK (enG n) v.us v.ch:=rfl
theorem XZ (f:Vt->List Upd->List Ent) (all:List Upd) (x:Chd×Vt) (r:List (Chd×Vt)):scK f all (x::r)=f x.2 (JH all (lw x) (hdL r))++scK f all r:=rfl
structure Jqe (n:Nat) (lo hi:List UInt8) (v:Vt):Prop where
 rise:Je Ent.key (en n v)
 ent:∀e∈en n v,Jbg e/\Jn e.key lo hi=true
 look:∀q,Jn q lo hi=true->Jz (en n v) q=den n v q
structure EnK (n:Nat) (lo hi:List UInt8) (us:List Upd) (l:List (Chd×Vt)):Prop where
 rise:Je Ent.key (scK (enG n) us l)
 ent:∀e∈scK (enG n) us l,Jbg e/\Jn e.key lo hi=true
 look:∀q,Jn q lo hi=true->Jz (scK (enG n) us l) q=JdX (Yn us q) (Zo n l q)
theorem Jmk (k:List UInt8):YS k []:=Or.inl rfl
theorem JlC {n:Nat} (IH:∀lo hi v,Ok n lo hi v->Jqe n lo hi v) {us:List Upd} {lo0 hi0:List UInt8} (hr:Je Upd.key us) (hu:∀u∈us,Tm u/\Jn u.key lo0 hi0=true) {lo hi low high:List UInt8} {t:Vt} (ht:Ok n lo hi t) (hw:∀q,Jn q lo0 hi0=true->Jn q low high=true->Jn q lo hi=true) (hb:∀q,Jn q lo hi=true->Jn q low high=true):
  Je Ent.key (enG n t (JH us low high))/\(∀e∈enG n t (JH us low high),Jbg e/\Jn e.key lo hi=true)/\∀q,Jn q lo hi=true->Jz (enG n t (JH us low high)) q=JdX (Yn us q) (den n t q):=by
 have hG:=ZD.cut (low:=low) (high:=high) hr hu hw
 obtain⟨h1,h2,h3⟩:=IH lo hi _ (Jjt ht hG)
 refine⟨h1,h2,fun q hq=> ?_⟩
 have:=h3 q hq
 unfold enG
 rw[this,Jk4 ht hG q,JcH hr,if_pos (hb q hq)]
theorem Jiy {n:Nat} (IH:∀lo hi v,Ok n lo hi v->Jqe n lo hi v) {us:List Upd} {lo0 hi:List UInt8} (hr:Je Upd.key us) (hu:∀u∈us,Tm u/\Jn u.key lo0 hi=true):
  ∀(l:List (Chd×Vt)) (lo:List UInt8),OkK (Ok n) hi lo l->(∀x r,l=x::r->(lo=lo0/\lw x=[])\/lo=lw x)->EnK n lo hi us l
 |[],_,h,_=>absurd h id
 |[x],lo,h,k=>by
  have hx:=k x [] rfl
  obtain⟨h1,h2,h3⟩:=JlC IH hr hu (low:=lw x) (high:=[]) (OkK.one.1 h) (fun q a b=>by
   rcases hx with⟨rfl,-⟩|rfl
   ·exact a
   ·exact Jd.2 ⟨(Jd.1 b).1,(Jd.1 a).2⟩) (fun q a=>by
   refine Jd.2 ⟨?_,Jmk q⟩
   rcases hx with⟨-,e⟩|rfl
   ·rw[e];exact Zm q
   ·exact(Jd.1 a).1)
  have e:scK (enG n) us [x]=enG n x.2 (JH us (lw x) []):=by rw[XZ];show _++[]=_;rw[List.append_nil];rfl
  exact⟨by rw[e];exact h1,by rw[e];exact h2,by rw[e];exact h3⟩
 |x::y::r,lo,h,k=>by
  have hx:=k x (y::r) rfl
  obtain⟨g1,g2,g3,g4⟩:=OkK.two.1 h
  obtain⟨h1,h2,h3⟩:=JlC IH hr hu (low:=lw x) (high:=lw y) g3 (fun q a b=>by
   rcases hx with⟨rfl,-⟩|rfl
   ·exact Jd.2 ⟨(Jd.1 a).1,(Jd.1 b).2⟩
   ·exact b) (fun q a=>by
   refine Jd.2 ⟨?_,(Jd.1 a).2⟩
   rcases hx with⟨-,e⟩|rfl
   ·rw[e];exact Zm q
   ·exact(Jd.1 a).1)
  obtain⟨k1,k2,k3⟩:=Jiy IH hr hu (y::r) (lw y) g4 (fun x r e=>by
   simp only[List.cons.injEq] at e
   obtain⟨rfl,-⟩:=e
   exact Or.inr rfl)
  have hyn:lw y≠[]:=JY g1
  have hA:∀e∈enG n x.2 (JH us (lw x) (lw y)),bl e.key (lw y)=true:=fun e he=>((Jd.1 (h2 e he).2).2).elim (fun q=>absurd q hyn) id
  have hB:∀e∈scK (enG n) us (y::r),bl e.key (lw y)=false:=fun e he=>(Jd.1 (k2 e he).2).1
  rw[show scK (enG n) us (y::r)=scK (enG n) us (y::r) from rfl] at k1
  have e0:scK (enG n) us (x::y::r)=enG n x.2 (JH us (lw x) (lw y))++scK (enG n) us (y::r):=XZ _ _ _ _
  refine⟨?_,?_,fun q hq=> ?_⟩
  ·rw[e0]
   exact List.pairwise_append.2 ⟨h1,k1,fun a ha b hb=>by
    rcases JcO (hB b hb) with q|q
    ·rw[<-q];exact hA a ha
    ·exact J4 (hA a ha) q⟩
  ·rw[e0]
   intro e he
   rcases List.mem_append.1 he with he|he
   ·obtain⟨a,b⟩:=h2 e he
    refine⟨a,Jd.2 ⟨(Jd.1 b).1,?_⟩⟩
    exact g2.lt (hA e he)
   ·obtain⟨a,b⟩:=k2 e he
    exact⟨a,Jd.2 ⟨Jcb (Jd.1 b).1 g1,(Jd.1 b).2⟩⟩
  ·rw[e0,Jdd,XE]
   cases hqy:bl q (lw y) with
   |true=>
    rw[if_pos rfl,Jeh hB hqy,h3 q (Jd.2 ⟨(Jd.1 hq).1,Or.inr hqy⟩)]
    cases JdX (Yn us q) (den n x.2 q)<;>rfl
   |false=>
    rw[if_neg (by simp),Jeg hA hqy]
    exact k3 q (Jd.2 ⟨hqy,(Jd.1 hq).2⟩)
theorem Jh0:∀(n:Nat) (lo hi:List UInt8) (v:Vt),Ok n lo hi v->Jqe n lo hi v
 |0,lo,hi,v,h=>⟨h.rise0,h.2.2.2,fun _ _=>rfl⟩
 |n+1,lo,hi,v,h=>by
  obtain⟨-,h1,h2,-,h4,h5⟩:=h
  obtain⟨k1,k2,k3⟩:=Jiy (Jh0 n) h1 h2 v.ch lo h5 (fun x r e=>Or.inl ⟨rfl,h4 x (by rw[e];rfl)⟩)
  exact⟨k1,k2,fun q hq=>(k3 q hq).trans (Yg n v q).symm⟩
theorem Joz {n:Nat} {lo hi:List UInt8} {v:Vt} {above:List Upd} (h:Ok n lo hi v) (hg:ZD lo hi above):Jqe n lo hi (gv n v above):=Jh0 n lo hi _ (Jjt h hg)
theorem JeL (q:List UInt8):Jn q [] []=true:=Jd.2 ⟨Zm q,Or.inl rfl⟩
theorem Jla {n:Nat} {v:Vt} (h:Ok n [] [] v):Je Ent.key (en n v)/\(∀e∈en n v,Jbg e)/\∀q,Jz (en n v) q=den n v q:=
 let k:=Jh0 n [] [] v h
 ⟨k.rise,fun e he=>(k.ent e he).1,fun q=>k.look q (JeL q)⟩
theorem JpV (n:Nat) (t:Vt) (b:Nat) (m l:Bool) (k:Option Pt):en n {t with b:=b,mem:=m,ld:=l,kn:=k}=en n t:=by cases n<;>rfl
theorem JpP (n:Nat) (t:Vt) (b:Nat) (m l:Bool) (k:Option Pt) (u:List Upd):gv n {t with b:=b,mem:=m,ld:=l,kn:=k} u= {gv n t u with b:=b,mem:=m,ld:=l,kn:=k}:=by cases n<;>rfl
theorem Jjz (n:Nat) (t:Vt) (b:Nat) (m l:Bool) (k:Option Pt) (u:List Upd):enG n {t with b:=b,mem:=m,ld:=l,kn:=k} u=enG n t u:=by
 unfold enG
 rw[JpP,JpV]
theorem Je3 (n:Nat) (all:List Upd):∀l:List (Chd×Vt),scK (enG n) all (l.map Zr)=scK (enG n) all l
 |[]=>rfl
 |x::r=>by
  rw[List.map_cons,XZ,XZ,Je3 n all r]
  have e1:hdL (r.map Zr)=hdL r:=by cases r<;>rfl
  have e2:enG n (Zr x).2 (JH all (lw x) (hdL r))=enG n x.2 (JH all (lw x) (hdL r)):=Jjz n x.2 0 false x.2.ld x.2.kn _
  rw[e1]
  show enG n (Zr x).2 (JH all (lw x) (hdL r))++_=_
  rw[e2]
theorem YM.enG {v v':Vt} (h:YM v v') (u:List Upd):∀n,enG n v' u=enG n v u
 |0=>by
  show Ys v'.es u=Ys v.es u
  rw[h.es]
 |n+1=>by
  show scK (YtafciefjlkdecaaGreat.enG n) (u.foldl JQ v'.us) v'.ch=scK (YtafciefjlkdecaaGreat.enG n) (u.foldl JQ v.us) v.ch
  rw[h.us,<-Je3 n _ v'.ch,h.ch,Je3]
def scI (f:Vt->List Upd->List Ent) (all:List Upd) (v:Vt) (j:Nat):List Ent:=(List.range j).flatMap fun i=>match v.ch[i]? with|none=>[]|some x=>f x.2 (JH all (Yv v.cs (i:Int)) (JX v.cs (i:Int)))
theorem Jiz (f:Vt->List Upd->List Ent) (all:List Upd) (v:Vt):scI f all v 0=[]:=rfl
theorem JiA (f:Vt->List Upd->List Ent) (all:List Upd) (v:Vt) (j:Nat) (hj:j<v.ch.length):scI f all v (j+1)=scI f all v j++f v.ch[j].2 (JH all (Yv v.cs (j:Int)) (JX v.cs (j:Int))):=by
 unfold scI
 rw[List.range_succ,List.flatMap_append]
 congr 1
 simp only[List.flatMap_cons,List.flatMap_nil,List.append_nil]
 rw[List.getElem?_eq_getElem hj]
theorem JlD (f:Vt->List Upd->List Ent) (all:List Upd) (v:Vt):∀(D A:List (Chd×Vt)),v.ch=A++D->scI f all v v.ch.length=scI f all v A.length++scK f all D
 |[],A,e=>by
  rw[e,List.append_nil]
  show _=_++[]
  rw[List.append_nil]
 |x::D,A,e=>by
  obtain⟨r1,r2⟩:=Jkn (c:=x.1) (t:=x.2) e
  have h1:=JlD f all v D (A++[x]) (by rw[e];simp)
  have hj:A.length<v.ch.length:=by rw[e];simp
  have h2:=JiA f all v A.length hj
  have h3:v.ch[A.length]=x:=by
   have:v.ch[A.length]? =some x:=by rw[e];simp
   rw[List.getElem?_eq_getElem hj] at this
   exact Option.some.inj this
  rw[h1,List.length_append,List.length_singleton,h2,h3,r1,r2,XZ,List.append_assoc]
theorem Joy (n:Nat) (v:Vt):en (n+1) v=scI (enG n) v.us v v.ch.length:=by
 rw[JlD (enG n) v.us v v.ch [] rfl,List.length_nil,Jiz,List.nil_append,JhZ]
theorem JbA {n:Nat} {lo hi:List UInt8} {v:Vt} (h:Ok (n+1) lo hi v) (j:Nat) (hj:j<v.ch.length):∃lo' hi',Ok n lo' hi' v.ch[j].2/\ZD lo' hi' (JH v.us (Yv v.cs (j:Int)) (JX v.cs (j:Int)))/\
  ∀q,Jn q lo' hi'=true->Jn q (Yv v.cs (j:Int)) (JX v.cs (j:Int))=true:=by
 have e:v.ch=v.ch.take j++(v.ch[j].1,v.ch[j].2)::v.ch.drop (j+1):=by
  have:=List.take_append_drop j v.ch
  rw[List.drop_eq_getElem_cons hj] at this
  exact this.symm
 have hlen:(v.ch.take j).length=j:=by rw[List.length_take];omega
 obtain⟨h1,h2⟩:=Jkn e
 rw[hlen] at h1 h2
 have hm:=h.mid e
 have hA0:v.ch.take j=[]->v.ch[j].1.low=[]:=fun q=>by
  have hj0:j=0:=by
   have:=congrArg List.length q
   rw[hlen] at this
   simpa using this
  subst hj0
  exact h.2.2.2.2.1 v.ch[0] (List.getElem?_eq_getElem hj)
 refine⟨_,_,hm.t,?_,fun q hq=> ?_⟩
 ·rw[h1,h2]
  exact ZD.cut h.usr h.2.2.1 fun q a b=>JhQ hm a b
 ·rw[h1,h2]
  exact(Jn7 hm hA0 hq).2
open Go.RowKit
attribute [local go_sem ↓] Go.wp_at_zero Go.wp_at_succ
theorem XC {w w':World} {b o o':Nat} {v:Value} (hb:Below w.heap.size w w') (h:w.cell? ⟨b,o',none⟩=some v) (hf:w.frozen? ⟨b,o,none⟩=false):w'.frozen? ⟨b,o,none⟩=false:=
 ((JB hb).2 b o (World.block_lt_of_cell? w _ h)).trans hf
theorem Mv.at {K:Kx} {root h n:Nat} {w w':World} {v v':Vt} {T:Tx} (hm:Mem w n v) (c:CAt w K root h T) (hk:Jg (fun x=>x=v.b) w w') (hm':Mem w' n v') (hb:v'.b=v.b) (hbl:blocks n v'=blocks n v) (hnd:(blocks n v).Nodup):Mv K root h n w v T w' v' T:=
 ⟨hm',by rw[hbl];exact hnd,fun b q=>Or.inl (by rw[hbl] at q;exact q),hb,c.keep hk fun x e=>by
  obtain rfl:x=v.b:=e
  exact Or.inl (hm.cells _ hm.head),fun _ q=>Or.inl q,hk.mono fun x e=>Or.inr (by obtain rfl:x=v.b:=e;exact hm.head)⟩
theorem Jdx {K:Kx} {root h n:Nat} {w:World} {v:Vt} {T:Tx} (hm:Mem w n v) (c:CAt w K root h T):∀b,(Own K T b\/b∈blocks n v)->XO w b:=fun b hb=>hb.elim (fun q=>(c.soft b q).1.str) (fun q=>(hm.lt b q).1.str)
theorem Mv.slU {K:Kx} {root h n:Nat} {w w':World} {v v':Vt} {T T':Tx} {s:Value} {l:List Upd} (m:Mv K root h n w v T w' v' T') (hm:Mem w n v) (c:CAt w K root h T) (hs:SlU w s l):SlU w' s l:=hs.keep m.keep (Jdx hm c)
theorem ZD.fine {lo hi:List UInt8} {l:List Upd} (h:ZD lo hi l):∀u∈l,u.Wf:=fun u hu=>(h.ok u hu).1.wf
theorem Mem.setE {w w':World} {v:Vt} {es:List Ent} {a:Option Addr} {x:Nat} (hm:Mem w 0 v) (hl:v.ld=true) (hv:∀kn pa pg ps ld lf cs us ks,Jq w v.b kn pa pg ps ld lf cs us ks->Jq w' v.b kn pa pg ps ld (.slice a es.length x) cs us ks) (hb:Zq w' (.agg #[.slice a es.length x]) es):Mem w' 0 {v with es:=es}:=by
 obtain⟨g,pa,pg,ps,a0,x0,h1,h2,-⟩:=hm.leaf hl
 exact⟨hm.in,Or.inl ⟨g,pa,pg,ps,a,x,hv _ _ _ _ _ _ _ _ _ h1,h2,hb⟩⟩
theorem Mem.setU {w w':World} {n:Nat} {v:Vt} {us:List Upd} {a:Option Addr} {x:Nat} (hm:Mem w (n+1) v) (hl:v.ld=true) (hnd:(blocks (n+1) v).Nodup) (hk:Jg (fun x=>x=v.b) w w') (hv:∀kn pa pg ps ld lf cs us' ks,Jq w v.b kn pa pg ps ld lf cs us' ks->Jq w' v.b kn pa pg ps ld lf cs (.slice a us.length x) ks) (hb:JZ w' (.agg #[.slice a us.length x]) us):Mem w' (n+1) {v with us:=us}:=by
 obtain⟨⟨g,pa,pg,ps,a1,c1,a2,c2,a3,c3,h1,h2,h3,h4⟩,hkids⟩:=hm.node hl
 have hs:=(hm.lt v.b hm.head).1
 have hS:∀b,b=v.b->Z3 w b:=fun b e=>by rw[e];exact hs
 refine⟨hm.in,Or.inl ⟨⟨g,pa,pg,ps,a1,c1,a,x,a3,c3,hv _ _ _ _ _ _ _ _ _ h1,h2,?_,Xu.keep h4 hk hS⟩,fun y hy=>(hkids y hy).keep hk hS fun b hb e=> ?_⟩⟩
 ·exact JA.mk' ((h3.parts.1).keep hk fun b e=>(hS b e).str) hb.slice
 ·rw[e,] at hb
  rw[JL hm.in,List.nodup_cons] at hnd
  exact hnd.1 (List.mem_flatMap.2 ⟨y,hy,hb⟩)
theorem Jhh (n:Nat) (v:Vt) (us:List Upd):blocks n {v with us:=us}=blocks n v:=by cases n<;>rfl
theorem Jnj (n:Nat) (v:Vt) (es:List Ent):blocks n {v with es:=es}=blocks n v:=by cases n<;>rfl
theorem Jk6 {K:Kx} {root h:Nat} {T:Tx} {v:Vt} {lo hi:List UInt8} (s:Value) (l:List Upd) (w:World) (c:CAt w K root h T) (hm:Mem w 0 v) (hnd:(blocks 0 v).Nodup) (hl:v.ld=true) (ho:Ok 0 lo hi v) (hp:pot 0 v<=1000) (hgl:ZD lo hi l) (hll:l.length<=1000) (hsl:SlU w s l) (hg:T.gone.length<=1000000):
  Calls Tryz.prog 40 #[.pointer (some ⟨K.tb,0,none⟩),.pointer (some ⟨v.b,0,none⟩),s] w fun e w'=>e=.returned (.tuple #[])/\∃gv',Mv K root h 0 w v T w' (gv 0 {v with kn:=none} l) {T with gv:=gv',gone:=T.gone++v.kn.toList.map Pt.a}:=by
 have HS:=Lib.hid (Jc1 w c hm hnd hl hg)
 have hes:=Jas hp
 have HO:=Lib.hid (fun(x:Value) w1 h1 h2=>JcG x v.es s l w1 h1 (by omega) ho.rise0 ho.fine h2 hgl.fine (by omega))
 have HM:=Lib.hid (And.intro hm (And.intro hnd (And.intro c hsl)))
 obtain⟨sa,sc,rfl,-⟩:=hsl
 clear c hm hnd ho hp hgl hg
 go_enter Tryz.func40,Tryz.ntmps40
 go_wp2_with fail
 refine HS.out.mono ?_
 rintro e w1 ⟨rfl,gv',m1⟩
 have HM1:=Lib.hid m1
 obtain⟨g,pa,pg,ps,a,x,hv,hpt,hbx⟩:=m1.mem.leaf hl
 have HV:=Lib.hid hv
 have HB:=Lib.hid hbx
 have v8:=hv.c8
 have v5:=hv.c5
 have vf:=hv.fz 5
 have HSL:=Lib.hid (m1.slU HM.out.1 HM.out.2.2.1 HM.out.2.2.2)
 clear m1 hv hbx
 go_wp2_with fail
 refine(HO.out _ w1 HB.out HSL.out).mono ?_
 rintro e w2 ⟨⟨a',c',rfl,hb2⟩,hX2⟩
 have HM2:=Lib.hid (HM1.out.on hX2)
 have HV2:=Lib.hid (HV.out.on hX2)
 have v5':=HV2.out.c5
 have vf':=HV2.out.fz 5
 have HB2:=Lib.hid hb2
 go_wp2_with fail
 refine bodyPost_ret (v:=.tuple #[]) (by simp[results,Tryz.results40,go_sem]) rfl ⟨rfl,gv',HM2.out.trans ?_⟩
 have hK:Jg (fun x=>x=v.b) w2 (w2.setCell ⟨v.b,5,none⟩ (.slice a' (Ys v.es l).length c')):=(Jg.refl (fun x=>x=v.b) w2).setCell ⟨v.b,5,none⟩ (Or.inl rfl) _
 have hS:=(HM2.out.mem.lt v.b HM2.out.mem.head).1
 refine Mv.at HM2.out.mem HM2.out.cx hK (HM2.out.mem.setE hl (fun kn pa pg ps ld lf cs us ks hq=>hq.putL _) (HB2.out.keep hK fun b e=>by rw[show b=v.b from e];exact hS.str)) rfl (Jnj 0 {v with kn:=none} _) HM2.out.nodup
theorem JpO {n:Nat} {v:Vt} {l:List Upd} {j:Nat} (hj:j<l.length):gv (n+1) v (l.take (j+1))= {v with us:=JQ ((l.take j).foldl JQ v.us) l[j]}:=by
 have e:(l.take (j+1)).foldl JQ v.us=JQ ((l.take j).foldl JQ v.us) l[j]:=by rw[List.take_succ_eq_append_getElem hj,List.foldl_append];rfl
 simp only[gv]
 rw[e]
theorem Jk5 {K:Kx} {root h n:Nat} {T:Tx} {v:Vt} {lo hi:List UInt8} (s:Value) (l:List Upd) (w:World) (c:CAt w K root h T) (hm:Mem w (n+1) v) (hnd:(blocks (n+1) v).Nodup) (hl:v.ld=true) (ho:Ok (n+1) lo hi v) (hp:pot (n+1) v<=1000) (hgl:ZD lo hi l) (hll:l.length<=1000) (hsl:SlU w s l) (hg:T.gone.length<=1000000):
  Calls Tryz.prog 40 #[.pointer (some ⟨K.tb,0,none⟩),.pointer (some ⟨v.b,0,none⟩),s] w fun e w'=>e=.returned (.tuple #[])/\∃gv',Mv K root h (n+1) w v T w' (gv (n+1) {v with kn:=none} l) {T with gv:=gv',gone:=T.gone++v.kn.toList.map Pt.a}:=by
 have HS:=Lib.hid (Jc1 w c hm hnd hl hg)
 have hus:=Jcy hp
 have hpos:0<v.ch.length:=List.length_pos_iff.2 ho.okk.ne
 have HFO:=Lib.hid (fun j=>Ja9.fold (P:=fun k=>Jn k lo hi=true) (l.take j) v.us ⟨ho.usr,fun u hu=>(ho.2.2.1 u hu).1,fun u hu=>(ho.2.2.1 u hu).2⟩ (fun u hu=>(hgl.ok u (List.mem_of_mem_take hu)).1) (fun u hu=>(hgl.ok u (List.mem_of_mem_take hu)).2))
 have HLE:=Lib.hid (fun j=>JbD (l.take j) v.us ho.usr)
 have HM:=Lib.hid (And.intro hm (And.intro hnd (And.intro c hsl)))
 have HG:=Lib.hid hgl
 obtain⟨sa,sc,rfl,-⟩:=hsl
 clear c hm hnd ho hp hgl hg
 go_enter Tryz.func40,Tryz.ntmps40
 go_wp2_with fail
 refine HS.out.mono ?_
 rintro e w1 ⟨rfl,gv',m1⟩
 have HM1:=Lib.hid m1
 obtain⟨⟨g,pa,pg,ps,a1,x1,a2,x2,a3,x3,hv,-⟩,-⟩:=m1.mem.node hl
 have hpi:((v.ch.length:Int)==0)=false:=by simp;intro e;rw[e] at hpos;simp at hpos
 have v8:=hv.c8
 have HSL:=Lib.hid (m1.slU HM.out.1 HM.out.2.2.1 HM.out.2.2.2)
 clear m1 hv hpos
 go_wp2_with fail
 go_loopw [28] (fun i wr=>∃j:Nat,i=.int .i64 j/\j<=l.length/\Hid (Mv K root h (n+1) w v T wr (gv (n+1) {v with kn:=none} (l.take j)) {T with gv:=gv',gone:=T.gone++v.kn.toList.map Pt.a}/\SlU wr (.slice sa l.length sc) l)) (fun i _=>l.length- (intOf i).toNat)
 case atStart=>exact⟨0,rfl,Nat.zero_le _,Lib.hid ⟨HM1.out,HSL.out⟩⟩
 case round=>
  obtain⟨j,rfl,hj,HR⟩:=hrel
  have hj0:(0:Int)<=(j:Int):=Int.natCast_nonneg _
  by_cases hjl:j<l.length
  ·have hj1:(j:Int)<(l.length:Int):=by omega
   obtain⟨b0,off,rfl,hb0,t0,t1,t2,t3⟩:=HR.out.2.cells4 j hjl
   have HU:=Lib.hid (show l[j].Wf/\(gv (n+1) {v with kn:=none} (l.take (j+1)))= {v with kn:=none,us:=JQ ((l.take j).foldl JQ v.us) l[j]} from⟨HG.out.fine _ (List.getElem_mem hjl),JpO (n:=n) hjl⟩)
   generalize l[j]=u at*
   obtain⟨kd,key,val,dl⟩:=u
   dsimp only at t0 t1 t2 t3
   go_upto_region 6 with(fail)
   obtain⟨W1,hW1⟩:∃W1,W1=wr.alloc (.cells #[.int .u8 kd,.string (S key),.string (S val),.int .u64 dl] 39):=⟨_,rfl⟩
   have hX1:Below wr.heap.size wr W1:=by rw[hW1];go_grown
   have g0:W1.cell? ⟨wr.heap.size,0,none⟩=some (.int .u8 kd):=by rw[hW1,World.cell?_alloc_at _ _ _ _ rfl];rfl
   have g1:W1.cell? ⟨wr.heap.size,1,none⟩=some (.string (S key)):=by rw[hW1,World.cell?_alloc_at _ _ _ _ rfl];rfl
   have g2:W1.cell? ⟨wr.heap.size,2,none⟩=some (.string (S val)):=by rw[hW1,World.cell?_alloc_at _ _ _ _ rfl];rfl
   have g3:W1.cell? ⟨wr.heap.size,3,none⟩=some (.int .u64 dl):=by rw[hW1,World.cell?_alloc_at _ _ _ _ rfl];rfl
   have HR1:=Lib.hid (show Mv K root h (n+1) w v T W1 (gv (n+1) {v with kn:=none} (l.take j)) {T with gv:=gv',gone:=T.gone++v.kn.toList.map Pt.a}/\SlU W1 (.slice (some ⟨b0,off,none⟩) l.length sc) l from⟨HR.out.1.on hX1,HR.out.2.kept hX1 (Nat.le_refl _)⟩)
   rw[<-hW1]
   clear hW1 hX1 t0 t1 t2 t3 hb0 HR
   obtain⟨⟨-,qa,qg,qs,b1,y1,b2,y2,b3,y3,hv1,-,hn1,-⟩,-⟩:=HR1.out.1.mem.node hl
   have HV1:=Lib.hid hv1
   have v7:=hv1.c7
   have vf:=hv1.fz 7
   have hbu:=hn1.parts.2
   have HB1:=Lib.hid (show JZ W1 (.agg #[.slice b2 ((l.take j).foldl JQ v.us).length y2]) ((l.take j).foldl JQ v.us) from⟨_,rfl,hbu⟩)
   have v7':W1.cell? ⟨v.b,7,none⟩=some (.slice b2 ((l.take j).foldl JQ v.us).length y2):=v7
   have hlen:=HLE.out j
   have HWI:=Lib.hid (fun(w2:World) (hb:Below W1.heap.size W1 w2)=>Jij (.agg #[.slice b2 ((l.take j).foldl JQ v.us).length y2]) ((l.take j).foldl JQ v.us) kd key val dl w2 (HB1.out.kept hb (Nat.le_refl _)) (by have:=hlen;rw[List.length_take] at this;omega) (HFO.out j).rise (Jhv (HFO.out j).tm) HU.out.1.1 HU.out.1.2)
   clear hv1 hn1 hbu v7 hlen
   generalize hU:(l.take j).foldl JQ v.us=US at*
   have hdr:Below W1.heap.size W1 W1.drew:=Jb (Below.refl _ _)
   go_region_law (first|(go_simp;go_at_call 67;refine(HWI.out W1.drew hdr).mono ?_;rintro e w4 ⟨⟨v',rfl,hb4⟩,hX4⟩;obtain⟨a4,c4,rfl,hb4'⟩:=hb4.open;have z7:=Ja hX4 (Jj v7');have zf:=XC hX4 (Jj v7') (YL vf)))
   all_goals
    have hX:Below W1.heap.size W1 w4:=hdr.trans (hX4.mono (Nat.le_refl _))
    have hV4:=HV1.out.on hX
    have hM4:=HR1.out.1.on hX
    have hS4:SlU w4 (.slice (some ⟨b0,off,none⟩) l.length sc) l:=HR1.out.2.kept hX (Nat.le_refl _)
    have hK:Jg (fun x=>x=v.b) w4 (w4.setCell ⟨v.b,7,none⟩ (.slice a4 (JQ US ⟨kd,key,val,dl⟩).length c4)):=(Jg.refl (fun x=>x=v.b) w4).setCell ⟨v.b,7,none⟩ (Or.inl rfl) _
    have hSo:=(hM4.mem.lt v.b hM4.mem.head).1
    have hstr:∀b,b=v.b->XO w4 b:=fun b e=>by rw[e];exact hSo.str
    have hM5:=hM4.trans (Mv.at hM4.mem hM4.cx hK (hM4.mem.setU (us:=JQ US ⟨kd,key,val,dl⟩) hl hM4.nodup hK (fun kn pa pg ps ld lf cs us ks hq=>⟨hq.row.put 7 _⟩) (hb4'.keep hK hstr)) rfl (Jhh (n+1) _ _) hM4.nodup)
    have HR5:=Lib.hid (show Mv K root h (n+1) w v T (w4.setCell ⟨v.b,7,none⟩ (.slice a4 (JQ US ⟨kd,key,val,dl⟩).length c4)) (gv (n+1) {v with kn:=none} (l.take (j+1))) {T with gv:=gv',gone:=T.gone++v.kn.toList.map Pt.a}/\SlU (w4.setCell ⟨v.b,7,none⟩ (.slice a4 (JQ US ⟨kd,key,val,dl⟩).length c4)) (.slice (some ⟨b0,off,none⟩) l.length sc) l from⟨by rw[HU.out.2];exact hM5,hS4.keep hK hstr⟩)
    clear hX hV4 hM4 hS4 hK hSo hstr hM5
    go_wp2_with fail
    exact⟨⟨j+1,by go_num,by omega,HR5⟩,by simp[intOf];omega⟩
  ·obtain rfl:j=l.length:=by omega
   go_wp2_with fail
   refine bodyPost_end (v:=.tuple #[]) (by simp[results,Tryz.results40,go_sem]) rfl ⟨rfl,gv',?_⟩
   have:=HR.out.1
   rw[List.take_length] at this
   exact this
theorem Jjv {K:Kx} {root h n:Nat} {T:Tx} {v:Vt} {lo hi:List UInt8} (s:Value) (l:List Upd) (w:World) (c:CAt w K root h T) (hm:Mem w n v) (hnd:(blocks n v).Nodup) (hl:v.ld=true) (ho:Ok n lo hi v) (hp:pot n v<=1000) (hgl:ZD lo hi l) (hll:l.length<=1000) (hsl:SlU w s l) (hg:T.gone.length<=1000000):
  Calls Tryz.prog 40 #[.pointer (some ⟨K.tb,0,none⟩),.pointer (some ⟨v.b,0,none⟩),s] w fun e w'=>e=.returned (.tuple #[])/\∃gv',Mv K root h n w v T w' (gv n {v with kn:=none} l) {T with gv:=gv',gone:=T.gone++v.kn.toList.map Pt.a}:=by
 cases n with
 |zero=>exact Jk6 s l w c hm hnd hl ho hp hgl hll hsl hg
 |succ n=>exact Jk5 s l w c hm hnd hl ho hp hgl hll hsl hg
end Go.Proofs.YtafciefjlkdecaaGreat
namespace Go.Proofs.YtafciefjlkdecaaGreat
open Go.RowKit
abbrev Jf4 (w:World) (ao:Option Addr) (l:List Nat):Prop:=JC (fun b:Nat=>[vp b]) 1 w ao l
abbrev Jhp (w:World) (ao:Option Addr) (l:List Chd):Prop:=JC Chd.cells 4 w ao l
def cellsVx (l:List Nat):List Value:=l.map vp
theorem Zv (l:List Nat):(cellsVx l).length=l.length*1:=by simp[cellsVx]
theorem X7 (a b:List Nat):cellsVx (a++b)=cellsVx a++cellsVx b:=by simp[cellsVx]
theorem ZK (l:List Nat):∀v∈cellsVx l,v.oneCell'=true:=fun v hv=>by
 obtain⟨b,-,rfl⟩:=List.mem_map.1 hv
 rfl
theorem JC.cellsVx {w:World} {b off:Nat} {l:List Nat} (h:∀(i:Nat) (hi:i<l.length) (j:Nat) (x:Value),([vp l[i]])[j]? =some x->w.cell? ⟨b,off+i*1+j,none⟩=some x):∀j u,(cellsVx l)[j]? =some u->w.cell? ⟨b,off+j,none⟩=some u:=fun j u hu=>by
 have hj:=(List.getElem?_eq_some_iff.1 hu).1
 rw[Zv,Nat.mul_one] at hj
 have:=h j hj 0 (vp l[j]) rfl
 rw[Nat.mul_one,Nat.add_zero] at this
 rw[this]
 unfold YtafciefjlkdecaaGreat.cellsVx at hu
 rw[List.getElem?_map,List.getElem?_eq_getElem hj] at hu
 exact hu
theorem JqQ (n:Nat) (hn:n<=200000) (w:World):
  Calls Tryz.prog 163 #[.slice none 0 0,.int .i64 n] w fun e w'=>(∃v',e=.returned v'/\w'.ownsRow w.heap.size 179 4 v' 0 [])/\Below w.heap.size w w':=by
 obtain⟨i0,hi,hz0,hz1,hz2⟩:=info_parts Jg0
 by_cases h0:n=0
 ·subst h0
  go_enter Tryz.func163,Tryz.ntmps163
  go_wp2_with fail
  go_ret
  exact⟨⟨_,rfl,World.ownsRow_nil _ _ _ _⟩,Below.refl _ _⟩
 ·have hn0:(0:Int)<(n:Int):=by omega
  have hr:=fun ty=>Lib.run_append_nil_zeros (P:=Tryz.prog) w 100 3 ty 179 i0 _ .i64 .i64 Tryz.underlying100 Tryz.underlying3 hi hz0 n (by omega) (by omega) (by omega) (by rw[hz2];omega)
  have hG:=grownCap_ge w n 0 179
  have hGm:=grownCap_le_maxLen w n 0 179 (by unfold maxLen;omega)
  generalize grownCap w n 0 179=G at*
  have hzl:(Builtin.zeroCells (.agg #[.string ByteArray.empty,.int .i64 0,.int .u64 0,.int .u32 0]:Value).cells n++Builtin.zeroCells (.agg #[.string ByteArray.empty,.int .i64 0,.int .u64 0,.int .u32 0]:Value).cells (G-n)).size=G*4:=by
   rw[Array.size_append,YA,YA]
   show n*4+(G-n)*4=_
   omega
  generalize hZ:Builtin.zeroCells (.agg #[.string ByteArray.empty,.int .i64 0,.int .u64 0,.int .u32 0]:Value).cells n++Builtin.zeroCells (.agg #[.string ByteArray.empty,.int .i64 0,.int .u64 0,.int .u32 0]:Value).cells (G-n)=Z at*
  have hown:=World.ownsRow_made (e:=179) (size:=4) (base:=w.heap.size) w.drew Z G (Nat.le_refl _) hGm hzl
  have hown':=Lib.hid hown
  unfold maxLen at hGm
  clear hZ hzl hown
  go_enter Tryz.func163,Tryz.ntmps163
  go_wp2_with (at_builtin;refine Lib.wpList_append_run _ rfl _ _ _ _ rfl _ _ rfl rfl _ _ (hr _) ?_)
  go_ret
  exact⟨⟨_,rfl,hown'.out⟩,(Jb (Below.refl _ _)).alloc (Nat.le_refl _) _⟩
theorem JnJ {w:World} {ao:Option Addr} {l:List Chd} (hs:Jhp w ao l):∀ad,ao=some ad->∀j u,(cellsC l)[j]? =some u->w.cell? (ad.add j)=some u:=by
 intro ad e j u hu
 have hj:=(List.getElem?_eq_some_iff.1 hu).1
 rw[Y5] at hj
 obtain⟨b,off,e',hb,hc⟩:=hs.at (by omega)
 obtain rfl:ad=⟨b,off,none⟩:=by rw[e] at e';simpa using e'
 rw[show(⟨b,off,none⟩:Addr).add j=⟨b,off+j,none⟩ by simp[Addr.add]]
 exact JC.cellsC hc j u hu
theorem JoH (cb:Nat) (a1 a2 a3:Option Addr) (c1 c2 c3:Nat) (l1 l2 l3:List Chd) (w:World) (hcb:cb<w.heap.size) (h1:w.cell? ⟨cb,0,none⟩=some (.slice a1 l1.length c1)) (h2:w.cell? ⟨cb,1,none⟩=some (.slice a2 l2.length c2)) (h3:w.cell? ⟨cb,2,none⟩=some (.slice a3 l3.length c3))
  (s1:Jhp w a1 l1) (s2:Jhp w a2 l2) (s3:Jhp w a3 l3) (n1:a1=none->l1.length=0/\c1=0) (n2:a2=none->l2.length=0/\c2=0) (n3:a3=none->l3.length=0/\c3=0) (hl1:l1.length<=20000) (hl2:l2.length<=20000) (hl3:l3.length<=20000):
  Calls Tryz.prog 132 #[.slice (some ⟨cb,0,none⟩) 3 3] w fun e w'=>(∃v',e=.returned v'/\w'.ownsRow w.heap.size 179 4 v' (l1++(l2++l3)).length (cellsC (l1++(l2++l3))))/\Below w.heap.size w w':=by
 obtain⟨i0,hi,hz0,hz1,hz2⟩:=info_parts Jg0
 have hN1:=Lib.hid n1
 have hN2:=Lib.hid n2
 have hN3:=Lib.hid n3
 clear n1 n2 n3
 go_enter Tryz.func132,Tryz.ntmps132
 go_wp2_with fail
 go_loop [3,11] (fun s i=>(i=.int .i64 (0:Nat)/\s=.int .i64 (0:Nat))\/(i=.int .i64 (1:Nat)/\s=.int .i64 l1.length)\/(i=.int .i64 (2:Nat)/\s=.int .i64 (l1.length+l2.length:Nat))\/(i=.int .i64 (3:Nat)/\s=.int .i64 (l1.length+l2.length+l3.length:Nat))) (fun _ i=>3- (intOf i).toNat)
 case atStart=>exact Or.inl ⟨rfl,rfl⟩
 case round=>
  rcases hrel with⟨rfl,rfl⟩|⟨rfl,rfl⟩|⟨rfl,rfl⟩|⟨rfl,rfl⟩
  ·have hp:¬(l1.length:Int)<0:=by omega
   go_wp2_with fail
   go_round
   case rel=>exact Or.inr (Or.inl ⟨by go_num,by go_num⟩)
   case measure=>first|(simp[intOf];done)|(simp[intOf];omega)
  ·have hp:¬(l1.length:Int)+(l2.length:Int)<0:=by omega
   go_wp2_with fail
   go_round
   case rel=>exact Or.inr (Or.inr (Or.inl ⟨by go_num,by go_num⟩))
   case measure=>first|(simp[intOf];done)|(simp[intOf];omega)
  ·have hp:¬(l1.length:Int)+(l2.length:Int)+(l3.length:Int)<0:=by omega
   go_wp2_with fail
   go_round
   case rel=>exact Or.inr (Or.inr (Or.inr ⟨by go_num,by go_num⟩))
   case measure=>first|(simp[intOf];done)|(simp[intOf];omega)
  ·go_wp2_with fail
   refine(JqQ (l1.length+l2.length+l3.length) (by omega) w).mono ?_
   rintro e w1 ⟨⟨v1,rfl,hown1⟩,hB1⟩
   go_wp2_with fail
   go_loopw [6,27] (fun v i wr=>((i=.int .i64 (0:Nat)/\wr.ownsRow w.heap.size 179 4 v 0 [])\/(i=.int .i64 (1:Nat)/\wr.ownsRow w.heap.size 179 4 v l1.length (cellsC l1))\/(i=.int .i64 (2:Nat)/\wr.ownsRow w.heap.size 179 4 v (l1.length+l2.length) (cellsC (l1++l2)))\/(i=.int .i64 (3:Nat)/\wr.ownsRow w.heap.size 179 4 v (l1.length+l2.length+l3.length) (cellsC (l1++l2++l3))))/\Below w.heap.size w wr) (fun _ i _=>3- (intOf i).toNat)
   case atStart=>exact⟨Or.inl ⟨rfl,hown1⟩,hB1⟩
   case round=>
    obtain⟨hrel,hB⟩:=hrel
    have k1:=(hB.cell (p:=⟨cb,0,none⟩) hcb).trans h1
    have k2:=(hB.cell (p:=⟨cb,1,none⟩) hcb).trans h2
    have k3:=(hB.cell (p:=⟨cb,2,none⟩) hcb).trans h3
    rcases hrel with⟨rfl,hown⟩|⟨rfl,hown⟩|⟨rfl,hown⟩|⟨rfl,hown⟩
    ·go_wp2_with (at_builtin;refine Yc _ rfl _ _ 100 rfl w.heap.size 179 i0 (.agg #[.string ByteArray.empty,.int .i64 0,.int .u64 0,.int .u32 0]) 4 40 Tryz.underlying100 hi hz0 hz1 hz2 rfl (by decide) _ 0 _ rfl hown a1 l1.length c1 (cellsC l1) rfl (Y5 _) hN1.out (JnJ (s1.kept hB (Nat.le_refl _))) (Xd _) (by unfold maxLen;omega) (by omega) hB.size ?_;intro v' w2 hown' hgrow hat)
     go_roundw
     case rel=>exact⟨Or.inr (Or.inl ⟨by go_num,by rw[Nat.zero_add,List.nil_append] at hown';exact hown'⟩),Ju hB hgrow (fun k e=>(hown.lt k e).1) hB.size⟩
     case measure=>first|(simp[intOf];done)|(simp[intOf];omega)
    ·go_wp2_with (at_builtin;refine Yc _ rfl _ _ 100 rfl w.heap.size 179 i0 (.agg #[.string ByteArray.empty,.int .i64 0,.int .u64 0,.int .u32 0]) 4 40 Tryz.underlying100 hi hz0 hz1 hz2 rfl (by decide) _ l1.length _ rfl hown a2 l2.length c2 (cellsC l2) rfl (Y5 _) hN2.out (JnJ (s2.kept hB (Nat.le_refl _))) (Xd _) (by unfold maxLen;omega) (by omega) hB.size ?_;intro v' w2 hown' hgrow hat)
     go_roundw
     case rel=>exact⟨Or.inr (Or.inr (Or.inl ⟨by go_num,by rw[ZF];exact hown'⟩)),Ju hB hgrow (fun k e=>(hown.lt k e).1) hB.size⟩
     case measure=>first|(simp[intOf];done)|(simp[intOf];omega)
    ·go_wp2_with (at_builtin;refine Yc _ rfl _ _ 100 rfl w.heap.size 179 i0 (.agg #[.string ByteArray.empty,.int .i64 0,.int .u64 0,.int .u32 0]) 4 40 Tryz.underlying100 hi hz0 hz1 hz2 rfl (by decide) _ (l1.length+l2.length) _ rfl hown a3 l3.length c3 (cellsC l3) rfl (Y5 _) hN3.out (JnJ (s3.kept hB (Nat.le_refl _))) (Xd _) (by unfold maxLen;omega) (by omega) hB.size ?_;intro v' w2 hown' hgrow hat)
     go_roundw
     case rel=>exact⟨Or.inr (Or.inr (Or.inr ⟨by go_num,by rw[ZF (l1++l2)];exact hown'⟩)),Ju hB hgrow (fun k e=>(hown.lt k e).1) hB.size⟩
     case measure=>first|(simp[intOf];done)|(simp[intOf];omega)
    ·go_wp2_with fail
     go_ret
     refine⟨⟨_,rfl,?_⟩,hB⟩
     rw[<-List.append_assoc,List.length_append,List.length_append]
     exact hown
theorem JpS (n:Nat) (hn:n<=200000) (w:World):
  Calls Tryz.prog 164 #[.slice none 0 0,.int .i64 n] w fun e w'=>(∃v',e=.returned v'/\w'.ownsRow w.heap.size 97 1 v' 0 [])/\Below w.heap.size w w':=by
 obtain⟨i0,hi,hz0,hz1,hz2⟩:=info_parts JfA
 by_cases h0:n=0
 ·subst h0
  go_enter Tryz.func164,Tryz.ntmps164
  go_wp2_with fail
  go_ret
  exact⟨⟨_,rfl,World.ownsRow_nil _ _ _ _⟩,Below.refl _ _⟩
 ·have hn0:(0:Int)<(n:Int):=by omega
  have hr:=fun ty=>Lib.run_append_nil_zeros (P:=Tryz.prog) w 106 3 ty 97 i0 _ .i64 .i64 Tryz.underlying106 Tryz.underlying3 hi hz0 n (by omega) (by omega) (by omega) (by rw[hz2];omega)
  have hG:=grownCap_ge w n 0 97
  have hGm:=grownCap_le_maxLen w n 0 97 (by unfold maxLen;omega)
  generalize grownCap w n 0 97=G at*
  have hzl:(Builtin.zeroCells (.pointer none:Value).cells n++Builtin.zeroCells (.pointer none:Value).cells (G-n)).size=G*1:=by
   rw[Array.size_append,YA,YA]
   show n*1+(G-n)*1=_
   omega
  generalize hZ:Builtin.zeroCells (.pointer none:Value).cells n++Builtin.zeroCells (.pointer none:Value).cells (G-n)=Z at*
  have hown:=World.ownsRow_made (e:=97) (size:=1) (base:=w.heap.size) w.drew Z G (Nat.le_refl _) hGm hzl
  have hown':=Lib.hid hown
  unfold maxLen at hGm
  clear hZ hzl hown
  go_enter Tryz.func164,Tryz.ntmps164
  go_wp2_with (at_builtin;refine Lib.wpList_append_run _ rfl _ _ _ _ rfl _ _ rfl rfl _ _ (hr _) ?_)
  go_ret
  exact⟨⟨_,rfl,hown'.out⟩,(Jb (Below.refl _ _)).alloc (Nat.le_refl _) _⟩
theorem JhA {w:World} {ao:Option Addr} {l:List Nat} (hs:Jf4 w ao l):∀ad,ao=some ad->∀j u,(cellsVx l)[j]? =some u->w.cell? (ad.add j)=some u:=by
 intro ad e j u hu
 have hj:=(List.getElem?_eq_some_iff.1 hu).1
 rw[Zv] at hj
 obtain⟨b,off,e',hb,hc⟩:=hs.at (by omega)
 obtain rfl:ad=⟨b,off,none⟩:=by rw[e] at e';simpa using e'
 rw[show(⟨b,off,none⟩:Addr).add j=⟨b,off+j,none⟩ by simp[Addr.add]]
 exact JC.cellsVx hc j u hu
theorem Jnc (cb:Nat) (a1 a2 a3:Option Addr) (c1 c2 c3:Nat) (l1 l2 l3:List Nat) (w:World) (hcb:cb<w.heap.size) (h1:w.cell? ⟨cb,0,none⟩=some (.slice a1 l1.length c1)) (h2:w.cell? ⟨cb,1,none⟩=some (.slice a2 l2.length c2)) (h3:w.cell? ⟨cb,2,none⟩=some (.slice a3 l3.length c3))
  (s1:Jf4 w a1 l1) (s2:Jf4 w a2 l2) (s3:Jf4 w a3 l3) (n1:a1=none->l1.length=0/\c1=0) (n2:a2=none->l2.length=0/\c2=0) (n3:a3=none->l3.length=0/\c3=0) (hl1:l1.length<=20000) (hl2:l2.length<=20000) (hl3:l3.length<=20000):
  Calls Tryz.prog 133 #[.slice (some ⟨cb,0,none⟩) 3 3] w fun e w'=>(∃v',e=.returned v'/\w'.ownsRow w.heap.size 97 1 v' (l1++(l2++l3)).length (cellsVx (l1++(l2++l3))))/\Below w.heap.size w w':=by
 obtain⟨i0,hi,hz0,hz1,hz2⟩:=info_parts JfA
 have hN1:=Lib.hid n1
 have hN2:=Lib.hid n2
 have hN3:=Lib.hid n3
 clear n1 n2 n3
 go_enter Tryz.func133,Tryz.ntmps133
 go_wp2_with fail
 go_loop [3,11] (fun s i=>(i=.int .i64 (0:Nat)/\s=.int .i64 (0:Nat))\/(i=.int .i64 (1:Nat)/\s=.int .i64 l1.length)\/(i=.int .i64 (2:Nat)/\s=.int .i64 (l1.length+l2.length:Nat))\/(i=.int .i64 (3:Nat)/\s=.int .i64 (l1.length+l2.length+l3.length:Nat))) (fun _ i=>3- (intOf i).toNat)
 case atStart=>exact Or.inl ⟨rfl,rfl⟩
 case round=>
  rcases hrel with⟨rfl,rfl⟩|⟨rfl,rfl⟩|⟨rfl,rfl⟩|⟨rfl,rfl⟩
  ·have hp:¬(l1.length:Int)<0:=by omega
   go_wp2_with fail
   go_round
   case rel=>exact Or.inr (Or.inl ⟨by go_num,by go_num⟩)
   case measure=>first|(simp[intOf];done)|(simp[intOf];omega)
  ·have hp:¬(l1.length:Int)+(l2.length:Int)<0:=by omega
   go_wp2_with fail
   go_round
   case rel=>exact Or.inr (Or.inr (Or.inl ⟨by go_num,by go_num⟩))
   case measure=>first|(simp[intOf];done)|(simp[intOf];omega)
  ·have hp:¬(l1.length:Int)+(l2.length:Int)+(l3.length:Int)<0:=by omega
   go_wp2_with fail
   go_round
   case rel=>exact Or.inr (Or.inr (Or.inr ⟨by go_num,by go_num⟩))
   case measure=>first|(simp[intOf];done)|(simp[intOf];omega)
  ·go_wp2_with fail
   refine(JpS (l1.length+l2.length+l3.length) (by omega) w).mono ?_
   rintro e w1 ⟨⟨v1,rfl,hown1⟩,hB1⟩
   go_wp2_with fail
   go_loopw [6,27] (fun v i wr=>((i=.int .i64 (0:Nat)/\wr.ownsRow w.heap.size 97 1 v 0 [])\/(i=.int .i64 (1:Nat)/\wr.ownsRow w.heap.size 97 1 v l1.length (cellsVx l1))\/(i=.int .i64 (2:Nat)/\wr.ownsRow w.heap.size 97 1 v (l1.length+l2.length) (cellsVx (l1++l2)))\/(i=.int .i64 (3:Nat)/\wr.ownsRow w.heap.size 97 1 v (l1.length+l2.length+l3.length) (cellsVx (l1++l2++l3))))/\Below w.heap.size w wr) (fun _ i _=>3- (intOf i).toNat)
   case atStart=>exact⟨Or.inl ⟨rfl,hown1⟩,hB1⟩
   case round=>
    obtain⟨hrel,hB⟩:=hrel
    have k1:=(hB.cell (p:=⟨cb,0,none⟩) hcb).trans h1
    have k2:=(hB.cell (p:=⟨cb,1,none⟩) hcb).trans h2
    have k3:=(hB.cell (p:=⟨cb,2,none⟩) hcb).trans h3
    rcases hrel with⟨rfl,hown⟩|⟨rfl,hown⟩|⟨rfl,hown⟩|⟨rfl,hown⟩
    ·go_wp2_with (at_builtin;refine Yc _ rfl _ _ 106 rfl w.heap.size 97 i0 (.pointer none) 1 8 Tryz.underlying106 hi hz0 hz1 hz2 rfl (by decide) _ 0 _ rfl hown a1 l1.length c1 (cellsVx l1) rfl (Zv _) hN1.out (JhA (s1.kept hB (Nat.le_refl _))) (ZK _) (by unfold maxLen;omega) (by omega) hB.size ?_;intro v' w2 hown' hgrow hat)
     go_roundw
     case rel=>exact⟨Or.inr (Or.inl ⟨by go_num,by rw[Nat.zero_add,List.nil_append] at hown';exact hown'⟩),Ju hB hgrow (fun k e=>(hown.lt k e).1) hB.size⟩
     case measure=>first|(simp[intOf];done)|(simp[intOf];omega)
    ·go_wp2_with (at_builtin;refine Yc _ rfl _ _ 106 rfl w.heap.size 97 i0 (.pointer none) 1 8 Tryz.underlying106 hi hz0 hz1 hz2 rfl (by decide) _ l1.length _ rfl hown a2 l2.length c2 (cellsVx l2) rfl (Zv _) hN2.out (JhA (s2.kept hB (Nat.le_refl _))) (ZK _) (by unfold maxLen;omega) (by omega) hB.size ?_;intro v' w2 hown' hgrow hat)
     go_roundw
     case rel=>exact⟨Or.inr (Or.inr (Or.inl ⟨by go_num,by rw[X7];exact hown'⟩)),Ju hB hgrow (fun k e=>(hown.lt k e).1) hB.size⟩
     case measure=>first|(simp[intOf];done)|(simp[intOf];omega)
    ·go_wp2_with (at_builtin;refine Yc _ rfl _ _ 106 rfl w.heap.size 97 i0 (.pointer none) 1 8 Tryz.underlying106 hi hz0 hz1 hz2 rfl (by decide) _ (l1.length+l2.length) _ rfl hown a3 l3.length c3 (cellsVx l3) rfl (Zv _) hN3.out (JhA (s3.kept hB (Nat.le_refl _))) (ZK _) (by unfold maxLen;omega) (by omega) hB.size ?_;intro v' w2 hown' hgrow hat)
     go_roundw
     case rel=>exact⟨Or.inr (Or.inr (Or.inr ⟨by go_num,by rw[X7 (l1++l2)];exact hown'⟩)),Ju hB hgrow (fun k e=>(hown.lt k e).1) hB.size⟩
     case measure=>first|(simp[intOf];done)|(simp[intOf];omega)
    ·go_wp2_with fail
     go_ret
     refine⟨⟨_,rfl,?_⟩,hB⟩
     rw[<-List.append_assoc,List.length_append,List.length_append]
     exact hown
structure SlV (w:World) (v:Value) (l:List Nat):Prop where
 form:∃ao c,v=.slice ao l.length c/\Jf4 w ao l/\l.length<=c/\(c:Int)<=9223372036854775807/\(ao=none->c=0)
theorem SlV.kept {w w':World} {v:Value} {l:List Nat} {B:Nat} (h:SlV w v l) (hb:Below B w w') (hB:w.heap.size<=B):SlV w' v l:=by
 obtain⟨ao,c,rfl,h1,h2⟩:=h
 exact⟨ao,c,rfl,h1.kept hb hB,h2⟩
theorem SlV.of_own {w:World} {B n:Nat} {v:Value} {l:List Nat} (h:w.ownsRow B 97 1 v n (cellsVx l)):l.length=n/\SlV w v l:=by
 have hn:l.length=n:=by have:=h.1;rw[Zv] at this;omega
 refine⟨hn,?_⟩
 subst hn
 rcases Jv h with⟨rfl,h0,-⟩|⟨g,cap,cur,rfl,-,hr,h3,h4,h5,h6⟩
 ·obtain rfl:=List.eq_nil_of_length_eq_zero h0
  exact⟨none,0,rfl,Or.inl rfl,Nat.le_refl _,by omega,fun _=>rfl⟩
 ·refine⟨_,cap,rfl,Or.inr ⟨g,0,rfl,hr.lt,fun i hi j x hx=> ?_⟩,h3,by unfold maxLen at h4;omega,fun e=>by simp at e⟩
  have hj:j<1:=(List.getElem?_eq_some_iff.1 hx).1
  obtain rfl:j=0:=by omega
  have e:(cellsVx l)[i]? =some x:=by
   unfold cellsVx
   rw[List.getElem?_map,List.getElem?_eq_getElem hi]
   exact hx
  rw[hr.cell,Nat.zero_add,Nat.mul_one,Nat.add_zero,<-e,<-h6,List.getElem?_take,if_pos (by omega)]
theorem Jl0 (v:Value) (l:List Nat) (w:World) (h:SlV w v l) (hl:l.length<=1000000):
  Calls Tryz.prog 99 #[v] w fun e w'=>(∃v',e=.returned v'/\w'.ownsRow w.heap.size 97 1 v' l.length (cellsVx l))/\Below w.heap.size w w':=by
 obtain⟨ao,c,rfl,hs,hc1,hc2,hn⟩:=h
 have hnil:=fun(w:World) a n c n' c'=>Lib.run_eql_slice_nil (P:=Tryz.prog) w 106 97 a n c n' c' Tryz.underlying106
 obtain⟨i0,hi,hz0,hz1,hz2⟩:=info_parts JfA
 cases ao with
 |none=>
  obtain rfl:=hn rfl
  obtain rfl:l=[]:=List.eq_nil_of_length_eq_zero (by omega)
  go_enter Tryz.func99,Tryz.ntmps99
  go_wp2_with fail
  go_ret
  exact⟨⟨_,rfl,World.ownsRow_nil _ _ _ _⟩,Below.refl _ _⟩
 |some a=>
  have hown:=World.ownsRow_made (e:=97) (size:=1) (base:=w.heap.size) w #[] 0 (Nat.le_refl _) (by unfold maxLen;omega) rfl
  have hnews:∀j u,(cellsVx l)[j]? =some u->(w.alloc (.cells #[] 97)).cell? (a.add j)=some u:=by
   intro j u hu
   exact Jf _ (JhA hs a rfl j u hu)
  have hcl:=Zv l
  clear hs
  go_enter Tryz.func99,Tryz.ntmps99
  go_wp2_with (at_builtin;refine wpList_append_own_at _ rfl _ _ 106 rfl w.heap.size 97 i0 (.pointer none) 1 8 Tryz.underlying106 hi hz0 hz1 hz2 rfl (by decide) _ 0 [] rfl hown a l.length c (cellsVx l) rfl hcl hnews (ZK l) (by unfold maxLen;omega) (by omega) (by simp) ?_;intro v' w1 hown' hgrow hnil' hat)
  go_ret
  rw[Nat.zero_add,List.nil_append] at hown'
  exact⟨⟨_,rfl,hown'⟩,Zp hgrow fun k e=>Nat.le_of_eq (Option.some.inj e)⟩
theorem Jro:Tryz.prog.elem 100=179:=by kernel_rfl
theorem JnA:Tryz.prog.underlying 100=some (.slice (Tryz.prog.elem 100)):=by rw[Jro];exact Tryz.underlying100
theorem JlA (w:World):(sizeOf (Tryz.prog.elem 100)).run Tryz.prog w=.ok 4 w:=by kernel_rfl
theorem Jrz (ao:Option Addr) (n c i:Nat) (l:List Chd) (w:World) (hs:Jhp w ao l) (hl:l.length=n) (hnc:n<=c) (hc:(c:Int)<=9223372036854775807) (hin:i<=n) (hno:ao=none->c=0):
  (∀w,(Instr.slice 100 (.slice ao n c) none (some (.int .i64 (i:Int))) none).run Tryz.prog w=.ok (.slice ao i c) w)/\SlC w (.slice ao i c) (l.take i):=by
 refine⟨fun w=> ?_,?_⟩
 ·rw[run_slice_h w 100 ao n c JnA .i64 i (by omega) (by omega)]
  rw[JlA]
  have e:ao.map (·.add 0)=ao:=by cases ao<;>simp[Addr.add]
  simp[Result.andThen,sliced,e]
 ·have hlen:(l.take i).length=i:=by rw[List.length_take];omega
  exact⟨ao,c,by rw[hlen],hs.cut i,by rw[hlen];omega,hc,hno⟩
theorem Jrj (ao:Option Addr) (n c k:Nat) (l:List Chd) (w:World) (hs:Jhp w ao l) (hl:l.length=n) (hnc:n<=c) (hc:(c:Int)<=9223372036854775807) (hkn:k<=n) (hno:ao=none->c=0):
  ∃A,(∀w,(Instr.slice 100 (.slice ao n c) (some (.int .i64 (k:Int))) none none).run Tryz.prog w=.ok (.slice A (n-k) (c-k)) w)/\SlC w (.slice A (n-k) (c-k)) (l.drop k):=by
 refine⟨if c=k then ao else ao.map (·.add (k*4)),fun w=> ?_,?_⟩
 ·rw[run_slice_l w 100 ao n c JnA .i64 k (by omega) (by omega)]
  rw[JlA];rfl
 ·have hlen:(l.drop k).length=n-k:=by rw[List.length_drop];omega
  refine⟨_,c-k,by rw[hlen],?_,by rw[hlen];omega,by omega,fun e=> ?_⟩
  ·by_cases h0:k<n
   ·rw[if_neg (by omega)]
    obtain⟨b,off,rfl,hb,hcc⟩:=hs.at (by omega)
    rw[show(some (⟨b,off,none⟩:Addr)).map (·.add (k*4))=some ⟨b,off+k*4,none⟩ by simp[Addr.add]]
    exact hs.drop k b off rfl
   ·exact Or.inl (List.eq_nil_of_length_eq_zero (by omega))
  ·by_cases h0:c=k
   ·omega
   ·rw[if_neg h0] at e
    cases ao with
    |none=>have:=hno rfl;omega
    |some a=>simp at e
theorem Jnd (cb:Nat) (a1 a2 a3:Option Addr) (n1 n2 n3 c1 c2 c3:Nat) (l1 l2 l3:List Chd) (w:World) (hcb:cb<w.heap.size) (h1:w.cell? ⟨cb,0,none⟩=some (.slice a1 n1 c1)) (h2:w.cell? ⟨cb,1,none⟩=some (.slice a2 n2 c2)) (h3:w.cell? ⟨cb,2,none⟩=some (.slice a3 n3 c3))
  (s1:SlC w (.slice a1 n1 c1) l1) (s2:SlC w (.slice a2 n2 c2) l2) (s3:SlC w (.slice a3 n3 c3) l3) (hl1:l1.length<=20000) (hl2:l2.length<=20000) (hl3:l3.length<=20000):
  Calls Tryz.prog 132 #[.slice (some ⟨cb,0,none⟩) 3 3] w fun e w'=>(∃v',e=.returned v'/\w'.ownsRow w.heap.size 179 4 v' (l1++(l2++l3)).length (cellsC (l1++(l2++l3))))/\Below w.heap.size w w':=by
 obtain⟨b1,d1,e1,t1,u1,-,m1⟩:=s1
 obtain⟨b2,d2,e2,t2,u2,-,m2⟩:=s2
 obtain⟨b3,d3,e3,t3,u3,-,m3⟩:=s3
 simp only[Value.slice.injEq] at e1 e2 e3
 obtain⟨rfl,rfl,rfl⟩:=e1
 obtain⟨rfl,rfl,rfl⟩:=e2
 obtain⟨rfl,rfl,rfl⟩:=e3
 exact JoH cb a1 a2 a3 c1 c2 c3 l1 l2 l3 w hcb h1 h2 h3 t1 t2 t3 (fun e=>by have:=m1 e;omega) (fun e=>by have:=m2 e;omega) (fun e=>by have:=m3 e;omega) hl1 hl2 hl3
theorem JqS:Tryz.prog.elem 106=97:=by kernel_rfl
theorem Jlw:Tryz.prog.underlying 106=some (.slice (Tryz.prog.elem 106)):=by rw[JqS];exact Tryz.underlying106
theorem Jiu (w:World):(sizeOf (Tryz.prog.elem 106)).run Tryz.prog w=.ok 1 w:=by kernel_rfl
theorem Jqk (ao:Option Addr) (n c i:Nat) (l:List Nat) (w:World) (hs:Jf4 w ao l) (hl:l.length=n) (hnc:n<=c) (hc:(c:Int)<=9223372036854775807) (hin:i<=n) (hno:ao=none->c=0):
  (∀w,(Instr.slice 106 (.slice ao n c) none (some (.int .i64 (i:Int))) none).run Tryz.prog w=.ok (.slice ao i c) w)/\SlV w (.slice ao i c) (l.take i):=by
 refine⟨fun w=> ?_,?_⟩
 ·rw[run_slice_h w 106 ao n c Jlw .i64 i (by omega) (by omega)]
  rw[Jiu]
  have e:ao.map (·.add 0)=ao:=by cases ao<;>simp[Addr.add]
  simp[Result.andThen,sliced,e]
 ·have hlen:(l.take i).length=i:=by rw[List.length_take];omega
  exact⟨ao,c,by rw[hlen],hs.cut i,by rw[hlen];omega,hc,hno⟩
theorem Joh (ao:Option Addr) (n c k:Nat) (l:List Nat) (w:World) (hs:Jf4 w ao l) (hl:l.length=n) (hnc:n<=c) (hc:(c:Int)<=9223372036854775807) (hkn:k<=n) (hno:ao=none->c=0):
  ∃A,(∀w,(Instr.slice 106 (.slice ao n c) (some (.int .i64 (k:Int))) none none).run Tryz.prog w=.ok (.slice A (n-k) (c-k)) w)/\SlV w (.slice A (n-k) (c-k)) (l.drop k):=by
 refine⟨if c=k then ao else ao.map (·.add (k*1)),fun w=> ?_,?_⟩
 ·rw[run_slice_l w 106 ao n c Jlw .i64 k (by omega) (by omega)]
  rw[Jiu];rfl
 ·have hlen:(l.drop k).length=n-k:=by rw[List.length_drop];omega
  refine⟨_,c-k,by rw[hlen],?_,by rw[hlen];omega,by omega,fun e=> ?_⟩
  ·by_cases h0:k<n
   ·rw[if_neg (by omega)]
    obtain⟨b,off,rfl,hb,hcc⟩:=hs.at (by omega)
    rw[show(some (⟨b,off,none⟩:Addr)).map (·.add (k*1))=some ⟨b,off+k*1,none⟩ by simp[Addr.add]]
    exact hs.drop k b off rfl
   ·exact Or.inl (List.eq_nil_of_length_eq_zero (by omega))
  ·by_cases h0:c=k
   ·omega
   ·rw[if_neg h0] at e
    cases ao with
    |none=>have:=hno rfl;omega
    |some a=>simp at e
theorem Jlf (cb:Nat) (a1 a2 a3:Option Addr) (n1 n2 n3 c1 c2 c3:Nat) (l1 l2 l3:List Nat) (w:World) (hcb:cb<w.heap.size) (h1:w.cell? ⟨cb,0,none⟩=some (.slice a1 n1 c1)) (h2:w.cell? ⟨cb,1,none⟩=some (.slice a2 n2 c2)) (h3:w.cell? ⟨cb,2,none⟩=some (.slice a3 n3 c3))
  (s1:SlV w (.slice a1 n1 c1) l1) (s2:SlV w (.slice a2 n2 c2) l2) (s3:SlV w (.slice a3 n3 c3) l3) (hl1:l1.length<=20000) (hl2:l2.length<=20000) (hl3:l3.length<=20000):
  Calls Tryz.prog 133 #[.slice (some ⟨cb,0,none⟩) 3 3] w fun e w'=>(∃v',e=.returned v'/\w'.ownsRow w.heap.size 97 1 v' (l1++(l2++l3)).length (cellsVx (l1++(l2++l3))))/\Below w.heap.size w w':=by
 obtain⟨b1,d1,e1,t1,u1,-,m1⟩:=s1
 obtain⟨b2,d2,e2,t2,u2,-,m2⟩:=s2
 obtain⟨b3,d3,e3,t3,u3,-,m3⟩:=s3
 simp only[Value.slice.injEq] at e1 e2 e3
 obtain⟨rfl,rfl,rfl⟩:=e1
 obtain⟨rfl,rfl,rfl⟩:=e2
 obtain⟨rfl,rfl,rfl⟩:=e3
 exact Jnc cb a1 a2 a3 c1 c2 c3 l1 l2 l3 w hcb h1 h2 h3 t1 t2 t3 (fun e=>by have:=m1 e;omega) (fun e=>by have:=m2 e;omega) (fun e=>by have:=m3 e;omega) hl1 hl2 hl3
open Go.RowKit
attribute [local go_sem ↓] Go.wp_at_zero Go.wp_at_succ
abbrev Jbe (w:World) (ao:Option Addr) (l:List (List UInt8)):Prop:=JC (fun s:List UInt8=>[Value.string (S s)]) 1 w ao l
theorem Jbe.cell {w:World} {ao:Option Addr} {l:List (List UInt8)} (h:Jbe w ao l) (i:Nat) (hi:i<l.length):∃b off,ao=some ⟨b,off,none⟩/\b<w.heap.size/\w.cell? ⟨b,off+i,none⟩=some (.string (S l[i])):=by
 obtain⟨b,off,e,hb,hc⟩:=h.at (by omega)
 have:=hc i hi 0 _ rfl
 rw[Nat.mul_one,Nat.add_zero] at this
 exact⟨b,off,e,hb,this⟩
theorem Jee (s:ByteArray):∀u∈[Value.string s,.int .i64 0,.int .u64 0,.int .u32 0],u.oneCell'=true:=by
 intro u hu
 simp only[List.mem_cons,List.not_mem_nil,or_false] at hu
 rcases hu with rfl|rfl|rfl|rfl<;>rfl
theorem Jq.noPtr {w:World} {b:Nat} {kn:Bool} {pa:Int} {pg ps:Nat} {ld:Bool} {a1 a2 a3 a4:Option Addr} {n1 n2 n3 n4 c1 c2 c3 c4:Nat} (h:Jq w b kn pa pg ps ld (.slice a1 n1 c1) (.slice a2 n2 c2) (.slice a3 n3 c3) (.slice a4 n4 c4)) (o:Nat) (p:Option Addr):w.cell? ⟨b,o,none⟩≠some (.pointer p):=fun e=>by
 rw[h.row.cell] at e
 have:=List.mem_of_getElem? e
 simp[YH] at this
theorem SlV.keep {w w':World} {v:Value} {l:List Nat} {b:Nat} (h:SlV w v l) (hk:Jg (fun x=>x=b) w w') (hb:∀o p,w.cell? ⟨b,o,none⟩≠some (.pointer p)):SlV w' v l:=by
 obtain⟨ao,c,rfl,h1,h2⟩:=h
 refine⟨ao,c,rfl,?_,h2⟩
 rcases h1 with rfl|⟨g,off,rfl,hg,hc⟩
 ·exact Or.inl rfl
 ·by_cases hl:l=[]
  ·exact Or.inl hl
  ·have hl0:0<l.length:=List.length_pos_iff.2 hl
   have hne:¬g=b:=fun e=>hb _ _ (by rw[<-e];exact hc 0 hl0 0 _ rfl)
   refine Or.inr ⟨g,off,rfl,Nat.lt_of_lt_of_le hg hk.size,fun i hi j x hx=> ?_⟩
   rw[World.cell?_of_block (hk.block g hg hne)]
   exact hc i hi j x hx
theorem JbH {α β:Type} (f:α->β):∀(A D:List α) (x:α),((A++x::D).map f).take A.length=A.map f/\((A++x::D).map f).drop (A.length+1)=D.map f
 |[],D,x=>⟨rfl,rfl⟩
 |a::A,D,x=>by
  obtain⟨h1,h2⟩:=JbH f A D x
  refine⟨?_,?_⟩
  ·rw[List.cons_append,List.map_cons,List.length_cons,List.take_succ_cons,h1,List.map_cons]
  ·rw[List.cons_append,List.map_cons,List.length_cons,List.drop_succ_cons,h2]
theorem Ji1 {w:World} {B g c:Nat} {CS:List Chd} (h:w.ownsRow B 179 4 (.slice (some ⟨g,0,none⟩) CS.length c) CS.length (cellsC CS)) (h0:0<CS.length):(w.setCell ⟨g,0,none⟩ (.string ⟨#[]⟩)).ownsRow B 179 4 (.slice (some ⟨g,0,none⟩) CS.length c) CS.length (cellsC (Xc CS)):=by
 rcases Jv h with⟨e,-,-⟩|⟨g',cap,cur,e,h1,hr,h3,h4,h5,h6⟩
 ·simp at e
 ·simp only[Value.slice.injEq,Option.some.injEq,Addr.mk.injEq,and_true,true_and] at e
  obtain⟨rfl,rfl⟩:=e
  refine YB h1 (hr.put 0 _) h3 h4 (by rw[List.length_set];exact h5) ?_
  rw[List.take_set,h6]
  exact JbK CS h0
structure Jma (w0:World) (v:Vt) (pa:Int) (pg ps:Nat) (CS:List Chd) (KS:List Nat) (ga:Option Addr) (gc:Nat) (a2:Option Addr) (x2:Nat) (a3:Option Addr) (x3:Nat) (w:World):Prop where
 keep:Jg (fun x=>x=v.b) w0 w
 vx:Jq w v.b v.kn.isSome pa pg ps true (.slice none 0 0) (.slice ga CS.length gc) (.slice a2 v.us.length x2) (.slice a3 KS.length x3)
 rowC:w.ownsRow w0.heap.size 179 4 (.slice ga CS.length gc) CS.length (cellsC CS)
 kids:w.ownsRow 0 97 1 (.slice a3 KS.length x3) KS.length (cellsVx KS)
theorem Jq.noRow {w:World} {b:Nat} {kn:Bool} {pa:Int} {pg ps:Nat} {ld:Bool} {lf cs us ks:Value} (h:Jq w b kn pa pg ps ld lf cs us ks) {B:Nat} {E:TypeId} {k:Nat} {v:Value} {n:Nat} {xs:List Value} (ho:w.ownsRow B E k v n xs) (hE:E≠108):v.ownBlock≠some b:=fun e=>by
 obtain⟨cur,hc⟩:=Jt ho b e
 exact hE (hc.one h.row).1
theorem Jqy {w:World} {n:Nat} {v:Vt} {A:List (Chd×Vt)} {c:Chd} {t:Vt} {D Q:List (Chd×Vt)} (kv:Value) (la:Option Addr) (lc k:Nat) (hm:Mem w (n+1) v) (hl:v.ld=true) (e:v.ch=A++(c,t)::D) (hkA:k=A.length) (hkv:SlV w kv (Q.map fun x=>x.2.b)) (hlv:Jbe w la (Q.map lw)) (hv2:v.ch.length<=10000) (hq2:Q.length<=10000) (hne:A++(Q++D)≠[]) (hnew:∀x∈Q,x.1=⟨lw x,0,0,0⟩):
  Calls Tryz.prog 100 #[.pointer (some ⟨v.b,0,none⟩),.int .i64 k,kv,.slice la Q.length lc] w fun e w'=>e=.returned (.tuple #[])/\Jg (fun x=>x=v.b) w w'/\Zh w' {v with ch:=Jk (A++(Q++D))}:=by
 obtain⟨i0,hi,hz0,hz1,hz2⟩:=info_parts Jg0
 obtain⟨ka,kc,rfl,hka⟩:=hkv
 rw[List.length_map] at hka⊢
 have HKV:=Lib.hid (show SlV w (.slice ka Q.length kc) (Q.map fun x=>x.2.b) from⟨ka,kc,by rw[List.length_map],by rw[List.length_map];exact hka⟩)
 have HLV:=Lib.hid hlv
 have HM:=Lib.hid hm
 have HE:=Lib.hid (And.intro e (And.intro hkA hne))
 clear hka hlv hm e hkA hne
 go_enter Tryz.func100,Tryz.ntmps100
 go_wp2_with fail
 go_loopw [8,13] (fun s i wr=>∃j:Nat,i=.int .i64 j/\j<=Q.length/\wr.ownsRow w.heap.size 179 4 s j (cellsC ((Q.take j).map Prod.fst))/\Below w.heap.size w wr) (fun _ i _=>Q.length- (intOf i).toNat)
 case atStart=>exact⟨0,rfl,Nat.zero_le _,World.ownsRow_nil _ _ _ _,Below.refl _ _⟩
 case round=>
  obtain⟨j,rfl,hj,hown,hB⟩:=hrel
  have hj0:(0:Int)<=(j:Int):=Int.natCast_nonneg _
  by_cases hjl:j<Q.length
  ·have hj1:(j:Int)<(Q.length:Int):=by omega
   obtain⟨b0,off,rfl,hb0,t0⟩:=Jbe.cell (HLV.out.kept hB (Nat.le_refl _)) j (by rw[List.length_map];exact hjl)
   rw[List.getElem_map] at t0
   have HQ:=Lib.hid (show(Q.take (j+1)).map Prod.fst=(Q.take j).map Prod.fst++[⟨lw Q[j],0,0,0⟩] by rw[List.take_succ_eq_append_getElem hjl,List.map_append,List.map_cons,List.map_nil,hnew _ (List.getElem_mem hjl)])
   generalize lw Q[j]=low at*
   go_wp2_with (at_builtin;refine wpList_append_own_at _ rfl _ _ 100 rfl w.heap.size 179 i0 (.agg #[.string ByteArray.empty,.int .i64 0,.int .u64 0,.int .u32 0]) 4 40 Tryz.underlying100 hi hz0 hz1 hz2 rfl (by decide) _ j _ rfl (hown.alloc _) ⟨_,0,none⟩ 1 1 [.string (S low),.int .i64 0,.int .u64 0,.int .u32 0] rfl rfl (fun j u hu=>XV _ _ rfl _ _ _ _ _ j u hu) (Jee _) (by unfold maxLen;omega) (by omega) (by have:=hB.size;simp;omega) ?_;intro v' w2 hown' hgrow hnil' hat)
   go_roundw
   case rel=>exact⟨j+1,by go_num,by omega,by rw[HQ.out,ZF,JcM];exact hown',Ju (hB.alloc hB.size _) hgrow (fun q e=>(hown.lt q e).1) (by have:=hB.size;simp;omega)⟩
   case measure=>simp[intOf];omega
  ·obtain rfl:j=Q.length:=by omega
   obtain⟨⟨-,pa,pg,ps,a1,x1,a2,x2,a3,x3,hv,hpt,hnd,hkd⟩,-⟩:=HM.out.node hl
   obtain⟨w1,hw1⟩:∃w1,w1=wr:=⟨_,rfl⟩
   subst hw1
   rw[List.take_length] at hown
   obtain⟨sa,sc,rfl⟩:=Jm hown
   have hSC:=(SlC.of_own hown).2
   have hV1:=hv.on hB
   have v6:=hV1.c6
   have f6:=hV1.fz 6
   have hn1:JA w1 (.agg #[.slice a1 v.ch.length x1,.slice a2 v.us.length x2]) v.cs v.us:=hnd.kept hB (Nat.le_refl _)
   obtain⟨ao,xo,eo,hs1,hs2,hs3,hs4⟩:=hn1.parts.1
   simp only[Value.slice.injEq] at eo
   obtain⟨rfl,eo2,rfl⟩:=eo
   have hsl1:v.cs.length=v.ch.length:=List.length_map _
   have hkn:k+1<=v.ch.length:=by have h1:=HE.out.1;have h2:=HE.out.2.1;rw[h1,h2];simp
   obtain⟨hr1,hp1⟩:=Jrz a1 v.ch.length x1 k v.cs w1 hs1 hsl1 (by omega) hs3 (by omega) hs4
   obtain⟨k1,hk1⟩:∃k1,k1=k+1:=⟨_,rfl⟩
   obtain⟨A2,hr2,hp2⟩:=Jrj a1 v.ch.length x1 k1 v.cs w1 hs1 hsl1 (by omega) hs3 (by omega) hs4
   have hw1:IntKind.i64.wrap ((k:Int)+1)=(k1:Int):=by rw[show(k:Int)+1=(k1:Int) by omega];exact IntWalk.i64_in _ (by omega)
   obtain⟨CS,hCS⟩:∃CS,CS=v.cs.take k++(Q.map Prod.fst++v.cs.drop k1):=⟨_,rfl⟩
   obtain⟨KS,hKS⟩:∃KS,KS=(v.ch.map fun x=>x.2.b):=⟨_,rfl⟩
   have hKL:KS.length=v.ch.length:=by rw[hKS,List.length_map]
   have hkd1:w1.ownsRow 0 97 1 (.slice a3 KS.length x3) KS.length (cellsVx KS):=by
    have h1:=Ji (show w.ownsRow 0 97 1 _ _ _ from hkd) hB
    rw[List.length_map] at h1
    rw[hKL,hKS]
    exact h1
   rw[<-hKL] at hV1
   obtain⟨W3,hW3⟩:∃W3,W3=(w1.alloc (.cells #[.slice a1 k x1,.slice sa Q.length sc,.slice A2 (v.ch.length-k1) (x1-k1)] 100)).drew:=⟨_,rfl⟩
   have hX3:Below w1.heap.size w1 W3:=by rw[hW3];exact Jb ((Below.refl _ _).alloc (Nat.le_refl _) _)
   have hcb:w1.heap.size<W3.heap.size:=by rw[hW3];simp
   have g0:W3.cell? ⟨w1.heap.size,0,none⟩=some (.slice a1 k x1):=by rw[hW3];exact Jj (by rw[World.cell?_alloc_at _ _ _ _ rfl];rfl)
   have g1:W3.cell? ⟨w1.heap.size,1,none⟩=some (.slice sa Q.length sc):=by rw[hW3];exact Jj (by rw[World.cell?_alloc_at _ _ _ _ rfl];rfl)
   have g2:W3.cell? ⟨w1.heap.size,2,none⟩=some (.slice A2 (v.ch.length-k1) (x1-k1)):=by rw[hW3];exact Jj (by rw[World.cell?_alloc_at _ _ _ _ rfl];rfl)
   have HCC:=Lib.hid (Jnd w1.heap.size a1 sa A2 k Q.length (v.ch.length-k1) x1 sc (x1-k1) _ _ _ W3 hcb g0 g1 g2 (hp1.kept hX3 (Nat.le_refl _)) (hSC.kept hX3 (Nat.le_refl _)) (hp2.kept hX3 (Nat.le_refl _)) (by rw[List.length_take];omega) (by rw[List.length_map];omega) (by rw[List.length_drop];omega))
   rw[<-hCS] at HCC
   have HX:=Lib.hid (And.intro hCS (And.intro hk1 (And.intro hKS (And.intro hkn hv2))))
   have HF:=Lib.hid (And.intro hV1 (And.intro hn1.parts.2 (And.intro hkd1 (And.intro hX3 hB))))
   have HPT:=Lib.hid (And.intro hpt hnd)
   clear hCS hk1 hKS g0 g1 g2 hcb hp1 hp2 hSC hn1 hs1 hkd1 hX3 hown hv hpt hnd hkd hV1 hs2 hs3 hs4 hsl1 hkn hKL hj hj0 hjl hv2 eo2
   go_upto_region 6 with(fail)
   go_cut [] from 23 to 44 (fun wx=>∃ga gc,Hid (Jma w v pa pg ps CS KS ga gc a2 x2 a3 x3 wx))
   case first=>
    go_region_law (first|(go_simp;rw[<-hW3];go_at_call 132;refine HCC.out.mono ?_;rintro e w4 ⟨⟨v',rfl,hown4⟩,hX4⟩;obtain⟨ga,gc,rfl⟩:=Jm hown4;have z6:=Ja hX4 (Ja HF.out.2.2.2.1 v6);have zf:=XC hX4 (Ja HF.out.2.2.2.1 v6) (XC HF.out.2.2.2.1 v6 f6);have HO4:=Lib.hid (And.intro hown4 hX4);clear hown4 hX4))
    all_goals
     obtain⟨hown4,hX4⟩:=HO4.out
     obtain⟨hV1,hus1,hkd1,hX3,hB'⟩:=HF.out
     have hX:=hX3.trans (hX4.mono hX3.size)
     have hV4:=hV1.on hX
     have hb4:=hB'.trans (hX.mono hB'.size)
     have hKs:Jg (fun x=>x=v.b) w4 (w4.setCell ⟨v.b,6,none⟩ (.slice ga CS.length gc)):=(Jg.refl (fun x=>x=v.b) w4).setCell ⟨v.b,6,none⟩ (Or.inl rfl) _
     have hp:Jma w v pa pg ps CS KS ga gc a2 x2 a3 x3 (w4.setCell ⟨v.b,6,none⟩ (.slice ga CS.length gc)):=⟨(Jg.of_below (S:=fun x=>x=v.b) hb4).trans' hKs,⟨hV4.row.put 6 _⟩,JI (ownsRow_setCell_other (a:=⟨v.b,6,none⟩) hown4 (hV4.noRow hown4 (by decide)) _) (by have h1:=hB'.size;have h2:=hX3.size;omega),ownsRow_setCell_other (a:=⟨v.b,6,none⟩) (Ji hkd1 hX) (hV4.noRow (Ji hkd1 hX) (by decide)) _⟩
     go_wp2_with fail
     go_meet
     exact⟨ga,gc,Lib.hid hp⟩
   case rest=>
   obtain⟨ga,gc,HP⟩:=hcut
   obtain⟨w5,hw5⟩:∃w5,w5=wc:=⟨_,rfl⟩
   subst hw5
   have hkv5:SlV w5 (.slice a3 KS.length x3) KS:=(SlV.of_own HP.out.kids).2
   obtain⟨ao,xo,eo,hs1,hs2,hs3,hs4⟩:=hkv5
   simp only[Value.slice.injEq,true_and] at eo
   obtain⟨rfl,rfl⟩:=eo
   have hKL:KS.length=v.ch.length:=by rw[HX.out.2.2.1,List.length_map]
   have hkn:=HX.out.2.2.2.1
   have hv2:=HX.out.2.2.2.2
   have hk1:=HX.out.2.1
   obtain⟨hr3,hp3⟩:=Jqk a3 KS.length x3 k KS w5 hs1 rfl (by omega) hs3 (by omega) hs4
   obtain⟨A4,hr4,hp4⟩:=Joh a3 KS.length x3 k1 KS w5 hs1 rfl (by omega) hs3 (by omega) hs4
   obtain⟨K2,hK2⟩:∃K2,K2=KS.take k++(Q.map (fun x=>x.2.b)++KS.drop k1):=⟨_,rfl⟩
   have hvw:∃pa pg ps a1 n1 c1 a2 n2 c2 a3 n3 c3 a4 n4 c4,Jq w v.b v.kn.isSome pa pg ps v.ld (.slice a1 n1 c1) (.slice a2 n2 c2) (.slice a3 n3 c3) (.slice a4 n4 c4):=HM.out.vxAt
   obtain⟨_,_,_,_,_,_,_,_,_,_,_,_,_,_,_,hvw⟩:=hvw
   have hq5:SlV w5 (.slice ka Q.length kc) (Q.map fun x=>x.2.b):=HKV.out.keep HP.out.keep hvw.noPtr
   clear hvw
   have v8:=HP.out.vx.c8
   have f8:=HP.out.vx.fz 8
   obtain⟨W7,hW7⟩:∃W7,W7=(w5.alloc (.cells #[.slice a3 k x3,.slice ka Q.length kc,.slice A4 (KS.length-k1) (x3-k1)] 106)).drew:=⟨_,rfl⟩
   have hX7:Below w5.heap.size w5 W7:=by rw[hW7];exact Jb ((Below.refl _ _).alloc (Nat.le_refl _) _)
   have hcb:w5.heap.size<W7.heap.size:=by rw[hW7];simp
   have g0:W7.cell? ⟨w5.heap.size,0,none⟩=some (.slice a3 k x3):=by rw[hW7];exact Jj (by rw[World.cell?_alloc_at _ _ _ _ rfl];rfl)
   have g1:W7.cell? ⟨w5.heap.size,1,none⟩=some (.slice ka Q.length kc):=by rw[hW7];exact Jj (by rw[World.cell?_alloc_at _ _ _ _ rfl];rfl)
   have g2:W7.cell? ⟨w5.heap.size,2,none⟩=some (.slice A4 (KS.length-k1) (x3-k1)):=by rw[hW7];exact Jj (by rw[World.cell?_alloc_at _ _ _ _ rfl];rfl)
   have HCV:=Lib.hid (Jlf w5.heap.size a3 ka A4 k Q.length (KS.length-k1) x3 kc (x3-k1) _ _ _ W7 hcb g0 g1 g2 (hp3.kept hX7 (Nat.le_refl _)) (hq5.kept hX7 (Nat.le_refl _)) (hp4.kept hX7 (Nat.le_refl _)) (by rw[List.length_take];omega) (by rw[List.length_map];omega) (by rw[List.length_drop];omega))
   rw[<-hK2] at HCV
   have HX7:=Lib.hid (And.intro hX7 hK2)
   clear hK2 g0 g1 g2 hcb hp3 hp4 hq5 hs1 hs2 hs3 hs4 hX7 hKL hkn hk1 hv2 v6 f6 hr1 hr2
   go_upto_region 7 with(fail)
   go_cut [] from 45 to 63 (fun wx=>∃gb gd,Hid (Jma w v pa pg ps CS K2 ga gc a2 x2 gb gd wx))
   case first=>
    go_region_law (first|(go_simp;rw[<-hW7];go_at_call 133;refine HCV.out.mono ?_;rintro e w8 ⟨⟨v',rfl,hown8⟩,hX8⟩;obtain⟨gb,gd,rfl⟩:=Jm hown8;have z8:=Ja hX8 (Ja HX7.out.1 v8);have zf:=XC hX8 (Ja HX7.out.1 v8) (XC HX7.out.1 v8 f8);have HO8:=Lib.hid (And.intro hown8 hX8);clear hown8 hX8))
    all_goals
     obtain⟨hown8,hX8⟩:=HO8.out
     obtain⟨hX7,hK2⟩:=HX7.out
     have hX:=hX7.trans (hX8.mono hX7.size)
     have hV8:=HP.out.vx.on hX
     have hKs:Jg (fun x=>x=v.b) w8 (w8.setCell ⟨v.b,8,none⟩ (.slice gb K2.length gd)):=(Jg.refl (fun x=>x=v.b) w8).setCell ⟨v.b,8,none⟩ (Or.inl rfl) _
     have hp:Jma w v pa pg ps CS K2 ga gc a2 x2 gb gd (w8.setCell ⟨v.b,8,none⟩ (.slice gb K2.length gd)):=⟨(HP.out.keep.on hX).trans' hKs,⟨hV8.row.put 8 _⟩,ownsRow_setCell_other (a:=⟨v.b,8,none⟩) (Ji HP.out.rowC hX) (hV8.noRow (Ji HP.out.rowC hX) (by decide)) _,JI (ownsRow_setCell_other (a:=⟨v.b,8,none⟩) hown8 (hV8.noRow hown8 (by decide)) _) (Nat.zero_le _)⟩
     go_wp2_with fail
     go_meet
     exact⟨gb,gd,Lib.hid hp⟩
   case rest=>
   obtain⟨gb,gd,HP9⟩:=hcut
   obtain⟨w9,hw9⟩:∃w9,w9=wc:=⟨_,rfl⟩
   subst hw9
   have v6:=HP9.out.vx.c6
   have hCE:CS=(A++(Q++D)).map Prod.fst:=by
    obtain⟨h1,h2,-⟩:=HE.out
    rw[HX.out.1,HX.out.2.1,h2,Vt.cs,h1,(JbH Prod.fst A D (c,t)).1,(JbH Prod.fst A D (c,t)).2,List.map_append,List.map_append]
   have hC0:0<CS.length:=by
    rw[hCE,List.length_map]
    exact List.length_pos_iff.2 HE.out.2.2
   have hC1:(0:Int)<(CS.length:Int):=by omega
   obtain⟨g,rfl,hg1,hg2,hg3⟩:=Yk HP9.out.rowC hC0
   obtain⟨low0,CS',hCC⟩:∃c0 CS',CS=c0::CS':=by
    cases hc:CS with
    |nil=>rw[hc] at hC0;simp at hC0
    |cons a b=>exact⟨a,b,rfl⟩
   have r0:w9.cell? ⟨g,0,none⟩=some (.string (S low0.low)):=hg3 0 _ (by rw[hCC];rfl)
   obtain⟨cur,hcur⟩:=Jt HP9.out.rowC g rfl
   have rf:=hcur.frozen 0
   have HCE:=Lib.hid (And.intro hCE (And.intro hC0 hg1))
   clear hCE hg3 hCC hcur hg1
   go_wp2_with fail
   obtain⟨hCE,hC0,hg1⟩:=HCE.out
   have hgv:v.b≠g:=fun e=>by
    obtain⟨cur,hc⟩:=Jt HP9.out.rowC g rfl
    have h1:=HP9.out.vx.row
    rw[e] at h1
    exact absurd (hc.one h1).1 (by decide)
   have hK9:Jg (fun x=>x=v.b) w (w9.setCell ⟨g,0,none⟩ (.string ⟨#[]⟩)):=HP9.out.keep.setCell ⟨g,0,none⟩ (Or.inr hg1) _
   have hV9:=HP9.out.vx.far ⟨g,0,none⟩ hgv (.string ⟨#[]⟩)
   have hfl:(Jk (A++(Q++D))).length=CS.length:=by rw[Jw,hCE,List.length_map]
   have hK2:K2=(A++(Q++D)).map fun x=>x.2.b:=by
    obtain⟨h1,h2,-⟩:=HE.out
    rw[HX7.out.2,HX.out.2.2.1,HX.out.2.1,h2,h1,(JbH (fun x:Chd×Vt=>x.2.b) A D (c,t)).1,(JbH (fun x:Chd×Vt=>x.2.b) A D (c,t)).2,List.map_append,List.map_append]
   have hfb:(Jk (A++(Q++D))).map (fun x=>x.2.b)=K2:=by
    rw[hK2]
    cases A++(Q++D)<;>rfl
   have hK2l:K2.length=CS.length:=by rw[<-hfb,List.length_map,hfl]
   have hrow:=Ji1 HP9.out.rowC hC0
   have hkids:(w9.setCell ⟨g,0,none⟩ (.string ⟨#[]⟩)).ownsRow 0 97 1 (.slice gb K2.length gd) K2.length (cellsVx K2):=ownsRow_setCell_other (a:=⟨g,0,none⟩) HP9.out.kids (fun e=>by
    obtain⟨cur,hc⟩:=Jt HP9.out.kids g e
    obtain⟨cur',hc'⟩:=Jt HP9.out.rowC g rfl
    exact absurd (hc.one hc').1 (by decide)) _
   have hSo:=(HM.out.lt v.b HM.out.head).1
   have hus9:=(HPT.out.2.parts.2).keep hK9 fun b e=>by rw[show b=v.b from e];exact hSo.str
   refine bodyPost_end (v:=.tuple #[]) (by simp[results,Tryz.results100,go_sem]) rfl ⟨rfl,hK9,hl,pa,pg,ps,some ⟨g,0,none⟩,gc,a2,x2,gb,gd,?_,?_,?_,?_⟩
   ·show Jq _ v.b v.kn.isSome pa pg ps true _ (.slice _ (Jk (A++(Q++D))).length gc) _ (.slice gb (Jk (A++(Q++D))).length gd)
    rw[hfl]
    rw[hK2l] at hV9
    exact hV9
   ·exact HPT.out.1
   ·show JA _ (.agg #[.slice _ (Jk (A++(Q++D))).length gc,.slice a2 v.us.length x2]) ((Jk (A++(Q++D))).map Prod.fst) v.us
    rw[hfl,JbE,<-hCE]
    have h1:=(SlC.of_own (n:=CS.length) (l:=Xc CS) hrow).2
    exact JA.mk' h1 hus9
   ·show Xu _ (.slice gb (Jk (A++(Q++D))).length gd) ((Jk (A++(Q++D))).map fun x=>x.2.b)
    rw[hfl,hfb,<-hK2l]
    exact hkids
open Go.RowKit
attribute [local go_sem ↓] Go.wp_at_zero Go.wp_at_succ
theorem Jd6 (l:List Ent) (n:Nat) (hn:0<n):∀k,k<=n->(List.range k).flatMap (Yy l n)=l.take (JW l.length n k)
 |0,_=>by simp[Jd7]
 |k+1,h=>by
  rw[List.range_succ,List.flatMap_append,Jd6 l n hn k (by omega)]
  simp only[List.flatMap_cons,List.flatMap_nil,List.append_nil]
  unfold Yy
  have h1:JW l.length n k<=JW l.length n (k+1):=Jd9 _ _ _ _ (by omega)
  have:=List.take_append_drop (JW l.length n k) (l.take (JW l.length n (k+1)))
  rw[List.take_take,Nat.min_eq_left h1] at this
  exact this
theorem Jcz {len L:Nat} (hL:3<=L) (h:L<len):2<=J6 len L/\2*J6 len L<=len/\len<=J6 len L*L:=by
 unfold J6
 rw[if_neg (by omega)]
 have h1:(len-1)/L*L<=len-1:=Nat.div_mul_le_self _ _
 have h2:len-1<((len-1)/L+1)*L:=by
  have:=Nat.lt_div_mul_add (a:=len-1) (b:=L) (by omega)
  rw[Nat.add_mul,Nat.one_mul]
  exact this
 have h3:1<=(len-1)/L:=Nat.div_pos (by omega) (by omega)
 have h4:(len-1)/L*3<=(len-1)/L*L:=Nat.mul_le_mul_left _ hL
 refine⟨by omega,by omega,by omega⟩
theorem JaV {len L:Nat} (hL:3<=L) (h:len<=L):J6 len L=1:=by
 unfold J6
 split
 ·rfl
 ·rw[Nat.div_eq_of_lt (by omega)]
theorem JcA {l:List Ent} {L:Nat} (hL:3<=L) (h:L<l.length) {k:Nat} (hk:k<J6 l.length L):2<=(Yy l (J6 l.length L) k).length/\(Yy l (J6 l.length L) k).length<=L:=by
 obtain⟨h1,h2,h3⟩:=Jcz hL h
 rw[Jfh _ _ _ (by omega) hk]
 generalize hN:J6 l.length L=N at*
 have hm:=Nat.div_add_mod l.length N
 have hlt:=Nat.mod_lt l.length (show 0<N by omega)
 have h4:2<=l.length/N:=(Nat.le_div_iff_mul_le (by omega)).2 h2
 have h5:N*(l.length/N)<=N*L:=by omega
 have h6:l.length/N<=L:=Nat.le_of_mul_le_mul_left h5 (by omega)
 refine⟨by omega,?_⟩
 split
 ·rename_i hlt2
  rcases Nat.lt_or_ge (l.length/N) L with h7|h7
  ·omega
  ·have e:l.length/N=L:=by omega
   rw[e] at hm
   omega
 ·omega
def Jef (low:List UInt8) (l:List Ent) (n k:Nat):List UInt8:=if k=0 then low else((Yy l n k)[0]?.map Ent.key).getD []
structure Jf7 (w:World) (t:Vt):Prop where
 ex:∃a c B,Jq w t.b false 0 0 0 true (.slice a t.es.length c) (.slice none 0 0) (.slice none 0 0) (.slice none 0 0)/\w.ownsRow B 73 2 (.slice a t.es.length c) t.es.length (cellsE t.es)
theorem Jf7.on {w w':World} {t:Vt} (h:Jf7 w t) (hb:Below w.heap.size w w'):Jf7 w' t:=by
 obtain⟨a,c,B,h1,h2⟩:=h
 exact⟨a,c,B,h1.on hb,Ji h2 hb⟩
theorem Jf7.grown {w w':World} {t:Vt} (h:Jf7 w t) {B:Nat} {E:TypeId} {k:Nat} {v:Value} {n:Nat} {xs:List Value} (ho:w.ownsRow B E k v n xs) (hg:w.grownBy w' v.ownBlock) (h1:E≠108) (h2:E≠73):Jf7 w' t:=by
 obtain⟨a,c,B',h3,h4⟩:=h
 exact⟨a,c,B',⟨h3.row.kept hg fun e=>h3.noRow ho h1 e.symm⟩,h4.kept hg (Xl h4 ho fun e=>h2 e.symm)⟩
theorem Jf7.tree {w:World} {t:Vt} (h:Jf7 w t) (hm:t.mem=true) (hk:t.kn=none) (hl:t.ld=true):Mem w 0 t:=by
 obtain⟨a,c,B,h1,h2⟩:=h
 exact⟨hm,Or.inl ⟨hl,0,0,0,a,c,by rw[hk];exact h1,fun p hp=>(by rw[hk] at hp;cases hp),Zq.of_own h2⟩⟩
theorem ZL.grown {B:Nat} {v:Value} {ls:Nat->List Ent} {n:Nat} {w w':World} (h:ZL B v ls n w) {B':Nat} {E:TypeId} {k:Nat} {u:Value} {m:Nat} {xs:List Value} (ho:w.ownsRow B' E k u m xs) (hg:w.grownBy w' u.ownBlock) (h1:E≠99) (h2:E≠73):ZL B v ls n w':=by
 obtain⟨vs,h3,h4⟩:=h
 refine⟨vs,h3.kept hg (Xl h3 ho fun e=>h1 e.symm),fun j hj=> ?_⟩
 obtain⟨x,hx,a,c,B2,e,h5⟩:=h4 j hj
 exact⟨x,hx,a,c,B2,e,h5.kept hg (Xl h5 ho fun e=>h2 e.symm)⟩
structure Jj4 (w0:World) (es:List Ent) (n:Nat) (low:List UInt8) (Q:List (Chd×Vt)) (a8 a9:Value) (w:World):Prop where
 keep:Below w0.heap.size w0 w
 rowK:w.ownsRow w0.heap.size 97 1 a8 Q.length (cellsVx (Q.map fun x=>x.2.b))
 lt:∀x∈Q,x.2.b<w.heap.size
 rowL:w.ownsRow w0.heap.size 9 1 a9 Q.length ((Q.map lw).map fun s=>.string (S s))
 mem:∀x∈Q,Jf7 w x.2/\x.2.mem=true/\x.2.kn=none/\x.2.ld=true/\x.2.us=[]/\x.2.ch=[]/\w0.heap.size<=x.2.b/\x.1=⟨lw x,0,0,0⟩
 nodup:(Q.map fun x=>x.2.b).Nodup
 es:∀i x,Q[i]? =some x->x.2.es=Yy es n i/\lw x=Jef low es n i
theorem Jj4.on {w0 w w':World} {es:List Ent} {n:Nat} {low:List UInt8} {Q:List (Chd×Vt)} {a8 a9:Value} (h:Jj4 w0 es n low Q a8 a9 w) (hb:Below w.heap.size w w'):Jj4 w0 es n low Q a8 a9 w':=
 ⟨h.keep.trans (hb.mono h.keep.size),Ji h.rowK hb,fun x hx=>Nat.lt_of_lt_of_le (h.lt x hx) hb.size,Ji h.rowL hb,fun x hx=>⟨(h.mem x hx).1.on hb,(h.mem x hx).2⟩,h.nodup,h.es⟩
theorem Jj4.all {w0 w:World} {es:List Ent} {L:Nat} {low:List UInt8} {Q:List (Chd×Vt)} {a8 a9:Value} (h:Jj4 w0 es (J6 es.length L) low Q a8 a9 w) (hq:Q.length=J6 es.length L) (hL:3<=L) (hl:L<es.length):Xf L low es Q:=by
 obtain⟨h1,h2,h3⟩:=Jcz hL hl
 refine⟨?_,by omega,?_,fun x hx=>(h.mem x hx).2.2.2.2.2.2.2,fun x hx=> ?_,fun x hx=> ?_,fun x hx=> ?_⟩
 ·have hf:=Jd6 es (J6 es.length L) (by omega) _ (Nat.le_refl _)
  rw[Jfi _ _ (by omega),List.take_length] at hf
  rw[<-hf]
  have:Q.map (fun x=>x.2.es)=(List.range (J6 es.length L)).map (Yy es (J6 es.length L)):=by
   apply List.ext_getElem?
   intro i
   rw[List.getElem?_map,List.getElem?_map]
   by_cases hi:i<Q.length
   ·rw[List.getElem?_eq_getElem hi,List.getElem?_range (by omega)]
    exact congrArg some (h.es i _ (List.getElem?_eq_getElem hi)).1
   ·rw[List.getElem?_eq_none (by omega),List.getElem?_eq_none (by rw[List.length_range];omega)]
    rfl
  rw[List.flatMap_def,List.flatMap_def,this]
 ·cases Q with
  |nil=>simp at hq;omega
  |cons x Q=>exact(h.es 0 x rfl).2
 ·obtain⟨-,g1,g2,g3,g4,g5,-⟩:=h.mem x hx
  exact⟨g4,g5,g1,g3,g2⟩
 ·obtain⟨i,hi,e⟩:=List.getElem_of_mem hx
  rw[List.getElem_tail] at e
  rw[List.length_tail] at hi
  have h4:=h.es (i+1) x (by rw[List.getElem?_eq_getElem (by omega),e])
  have h5:=JcA hL hl (k:=i+1) (by omega)
  refine⟨(Yy es (J6 es.length L) (i+1))[0]'(by omega),?_,?_⟩
  ·rw[h4.1,List.getElem?_eq_getElem (by omega)]
  ·rw[h4.2,Jef,if_neg (by omega),List.getElem?_eq_getElem (by omega)]
   rfl
 ·obtain⟨i,hi,e⟩:=List.getElem_of_mem hx
  have h4:=h.es i x (by rw[List.getElem?_eq_getElem hi,e])
  rw[h4.1]
  exact JcA hL hl (by omega)
theorem JpJ:(Tryz.prog.info? 9).map (fun i=>(i.zero,i.size,i.bytes))=some (some (.string ByteArray.empty),1,16):=by kernel_rfl
theorem Jn1 {K:Kx} {root h:Nat} {T:Tx} {v:Vt} (low:List UInt8) (w:World) (c:CAt w K root h T) (hm:Mem w 0 v) (hl:v.ld=true) (hp:pot 0 v<=1000) (hL:3<=K.L) (hL2:K.L<=1000):
  Calls Tryz.prog 70 #[.pointer (some ⟨K.tb,0,none⟩),.pointer (some ⟨v.b,0,none⟩),.string (S low)] w fun e w'=>∃Q kv lv,e=.returned (.tuple #[kv,lv])/\Jj4 w v.es (J6 v.es.length K.L) low Q kv lv w'/\Q.length=J6 v.es.length K.L:=by
 obtain⟨-,pa,pg,ps,a,x,hv,-,hb⟩:=hm.leaf hl
 have hes:=Jas hp
 have htm:(Jcu (K.L:Int) 1).toNat=K.L:=by unfold Jcu;split<;>omega
 have hnp:=JaW v.es.length K.L
 have hnl:=JaA v.es.length K.L
 have hbig:∀k,0<k->k<J6 v.es.length K.L->0<(Yy v.es (J6 v.es.length K.L) k).length:=fun k h0 hk=>by
  by_cases hq:K.L<v.es.length
  ·have:=(JcA hL hq hk).1;omega
  ·rw[JaV hL (by omega)] at hk;omega
 have HPT:=Lib.hid (fun w1 (hb1:Below w.heap.size w w1)=>JmK (.agg #[.slice a v.es.length x]) v.es (K.L:Int) w1 (hb.kept hb1 (Nat.le_refl _)) (by omega) (by omega))
 rw[htm] at HPT
 obtain⟨i0,hi,hz0,hz1,hz2⟩:=info_parts JfA
 obtain⟨i1,hi1,hy0,hy1,hy2⟩:=info_parts JpJ
 generalize hN:J6 v.es.length K.L=N at*
 have HN:=Lib.hid (And.intro hN hbig)
 have c5:=hv.c5
 have t2:=c.tr.c2
 clear hN hbig hb htm
 go_enter Tryz.func70,Tryz.ntmps70
 go_upto_region 3 with(fail)
 have hdr:Below w.heap.size w w.drew:=Jb (Below.refl _ _)
 have HPT1:=Lib.hid (HPT.out w.drew hdr)
 have hsz:w.drew.heap.size=w.heap.size:=rfl
 rw[hsz] at HPT1
 clear hsz
 go_cut [21,22,23] from 12 to 23 (fun s21 s22 s23 wx=>∃ga gc,s21=.slice ga N gc/\s22=.int .i64 N/\s23=.int .i64 0/\Hid (ZL w.heap.size (.slice ga N gc) (Yy v.es N) N wx/\Below w.heap.size w wx))
 case first=>
  go_region_law (first|(go_simp;go_at_call 97;refine HPT1.out.mono ?_;rintro e w2 ⟨⟨v',rfl,hP⟩,hX⟩;obtain⟨ga,gc,rfl⟩:∃ga gc,v'=.slice ga N gc:=(by obtain⟨vs,h1,-⟩:=hP.form;exact Jm h1);have HP2:=Lib.hid (And.intro hP hX);clear hP hX))
  all_goals
   have HP3:=Lib.hid (And.intro HP2.out.1 (hdr.trans (HP2.out.2.mono (Nat.le_refl _))))
   go_wp2_with fail
   go_meet
   exact⟨ga,gc,rfl,rfl,rfl,HP3⟩
 case rest=>
 obtain⟨ga,gc,rfl,rfl,rfl,HP⟩:=hcut
 obtain⟨w2,hw2⟩:∃w2,w2=wc:=⟨_,rfl⟩
 subst hw2
 go_wp2_with fail
 go_loopw [2,8,9,23] (fun lwv s8 s9 i wr=>∃Q low',i=.int .i64 (Q.length:Nat)/\lwv=.string (S low')/\(Q=[]->low'=low)/\Q.length<=N/\Hid (Jj4 w v.es N low Q s8 s9 wr/\ZL w.heap.size (.slice ga N gc) (Yy v.es N) N wr)) (fun _ _ _ i _=>N- (intOf i).toNat)
 case atStart=>exact⟨[],low,rfl,rfl,fun _=>rfl,Nat.zero_le _,Lib.hid ⟨⟨HP.out.2,World.ownsRow_nil _ _ _ _,fun x hx=>by simp at hx,World.ownsRow_nil _ _ _ _,fun x hx=>by simp at hx,by simp,fun i x hx=>by simp at hx⟩,HP.out.1⟩⟩
 case round=>
  obtain⟨Q,low',rfl,rfl,hlow,hj,HR⟩:=hrel
  obtain⟨j,hjq⟩:∃j,j=Q.length:=⟨_,rfl⟩
  rw[<-hjq] at hj⊢
  obtain⟨a8,c8,rfl⟩:=Jm HR.out.1.rowK
  obtain⟨a9,c9,rfl⟩:=Jm HR.out.1.rowL
  rw[<-hjq] at HR⊢
  have hj0:(0:Int)<=(j:Int):=Int.natCast_nonneg _
  by_cases hjl:j<N
  ·have hj1:(j:Int)<(N:Int):=by omega
   obtain⟨vs,hvs,hvx⟩:=HR.out.2.form
   obtain⟨px,hpx,hpi⟩:=hvx j hjl
   obtain⟨pa',pc',Bp,rfl,hpb⟩:=hpi
   obtain⟨g,rfl,-,-,hgc⟩:=Yk hvs (by omega)
   have r0:=hgc j _ hpx
   have HPB:=Lib.hid hpb
   have HJ:=Lib.hid (And.intro hjq hlow)
   clear hvs hvx hpx hgc hpb hjq hlow
   obtain⟨PE,hPE⟩:∃PE,PE=Yy v.es N j:=⟨_,rfl⟩
   rw[<-hPE] at HPB r0
   have HPE:=Lib.hid hPE
   clear hPE
   go_upto_region 6 with(fail)
   obtain⟨W1,hW1⟩:∃W1,W1=wr.alloc (.cells #[.slice pa' PE.length pc'] 99):=⟨_,rfl⟩
   have hX1:Below wr.heap.size wr W1:=by rw[hW1];go_grown
   have b0:W1.cell? ⟨wr.heap.size,0,none⟩=some (.slice pa' PE.length pc'):=by rw[hW1,World.cell?_alloc_at _ _ _ _ rfl];rfl
   have HB1:=Lib.hid (Ji HPB.out hX1)
   have HR1:=Lib.hid (And.intro (HR.out.1.on hX1) (HR.out.2.on hX1))
   rw[<-hW1]
   clear hW1 hX1 r0
   go_upto_if 29 with(fail)
   go_cut [2] from 28 to 34 (fun s2 wx=>s2=.string (S (Jef low v.es N j))/\Below W1.heap.size W1 wx)
   case first=>
    by_cases h0:j=0
    ·have h1:¬0<j:=by omega
     have hq:Q=[]:=List.eq_nil_of_length_eq_zero (by rw[<-HJ.out.1];exact h0)
     have e0:low'=Jef low v.es N j:=by rw[HJ.out.2 hq,Jef,if_pos h0]
     go_wp2_with fail
     go_meet
     exact⟨by rw[e0],Below.refl _ _⟩
    ·have h1:0<j:=by omega
     have hpl:0<PE.length:=by rw[HPE.out];exact HN.out.2 j h1 hjl
     have hpl2:PE.length<=1000000:=by
      rw[HPE.out]
      unfold Yy
      rw[List.length_drop,List.length_take]
      omega
     have HLS:=Lib.hid (Jn8 (.agg #[.slice pa' PE.length pc']) PE W1 (Zq.of_own HB1.out) hpl2)
     have hpl1:(0:Int)<(PE.length:Int):=by omega
     go_wp2_with fail
     refine HLS.out.mono ?_
     rintro e w3 ⟨⟨v',rfl,hown⟩,hX3⟩
     obtain⟨ga3,gc3,rfl⟩:=Jm hown
     obtain⟨g3,rfl,-,-,hc3⟩:=Yk hown hpl
     have e1:Jef low v.es N j=(PE[0]'hpl).key:=by
      rw[Jef,if_neg (by omega),<-HPE.out,List.getElem?_eq_getElem hpl]
      rfl
     have q0:w3.cell? ⟨g3,0,none⟩=some (.string (S (PE[0]'hpl).key)):=hc3 0 _ (ZR PE 0 hpl 0 _ rfl)
     generalize(PE[0]'hpl).key=kk at*
     have E1:=Lib.hid e1
     clear hown hc3 e1
     go_wp2_with fail
     go_meet
     exact⟨by rw[E1.out],hX3⟩
   case rest=>
   obtain⟨rfl,hX5⟩:=hcut
   obtain⟨w5,hw5⟩:∃w5,w5=wc:=⟨_,rfl⟩
   subst hw5
   have b0':=Ja hX5 b0
   have HB5:=Lib.hid (Ji HB1.out hX5)
   have HR5:=Lib.hid (And.intro (HR1.out.1.on hX5) (HR1.out.2.on hX5))
   clear hX5 b0 HB1 HR1 HR HPB
   obtain⟨lj,hlj⟩:∃lj,lj=Jef low v.es N j:=⟨_,rfl⟩
   rw[<-hlj]
   have HLJ:=Lib.hid hlj
   clear hlj
   have hK5:w5.ownsRow w.heap.size 97 1 (.slice a8 j c8) j (cellsVx (Q.map fun x=>x.2.b)):=by
    have h1:=HR5.out.1.rowK
    rw[<-HJ.out.1] at h1
    exact h1
   have hL5:w5.ownsRow w.heap.size 9 1 (.slice a9 j c9) j ((Q.map lw).map fun s=>.string (S s)):=by
    have h1:=HR5.out.1.rowL
    rw[<-HJ.out.1] at h1
    exact h1
   have hws:=HR5.out.1.keep.size
   have hLK:=Xl hL5 hK5 (by decide)
   go_upto_region 8 with(fail)
   go_wp2_with (at_builtin;first
    |(refine wpList_append_own_at _ rfl _ _ 106 rfl w.heap.size 97 i0 (.pointer none) 1 8 Tryz.underlying106 hi hz0 hz1 hz2 rfl (by decide) _ j _ rfl ((hK5.alloc _).alloc _) ⟨_,0,none⟩ 1 1 [vp w5.heap.size] rfl rfl (fun q u hu=>XF _ _ (by simp) _ _ q u hu) (fun u hu=>by rw[List.mem_singleton] at hu;rw[hu];rfl) (by unfold maxLen;omega) (by omega) (by simp;omega) ?_;intro v6 w6 hown6 hgrow6 hnil6 hat6;obtain⟨a6,c6,rfl⟩:=Jm hown6)
    |(have hq6:=((hL5.alloc _).alloc _).kept hgrow6 hLK;refine wpList_append_own_at _ rfl _ _ 152 rfl w.heap.size 9 i1 (.string ByteArray.empty) 1 16 Tryz.underlying152 hi1 hy0 hy1 hy2 rfl (by decide) _ j _ rfl (hq6.alloc _) ⟨_,0,none⟩ 1 1 [.string (S lj)] rfl rfl (fun q u hu=>XF _ _ (by simp) _ _ q u hu) (fun u hu=>by rw[List.mem_singleton] at hu;rw[hu];rfl) (by unfold maxLen;omega) (by omega) (by have:=hgrow6.size;simp at this⊢;omega) ?_;intro v7 w7 hown7 hgrow7 hnil7 hat7;obtain⟨a7,c7,rfl⟩:=Jm hown7))
   have hKP:=HR5.out.1
   have hP5:=HR5.out.2
   have hlt5:∀X Y,w5.heap.size<((w5.alloc X).alloc Y).heap.size:=fun X Y=>by simp;omega
   have hV5:∀Y,Jq ((w5.alloc (.cells #[.bool false,.int .i64 0,.int .u64 0,.int .u32 0,.bool true,.slice pa' PE.length pc',.slice none 0 0,.slice none 0 0,.slice none 0 0] 108)).alloc Y) w5.heap.size false 0 0 0 true (.slice pa' PE.length pc') (.slice none 0 0) (.slice none 0 0) (.slice none 0 0):=fun Y=>⟨(Jc.new w5 _ (YH false 0 0 0 true (.slice pa' PE.length pc') (.slice none 0 0) (.slice none 0 0) (.slice none 0 0))).alloc Y⟩
   have hB5:∀X Y,Below w5.heap.size w5 ((w5.alloc X).alloc Y):=fun X Y=>((Below.refl _ _).alloc (Nat.le_refl _) _).alloc (by simp) _
   obtain⟨nt,hnt⟩:∃nt:Chd×Vt,nt=(⟨lj,0,0,0⟩,⟨w5.heap.size,true,true,none,PE,[],[]⟩):=⟨_,rfl⟩
   have hPQ:Jj4 w v.es N low (Q++[nt]) (.slice a6 (j+1) c6) (.slice a7 (j+1) c7) w7/\ZL w.heap.size (.slice (some ⟨g,0,none⟩) N gc) (Yy v.es N) N w7:=by
    have k2:=Ju (hKP.keep.trans ((hB5 _ _).mono hws)) hgrow6 (fun k e=>(hK5.lt k e).1) (by simp;omega)
    have k3:=k2.alloc k2.size (.cells #[.string (S lj)] 9)
    have k4:=Ju k3 hgrow7 (fun k e=>(hL5.lt k e).1) k3.size
    have hk6:=(hK5.alloc (.cells #[.bool false,.int .i64 0,.int .u64 0,.int .u32 0,.bool true,.slice pa' PE.length pc',.slice none 0 0,.slice none 0 0,.slice none 0 0] 108)).alloc (.cells #[.pointer (some ⟨w5.heap.size,0,none⟩)] 97)
    replace hq6:w6.ownsRow w.heap.size 9 1 (.slice a9 j c9) j ((Q.map lw).map fun s=>.string (S s)):=hq6
    replace hgrow7:(w6.alloc (.cells #[.string (S lj)] 9)).grownBy w7 (Value.slice a9 j c9).ownBlock:=hgrow7
    have hz:∀W:World,Below W.heap.size W (W.alloc (.cells #[.string (S lj)] 9)):=fun W=>(Below.refl _ _).alloc (Nat.le_refl _) _
    have hs6:=hgrow6.size
    have hs7:=hgrow7.size
    have hLf:∀t:Vt,Jf7 ((w5.alloc (.cells #[.bool false,.int .i64 0,.int .u64 0,.int .u32 0,.bool true,.slice pa' PE.length pc',.slice none 0 0,.slice none 0 0,.slice none 0 0] 108)).alloc (.cells #[.pointer (some ⟨w5.heap.size,0,none⟩)] 97)) t->Jf7 w7 t:=fun t ht=>((ht.grown hk6 hgrow6 (by decide) (by decide)).on (hz _)).grown (hq6.alloc _) hgrow7 (by decide) (by decide)
    have hnb:∀x∈Q,x.2.b≠w5.heap.size:=fun x hx e=>by have:=hKP.lt x hx;omega
    have hsz:w5.heap.size<w7.heap.size:=by
     simp only[World.size_alloc] at hs6 hs7
     omega
    refine⟨⟨k4,?_,fun x hx=> ?_,?_,fun x hx=> ?_,?_,fun i x hx=> ?_⟩,?_⟩
    ·rw[List.length_append,<-HJ.out.1,List.map_append,X7,hnt]
     exact(hown6.alloc _).kept hgrow7 (Xl hown6 hq6 (by decide))
    ·rcases List.mem_append.1 hx with hx|hx
     ·have:=hKP.lt x hx;omega
     ·rw[List.mem_singleton] at hx
      rw[hx,hnt]
      exact hsz
    ·rw[List.length_append,<-HJ.out.1,List.map_append,List.map_append,hnt]
     exact hown7
    ·rcases List.mem_append.1 hx with hx|hx
     ·exact⟨hLf _ ((hKP.mem x hx).1.on (hB5 _ _)),(hKP.mem x hx).2⟩
     ·rw[List.mem_singleton] at hx
      rw[hx,hnt]
      exact⟨hLf _ ⟨pa',pc',Bp,hV5 _,Ji HB5.out (hB5 _ _)⟩,rfl,rfl,rfl,rfl,rfl,hws,rfl⟩
    ·rw[List.map_append,List.nodup_append]
     refine⟨hKP.nodup,by simp,fun a ha b hb e=> ?_⟩
     obtain⟨x,hx,rfl⟩:=List.mem_map.1 ha
     rw[List.map_cons,List.map_nil,List.mem_singleton,hnt] at hb
     exact hnb x hx (e.trans hb)
    ·by_cases hi:i<Q.length
     ·rw[List.getElem?_append_left hi] at hx
      exact hKP.es i x hx
     ·rw[List.getElem?_append_right (by omega)] at hx
      have:i-Q.length=0:=by
       rcases Nat.eq_zero_or_pos (i-Q.length) with h0|h0
       ·exact h0
       ·rw[List.getElem?_eq_none (by simp;omega)] at hx
        cases hx
      rw[this] at hx
      simp only[List.getElem?_cons_zero,Option.some.injEq] at hx
      have hij:i=j:=by rw[HJ.out.1];omega
      rw[<-hx,hnt,hij]
      exact⟨HPE.out,HLJ.out⟩
    ·exact(((hP5.on (hB5 _ _)).grown hk6 hgrow6 (by decide) (by decide)).on (hz _)).grown (hq6.alloc _) hgrow7 (by decide) (by decide)
   have HPQ:=Lib.hid hPQ
   have hql:(Q++[nt]).length=j+1:=by rw[List.length_append,<-HJ.out.1];rfl
   refine⟨⟨Q++[nt],lj,by rw[hql];go_num,rfl,fun e=>absurd e (by simp),by rw[hql];omega,HPQ⟩,?_⟩
   simp[intOf]
   omega
  ·obtain rfl:j=N:=by omega
   go_wp2_with fail
   go_returns
   exact⟨Q,_,_,rfl,HR.out.1,hjq.symm⟩
open Go.RowKit
attribute [local go_sem ↓] Go.wp_at_zero Go.wp_at_succ
structure Jqd (W:World) (m n2:Nat) (KA KB:List Nat) (b1 b2 b3 b4:Option Addr) (y1 y2 y3 y4 n1' n2' n3' n4':Nat) (ba bb:Nat) (w:World):Prop where
 keep:Below W.heap.size W w
 ex:∃g4 k4 g6 k6,Jq w ba false 0 0 0 true (.slice none 0 0) (.slice b1 n1' y1) (.slice b2 n2' y2) (.slice g4 m k4)/\Jq w bb false 0 0 0 true (.slice none 0 0) (.slice b3 n3' y3) (.slice b4 n4' y4) (.slice g6 n2 k6)/\w.ownsRow 0 97 1 (.slice g4 m k4) m (cellsVx KA)/\w.ownsRow 0 97 1 (.slice g6 n2 k6) n2 (cellsVx KB)
 la:W.heap.size<=ba
 lb:W.heap.size<=bb
 ne:ba≠bb
theorem JlS {F n:Nat} {v:Vt} {lo hi:List UInt8} (w:World) (hm:Mem w (n+1) v) (hl:v.ld=true) (ho:Ok (n+1) lo hi v) (hp:pot (n+1) v<=900) (hF:3<=F) (hc:F<v.ch.length):
  Calls Tryz.prog 72 #[.pointer (some ⟨v.b,0,none⟩)] w fun e w'=>∃X y Y ba bb,v.ch=X++y::Y/\2<=X.length/\1<=Y.length/\e=.returned (.tuple #[.pointer (some ⟨ba,0,none⟩),.pointer (some ⟨bb,0,none⟩),.string (S (lw y))])/\Zh w' ⟨ba,true,true,none,[],JH v.us [] (lw y),X⟩/\Zh w' ⟨bb,true,true,none,[],Ya v.us [] (lw y),Jk (y::Y)⟩/\w.heap.size<=ba/\w.heap.size<=bb/\ba≠bb/\Below w.heap.size w w':=by
 obtain⟨⟨-,pa,pg,ps,a1,x1,a2,x2,a3,x3,hv,-,hn,hk⟩,-⟩:=hm.node hl
 have hsz:=Jcy hp
 obtain⟨m,hmm⟩:∃m,m=(v.ch.length+1)/2:=⟨_,rfl⟩
 have hcl:v.cs.length=v.ch.length:=List.length_map _
 have HH:=Lib.hid (Jjs _ v.cs v.us w hn (by omega) (by omega) (by omega) ho.usr m (by rw[hcl];exact hmm.symm))
 have HV:=Lib.hid hv
 have HK:=Lib.hid hk
 obtain⟨y,Y,hd⟩:∃y Y,v.ch.drop m=y::Y:=by
  cases hh:v.ch.drop m with
  |nil=>have:=congrArg List.length hh;rw[List.length_drop] at this;simp at this;omega
  |cons y Y=>exact⟨y,Y,rfl⟩
 have hlow:Y8 v.cs m=lw y:=by
  have:v.ch[m]? =some y:=by
   have:=congrArg (fun l=>l[0]?) hd
   simpa[List.getElem?_drop] using this
  unfold Y8
  rw[List.getElem?_map,this]
  rfl
 rw[hlow] at HH
 have HD:=Lib.hid (And.intro hd (And.intro hmm hc))
 have c6:=hv.c6
 have c7:=hv.c7
 have c8:=hv.c8
 clear hv hn hk hd hmm hlow hcl ho hm hp
 go_enter Tryz.func72,Tryz.ntmps72
 go_wp2_with fail
 refine HH.out.mono ?_
 rintro e w1 ⟨⟨va,vb,rfl,hna,hnb⟩,hX1⟩
 obtain⟨b1,b2,y1,y2,rfl,ha1,ha2⟩:=hna
 obtain⟨b3,b4,y3,y4,rfl,hb1,hb2⟩:=hnb
 have HDL:=Lib.hid (show v.ch.length=m+(Y.length+1) from by
  have h1:=congrArg List.length HD.out.1
  rw[List.length_drop] at h1
  simp at h1
  have:=HD.out.2.1
  omega)
 have hcT:(v.cs.take m).length=m:=by rw[List.length_take,List.length_map];have:=HDL.out;omega
 rw[hcT] at ha1⊢
 obtain⟨CB,hCB⟩:∃CB,CB=Xc (v.cs.drop m):=⟨_,rfl⟩
 obtain⟨UA,hUA⟩:∃UA,UA=JH v.us [] (lw y):=⟨_,rfl⟩
 obtain⟨UB,hUB⟩:∃UB,UB=Ya v.us [] (lw y):=⟨_,rfl⟩
 rw[<-hUA] at ha2⊢
 rw[<-hCB] at hb1⊢
 rw[<-hUB] at hb2⊢
 obtain⟨KS,hKS⟩:∃KS,KS=(v.ch.map fun x=>x.2.b):=⟨_,rfl⟩
 have hKL:KS.length=v.ch.length:=by rw[hKS,List.length_map]
 have hsv:SlV w (.slice a3 v.ch.length x3) KS:=by
  have h1:=HK.out
  unfold Xu at h1
  rw[<-hKS,hKL] at h1
  have h2:=(SlV.of_own h1).2
  exact h2
 obtain⟨ao,xo,eo,hs1,hs2,hs3,hs4⟩:=hsv
 simp only[Value.slice.injEq] at eo
 obtain⟨rfl,-,rfl⟩:=eo
 have hm1:m<=v.ch.length:=by have:=HDL.out;omega
 obtain⟨hr1,hp1⟩:=Jqk a3 v.ch.length x3 m KS w hs1 hKL (by omega) hs3 hm1 hs4
 obtain⟨A2,hr2,hp2⟩:=Joh a3 v.ch.length x3 m KS w hs1 hKL (by omega) hs3 hm1 hs4
 obtain⟨n2,hn2⟩:∃n2,n2=v.ch.length-m:=⟨_,rfl⟩
 rw[<-hn2] at hr2 hp2
 have HE:=Lib.hid (And.intro hCB (And.intro hUA (And.intro hUB (And.intro hKS hn2))))
 have HN:=Lib.hid (And.intro ha1 (And.intro ha2 (And.intro hb1 hb2)))
 have HP1:=Lib.hid hp1
 have HP2:=Lib.hid hp2
 have hkl2:KS.length<=1000:=by omega
 have hTL:(KS.take m).length=m:=by rw[List.length_take];omega
 have hTD:(KS.drop m).length=n2:=by rw[List.length_drop,hKL,hn2]
 clear ha1 ha2 hb1 hb2 hcT hCB hUA hUB hKS hKL hs1 hs2 hs3 hs4 hm1 hn2 hp1 hp2 hc
 obtain⟨W,hW⟩:∃W,W=(w1.alloc (.cells #[.slice b1 m y1,.slice b2 UA.length y2] 105)).alloc (.cells #[.slice b3 CB.length y3,.slice b4 UB.length y4] 105):=⟨_,rfl⟩
 have hXW:Below w1.heap.size w1 W:=by rw[hW];exact((Below.refl _ _).alloc (Nat.le_refl _) _).alloc (by simp) _
 have p0:W.cell? ⟨w1.heap.size,0,none⟩=some (.slice b1 m y1):=by rw[hW,World.cell?_alloc_past _ _ _ (by simp),World.cell?_alloc_at _ _ _ _ rfl];rfl
 have p1:W.cell? ⟨w1.heap.size,1,none⟩=some (.slice b2 UA.length y2):=by rw[hW,World.cell?_alloc_past _ _ _ (by simp),World.cell?_alloc_at _ _ _ _ rfl];rfl
 have q0:W.cell? ⟨w1.heap.size+1,0,none⟩=some (.slice b3 CB.length y3):=by rw[hW,World.cell?_alloc_at _ _ _ _ (by simp)];rfl
 have q1:W.cell? ⟨w1.heap.size+1,1,none⟩=some (.slice b4 UB.length y4):=by rw[hW,World.cell?_alloc_at _ _ _ _ (by simp)];rfl
 have hXa:Below w.heap.size w W:=hX1.trans (hXW.mono hX1.size)
 replace c8:=Ja hXa c8
 have HP1W:=Lib.hid (HP1.out.kept hXa (Nat.le_refl _))
 have HP2W:=Lib.hid (HP2.out.kept hXa (Nat.le_refl _))
 have HNW:=Lib.hid (show SlC W (.slice b1 m y1) (v.cs.take m)/\SlU W (.slice b2 UA.length y2) UA/\SlC W (.slice b3 CB.length y3) CB/\SlU W (.slice b4 UB.length y4) UB from⟨HN.out.1.kept hXW (Nat.le_refl _),HN.out.2.1.kept hXW (Nat.le_refl _),HN.out.2.2.1.kept hXW (Nat.le_refl _),HN.out.2.2.2.kept hXW (Nat.le_refl _)⟩)
 go_upto_region 3 with(fail)
 rw[<-hW]
 clear hW HN HP1 HP2 c6 c7
 have hdr:Below W.heap.size W W.drew:=Jb (Below.refl _ _)
 have hCL1:=Lib.hid (Jl0 _ _ W.drew (HP1W.out.kept hdr (Nat.le_refl _)) (by rw[List.length_take];omega))
 rw[hTL] at hCL1
 have hdl:∀w4,Below W.drew.heap.size W.drew w4->Below W.heap.size W w4:=fun w4 h=>hdr.trans (h.mono (Nat.le_refl _))
 have hCL2:=Lib.hid (fun(w5:World) (h:Below W.heap.size W w5)=>Jl0 _ _ w5 (HP2W.out.kept h (Nat.le_refl _)) (by rw[List.length_drop];omega))
 rw[hTD] at hCL2
 have past:∀ {w4:World} {p:Addr} {u:Value},w4.cell? p=some u->∀X,(w4.alloc X).cell? p=some u:=fun h X=>Jf X h
 clear hTL hTD
 go_cut [2,3,4] from 23 to 43 (fun s2 s3 s4 wx=>∃ba bb,s2=.pointer (some ⟨ba,0,none⟩)/\s3=.pointer (some ⟨bb,0,none⟩)/\s4=.string (S (lw y))/\Hid (Jqd W m n2 (KS.take m) (KS.drop m) b1 b2 b3 b4 y1 y2 y3 y4 m UA.length CB.length UB.length ba bb wx))
 case first=>
  have s0:(W.drew.cell? ⟨v.b,8,none⟩=some (.slice a3 v.ch.length x3)/\W.drew.cell? ⟨w1.heap.size,0,none⟩=some (.slice b1 m y1)/\W.drew.cell? ⟨w1.heap.size,1,none⟩=some (.slice b2 UA.length y2)/\W.drew.cell? ⟨w1.heap.size+1,0,none⟩=some (.slice b3 CB.length y3)/\W.drew.cell? ⟨w1.heap.size+1,1,none⟩=some (.slice b4 UB.length y4)):=⟨c8,p0,p1,q0,q1⟩
  have sB:∀ {w4:World},Below W.heap.size W w4->(w4.cell? ⟨v.b,8,none⟩=some (.slice a3 v.ch.length x3)/\w4.cell? ⟨w1.heap.size,0,none⟩=some (.slice b1 m y1)/\w4.cell? ⟨w1.heap.size,1,none⟩=some (.slice b2 UA.length y2)/\w4.cell? ⟨w1.heap.size+1,0,none⟩=some (.slice b3 CB.length y3)/\w4.cell? ⟨w1.heap.size+1,1,none⟩=some (.slice b4 UB.length y4)):=fun h=>⟨Ja h c8,Ja h p0,Ja h p1,Ja h q0,Ja h q1⟩
  have sA:∀ {w4:World} (X:Obj),(w4.cell? ⟨v.b,8,none⟩=some (.slice a3 v.ch.length x3)/\w4.cell? ⟨w1.heap.size,0,none⟩=some (.slice b1 m y1)/\w4.cell? ⟨w1.heap.size,1,none⟩=some (.slice b2 UA.length y2)/\w4.cell? ⟨w1.heap.size+1,0,none⟩=some (.slice b3 CB.length y3)/\w4.cell? ⟨w1.heap.size+1,1,none⟩=some (.slice b4 UB.length y4))->((w4.alloc X).cell? ⟨v.b,8,none⟩=some (.slice a3 v.ch.length x3)/\(w4.alloc X).cell? ⟨w1.heap.size,0,none⟩=some (.slice b1 m y1)/\(w4.alloc X).cell? ⟨w1.heap.size,1,none⟩=some (.slice b2 UA.length y2)/\(w4.alloc X).cell? ⟨w1.heap.size+1,0,none⟩=some (.slice b3 CB.length y3)/\(w4.alloc X).cell? ⟨w1.heap.size+1,1,none⟩=some (.slice b4 UB.length y4)):=fun X h=>⟨Jf X h.1,Jf X h.2.1,Jf X h.2.2.1,Jf X h.2.2.2.1,Jf X h.2.2.2.2⟩
  go_region_held3 (fun w'=>(w'.cell? ⟨v.b,8,none⟩=some (.slice a3 v.ch.length x3)/\w'.cell? ⟨w1.heap.size,0,none⟩=some (.slice b1 m y1)/\w'.cell? ⟨w1.heap.size,1,none⟩=some (.slice b2 UA.length y2)/\w'.cell? ⟨w1.heap.size+1,0,none⟩=some (.slice b3 CB.length y3)/\w'.cell? ⟨w1.heap.size+1,1,none⟩=some (.slice b4 UB.length y4)))
   (with_reducible first|exact s0|exact s4|exact sA _ s4|exact s6|exact sA _ s6|exact sA _ (sA _ s6)|exact sA _ (sA _ s4))
   ((go_simp;go_at_call 99;first
    |(with_reducible refine hCL1.out.mono ?_;rintro e w4 ⟨⟨v4,rfl,ho4⟩,hX4⟩;obtain⟨g4,k4,rfl⟩:=Jm ho4;have HO4:=Lib.hid (And.intro ho4 (hdl _ hX4));clear ho4 hX4;have s4:=sB HO4.out.2)
    |(with_reducible refine(hCL2.out w4 HO4.out.2).mono ?_;rintro e w6 ⟨⟨v6,rfl,ho6⟩,hX6⟩;obtain⟨g6,k6,rfl⟩:=Jm ho6;have HX6:=Lib.hid (HO4.out.2.trans (hX6.mono HO4.out.2.size));have HO6:=Lib.hid (And.intro ho6 hX6);clear ho6 hX6;have s6:=sB HX6.out)
    |(with_reducible refine(hCL2.out (World.alloc w4 (.cells #[.bool false,.int .i64 0,.int .u64 0,.int .u32 0,.bool true,.slice none 0 0,.slice b1 m y1,.slice b2 UA.length y2,.slice g4 m k4] 108)) (HO4.out.2.alloc HO4.out.2.size _)).mono ?_;rintro e w6 ⟨⟨v6,rfl,ho6⟩,hX6⟩;obtain⟨g6,k6,rfl⟩:=Jm ho6;have HX6:=Lib.hid ((HO4.out.2.alloc HO4.out.2.size (.cells #[.bool false,.int .i64 0,.int .u64 0,.int .u32 0,.bool true,.slice none 0 0,.slice b1 m y1,.slice b2 UA.length y2,.slice g4 m k4] 108)).trans (hX6.mono (by have:=HO4.out.2.size;simp;omega)));have HO6:=Lib.hid (And.intro ho6 hX6);clear ho6 hX6;have s6:=sB HX6.out)))
  ·obtain⟨ho4,hX4⟩:=HO4.out
   obtain⟨ho6,hX6⟩:=HO6.out
   have hz:=hX6.size
   have hz4:=hX4.size
   simp only[World.size_alloc] at hz
   have hA:∀(w:World) X,Below w.heap.size w (w.alloc X):=fun w X=>(Below.refl _ _).alloc (Nat.le_refl _) _
   have hp:Jqd W m n2 (KS.take m) (KS.drop m) b1 b2 b3 b4 y1 y2 y3 y4 m UA.length CB.length UB.length w4.heap.size w6.heap.size (w6.alloc (.cells #[.bool false,.int .i64 0,.int .u64 0,.int .u32 0,.bool true,.slice none 0 0,.slice b3 CB.length y3,.slice b4 UB.length y4,.slice g6 n2 k6] 108)):=
    ⟨HX6.out.alloc HX6.out.size _,⟨g4,k4,g6,k6,((Jq.mk (Jc.new w4 _ (YH false 0 0 0 true (.slice none 0 0) (.slice b1 m y1) (.slice b2 UA.length y2) (.slice g4 m k4)))).on hX6).on (hA _ _),⟨Jc.new w6 _ (YH false 0 0 0 true (.slice none 0 0) (.slice b3 CB.length y3) (.slice b4 UB.length y4) (.slice g6 n2 k6))⟩,JI (Ji (Ji (ho4.alloc _) hX6) (hA _ _)) (Nat.zero_le _),JI (ho6.alloc _) (Nat.zero_le _)⟩,hz4,by omega,by omega⟩
   have HP:=Lib.hid hp
   clear hp ho4 hX4 ho6 hX6 hz hz4 hA
   go_wp2_with fail
   go_meet
   exact⟨_,_,rfl,rfl,rfl,HP⟩
  ·obtain⟨ho4,hX4⟩:=HO4.out
   obtain⟨ho6,hX6⟩:=HO6.out
   have hz:=hX6.size
   have hz4:=hX4.size
   have hA:∀(w:World) X,Below w.heap.size w (w.alloc X):=fun w X=>(Below.refl _ _).alloc (Nat.le_refl _) _
   have hp:Jqd W m n2 (KS.take m) (KS.drop m) b1 b2 b3 b4 y1 y2 y3 y4 m UA.length CB.length UB.length w6.heap.size (w6.heap.size+1) ((w6.alloc (.cells #[.bool false,.int .i64 0,.int .u64 0,.int .u32 0,.bool true,.slice none 0 0,.slice b1 m y1,.slice b2 UA.length y2,.slice g4 m k4] 108)).alloc (.cells #[.bool false,.int .i64 0,.int .u64 0,.int .u32 0,.bool true,.slice none 0 0,.slice b3 CB.length y3,.slice b4 UB.length y4,.slice g6 n2 k6] 108)):=
    ⟨(HX6.out.alloc HX6.out.size _).alloc (by simp;omega) _,⟨g4,k4,g6,k6,(Jq.mk (Jc.new w6 _ (YH false 0 0 0 true (.slice none 0 0) (.slice b1 m y1) (.slice b2 UA.length y2) (.slice g4 m k4)))).on (hA _ _),⟨Jc.new' _ _ (YH false 0 0 0 true (.slice none 0 0) (.slice b3 CB.length y3) (.slice b4 UB.length y4) (.slice g6 n2 k6)) _ (by simp)⟩,JI (((Ji ho4 hX6).alloc _).alloc _) (Nat.zero_le _),JI ((ho6.alloc _).alloc _) (Nat.zero_le _)⟩,by omega,by omega,by omega⟩
   have HP:=Lib.hid hp
   clear hp ho4 hX4 ho6 hX6 hz hz4 hA
   go_wp2_with fail
   go_meet
   exact⟨_,_,rfl,rfl,rfl,HP⟩
  ·obtain⟨ho4,hX4⟩:=HO4.out
   obtain⟨ho6,hX6⟩:=HO6.out
   have hz:=hX6.size
   have hz4:=hX4.size
   have hA:∀(w:World) X,Below w.heap.size w (w.alloc X):=fun w X=>(Below.refl _ _).alloc (Nat.le_refl _) _
   have hp:Jqd W m n2 (KS.take m) (KS.drop m) b1 b2 b3 b4 y1 y2 y3 y4 m UA.length CB.length UB.length (w6.heap.size+1) w6.heap.size ((w6.alloc (.cells #[.bool false,.int .i64 0,.int .u64 0,.int .u32 0,.bool true,.slice none 0 0,.slice b3 CB.length y3,.slice b4 UB.length y4,.slice g6 n2 k6] 108)).alloc (.cells #[.bool false,.int .i64 0,.int .u64 0,.int .u32 0,.bool true,.slice none 0 0,.slice b1 m y1,.slice b2 UA.length y2,.slice g4 m k4] 108)):=
    ⟨(HX6.out.alloc HX6.out.size _).alloc (by simp;omega) _,⟨g4,k4,g6,k6,⟨Jc.new' _ _ (YH false 0 0 0 true (.slice none 0 0) (.slice b1 m y1) (.slice b2 UA.length y2) (.slice g4 m k4)) _ (by simp)⟩,(Jq.mk (Jc.new w6 _ (YH false 0 0 0 true (.slice none 0 0) (.slice b3 CB.length y3) (.slice b4 UB.length y4) (.slice g6 n2 k6)))).on (hA _ _),JI (((Ji ho4 hX6).alloc _).alloc _) (Nat.zero_le _),JI ((ho6.alloc _).alloc _) (Nat.zero_le _)⟩,by omega,by omega,by omega⟩
   have HP:=Lib.hid hp
   clear hp ho4 hX4 ho6 hX6 hz hz4 hA
   go_wp2_with fail
   go_meet
   exact⟨_,_,rfl,rfl,rfl,HP⟩
 case rest=>
 obtain⟨ba,bb,rfl,rfl,rfl,HP⟩:=hcut
 go_wp2_with fail
 go_returns
 obtain⟨hk,⟨g4,k4,g6,k6,hva,hvb,hra,hrb⟩,hla,hlb,hne⟩:=HP.out
 obtain⟨hsc1,hsu1,hsc2,hsu2⟩:=HNW.out
 obtain⟨eCB,eUA,eUB,eKS,en2⟩:=HE.out
 obtain⟨hd,hmm,hcF⟩:=HD.out
 have hdl:=HDL.out
 have hX:v.ch.take m++y::Y=v.ch:=by rw[<-hd];exact List.take_append_drop m v.ch
 have hXl:(v.ch.take m).length=m:=by rw[List.length_take];omega
 have hKA:(v.ch.take m).map (fun x=>x.2.b)=KS.take m:=by rw[eKS,List.map_take]
 have hKB:(y::Y).map (fun x=>x.2.b)=KS.drop m:=by rw[eKS,<-hd,List.map_drop]
 have hfB:(Jk (y::Y)).map (fun x=>x.2.b)=KS.drop m:=by rw[<-hKB];rfl
 have hcsB:(Jk (y::Y)).map Prod.fst=CB:=by rw[JbE,eCB,Vt.cs,<-List.map_drop,hd]
 have hcl:CB.length=Y.length+1:=by rw[<-hcsB,List.length_map];rfl
 have hbl:w.heap.size<=W.heap.size:=hXa.size
 refine⟨v.ch.take m,y,Y,ba,bb,hX.symm,by omega,by omega,rfl,⟨rfl,0,0,0,b1,y1,b2,y2,g4,k4,?_,fun p hp=>(by cases hp),?_,?_⟩,⟨rfl,0,0,0,b3,y3,b4,y4,g6,k6,?_,fun p hp=>(by cases hp),?_,?_⟩,by omega,by omega,hne,hXa.trans (hk.mono hbl)⟩
 ·show Jq _ ba false 0 0 0 true _ (.slice b1 (v.ch.take m).length y1) (.slice b2 (JH v.us [] (lw y)).length y2) (.slice g4 (v.ch.take m).length k4)
  rw[hXl,<-eUA]
  exact hva
 ·show JA _ (.agg #[.slice b1 (v.ch.take m).length y1,.slice b2 (JH v.us [] (lw y)).length y2]) ((v.ch.take m).map Prod.fst) (JH v.us [] (lw y))
  rw[hXl,<-eUA,List.map_take]
  exact JA.mk' (hsc1.kept hk (Nat.le_refl _)) (hsu1.kept hk (Nat.le_refl _))
 ·show Xu _ (.slice g4 (v.ch.take m).length k4) ((v.ch.take m).map fun x=>x.2.b)
  rw[hXl,hKA]
  show World.ownsRow _ 0 _ 1 _ (KS.take m).length ((KS.take m).map vp)
  rw[<-hKA,List.length_map,hXl,hKA]
  exact hra
 ·show Jq _ bb false 0 0 0 true _ (.slice b3 (Jk (y::Y)).length y3) (.slice b4 (Ya v.us [] (lw y)).length y4) (.slice g6 (Jk (y::Y)).length k6)
  rw[Jw,<-eUB,List.length_cons,<-hcl,show CB.length=n2 by omega]
  rw[show CB.length=n2 by omega] at hvb
  exact hvb
 ·show JA _ (.agg #[.slice b3 (Jk (y::Y)).length y3,.slice b4 (Ya v.us [] (lw y)).length y4]) ((Jk (y::Y)).map Prod.fst) (Ya v.us [] (lw y))
  rw[Jw,<-eUB,List.length_cons,<-hcl,hcsB]
  exact JA.mk' (hsc2.kept hk (Nat.le_refl _)) (hsu2.kept hk (Nat.le_refl _))
 ·show Xu _ (.slice g6 (Jk (y::Y)).length k6) ((Jk (y::Y)).map fun x=>x.2.b)
  rw[Jw,hfB,List.length_cons,<-hcl,show CB.length=n2 by omega]
  show World.ownsRow _ 0 _ 1 _ (KS.drop m).length ((KS.drop m).map vp)
  rw[<-hfB,List.length_map,Jw,List.length_cons,<-hcl,show CB.length=n2 by omega,hfB]
  exact hrb
end Go.Proofs.YtafciefjlkdecaaGreat
