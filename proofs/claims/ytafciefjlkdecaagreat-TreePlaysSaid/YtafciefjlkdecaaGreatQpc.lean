/-
  The walk of the document's Parse of entries.   The walk of leaf.Parse.   The walk of the document's bytes of entries (layer 16).   The walks of strings.Builder's copyCheck and WriteString (after the shelf's own).   Two rows of updates that grow side by side: the appends of one statement, in whatever order their operands are laid.   Updates that tame made stay such in a buffer: plain laws.   What the waiting message of a key is: the join of all that were put of it; what that makes of a value. Plain laws.   The walk of msg.All.   The plain words of layer 18 (plan): when a plan may be, how many bytes its full node and leaf have, its check and its best. No program in sight. The walk of fetch: a vertex at a height, loaded. Children as cells; the walk of slices.Clone at children. Nodes as values: children and messages; the walks of (node.Node).Child, Range, and of the document's ChildOf. The walks of layer 19 (pick) below the heap: which is ahead, the swap, the last one, how many; how a call through heap.Interface finds them.   The heap of layer 19 in memory, and the walks of its swap and its last one.   The walk of container/heap's down over the places.   The walks of container/heap's Init and Pop over the places.   The walk of pick.heaped: the counts as a heap.   The walk of pick.Top. The plain law of layer 19: what is taken off a heap is sorted.   The walks of treenailref19: ahead and Order.   What the walk of PickOrders needs; the walk where there is no count.   The plain law of the first ones: each is a place, no two alike, and none that is left out is ahead of one of them; the first one has at least its share. What texts of another seat took from texts that this one has not. The walks of flush.Counts, and of the document's Counts. The walk of flush.Step. The walk of flush.Halves. The walks of rec.Text, (buf.Buffer).Text at any updates: their bytes, or the first error. The bytes of nodes: plain laws, no program in sight.
-/
import Derived.BigRegion
import Derived.Deep.RegionHeld3
import Derived.Deep.Cut
import Derived.BigQuiet
import Derived.Shelf.Abstract
import Derived.Deep.DeepCutAuto
import Derived.Deep.CutBlock
import Derived.Outline
import Derived.Deep.QuietTactic
import Derived.Maps.AppendAt
import Derived.OwnWalk
import Derived.Deep.RegionWith
import Derived.Deep.DrawnRows
import Derived.Laws.AppendOwnNone
import Derived.Deep.RegionLawGrows
import Derived.Deep.DeepMust
import Derived.Test.YtafciefjlkdecaaGreatQpb
set_option maxRecDepth 100000
set_option maxHeartbeats 16000000
namespace Go.Proofs.YtafciefjlkdecaaGreat
open Go.RowKit
attribute [local go_sem ↓] Go.wp_at_zero Go.wp_at_succ
def Jq0 (B:Nat) (p:List Ent×Nat) (e:Ending) (w':World):Prop:=
 ∃a c,e=.returned (.tuple #[.slice a p.1.length c,.int .i64 p.2])/\w'.ownsRow B 72 2 (.slice a p.1.length c) p.1.length (cellsE p.1)
theorem Jpq (s0:List UInt8) (hl:s0.length<=1000000) (w:World):
  Calls Tryz.prog 37 #[.string (S s0)] w fun e w'=>Jq0 w.heap.size (ZO s0) e w'/\Below w.heap.size w w':=by
 obtain⟨i0,hi,iz0,iz1,iz2⟩:=info_parts Jqn
 have HE0:=Lib.hid (fun h:Z1 s0=none=>Jeb h)
 have HE1:=Lib.hid (fun(l:List Ent) (h:Z1 s0=some l)=>And.intro (Jfl h) (JdF h))
 generalize ZO s0=P at*
 go_enter Tryz.func37,Tryz.ntmps37
 go_wp2_with fail
 go_loopw [0,4] (fun s v wr=>∃(t:List UInt8) (acc:List Ent),s=.string (S t)/\t.length+acc.length<=s0.length/\Hid (Z1 s0=(Z1 t).map fun l=>acc++l)/\wr.ownsRow w.heap.size 72 2 v acc.length (cellsE acc)/\Below w.heap.size w wr) (fun s _ _=>match s with| .string x=>x.size|_=>0)
 case atStart=>exact⟨s0,[],rfl,by simp,Lib.hid (by simp),World.ownsRow_nil _ _ _ _,by go_grown⟩
 case round=>
  obtain⟨t,acc,rfl,hlen,hR,hown,hB⟩:=hrel
  obtain⟨av,ac,ea⟩:=Jm hown
  subst ea
  have HO:=Lib.hid hown
  cases t with
  |nil=>
   have hraw:=Lib.hid (JlG hR.out)
   have hsl:=SlE.of_row hown
   obtain⟨x,y,ee,hsa,-⟩:=hsl.2
   simp only[Value.slice.injEq] at ee
   obtain⟨rfl,-,rfl⟩:=ee
   have HR:=Lib.hid (JhC av ac acc (Jaq acc) (Jcx acc) wr (by omega) hsa)
   have HE:=Lib.hid (HE1.out acc hraw.out)
   clear hown hsl hsa hraw hR
   cases hb:Jaq acc with
   |false=>
    rw[hb] at HR
    have HP:=Lib.hid (HE.out.1 hb)
    clear HE hb
    go_wp2_with fail
    refine(Jl HR.out w.heap.size w hB hB.size).mono ?_
    rintro e w1 ⟨rfl,hB1,-,-,-,hz1⟩
    go_wp2_with fail
    refine bodyPost_ret (v:=.tuple #[.slice none 0 0,.int .i64 4]) (by simp[results,Tryz.results37,go_sem]) rfl ⟨?_,hB1⟩
    rw[HP.out]
    exact⟨none,0,rfl,World.ownsRow_nil _ _ _ _⟩
   |true=>
    rw[hb] at HR
    have HP:=Lib.hid (HE.out.2 hb)
    clear HE hb
    go_wp2_with fail
    refine(Jl HR.out wr.heap.size wr (Below.refl _ _) (Nat.le_refl _)).mono ?_
    rintro e w1 ⟨rfl,hX1,-,-,-,hz1⟩
    have HO1:=Lib.hid (Ji HO.out hX1)
    have hB1:=hB.trans (hX1.mono hB.size)
    go_wp2_with fail
    refine bodyPost_ret (v:=.tuple #[.slice av acc.length ac,.int .i64 0]) (by simp[results,Tryz.results37,go_sem]) rfl ⟨?_,hB1⟩
    rw[HP.out]
    exact⟨av,ac,rfl,HO1.out⟩
  |cons b r=>
   have hl0:(S (b::r)).size=r.length+1:=by rw[XI];rfl
   rw[List.length_cons] at hlen
   have hs1:=fun W=>Jc7 (b::r) (by rw[List.length_cons];omega) W
   unfold Zt at hs1
   have hq1:=Y3 (b::r)
   have hst:XM (b::r)=if(Jr (b::r)).2.2&&(Jr (Jr (b::r)).2.1).2.2 then some (⟨(Jr (b::r)).1,(Jr (Jr (b::r)).2.1).1⟩,(Jr (Jr (b::r)).2.1).2.1) else none:=rfl
   rw[List.length_cons] at hq1
   generalize Jr (b::r)=p1 at*
   obtain⟨k,rest,ok⟩:=p1
   dsimp only at hs1 hq1 hst
   have hs2:=fun W=>Jc7 rest (by omega) W
   unfold Zt at hs2
   have hq2:=Y3 rest
   generalize Jr rest=p2 at*
   obtain⟨v,more,is⟩:=p2
   dsimp only at hs2 hq2 hst
   obtain⟨hq1,hq1'⟩:=hq1
   obtain⟨hq2,hq2'⟩:=hq2
   have H1:=Lib.hid hs1
   have H2:=Lib.hid hs2
   clear hs1 hs2 hown
   by_cases hgo:ok=true/\is=true
   ·obtain⟨rfl,rfl⟩:=hgo
    have hstep:XM (b::r)=some (⟨k,v⟩,more):=by rw[hst];rfl
    have HN:=Lib.hid (JiO hR.out (by simp) hstep)
    have hq3:=hq1' rfl
    clear hst hstep hq1' hq2' hR
    go_wp2_with fail
    refine(Jl (H1.out _) wr.heap.size wr (by go_grown) (by go_grown)).mono ?_
    rintro e w1 ⟨rfl,hX1,-,-,-,hz1⟩
    have HO1:=Lib.hid (Ji HO.out hX1)
    have hB1:=hB.trans (hX1.mono hB.size)
    go_wp2_with fail
    refine(Jl (H2.out _) w1.heap.size w1 (by go_grown) (by go_grown)).mono ?_
    rintro e w2 ⟨rfl,hX2,-,-,-,hz2⟩
    have HO2:=Lib.hid (Ji HO1.out hX2)
    have hB2:=hB1.trans (hX2.mono hB1.size)
    have hz:=hB2.size
    clear H1 H2 hX1 hX2
    go_wp2_with (at_builtin;go_must (refine wpList_append_own_at _ rfl _ _ 49 rfl w.heap.size 72 i0 (.agg #[.string ByteArray.empty,.string ByteArray.empty]) 2 32 Tryz.underlying49 hi iz0 iz1 iz2 rfl (by decide) _ acc.length _ rfl (HO2.out.alloc _) ⟨w2.heap.size,0,none⟩ 1 1 [.string (S k),.string (S v)] rfl rfl (YD _ _ _ _) (by simp[Value.oneCell']) (by unfold maxLen;omega) (by omega) (by simp;omega) ?_;intro vz wz hownz hgrowz _ _))
    go_roundw
    (case rel=>exact(⟨more,acc++[⟨k,v⟩],rfl,by rw[List.length_append,List.length_singleton];omega,HN,by rw[JF,Yt,List.length_append,List.length_singleton];exact hownz,Ju (hB2.alloc hz _) hgrowz (fun k e=>(HO2.out.lt k e).1) (by simp;omega)⟩))
    (case measure=>simp[XI];omega)
   ·have hno:(ok&&is)=false:=by
     cases ok<;>cases is<;>simp_all
    have hstep:XM (b::r)=none:=by rw[hst,hno];rfl
    have HP:=Lib.hid (HE0.out (JiN hR.out (by simp) hstep))
    clear hst hstep hq1' hq2' hR hgo
    cases ok with
    |false=>
     clear hno
     go_wp2_with fail
     refine(Jl (H1.out _) wr.heap.size wr (by go_grown) (by go_grown)).mono ?_
     rintro e w1 ⟨rfl,hX1,-,-,-,hz1⟩
     have hB1:=hB.trans (hX1.mono hB.size)
     go_wp2_with fail
     refine(Jl (H2.out _) w1.heap.size w1 (by go_grown) (by go_grown)).mono ?_
     rintro e w2 ⟨rfl,hX2,-,-,-,hz2⟩
     have hB2:=hB1.trans (hX2.mono hB1.size)
     clear H1 H2 hX1 hX2
     go_wp2_with fail
     refine bodyPost_ret (v:=.tuple #[.slice none 0 0,.int .i64 4]) (by simp[results,Tryz.results37,go_sem]) rfl ⟨?_,hB2⟩
     rw[HP.out]
     exact⟨none,0,rfl,World.ownsRow_nil _ _ _ _⟩
    |true=>
     obtain rfl:is=false:=by simpa using hno
     clear hno
     go_wp2_with fail
     refine(Jl (H1.out _) wr.heap.size wr (by go_grown) (by go_grown)).mono ?_
     rintro e w1 ⟨rfl,hX1,-,-,-,hz1⟩
     have hB1:=hB.trans (hX1.mono hB.size)
     go_wp2_with fail
     refine(Jl (H2.out _) w1.heap.size w1 (by go_grown) (by go_grown)).mono ?_
     rintro e w2 ⟨rfl,hX2,-,-,-,hz2⟩
     have hB2:=hB1.trans (hX2.mono hB1.size)
     clear H1 H2 hX1 hX2
     go_wp2_with fail
     refine bodyPost_ret (v:=.tuple #[.slice none 0 0,.int .i64 4]) (by simp[results,Tryz.results37,go_sem]) rfl ⟨?_,hB2⟩
     rw[HP.out]
     exact⟨none,0,rfl,World.ownsRow_nil _ _ _ _⟩
open Go.RowKit
attribute [local go_sem ↓] Go.wp_at_zero Go.wp_at_succ
def Jhn (B:Nat) (p:List Ent×Nat) (e:Ending) (w':World):Prop:=
 ∃a c,e=.returned (.tuple #[.agg #[.slice a p.1.length c],.int .i64 p.2])/\w'.ownsRow B 73 2 (.slice a p.1.length c) p.1.length (cellsE p.1)
theorem Jhn.none (B:Nat) (n:Nat) (w':World) (e:Ending) (he:e=.returned (.tuple #[.agg #[.slice none 0 0],.int .i64 n])):Jhn B ([],n) e w':=⟨Option.none,0,he,World.ownsRow_nil _ _ _ _⟩
theorem Jcn (s0:List UInt8) (hl:s0.length<=1000000) (w:World):
  Calls Tryz.prog 86 #[.string (S s0)] w fun e w'=>Jhn w.heap.size (ZO s0) e w'/\Below w.heap.size w w':=by
 obtain⟨i0,hi,iz0,iz1,iz2⟩:=info_parts Jjo
 have HE0:=Lib.hid (fun h:Z1 s0=none=>Jeb h)
 have HE1:=Lib.hid (fun(l:List Ent) (h:Z1 s0=some l)=>And.intro (Jfl h) (JdF h))
 generalize ZO s0=P at*
 go_enter Tryz.func86,Tryz.ntmps86
 go_wp2_with fail
 go_loopw [0,4] (fun s v wr=>∃(t:List UInt8) (acc:List Ent),s=.string (S t)/\t.length+acc.length<=s0.length/\Hid (Z1 s0=(Z1 t).map fun l=>acc++l)/\wr.ownsRow (w.heap.size+1) 73 2 v acc.length (cellsE acc)/\Below (w.heap.size+1) (w.alloc (.cells #[.slice none 0 0] 99)) wr) (fun s _ _=>match s with| .string x=>x.size|_=>0)
 case atStart=>exact⟨s0,[],rfl,by simp,Lib.hid (by simp),World.ownsRow_nil _ _ _ _,Below.refl _ _⟩
 case round=>
  obtain⟨t,acc,rfl,hlen,hR,hown,hB⟩:=hrel
  obtain⟨av,ac,ea⟩:=Jm hown
  subst ea
  have HO:=Lib.hid hown
  have hsz:=hB.size
  have hsz1:w.heap.size+1<=wr.heap.size:=by simpa using hsz
  clear hsz
  have p0:wr.cell? ⟨w.heap.size,0,none⟩=some (.slice none 0 0):=(hB.cell (p:=⟨w.heap.size,0,none⟩) (Nat.lt_succ_self _)).trans (by simp)
  have pf:wr.frozen? ⟨w.heap.size,0,none⟩=false:=(hB.frozen (p:=⟨w.heap.size,0,none⟩) (Nat.lt_succ_self _)).trans (by simp)
  have hBw:Below w.heap.size w wr:=(Below.alloc (Below.refl _ w) (Nat.le_refl _) (.cells #[.slice none 0 0] 99)).trans (hB.mono (Nat.le_succ _))
  cases t with
  |nil=>
   have hraw:=Lib.hid (JlG hR.out)
   have hsl:=(SlE.of_own hown).2
   have HR:=Lib.hid (JkW av acc.length ac acc wr rfl (by omega) hsl)
   have HE:=Lib.hid (HE1.out acc hraw.out)
   clear hown hsl hraw hR
   cases hb:Jaq acc with
   |false=>
    rw[hb] at HR
    have HP:=Lib.hid (HE.out.1 hb)
    clear HE hb
    go_wp2_with fail
    refine(Jl HR.out wr.heap.size wr (Below.refl _ _) (Nat.le_refl _)).mono ?_
    rintro e w1 ⟨rfl,hX1,hk1,hf1,-,hz1⟩
    have p1:=(hk1 w.heap.size 0 (by omega)).trans p0
    have pf1:=(hf1 w.heap.size 0 (by omega)).trans pf
    have hB1:=hBw.trans (hX1.mono (by omega))
    have hlt1:w.heap.size<w1.heap.size:=by omega
    clear hk1 hf1 hX1 p0 pf
    go_wp2_with fail
    have pz:=Jf (.cells #[.slice none 0 0] 99) (show(w1.setCell ⟨w.heap.size,0,none⟩ (.slice none 0 0)).cell? ⟨w.heap.size,0,none⟩=some (.slice none 0 0) from World.cell?_setCell_same w1 _ _ p1)
    refine bodyPost_ret (v:=.tuple #[.agg #[.slice none 0 0],.int .i64 4]) (by simp[results,Tryz.results86,go_sem,pz]) rfl ⟨?_,?_⟩
    ·rw[HP.out]
     exact Jhn.none _ _ _ _ rfl
    ·exact(hB1.setCell (p:=⟨w.heap.size,0,none⟩) (Nat.le_refl _) _).alloc (by rw[World.size_setCell];omega) _
   |true=>
    rw[hb] at HR
    have HP:=Lib.hid (HE.out.2 hb)
    clear HE hb
    go_wp2_with fail
    refine(Jl HR.out wr.heap.size wr (Below.refl _ _) (Nat.le_refl _)).mono ?_
    rintro e w1 ⟨⟨a1,c1,rfl,hown1⟩,hX1,hk1,hf1,-,hz1⟩
    have p1:=(hk1 w.heap.size 0 (by omega)).trans p0
    have pf1:=(hf1 w.heap.size 0 (by omega)).trans pf
    have hB1:=hBw.trans (hX1.mono (by omega))
    have HO1:=Lib.hid hown1
    have hlt1:w.heap.size<w1.heap.size:=by omega
    clear hk1 hf1 hX1 p0 pf hown1
    go_wp2_with fail
    have pz:=Jf (.cells #[.slice a1 acc.length c1] 99) (show(w1.setCell ⟨w.heap.size,0,none⟩ (.slice a1 acc.length c1)).cell? ⟨w.heap.size,0,none⟩=some (.slice a1 acc.length c1) from World.cell?_setCell_same w1 _ _ p1)
    refine bodyPost_ret (v:=.tuple #[.agg #[.slice a1 acc.length c1],.int .i64 0]) (by simp[results,Tryz.results86,go_sem,pz]) rfl ⟨?_,?_⟩
    ·rw[HP.out]
     exact⟨a1,c1,rfl,JI ((ownsRow_setCell_other (a:=⟨w.heap.size,0,none⟩) HO1.out (fun e=>by have h:wr.heap.size<=w.heap.size:=(HO1.out.lt _ e).1;omega) _).alloc _) (by omega)⟩
    ·exact(hB1.setCell (p:=⟨w.heap.size,0,none⟩) (Nat.le_refl _) _).alloc (by rw[World.size_setCell];omega) _
  |cons b r=>
   have hl0:(S (b::r)).size=r.length+1:=by rw[XI];rfl
   rw[List.length_cons] at hlen
   have hs1:=fun W=>Jax (b::r) (by rw[List.length_cons];omega) W
   unfold Zt at hs1
   have hq1:=Y3 (b::r)
   have hst:XM (b::r)=if(Jr (b::r)).2.2&&(Jr (Jr (b::r)).2.1).2.2 then some (⟨(Jr (b::r)).1,(Jr (Jr (b::r)).2.1).1⟩,(Jr (Jr (b::r)).2.1).2.1) else none:=rfl
   rw[List.length_cons] at hq1
   generalize Jr (b::r)=p1 at*
   obtain⟨k,rest,ok⟩:=p1
   dsimp only at hs1 hq1 hst
   have hs2:=fun W=>Jax rest (by omega) W
   unfold Zt at hs2
   have hq2:=Y3 rest
   generalize Jr rest=p2 at*
   obtain⟨v,more,is⟩:=p2
   dsimp only at hs2 hq2 hst
   obtain⟨hq1,hq1'⟩:=hq1
   obtain⟨hq2,hq2'⟩:=hq2
   have H1:=Lib.hid hs1
   have H2:=Lib.hid hs2
   clear hs1 hs2 hown
   by_cases hgo:ok=true/\is=true
   ·obtain⟨rfl,rfl⟩:=hgo
    have hstep:XM (b::r)=some (⟨k,v⟩,more):=by rw[hst];rfl
    have HN:=Lib.hid (JiO hR.out (by simp) hstep)
    have hq3:=hq1' rfl
    clear hst hstep hq1' hq2' hR p0 pf hBw
    go_wp2_with fail
    refine(Jl (H1.out _) wr.heap.size wr (by go_grown) (by go_grown)).mono ?_
    rintro e w1 ⟨rfl,hX1,-,-,-,hz1⟩
    have HO1:=Lib.hid (Ji HO.out hX1)
    have hB1:=hB.trans (hX1.mono hsz1)
    go_wp2_with fail
    refine(Jl (H2.out _) w1.heap.size w1 (by go_grown) (by go_grown)).mono ?_
    rintro e w2 ⟨rfl,hX2,-,-,-,hz2⟩
    have HO2:=Lib.hid (Ji HO1.out hX2)
    have hB2:=hB1.trans (hX2.mono (by omega))
    have hz:w.heap.size+1<=w2.heap.size:=by omega
    clear H1 H2 hX1 hX2
    go_wp2_with (at_builtin;go_must (refine wpList_append_own_at _ rfl _ _ 43 rfl (w.heap.size+1) 73 i0 (.agg #[.string ByteArray.empty,.string ByteArray.empty]) 2 32 Tryz.underlying43 hi iz0 iz1 iz2 rfl (by decide) _ acc.length _ rfl (HO2.out.alloc _) ⟨w2.heap.size,0,none⟩ 1 1 [.string (S k),.string (S v)] rfl rfl (YD _ _ _ _) (by simp[Value.oneCell']) (by unfold maxLen;omega) (by omega) (by simp;omega) ?_;intro vz wz hownz hgrowz _ _))
    go_roundw
    (case rel=>exact(⟨more,acc++[⟨k,v⟩],rfl,by rw[List.length_append,List.length_singleton];omega,HN,by rw[JF,Yt,List.length_append,List.length_singleton];exact hownz,Ju (hB2.alloc hz _) hgrowz (fun k e=>(HO2.out.lt k e).1) (by simp;omega)⟩))
    (case measure=>simp[XI];omega)
   ·have hno:(ok&&is)=false:=by
     cases ok<;>cases is<;>simp_all
    have hstep:XM (b::r)=none:=by rw[hst,hno];rfl
    have HP:=Lib.hid (HE0.out (JiN hR.out (by simp) hstep))
    clear hst hstep hq1' hq2' hR hgo
    cases ok with
    |false=>
     clear hno
     go_wp2_with fail
     refine(Jl (H1.out _) wr.heap.size wr (by go_grown) (by go_grown)).mono ?_
     rintro e w1 ⟨rfl,hX1,hk1,hf1,-,hz1⟩
     have p1:=(hk1 w.heap.size 0 (by omega)).trans p0
     have pf1:=(hf1 w.heap.size 0 (by omega)).trans pf
     have hB1:=hBw.trans (hX1.mono (by omega))
     clear hk1 hf1 hX1 p0 pf
     go_wp2_with fail
     refine(Jl (H2.out _) w1.heap.size w1 (by go_grown) (by go_grown)).mono ?_
     rintro e w2 ⟨rfl,hX2,hk2,hf2,-,hz2⟩
     have p2:=(hk2 w.heap.size 0 (by omega)).trans p1
     have pf2:=(hf2 w.heap.size 0 (by omega)).trans pf1
     have hB2:=hB1.trans (hX2.mono (by omega))
     clear H1 H2 hk2 hf2 hX2 p1 pf1
     go_wp2_with fail
     refine bodyPost_ret (v:=.tuple #[.agg #[.slice none 0 0],.int .i64 4]) (by simp[results,Tryz.results86,go_sem,p2]) rfl ⟨?_,?_⟩
     ·rw[HP.out]
      exact Jhn.none _ _ _ _ rfl
     ·exact hB2.setCell (p:=⟨w.heap.size,0,none⟩) (Nat.le_refl _) _
    |true=>
     obtain rfl:is=false:=by simpa using hno
     clear hno
     go_wp2_with fail
     refine(Jl (H1.out _) wr.heap.size wr (by go_grown) (by go_grown)).mono ?_
     rintro e w1 ⟨rfl,hX1,hk1,hf1,-,hz1⟩
     have p1:=(hk1 w.heap.size 0 (by omega)).trans p0
     have pf1:=(hf1 w.heap.size 0 (by omega)).trans pf
     have hB1:=hBw.trans (hX1.mono (by omega))
     clear hk1 hf1 hX1 p0 pf
     go_wp2_with fail
     refine(Jl (H2.out _) w1.heap.size w1 (by go_grown) (by go_grown)).mono ?_
     rintro e w2 ⟨rfl,hX2,hk2,hf2,-,hz2⟩
     have p2:=(hk2 w.heap.size 0 (by omega)).trans p1
     have pf2:=(hf2 w.heap.size 0 (by omega)).trans pf1
     have hB2:=hB1.trans (hX2.mono (by omega))
     clear H1 H2 hk2 hf2 hX2 p1 pf1
     go_wp2_with fail
     refine bodyPost_ret (v:=.tuple #[.agg #[.slice none 0 0],.int .i64 4]) (by simp[results,Tryz.results86,go_sem,p2]) rfl ⟨?_,?_⟩
     ·rw[HP.out]
      exact Jhn.none _ _ _ _ rfl
     ·exact hB2.setCell (p:=⟨w.heap.size,0,none⟩) (Nat.le_refl _) _
end Go.Proofs.YtafciefjlkdecaaGreat
namespace Go.Proofs.YtafciefjlkdecaaGreat
open Go.RowKit
theorem JhY {l:List Ent} {i:Nat} (hi:i<l.length):JO (l.take (i+1))=JO (l.take i)++(l[i]).bytes:=by
 rw[List.take_succ_eq_append_getElem hi];simp only[JO,List.flatMap_append,List.flatMap_cons,List.flatMap_nil,List.append_nil]
open Go.RowKit
open Go.RowKit
open Go.RowKit
attribute [local go_sem ↓] Go.wp_at_zero Go.wp_at_succ
theorem Jdn (u:Ent):Ent.bytes u=Yo u.key++Yo u.val:=by simp[Ent.bytes,Yo]
theorem Jan:∀l:List Ent,ZI l->(JO l).length<=50*l.length
 |[],_=>by simp[JO]
 |e::l,h=>by
  have h1:=Jan l (fun x hx=>h x (List.mem_cons_of_mem _ hx))
  obtain⟨-,h2,h3⟩:=h e (by simp)
  have h4:JO (e::l)=Ent.bytes e++JO l:=rfl
  rw[h4,Jdn,List.length_append,List.length_append,YW,YW,List.length_cons]
  omega
theorem Jdg (a:Option Addr) (n c:Nat) (l:List Ent) (w:World) (hn:n=l.length) (hv:Zq w (.agg #[.slice a n c]) l) (hl:l.length<=10000) (hf:ZI l):
  Calls Tryz.prog 79 #[.agg #[.slice a n c]] w fun e w'=>e=.returned (.tuple #[.string (S (JO l)),.int .i64 0])/\Below w.heap.size w w':=by
 obtain⟨s0,e0,hs0⟩:=hv
 simp only[Value.agg.injEq,Array.mk.injEq,List.cons.injEq,and_true] at e0
 subst e0
 obtain⟨a',c',e1,hs,-,-,-⟩:=hs0
 simp only[Value.slice.injEq] at e1
 obtain⟨rfl,-,rfl⟩:=e1
 have HN:=Lib.hid hn
 clear hn
 go_enter Tryz.func79,Tryz.ntmps79
 go_wp2_with fail
 go_loopw [14] (fun i wr=>∃j:Nat,i=.int .i64 j/\j<=n/\IsB (w.heap.size+1) (w.heap.size+1) (Lib.byteCells (JO (l.take j))) wr/\Below w.heap.size w wr/\w.heap.size+1<wr.heap.size) (fun i _=>n- (intOf i).toNat)
 case atStart=>exact⟨0,rfl,Nat.zero_le _,by simpa[JO,Lib.byteCells] using Lib.fresh_isBuilder 200 5 (w.alloc (.cells #[.slice a n c] 99)),by go_grown,by simp⟩
 case round=>
  obtain⟨j,rfl,hj,hI,hB,hz⟩:=hrel
  have hj0:(0:Int)<=(j:Int):=Int.natCast_nonneg _
  have HI:=Lib.hid hI
  clear hI
  by_cases hjn:j<n
  ·have hj1:(j:Int)<(n:Int):=by omega
   have hjl:j<l.length:=by have:=HN.out;omega
   obtain⟨b,off,rfl,hb,t0,t1⟩:=JC.cells2 hs j hjl
   have q0:=(Jh hB hb _).trans t0
   have q1:=(Jh hB hb _).trans t1
   obtain⟨f1,f2,f3⟩:=hf _ (List.getElem_mem hjl)
   have hst:=Lib.hid (JhY hjl)
   clear t0 t1
   generalize l[j]=u at*
   have hjk:=fun w=>Xa u.key (by omega) w
   have hjv:=fun w=>Xa u.val (by omega) w
   have HJ:=Lib.hid hjk
   have HJV:=Lib.hid hjv
   clear hjk hjv
   go_wp2_with fail
   refine(Jl (HJ.out _) wr.heap.size wr (by go_grown) (by go_grown)).mono ?_
   rintro e w1 ⟨rfl,hX1,hk1,-,-,hz1⟩
   have e1:w1.cell? ⟨wr.heap.size,1,none⟩=some (.string (S u.val)):=(hk1 wr.heap.size 1 (by simp)).trans (by simp)
   clear hk1
   go_wp2_with fail
   refine(Jl (HJV.out _) wr.heap.size wr hX1 hz1).mono ?_
   rintro e w2 ⟨rfl,hX2,-,-,-,hz2⟩
   have HI2:=Lib.hid (HI.out.on hX2)
   have hB2:=hB.trans (hX2.mono hB.size)
   have hk2:=YW u.key
   have hv2:=YW u.val
   have hlen:¬9223372036854775807<(Yo u.key).length+(Yo u.val).length:=by omega
   have htl:=Jan (l.take j) (fun x hx=>hf x (List.mem_of_mem_take hx))
   rw[List.length_take] at htl
   have HW:=Lib.hid (JdV (w.heap.size+1) (w.heap.size+1) _ (S (Yo u.key++Yo u.val)) w2 HI2.out (by rw[Lib.byteCells_length,XI,List.length_append];omega) (by have:=hB2.size;omega))
   clear HI HJ HJV hX1 hX2 e1 hk2 hv2 htl
   go_wp2_with fail
   refine(HW.out).mono ?_
   rintro e w3 ⟨rfl,hI3,hX3⟩
   rw[Jcw,<-Jav,<-Jdn,<-hst.out] at hI3
   have hB3:=hB2.trans (hX3.mono (by omega))
   have hz3:w.heap.size+1<w3.heap.size:=by have:=hX3.size;omega
   clear HW
   go_wp2_with fail
   go_roundw
   (case rel=>exact(⟨j+1,by go_num,by omega,hI3,hB3,hz3⟩))
   (case measure=>first|(simp[intOf];done)|(simp[intOf];omega))
  ·obtain rfl:j=n:=by omega
   have hta:l.take j=l:=by rw[HN.out,List.take_length]
   rw[hta] at HI
   clear hta
   go_wp2_with fail
   refine(JcN (w.heap.size+1) (w.heap.size+1) (JO l) wr HI.out (by omega)).mono ?_
   rintro e w1 ⟨rfl,hX1⟩
   go_wp2_with fail
   go_ret2
   exact⟨rfl,hB.trans (hX1.mono (by omega))⟩
end Go.Proofs.YtafciefjlkdecaaGreat
namespace Go.Proofs.YtafciefjlkdecaaGreat
open Go.RowKit
structure Jo8 (W:World) (g:Nat) (X:Upd):Prop where
 c0:W.cell? ⟨g,0,none⟩=some (.int .u8 X.kind)
 c1:W.cell? ⟨g,1,none⟩=some (.string (S X.key))
 c2:W.cell? ⟨g,2,none⟩=some (.string (S X.val))
 c3:W.cell? ⟨g,3,none⟩=some (.int .u64 X.delta)
section
variable {W w':World} {g:Nat} {X:Upd}
end
structure Two (base p q:Nat) (X:Upd) (E1 E2:TypeId) (W0 W:World) (A M:Value) (na nm:Nat) (xa xm:List Value):Prop where
 own1:W.ownsRow base E1 4 A na xa
 own2:W.ownsRow base E2 4 M nm xm
 below:Below base W0 W
 le:base<=W.heap.size
 atP:Jo8 W p X
 atQ:Jo8 W q X
 far1:A.ownBlock≠some p/\A.ownBlock≠some q
 far2:M.ownBlock≠some p/\M.ownBlock≠some q
section
variable {base p q:Nat} {X:Upd} {E1 E2:TypeId} {W0 W:World} {A M:Value} {na nm:Nat} {xa xm:List Value}
end
open Go.RowKit
theorem Jnx {l:List Upd} (hr:Je Upd.key l) (hf:∀x∈l,Tm x) (u:Upd) (hu:Tm u):∀x∈JQ l u,Tm x:=by
 cases h:JE Upd.key l u.key with
 |false=>
  rw[Xi h]
  intro x hx
  rcases Jdk.1 hx with rfl|hx
  ·exact hu
  ·exact hf x hx
 |true=>
  obtain⟨i,hi,hk,e⟩:=ZS hr h
  rw[e]
  intro x hx
  rcases List.mem_or_eq_of_mem_set hx with hx|rfl
  ·exact hf x hx
  ·exact Jfw (hf _ (List.getElem_mem hi)) hu
theorem Jhv {l:List Upd} (hf:∀x∈l,Tm x):Jlt l:=fun x hx=>⟨(hf x hx).wf,by have:=(hf x hx).vlen;omega⟩
section
variable {base:Nat} {E:TypeId} {W0 W w':World} {A M:Value} {na nm:Nat} {xa xm:List Value}
end
open Go.RowKit
def Jry:List Upd->Option Upd:=fun l=>l.foldl (fun o u=>some (match o with|none=>u|some f=>Zf f u)) none
theorem JbC {l:List Upd} (hr:Je Upd.key l) (k:List UInt8) (x:Upd):Yn l k=some x↔x∈l/\x.key=k:=by
 unfold Yn
 constructor
 ·intro h
  have h1:=List.mem_of_find?_eq_some h
  have h2:=List.find?_some h
  exact⟨h1,by simpa using h2⟩
 ·rintro⟨h1,h2⟩
  cases hf:l.find? (fun u=>u.key==k) with
  |none=>
   rw[List.find?_eq_none] at hf
   exact absurd h2 (by simpa using hf x h1)
  |some y=>
   have hy1:=List.mem_of_find?_eq_some hf
   have hy2:y.key=k:=by simpa using List.find?_some hf
   have:x=y:=by
    obtain⟨i,hi,rfl⟩:=List.getElem_of_mem h1
    obtain⟨j,hj,rfl⟩:=List.getElem_of_mem hy1
    rcases Nat.lt_trichotomy i j with h|h|h
    ·have:=hr.lt h hj
     rw[h2,hy2] at this
     rw[YN] at this;exact absurd this (by simp)
    ·subst h;rfl
    ·have:=hr.lt h hi
     rw[h2,hy2] at this
     rw[YN] at this;exact absurd this (by simp)
   rw[this]
theorem Jm2 {l:List Upd} (hr:Je Upd.key l) (u:Upd):Yn (JQ l u) u.key=some (match Yn l u.key with|none=>u|some f=>Zf f u):=by
 rw[JbC (Zj hr u)]
 cases hh:JE Upd.key l u.key with
 |false=>
  rw[JdQ hh,Xi hh]
  exact⟨Jdk.2 (Or.inl rfl),rfl⟩
 |true=>
  obtain⟨i,hi,hk,e⟩:=ZS hr hh
  have hg:Yn l u.key=some l[i]:=(JbC hr _ _).2 ⟨List.getElem_mem hi,hk⟩
  rw[hg,e]
  refine⟨?_,JdN _ _⟩
  exact List.mem_set hi _
theorem Jbc {l:List Upd} (hr:Je Upd.key l) (u:Upd) {k:List UInt8} (h:k≠u.key):Yn (JQ l u) k=Yn l k:=by
 have key:∀x,Yn (JQ l u) k=some x↔Yn l k=some x:=by
  intro x
  rw[JbC (Zj hr u),JbC hr]
  cases hh:JE Upd.key l u.key with
  |false=>
   rw[Xi hh,Jdk]
   constructor
   ·rintro⟨rfl|h1,h2⟩
    ·exact absurd h2.symm h
    ·exact⟨h1,h2⟩
   ·rintro⟨h1,h2⟩;exact⟨Or.inr h1,h2⟩
  |true=>
   obtain⟨i,hi,hk,e⟩:=ZS hr hh
   rw[e]
   constructor
   ·rintro⟨h1,h2⟩
    rcases List.mem_or_eq_of_mem_set h1 with h1|rfl
    ·exact⟨h1,h2⟩
    ·rw[JdN] at h2;exact absurd h2.symm h
   ·rintro⟨h1,h2⟩
    refine⟨?_,h2⟩
    obtain⟨j,hj,rfl⟩:=List.getElem_of_mem h1
    have hij:i≠j:=fun e=>by subst e;exact h (h2.symm.trans hk)
    have hs:(l.set i (Zf l[i] u))[j]'(by rw[List.length_set];exact hj)=l[j]:=by rw[List.getElem_set_ne hij]
    rw[<-hs]
    exact List.getElem_mem _
 cases hg:Yn l k with
 |none=>
  cases hg2:Yn (JQ l u) k with
  |none=>rfl
  |some x=>have:=(key x).1 hg2;rw[hg] at this;exact absurd this (by simp)
 |some x=>exact(key x).2 hg
theorem JmR (v:List UInt8) (th:Bool) (u:Upd):onL (if th then v else[]) th u=onL v th u:=by
 cases th with
 |true=>rfl
 |false=>unfold onL;simp
theorem Jja (n:Nat):Y0 (le (n% 18446744073709551616) 8)=n% 18446744073709551616:=by
 rw[JbY,show(256:Nat)^8=18446744073709551616 from by decide]
 exact Nat.mod_mod _ _
theorem Ji5 {f t:Upd} (hf:Tm f) (ht:Tm t) (v:List UInt8) (th:Bool):onL v th (Zf f t)=onL (onL v th f).1 (onL v th f).2 t:=by
 rcases ht.kind with h|h|h
 ·rw[Jb4 f t (by omega),Xw _ _ t h,Xw _ _ t h]
 ·rw[Jb4 f t (by omega),JbV _ _ t h,JbV _ _ t h]
 ·rcases hf.kind with k|k|k
  ·rw[Xw v th f k]
   by_cases h8:f.val.length=8
   ·rw[JgX h k h8,Xw _ _ _ rfl,XB _ t h h8]
   ·rw[JgW h k h8,Xw _ _ _ rfl,JaX _ t h h8]
  ·rw[JbV v th f k,JgV h k,Xw _ _ _ rfl,JaC _ t h]
  ·rw[JdO f t h k]
   cases th with
   |false=>
    rw[JaC _ _ rfl,JaC _ f k,XB _ t h (YV _ _),Jja]
    simp only[Prod.mk.injEq,and_true]
    congr 1
    omega
   |true=>
    by_cases h8:v.length=8
    ·rw[XB _ _ rfl h8,XB _ f k h8,XB _ t h (YV _ _),Jja]
     simp only[Prod.mk.injEq,and_true]
     congr 1
     omega
    ·rw[JaX _ _ rfl h8,JaX _ f k h8,JaX _ t h h8]
def YP (v:List UInt8) (th:Bool) (l:List Upd):List UInt8×Bool:=l.foldl (fun s u=>onL s.1 s.2 u) (v,th)
theorem Jec (v:List UInt8) (th:Bool) (l:List Upd) (u:Upd):YP v th (l++[u])=onL (YP v th l).1 (YP v th l).2 u:=by
 unfold YP;rw[List.foldl_append];rfl
theorem JkO (v:List UInt8) (th:Bool) (hv:v.length<=20):∀(l:List Upd),(∀u∈l,Tm u)->(YP v th l).1.length<=20:=by
 intro l
 induction l using Je2 with
 |h0=>intro _;exact hv
 |h1 us u ih=>
  intro h
  rw[Jec]
  exact Jal _ _ _ 20 (ih (fun x hx=>h x (by simp[hx]))) (h u (by simp)).vlen (by decide)
open Go.RowKit
attribute [local go_sem ↓] Go.wp_at_zero Go.wp_at_succ
theorem Ji7 (v:List UInt8) (th:Bool) (l:List Upd) (j:Nat) (hj:j<l.length):YP v th (l.take (j+1))=onL (YP v th (l.take j)).1 (YP v th (l.take j)).2 l[j]:=by
 rw[List.take_succ_eq_append_getElem hj,Jec]
theorem JkT (v:List UInt8) (th:Bool) (a:Option Addr) (n c:Nat) (l:List Upd) (w:World) (hn:n=l.length) (hs:JC Upd.cells 4 w a l) (hl:l.length<=1000) (hf:∀u∈l,Tm u) (hv:v.length<=20):
  Calls Tryz.prog 53 #[.string (S v),.bool th,.slice a n c] w fun e w'=>e=.returned (.tuple #[.string (S (YP (if th then v else[]) th l).1),.bool (YP (if th then v else[]) th l).2])/\Below w.heap.size w w':=by
 have HN:=Lib.hid hn
 have HF:=Lib.hid hf
 have HS:=Lib.hid hs
 have hv0:∀j,(YP (if th then v else[]) th (l.take j)).1.length<=20:=fun j=>JkO _ th (by split<;>simp[hv]) _ (fun u hu=>hf u (List.mem_of_mem_take hu))
 have HV:=Lib.hid hv0
 have HST:=Lib.hid (fun j hj=>Ji7 (if th then v else[]) th l j hj)
 have hfin:l.take l.length=l:=List.take_length
 have HFIN:=Lib.hid hfin
 have h0:YP (if th then v else[]) th (l.take 0)=(if th then v else[],th):=rfl
 clear hn hf hs hv0 hv hfin
 generalize hG:(fun j=>YP (if th then v else[]) th (l.take j))=G
 have HG:=Lib.hid (fun j=>congrFun hG j)
 have hend:YP (if th then v else[]) th l=G l.length:=by rw[<-HG.out];show _=YP _ th (l.take l.length);rw[HFIN.out]
 rw[hend]
 have hst0:G 0=(if th then v else[],th):=by rw[<-HG.out];exact h0
 have HST2:=Lib.hid (fun j hj=>(by have:=HST.out j hj;rw[show YP (if th then v else[]) th (l.take (j+1))=G (j+1) from HG.out (j+1),show YP (if th then v else[]) th (l.take j)=G j from HG.out j] at this;exact this:G (j+1)=onL (G j).1 (G j).2 (l[j]'hj)))
 have HV2:=Lib.hid (fun j=>(by have:=HV.out j;rw[show YP (if th then v else[]) th (l.take j)=G j from HG.out j] at this;exact this:(G j).1.length<=20))
 clear hG HG hend HST HV h0 HFIN
 cases th with
 |true=>
  have HS0:=Lib.hid hst0
  clear hst0
  go_enter Tryz.func53,Tryz.ntmps53
  go_wp2_with fail
  go_loopw [14,0,1] (fun i vv tv wr=>∃j:Nat,i=.int .i64 j/\j<=n/\vv=.string (S (G j).1)/\tv=.bool (G j).2/\Below w.heap.size w wr) (fun i _ _ _=>n- (intOf i).toNat)
  case atStart=>exact⟨0,rfl,Nat.zero_le _,by rw[HS0.out];rfl,by rw[HS0.out],Below.refl _ _⟩
  case round=>
   obtain⟨j,rfl,hj,rfl,rfl,hB⟩:=hrel
   have hj0:(0:Int)<=(j:Int):=Int.natCast_nonneg _
   have hgl:=HV2.out j
   by_cases hjn:j<n
   ·have hj1:(j:Int)<(n:Int):=by omega
    have hjl:j<l.length:=by have:=HN.out;omega
    obtain⟨b,off,rfl,hb,t0,t1,t2,t3⟩:=JC.cells4 HS.out j hjl
    have q0:=(Jh hB hb _).trans t0
    have q1:=(Jh hB hb _).trans t1
    have q2:=(Jh hB hb _).trans t2
    have q3:=(Jh hB hb _).trans t3
    have hT:=HF.out _ (List.getElem_mem hjl)
    have HGS:=Lib.hid (HST2.out j hjl)
    clear t0 t1 t2 t3
    generalize l[j]=u at*
    generalize hg:G j=g at*
    have HG1:=Lib.hid hg
    clear hg
    go_wp2_with fail
    refine(Jl (Jby g.1 g.2 u.kind u.key u.val u.delta (by omega) hT.wf.1 hT.wf.2 _) wr.heap.size wr (by go_grown) (by go_grown)).mono ?_
    rintro e w1 ⟨rfl,hX1,-,-,-,hz1⟩
    have hB1:=hB.trans (hX1.mono hB.size)
    unfold onV
    go_wp2_with fail
    go_roundw
    (case rel=>exact⟨j+1,by go_num,by omega,by rw[HGS.out],by rw[HGS.out],hB1⟩)
    (case measure=>first|(simp[intOf];done)|(simp[intOf];omega))
   ·obtain rfl:j=n:=by omega
    go_wp2_with fail
    go_ret2
    exact⟨by rw[HN.out];rfl,hB⟩
 |false=>
  have HS0:=Lib.hid hst0
  clear hst0
  go_enter Tryz.func53,Tryz.ntmps53
  go_wp2_with fail
  go_loopw [14,0,1] (fun i vv tv wr=>∃j:Nat,i=.int .i64 j/\j<=n/\vv=.string (S (G j).1)/\tv=.bool (G j).2/\Below w.heap.size w wr) (fun i _ _ _=>n- (intOf i).toNat)
  case atStart=>exact⟨0,rfl,Nat.zero_le _,by rw[HS0.out];rfl,by rw[HS0.out],Below.refl _ _⟩
  case round=>
   obtain⟨j,rfl,hj,rfl,rfl,hB⟩:=hrel
   have hj0:(0:Int)<=(j:Int):=Int.natCast_nonneg _
   have hgl:=HV2.out j
   by_cases hjn:j<n
   ·have hj1:(j:Int)<(n:Int):=by omega
    have hjl:j<l.length:=by have:=HN.out;omega
    obtain⟨b,off,rfl,hb,t0,t1,t2,t3⟩:=JC.cells4 HS.out j hjl
    have q0:=(Jh hB hb _).trans t0
    have q1:=(Jh hB hb _).trans t1
    have q2:=(Jh hB hb _).trans t2
    have q3:=(Jh hB hb _).trans t3
    have hT:=HF.out _ (List.getElem_mem hjl)
    have HGS:=Lib.hid (HST2.out j hjl)
    clear t0 t1 t2 t3
    generalize l[j]=u at*
    generalize hg:G j=g at*
    have HG1:=Lib.hid hg
    clear hg
    go_wp2_with fail
    refine(Jl (Jby g.1 g.2 u.kind u.key u.val u.delta (by omega) hT.wf.1 hT.wf.2 _) wr.heap.size wr (by go_grown) (by go_grown)).mono ?_
    rintro e w1 ⟨rfl,hX1,-,-,-,hz1⟩
    have hB1:=hB.trans (hX1.mono hB.size)
    unfold onV
    go_wp2_with fail
    go_roundw
    (case rel=>exact⟨j+1,by go_num,by omega,by rw[HGS.out],by rw[HGS.out],hB1⟩)
    (case measure=>first|(simp[intOf];done)|(simp[intOf];omega))
   ·obtain rfl:j=n:=by omega
    go_wp2_with fail
    go_ret2
    exact⟨by rw[HN.out];rfl,hB⟩
end Go.Proofs.YtafciefjlkdecaaGreat
namespace Go.Proofs.YtafciefjlkdecaaGreat.PlanL
def right (F B L:Int):Bool:=decide (3<=F/\F<=16/\F<=B/\B<=64/\2<=L/\L<=64)
def JrK (n:Int):Int:=if 128<=n/\n<=1024 then n-24 else 0
def JrI (F B L:Int):Int:=if right F B L=true then B/F else 0
def check (F B L n:Int):Int:=
 if right F B L=false\/n<128\/1024<n then 2
 else if n-24<1+33*F+51*B\/n-24<50*L then 20 else 0
theorem right_not (F B L:Int):right F B L=false↔¬(3<=F/\F<=16/\F<=B/\B<=64/\2<=L/\L<=64):=by
 unfold right;exact decide_eq_false_iff_not
end Go.Proofs.YtafciefjlkdecaaGreat.PlanL
namespace Go.Proofs.YtafciefjlkdecaaGreat
open Go.RowKit
attribute [local go_sem ↓] Go.wp_at_zero Go.wp_at_succ
theorem JbF {b:Nat} {kn:Bool} {pa:Int} {pg ps:Nat} {lf cs us ks:Value} (tv:Value) (h:Int) (w:World) (hv:Jq w b kn pa pg ps true lf cs us ks):
  Calls Tryz.prog 50 #[tv,.pointer (some ⟨b,0,none⟩),.int .i64 h] w fun e w'=>e=.returned (.tuple #[.pointer (some ⟨b,0,none⟩),.bool false,.int .i64 0])/\Below w.heap.size w w':=by
 have c4:=hv.c4
 go_enter Tryz.func50,Tryz.ntmps50
 go_wp2_with fail
 go_returns
 exact⟨rfl,by go_grown⟩
structure Jo6 (fid:FuncId) (xs ys:Array Value) (pa:Int) (pg ps:Nat) (k:Nat) (pay:List UInt8) (er:Int) (w:World):Prop where
 ent:∀args w,(callFunc fid args).run Tryz.prog w=.ok (.enter fid args) w
 go:∀w1,Below w.heap.size w w1->Calls Tryz.prog fid (xs++ #[.agg #[.int .i64 pa,.int .u64 pg,.int .u32 ps]]++ys) w1 fun e w2=>e=.returned (.tuple #[.int .u8 k,.string (S pay),.int .i64 er])/\Below w1.heap.size w1 w2
theorem JC.setAtS {α:Type} {enc:α->List Value} {k:Nat} {w:World} {ao:Option Addr} {l:List α} (h:JC enc k w ao l) {p:Addr} {a:Option Addr} {n c:Nat} (hp:w.cell? p=some (.slice a n c)) (hne:∀x∈l,Value.slice a n c∉enc x) (u:Value):JC enc k (w.setCell p u) ao l:=by
 rcases h with rfl|⟨b,off,rfl,hb,hc⟩
 ·exact Or.inl rfl
 ·refine Or.inr ⟨b,off,rfl,by rw[World.size_setCell];exact hb,fun i hi j x hx=> ?_⟩
  have hcell:=hc i hi j x hx
  rw[World.cell?_setCell_other]
  ·exact hcell
  ·intro e
   rw[<-e,hp] at hcell
   have hxe:x=.slice a n c:=(Option.some.inj hcell).symm
   subst hxe
   exact hne _ (List.getElem_mem hi) (List.mem_of_getElem? hx)
theorem Zq.setAt {w:World} {v:Value} {l:List Ent} (h:Zq w v l) {p:Addr} {a:Option Addr} {n c:Nat} (hp:w.cell? p=some (.slice a n c)) (u:Value):Zq (w.setCell p u) v l:=by
 obtain⟨s,rfl,ao,c',rfl,hs,h1,h2,h3⟩:=h
 exact⟨_,rfl,ao,c',rfl,hs.setAtS hp (fun x _=>by simp[Ent.cells]) u,h1,h2,h3⟩
theorem Jk9 {tb b:Nat} {F B L:Int} {fid:FuncId} {xs ys:Array Value} {root:Nat} {h':Int} {gone:Value} {fl le:Int} {kn:Bool} {pa:Int} {pg ps:Nat} {lf cs us ks:Value} (k:Nat) (pay:List UInt8) (h:Int) (w:World)
  (ht:Yj w tb F B L (.func (.func fid) xs ys) root h' gone fl le) (hv:Jq w b kn pa pg ps false lf cs us ks) (hl:Jo6 fid xs ys pa pg ps k pay 0 w) (hk:k=4) (hh:h=1) (hp:pay.length<=100000) (n:Nat) (es:List Ent) (hpe:ZO pay=(es,n)):
  Calls Tryz.prog 50 #[.pointer (some ⟨tb,0,none⟩),.pointer (some ⟨b,0,none⟩),.int .i64 h] w fun e w'=>((n=0/\∃b' a c,e=.returned (.tuple #[.pointer (some ⟨b',0,none⟩),.bool true,.int .i64 0])/\w.heap.size<=b'/\Jq w' b' true pa pg ps true (.slice a es.length c) (.slice none 0 0) (.slice none 0 0) (.slice none 0 0)/\Zq w' (.agg #[.slice a es.length c]) es)\/(n≠0/\e=.returned (.tuple #[.pointer none,.bool false,.int .i64 10])))/\Below w.heap.size w w':=by
 subst hk hh
 have HP:=Lib.hid (fun w'=>Jcn pay (by omega) w')
 rw[hpe] at HP
 clear hpe
 have c4:=hv.c4
 have c1:=hv.c1
 have c2:=hv.c2
 have c3:=hv.c3
 have t3:=ht.c3
 have hent:=hl.ent
 go_enter Tryz.func50,Tryz.ntmps50
 go_upto_region 3 with(fail)
 go_cut [9,10,11] (fun s9 s10 s11 wx=>s9=.int .u8 (4:Nat)/\s10=.string (S pay)/\s11=.int .i64 0/\Below w.heap.size w wx)
 case first=>
  go_region_law (first|(go_simp;go_at_fn fid;refine(hl.go _ (Jb (Below.refl _ _))).mono ?_;rintro e w2 ⟨rfl,hX⟩))
  all_goals
   have hX2:=(Jb (Below.refl w.heap.size w)).trans hX
   go_wp2_with fail
   go_meet
   exact⟨rfl,rfl,rfl,hX2⟩
 case rest=>
 obtain⟨rfl,rfl,rfl,hX2⟩:=hcut
 obtain⟨w2,hw2⟩:∃w2,w2=wc:=⟨_,rfl⟩
 subst hw2
 replace c1:=Ja hX2 c1
 replace c2:=Ja hX2 c2
 replace c3:=Ja hX2 c3
 have hz:=hX2.size
 have HX2:=Lib.hid hX2
 clear hX2 hl
 go_upto_region 8 with(fail)
 obtain⟨W,hW⟩:∃W,W=w2.alloc (.cells (YH true pa pg ps true (.slice none 0 0) (.slice none 0 0) (.slice none 0 0) (.slice none 0 0)).toArray 108):=⟨_,rfl⟩
 have hV:Jq W w2.heap.size true pa pg ps true (.slice none 0 0) (.slice none 0 0) (.slice none 0 0) (.slice none 0 0):=⟨by rw[hW];exact Jc.new _ _ _⟩
 have hX3:Below w.heap.size w W:=by rw[hW];exact HX2.out.alloc hz _
 have e0:w2.alloc (.cells #[.bool true,.int .i64 pa,.int .u64 pg,.int .u32 ps,.bool true,.slice none 0 0,.slice none 0 0,.slice none 0 0,.slice none 0 0] 108)=W:=hW.symm
 rw[e0]
 clear e0 hW HX2 c1 c2 c3
 go_wp2_with fail
 refine(Jl (HP.out W) W.heap.size W (Below.refl _ _) (Nat.le_refl _)).mono ?_
 rintro e w4 ⟨⟨a,c,rfl,hown⟩,hX4,-,-,-,hz4⟩
 dsimp only at hown⊢
 have hV4:=hV.on hX4
 have v5:=hV4.c5
 have vf:=hV4.fz 5
 have hB4:=Lib.hid (Zq.of_own hown)
 have hLB:=Lib.hid (hX3.trans (hX4.mono hX3.size))
 have hzw:=hLB.out.size
 by_cases hn:n=0
 ·have hn':((n:Int) !=0)=false:=by simp;omega
  go_wp2_with fail
  go_returns
  refine⟨Or.inl ⟨hn,_,a,c,rfl,hz,hV4.putL _,hB4.out.setAt v5 _⟩,hLB.out.setCell (p:=⟨w2.heap.size,5,none⟩) hz _⟩
 ·have hn':((n:Int) !=0)=true:=by simp;omega
  go_wp2_with fail
  go_returns
  exact⟨Or.inr ⟨hn,rfl⟩,hLB.out.setCell (p:=⟨w2.heap.size,5,none⟩) hz _⟩
end Go.Proofs.YtafciefjlkdecaaGreat
namespace Go.Proofs.YtafciefjlkdecaaGreat
open Go.RowKit
structure Chd where
 low:List UInt8
 addr:Int
 gen:Nat
 sum:Nat
def Chd.cells (c:Chd):List Value:=[.string (S c.low),.int .i64 c.addr,.int .u64 c.gen,.int .u32 c.sum]
structure Chd.Wf (c:Chd):Prop where
 addr: -9223372036854775808<=c.addr/\c.addr<=9223372036854775807
 gen:c.gen<18446744073709551616
 sum:c.sum<4294967296
theorem Jg0:(Tryz.prog.info? 179).map (fun i=>(i.zero,i.size,i.bytes))=some (some (.agg #[.string ByteArray.empty,.int .i64 0,.int .u64 0,.int .u32 0]),4,40):=by kernel_rfl
def cellsC (l:List Chd):List Value:=l.flatMap Chd.cells
theorem Y5:∀l:List Chd,(cellsC l).length=l.length*4
 |[]=>rfl
 |u::l=>by
  have:=Y5 l
  simp only[cellsC,List.flatMap_cons,List.length_append,List.length_cons] at*
  rw[this]
  simp[Chd.cells];omega
theorem ZF (a b:List Chd):cellsC (a++b)=cellsC a++cellsC b:=by simp[cellsC]
theorem JcM (u:Chd):cellsC [u]=Chd.cells u:=by simp[cellsC]
theorem Xd (l:List Chd):∀v∈cellsC l,v.oneCell'=true:=by
 intro v hv
 simp only[cellsC,List.mem_flatMap] at hv
 obtain⟨u,-,hv⟩:=hv
 simp only[Chd.cells,List.mem_cons,List.not_mem_nil,or_false] at hv
 rcases hv with rfl|rfl|rfl|rfl<;>rfl
theorem Ja5:∀(l:List Chd) (i:Nat) (hi:i<l.length) (j:Nat) (x:Value),(Chd.cells l[i])[j]? =some x->(cellsC l)[i*4+j]? =some x
 |[],i,hi,_,_,_=>by simp at hi
 |u::l,0,_,j,x,hx=>by
  have hj:j<(Chd.cells u).length:=(List.getElem?_eq_some_iff.1 hx).1
  simp only[cellsC,List.flatMap_cons,Nat.zero_mul,Nat.zero_add]
  rw[List.getElem?_append_left hj];exact hx
 |u::l,i+1,hi,j,x,hx=>by
  have:=Ja5 l i (by simpa using hi) j x (by simpa using hx)
  have hu:(Chd.cells u).length=4:=rfl
  simp only[cellsC,List.flatMap_cons] at*
  rw[List.getElem?_append_right (by rw[hu];omega),hu,show(i+1)*4+j-4=i*4+j by omega]
  exact this
structure SlC (w:World) (v:Value) (l:List Chd):Prop where
 form:∃ao c,v=.slice ao l.length c/\JC Chd.cells 4 w ao l/\l.length<=c/\(c:Int)<=9223372036854775807/\(ao=none->c=0)
theorem SlC.nil (w:World):SlC w (.slice none 0 0) []:=⟨none,0,rfl,Or.inl rfl,Nat.le_refl _,by omega,fun _=>rfl⟩
theorem SlC.kept {w w':World} {v:Value} {l:List Chd} {B:Nat} (h:SlC w v l) (hb:Below B w w') (hB:w.heap.size<=B):SlC w' v l:=by
 obtain⟨ao,c,rfl,h1,h2⟩:=h
 exact⟨ao,c,rfl,h1.kept hb hB,h2⟩
theorem JC.cellsC {w:World} {b off:Nat} {l:List Chd} (h:∀(i:Nat) (hi:i<l.length) (j:Nat) (x:Value),(Chd.cells l[i])[j]? =some x->w.cell? ⟨b,off+i*4+j,none⟩=some x):
  ∀j x,(cellsC l)[j]? =some x->w.cell? ⟨b,off+j,none⟩=some x:=by
 intro j x hx
 have hj:=(List.getElem?_eq_some_iff.1 hx).1
 rw[Y5] at hj
 have hi:j/4<l.length:=by omega
 have hr:j% 4<(Chd.cells l[j/4]).length:=Nat.mod_lt _ (by decide)
 have e:=Ja5 l (j/4) hi (j% 4) _ (List.getElem?_eq_getElem hr)
 rw[show j/4*4+j% 4=j by omega] at e
 rw[hx] at e
 have:=h (j/4) hi (j% 4) x (by rw[List.getElem?_eq_getElem hr,<-e])
 rw[show off+j/4*4+j% 4=off+j by omega] at this
 exact this
theorem SlC.of_own {w:World} {B n:Nat} {v:Value} {l:List Chd} (h:w.ownsRow B 179 4 v n (cellsC l)):l.length=n/\SlC w v l:=by
 have hn:l.length=n:=by have:=h.1;rw[Y5] at this;omega
 refine⟨hn,?_⟩
 subst hn
 rcases Jv h with⟨rfl,h0,-⟩|⟨g,cap,cur,rfl,-,hr,h3,h4,h5,h6⟩
 ·obtain rfl:=List.eq_nil_of_length_eq_zero h0
  exact SlC.nil w
 ·refine⟨_,cap,rfl,Or.inr ⟨g,0,rfl,hr.lt,fun i hi j x hx=> ?_⟩,h3,by unfold maxLen at h4;omega,fun e=>by simp at e⟩
  have hj:j<4:=(List.getElem?_eq_some_iff.1 hx).1
  have e:=Ja5 l i hi j x hx
  rw[hr.cell,Nat.zero_add,<-e,<-h6,List.getElem?_take,if_pos (by omega)]
theorem Jh9 (v:Value) (l:List Chd) (w:World) (h:SlC w v l) (hl:l.length<=1000000):
  Calls Tryz.prog 107 #[v] w fun e w'=>(∃v',e=.returned v'/\w'.ownsRow w.heap.size 179 4 v' l.length (cellsC l))/\Below w.heap.size w w':=by
 obtain⟨ao,c,rfl,hs,hc1,hc2,hn⟩:=h
 have hnil:=fun(w:World) a n c n' c'=>Lib.run_eql_slice_nil (P:=Tryz.prog) w 100 179 a n c n' c' Tryz.underlying100
 obtain⟨i0,hi,hz0,hz1,hz2⟩:=info_parts Jg0
 cases ao with
 |none=>
  obtain rfl:=hn rfl
  obtain rfl:l=[]:=List.eq_nil_of_length_eq_zero (by omega)
  go_enter Tryz.func107,Tryz.ntmps107
  go_wp2_with fail
  go_ret
  exact⟨⟨_,rfl,World.ownsRow_nil _ _ _ _⟩,Below.refl _ _⟩
 |some a=>
  have hown:=World.ownsRow_made (e:=179) (size:=4) (base:=w.heap.size) w #[] 0 (Nat.le_refl _) (by unfold maxLen;omega) rfl
  have hnews:∀j u,(cellsC l)[j]? =some u->(w.alloc (.cells #[] 179)).cell? (a.add j)=some u:=by
   intro j u hu
   have hj:=(List.getElem?_eq_some_iff.1 hu).1
   rw[Y5] at hj
   obtain⟨b,off,e,hb,hc⟩:=hs.at (by omega)
   obtain rfl:a=⟨b,off,none⟩:=by simpa using e
   rw[show(⟨b,off,none⟩:Addr).add j=⟨b,off+j,none⟩ by simp[Addr.add]]
   exact Jf _ (JC.cellsC hc j u hu)
  have hcl:=Y5 l
  clear hs
  go_enter Tryz.func107,Tryz.ntmps107
  go_wp2_with (at_builtin;refine wpList_append_own_at _ rfl _ _ 100 rfl w.heap.size 179 i0 (.agg #[.string ByteArray.empty,.int .i64 0,.int .u64 0,.int .u32 0]) 4 40 Tryz.underlying100 hi hz0 hz1 hz2 rfl (by decide) _ 0 [] rfl hown a l.length c (cellsC l) rfl hcl hnews (Xd l) (by unfold maxLen;omega) (by omega) (by simp) ?_;intro v' w1 hown' hgrow hnil' hat)
  go_ret
  rw[Nat.zero_add,List.nil_append] at hown'
  exact⟨⟨_,rfl,hown'⟩,Zp hgrow fun k e=>Nat.le_of_eq (Option.some.inj e)⟩
theorem JC.cells4C {w:World} {ao:Option Addr} {l:List Chd} (hs:JC Chd.cells 4 w ao l) (i:Nat) (hi:i<l.length):
  ∃b off,ao=some ⟨b,off,none⟩/\b<w.heap.size/\w.cell? ⟨b,off+i*4,none⟩=some (.string (S l[i].low))/\w.cell? ⟨b,off+i*4+1,none⟩=some (.int .i64 l[i].addr)/\w.cell? ⟨b,off+i*4+2,none⟩=some (.int .u64 l[i].gen)/\w.cell? ⟨b,off+i*4+3,none⟩=some (.int .u32 l[i].sum):=by
 obtain⟨b,off,rfl,hb,hc⟩:=hs.at (by omega)
 refine⟨b,off,rfl,hb,?_,hc i hi 1 _ rfl,hc i hi 2 _ rfl,hc i hi 3 _ rfl⟩
 have:=hc i hi 0 _ rfl
 rwa[Nat.add_zero] at this
theorem SlC.at {w:World} {a:Option Addr} {n c:Nat} {l:List Chd} (h:SlC w (.slice a n c) l):JC Chd.cells 4 w a l:=by
 obtain⟨x,y,e,h2,-⟩:=h
 simp only[Value.slice.injEq] at e
 obtain⟨rfl,-,rfl⟩:=e
 exact h2
theorem JaR {w:World} {B n:Nat} {E:TypeId} {v:Value} {l:List Chd} (h:w.ownsRow B E 4 v n (cellsC l)):l.length=n/\SlC w v l:=by
 have hn:=h.1
 rw[Y5] at hn
 have hn':l.length=n:=by omega
 subst hn'
 refine⟨rfl,?_⟩
 rcases Jv h with⟨rfl,h0,-⟩|⟨g,cap,cur,rfl,-,hr,h3,h4,h5,h6⟩
 ·obtain rfl:=List.eq_nil_of_length_eq_zero h0
  exact SlC.nil w
 ·refine⟨_,cap,rfl,Or.inr ⟨g,0,rfl,hr.lt,fun i hi j x hx=> ?_⟩,h3,by unfold maxLen at h4;omega,fun e=>by simp at e⟩
  have hj:j<4:=(List.getElem?_eq_some_iff.1 hx).1
  have e:=Ja5 l i hi j x hx
  rw[hr.cell,Nat.zero_add,<-e,<-h6,List.getElem?_take,if_pos (by omega)]
open Go.RowKit
attribute [local go_sem ↓] Go.wp_at_zero Go.wp_at_succ
theorem Jp {b o b' o':Nat} (h:b≠b'\/o≠o'):(⟨b,o,none⟩:Addr)≠⟨b',o',none⟩:=fun e=>by
 injection e with e1 e2
 omega
theorem JC.setAt {α:Type} {enc:α->List Value} {k:Nat} {w:World} {ao:Option Addr} {l:List α} (h:JC enc k w ao l) {p:Addr} {a:Option Addr} {n c:Nat} (hp:w.cell? p=some (.slice a n c)) (hne:∀x∈l,Value.slice a n c∉enc x) (u:Value):JC enc k (w.setCell p u) ao l:=by
 rcases h with rfl|⟨b,off,rfl,hb,hc⟩
 ·exact Or.inl rfl
 ·refine Or.inr ⟨b,off,rfl,by rw[World.size_setCell];exact hb,fun i hi j x hx=> ?_⟩
  have hcell:=hc i hi j x hx
  rw[World.cell?_setCell_other]
  ·exact hcell
  ·intro e
   rw[<-e,hp] at hcell
   have hxe:x=.slice a n c:=(Option.some.inj hcell).symm
   subst hxe
   exact hne _ (List.getElem_mem hi) (List.mem_of_getElem? hx)
theorem SlC.setAt {w:World} {v:Value} {l:List Chd} (h:SlC w v l) {p:Addr} {a:Option Addr} {n c:Nat} (hp:w.cell? p=some (.slice a n c)) (u:Value):SlC (w.setCell p u) v l:=by
 obtain⟨ao,c',rfl,hs,h1,h2,h3⟩:=h
 exact⟨ao,c',rfl,hs.setAt hp (fun x _=>by simp[Chd.cells]) u,h1,h2,h3⟩
theorem SlU.setAt {w:World} {v:Value} {l:List Upd} (h:SlU w v l) {p:Addr} {a:Option Addr} {n c:Nat} (hp:w.cell? p=some (.slice a n c)) (u:Value):SlU (w.setCell p u) v l:=by
 obtain⟨ao,c',rfl,hs,h1,h2,h3⟩:=h
 exact⟨ao,c',rfl,hs.setAt hp (fun x _=>by simp[Upd.cells]) u,h1,h2,h3⟩
theorem JZ.setAt {w:World} {v:Value} {l:List Upd} (h:JZ w v l) {p:Addr} {a:Option Addr} {n c:Nat} (hp:w.cell? p=some (.slice a n c)) (u:Value):JZ (w.setCell p u) v l:=by
 obtain⟨s,rfl,hs⟩:=h
 exact⟨_,rfl,hs.setAt hp u⟩
structure JA (w:World) (v:Value) (cs:List Chd) (us:List Upd):Prop where
 form:∃a b x y,v=.agg #[.slice a cs.length x,.slice b us.length y]/\SlC w (.slice a cs.length x) cs/\SlU w (.slice b us.length y) us
theorem JA.kept {w w':World} {v:Value} {cs:List Chd} {us:List Upd} {B:Nat} (h:JA w v cs us) (hb:Below B w w') (hB:w.heap.size<=B):JA w' v cs us:=by
 obtain⟨a,b,x,y,rfl,h1,h2⟩:=h
 exact⟨a,b,x,y,rfl,h1.kept hb hB,h2.kept hb hB⟩
theorem JA.mk' {w:World} {a b:Option Addr} {x y n m:Nat} {cs:List Chd} {us:List Upd} (h1:SlC w (.slice a n x) cs) (h2:SlU w (.slice b m y) us):JA w (.agg #[.slice a n x,.slice b m y]) cs us:=by
 obtain⟨a',x',e1,-⟩:=id h1
 obtain⟨b',y',e2,-⟩:=id h2
 simp only[Value.slice.injEq] at e1 e2
 obtain⟨rfl,rfl,rfl⟩:=e1
 obtain⟨rfl,rfl,rfl⟩:=e2
 exact⟨_,_,_,_,rfl,h1,h2⟩
theorem JfD {W w':World} {row:Option Nat} (hb:Below W.heap.size W w'):W.grownBy w' row:=
 ⟨hb.os,hb.tape,hb.output,hb.size,fun i hi _=>hb.block i hi⟩
theorem JA.setAt {w:World} {v:Value} {cs:List Chd} {us:List Upd} (h:JA w v cs us) {p:Addr} {a:Option Addr} {n c:Nat} (hp:w.cell? p=some (.slice a n c)) (u:Value):JA (w.setCell p u) v cs us:=by
 obtain⟨a',b,x,y,rfl,h1,h2⟩:=h
 exact⟨a',b,x,y,rfl,h1.setAt hp u,h2.setAt hp u⟩
def Jbk (l:List Chd) (k:List UInt8):Nat->Int
 |0=> -1
 |j+1=>if h:j<l.length then(if bl k l[j].low=true then Jbk l k j else(j:Int)) else Jbk l k j
theorem Jl4 (l:List Chd) (k:List UInt8):∀j,-1<=Jbk l k j/\Jbk l k j<j
 |0=>by unfold Jbk;omega
 |j+1=>by
  have:=Jl4 l k j
  unfold Jbk
  split
  ·split<;>omega
  ·omega
theorem JfT {l:List Chd} {k:List UInt8} {j:Nat} (h:j<l.length) (hb:bl k l[j].low=false):Jbk l k (j+1)=j:=by
 rw[Jbk,dif_pos h,if_neg (by rw[hb];simp)]
theorem Jl3 {l:List Chd} {k:List UInt8} {j:Nat} (h:j<l.length) (hb:bl k l[j].low=true):Jbk l k (j+1)=Jbk l k j:=by
 rw[Jbk,dif_pos h,if_pos hb]
def Xn (l:List Chd) (k:List UInt8):Int:=Jbk l k l.length
theorem Jhc (v:Value) (cs:List Chd) (us:List Upd) (k:List UInt8) (w:World) (h:JA w v cs us) (hl:cs.length<=1000):
  Calls Tryz.prog 55 #[v,.string (S k)] w fun e w'=>e=.returned (.int .i64 (Xn cs k))/\Below w.heap.size w w':=by
 obtain⟨a,b,x,y,rfl,h1,-⟩:=h
 have hs:=h1.at
 clear h1
 go_enter Tryz.func55,Tryz.ntmps55
 go_wp2_with fail
 go_loopw [11,5] (fun i t wr=>∃j:Nat,i=.int .i64 j/\j<=cs.length/\t=.int .i64 (Jbk cs k j)/\Below w.heap.size w wr) (fun i _ _=>cs.length- (intOf i).toNat)
 case atStart=>exact⟨0,rfl,Nat.zero_le _,rfl,by go_grown⟩
 case round=>
  obtain⟨j,rfl,hj,rfl,hB⟩:=hrel
  have hj0:(0:Int)<=(j:Int):=Int.natCast_nonneg _
  by_cases hjl:j<cs.length
  ·have hj1:(j:Int)<(cs.length:Int):=by omega
   obtain⟨b0,off,rfl,hb,t0,t1,t2,t3⟩:=hs.cells4C j hjl
   have q0:=(Jh hB hb _).trans t0
   have q1:=(Jh hB hb _).trans t1
   have q2:=(Jh hB hb _).trans t2
   have q3:=(Jh hB hb _).trans t3
   clear t0 t1 t2 t3
   cases hb1:bl k cs[j].low with
   |true=>
    have HC:=Lib.hid (Jl3 hjl hb1)
    have hb':Op.bytesLess cs[j].low k=false:=XG hb1
    have he':(cs[j].low==k)=false:=by simpa using fun e:cs[j].low=k=>ZY hb1 e.symm
    clear hb1
    generalize cs[j]=c at*
    have HB:=Lib.hid (hB.alloc hB.size (.cells #[.string (S c.low),.int .i64 c.addr,.int .u64 c.gen,.int .u32 c.sum] 179))
    clear hB
    go_wp2_with fail
    go_roundw
    (case rel=>exact⟨j+1,by go_num,by omega,by rw[HC.out],HB.out⟩)
    (case measure=>first|(simp[intOf];done)|(simp[intOf];omega))
   |false=>
    have HC:=Lib.hid (JfT hjl hb1)
    rcases JcO hb1 with e|e
    ·have he':(cs[j].low==k)=true:=by simpa using e
     clear hb1 e
     generalize cs[j]=c at*
     have HB:=Lib.hid (hB.alloc hB.size (.cells #[.string (S c.low),.int .i64 c.addr,.int .u64 c.gen,.int .u32 c.sum] 179))
     clear hB
     go_wp2_with fail
     go_roundw
     (case rel=>exact⟨j+1,by go_num,by omega,by rw[HC.out],HB.out⟩)
     (case measure=>first|(simp[intOf];done)|(simp[intOf];omega))
    ·have hb':Op.bytesLess cs[j].low k=true:=e
     clear hb1 e
     generalize cs[j]=c at*
     have HB:=Lib.hid (hB.alloc hB.size (.cells #[.string (S c.low),.int .i64 c.addr,.int .u64 c.gen,.int .u32 c.sum] 179))
     clear hB
     go_wp2_with fail
     go_roundw
     (case rel=>exact⟨j+1,by go_num,by omega,by rw[HC.out],HB.out⟩)
     (case measure=>first|(simp[intOf];done)|(simp[intOf];omega))
  ·obtain rfl:j=cs.length:=by omega
   go_wp2_with fail
   go_ret
   exact⟨rfl,hB⟩
def Yv (cs:List Chd) (i:Int):List UInt8:=if i<0 then[] else(cs[i.toNat]?.map Chd.low).getD []
def JX (cs:List Chd) (i:Int):List UInt8:=if i<0 then[] else if i.toNat<cs.length then(cs[i.toNat+1]?.map Chd.low).getD [] else[]
theorem JgJ (v:Value) (cs:List Chd) (us:List Upd) (i:Int) (w:World) (h:JA w v cs us) (hl:cs.length<=1000) (hi: -9223372036854775808<=i/\i<=9223372036854775807):
  Calls Tryz.prog 76 #[v,.int .i64 i] w fun e w'=>e=.returned (.tuple #[.string (S (Yv cs i)),.string (S (JX cs i))])/\Below w.heap.size w w':=by
 obtain⟨a,b,x,y,rfl,h1,-⟩:=h
 have hs:=h1.at
 clear h1
 by_cases h0:i<0
 ·have HL:=Lib.hid (show Yv cs i=[] by unfold Yv;rw[if_pos h0])
  have HH:=Lib.hid (show JX cs i=[] by unfold JX;rw[if_pos h0])
  have hd:decide (i<0)=true:=by simpa using h0
  go_enter Tryz.func76,Tryz.ntmps76
  go_wp2_with fail
  go_ret2
  exact⟨by rw[HL.out,HH.out];rfl,by go_grown⟩
 ·obtain⟨q,rfl⟩:∃q:Nat,i=(q:Int):=⟨i.toNat,by omega⟩
  have hq0:(0:Int)<=(q:Int):=Int.natCast_nonneg _
  by_cases hq:q<cs.length
  ·obtain⟨b0,off,rfl,hb,t0,-,-,-⟩:=hs.cells4C q hq
   have q0:=Jf (.cells #[.slice (some ⟨b0,off,none⟩) cs.length x,.slice b us.length y] 105) t0
   have hq1:(q:Int)<(cs.length:Int):=by omega
   have HL:=Lib.hid (show Yv cs q=cs[q].low by unfold Yv;rw[if_neg h0,Int.toNat_natCast,List.getElem?_eq_getElem hq];rfl)
   by_cases hq2:q+1<cs.length
   ·obtain⟨b1,off1,e1,hb1,u0,-,-,-⟩:=hs.cells4C (q+1) hq2
    simp only[Option.some.injEq,Addr.mk.injEq,and_true] at e1
    obtain⟨rfl,rfl⟩:=e1
    have q1:=Jf (.cells #[.slice (some ⟨b0,off,none⟩) cs.length x,.slice b us.length y] 105) u0
    have HH:=Lib.hid (show JX cs q=cs[q+1].low by unfold JX;rw[if_neg h0,Int.toNat_natCast,if_pos hq,List.getElem?_eq_getElem hq2];rfl)
    have hq3:(q:Int)+1<(cs.length:Int):=by omega
    clear t0 u0 hs h0
    generalize cs[q]=c0 at*
    generalize cs[q+1]=c1 at*
    go_enter Tryz.func76,Tryz.ntmps76
    go_wp2_with fail
    go_ret2
    exact⟨by rw[HL.out,HH.out];rfl,by go_grown⟩
   ·have HH:=Lib.hid (show JX cs q=[] by unfold JX;rw[if_neg h0,Int.toNat_natCast,if_pos hq,List.getElem?_eq_none (by omega)];rfl)
    have hq3:¬(q:Int)+1<(cs.length:Int):=by omega
    clear t0 hs h0
    generalize cs[q]=c0 at*
    go_enter Tryz.func76,Tryz.ntmps76
    go_wp2_with fail
    go_ret2
    exact⟨by rw[HL.out,HH.out];rfl,by go_grown⟩
  ·have HL:=Lib.hid (show Yv cs q=[] by unfold Yv;rw[if_neg h0,Int.toNat_natCast,List.getElem?_eq_none (by omega)];rfl)
   have HH:=Lib.hid (show JX cs q=[] by unfold JX;rw[if_neg h0,Int.toNat_natCast,if_neg hq])
   have hq3:(cs.length:Int)<=(q:Int):=by omega
   clear hs h0
   go_enter Tryz.func76,Tryz.ntmps76
   go_wp2_with fail
   go_ret2
   exact⟨by rw[HL.out,HH.out];rfl,by go_grown⟩
end Go.Proofs.YtafciefjlkdecaaGreat
namespace Go.Proofs.YtafciefjlkdecaaGreat
open Go.RowKit
theorem Jpc (ts:Array TypeId) (ty:TypeId) (a:Addr) (s m:ByteArray):Builtin.ssaWrapNilChk_ ts ty #[.pointer (some a),.string s,.string m]=pure (.pointer (some a)):=rfl
theorem Jfp {P:Program} {t e:TypeId} {name:String} {f:FuncId} {i:TypeInfo} {m:Go.Method} (hi:P.info? t=some i) (hm:i.methods.find? (·.name==name)=some m) (hp:m.path= #[]) (hf:m.func=some (f,false))
  (ht:P.underlying t=some (.pointer e)) (hag:∀w,(isAgg e).run P w=.ok false w) (k:Nat) (a:Addr) (v:Value) (w:World) (hc:w.cell? a=some v):
  (method (k+1) t (.pointer (some a)) name).run P w=.ok (f,v) w:=by
 unfold method
 simp[typeInfo,hi,hm,hp,hf,follow,receiverAt,run_underlying ht,Place.get,strVal,Jpc,loadVar,asAddr,hag,hc]
theorem Jn5 {P:Program} {t e:TypeId} {name:String} {f:FuncId} {i:TypeInfo} {m:Go.Method} (hi:P.info? t=some i) (hm:i.methods.find? (·.name==name)=some m) (hp:m.path= #[]) (hf:m.func=some (f,true))
  (ht:P.underlying t=some (.pointer e)) (k:Nat) (a:Addr) (w:World):
  (method (k+1) t (.pointer (some a)) name).run P w=.ok (f,.pointer (some a)) w:=by
 unfold method
 simp[typeInfo,hi,hm,hp,hf,follow,receiverAt,run_underlying ht,Place.get]
theorem Ja0 {P:Program} {t:TypeId} {name:String} {f:FuncId} {b:Bool} (h:((P.info? t).bind fun i=>(i.methods.find? (·.name==name)).map fun m=>(m.path,m.func))=some (#[],some (f,b))):
  ∃(i:TypeInfo) (m:Go.Method),P.info? t=some i/\i.methods.find? (·.name==name)=some m/\m.path= #[]/\m.func=some (f,b):=by
 obtain⟨i,hi,h⟩:=Option.bind_eq_some_iff.1 h
 obtain⟨m,hm,h⟩:=Option.map_eq_some_iff.1 h
 simp only[Prod.mk.injEq] at h
 exact⟨i,m,hi,hm,h.1,h.2⟩
theorem Ja1 (w:World):(isAgg 288).run Tryz.prog w=.ok false w:=by kernel_rfl
theorem Jrf:((Tryz.prog.info? 279).bind fun i=>(i.methods.find? (·.name== "Len")).map fun m=>(m.path,m.func))=some (#[],some (178,false)):=by kernel_rfl
theorem JqI:((Tryz.prog.info? 279).bind fun i=>(i.methods.find? (·.name== "Less")).map fun m=>(m.path,m.func))=some (#[],some (207,false)):=by kernel_rfl
theorem JqH:((Tryz.prog.info? 279).bind fun i=>(i.methods.find? (·.name== "Swap")).map fun m=>(m.path,m.func))=some (#[],some (209,false)):=by kernel_rfl
theorem Jre:((Tryz.prog.info? 279).bind fun i=>(i.methods.find? (·.name== "Pop")).map fun m=>(m.path,m.func))=some (#[],some (208,true)):=by kernel_rfl
theorem JoM (k:Nat) (a:Addr) (v:Value) (w:World) (hc:w.cell? a=some v):(method (k+1) 279 (.pointer (some a)) "Len").run Tryz.prog w=.ok (178,v) w:=by
 obtain⟨i,m,h1,h2,h3,h4⟩:=Ja0 Jrf
 exact Jfp h1 h2 h3 h4 Tryz.underlying279 Ja1 k a v w hc
theorem Jni (k:Nat) (a:Addr) (v:Value) (w:World) (hc:w.cell? a=some v):(method (k+1) 279 (.pointer (some a)) "Less").run Tryz.prog w=.ok (207,v) w:=by
 obtain⟨i,m,h1,h2,h3,h4⟩:=Ja0 JqI
 exact Jfp h1 h2 h3 h4 Tryz.underlying279 Ja1 k a v w hc
theorem Jnh (k:Nat) (a:Addr) (v:Value) (w:World) (hc:w.cell? a=some v):(method (k+1) 279 (.pointer (some a)) "Swap").run Tryz.prog w=.ok (209,v) w:=by
 obtain⟨i,m,h1,h2,h3,h4⟩:=Ja0 JqH
 exact Jfp h1 h2 h3 h4 Tryz.underlying279 Ja1 k a v w hc
theorem JoL (k:Nat) (a:Addr) (w:World):(method (k+1) 279 (.pointer (some a)) "Pop").run Tryz.prog w=.ok (208,.pointer (some a)) w:=by
 obtain⟨i,m,h1,h2,h3,h4⟩:=Ja0 Jre
 exact Jn5 h1 h2 h3 h4 Tryz.underlying279 k a w
theorem ZN (ao:Option Addr) (n cap:Nat) (w:World):
  Calls Tryz.prog 178 #[.slice ao n cap] w fun e w'=>e=.returned (.int .i64 n)/\w=w':=by
 go_enter Tryz.func178,Tryz.ntmps178
 go_wp2
 go_ret
 exact⟨rfl,rfl⟩
def ahead (a b:Int×Int):Bool:=decide (b.2<a.2\/(a.2=b.2/\a.1<b.1))
theorem JiT (g n cap i k:Nat) (a b:Int×Int) (w:World) (hi:i<n) (hk:k<n)
  (ca:w.cell? ⟨g,i*2,none⟩=some (.int .i64 a.1)) (cb:w.cell? ⟨g,i*2+1,none⟩=some (.int .i64 a.2))
  (da:w.cell? ⟨g,k*2,none⟩=some (.int .i64 b.1)) (db:w.cell? ⟨g,k*2+1,none⟩=some (.int .i64 b.2)):
  Calls Tryz.prog 207 #[.slice (some ⟨g,0,none⟩) n cap,.int .i64 i,.int .i64 k] w fun e w'=>e=.returned (.bool (ahead a b))/\∃m,w'=w.drewN m:=by
 obtain⟨a1,a2⟩:=a
 obtain⟨b1,b2⟩:=b
 dsimp only at ca cb da db
 have hi0:(0:Int)<=(i:Int):=Int.natCast_nonneg _
 have hi1:(i:Int)<(n:Int):=by omega
 have hk0:(0:Int)<=(k:Int):=Int.natCast_nonneg _
 have hk1:(k:Int)<(n:Int):=by omega
 by_cases h1:b2<a2
 ·have Hv:=Lib.hid (show ahead (a1,a2) (b1,b2)=true by simp[ahead,h1])
  go_enter Tryz.func207,Tryz.ntmps207
  go_wp2_with fail
  go_quiet (fail)
  go_wp2_with fail
  go_ret
  exact⟨Jaz (by rw[Hv.out]),⟨_,rfl⟩⟩
 ·have h1':decide (b2<a2)=false:=by simpa using h1
  clear h1
  by_cases h2:a2=b2
  ·subst h2
   have Hv:=Lib.hid (show ahead (a1,a2) (b1,a2)=decide (a1<b1) by simp[ahead])
   go_enter Tryz.func207,Tryz.ntmps207
   go_wp2_with fail
   go_quiet (fail)
   go_wp2_with fail
   go_ret
   exact⟨Jaz (by rw[Hv.out]),⟨_,rfl⟩⟩
  ·have Hv:=Lib.hid (show ahead (a1,a2) (b1,b2)=false by simp[ahead,h2];simpa using h1')
   have h2':(a2==b2)=false:=by simpa using h2
   clear h2
   go_enter Tryz.func207,Tryz.ntmps207
   go_wp2_with fail
   go_quiet (fail)
   go_wp2_with fail
   go_ret
   exact⟨Jaz (by rw[Hv.out]),⟨_,rfl⟩⟩
open Go.RowKit
structure Yu (p g:Nat) (w w':World):Prop where
 os:w'.os=w.os
 tape:w'.tape=w.tape
 output:w'.output=w.output
 size:w.heap.size<=w'.heap.size
 block:∀k,k<w.heap.size->k≠p->k≠g->w'.heap[k]? =w.heap[k]?
theorem Yu.refl (p g:Nat) (w:World):Yu p g w w:=⟨rfl,rfl,rfl,Nat.le_refl _,fun _ _ _ _=>rfl⟩
theorem Yu.trans {p g:Nat} {a b c:World} (h:Yu p g a b) (k:Yu p g b c):Yu p g a c:=
 ⟨k.os.trans h.os,k.tape.trans h.tape,k.output.trans h.output,Nat.le_trans h.size k.size,fun i hi h1 h2=>(k.block i (Nat.lt_of_lt_of_le hi h.size) h1 h2).trans (h.block i hi h1 h2)⟩
theorem Yu.drewN {p g:Nat} {a b:World} (h:Yu p g a b) (n:Nat):Yu p g a (b.drewN n):=⟨h.os,h.tape,h.output,h.size,h.block⟩
theorem Yu.drew {p g:Nat} {a b:World} (h:Yu p g a b):Yu p g a b.drew:=⟨h.os,h.tape,h.output,h.size,h.block⟩
theorem Yu.alloc {p g:Nat} {a b:World} (h:Yu p g a b) (o:Obj):Yu p g a (b.alloc o):=
 h.trans ⟨rfl,rfl,rfl,by simp,fun k hk _ _=>Below.heap_alloc _ _ _ hk⟩
theorem Yu.setCell {p g:Nat} {a b:World} (h:Yu p g a b) {x:Addr} (hx:x.block=p\/x.block=g) (v:Value):Yu p g a (b.setCell x v):=
 h.trans ⟨rfl,rfl,rfl,by simp,fun k _ h1 h2=>Below.heap_setCell _ _ _ _ (by rcases hx with e|e<;>rw[e]<;>assumption)⟩
theorem Yu.below {p g B:Nat} {a b:World} (h:Yu p g a b) (hp:B<=p) (hg:B<=g) (hB:B<=a.heap.size):Below B a b:=
 ⟨h.os,h.tape,h.output,h.size,fun k hk=>h.block k (by omega) (by omega) (by omega)⟩
structure JU (p g cap:Nat) (l:List (Int×Int)) (w:World):Prop where
 head:w.cell? ⟨p,0,none⟩=some (.slice (some ⟨g,0,none⟩) l.length cap)
 free:∀o,w.frozen? ⟨p,o,none⟩=false
 ne:g≠p
 fits:l.length<=cap/\cap<=9223372036854775807
 cells:∀i (h:i<l.length),w.cell? ⟨g,i*2,none⟩=some (.int .i64 l[i].1)/\w.cell? ⟨g,i*2+1,none⟩=some (.int .i64 l[i].2)
 gfree:∀o,w.frozen? ⟨g,o,none⟩=false
theorem JU.drewN {p g cap:Nat} {l:List (Int×Int)} {w:World} (h:JU p g cap l w) (n:Nat):JU p g cap l (w.drewN n):=⟨h.head,h.free,h.ne,h.fits,h.cells,h.gfree⟩
theorem JU.drew {p g cap:Nat} {l:List (Int×Int)} {w:World} (h:JU p g cap l w):JU p g cap l w.drew:=⟨h.head,h.free,h.ne,h.fits,h.cells,h.gfree⟩
def Z5 (l:List (Int×Int)) (i k:Nat):List (Int×Int):=(l.set i (l.getD k (0,0))).set k (l.getD i (0,0))
theorem JJ (l:List (Int×Int)) (i k:Nat):(Z5 l i k).length=l.length:=by simp[Z5]
theorem Jgx (l:List (Int×Int)) (i k j:Nat) (hi:i<l.length) (hk:k<l.length) (hj:j<(Z5 l i k).length):
  (Z5 l i k)[j]=if j=k then l[i] else if j=i then l[k] else l[j]'(by rwa[JJ] at hj):=by
 simp only[Z5,List.getElem_set,List.getD,List.getElem?_eq_getElem hi,List.getElem?_eq_getElem hk,Option.getD_some]
 by_cases h1:j=k
 ·subst h1;simp
 ·by_cases h2:j=i
  ·subst h2;simp[h1,Ne.symm h1]
  ·simp[h1,h2,Ne.symm h1,Ne.symm h2]
theorem ZT {w:World} {g o o':Nat} {v u:Value} (h:w.cell? ⟨g,o',none⟩=some u):(w.setCell ⟨g,o,none⟩ v).cell? ⟨g,o',none⟩=some (if o'=o then v else u):=by
 by_cases e:o'=o
 ·subst e;rw[if_pos rfl];exact World.cell?_setCell_same _ _ _ h
 ·rw[if_neg e,World.cell?_setCell_other _ _ _ _ (fun x=>e (congrArg Addr.off x).symm)];exact h
theorem JaH {w:World} {g p o o':Nat} {v u:Value} (hne:g≠p) (h:w.cell? ⟨p,o',none⟩=some u):(w.setCell ⟨g,o,none⟩ v).cell? ⟨p,o',none⟩=some u:=by
 rw[World.cell?_setCell_other _ _ _ _ (fun x=>hne (congrArg Addr.block x))];exact h
theorem JeW {p g cap:Nat} {l:List (Int×Int)} {w:World} (h:JU p g cap l w) {i k:Nat} (hi:i<l.length) (hk:k<l.length):
  JU p g cap (Z5 l i k) ((((w.setCell ⟨g,i*2,none⟩ (.int .i64 l[k].1)).setCell ⟨g,i*2+1,none⟩ (.int .i64 l[k].2)).setCell ⟨g,k*2,none⟩ (.int .i64 l[i].1)).setCell ⟨g,k*2+1,none⟩ (.int .i64 l[i].2)):=by
 have hne:=h.ne
 refine⟨?_,?_,h.ne,by rw[JJ];exact h.fits,?_,?_⟩
 ·rw[JJ]
  exact JaH hne (JaH hne (JaH hne (JaH hne h.head)))
 ·intro o;simp only[World.frozen?_setCell];exact h.free o
 ·intro j hj
  have hj':j<l.length:=by rwa[JJ] at hj
  rw[Jgx l i k j hi hk hj]
  obtain⟨c0,c1⟩:=h.cells j hj'
  have e0:=ZT (o:=k*2+1) (v:=.int .i64 l[i].2) (ZT (o:=k*2) (v:=.int .i64 l[i].1) (ZT (o:=i*2+1) (v:=.int .i64 l[k].2) (ZT (o:=i*2) (v:=.int .i64 l[k].1) c0)))
  have e1:=ZT (o:=k*2+1) (v:=.int .i64 l[i].2) (ZT (o:=k*2) (v:=.int .i64 l[i].1) (ZT (o:=i*2+1) (v:=.int .i64 l[k].2) (ZT (o:=i*2) (v:=.int .i64 l[k].1) c1)))
  rw[e0,e1]
  by_cases h1:j=k
  ·subst h1
   constructor<;>(repeat' split)<;>first|rfl|(exfalso;omega)
  ·by_cases h2:j=i
   ·subst h2
    constructor<;>(repeat' split)<;>first|rfl|(exfalso;omega)
   ·constructor<;>(repeat' split)<;>first|rfl|(exfalso;omega)
 ·intro o;simp only[World.frozen?_setCell];exact h.gfree o
theorem JiS (p g cap:Nat) (l:List (Int×Int)) (i k:Nat) (w:World) (h:JU p g cap l w) (hi:i<l.length) (hk:k<l.length) (hik:i≠k):
  Calls Tryz.prog 209 #[.slice (some ⟨g,0,none⟩) l.length cap,.int .i64 i,.int .i64 k] w fun e w'=>e=.returned (.tuple #[])/\JU p g cap (Z5 l i k) w'/\Yu p g w w':=by
 obtain⟨ca,cb⟩:=h.cells i hi
 obtain⟨da,db⟩:=h.cells k hk
 have hf:=h.gfree
 have hi0:(0:Int)<=(i:Int):=Int.natCast_nonneg _
 have hi1:(i:Int)<(l.length:Int):=by omega
 have hk0:(0:Int)<=(k:Int):=Int.natCast_nonneg _
 have hk1:(k:Int)<(l.length:Int):=by omega
 go_enter Tryz.func209,Tryz.ntmps209
 go_wp2_with fail
 go_region
 go_wp2_with fail
 go_end0
 exact⟨rfl,(JeW h hi hk).drew,((((((Yu.refl p g w).setCell (Or.inr rfl) _).setCell (Or.inr rfl) _).setCell (Or.inr rfl) _).setCell (Or.inr rfl) _)).drew⟩
theorem JdE (p g cap:Nat) (l:List (Int×Int)) (i:Nat) (w:World) (h:JU p g cap l w) (hi:i<l.length):
  Calls Tryz.prog 209 #[.slice (some ⟨g,0,none⟩) l.length cap,.int .i64 i,.int .i64 i] w fun e w'=>e=.returned (.tuple #[])/\JU p g cap (Z5 l i i) w'/\Yu p g w w':=by
 obtain⟨ca,cb⟩:=h.cells i hi
 have hf:=h.gfree
 have hi0:(0:Int)<=(i:Int):=Int.natCast_nonneg _
 have hi1:(i:Int)<(l.length:Int):=by omega
 go_enter Tryz.func209,Tryz.ntmps209
 go_wp2_with fail
 go_region
 go_wp2_with fail
 go_end0
 exact⟨rfl,(JeW h hi hi).drew,((((((Yu.refl p g w).setCell (Or.inr rfl) _).setCell (Or.inr rfl) _).setCell (Or.inr rfl) _).setCell (Or.inr rfl) _)).drew⟩
theorem Jew (p g cap:Nat) (l:List (Int×Int)) (i k:Nat) (w:World) (h:JU p g cap l w) (hi:i<l.length) (hk:k<l.length):
  Calls Tryz.prog 209 #[.slice (some ⟨g,0,none⟩) l.length cap,.int .i64 i,.int .i64 k] w fun e w'=>e=.returned (.tuple #[])/\JU p g cap (Z5 l i k) w'/\Yu p g w w':=by
 by_cases e:i=k
 ·subst e;exact JdE p g cap l i w h hi
 ·exact JiS p g cap l i k w h hi hk e
theorem JU.alloc {p g cap:Nat} {l:List (Int×Int)} {w:World} (h:JU p g cap l w) (hg:g<w.heap.size) (o:Obj):JU p g cap l (w.alloc o):=by
 have hp:=World.block_lt_of_cell? w _ h.head
 refine⟨Jf o h.head,fun i=> ?_,h.ne,h.fits,fun i hi=>⟨Jf o (h.cells i hi).1,Jf o (h.cells i hi).2⟩,fun i=> ?_⟩
 ·exact(World.frozen?_alloc_old _ _ _ (by show p≠_;exact Nat.ne_of_lt hp)).trans (h.free i)
 ·exact(World.frozen?_alloc_old _ _ _ (by show g≠_;exact Nat.ne_of_lt hg)).trans (h.gfree i)
theorem JmI {p g cap:Nat} {l:List (Int×Int)} {x:Int×Int} {w:World} (h:JU p g cap (l++[x]) w):JU p g cap l (w.setCell ⟨p,0,none⟩ (.slice (some ⟨g,0,none⟩) l.length cap)):=by
 have hf:=h.fits
 rw[List.length_append,List.length_singleton] at hf
 refine⟨World.cell?_setCell_same _ _ _ h.head,fun o=>by rw[World.frozen?_setCell];exact h.free o,h.ne,by omega,fun i hi=> ?_,fun o=>by rw[World.frozen?_setCell];exact h.gfree o⟩
 have hc:=h.cells i (by simp;omega)
 rw[List.getElem_append_left hi] at hc
 exact⟨JaH h.ne.symm hc.1,JaH h.ne.symm hc.2⟩
theorem Jky (p g cap:Nat) (l:List (Int×Int)) (x:Int×Int) (w:World) (h:JU p g cap (l++[x]) w):
  Calls Tryz.prog 208 #[.pointer (some ⟨p,0,none⟩)] w fun e w'=>e=.returned (.iface 282 (.agg #[.int .i64 x.1,.int .i64 x.2]))/\JU p g cap l w'/\Yu p g w w':=by
 have hd:=h.head
 have hf:=h.free 0
 have hfit:=h.fits
 obtain⟨c0,c1⟩:=h.cells l.length (by simp)
 rw[List.length_append,List.length_singleton] at hd hfit
 simp only[List.getElem_append_right (Nat.le_refl _),Nat.sub_self,List.getElem_cons_zero] at c0 c1
 obtain⟨hfit1,hfit2⟩:=hfit
 have hp:=World.block_lt_of_cell? w _ hd
 have hn:=h.ne
 go_enter Tryz.func208,Tryz.ntmps208
 go_wp2_with fail
 go_ret
 exact⟨rfl,(JmI h).alloc (by rw[World.size_setCell];exact World.block_lt_of_cell? w _ c0) _,((Yu.refl p g w).setCell (Or.inl rfl) _).alloc _⟩
open Go.RowKit
def JhP (P:Program) (t:TypeId) (name:String) (f:FuncId) (k:Nat) (a:Addr) (w:World):Option Value->Result (FuncId×Value)
 |some v=>.ok (f,v) w
 |none=>(method (k+1) t (.pointer (some a)) name).run P w
@[go_sem] theorem Jqj (P :Program) (t:TypeId) (name:String) (f:FuncId) (k:Nat) (a:Addr) (w:World) (v:Value):JhP P t name f k a w (some v)=.ok (f,v) w:=rfl
theorem Jll (k:Nat) (a:Addr) (w:World):(method (k+1) 279 (.pointer (some a)) "Len").run Tryz.prog w=JhP Tryz.prog 279 "Len" 178 k a w (w.cell? a):=by
 cases h:w.cell? a with
 |none=>rfl
 |some v=>exact JoM k a v w h
theorem Jp8 (k:Nat) (a:Addr) (w:World):(method (k+1) 279 (.pointer (some a)) "Less").run Tryz.prog w=JhP Tryz.prog 279 "Less" 207 k a w (w.cell? a):=by
 cases h:w.cell? a with
 |none=>rfl
 |some v=>exact Jni k a v w h
theorem Jl5 (k:Nat) (a:Addr) (w:World):(method (k+1) 279 (.pointer (some a)) "Swap").run Tryz.prog w=JhP Tryz.prog 279 "Swap" 209 k a w (w.cell? a):=by
 cases h:w.cell? a with
 |none=>rfl
 |some v=>exact Jnh k a v w h
def pl (l:List (Int×Int)) (i:Nat):Int×Int:=l.getD i (0,0)
theorem Jat {l:List (Int×Int)} {i:Nat} (h:i<l.length):pl l i=l[i]:=by simp[pl,h]
theorem Jb1 (p g cap:Nat) (l:List (Int×Int)) (i k:Int) (w:World) (h:JU p g cap l w) (i0:0<=i) (hi:i<l.length) (k0:0<=k) (hk:k<l.length):
  Calls Tryz.prog 207 #[.slice (some ⟨g,0,none⟩) l.length cap,.int .i64 i,.int .i64 k] w fun e w'=>e=.returned (.bool (ahead (pl l i.toNat) (pl l k.toNat)))/\∃m,w'=w.drewN m:=by
 obtain⟨a,rfl⟩:=Int.eq_ofNat_of_zero_le i0
 obtain⟨b,rfl⟩:=Int.eq_ofNat_of_zero_le k0
 have ha:a<l.length:=by omega
 have hb:b<l.length:=by omega
 rw[Int.toNat_natCast,Int.toNat_natCast,Jat ha,Jat hb]
 exact JiT g l.length cap a b l[a] l[b] w ha hb (h.cells a ha).1 (h.cells a ha).2 (h.cells b hb).1 (h.cells b hb).2
theorem JbQ (p g cap:Nat) (l:List (Int×Int)) (i k:Int) (w:World) (h:JU p g cap l w) (i0:0<=i) (hi:i<l.length) (k0:0<=k) (hk:k<l.length):
  Calls Tryz.prog 209 #[.slice (some ⟨g,0,none⟩) l.length cap,.int .i64 i,.int .i64 k] w fun e w'=>e=.returned (.tuple #[])/\JU p g cap (Z5 l i.toNat k.toNat) w'/\Yu p g w w':=by
 obtain⟨a,rfl⟩:=Int.eq_ofNat_of_zero_le i0
 obtain⟨b,rfl⟩:=Int.eq_ofNat_of_zero_le k0
 rw[Int.toNat_natCast,Int.toNat_natCast]
 exact Jew p g cap l a b w h (by omega) (by omega)
def YT (l:List (Int×Int)) (i n:Nat):Nat:=if 2*i+2<n/\ahead (pl l (2*i+2)) (pl l (2*i+1))=true then 2*i+2 else 2*i+1
def ZC:Nat->List (Int×Int)->Nat->Nat->List (Int×Int)
 |0,l,_,_=>l
 |f+1,l,i,n=>
  if 2*i+1<n then
   if ahead (pl l (YT l i n)) (pl l i)=true then ZC f (Z5 l i (YT l i n)) (YT l i n) n else l
  else l
theorem JfL {f i n:Nat} {l:List (Int×Int)} (h:2*i+1<n) (k:ahead (pl l (YT l i n)) (pl l i)=true):ZC (f+1) l i n=ZC f (Z5 l i (YT l i n)) (YT l i n) n:=by
 rw[ZC,if_pos h,if_pos k]
theorem JcJ {f i n:Nat} {l:List (Int×Int)} (h:2*i+1<n) (k:ahead (pl l (YT l i n)) (pl l i)=false):ZC (f+1) l i n=l:=by
 rw[ZC,if_pos h,if_neg (by rw[k];simp)]
theorem Jlb {f i n:Nat} {l:List (Int×Int)} (h:¬2*i+1<n):ZC f l i n=l:=by
 cases f with
 |zero=>rfl
 |succ f=>rw[ZC,if_neg h]
theorem Jb7 {l:List (Int×Int)} {i n:Nat} (h:2*i+1<n):YT l i n<n/\i<YT l i n:=by
 unfold YT;split<;>omega
def Jo2 (e:Ending):Prop:=∃b:Bool,e=.returned (.bool b)
theorem JjB (p g cap:Nat) (l:List (Int×Int)) (i n:Int) (w:World) (h:JU p g cap l w) (i0:0<=i) (n0:0<=n) (hn:n<=l.length) (hin:i<=n) (hl:l.length<=1000000000):
  Calls Tryz.prog 185 #[.iface 279 (.pointer (some ⟨p,0,none⟩)),.int .i64 i,.int .i64 n] w fun e w'=>Jo2 e/\JU p g cap (ZC n.toNat l i.toNat n.toNat) w'/\Yu p g w w':=by
 have hLess:=fun k a w=>Jp8 k a w
 have hSwap:=fun k a w=>Jl5 k a w
 obtain⟨a,rfl⟩:=Int.eq_ofNat_of_zero_le i0
 obtain⟨b,rfl⟩:=Int.eq_ofNat_of_zero_le n0
 rw[Int.toNat_natCast,Int.toNat_natCast]
 have hab:a<=b:=by omega
 go_enter Tryz.func185,Tryz.ntmps185
 go_wp2_with fail
 go_loopw [7] (fun j wr=>∃(k f:Nat) (l':List (Int×Int)),j=.int .i64 k/\k<=b/\b<=k+f/\Hid (l'.length=l.length)/\JU p g cap l' wr/\Hid (ZC f l' k b=ZC b l a b)/\Yu p g w wr) (fun j _=>b- (intOf j).toNat)
 case atStart=>exact⟨a,b,l,rfl,hab,by omega,Lib.hid rfl,h,Lib.hid rfl,Yu.refl _ _ _⟩
 case round=>
  obtain⟨k,f,l',rfl,hkb,hfb,hl',hH,hdn,hO⟩:=hrel
  have hd:=hH.head
  have hn':b<=l'.length:=by rw[hl'.out];omega
  have hl2:l'.length<=1000000000:=by rw[hl'.out];omega
  by_cases h1:2*k+1<b
  ·obtain⟨f,rfl⟩:∃f',f=f'+1:=⟨f-1,by omega⟩
   have hc:=Jb7 (l:=l') h1
   by_cases h2:2*k+2<b
   ·go_wp2_with fail
    have hc1:=Jb1 p g cap l' (2*(k:Int)+1+1) (2*(k:Int)+1) wr hH (by omega) (by omega) (by omega) (by omega)
    rw[show(2*(k:Int)+1+1).toNat=2*k+2 by omega,show(2*(k:Int)+1).toNat=2*k+1 by omega] at hc1
    refine hc1.mono ?_
    rintro e w1 ⟨rfl,m1,rfl⟩
    have HH:=hH.drewN m1
    have hd1:=HH.head
    cases hb1:ahead (pl l' (2*k+2)) (pl l' (2*k+1)) with
    |true=>
     have Hc:=Lib.hid (show YT l' k b=2*k+2 by unfold YT;rw[if_pos ⟨h2,hb1⟩])
     clear hb1 hc1
     have hcl:2*k+2<b:=by omega
     go_wp2_with fail
     have hc2:=Jb1 p g cap l' (2*(k:Int)+1+1) k _ HH (by omega) (by omega) (by omega) (by omega)
     rw[show(2*(k:Int)+1+1).toNat=2*k+2 by omega,Int.toNat_natCast] at hc2
     refine hc2.mono ?_
     rintro e w2 ⟨rfl,m2,rfl⟩
     cases hb2:ahead (pl l' (2*k+2)) (pl l' k) with
     |true=>
      have hdg:=Lib.hid (JfL (f:=f) h1 (by rw[Hc.out];exact hb2))
      rw[Hc.out] at hdg
      clear hc2 hb2
      have HH2:=hH.drewN (m1+m2)
      have hd2:=HH2.head
      go_wp2_with fail
      have hc3:=JbQ p g cap l' k (2*(k:Int)+1+1) _ HH2 (by omega) (by omega) (by omega) (by omega)
      rw[show(2*(k:Int)+1+1).toNat=2*k+2 by omega,Int.toNat_natCast] at hc3
      refine hc3.mono ?_
      rintro e w3 ⟨rfl,HH3,hO3⟩
      clear hc3
      go_wp2_with fail
      go_roundw
      case rel=>exact⟨2*k+2,f,_,by go_num,by omega,by omega,Lib.hid (by rw[JJ];exact hl'.out),HH3,Lib.hid (by rw[<-hdn.out,hdg.out]),(hO.drewN (m1+m2)).trans hO3⟩
      case measure=>simp[intOf];omega
     |false=>
      have hdg:=Lib.hid (JcJ (f:=f) h1 (by rw[Hc.out];exact hb2))
      clear hc2 hb2
      go_wp2_with fail
      go_ret
      exact⟨⟨_,rfl⟩,by rw[<-hdn.out,hdg.out];exact hH.drewN (m1+m2),(hO.drewN (m1+m2))⟩
    |false=>
     have Hc:=Lib.hid (show YT l' k b=2*k+1 by unfold YT;rw[if_neg (by rw[hb1];simp)])
     clear hb1 hc1
     have hcl:2*k+1<b:=by omega
     go_wp2_with fail
     have hc2:=Jb1 p g cap l' (2*(k:Int)+1) k _ HH (by omega) (by omega) (by omega) (by omega)
     rw[show(2*(k:Int)+1).toNat=2*k+1 by omega,Int.toNat_natCast] at hc2
     refine hc2.mono ?_
     rintro e w2 ⟨rfl,m2,rfl⟩
     cases hb2:ahead (pl l' (2*k+1)) (pl l' k) with
     |true=>
      have hdg:=Lib.hid (JfL (f:=f) h1 (by rw[Hc.out];exact hb2))
      rw[Hc.out] at hdg
      clear hc2 hb2
      have HH2:=hH.drewN (m1+m2)
      have hd2:=HH2.head
      go_wp2_with fail
      have hc3:=JbQ p g cap l' k (2*(k:Int)+1) _ HH2 (by omega) (by omega) (by omega) (by omega)
      rw[show(2*(k:Int)+1).toNat=2*k+1 by omega,Int.toNat_natCast] at hc3
      refine hc3.mono ?_
      rintro e w3 ⟨rfl,HH3,hO3⟩
      clear hc3
      go_wp2_with fail
      go_roundw
      case rel=>exact⟨2*k+1,f,_,by go_num,by omega,by omega,Lib.hid (by rw[JJ];exact hl'.out),HH3,Lib.hid (by rw[<-hdn.out,hdg.out]),(hO.drewN (m1+m2)).trans hO3⟩
      case measure=>simp[intOf];omega
     |false=>
      have hdg:=Lib.hid (JcJ (f:=f) h1 (by rw[Hc.out];exact hb2))
      clear hc2 hb2
      go_wp2_with fail
      go_ret
      exact⟨⟨_,rfl⟩,by rw[<-hdn.out,hdg.out];exact hH.drewN (m1+m2),(hO.drewN (m1+m2))⟩
   ·have HH:=hH
    have Hc:=Lib.hid (show YT l' k b=2*k+1 by unfold YT;rw[if_neg (by omega)])
    have hcl:2*k+1<b:=by omega
    go_wp2_with fail
    have hc2:=Jb1 p g cap l' (2*(k:Int)+1) k _ HH (by omega) (by omega) (by omega) (by omega)
    rw[show(2*(k:Int)+1).toNat=2*k+1 by omega,Int.toNat_natCast] at hc2
    refine hc2.mono ?_
    rintro e w2 ⟨rfl,m2,rfl⟩
    cases hb2:ahead (pl l' (2*k+1)) (pl l' k) with
    |true=>
     have hdg:=Lib.hid (JfL (f:=f) h1 (by rw[Hc.out];exact hb2))
     rw[Hc.out] at hdg
     clear hc2 hb2
     have HH2:=HH.drewN m2
     have hd2:=HH2.head
     go_wp2_with fail
     have hc3:=JbQ p g cap l' k (2*(k:Int)+1) _ HH2 (by omega) (by omega) (by omega) (by omega)
     rw[show(2*(k:Int)+1).toNat=2*k+1 by omega,Int.toNat_natCast] at hc3
     refine hc3.mono ?_
     rintro e w3 ⟨rfl,HH3,hO3⟩
     clear hc3
     go_wp2_with fail
     go_roundw
     case rel=>exact⟨2*k+1,f,_,by go_num,by omega,by omega,Lib.hid (by rw[JJ];exact hl'.out),HH3,Lib.hid (by rw[<-hdn.out,hdg.out]),(hO.drewN m2).trans hO3⟩
     case measure=>simp[intOf];omega
    |false=>
     have hdg:=Lib.hid (JcJ (f:=f) h1 (by rw[Hc.out];exact hb2))
     clear hc2 hb2
     go_wp2_with fail
     go_ret
     exact⟨⟨_,rfl⟩,by rw[<-hdn.out,hdg.out];exact HH.drewN m2,(hO.drewN m2)⟩
  ·have hlf:=Lib.hid (Jlb (f:=f) (l:=l') h1)
   go_wp2_with fail
   go_ret
   exact⟨⟨_,rfl⟩,by rw[<-hdn.out,hlf.out];exact hH,hO⟩
open Go.RowKit
theorem JqX (k:Nat) (a:Addr) (w:World):(method (k+1) 279 (.pointer (some a)) "Pop").run Tryz.prog w=.ok (208,.pointer (some a)) w:=JoL k a w
theorem ZA:∀(f:Nat) (l:List (Int×Int)) (i n:Nat),(ZC f l i n).length=l.length
 |0,_,_,_=>rfl
 |f+1,l,i,n=>by
  unfold ZC
  split
  ·split
   ·rw[ZA f,JJ]
   ·rfl
  ·rfl
def Xb (n:Nat):Nat->List (Int×Int)->List (Int×Int)
 |0,l=>l
 |k+1,l=>Xb n k (ZC n l k n)
theorem XS (n:Nat):∀(k:Nat) (l:List (Int×Int)),(Xb n k l).length=l.length
 |0,_=>rfl
 |k+1,l=>by rw[Xb,XS n k,ZA]
theorem Jog (p g cap:Nat) (l:List (Int×Int)) (w:World) (h:JU p g cap l w) (hl:l.length<=1000000000):
  Calls Tryz.prog 184 #[.iface 279 (.pointer (some ⟨p,0,none⟩))] w fun e w'=>e=.returned (.tuple #[])/\JU p g cap (Xb l.length (l.length/2) l) w'/\Yu p g w w':=by
 have hLen:=fun k a w=>Jll k a w
 have hd:=h.head
 go_enter Tryz.func184,Tryz.ntmps184
 go_wp2_with (go_at_call 178;refine(ZN _ _ _ _).mono ?_;rintro e w1 ⟨rfl,rfl⟩)
 go_loopw [3] (fun i wr=>∃(k:Nat) (l':List (Int×Int)),i=.int .i64 ((k:Int)-1)/\k<=l.length/2/\Hid (l'.length=l.length)/\JU p g cap l' wr/\Hid (Xb l.length k l'=Xb l.length (l.length/2) l)/\Yu p g w wr) (fun i _=>(intOf i+1).toNat)
 case atStart=>exact⟨l.length/2,l,by go_num,Nat.le_refl _,Lib.hid rfl,h,Lib.hid rfl,Yu.refl _ _ _⟩
 case round=>
  obtain⟨k,l',rfl,hk,hl',hH,hin,hO⟩:=hrel
  cases k with
  |zero=>
   have h0:¬(0<=((0:Nat):Int)-1):=by omega
   go_wp2_with fail
   go_end0
   exact⟨rfl,by rw[<-hin.out];exact hH,hO⟩
  |succ k=>
   have hk':k<l.length/2:=by omega
   go_wp2_with fail
   have hc:=JjB p g cap l' k l.length wr hH (by omega) (by omega) (by rw[hl'.out];omega) (by omega) (by rw[hl'.out];omega)
   rw[Int.toNat_natCast,Int.toNat_natCast] at hc
   refine hc.mono ?_
   rintro e w1 ⟨⟨b,rfl⟩,HH,hO1⟩
   clear hc
   go_wp2_with fail
   go_roundw
   case rel=>exact⟨k,_,rfl,by omega,Lib.hid (by rw[ZA];exact hl'.out),HH,Lib.hid (by rw[<-hin.out];rfl),hO.trans hO1⟩
   case measure=>first|(simp[intOf];done)|(simp[intOf];omega)
def Jbi (l:List (Int×Int)):List (Int×Int):=ZC (l.length-1) (Z5 l 0 (l.length-1)) 0 (l.length-1)
theorem Jaj (l:List (Int×Int)):(Jbi l).length=l.length:=by rw[Jbi,ZA,JJ]
theorem Jps (p g cap:Nat) (l:List (Int×Int)) (w:World) (h:JU p g cap l w) (hl:l.length<=1000000000) (h0:0<l.length) (r:List (Int×Int)) (x:Int×Int) (hr:Jbi l=r++[x]):
  Calls Tryz.prog 179 #[.iface 279 (.pointer (some ⟨p,0,none⟩))] w fun e w'=>e=.returned (.iface 282 (.agg #[.int .i64 x.1,.int .i64 x.2]))/\JU p g cap r w'/\Yu p g w w':=by
 have hLen:=fun k a w=>Jll k a w
 have hSwap:=fun k a w=>Jl5 k a w
 have hPop:=fun k a w=>JqX k a w
 have hd:=h.head
 go_enter Tryz.func179,Tryz.ntmps179
 go_wp2_with (go_at_call 178;refine(ZN _ _ _ _).mono ?_;rintro e w1 ⟨rfl,rfl⟩)
 have hc:=JbQ p g cap l 0 ((l.length:Int)-1) w h (by omega) (by omega) (by omega) (by omega)
 rw[show((l.length:Int)-1).toNat=l.length-1 by omega,show(0:Int).toNat=0 from rfl] at hc
 refine hc.mono ?_
 rintro e w1 ⟨rfl,H1,hO1⟩
 clear hc
 go_wp2_with fail
 have hc:=JjB p g cap _ 0 ((l.length:Int)-1) w1 H1 (by omega) (by omega) (by rw[JJ];omega) (by omega) (by rw[JJ];omega)
 rw[show((l.length:Int)-1).toNat=l.length-1 by omega,show(0:Int).toNat=0 from rfl] at hc
 refine hc.mono ?_
 rintro e w2 ⟨⟨b,rfl⟩,H2,hO2⟩
 clear hc
 have H2':JU p g cap (r++[x]) w2:=by rw[<-hr];exact H2
 clear H2
 go_wp2_with (go_at_call 208;refine(Jky p g cap r x _ H2').mono ?_;rintro e w3 ⟨rfl,H3,hO3⟩)
 go_ret
 exact⟨rfl,H3,hO1.trans (hO2.trans hO3)⟩
open Go.RowKit
abbrev Jf8 (w:World) (ao:Option Addr) (l:List Int):Prop:=JC (fun x:Int=>[Value.int .i64 x]) 1 w ao l
def Zd (l:List Int):List (Int×Int):=l.zipIdx.map fun q=>((q.2:Int),q.1)
theorem Yi (l:List Int):(Zd l).length=l.length:=by simp[Zd]
theorem JdG (l:List Int) (i:Nat) (h:i<(Zd l).length):(Zd l)[i]=((i:Int),l[i]'(by rwa[Yi] at h)):=by simp[Zd]
theorem JkF (l:List Int) (i:Nat) (h:i<l.length):Zd (l.take (i+1))=Zd (l.take i)++[((i:Int),l[i])]:=by
 rw[List.take_succ_eq_append_getElem h]
 have:(l.take i).length=i:=by rw[List.length_take];omega
 simp only[Zd,List.zipIdx_append,List.map_append,this,Nat.zero_add]
 rfl
def Jau (l:List (Int×Int)):List Value:=l.flatMap fun q=>[.int .i64 q.1,.int .i64 q.2]
theorem JjQ (l:List (Int×Int)) (q:Int×Int):Jau (l++[q])=Jau l++[.int .i64 q.1,.int .i64 q.2]:=by simp[Jau]
theorem JfV:∀(l:List (Int×Int)) (i:Nat) (h:i<l.length),(Jau l)[i*2]? =some (.int .i64 l[i].1)/\(Jau l)[i*2+1]? =some (.int .i64 l[i].2)
 |[],i,h=>by simp at h
 |q::l,0,_=>by simp[Jau]
 |q::l,i+1,h=>by
  have:=JfV l i (by simpa using h)
  rw[show(i+1)*2+1=(i*2+1)+2 by omega,show(i+1)*2=i*2+2 by omega]
  simpa[Jau] using this
structure Jaa (w0:World) (p:Nat) (l:List (Int×Int)) (v:Value) (wr:World):Prop where
 own:wr.ownsRow (p+1) 282 2 v l.length (Jau l)
 head:wr.cell? ⟨p,0,none⟩=some v
 free:∀o,wr.frozen? ⟨p,o,none⟩=false
 below:Below p w0 wr
 size:p<wr.heap.size
theorem Jaa.heap {w0:World} {p:Nat} {l:List (Int×Int)} {v:Value} {wr:World} (h:Jaa w0 p l v wr) (hl:0<l.length):∃g c,p<g/\JU p g c l wr:=by
 have hown:=h.own
 rcases hown.2 with⟨_,hn⟩|⟨g,cap,cur,hv,hb,hg,hnc,hcm,hcs,htake⟩
 ·omega
 ·subst hv
  refine⟨g,cap,by omega,h.head,h.free,by omega,⟨hnc,by simpa[maxLen] using hcm⟩,fun i hi=> ?_,fun o=>hown.frozenAt o⟩
  have:=JfV l i hi
  exact⟨(hown.cellAt (i*2) (by omega)).trans this.1,(hown.cellAt (i*2+1) (by omega)).trans this.2⟩
theorem JkB:(Tryz.prog.info? 282).map (fun i=>(i.zero,i.size,i.bytes))=some (some (.agg #[.int .i64 0,.int .i64 0]),2,16):=by kernel_rfl
theorem Jgj (w:World) (x y:Value) (t:TypeId):∀j u,[x,y][j]? =some u->(w.alloc (.cells #[x,y] t)).cell? ((⟨w.heap.size,0,none⟩:Addr).add j)=some u:=by
 intro j u hj
 match j,hj with
 |0,hj=>simp at hj;subst hj;simp[Addr.add]
 |1,hj=>simp at hj;subst hj;simp[Addr.add]
theorem Jim (x y:Int):∀u∈[Value.int .i64 x,.int .i64 y],u.oneCell'=true:=by
 intro u hu
 simp only[List.mem_cons,List.not_mem_nil,or_false] at hu
 rcases hu with rfl|rfl<;>rfl
theorem _root_.Go.World.ownsRow.slice {w:World} {base:Nat} {e:TypeId} {size:Nat} {v:Value} {n:Nat} {xs:List Value} (h:w.ownsRow base e size v n xs) (hn:0<n):∃g cap,v=.slice (some ⟨g,0,none⟩) n cap:=by
 rcases h.2 with⟨_,hn'⟩|⟨g,cap,cur,hv,_⟩
 ·omega
 ·exact⟨g,cap,hv⟩
theorem Jaa.start (w:World) (t:TypeId) (l:List Int):Jaa w w.heap.size (Zd (l.take 0)) (.slice none 0 0) (w.alloc (.cells #[.slice none 0 0] t)):=
 ⟨World.ownsRow_nil _ _ _ _,by simp,fun o=>by simp,(Below.refl _ _).alloc (Nat.le_refl _) _,by simp⟩
theorem Jaa.old {w0:World} {p:Nat} {l:List (Int×Int)} {v:Value} {wr:World} (h:Jaa w0 p l v wr) (q:Int×Int) (t:TypeId) {v':Value} {w1:World}
  (_hown:w1.ownsRow (p+1) 282 2 v' (l.length+1) (Jau l++[.int .i64 q.1,.int .i64 q.2])) (hgrow:(wr.alloc (.cells #[.int .i64 q.1,.int .i64 q.2] t)).grownBy w1 v.ownBlock):
  w1.cell? ⟨p,0,none⟩=some v/\w1.frozen? ⟨p,0,none⟩=false:=by
 have hne:v.ownBlock≠some p:=fun e=>by have:=(h.own.lt p e).1;omega
 have hp:=h.size
 have hblk:w1.heap[p]? =wr.heap[p]? :=(hgrow.block p (by simp;omega) (fun e=>hne e.symm)).trans (Below.heap_alloc _ _ _ hp)
 exact⟨(World.cell?_of_block hblk).trans h.head,(World.frozen?_of_block hblk).trans (h.free 0)⟩
theorem Jaa.more {w0:World} {p:Nat} {l:List (Int×Int)} {v:Value} {wr:World} (h:Jaa w0 p l v wr) (q:Int×Int) (t:TypeId) {v':Value} {w1:World}
  (hown:w1.ownsRow (p+1) 282 2 v' (l.length+1) (Jau l++[.int .i64 q.1,.int .i64 q.2])) (hgrow:(wr.alloc (.cells #[.int .i64 q.1,.int .i64 q.2] t)).grownBy w1 v.ownBlock):
  Jaa w0 p (l++[q]) v' (w1.setCell ⟨p,0,none⟩ v'):=by
 have hne:v.ownBlock≠some p:=fun e=>by have:=(h.own.lt p e).1;omega
 have hne':v'.ownBlock≠some p:=fun e=>by have:=(hown.lt p e).1;omega
 have hp:=h.size
 have hblk:w1.heap[p]? =wr.heap[p]? :=(hgrow.block p (by simp;omega) (fun e=>hne e.symm)).trans (Below.heap_alloc _ _ _ hp)
 have hcp:w1.cell? ⟨p,0,none⟩=some v:=(World.cell?_of_block hblk).trans h.head
 have hsz:p<w1.heap.size:=Nat.lt_of_lt_of_le hp (Nat.le_trans (by simp) hgrow.size)
 refine⟨?_,World.cell?_setCell_same _ _ _ hcp,fun o=> ?_,?_,by rw[World.size_setCell];exact hsz⟩
 ·rw[JjQ,List.length_append,List.length_singleton]
  exact hown.kept (row:=some p) ⟨rfl,rfl,rfl,by simp,fun k _ hk=>Below.heap_setCell _ _ _ _ (fun e=>hk (by rw[e]))⟩ (Or.inr hne')
 ·rw[World.frozen?_setCell]
  exact(World.frozen?_of_block hblk).trans (h.free o)
 ·have hb1:Below p wr w1:=⟨hgrow.os,hgrow.tape,hgrow.output,Nat.le_trans (by simp) hgrow.size,fun k hk=>(hgrow.block k (by simp;omega) (fun e=>by have:=(h.own.lt k e.symm).1;omega)).trans (Below.heap_alloc _ _ _ (by omega))⟩
  exact h.below.trans (hb1.trans ⟨rfl,rfl,rfl,by simp,fun k hk=>Below.heap_setCell _ _ _ _ (by show k≠p;omega)⟩)
theorem Jk3 (ao:Option Addr) (cap:Nat) (l:List Int) (w:World) (hs:Jf8 w ao l) (h0:0<l.length) (hl:l.length<=1000000):
  Calls Tryz.prog 177 #[.slice ao l.length cap] w fun e w'=>∃p g c,e=.returned (.pointer (some ⟨p,0,none⟩))/\JU p g c (Xb l.length (l.length/2) (Zd l)) w'/\w.heap.size<=p/\p<g/\Below w.heap.size w w':=by
 obtain⟨b,off,rfl,hb,hc⟩:=hs.at h0
 obtain⟨i0,hi,hz0,hz1,hz2⟩:=info_parts JkB
 go_enter Tryz.func177,Tryz.ntmps177
 go_wp2_with fail
 go_loopw [8] (fun i wr=>∃(k:Nat) (v:Value),i=.int .i64 k/\k<=l.length/\Jaa w w.heap.size (Zd (l.take k)) v wr) (fun i _=>l.length- (intOf i).toNat)
 case atStart=>exact⟨0,_,rfl,Nat.zero_le _,Jaa.start _ _ _⟩
 case round=>
  obtain⟨k,v,rfl,hk,hH⟩:=hrel
  have hlen:(Zd (l.take k)).length=k:=by rw[Yi,List.length_take];omega
  have hsz:=hH.size
  by_cases hkl:k<l.length
  ·have hck:=hH.below.cell (p:=⟨b,off+k*1+0,none⟩) hb
   rw[hc k hkl 0 _ rfl,Nat.mul_one,Nat.add_zero] at hck
   have hk0:(0:Int)<=(k:Int):=Int.natCast_nonneg _
   have hk1:(k:Int)<(l.length:Int):=by omega
   have hhd:=hH.head
   have hfr:=hH.free 0
   have hsn:=Lib.hid (JkF l k hkl)
   go_wp2_with (at_builtin;refine wpList_append_own_at _ rfl _ _ 288 rfl (w.heap.size+1) 282 i0 (.agg #[.int .i64 0,.int .i64 0]) 2 16 Tryz.underlying288 hi hz0 hz1 hz2 rfl (by decide) v (Zd (l.take k)).length _ rfl (hH.own.alloc _) ⟨wr.heap.size,0,none⟩ 1 1 [.int .i64 k,.int .i64 l[k]] rfl rfl (Jgj _ _ _ _) (Jim _ _) (by rw[hlen];unfold maxLen;omega) (by rw[hlen];omega) (by simp;omega) ?_;intro v' w1 hown' hgrow hnil hat;have hM:=hH.more (k,l[k]) _ hown' hgrow;obtain⟨hw1c,hw1f⟩:=hH.old (k,l[k]) _ hown' hgrow;rcases hown'.slice (by omega) with⟨g',c',rfl⟩;rw[hlen] at hM)
   go_roundw
   case rel=>exact⟨k+1,_,by go_num,by omega,by rw[hsn.out];exact hM⟩
   case measure=>simp[intOf];omega
  ·have hk':k=l.length:=by omega
   subst hk'
   rw[List.take_length] at hH hlen
   obtain⟨g,c,hpg,HH⟩:=hH.heap (by omega)
   go_wp2_with fail
   have hcall:=Jog _ g c _ wr HH (by omega)
   rw[Yi] at hcall
   refine hcall.mono ?_
   rintro e w1 ⟨rfl,H1,hO1⟩
   go_wp2_with fail
   go_ret
   exact⟨_,g,c,rfl,H1,Nat.le_refl _,hpg,hH.below.trans (hO1.below (Nat.le_refl _) (by omega) (by omega))⟩
open Go.RowKit
theorem JU.blocks {p g cap:Nat} {l:List (Int×Int)} {w w':World} (h:JU p g cap l w) (hp:w'.heap[p]? =w.heap[p]?) (hg:w'.heap[g]? =w.heap[g]?):JU p g cap l w':=
 ⟨(World.cell?_of_block hp).trans h.head,fun o=>(World.frozen?_of_block hp).trans (h.free o),h.ne,h.fits,
  fun i hi=>⟨(World.cell?_of_block hg).trans (h.cells i hi).1,(World.cell?_of_block hg).trans (h.cells i hi).2⟩,fun o=>(World.frozen?_of_block hg).trans (h.gfree o)⟩
theorem Jcl {p g:Nat} {w w':World} {base:Nat} {e:TypeId} {size:Nat} {v:Value} {n:Nat} {xs:List Value} (h:w.ownsRow base e size v n xs) (hO:Yu p g w w') (hp:v.ownBlock≠some p) (hg:v.ownBlock≠some g):w'.ownsRow base e size v n xs:=by
 refine⟨h.1,?_⟩
 rcases h.2 with hn|⟨b,cap,cur,rfl,hb,hgg,rest⟩
 ·exact .inl hn
 ·refine .inr ⟨b,cap,cur,rfl,hb,?_,rest⟩
  rw[hO.block b (Array.getElem?_eq_some_iff.1 hgg).1 (fun e=>hp (by simp[Value.ownBlock,e])) (fun e=>hg (by simp[Value.ownBlock,e]))]
  exact hgg
def Zk:Nat->List (Int×Int)->List Int
 |0,_=>[]
 |f+1,h=>
  match(Jbi h).getLast? with
  |none=>[]
  |some x=>x.1::Zk f (Jbi h).dropLast
theorem Jkh {f:Nat} {h r:List (Int×Int)} {x:Int×Int} (e:Jbi h=r++[x]):Zk (f+1) h=x.1::Zk f r:=by
 rw[Zk,e];simp
theorem Jd3 (f:Nat):Zk f []=[]:=by
 cases f with
 |zero=>rfl
 |succ f=>
  have:Jbi []=[]:=List.eq_nil_of_length_eq_zero (by rw[Jaj];rfl)
  rw[Zk,this];rfl
theorem JdD {h:List (Int×Int)} (h0:0<h.length):∃r x,Jbi h=r++[x]/\r.length+1=h.length:=by
 have hl:=Jaj h
 rcases List.eq_nil_or_concat (Jbi h) with e|⟨r,x,e⟩
 ·rw[e] at hl;simp at hl;omega
 ·rw[List.concat_eq_append] at e
  refine⟨r,x,e,?_⟩
  rw[e] at hl;simpa using hl
def XN (l:List Int):List Value:=l.map fun x=>.int .i64 x
theorem Jk1 (l:List Int) (x:Int):XN (l++[x])=XN l++[.int .i64 x]:=by simp[XN]
def Jay:Value->Nat
 | .slice _ n _=>n
 |_=>0
structure X9 (w0:World) (p g c:Nat) (h:List (Int×Int)) (r:List Int) (v:Value) (wr:World):Prop where
 own:wr.ownsRow w0.heap.size 3 1 v r.length (XN r)
 heap:JU p g c h wr
 pa:v.ownBlock≠some p
 ga:v.ownBlock≠some g
 below:Below w0.heap.size w0 wr
 plt:p<wr.heap.size
 glt:g<wr.heap.size
 len:Jay v=r.length
theorem Jjk:(Tryz.prog.info? 3).map (fun i=>(i.zero,i.size,i.bytes))=some (some (.int .i64 0),1,8):=by kernel_rfl
theorem X9.start {w0:World} {p g c:Nat} {h:List (Int×Int)} {w:World} (hH:JU p g c h w) (hb:Below w0.heap.size w0 w) (hg:g<w.heap.size):X9 w0 p g c h [] (.slice none 0 0) w:=
 ⟨World.ownsRow_nil _ _ _ _,hH,by simp[Value.ownBlock],by simp[Value.ownBlock],hb,World.block_lt_of_cell? w _ hH.head,hg,rfl⟩
theorem X9.form {w0:World} {p g c:Nat} {h:List (Int×Int)} {r:List Int} {v:Value} {wr:World} (hO:X9 w0 p g c h r v wr):∃ao c',v=.slice ao r.length c':=by
 rcases hO.own.2 with⟨e,hn⟩|⟨g,cap,cur,hv,_⟩
 ·exact⟨none,0,by rw[e,hn]⟩
 ·exact⟨_,_,hv⟩
theorem X9.popped {w0:World} {p g c:Nat} {h h':List (Int×Int)} {r:List Int} {v:Value} {wr w1:World} (hO:X9 w0 p g c h r v wr) (H:JU p g c h' w1) (k:Yu p g wr w1) (hp:w0.heap.size<=p) (hg:w0.heap.size<=g):X9 w0 p g c h' r v w1:=
 ⟨Jcl hO.own k hO.pa hO.ga,H,hO.pa,hO.ga,hO.below.trans (k.below hp hg hO.below.size),Nat.lt_of_lt_of_le hO.plt k.size,Nat.lt_of_lt_of_le hO.glt k.size,hO.len⟩
theorem X9.kept {w0:World} {p g c:Nat} {h:List (Int×Int)} {r:List Int} {v:Value} {wr w1:World} (hO:X9 w0 p g c h r v wr) (k:Below wr.heap.size wr w1):X9 w0 p g c h r v w1:=by
 have k2:Yu p g wr w1:=⟨k.os,k.tape,k.output,k.size,fun i hi _ _=>k.block i hi⟩
 exact⟨Jcl hO.own k2 hO.pa hO.ga,hO.heap.blocks (k.block p hO.plt) (k.block g hO.glt),hO.pa,hO.ga,hO.below.trans (k.mono hO.below.size),Nat.lt_of_lt_of_le hO.plt k.size,Nat.lt_of_lt_of_le hO.glt k.size,hO.len⟩
theorem X9.more {w0:World} {p g c:Nat} {h:List (Int×Int)} {r:List Int} {v v':Value} {wr w1:World} (hO:X9 w0 p g c h r v wr) (x:Int) (hown:w1.ownsRow w0.heap.size 3 1 v' (r.length+1) (XN r++[.int .i64 x])) (hgrow:wr.grownBy w1 v.ownBlock)
  (hat:v'.ownBlock=v.ownBlock\/v'.ownBlock=some wr.heap.size):X9 w0 p g c h (r++[x]) v' w1:=by
 have h1:=hO.plt
 have h2:=hO.glt
 refine⟨by rw[Jk1,List.length_append,List.length_singleton];exact hown,hO.heap.blocks (hgrow.block p h1 (fun e=>hO.pa e.symm)) (hgrow.block g h2 (fun e=>hO.ga e.symm)),?_,?_,?_,Nat.lt_of_lt_of_le h1 hgrow.size,Nat.lt_of_lt_of_le h2 hgrow.size,?_⟩
 ·rcases hat with e|e<;>rw[e]
  ·exact hO.pa
  ·intro e;simp at e;omega
 ·rcases hat with e|e<;>rw[e]
  ·exact hO.ga
  ·intro e;simp at e;omega
 ·exact hO.below.trans ⟨hgrow.os,hgrow.tape,hgrow.output,hgrow.size,fun k hk=>hgrow.block k (Nat.lt_of_lt_of_le hk hO.below.size) (fun e=>by have:=(hO.own.lt k e.symm).1;omega)⟩
 ·obtain⟨g',c',rfl⟩:=hown.slice (by omega)
  simp[Jay]
@[go_sem] theorem Jrq (v :Value) (w:World):(Instr.typeAssert (.iface 282 v) 20 282 true).run Tryz.prog w=.ok (.tuple #[v,.bool true]) w:=by kernel_rfl
theorem Jgk (w:World) (o:Obj) (x:Value) (t:TypeId):∀j u,[x][j]? =some u->((w.alloc o).alloc (.cells #[x] t)).cell? ((⟨w.heap.size+1,0,none⟩:Addr).add j)=some u:=by
 have h:=cell_one_new (w.alloc o) x t
 rw[show(w.alloc o).heap.size=w.heap.size+1 from by simp] at h
 exact h
theorem Jpg (ao:Option Addr) (cap:Nat) (l:List Int) (most:Int) (w:World) (hs:Jf8 w ao l) (h0:0<l.length) (hl:l.length<=1000000):
  Calls Tryz.prog 159 #[.slice ao l.length cap,.int .i64 most] w fun e w'=>∃v,e=.returned v/\w'.ownsRow w.heap.size 3 1 v (Zk most.toNat (Xb l.length (l.length/2) (Zd l))).length (XN (Zk most.toNat (Xb l.length (l.length/2) (Zd l))))/\Jay v=(Zk most.toNat (Xb l.length (l.length/2) (Zd l))).length/\Below w.heap.size w w':=by
 obtain⟨i0,hi,hz0,hz1,hz2⟩:=info_parts Jjk
 generalize hL:Xb l.length (l.length/2) (Zd l)=L
 have hLl:L.length=l.length:=by rw[<-hL,XS,Yi]
 go_enter Tryz.func159,Tryz.ntmps159
 go_wp2_with fail
 refine(Jk3 ao cap l w hs h0 hl).mono ?_
 rintro e w1 ⟨p,g,c,rfl,hH,hp,hpg,hb1⟩
 rw[hL] at hH
 have hg1:g<w1.heap.size:=World.block_lt_of_cell? w1 _ (hH.cells 0 (by omega)).1
 go_wp2_with fail
 go_loopw [6] (fun j wr=>∃(h:List (Int×Int)) (r:List Int),h.length+r.length=l.length/\Hid (r++Zk (most.toNat-r.length) h=Zk most.toNat L)/\X9 w p g c h r j wr) (fun j _=>l.length-Jay j)
 case atStart=>exact⟨L,[],by simpa using hLl,Lib.hid (by simp),X9.start hH hb1 hg1⟩
 case round=>
  obtain⟨h,r,hhr,hT,hO⟩:=hrel
  obtain⟨ao',c',rfl⟩:=hO.form
  have hd:=hO.heap.head
  have hr0:(0:Int)<=(r.length:Int):=Int.natCast_nonneg _
  by_cases hh:0<h.length
  ·have hh':(0:Int)<(h.length:Int):=by omega
   by_cases hm:(r.length:Int)<most
   ·obtain⟨h',x,hpl,hxl⟩:=JdD hh
    have hpl':=Lib.hid hpl
    go_wp2_with fail
    refine(ZN _ _ _ _).mono ?_
    rintro e w2 ⟨rfl,rfl⟩
    go_wp2_with fail
    have hc:=Jps p g c h wr hO.heap (by omega) hh h' x hpl'.out
    refine hc.mono ?_
    rintro e w2 ⟨rfl,H2,hO2⟩
    clear hc
    have O2:=hO.popped H2 hO2 hp (by omega)
    have hrl:r.length<1000000:=by omega
    have O3:=O2.kept (w1:=w2.alloc (.cells #[.int .i64 x.1,.int .i64 x.2] 282)) ((Below.refl _ _).alloc (Nat.le_refl _) _)
    have hBS:w.heap.size<=((w2.alloc (.cells #[.int .i64 x.1,.int .i64 x.2] 282)).alloc (.cells #[.int .i64 x.1] 3)).heap.size:=by have:=O2.below.size;simp;omega
    go_wp2_with (at_builtin;refine wpList_append_own_at _ rfl _ _ 55 rfl w.heap.size 3 i0 (.int .i64 0) 1 8 Tryz.underlying55 hi hz0 hz1 hz2 rfl (by decide) _ r.length _ rfl (O3.own.alloc _) ⟨w2.heap.size+1,0,none⟩ 1 1 [.int .i64 x.1] rfl rfl (Jgk _ _ _ _) (by intro u hu;simp at hu;subst hu;rfl) (by unfold maxLen;omega) (by omega) hBS ?_;intro v' w4 hown' hgrow hnil hat;have O4:=(O3.kept ((Below.refl _ _).alloc (Nat.le_refl _) _)).more x.1 hown' hgrow hat;rcases hown'.slice (by omega) with⟨g',c'',rfl⟩)
    go_roundw
    case rel=>
     refine⟨h',r++[x.1],by rw[List.length_append,List.length_singleton];omega,Lib.hid ?_,O4⟩
     have hT':=hT.out
     obtain⟨f,hf⟩:∃f,most.toNat-r.length=f+1:=⟨most.toNat-r.length-1,by omega⟩
     rw[hf,Jkh hpl'.out] at hT'
     rw[List.length_append,List.length_singleton,List.append_assoc,List.singleton_append,show most.toNat- (r.length+1)=f by omega]
     exact hT'
    case measure=>simp only[Jay];omega
   ·go_wp2_with fail
    refine(ZN _ _ _ _).mono ?_
    rintro e w2 ⟨rfl,rfl⟩
    have hT':=hT.out
    rw[show most.toNat-r.length=0 by omega,Zk,List.append_nil] at hT'
    subst hT'
    go_wp2_with fail
    go_ret
    exact⟨_,rfl,hO.own,hO.len,hO.below⟩
  ·have h0':h.length=0:=by omega
   obtain rfl:=List.eq_nil_of_length_eq_zero h0'
   have hT':=hT.out
   rw[Jd3,List.append_nil] at hT'
   subst hT'
   go_wp2_with fail
   refine(ZN _ _ _ _).mono ?_
   rintro e w2 ⟨rfl,rfl⟩
   go_wp2_with fail
   go_ret
   exact⟨_,rfl,hO.own,hO.len,hO.below⟩
theorem JmZ (p:Nat) (w:World) (h:w.cell? ⟨p,0,none⟩=some (.slice none 0 0)):
  Calls Tryz.prog 184 #[.iface 279 (.pointer (some ⟨p,0,none⟩))] w fun e w'=>e=.returned (.tuple #[])/\w=w':=by
 have hLen:=fun k a w=>Jll k a w
 go_enter Tryz.func184,Tryz.ntmps184
 go_wp2_with (go_at_call 178;refine(ZN _ _ _ _).mono ?_;rintro e w1 ⟨rfl,rfl⟩)
 go_loopw [3] (fun i wr=>i=.int .i64 (-1)/\wr=w) (fun i _=>0)
 case atStart=>exact⟨rfl,rfl⟩
 case round=>
  obtain⟨rfl,rfl⟩:=hrel
  go_wp2_with fail
  go_end0
  exact⟨rfl,rfl⟩
theorem Jjr (ao:Option Addr) (cap:Nat) (w:World):
  Calls Tryz.prog 177 #[.slice ao 0 cap] w fun e w'=>e=.returned (.pointer (some ⟨w.heap.size,0,none⟩))/\w'.cell? ⟨w.heap.size,0,none⟩=some (.slice none 0 0)/\Below w.heap.size w w':=by
 go_enter Tryz.func177,Tryz.ntmps177
 go_wp2_with fail
 go_loopw [8] (fun i wr=>i=.int .i64 0/\wr=w.alloc (.cells #[.slice none 0 0] 288)) (fun i _=>0)
 case atStart=>exact⟨rfl,rfl⟩
 case round=>
  obtain⟨rfl,rfl⟩:=hrel
  go_wp2_with fail
  refine(JmZ _ _ (by simp)).mono ?_
  rintro e w1 ⟨rfl,rfl⟩
  go_wp2_with fail
  go_ret
  exact⟨rfl,by simp,(Below.refl _ _).alloc (Nat.le_refl _) _⟩
theorem JnC (ao:Option Addr) (cap:Nat) (most:Int) (w:World):
  Calls Tryz.prog 159 #[.slice ao 0 cap,.int .i64 most] w fun e w'=>e=.returned (.slice none 0 0)/\Below w.heap.size w w':=by
 go_enter Tryz.func159,Tryz.ntmps159
 go_wp2_with fail
 refine(Jjr ao cap w).mono ?_
 rintro e w1 ⟨rfl,hc1,hb1⟩
 go_wp2_with fail
 go_loopw [6] (fun i wr=>i=.slice none 0 0/\wr=w1) (fun i _=>0)
 case atStart=>exact⟨rfl,rfl⟩
 case round=>
  obtain⟨rfl,rfl⟩:=hrel
  go_wp2_with fail
  refine(ZN _ _ _ _).mono ?_
  rintro e w2 ⟨rfl,rfl⟩
  go_wp2_with fail
  go_ret
  exact⟨rfl,hb1⟩
def Jct (l:List Int) (most:Nat):List Int:=Zk most (Xb l.length (l.length/2) (Zd l))
theorem JnF (most:Nat):Jct [] most=[]:=Jd3 most
structure Out (B:Nat) (v:Value) (r:List Int) (w:World):Prop where
 own:w.ownsRow B 3 1 v r.length (XN r)
 len:Jay v=r.length
theorem Out.form {B:Nat} {v:Value} {r:List Int} {w:World} (h:Out B v r w):∃ao c,v=.slice ao r.length c/\Jf8 w ao r/\(r.length=0->v=.slice ao 0 c)/\∀a,ao=some a->B<=a.block:=by
 rcases h.own.2 with⟨e,hn⟩|⟨g,cap,cur,hv,hb,hg,_⟩
 ·exact⟨none,0,by rw[e,hn],Or.inl (List.eq_nil_of_length_eq_zero hn),fun _=>e,fun a e=>by simp at e⟩
 ·subst hv
  refine⟨_,cap,rfl,Or.inr ⟨g,0,rfl,(Array.getElem?_eq_some_iff.1 hg).1,fun i hi j x hx=> ?_⟩,fun h0=>by rw[h0],fun a e=>by simp at e;subst e;exact hb⟩
  have hj:j=0:=by
   have:=(List.getElem?_eq_some_iff.1 hx).1
   simpa using this
  subst hj
  rw[show 0+i*1+0=i by omega,h.own.cellAt i (by omega)]
  simpa[XN,hi] using hx
theorem Jph (ao:Option Addr) (cap:Nat) (l:List Int) (most:Int) (w:World) (hs:Jf8 w ao l) (hl:l.length<=1000000):
  Calls Tryz.prog 159 #[.slice ao l.length cap,.int .i64 most] w fun e w'=>∃v,e=.returned v/\Out w.heap.size v (Jct l most.toNat) w'/\Below w.heap.size w w':=by
 by_cases h0:0<l.length
 ·refine(Jpg ao cap l most w hs h0 hl).mono ?_
  rintro e w' ⟨v,rfl,h1,h2,h3⟩
  exact⟨v,rfl,⟨h1,h2⟩,h3⟩
 ·obtain rfl:l=[]:=List.eq_nil_of_length_eq_zero (by omega)
  refine(JnC ao cap most w).mono ?_
  rintro e w' ⟨rfl,h1⟩
  rw[JnF]
  exact⟨_,rfl,⟨World.ownsRow_nil _ _ _ _,rfl⟩,h1⟩
theorem Jel (ao:Option Addr) (cap:Nat) (l:List Int) (w:World) (hs:Jf8 w ao l) (hl:l.length<=1000000) (k:Nat) (hk:Jct l 1=[(k:Int)]) (hkl:k<l.length):
  Calls Tryz.prog 125 #[.slice ao l.length cap] w fun e w'=>e=.returned (if l[k]<1 then .tuple #[.int .i64 0,.bool false] else .tuple #[.int .i64 k,.bool true])/\Below w.heap.size w w':=by
 go_enter Tryz.func125,Tryz.ntmps125
 go_wp2_with fail
 refine(Jph ao cap l _ w hs hl).mono ?_
 rintro e w1 ⟨v,rfl,h1,h2⟩
 rw[show(1:Int).toNat=1 from rfl,hk] at h1
 obtain⟨ao1,c1,rfl,hr1,_,_⟩:=h1.form
 obtain⟨b,off,rfl,hb,hc⟩:=hr1.at (by simp)
 have hc0:=hc 0 (by simp) 0 _ rfl
 have hs1:=hs.kept h2 (Nat.le_refl _)
 obtain⟨b2,off2,rfl,hb2,hc2⟩:=hs1.at (by omega)
 have hck:=hc2 k hkl 0 _ rfl
 have hk0:(0:Int)<=(k:Int):=Int.natCast_nonneg _
 have hk1:(k:Int)<(l.length:Int):=by omega
 simp only[List.getElem_cons_zero,Nat.add_zero,Nat.mul_one] at hc0 hck
 by_cases h:l[k]<1
 ·go_wp2_with fail
  go_ret2
  exact⟨rfl,h2⟩
 ·go_wp2_with fail
  go_ret2
  exact⟨rfl,h2⟩
open Go.RowKit
theorem Jcc (a b:Int×Int):ahead a b=true↔(b.2<a.2\/(a.2=b.2/\a.1<b.1)):=by simp[ahead]
theorem JjY {a b:Int×Int} (h:ahead a b=true):¬ahead b a=true:=by rw[Jcc] at*;omega
def Leq (a b:Int×Int):Prop:=¬ahead b a=true
theorem Leq.trans {a b c:Int×Int} (h:Leq a b) (k:Leq b c):Leq a c:=by unfold Leq at*;rw[Jcc] at*;omega
theorem Leq.refl (a:Int×Int):Leq a a:=by unfold Leq;rw[Jcc];omega
theorem Leq.of {a b:Int×Int} (h:ahead a b=true):Leq a b:=JjY h
theorem Jak (l:List (Int×Int)) (i k j:Nat) (hi:i<l.length) (hk:k<l.length):pl (Z5 l i k) j=if j=k then pl l i else if j=i then pl l k else pl l j:=by
 by_cases hj:j<l.length
 ·have hj':j<(Z5 l i k).length:=by rw[JJ];exact hj
  rw[Jat hj',Jgx l i k j hi hk hj',Jat hi,Jat hk,Jat hj]
 ·rw[if_neg (by omega),if_neg (by omega)]
  simp[pl,List.getD,hj,JJ]
theorem JjI (l:List (Int×Int)) {i n c:Nat} (hc:c<n) (h:c=2*i+1\/c=2*i+2):Leq (pl l (YT l i n)) (pl l c):=by
 unfold YT
 split
 ·rename_i hh
  rcases h with rfl|rfl
  ·exact Leq.of hh.2
  ·exact Leq.refl _
 ·rename_i hh
  rcases h with rfl|rfl
  ·exact Leq.refl _
  ·exact fun e=>hh ⟨hc,e⟩
theorem Jnf (l:List (Int×Int)) (i n:Nat):YT l i n=2*i+1\/YT l i n=2*i+2:=by unfold YT;split<;>omega
def Jj6 (k n:Nat) (l:List (Int×Int)):Prop:=∀c,c<n->0<c->k<=(c-1)/2->Leq (pl l ((c-1)/2)) (pl l c)
def JrF (k n i:Nat) (l:List (Int×Int)):Prop:=
 (∀c,c<n->0<c->k<=(c-1)/2->(c-1)/2≠i->Leq (pl l ((c-1)/2)) (pl l c))/\
 (0<i->k<=(i-1)/2->∀c,c<n->0<c->(c-1)/2=i->Leq (pl l ((i-1)/2)) (pl l c))
theorem JdS (k n:Nat):∀(f:Nat) (l:List (Int×Int)) (i:Nat),n<=l.length->n<=i+f->k<=i->JrF k n i l->Jj6 k n (ZC f l i n)
 |0,l,i,hn,hf,hk,h=>by
  intro c hc h0 hkc
  exact h.1 c hc h0 hkc (by omega)
 |f+1,l,i,hn,hf,hk,h=>by
  unfold ZC
  split
  ·rename_i h1
   have hcl:=Jb7 (l:=l) h1
   have hci:=Jnf l i n
   have hb:=fun c hc e=>JjI l (i:=i) (n:=n) (c:=c) hc e
   generalize YT l i n=m at*
   split
   ·rename_i h2
    refine JdS k n f _ m (by rw[JJ];exact hn) (by omega) (by omega) ⟨?_,?_⟩
    ·intro c hc h0 hkc hne
     rw[Jak l i m _ (by omega) (by omega),Jak l i m _ (by omega) (by omega)]
     by_cases e1:c=m
     ·subst e1
      have hp:(c-1)/2=i:=by omega
      rw[if_pos rfl,if_neg (by omega),if_pos hp]
      exact Leq.of h2
     ·rw[if_neg e1,if_neg hne]
      by_cases e2:(c-1)/2=i
      ·rw[if_pos e2,if_neg (by omega)]
       exact hb c hc (by omega)
      ·rw[if_neg e2]
       by_cases e3:c=i
       ·subst e3
        rw[if_pos rfl]
        exact h.2 h0 hkc m hcl.1 (by omega) (by omega)
       ·rw[if_neg e3]
        exact h.1 c hc h0 hkc e2
    ·intro hm0 hkm c hc h0 hp
     have hpm:(m-1)/2=i:=by omega
     rw[Jak l i m _ (by omega) (by omega),Jak l i m _ (by omega) (by omega),hpm,if_neg (by omega),if_pos rfl,if_neg (by omega),if_neg (by omega)]
     have:=h.1 c hc h0 (by omega) (by omega)
     rw[hp] at this
     exact this
   ·rename_i h2
    intro c hc h0 hkc
    by_cases e:(c-1)/2=i
    ·rw[e]
     exact Leq.trans h2 (hb c hc (by omega))
    ·exact h.1 c hc h0 hkc e
  ·rename_i h1
   intro c hc h0 hkc
   exact h.1 c hc h0 hkc (by omega)
theorem JgY (n:Nat):∀(k:Nat) (l:List (Int×Int)),n<=l.length->Jj6 k n l->Jj6 0 n (Xb n k l)
 |0,l,_,h=>h
 |k+1,l,hn,h=>by
  rw[Xb]
  refine JgY n k _ (by rw[ZA];exact hn) (JdS k n n l k hn (by omega) (Nat.le_refl _) ⟨?_,?_⟩)
  ·intro c hc h0 hkc hne
   exact h c hc h0 (by omega)
  ·intro h0 hk
   omega
theorem Joi {n:Nat} {l:List (Int×Int)} (h:Jj6 0 n l):∀c,c<n->Leq (pl l 0) (pl l c):=by
 intro c
 induction c using Nat.strongRecOn with
 |ind c ih=>
  intro hc
  by_cases h0:c=0
  ·subst h0;exact Leq.refl _
  ·exact Leq.trans (ih ((c-1)/2) (by omega) (by omega)) (h c hc (by omega) (Nat.zero_le _))
theorem JeX (l:List (Int×Int)) (i k:Nat) (hi:i<l.length) (hk:k<l.length):(Z5 l i k).Perm l:=by
 have h:=Array.swap_perm (xs:=l.toArray) (i:=i) (j:=k) (by simpa using hi) (by simpa using hk)
 have h2:=h.toList
 simpa[Z5,Array.swap,hi,hk] using h2
theorem JcK:∀(f:Nat) (l:List (Int×Int)) (i n:Nat),n<=l.length->(ZC f l i n).Perm l
 |0,_,_,_,_=>List.Perm.refl _
 |f+1,l,i,n,hn=>by
  unfold ZC
  split
  ·rename_i h1
   have hcl:=Jb7 (l:=l) h1
   split
   ·exact(JcK f _ _ _ (by rw[JJ];exact hn)).trans (JeX l _ _ (by omega) (by omega))
   ·exact List.Perm.refl _
  ·exact List.Perm.refl _
theorem Jfz (n:Nat):∀(k:Nat) (l:List (Int×Int)),n<=l.length->(Xb n k l).Perm l
 |0,_,_=>List.Perm.refl _
 |k+1,l,hn=>(Jfz n k _ (by rw[ZA];exact hn)).trans (JcK n l k n hn)
theorem Jg9:∀(f:Nat) (l:List (Int×Int)) (i n j:Nat),n<=l.length->n<=j->pl (ZC f l i n) j=pl l j
 |0,_,_,_,_,_,_=>rfl
 |f+1,l,i,n,j,hn,hj=>by
  unfold ZC
  split
  ·rename_i h1
   have hcl:=Jb7 (l:=l) h1
   split
   ·rw[Jg9 f _ _ _ _ (by rw[JJ];exact hn) hj,Jak l _ _ _ (by omega) (by omega),if_neg (by omega),if_neg (by omega)]
   ·rfl
  ·rfl
theorem JlI (r:List (Int×Int)) (x:Int×Int) (j:Nat) (h:j<r.length):pl (r++[x]) j=pl r j:=by
 rw[Jat h,Jat (by simp;omega),List.getElem_append_left h]
theorem JnY {l r:List (Int×Int)} {x:Int×Int} (hh:Jj6 0 l.length l) (h:Jbi l=r++[x]):Jj6 0 r.length r/\l.Perm (x::r)/\∀y∈r,Leq x y:=by
 have hlen:=Jaj l
 have hn:r.length+1=l.length:=by rw[h] at hlen;simpa using hlen
 have hsp:=JeX l 0 (l.length-1) (by omega) (by omega)
 have hperm:(Jbi l).Perm l:=(JcK _ _ _ _ (by rw[JJ];omega)).trans hsp
 have hp2:l.Perm (x::r):=by
  rw[h] at hperm
  exact hperm.symm.trans (List.perm_append_singleton _ _)
 have hx:x=pl l 0:=by
  have h1:pl (Jbi l) (l.length-1)=pl l 0:=by
   rw[Jbi,Jg9 _ _ _ _ _ (by rw[JJ];omega) (Nat.le_refl _),Jak l _ _ _ (by omega) (by omega),if_pos rfl]
  rw[h,Jat (by simp;omega)] at h1
  rw[<-h1]
  simp[show l.length-1=r.length by omega]
 refine⟨?_,hp2,fun y hy=> ?_⟩
 ·have hd:=JdS 0 (l.length-1) (l.length-1) (Z5 l 0 (l.length-1)) 0 (by rw[JJ];omega) (by omega) (Nat.le_refl _) ⟨fun c hc h0 _ hne=>by
   rw[Jak l _ _ _ (by omega) (by omega),Jak l _ _ _ (by omega) (by omega),if_neg (by omega),if_neg (by omega),if_neg (by omega),if_neg (by omega)]
   exact hh c (by omega) h0 (Nat.zero_le _),fun h0=>by omega⟩
  intro c hc h0 hk
  have:=hd c (by omega) h0 hk
  rw[show ZC (l.length-1) (Z5 l 0 (l.length-1)) 0 (l.length-1)=r++[x] from h,JlI r x c (by omega),JlI r x _ (by omega)] at this
  exact this
 ·have hyl:y∈l:=hp2.symm.subset (List.mem_cons_of_mem _ hy)
  obtain⟨c,hc,rfl⟩:=List.getElem_of_mem hyl
  rw[hx,<-Jat hc]
  exact Joi hh c hc
def Jaf:Nat->List (Int×Int)->List (Int×Int)
 |0,_=>[]
 |f+1,h=>
  match(Jbi h).getLast? with
  |none=>[]
  |some x=>x::Jaf f (Jbi h).dropLast
theorem JeS:∀(f:Nat) (h:List (Int×Int)),Zk f h=(Jaf f h).map Prod.fst
 |0,_=>rfl
 |f+1,h=>by
  rw[Zk,Jaf]
  cases(Jbi h).getLast? with
  |none=>rfl
  |some x=>simp[JeS f]
theorem JeV {f:Nat} {h r:List (Int×Int)} {x:Int×Int} (e:Jbi h=r++[x]):Jaf (f+1) h=x::Jaf f r:=by
 rw[Jaf,e];simp
theorem Jgw (f:Nat):Jaf f []=[]:=by
 cases f with
 |zero=>rfl
 |succ f=>
  have:Jbi []=[]:=List.eq_nil_of_length_eq_zero (by rw[Jaj];rfl)
  rw[Jaf,this];rfl
theorem JeU:∀(n:Nat) (h:List (Int×Int)),h.length=n->Jj6 0 h.length h->(Jaf n h).Perm h/\(Jaf n h).Pairwise Leq
 |0,h,e,_=>by
  obtain rfl:=List.eq_nil_of_length_eq_zero e
  exact⟨List.Perm.refl _,List.Pairwise.nil⟩
 |n+1,h,e,hh=>by
  obtain⟨r,x,hp,hl⟩:=JdD (h:=h) (by omega)
  obtain⟨h1,h2,h3⟩:=JnY hh hp
  obtain⟨i1,i2⟩:=JeU n r (by omega) h1
  rw[JeV hp]
  exact⟨(List.Perm.cons x i1).trans h2.symm,List.Pairwise.cons (fun y hy=>h3 y (i1.subset hy)) i2⟩
theorem JeT:∀(f n:Nat) (h:List (Int×Int)),h.length=n->Jaf f h=(Jaf n h).take f
 |0,_,_,_=>by simp[Jaf]
 |f+1,0,h,e=>by
  obtain rfl:=List.eq_nil_of_length_eq_zero e
  rw[Jgw,Jgw];rfl
 |f+1,n+1,h,e=>by
  obtain⟨r,x,hp,hl⟩:=JdD (h:=h) (by omega)
  rw[JeV hp,JeV hp,List.take_succ_cons,JeT f n r (by omega)]
def Jge (l:List Int):List (Int×Int):=Jaf l.length (Xb l.length (l.length/2) (Zd l))
theorem JaB (l:List Int):(Jge l).Perm (Zd l)/\(Jge l).Pairwise Leq:=by
 have hl:(Xb l.length (l.length/2) (Zd l)).length=l.length:=by rw[XS,Yi]
 have hh:Jj6 0 l.length (Xb l.length (l.length/2) (Zd l)):=JgY l.length _ _ (by rw[Yi];exact Nat.le_refl _) (fun c hc h0 hk=>by omega)
 obtain⟨h1,h2⟩:=JeU l.length _ hl (by rw[hl];exact hh)
 exact⟨h1.trans (Jfz _ _ _ (by rw[Yi];exact Nat.le_refl _)),h2⟩
theorem JcU (l:List Int) (n:Nat):Jct l n=((Jge l).map Prod.fst).take n:=by
 have hl:(Xb l.length (l.length/2) (Zd l)).length=l.length:=by rw[XS,Yi]
 rw[Jct,JeS,JeT n l.length _ hl,List.map_take]
 rfl
theorem Ji4 (l:List Int):(Jge l).length=l.length:=by rw[(JaB l).1.length_eq,Yi]
open Go.RowKit
open Go.RowKit
attribute [local go_sem ↓] Go.wp_at_zero Go.wp_at_succ
theorem Jpj (l:List Int) (h:0<l.length):∃k:Nat,k<l.length/\∃r,(Jge l).map Prod.fst=(k:Int)::r:=by
 have hl:=Ji4 l
 match e:Jge l with
 |[]=>rw[e] at hl;simp at hl;omega
 |q::r=>
  have hq:q∈Zd l:=(JaB l).1.subset (by rw[e];simp)
  obtain⟨k,hk,hke⟩:=List.getElem_of_mem hq
  rw[JdG] at hke
  rw[Yi] at hk
  exact⟨k,hk,r.map Prod.fst,by rw[List.map_cons,<-hke]⟩
end Go.Proofs.YtafciefjlkdecaaGreat
namespace Go.Proofs.YtafciefjlkdecaaGreat
open Go.RowKit
theorem JmN {C:List Int} {i:Nat} (h:i<C.length):((i:Int),C[i])∈Zd C:=by
 have h':i<(Zd C).length:=by rwa[Yi]
 have:=List.getElem_mem h'
 rwa[JdG] at this
theorem JmO {C:List Int} {q:Int×Int} (h:q∈Zd C):∃(i:Nat) (hi:i<C.length),q=((i:Int),C[i]):=by
 obtain⟨i,hi,e⟩:=List.getElem_of_mem h
 rw[JdG] at e
 exact⟨i,by rwa[Yi] at hi,e.symm⟩
theorem Jpi {C:List Int} {n:Nat} {t:Int} (h:t∈Jct C n):∃(k:Nat) (hk:k<C.length),t=k/\((k:Int),C[k])∈(Jge C).take n:=by
 rw[JcU,<-List.map_take,List.mem_map] at h
 obtain⟨q,hq,rfl⟩:=h
 obtain⟨k,hk,rfl⟩:=JmO ((JaB C).1.subset (List.mem_of_mem_take hq))
 exact⟨k,hk,rfl,hq⟩
theorem Jml {C:List Int} {n i k:Nat} (hi:i<C.length) (hk:k<C.length) (hin:(k:Int)∈Jct C n) (hout:(i:Int)∉Jct C n):Leq ((k:Int),C[k]) ((i:Int),C[i]):=by
 obtain⟨k',hk',e,hq⟩:=Jpi hin
 obtain rfl:k=k':=by omega
 have hi':((i:Int),C[i])∈Jge C:=(JaB C).1.symm.subset (JmN hi)
 rw[<-List.take_append_drop n (Jge C)] at hi'
 rcases List.mem_append.1 hi' with h|h
 ·exact absurd (by rw[JcU,<-List.map_take,List.mem_map];exact⟨_,h,rfl⟩) hout
 ·have hp:=(JaB C).2
  rw[<-List.take_append_drop n (Jge C),List.pairwise_append] at hp
  exact hp.2.2 _ hq _ h
theorem JnE {C:List Int} {n i k:Nat} (hi:i<C.length) (hk:k<C.length) (hin:(k:Int)∈Jct C n) (hout:(i:Int)∉Jct C n):C[i]<=C[k]/\(C[i]=C[k]->k<=i):=by
 have h:=Jml hi hk hin hout
 unfold Leq at h
 rw[Jcc] at h
 simp only at h
 omega
theorem Jpf (C:List Int) (h:0<C.length):∃k:Nat,∃hk:k<C.length,Jct C 1=[(k:Int)]/\∀x∈C,x<=C[k]:=by
 obtain⟨k,hk,r,hr⟩:=Jpj C h
 refine⟨k,hk,by rw[JcU,hr];rfl,fun x hx=> ?_⟩
 obtain⟨i,hi,rfl⟩:=List.getElem_of_mem hx
 by_cases e:(i:Int)∈Jct C 1
 ·rw[JcU,hr] at e
  simp at e
  obtain rfl:i=k:=by omega
  exact Int.le_refl _
 ·exact(JnE hi hk (by rw[JcU,hr];simp) e).1
open Go.RowKit
theorem Jc2 {w:World} {B n:Nat} {E:TypeId} {v:Value} {l:List Upd} (h:w.ownsRow B E 4 v n (cellsU l)):l.length=n/\SlU w v l:=by
 have hn:=h.1
 rw[J1] at hn
 have hn':l.length=n:=by omega
 subst hn'
 refine⟨rfl,?_⟩
 rcases Jv h with⟨rfl,h0,-⟩|⟨g,cap,cur,rfl,-,hr,h3,h4,h5,h6⟩
 ·obtain rfl:=List.eq_nil_of_length_eq_zero h0
  exact SlU.nil w
 ·refine⟨_,cap,rfl,Or.inr ⟨g,0,rfl,hr.lt,fun i hi j x hx=> ?_⟩,h3,by unfold maxLen at h4;omega,fun e=>by simp at e⟩
  have hj:j<4:=(List.getElem?_eq_some_iff.1 hx).1
  have e:=Xo l i hi j x hx
  rw[hr.cell,Nat.zero_add,<-e,<-h6,List.getElem?_take,if_pos (by omega)]
theorem JZ.slice {w:World} {a:Option Addr} {n c:Nat} {l:List Upd} (h:JZ w (.agg #[.slice a n c]) l):SlU w (.slice a n c) l:=by
 obtain⟨s,e,hs⟩:=h
 simp only[Value.agg.injEq,Array.mk.injEq,List.cons.injEq,and_true] at e
 rw[e];exact hs
theorem JjG {l:List Upd} (hr:Je Upd.key l) (low high:List UInt8):(JH l low high).length<=l.length:=by
 rw[(Y4 hr low high).1];exact List.length_filter_le _ _
theorem JjF (a:Option Addr) (n c:Nat) (l:List Upd) (low high:List UInt8) (w:World) (hn:n=l.length) (h:JZ w (.agg #[.slice a n c]) l) (hl:l.length<=1000) (hr:Je Upd.key l):
  Calls Tryz.prog 78 #[.agg #[.slice a n c],.string (S low),.string (S high)] w fun e w'=>(∃a1 c1 a2 c2,e=.returned (.tuple #[.agg #[.slice a1 (JH l low high).length c1],.agg #[.slice a2 (Ya l low high).length c2]])/\JZ w' (.agg #[.slice a1 (JH l low high).length c1]) (JH l low high)/\JZ w' (.agg #[.slice a2 (Ya l low high).length c2]) (Ya l low high))/\Below w.heap.size w w':=by
 subst hn
 refine(JlX _ l low high w h (by omega) hr).mono ?_
 rintro e w' ⟨⟨v1,v2,he,h1,h2⟩,hb⟩
 obtain⟨a1,c1,rfl,h1'⟩:=h1.open
 obtain⟨a2,c2,rfl,h2'⟩:=h2.open
 exact⟨⟨a1,c1,a2,c2,he,h1',h2'⟩,hb⟩
theorem XY (a:Option Addr) (n c:Nat) (w:World):
  Calls Tryz.prog 63 #[.agg #[.slice a n c]] w fun e w'=>e=.returned (.int .i64 n)/\Below w.heap.size w w':=by
 go_enter Tryz.func63,Tryz.ntmps63
 go_wp2
 go_ret
 exact⟨rfl,by go_grown⟩
theorem XV (w:World) (g:Nat) (hg:w.heap.size=g) (x y z u:Value) (t:TypeId):∀j v,[x,y,z,u][j]? =some v->(w.alloc (.cells #[x,y,z,u] t)).cell? ((⟨g,0,none⟩:Addr).add j)=some v:=by
 subst hg;exact Jco _ _ _ _ _ _
theorem Jjj (a:ByteArray) (x y z:Int):∀u∈[Value.string a,.int .i64 x,.int .u64 y,.int .u32 z],u.oneCell'=true:=by
 intro u hu
 simp only[List.mem_cons,List.not_mem_nil,or_false] at hu
 rcases hu with rfl|rfl|rfl|rfl<;>rfl
open Go.RowKit
attribute [local go_sem ↓] Go.wp_at_zero Go.wp_at_succ
def Ye (cs:List Chd) (us:List Upd):List Int:=(List.range cs.length).map fun(i:Nat)=>((us.filter fun u=>Xn cs u.key=(i:Int)).length:Int)
theorem ZB (cs:List Chd) (us:List Upd):(Ye cs us).length=cs.length:=by simp[Ye]
theorem ZX (cs:List Chd) (us:List Upd) (i:Nat) (hi:i<(Ye cs us).length):(Ye cs us)[i]=((us.filter fun u=>Xn cs u.key=(i:Int)).length:Int):=by simp[Ye]
theorem Jne (cs:List Chd):Ye cs []=List.replicate cs.length 0:=by
 apply List.ext_getElem
 ·simp[Ye]
 ·intro i h1 h2;simp[Ye]
theorem Jli {cs:List Chd} {us:List Upd} {u:Upd} (h:Xn cs u.key<0):Ye cs (us++[u])=Ye cs us:=by
 apply List.ext_getElem
 ·simp[Ye]
 ·intro i h1 h2
  rw[ZX,ZX,List.filter_append,List.filter_cons_of_neg (by simp;omega)]
  simp
theorem Jlh {cs:List Chd} {us:List Upd} {u:Upd} {k:Nat} (h:Xn cs u.key=k) (hk:k<(Ye cs us).length):Ye cs (us++[u])=(Ye cs us).set k ((Ye cs us)[k]+1):=by
 apply List.ext_getElem
 ·simp[Ye]
 ·intro i h1 h2
  rw[ZX,List.getElem_set]
  by_cases e:k=i
  ·subst e
   rw[if_pos rfl,ZX,List.filter_append,List.filter_cons_of_pos (by simpa using h)]
   simp
  ·rw[if_neg e,ZX,List.filter_append,List.filter_cons_of_neg (by simp;omega)]
   simp
theorem JoI (cs:List Chd) (us:List Upd) (i:Nat) (hi:i<(Ye cs us).length):0<=(Ye cs us)[i]/\(Ye cs us)[i]<=us.length:=by
 rw[ZX]
 exact⟨by omega,by have:=List.length_filter_le (fun u:Upd=>decide (Xn cs u.key=(i:Int))) us;omega⟩
theorem JmS (n:Nat):(madeCells (Value.int .i64 0).cells (n*1)).toList=XN (List.replicate n 0):=by
 rw[Nat.mul_one]
 apply List.ext_getElem
 ·simp[madeCells,XN]
 ·intro i h1 h2
  simp[madeCells,XN,Value.cells,Nat.mod_one]
theorem JmW (l:List Int) (k:Nat) (x:Int):(XN l).set k (.int .i64 x)=XN (l.set k x):=by simp[XN,List.map_set]
theorem Jip (us:List Upd) (j:Nat) (h:j<us.length):us.take (j+1)=us.take j++[us[j]]:=List.take_succ_eq_append_getElem h
theorem JfQ (v:Value) (cs:List Chd) (us:List Upd) (w:World) (h:JA w v cs us) (hl:cs.length<=1000) (hu:us.length<=1000):
  Calls Tryz.prog 126 #[v] w fun e w'=>(∃v',e=.returned v'/\Out w.heap.size v' (Ye cs us) w')/\Below w.heap.size w w':=by
 obtain⟨i0,hi,iz0,iz1,iz2⟩:=info_parts Jjk
 obtain⟨a,b,x,y,rfl,h1,h2⟩:=h
 have HN:=Lib.hid (show JA w (.agg #[.slice a cs.length x,.slice b us.length y]) cs us from⟨a,b,x,y,rfl,h1,h2⟩)
 have HU:=Lib.hid h2
 clear h1 h2
 go_enter Tryz.func126,Tryz.ntmps126
 go_wp2_with (at_make;refine wpList_make_full _ rfl _ _ 55 rfl (w.heap.size+1) 3 i0 (.int .i64 0) 1 Tryz.underlying55 hi iz0 iz1 .i64 .i64 _ _ cs.length rfl rfl rfl rfl (by rw[iz2];omega) (by unfold maxLen;omega) (by simp) ?_;intro w1 hown1 hg1;have p0:w1.cell? ⟨w.heap.size,0,none⟩=some (.slice a cs.length x):=hg1.cell (by simp) (by simp);have p1:w1.cell? ⟨w.heap.size,1,none⟩=some (.slice b us.length y):=hg1.cell (by simp) (by simp))
 rw[JmS,<-Jne,World.size_alloc] at hown1
 have hsz1:w.heap.size+1<=w1.heap.size:=by have:=hg1.size;simp at this;omega
 have hB1:Below w.heap.size w w1:=Zp hg1 (fun k e=>by simp at e)
 have HOW:=Lib.hid hown1
 have HG1:=Lib.hid hg1
 clear hown1 hg1
 refine(Jl (JlL _ us _ (JZ.mk ⟨_,rfl,HU.out.kept hB1 (Nat.le_refl _)⟩) (by omega)) w1.heap.size w1 (by go_grown) (by go_grown)).mono ?_
 rintro e w2 ⟨⟨v',rfl,ho2⟩,hX2,-,-,-,hz2⟩
 obtain⟨al,cl,rfl⟩:=Jm ho2
 have c0:=Ja hX2 p0
 have c1:=Ja hX2 p1
 have hlt1:w.heap.size+1<w1.heap.size:=(HOW.out.lt _ rfl).2
 have HO2:=Lib.hid (Ji HOW.out hX2)
 have HL:=Lib.hid ho2
 have hB2:=hB1.trans (hX2.mono hB1.size)
 have HC:=Lib.hid (And.intro c0 c1)
 have HB2:=Lib.hid hB2
 clear ho2 hX2 p0 p1 HOW HG1 hB1 c0 c1 hB2
 go_wp2_with fail
 go_loopw [15] (fun i wr=>∃j:Nat,i=.int .i64 j/\j<=us.length/\Hid (wr.ownsRow (w.heap.size+1) 3 1 (.slice (some ⟨w.heap.size+1,0,none⟩) cs.length cs.length) cs.length (XN (Ye cs (us.take j))))/\w2.grownBy wr (some (w.heap.size+1))) (fun i _=>us.length- (intOf i).toNat)
 case atStart=>exact⟨0,rfl,Nat.zero_le _,HO2,World.grownBy.refl _ _⟩
 case round=>
  obtain⟨j,rfl,hj,HO,hg⟩:=hrel
  have hj0:(0:Int)<=(j:Int):=Int.natCast_nonneg _
  have hBw:Below w.heap.size w wr:=Ju HB2.out hg (fun k e=>by injection e with e;omega) HB2.out.size
  have hzw:=hg.size
  by_cases hjl:j<us.length
  ·have hj1:(j:Int)<(us.length:Int):=by omega
   have hrow:=HL.out.kept hg (by
    cases hx:(Value.slice al us.length cl).ownBlock with
    |none=>exact Or.inl rfl
    |some g=>exact Or.inr fun e=>by have h1:=(HL.out.lt g hx).1;injection e with e;omega)
   obtain⟨b0,off,rfl,hb,q0,q1,q2,q3⟩:=(Jc2 hrow).2.cells4 j hjl
   have c0:=hg.cell HC.out.1 (by simp)
   have c1:=hg.cell HC.out.2 (by simp)
   have HT:=Lib.hid (Jip us j hjl)
   have HNr:=Lib.hid (HN.out.kept hBw (Nat.le_refl _))
   have HBw:=Lib.hid hBw
   have HGr:=Lib.hid hg
   clear hrow hBw hg
   have hlen:=ZB cs (us.take j)
   have hcl:=fun(i:Nat) h=>JoI cs (us.take j) i h
   have hcn:=fun(h:Xn cs us[j].key<0)=>Jli (cs:=cs) (us:=us.take j) (u:=us[j]) h
   have hcs:=fun(k:Nat) (h:Xn cs us[j].key=(k:Int)) hk=>Jlh (cs:=cs) (us:=us.take j) (u:=us[j]) (k:=k) h hk
   rw[<-HT.out] at hcn hcs
   have HLEN:=Lib.hid hlen
   have HCL:=Lib.hid hcl
   have HCN:=Lib.hid hcn
   have HCS:=Lib.hid hcs
   have htl:(us.take j).length<=1000:=by rw[List.length_take];omega
   clear hlen hcl hcn hcs
   generalize us[j]=u at*
   have c0':=Jf (.cells #[.int .u8 u.kind,.string (S u.key),.string (S u.val),.int .u64 u.delta] 39) c0
   have c1':=Jf (.cells #[.int .u8 u.kind,.string (S u.key),.string (S u.val),.int .u64 u.delta] 39) c1
   go_wp2_with fail
   refine(Jl (Jhc _ cs us u.key _ (HNr.out.kept (by go_grown) (Nat.le_refl _)) hl) wr.heap.size wr (by go_grown) (by go_grown)).mono ?_
   rintro e w3 ⟨rfl,hX3,-,-,hs3,hz3⟩
   obtain⟨hq1,hq2⟩:=Jl4 cs u.key cs.length
   have hcq:Xn cs u.key=Jbk cs u.key cs.length:=rfl
   have hg3:=Zz HGr.out (JfD (row:=some (w.heap.size+1)) hX3)
   have HO3:=Lib.hid (Ji HO.out hX3)
   rw[<-hcq] at hq1 hq2
   clear hcq q0 q1 q2 q3 c0 c1 c0' c1'
   by_cases hneg:Xn cs u.key<0
   ·have HE:=Lib.hid (HCN.out hneg)
    have hd:decide (0<=Xn cs u.key)=false:=by simpa using hneg
    generalize Xn cs u.key=q at*
    go_wp2_with fail
    go_roundw
    (case rel=>exact⟨j+1,by go_num,by omega,by rw[HE.out];exact HO3,hg3⟩)
    (case measure=>first|(simp[intOf];done)|(simp[intOf];omega))
   ·obtain⟨q,hq⟩:∃q:Nat,Xn cs u.key=(q:Int):=⟨(Xn cs u.key).toNat,by omega⟩
    have hql:q<(Ye cs (us.take j)).length:=by rw[HLEN.out];omega
    have HE:=Lib.hid (HCS.out q hq hql)
    obtain⟨hv1,hv2⟩:=HCL.out q hql
    rw[hq] at hq1 hq2 hneg
    rw[hq]
    have hq0:(0:Int)<=(q:Int):=Int.natCast_nonneg _
    have hd:decide ((0:Int)<=(q:Int))=true:=by simp
    have r0:w3.cell? ⟨w.heap.size+1,q,none⟩=some (.int .i64 (Ye cs (us.take j))[q]):=by
     rw[HO3.out.cellAt q (by omega)]
     simp[XN,hql]
    have r1:w3.frozen? ⟨w.heap.size+1,q,none⟩=false:=HO3.out.frozenAt q
    have hst:=HO3.out.stored q (.int .i64 ((Ye cs (us.take j))[q]+1))
    have hst1:=hst.1
    rw[JmW,<-HE.out] at hst1
    have HST:=Lib.hid (And.intro hst1 (Zz hg3 hst.2))
    clear hst hst1 hq HO3 HE HCS HCN hg3 hX3
    have hu2:(Ye cs (us.take j))[q]<=1000:=by omega
    generalize(Ye cs (us.take j))[q]=z at*
    go_wp2_with fail
    go_roundw
    (case rel=>exact⟨j+1,by go_num,by omega,Lib.hid HST.out.1,HST.out.2⟩)
    (case measure=>first|(simp[intOf];done)|(simp[intOf];omega))
  ·obtain rfl:j=us.length:=by omega
   have HO':=Lib.hid (show Out w.heap.size (.slice (some ⟨w.heap.size+1,0,none⟩) cs.length cs.length) (Ye cs us) wr from⟨by have h:=HO.out;rw[List.take_length] at h;rw[ZB];exact JI h (by omega),by rw[ZB];rfl⟩)
   go_wp2_with fail
   go_ret
   exact⟨⟨_,rfl,HO'.out⟩,hBw⟩
open Go.RowKit
attribute [local go_sem ↓] Go.wp_at_zero Go.wp_at_succ
theorem Jq2 (v:Value) (cs:List Chd) (us:List Upd) (w:World) (h:JA w v cs us) (hl:cs.length<=1000) (hu:us.length<=1000) (k:Nat) (hk:Jct (Ye cs us) 1=[(k:Int)]) (hkl:k<(Ye cs us).length) (hc:(Ye cs us)[k]<1):
  Calls Tryz.prog 91 #[v] w fun e w'=>e=.returned (.tuple #[.int .i64 0,.agg #[.slice none 0 0],.agg #[.slice none 0 0,.slice none 0 0],.bool false])/\Below w.heap.size w w':=by
 obtain⟨a,b,x,y,rfl,h1,h2⟩:=h
 have HN:=Lib.hid (show JA w (.agg #[.slice a cs.length x,.slice b us.length y]) cs us from⟨a,b,x,y,rfl,h1,h2⟩)
 have HF:=Lib.hid (fun ao cap W h=>Jel ao cap (Ye cs us) W h (by rw[ZB];omega) k hk hkl)
 rw[if_pos hc] at HF
 clear h1 h2 hc hk
 go_enter Tryz.func91,Tryz.ntmps91
 go_wp2_with fail
 refine(Jl (JfQ _ cs us _ (HN.out.kept (by go_grown) (Nat.le_refl _)) hl hu) w.heap.size w (by go_grown) (by go_grown)).mono ?_
 rintro e w1 ⟨⟨v1,rfl,hO⟩,hB1,hk1,hf1,hs1,hz1⟩
 obtain⟨ao,c,rfl,hI,-,-⟩:=hO.form
 have HI:=Lib.hid hI
 clear hO hI
 go_wp2_with fail
 refine(Jl (HF.out ao c _ HI.out) w.heap.size w hB1 hz1).mono ?_
 rintro e w2 ⟨rfl,hB2,hk2,hf2,hs2,hz2⟩
 simp at hs1
 have c3:w2.cell? ⟨w.heap.size+1,0,none⟩=some (.slice none 0 0):=(hk2 _ 0 (by omega)).trans ((hk1 (w.heap.size+1) 0 (by simp)).trans (by rw[World.cell?_alloc_past _ _ _ (by simp),World.cell?_alloc_at _ _ _ _ (by simp)];rfl))
 have c4:w2.cell? ⟨w.heap.size+1+1,0,none⟩=some (.slice none 0 0):=(hk2 _ 0 (by omega)).trans ((hk1 (w.heap.size+1+1) 0 (by simp)).trans (by rw[World.cell?_alloc_at _ _ _ _ (by simp)];rfl))
 have c5:w2.cell? ⟨w.heap.size+1+1,1,none⟩=some (.slice none 0 0):=(hk2 _ 1 (by omega)).trans ((hk1 (w.heap.size+1+1) 1 (by simp)).trans (by rw[World.cell?_alloc_at _ _ _ _ (by simp)];rfl))
 have f3:w2.frozen? ⟨w.heap.size+1,0,none⟩=false:=(hf2 _ 0 (by omega)).trans ((hf1 (w.heap.size+1) 0 (by simp)).trans (by rw[World.frozen?_alloc_past _ _ _ (by simp),World.frozen?_alloc_at _ _ _ _ (by simp)]))
 have f4:w2.frozen? ⟨w.heap.size+1+1,0,none⟩=false:=(hf2 _ 0 (by omega)).trans ((hf1 (w.heap.size+1+1) 0 (by simp)).trans (by rw[World.frozen?_alloc_at _ _ _ _ (by simp)]))
 have f5:w2.frozen? ⟨w.heap.size+1+1,1,none⟩=false:=(hf2 _ 1 (by omega)).trans ((hf1 (w.heap.size+1+1) 1 (by simp)).trans (by rw[World.frozen?_alloc_at _ _ _ _ (by simp)]))
 clear hk1 hf1 hk2 hf2 hB1
 go_wp2_with fail
 refine bodyPost_ret (v:=.tuple #[.int .i64 0,.agg #[.slice none 0 0],.agg #[.slice none 0 0,.slice none 0 0],.bool false]) ?_ rfl ⟨rfl,?_⟩
 ·simp[results,Tryz.results91,go_sem,c3,c4,c5]
 ·exact(((hB2.setCell (p:=⟨w.heap.size+1,0,none⟩) (by simp) _).setCell (p:=⟨w.heap.size+1+1,0,none⟩) (by simp;omega) _).setCell (p:=⟨w.heap.size+1+1,1,none⟩) (by simp;omega) _)
theorem Jmn (v:Value) (cs:List Chd) (us:List Upd) (w:World) (h:JA w v cs us) (hl:cs.length<=1000) (hu:us.length<=1000) (hr:Je Upd.key us) (k:Nat) (hk:Jct (Ye cs us) 1=[(k:Int)]) (hkl:k<(Ye cs us).length) (hc:¬(Ye cs us)[k]<1):
  Calls Tryz.prog 91 #[v] w fun e w'=>(∃a1 y1 nv,e=.returned (.tuple #[.int .i64 k,.agg #[.slice a1 (JH us (Yv cs k) (JX cs k)).length y1],nv,.bool true])/\JZ w' (.agg #[.slice a1 (JH us (Yv cs k) (JX cs k)).length y1]) (JH us (Yv cs k) (JX cs k))/\JA w' nv cs (Ya us (Yv cs k) (JX cs k)))/\Below w.heap.size w w':=by
 obtain⟨a,b,x,y,rfl,h1,h2⟩:=h
 have HN:=Lib.hid (show JA w (.agg #[.slice a cs.length x,.slice b us.length y]) cs us from⟨a,b,x,y,rfl,h1,h2⟩)
 have HU:=Lib.hid h2
 have HCH:=Lib.hid h1
 have HF:=Lib.hid (fun ao cap W h=>Jel ao cap (Ye cs us) W h (by rw[ZB];omega) k hk hkl)
 rw[if_neg hc] at HF
 have hkc:k<1000:=by rw[ZB] at hkl;omega
 have HR:=Lib.hid hr
 clear h1 h2 hc hk hr hkl
 go_enter Tryz.func91,Tryz.ntmps91
 go_wp2_with fail
 refine(Jl (JfQ _ cs us _ (HN.out.kept (by go_grown) (Nat.le_refl _)) hl hu) w.heap.size w (by go_grown) (by go_grown)).mono ?_
 rintro e w1 ⟨⟨v1,rfl,hO⟩,hB1,hk1,hf1,hs1,hz1⟩
 obtain⟨ao,c,rfl,hI,-,-⟩:=hO.form
 have HI:=Lib.hid hI
 clear hO hI
 go_wp2_with fail
 refine(Jl (HF.out ao c _ HI.out) w.heap.size w hB1 hz1).mono ?_
 rintro e w2 ⟨rfl,hB2,hk2,hf2,hs2,hz2⟩
 simp at hs1
 have c0:w2.cell? ⟨w.heap.size,0,none⟩=some (.slice a cs.length x):=(hk2 _ 0 (by omega)).trans ((hk1 (w.heap.size) 0 (by simp<;>omega)).trans (by rw[World.cell?_alloc_past _ _ _ (by simp<;>omega),World.cell?_alloc_past _ _ _ (by simp<;>omega),World.cell?_alloc_at _ _ _ _ (by simp)];rfl))
 have f0:w2.frozen? ⟨w.heap.size,0,none⟩=false:=(hf2 _ 0 (by omega)).trans ((hf1 (w.heap.size) 0 (by simp<;>omega)).trans (by rw[World.frozen?_alloc_past _ _ _ (by simp<;>omega),World.frozen?_alloc_past _ _ _ (by simp<;>omega),World.frozen?_alloc_at _ _ _ _ (by simp)]))
 have c1:w2.cell? ⟨w.heap.size,1,none⟩=some (.slice b us.length y):=(hk2 _ 1 (by omega)).trans ((hk1 (w.heap.size) 1 (by simp<;>omega)).trans (by rw[World.cell?_alloc_past _ _ _ (by simp<;>omega),World.cell?_alloc_past _ _ _ (by simp<;>omega),World.cell?_alloc_at _ _ _ _ (by simp)];rfl))
 have f1:w2.frozen? ⟨w.heap.size,1,none⟩=false:=(hf2 _ 1 (by omega)).trans ((hf1 (w.heap.size) 1 (by simp<;>omega)).trans (by rw[World.frozen?_alloc_past _ _ _ (by simp<;>omega),World.frozen?_alloc_past _ _ _ (by simp<;>omega),World.frozen?_alloc_at _ _ _ _ (by simp)]))
 have c3:w2.cell? ⟨w.heap.size+1,0,none⟩=some (.slice none 0 0):=(hk2 _ 0 (by omega)).trans ((hk1 (w.heap.size+1) 0 (by simp<;>omega)).trans (by rw[World.cell?_alloc_past _ _ _ (by simp<;>omega),World.cell?_alloc_at _ _ _ _ (by simp)];rfl))
 have f3:w2.frozen? ⟨w.heap.size+1,0,none⟩=false:=(hf2 _ 0 (by omega)).trans ((hf1 (w.heap.size+1) 0 (by simp<;>omega)).trans (by rw[World.frozen?_alloc_past _ _ _ (by simp<;>omega),World.frozen?_alloc_at _ _ _ _ (by simp)]))
 have c4:w2.cell? ⟨w.heap.size+1+1,0,none⟩=some (.slice none 0 0):=(hk2 _ 0 (by omega)).trans ((hk1 (w.heap.size+1+1) 0 (by simp<;>omega)).trans (by rw[World.cell?_alloc_at _ _ _ _ (by simp)];rfl))
 have f4:w2.frozen? ⟨w.heap.size+1+1,0,none⟩=false:=(hf2 _ 0 (by omega)).trans ((hf1 (w.heap.size+1+1) 0 (by simp<;>omega)).trans (by rw[World.frozen?_alloc_at _ _ _ _ (by simp)]))
 have c5:w2.cell? ⟨w.heap.size+1+1,1,none⟩=some (.slice none 0 0):=(hk2 _ 1 (by omega)).trans ((hk1 (w.heap.size+1+1) 1 (by simp<;>omega)).trans (by rw[World.cell?_alloc_at _ _ _ _ (by simp)];rfl))
 have f5:w2.frozen? ⟨w.heap.size+1+1,1,none⟩=false:=(hf2 _ 1 (by omega)).trans ((hf1 (w.heap.size+1+1) 1 (by simp<;>omega)).trans (by rw[World.frozen?_alloc_at _ _ _ _ (by simp)]))
 have hs2':w.heap.size+3<=w2.heap.size:=by omega
 clear hk1 hf1 hk2 hf2 hB1 HF HI hs1 hs2 hz1
 have hcu:=fun W h=>JjF b _ y us (Yv cs (k:Int)) (JX cs (k:Int)) W rfl h hu HR.out
 have HCU:=Lib.hid hcu
 have hra:=fun W h=>JgJ (.agg #[.slice a cs.length x,.slice b us.length y]) cs us (k:Int) W h hl (by omega)
 have HRA:=Lib.hid hra
 clear hcu hra
 generalize hlo:Yv cs (k:Int)=lo at*
 generalize hhi:JX cs (k:Int)=hi at*
 have HLO:=Lib.hid hlo
 have HHI:=Lib.hid hhi
 clear hlo hhi
 generalize hI:JH us lo hi=I at*
 generalize hO:Ya us lo hi=O at*
 have HI:=Lib.hid hI
 have HO:=Lib.hid hO
 clear hI hO
 go_upto_region 5 with(fail)
 obtain⟨W,hW⟩:∃W,W=w2.alloc (.cells #[.slice none 0 0] 103):=⟨_,rfl⟩
 rw[<-hW]
 have d0:W.cell? ⟨w.heap.size,0,none⟩=some (.slice a cs.length x):=by rw[hW];exact Jf _ c0
 have d1:W.cell? ⟨w.heap.size,1,none⟩=some (.slice b us.length y):=by rw[hW];exact Jf _ c1
 have d8:W.cell? ⟨w2.heap.size,0,none⟩=some (.slice none 0 0):=by rw[hW];simp
 have g0:W.frozen? ⟨w.heap.size,0,none⟩=false:=by rw[hW,World.frozen?_alloc_past _ _ _ (by omega)];exact f0
 have g1:W.frozen? ⟨w.heap.size,1,none⟩=false:=by rw[hW,World.frozen?_alloc_past _ _ _ (by omega)];exact f1
 have g8:W.frozen? ⟨w2.heap.size,0,none⟩=false:=by rw[hW];simp
 have hWs:w2.heap.size<W.heap.size:=by rw[hW];simp
 have hWB:Below w2.heap.size w2 W:=by rw[hW];exact(Below.refl _ _).alloc (Nat.le_refl _) _
 have HNW:=Lib.hid (HN.out.kept (hB2.trans (hWB.mono (by omega))) (Nat.le_refl _))
 have HUW:=Lib.hid (HU.out.kept (hB2.trans (hWB.mono (by omega))) (Nat.le_refl _))
 clear hW
 go_cut [19] (fun _ wx=>∃a1 y1 a2 y2,wx.cell? ⟨w.heap.size,0,none⟩=some (.slice a cs.length x)/\wx.cell? ⟨w.heap.size,1,none⟩=some (.slice a2 O.length y2)/\wx.cell? ⟨w2.heap.size,0,none⟩=some (.slice a1 I.length y1)/\Hid (JZ wx (.agg #[.slice a1 I.length y1]) I/\JZ wx (.agg #[.slice a2 O.length y2]) O)/\
  wx.frozen? ⟨w.heap.size,0,none⟩=false/\w2.heap.size<wx.heap.size/\(∀b o,b<w2.heap.size->b≠w.heap.size->wx.cell? ⟨b,o,none⟩=w2.cell? ⟨b,o,none⟩)/\(∀b o,b<w2.heap.size->wx.frozen? ⟨b,o,none⟩=w2.frozen? ⟨b,o,none⟩)/\Below w.heap.size w2 wx)
 case first=>
  go_region_law (first
   |(go_simp;go_at_call 76;refine(HRA.out _ (HNW.out.kept (by go_grown) (Nat.le_refl _))).mono ?_;rintro e w4 ⟨rfl,hb4⟩;have X4:=Lib.hid ((Jb (Below.refl W.heap.size W)).trans hb4);have y1:=Ja hb4 (Jj d1);clear hb4)
   |(go_simp;go_at_call 78;refine(HCU.out _ (JZ.mk ⟨_,rfl,HUW.out.kept X4.out (Nat.le_refl _)⟩)).mono ?_;rintro e w5 ⟨⟨a1,z1,a2,z2,rfl,hi5,ho5⟩,hb5⟩;have X5:=Lib.hid (X4.out.trans (hb5.mono X4.out.size));have HB5:=Lib.hid (And.intro hi5 ho5);have q0:=Ja X5.out d0;have q1:=Ja X5.out d1;have q8:=Ja X5.out d8;have r0:=((JB X5.out).2 w.heap.size 0 (by omega)).trans g0;have r1:=((JB X5.out).2 w.heap.size 1 (by omega)).trans g1;have r8:=((JB X5.out).2 w2.heap.size 0 (by omega)).trans g8;clear hb5 hi5 ho5))
  all_goals
   obtain⟨wx,hwx⟩:∃wx,wx=(w5.setCell ⟨w2.heap.size,0,none⟩ (.slice a1 I.length z1)).setCell ⟨w.heap.size,1,none⟩ (.slice a2 O.length z2):=⟨_,rfl⟩
   rw[<-hwx]
   have q1':(w5.setCell ⟨w2.heap.size,0,none⟩ (.slice a1 I.length z1)).cell? ⟨w.heap.size,1,none⟩=some (.slice b us.length y):=(World.cell?_setCell_other _ _ _ _ (Jp (Or.inl (by omega)))).trans q1
   have s0:wx.cell? ⟨w.heap.size,0,none⟩=some (.slice a cs.length x):=by rw[hwx,World.cell?_setCell_other _ _ _ _ (Jp (Or.inr (by omega))),World.cell?_setCell_other _ _ _ _ (Jp (Or.inl (by omega)))];exact q0
   have s1:wx.cell? ⟨w.heap.size,1,none⟩=some (.slice a2 O.length z2):=by rw[hwx];exact World.cell?_setCell_same _ _ _ q1'
   have s8:wx.cell? ⟨w2.heap.size,0,none⟩=some (.slice a1 I.length z1):=by rw[hwx,World.cell?_setCell_other _ _ _ _ (Jp (Or.inl (by omega)))];exact World.cell?_setCell_same _ _ _ q8
   have HB:=Lib.hid (show JZ wx (.agg #[.slice a1 I.length z1]) I/\JZ wx (.agg #[.slice a2 O.length z2]) O from by rw[hwx];exact⟨(HB5.out.1.setAt q8 _).setAt q1' _,(HB5.out.2.setAt q8 _).setAt q1' _⟩)
   have t0:wx.frozen? ⟨w.heap.size,0,none⟩=false:=by rw[hwx,World.frozen?_setCell,World.frozen?_setCell];exact r0
   have hsx:w2.heap.size<wx.heap.size:=by rw[hwx,World.size_setCell,World.size_setCell];exact Nat.lt_of_lt_of_le hWs X5.out.size
   have hk:∀b o,b<w2.heap.size->b≠w.heap.size->wx.cell? ⟨b,o,none⟩=w2.cell? ⟨b,o,none⟩:=fun b o hb hne=>by
    rw[hwx,World.cell?_setCell_other _ _ _ _ (Jp (Or.inl (by omega))),World.cell?_setCell_other _ _ _ _ (Jp (Or.inl (by omega)))]
    exact((JB X5.out).1 b o (by omega)).trans ((JB hWB).1 b o hb)
   have hf:∀b o,b<w2.heap.size->wx.frozen? ⟨b,o,none⟩=w2.frozen? ⟨b,o,none⟩:=fun b o hb=>by
    rw[hwx,World.frozen?_setCell,World.frozen?_setCell]
    exact((JB X5.out).2 b o (by omega)).trans ((JB hWB).2 b o hb)
   have hb:Below w.heap.size w2 wx:=by
    rw[hwx]
    exact(((hWB.mono hz2).trans (X5.out.mono (by omega))).setCell (p:=⟨w2.heap.size,0,none⟩) hz2 _).setCell (p:=⟨w.heap.size,1,none⟩) (Nat.le_refl _) _
   clear hwx q1'
   go_wp2_with fail
   go_meet
   exact⟨a1,z1,a2,z2,s0,s1,s8,HB,t0,hsx,hk,hf,hb⟩
 case rest=>
  obtain⟨a1,z1,a2,z2,s0,s1,s8,HB,t0,hsx,hk,hf,hb⟩:=hcut
  have k3:=(hk (w.heap.size+1) 0 (by omega) (by omega)).trans c3
  have k4:=(hk (w.heap.size+1+1) 0 (by omega) (by omega)).trans c4
  have k5:=(hk (w.heap.size+1+1) 1 (by omega) (by omega)).trans c5
  have l3:=(hf (w.heap.size+1) 0 (by omega)).trans f3
  have l4:=(hf (w.heap.size+1+1) 0 (by omega)).trans f4
  have l5:=(hf (w.heap.size+1+1) 1 (by omega)).trans f5
  have hB:=hB2.trans hb
  have HCW:=Lib.hid (HCH.out.kept hB (Nat.le_refl _))
  clear hk hf hb c0 c1 c3 c4 c5 f0 f1 f3 f4 f5 d0 d1 d8 g0 g1 g8 hB2
  go_wp2_with fail
  refine(Jl (Jh9 (.slice a cs.length x) cs _ HCW.out (by omega)) wc.heap.size wc (by go_grown) (by go_grown)).mono ?_
  rintro e w6 ⟨⟨v6,rfl,ho6⟩,hX6,-,-,hs6,hz6⟩
  obtain⟨a6,y6,rfl⟩:=Jm ho6
  have HCL:=Lib.hid (JaR ho6).2
  have m0:=Ja hX6 s0
  have m1:=Ja hX6 s1
  have m8:=Ja hX6 s8
  have m3:=Ja hX6 k3
  have m4:=Ja hX6 k4
  have m5:=Ja hX6 k5
  have n0:=((JB hX6).2 w.heap.size 0 (by omega)).trans t0
  have n3:=((JB hX6).2 (w.heap.size+1) 0 (by omega)).trans l3
  have n4:=((JB hX6).2 (w.heap.size+1+1) 0 (by omega)).trans l4
  have n5:=((JB hX6).2 (w.heap.size+1+1) 1 (by omega)).trans l5
  have HB6:=Lib.hid (And.intro (HB.out.1.kept hX6 (Nat.le_refl _)) (HB.out.2.kept hX6 (Nat.le_refl _)))
  have hB6:=hB.trans (hX6.mono hB.size)
  have hs6':w2.heap.size<w6.heap.size:=by omega
  clear ho6 s0 s1 s8 k3 k4 k5 t0 l3 l4 l5 hX6 hB HB HCW hs6 hz6
  go_upto_region 7 with(fail)
  obtain⟨wy,hwy⟩:∃wy,wy=w6.setCell ⟨w.heap.size,0,none⟩ (.slice a6 cs.length y6):=⟨_,rfl⟩
  rw[<-hwy]
  have o0:wy.cell? ⟨w.heap.size,0,none⟩=some (.slice a6 cs.length y6):=by rw[hwy];exact World.cell?_setCell_same _ _ _ m0
  have o1:wy.cell? ⟨w.heap.size,1,none⟩=some (.slice a2 O.length z2):=by rw[hwy,World.cell?_setCell_other _ _ _ _ (Jp (Or.inr (by omega)))];exact m1
  have o8:wy.cell? ⟨w2.heap.size,0,none⟩=some (.slice a1 I.length z1):=by rw[hwy,World.cell?_setCell_other _ _ _ _ (Jp (Or.inl (by omega)))];exact m8
  have o3:wy.cell? ⟨w.heap.size+1,0,none⟩=some (.slice none 0 0):=by rw[hwy,World.cell?_setCell_other _ _ _ _ (Jp (Or.inl (by omega)))];exact m3
  have o4:wy.cell? ⟨w.heap.size+1+1,0,none⟩=some (.slice none 0 0):=by rw[hwy,World.cell?_setCell_other _ _ _ _ (Jp (Or.inl (by omega)))];exact m4
  have o5:wy.cell? ⟨w.heap.size+1+1,1,none⟩=some (.slice none 0 0):=by rw[hwy,World.cell?_setCell_other _ _ _ _ (Jp (Or.inl (by omega)))];exact m5
  have p3:wy.frozen? ⟨w.heap.size+1,0,none⟩=false:=by rw[hwy,World.frozen?_setCell];exact n3
  have p4:wy.frozen? ⟨w.heap.size+1+1,0,none⟩=false:=by rw[hwy,World.frozen?_setCell];exact n4
  have p5:wy.frozen? ⟨w.heap.size+1+1,1,none⟩=false:=by rw[hwy,World.frozen?_setCell];exact n5
  have HY:=Lib.hid (show SlC wy (.slice a6 cs.length y6) cs/\JZ wy (.agg #[.slice a1 I.length z1]) I/\JZ wy (.agg #[.slice a2 O.length z2]) O from by rw[hwy];exact⟨HCL.out.setAt m0 _,HB6.out.1.setAt m0 _,HB6.out.2.setAt m0 _⟩)
  have hBy:Below w.heap.size w wy:=by rw[hwy];exact hB6.setCell (p:=⟨w.heap.size,0,none⟩) (Nat.le_refl _) _
  clear hwy m0 m1 m8 m3 m4 m5 n0 n3 n4 n5 HB6 hB6 HCL
  go_region
  all_goals
   go_wp2_with fail
   have p4':(wy.setCell ⟨w.heap.size+1,0,none⟩ (.slice a1 I.length z1)).cell? ⟨w.heap.size+1+1,0,none⟩=some (.slice none 0 0):=(World.cell?_setCell_other _ _ _ _ (Jp (Or.inl (by omega)))).trans o4
   have p5':((wy.setCell ⟨w.heap.size+1,0,none⟩ (.slice a1 I.length z1)).setCell ⟨w.heap.size+1+1,0,none⟩ (.slice a6 cs.length y6)).cell? ⟨w.heap.size+1+1,1,none⟩=some (.slice none 0 0):=(World.cell?_setCell_other _ _ _ _ (Jp (Or.inr (by omega)))).trans ((World.cell?_setCell_other _ _ _ _ (Jp (Or.inl (by omega)))).trans o5)
   have hE:=((hBy.setCell (p:=⟨w.heap.size+1,0,none⟩) (by simp) (.slice a1 I.length z1)).setCell (p:=⟨w.heap.size+1+1,0,none⟩) (by simp;omega) (.slice a6 cs.length y6)).setCell (p:=⟨w.heap.size+1+1,1,none⟩) (by simp;omega) (.slice a2 O.length z2)
   have hI:=((HY.out.2.1.setAt o3 (.slice a1 I.length z1)).setAt p4' (.slice a6 cs.length y6)).setAt p5' (.slice a2 O.length z2)
   have hO:=((HY.out.2.2.setAt o3 (.slice a1 I.length z1)).setAt p4' (.slice a6 cs.length y6)).setAt p5' (.slice a2 O.length z2)
   have hC:=((HY.out.1.setAt o3 (.slice a1 I.length z1)).setAt p4' (.slice a6 cs.length y6)).setAt p5' (.slice a2 O.length z2)
   obtain⟨sO,eO,hO'⟩:=hO
   simp only[Value.agg.injEq,Array.mk.injEq,List.cons.injEq,and_true] at eO
   subst eO
   refine bodyPost_ret (v:=.tuple #[.int .i64 k,.agg #[.slice a1 I.length z1],.agg #[.slice a6 cs.length y6,.slice a2 O.length z2],.bool true]) ?_ rfl ⟨⟨a1,z1,.agg #[.slice a6 cs.length y6,.slice a2 O.length z2],?_,?_,?_⟩,Jb hE⟩
   ·simp[results,Tryz.results91,go_sem,o3,o4,o5]
   ·rw[HLO.out,HHI.out,HI.out]
   ·rw[HLO.out,HHI.out,HI.out];exact hI.kept (Jb (Below.refl _ _)) (Nat.le_refl _)
   ·rw[HLO.out,HHI.out,HO.out];exact(JA.mk' hC hO').kept (Jb (Below.refl _ _)) (Nat.le_refl _)
open Go.RowKit
attribute [local go_sem ↓] Go.wp_at_zero Go.wp_at_succ
theorem Jlv:Tryz.prog.underlying 100=some (.slice (Tryz.prog.elem 100)):=by rw[show Tryz.prog.elem 100=179 by kernel_rfl];exact Tryz.underlying100
theorem JgA (w:World):(sizeOf (Tryz.prog.elem 100)).run Tryz.prog w=.ok 4 w:=by kernel_rfl
theorem Zl {w:World} {b b' o:Nat} {v u u':Value} (h:b≠b') (hc:w.cell? ⟨b,o,none⟩=some v):((w.setCell ⟨b',0,none⟩ u).setCell ⟨b',1,none⟩ u').cell? ⟨b,o,none⟩=some v:=
 J5 h (J5 h hc)
structure J9 (w:World) (p:Nat):Prop where
 c0:w.cell? ⟨p,0,none⟩=some (.slice none 0 0)
 c1:w.cell? ⟨p,1,none⟩=some (.slice none 0 0)
 f0:w.frozen? ⟨p,0,none⟩=false
 f1:w.frozen? ⟨p,1,none⟩=false
theorem J9.new (w:World) (t:TypeId) (p:Nat) (hp:p=w.heap.size):J9 (w.alloc (.cells #[.slice none 0 0,.slice none 0 0] t)) p:=
 ⟨by rw[World.cell?_alloc_at _ _ _ _ hp];rfl,by rw[World.cell?_alloc_at _ _ _ _ hp];rfl,World.frozen?_alloc_at _ _ _ _ hp,World.frozen?_alloc_at _ _ _ _ hp⟩
theorem J9.on {w w':World} {p:Nat} (h:J9 w p) (hb:Below w.heap.size w w'):J9 w' p:=by
 have hp:=World.block_lt_of_cell? w _ h.c0
 exact⟨((JB hb).1 p 0 hp).trans h.c0,((JB hb).1 p 1 hp).trans h.c1,((JB hb).2 p 0 hp).trans h.f0,((JB hb).2 p 1 hp).trans h.f1⟩
theorem J9.alloc {w:World} {p:Nat} (h:J9 w p) (o:Obj):J9 (w.alloc o) p:=h.on ((Below.refl _ _).alloc (Nat.le_refl _) o)
theorem J9.drew {w:World} {p:Nat} (h:J9 w p):J9 w.drew p:=⟨h.c0,h.c1,h.f0,h.f1⟩
theorem J9.far {w:World} {p q:Nat} (h:J9 w p) (hn:p≠q) (u u':Value):J9 ((w.setCell ⟨q,0,none⟩ u).setCell ⟨q,1,none⟩ u') p:=
 ⟨Zl hn h.c0,Zl hn h.c1,by rw[World.frozen?_setCell,World.frozen?_setCell];exact h.f0,by rw[World.frozen?_setCell,World.frozen?_setCell];exact h.f1⟩
theorem J9.half {w:World} {p:Nat} (h:J9 w p) (u:Value) (o:Obj):((w.setCell ⟨p,0,none⟩ u).alloc o).cell? ⟨p,1,none⟩=some (.slice none 0 0)/\((w.setCell ⟨p,0,none⟩ u).alloc o).frozen? ⟨p,1,none⟩=false:=by
 have hp:=World.block_lt_of_cell? w _ h.c0
 refine⟨Jf o ((World.cell?_setCell_other _ _ _ _ (Jp (Or.inr (by decide)))).trans h.c1),?_⟩
 rw[World.frozen?_alloc_past _ _ _ (by rw[World.size_setCell];exact hp),World.frozen?_setCell]
 exact h.f1
def Y8 (cs:List Chd) (i:Nat):List UInt8:=(cs[i]?.map Chd.low).getD []
def Xc:List Chd->List Chd
 |[]=>[]
 |c::l=> {c with low:=[]}::l
theorem JbK (l:List Chd) (h:0<l.length):(cellsC l).set 0 (.string ⟨#[]⟩)=cellsC (Xc l):=by
 cases l with
 |nil=>simp at h
 |cons c l=>rfl
structure ZG (w wx:World) (p q:Nat) (u v:Value):Prop where
 a0:wx.cell? ⟨p,0,none⟩=some u
 a1:wx.cell? ⟨p,1,none⟩=some (.slice none 0 0)
 b0:wx.cell? ⟨q,0,none⟩=some v
 b1:wx.cell? ⟨q,1,none⟩=some (.slice none 0 0)
 fa:wx.frozen? ⟨p,1,none⟩=false
 fb:wx.frozen? ⟨q,1,none⟩=false
 ne:p≠q
 os:wx.os=w.os
 tape:wx.tape=w.tape
 output:wx.output=w.output
 size:w.heap.size<=wx.heap.size
 block:∀k,k<w.heap.size->k≠p->k≠q->wx.heap[k]? =w.heap[k]?
theorem J9.lt {w:World} {p:Nat} (h:J9 w p):p<w.heap.size:=World.block_lt_of_cell? w _ h.c0
theorem ZG.both {w:World} {p q:Nat} (hp:J9 w p) (hq:J9 w q) (hn:p≠q) (u v:Value):ZG w ((((w.setCell ⟨p,0,none⟩ u).setCell ⟨p,1,none⟩ (.slice none 0 0)).setCell ⟨q,0,none⟩ v).setCell ⟨q,1,none⟩ (.slice none 0 0)) p q u v:=by
 have h1:((w.setCell ⟨p,0,none⟩ u).setCell ⟨p,1,none⟩ (.slice none 0 0)).cell? ⟨p,0,none⟩=some u:=by
  rw[World.cell?_setCell_other _ _ _ _ (Jp (Or.inr (by decide)))];exact World.cell?_setCell_same _ _ _ hp.c0
 have h2:((w.setCell ⟨p,0,none⟩ u).setCell ⟨p,1,none⟩ (.slice none 0 0)).cell? ⟨p,1,none⟩=some (.slice none 0 0):=
  World.cell?_setCell_same _ _ _ ((World.cell?_setCell_other _ _ _ _ (Jp (Or.inr (by decide)))).trans hp.c1)
 have hq':=hq.far (Ne.symm hn) u (.slice none 0 0)
 refine⟨Zl hn h1,Zl hn h2,?_,?_,?_,?_,hn,rfl,rfl,rfl,by simp only[World.size_setCell];exact Nat.le_refl _,fun k hk h3 h4=> ?_⟩
 ·rw[World.cell?_setCell_other _ _ _ _ (Jp (Or.inr (by decide)))];exact World.cell?_setCell_same _ _ _ hq'.c0
 ·exact World.cell?_setCell_same _ _ _ ((World.cell?_setCell_other _ _ _ _ (Jp (Or.inr (by decide)))).trans hq'.c1)
 ·simp only[World.frozen?_setCell];exact hp.f1
 ·simp only[World.frozen?_setCell];exact hq.f1
 ·exact((Below.heap_setCell _ _ _ _ h4).trans (Below.heap_setCell _ _ _ _ h4)).trans ((Below.heap_setCell _ _ _ _ h3).trans (Below.heap_setCell _ _ _ _ h3))
theorem ZG.back {w wx:World} {p q:Nat} {u v:Value} {o:Obj} (h:ZG (w.alloc o) wx p q u v):ZG w wx p q u v:=
 ⟨h.a0,h.a1,h.b0,h.b1,h.fa,h.fb,h.ne,h.os,h.tape,h.output,Nat.le_trans (by simp) h.size,fun k hk h1 h2=>(h.block k (by simp;omega) h1 h2).trans (Below.heap_alloc w o k hk)⟩
theorem ZG.old {w:World} {p:Nat} (hp:J9 w p) (t:TypeId) (u v:Value):ZG w (((((w.alloc (.cells #[.slice none 0 0,.slice none 0 0] t)).setCell ⟨p,0,none⟩ u).setCell ⟨p,1,none⟩ (.slice none 0 0)).setCell ⟨w.heap.size,0,none⟩ v).setCell ⟨w.heap.size,1,none⟩ (.slice none 0 0)) p w.heap.size u v:=
 (ZG.both (hp.alloc _) (J9.new w t _ rfl) (Nat.ne_of_lt hp.lt) u v).back
theorem ZG.new {w:World} {q:Nat} (hq:J9 w q) (t:TypeId) (u v:Value):ZG w (((w.alloc (.cells #[u,.slice none 0 0] t)).setCell ⟨q,0,none⟩ v).setCell ⟨q,1,none⟩ (.slice none 0 0)) w.heap.size q u v:=by
 have hl:=hq.lt
 have hq':=hq.alloc (.cells #[u,.slice none 0 0] t)
 refine⟨Zl (Nat.ne_of_gt hl) (by rw[World.cell?_alloc_at _ _ _ _ rfl];rfl),Zl (Nat.ne_of_gt hl) (by rw[World.cell?_alloc_at _ _ _ _ rfl];rfl),?_,?_,?_,?_,Nat.ne_of_gt hl,rfl,rfl,rfl,by simp only[World.size_setCell,World.size_alloc];omega,fun k hk h3 h4=> ?_⟩
 ·rw[World.cell?_setCell_other _ _ _ _ (Jp (Or.inr (by decide)))];exact World.cell?_setCell_same _ _ _ hq'.c0
 ·exact World.cell?_setCell_same _ _ _ ((World.cell?_setCell_other _ _ _ _ (Jp (Or.inr (by decide)))).trans hq'.c1)
 ·simp only[World.frozen?_setCell];exact World.frozen?_alloc_at _ _ _ _ rfl
 ·simp only[World.frozen?_setCell];exact hq'.f1
 ·exact((Below.heap_setCell _ _ _ _ h4).trans (Below.heap_setCell _ _ _ _ h4)).trans (Below.heap_alloc w _ k hk)
theorem ZG.fresh {w:World} (t:TypeId) (u v:Value):ZG w ((w.alloc (.cells #[u,.slice none 0 0] t)).alloc (.cells #[v,.slice none 0 0] t)) w.heap.size (w.heap.size+1) u v:=
 ⟨Jf _ (by rw[World.cell?_alloc_at _ _ _ _ rfl];rfl),Jf _ (by rw[World.cell?_alloc_at _ _ _ _ rfl];rfl),by rw[World.cell?_alloc_at _ _ _ _ (by simp)];rfl,by rw[World.cell?_alloc_at _ _ _ _ (by simp)];rfl,
  by rw[World.frozen?_alloc_past _ _ _ (by simp)];exact World.frozen?_alloc_at _ _ _ _ rfl,World.frozen?_alloc_at _ _ _ _ (by simp),by omega,rfl,rfl,rfl,by simp only[World.size_alloc];omega,fun k hk _ _=>(Below.heap_alloc _ _ k (by simp;omega)).trans (Below.heap_alloc w _ k hk)⟩
theorem ZG.swap {w wx:World} {p q:Nat} {u v:Value} (h:ZG w wx p q u v):ZG w wx q p v u:=
 ⟨h.b0,h.b1,h.a0,h.a1,h.fb,h.fa,h.ne.symm,h.os,h.tape,h.output,h.size,fun k hk h1 h2=>h.block k hk h2 h1⟩
theorem ZG.row {w wx:World} {p q:Nat} {u v:Value} (h:ZG w wx p q u v) {B:Nat} {E:TypeId} {k:Nat} {x:Value} {n:Nat} {xs:List Value} (ho:w.ownsRow B E k x n xs) (h1:x.ownBlock≠some p) (h2:x.ownBlock≠some q):wx.ownsRow B E k x n xs:=by
 obtain⟨hl,h3|⟨g,cap,cur,e,h4,h5,h6⟩⟩:=ho
 ·exact⟨hl,Or.inl h3⟩
 ·subst e
  have hg:g<w.heap.size:=(Array.getElem?_eq_some_iff.1 h5).1
  exact⟨hl,Or.inr ⟨g,cap,cur,rfl,h4,(h.block g hg (fun e=>h1 (by rw[<-e];rfl)) (fun e=>h2 (by rw[<-e];rfl))).trans h5,h6⟩⟩
theorem ZG.below {w wx W0:World} {p q B:Nat} {u v:Value} (h:ZG w wx p q u v) (hb:Below B W0 w) (h1:B<=p) (h2:B<=q) (hB:B<=w.heap.size):Below B W0 wx:=
 hb.trans ⟨h.os,h.tape,h.output,h.size,fun k hk=>h.block k (by omega) (by omega) (by omega)⟩
theorem JnL {w:World} {b off c:Nat} {l:List Chd} (h:SlC w (.slice (some ⟨b,off,none⟩) l.length c) l) (m:Nat) (hm:m<=l.length):SlC w (.slice (some ⟨b,off,none⟩) m c) (l.take m):=by
 obtain⟨ao,c',e,h1,h2,h3,h4⟩:=h
 simp only[Value.slice.injEq] at e
 obtain⟨rfl,-,rfl⟩:=e
 exact⟨_,c,by rw[List.length_take,Nat.min_eq_left hm],h1.cut m,by rw[List.length_take];omega,h3,fun e=>by simp at e⟩
theorem JnM {w:World} {b off c:Nat} {l:List Chd} (h:SlC w (.slice (some ⟨b,off,none⟩) l.length c) l) (m:Nat) (hm:m<=l.length):SlC w (.slice (some ⟨b,off+m*4,none⟩) (l.length-m) (c-m)) (l.drop m):=by
 obtain⟨ao,c',e,h1,h2,h3,h4⟩:=h
 simp only[Value.slice.injEq] at e
 obtain⟨rfl,-,rfl⟩:=e
 exact⟨_,c-m,by rw[List.length_drop],h1.drop m b off rfl,by rw[List.length_drop];omega,by omega,fun e=>by simp at e⟩
theorem Jmq (ao:Option Addr) (n c i:Nat) (hin:i<=n) (hnc:n<=c) (w:World):(Instr.slice 100 (.slice ao n c) none (some (.int .i64 (i:Int))) none).run Tryz.prog w=.ok (.slice ao i c) w:=by
 rw[run_slice_h w 100 ao n c Jlv .i64 i (by omega) (by omega)]
 rw[JgA]
 have e:ao.map (·.add 0)=ao:=by cases ao<;>simp[Addr.add]
 simp[Result.andThen,sliced,e]
theorem Jmr (b off n c i:Nat) (hin:i<n) (hnc:n<=c) (w:World):(Instr.slice 100 (.slice (some ⟨b,off,none⟩) n c) (some (.int .i64 (i:Int))) none none).run Tryz.prog w=.ok (.slice (some ⟨b,off+i*4,none⟩) (n-i) (c-i)) w:=by
 rw[run_slice_l w 100 (some ⟨b,off,none⟩) n c Jlv .i64 i (by omega) (by omega)]
 rw[JgA]
 simp only[Result.andThen,sliced,Int.toNat_natCast]
 rw[if_neg (by omega)]
 simp[Addr.add]
theorem Jjs (v:Value) (cs:List Chd) (us:List Upd) (w:World) (h:JA w v cs us) (hl:2<=cs.length) (hl2:cs.length<=1000) (hu:us.length<=1000) (hr:Je Upd.key us) (m:Nat) (hm:(cs.length+1)/2=m):
  Calls Tryz.prog 98 #[v] w fun e w'=>(∃va vb,e=.returned (.tuple #[va,vb,.string (S (Y8 cs m)),.bool true])/\JA w' va (cs.take m) (JH us [] (Y8 cs m))/\JA w' vb (Xc (cs.drop m)) (Ya us [] (Y8 cs m)))/\Below w.heap.size w w':=by
 obtain⟨a,b,x,y,rfl,h1,h2⟩:=h
 obtain⟨b0,off,e0,hb0,t0,-,-,-⟩:=h1.at.cells4C 0 (by omega)
 subst e0
 clear t0
 have hl':(2:Int)<=(cs.length:Int):=by omega
 have hmd:((cs.length:Int)+1)/2=(m:Int):=by omega
 have hm1:1<=m:=by omega
 have hm2:m<cs.length:=by omega
 have HCH:=Lib.hid h1
 have HU:=Lib.hid h2
 have hsl1:=fun W=>Jmq (some ⟨b0,off,none⟩) cs.length x m (by omega) (by obtain⟨_,_,e,-,h3,-⟩:=h1;simp only[Value.slice.injEq] at e;omega) W
 have hsl2:=fun W=>Jmr b0 off cs.length x m (by omega) (by obtain⟨_,_,e,-,h3,-⟩:=h1;simp only[Value.slice.injEq] at e;omega) W
 have hkx:m<x:=by obtain⟨_,_,e,-,h3,-⟩:=h1;simp only[Value.slice.injEq] at e;omega
 clear h1 h2 hm
 go_enter Tryz.func98,Tryz.ntmps98
 go_wp2_with fail
 rw[hmd]
 obtain⟨W,hW⟩:∃W,W=((w.alloc (.cells #[.slice (some ⟨b0,off,none⟩) cs.length x,.slice b us.length y] 105)).alloc (.cells #[.slice none 0 0,.slice none 0 0] 105)).alloc (.cells #[.slice none 0 0,.slice none 0 0] 105):=⟨_,rfl⟩
 rw[<-hW]
 have hWs:w.heap.size+3<=W.heap.size:=by rw[hW];simp
 have hWB:Below w.heap.size w W:=by rw[hW];go_grown
 have d0:W.cell? ⟨w.heap.size,0,none⟩=some (.slice (some ⟨b0,off,none⟩) cs.length x):=by rw[hW,World.cell?_alloc_past _ _ _ (by simp<;>omega),World.cell?_alloc_past _ _ _ (by simp<;>omega),World.cell?_alloc_at _ _ _ _ (by simp)];rfl
 have d1:W.cell? ⟨w.heap.size,1,none⟩=some (.slice b us.length y):=by rw[hW,World.cell?_alloc_past _ _ _ (by simp<;>omega),World.cell?_alloc_past _ _ _ (by simp<;>omega),World.cell?_alloc_at _ _ _ _ (by simp)];rfl
 have d2:W.cell? ⟨w.heap.size+1,0,none⟩=some (.slice none 0 0):=by rw[hW,World.cell?_alloc_past _ _ _ (by simp<;>omega),World.cell?_alloc_at _ _ _ _ (by simp)];rfl
 have d3:W.cell? ⟨w.heap.size+1,1,none⟩=some (.slice none 0 0):=by rw[hW,World.cell?_alloc_past _ _ _ (by simp<;>omega),World.cell?_alloc_at _ _ _ _ (by simp)];rfl
 have d4:W.cell? ⟨w.heap.size+1+1,0,none⟩=some (.slice none 0 0):=by rw[hW,World.cell?_alloc_at _ _ _ _ (by simp)];rfl
 have d5:W.cell? ⟨w.heap.size+1+1,1,none⟩=some (.slice none 0 0):=by rw[hW,World.cell?_alloc_at _ _ _ _ (by simp)];rfl
 have f2:W.frozen? ⟨w.heap.size+1,0,none⟩=false:=by rw[hW,World.frozen?_alloc_past _ _ _ (by simp<;>omega),World.frozen?_alloc_at _ _ _ _ (by simp)]
 have f3:W.frozen? ⟨w.heap.size+1,1,none⟩=false:=by rw[hW,World.frozen?_alloc_past _ _ _ (by simp<;>omega),World.frozen?_alloc_at _ _ _ _ (by simp)]
 have f4:W.frozen? ⟨w.heap.size+1+1,0,none⟩=false:=by rw[hW,World.frozen?_alloc_at _ _ _ _ (by simp)]
 have f5:W.frozen? ⟨w.heap.size+1+1,1,none⟩=false:=by rw[hW,World.frozen?_alloc_at _ _ _ _ (by simp)]
 have HD:=Lib.hid (And.intro d2 (And.intro d3 (And.intro d4 (And.intro d5 (And.intro f2 (And.intro f3 (And.intro f4 f5)))))))
 clear d2 d3 d4 d5 f2 f3 f4 f5
 clear hW
 have HCW:=Lib.hid (HCH.out.kept hWB (Nat.le_refl _))
 have HC1:=Lib.hid (fun W' (h:Below W.heap.size W W')=>Jh9 (.slice (some ⟨b0,off,none⟩) m x) (cs.take m) W' (JnL (HCW.out.kept h (Nat.le_refl _)) m (by omega)) (by rw[List.length_take];omega))
 have HC2:=Lib.hid (fun W' (h:Below W.heap.size W W')=>Jh9 (.slice (some ⟨b0,off+m*4,none⟩) (cs.length-m) (x-m)) (cs.drop m) W' (JnM (HCW.out.kept h (Nat.le_refl _)) m (by omega)) (by rw[List.length_drop];omega))
 rw[List.length_take,Nat.min_eq_left (by omega:m<=cs.length)] at HC1
 rw[List.length_drop] at HC2
 have hX0:Below W.heap.size W W.drew:=Jb (Below.refl _ _)
 go_cut [7,8] (fun s7 s8 wx=>∃p q w5 g4 y4 g5 y5,s7=.pointer (some ⟨p,0,none⟩)/\s8=.pointer (some ⟨q,0,none⟩)/\ZG w5 wx p q (.slice (some ⟨g4,0,none⟩) m y4) (.slice (some ⟨g5,0,none⟩) (cs.length-m) y5)/\W.heap.size<=p/\W.heap.size<=q/\w5.ownsRow W.heap.size 179 4 (.slice (some ⟨g4,0,none⟩) m y4) m (cellsC (cs.take m))/\w5.ownsRow W.heap.size 179 4 (.slice (some ⟨g5,0,none⟩) (cs.length-m) y5) (cs.length-m) (cellsC (cs.drop m))/\
  g4<g5/\g4≠p/\g4≠q/\g5≠p/\g5≠q/\Below W.heap.size W w5)
 case first=>
  go_region_held3 (fun w'=>w'.cell? ⟨w.heap.size,0,none⟩=some (.slice (some ⟨b0,off,none⟩) cs.length x))
   (with_reducible first|assumption|exact Jj d0|exact Jj (Jf _ d0)|exact Jj (Jf _ (Jf _ d0))|exact s4|exact Jf _ s4|exact Jf _ (Jf _ s4)|exact s5|exact Jf _ s5|exact Jf _ (Jf _ s5)|exact Jf _ (Jj d0)|exact Jf _ (Jf _ (Jj d0))|exact Zl (by omega) s5|exact Zl (by omega) (Zl (by omega) s5)|exact Zl (by omega) (Jf _ s5)|exact Zl (by omega) (Zl (by omega) (Jf _ s5))|exact Zl (by omega) (Jf _ (Jf _ s5))|exact Zl (by omega) (Zl (by omega) (Jf _ (Jf _ s5))))
   ((go_simp;go_at_call 107;first
    |(with_reducible refine(HC1.out (W.drew) (Jb (Below.refl _ _))).mono ?_;rintro e w4 ⟨⟨v4,rfl,ho4⟩,hb4⟩;have hX4:Below W.heap.size W w4:=(Jb (Below.refl _ _)).trans (hb4.mono (by simp<;>omega));have hz4:=hb4.size;(try simp only[World.size_drew] at hz4);(try simp only[World.size_alloc] at hz4);obtain⟨a4,y4,rfl⟩:=Jm ho4;obtain⟨g4,rfl,hg4,hl4,-⟩:=Yk ho4 (by omega);(try simp only[World.size_drew] at hg4);(try simp only[World.size_alloc] at hg4);have HO4:=Lib.hid ho4;have s4:=Ja hX4 d0;clear ho4;clear hb4)
    |(with_reducible refine(HC1.out ((W.alloc (.cells #[.slice none 0 0,.slice none 0 0] 105)).drew) (Jb ((Below.refl _ _).alloc (Nat.le_refl _) _))).mono ?_;rintro e w4 ⟨⟨v4,rfl,ho4⟩,hb4⟩;have hX4:Below W.heap.size W w4:=(Jb ((Below.refl _ _).alloc (Nat.le_refl _) _)).trans (hb4.mono (by simp<;>omega));have hz4:=hb4.size;(try simp only[World.size_drew] at hz4);(try simp only[World.size_alloc] at hz4);obtain⟨a4,y4,rfl⟩:=Jm ho4;obtain⟨g4,rfl,hg4,hl4,-⟩:=Yk ho4 (by omega);(try simp only[World.size_drew] at hg4);(try simp only[World.size_alloc] at hg4);have HO4:=Lib.hid ho4;have s4:=Ja hX4 d0;clear ho4;have P0:=Lib.hid ((J9.new W 105 (W.heap.size) rfl).drew.on hb4);obtain⟨pc0,pd0,pf0,pg0⟩:=P0.out;clear hb4)
    |(with_reducible refine(HC1.out (((W.alloc (.cells #[.slice none 0 0,.slice none 0 0] 105)).alloc (.cells #[.slice none 0 0,.slice none 0 0] 105)).drew) (Jb (((Below.refl _ _).alloc (Nat.le_refl _) _).alloc (by simp) _))).mono ?_;rintro e w4 ⟨⟨v4,rfl,ho4⟩,hb4⟩;have hX4:Below W.heap.size W w4:=(Jb (((Below.refl _ _).alloc (Nat.le_refl _) _).alloc (by simp) _)).trans (hb4.mono (by simp<;>omega));have hz4:=hb4.size;(try simp only[World.size_drew] at hz4);(try simp only[World.size_alloc] at hz4);obtain⟨a4,y4,rfl⟩:=Jm ho4;obtain⟨g4,rfl,hg4,hl4,-⟩:=Yk ho4 (by omega);(try simp only[World.size_drew] at hg4);(try simp only[World.size_alloc] at hg4);have HO4:=Lib.hid ho4;have s4:=Ja hX4 d0;clear ho4;have P0:=Lib.hid (((J9.new W 105 (W.heap.size) rfl).alloc (.cells #[.slice none 0 0,.slice none 0 0] 105)).drew.on hb4);have P1:=Lib.hid ((J9.new (W.alloc (.cells #[.slice none 0 0,.slice none 0 0] 105)) 105 (W.heap.size+1) (by simp)).drew.on hb4);obtain⟨pc0,pd0,pf0,pg0⟩:=P0.out;obtain⟨pc1,pd1,pf1,pg1⟩:=P1.out;clear hb4)
    |(have _t0:=P0;have _t1:=P1;with_reducible refine(HC2.out (w4) hX4).mono ?_;rintro e w5 ⟨⟨v5,rfl,ho5⟩,hb5⟩;have hX5:Below W.heap.size W w5:=hX4.trans (hb5.mono (by have:=hX4.size;simp<;>omega));have hz5:=hb5.size;(try simp only[World.size_alloc] at hz5);obtain⟨a5,y5,rfl⟩:=Jm ho5;obtain⟨g5,rfl,hg5,hl5,-⟩:=Yk ho5 (by omega);(try simp only[World.size_alloc] at hg5);have HO5:=Lib.hid ho5;have HO4':=Lib.hid (Ji (HO4.out) hb5);have s5:=Ja hX5 d0;clear ho5;have Q0:=Lib.hid ((P0.out).on hb5);clear pc0 pd0 pf0 pg0;obtain⟨qc0,qd0,qf0,qg0⟩:=Q0.out;have Q1:=Lib.hid ((P1.out).on hb5);clear pc1 pd1 pf1 pg1;obtain⟨qc1,qd1,qf1,qg1⟩:=Q1.out;obtain⟨uc0,ud0,uf0,ug0⟩:=J9.far (p:=W.heap.size) (q:=W.heap.size+1) Q0.out (by omega) (.slice (some ⟨g4,0,none⟩) m y4) (.slice none 0 0);obtain⟨vc0,vd0,vf0,vg0⟩:=J9.far (p:=W.heap.size+1) (q:=W.heap.size) Q1.out (by omega) (.slice (some ⟨g4,0,none⟩) m y4) (.slice none 0 0);clear hb5)
    |(have _t0:=P0;with_reducible refine(HC2.out ((w4.alloc (.cells #[.slice none 0 0,.slice none 0 0] 105))) (hX4.alloc hX4.size _)).mono ?_;rintro e w5 ⟨⟨v5,rfl,ho5⟩,hb5⟩;have hX5:Below W.heap.size W w5:=(hX4.alloc hX4.size _).trans (hb5.mono (by have:=hX4.size;simp<;>omega));have hz5:=hb5.size;(try simp only[World.size_alloc] at hz5);obtain⟨a5,y5,rfl⟩:=Jm ho5;obtain⟨g5,rfl,hg5,hl5,-⟩:=Yk ho5 (by omega);(try simp only[World.size_alloc] at hg5);have HO5:=Lib.hid ho5;have HO4':=Lib.hid (Ji (HO4.out.alloc _) hb5);have s5:=Ja hX5 d0;clear ho5;have Q0:=Lib.hid (((P0.out.alloc (.cells #[.slice none 0 0,.slice none 0 0] 105))).on hb5);clear pc0 pd0 pf0 pg0;obtain⟨qc0,qd0,qf0,qg0⟩:=Q0.out;have R0:=Lib.hid ((J9.new w4 105 (w4.heap.size) rfl).on hb5);obtain⟨rc0,rd0,rf0,rg0⟩:=R0.out;obtain⟨xc0,xd0,xf0,xg0⟩:=R0.out.alloc (.cells #[.slice none 0 0,.slice none 0 0] 105);obtain⟨uc0,ud0,uf0,ug0⟩:=J9.far (p:=W.heap.size) (q:=w4.heap.size) Q0.out (by omega) (.slice (some ⟨g4,0,none⟩) m y4) (.slice none 0 0);obtain⟨vc0,vd0,vf0,vg0⟩:=J9.far (p:=w4.heap.size) (q:=W.heap.size) R0.out (by omega) (.slice (some ⟨g4,0,none⟩) m y4) (.slice none 0 0);obtain⟨mc0,md0,mf0,mg0⟩:=R0.out.alloc (.cells #[.slice (some ⟨g4,0,none⟩) m y4,.slice none 0 0] 105);obtain⟨hh1,hh2⟩:=R0.out.half (.slice (some ⟨g4,0,none⟩) m y4) (.cells #[.slice none 0 0,.slice none 0 0] 105);clear hb5)
    |(have _t0:=P0;with_reducible refine(HC2.out (w4) hX4).mono ?_;rintro e w5 ⟨⟨v5,rfl,ho5⟩,hb5⟩;have hX5:Below W.heap.size W w5:=hX4.trans (hb5.mono (by have:=hX4.size;simp<;>omega));have hz5:=hb5.size;(try simp only[World.size_alloc] at hz5);obtain⟨a5,y5,rfl⟩:=Jm ho5;obtain⟨g5,rfl,hg5,hl5,-⟩:=Yk ho5 (by omega);(try simp only[World.size_alloc] at hg5);have HO5:=Lib.hid ho5;have HO4':=Lib.hid (Ji (HO4.out) hb5);have s5:=Ja hX5 d0;clear ho5;have Q0:=Lib.hid ((P0.out).on hb5);clear pc0 pd0 pf0 pg0;obtain⟨qc0,qd0,qf0,qg0⟩:=Q0.out;obtain⟨xc0,xd0,xf0,xg0⟩:=Q0.out.alloc (.cells #[.slice none 0 0,.slice none 0 0] 105);obtain⟨uc0,ud0,uf0,ug0⟩:=J9.far (p:=W.heap.size) (q:=w5.heap.size) (Q0.out.alloc (.cells #[.slice none 0 0,.slice none 0 0] 105)) (by omega) (.slice (some ⟨g4,0,none⟩) m y4) (.slice none 0 0);obtain⟨vc0,vd0,vf0,vg0⟩:=J9.far (p:=w5.heap.size) (q:=W.heap.size) (J9.new w5 105 (w5.heap.size) rfl) (by omega) (.slice (some ⟨g4,0,none⟩) m y4) (.slice none 0 0);obtain⟨mc0,md0,mf0,mg0⟩:=Q0.out.alloc (.cells #[.slice (some ⟨g4,0,none⟩) m y4,.slice none 0 0] 105);obtain⟨hh1,hh2⟩:=Q0.out.half (.slice (some ⟨g4,0,none⟩) m y4) (.cells #[.slice none 0 0,.slice none 0 0] 105);clear hb5)
    |(with_reducible refine(HC2.out (((w4.alloc (.cells #[.slice none 0 0,.slice none 0 0] 105)).alloc (.cells #[.slice none 0 0,.slice none 0 0] 105))) ((hX4.alloc hX4.size _).alloc (by have:=hX4.size;simp;omega) _)).mono ?_;rintro e w5 ⟨⟨v5,rfl,ho5⟩,hb5⟩;have hX5:Below W.heap.size W w5:=((hX4.alloc hX4.size _).alloc (by have:=hX4.size;simp;omega) _).trans (hb5.mono (by have:=hX4.size;simp<;>omega));have hz5:=hb5.size;(try simp only[World.size_alloc] at hz5);obtain⟨a5,y5,rfl⟩:=Jm ho5;obtain⟨g5,rfl,hg5,hl5,-⟩:=Yk ho5 (by omega);(try simp only[World.size_alloc] at hg5);have HO5:=Lib.hid ho5;have HO4':=Lib.hid (Ji ((HO4.out.alloc _).alloc _) hb5);have s5:=Ja hX5 d0;clear ho5;have R0:=Lib.hid (((J9.new w4 105 (w4.heap.size) rfl).alloc (.cells #[.slice none 0 0,.slice none 0 0] 105)).on hb5);obtain⟨rc0,rd0,rf0,rg0⟩:=R0.out;have R1:=Lib.hid ((J9.new (w4.alloc (.cells #[.slice none 0 0,.slice none 0 0] 105)) 105 (w4.heap.size+1) (by simp)).on hb5);obtain⟨rc1,rd1,rf1,rg1⟩:=R1.out;obtain⟨uc0,ud0,uf0,ug0⟩:=J9.far (p:=w4.heap.size) (q:=w4.heap.size+1) R0.out (by omega) (.slice (some ⟨g4,0,none⟩) m y4) (.slice none 0 0);obtain⟨vc0,vd0,vf0,vg0⟩:=J9.far (p:=w4.heap.size+1) (q:=w4.heap.size) R1.out (by omega) (.slice (some ⟨g4,0,none⟩) m y4) (.slice none 0 0);clear hb5)
    |(with_reducible refine(HC2.out ((w4.alloc (.cells #[.slice none 0 0,.slice none 0 0] 105))) (hX4.alloc hX4.size _)).mono ?_;rintro e w5 ⟨⟨v5,rfl,ho5⟩,hb5⟩;have hX5:Below W.heap.size W w5:=(hX4.alloc hX4.size _).trans (hb5.mono (by have:=hX4.size;simp<;>omega));have hz5:=hb5.size;(try simp only[World.size_alloc] at hz5);obtain⟨a5,y5,rfl⟩:=Jm ho5;obtain⟨g5,rfl,hg5,hl5,-⟩:=Yk ho5 (by omega);(try simp only[World.size_alloc] at hg5);have HO5:=Lib.hid ho5;have HO4':=Lib.hid (Ji (HO4.out.alloc _) hb5);have s5:=Ja hX5 d0;clear ho5;have R0:=Lib.hid ((J9.new w4 105 (w4.heap.size) rfl).on hb5);obtain⟨rc0,rd0,rf0,rg0⟩:=R0.out;obtain⟨xc0,xd0,xf0,xg0⟩:=R0.out.alloc (.cells #[.slice none 0 0,.slice none 0 0] 105);obtain⟨uc0,ud0,uf0,ug0⟩:=J9.far (p:=w4.heap.size) (q:=w5.heap.size) (R0.out.alloc (.cells #[.slice none 0 0,.slice none 0 0] 105)) (by omega) (.slice (some ⟨g4,0,none⟩) m y4) (.slice none 0 0);obtain⟨vc0,vd0,vf0,vg0⟩:=J9.far (p:=w5.heap.size) (q:=w4.heap.size) (J9.new w5 105 (w5.heap.size) rfl) (by omega) (.slice (some ⟨g4,0,none⟩) m y4) (.slice none 0 0);obtain⟨mc0,md0,mf0,mg0⟩:=R0.out.alloc (.cells #[.slice (some ⟨g4,0,none⟩) m y4,.slice none 0 0] 105);obtain⟨hh1,hh2⟩:=R0.out.half (.slice (some ⟨g4,0,none⟩) m y4) (.cells #[.slice none 0 0,.slice none 0 0] 105);clear hb5)
    |(with_reducible refine(HC2.out (w4) hX4).mono ?_;rintro e w5 ⟨⟨v5,rfl,ho5⟩,hb5⟩;have hX5:Below W.heap.size W w5:=hX4.trans (hb5.mono (by have:=hX4.size;simp<;>omega));have hz5:=hb5.size;(try simp only[World.size_alloc] at hz5);obtain⟨a5,y5,rfl⟩:=Jm ho5;obtain⟨g5,rfl,hg5,hl5,-⟩:=Yk ho5 (by omega);(try simp only[World.size_alloc] at hg5);have HO5:=Lib.hid ho5;have HO4':=Lib.hid (Ji (HO4.out) hb5);have s5:=Ja hX5 d0;clear ho5;obtain⟨uc0,ud0,uf0,ug0⟩:=J9.far (p:=w5.heap.size) (q:=w5.heap.size+1) ((J9.new w5 105 (w5.heap.size) rfl).alloc (.cells #[.slice none 0 0,.slice none 0 0] 105)) (by omega) (.slice (some ⟨g4,0,none⟩) m y4) (.slice none 0 0);obtain⟨vc0,vd0,vf0,vg0⟩:=J9.far (p:=w5.heap.size+1) (q:=w5.heap.size) (J9.new (w5.alloc (.cells #[.slice none 0 0,.slice none 0 0] 105)) 105 (w5.heap.size+1) (by simp)) (by omega) (.slice (some ⟨g4,0,none⟩) m y4) (.slice none 0 0);clear hb5)))
  all_goals
   have hr4:=JI HO4'.out (show W.heap.size<=_ by first|exact Nat.le_refl _|(simp<;>omega))
   have hr5:=JI HO5.out (show W.heap.size<=_ by first|exact hX4.size|(have:=hX4.size;simp<;>omega))
   go_wp2_with fail
   go_meet
   refine⟨_,_,w5,g4,y4,g5,y5,rfl,rfl,?_,by omega,by omega,hr4,hr5,by omega,by omega,by omega,by omega,by omega,hX5⟩
   with_reducible first
    |exact ZG.fresh _ _ _
    |exact(ZG.fresh _ _ _).swap
    |exact ZG.both Q0.out Q1.out (by omega) _ _
    |exact ZG.both Q1.out Q0.out (by omega) _ _
    |exact ZG.both Q0.out R0.out (by omega) _ _
    |exact ZG.both R0.out Q0.out (by omega) _ _
    |exact ZG.both R0.out R1.out (by omega) _ _
    |exact ZG.both R1.out R0.out (by omega) _ _
    |exact ZG.old Q0.out _ _ _
    |exact ZG.old R0.out _ _ _
    |exact ZG.new Q0.out _ _ _
    |exact ZG.new R0.out _ _ _
 case rest=>
  obtain⟨p,q,w5,g4,y4,g5,y5,rfl,rfl,tw,hpW,hqW,hr4,hr5,h45,h4p,h4q,h5p,h5q,hX5⟩:=hcut
  obtain⟨d2,d3,d4,d5,f2,f3,f4,f5⟩:=HD.out
  have hb4:=(hr4.lt g4 rfl).1
  have hb5:=(hr5.lt g5 rfl).1
  have row4:=tw.row hr4 (by simp[Value.ownBlock];exact h4p) (by simp[Value.ownBlock];exact h4q)
  have row5:=tw.row hr5 (by simp[Value.ownBlock];exact h5p) (by simp[Value.ownBlock];exact h5q)
  have hXc:=tw.below hX5 hpW hqW hX5.size
  have HROW4:=Lib.hid row4
  have HROW5:=Lib.hid row5
  have hdl:0<(cs.drop m).length:=by rw[List.length_drop];omega
  have k0:wc.cell? ⟨g5,0,none⟩=some (.string (S (Y8 cs m))):=by
   rw[row5.cellAt 0 (by omega)]
   have e:cs.drop m=cs[m]::cs.drop (m+1):=List.drop_eq_getElem_cons hm2
   rw[e]
   unfold Y8
   rw[List.getElem?_eq_getElem hm2]
   rfl
  have kf:=row5.frozenAt 0
  have p0:=tw.a0
  have p1:=tw.a1
  have q0:=tw.b0
  have q1:=tw.b1
  have pf:=tw.fa
  have qf:=tw.fb
  have hpq:=tw.ne
  have hc1:=(Jh hXc (by omega:w.heap.size<W.heap.size) 1).trans d1
  have e2:wc.cell? ⟨w.heap.size+1,0,none⟩=some (.slice none 0 0):=(Jh hXc (by omega:w.heap.size+1<W.heap.size) 0).trans d2
  have e3:wc.cell? ⟨w.heap.size+1,1,none⟩=some (.slice none 0 0):=(Jh hXc (by omega:w.heap.size+1<W.heap.size) 1).trans d3
  have e4:wc.cell? ⟨w.heap.size+1+1,0,none⟩=some (.slice none 0 0):=(Jh hXc (by omega:w.heap.size+1+1<W.heap.size) 0).trans d4
  have e5:wc.cell? ⟨w.heap.size+1+1,1,none⟩=some (.slice none 0 0):=(Jh hXc (by omega:w.heap.size+1+1<W.heap.size) 1).trans d5
  have hfz:∀b o,b<W.heap.size->wc.frozen? ⟨b,o,none⟩=W.frozen? ⟨b,o,none⟩:=fun b o h=>World.frozen?_of_block (hXc.block b h)
  have i2:=(hfz (w.heap.size+1) 0 (by omega)).trans f2
  have i3:=(hfz (w.heap.size+1) 1 (by omega)).trans f3
  have i4:=(hfz (w.heap.size+1+1) 0 (by omega)).trans f4
  have i5:=(hfz (w.heap.size+1+1) 1 (by omega)).trans f5
  have HXc:=Lib.hid hXc
  have hzc:=hXc.size
  clear hr4 hr5 tw row4 row5 hX5 hXc hfz d0 d1 d2 d3 d4 d5 f2 f3 f4 f5 hX0
  generalize hlow:Y8 cs m=low at*
  have HLOW:=Lib.hid hlow
  clear hlow
  go_upto_region 7 with(fail)
  obtain⟨ws,hws⟩:∃ws,ws=wc.setCell ⟨g5,0,none⟩ (.string ⟨#[]⟩):=⟨_,rfl⟩
  rw[<-hws]
  have hg5c:g5<wc.heap.size:=World.block_lt_of_cell? wc _ k0
  have P0:ws.cell? ⟨p,0,none⟩=some (.slice (some ⟨g4,0,none⟩) m y4):=by rw[hws,World.cell?_setCell_other _ _ _ _ (Jp (Or.inl h5p))];exact p0
  have P1:ws.cell? ⟨p,1,none⟩=some (.slice none 0 0):=by rw[hws,World.cell?_setCell_other _ _ _ _ (Jp (Or.inl h5p))];exact p1
  have Q0:ws.cell? ⟨q,0,none⟩=some (.slice (some ⟨g5,0,none⟩) (cs.length-m) y5):=by rw[hws,World.cell?_setCell_other _ _ _ _ (Jp (Or.inl h5q))];exact q0
  have Q1:ws.cell? ⟨q,1,none⟩=some (.slice none 0 0):=by rw[hws,World.cell?_setCell_other _ _ _ _ (Jp (Or.inl h5q))];exact q1
  have PF:ws.frozen? ⟨p,1,none⟩=false:=by rw[hws,World.frozen?_setCell];exact pf
  have QF:ws.frozen? ⟨q,1,none⟩=false:=by rw[hws,World.frozen?_setCell];exact qf
  have C1:ws.cell? ⟨w.heap.size,1,none⟩=some (.slice b us.length y):=by rw[hws,World.cell?_setCell_other _ _ _ _ (Jp (Or.inl (by omega)))];exact hc1
  have E2:ws.cell? ⟨w.heap.size+1,0,none⟩=some (.slice none 0 0):=by rw[hws,World.cell?_setCell_other _ _ _ _ (Jp (Or.inl (by omega)))];exact e2
  have E3:ws.cell? ⟨w.heap.size+1,1,none⟩=some (.slice none 0 0):=by rw[hws,World.cell?_setCell_other _ _ _ _ (Jp (Or.inl (by omega)))];exact e3
  have E4:ws.cell? ⟨w.heap.size+1+1,0,none⟩=some (.slice none 0 0):=by rw[hws,World.cell?_setCell_other _ _ _ _ (Jp (Or.inl (by omega)))];exact e4
  have E5:ws.cell? ⟨w.heap.size+1+1,1,none⟩=some (.slice none 0 0):=by rw[hws,World.cell?_setCell_other _ _ _ _ (Jp (Or.inl (by omega)))];exact e5
  have I2:ws.frozen? ⟨w.heap.size+1,0,none⟩=false:=by rw[hws,World.frozen?_setCell];exact i2
  have I3:ws.frozen? ⟨w.heap.size+1,1,none⟩=false:=by rw[hws,World.frozen?_setCell];exact i3
  have I4:ws.frozen? ⟨w.heap.size+1+1,0,none⟩=false:=by rw[hws,World.frozen?_setCell];exact i4
  have I5:ws.frozen? ⟨w.heap.size+1+1,1,none⟩=false:=by rw[hws,World.frozen?_setCell];exact i5
  have hrow5:=(HROW5.out.stored 0 (.string ⟨#[]⟩)).1
  rw[JbK _ hdl,<-hws] at hrow5
  have hrow4:=ownsRow_setCell_other (a:=⟨g5,0,none⟩) HROW4.out (fun e=>by simp[Value.ownBlock] at e;omega) (.string ⟨#[]⟩)
  rw[<-hws] at hrow4
  have S4:=Lib.hid (JaR hrow4).2
  have S5:=Lib.hid (JaR hrow5).2
  have hBs:Below w.heap.size w ws:=by rw[hws];exact(hWB.trans (HXc.out.mono (by omega))).setCell (p:=⟨g5,0,none⟩) (by show w.heap.size<=g5;omega) _
  have hzs:wc.heap.size=ws.heap.size:=by rw[hws,World.size_setCell]
  have hzs':wc.heap.size<=ws.heap.size:=by omega
  have hpl:=World.block_lt_of_cell? ws _ P0
  have hql:=World.block_lt_of_cell? ws _ Q0
  have HUs:=Lib.hid (HU.out.kept hBs (Nat.le_refl _))
  have HBs:=Lib.hid hBs
  clear hws hzs p0 p1 q0 q1 pf qf hc1 e2 e3 e4 e5 i2 i3 i4 i5 hrow4 hrow5 k0 kf HROW4 HROW5 HXc hdl hBs
  have hcu:=fun W' h=>JjF b _ y us [] low W' rfl h hu hr
  have HCU:=Lib.hid hcu
  clear hcu hr
  generalize hI:JH us [] low=I at*
  generalize hO:Ya us [] low=O at*
  have HI:=Lib.hid hI
  have HO:=Lib.hid hO
  clear hI hO
  go_wp2_with fail
  refine(Jl (HCU.out ws (JZ.mk ⟨_,rfl,HUs.out⟩)) ws.heap.size ws (by go_grown) (by go_grown)).mono ?_
  rintro e w7 ⟨⟨a1,z1,a2,z2,rfl,hi7,ho7⟩,hX7,-,-,hs7,hz7⟩
  have m0:=Ja hX7 P0
  have m1:=Ja hX7 P1
  have m2:=Ja hX7 Q0
  have m3:=Ja hX7 Q1
  have mf:=((JB hX7).2 p 1 hpl).trans PF
  have mg:=((JB hX7).2 q 1 hql).trans QF
  have n2:=Ja hX7 E2
  have n3:=Ja hX7 E3
  have n4:=Ja hX7 E4
  have n5:=Ja hX7 E5
  have o2:=((JB hX7).2 (w.heap.size+1) 0 (by omega)).trans I2
  have o3:=((JB hX7).2 (w.heap.size+1) 1 (by omega)).trans I3
  have o4:=((JB hX7).2 (w.heap.size+1+1) 0 (by omega)).trans I4
  have o5:=((JB hX7).2 (w.heap.size+1+1) 1 (by omega)).trans I5
  have HB7:=Lib.hid (And.intro hi7 (And.intro ho7 (And.intro (S4.out.kept hX7 (Nat.le_refl _)) (S5.out.kept hX7 (Nat.le_refl _)))))
  have HX7:=Lib.hid (HBs.out.trans (hX7.mono (by omega)))
  clear hi7 ho7 hX7 P0 P1 Q0 Q1 PF QF C1 E2 E3 E4 E5 I2 I3 I4 I5 S4 S5 HCU
  have hqp:¬q=p:=fun e=>hpq e.symm
  go_upto_region 8 with(fail)
  obtain⟨wz,hwz⟩:∃wz,wz=(w7.setCell ⟨p,1,none⟩ (.slice a1 I.length z1)).setCell ⟨q,1,none⟩ (.slice a2 O.length z2):=⟨_,rfl⟩
  rw[<-hwz]
  have m3':(w7.setCell ⟨p,1,none⟩ (.slice a1 I.length z1)).cell? ⟨q,1,none⟩=some (.slice none 0 0):=(World.cell?_setCell_other _ _ _ _ (Jp (Or.inl hpq))).trans m3
  have P0:wz.cell? ⟨p,0,none⟩=some (.slice (some ⟨g4,0,none⟩) m y4):=by rw[hwz,World.cell?_setCell_other _ _ _ _ (Jp (Or.inl hqp)),World.cell?_setCell_other _ _ _ _ (Jp (Or.inr (by decide)))];exact m0
  have P1:wz.cell? ⟨p,1,none⟩=some (.slice a1 I.length z1):=by rw[hwz,World.cell?_setCell_other _ _ _ _ (Jp (Or.inl hqp))];exact World.cell?_setCell_same _ _ _ m1
  have Q0:wz.cell? ⟨q,0,none⟩=some (.slice (some ⟨g5,0,none⟩) (cs.length-m) y5):=by rw[hwz,World.cell?_setCell_other _ _ _ _ (Jp (Or.inr (by decide))),World.cell?_setCell_other _ _ _ _ (Jp (Or.inl hpq))];exact m2
  have Q1:wz.cell? ⟨q,1,none⟩=some (.slice a2 O.length z2):=by rw[hwz];exact World.cell?_setCell_same _ _ _ m3'
  have E2:wz.cell? ⟨w.heap.size+1,0,none⟩=some (.slice none 0 0):=by rw[hwz,World.cell?_setCell_other _ _ _ _ (Jp (Or.inl (by omega))),World.cell?_setCell_other _ _ _ _ (Jp (Or.inl (by omega)))];exact n2
  have E3:wz.cell? ⟨w.heap.size+1,1,none⟩=some (.slice none 0 0):=by rw[hwz,World.cell?_setCell_other _ _ _ _ (Jp (Or.inl (by omega))),World.cell?_setCell_other _ _ _ _ (Jp (Or.inl (by omega)))];exact n3
  have E4:wz.cell? ⟨w.heap.size+1+1,0,none⟩=some (.slice none 0 0):=by rw[hwz,World.cell?_setCell_other _ _ _ _ (Jp (Or.inl (by omega))),World.cell?_setCell_other _ _ _ _ (Jp (Or.inl (by omega)))];exact n4
  have E5:wz.cell? ⟨w.heap.size+1+1,1,none⟩=some (.slice none 0 0):=by rw[hwz,World.cell?_setCell_other _ _ _ _ (Jp (Or.inl (by omega))),World.cell?_setCell_other _ _ _ _ (Jp (Or.inl (by omega)))];exact n5
  have I2:wz.frozen? ⟨w.heap.size+1,0,none⟩=false:=by rw[hwz,World.frozen?_setCell,World.frozen?_setCell];exact o2
  have I3:wz.frozen? ⟨w.heap.size+1,1,none⟩=false:=by rw[hwz,World.frozen?_setCell,World.frozen?_setCell];exact o3
  have I4:wz.frozen? ⟨w.heap.size+1+1,0,none⟩=false:=by rw[hwz,World.frozen?_setCell,World.frozen?_setCell];exact o4
  have I5:wz.frozen? ⟨w.heap.size+1+1,1,none⟩=false:=by rw[hwz,World.frozen?_setCell,World.frozen?_setCell];exact o5
  have HZ:=Lib.hid (show JZ wz (.agg #[.slice a1 I.length z1]) I/\JZ wz (.agg #[.slice a2 O.length z2]) O/\SlC wz (.slice (some ⟨g4,0,none⟩) m y4) (cs.take m)/\SlC wz (.slice (some ⟨g5,0,none⟩) (cs.length-m) y5) (Xc (cs.drop m)) from by
   rw[hwz]
   exact⟨(HB7.out.1.setAt m1 _).setAt m3' _,(HB7.out.2.1.setAt m1 _).setAt m3' _,(HB7.out.2.2.1.setAt m1 _).setAt m3' _,(HB7.out.2.2.2.setAt m1 _).setAt m3' _⟩)
  have HXZ:=Lib.hid (show Below w.heap.size w wz by rw[hwz];exact(HX7.out.setCell (p:=⟨p,1,none⟩) (by show w.heap.size<=p;omega) _).setCell (p:=⟨q,1,none⟩) (by show w.heap.size<=q;omega) _)
  have hpN:w.heap.size+3<=p:=by omega
  have hqN:w.heap.size+3<=q:=by omega
  clear hwz m0 m1 m2 m3 m3' mf mg n2 n3 n4 n5 o2 o3 o4 o5 HB7 HX7 hs7 hz7 hzs' hpl hql HUs HBs hzc hg5c hpW hqW h4p h4q h5p h5q hb4 hb5 h45 hsl1 hsl2 hkx hWs hWB
  have hne1:¬w.heap.size+1=p:=by omega
  have hne2:¬w.heap.size+1=q:=by omega
  have hne3:¬w.heap.size+1+1=p:=by omega
  have hne4:¬w.heap.size+1+1=q:=by omega
  go_region
  all_goals
   go_wp2_with fail
   have t3:(wz.setCell ⟨w.heap.size+1,0,none⟩ (.slice (some ⟨g4,0,none⟩) m y4)).cell? ⟨w.heap.size+1,1,none⟩=some (.slice none 0 0):=(World.cell?_setCell_other _ _ _ _ (Jp (Or.inr (by decide)))).trans E3
   have t4:((wz.setCell ⟨w.heap.size+1,0,none⟩ (.slice (some ⟨g4,0,none⟩) m y4)).setCell ⟨w.heap.size+1,1,none⟩ (.slice a1 I.length z1)).cell? ⟨w.heap.size+1+1,0,none⟩=some (.slice none 0 0):=(World.cell?_setCell_other _ _ _ _ (Jp (Or.inl (by omega)))).trans ((World.cell?_setCell_other _ _ _ _ (Jp (Or.inl (by omega)))).trans E4)
   have t5:(((wz.setCell ⟨w.heap.size+1,0,none⟩ (.slice (some ⟨g4,0,none⟩) m y4)).setCell ⟨w.heap.size+1,1,none⟩ (.slice a1 I.length z1)).setCell ⟨w.heap.size+1+1,0,none⟩ (.slice (some ⟨g5,0,none⟩) (cs.length-m) y5)).cell? ⟨w.heap.size+1+1,1,none⟩=some (.slice none 0 0):=(World.cell?_setCell_other _ _ _ _ (Jp (Or.inr (by decide)))).trans ((World.cell?_setCell_other _ _ _ _ (Jp (Or.inl (by omega)))).trans ((World.cell?_setCell_other _ _ _ _ (Jp (Or.inl (by omega)))).trans E5))
   have hE:=(((HXZ.out.setCell (p:=⟨w.heap.size+1,0,none⟩) (by simp) (.slice (some ⟨g4,0,none⟩) m y4)).setCell (p:=⟨w.heap.size+1,1,none⟩) (by simp) (.slice a1 I.length z1)).setCell (p:=⟨w.heap.size+1+1,0,none⟩) (by simp;omega) (.slice (some ⟨g5,0,none⟩) (cs.length-m) y5)).setCell (p:=⟨w.heap.size+1+1,1,none⟩) (by simp;omega) (.slice a2 O.length z2)
   have hI:=(((HZ.out.1.setAt E2 (.slice (some ⟨g4,0,none⟩) m y4)).setAt t3 (.slice a1 I.length z1)).setAt t4 (.slice (some ⟨g5,0,none⟩) (cs.length-m) y5)).setAt t5 (.slice a2 O.length z2)
   have hO:=(((HZ.out.2.1.setAt E2 (.slice (some ⟨g4,0,none⟩) m y4)).setAt t3 (.slice a1 I.length z1)).setAt t4 (.slice (some ⟨g5,0,none⟩) (cs.length-m) y5)).setAt t5 (.slice a2 O.length z2)
   have hC:=(((HZ.out.2.2.1.setAt E2 (.slice (some ⟨g4,0,none⟩) m y4)).setAt t3 (.slice a1 I.length z1)).setAt t4 (.slice (some ⟨g5,0,none⟩) (cs.length-m) y5)).setAt t5 (.slice a2 O.length z2)
   have hD:=(((HZ.out.2.2.2.setAt E2 (.slice (some ⟨g4,0,none⟩) m y4)).setAt t3 (.slice a1 I.length z1)).setAt t4 (.slice (some ⟨g5,0,none⟩) (cs.length-m) y5)).setAt t5 (.slice a2 O.length z2)
   obtain⟨sI,eI,hI'⟩:=hI
   simp only[Value.agg.injEq,Array.mk.injEq,List.cons.injEq,and_true] at eI
   subst eI
   obtain⟨sO,eO,hO'⟩:=hO
   simp only[Value.agg.injEq,Array.mk.injEq,List.cons.injEq,and_true] at eO
   subst eO
   refine bodyPost_ret (v:=.tuple #[.agg #[.slice (some ⟨g4,0,none⟩) m y4,.slice a1 I.length z1],.agg #[.slice (some ⟨g5,0,none⟩) (cs.length-m) y5,.slice a2 O.length z2],.string (S low),.bool true]) ?_ rfl ⟨⟨.agg #[.slice (some ⟨g4,0,none⟩) m y4,.slice a1 I.length z1],.agg #[.slice (some ⟨g5,0,none⟩) (cs.length-m) y5,.slice a2 O.length z2],?_,?_,?_⟩,Jb hE⟩
   ·simp[results,Tryz.results98,go_sem,E2,E3,E4,E5]
   ·rw[HLOW.out]
   ·rw[HLOW.out,HI.out];exact(JA.mk' hC hI').kept (Jb (Below.refl _ _)) (Nat.le_refl _)
   ·rw[HLOW.out,HO.out];exact(JA.mk' hD hO').kept (Jb (Below.refl _ _)) (Nat.le_refl _)
open Go.RowKit
attribute [local go_sem ↓] Go.wp_at_zero Go.wp_at_succ
structure Xg (u:Upd):Prop where
 wf:u.Wf
 check:u.check=0
theorem Xg.kind {u:Upd} (h:Xg u):u.kind=1\/u.kind=2\/u.kind=3:=by have:=Upd.check_ok h.check;omega
theorem Xg.klen {u:Upd} (h:Xg u):u.key.length<=16:=(Upd.check_ok h.check).2.1
theorem Xg.vlen {u:Upd} (h:Xg u):u.val.length<=32:=(Upd.check_ok h.check).2.2.1
theorem Xg.val {u:Upd} (h:Xg u):u.kind=1\/u.val=[]:=(Upd.check_ok h.check).2.2.2.2.2.1
theorem Xg.delta {u:Upd} (h:Xg u):u.kind=3\/u.delta=0:=(Upd.check_ok h.check).2.2.2.2.2.2
theorem JoN (k:Nat) (key val:List UInt8) (d:Nat) (hu:Xg ⟨k,key,val,d⟩) (w:World):
  Calls Tryz.prog 182 #[.agg #[.int .u8 k,.string (S key),.string (S val),.int .u64 d]] w fun e w'=>e=.returned (.string (S (Upd.mk k key val d).bytes))/\Below w.heap.size w w':=by
 have hkl:key.length<=16:=hu.klen
 have hvl:val.length<=32:=hu.vlen
 have hd:d<18446744073709551616:=hu.wf.2
 have hkk:=hu.kind
 have hb1:=Jb8 ⟨k,key,val,d⟩
 have hb2:=Jb9 ⟨k,key,val,d⟩
 have hb3:=Jca ⟨k,key,val,d⟩
 have hcv:=fun w n c=>Je4 (P:=Tryz.prog) 22 9 5 Tryz.underlying22 Tryz.underlying5 Tryz.underlying9 w n c
 have HJK:=Lib.hid (fun W=>Xa key (by omega) W)
 have HJV:=Lib.hid (fun W=>Xa val (by omega) W)
 dsimp only at hkk hb1 hb2 hb3
 generalize(Upd.mk k key val d).bytes=B at*
 have hJK:=YW key
 have hJV:=YW val
 generalize Yo key=JK at*
 generalize Yo val=JV at*
 have hJKl:JK.length<=17:=by omega
 have hJVl:JV.length<=33:=by omega
 clear hu hkl hvl hJK hJV
 rcases hkk with rfl|rfl|rfl
 ·have HB:=Lib.hid (hb1 rfl)
  clear hb1 hb2 hb3
  go_enter Tryz.func182,Tryz.ntmps182
  go_wp2_with fail
  refine(Jl (HJK.out _) _ _ (Below.refl _ _) (Nat.le_refl _)).mono ?_
  rintro e w1 ⟨rfl,hX1,hk1,-,-,hz1⟩
  have c0:w1.cell? ⟨w.heap.size,0,none⟩=some (.int .u8 1):=(hk1 w.heap.size 0 (by simp)).trans (by simp)
  have c2:w1.cell? ⟨w.heap.size,2,none⟩=some (.string (S val)):=(hk1 w.heap.size 2 (by simp)).trans (by simp)
  have HB1:=Lib.hid (show Below w.heap.size w w1 from Below.trans (by go_grown) (hX1.mono (by simp)))
  have d0:=Jf (.cells #[.int .u8 1] 5) c0
  have d2:=Jf (.cells #[.int .u8 1] 5) c2
  have hzz:=HB1.out.size
  clear hk1 hX1 hz1
  go_wp2_with fail
  refine(Jl (HJV.out _) w1.heap.size w1 (by go_grown) (by go_grown)).mono ?_
  rintro e w2 ⟨rfl,hX2,-,-,-,hz2⟩
  have hB2:=HB1.out.trans (hX2.mono hzz)
  go_wp2_with fail
  go_ret
  exact⟨Ym (by rw[HB.out];simp),hB2⟩
 ·have HB:=Lib.hid (hb2 rfl)
  clear hb1 hb2 hb3
  go_enter Tryz.func182,Tryz.ntmps182
  go_wp2_with fail
  refine(Jl (HJK.out _) _ _ (Below.refl _ _) (Nat.le_refl _)).mono ?_
  rintro e w1 ⟨rfl,hX1,hk1,-,-,hz1⟩
  have c0:w1.cell? ⟨w.heap.size,0,none⟩=some (.int .u8 2):=(hk1 w.heap.size 0 (by simp)).trans (by simp)
  have HB1:=Lib.hid (show Below w.heap.size w w1 from Below.trans (by go_grown) (hX1.mono (by simp)))
  have d0:=Jf (.cells #[.int .u8 2] 5) c0
  have hzz:=HB1.out.size
  clear hk1 hX1 hz1
  go_wp2_with fail
  go_ret
  exact⟨Ym (by rw[HB.out];simp),HB1.out.alloc hzz _⟩
 ·have HB:=Lib.hid (hb3 rfl)
  clear hb1 hb2 hb3
  go_enter Tryz.func182,Tryz.ntmps182
  go_wp2_with fail
  refine(Jl (HJK.out _) _ _ (Below.refl _ _) (Nat.le_refl _)).mono ?_
  rintro e w1 ⟨rfl,hX1,hk1,-,-,hz1⟩
  have c0:w1.cell? ⟨w.heap.size,0,none⟩=some (.int .u8 3):=(hk1 w.heap.size 0 (by simp)).trans (by simp)
  have c3:w1.cell? ⟨w.heap.size,3,none⟩=some (.int .u64 d):=(hk1 w.heap.size 3 (by simp)).trans (by simp)
  have HB1:=Lib.hid (show Below w.heap.size w w1 from Below.trans (by go_grown) (hX1.mono (by simp)))
  have d0:=Jf (.cells #[.int .u8 3] 5) c0
  have d3:=Jf (.cells #[.int .i64 8] 3) (Jf (.cells #[.int .u8 3] 5) c3)
  have hzz:=HB1.out.size
  have hI:=(Jk0 (w1.alloc (.cells #[.int .u8 3] 5)) (w1.heap.size+1) (by simp) #[.int .i64 8] 3 [(8,d)] rfl).kept (Below.alloc (Below.refl _ _) (Nat.le_refl _) (.cells #[.int .u64 d] 25)) (Nat.le_refl _)
  have hN:=JkP ((w1.alloc (.cells #[.int .u8 3] 5)).alloc (.cells #[.int .i64 8] 3)) (w1.heap.size+1+1) (by simp) #[.int .u64 d] 25 [(8,d)] rfl
  have hwr:=JbP _ _ 1 1 [(8,d)] _ hI hN (Jcj 8 d (by decide) (by decide)) (fun p hp=>by rw[List.mem_singleton] at hp;rw[hp];exact hd) (by simp)
  have hwt:Yx [(8,d)]=le d 8:=by simp[Yx]
  rw[hwt] at hwr
  have HWR:=Lib.hid hwr
  clear hk1 hX1 hz1 hwr hI hN hwt
  go_wp2_with fail
  refine(Jl HWR.out w1.heap.size w1 (by go_grown) (by go_grown)).mono ?_
  rintro e w2 ⟨rfl,hX2,-,-,-,hz2⟩
  have hB2:=HB1.out.trans (hX2.mono hzz)
  go_wp2_with fail
  go_ret
  exact⟨Ym (by rw[HB.out];simp),hB2⟩
theorem JjT {u:Upd} (h:Xg u):u.bytes.length<=60:=by
 have h1:=h.klen
 have h2:=h.vlen
 rcases h.kind with k|k|k
 ·rw[Jb8 u k,List.length_append,List.length_append,YW,YW,List.length_singleton];omega
 ·rw[Jb9 u k,List.length_append,YW,List.length_singleton];omega
 ·rw[Jca u k,List.length_append,List.length_append,YW,YV,List.length_singleton];omega
theorem Jae:∀l:List Upd,(∀u∈l,Xg u)->(YI l).length<=60*l.length
 |[],_=>by simp[YI]
 |u::l,h=>by
  have h1:=Jae l (fun x hx=>h x (List.mem_cons_of_mem _ hx))
  have h2:=JjT (h u (List.mem_cons_self ..))
  have h3:(YI (u::l)).length=u.bytes.length+(YI l).length:=by simp[YI]
  rw[h3,List.length_cons];omega
theorem JaN:∀(l:List Upd) (acc:List UInt8),(∀u∈l,u.check=0)->Zb acc l=(acc++YI l,0)
 |[],acc,_=>by simp[Zb,YI]
 |u::l,acc,h=>by
  rw[Zb,if_pos (h u (List.mem_cons_self ..)),JaN l _ (fun x hx=>h x (List.mem_cons_of_mem _ hx))]
  simp[YI]
theorem Jkf {l:List Upd} {j:Nat} (hj:j<l.length) (ho:∀u∈l.take j,u.check=0) (hc:¬(l[j]).check=0) (acc:List UInt8):Zb acc l=([],(l[j]).check):=by
 induction l generalizing acc j with
 |nil=>simp at hj
 |cons u l ih=>
  cases j with
  |zero=>rw[Zb,if_neg (by simpa using hc)];simp
  |succ j=>
   rw[Zb,if_pos (ho u (by simp))]
   exact ih (by simpa using hj) (fun x hx=>ho x (by simp[hx])) (by simpa using hc) _
theorem JiM (a:Option Addr) (n c:Nat) (l:List Upd) (w:World) (hn:n=l.length) (hs:JC Upd.cells 4 w a l) (hl:l.length<=10000) (hf:∀u∈l,u.Wf):
  Calls Tryz.prog 167 #[.slice a n c] w fun e w'=>e=.returned (.tuple #[.string (S (Zb [] l).1),.int .i64 (Zb [] l).2])/\Below w.heap.size w w':=by
 have HN:=Lib.hid hn
 clear hn
 go_enter Tryz.func167,Tryz.ntmps167
 go_wp2_with fail
 go_loopw [10] (fun i wr=>∃j:Nat,i=.int .i64 j/\j<=n/\Hid (∀u∈l.take j,Xg u)/\IsB w.heap.size w.heap.size (Lib.byteCells (YI (l.take j))) wr/\Below w.heap.size w wr/\w.heap.size<wr.heap.size) (fun i _=>n- (intOf i).toNat)
 case atStart=>exact⟨0,rfl,Nat.zero_le _,Lib.hid (fun u hu=>by simp at hu),by simpa[YI,Lib.byteCells] using Lib.fresh_isBuilder 200 5 w,by go_grown,by simp⟩
 case round=>
  obtain⟨j,rfl,hj,HT,hI,hB,hz⟩:=hrel
  have hj0:(0:Int)<=(j:Int):=Int.natCast_nonneg _
  have HI:=Lib.hid hI
  clear hI
  by_cases hjn:j<n
  ·have hj1:(j:Int)<(n:Int):=by omega
   have hjl:j<l.length:=by have:=HN.out;omega
   obtain⟨b,off,rfl,hb,t0,t1,t2,t3⟩:=JC.cells4 hs j hjl
   have q0:=(Jh hB hb _).trans t0
   have q1:=(Jh hB hb _).trans t1
   have q2:=(Jh hB hb _).trans t2
   have q3:=(Jh hB hb _).trans t3
   have hW:=hf _ (List.getElem_mem hjl)
   have hst:=Lib.hid (Jkd hjl)
   have htl:=Jae (l.take j) HT.out
   rw[List.length_take] at htl
   have HTK:=Lib.hid (show l.take (j+1)=l.take j++[l[j]] from List.take_succ_eq_append_getElem hjl)
   have HST:=Lib.hid (fun hc:¬(l[j]).check=0=>Jkf hjl (fun u hu=>(HT.out u hu).check) hc [])
   clear t0 t1 t2 t3
   generalize l[j]=u at*
   have HC:=Lib.hid (fun W=>chk u.kind u.key u.val u.delta hW.1 hW.2 W)
   rw[show Upd.mk u.kind u.key u.val u.delta=u from rfl] at HC
   by_cases hck:u.check=0
   ·have hT:Xg u:=⟨hW,hck⟩
    have hbl:=JjT hT
    have HOK:=Lib.hid (show∀x∈l.take (j+1),Xg x from by rw[HTK.out];exact fun x hx=>(List.mem_append.1 hx).elim (HT.out x) (fun e=>by rw[List.mem_singleton.1 e];exact hT))
    rw[hck] at HC
    have HBY:=Lib.hid (fun W=>JoN u.kind u.key u.val u.delta hT W)
    rw[show(Upd.mk u.kind u.key u.val u.delta).bytes=u.bytes from rfl] at HBY
    generalize u.bytes=UB at*
    clear hT hck hW HST HTK
    go_wp2_with fail
    refine(Jl (HC.out _) wr.heap.size wr (by go_grown) (by go_grown)).mono ?_
    rintro e w1 ⟨rfl,hX1,hk1,-,-,hz1⟩
    have e0:w1.cell? ⟨wr.heap.size,0,none⟩=some (.int .u8 u.kind):=(hk1 wr.heap.size 0 (by simp)).trans (by simp)
    have e1:w1.cell? ⟨wr.heap.size,1,none⟩=some (.string (S u.key)):=(hk1 wr.heap.size 1 (by simp)).trans (by simp)
    have e2:w1.cell? ⟨wr.heap.size,2,none⟩=some (.string (S u.val)):=(hk1 wr.heap.size 2 (by simp)).trans (by simp)
    have e3:w1.cell? ⟨wr.heap.size,3,none⟩=some (.int .u64 u.delta):=(hk1 wr.heap.size 3 (by simp)).trans (by simp)
    clear hk1
    go_wp2_with fail
    refine(Jl (HBY.out _) wr.heap.size wr hX1 hz1).mono ?_
    rintro e w2 ⟨rfl,hX2,-,-,-,hz2⟩
    have HI2:=Lib.hid (HI.out.on hX2)
    have hB2:=hB.trans (hX2.mono hB.size)
    have HW:=Lib.hid (JdV w.heap.size w.heap.size _ (S UB) w2 HI2.out (by rw[Lib.byteCells_length,XI];omega) hB2.size)
    clear HI HC HBY hX1 hX2 e0 e1 e2 e3 htl hbl
    go_wp2_with fail
    refine(HW.out).mono ?_
    rintro e w3 ⟨rfl,hI3,hX3⟩
    rw[Jcw,<-Jav,<-hst.out] at hI3
    have hB3:=hB2.trans hX3
    have hz3:w.heap.size<w3.heap.size:=by have:=hX3.size;omega
    clear HW
    go_wp2_with fail
    go_roundw
    (case rel=>exact(⟨j+1,by go_num,by omega,HOK,hI3,hB3,hz3⟩))
    (case measure=>first|(simp[intOf];done)|(simp[intOf];omega))
   ·have HS:=Lib.hid (HST.out hck)
    clear HST HTK hst
    go_wp2_with fail
    refine(Jl (HC.out _) wr.heap.size wr (by go_grown) (by go_grown)).mono ?_
    rintro e w1 ⟨rfl,hX1,hk1,-,-,hz1⟩
    have hck':¬((u.check:Nat):Int)=0:=by omega
    have hBX:=hB.trans (hX1.mono hB.size)
    clear HC hk1 hX1
    go_wp2_with fail
    go_ret2
    exact⟨by rw[HS.out];rfl,hBX⟩
  ·obtain rfl:j=n:=by omega
   have hta:l.take j=l:=by rw[HN.out,List.take_length]
   rw[hta] at HI HT
   have HTL:=HT
   clear hta
   go_wp2_with fail
   refine(JcN w.heap.size w.heap.size (YI l) wr HI.out (by omega)).mono ?_
   rintro e w1 ⟨rfl,hX1⟩
   go_wp2_with fail
   go_ret2
   exact⟨by rw[JaN l [] (fun u hu=>(HTL.out u hu).check)];rfl,hB.trans hX1⟩
theorem Jer (a:Option Addr) (n c:Nat) (l:List Upd) (w:World) (hn:n=l.length) (hs:JC Upd.cells 4 w a l) (hl:l.length<=10000) (hf:∀u∈l,u.Wf):
  Calls Tryz.prog 138 #[.agg #[.slice a n c]] w fun e w'=>e=.returned (.tuple #[.string (S (Zb [] l).1),.int .i64 (Zb [] l).2])/\Below w.heap.size w w':=by
 have HS:=Lib.hid hs
 have HT:=Lib.hid (fun W h=>JiM a n c l W hn h hl hf)
 clear hs hn hf hl
 go_enter Tryz.func138,Tryz.ntmps138
 go_wp2_with fail
 refine(Jl (HT.out _ (HS.out.kept (B:=w.heap.size) (by go_grown) (Nat.le_refl _))) w.heap.size w (by go_grown) (by go_grown)).mono ?_
 rintro e w1 ⟨rfl,hX1,-,-,-,hz1⟩
 go_wp2_with fail
 go_ret2
 exact⟨rfl,hX1⟩
end Go.Proofs.YtafciefjlkdecaaGreat
namespace Go.Proofs.YtafciefjlkdecaaGreat
open Go.RowKit
theorem J7 {n:Nat} (h:n<256):(UInt8.ofNat n).toNat=n:=by rw[UInt8.toNat_ofNat'];exact Nat.mod_eq_of_lt h
theorem YE (k r:List UInt8) (h:k.length<=255):Jr (Yo k++r)=(k,r,true):=by
 simp[Jr,Yo,J7 (show k.length<256 by omega)]
theorem JdA {s:List UInt8} (h:(Jr s).2.2=true):s=Yo (Jr s).1++(Jr s).2.1/\(Jr s).1.length<=255:=by
 cases s with
 |nil=>simp[Jr] at h
 |cons b t=>
  have hb:=b.toNat_lt
  unfold Jr at h⊢
  by_cases hc:t.length<b.toNat
  ·simp[hc] at h
  ·simp only[if_neg hc]
   have hl:(t.take b.toNat).length=b.toNat:=by rw[List.length_take];omega
   refine⟨?_,by rw[hl];omega⟩
   unfold Yo
   rw[hl]
   have:UInt8.ofNat b.toNat=b:=by simp
   rw[this];simp
theorem Jag {u:Upd} (h:Xg u) (r:List UInt8):YX (u.bytes++r)=some (u,r):=by
 obtain⟨k,key,val,d⟩:=u
 have hk:=h.klen
 have hv:=h.vlen
 have hc:=h.check
 have hva:=h.val
 have hde:=h.delta
 have hwf:=h.wf
 dsimp only at hk hv hva hde
 rcases h.kind with hh|hh|hh<;>(dsimp only at hh;subst hh)
 ·have e0:d=0:=by rcases hde with e|e;·exact absurd e (by decide)
                  ·exact e
  subst e0
  rw[Jb8 _ rfl]
  dsimp only
  show YX (UInt8.ofNat 1::(Yo key++Yo val)++r)=_
  rw[show UInt8.ofNat 1::(Yo key++Yo val)++r=UInt8.ofNat 1::(Yo key++(Yo val++r)) by simp]
  unfold YX
  dsimp only
  rw[YE key _ (by omega)]
  simp only[if_true,ZV]
  rw[J7 (by decide),if_pos rfl,YE val _ (by omega)]
  simp[hc]
 ·have e0:d=0:=by rcases hde with e|e;·exact absurd e (by decide)
                  ·exact e
  have e1:val=[]:=by rcases hva with e|e;·exact absurd e (by decide)
                     ·exact e
  subst e0 e1
  rw[Jb9 _ rfl]
  dsimp only
  rw[show[UInt8.ofNat 2]++Yo key++r=UInt8.ofNat 2::(Yo key++r) by simp]
  unfold YX
  dsimp only
  rw[YE key _ (by omega)]
  simp only[if_true,ZV]
  rw[J7 (by decide),if_neg (by decide),if_neg (by decide)]
  simp[hc]
 ·have e1:val=[]:=by rcases hva with e|e;·exact absurd e (by decide)
                     ·exact e
  subst e1
  rw[Jca _ rfl]
  dsimp only
  rw[show[UInt8.ofNat 3]++Yo key++le d 8++r=UInt8.ofNat 3::(Yo key++(le d 8++r)) by simp]
  unfold YX
  dsimp only
  rw[YE key _ (by omega)]
  simp only[if_true,ZV]
  rw[J7 (by decide),if_neg (by decide),if_pos rfl,if_neg (by rw[List.length_append,YV];omega)]
  have hd:d<18446744073709551616:=hwf.2
  rw[List.take_left' (YV d 8),List.drop_left' (YV d 8),JbY,Nat.mod_eq_of_lt (by show d<256^8;simpa using hd)]
  simp[hc]
theorem JnI {s r:List UInt8} {u:Upd} (h:YX s=some (u,r)):s=u.bytes++r:=by
 have hok:=Jir h
 unfold YX at h
 split at h
 ·simp at h
 ·rename_i b t
  split at h
  ·rename_i hsp
   obtain⟨h1,-⟩:=JdA hsp
   have hb:=b.toNat_lt
   have hbb:UInt8.ofNat b.toNat=b:=by simp
   split at h
   ·simp at h
   ·rename_i u' m' hr
    split at h
    ·simp only[Option.some.injEq,Prod.mk.injEq] at h
     obtain⟨rfl,rfl⟩:=h
     unfold ZV at hr
     split at hr
     ·rename_i hb1
      split at hr
      ·rename_i hv
       simp only[Option.some.injEq,Prod.mk.injEq] at hr
       obtain⟨rfl,rfl⟩:=hr
       obtain⟨h2,-⟩:=JdA hv
       rw[Jb8 _ rfl]
       dsimp only
       rw[show UInt8.ofNat 1=b by rw[<-hbb,hb1]]
       conv=>lhs;rw[h1,h2]
       simp
      ·simp at hr
     ·split at hr
      ·rename_i hb3
       split at hr
       ·simp at hr
       ·rename_i hl
        simp only[Option.some.injEq,Prod.mk.injEq] at hr
        obtain⟨rfl,rfl⟩:=hr
        rw[Jca _ rfl]
        dsimp only
        rw[show UInt8.ofNat 3=b by rw[<-hbb,hb3]]
        have hl8:((Jr t).2.1.take 8).length=8:=by rw[List.length_take];omega
        have e:=Jdh ((Jr t).2.1.take 8)
        rw[hl8] at e
        rw[e]
        conv=>lhs;rw[h1]
        simp
      ·rename_i hb1 hb3
       simp only[Option.some.injEq,Prod.mk.injEq] at hr
       obtain⟨rfl,rfl⟩:=hr
       have hk:=(Upd.check_ok hok.2)
       dsimp only at hk
       have hb2:b.toNat=2:=by omega
       rw[Jb9 _ hb2]
       dsimp only
       rw[hbb]
       conv=>lhs;rw[h1]
       simp
    ·simp at h
  ·simp at h
theorem JfZ {u:Upd} (h:Xg u):u.bytes≠[]:=by
 intro e
 have:=Jag h []
 rw[e] at this
 simp[YX] at this
theorem ZM (u:Upd) (l:List Upd):YI (u::l)=u.bytes++YI l:=rfl
theorem JgD:∀(l:List Upd),(∀u∈l,Xg u)->Z7 (YI l)=some l
 |[],_=>rfl
 |u::l,h=>by
  have hu:=h u (List.mem_cons_self ..)
  have h0:YI (u::l)≠[]:=by rw[ZM];intro e;exact JfZ hu (List.append_eq_nil_iff.1 e).1
  rw[JgE h0 (by rw[ZM];exact Jag hu _),JgD l (fun x hx=>h x (List.mem_cons_of_mem _ hx))]
  rfl
theorem Jfa:∀(n:Nat) (s:List UInt8) (l:List Upd),s.length<=n->Xz n s=some l->s=YI l
 |0,s,l,hn,h=>by
  simp only[Xz,Option.some.injEq] at h
  rw[<-h,List.eq_nil_of_length_eq_zero (by omega:s.length=0)];rfl
 |n+1,s,l,hn,h=>by
  unfold Xz at h
  split at h
  ·rename_i h0
   simp only[Option.some.injEq] at h;rw[<-h,h0];rfl
  ·split at h
   ·simp at h
   ·rename_i e r hs
    have hlt:=JbR hs
    cases hr:Xz n r with
    |none=>rw[hr] at h;simp at h
    |some t=>
     rw[hr] at h
     simp only[Option.map_some,Option.some.injEq] at h
     rw[<-h,ZM,<-Jfa n r t (by omega) hr]
     exact JnI hs
theorem JmF {s:List UInt8} {l:List Upd} (h:Z7 s=some l):s=YI l:=Jfa _ _ _ (Nat.le_refl _) h
theorem JiX {l:List Upd} (h:∀u∈l,Xg u) (hr:Je Upd.key l):Zc (YI l)=(l,0):=by
 unfold Zc
 rw[JgD l h]
 simp only
 rw[if_pos ((ZU l).2 hr)]
theorem JiZ {s:List UInt8} {l:List Upd} (h:Zc s=(l,0)):s=YI l/\(∀u∈l,Xg u)/\Je Upd.key l:=by
 have h1:=Jfj s
 have h2:=Jgd s
 rw[h] at h1 h2
 refine⟨?_,fun u hu=>⟨(h1.2 u hu).1,(h1.2 u hu).2⟩,h2⟩
 unfold Zc at h
 split at h
 ·simp at h
 ·rename_i l' hl
  split at h
  ·simp only[Prod.mk.injEq,and_true] at h
   subst h
   exact JmF hl
  ·simp at h
theorem JkD (s:List UInt8):(Zc s).2=0\/Zc s=([],4):=by
 unfold Zc
 split
 ·exact Or.inr rfl
 ·split
  ·exact Or.inl rfl
  ·exact Or.inr rfl
theorem JcV:∀(a b:List Upd) (r:List UInt8),(∀u∈a,Xg u)->(∀u∈b,Xg u)->YI a++r=YI b->∃t,b=a++t/\r=YI t
 |[],b,r,_,_,h=>⟨b,rfl,by simpa[YI] using h⟩
 |u::a,[],r,ha,_,h=>by
  rw[ZM,List.append_assoc] at h
  exact absurd (List.append_eq_nil_iff.1 h).1 (JfZ (ha u (List.mem_cons_self ..)))
 |u::a,v::b,r,ha,hb,h=>by
  rw[ZM,ZM,List.append_assoc] at h
  have h1:=Jag (ha u (List.mem_cons_self ..)) (YI a++r)
  rw[h,Jag (hb v (List.mem_cons_self ..))] at h1
  simp only[Option.some.injEq,Prod.mk.injEq] at h1
  obtain⟨rfl,h2⟩:=h1
  obtain⟨t,rfl,rfl⟩:=JcV a b r (fun x hx=>ha x (List.mem_cons_of_mem _ hx)) (fun x hx=>hb x (List.mem_cons_of_mem _ hx)) h2.symm
  exact⟨t,rfl,rfl⟩
def Jad (a g s:Nat):List UInt8:=Yx [(4,a),(8,g),(4,s)]
theorem X1 (a g s:Nat):(Jad a g s).length=16:=by unfold Jad;rw[XX];rfl
theorem Jbu (a g s:Nat):Jf2 [(4,a),(8,g),(4,s)]:=fun p hp=>by
 simp only[List.mem_cons,List.not_mem_nil,or_false] at hp
 rcases hp with rfl|rfl|rfl<;>simp
theorem JhH {a g s:Nat} (ha:a<4294967296) (hg:g<18446744073709551616) (hs:s<4294967296):Fit [(4,a),(8,g),(4,s)]:=fun p hp=>by
 simp only[List.mem_cons,List.not_mem_nil,or_false] at hp
 rcases hp with rfl|rfl|rfl
 ·exact ha
 ·exact hg
 ·exact hs
theorem Jnt (a g s:Nat):Yx [(4,a),(8,g),(4,s)]=le a 4++(le g 8++le s 4):=by simp[Yx]
theorem JkX {k a b:Nat} (ha:a<256^k) (hb:b<256^k) (h:le a k=le b k):a=b:=by
 have h1:=JbY k a
 have h2:=JbY k b
 rw[h,h2] at h1
 rw[Nat.mod_eq_of_lt ha,Nat.mod_eq_of_lt hb] at h1
 exact h1.symm
theorem JiR {a g s a' g' s':Nat} (ha:a<4294967296) (hg:g<18446744073709551616) (hs:s<4294967296) (ha':a'<4294967296) (hg':g'<18446744073709551616) (hs':s'<4294967296) (h:Jad a g s=Jad a' g' s'):a=a'/\g=g'/\s=s':=by
 unfold Jad at h
 rw[Jnt,Jnt] at h
 obtain⟨h1,h2⟩:=List.append_inj h (by simp)
 obtain⟨h3,h4⟩:=List.append_inj h2 (by simp)
 exact⟨JkX (k:=4) ha ha' h1,JkX (k:=8) hg hg' h3,JkX (k:=4) hs hs' h4⟩
structure Jab (c:Chd):Prop where
 low:c.low.length<=255
 addr:0<=c.addr/\c.addr<4294967296
 gen:c.gen<18446744073709551616
 sum:c.sum<4294967296
structure Zi (c:Chd):Prop where
 low:c.low.length<=16
 addr:0<=c.addr/\c.addr<=2147483647
 gen:c.gen<18446744073709551616
 sum:c.sum<4294967296
theorem Zi.is {c:Chd} (h:Zi c):Jab c:=⟨by have:=h.low;omega,⟨h.addr.1,by have:=h.addr.2;omega⟩,h.gen,h.sum⟩
def chT (c:Chd):List UInt8:=Yo c.low++Jad c.addr.toNat c.gen c.sum
theorem Jl2 {c d:Chd} (hc:Jab c) (hd:Jab d) {r r':List UInt8} (h:chT c++r=chT d++r'):c=d/\r=r':=by
 unfold chT at h
 rw[List.append_assoc,List.append_assoc] at h
 have h1:=YE c.low (Jad c.addr.toNat c.gen c.sum++r) hc.low
 rw[h,YE _ _ hd.low] at h1
 simp only[Prod.mk.injEq,and_true] at h1
 obtain⟨h2,h3⟩:=h1
 obtain⟨h4,h5⟩:=List.append_inj h3 (by rw[X1,X1])
 have a1:=hc.addr
 have a2:=hd.addr
 obtain⟨h6,h7,h8⟩:=JiR (by omega) hd.gen hd.sum (by omega) hc.gen hc.sum h4
 refine⟨?_,h5.symm⟩
 obtain⟨lo,ad,ge,su⟩:=c
 obtain⟨lo',ad',ge',su'⟩:=d
 dsimp only at*
 subst h2 h7 h8
 rw[show ad=ad' by omega]
theorem Jl1 (c:Chd):(chT c).length=c.low.length+17:=by unfold chT;rw[List.length_append,YW,X1]
def Y9 (cs:List Chd):List UInt8:=cs.flatMap chT
theorem Xm (c:Chd) (cs:List Chd):Y9 (c::cs)=chT c++Y9 cs:=rfl
theorem JgS (a b:List Chd):Y9 (a++b)=Y9 a++Y9 b:=by unfold Y9;rw[List.flatMap_append]
theorem JkY {l:List Chd} {i:Nat} (hi:i<l.length):Y9 (l.take (i+1))=Y9 (l.take i)++chT l[i]:=by
 rw[List.take_succ_eq_append_getElem hi,JgS];simp[Y9]
theorem Jb2:∀l:List Chd,(∀c∈l,c.low.length<=255)->(Y9 l).length<=272*l.length
 |[],_=>by simp[Y9]
 |c::l,h=>by
  have h1:=Jb2 l (fun x hx=>h x (List.mem_cons_of_mem _ hx))
  have h2:=h c (List.mem_cons_self ..)
  rw[Xm,List.length_append,Jl1,List.length_cons];omega
theorem JdL:∀(a b:List Chd) (r r':List UInt8),a.length=b.length->(∀c∈a,Jab c)->(∀c∈b,Jab c)->Y9 a++r=Y9 b++r'->a=b/\r=r'
 |[],[],r,r',_,_,_,h=>⟨rfl,by simpa[Y9] using h⟩
 |[],_::_,_,_,hl,_,_,_=>by simp at hl
 |_::_,[],_,_,hl,_,_,_=>by simp at hl
 |c::a,d::b,r,r',hl,ha,hb,h=>by
  rw[Xm,Xm,List.append_assoc,List.append_assoc] at h
  obtain⟨rfl,h1⟩:=Jl2 (ha c (List.mem_cons_self ..)) (hb d (List.mem_cons_self ..)) h
  obtain⟨rfl,rfl⟩:=JdL a b r r' (by simpa using hl) (fun x hx=>ha x (List.mem_cons_of_mem _ hx)) (fun x hx=>hb x (List.mem_cons_of_mem _ hx)) h1
  exact⟨rfl,rfl⟩
theorem Jfu:∀(a b:List Chd) (r r':List UInt8),a.length<b.length->(∀c∈a,Jab c)->(∀c∈b,Jab c)->Y9 a++r=Y9 b++r'->∃c t,c∈b/\r=chT c++t
 |[],d::b,r,r',_,_,hb,h=>⟨d,Y9 b++r',List.mem_cons_self ..,by rw[Xm,List.append_assoc] at h;simpa[Y9] using h⟩
 |[],[],_,_,hl,_,_,_=>by simp at hl
 |_::_,[],_,_,hl,_,_,_=>by simp at hl
 |c::a,d::b,r,r',hl,ha,hb,h=>by
  rw[Xm,Xm,List.append_assoc,List.append_assoc] at h
  obtain⟨rfl,h1⟩:=Jl2 (ha c (List.mem_cons_self ..)) (hb d (List.mem_cons_self ..)) h
  obtain⟨e,t,h2,h3⟩:=Jfu a b r r' (by simpa using hl) (fun x hx=>ha x (List.mem_cons_of_mem _ hx)) (fun x hx=>hb x (List.mem_cons_of_mem _ hx)) h1
  exact⟨e,t,List.mem_cons_of_mem _ h2,h3⟩
structure Xt (cs:List Chd):Prop where
 len:1<=cs.length/\cs.length<=16
 ok:∀c∈cs,Zi c
 first:∀c,cs[0]? =some c->c.low=[]
 rising:Je Chd.low cs
def Yl (cs:List Chd) (us:List Upd):List UInt8:=UInt8.ofNat cs.length::(Y9 cs++YI us)
structure YR (cs:List Chd) (us:List Upd):Prop where
 kids:Xt cs
 len:us.length<=64
 ok:∀u∈us,Xg u
 rising:Je Upd.key us
theorem Jhw {cs cs':List Chd} {us us':List Upd} {r:List UInt8} (h:YR cs us) (h':YR cs' us') (e:Yl cs' us'++r=Yl cs us):cs'=cs/\∃t,us=us'++t/\r=YI t:=by
 unfold Yl at e
 rw[List.cons_append,List.append_assoc] at e
 injection e with e1 e2
 have l1:=h.kids.len
 have l2:=h'.kids.len
 have hl:cs'.length=cs.length:=by
  have:=congrArg UInt8.toNat e1
  rwa[J7 (by omega),J7 (by omega)] at this
 obtain⟨rfl,h3⟩:=JdL cs' cs _ _ hl (fun c hc=>(h'.kids.ok c hc).is) (fun c hc=>(h.kids.ok c hc).is) e2
 exact⟨rfl,JcV us' us r h'.ok h.ok h3⟩
theorem Jgu {cs cs':List Chd} {us us':List Upd} (h:YR cs us) (h':YR cs' us') (e:Yl cs' us'=Yl cs us):cs'=cs/\us'=us:=by
 obtain⟨h1,t,rfl,h3⟩:=Jhw (r:=[]) h h' (by rw[List.append_nil];exact e)
 refine⟨h1,?_⟩
 cases t with
 |nil=>simp
 |cons u t=>
  rw[ZM] at h3
  exact absurd (List.append_eq_nil_iff.1 h3.symm).1 (JfZ (h.ok u (by simp)))
theorem Jgt {cs:List Chd} {us:List Upd} (h:YR cs us):(Yl cs us).length<=8200:=by
 have h1:=Jb2 cs (fun c hc=>(h.kids.ok c hc).is.low)
 have h2:=Jae us h.ok
 have h3:=h.kids.len
 have h4:=h.len
 unfold Yl
 rw[List.length_cons,List.length_append];omega
theorem JeR {k:Nat} {cs cs':List Chd} {us':List Upd} {r:List UInt8} (hk:k<256) (hl:cs.length=k) (hc:∀c∈cs,Jab c) (h':YR cs' us') (e:UInt8.ofNat k::(Y9 cs++r)=Yl cs' us'):cs'=cs/\r=YI us':=by
 unfold Yl at e
 injection e with e1 e2
 have l2:=h'.kids.len
 have hll:cs.length=cs'.length:=by
  have:=congrArg UInt8.toNat e1
  rw[J7 hk,J7 (by omega)] at this
  omega
 obtain⟨h1,h2⟩:=JdL cs cs' _ _ hll hc (fun c hc=>(h'.kids.ok c hc).is) e2
 exact⟨h1.symm,h2⟩
theorem Jke {k:Nat} {cs cs':List Chd} {us':List Upd} {r:List UInt8} (hk:k<256) (hl:cs.length<k) (hc:∀c∈cs,Jab c) (h':YR cs' us') (e:UInt8.ofNat k::(Y9 cs++r)=Yl cs' us'):∃c t,Zi c/\r=chT c++t:=by
 unfold Yl at e
 injection e with e1 e2
 have l2:=h'.kids.len
 have hll:cs.length<cs'.length:=by
  have:=congrArg UInt8.toNat e1
  rw[J7 hk,J7 (by omega)] at this
  omega
 obtain⟨c,t,h1,h2⟩:=Jfu cs cs' _ _ hll hc (fun c hc=>(h'.kids.ok c hc).is) e2
 exact⟨c,t,h'.kids.ok c h1,h2⟩
end Go.Proofs.YtafciefjlkdecaaGreat
