/-
  The walk of rec.first.   The walk of rec.Parse.   The walks of the document's Get of a number, and of its On of a value.   The walk of the document's Split.   The walk of the document's Parse of updates.   The walks of buf.Of, buf.Parse, and of the document's Rising and Parse of layer 15. The walks of buf.Parse, and of the document's Parse of layer 15.   The walks of the look for a key among entries: the comparison, the binary search.   The walk of slices.Clone at entries; slices as arguments.   The walks of a value that holds entries: how many, the list, the place of a key.   The walk of slices.Insert of one element into a row of the call's own, at entries.   The walk of slices.Delete of one element of a row of the call's own, at entries.   The walk of (*leaf.Leaf).on: what an update makes of a leaf in its box. What the statements' proofs share: how arguments are opened.   How slices of ints and of bytes are opened, as arguments.   How arguments are opened that are arrays of two texts.   How an argument is opened that is a slice of updates.   How arguments are opened that are slices of entries, or arrays of two short numbers. A tree's blocks: rows whose cells are written; a vertex, a tree; New, Open, small. The laws' acts: how a slice of them is opened, read, cut. Plain laws on a leaf's entries: what an update makes of them, told by what each key has.   The walk of (leaf.Leaf).Parts.   The walk of (leaf.Leaf).Get.   The walk of (leaf.Leaf).On: what updates make of a leaf.   Entries that may be (leaf.Of, Entry.right, the document's Right); the document's Split.   The entries of bytes: plain laws, no program in sight.   The walks of the document's Right, and of leaf.Of. The walk of leaf.Of.   The walks of the document's numbers: treenailref01.Get, treenailref14.On.
-/
import Derived.BigRegion
import Derived.Deep.RegionLawGrows
import Derived.Deep.DeepCutAuto
import Derived.Deep.CutBlock
import Derived.BigQuiet
import Derived.Deep.DrawnRows
import Derived.Lib.Walk
import Derived.Outline
import Derived.Deep.RegionHeld3
import Derived.ProofKit
import Derived.OpenShut
import Derived.ShutString
import Derived.ChangeOld
import Derived.SizedLaws
import Derived.Lib.SmallJoins
import Derived.Deep.Slices
import Derived.Deep.Cut
import Derived.Deep.RegionWith
import Derived.Test.YtafciefjlkdecaaGreatQpa
set_option maxRecDepth 100000
set_option maxHeartbeats 16000000
namespace Go.Proofs.YtafciefjlkdecaaGreat
open Go.RowKit
attribute [local go_sem ↓] Go.wp_at_zero Go.wp_at_succ
def Jdu:Option (Upd×List UInt8)->Ending->Prop
 |some p,e=>e=.returned (.tuple #[Jbh p.1,.string (S p.2),.bool true])
 |none,e=>∃(x:Upd) (y:List UInt8),e=.returned (.tuple #[Jbh x,.string (S y),.bool false])
theorem JmB (aw:Option Addr) (cw:Nat) (b:UInt8) (r:List UInt8) (w:World) (hs:JbO w aw [(1,b.toNat)]) (hr:r.length<=1000000):
  Calls Tryz.prog 114 #[.slice aw 1 cw,.string (S (b::r))] w fun e w'=>(∃ao c,e=.returned (.tuple #[.slice ao 1 c,.string (S r),.bool true])/\Jet w' ao [(1,b.toNat)])/\Below w.heap.size w w':=by
 have hb:=b.toNat_lt
 have h:=JbT aw cw [(1,b.toNat)] r w hs (Jcj 1 _ (by decide) (by decide)) (fun p hp=>by rw[List.mem_singleton] at hp;rw[hp];exact hb) (by simp) hr
 have e:Yx [(1,b.toNat)]++r=b::r:=by simp[Yx,le]
 rw[e] at h
 exact h
theorem Jkv (aw:Option Addr) (cw:Nat) (s:List UInt8) (w:World) (h8:8<=s.length) (hs:JbO w aw [(8,Y0 (s.take 8))]) (hr:s.length<=1000000):
  Calls Tryz.prog 114 #[.slice aw 1 cw,.string (S s)] w fun e w'=>(∃ao c,e=.returned (.tuple #[.slice ao 1 c,.string (S (s.drop 8)),.bool true])/\Jet w' ao [(8,Y0 (s.take 8))])/\Below w.heap.size w w':=by
 have hl:(s.take 8).length=8:=by rw[List.length_take];omega
 have h:=JbT aw cw [(8,Y0 (s.take 8))] (s.drop 8) w hs (Jcj 8 _ (by decide) (by decide)) (fun p hp=>by rw[List.mem_singleton] at hp;rw[hp];exact JdJ s h8) (by simp) (by rw[List.length_drop];omega)
 have e:Yx [(8,Y0 (s.take 8))]++s.drop 8=s:=by
  have:=Jdh (s.take 8)
  rw[hl] at this
  simp only[Yx,List.flatMap_cons,List.flatMap_nil,List.append_nil]
  rw[this,List.take_append_drop]
 rw[e] at h
 exact h
theorem Jdj (w:World) (b:Nat) (hb:w.heap.size=b) (c:Array Value) (e:TypeId) (ps:List (Nat×Nat)) (hc:c.toList=ps.map fun p=>.int .i64 p.1):JbO (w.alloc (.cells c e (0,0))) (some ⟨b,0,none⟩) ps:=by
 subst hb
 exact ZW w c e (0,0) ps hc
abbrev Jig:Obj:=.cells #[.int .u8 0,.string ByteArray.empty,.string ByteArray.empty,.int .u64 0] 39
def Jo4:Option (Upd×List UInt8)->Upd->List UInt8->Bool->Prop
 |some p,x,m,o=>o=true/\x=p.1/\m=p.2
 |none,_,_,o=>o=false
theorem Jm7 (w:World):
  Calls Tryz.prog 176 #[.string (S [])] w fun e w'=>Jdu (YX []) e/\Below w.heap.size w w':=by
 have hr:=X0 (some ⟨w.heap.size+1,0,none⟩) 1 [(1,0)] [] _ (Jdj (w.alloc Jig) _ (by simp) #[.int .i64 1] 3 [(1,0)] rfl) (Jcj 1 0 (by decide) (by decide)) (by simp) (by decide)
 go_enter Tryz.func176,Tryz.ntmps176
 go_wp2_with (go_at_call 114;refine(hr).mono ?_;rintro e w' ⟨rfl,rfl⟩)
 refine bodyPost_ret (v:=.tuple #[Jbh ⟨0,[],[],0⟩,.string (S []),.bool false]) (by simp[results,Tryz.results176,go_sem,Jbh];rfl) rfl ⟨⟨_,_,rfl⟩,by go_grown⟩
theorem Jk7 (b:UInt8) (r:List UInt8) (hl:r.length<=900000) (w:World):
  Calls Tryz.prog 176 #[.string (S (b::r))] w fun e w'=>Jdu (YX (b::r)) e/\Below w.heap.size w w':=by
 have hr:=JmB (some ⟨w.heap.size+1,0,none⟩) 1 b r _ (Jdj (w.alloc Jig) _ (by simp) #[.int .i64 1] 3 [(1,b.toNat)] rfl) (by omega)
 have hb256:=b.toNat_lt
 have hs1:=fun W=>Jax r (by omega) W
 unfold Zt at hs1
 have hst:YX (b::r)=if(Jr r).2.2 then(match ZV b (Jr r).1 (Jr r).2.1 with|none=>none|some (u,m)=>if u.check=0 then some (u,m) else none) else none:=rfl
 have hq1:=(Y3 r).1
 generalize Jr r=p1 at*
 obtain⟨key,more,ok⟩:=p1
 dsimp only at hs1 hst hq1
 have HS1:=Lib.hid hs1
 have HST:=Lib.hid hst
 have HR:=Lib.hid hr
 clear hs1 hst hr
 go_enter Tryz.func176,Tryz.ntmps176
 go_wp2_with fail
 refine(Jl HR.out (w.heap.size+1) (w.alloc Jig) (by go_grown) (by go_grown)).mono ?_
 rintro e w1 ⟨⟨ao,c,rfl,hN⟩,hB1,-,-,-,hz1⟩
 obtain⟨bN,oN,rfl,hbN,hcN⟩:=hN.at (by simp)
 have hc0:=hcN 0 (by simp) 0 _ rfl
 simp only[Nat.mul_one,Nat.add_zero,List.getElem_cons_zero] at hc0
 clear hcN hN HR
 have hbm:((b.toNat:Int)% 256)=(b.toNat:Int):=by omega
 go_wp2_with fail
 refine(Jl (HS1.out _) w1.heap.size w1 (by go_grown) (by go_grown)).mono ?_
 rintro e w2 ⟨rfl,hX2,hk2,hf2,hs2,hz2⟩
 have hu1:w1.heap.size<w2.heap.size:=by simp at hs2;omega
 have hU:UAt w2 w1.heap.size ⟨b.toNat,[],[],0⟩:=⟨(hk2 w1.heap.size 0 (by simp)).trans (by simp),(hk2 w1.heap.size 1 (by simp)).trans (by simp;rfl),(hk2 w1.heap.size 2 (by simp)).trans (by simp;rfl),(hk2 w1.heap.size 3 (by simp)).trans (by simp),fun i=>(hf2 w1.heap.size i (by simp)).trans (by simp),hu1⟩
 have hBx:=hB1.trans (hX2.mono hz1)
 have hR:UAt w2 w.heap.size ⟨0,[],[],0⟩:=UAt.on (UAt.new w 39) (hBx.mono (Nat.le_refl _)) (Nat.lt_succ_self _)
 have hB2:Below w.heap.size w w2:=(Below.alloc (Below.refl _ w) (Nat.le_refl _) Jig).trans (hBx.mono (Nat.le_succ _))
 have hne:w1.heap.size≠w.heap.size:=by omega
 clear hk2 hf2 hs2 hX2 hBx hB1 hc0
 have hUk:=(hU.setKey key)
 have hRk:=hR.far (p:=⟨w1.heap.size,1,none⟩) hne (.string (S key))
 have hBk:=hB2.setCell (p:=⟨w1.heap.size,1,none⟩) (by show w.heap.size<=w1.heap.size;omega) (.string (S key))
 have hzk:w1.heap.size<(w2.setCell ⟨w1.heap.size,1,none⟩ (.string (S key))).heap.size:=by rw[World.size_setCell];exact hu1
 cases ok with
 |false=>
  have hst2:YX (b::r)=none:=HST.out.trans rfl
  have HST2:=Lib.hid hst2
  have HBK:=Lib.hid hBk
  obtain⟨r0,r1,r2,r3,rf,-⟩:=hR
  obtain⟨-,u1,-,-,uf,-⟩:=hU
  have u1f:=uf 1
  have rf0:=rf 0
  have rf1:=rf 1
  have rf2:=rf 2
  have rf3:=rf 3
  clear hst2 HST hUk hRk hzk hBk uf rf
  go_wp2_with fail
  refine bodyPost_ret (v:=.tuple #[Jbh ⟨0,[],[],0⟩,.string (S []),.bool false]) (by simp[results,Tryz.results176,go_sem,Jbh,r0,r1,r2,r3];rfl) rfl ⟨?_,?_⟩
  ·rw[HST2.out]
   exact⟨_,_,rfl⟩
  ·exact((((HBK.out).setCell (p:=⟨w.heap.size,0,none⟩) (Nat.le_refl _) _).setCell (p:=⟨w.heap.size,1,none⟩) (Nat.le_refl _) _).setCell (p:=⟨w.heap.size,2,none⟩) (Nat.le_refl _) _).setCell (p:=⟨w.heap.size,3,none⟩) (Nat.le_refl _) _
 |true=>
  have hst2:YX (b::r)=(match ZV b key more with|none=>none|some (u,m)=>if u.check=0 then some (u,m) else none):=HST.out.trans rfl
  have HST2:=Lib.hid hst2
  obtain⟨u0,u1,-,-,uf,-⟩:=hU
  have u1f:=uf 1
  dsimp only at u0
  clear hst2 HST uf
  go_upto_region 8 with(fail)
  go_upto_block 0 with(fail)
  generalize w2.setCell ⟨w1.heap.size,1,none⟩ (.string (S key))=W at*
  go_cut [0,6] (fun s t wx=>∃(x:Upd) (m:List UInt8) (o:Bool),s=.string (S m)/\t=.bool o/\UAt wx w1.heap.size x/\UAt wx w.heap.size ⟨0,[],[],0⟩/\x.Wf/\Jo4 (ZV b key more) x m o/\Below w.heap.size w wx)
  case first=>
   have HBK:=Lib.hid hBk
   have HRK:=Lib.hid hRk
   have HUK:=Lib.hid hUk
   obtain⟨k0,k1,k2,k3,kf,-⟩:=hUk
   have k2f:=kf 2
   have k3f:=kf 3
   dsimp only at k0
   clear hBk hRk kf k1 u0 u1 u1f hB2 hR
   by_cases h1:b.toNat=1
   ·have h1':((b.toNat:Int)==1)=true:=by simp[h1]
    have hre:ZV b key more=(if(Jr more).2.2 then some (⟨1,key,(Jr more).1,0⟩,(Jr more).2.1) else none):=by unfold ZV;rw[if_pos h1]
    have hs2:=fun W=>Jax more (by omega) W
    unfold Zt at hs2
    generalize Jr more=p2 at*
    obtain⟨val,m2,is⟩:=p2
    dsimp only at hs2 hre
    have HS2:=Lib.hid hs2
    have HRE:=Lib.hid hre
    have H1:=Lib.hid h1
    clear hs2 hre h1
    go_wp2_with fail
    refine(Jl (HS2.out _) W.heap.size W (Below.refl _ _) (Nat.le_refl _)).mono ?_
    rintro e w3 ⟨rfl,hX3,hk3,hf3,-,hz3⟩
    have k2:=(hk3 w1.heap.size 2 hzk).trans k2
    have k2f:=(hf3 w1.heap.size 2 hzk).trans k2f
    have hU3:=(HUK.out.on hX3 hzk)
    have hR3:=(HRK.out.on hX3 (by omega))
    have HB3:=Lib.hid (HBK.out.trans (hX3.mono (by omega)))
    have HU3:=Lib.hid (hU3.setVal val)
    have HR3:=Lib.hid (hR3.far (p:=⟨w1.heap.size,2,none⟩) hne (.string (S val)))
    clear hU3 hR3 hX3 hk3 hf3 k0 k3 k3f
    go_wp2_with fail
    go_meet
    refine⟨_,m2,is,rfl,rfl,HU3.out,HR3.out,⟨hb256,by show(0:Nat)<_;decide⟩,?_,HB3.out.setCell (p:=⟨w1.heap.size,2,none⟩) (by show w.heap.size<=w1.heap.size;omega) _⟩
    rw[HRE.out]
    cases is with
    |true=>exact⟨rfl,by simp only[H1.out],rfl⟩
    |false=>exact rfl
   ·have h1':((b.toNat:Int)==1)=false:=by simp;omega
    by_cases h3:b.toNat=3
    ·have h3':((b.toNat:Int)==3)=true:=by simp[h3]
     have hre:ZV b key more=(if more.length<8 then none else some (⟨3,key,[],Y0 (more.take 8)⟩,more.drop 8)):=by unfold ZV;rw[if_neg h1,if_pos h3]
     have H3:=Lib.hid h3
     by_cases h8:more.length<8
     ·rw[if_pos h8] at hre
      have HRE:=Lib.hid hre
      have hr:=X0 (some ⟨W.heap.size,0,none⟩) 1 [(8,0)] more _ (Jdj W _ rfl #[.int .i64 8] 3 [(8,0)] rfl) (Jcj 8 0 (by decide) (by decide)) (by simp) (by simpa[Z0] using h8)
      have HRD:=Lib.hid hr
      clear hre hr h8 h3 h1
      go_wp2_with (go_at_call 114;refine(HRD.out).mono ?_;rintro e w' ⟨rfl,rfl⟩)
      go_meet
      exact⟨_,[],false,rfl,rfl,HUK.out.on ((Below.refl _ W).alloc (Nat.le_refl _) _) hzk,HRK.out.on ((Below.refl _ W).alloc (Nat.le_refl _) _) (by omega),⟨hb256,by show(0:Nat)<_;decide⟩,by rw[HRE.out];exact rfl,HBK.out.alloc (by omega) _⟩
     ·rw[if_neg h8] at hre
      have HRE:=Lib.hid hre
      have hr:=Jkv (some ⟨W.heap.size,0,none⟩) 1 more _ (by omega) (Jdj W _ rfl #[.int .i64 8] 3 [(8,Y0 (more.take 8))] rfl) (by omega)
      have HN8:=Lib.hid (JdJ more (by omega))
      generalize Y0 (more.take 8)=D at*
      generalize more.drop 8=rest at*
      have HRD:=Lib.hid hr
      clear hre hr h3 h1
      go_wp2_with fail
      refine(Jl HRD.out W.heap.size W (by go_grown) (by go_grown)).mono ?_
      rintro e w3 ⟨⟨ao3,c3',rfl,hN⟩,hX3,-,-,-,hz3⟩
      obtain⟨b3,o3,rfl,hb3,hcN⟩:=hN.at (by simp)
      have n0:=hcN 0 (by simp) 0 _ rfl
      simp only[Nat.mul_one,Nat.add_zero,List.getElem_cons_zero] at n0
      have hU3:=(HUK.out.on hX3 hzk)
      have hR3:=(HRK.out.on hX3 (by omega))
      have k3:=hU3.c3
      have k3f:=hU3.free 3
      dsimp only at k3
      have HB3:=Lib.hid (HBK.out.trans (hX3.mono (by omega)))
      have HU3:=Lib.hid (hU3.setDelta D)
      have HR3:=Lib.hid (hR3.far (p:=⟨w1.heap.size,3,none⟩) hne (.int .u64 D))
      clear hU3 hR3 hX3 hcN hN k0 k2 k2f
      go_wp2_with fail
      go_meet
      refine⟨_,rest,true,rfl,rfl,HU3.out,HR3.out,⟨hb256,HN8.out⟩,?_,HB3.out.setCell (p:=⟨w1.heap.size,3,none⟩) (by show w.heap.size<=w1.heap.size;omega) _⟩
      rw[HRE.out]
      exact⟨rfl,by simp only[H3.out],rfl⟩
    ·have h3':((b.toNat:Int)==3)=false:=by simp;omega
     have HRE:=Lib.hid (show ZV b key more=some (⟨b.toNat,key,[],0⟩,more) by unfold ZV;rw[if_neg h1,if_neg h3])
     go_wp2_with fail
     go_meet
     exact⟨_,more,true,rfl,rfl,HUK.out,HRK.out,⟨hb256,by show(0:Nat)<_;decide⟩,by rw[HRE.out];exact⟨rfl,rfl,rfl⟩,HBK.out⟩
  case rest=>
   obtain⟨x,m,o,rfl,rfl,hUx,hRx,hwf,hRI,hBx⟩:=hcut
   have HWF:=Lib.hid hwf
   have HB:=Lib.hid hBx
   obtain⟨x0,x1,x2,x3,-,hxl⟩:=hUx
   obtain⟨r0,r1,r2,r3,rf,hrl⟩:=hRx
   have rf0:=rf 0
   have rf1:=rf 1
   have rf2:=rf 2
   have rf3:=rf 3
   dsimp only at r0 r1 r2 r3
   clear hUk hRk hBk hzk u0 u1 u1f rf hbm
   cases o with
   |false=>
    have hst3:YX (b::r)=none:=by
     rw[HST2.out]
     cases hr:ZV b key more with
     |none=>rfl
     |some p=>rw[hr] at hRI;exact absurd hRI.1 (by simp)
    have HST3:=Lib.hid hst3
    clear hst3 hRI hwf hBx
    go_wp2_with fail
    go_big_region
    all_goals
     go_wp2_with fail
     refine bodyPost_ret (v:=.tuple #[Jbh x,.string (S m),.bool false]) (by simp[results,Tryz.results176,go_sem,Jbh,r0,r1,r2,r3]) rfl ⟨?_,?_⟩
     ·rw[HST3.out]
      exact⟨_,_,rfl⟩
     ·first|exact((((HB.out).setCell (p:=⟨w.heap.size,0,none⟩) (Nat.le_refl _) _).setCell (p:=⟨w.heap.size,1,none⟩) (Nat.le_refl _) _).setCell (p:=⟨w.heap.size,2,none⟩) (Nat.le_refl _) _).setCell (p:=⟨w.heap.size,3,none⟩) (Nat.le_refl _) _|exact Jb (((((HB.out).setCell (p:=⟨w.heap.size,0,none⟩) (Nat.le_refl _) _).setCell (p:=⟨w.heap.size,1,none⟩) (Nat.le_refl _) _).setCell (p:=⟨w.heap.size,2,none⟩) (Nat.le_refl _) _).setCell (p:=⟨w.heap.size,3,none⟩) (Nat.le_refl _) _)
   |true=>
    have hst3:YX (b::r)=if(Upd.mk x.kind x.key x.val x.delta).check=0 then some (x,m) else none:=by
     rw[HST2.out]
     cases hr:ZV b key more with
     |none=>rw[hr] at hRI;exact absurd hRI (by simp[Jo4])
     |some p=>rw[hr] at hRI;obtain⟨-,rfl,rfl⟩:=hRI;rfl
    have HST3:=Lib.hid hst3
    have HCK:=Lib.hid (fun W=>chk x.kind x.key x.val x.delta HWF.out.1 HWF.out.2 W)
    generalize(Upd.mk x.kind x.key x.val x.delta).check=ck at*
    clear hRI hwf hBx
    by_cases hc0:ck=0
    ·have hcb:((ck:Int)==0)=true:=by simp[hc0]
     have HST4:=Lib.hid (show YX (b::r)=some (x,m) by rw[hst3,if_pos hc0])
     clear hst3 HST3 hc0
     go_wp2_with fail
     go_region_law (first|(go_simp;go_at_call 38;refine(HCK.out _).mono ?_;rintro e w4 ⟨rfl,hb4⟩;have y0:=Ja hb4 (Jj x0);have y1:=Ja hb4 (Jj x1);have y2:=Ja hb4 (Jj x2);have y3:=Ja hb4 (Jj x3);have z0:=Ja hb4 (Jj r0);have z1:=Ja hb4 (Jj r1);have z2:=Ja hb4 (Jj r2);have z3:=Ja hb4 (Jj r3);have zf0:=(hb4.frozen (p:=⟨w.heap.size,0,none⟩) hrl).trans rf0;have zf1:=(hb4.frozen (p:=⟨w.heap.size,1,none⟩) hrl).trans rf1;have zf2:=(hb4.frozen (p:=⟨w.heap.size,2,none⟩) hrl).trans rf2;have zf3:=(hb4.frozen (p:=⟨w.heap.size,3,none⟩) hrl).trans rf3;have hB4:=(Jb HB.out).trans (hb4.mono HB.out.size);clear hb4))
     all_goals
      go_wp2_with fail
      refine bodyPost_ret (v:=.tuple #[Jbh x,.string (S m),.bool true]) (by simp[results,Tryz.results176,go_sem,Jbh,z0,z1,z2,z3]) rfl ⟨?_,?_⟩
      ·rw[HST4.out]
       exact rfl
      ·exact(((hB4.setCell (p:=⟨w.heap.size,0,none⟩) (Nat.le_refl _) _).setCell (p:=⟨w.heap.size,1,none⟩) (Nat.le_refl _) _).setCell (p:=⟨w.heap.size,2,none⟩) (Nat.le_refl _) _).setCell (p:=⟨w.heap.size,3,none⟩) (Nat.le_refl _) _
    ·have hcb:((ck:Int)==0)=false:=by simp;omega
     have HST4:=Lib.hid (show YX (b::r)=none by rw[hst3,if_neg hc0])
     clear hst3 HST3 hc0
     go_wp2_with fail
     go_region_law (first|(go_simp;go_at_call 38;refine(HCK.out _).mono ?_;rintro e w4 ⟨rfl,hb4⟩;have y0:=Ja hb4 (Jj x0);have y1:=Ja hb4 (Jj x1);have y2:=Ja hb4 (Jj x2);have y3:=Ja hb4 (Jj x3);have z0:=Ja hb4 (Jj r0);have z1:=Ja hb4 (Jj r1);have z2:=Ja hb4 (Jj r2);have z3:=Ja hb4 (Jj r3);have zf0:=(hb4.frozen (p:=⟨w.heap.size,0,none⟩) hrl).trans rf0;have zf1:=(hb4.frozen (p:=⟨w.heap.size,1,none⟩) hrl).trans rf1;have zf2:=(hb4.frozen (p:=⟨w.heap.size,2,none⟩) hrl).trans rf2;have zf3:=(hb4.frozen (p:=⟨w.heap.size,3,none⟩) hrl).trans rf3;have hB4:=(Jb HB.out).trans (hb4.mono HB.out.size);clear hb4))
     all_goals
      go_wp2_with fail
      refine bodyPost_ret (v:=.tuple #[Jbh x,.string (S m),.bool false]) (by simp[results,Tryz.results176,go_sem,Jbh,z0,z1,z2,z3]) rfl ⟨?_,?_⟩
      ·rw[HST4.out]
       exact⟨_,_,rfl⟩
      ·exact(((hB4.setCell (p:=⟨w.heap.size,0,none⟩) (Nat.le_refl _) _).setCell (p:=⟨w.heap.size,1,none⟩) (Nat.le_refl _) _).setCell (p:=⟨w.heap.size,2,none⟩) (Nat.le_refl _) _).setCell (p:=⟨w.heap.size,3,none⟩) (Nat.le_refl _) _
theorem Jm8 (s:List UInt8) (hl:s.length<=900000) (w:World):
  Calls Tryz.prog 176 #[.string (S s)] w fun e w'=>Jdu (YX s) e/\Below w.heap.size w w':=by
 cases s with
 |nil=>exact Jm7 w
 |cons b r=>exact Jk7 b r (by rw[List.length_cons] at hl;omega) w
open Go.RowKit
attribute [local go_sem ↓] Go.wp_at_zero Go.wp_at_succ
def Jih (B:Nat) (E:TypeId) (p:List Upd×Nat) (e:Ending) (w':World):Prop:=
 ∃a c,e=.returned (.tuple #[.slice a p.1.length c,.int .i64 p.2])/\w'.ownsRow B E 4 (.slice a p.1.length c) p.1.length (cellsU p.1)
theorem Jih.none (B:Nat) (E:TypeId) (n:Nat) (w':World) (e:Ending) (he:e=.returned (.tuple #[.slice none 0 0,.int .i64 n])):Jih B E ([],n) e w':=⟨Option.none,0,he,World.ownsRow_nil _ _ _ _⟩
theorem JmA {s:List UInt8} (h:Z7 s=none):XH s=([],4):=by simp[XH,h]
theorem Jmz {s:List UInt8} {l:List Upd} (h:Z7 s=some l):XH s=(l,0):=by simp[XH,h]
theorem Jgl (w:World) (b:Nat) (hb:w.heap.size=b) (x y z u:Value) (t:TypeId):∀j v,[x,y,z,u][j]? =some v->(w.alloc (.cells #[x,y,z,u] t)).cell? ((⟨b,0,none⟩:Addr).add j)=some v:=by
 subst hb
 exact Jco w x y z u t
theorem JhF (s0:List UInt8) (hl:s0.length<=900000) (w:World):
  Calls Tryz.prog 154 #[.string (S s0)] w fun e w'=>Jih w.heap.size 39 (XH s0) e w'/\Below w.heap.size w w':=by
 obtain⟨i0,hi,iz0,iz1,iz2⟩:=info_parts JgZ
 have HE0:=Lib.hid (fun h:Z7 s0=none=>JmA h)
 have HE1:=Lib.hid (fun(l:List Upd) (h:Z7 s0=some l)=>Jmz h)
 generalize XH s0=P at*
 go_enter Tryz.func154,Tryz.ntmps154
 go_wp2_with fail
 go_loopw [0,4] (fun s v wr=>∃(t:List UInt8) (acc:List Upd),s=.string (S t)/\t.length+acc.length<=s0.length/\Hid (Z7 s0=(Z7 t).map fun l=>acc++l)/\wr.ownsRow w.heap.size 39 4 v acc.length (cellsU acc)/\Below w.heap.size w wr) (fun s _ _=>match s with| .string x=>x.size|_=>0)
 case atStart=>exact⟨s0,[],rfl,by simp,Lib.hid (by simp),World.ownsRow_nil _ _ _ _,by go_grown⟩
 case round=>
  obtain⟨t,acc,rfl,hlen,hR,hown,hB⟩:=hrel
  obtain⟨av,ac,ea⟩:=Jm hown
  subst ea
  have HO:=Lib.hid hown
  cases t with
  |nil=>
   have HP:=Lib.hid (HE1.out acc (JnW hR.out))
   clear hown hR
   go_wp2_with fail
   refine bodyPost_ret (v:=.tuple #[.slice av acc.length ac,.int .i64 0]) (by simp[results,Tryz.results154,go_sem]) rfl ⟨?_,hB⟩
   rw[HP.out]
   exact⟨av,ac,rfl,HO.out⟩
  |cons b r=>
   have hl0:(S (b::r)).size=r.length+1:=by rw[XI];rfl
   rw[List.length_cons] at hlen
   have hfa:=fun W=>Jm8 (b::r) (by rw[List.length_cons];omega) W
   clear hown
   cases hst:YX (b::r) with
   |none=>
    rw[hst] at hfa
    have HFA:=Lib.hid hfa
    have HP:=Lib.hid (HE0.out (JmC hR.out (by simp) hst))
    clear hfa hst hR
    go_wp2_with fail
    refine(Jl (HFA.out _) wr.heap.size wr (by go_grown) (by go_grown)).mono ?_
    rintro e w1 ⟨⟨x,y,rfl⟩,hX1,-,-,-,hz1⟩
    have hB1:=hB.trans (hX1.mono hB.size)
    have hz2:w.heap.size<=w1.heap.size:=hB1.size
    simp only[Jbh]
    clear hX1
    go_wp2_with fail
    refine bodyPost_ret (v:=.tuple #[.slice none 0 0,.int .i64 4]) (by simp[results,Tryz.results154,go_sem]) rfl ⟨?_,hB1.alloc hz2 _⟩
    rw[HP.out]
    exact Jih.none _ _ _ _ _ rfl
   |some p=>
    obtain⟨u,m⟩:=p
    rw[hst] at hfa
    have HFA:=Lib.hid (fun W=>(hfa W).mono (fun e w' (h:Jdu (some (u,m)) e/\Below W.heap.size W w')=>(⟨h.1,h.2⟩:e=.returned (.tuple #[.agg #[.int .u8 u.kind,.string (S u.key),.string (S u.val),.int .u64 u.delta],.string (S m),.bool true])/\Below W.heap.size W w')))
    have HN:=Lib.hid (JmE hR.out (by simp) hst)
    have hml:=JbR hst
    rw[List.length_cons] at hml
    clear hfa hst hR
    go_wp2_with fail
    refine(Jl (HFA.out _) wr.heap.size wr (by go_grown) (by go_grown)).mono ?_
    rintro e w1 ⟨rfl,hX1,-,-,-,hz1⟩
    have HO1:=Lib.hid (Ji HO.out hX1)
    have hB1:=hB.trans (hX1.mono hB.size)
    have hz:=hB1.size
    clear hX1 HFA
    go_wp2_with (at_builtin;go_must (refine wpList_append_own_at _ rfl _ _ 101 rfl w.heap.size 39 i0 (.agg #[.int .u8 0,.string ByteArray.empty,.string ByteArray.empty,.int .u64 0]) 4 48 Tryz.underlying101 hi iz0 iz1 iz2 rfl (by decide) _ acc.length _ rfl ((HO1.out.alloc _).alloc _) ⟨w1.heap.size+1,0,none⟩ 1 1 [.int .u8 u.kind,.string (S u.key),.string (S u.val),.int .u64 u.delta] rfl rfl (Jgl _ _ (by simp) _ _ _ _ _) (JhT _ _ _ _) (by unfold maxLen;omega) (by omega) (by simp;omega) ?_;intro vz wz hownz hgrowz _ _))
    go_roundw
    (case rel=>exact(⟨m,acc++[u],rfl,by rw[List.length_append,List.length_singleton];omega,HN,by rw[JjN,List.length_append,List.length_singleton];exact hownz,Ju ((hB1.alloc hz _).alloc (by simp;omega) _) hgrowz (fun k e=>(HO1.out.lt k e).1) (by simp;omega)⟩))
    (case measure=>simp[XI];omega)
end Go.Proofs.YtafciefjlkdecaaGreat
namespace Go.Proofs.YtafciefjlkdecaaGreat
open Go.RowKit
theorem Je8 (v:List UInt8) (hv:v.length<=8) (w:World):
  Calls Tryz.prog 84 #[.string (S v)] w fun e w'=>e=.returned (.int .u64 (Y0 v:Nat))/\Below w.heap.size w w':=by
 have hw0:IntKind.i64.wrap ((v.length:Int)-1)=(v.length:Int)-1:=IntWalk.i64_in _ (by omega)
 go_enter Tryz.func84,Tryz.ntmps84
 go_wp2_with fail
 go_loopw [3,4] (fun n i wr=>∃j:Nat,j<=v.length/\i=.int .i64 ((j:Int)-1)/\n=.int .u64 (Y0 (v.drop j):Nat)/\Below w.heap.size w wr) (fun _ i _=>(intOf i+1).toNat)
 case atStart=>exact⟨v.length,Nat.le_refl _,rfl,by rw[List.drop_length];rfl,Below.refl _ _⟩
 case round=>
  obtain⟨j,hj,rfl,rfl,hB⟩:=hrel
  rcases j with _|q
  ·rw[show((0:Nat):Int)-1= -1 from rfl]
   go_wp2_with fail
   go_ret
   exact⟨rfl,hB⟩
  ·rw[show((q+1:Nat):Int)-1=(q:Int) by omega]
   have hq:q<v.length:=by omega
   have hq0:(0:Int)<=(q:Int):=by omega
   have hq1:(q:Int)<(v.length:Int):=by omega
   have hqw:IntKind.i64.wrap ((q:Int)-1)=(q:Int)-1:=IntWalk.i64_in _ (by omega)
   have hd:Y0 (v.drop q)=v[q].toNat+256*Y0 (v.drop (q+1)):=by rw[List.drop_eq_getElem_cons hq];rfl
   have hb:Y0 (v.drop q)<18446744073709551616:=by
    have h1:=JbX (v.drop q)
    rw[List.length_drop] at h1
    have h2:256^(v.length-q)<=256^8:=Nat.pow_le_pow_right (by decide) (by omega)
    have h3:(256:Nat)^8=18446744073709551616:=by decide
    omega
   have Hd:=Lib.hid hd
   have Hb:=Lib.hid hb
   clear hd hb
   go_wp2_with fail
   refine⟨⟨q,by omega,rfl,?_,hB⟩,by simp[intOf]⟩
   rw[Hd.out]
   have h1:=Hd.out
   have h2:=Hb.out
   generalize Y0 (v.drop (q+1))=N at*
   generalize v[q].toNat=b at*
   congr 1
   simp only[IntKind.wrap_u64]
   omega
theorem Jmy (v:List UInt8) (there:Bool) (kd:Nat) (key val:List UInt8) (dl:Nat) (hk:kd<256) (hd:dl<18446744073709551616) (w:World):
  Calls Tryz.prog 49 #[.string (S v),.bool there,.agg #[.int .u8 kd,.string (S key),.string (S val),.int .u64 dl]] w fun e w'=>e=.returned (onV v there ⟨kd,key,val,dl⟩)/\Below w.heap.size w w':=by
 have hkd:(kd:Int)<256:=by omega
 by_cases h1:kd=1
 ·subst h1
  unfold onV
  rw[Xw _ _ _ rfl]
  go_enter Tryz.func49,Tryz.ntmps49
  go_wp2_with fail
  go_ret2
  exact⟨rfl,by go_grown⟩
 by_cases h2:kd=2
 ·subst h2
  unfold onV
  rw[JbV _ _ _ rfl]
  go_enter Tryz.func49,Tryz.ntmps49
  go_wp2_with fail
  go_ret2
  exact⟨rfl,by go_grown⟩
 have g1:¬(kd:Int)=1:=by omega
 have g2:¬(kd:Int)=2:=by omega
 have b1:((kd:Int)==1)=false:=by simpa using g1
 have b2:((kd:Int)==2)=false:=by simpa using g2
 by_cases h3:kd=3
 ·subst h3
  clear b1 b2 g1 g2
  cases there with
  |false=>
   have hdm:dl% 18446744073709551616=dl:=Nat.mod_eq_of_lt hd
   have hput:=fun w=>JlH dl hd 8 (by decide) (by decide) w
   unfold onV
   rw[JaC _ _ rfl]
   simp only[hdm]
   have hg:∀w,Calls Tryz.prog 84 #[.string ⟨#[]⟩] w fun e w'=>e=.returned (.int .u64 0)/\Below w.heap.size w w':=fun w=>Je8 [] (by decide) w
   have hwd:IntKind.u64.wrap (dl:Int)=(dl:Int):=by rw[IntKind.wrap_u64];omega
   clear hdm
   go_enter Tryz.func49,Tryz.ntmps49
   go_wp2_with fail
   refine(Jl (hg _) w.heap.size w (by go_grown) (by go_grown)).mono ?_
   rintro e w1 ⟨rfl,hB1,hk1,-,-,hz1⟩
   have p3:=(hk1 w.heap.size 3 (by simp)).trans (by simp[go_sem];rfl)
   clear hk1 hg
   go_wp2_with fail
   refine(Jl (hput _) w.heap.size w (by go_grown) (by go_grown)).mono ?_
   rintro e w2 ⟨rfl,hB2,-,-,-,-⟩
   go_wp2_with fail
   go_ret2
   exact⟨rfl,hB2⟩
  |true=>
   by_cases h8:v.length=8
   ·have hsum:=Jhu (Y0 v) dl
    unfold onV
    rw[XB _ _ rfl h8]
    have hput:=fun w=>JlH ((Y0 v+dl)% 18446744073709551616) (Jfo _) 8 (by decide) (by decide) w
    have hg:=fun w=>Je8 v (by omega) w
    have h8':(v.length:Int)=8:=by omega
    have h8n:((v.length:Int) !=8)=false:=by simp[h8']
    generalize(Y0 v+dl)% 18446744073709551616=N at*
    generalize Y0 v=M at*
    clear h8'
    go_enter Tryz.func49,Tryz.ntmps49
    go_wp2_with fail
    refine(Jl (hg _) w.heap.size w (by go_grown) (by go_grown)).mono ?_
    rintro e w1 ⟨rfl,hB1,hk1,-,-,hz1⟩
    have p3:=(hk1 w.heap.size 3 (by simp)).trans (by simp[go_sem];rfl)
    clear hk1 hg
    go_wp2_with fail
    refine(Jl (hput _) w.heap.size w (by go_grown) (by go_grown)).mono ?_
    rintro e w2 ⟨rfl,hB2,-,-,-,-⟩
    go_wp2_with fail
    go_ret2
    exact⟨rfl,hB2⟩
   ·unfold onV
    rw[JaX _ _ rfl h8]
    have h8n:((v.length:Int) !=8)=true:=by simp;omega
    go_enter Tryz.func49,Tryz.ntmps49
    go_wp2_with fail
    go_ret2
    exact⟨rfl,by go_grown⟩
 ·have g3:¬(kd:Int)=3:=by omega
  have b3:((kd:Int)==3)=false:=by simpa using g3
  have b3':((kd:Int) !=3)=true:=by simpa using g3
  unfold onV
  rw[JgQ _ _ _ h1 h2 h3]
  cases there with
  |false=>
   go_enter Tryz.func49,Tryz.ntmps49
   go_wp2_with fail
   go_ret2
   exact⟨rfl,by go_grown⟩
  |true=>
   go_enter Tryz.func49,Tryz.ntmps49
   go_wp2_with fail
   go_ret2
   exact⟨rfl,by go_grown⟩
open Go.RowKit
theorem Jc7 (s:List UInt8) (hs:s.length<=1000000) (w:World):Calls Tryz.prog 60 #[.string (S s)] w fun e w'=>e=.returned (Zt s)/\Below w.heap.size w w':=by
 cases s with
 |nil=>
  go_enter Tryz.func60,Tryz.ntmps60
  go_wp2_with fail
  go_ret3
  exact⟨rfl,Below.refl _ _⟩
 |cons b r=>
  have hb:(b.toNat:Int)<256:=by have:=b.toNat_lt;omega
  have hl:(S (b::r)).size=r.length+1:=by rw[XI];rfl
  rw[List.length_cons] at hs
  by_cases h:r.length<b.toNat
  ·have h':(r.length:Int)+1<1+(b.toNat:Int):=by omega
   have hv:Hid (Zt (b::r)=.tuple #[.string ByteArray.empty,.string ByteArray.empty,.bool false]):=Lib.hid (by simp only[Zt,Jr,if_pos h];rfl)
   clear h
   go_enter Tryz.func60,Tryz.ntmps60
   go_wp2_with fail
   go_ret3
   exact⟨Ym (by rw[hv.out];rfl),Below.refl _ _⟩
  ·have h':¬(r.length:Int)+1<1+(b.toNat:Int):=by omega
   have h2:(b.toNat:Int)<=(r.length:Int):=by omega
   have hv:Hid (Zt (b::r)=.tuple #[.string (S (r.take b.toNat)),.string (S (r.drop b.toNat)),.bool true]):=Lib.hid (by simp only[Zt,Jr,if_neg h])
   clear h
   go_enter Tryz.func60,Tryz.ntmps60
   go_wp2_with fail
   go_region
   go_wp2_with fail
   go_ret3
   refine⟨Ym ?_,by go_grown⟩
   rw[hv.out]
   show Value.tuple #[.string (S (List.take (1+b.toNat-1) r)),.string (S (List.take (r.length+1- (1+b.toNat)) (List.drop (1+b.toNat) (b::r)))),.bool true]=_
   rw[Nat.add_sub_cancel_left,Nat.add_comm 1,List.drop_succ_cons,List.take_of_length_le (l:=List.drop b.toNat r) (by rw[List.length_drop];omega)]
open Go.RowKit
attribute [local go_sem ↓] Go.wp_at_zero Go.wp_at_succ
open Go.RowKit
attribute [local go_sem ↓] Go.wp_at_zero Go.wp_at_succ
theorem Jkp {α:Type} {key:α->List UInt8} {l:List α} {j:Nat} (h:¬Je key (l.take j)):¬Je key l:=fun hr=>h (hr.sublist (List.take_sublist j l))
theorem Jko {α:Type} {key:α->List UInt8} (l:List α):Je key (l.take 1):=by
 cases l with
 |nil=>exact List.Pairwise.nil
 |cons a t=>exact List.pairwise_singleton _ _
theorem JiG {α:Type} {key:α->List UInt8} (l:List α) (q:Nat) (hq:q+1<l.length) (h:Je key (l.take (q+1))):Je key (l.take (q+2))↔bl (key (l[q]'(by omega))) (key l[q+1])=true:=by
 rw[show q+2=(q+1)+1 from rfl,List.take_succ_eq_append_getElem hq]
 constructor
 ·intro h2
  have h3:=(List.pairwise_append.1 h2).2.2
  refine h3 (l[q]'(by omega)) ?_ l[q+1] (List.mem_singleton.2 rfl)
  rw[List.mem_take_iff_getElem]
  exact⟨q,by omega,rfl⟩
 ·intro h2
  refine List.pairwise_append.2 ⟨h,by simp,fun a ha b hb=> ?_⟩
  rw[List.mem_singleton] at hb
  subst hb
  obtain⟨i,hi,rfl⟩:=List.mem_take_iff_getElem.1 ha
  by_cases e:i=q
  ·subst e;exact h2
  ·have h4:=Je.lt h (show i<q by omega) (by rw[List.length_take];omega)
   simp only[List.getElem_take] at h4
   exact J4 h4 h2
def Jf9 (B:Nat) (p:List Upd×Nat) (e:Ending) (w':World):Prop:=
 ∃a c,e=.returned (.tuple #[.agg #[.slice a p.1.length c],.int .i64 p.2])/\w'.ownsRow B 39 4 (.slice a p.1.length c) p.1.length (cellsU p.1)
theorem Jf9.none (B:Nat) (n:Nat) (w':World) (e:Ending) (he:e=.returned (.tuple #[.agg #[.slice none 0 0],.int .i64 n])):Jf9 B ([],n) e w':=⟨Option.none,0,he,World.ownsRow_nil _ _ _ _⟩
def ofU (l:List Upd):List Upd×Nat:=if Jah l then(l,0) else([],2)
theorem JlJ {l:List Upd} (h:Je Upd.key l):ofU l=(l,0):=by unfold ofU;rw[if_pos ((ZU l).2 h)]
theorem Jn4 {l:List Upd} (h:¬Je Upd.key l):ofU l=([],2):=by unfold ofU;rw[if_neg (fun k=>h ((ZU l).1 k))]
theorem Jhg (ao:Option Addr) (n c:Nat) (l:List Upd) (w:World) (hn:n=l.length) (hl:l.length<=1000000) (hs:SlU w (.slice ao n c) l):
  Calls Tryz.prog 155 #[.slice ao n c] w fun e w'=>Jf9 w.heap.size (ofU l) e w'/\Below w.heap.size w w':=by
 subst hn
 have HY:=Lib.hid (fun h:Je Upd.key l=>JlJ h)
 have HNO:=Lib.hid (fun h:¬Je Upd.key l=>Jn4 h)
 have HS:=Lib.hid hs
 generalize ofU l=R at*
 obtain⟨ao',c',e',hs0,-⟩:=hs
 simp only[Value.slice.injEq] at e'
 obtain⟨rfl,-,rfl⟩:=e'
 have HS0:=Lib.hid hs0
 clear hs0
 go_enter Tryz.func155,Tryz.ntmps155
 go_wp2_with fail
 go_loopw [4] (fun i wr=>∃q:Nat,i=.int .i64 (q+1:Nat)/\(q+1<=l.length\/q=0)/\Hid (Je Upd.key (l.take (q+1)))/\wr.cell? ⟨w.heap.size,0,none⟩=some (.slice none 0 0)/\wr.frozen? ⟨w.heap.size,0,none⟩=false/\w.heap.size<wr.heap.size/\Below w.heap.size w wr) (fun i _=>l.length- (intOf i).toNat)
 case atStart=>exact⟨0,rfl,Or.inr rfl,Lib.hid (Jko l),by simp,by simp,by simp,by go_grown⟩
 case round=>
  obtain⟨q,rfl,hj,hR,hp,hpf,hsz,hB⟩:=hrel
  have hq0:(0:Int)<=(q:Int):=Int.natCast_nonneg _
  rw[show((q+1:Nat):Int)=(q:Int)+1 from rfl]
  by_cases hjl:q+1<l.length
  ·have hj1:(q:Int)+1<(l.length:Int):=by omega
   have hst:=Lib.hid (JiG l q hjl hR.out)
   have hno:Hid (¬Je Upd.key (l.take (q+2))->R=([],2)):=Lib.hid fun h=>HNO.out (Jkp h)
   obtain⟨b,off,rfl,hb,-,t1,-,-⟩:=JC.cells4 HS0.out (q+1) hjl
   obtain⟨b',off',e',hb',-,t1',-,-⟩:=JC.cells4 HS0.out q (by omega)
   simp only[Option.some.injEq,Addr.mk.injEq] at e'
   obtain⟨rfl,rfl,-⟩:=e'
   have q1:=(Jh hB hb _).trans t1
   have q2:=(Jh hB hb _).trans t1'
   have hq1:(q:Int)<(l.length:Int):=by omega
   have hw1:IntKind.i64.wrap (q:Int)=(q:Int):=IntWalk.i64_in _ (by omega)
   have hw2:IntKind.i64.wrap ((q:Int)+1-1)=(q:Int):=by rw[show(q:Int)+1-1=(q:Int) by omega];exact hw1
   clear t1 t1'
   cases hlt:bl l[q].key l[q+1].key with
   |true=>
    have hR2:=Lib.hid (hst.out.2 hlt)
    clear hst hno
    have hlt':Op.bytesLess l[q].key l[q+1].key=true:=hlt
    clear hlt
    generalize l[q+1]=u at*
    generalize l[q]=u' at*
    go_wp2_with fail
    go_quiet (fail)
    go_wp2_with fail
    have hBn:Below wr.heap.size wr (wr.drewN nq):=JS (Below.refl _ _) _
    exact⟨⟨q+1,by go_num,Or.inl (by omega),hR2,hp,hpf,hsz,hB.trans (hBn.mono (by omega))⟩,by simp[intOf];omega⟩
   |false=>
    have hbf:=Lib.hid (hno.out (fun h=>by have h2:=hst.out.1 h;rw[hlt] at h2;exact absurd h2 (by simp)))
    clear hst hno
    have hlt':Op.bytesLess l[q].key l[q+1].key=false:=hlt
    clear hlt
    generalize l[q+1]=u at*
    generalize l[q]=u' at*
    go_wp2_with fail
    go_quiet (fail)
    go_wp2_with fail
    have hBn:Below w.heap.size w (wr.drewN nq):=JS hB _
    refine bodyPost_ret (v:=.tuple #[.agg #[.slice none 0 0],.int .i64 2]) (by simp[results,Tryz.results155,go_sem,hp]) rfl ⟨?_,?_⟩
    ·rw[hbf.out]
     exact Jf9.none _ _ _ _ rfl
    ·exact hBn.setCell (p:=⟨w.heap.size,0,none⟩) (Nat.le_refl _) _
  ·have hjn:¬(q:Int)+1<(l.length:Int):=by omega
   have hbt:=Lib.hid (HY.out (by have h:=hR.out;rwa[List.take_of_length_le (by omega)] at h))
   have HS2:=Lib.hid (HS.out.kept hB (Nat.le_refl _))
   go_wp2_with fail
   refine(Jl (JbJ _ l wr HS2.out hl) wr.heap.size wr (Below.refl _ _) (Nat.le_refl _)).mono ?_
   rintro e w1 ⟨⟨v1,rfl,hown1⟩,hX1,hk1,hf1,-,hz1⟩
   obtain⟨a1,c1,e1⟩:=Jm hown1
   subst e1
   have p1:=(hk1 w.heap.size 0 hsz).trans hp
   have pf1:=(hf1 w.heap.size 0 hsz).trans hpf
   have hB1:=hB.trans (hX1.mono (by omega))
   have HO1:=Lib.hid hown1
   clear hk1 hf1 hX1 hp hpf hown1
   go_wp2_with fail
   refine bodyPost_ret (v:=.tuple #[.agg #[.slice a1 l.length c1],.int .i64 0]) (by simp[results,Tryz.results155,go_sem,p1]) rfl ⟨?_,?_⟩
   ·rw[hbt.out]
    exact⟨a1,c1,rfl,JI (ownsRow_setCell_other (a:=⟨w.heap.size,0,none⟩) HO1.out (fun e=>by have h2:wr.heap.size<=w.heap.size:=(HO1.out.lt _ e).1;omega) _) (by omega)⟩
   ·exact hB1.setCell (p:=⟨w.heap.size,0,none⟩) (Nat.le_refl _) _
open Go.RowKit
attribute [local go_sem ↓] Go.wp_at_zero Go.wp_at_succ
theorem JkE {s:List UInt8} (h:(XH s).2=4):Zc s=([],4):=by rw[JbU,if_neg (by omega),h]
theorem JiW {s:List UInt8} (h:(XH s).2=0) (k:Jah (XH s).1=false):Zc s=([],4):=by rw[JbU,if_pos h,if_neg (by simp[k])]
theorem JiY {s:List UInt8} (h:(XH s).2=0) (k:Jah (XH s).1=true):Zc s=((XH s).1,0):=by rw[JbU,if_pos h,if_pos k]
abbrev Jd2:Obj:=.cells #[.slice none 0 0] 103
theorem Jic (s0:List UInt8) (hl:s0.length<=900000) (w:World):
  Calls Tryz.prog 116 #[.string (S s0)] w fun e w'=>Jf9 w.heap.size (Zc s0) e w'/\Below w.heap.size w w':=by
 have hrp:=fun W=>JhF s0 hl W
 have h2:=JnU s0
 have hal:=JiL s0
 have hb:=Lib.hid (@JkE s0)
 have hw:=Lib.hid (@JiW s0)
 have hg:=Lib.hid (@JiY s0)
 generalize XH s0=Q at*
 generalize Zc s0=P at*
 obtain⟨L,n⟩:=Q
 dsimp only at h2 hal
 have HRP:=Lib.hid hrp
 have hL:L.length<=900000:=by omega
 clear hrp hal
 rcases h2 with rfl|⟨rfl,rfl⟩
 ·have hof:=Lib.hid (JlJ (l:=L))
  have hon:=Lib.hid (Jn4 (l:=L))
  cases hr:Jah L with
  |true=>
   have HP:=Lib.hid (hg.out rfl hr)
   have HF:=Lib.hid (hof.out ((ZU L).1 hr))
   clear hb hw hg hr hof hon
   go_enter Tryz.func116,Tryz.ntmps116
   go_wp2_with fail
   refine(Jl (HRP.out _) (w.heap.size+1) (w.alloc Jd2) (Below.refl _ _) (by simp)).mono ?_
   rintro e w1 ⟨⟨a1,c1,rfl,ho1⟩,hB1,-,-,-,hz1⟩
   dsimp only at ho1
   have hof1:=Jhg a1 L.length c1 L w1 rfl (by omega) (SlU.of_own ho1).2
   rw[HF.out] at hof1
   have HOF:=Lib.hid hof1
   clear ho1 hof1 HRP
   have hz0:w.heap.size<w1.heap.size:=by omega
   go_wp2_with fail
   refine(Jl HOF.out w1.heap.size w1 (Below.refl _ _) (Nat.le_refl _)).mono ?_
   rintro e w2 ⟨⟨a2,c2,rfl,ho2⟩,hX2,-,-,-,hz2⟩
   dsimp only at ho2
   have hB2:=hB1.trans (hX2.mono hz1)
   have p2:w2.cell? ⟨w.heap.size,0,none⟩=some (.slice none 0 0):=(hB2.cell (p:=⟨w.heap.size,0,none⟩) (Nat.lt_succ_self _)).trans (by simp)
   have pf2:w2.frozen? ⟨w.heap.size,0,none⟩=false:=(hB2.frozen (p:=⟨w.heap.size,0,none⟩) (Nat.lt_succ_self _)).trans (by simp)
   have HO2:=Lib.hid ho2
   have HB2:=Lib.hid ((Below.alloc (Below.refl _ w) (Nat.le_refl _) Jd2).trans (hB2.mono (Nat.le_succ _)))
   have hlt2:w.heap.size<w2.heap.size:=by omega
   clear ho2 hB1 hB2 hX2 HOF
   go_wp2_with fail
   have pz:=Jf (.cells #[.slice a2 L.length c2] 103) (show(w2.setCell ⟨w.heap.size,0,none⟩ (.slice a2 L.length c2)).cell? ⟨w.heap.size,0,none⟩=some (.slice a2 L.length c2) from World.cell?_setCell_same w2 _ _ p2)
   refine bodyPost_ret (v:=.tuple #[.agg #[.slice a2 L.length c2],.int .i64 0]) (by simp[results,Tryz.results116,go_sem,pz]) rfl ⟨?_,?_⟩
   ·rw[HP.out]
    exact⟨a2,c2,rfl,JI ((ownsRow_setCell_other (a:=⟨w.heap.size,0,none⟩) HO2.out (fun e=>by have h:w1.heap.size<=w.heap.size:=(HO2.out.lt _ e).1;omega) _).alloc _) (by omega)⟩
   ·exact((HB2.out).setCell (p:=⟨w.heap.size,0,none⟩) (Nat.le_refl _) _).alloc (by rw[World.size_setCell];omega) _
  |false=>
   have HP:=Lib.hid (hw.out rfl hr)
   have HF:=Lib.hid (hon.out (fun h=>by rw[(ZU L).2 h] at hr;exact absurd hr (by simp)))
   clear hb hw hg hr hof hon
   go_enter Tryz.func116,Tryz.ntmps116
   go_wp2_with fail
   refine(Jl (HRP.out _) (w.heap.size+1) (w.alloc Jd2) (Below.refl _ _) (by simp)).mono ?_
   rintro e w1 ⟨⟨a1,c1,rfl,ho1⟩,hB1,-,-,-,hz1⟩
   dsimp only at ho1
   have hof1:=Jhg a1 L.length c1 L w1 rfl (by omega) (SlU.of_own ho1).2
   rw[HF.out] at hof1
   have HOF:=Lib.hid hof1
   clear ho1 hof1 HRP
   have hz0:w.heap.size<w1.heap.size:=by omega
   go_wp2_with fail
   refine(Jl HOF.out w1.heap.size w1 (Below.refl _ _) (Nat.le_refl _)).mono ?_
   rintro e w2 ⟨⟨a2,c2,rfl,ho2⟩,hX2,-,-,-,hz2⟩
   have hB2:=hB1.trans (hX2.mono hz1)
   have p2:w2.cell? ⟨w.heap.size,0,none⟩=some (.slice none 0 0):=(hB2.cell (p:=⟨w.heap.size,0,none⟩) (Nat.lt_succ_self _)).trans (by simp)
   have pf2:w2.frozen? ⟨w.heap.size,0,none⟩=false:=(hB2.frozen (p:=⟨w.heap.size,0,none⟩) (Nat.lt_succ_self _)).trans (by simp)
   have HB2:=Lib.hid ((Below.alloc (Below.refl _ w) (Nat.le_refl _) Jd2).trans (hB2.mono (Nat.le_succ _)))
   have hlt2:w.heap.size<w2.heap.size:=by omega
   clear ho2 hB1 hB2 hX2 HOF
   go_wp2_with fail
   have pz:=fun o=>Jf o (show(w2.setCell ⟨w.heap.size,0,none⟩ (.slice none 0 0)).cell? ⟨w.heap.size,0,none⟩=some (.slice none 0 0) from World.cell?_setCell_same w2 _ _ p2)
   refine bodyPost_ret (v:=.tuple #[.agg #[.slice none 0 0],.int .i64 4]) (by simp[results,Tryz.results116,go_sem,pz]) rfl ⟨?_,?_⟩
   ·rw[HP.out]
    exact Jf9.none _ _ _ _ rfl
   ·exact((HB2.out).setCell (p:=⟨w.heap.size,0,none⟩) (Nat.le_refl _) _).alloc (by rw[World.size_setCell];omega) _
 ·have HP:=Lib.hid (hb.out rfl)
  clear hb hw hg
  go_enter Tryz.func116,Tryz.ntmps116
  go_wp2_with fail
  refine(Jl (HRP.out _) (w.heap.size+1) (w.alloc Jd2) (Below.refl _ _) (by simp)).mono ?_
  rintro e w1 ⟨⟨a1,c1,rfl,ho1⟩,hB1,-,-,-,hz1⟩
  have p2:w1.cell? ⟨w.heap.size,0,none⟩=some (.slice none 0 0):=(hB1.cell (p:=⟨w.heap.size,0,none⟩) (Nat.lt_succ_self _)).trans (by simp)
  have pf2:w1.frozen? ⟨w.heap.size,0,none⟩=false:=(hB1.frozen (p:=⟨w.heap.size,0,none⟩) (Nat.lt_succ_self _)).trans (by simp)
  have HB2:=Lib.hid ((Below.alloc (Below.refl _ w) (Nat.le_refl _) Jd2).trans (hB1.mono (Nat.le_succ _)))
  clear ho1 hB1 HRP
  go_wp2_with fail
  refine bodyPost_ret (v:=.tuple #[.agg #[.slice none 0 0],.int .i64 4]) (by simp[results,Tryz.results116,go_sem,p2]) rfl ⟨?_,?_⟩
  ·rw[HP.out]
   exact Jf9.none _ _ _ _ rfl
  ·exact(HB2.out).setCell (p:=⟨w.heap.size,0,none⟩) (Nat.le_refl _) _
end Go.Proofs.YtafciefjlkdecaaGreat
namespace Go.Proofs.YtafciefjlkdecaaGreat
open Go.RowKit
theorem JhW (u:Ent) (k:List UInt8) (w:World):
  Calls Tryz.prog 119 #[.agg #[.string (S u.key),.string (S u.val)],.string (S k)] w fun e w'=>e=.returned (.int .i64 (JbI u.key k))/\Below w.heap.size w w':=by
 go_enter Tryz.func119,Tryz.ntmps119
 go_wp2_with (go_at_call 120;refine(Jep _ _ _).mono ?_;rintro e w' ⟨rfl,rfl⟩)
 go_ret
 exact⟨rfl,by go_grown⟩
theorem Jpp (ao:Option Addr) (c:Nat) (l:List Ent) (k:List UInt8) (w:World) (hs:JC Ent.cells 2 w ao l) (hl:l.length<=1000000) (hr:Je Ent.key l):
  Calls Tryz.prog 118 #[.slice ao l.length c,.string (S k),.func (.func 119) #[] #[]] w fun e w'=>e=.returned (.tuple #[.int .i64 (below Ent.key l k:Nat),.bool (JE Ent.key l k)])/\Below w.heap.size w w':=by
 have hbl:=Xe (key:=Ent.key) l k
 go_enter Tryz.func118,Tryz.ntmps118
 go_wp2_with fail
 go_loopw [9,10] (fun i j wr=>∃a b:Nat,i=.int .i64 a/\j=.int .i64 b/\a<=below Ent.key l k/\below Ent.key l k<=b/\b<=l.length/\Below w.heap.size w wr) (fun i j _=>(intOf j).toNat- (intOf i).toNat)
 case atStart=>exact⟨0,l.length,rfl,rfl,Nat.zero_le _,hbl,Nat.le_refl _,Below.refl _ _⟩
 case round=>
  obtain⟨a,b,rfl,rfl,ha,hb,hbn,hB⟩:=hrel
  have hB0:=hB.size
  by_cases hab:a<b
  ·have hab':(a:Int)<(b:Int):=by omega
   have hh:(a+b)/2<l.length:=by omega
   obtain⟨bk,off,rfl,hbk,hcs⟩:=(hs.kept hB (Nat.le_refl _)).at (by omega)
   obtain⟨c0,c1⟩:=JfJ hcs ((a+b)/2) hh
   have hR:=hr.below k ((a+b)/2) hh
   clear hcs
   generalize l[(a+b)/2]=u at*
   have hi0:(0:Int)<=((a:Int)+(b:Int))/2:=by omega
   have hi1:((a:Int)+(b:Int))/2<(l.length:Int):=by omega
   cases hq:bl u.key k with
   |true=>
    have hz:=Jh7 hq
    have hlt:(a+b)/2<below Ent.key l k:=hR.1 hq
    clear hR hq
    go_wp2_with (go_at_call 119;refine(Jl (JhW u k _) w.heap.size w (by go_grown) (by go_grown)).mono ?_;rw[hz];rintro e w1 ⟨rfl,hB1,-,-,hs1,hz1⟩)
    go_roundw
    case rel=>exact⟨(a+b)/2+1,b,by go_num,rfl,by omega,hb,hbn,hB1⟩
    case measure=>simp[intOf];omega
   |false=>
    have hz:=JlZ hq
    have hge:below Ent.key l k<=(a+b)/2:=by
     have:=mt hR.2 (by rw[hq];simp)
     omega
    clear hR hq
    have hzz:∃z,Hid (JbI u.key k=z)/\¬z<0:=⟨_,Lib.hid rfl,by omega⟩
    obtain⟨z,hzz,hz0⟩:=hzz
    clear hz
    go_wp2_with (go_at_call 119;refine(Jl (JhW u k _) w.heap.size w (by go_grown) (by go_grown)).mono ?_;rw[hzz.out];rintro e w1 ⟨rfl,hB1,-,-,hs1,hz1⟩)
    go_roundw
    case rel=>exact⟨a,(a+b)/2,rfl,by go_num,ha,hge,by omega,hB1⟩
    case measure=>simp[intOf];omega
  ·have hab':¬(a:Int)<(b:Int):=by omega
   obtain rfl:a=below Ent.key l k:=by omega
   have hf:=hr.found k
   by_cases hin:below Ent.key l k<l.length
   ·obtain⟨bk,off,rfl,hbk,hcs⟩:=(hs.kept hB (Nat.le_refl _)).at (by omega)
    obtain⟨c0,c1⟩:=JfJ hcs _ hin
    clear hcs hr hs
    have hin':((below Ent.key l k:Nat):Int)<(l.length:Int):=by omega
    have hin0:(0:Int)<=((below Ent.key l k:Nat):Int):=by omega
    generalize hu:l[below Ent.key l k]=u at*
    by_cases he:u.key=k
    ·have hk:Hid (JE Ent.key l k=true):=Lib.hid (hf.2 ⟨hin,by rw[hu];exact he⟩)
     have hz:=Jb6.2 he
     clear hf hu he
     generalize hidx:below Ent.key l k=i at*
     have hidx':=Lib.hid hidx
     clear hidx
     go_wp2_with (go_at_call 119;refine(Jl (JhW u k _) w.heap.size w (by go_grown) (by go_grown)).mono ?_;rw[hz];rintro e w1 ⟨rfl,hB1,-,-,hs1,hz1⟩)
     go_ret2
     exact⟨Ym (by rw[hidx'.out,hk.out];rfl),hB1⟩
    ·have hk:Hid (JE Ent.key l k=false):=Lib.hid (by
      rw[<-Bool.not_eq_true,hf]
      rintro⟨h1,h2⟩
      exact he (by rw[<-hu];exact h2))
     have hz:(JbI u.key k==0)=false:=by rw[beq_eq_false_iff_ne];exact mt Jb6.1 he
     clear hf hu he
     generalize hidx:below Ent.key l k=i at*
     have hidx':=Lib.hid hidx
     clear hidx
     go_wp2_with (go_at_call 119;refine(Jl (JhW u k _) w.heap.size w (by go_grown) (by go_grown)).mono ?_;rintro e w1 ⟨rfl,hB1,-,-,hs1,hz1⟩)
     go_ret2
     exact⟨Ym (by rw[hidx'.out,hk.out];rfl),hB1⟩
   ·have hk:Hid (JE Ent.key l k=false):=Lib.hid (by
     rw[<-Bool.not_eq_true,hf]
     rintro⟨h1,h2⟩
     exact hin h1)
    have hin':¬((below Ent.key l k:Nat):Int)<(l.length:Int):=by omega
    clear hf hr hs
    generalize hidx:below Ent.key l k=i at*
    have hidx':=Lib.hid hidx
    clear hidx
    go_wp2_with fail
    go_ret2
    exact⟨Ym (by rw[hidx'.out,hk.out];rfl),hB⟩
open Go.RowKit
theorem Jjo:(Tryz.prog.info? 73).map (fun i=>(i.zero,i.size,i.bytes))=some (some (.agg #[.string ByteArray.empty,.string ByteArray.empty]),2,32):=by kernel_rfl
def cellsE (l:List Ent):List Value:=l.flatMap Ent.cells
theorem J2:∀l:List Ent,(cellsE l).length=l.length*2
 |[]=>rfl
 |u::l=>by
  have:=J2 l
  simp only[cellsE,List.flatMap_cons,List.length_append,List.length_cons] at*
  rw[this]
  simp[Ent.cells];omega
theorem JF (a b:List Ent):cellsE (a++b)=cellsE a++cellsE b:=by simp[cellsE]
theorem Yt (u:Ent):cellsE [u]=Ent.cells u:=by simp[cellsE]
theorem YQ (l:List Ent):∀v∈cellsE l,v.oneCell'=true:=by
 intro v hv
 simp only[cellsE,List.mem_flatMap] at hv
 obtain⟨u,-,hv⟩:=hv
 simp only[Ent.cells,List.mem_cons,List.not_mem_nil,or_false] at hv
 rcases hv with rfl|rfl<;>rfl
theorem ZR:∀(l:List Ent) (i:Nat) (hi:i<l.length) (j:Nat) (x:Value),(Ent.cells l[i])[j]? =some x->(cellsE l)[i*2+j]? =some x
 |[],i,hi,_,_,_=>by simp at hi
 |u::l,0,_,j,x,hx=>by
  have hj:j<(Ent.cells u).length:=(List.getElem?_eq_some_iff.1 hx).1
  simp only[cellsE,List.flatMap_cons,Nat.zero_mul,Nat.zero_add]
  rw[List.getElem?_append_left hj];exact hx
 |u::l,i+1,hi,j,x,hx=>by
  have:=ZR l i (by simpa using hi) j x (by simpa using hx)
  have hu:(Ent.cells u).length=2:=rfl
  simp only[cellsE,List.flatMap_cons] at*
  rw[List.getElem?_append_right (by rw[hu];omega),hu,show(i+1)*2+j-2=i*2+j by omega]
  exact this
theorem JjR (l:List Ent) (n:Nat):(cellsE l).take (n*2)=cellsE (l.take n):=by
 by_cases h:n<=l.length
 ·conv=>lhs;rw[<-List.take_append_drop n l,JF]
  rw[List.take_append_of_le_length (by rw[J2,List.length_take];omega),List.take_of_length_le (by rw[J2,List.length_take];omega)]
 ·rw[List.take_of_length_le (by rw[J2];omega),List.take_of_length_le (by omega)]
theorem JjS (l:List Ent) (n:Nat):(cellsE l).drop (n*2)=cellsE (l.drop n):=by
 by_cases h:n<=l.length
 ·conv=>lhs;rw[<-List.take_append_drop n l,JF]
  rw[List.drop_append,List.drop_of_length_le (by rw[J2,List.length_take];omega),J2,List.length_take]
  simp[Nat.min_eq_left h]
 ·rw[List.drop_of_length_le (by rw[J2];omega),List.drop_of_length_le (by omega)];rfl
structure SlE (w:World) (v:Value) (l:List Ent):Prop where
 form:∃ao c,v=.slice ao l.length c/\JC Ent.cells 2 w ao l/\l.length<=c/\(c:Int)<=9223372036854775807/\(ao=none->c=0)
theorem SlE.nil (w:World):SlE w (.slice none 0 0) []:=⟨none,0,rfl,Or.inl rfl,Nat.le_refl _,by omega,fun _=>rfl⟩
theorem SlE.kept {w w':World} {v:Value} {l:List Ent} {B:Nat} (h:SlE w v l) (hb:Below B w w') (hB:w.heap.size<=B):SlE w' v l:=by
 obtain⟨ao,c,rfl,h1,h2⟩:=h
 exact⟨ao,c,rfl,h1.kept hb hB,h2⟩
theorem JC.cellsE {w:World} {b off:Nat} {l:List Ent} (h:∀(i:Nat) (hi:i<l.length) (j:Nat) (x:Value),(Ent.cells l[i])[j]? =some x->w.cell? ⟨b,off+i*2+j,none⟩=some x):
  ∀j x,(cellsE l)[j]? =some x->w.cell? ⟨b,off+j,none⟩=some x:=by
 intro j x hx
 have hj:=(List.getElem?_eq_some_iff.1 hx).1
 rw[J2] at hj
 have hi:j/2<l.length:=by omega
 have hr:j% 2<(Ent.cells l[j/2]).length:=Nat.mod_lt _ (by decide)
 have e:=ZR l (j/2) hi (j% 2) _ (List.getElem?_eq_getElem hr)
 rw[show j/2*2+j% 2=j by omega] at e
 rw[hx] at e
 have:=h (j/2) hi (j% 2) x (by rw[List.getElem?_eq_getElem hr,<-e])
 rw[show off+j/2*2+j% 2=off+j by omega] at this
 exact this
theorem SlE.of_own {w:World} {B n:Nat} {v:Value} {l:List Ent} (h:w.ownsRow B 73 2 v n (cellsE l)):l.length=n/\SlE w v l:=by
 have hn:l.length=n:=by have:=h.1;rw[J2] at this;omega
 refine⟨hn,?_⟩
 subst hn
 rcases Jv h with⟨rfl,h0,-⟩|⟨g,cap,cur,rfl,-,hr,h3,h4,h5,h6⟩
 ·obtain rfl:=List.eq_nil_of_length_eq_zero h0
  exact SlE.nil w
 ·refine⟨_,cap,rfl,Or.inr ⟨g,0,rfl,hr.lt,fun i hi j x hx=> ?_⟩,h3,by unfold maxLen at h4;omega,fun e=>by simp at e⟩
  have hj:j<2:=(List.getElem?_eq_some_iff.1 hx).1
  have e:=ZR l i hi j x hx
  rw[hr.cell,Nat.zero_add,<-e,<-h6,List.getElem?_take,if_pos (by omega)]
theorem Jh8 (v:Value) (l:List Ent) (w:World) (h:SlE w v l) (hl:l.length<=1000000):
  Calls Tryz.prog 127 #[v] w fun e w'=>(∃v',e=.returned v'/\w'.ownsRow w.heap.size 73 2 v' l.length (cellsE l))/\Below w.heap.size w w':=by
 obtain⟨ao,c,rfl,hs,hc1,hc2,hn⟩:=h
 have hnil:=fun(w:World) a n c n' c'=>Lib.run_eql_slice_nil (P:=Tryz.prog) w 43 73 a n c n' c' Tryz.underlying43
 obtain⟨i0,hi,hz0,hz1,hz2⟩:=info_parts Jjo
 cases ao with
 |none=>
  obtain rfl:=hn rfl
  obtain rfl:l=[]:=List.eq_nil_of_length_eq_zero (by omega)
  go_enter Tryz.func127,Tryz.ntmps127
  go_wp2_with fail
  go_ret
  exact⟨⟨_,rfl,World.ownsRow_nil _ _ _ _⟩,Below.refl _ _⟩
 |some a=>
  have hown:=World.ownsRow_made (e:=73) (size:=2) (base:=w.heap.size) w #[] 0 (Nat.le_refl _) (by unfold maxLen;omega) rfl
  have hnews:∀j u,(cellsE l)[j]? =some u->(w.alloc (.cells #[] 73)).cell? (a.add j)=some u:=by
   intro j u hu
   have hj:=(List.getElem?_eq_some_iff.1 hu).1
   rw[J2] at hj
   obtain⟨b,off,e,hb,hc⟩:=hs.at (by omega)
   obtain rfl:a=⟨b,off,none⟩:=by simpa using e
   rw[show(⟨b,off,none⟩:Addr).add j=⟨b,off+j,none⟩ by simp[Addr.add]]
   exact Jf _ (JC.cellsE hc j u hu)
  have hcl:=J2 l
  clear hs
  go_enter Tryz.func127,Tryz.ntmps127
  go_wp2_with (at_builtin;refine wpList_append_own_at _ rfl _ _ 43 rfl w.heap.size 73 i0 (.agg #[.string ByteArray.empty,.string ByteArray.empty]) 2 32 Tryz.underlying43 hi hz0 hz1 hz2 rfl (by decide) _ 0 [] rfl hown a l.length c (cellsE l) rfl hcl hnews (YQ l) (by unfold maxLen;omega) (by omega) (by simp) ?_;intro v' w1 hown' hgrow hnil' hat)
  go_ret
  rw[Nat.zero_add,List.nil_append] at hown'
  exact⟨⟨_,rfl,hown'⟩,Zp hgrow fun k e=>Nat.le_of_eq (Option.some.inj e)⟩
open Go.RowKit
structure Zq (w:World) (v:Value) (l:List Ent):Prop where
 form:∃s,v=.agg #[s]/\SlE w s l
theorem Zq.kept {w w':World} {v:Value} {l:List Ent} {B:Nat} (h:Zq w v l) (hb:Below B w w') (hB:w.heap.size<=B):Zq w' v l:=by
 obtain⟨s,rfl,hs⟩:=h
 exact⟨s,rfl,hs.kept hb hB⟩
theorem Zq.of_own {w:World} {B n:Nat} {v:Value} {l:List Ent} (h:w.ownsRow B 73 2 v n (cellsE l)):Zq w (.agg #[v]) l:=⟨v,rfl,(SlE.of_own h).2⟩
theorem Jn8 (v:Value) (l:List Ent) (w:World) (h:Zq w v l) (hl:l.length<=1000000):
  Calls Tryz.prog 92 #[v] w fun e w'=>(∃v',e=.returned v'/\w'.ownsRow w.heap.size 73 2 v' l.length (cellsE l))/\Below w.heap.size w w':=by
 obtain⟨s,rfl,h2⟩:=h
 have hcl:=fun w=>Jh8 s l w
 obtain⟨ao,c,rfl,hs,hc1,hc2,hn⟩:=h2
 have hS:SlE w (.slice ao l.length c) l:=⟨ao,c,rfl,hs,hc1,hc2,hn⟩
 have H:=Lib.hid hcl
 have HS:=Lib.hid hS
 clear hcl hS hn
 go_enter Tryz.func92,Tryz.ntmps92
 go_wp2_with (go_at_call 127;refine(Jl (H.out _ (HS.out.kept (by go_grown) (Nat.le_refl _)) hl) w.heap.size w (by go_grown) (by go_grown)).mono ?_;rintro e w1 ⟨⟨v',rfl,hown⟩,hB,-,-,hs1,hz1⟩)
 go_ret
 exact⟨⟨_,rfl,JI hown (by simp)⟩,hB⟩
theorem Jg5 (v:Value) (l:List Ent) (k:List UInt8) (w:World) (h:Zq w v l) (hl:l.length<=1000000) (hr:Je Ent.key l):
  Calls Tryz.prog 88 #[v,.string (S k)] w fun e w'=>e=.returned (.tuple #[.int .i64 (below Ent.key l k:Nat),.bool (JE Ent.key l k)])/\Below w.heap.size w w':=by
 obtain⟨s,rfl,ao,c,rfl,hs,hc1,hc2,hn⟩:=h
 go_enter Tryz.func88,Tryz.ntmps88
 go_wp2_with (go_at_call 118;refine(Jl (Jpp ao c l k _ (hs.kept (by go_grown) (Nat.le_refl _)) hl hr) w.heap.size w (by go_grown) (by go_grown)).mono ?_;rintro e w1 ⟨rfl,hB,-,-,hs1,hz1⟩)
 go_ret2
 exact⟨rfl,hB⟩
open Go.RowKit
theorem JlB:(Tryz.prog.info? 73).map (·.size)=some 2:=by kernel_rfl
def Jbj (l:List Ent) (i:Nat) (x:Ent):List Ent:=l.take i++x::l.drop i
theorem JpI (B:Nat) (v:Value) (l:List Ent) (x:Ent) (vb:Nat) (w:World) (hown:w.ownsRow B 73 2 v l.length (cellsE l)) (hB:B<=w.heap.size) (hl:l.length<=1000000)
  (hx:Jc w 73 vb (Ent.cells x)):
  Calls Tryz.prog 128 #[v,.int .i64 l.length,.slice (some ⟨vb,0,none⟩) 1 1] w fun e w'=>(∃v',e=.returned v'/\w'.ownsRow B 73 2 v' (l.length+1) (cellsE (l++[x]))/\w.grownBy w' v.ownBlock/\(v'.ownBlock=v.ownBlock\/v'.ownBlock=some w.heap.size)):=by
 obtain⟨i0,hi,hz0,hz1,hz2⟩:=info_parts Jjo
 obtain⟨ao,c,rfl,hlc⟩:∃ao c,v=.slice ao l.length c/\l.length<=c:=by
  rcases Jv hown with⟨rfl,h0,-⟩|⟨g,cap,cur,rfl,-,-,h3,-⟩
  ·exact⟨none,0,by rw[h0],by omega⟩
  ·exact⟨_,_,rfl,h3⟩
 obtain⟨X,hX⟩:∃X,∀w,(Instr.slice 43 (.slice ao l.length c) (some (.int .i64 (l.length:Int))) none none).run Tryz.prog w=.ok X w:=
  ⟨_,fun w=>by rw[run_slice_l w 43 ao l.length c (by exact Tryz.underlying43) .i64 l.length (by omega) (by omega)];rfl⟩
 have hl0:((1:Int)==0)=false:=rfl
 go_enter Tryz.func128,Tryz.ntmps128
 go_wp2_with (at_builtin;refine wpList_append_own_at _ rfl _ _ 43 rfl B 73 i0 (.agg #[.string ByteArray.empty,.string ByteArray.empty]) 2 32 Tryz.underlying43 hi hz0 hz1 hz2 rfl (by decide) _ l.length _ rfl hown ⟨vb,0,none⟩ 1 1 (Ent.cells x) rfl rfl (hx.cells 0 _ fun j v hv=>by rw[Nat.zero_add];exact hv) (by rw[<-Yt];exact YQ _) (by unfold maxLen;omega) (by omega) hB ?_;intro v' w1 hown' hgrow hnil' hat)
 go_ret
 exact⟨_,rfl,by rw[JF,Yt];exact hown',hgrow,hat⟩
theorem JpG {cur zs:List Value} {i G k:Nat} (h:i*k<=cur.length) (hz:zs.length=(G-i)*k) (hi:i<=G):(cur.take (i*k)++zs).length=G*k:=by
 rw[List.length_append,List.length_take,hz,Nat.sub_mul]
 have:=Nat.mul_le_mul_right k hi
 omega
theorem Jof (B g cap:Nat) (cur:List Value) (l:List Ent) (i:Nat) (x:Ent) (vb:Nat) (w:World) (hrow:Jc w 73 g cur) (hcur:cur=cellsE l) (hil:i<l.length) (hcl:cap=l.length) (hB:B<=w.heap.size) (hl:l.length<=1000000)
  (hx:Jc w 73 vb (Ent.cells x)):
  Calls Tryz.prog 128 #[.slice (some ⟨g,0,none⟩) l.length cap,.int .i64 i,.slice (some ⟨vb,0,none⟩) 1 1] w fun e w'=>(∃v',e=.returned v'/\w'.ownsRow B 73 2 v' (l.length+1) (cellsE (Jbj l i x))/\w.grownBy w' none/\v'.ownBlock=some w.heap.size):=by
 obtain⟨i0,hi,hz0,hz1,hz2⟩:=info_parts Jjo
 have hcurl:cur.length=l.length*2:=by rw[hcur,J2]
 have hg:=hrow.lt
 have hv:=hx.lt
 have hne:((i:Int)==(l.length:Int))=false:=by rw[beq_eq_false_iff_ne];omega
 have hi1:(i:Int)<(l.length:Int):=by omega
 have hi0:(0:Int)<=(i:Int):=by omega
 have hci:¬cap=i:=by omega
 have hc1:(cap:Int)<(l.length:Int)+1:=by omega
 have hc2:(l.length:Int)<=(cap:Int):=by omega
 have hk:(l.length:Int)+1- (i:Int)=((l.length+1-i:Nat):Int):=by omega
 have hkk:=Lib.hid hk
 have hxl:(Ent.cells x).length=2:=rfl
 have hcur':=Lib.hid hcur
 have hcl':=Lib.hid hcl
 clear hk hcur hcl
 go_enter Tryz.func128,Tryz.ntmps128
 go_wp2_with (first|(at_builtin;refine XL _ rfl _ _ 43 3 rfl 73 i0 (.agg #[.string ByteArray.empty,.string ByteArray.empty]) 2 32 Tryz.underlying43 Tryz.underlying3 hi hz0 hz1 hz2 rfl (by decide) (by decide) g i cap cur hrow rfl (l.length+1-i) (by rw[<-hkk.out];rfl) (by omega) (by omega) (by rw[hcl'.out];omega) (l.length+1) (by omega) (by omega) ?_;intro w1 G zs hr1 hzs hG hGm hg1;have tokG:True:=trivial;unfold maxLen at hGm;have hGi:¬G=i:=(by omega);have hGi1:¬G=i+1:=(by omega);have hx1:=hx.kept hg1 (by simp);have hrow1:=hrow.kept hg1 (by simp);have hzl:=Lib.hid hzs;clear hzs;have hrl':=Lib.hid (JpG (cur:=cur) (k:=2) (by rw[hcurl];exact Nat.mul_le_mul_right _ (Nat.le_of_lt hil)) hzl.out (by omega)))|(with_reducible show wpList _ _ _ (Oper.mk (some 45) _ _ _ _ _::_) _ _;go_must (refine XQ _ rfl (.tmp 43) (.tmp 44) 43 43 rfl 73 2 Tryz.underlying43 JlB w.heap.size (i*2) (l.length+1-i) (G-i) ⟨vb,0,none⟩ 1 1 rfl rfl _ (Ent.cells x) 1 hr1 (by simp only[Nat.min_def];split<;>omega) rfl (hx1.cells 0 _ fun j v hv=>by rw[Nat.zero_add];exact hv) ?hfit (by rw[<-Yt];exact YQ _) ?_;(case hfit=>(rw[hrl'.out,hxl];omega));intro w2 hr2 hg2;have hrow2:=hrow1.kept hg2 (by simp;omega))))
 have hol:=Lib.hid ((YZ (cur:=cur.take (i*2)++zs) (cs:=Ent.cells x) (o:=i*2) (by rw[hrl'.out,hxl];omega)).trans hrl'.out)
 have hw1:IntKind.i64.wrap ((i:Int)+1)=(i:Int)+1:=IntWalk.i64_in _ (by omega)
 have hb1:(0:Int)<=(i:Int)+1:=by omega
 have hin:i<=l.length:=by omega
 have hb3:(i:Int)<=(l.length:Int):=by omega
 have htn:((i:Int)+1).toNat=i+1:=by omega
 have hdl:(cur.drop (i*2)).length=(l.length-i)*2:=by rw[List.length_drop,hcurl,Nat.sub_mul]
 have hdl':=Lib.hid hdl
 clear hdl hzl hrl'
 go_region_law (refine JaQ rfl _ _ 43 43 rfl 73 2 Tryz.underlying43 JlB w.heap.size ((i+1)*2) (l.length+1- (i+1)) (G- (i+1)) ⟨g,i*2,none⟩ (l.length-i) (cap-i) (by simp[Act.eval,Act.put]) (by simp[Act.eval,Act.put]) _ (cur.drop (i*2)) (l.length-i) hr2.drew (by simp only[Nat.min_def];split<;>omega) hdl'.out (hrow2.drew.cells _ _ fun j v hv=>by rwa[List.getElem?_drop] at hv) ?hfit2 (by rw[hcur'.out];exact fun v hv=>YQ _ v (List.mem_of_mem_drop hv)) ?_;(case hfit2=>(rw[hdl'.out,hol.out];omega));intro w3 hr3 hg3)
 go_wp2_with fail
 go_ret
 have hfit3:(i+1)*2+(cur.drop (i*2)).length<=(over (cur.take (i*2)++zs) (i*2) (Ent.cells x)).length:=by rw[hdl'.out,hol.out];omega
 refine⟨_,rfl,YB hB hr3 hG (by unfold maxLen;omega) ((YZ hfit3).trans hol.out) ?_,Jb5 (JfE (Jb5 hg1 hg2 (Nat.le_refl _))) hg3 (Nat.le_refl _),rfl⟩
 rw[Ji2 (cur.take (i*2)) zs (Ent.cells x) (cur.drop (i*2)) (i*2) ((i+1)*2) (by rw[List.length_take,hcurl];omega) (by rw[hxl];omega) ((l.length+1)*2) (by rw[hdl'.out];omega)]
 rw[hcur'.out,JjR,JjS,Jbj,JF,<-List.singleton_append,JF,Yt]
theorem JmY (B g cap:Nat) (cur:List Value) (l:List Ent) (i:Nat) (x:Ent) (vb:Nat) (w:World) (hrow:Jc w 73 g cur) (hcur:cur.take (l.length*2)=cellsE l) (hcurl:cur.length=cap*2) (hil:i<l.length) (hcl:l.length+1<=cap) (hcm:cap<=9223372036854775807) (hB:B<=g) (hl:l.length<=1000000)
  (hx:Jc w 73 vb (Ent.cells x)) (hvg:vb≠g):
  Calls Tryz.prog 128 #[.slice (some ⟨g,0,none⟩) l.length cap,.int .i64 i,.slice (some ⟨vb,0,none⟩) 1 1] w fun e w'=>(∃v',e=.returned v'/\w'.ownsRow B 73 2 v' (l.length+1) (cellsE (Jbj l i x))/\w.grownBy w' (some g)/\v'.ownBlock=some g):=by
 have hg:=hrow.lt
 have hv:=hx.lt
 have hne:((i:Int)==(l.length:Int))=false:=by rw[beq_eq_false_iff_ne];omega
 have hi1:(i:Int)<(l.length:Int):=by omega
 have hi0:(0:Int)<=(i:Int):=by omega
 have hci:¬cap=i:=by omega
 have hci1:¬cap=i+1:=by omega
 have hc1:¬(cap:Int)<(l.length:Int)+1:=by omega
 have hc2:(l.length:Int)+1<=(cap:Int):=by omega
 have hov:∀lb cb,(callFunc 160 #[.slice (some ⟨vb,0,none⟩) 1 1,.slice (some ⟨g,(i+1)*2,none⟩) lb cb]).run Tryz.prog w=.ok (.value (.bool false)) w:=fun lb cb=>by
  rw[run_callFunc_extern Tryz.func160 (by kernel_rfl) (by kernel_rfl) (by kernel_rfl) (e:=Extern.SlicesOverlaps.overlaps #[43,43] #[4]) (by kernel_rfl),
   Lib.run_overlaps_apart w 43 4 73 Tryz.underlying43 2 Tryz.sizeOf73 ⟨vb,0,none⟩ ⟨g,(i+1)*2,none⟩ 1 1 lb cb hvg 73 73 _ _ hx.shape hrow.shape (by omega) (hx.frozen 0) (hx.frozen _)]
  rfl
 have hxl:(Ent.cells x).length=2:=rfl
 have hw1:IntKind.i64.wrap ((i:Int)+1)=(i:Int)+1:=IntWalk.i64_in _ (by omega)
 have hb1:(0:Int)<=(i:Int)+1:=by omega
 have hin:i<=l.length:=by omega
 have hb3:(i:Int)<=(l.length:Int):=by omega
 have hb4:(i:Int)<=(l.length:Int)+1:=by omega
 have htn:((i:Int)+1).toNat=i+1:=by omega
 obtain⟨R,hcurE⟩:∃R,cur=cellsE (l.take i)++(cellsE (l.drop i)++R):=⟨cur.drop (l.length*2),by
  rw[<-List.append_assoc,<-JF,List.take_append_drop,<-hcur,List.take_append_drop]⟩
 have hPl:(cellsE (l.take i)).length=i*2:=by rw[J2,List.length_take];omega
 have hQl:(cellsE (l.drop i)).length=(l.length-i)*2:=by rw[J2,List.length_drop]
 have hRl:R.length=(cap-l.length)*2:=by rw[hcurE,List.length_append,List.length_append,hPl,hQl] at hcurl;omega
 have hQ1:=YQ (l.drop i)
 have hins:cellsE (Jbj l i x)=cellsE (l.take i)++(Ent.cells x++cellsE (l.drop i)):=by
  rw[Jbj,JF,<-List.singleton_append,JF,Yt]
 have hins':=Lib.hid hins
 have hcurl':=Lib.hid hcurl
 clear hcur hins hcurl
 generalize cellsE (l.take i)=C at*
 generalize cellsE (l.drop i)=D at*
 have hCl:=Lib.hid hPl
 have hDl:=Lib.hid hQl
 have hRl':=Lib.hid hRl
 have hcurE':=Lib.hid hcurE
 clear hPl hQl hRl hcurE
 go_enter Tryz.func128,Tryz.ntmps128
 go_wp2_with (simp only[hov])
 go_region_law (refine JaQ rfl _ _ 43 43 rfl 73 2 Tryz.underlying43 JlB g ((i+1)*2) (l.length+1- (i+1)) (cap- (i+1)) ⟨g,i*2,none⟩ (l.length+1-i) (cap-i) (by simp[Act.eval,Act.put]) (by simp[Act.eval,Act.put]) _ D (l.length-i) hrow.drew (by simp only[Nat.min_def];split<;>omega) hDl.out (hrow.drew.cells _ _ fun j v hv=>by rw[hcurE'.out,<-hCl.out,List.getElem?_append_right (by omega),Nat.add_sub_cancel_left,List.getElem?_append_left (List.getElem?_eq_some_iff.1 hv).1];exact hv) (by rw[hDl.out,hcurl'.out];omega) hQ1 ?_;intro w3 hr3 hg3)
 have hx3:=hx.drew.kept hg3 (by simpa using hvg)
 have hol:=Lib.hid ((YZ (cur:=cur) (cs:=D) (o:=(i+1)*2) (by rw[hDl.out,hcurl'.out];omega)).trans hcurl'.out)
 go_wp2_with (with_reducible show wpList _ _ _ (Oper.mk (some 82) _ _ _ _ _::_) _ _;refine XQ _ rfl (.tmp 80) (.tmp 81) 43 43 rfl 73 2 Tryz.underlying43 JlB g (i*2) (l.length+1-i) (cap-i) ⟨vb,0,none⟩ 1 1 rfl rfl _ (Ent.cells x) 1 hr3 (by simp only[Nat.min_def];split<;>omega) rfl (hx3.cells 0 _ fun j v hv=>by rw[Nat.zero_add];exact hv) ?hfit (by rw[<-Yt];exact YQ _) ?_;(case hfit=>(rw[hol.out,hxl];omega));intro w4 hr4 hg4)
 go_ret
 refine⟨_,rfl,YB hB hr4 hcl (by unfold maxLen;omega) ((YZ (by rw[hol.out,hxl];omega)).trans hol.out) ?_,Zz (XT hg3) hg4,rfl⟩
 rw[hcurE'.out,hins'.out]
 exact Ji3 C D R (Ent.cells x) (i*2) ((i+1)*2) hCl.out (by rw[hxl];omega) ((l.length+1)*2) (by rw[hDl.out];omega) (by rw[hxl,hRl'.out];omega)
theorem JpE (B:Nat) (v:Value) (l:List Ent) (i:Nat) (x:Ent) (vb:Nat) (w:World) (hown:w.ownsRow B 73 2 v l.length (cellsE l)) (hB:B<=w.heap.size) (hi:i<=l.length) (hl:l.length<=1000000)
  (hx:Jc w 73 vb (Ent.cells x)) (hvb:v.ownBlock≠some vb):
  Calls Tryz.prog 128 #[v,.int .i64 i,.slice (some ⟨vb,0,none⟩) 1 1] w fun e w'=>(∃v',e=.returned v'/\w'.ownsRow B 73 2 v' (l.length+1) (cellsE (Jbj l i x))/\w.grownBy w' v.ownBlock/\(v'.ownBlock=v.ownBlock\/v'.ownBlock=some w.heap.size)):=by
 by_cases he:i=l.length
 ·subst he
  have:=JpI B v l x vb w hown hB hl hx
  rw[Jbj,List.take_length,List.drop_length]
  exact this
 ·rcases Jv hown with⟨rfl,h0,-⟩|⟨g,cap,cur,rfl,hBg,hr,hn,hm,hc,ht⟩
  ·omega
  ·have hvg:vb≠g:=fun e=>hvb (by simp[Value.ownBlock,e])
   by_cases hroom:l.length+1<=cap
   ·refine(JmY B g cap cur l i x vb w hr ht hc (by omega) hroom (by unfold maxLen at hm;omega) hBg hl hx hvg).mono ?_
    rintro e w' ⟨v',h1,h2,h3,h4⟩
    exact⟨v',h1,h2,h3,Or.inl h4⟩
   ·have hcl:cap=l.length:=by omega
    subst hcl
    refine(Jof B g l.length cur l i x vb w hr (by rw[<-ht,List.take_of_length_le (by omega)]) (by omega) rfl hB hl hx).mono ?_
    rintro e w' ⟨v',h1,h2,h3,h4⟩
    exact⟨v',h1,h2,⟨h3.os,h3.tape,h3.output,h3.size,fun k hk _=>h3.block k hk (by simp)⟩,Or.inr h4⟩
open Go.RowKit
section
variable {P:Program} (w:World)
theorem JiF (t ty E:TypeId) (i:TypeInfo) (k g n cap:Nat) (a:Addr) (m c:Nat) (cur:List Value) (news:List Value) (ht:P.underlying t=some (.slice E)) (hi:P.info? E=some i) (hk:i.size=k)
  (hrow:Jc w E g cur) (hl:news.length=m*k) (hsrc:∀j v,news[j]? =some v->w.cell? (a.add j)=some v) (hroom:n+m<=cap) (hfit:n*k+news.length<=cur.length) (h1:∀v∈news,v.oneCell'=true):
  (Builtin.append_ #[t,t] ty #[.slice (some ⟨g,0,none⟩) n cap,.slice (some a) m c]).run P w=.ok (.slice (some ⟨g,0,none⟩) (n+m) cap) (w.setRow g (over cur (n*k) news).toArray):=by
 subst hk
 have hst:=run_storeCells_at P g (n*i.size) E news 0 cur.toArray w hrow (by simpa using hfit) h1
 have hf:=run_firstCells_some (P:=P) w i.size m a m c news hl hsrc
 simp only[Nat.add_zero] at hst
 simp[Builtin.append_,run_underlying ht,sizeOf,typeInfo,hi,Builtin.lenOf,hroom,hf,Addr.add_lit,hst,over]
theorem Jkl (t ty E:TypeId) (z:Value) (k g o n c:Nat) (cur:List Value) (ht:P.underlying t=some (.slice E)) (hz:∀w,(zeroValue E).run P w=.ok z w) (hk:z.cells.size=k) (h1:∀v∈z.cells.toList,v.oneCell'=true)
  (hrow:Jc w E g cur) (hn:0<n) (hfit:o+n*k<=cur.length):
  ∃zs:List Value,zs.length=n*k/\(Builtin.clear_ #[t] ty #[.slice (some ⟨g,o,none⟩) n c]).run P w=.ok (.tuple #[]) (w.setRow g (over cur o zs).toArray):=by
 have hlen:(Builtin.zeroCells z.cells n).toList.length=n*k:=by rw[Array.length_toList,YA,hk]
 have hone:∀v∈(Builtin.zeroCells z.cells n).toList,v.oneCell'=true:=by
  intro v hv
  have hm:=Array.mem_toList_iff.1 hv
  unfold Builtin.zeroCells at hm
  obtain⟨j,hj,rfl⟩:=Array.mem_map.1 hm
  have hpos:0<z.cells.size:=by
   rcases Nat.eq_zero_or_pos z.cells.size with h0|h0
   ·rw[h0,Nat.mul_zero] at hj;simp at hj
   ·exact h0
  rw[getElem!_pos z.cells _ (Nat.mod_lt _ hpos)]
  exact h1 _ (Array.mem_toList_iff.2 (Array.getElem_mem _))
 have hst:=run_storeCells_at P g o E (Builtin.zeroCells z.cells n).toList 0 cur.toArray w hrow (by rw[hlen];simpa using hfit) hone
 obtain⟨m,rfl⟩:∃m,n=m+1:=⟨n-1,by omega⟩
 refine⟨_,hlen,?_⟩
 simp only[Nat.add_zero] at hst
 simp[Builtin.clear_,run_underlying ht,hz,hst,over]
end
theorem Jc0 {P:Program} {ops:Array Oper} {o:Oper} {a:Act} {w:World} {K:Act->World->Prop} {Q:Exit->Act->World->Prop} {E0:Prop}
  (hgd:o.guard=none) (d s:Operand) (t:TypeId) (ho:o.op=Op.call {callee:=Callee.builtin Builtin.append,args:= #[d,s],argTypes:= #[t,t]}) (E:TypeId) (i:TypeInfo) (k:Nat) (ht:P.underlying t=some (.slice E)) (hi:P.info? E=some i) (hk:i.size=k)
  (g n cap:Nat) (ad:Addr) (m c:Nat) (hd:a.eval d=.slice (some ⟨g,0,none⟩) n cap) (hsr:a.eval s=.slice (some ad) m c) (cur news:List Value)
  (hrow:Jc w E g cur) (hl:news.length=m*k) (hsrc:∀j v,news[j]? =some v->w.cell? (ad.add j)=some v) (hroom:n+m<=cap) (hfit:n*k+news.length<=cur.length) (h1:∀v∈news,v.oneCell'=true)
  (h:∀w',Jc w' E g (over cur (n*k) news)->w.grownBy w' (some g)->K (a.put o.dst (.slice (some ⟨g,0,none⟩) (n+m) cap)) w'):
  if Region.wanted o (yielded ops a.tmps)=true then Oper.wp P o a w K Q else E0:=by
 have hr:=JiF (P:=P) w t o.type E i k g n cap ad m c cur news ht hi hk hrow hl hsrc hroom hfit h1
 have hw:Region.wanted o (yielded ops a.tmps)=true:=by simp[Region.wanted,hgd]
 rw[if_pos hw]
 unfold Oper.wp
 simp[execOp,ho,resolve,invoke,builtin,hd,hsr,hr,Result.andThen]
 exact h _ (hrow.set _) (XU _ _ _)
theorem Jci {P:Program} (w:World) {ops:Array Oper} {rest:List Oper} {o:Oper} {a:Act} {Q:Exit->Act->World->Prop} (hgd:o.guard=none) (s:Operand) (t:TypeId)
  (ho:o.op=.call {callee:=.builtin .clear,args:= #[s],argTypes:= #[t]}) (E:TypeId) (z:Value) (k g off n c:Nat) (cur:List Value) (ht:P.underlying t=some (.slice E)) (hz:∀w,(zeroValue E).run P w=.ok z w) (hk:z.cells.size=k) (h1:∀v∈z.cells.toList,v.oneCell'=true)
  (hs:a.eval s=.slice (some ⟨g,off,none⟩) n c) (hrow:Jc w E g cur) (hn:0<n) (hfit:off+n*k<=cur.length)
  (h:∀w' zs,zs.length=n*k->Jc w' E g (over cur off zs)->w.grownBy w' (some g)->wpList P ops Q rest (a.put o.dst (.tuple #[])) w'):wpList P ops Q (o::rest) a w:=by
 obtain⟨zs,hl,hr⟩:=Jkl (P:=P) w t o.type E z k g off n c cur ht hz hk h1 hrow hn hfit
 refine wpList_plain hgd fun K hK=> ?_
 unfold Oper.wp
 simp only[execOp,ho,resolve,invoke,builtin,Sem.run_bind,Sem.run_pure,Result.andThen_ok,List.map_toArray,List.map_cons,List.map_nil,hs,hr]
 exact hK _ _ (h _ zs hl (hrow.set _) (XU _ _ _))
def JaI (l:List Ent) (i:Nat):List Ent:=l.take i++l.drop (i+1)
theorem Jqf (w:World):(zeroValue 73).run Tryz.prog w=.ok (.agg #[.string ByteArray.empty,.string ByteArray.empty]) w:=by kernel_rfl
theorem JdH (P X Q R zs:List Value) (o:Nat) (ho:P.length=o) (n:Nat) (hn:o+Q.length=n) (_hz:zs.length=X.length):(over (over (P++(X++(Q++R))) o Q) n zs).take n=P++Q:=by
 have e1:over (P++(X++(Q++R))) o Q=P++(Q++(X++(Q++R)).drop Q.length):=XA P _ Q o ho
 rw[e1,<-List.append_assoc,XA (P++Q) _ zs n (by simp;omega),List.take_append_of_le_length (by simp;omega),List.take_of_length_le (by simp;omega)]
theorem JpZ (B g cap:Nat) (cur:List Value) (l:List Ent) (i:Nat) (w:World) (hrow:Jc w 73 g cur) (hcur:cur.take (l.length*2)=cellsE l) (hcurl:cur.length=cap*2) (hil:i<l.length) (hcl:l.length<=cap) (hcm:cap<=9223372036854775807) (hB:B<=g) (hl:l.length<=1000000):
  Calls Tryz.prog 129 #[.slice (some ⟨g,0,none⟩) l.length cap,.int .i64 i,.int .i64 ((i:Int)+1)] w fun e w'=>(∃c',e=.returned (.slice (some ⟨g,0,none⟩) (l.length-1) c')/\w'.ownsRow B 73 2 (.slice (some ⟨g,0,none⟩) (l.length-1) c') (l.length-1) (cellsE (JaI l i)))/\w.grownBy w' (some g):=by
 obtain⟨i0,hi,hz0,hz1,hz2⟩:=info_parts Jjo
 have hg:=hrow.lt
 have hne:((i:Int)==(i:Int)+1)=false:=by rw[beq_eq_false_iff_ne];omega
 have hi1:(i:Int)<(l.length:Int):=by omega
 have hi0:(0:Int)<=(i:Int):=by omega
 have hi2:(0:Int)<=(i:Int)+1:=by omega
 have hi3:(i:Int)<=(i:Int)+1:=by omega
 have hi4:(i:Int)+1<=(l.length:Int):=by omega
 have hi5:(i:Int)<=(l.length:Int):=by omega
 have hi6:(l.length:Int)<=(cap:Int):=by omega
 have hi7:(i:Int)<=(cap:Int):=by omega
 have hci:¬cap=i:=by omega
 have htn:((i:Int)+1).toNat=i+1:=by omega
 obtain⟨R,hcurE⟩:∃R,cur=cellsE (l.take i)++(cellsE [l[i]]++(cellsE (l.drop (i+1))++R)):=⟨cur.drop (l.length*2),by
  rw[<-List.append_assoc,<-List.append_assoc,<-JF,<-JF,List.append_assoc,List.singleton_append,List.getElem_cons_drop,List.take_append_drop,<-hcur,List.take_append_drop]⟩
 have hPl:(cellsE (l.take i)).length=i*2:=by rw[J2,List.length_take];omega
 have hQl:(cellsE (l.drop (i+1))).length=(l.length- (i+1))*2:=by rw[J2,List.length_drop]
 have hXl:(cellsE [l[i]]).length=2:=by rw[J2];rfl
 have hQ1:=YQ (l.drop (i+1))
 have hdel:cellsE (JaI l i)=cellsE (l.take i)++cellsE (l.drop (i+1)):=by rw[JaI,JF]
 have hdel':=Lib.hid hdel
 have hcurl':=Lib.hid hcurl
 clear hcur hdel hcurl
 generalize cellsE (l.take i)=C at*
 generalize cellsE (l.drop (i+1))=D at*
 generalize cellsE [l[i]]=X at*
 have hCl:=Lib.hid hPl
 have hDl:=Lib.hid hQl
 have hXl':=Lib.hid hXl
 have hcurE':=Lib.hid hcurE
 clear hPl hQl hXl hcurE
 go_enter Tryz.func129,Tryz.ntmps129
 go_wp2_with fail
 have hR:=Lib.hid (JdH C X D R)
 by_cases hce:cap=i+1
 ·have hn1:l.length=i+1:=by omega
  have hD0:D=[]:=List.eq_nil_of_length_eq_zero (by rw[hDl.out];omega)
  go_region_law (refine Jc0 rfl (.tmp 22) (.tmp 25) 43 rfl 73 i0 2 Tryz.underlying43 hi hz1 g i (i+1) ⟨g,0,none⟩ 0 0 (by simp[Act.eval,Act.put]) (by simp[Act.eval,Act.put]) cur [] hrow.drew rfl (fun j v hv=>by simp at hv) (by omega) (by rw[hcurl'.out];simp;omega) (by simp) ?_;intro w3 hr3 hg3)
  go_wp2_with (with_reducible show wpList _ _ _ (Oper.mk none _ _ _ _ _::_) _ _;refine Jci _ rfl (.tmp 31) 43 rfl 73 _ 2 g (i*2) 1 1 _ Tryz.underlying43 Jqf rfl (by decide) ?hs hr3 (by omega) ?hfit ?_;(case hs=>simp[Act.eval]);(case hfit=>(rw[YZ (by rw[hcurl'.out];simp;omega),hcurl'.out];omega));intro w4 zs hzl hr4 hg4)
  rw[hcurE'.out,hD0,List.nil_append] at hr4
  go_ret
  rw[show l.length-1=i by omega]
  refine⟨⟨_,rfl,?_⟩,Zz (XT hg3) hg4⟩
  have hC:=JdH C X [] R zs (i*2) hCl.out (i*2) rfl (by rw[hzl,hXl'.out])
  rw[List.nil_append] at hC
  have hl2:(C++(X++R)).length=(i+1)*2:=by rw[<-hce,<-hcurl'.out,hcurE'.out,hD0,List.nil_append]
  have h1:=(YZ (cur:=C++(X++R)) (cs:=[]) (o:=i*2) (by rw[hl2];simp;omega)).trans hl2
  have h2:=(YZ (cs:=zs) (o:=i*2) (by rw[h1,hzl];omega)).trans h1
  exact YB hB hr4 (by omega) (by unfold maxLen;omega) h2 (by rw[hC,hdel'.out,hD0,List.append_nil])
 ·go_region_law (refine Jc0 rfl (.tmp 22) (.tmp 25) 43 rfl 73 i0 2 Tryz.underlying43 hi hz1 g i cap ⟨g,(i+1)*2,none⟩ (l.length- (i+1)) (cap- (i+1)) (by simp[Act.eval,Act.put]) (by simp[Act.eval,Act.put]) cur D hrow.drew hDl.out (hrow.drew.cells _ _ fun j v hv=>by rw[hcurE'.out,<-List.append_assoc,List.getElem?_append_right (by rw[List.length_append,hCl.out,hXl'.out];omega),List.length_append,hCl.out,hXl'.out,show(i+1)*2+j- (i*2+2)=j by omega,List.getElem?_append_left (List.getElem?_eq_some_iff.1 hv).1];exact hv) (by omega) (by rw[hDl.out,hcurl'.out];omega) hQ1 ?_;intro w3 hr3 hg3)
  go_wp2_with (with_reducible show wpList _ _ _ (Oper.mk none _ _ _ _ _::_) _ _;refine Jci _ rfl (.tmp 31) 43 rfl 73 _ 2 g ((i+(l.length- (i+1)))*2) (l.length- (i+(l.length- (i+1)))) (cap- (i+(l.length- (i+1)))) _ Tryz.underlying43 Jqf rfl (by decide) ?hs hr3 (by omega) ?hfit ?_;(case hs=>simp[Act.eval]);(case hfit=>(rw[YZ (by rw[hDl.out,hcurl'.out];omega),hcurl'.out];omega));intro w4 zs hzl hr4 hg4)
  have hli:i+(l.length- (i+1))=l.length-1:=by omega
  rw[hli] at hr4 hzl
  rw[hcurE'.out] at hr4
  go_ret
  rw[hli]
  refine⟨⟨_,rfl,?_⟩,Zz (XT hg3) hg4⟩
  have hC:=JdH C X D R zs (i*2) hCl.out ((l.length-1)*2) (by rw[hDl.out];omega) (by rw[hzl,hXl'.out];omega)
  have hl2:(C++(X++(D++R))).length=cap*2:=by rw[<-hcurl'.out,hcurE'.out]
  have h1:=(YZ (cs:=D) (o:=i*2) (by rw[hl2,hDl.out];omega)).trans hl2
  have h2:=(YZ (cs:=zs) (o:=(l.length-1)*2) (by rw[h1,hzl];omega)).trans h1
  exact YB hB hr4 (by omega) (by unfold maxLen;omega) h2 (by rw[hC,hdel'.out])
theorem JpY (B:Nat) (v:Value) (l:List Ent) (i:Nat) (w:World) (hown:w.ownsRow B 73 2 v l.length (cellsE l)) (hi:i<l.length) (hl:l.length<=1000000):
  Calls Tryz.prog 129 #[v,.int .i64 i,.int .i64 ((i:Int)+1)] w fun e w'=>(∃v',e=.returned v'/\w'.ownsRow B 73 2 v' (JaI l i).length (cellsE (JaI l i))/\v'.ownBlock=v.ownBlock)/\w.grownBy w' v.ownBlock:=by
 rcases Jv hown with⟨rfl,h0,-⟩|⟨g,cap,cur,rfl,hBg,hr,hn,hm,hc,ht⟩
 ·omega
 ·refine(JpZ B g cap cur l i w hr ht hc hi hn (by unfold maxLen at hm;omega) hBg hl).mono ?_
  rintro e w' ⟨⟨c',h1,h2⟩,h3⟩
  have hd:(JaI l i).length=l.length-1:=by simp[JaI];omega
  rw[hd]
  exact⟨⟨_,h1,h2,rfl⟩,h3⟩
open Go.RowKit
def JhO (l:List Ent) (k:List UInt8):List UInt8:=((l[below Ent.key l k]?).map Ent.val).getD []
def Jdb (l:List Ent) (u:Upd):List UInt8×Bool:=if JE Ent.key l u.key then onL (JhO l u.key) true u else onL [] false u
def onE (l:List Ent) (u:Upd):List Ent:=
 if u.check≠0 then l
 else if(Jdb l u).2 then(if JE Ent.key l u.key then l.set (below Ent.key l u.key) ⟨u.key,(Jdb l u).1⟩ else Jbj l (below Ent.key l u.key) ⟨u.key,(Jdb l u).1⟩)
 else if JE Ent.key l u.key then JaI l (below Ent.key l u.key) else l
structure Y7 (B p:Nat) (l:List Ent) (w:World):Prop where
 own:∃a c,w.cell? ⟨p,0,none⟩=some (.slice a l.length c)/\w.ownsRow B 73 2 (.slice a l.length c) l.length (cellsE l)/\(Value.slice a l.length c).ownBlock≠some p
 free:w.frozen? ⟨p,0,none⟩=false
 lt:p<w.heap.size
 base:B<=p
theorem Y7.on {B p:Nat} {l:List Ent} {w w':World} (h:Y7 B p l w) (hb:Below w.heap.size w w'):Y7 B p l w':=by
 obtain⟨⟨a,c,h1,h2,h3⟩,h4,h5,h6⟩:=h
 exact⟨⟨a,c,Ja hb h1,Ji h2 hb,h3⟩,((JB hb).2 p 0 h5).trans h4,Nat.lt_of_lt_of_le h5 hb.size,h6⟩
theorem JfX:∀(l:List Ent) (i:Nat) (y:List UInt8) (hi:i<l.length),(cellsE l).set (i*2+1) (.string (S y))=cellsE (l.set i ⟨l[i].key,y⟩)
 |[],i,_,h=>by simp at h
 |u::l,0,y,_=>by simp[cellsE,Ent.cells]
 |u::l,i+1,y,h=>by
  have ih:=JfX l i y (by simpa using h)
  have e:∀(y:Ent) (m:List Ent),cellsE (y::m)=.string (S y.key):: .string (S y.val)::cellsE m:=fun y m=>by simp[cellsE,Ent.cells]
  rw[List.getElem_cons_succ,List.set_cons_succ,e,e,<-ih,show(i+1)*2+1=i*2+1+1+1 by omega]
  simp only[List.set_cons_succ]
structure JaL (B p q:Nat) (a:Option Addr) (c:Nat) (l:List Ent) (kd:Nat) (key val:List UInt8) (dl:Nat) (w0 w:World):Prop where
 cell:w.cell? ⟨p,0,none⟩=some (.slice a l.length c)
 own:w.ownsRow B 73 2 (.slice a l.length c) l.length (cellsE l)
 free:w.frozen? ⟨p,0,none⟩=false
 q0:w.cell? ⟨q,0,none⟩=some (.int .u8 kd)
 q1:w.cell? ⟨q,1,none⟩=some (.string (S key))
 q2:w.cell? ⟨q,2,none⟩=some (.string (S val))
 q3:w.cell? ⟨q,3,none⟩=some (.int .u64 dl)
 lt:p<w.heap.size
 low:Below B w0 w
 base:B<=w0.heap.size
theorem JaL.on {B p q:Nat} {a:Option Addr} {c:Nat} {l:List Ent} {kd:Nat} {key val:List UInt8} {dl:Nat} {w0 w w':World} (h:JaL B p q a c l kd key val dl w0 w) (hb:Below w.heap.size w w'):JaL B p q a c l kd key val dl w0 w':=
 ⟨Ja hb h.cell,Ji h.own hb,((JB hb).2 p 0 h.lt).trans h.free,Ja hb h.q0,Ja hb h.q1,Ja hb h.q2,Ja hb h.q3,Nat.lt_of_lt_of_le h.lt hb.size,h.low.trans (hb.mono (Nat.le_trans h.base h.low.size)),h.base⟩
theorem JaL.drew {B p q:Nat} {a:Option Addr} {c:Nat} {l:List Ent} {kd:Nat} {key val:List UInt8} {dl:Nat} {w0 w:World} (h:JaL B p q a c l kd key val dl w0 w):JaL B p q a c l kd key val dl w0 w.drew:=h.on (Jb (Below.refl _ _))
theorem JaL.start {B p:Nat} {a:Option Addr} {c:Nat} {l:List Ent} {kd:Nat} {key val:List UInt8} {dl:Nat} {w:World} (t:TypeId) (h1:w.cell? ⟨p,0,none⟩=some (.slice a l.length c)) (h2:w.ownsRow B 73 2 (.slice a l.length c) l.length (cellsE l)) (h3:w.frozen? ⟨p,0,none⟩=false) (h4:p<w.heap.size) (h5:B<=p):
  JaL B p w.heap.size a c l kd key val dl w (w.alloc (.cells #[.int .u8 kd,.string (S key),.string (S val),.int .u64 dl] t)):=by
 have hb:Below w.heap.size w (w.alloc (.cells #[.int .u8 kd,.string (S key),.string (S val),.int .u64 dl] t)):=by go_grown
 exact⟨Ja hb h1,Ji h2 hb,((JB hb).2 p 0 h4).trans h3,by simp,by simp,by simp,by simp,Nat.lt_of_lt_of_le h4 hb.size,hb.mono (by omega),by omega⟩
theorem JkL (p:Nat) (kd:Nat) (key val:List UInt8) (dl:Nat) (w:World) (hk:kd<256) (hd:dl<18446744073709551616) (hc:(Upd.mk kd key val dl).check≠0):
  Calls Tryz.prog 93 #[.pointer (some ⟨p,0,none⟩),.agg #[.int .u8 kd,.string (S key),.string (S val),.int .u64 dl]] w fun e w'=>e=.returned (.tuple #[])/\Below w.heap.size w w':=by
 have hchk:=fun w=>chk kd key val dl hk hd w
 have hc0:(((Upd.mk kd key val dl).check:Nat):Int)≠0:=by omega
 generalize(Upd.mk kd key val dl).check=cc at*
 go_enter Tryz.func93,Tryz.ntmps93
 go_wp2_with fail
 refine(Jl (hchk _) w.heap.size w (by go_grown) (by go_grown)).mono ?_
 rintro e w1 ⟨rfl,hB1,-,-,-,-⟩
 go_wp2_with fail
 exact bodyPost_ret (v:=.tuple #[]) (by simp[results,Tryz.results93,go_sem]) rfl ⟨rfl,hB1⟩
theorem Y7.put {B p n:Nat} {l:List Ent} {w:World} {x:Value} {a:Option Addr} {c:Nat} (hn:l.length=n) (z1:w.cell? ⟨p,0,none⟩=some x) (z2:w.frozen? ⟨p,0,none⟩=false) (hown:w.ownsRow B 73 2 (.slice a n c) n (cellsE l)) (hne:(Value.slice a n c).ownBlock≠some p) (hlt:p<w.heap.size) (hB:B<=p):
  Y7 B p l (w.setCell ⟨p,0,none⟩ (.slice a n c)):=by
 subst hn
 exact⟨⟨a,c,World.cell?_setCell_same _ _ _ z1,ownsRow_setCell_other (a:=⟨p,0,none⟩) hown hne _,hne⟩,by rw[World.frozen?_setCell];exact z2,by rw[World.size_setCell];exact hlt,hB⟩
theorem Jfy (l:List Ent) (i:Nat) (x:Ent) (h:i<=l.length):(Jbj l i x).length=l.length+1:=by simp[Jbj];omega
theorem JjE (l:List Ent) (i:Nat) (h:i<l.length):(JaI l i).length=l.length-1:=by simp[JaI];omega
theorem JkM (B p:Nat) (l:List Ent) (kd:Nat) (key val:List UInt8) (dl:Nat) (w:World) (h:Y7 B p l w) (hl:l.length<=100000) (hr:Je Ent.key l) (hk:kd<256) (hd:dl<18446744073709551616) (hc:(Upd.mk kd key val dl).check=0) (i:Nat) (hi:below Ent.key l key=i) (hh:JE Ent.key l key=false) (y:List UInt8) (hy:onL [] false ⟨kd,key,val,dl⟩=(y,false)):
  Calls Tryz.prog 93 #[.pointer (some ⟨p,0,none⟩),.agg #[.int .u8 kd,.string (S key),.string (S val),.int .u64 dl]] w fun e w'=>e=.returned (.tuple #[])/\Y7 B p l w'/\Below B w w':=by
 have hchk:=fun w=>chk kd key val dl hk hd w
 rw[hc] at hchk
 have hfind:=fun v w hv=>Jg5 v l key w hv (by omega) hr
 rw[hh,hi] at hfind
 have hon:=fun w=>Jby [] false kd key val dl (by simp) hk hd w
 simp only[onV,hy] at hon
 obtain⟨⟨a,c,h1,h2,hne⟩,h3,h4,h5⟩:=h
 have HO:=Lib.hid (JaL.start (kd:=kd) (key:=key) (val:=val) (dl:=dl) 39 h1 h2 h3 h4 h5)
 have HF:=Lib.hid hfind
 have HN:=Lib.hid hon
 clear hfind hon hy hc h1 h2 h3 hr hi hh hk hd
 go_enter Tryz.func93,Tryz.ntmps93
 go_wp2_with fail
 refine(hchk _).mono ?_
 rintro e w1 ⟨rfl,hB1⟩
 have HO1:=Lib.hid (HO.out.on hB1)
 clear HO hchk hB1
 obtain⟨c1,o1,f1,q0,q1,q2,q3,lt1,low1,-⟩:=HO1.out
 go_wp2_with fail
 go_region_held3 (fun w'=>w'.cell? ⟨p,0,none⟩=some (.slice a l.length c)/\w'.cell? ⟨w.heap.size,1,none⟩=some (.string (S key))/\JaL B p w.heap.size a c l kd key val dl w w')
  (first|assumption|exact⟨c1,q1,HO1.out.drew⟩|exact⟨HO2.out.cell,HO2.out.q1,HO2.out⟩)
  ((go_at_call 88;go_must (obtain⟨x0,x1,x2⟩:=‹_/\_/\JaL _ _ _ _ _ _ _ _ _ _ _ _›;refine(HF.out _ _ ⟨_,rfl,(SlE.of_own x2.own).2⟩).mono ?_;rintro e w2 ⟨rfl,hB2⟩;have HO2:=Lib.hid (x2.on hB2))))
 clear c1 o1 f1 q0 q1 q2 q3 lt1 low1 HO1 HF
 obtain⟨c2,o2,f2,q0,q1,q2,q3,lt2,low2,-⟩:=HO2.out
 go_wp2_with fail
 refine(HN.out _).mono ?_
 rintro e w3 ⟨rfl,hB3⟩
 have HO3:=Lib.hid (HO2.out.on hB3)
 have hB3':=hB3
 clear c2 o2 f2 q0 q1 q2 q3 lt2 low2 HO2 hB3 HN
 obtain⟨c3,o3,f3,q0,q1,q2,q3,lt3,low3,base3⟩:=HO3.out
 go_wp2_with fail
 exact bodyPost_end (v:=.tuple #[]) (by simp[results,Tryz.results93,go_sem]) rfl ⟨rfl,⟨⟨a,c,c3,o3,hne⟩,f3,lt3,h5⟩,low3⟩
theorem JqC (B p:Nat) (l:List Ent) (kd:Nat) (key val:List UInt8) (dl:Nat) (w:World) (h:Y7 B p l w) (hl:l.length<=100000) (hr:Je Ent.key l) (hk:kd<256) (hd:dl<18446744073709551616) (hc:(Upd.mk kd key val dl).check=0) (i:Nat) (hi:below Ent.key l key=i) (hh:JE Ent.key l key=false) (hil:i<=l.length) (y:List UInt8) (hy:onL [] false ⟨kd,key,val,dl⟩=(y,true)):
  Calls Tryz.prog 93 #[.pointer (some ⟨p,0,none⟩),.agg #[.int .u8 kd,.string (S key),.string (S val),.int .u64 dl]] w fun e w'=>e=.returned (.tuple #[])/\Y7 B p (Jbj l i ⟨key,y⟩) w'/\Below B w w':=by
 have hchk:=fun w=>chk kd key val dl hk hd w
 rw[hc] at hchk
 have hfind:=fun v w hv=>Jg5 v l key w hv (by omega) hr
 rw[hh,hi] at hfind
 have hon:=fun w=>Jby [] false kd key val dl (by simp) hk hd w
 simp only[onV,hy] at hon
 obtain⟨⟨a,c,h1,h2,hne⟩,h3,h4,h5⟩:=h
 have HO:=Lib.hid (JaL.start (kd:=kd) (key:=key) (val:=val) (dl:=dl) 39 h1 h2 h3 h4 h5)
 have HF:=Lib.hid hfind
 have HN:=Lib.hid hon
 clear hfind hon hy hc h1 h2 h3 hr hi hh hk hd
 go_enter Tryz.func93,Tryz.ntmps93
 go_wp2_with fail
 refine(hchk _).mono ?_
 rintro e w1 ⟨rfl,hB1⟩
 have HO1:=Lib.hid (HO.out.on hB1)
 clear HO hchk hB1
 obtain⟨c1,o1,f1,q0,q1,q2,q3,lt1,low1,-⟩:=HO1.out
 go_wp2_with fail
 go_region_held3 (fun w'=>w'.cell? ⟨p,0,none⟩=some (.slice a l.length c)/\w'.cell? ⟨w.heap.size,1,none⟩=some (.string (S key))/\JaL B p w.heap.size a c l kd key val dl w w')
  (first|assumption|exact⟨c1,q1,HO1.out.drew⟩|exact⟨HO2.out.cell,HO2.out.q1,HO2.out⟩)
  ((go_at_call 88;go_must (obtain⟨x0,x1,x2⟩:=‹_/\_/\JaL _ _ _ _ _ _ _ _ _ _ _ _›;refine(HF.out _ _ ⟨_,rfl,(SlE.of_own x2.own).2⟩).mono ?_;rintro e w2 ⟨rfl,hB2⟩;have HO2:=Lib.hid (x2.on hB2))))
 clear c1 o1 f1 q0 q1 q2 q3 lt1 low1 HO1 HF
 obtain⟨c2,o2,f2,q0,q1,q2,q3,lt2,low2,-⟩:=HO2.out
 go_wp2_with fail
 refine(HN.out _).mono ?_
 rintro e w3 ⟨rfl,hB3⟩
 have HO3:=Lib.hid (HO2.out.on hB3)
 have hB3':=hB3
 clear c2 o2 f2 q0 q1 q2 q3 lt2 low2 HO2 hB3 HN
 obtain⟨c3,o3,f3,q0,q1,q2,q3,lt3,low3,base3⟩:=HO3.out
 have hI:=Lib.hid (JpE B (.slice a l.length c) l i ⟨key,y⟩ w3.heap.size (w3.drew.alloc (.cells #[.string (S key),.string (S y)] 73)) (o3.drew.alloc _) (by simp;have:=low3.size;omega) hil (by omega) (Jc.new w3.drew 73 (Ent.cells ⟨key,y⟩)) (fun e=>by have:=(o3.lt _ e).2;omega))
 have hlow:=Lib.hid ((Jb low3).alloc (Nat.le_trans base3 low3.size) (.cells #[.string (S key),.string (S y)] 73))
 have hob:=fun k (e:(Value.slice a l.length c).ownBlock=some k)=>(o3.lt k e).1
 have hbz:=Nat.le_trans base3 low3.size
 clear o3
 go_wp2_with fail
 go_region_law (first|(go_simp;go_at_call 128;refine(hI.out).mono ?_;rintro e w5 ⟨v3,rfl,hown3,hg3,hat3⟩;have z1:=hg3.cell (Jf _ (Jj c3)) (by simpa using fun e=>hne e.symm);have z2:w5.frozen? ⟨p,0,none⟩=false:=(World.frozen?_of_block (hg3.block p (by simp;omega) (fun e=>hne e.symm))).trans (by rw[World.frozen?_alloc_old _ _ _ (by show p≠_;simp;omega)];exact YL f3);obtain⟨a3,c3',e3⟩:=Jm hown3;subst e3))
 all_goals (
  go_wp2_with fail
  refine bodyPost_end (v:=.tuple #[]) (by simp[results,Tryz.results93,go_sem]) rfl ⟨rfl,Y7.put (Jfy l i _ hil) z1 z2 hown3 ?_ (Nat.lt_of_lt_of_le lt3 (Nat.le_trans (by simp) hg3.size)) h5,(Ju hlow.out hg3 hob (by simp;omega)).setCell (p:=⟨p,0,none⟩) h5 _⟩
  rcases hat3 with hat|hat
  ·rw[hat];exact hne
  ·rw[hat];intro e;simp at e;omega)
theorem JqB (B p:Nat) (l:List Ent) (kd:Nat) (key val:List UInt8) (dl:Nat) (w:World) (h:Y7 B p l w) (hl:l.length<=100000) (hr:Je Ent.key l) (hk:kd<256) (hd:dl<18446744073709551616) (hc:(Upd.mk kd key val dl).check=0) (i:Nat) (hi:below Ent.key l key=i) (hh:JE Ent.key l key=true) (hil:i<l.length) (hky:l[i].key=key) (old:List UInt8) (ho:l[i].val=old) (hvl:old.length<=1000000) (y:List UInt8) (hy:onL old true ⟨kd,key,val,dl⟩=(y,true)):
  Calls Tryz.prog 93 #[.pointer (some ⟨p,0,none⟩),.agg #[.int .u8 kd,.string (S key),.string (S val),.int .u64 dl]] w fun e w'=>e=.returned (.tuple #[])/\Y7 B p (l.set i ⟨key,y⟩) w'/\Below B w w':=by
 have hchk:=fun w=>chk kd key val dl hk hd w
 rw[hc] at hchk
 have hfind:=fun v w hv=>Jg5 v l key w hv (by omega) hr
 rw[hh,hi] at hfind
 have hon:=fun w=>Jby old true kd key val dl hvl hk hd w
 simp only[onV,hy] at hon
 obtain⟨⟨a,c,h1,h2,hne⟩,h3,h4,h5⟩:=h
 have HO:=Lib.hid (JaL.start (kd:=kd) (key:=key) (val:=val) (dl:=dl) 39 h1 h2 h3 h4 h5)
 have HF:=Lib.hid hfind
 have HN:=Lib.hid hon
 clear hfind hon hy hc h1 h2 h3 hr hi hh hk hd
 go_enter Tryz.func93,Tryz.ntmps93
 go_wp2_with fail
 refine(hchk _).mono ?_
 rintro e w1 ⟨rfl,hB1⟩
 have HO1:=Lib.hid (HO.out.on hB1)
 clear HO hchk hB1
 obtain⟨c1,o1,f1,q0,q1,q2,q3,lt1,low1,-⟩:=HO1.out
 go_wp2_with fail
 go_region_held3 (fun w'=>w'.cell? ⟨p,0,none⟩=some (.slice a l.length c)/\w'.cell? ⟨w.heap.size,1,none⟩=some (.string (S key))/\JaL B p w.heap.size a c l kd key val dl w w')
  (first|assumption|exact⟨c1,q1,HO1.out.drew⟩|exact⟨HO2.out.cell,HO2.out.q1,HO2.out⟩)
  ((go_at_call 88;go_must (obtain⟨x0,x1,x2⟩:=‹_/\_/\JaL _ _ _ _ _ _ _ _ _ _ _ _›;refine(HF.out _ _ ⟨_,rfl,(SlE.of_own x2.own).2⟩).mono ?_;rintro e w2 ⟨rfl,hB2⟩;have HO2:=Lib.hid (x2.on hB2))))
 clear c1 o1 f1 q0 q1 q2 q3 lt1 low1 HO1 HF
 obtain⟨c2,o2,f2,q0,q1,q2,q3,lt2,low2,-⟩:=HO2.out
 obtain⟨g,rfl,hgB,hgl,hrow⟩:=Yk o2 (by omega)
 have t1:=hrow (i*2+1) (.string (S l[i].val)) (ZR l i hil 1 _ rfl)
 rw[ho] at t1
 have hi0:(0:Int)<=(i:Int):=by omega
 have hi1:(i:Int)<(l.length:Int):=by omega
 clear hrow
 go_wp2_with fail
 refine(HN.out _).mono ?_
 rintro e w3 ⟨rfl,hB3⟩
 have HO3:=Lib.hid (HO2.out.on hB3)
 have hB3':=hB3
 clear c2 o2 f2 q0 q1 q2 q3 lt2 low2 HO2 hB3 HN
 obtain⟨c3,o3,f3,q0,q1,q2,q3,lt3,low3,base3⟩:=HO3.out
 have hgp:p≠g:=fun e=>hne (by rw[e];rfl)
 have u1:=(Jh (w:=w2) (w':=w3) (B:=w2.heap.size) hB3' hgl _).trans t1
 have uf:=o3.frozenAt
 have hset:=(o3.stored (i*2+1) (.string (S y))).1
 rw[JfX l i y hil,hky] at hset
 go_wp2_with fail
 exact bodyPost_end (v:=.tuple #[]) (by simp[results,Tryz.results93,go_sem]) rfl ⟨rfl,⟨⟨some ⟨g,0,none⟩,c,by rw[List.length_set];exact J5 hgp c3,by rw[List.length_set];exact hset,by rw[List.length_set];exact hne⟩,by rw[World.frozen?_setCell];exact f3,by rw[World.size_setCell];exact lt3,h5⟩,low3.setCell (p:=⟨g,i*2+1,none⟩) hgB _⟩
theorem JqD (B p:Nat) (l:List Ent) (kd:Nat) (key val:List UInt8) (dl:Nat) (w:World) (h:Y7 B p l w) (hl:l.length<=100000) (hr:Je Ent.key l) (hk:kd<256) (hd:dl<18446744073709551616) (hc:(Upd.mk kd key val dl).check=0) (i:Nat) (hi:below Ent.key l key=i) (hh:JE Ent.key l key=true) (hil:i<l.length) (_hky:l[i].key=key) (old:List UInt8) (ho:l[i].val=old) (hvl:old.length<=1000000) (y:List UInt8) (hy:onL old true ⟨kd,key,val,dl⟩=(y,false)):
  Calls Tryz.prog 93 #[.pointer (some ⟨p,0,none⟩),.agg #[.int .u8 kd,.string (S key),.string (S val),.int .u64 dl]] w fun e w'=>e=.returned (.tuple #[])/\Y7 B p (JaI l i) w'/\Below B w w':=by
 have hchk:=fun w=>chk kd key val dl hk hd w
 rw[hc] at hchk
 have hfind:=fun v w hv=>Jg5 v l key w hv (by omega) hr
 rw[hh,hi] at hfind
 have hon:=fun w=>Jby old true kd key val dl hvl hk hd w
 simp only[onV,hy] at hon
 obtain⟨⟨a,c,h1,h2,hne⟩,h3,h4,h5⟩:=h
 have HO:=Lib.hid (JaL.start (kd:=kd) (key:=key) (val:=val) (dl:=dl) 39 h1 h2 h3 h4 h5)
 have HF:=Lib.hid hfind
 have HN:=Lib.hid hon
 clear hfind hon hy hc h1 h2 h3 hr hi hh hk hd
 go_enter Tryz.func93,Tryz.ntmps93
 go_wp2_with fail
 refine(hchk _).mono ?_
 rintro e w1 ⟨rfl,hB1⟩
 have HO1:=Lib.hid (HO.out.on hB1)
 clear HO hchk hB1
 obtain⟨c1,o1,f1,q0,q1,q2,q3,lt1,low1,-⟩:=HO1.out
 go_wp2_with fail
 go_region_held3 (fun w'=>w'.cell? ⟨p,0,none⟩=some (.slice a l.length c)/\w'.cell? ⟨w.heap.size,1,none⟩=some (.string (S key))/\JaL B p w.heap.size a c l kd key val dl w w')
  (first|assumption|exact⟨c1,q1,HO1.out.drew⟩|exact⟨HO2.out.cell,HO2.out.q1,HO2.out⟩)
  ((go_at_call 88;go_must (obtain⟨x0,x1,x2⟩:=‹_/\_/\JaL _ _ _ _ _ _ _ _ _ _ _ _›;refine(HF.out _ _ ⟨_,rfl,(SlE.of_own x2.own).2⟩).mono ?_;rintro e w2 ⟨rfl,hB2⟩;have HO2:=Lib.hid (x2.on hB2))))
 clear c1 o1 f1 q0 q1 q2 q3 lt1 low1 HO1 HF
 obtain⟨c2,o2,f2,q0,q1,q2,q3,lt2,low2,-⟩:=HO2.out
 obtain⟨g,rfl,hgB,hgl,hrow⟩:=Yk o2 (by omega)
 have t1:=hrow (i*2+1) (.string (S l[i].val)) (ZR l i hil 1 _ rfl)
 rw[ho] at t1
 have hi0:(0:Int)<=(i:Int):=by omega
 have hi1:(i:Int)<(l.length:Int):=by omega
 clear hrow
 go_wp2_with fail
 refine(HN.out _).mono ?_
 rintro e w3 ⟨rfl,hB3⟩
 have HO3:=Lib.hid (HO2.out.on hB3)
 have hB3':=hB3
 clear c2 o2 f2 q0 q1 q2 q3 lt2 low2 HO2 hB3 HN
 obtain⟨c3,o3,f3,q0,q1,q2,q3,lt3,low3,base3⟩:=HO3.out
 have hD:=Lib.hid (JpY B (.slice (some ⟨g,0,none⟩) l.length c) l i w3 o3 hil (by omega))
 have hwr:IntKind.i64.wrap ((i:Int)+1)=(i:Int)+1:=by rw[IntKind.wrap_i64];omega
 have hob:=fun k (e:(Value.slice (some ⟨g,0,none⟩) l.length c).ownBlock=some k)=>(o3.lt k e).1
 have hbz:=Nat.le_trans base3 low3.size
 clear o3
 go_wp2_with fail
 refine(hD.out).mono ?_
 rintro e w5 ⟨⟨v3,rfl,hown3,hat3⟩,hg3⟩
 have z1:=hg3.cell c3 (by simpa using fun e=>hne e.symm)
 have z2:w5.frozen? ⟨p,0,none⟩=false:=(World.frozen?_of_block (hg3.block p (by omega) (fun e=>hne e.symm))).trans f3
 obtain⟨a3,c3',e3⟩:=Jm hown3
 subst e3
 go_wp2_with fail
 refine bodyPost_end (v:=.tuple #[]) (by simp[results,Tryz.results93,go_sem]) rfl ⟨rfl,Y7.put rfl z1 z2 hown3 (by rw[hat3];exact hne) (Nat.lt_of_lt_of_le lt3 hg3.size) h5,(Ju low3 hg3 hob hbz).setCell (p:=⟨p,0,none⟩) h5 _⟩
theorem Y7.le {B p:Nat} {l:List Ent} {w:World} (h:Y7 B p l w):B<=w.heap.size:=Nat.le_trans h.base (Nat.le_of_lt h.lt)
theorem Jpz (B p:Nat) (l:List Ent) (kd:Nat) (key val:List UInt8) (dl:Nat) (w:World) (h:Y7 B p l w) (hl:l.length<=100000) (hr:Je Ent.key l) (hv:∀e∈l,e.val.length<=1000000) (hk:kd<256) (hd:dl<18446744073709551616):
  Calls Tryz.prog 93 #[.pointer (some ⟨p,0,none⟩),.agg #[.int .u8 kd,.string (S key),.string (S val),.int .u64 dl]] w fun e w'=>e=.returned (.tuple #[])/\Y7 B p (onE l ⟨kd,key,val,dl⟩) w'/\Below B w w':=by
 by_cases hc:(Upd.mk kd key val dl).check=0
 ·have hc':¬(Upd.mk kd key val dl).check≠0:=by simp[hc]
  unfold onE Jdb
  rw[if_neg hc']
  cases hh:JE Ent.key l key with
  |false=>
   obtain⟨y,is,hy⟩:∃y is,onL [] false ⟨kd,key,val,dl⟩=(y,is):=⟨_,_,rfl⟩
   cases is with
   |false=>simpa[hh,hy] using JkM B p l kd key val dl w h hl hr hk hd hc _ rfl hh y hy
   |true=>simpa[hh,hy] using JqC B p l kd key val dl w h hl hr hk hd hc _ rfl hh (Xe l key) y hy
  |true=>
   obtain⟨hlt,hkey⟩:=(hr.found key).1 hh
   have ho:JhO l key=(l[below Ent.key l key]'hlt).val:=by unfold JhO;rw[List.getElem?_eq_getElem hlt];rfl
   obtain⟨y,is,hy⟩:∃y is,onL (JhO l key) true ⟨kd,key,val,dl⟩=(y,is):=⟨_,_,rfl⟩
   have hvl:(JhO l key).length<=1000000:=by rw[ho];exact hv _ (List.getElem_mem _)
   cases is with
   |false=>simpa[hh,hy] using JqD B p l kd key val dl w h hl hr hk hd hc _ rfl hh hlt hkey _ ho.symm hvl y hy
   |true=>simpa[hh,hy] using JqB B p l kd key val dl w h hl hr hk hd hc _ rfl hh hlt hkey _ ho.symm hvl y hy
 ·unfold onE
  rw[if_pos hc]
  refine(JkL p kd key val dl w hk hd hc).mono ?_
  rintro e w' ⟨rfl,hb⟩
  exact⟨rfl,h.on hb,hb.mono h.le⟩
end Go.Proofs.YtafciefjlkdecaaGreat
namespace Go.Proofs.YtafciefjlkdecaaGreat
open Go.ChangeShapes Go.WideShapes Go.ChangeAt Go.RowKit
section
variable {H:Type} {enc:TypeId×Value->H} {P:Program} {w:World} {base:Nat} {spare:Nat->Bool} {held:Bool}
end
end Go.Proofs.YtafciefjlkdecaaGreat
namespace Go.Proofs.YtafciefjlkdecaaGreat
open Go.ChangeShapes Go.WideShapes Go.ChangeAt Go.RowKit
end Go.Proofs.YtafciefjlkdecaaGreat
namespace Go.Proofs.YtafciefjlkdecaaGreat
open Go.ChangeShapes Go.WideShapes Go.ChangeAt Go.RowKit
end Go.Proofs.YtafciefjlkdecaaGreat
namespace Go.Proofs.YtafciefjlkdecaaGreat
open Go.ChangeShapes Go.WideShapes Go.ChangeAt Go.RowKit Go.Deep Go.Joins
theorem Jba {H:Type} {P:Program} {e:TypeId}:∀ {ds:List (DataW H)} {d:DataW H},d∈ds->∀n∈d.weights P e,n∈DataW.weightsAll P e ds
 |[],d,hd,_,_=>by simp at hd
 |d0::ds,d,hd,n,hn=>by
  simp only[DataW.weightsAll,List.mem_append]
  rcases List.mem_cons.1 hd with rfl|hd
  ·exact Or.inl hn
  ·exact Or.inr (Jba hd n hn)
instance :Inhabited Upd:=⟨⟨0,[],[],0⟩⟩
end Go.Proofs.YtafciefjlkdecaaGreat
namespace Go.Proofs.YtafciefjlkdecaaGreat
open Go.ChangeShapes Go.WideShapes Go.ChangeAt Go.RowKit Go.Deep Go.Joins
instance :Inhabited Ent:=⟨⟨[],[]⟩⟩
open Go.RowKit
theorem Jc.new' (w:World) (E:TypeId) (cur:List Value) (b:Nat) (hb:b=w.heap.size):Jc (w.alloc (.cells cur.toArray E)) E b cur:=by subst hb;exact Jc.new w E cur
theorem Jc.on {w w':World} {E:TypeId} {g:Nat} {cur:List Value} (h:Jc w E g cur) (hb:Below w.heap.size w w'):Jc w' E g cur:=(hb.block g h.lt).trans h
theorem Jc.put {w:World} {E:TypeId} {g:Nat} {cur:List Value} (h:Jc w E g cur) (i:Nat) (v:Value):Jc (w.setCell ⟨g,i,none⟩ v) E g (cur.set i v):=by
 have:=Go.heap_setCell_same w g i cur.toArray E v h
 unfold Jc
 rw[this]
 simp
theorem Jc.far {w:World} {E:TypeId} {g:Nat} {cur:List Value} (h:Jc w E g cur) (a:Addr) (hne:g≠a.block) (v:Value):Jc (w.setCell a v) E g cur:=
 (Go.heap_setCell_other w a g v hne).trans h
def YH (kn:Bool) (pa:Int) (pg ps:Nat) (ld:Bool) (lf cs us ks:Value):List Value:=[.bool kn,.int .i64 pa,.int .u64 pg,.int .u32 ps,.bool ld,lf,cs,us,ks]
def Jex (F B L:Int) (ld:Value) (root:Nat) (h:Int) (gone:Value) (fl le:Int):List Value:=[.int .i64 F,.int .i64 B,.int .i64 L,ld,.pointer (some ⟨root,0,none⟩),.int .i64 h,gone,.int .i64 fl,.int .i64 le]
structure Jq (w:World) (b:Nat) (kn:Bool) (pa:Int) (pg ps:Nat) (ld:Bool) (lf cs us ks:Value):Prop where
 row:Jc w 108 b (YH kn pa pg ps ld lf cs us ks)
structure Yj (w:World) (b:Nat) (F B L:Int) (ld:Value) (root:Nat) (h:Int) (gone:Value) (fl le:Int):Prop where
 row:Jc w 110 b (Jex F B L ld root h gone fl le)
section
variable {w w':World} {b:Nat} {kn:Bool} {pa:Int} {pg ps:Nat} {ld:Bool} {lf cs us ks:Value}
theorem Jq.on (h:Jq w b kn pa pg ps ld lf cs us ks) (hb:Below w.heap.size w w'):Jq w' b kn pa pg ps ld lf cs us ks:=⟨h.row.on hb⟩
theorem Jq.kept {B:Nat} (h:Jq w b kn pa pg ps ld lf cs us ks) (hb:Below B w w') (hB:w.heap.size<=B):Jq w' b kn pa pg ps ld lf cs us ks:=⟨h.row.on (hb.mono hB)⟩
theorem Jq.lt (h:Jq w b kn pa pg ps ld lf cs us ks):b<w.heap.size:=h.row.lt
theorem Jq.c0 (h:Jq w b kn pa pg ps ld lf cs us ks):w.cell? ⟨b,0,none⟩=some (.bool kn):=h.row.cell 0
theorem Jq.c1 (h:Jq w b kn pa pg ps ld lf cs us ks):w.cell? ⟨b,1,none⟩=some (.int .i64 pa):=h.row.cell 1
theorem Jq.c2 (h:Jq w b kn pa pg ps ld lf cs us ks):w.cell? ⟨b,2,none⟩=some (.int .u64 pg):=h.row.cell 2
theorem Jq.c3 (h:Jq w b kn pa pg ps ld lf cs us ks):w.cell? ⟨b,3,none⟩=some (.int .u32 ps):=h.row.cell 3
theorem Jq.c4 (h:Jq w b kn pa pg ps ld lf cs us ks):w.cell? ⟨b,4,none⟩=some (.bool ld):=h.row.cell 4
theorem Jq.c5 (h:Jq w b kn pa pg ps ld lf cs us ks):w.cell? ⟨b,5,none⟩=some lf:=h.row.cell 5
theorem Jq.c6 (h:Jq w b kn pa pg ps ld lf cs us ks):w.cell? ⟨b,6,none⟩=some cs:=h.row.cell 6
theorem Jq.c7 (h:Jq w b kn pa pg ps ld lf cs us ks):w.cell? ⟨b,7,none⟩=some us:=h.row.cell 7
theorem Jq.c8 (h:Jq w b kn pa pg ps ld lf cs us ks):w.cell? ⟨b,8,none⟩=some ks:=h.row.cell 8
theorem Jq.fz (h:Jq w b kn pa pg ps ld lf cs us ks) (o:Nat):w.frozen? ⟨b,o,none⟩=false:=h.row.frozen o
theorem Jq.far (h:Jq w b kn pa pg ps ld lf cs us ks) (a:Addr) (hne:b≠a.block) (v:Value):Jq (w.setCell a v) b kn pa pg ps ld lf cs us ks:=⟨h.row.far a hne v⟩
theorem Jq.putL (h:Jq w b kn pa pg ps ld lf cs us ks) (v:Value):Jq (w.setCell ⟨b,5,none⟩ v) b kn pa pg ps ld v cs us ks:=⟨h.row.put 5 v⟩
end
section
variable {w w':World} {b:Nat} {F B L:Int} {ld:Value} {root:Nat} {h':Int} {gone:Value} {fl le:Int}
theorem Yj.on (h:Yj w b F B L ld root h' gone fl le) (hb:Below w.heap.size w w'):Yj w' b F B L ld root h' gone fl le:=⟨h.row.on hb⟩
theorem Yj.kept {N:Nat} (h:Yj w b F B L ld root h' gone fl le) (hb:Below N w w') (hN:w.heap.size<=N):Yj w' b F B L ld root h' gone fl le:=⟨h.row.on (hb.mono hN)⟩
theorem Yj.lt (h:Yj w b F B L ld root h' gone fl le):b<w.heap.size:=h.row.lt
theorem Yj.c0 (h:Yj w b F B L ld root h' gone fl le):w.cell? ⟨b,0,none⟩=some (.int .i64 F):=h.row.cell 0
theorem Yj.c1 (h:Yj w b F B L ld root h' gone fl le):w.cell? ⟨b,1,none⟩=some (.int .i64 B):=h.row.cell 1
theorem Yj.c2 (h:Yj w b F B L ld root h' gone fl le):w.cell? ⟨b,2,none⟩=some (.int .i64 L):=h.row.cell 2
theorem Yj.c3 (h:Yj w b F B L ld root h' gone fl le):w.cell? ⟨b,3,none⟩=some ld:=h.row.cell 3
theorem Yj.c4 (h:Yj w b F B L ld root h' gone fl le):w.cell? ⟨b,4,none⟩=some (.pointer (some ⟨root,0,none⟩)):=h.row.cell 4
theorem Yj.c5 (h:Yj w b F B L ld root h' gone fl le):w.cell? ⟨b,5,none⟩=some (.int .i64 h'):=h.row.cell 5
theorem Yj.c6 (h:Yj w b F B L ld root h' gone fl le):w.cell? ⟨b,6,none⟩=some gone:=h.row.cell 6
theorem Yj.c7 (h:Yj w b F B L ld root h' gone fl le):w.cell? ⟨b,7,none⟩=some (.int .i64 fl):=h.row.cell 7
theorem Yj.c8 (h:Yj w b F B L ld root h' gone fl le):w.cell? ⟨b,8,none⟩=some (.int .i64 le):=h.row.cell 8
theorem Yj.fz (h:Yj w b F B L ld root h' gone fl le) (o:Nat):w.frozen? ⟨b,o,none⟩=false:=h.row.frozen o
end
theorem JbS (w:World):Calls Tryz.prog 18 #[] w fun e w'=>e=.returned (.agg #[.int .i64 3,.int .i64 4,.int .i64 3])/\Below w.heap.size w w':=by
 go_enter Tryz.func18,Tryz.ntmps18
 go_wp2_with fail
 exact bodyPost_ret (v:=.agg #[.int .i64 3,.int .i64 4,.int .i64 3]) (by simp[results,Tryz.results18,go_sem]) rfl ⟨rfl,by go_grown⟩
theorem JlK (F B L:Int) (fn:Fn) (xs ys:Array Value) (w:World):
  Calls Tryz.prog 10 #[.agg #[.int .i64 F,.int .i64 B,.int .i64 L],.func fn xs ys] w fun e w'=>e=.returned (.pointer (some ⟨w.heap.size+1+1,0,none⟩))/\Yj w' (w.heap.size+1+1) F B L (.func fn xs ys) (w.heap.size+1) 1 (.slice none 0 0) 0 0/\Jq w' (w.heap.size+1) false 0 0 0 true (.slice none 0 0) (.slice none 0 0) (.slice none 0 0) (.slice none 0 0)/\Below w.heap.size w w':=by
 go_enter Tryz.func10,Tryz.ntmps10
 go_wp2_with fail
 go_ret
 exact⟨rfl,⟨Jc.new' _ _ (Jex F B L (.func fn xs ys) (w.heap.size+1) 1 (.slice none 0 0) 0 0) _ (by simp)⟩,⟨(Jc.new' _ _ (YH false 0 0 0 true (.slice none 0 0) (.slice none 0 0) (.slice none 0 0) (.slice none 0 0)) _ (by simp)).alloc _⟩,by go_grown⟩
theorem JgP (F B L:Int) (fn:Fn) (xs ys:Array Value) (pa:Int) (pg ps:Nat) (h:Int) (w:World) (h1:1<=h) (h2:h<=32):
  Calls Tryz.prog 22 #[.agg #[.int .i64 F,.int .i64 B,.int .i64 L],.func fn xs ys,.agg #[.int .i64 pa,.int .u64 pg,.int .u32 ps],.int .i64 h] w fun e w'=>e=.returned (.tuple #[.pointer (some ⟨w.heap.size+1+1+1,0,none⟩),.int .i64 0])/\Yj w' (w.heap.size+1+1+1) F B L (.func fn xs ys) (w.heap.size+1+1) h (.slice none 0 0) 0 0/\Jq w' (w.heap.size+1+1) true pa pg ps false (.slice none 0 0) (.slice none 0 0) (.slice none 0 0) (.slice none 0 0)/\Below w.heap.size w w':=by
 have e1:decide (h<1)=false:=by simpa using h1
 have e2:decide (32<h)=false:=by simpa using h2
 clear h1 h2
 go_enter Tryz.func22,Tryz.ntmps22
 go_wp2_with fail
 go_returns
 exact⟨rfl,⟨Jc.new' _ _ (Jex F B L (.func fn xs ys) (w.heap.size+1+1) h (.slice none 0 0) 0 0) _ (by simp)⟩,⟨(Jc.new' _ _ (YH true pa pg ps false (.slice none 0 0) (.slice none 0 0) (.slice none 0 0) (.slice none 0 0)) _ (by simp)).alloc _⟩,by go_grown⟩
theorem JfB {b:Nat} {F B L:Int} {ld:Value} {root:Nat} {h':Int} {gone:Value} {fl le:Int} (w:World) (h:Yj w b F B L ld root h' gone fl le):Calls Tryz.prog 14 #[.pointer (some ⟨b,0,none⟩)] w fun e w'=>e=.returned (.int .i64 h')/\Below w.heap.size w w':=by
 have c5:=h.c5
 go_enter Tryz.func14,Tryz.ntmps14
 go_wp2_with fail
 go_ret
 exact⟨rfl,by go_grown⟩
end Go.Proofs.YtafciefjlkdecaaGreat
namespace Go.Proofs.YtafciefjlkdecaaGreat
open Go.ChangeShapes Go.WideShapes Go.ChangeAt Go.RowKit Go.Deep Go.Joins
structure Jbm where
 dv:Int
 kv:Int
 val:List UInt8
 dl:Nat
instance :Inhabited Jbm:=⟨⟨0,0,[],0⟩⟩
def Jbm.cells (x:Jbm):List Value:=[.int .i64 x.dv,.int .i64 x.kv,.string (S x.val),.int .u64 x.dl]
structure Jbm.Ok (x:Jbm):Prop where
 dv: -9223372036854775808<=x.dv/\x.dv<=9223372036854775807
 kv: -9223372036854775808<=x.kv/\x.kv<=9223372036854775807
 val:x.val.length<=140737488355328
 dl:x.dl<18446744073709551616
structure Jmd (w:World) (v:Value) (l:List Jbm):Prop where
 form:∃ao c,v=.slice ao l.length c/\JC Jbm.cells 4 w ao l/\l.length<=c/\(c:Int)<=9223372036854775807
 ok:∀x∈l,x.Ok
theorem JC.cellsQ {w:World} {ao:Option Addr} {l:List Jbm} (hs:JC Jbm.cells 4 w ao l) (i:Nat) (hi:i<l.length):
  ∃b off,ao=some ⟨b,off,none⟩/\b<w.heap.size/\w.cell? ⟨b,off+i*4,none⟩=some (.int .i64 l[i].dv)/\w.cell? ⟨b,off+i*4+1,none⟩=some (.int .i64 l[i].kv)/\w.cell? ⟨b,off+i*4+2,none⟩=some (.string (S l[i].val))/\w.cell? ⟨b,off+i*4+3,none⟩=some (.int .u64 l[i].dl):=by
 obtain⟨b,off,rfl,hb,hc⟩:=hs.at (by omega)
 exact⟨b,off,rfl,hb,hc i hi 0 _ rfl,hc i hi 1 _ rfl,hc i hi 2 _ rfl,hc i hi 3 _ rfl⟩
theorem Jq6 {w:World} {ao:Option Addr} {l:List Jbm} (h:JC Jbm.cells 4 w ao l) (m:Nat):JC Jbm.cells 4 w ao (l.take m):=by
 rcases h with rfl|⟨b,off,rfl,hb,hc⟩
 ·exact Or.inl (by simp)
 ·refine Or.inr ⟨b,off,rfl,hb,fun i hi j x hx=> ?_⟩
  have hi':i<l.length:=by rw[List.length_take] at hi;omega
  refine hc i hi' j x ?_
  rw[List.getElem_take] at hx
  exact hx
theorem Jqw:Tryz.prog.underlying 47=some (.slice (Tryz.prog.elem 47)):=by rw[show Tryz.prog.elem 47=51 by kernel_rfl];exact Tryz.underlying47
theorem Jms (w:World):(sizeOf (Tryz.prog.elem 47)).run Tryz.prog w=.ok 4 w:=by kernel_rfl
theorem Jrp (ao:Option Addr) (n c i:Nat) (hin:i<=n) (hnc:n<=c) (w:World):(Instr.slice 47 (.slice ao n c) none (some (.int .i64 (i:Int))) none).run Tryz.prog w=.ok (.slice ao i c) w:=by
 rw[run_slice_h w 47 ao n c Jqw .i64 i (by omega) (by omega)]
 rw[Jms]
 have e:ao.map (·.add 0)=ao:=by cases ao<;>simp[Addr.add]
 simp[Result.andThen,sliced,e]
theorem JmQ {H:Type} {enc:TypeId×Value->H} {P:Program} {w:World} {base:Nat} {spare:Nat->Bool} {held:Bool} {r:Reach} {bb0:Nat} {t e:TypeId} {f0 f1 f2 f3:Field} {v:Value} {d:DataW H} {p:List MemPlace}
  (ht:P.underlying t=some (.slice e)) (he:P.underlying e=some (.struct #[f0,f1,f2,f3])) (hone:oneCellFields P #[f0,f1,f2,f3]=true) (hC:P.cellsOf e=4)
  (h0:P.underlying f0.type=some (.int .i64)) (h1:P.underlying f1.type=some (.int .i64)) (h2:P.underlying f2.type=some .string) (h3:P.underlying f3.type=some (.int .u64)) (hv:Value.okWide P w r bb0 t v)
  (h:DataW.Trod enc P w base spare held t v d p) (hsz:∀n∈d.weights P t,n<=reachBytes):∃l,Jmd w v l:=by
 obtain⟨a,len,cap,rfl⟩:=okWide_slice ht hv
 obtain⟨fuel,hf⟩:=h
 rcases open_slice ht hf with⟨hcs,-⟩|⟨a',len',cap',m,n,D,Pl,hcs,-,hl,hm,hmm,hx,hel⟩
 ·simp only[Value.cells,List.cons.injEq,and_true,Value.slice.injEq] at hcs
  obtain⟨rfl,rfl,rfl⟩:=hcs
  exact⟨[],⟨none,0,rfl,Or.inl rfl,Nat.le_refl _,by omega⟩,fun x hx=>by simp at hx⟩
 ·simp only[Value.cells,List.cons.injEq,and_true,Value.slice.injEq] at hcs
  obtain⟨rfl,rfl,rfl⟩:=hcs
  simp only[Prod.mk.injEq] at hx
  obtain⟨rfl,rfl⟩:=hx
  have hlm:len<=m:=by rw[hmm];split<;>omega
  obtain⟨o0,k0⟩:=hone_of hone 0 f0 rfl
  obtain⟨o1,k1⟩:=hone_of hone 1 f1 rfl
  obtain⟨o2,k2⟩:=hone_of hone 2 f2 rfl
  obtain⟨o3,k3⟩:=hone_of hone 3 f3 rfl
  have key:∀i,i<len->∃u:Jbm,(∀j x,(Jbm.cells u)[j]? =some x->w.cell? ((a'.add (i*4)).add j)=some x)/\u.Ok:=by
   intro i hi
   obtain⟨cs',hcs,htr⟩:=hel i (by omega)
   rw[hC] at hcs
   obtain⟨-,hlen,hcell⟩:=World.cells?_some hcs
   obtain⟨y0,y1,y2,y3,n',hy,-,t0,t1,t2,t3⟩:=trod_struct4 he htr
   match cs',hlen with
   |[c0,c1,c2,c3],_=>
    simp only[o0,o1,o2,o3,k0,k1,k2,k3] at t0 t1 t2 t3
    obtain⟨x0,e0,g0,b0⟩:=DataW.trod_int h0 t0
    obtain⟨x1,e1,g1,b1⟩:=DataW.trod_int h1 t1
    obtain⟨s2,e2,g2,b2⟩:=DataW.trod_string h2 t2
    obtain⟨x3,e3,g3,b3⟩:=DataW.trod_int h3 t3
    simp at e0 e1 e2 e3
    subst e0 e1 e2 e3
    have q0:=bounds_i64 b0
    have q1:=bounds_i64 b1
    have q3:=bounds_u64 b3
    obtain⟨l2,rfl⟩:=Jqa s2
    have hD:D i=.agg [.lit (.int .i64 x0),.lit (.int .i64 x1),.lit (.string (S l2).data.toList),.lit (.int .u64 x3)]:=by
     have:=congrArg Prod.fst hy
     rw[g0,g1,g2,g3] at this
     exact this
    have hw:∀n∈(D i).weights P e,n<=reachBytes:=fun n hn=>hsz n (by
     simp only[DataW.weights,ht,List.mem_cons,List.mem_append]
     exact Or.inr (Or.inl (Jba (List.mem_map.2 ⟨i,List.mem_range.2 hi,rfl⟩) n hn)))
    rw[hD] at hw
    simp only[DataW.weights,he,DataW.weightsEach,List.map_cons,List.map_nil,List.nil_append,List.append_nil,Jlq] at hw
    have w2:=hw l2.length (by simp)
    have hr:=reachBytes_lt
    refine⟨⟨x0,x1,l2,x3.toNat⟩,fun j x hj=> ?_,⟨q0,q1,by show l2.length<=_;omega,by show x3.toNat<18446744073709551616;omega⟩⟩
    have ex3:((x3.toNat:Nat):Int)=x3:=by omega
    have hj4:j<4:=by have:=(List.getElem?_eq_some_iff.1 hj).1;simpa[Jbm.cells] using this
    rw[hcell j hj4,<-hj]
    simp only[Jbm.cells,ex3]
  obtain⟨U,hU⟩:=choose_lt key
  have hmem:∀u∈(List.range len).map U,∃i,i<len/\u=U i:=fun u hu=>by
   obtain⟨i,hi,rfl⟩:=List.mem_map.1 hu
   exact⟨i,List.mem_range.1 hi,rfl⟩
  have hlen:((List.range len).map U).length=len:=by simp
  refine⟨(List.range len).map U,⟨some a',cap,by rw[hlen],?_,by rw[hlen];exact hl,by unfold maxLen at hm;omega⟩,fun u hu=> ?_⟩
  ·by_cases hp:0<len
   ·have hc0:=(hU 0 hp).1 0 _ rfl
    obtain⟨b,off,spot⟩:=a'
    have hspot:spot=none:=by simpa[Addr.add] using World.cell?_spot hc0
    subst hspot
    refine Or.inr ⟨b,off,rfl,World.block_lt_of_cell? w _ hc0,fun i hi j x hx=> ?_⟩
    have hi':i<len:=by rwa[hlen] at hi
    have:=(hU i hi').1 j x (by simpa using hx)
    rw[Go.WideShapes.add_plain,Go.WideShapes.add_plain] at this
    exact this
   ·exact Or.inl (List.eq_nil_of_length_eq_zero (by omega))
  ·obtain⟨i,hi,rfl⟩:=hmem u hu
   exact(hU i hi).2
open Go.RowKit
def Jz (l:List Ent) (k:List UInt8):Option (List UInt8):=(l.find? fun e=>e.key==k).map Ent.val
def Xs (u:Upd) (o:Option (List UInt8)):Option (List UInt8):=
 if u.check≠0 then o
 else
  let r:=match o with
   |some v=>onL v true u
   |none=>onL [] false u
  if r.2 then some r.1 else none
theorem JcE {l:List Ent} {k:List UInt8} (h:JE Ent.key l k=false):Jz l k=none:=by
 unfold Jz
 rw[Option.map_eq_none_iff,List.find?_eq_none]
 intro e he hk
 have:JE Ent.key l k=true:=X2.2 ⟨e,he,by simpa using hk⟩
 rw[h] at this;exact absurd this (by simp)
theorem Jdc {l:List Ent} (hr:Je Ent.key l) (i:Nat) (hi:i<l.length):Jz l l[i].key=some l[i].val:=by
 unfold Jz
 rw[List.find?_eq_some_iff_getElem.2 ⟨by simp,i,hi,rfl,fun j hj=>by simpa using ZY (hr.lt hj hi)⟩]
 rfl
theorem JbZ {l:List Ent} (hr:Je Ent.key l) (e:Ent) (he:e∈l):Jz l e.key=some e.val:=by
 obtain⟨i,hi,rfl⟩:=List.getElem_of_mem he
 exact Jdc hr i hi
theorem Zy {l:List Ent} {k v:List UInt8} (h:Jz l k=some v):(⟨k,v⟩:Ent)∈l:=by
 unfold Jz at h
 rw[Option.map_eq_some_iff] at h
 obtain⟨e,he,hv⟩:=h
 have h1:=List.find?_some he
 have h2:=List.mem_of_find?_eq_some he
 have:e=⟨k,v⟩:=by cases e;simp at h1 hv;rw[h1,hv]
 rwa[this] at h2
theorem Jbr:∀(a b:List Ent),Je Ent.key a->Je Ent.key b->(∀e,e∈a↔e∈b)->a=b
 |[],[],_,_,_=>rfl
 |[],y::b,_,_,h=>by have:=(h y).2 (by simp);simp at this
 |x::a,[],_,_,h=>by have:=(h x).1 (by simp);simp at this
 |x::a,y::b,ha,hb,h=>by
  have hnx:∀e∈a,e.key≠x.key:=fun e he k=>ZY (ha.cons.1 e he) k.symm
  have hny:∀e∈b,e.key≠y.key:=fun e he k=>ZY (hb.cons.1 e he) k.symm
  have hxy:x=y:=by
   rcases List.mem_cons.1 ((h x).1 (by simp)) with e|h1
   ·exact e
   ·rcases List.mem_cons.1 ((h y).2 (by simp)) with e|h2
    ·exact e.symm
    ·have k1:=ha.cons.1 y h2
     have k2:=hb.cons.1 x h1
     rw[XG k1] at k2
     exact absurd k2 (by simp)
  subst hxy
  rw[Jbr a b ha.cons.2 hb.cons.2 (fun e=> ?_)]
  constructor
  ·intro he
   rcases List.mem_cons.1 ((h e).1 (List.mem_cons_of_mem _ he)) with e'|h1
   ·exact absurd (by rw[e']) (hnx e he)
   ·exact h1
  ·intro he
   rcases List.mem_cons.1 ((h e).2 (List.mem_cons_of_mem _ he)) with e'|h1
   ·exact absurd (by rw[e']) (hny e he)
   ·exact h1
theorem JmT {a b:List Ent} (ha:Je Ent.key a) (hb:Je Ent.key b) (h:∀k,Jz a k=Jz b k):a=b:=
 Jbr a b ha hb fun e=>⟨fun he=>by have:=JbZ ha e he;rw[h] at this;exact Zy this,fun he=>by have:=JbZ hb e he;rw[<-h] at this;exact Zy this⟩
theorem Jfx {l:List Ent} {i:Nat} {u x:Ent}:x∈Jbj l i u↔x=u\/x∈l:=by
 unfold Jbj
 rw[List.mem_append,List.mem_cons]
 have:x∈l↔x∈l.take i\/x∈l.drop i:=by rw[<-List.mem_append,List.take_append_drop]
 rw[this]
 constructor
 ·rintro(h|h|h)
  ·exact Or.inr (Or.inl h)
  ·exact Or.inl h
  ·exact Or.inr (Or.inr h)
 ·rintro(h|h|h)
  ·exact Or.inr (Or.inl h)
  ·exact Or.inl h
  ·exact Or.inr (Or.inr h)
theorem Jei {l:List Ent} {k:List UInt8} (hno:JE Ent.key l k=false):∀x∈l,x.key≠k:=fun x hx e=>by
 have:JE Ent.key l k=true:=X2.2 ⟨x,hx,e⟩
 rw[hno] at this;exact absurd this (by simp)
theorem Jjn {l:List Ent} (hr:Je Ent.key l) (u:Ent) (hno:JE Ent.key l u.key=false):Je Ent.key (Jbj l (below Ent.key l u.key) u):=by
 have hne:=Jei hno
 unfold Jbj
 have h1:∀a∈l.take (below Ent.key l u.key),bl a.key u.key=true:=by
  intro a ha
  obtain⟨i,hi,rfl⟩:=List.getElem_of_mem ha
  rw[List.length_take] at hi
  rw[List.getElem_take]
  exact(hr.below u.key i (by omega)).2 (by omega)
 have h2:∀b∈l.drop (below Ent.key l u.key),bl u.key b.key=true:=by
  intro b hb
  obtain⟨i,hi,rfl⟩:=List.getElem_of_mem hb
  rw[List.length_drop] at hi
  rw[List.getElem_drop]
  have hb':¬bl (l[below Ent.key l u.key+i]'(by omega)).key u.key=true:=by
   rw[hr.below u.key _ (by omega)];omega
  rcases JcO (Bool.not_eq_true _▸hb':bl (l[below Ent.key l u.key+i]'(by omega)).key u.key=false) with e|e
  ·exact absurd e.symm (hne _ (List.getElem_mem _))
  ·exact e
 have h3:Je Ent.key (l.take (below Ent.key l u.key)++l.drop (below Ent.key l u.key)):=by rw[List.take_append_drop];exact hr
 have h4:=List.pairwise_append.1 h3
 refine List.pairwise_append.2 ⟨h4.1,List.pairwise_cons.2 ⟨h2,h4.2.1⟩,fun a ha b hb=> ?_⟩
 rcases List.mem_cons.1 hb with rfl|hb
 ·exact h1 a ha
 ·exact h4.2.2 a ha b hb
theorem Jp0 (l:List Ent) (i:Nat):JaI l i=l.eraseIdx i:=by rw[JaI,List.eraseIdx_eq_take_drop_succ]
theorem JfP (l:List Ent) (i:Nat):(JaI l i).Sublist l:=by rw[Jp0];exact List.eraseIdx_sublist l i
theorem JjD {l:List Ent} (hr:Je Ent.key l) (i:Nat):Je Ent.key (JaI l i):=List.Pairwise.sublist (JfP l i) hr
theorem Jiw {l:List Ent} (hr:Je Ent.key l) (i:Nat) (hi:i<l.length) (y:List UInt8):Je Ent.key (l.set i ⟨l[i].key,y⟩):=by
 have e:∀m:List Ent,Je Ent.key m↔(m.map Ent.key).Pairwise (fun a b=>bl a b=true):=fun m=>by unfold Je;rw[List.pairwise_map]
 rw[e,List.map_set]
 have:(l.map Ent.key).set i l[i].key=l.map Ent.key:=by
  apply List.ext_getElem (by simp)
  intro j h1 h2
  rw[List.getElem_set]
  split
  ·rename_i e;subst e;simp
  ·rfl
 rw[this,<-e]
 exact hr
theorem JaF {l:List Ent} (hr:Je Ent.key l) (k v:List UInt8):Jz l k=some v↔(⟨k,v⟩:Ent)∈l:=⟨Zy,fun h=>JbZ hr _ h⟩
theorem Jjd {l:List Ent} (hr:Je Ent.key l) (k:List UInt8) (o:Option (List UInt8)) (h:∀v,(⟨k,v⟩:Ent)∈l↔o=some v):Jz l k=o:=by
 cases hl:Jz l k with
 |some v=>exact((h v).1 ((JaF hr k v).1 hl)).symm
 |none=>
  cases o with
  |none=>rfl
  |some v=>rw[(JaF hr k v).2 ((h v).2 rfl)] at hl;exact hl.symm
theorem Jjc {l:List Ent} (hr:Je Ent.key l) (i:Nat) (hi:i<l.length) (e:Ent):e∈JaI l i↔e∈l/\e.key≠l[i].key:=by
 constructor
 ·intro h
  refine⟨(JfP l i).subset h,fun hk=> ?_⟩
  unfold JaI at h
  rcases List.mem_append.1 h with h|h
  ·obtain⟨j,hj,rfl⟩:=List.getElem_of_mem h
   rw[List.length_take] at hj
   rw[List.getElem_take] at hk
   exact ZY (hr.lt (show j<i by omega) hi) hk
  ·obtain⟨j,hj,rfl⟩:=List.getElem_of_mem h
   rw[List.length_drop] at hj
   rw[List.getElem_drop] at hk
   exact ZY (hr.lt (show i<i+1+j by omega) (by omega)) hk.symm
 ·rintro⟨h,hk⟩
  obtain⟨j,hj,rfl⟩:=List.getElem_of_mem h
  unfold JaI
  rw[List.mem_append]
  have hji:j≠i:=fun e=>hk (by subst e;rfl)
  rcases Nat.lt_or_ge j i with h1|h1
  ·exact Or.inl (List.mem_take_iff_getElem.2 ⟨j,by omega,rfl⟩)
  ·exact Or.inr (List.mem_drop_iff_getElem.2 ⟨j- (i+1),by omega,by congr 1;omega⟩)
theorem Jfq {l:List Ent} (hr:Je Ent.key l) (i:Nat) (hi:i<l.length) (y:List UInt8) (e:Ent):e∈l.set i ⟨l[i].key,y⟩↔e=⟨l[i].key,y⟩\/(e∈l/\e.key≠l[i].key):=by
 rw[List.mem_iff_getElem]
 constructor
 ·rintro⟨j,hj,he⟩
  rw[List.length_set] at hj
  rw[List.getElem_set] at he
  split at he
  ·exact Or.inl he.symm
  ·rename_i hij
   refine Or.inr ⟨he▸List.getElem_mem hj,fun hk=> ?_⟩
   rw[<-he] at hk
   rcases Nat.lt_or_gt_of_ne hij with h1|h1
   ·exact ZY (hr.lt h1 hj) hk.symm
   ·exact ZY (hr.lt h1 hi) hk
 ·rintro(rfl|⟨h,hk⟩)
  ·exact⟨i,by rw[List.length_set];exact hi,by simp⟩
  ·obtain⟨j,hj,rfl⟩:=List.getElem_of_mem h
   refine⟨j,by rw[List.length_set];exact hj,?_⟩
   rw[List.getElem_set,if_neg (fun e=>hk (by subst e;rfl))]
theorem JaD (l:List Ent) (u:Upd) (hr:Je Ent.key l):
  (onE l u=l/\Xs u (Jz l u.key)=Jz l u.key)\/
  (JE Ent.key l u.key=false/\∃y,Xs u (Jz l u.key)=some y/\onL [] false u=(y,true)/\u.check=0/\onE l u=Jbj l (below Ent.key l u.key) ⟨u.key,y⟩)\/
  (∃(i:Nat) (hi:i<l.length),l[i].key=u.key/\∃y,Xs u (Jz l u.key)=some y/\onL l[i].val true u=(y,true)/\u.check=0/\onE l u=l.set i ⟨l[i].key,y⟩)\/
  (∃(i:Nat) (hi:i<l.length),l[i].key=u.key/\Xs u (Jz l u.key)=none/\onE l u=JaI l i):=by
 by_cases hc:u.check=0
 ·have hc':¬u.check≠0:=by simp[hc]
  unfold onE Jdb Xs
  rw[if_neg hc',if_neg hc']
  cases hh:JE Ent.key l u.key with
  |false=>
   rw[JcE hh]
   cases hy:onL [] false u with
   |mk y is=>cases is<;>simp[hc]
  |true=>
   obtain⟨hlt,hkey⟩:=(hr.found u.key).1 hh
   have ho:JhO l u.key=(l[below Ent.key l u.key]'hlt).val:=by unfold JhO;rw[List.getElem?_eq_getElem hlt];rfl
   have hl:=Jdc hr _ hlt
   rw[hkey] at hl
   rw[hl,ho]
   generalize below Ent.key l u.key=i at*
   cases hy:onL (l[i]'hlt).val true u with
   |mk y is=>
    cases is with
    |true=>exact Or.inr (Or.inr (Or.inl ⟨i,hlt,hkey,y,by simp[hy],hy,hc,by simp[hkey]⟩))
    |false=>exact Or.inr (Or.inr (Or.inr ⟨i,hlt,hkey,by simp[hy],by simp⟩))
 ·left
  unfold onE Xs
  rw[if_pos hc,if_pos hc]
  exact⟨rfl,rfl⟩
theorem JaY {l:List Ent} (hr:Je Ent.key l) (u:Upd):Je Ent.key (onE l u):=by
 rcases JaD l u hr with⟨e,-⟩|⟨hno,y,-,-,-,e⟩|⟨i,hi,-,y,-,-,-,e⟩|⟨i,hi,-,-,e⟩
 ·rw[e];exact hr
 ·rw[e];exact Jjn hr ⟨u.key,y⟩ hno
 ·rw[e];exact Jiw hr i hi y
 ·rw[e];exact JjD hr i
theorem JhM {l:List Ent} (hr:Je Ent.key l) (u:Upd):(onE l u).length<=l.length+1:=by
 rcases JaD l u hr with⟨e,-⟩|⟨hno,y,-,-,-,e⟩|⟨i,hi,-,y,-,-,-,e⟩|⟨i,hi,-,-,e⟩
 ·rw[e];omega
 ·rw[e,Jfy _ _ _ (Xe _ _)];omega
 ·rw[e,List.length_set];omega
 ·rw[e,JjE _ _ hi];omega
def ZI (l:List Ent):Prop:=∀e∈l,1<=e.key.length/\e.key.length<=16/\e.val.length<=32
theorem Jn2 {l:List Ent} (hr:Je Ent.key l) (hf:ZI l) (u:Upd):ZI (onE l u):=by
 rcases JaD l u hr with⟨e,-⟩|⟨hno,y,-,hy,hc,e⟩|⟨i,hi,hk,y,-,hy,hc,e⟩|⟨i,hi,-,-,e⟩
 ·rw[e];exact hf
 ·rw[e]
  intro x hx
  obtain⟨c1,c2,c3,-⟩:=Upd.check_ok hc
  rcases Jfx.1 hx with rfl|hx
  ·have:=Jal [] false u 32 (by simp) c3 (by decide)
   rw[hy] at this
   exact⟨c1,c2,this⟩
  ·exact hf x hx
 ·rw[e]
  intro x hx
  obtain⟨c1,c2,c3,-⟩:=Upd.check_ok hc
  rcases(Jfq hr i hi y x).1 hx with rfl|⟨hx,-⟩
  ·have h0:=hf _ (List.getElem_mem hi)
   have:=Jal l[i].val true u 32 h0.2.2 c3 (by decide)
   rw[hy] at this
   exact⟨h0.1,h0.2.1,this⟩
  ·exact hf x hx
 ·rw[e]
  exact fun x hx=>hf x ((JfP l i).subset hx)
theorem Ji6 {l:List Ent} (hr:Je Ent.key l) (u:Upd) (k:List UInt8):Jz (onE l u) k=if k=u.key then Xs u (Jz l k) else Jz l k:=by
 have hr':=JaY hr u
 by_cases hk:k=u.key
 ·subst hk
  rw[if_pos rfl]
  rcases JaD l u hr with⟨e,h⟩|⟨hno,y,h,-,-,e⟩|⟨i,hi,hki,y,h,-,-,e⟩|⟨i,hi,hki,h,e⟩
  ·rw[e,h]
  ·rw[h]
   exact(JaF hr' _ _).2 (by rw[e];exact Jfx.2 (Or.inl rfl))
  ·rw[h]
   exact(JaF hr' _ _).2 (by rw[e];exact(Jfq hr i hi y _).2 (Or.inl (by rw[hki])))
  ·rw[h]
   refine Jjd hr' _ _ fun v=>⟨fun hm=> ?_,fun hm=>by cases hm⟩
   rw[e] at hm
   exact absurd hki.symm ((Jjc hr i hi _).1 hm).2
 ·rw[if_neg hk]
  refine Jjd hr' _ _ fun v=> ?_
  rw[JaF hr]
  rcases JaD l u hr with⟨e,h⟩|⟨hno,y,h,-,-,e⟩|⟨i,hi,hki,y,h,-,-,e⟩|⟨i,hi,hki,h,e⟩
  ·rw[e]
  ·rw[e,Jfx]
   exact⟨fun h=>h.resolve_left (fun e'=>hk (congrArg Ent.key e')),Or.inr⟩
  ·rw[e,Jfq hr i hi,hki]
   exact⟨fun h=>(h.resolve_left (fun e'=>hk (congrArg Ent.key e'))).1,fun h=>Or.inr ⟨h,hk⟩⟩
  ·rw[e,Jjc hr i hi,hki]
   exact⟨fun h=>h.1,fun h=>⟨h,hk⟩⟩
def Ys (l:List Ent) (us:List Upd):List Ent:=us.foldl onE l
theorem JcB (l:List Ent) (us:List Upd) (u:Upd):Ys l (us++[u])=onE (Ys l us) u:=by simp[Ys]
theorem Jc8 (l:List Ent) (hr:Je Ent.key l) (hf:ZI l):∀us:List Upd,Je Ent.key (Ys l us)/\ZI (Ys l us)/\(Ys l us).length<=l.length+us.length:=by
 intro us
 induction us using Je2 with
 |h0=>exact⟨hr,hf,by simp[Ys]⟩
 |h1 us u ih=>
  obtain⟨h1,h2,h3⟩:=ih
  rw[JcB]
  refine⟨JaY h1 u,Jn2 h1 h2 u,?_⟩
  have:=JhM h1 u
  simp only[List.length_append,List.length_singleton]
  omega
theorem JkN (l:List Ent) (hr:Je Ent.key l) (hf:ZI l):∀us:List Upd,(us.map Upd.key).Nodup->∀k,Jz (Ys l us) k=match us.find? (fun u=>u.key==k) with|some u=>Xs u (Jz l k)|none=>Jz l k:=by
 intro us
 induction us using Je2 with
 |h0=>intro _ k;rfl
 |h1 us u ih=>
  intro hn k
  rw[List.map_append,List.nodup_append] at hn
  have h:=ih hn.1 k
  rw[JcB,Ji6 (Jc8 l hr hf us).1,h,List.find?_append]
  by_cases hk:k=u.key
  ·subst hk
   rw[if_pos rfl]
   have:us.find? (fun v=>v.key==u.key)=none:=by
    rw[List.find?_eq_none]
    intro v hv e
    exact hn.2.2 v.key (List.mem_map.2 ⟨v,hv,rfl⟩) u.key (by simp) (by simpa using e)
   rw[this]
   simp
  ·rw[if_neg hk]
   cases hu:us.find? (fun v=>v.key==k) with
   |some v=>simp
   |none=>
    have:(u.key==k)=false:=by simpa using fun e=>hk e.symm
    simp[this]
open Go.RowKit
attribute [local go_sem ↓] Go.wp_at_zero Go.wp_at_succ
def Jcu (a b:Int):Int:=if b>a then b else a
theorem JnQ {P:Program} (ts:Array TypeId) (t:TypeId) (a b:Int) (w:World):(Builtin.max_ ts t #[.int .i64 a,.int .i64 b]).run P w=.ok (.int .i64 (Jcu a b)) w:=by
 rw[run_max_int2];rfl
def J6 (L m:Nat):Nat:=if L=0 then 1 else(L-1)/m+1
theorem JaW (L m:Nat):0<J6 L m:=by
 unfold J6
 generalize(L-1)/m=q
 split<;>omega
theorem JaA (L m:Nat):J6 L m<=L+1:=by
 unfold J6
 split
 ·omega
 ·have:=Nat.div_le_self (L-1) m;omega
theorem JmL (L:Nat) (hL:L<=100000) (m:Int) (h1:1<=m) (h2:m<=9223372036854775807):Jcu 1 (IntKind.i64.wrap ((IntKind.i64.wrap (IntKind.i64.wrap ((L:Int)+m)-1)).tdiv m))=(J6 L m.toNat:Nat):=by
 obtain⟨k,rfl⟩:∃k:Nat,m=(k:Int):=⟨m.toNat,by omega⟩
 simp only[Int.toNat_natCast]
 have hk:0<k:=by omega
 have hfin:∀x:Int,-9223372036854775808<=x->x<=0->J6 L k=1->Jcu 1 (IntKind.i64.wrap x)=(J6 L k:Nat):=fun x hx0 hx e=>by rw[e,IntWalk.i64_in x (by omega)];unfold Jcu;split<;>omega
 by_cases hs:(L:Int)+k-1<=9223372036854775807
 ·have e:IntKind.i64.wrap (IntKind.i64.wrap ((L:Int)+k)-1)=(L:Int)+k-1:=by
   by_cases h:(L:Int)+k<=9223372036854775807
   ·rw[IntWalk.i64_in ((L:Int)+k) (by omega),IntWalk.i64_in _ (by omega)]
   ·have:(L:Int)+k=9223372036854775808:=by omega
    rw[this];rfl
  rw[e]
  by_cases h0:L=0
  ·subst h0
   have ez:(((0:Nat):Int)+k-1).tdiv k=0:=by
    rw[Int.tdiv_eq_ediv_of_nonneg (by omega)]
    exact Int.ediv_eq_zero_of_lt (by omega) (by omega)
   rw[ez]
   exact hfin 0 (by decide) (by decide) rfl
  ·obtain⟨j,rfl⟩:∃j,L=j+1:=⟨L-1,by omega⟩
   have e2:((j+1:Nat):Int)+k-1=((j+k:Nat):Int):=by omega
   rw[e2,Int.tdiv_eq_ediv_of_nonneg (by omega),<-Int.natCast_ediv,Nat.add_div_right _ hk]
   have e3:J6 (j+1) k=j/k+1:=by unfold J6;rw[if_neg (by omega),Nat.add_sub_cancel]
   have e4:=Nat.div_le_self j k
   rw[e3]
   generalize j/k=q at*
   rw[IntWalk.i64_in _ (by omega)]
   unfold Jcu
   split<;>omega
 ·have hp:J6 L k=1:=by
   unfold J6
   split
   ·rfl
   ·rw[Nat.div_eq_of_lt (by omega)]
  have e1:IntKind.i64.wrap ((L:Int)+k)=(L:Int)+k-18446744073709551616:=by rw[IntKind.wrap_i64];omega
  have e2:IntKind.i64.wrap ((L:Int)+k-18446744073709551616-1)=(L:Int)+k-18446744073709551616-1:=by rw[IntKind.wrap_i64];omega
  rw[e1,e2]
  generalize hx:(L:Int)+k-18446744073709551616-1=x
  have hx0:x<=0:=by omega
  obtain⟨y,rfl⟩:∃y:Nat,x= -(y:Int):=⟨(-x).toNat,by omega⟩
  rw[Int.neg_tdiv,Int.tdiv_eq_ediv_of_nonneg (by omega),<-Int.natCast_ediv]
  have:=Nat.div_le_self y k
  generalize y/k=q at*
  exact hfin _ (by omega) (by omega) hp
def JW (L n k:Nat):Nat:=k*(L/n)+min k (L% n)
def Yy (l:List Ent) (n k:Nat):List Ent:=(l.take (JW l.length n (k+1))).drop (JW l.length n k)
theorem Jd7 (L n:Nat):JW L n 0=0:=by simp[JW]
theorem Jd8 (L n k:Nat):JW L n (k+1)=JW L n k+L/n+(if k<L% n then 1 else 0):=by
 unfold JW
 rw[Nat.succ_mul]
 split<;>omega
theorem Jfi (L n:Nat) (hn:0<n):JW L n n=L:=by
 unfold JW
 have:=Nat.div_add_mod L n
 have h2:=Nat.mod_lt L hn
 rw[Nat.min_eq_right (by omega)]
 exact this
theorem Jd9 (L n k j:Nat) (h:k<=j):JW L n k<=JW L n j:=by
 unfold JW
 have:=Nat.mul_le_mul_right (L/n) h
 omega
theorem JgN (L n k:Nat) (hn:0<n) (h:k<=n):JW L n k<=L:=by
 have:=Jd9 L n k n h
 rwa[Jfi L n hn] at this
theorem Jfh (l:List Ent) (n k:Nat) (hn:0<n) (h:k<n):(Yy l n k).length=l.length/n+(if k<l.length% n then 1 else 0):=by
 unfold Yy
 have h1:=JgN l.length n (k+1) hn (by omega)
 have h2:=Jd8 l.length n k
 rw[List.length_drop,List.length_take,Nat.min_eq_left h1,h2]
 generalize l.length/n=q
 generalize(if k<l.length% n then 1 else 0)=q2
 omega
def Jf5 (w:World) (x:Value) (l:List Ent):Prop:=∃a c B,x=.slice a l.length c/\w.ownsRow B 73 2 (.slice a l.length c) l.length (cellsE l)
theorem Jf5.kept {w w':World} {x:Value} {l:List Ent} (h:Jf5 w x l) (hb:Below w.heap.size w w'):Jf5 w' x l:=by
 obtain⟨a,c,B,e,h⟩:=h
 exact⟨a,c,B,e,Ji h hb⟩
structure ZL (B:Nat) (v:Value) (ls:Nat->List Ent) (n:Nat) (w:World):Prop where
 form:∃vs,w.ownsRow B 99 1 v n vs/\∀j,j<n->∃x,vs[j]? =some x/\Jf5 w x (ls j)
theorem ZL.on {B:Nat} {v:Value} {ls:Nat->List Ent} {n:Nat} {w w':World} (h:ZL B v ls n w) (hb:Below w.heap.size w w'):ZL B v ls n w':=by
 obtain⟨vs,h1,h2⟩:=h
 exact⟨vs,Ji h1 hb,fun j hj=>by obtain⟨x,hx,hp⟩:=h2 j hj;exact⟨x,hx,hp.kept hb⟩⟩
theorem Xl {w:World} {B B':Nat} {E E':TypeId} {k k' n n':Nat} {v v':Value} {xs xs':List Value} (h:w.ownsRow B E k v n xs) (h':w.ownsRow B' E' k' v' n' xs') (hne:E≠E'):v.ownBlock=none\/v.ownBlock≠v'.ownBlock:=by
 rcases Jv h with⟨rfl,-,-⟩|⟨g,cap,cur,rfl,-,hr,-⟩
 ·exact Or.inl rfl
 ·refine Or.inr fun e=> ?_
  rcases Jv h' with⟨rfl,-,-⟩|⟨g',cap',cur',rfl,-,hr',-⟩
  ·simp[Value.ownBlock] at e
  ·simp only[Value.ownBlock,Option.some.injEq] at e
   subst e
   have:=hr.symm.trans hr'
   simp at this
   exact hne this.2
theorem JgL {B B2:Nat} {v v':Value} {ls:Nat->List Ent} {n:Nat} {wr w2 w3:World} {vs:List Value} {a2:Option Addr} {m c2:Nat} {t:TypeId} (h1:wr.ownsRow B 99 1 v n vs) (h2:∀j,j<n->∃x,vs[j]? =some x/\Jf5 wr x (ls j)) (hb:Below wr.heap.size wr w2)
  (hm:m=(ls n).length) (hown2:w2.ownsRow B2 73 2 (.slice a2 m c2) m (cellsE (ls n))) (hown':w3.ownsRow B 99 1 v' (n+1) (vs++[.slice a2 m c2])) (hg:(w2.alloc (.cells #[.slice a2 m c2] t)).grownBy w3 v.ownBlock):ZL B v' ls (n+1) w3:=by
 subst hm
 have hv2:(w2.alloc (.cells #[.slice a2 (ls n).length c2] t)).ownsRow B 99 1 v n vs:=(Ji h1 hb).alloc _
 have hl:vs.length=n:=by have:=h1.1;omega
 refine⟨_,hown',fun j hj=> ?_⟩
 by_cases hjn:j<n
 ·obtain⟨x,hx,a,c,B',e,ho⟩:=h2 j hjn
  refine⟨x,by rw[List.getElem?_append_left (by omega)];exact hx,a,c,B',e,?_⟩
  have ho':(w2.alloc (.cells #[.slice a2 (ls n).length c2] t)).ownsRow B' 73 2 (.slice a (ls j).length c) (ls j).length (cellsE (ls j)):=(Ji ho hb).alloc _
  exact ho'.kept hg (Xl ho' hv2 (by decide))
 ·obtain rfl:j=n:=by omega
  refine⟨.slice a2 (ls j).length c2,by rw[List.getElem?_append_right (by omega),hl];simp,a2,c2,B2,rfl,?_⟩
  have ho':(w2.alloc (.cells #[.slice a2 (ls j).length c2] t)).ownsRow B2 73 2 (.slice a2 (ls j).length c2) (ls j).length (cellsE (ls j)):=hown2.alloc _
  exact ho'.kept hg (Xl ho' hv2 (by decide))
theorem Jrn:Tryz.prog.elem 43=73:=by kernel_rfl
theorem Jqx:Tryz.prog.underlying 43=some (.slice (Tryz.prog.elem 43)):=by rw[Jrn];exact Tryz.underlying43
theorem Jmt (w:World):(sizeOf (Tryz.prog.elem 43)).run Tryz.prog w=.ok 2 w:=by kernel_rfl
theorem JmM (ao:Option Addr) (n c i k:Nat) (l:List Ent) (w:World) (hs:JC Ent.cells 2 w ao l) (hl:l.length=n) (hnc:n<=c) (hc:(c:Int)<=9223372036854775807) (hik:i<=k) (hkn:k<=n) (hno:ao=none->c=0):
  ∃A,(∀w,(Instr.slice 43 (.slice ao n c) (some (.int .i64 (i:Int))) (some (.int .i64 (k:Int))) none).run Tryz.prog w=.ok (.slice A (k-i) (c-i)) w)/\SlE w (.slice A (k-i) (c-i)) ((l.drop i).take (k-i)):=by
 have hlen:((l.drop i).take (k-i)).length=k-i:=by rw[List.length_take,List.length_drop];omega
 refine⟨if c=i then ao else ao.map (·.add (i*2)),fun w=> ?_,?_⟩
 ·rw[run_slice_lh w 43 ao n c Jqx .i64 .i64 i k (by omega) (by omega) (by omega)]
  rw[Jmt];rfl
 ·refine⟨_,c-i,by rw[hlen],?_,by rw[hlen];omega,by omega,fun e=> ?_⟩
  ·by_cases h0:i<n
   ·rw[if_neg (by omega)]
    obtain⟨b,off,rfl,hb,hcc⟩:=hs.at (by omega)
    rw[show(some (⟨b,off,none⟩:Addr)).map (·.add (i*2))=some ⟨b,off+i*2,none⟩ by simp[Addr.add]]
    exact(hs.drop i b off rfl).cut _
   ·exact Or.inl (List.eq_nil_of_length_eq_zero (by omega))
  ·by_cases h0:c=i
   ·omega
   ·rw[if_neg h0] at e
    cases ao with
    |none=>have:=hno rfl;omega
    |some a=>simp at e
theorem cell_one_new (w:World) (x:Value) (t:TypeId):∀j v,[x][j]? =some v->(w.alloc (.cells #[x] t)).cell? ((⟨w.heap.size,0,none⟩:Addr).add j)=some v:=by
 intro j v hj
 match j,hj with
 |0,hj=>simp at hj;subst hj;simp[Addr.add]
theorem Jrh:(Tryz.prog.info? 99).map (fun i=>(i.zero,i.size,i.bytes))=some (some (.agg #[.slice none 0 0]),1,24):=by kernel_rfl
theorem JmK (v:Value) (l:List Ent) (most:Int) (w:World) (hv:Zq w v l) (hl:l.length<=100000) (hm:most<=9223372036854775807):
  Calls Tryz.prog 97 #[v,.int .i64 most] w fun e w'=>(∃v',e=.returned v'/\ZL w.heap.size v' (Yy l (J6 l.length (Jcu most 1).toNat)) (J6 l.length (Jcu most 1).toNat) w')/\Below w.heap.size w w':=by
 have hmax:=fun ts t a b w=>JnQ (P:=Tryz.prog) ts t a b w
 obtain⟨i0,hi,hz0,hz1,hzb⟩:=info_parts Jrh
 have h1:1<=Jcu most 1:=by unfold Jcu;split<;>omega
 have h2:Jcu most 1<=9223372036854775807:=by unfold Jcu;split<;>omega
 have hn:=JmL l.length hl (Jcu most 1) h1 h2
 simp only[IntWalk.i64_left] at hn
 obtain⟨m,hmd⟩:∃m,Jcu most 1=m:=⟨_,rfl⟩
 rw[hmd] at hn h1 h2⊢
 have hpos:=JaW l.length m.toNat
 have hle:=JaA l.length m.toNat
 generalize J6 l.length m.toNat=n at*
 obtain⟨s,rfl,hs⟩:=hv
 have HS:=Lib.hid hs
 obtain⟨ao,c,rfl,hs0,hc1,hc2,hcn⟩:=hs
 have hn0:¬(n:Int)=0:=by omega
 have hm0:¬m=0:=by omega
 clear hs0 hcn h1 h2
 go_enter Tryz.func97,Tryz.ntmps97
 go_wp2_with fail
 go_quiet (fail)
 go_wp2_with fail
 have hqn:=Nat.div_le_self l.length n
 have hrn:=Nat.mod_lt l.length hpos
 have hq:wrap64 ((l.length:Int)/(n:Int))=((l.length/n:Nat):Int):=by rw[<-Int.natCast_ediv];generalize l.length/n=q at*;exact IntWalk.wrap64_in _ (by omega)
 have hr:(l.length:Int)%(n:Int)=((l.length% n:Nat):Int):=by rw[Int.natCast_emod]
 rw[hq,hr]
 have hat:∀k,k<n->JW l.length n (k+1)=JW l.length n k+l.length/n+(if k<l.length% n then 1 else 0)/\JW l.length n (k+1)<=l.length:=fun k hk=>⟨Jd8 _ _ _,JgN _ _ _ hpos (by omega)⟩
 have HAT:=Lib.hid hat
 have hpl:=Lib.hid (fun k (hk:k<n)=>Jfh l n k hpos hk)
 clear hat hq hr hmax hn
 have hW:Below (w.heap.size+1) (w.alloc (.cells #[.slice ao l.length c] 99)) ((w.alloc (.cells #[.slice ao l.length c] 99)).drewN nq):=JS (Below.refl _ _) nq
 generalize hq:l.length/n=q at*
 generalize hr:l.length% n=r at*
 go_loopw [34,8,9] (fun i v s wr=>∃k:Nat,i=.int .i64 k/\k<=n/\s=.int .i64 (JW l.length n k:Nat)/\ZL (w.heap.size+1) v (Yy l n) k wr/\Below (w.heap.size+1) (w.alloc (.cells #[.slice ao l.length c] 99)) wr) (fun i _ _ _=>n- (intOf i).toNat)
 case atStart=>exact⟨0,rfl,Nat.zero_le _,by rw[Jd7];rfl,⟨[],World.ownsRow_nil _ _ _ _,fun j hj=>absurd hj (Nat.not_lt_zero j)⟩,hW⟩
 case round=>
  obtain⟨k,rfl,hk,rfl,hP,hB⟩:=hrel
  have hk0:(0:Int)<=(k:Int):=Int.natCast_nonneg _
  have p0:wr.cell? ⟨w.heap.size,0,none⟩=some (.slice ao l.length c):=(Jh hB (by omega) 0).trans (by simp)
  by_cases hkn:k<n
  ·have hk1:(k:Int)<(n:Int):=by omega
   obtain⟨e1,e2⟩:=HAT.out k hkn
   obtain⟨vs,hv1,hv2⟩:=hP
   have HV:=Lib.hid hv2
   have hbz:Below w.heap.size w wr:=((Below.refl w.heap.size w).alloc (Nat.le_refl _) _).trans (hB.mono (by omega))
   have hSr:=Lib.hid (HS.out.kept hbz (Nat.le_refl _))
   obtain⟨ao',c',e',hs0,-,-,hcn⟩:=hSr.out
   simp only[Value.slice.injEq] at e'
   obtain⟨rfl,-,rfl⟩:=e'
   obtain⟨A,hA1,hA2⟩:=JmM ao l.length c (JW l.length n k) (JW l.length n (k+1)) l wr hs0 rfl hc1 hc2 (by omega) e2 hcn
   have hpl':=hpl.out k hkn
   have hdef:(l.drop (JW l.length n k)).take (JW l.length n (k+1)-JW l.length n k)=Yy l n k:=by rw[Yy,List.drop_take]
   rw[hdef] at hA2
   have hAl:(Yy l n k).length<=1000000:=by rw[hpl'];split<;>omega
   obtain⟨d,hd⟩:∃d,JW l.length n (k+1)-JW l.length n k=d:=⟨_,rfl⟩
   rw[hd] at hA1 hA2
   clear hdef hpl' hd
   by_cases hkr:k<r
   ·rw[if_pos hkr] at e1
    have hkr1:(k:Int)<(r:Int):=by omega
    have hto:((JW l.length n (k+1):Nat):Int)=(JW l.length n k:Nat)+(q:Int)+1:=by omega
    rw[hto] at hA1
    have hto':=Lib.hid hto
    have hw1:IntKind.i64.wrap (((JW l.length n k:Nat):Int)+(q:Int))=((JW l.length n k:Nat):Int)+(q:Int):=IntWalk.i64_in _ (by omega)
    have hw2:IntKind.i64.wrap (((JW l.length n k:Nat):Int)+(q:Int)+1)=((JW l.length n k:Nat):Int)+(q:Int)+1:=IntWalk.i64_in _ (by omega)
    clear hto e1
    obtain⟨a0,c0,e0⟩:=Jm hv1
    subst e0
    have hAt:=Lib.hid hA2
    clear hA2 hs0 hv2
    go_wp2_with (first
     |(go_at_call 127;go_must (refine(Jh8 _ (Yy l n k) _ hAt.out hAl).mono ?_;rintro e w2 ⟨⟨v2,rfl,hown2⟩,hB2⟩;obtain⟨a2,c2,e2⟩:=Jm hown2;subst e2))
     |(at_builtin;go_must (refine wpList_append_own_at _ rfl _ _ 190 rfl (w.heap.size+1) 99 i0 (.agg #[.slice none 0 0]) 1 24 Tryz.underlying190 hi hz0 hz1 hzb rfl (by decide) _ k vs rfl ((Ji hv1 hB2).alloc _) ⟨w2.heap.size,0,none⟩ 1 1 [.slice a2 (Yy l n k).length c2] rfl rfl (cell_one_new _ _ _) (by simp[Value.oneCell']) (by unfold maxLen;omega) (by omega) (by have:=hB2.size;have:=hB.size;simp at this⊢;omega) ?_;intro v' w3 hown' hgrow hnil hat)))
    have hP3:=JgL hv1 HV.out hB2 rfl hown2 hown' hgrow
    have hB3:=Ju ((hB.trans (hB2.mono (by have:=hB.size;simp at this;omega))).alloc (by have:=hB2.size;have:=hB.size;simp at this⊢;omega) (.cells #[.slice a2 (Yy l n k).length c2] 99)) hgrow (fun j e=>((Ji hv1 hB2).lt j e).1) (by have:=hB2.size;have:=hB.size;simp at this⊢;omega)
    go_roundw
    (case rel=>exact(⟨k+1,by go_num,by omega,by rw[hto'.out],hP3,hB3⟩))
    (case measure=>first|(simp[intOf];done)|(simp[intOf];omega))
   ·rw[if_neg hkr] at e1
    have hkr1:¬(k:Int)<(r:Int):=by omega
    have hto:((JW l.length n (k+1):Nat):Int)=(JW l.length n k:Nat)+(q:Int):=by omega
    rw[hto] at hA1
    have hto':=Lib.hid hto
    have hw1:IntKind.i64.wrap (((JW l.length n k:Nat):Int)+(q:Int))=((JW l.length n k:Nat):Int)+(q:Int):=IntWalk.i64_in _ (by omega)
    clear hto e1
    obtain⟨a0,c0,e0⟩:=Jm hv1
    subst e0
    have hAt:=Lib.hid hA2
    clear hA2 hs0 hv2
    go_wp2_with (first
     |(go_at_call 127;go_must (refine(Jh8 _ (Yy l n k) _ hAt.out hAl).mono ?_;rintro e w2 ⟨⟨v2,rfl,hown2⟩,hB2⟩;obtain⟨a2,c2,e2⟩:=Jm hown2;subst e2))
     |(at_builtin;go_must (refine wpList_append_own_at _ rfl _ _ 190 rfl (w.heap.size+1) 99 i0 (.agg #[.slice none 0 0]) 1 24 Tryz.underlying190 hi hz0 hz1 hzb rfl (by decide) _ k vs rfl ((Ji hv1 hB2).alloc _) ⟨w2.heap.size,0,none⟩ 1 1 [.slice a2 (Yy l n k).length c2] rfl rfl (cell_one_new _ _ _) (by simp[Value.oneCell']) (by unfold maxLen;omega) (by omega) (by have:=hB2.size;have:=hB.size;simp at this⊢;omega) ?_;intro v' w3 hown' hgrow hnil hat)))
    have hP3:=JgL hv1 HV.out hB2 rfl hown2 hown' hgrow
    have hB3:=Ju ((hB.trans (hB2.mono (by have:=hB.size;simp at this;omega))).alloc (by have:=hB2.size;have:=hB.size;simp at this⊢;omega) (.cells #[.slice a2 (Yy l n k).length c2] 99)) hgrow (fun j e=>((Ji hv1 hB2).lt j e).1) (by have:=hB2.size;have:=hB.size;simp at this⊢;omega)
    go_roundw
    (case rel=>exact(⟨k+1,by go_num,by omega,by rw[hto'.out],hP3,hB3⟩))
    (case measure=>first|(simp[intOf];done)|(simp[intOf];omega))
  ·obtain rfl:k=n:=by omega
   obtain⟨vs,hv1,hv2⟩:=hP
   obtain⟨a3,c3,e3⟩:=Jm hv1
   subst e3
   go_wp2_with fail
   go_ret
   exact⟨⟨_,rfl,vs,JI hv1 (by omega),hv2⟩,((Below.refl w.heap.size w).alloc (Nat.le_refl _) _).trans (hB.mono (by omega))⟩
end Go.Proofs.YtafciefjlkdecaaGreat
namespace Go.Proofs.YtafciefjlkdecaaGreat
open Go.RowKit
def Jcg:Option (List UInt8)->Value
 |none=>.tuple #[.string (S []),.bool false]
 |some v=>.tuple #[.string (S v),.bool true]
theorem JC.cells2 {w:World} {ao:Option Addr} {l:List Ent} (hs:JC Ent.cells 2 w ao l) (i:Nat) (hi:i<l.length):
  ∃b off,ao=some ⟨b,off,none⟩/\b<w.heap.size/\w.cell? ⟨b,off+i*2,none⟩=some (.string (S l[i].key))/\w.cell? ⟨b,off+i*2+1,none⟩=some (.string (S l[i].val)):=by
 obtain⟨b,off,rfl,hb,hc⟩:=hs.at (by omega)
 obtain⟨h0,h1⟩:=JfJ hc i hi
 exact⟨b,off,rfl,hb,h0,h1⟩
theorem Jm5 (v:Value) (l:List Ent) (k:List UInt8) (w:World) (hv:Zq w v l) (hl:l.length<=100000) (hr:Je Ent.key l) (hno:JE Ent.key l k=false):
  Calls Tryz.prog 51 #[v,.string (S k)] w fun e w'=>e=.returned (Jcg none)/\Below w.heap.size w w':=by
 have hfind:=fun w hv=>Jg5 v l k w hv (by omega) hr
 rw[hno] at hfind
 obtain⟨s,rfl,hs⟩:=hv
 have HF:=Lib.hid hfind
 have HS:=Lib.hid hs
 obtain⟨ao,c,rfl,hs0,hc1,hc2,hn⟩:=hs
 clear hfind hn hs0 hr
 go_enter Tryz.func51,Tryz.ntmps51
 go_wp2_with fail
 refine(Jl (HF.out _ ⟨_,rfl,HS.out.kept (by go_grown) (Nat.le_refl _)⟩) w.heap.size w (by go_grown) (by go_grown)).mono ?_
 rintro e w1 ⟨rfl,hB1,-,-,-,-⟩
 go_wp2_with fail
 exact bodyPost_ret (v:=Jcg none) (by simp[results,Tryz.results51,go_sem,Jcg];rfl) rfl ⟨rfl,hB1⟩
theorem Jm4 (v:Value) (l:List Ent) (i:Nat) (hi:i<l.length) (u:Ent) (hu:l[i]=u) (k:List UInt8) (w:World) (hv:Zq w v l) (hl:l.length<=100000) (hr:Je Ent.key l) (hb:below Ent.key l k=i) (hno:JE Ent.key l k=true):
  Calls Tryz.prog 51 #[v,.string (S k)] w fun e w'=>e=.returned (Jcg (some u.val))/\Below w.heap.size w w':=by
 have hfind:=fun w hv=>Jg5 v l k w hv (by omega) hr
 rw[hno,hb] at hfind
 obtain⟨s,rfl,hs⟩:=hv
 have HF:=Lib.hid hfind
 have HS:=Lib.hid hs
 obtain⟨ao,c,rfl,hs0,hc1,hc2,hn⟩:=hs
 clear hfind hn hr
 have hcl:=JC.cells2 hs0 i hi
 obtain⟨b,off,rfl,hbl,t0,t1⟩:=hcl
 clear hs0
 rw[hu] at t0 t1
 go_enter Tryz.func51,Tryz.ntmps51
 go_wp2_with fail
 refine(Jl (HF.out _ ⟨_,rfl,HS.out.kept (by go_grown) (Nat.le_refl _)⟩) w.heap.size w (by go_grown) (by go_grown)).mono ?_
 rintro e w1 ⟨rfl,hB1,hk1,hf1,hs1,hz1⟩
 have p0:=(hk1 w.heap.size 0 (by first|(simp;done)|(simp;omega))).trans (by simp[go_sem];rfl)
 have q0:=(Jh hB1 hbl _).trans t0
 have q1:=(Jh hB1 hbl _).trans t1
 clear hk1 hf1 hs1
 have hi0:(0:Int)<=(i:Int):=by omega
 have hi1:(i:Int)<(l.length:Int):=by omega
 clear hb hno t0 t1 hu
 go_wp2_with fail
 exact bodyPost_ret (v:=Jcg (some u.val)) (by simp[results,Tryz.results51,go_sem,Jcg]) rfl ⟨rfl,hB1⟩
theorem Jjx (v:Value) (l:List Ent) (k:List UInt8) (w:World) (hv:Zq w v l) (hl:l.length<=100000) (hr:Je Ent.key l):
  Calls Tryz.prog 51 #[v,.string (S k)] w fun e w'=>e=.returned (Jcg (Jz l k))/\Below w.heap.size w w':=by
 cases hh:JE Ent.key l k with
 |false=>rw[JcE hh];exact Jm5 v l k w hv hl hr hh
 |true=>
  obtain⟨hlt,hkey⟩:=(hr.found k).1 hh
  have e:Jz l k=some (l[below Ent.key l k]'hlt).val:=by
   have:=Jdc hr _ hlt
   rwa[hkey] at this
  rw[e]
  exact Jm4 v l _ hlt _ rfl k w hv hl hr rfl hh
open Go.RowKit
attribute [local go_sem ↓] Go.wp_at_zero Go.wp_at_succ
theorem JcG (v:Value) (l:List Ent) (s:Value) (us:List Upd) (w:World) (hv:Zq w v l) (hl:l.length<=10000) (hr:Je Ent.key l) (hf:ZI l) (hs:SlU w s us) (hu:∀u∈us,u.Wf) (hul:us.length<=10000):
  Calls Tryz.prog 66 #[v,s] w fun e w'=>(∃a c,e=.returned (.agg #[.slice a (Ys l us).length c])/\Zq w' (.agg #[.slice a (Ys l us).length c]) (Ys l us))/\Below w.heap.size w w':=by
 obtain⟨s0,rfl,hs0⟩:=hv
 have HL:=Lib.hid (fun w (h:SlE w s0 l)=>Jn8 (.agg #[s0]) l w ⟨s0,rfl,h⟩ (by omega))
 have HS0:=Lib.hid hs0
 have HS:=Lib.hid hs
 obtain⟨ua,uc,rfl,-,hc1,hc2,hcn⟩:=hs
 obtain⟨sa,sc,rfl,-,hd1,hd2,hdn⟩:=hs0
 clear hcn hdn
 go_enter Tryz.func66,Tryz.ntmps66
 go_wp2_with fail
 refine(Jl (HL.out _ (HS0.out.kept (by go_grown) (Nat.le_refl _))) w.heap.size w (by go_grown) (by go_grown)).mono ?_
 rintro e w1 ⟨⟨v',rfl,hown⟩,hB1,hk1,hf1,hs1,hz1⟩
 obtain⟨a1,c1,e1⟩:=Jm hown
 subst e1
 have hs1':w.heap.size+1<w1.heap.size:=by simp at hs1;omega
 have hown:=JI (B':=w.heap.size+2) hown (by simp)
 have hL0:Y7 (w.heap.size+2) w1.heap.size l (w1.alloc (.cells #[.slice a1 l.length c1] 99)):=⟨⟨a1,c1,by simp,hown.alloc _,fun e=>by have:=(hown.lt _ e).2;omega⟩,by simp,by simp,by omega⟩
 have r5:w1.cell? ⟨w.heap.size+1,0,none⟩=some (.slice none 0 0):=(hk1 (w.heap.size+1) 0 (by simp)).trans (by simp)
 have r6:w1.frozen? ⟨w.heap.size+1,0,none⟩=false:=(hf1 (w.heap.size+1) 0 (by simp)).trans (by simp)
 have HB1:=Lib.hid hB1
 clear hk1 hf1 hs1 hown hB1
 go_wp2_with fail
 go_loopw [13] (fun i wr=>∃k:Nat,i=.int .i64 k/\k<=us.length/\Y7 (w.heap.size+2) w1.heap.size (Ys l (us.take k)) wr/\Below (w.heap.size+2) w1 wr) (fun i _=>us.length- (intOf i).toNat)
 case atStart=>exact⟨0,rfl,Nat.zero_le _,hL0,by go_grown⟩
 case round=>
  obtain⟨k,rfl,hk,hL,hB⟩:=hrel
  have hk0:(0:Int)<=(k:Int):=Int.natCast_nonneg _
  obtain⟨o1,o2,o3⟩:=Jc8 l hr hf (us.take k)
  have hlen:=Lib.hid (show(Ys l (us.take k)).length<=100000 by rw[List.length_take] at o3;omega)
  clear o3
  by_cases hku:k<us.length
  ·have hk1:(k:Int)<(us.length:Int):=by omega
   obtain⟨b,off,rfl,hb,t0,t1,t2,t3⟩:=SlU.cells4 (HS.out.kept (HB1.out.trans (hB.mono (by omega))) (Nat.le_refl _)) k hku
   have hsn:=Lib.hid (List.take_succ_eq_append_getElem hku)
   obtain⟨hw1,hw2⟩:=hu _ (List.getElem_mem hku)
   generalize us[k]=u at*
   have hon:=Lib.hid (Jpz (w.heap.size+2) w1.heap.size _ u.kind u.key u.val u.delta (wr.alloc (.cells #[.int .u8 u.kind,.string (S u.key),.string (S u.val),.int .u64 u.delta] 39)) (hL.on (by go_grown)) hlen.out o1 (fun e he=>by have:=(o2 e he).2.2;omega) hw1 hw2)
   have hz:=hL.le
   clear hL
   go_wp2_with fail
   refine(hon.out).mono ?_
   rintro e w2 ⟨rfl,hL2,hB2⟩
   have hB3:=hB.trans ((Below.refl _ _).alloc hz _|>.trans hB2)
   go_wp2_with fail
   go_roundw
   (case rel=>exact(⟨k+1,by go_num,by omega,by rw[hsn.out,JcB];exact hL2,hB3⟩))
   (case measure=>first|(simp[intOf];done)|(simp[intOf];omega))
  ·obtain rfl:k=us.length:=by omega
   rw[List.take_length] at hL
   obtain⟨⟨a,c,h1,h2,h3⟩,h4,h5,h6⟩:=hL
   have r7:=(Jh hB (show w.heap.size+1<w.heap.size+2 by omega) 0).trans r5
   have r8:wr.frozen? ⟨w.heap.size+1,0,none⟩=false:=(World.frozen?_of_block (hB.block (w.heap.size+1) (by omega))).trans r6
   have hne:(Value.slice a (Ys l us).length c).ownBlock≠some (w.heap.size+1):=fun e=>by have:=(h2.lt _ e).1;omega
   have hbox:=fun u=>Zq.of_own (ownsRow_setCell_other (a:=⟨w.heap.size+1,0,none⟩) h2 hne u)
   have hlow:=(HB1.out.trans (hB.mono (by omega))).setCell (p:=⟨w.heap.size+1,0,none⟩) (by show w.heap.size<=w.heap.size+1;omega) (.slice a (Ys l us).length c)
   have Hbox:=Lib.hid hbox
   have Hlow:=Lib.hid hlow
   clear hbox hlow h2 h3 h4 hlen o1 o2
   go_wp2_with fail
   exact bodyPost_ret (v:=.agg #[.slice a (Ys l us).length c]) (by simp[results,Tryz.results66,go_sem,r7]) rfl ⟨⟨a,c,rfl,Hbox.out _⟩,Hlow.out⟩
open Go.RowKit
attribute [local go_sem ↓] Go.wp_at_zero Go.wp_at_succ
def okB (e:Ent):Bool:= !e.key.isEmpty&&(decide (e.key.length<=16)&&decide (e.val.length<=32))
theorem Jc9 (e:Ent):okB e=true↔1<=e.key.length/\e.key.length<=16/\e.val.length<=32:=by
 unfold okB
 cases h:e.key<;>simp
theorem JiH (k v:List UInt8) (w:World):
  Calls Tryz.prog 150 #[.agg #[.string (S k),.string (S v)]] w fun e w'=>e=.returned (.bool (okB ⟨k,v⟩))/\Below w.heap.size w w':=by
 by_cases h0:k=[]
 ·have he:k.isEmpty=true:=by rw[h0];rfl
  have H:=Lib.hid (show okB ⟨k,v⟩=false by simp[okB,he])
  go_enter Tryz.func150,Tryz.ntmps150
  go_wp2
  all_goals (go_ret;exact⟨Jaz (by rw[H.out]),by go_grown⟩)
 ·have he:k.isEmpty=false:=by cases hk:k<;>simp[hk] at h0⊢
  by_cases h1:k.length<=16
  ·have H:=Lib.hid (show okB ⟨k,v⟩=decide (v.length<=32) by simp[okB,he,h1])
   go_enter Tryz.func150,Tryz.ntmps150
   go_wp2
   all_goals (go_ret;exact⟨Jaz (by rw[H.out,Bool.eq_iff_iff];simp;omega),by go_grown⟩)
  ·have H:=Lib.hid (show okB ⟨k,v⟩=false by simp[okB,h1])
   go_enter Tryz.func150,Tryz.ntmps150
   go_wp2
   all_goals (go_ret;exact⟨Jaz (by rw[H.out]),by go_grown⟩)
def XJ (l:List Ent):Prop:=ZI l/\Je Ent.key l
theorem JgC:XJ []:=⟨fun e he=>by simp at he,List.Pairwise.nil⟩
theorem right_not {l:List Ent} {j:Nat} (h:¬XJ (l.take j)):¬XJ l:=fun hr=>
 h ⟨fun e he=>hr.1 e (List.mem_of_mem_take he),hr.2.sublist (List.take_sublist j l)⟩
theorem Je7 (l:List Ent) (j:Nat) (hj:j<l.length) (h:XJ (l.take j)):
  XJ (l.take (j+1))↔okB l[j]=true/\(∀h0:0<j,bl (l[j-1]'(by omega)).key l[j].key=true):=by
 rw[List.take_succ_eq_append_getElem hj,Jc9]
 constructor
 ·rintro⟨h1,h2⟩
  refine⟨h1 _ (List.mem_append_right _ (List.mem_singleton.2 rfl)),fun h0=> ?_⟩
  have h3:=(List.pairwise_append.1 h2).2.2
  refine h3 (l[j-1]'(by omega)) ?_ l[j] (List.mem_singleton.2 rfl)
  rw[List.mem_take_iff_getElem]
  exact⟨j-1,by omega,rfl⟩
 ·rintro⟨h1,h2⟩
  refine⟨fun e he=> ?_,List.pairwise_append.2 ⟨h.2,by simp,fun a ha b hb=> ?_⟩⟩
  ·rcases List.mem_append.1 he with he|he
   ·exact h.1 e he
   ·rw[List.mem_singleton] at he;rw[he];exact h1
  ·rw[List.mem_singleton] at hb
   subst hb
   obtain⟨i,hi,rfl⟩:=List.mem_take_iff_getElem.1 ha
   have h3:=h2 (by omega)
   by_cases e:i=j-1
   ·subst e;exact h3
   ·have h4:=Je.lt h.2 (show i<j-1 by omega) (by rw[List.length_take];omega)
    simp only[List.getElem_take] at h4
    exact J4 h4 h3
end Go.Proofs.YtafciefjlkdecaaGreat
namespace Go.Proofs.YtafciefjlkdecaaGreat
open Go.RowKit
def XM (s:List UInt8):Option (Ent×List UInt8):=
 if(Jr s).2.2&&(Jr (Jr s).2.1).2.2 then some (⟨(Jr s).1,(Jr (Jr s).2.1).1⟩,(Jr (Jr s).2.1).2.1) else none
theorem Jgy {s r:List UInt8} {e:Ent} (h:XM s=some (e,r)):r.length+1<s.length+1:=by
 unfold XM at h
 split at h
 ·rename_i hc
  simp only[Bool.and_eq_true] at hc
  simp only[Option.some.injEq,Prod.mk.injEq] at h
  have h1:=(Y3 s).2 hc.1
  have h2:=(Y3 (Jr s).2.1).1
  rw[h.2] at h2
  omega
 ·simp at h
def JhG:Nat->List UInt8->Option (List Ent)
 |0,_=>some []
 |n+1,s=>if s=[] then some [] else match XM s with
  |none=>none
  |some (e,r)=>(JhG n r).map fun l=>e::l
theorem JgG:∀(n m:Nat) (s:List UInt8),s.length<=n->s.length<=m->JhG n s=JhG m s
 |0,0,_,_,_=>rfl
 |0,m+1,s,h,_=>by
  have:s=[]:=List.eq_nil_of_length_eq_zero (by omega)
  simp[JhG,this]
 |n+1,0,s,_,h=>by
  have:s=[]:=List.eq_nil_of_length_eq_zero (by omega)
  simp[JhG,this]
 |n+1,m+1,s,h,k=>by
  unfold JhG
  by_cases h0:s=[]
  ·simp[h0]
  ·rw[if_neg h0,if_neg h0]
   cases hs:XM s with
   |none=>rfl
   |some p=>
    obtain⟨e,r⟩:=p
    have:=Jgy hs
    simp only
    rw[JgG n m r (by omega) (by omega)]
def Z1 (s:List UInt8):Option (List Ent):=JhG s.length s
theorem JiP:Z1 []=some []:=rfl
theorem JmG {s:List UInt8} (h0:s≠[]) (h:XM s=none):Z1 s=none:=by
 unfold Z1
 cases hl:s.length with
 |zero=>exact absurd (List.eq_nil_of_length_eq_zero hl) h0
 |succ n=>simp[JhG,h0,h]
theorem JgI {s r:List UInt8} {e:Ent} (h0:s≠[]) (h:XM s=some (e,r)):Z1 s=(Z1 r).map fun l=>e::l:=by
 have hlt:=Jgy h
 unfold Z1
 cases hl:s.length with
 |zero=>exact absurd (List.eq_nil_of_length_eq_zero hl) h0
 |succ n=>
  conv=>lhs;unfold JhG
  rw[if_neg h0,h]
  simp only
  rw[JgG n r.length r (by omega) (Nat.le_refl _)]
theorem JiO {s0 s r:List UInt8} {acc:List Ent} {e:Ent} (h:Z1 s0=(Z1 s).map fun l=>acc++l) (h0:s≠[]) (k:XM s=some (e,r)):Z1 s0=(Z1 r).map fun l=>(acc++[e])++l:=by
 rw[h,JgI h0 k]
 cases Z1 r<;>simp
theorem JiN {s0 s:List UInt8} {acc:List Ent} (h:Z1 s0=(Z1 s).map fun l=>acc++l) (h0:s≠[]) (k:XM s=none):Z1 s0=none:=by
 rw[h,JmG h0 k];rfl
theorem JlG {s0:List UInt8} {acc:List Ent} (h:Z1 s0=(Z1 []).map fun l=>acc++l):Z1 s0=some acc:=by
 rw[h,JiP];simp
def Jaq (l:List Ent):Bool:=l.all okB&&decide (l.Pairwise fun a b=>bl a.key b.key=true)
theorem Jcx (l:List Ent):Jaq l=true↔XJ l:=by
 unfold Jaq XJ ZI Je
 rw[Bool.and_eq_true,List.all_eq_true,decide_eq_true_iff]
 constructor
 ·rintro⟨h1,h2⟩;exact⟨fun e he=>(Jc9 e).1 (h1 e he),h2⟩
 ·rintro⟨h1,h2⟩;exact⟨fun e he=>(Jc9 e).2 (h1 e he),h2⟩
def ZO (s:List UInt8):List Ent×Nat:=
 match Z1 s with
 |none=>([],4)
 |some l=>if Jaq l then(l,0) else([],4)
theorem Jeb {s:List UInt8} (h:Z1 s=none):ZO s=([],4):=by simp[ZO,h]
theorem Jfl {s:List UInt8} {l:List Ent} (h:Z1 s=some l) (k:Jaq l=false):ZO s=([],4):=by simp[ZO,h,k]
theorem JdF {s:List UInt8} {l:List Ent} (h:Z1 s=some l) (k:Jaq l=true):ZO s=(l,0):=by simp[ZO,h,k]
open Go.RowKit
attribute [local go_sem ↓] Go.wp_at_zero Go.wp_at_succ
theorem JhC (ao:Option Addr) (c:Nat) (l:List Ent) (bo:Bool) (hbo:bo=true↔XJ l) (w:World) (hl:l.length<=1000000) (hs:JC Ent.cells 2 w ao l):
  Calls Tryz.prog 61 #[.slice ao l.length c] w fun e w'=>e=.returned (.bool bo)/\Below w.heap.size w w':=by
 have HBO:=Lib.hid hbo
 have HS:=Lib.hid hs
 clear hbo hs
 go_enter Tryz.func61,Tryz.ntmps61
 go_wp2_with fail
 go_loopw [3] (fun i wr=>∃j:Nat,i=.int .i64 j/\j<=l.length/\Hid (XJ (l.take j))/\Below w.heap.size w wr) (fun i _=>l.length- (intOf i).toNat)
 case atStart=>exact⟨0,rfl,Nat.zero_le _,Lib.hid JgC,Below.refl _ _⟩
 case round=>
  obtain⟨j,rfl,hj,hR,hB⟩:=hrel
  have hj0:(0:Int)<=(j:Int):=Int.natCast_nonneg _
  by_cases hjl:j<l.length
  ·have hj1:(j:Int)<(l.length:Int):=by omega
   have hst:=Lib.hid (Je7 l j hjl hR.out)
   have hno:Hid (¬XJ (l.take (j+1))->bo=false):=Lib.hid fun h=>by
    cases hbb:bo with
    |false=>rfl
    |true=>exact absurd (HBO.out.1 hbb) (right_not h)
   obtain⟨b,off,rfl,hb,t0,t1⟩:=JC.cells2 HS.out j hjl
   have q0:=(Jh hB hb _).trans t0
   have q1:=(Jh hB hb _).trans t1
   clear t0 t1
   cases hok:okB l[j] with
   |false=>
    have hbf:=Lib.hid (hno.out (fun h=>by have:=(hst.out.1 h).1;rw[hok] at this;exact absurd this (by simp)))
    have hnk:¬(1<=l[j].key.length/\l[j].key.length<=16/\l[j].val.length<=32):=fun h=>by have:=(Jc9 l[j]).2 h;rw[hok] at this;exact absurd this (by simp)
    clear hst hno hok
    generalize l[j]=u at*
    by_cases h1:u.key.length<1
    ·clear hnk
     go_wp2_with fail
     exact bodyPost_ret (v:=.bool false) (by simp[results,Tryz.results61,go_sem]) rfl ⟨by rw[hbf.out],hB⟩
    ·by_cases h2:16<u.key.length
     ·clear hnk
      go_wp2_with fail
      exact bodyPost_ret (v:=.bool false) (by simp[results,Tryz.results61,go_sem]) rfl ⟨by rw[hbf.out],hB⟩
     ·have h3:32<u.val.length:=by omega
      clear hnk
      go_wp2_with fail
      exact bodyPost_ret (v:=.bool false) (by simp[results,Tryz.results61,go_sem]) rfl ⟨by rw[hbf.out],hB⟩
   |true=>
    obtain⟨k1,k2,k3⟩:=(Jc9 l[j]).1 hok
    have g1:¬l[j].key.length<1:=by omega
    have g2:¬16<l[j].key.length:=by omega
    have g3:¬32<l[j].val.length:=by omega
    rcases j with _|q
    ·have hR2:=Lib.hid (hst.out.2 ⟨hok,fun h=>absurd h (by omega)⟩)
     clear hst hno hok
     generalize l[0]=u at*
     rw[show((0:Nat):Int)=0 from rfl] at hj1
     rw[Nat.zero_mul,Nat.add_zero] at q0 q1
     have hd:decide ((0:Int)<0)=false:=rfl
     go_wp2_with fail
     go_quiet (fail)
     go_wp2_with fail
     exact⟨⟨1,by go_num,by omega,hR2,JS hB _⟩,by simp[intOf];omega⟩
    ·obtain⟨b',off',e',hb',t0',t1'⟩:=JC.cells2 HS.out q (by omega)
     simp only[Option.some.injEq,Addr.mk.injEq] at e'
     obtain⟨rfl,rfl,-⟩:=e'
     have q2:=(Jh hB hb _).trans t0'
     have hq0:(0:Int)<=(q:Int):=Int.natCast_nonneg _
     have hq1:(q:Int)<(l.length:Int):=by omega
     have hw1:IntKind.i64.wrap ((q:Int)+1-1)=(q:Int):=by rw[show(q:Int)+1-1=(q:Int) by omega];exact IntWalk.i64_in _ (by omega)
     have hd:decide ((0:Int)<(q:Int)+1)=true:=by rw[decide_eq_true_iff];omega
     clear t0' t1'
     cases hlt:bl l[q].key l[q+1].key with
     |true=>
      have hR2:=Lib.hid (hst.out.2 ⟨hok,fun h=>hlt⟩)
      clear hst hno hok
      have hlt':Op.bytesLess l[q].key l[q+1].key=true:=hlt
      clear hlt
      generalize l[q+1]=u at*
      generalize l[q]=u' at*
      go_wp2_with fail
      go_quiet (fail)
      go_wp2_with fail
      exact⟨⟨q+2,by go_num,by omega,hR2,JS hB _⟩,by simp[intOf];omega⟩
     |false=>
      have hbf:=Lib.hid (hno.out (fun h=>by have this:bl l[q].key l[q+1].key=true:=(hst.out.1 h).2 (by omega);rw[hlt] at this;exact absurd this (by simp)))
      clear hst hno hok
      have hlt':Op.bytesLess l[q].key l[q+1].key=false:=hlt
      clear hlt
      generalize l[q+1]=u at*
      generalize l[q]=u' at*
      go_wp2_with fail
      go_quiet (fail)
      go_wp2_with fail
      exact bodyPost_ret (v:=.bool false) (by simp[results,Tryz.results61,go_sem]) rfl ⟨by rw[hbf.out],JS hB _⟩
  ·obtain rfl:j=l.length:=by omega
   have hbt:=Lib.hid (HBO.out.2 (by have:=hR.out;rwa[List.take_length] at this))
   go_wp2_with fail
   exact bodyPost_ret (v:=.bool true) (by simp[results,Tryz.results61,go_sem]) rfl ⟨by rw[hbt.out],hB⟩
open Go.RowKit
attribute [local go_sem ↓] Go.wp_at_zero Go.wp_at_succ
def Jrv (B:Nat) (l:List Ent):Bool->Ending->World->Prop
 |true,e,w'=>∃a c,e=.returned (.tuple #[.agg #[.slice a l.length c],.int .i64 0])/\w'.ownsRow B 73 2 (.slice a l.length c) l.length (cellsE l)
 |false,e,_=>e=.returned (.tuple #[.agg #[.slice none 0 0],.int .i64 2])
theorem JkW (ao:Option Addr) (n c:Nat) (l:List Ent) (w:World) (hn:n=l.length) (hl:l.length<=1000000) (hs:SlE w (.slice ao n c) l):
  Calls Tryz.prog 113 #[.slice ao n c] w fun e w'=>Jrv w.heap.size l (Jaq l) e w'/\Below w.heap.size w w':=by
 subst hn
 have HBO:=Lib.hid (Jcx l)
 have HS:=Lib.hid hs
 generalize Jaq l=bo at*
 obtain⟨ao',c',e',hs0,-⟩:=hs
 simp only[Value.slice.injEq] at e'
 obtain⟨rfl,-,rfl⟩:=e'
 have HS0:=Lib.hid hs0
 clear hs0
 go_enter Tryz.func113,Tryz.ntmps113
 go_wp2_with fail
 go_loopw [8] (fun i wr=>∃j:Nat,i=.int .i64 j/\j<=l.length/\Hid (XJ (l.take j))/\wr.cell? ⟨w.heap.size,0,none⟩=some (.slice none 0 0)/\wr.frozen? ⟨w.heap.size,0,none⟩=false/\w.heap.size<wr.heap.size/\Below w.heap.size w wr) (fun i _=>l.length- (intOf i).toNat)
 case atStart=>exact⟨0,rfl,Nat.zero_le _,Lib.hid JgC,by simp,by simp,by simp,by go_grown⟩
 case round=>
  obtain⟨j,rfl,hj,hR,hp,hpf,hsz,hB⟩:=hrel
  have hj0:(0:Int)<=(j:Int):=Int.natCast_nonneg _
  by_cases hjl:j<l.length
  ·have hj1:(j:Int)<(l.length:Int):=by omega
   have hst:=Lib.hid (Je7 l j hjl hR.out)
   have hno:Hid (¬XJ (l.take (j+1))->bo=false):=Lib.hid fun h=>by
    cases hbb:bo with
    |false=>rfl
    |true=>exact absurd (HBO.out.1 hbb) (right_not h)
   obtain⟨b,off,rfl,hb,t0,t1⟩:=JC.cells2 HS0.out j hjl
   have q0:=(Jh hB hb _).trans t0
   have q1:=(Jh hB hb _).trans t1
   clear t0 t1
   cases hok:okB l[j] with
   |false=>
    have hbf:=Lib.hid (hno.out (fun h=>by have:=(hst.out.1 h).1;rw[hok] at this;exact absurd this (by simp)))
    have hright:=fun W=>JiH l[j].key l[j].val W
    rw[show okB (⟨l[j].key,l[j].val⟩:Ent)=false from hok] at hright
    have HRT:=Lib.hid hright
    clear hst hno hok hright
    generalize l[j]=u at*
    go_wp2_with fail
    refine WQ.region (C:=fun w'=>w'.cell? ⟨wr.heap.size,0,none⟩=some (.string (S u.key))/\w'.cell? ⟨wr.heap.size,1,none⟩=some (.string (S u.val))/\Below wr.heap.size wr w') (by kernel_rfl) (by kernel_rfl) (⟨Jj (by simp),Jj (by simp),by go_grown⟩) ?_
    refine WV (by rfl) (.agg #[.string (S u.key),.string (S u.val)]) (fun w' hw'=> ?_) ?_
    ·obtain⟨x0,x1,x2⟩:=hw'
     go_simp
    try simp only[Act.put,WA,WB,WC]
    refine WV (by rfl) (.bool false) (fun w' hw'=> ?_) ?_
    ·obtain⟨x0,x1,x2⟩:=hw'
     go_simp
     go_at_call 150
     refine(HRT.out _).mono ?_
     rintro e w6 ⟨he,hb6⟩
     exact⟨he,Ja hb6 x0,Ja hb6 x1,x2.trans (hb6.mono x2.size)⟩
    try simp only[Act.put,WA,WB,WC]
    refine WV (by rfl) (.bool true) (fun w' hw'=> ?_) ?_
    ·obtain⟨x0,x1,x2⟩:=hw'
     go_simp
    try simp only[Act.put,WA,WB,WC]
    refine WM (by rfl) _ rfl ?_
    try simp only[Act.put,WA,WB,WC]
    refine WS (by rfl) ?_
    try simp only[Act.put,WA,WB,WC]
    refine WS (by rfl) ?_
    try simp only[Act.put,WA,WB,WC]
    refine WS (by rfl) ?_
    try simp only[Act.put,WA,WB,WC]
    refine WS (by rfl) ?_
    try simp only[Act.put,WA,WB,WC]
    refine WS (by rfl) ?_
    try simp only[Act.put,WA,WB,WC]
    refine WS (by rfl) ?_
    try simp only[Act.put,WA,WB,WC]
    refine WS (by rfl) ?_
    try simp only[Act.put,WA,WB,WC]
    refine WS (by rfl) ?_
    try simp only[Act.put,WA,WB,WC]
    refine WS (by rfl) ?_
    try simp only[Act.put,WA,WB,WC]
    refine WS (by rfl) ?_
    try simp only[Act.put,WA,WB,WC]
    refine WS (by rfl) ?_
    try simp only[Act.put,WA,WB,WC]
    refine WS (by rfl) ?_
    try simp only[Act.put,WA,WB,WC]
    refine WS (by rfl) ?_
    try simp only[Act.put,WA,WB,WC]
    refine WV (by rfl) (.bool true) (fun w' hw'=> ?_) ?_
    ·obtain⟨x0,x1,x2⟩:=hw'
     go_simp
    try simp only[Act.put,WA,WB,WC]
    refine WQ.done ?_
    rintro w6 ⟨-,-,hE⟩
    have p1:=Ja hE hp
    have pf1:=(hE.frozen (p:=⟨w.heap.size,0,none⟩) hsz).trans hpf
    have hB6:=hB.trans (hE.mono (by omega))
    clear hE hp hpf
    go_wp2_with fail
    refine bodyPost_ret (v:=.tuple #[.agg #[.slice none 0 0],.int .i64 2]) (by simp[results,Tryz.results113,go_sem,p1]) rfl ⟨?_,?_⟩
    ·rw[hbf.out]
     exact rfl
    ·exact hB6.setCell (p:=⟨w.heap.size,0,none⟩) (Nat.le_refl _) _
   |true=>
    have hright:=fun W=>JiH l[j].key l[j].val W
    rw[show okB (⟨l[j].key,l[j].val⟩:Ent)=true from hok] at hright
    have HRT:=Lib.hid hright
    clear hright
    rcases j with _|q
    ·have hR2:=Lib.hid (hst.out.2 ⟨hok,fun h=>absurd h (by omega)⟩)
     clear hst hno hok
     generalize l[0]=u at*
     rw[show((0:Nat):Int)=0 from rfl] at hj1
     rw[Nat.zero_mul,Nat.add_zero] at q0 q1
     have hd:decide ((0:Int)<0)=false:=rfl
     go_wp2_with fail
     refine WQ.region (C:=fun w'=>w'.cell? ⟨wr.heap.size,0,none⟩=some (.string (S u.key))/\w'.cell? ⟨wr.heap.size,1,none⟩=some (.string (S u.val))/\Below wr.heap.size wr w') (by kernel_rfl) (by kernel_rfl) (⟨Jj (by simp),Jj (by simp),by go_grown⟩) ?_
     refine WV (by rfl) (.agg #[.string (S u.key),.string (S u.val)]) (fun w' hw'=> ?_) ?_
     ·obtain⟨x0,x1,x2⟩:=hw'
      go_simp
     try simp only[Act.put,WA,WB,WC]
     refine WV (by rfl) (.bool true) (fun w' hw'=> ?_) ?_
     ·obtain⟨x0,x1,x2⟩:=hw'
      go_simp
      go_at_call 150
      refine(HRT.out _).mono ?_
      rintro e w6 ⟨he,hb6⟩
      exact⟨he,Ja hb6 x0,Ja hb6 x1,x2.trans (hb6.mono x2.size)⟩
     try simp only[Act.put,WA,WB,WC]
     refine WV (by rfl) (.bool false) (fun w' hw'=> ?_) ?_
     ·obtain⟨x0,x1,x2⟩:=hw'
      go_simp
     try simp only[Act.put,WA,WB,WC]
     refine WM (by rfl) _ rfl ?_
     try simp only[Act.put,WA,WB,WC]
     refine WM (by rfl) _ rfl ?_
     try simp only[Act.put,WA,WB,WC]
     refine WV (by rfl) (.bool false) (fun w' hw'=> ?_) ?_
     ·obtain⟨x0,x1,x2⟩:=hw'
      go_simp
     try simp only[Act.put,WA,WB,WC]
     refine WM (by rfl) _ rfl ?_
     try simp only[Act.put,WA,WB,WC]
     refine WS (by rfl) ?_
     try simp only[Act.put,WA,WB,WC]
     refine WS (by rfl) ?_
     try simp only[Act.put,WA,WB,WC]
     refine WS (by rfl) ?_
     try simp only[Act.put,WA,WB,WC]
     refine WS (by rfl) ?_
     try simp only[Act.put,WA,WB,WC]
     refine WS (by rfl) ?_
     try simp only[Act.put,WA,WB,WC]
     refine WS (by rfl) ?_
     try simp only[Act.put,WA,WB,WC]
     refine WS (by rfl) ?_
     try simp only[Act.put,WA,WB,WC]
     refine WS (by rfl) ?_
     try simp only[Act.put,WA,WB,WC]
     refine WS (by rfl) ?_
     try simp only[Act.put,WA,WB,WC]
     refine WV (by rfl) (.bool false) (fun w' hw'=> ?_) ?_
     ·obtain⟨x0,x1,x2⟩:=hw'
      go_simp
     try simp only[Act.put,WA,WB,WC]
     refine WV (by rfl) (.bool false) (fun w' hw'=> ?_) ?_
     ·obtain⟨x0,x1,x2⟩:=hw'
      go_simp
     try simp only[Act.put,WA,WB,WC]
     refine WQ.done ?_
     rintro w6 ⟨-,-,hE⟩
     have p1:=Ja hE hp
     have pf1:=(hE.frozen (p:=⟨w.heap.size,0,none⟩) hsz).trans hpf
     have hB6:=hB.trans (hE.mono (by omega))
     have hs6:w.heap.size<w6.heap.size:=Nat.lt_of_lt_of_le hsz hE.size
     clear hE hp hpf
     go_wp2_with fail
     exact⟨⟨1,by go_num,by omega,hR2,p1,pf1,hs6,hB6⟩,by simp[intOf];omega⟩
    ·obtain⟨b',off',e',hb',t0',t1'⟩:=JC.cells2 HS0.out q (by omega)
     simp only[Option.some.injEq,Addr.mk.injEq] at e'
     obtain⟨rfl,rfl,-⟩:=e'
     have q2:=(Jh hB hb _).trans t0'
     have hq0:(0:Int)<=(q:Int):=Int.natCast_nonneg _
     have hq1:(q:Int)<(l.length:Int):=by omega
     have hw1:IntKind.i64.wrap (q:Int)=(q:Int):=IntWalk.i64_in _ (by omega)
     have hd:decide ((0:Int)<(q:Int)+1)=true:=by rw[decide_eq_true_iff];omega
     clear t0' t1'
     cases hlt:bl l[q].key l[q+1].key with
     |true=>
      have hR2:=Lib.hid (hst.out.2 ⟨hok,fun h=>hlt⟩)
      clear hst hno hok
      have hlt':Op.bytesLess l[q].key l[q+1].key=true:=hlt
      clear hlt
      generalize l[q+1]=u at*
      generalize l[q]=u' at*
      go_wp2_with fail
      refine WQ.region (C:=fun w'=>w'.cell? ⟨wr.heap.size,0,none⟩=some (.string (S u.key))/\w'.cell? ⟨wr.heap.size,1,none⟩=some (.string (S u.val))/\w'.cell? ⟨b,off+q*2,none⟩=some (.string (S u'.key))/\Below wr.heap.size wr w') (by kernel_rfl) (by kernel_rfl) (⟨Jj (by simp),Jj (by simp),Jj (Jf _ q2),by go_grown⟩) ?_
      refine WV (by rfl) (.agg #[.string (S u.key),.string (S u.val)]) (fun w' hw'=> ?_) ?_
      ·obtain⟨x0,x1,x3,x2⟩:=hw'
       go_simp
      try simp only[Act.put,WA,WB,WC]
      refine WV (by rfl) (.bool true) (fun w' hw'=> ?_) ?_
      ·obtain⟨x0,x1,x3,x2⟩:=hw'
       go_simp
       go_at_call 150
       refine(HRT.out _).mono ?_
       rintro e w6 ⟨he,hb6⟩
       exact⟨he,Ja hb6 x0,Ja hb6 x1,Ja hb6 x3,x2.trans (hb6.mono x2.size)⟩
      try simp only[Act.put,WA,WB,WC]
      refine WV (by rfl) (.bool false) (fun w' hw'=> ?_) ?_
      ·obtain⟨x0,x1,x3,x2⟩:=hw'
       go_simp
      try simp only[Act.put,WA,WB,WC]
      refine WM (by rfl) _ rfl ?_
      try simp only[Act.put,WA,WB,WC]
      refine WM (by rfl) _ rfl ?_
      try simp only[Act.put,WA,WB,WC]
      refine WV (by rfl) (.bool true) (fun w' hw'=> ?_) ?_
      ·obtain⟨x0,x1,x3,x2⟩:=hw'
       go_simp
      try simp only[Act.put,WA,WB,WC]
      refine WM (by rfl) _ rfl ?_
      try simp only[Act.put,WA,WB,WC]
      refine WM (by rfl) _ rfl ?_
      try simp only[Act.put,WA,WB,WC]
      refine WM (by rfl) _ rfl ?_
      try simp only[Act.put,WA,WB,WC]
      refine WV (by rfl) (.int .i64 q) (fun w' hw'=> ?_) ?_
      ·obtain⟨x0,x1,x3,x2⟩:=hw'
       go_simp
      try simp only[Act.put,WA,WB,WC]
      refine WV (by rfl) (.pointer (some ⟨b,off+q*2,none⟩)) (fun w' hw'=> ?_) ?_
      ·obtain⟨x0,x1,x3,x2⟩:=hw'
       go_simp
      try simp only[Act.put,WA,WB,WC]
      refine WV (by rfl) (.pointer (some ⟨b,off+q*2,none⟩)) (fun w' hw'=> ?_) ?_
      ·obtain⟨x0,x1,x3,x2⟩:=hw'
       go_simp
      try simp only[Act.put,WA,WB,WC]
      refine WV (by rfl) (.string (S u'.key)) (fun w' hw'=> ?_) ?_
      ·obtain⟨x0,x1,x3,x2⟩:=hw'
       go_simp
      try simp only[Act.put,WA,WB,WC]
      refine WV (by rfl) (.pointer (some ⟨wr.heap.size,0,none⟩)) (fun w' hw'=> ?_) ?_
      ·obtain⟨x0,x1,x3,x2⟩:=hw'
       go_simp
      try simp only[Act.put,WA,WB,WC]
      refine WV (by rfl) (.string (S u.key)) (fun w' hw'=> ?_) ?_
      ·obtain⟨x0,x1,x3,x2⟩:=hw'
       go_simp
      try simp only[Act.put,WA,WB,WC]
      refine WV (by rfl) (.bool false) (fun w' hw'=> ?_) ?_
      ·obtain⟨x0,x1,x3,x2⟩:=hw'
       go_simp
      try simp only[Act.put,WA,WB,WC]
      refine WV (by rfl) (.bool false) (fun w' hw'=> ?_) ?_
      ·obtain⟨x0,x1,x3,x2⟩:=hw'
       go_simp
      try simp only[Act.put,WA,WB,WC]
      refine WV (by rfl) (.bool false) (fun w' hw'=> ?_) ?_
      ·obtain⟨x0,x1,x3,x2⟩:=hw'
       go_simp
      try simp only[Act.put,WA,WB,WC]
      refine WQ.done ?_
      rintro w6 ⟨-,-,-,hE⟩
      have p1:=Ja hE hp
      have pf1:=(hE.frozen (p:=⟨w.heap.size,0,none⟩) hsz).trans hpf
      have hB6:=hB.trans (hE.mono (by omega))
      have hs6:w.heap.size<w6.heap.size:=Nat.lt_of_lt_of_le hsz hE.size
      clear hE hp hpf
      go_wp2_with fail
      exact⟨⟨q+2,by go_num,by omega,hR2,p1,pf1,hs6,hB6⟩,by simp[intOf];omega⟩
     |false=>
      have hbf:=Lib.hid (hno.out (fun h=>by have this:bl l[q].key l[q+1].key=true:=(hst.out.1 h).2 (by omega);rw[hlt] at this;exact absurd this (by simp)))
      clear hst hno hok
      have hlt':Op.bytesLess l[q].key l[q+1].key=false:=hlt
      clear hlt
      generalize l[q+1]=u at*
      generalize l[q]=u' at*
      go_wp2_with fail
      refine WQ.region (C:=fun w'=>w'.cell? ⟨wr.heap.size,0,none⟩=some (.string (S u.key))/\w'.cell? ⟨wr.heap.size,1,none⟩=some (.string (S u.val))/\w'.cell? ⟨b,off+q*2,none⟩=some (.string (S u'.key))/\Below wr.heap.size wr w') (by kernel_rfl) (by kernel_rfl) (⟨Jj (by simp),Jj (by simp),Jj (Jf _ q2),by go_grown⟩) ?_
      refine WV (by rfl) (.agg #[.string (S u.key),.string (S u.val)]) (fun w' hw'=> ?_) ?_
      ·obtain⟨x0,x1,x3,x2⟩:=hw'
       go_simp
      try simp only[Act.put,WA,WB,WC]
      refine WV (by rfl) (.bool true) (fun w' hw'=> ?_) ?_
      ·obtain⟨x0,x1,x3,x2⟩:=hw'
       go_simp
       go_at_call 150
       refine(HRT.out _).mono ?_
       rintro e w6 ⟨he,hb6⟩
       exact⟨he,Ja hb6 x0,Ja hb6 x1,Ja hb6 x3,x2.trans (hb6.mono x2.size)⟩
      try simp only[Act.put,WA,WB,WC]
      refine WV (by rfl) (.bool false) (fun w' hw'=> ?_) ?_
      ·obtain⟨x0,x1,x3,x2⟩:=hw'
       go_simp
      try simp only[Act.put,WA,WB,WC]
      refine WM (by rfl) _ rfl ?_
      try simp only[Act.put,WA,WB,WC]
      refine WM (by rfl) _ rfl ?_
      try simp only[Act.put,WA,WB,WC]
      refine WV (by rfl) (.bool true) (fun w' hw'=> ?_) ?_
      ·obtain⟨x0,x1,x3,x2⟩:=hw'
       go_simp
      try simp only[Act.put,WA,WB,WC]
      refine WM (by rfl) _ rfl ?_
      try simp only[Act.put,WA,WB,WC]
      refine WM (by rfl) _ rfl ?_
      try simp only[Act.put,WA,WB,WC]
      refine WM (by rfl) _ rfl ?_
      try simp only[Act.put,WA,WB,WC]
      refine WV (by rfl) (.int .i64 q) (fun w' hw'=> ?_) ?_
      ·obtain⟨x0,x1,x3,x2⟩:=hw'
       go_simp
      try simp only[Act.put,WA,WB,WC]
      refine WV (by rfl) (.pointer (some ⟨b,off+q*2,none⟩)) (fun w' hw'=> ?_) ?_
      ·obtain⟨x0,x1,x3,x2⟩:=hw'
       go_simp
      try simp only[Act.put,WA,WB,WC]
      refine WV (by rfl) (.pointer (some ⟨b,off+q*2,none⟩)) (fun w' hw'=> ?_) ?_
      ·obtain⟨x0,x1,x3,x2⟩:=hw'
       go_simp
      try simp only[Act.put,WA,WB,WC]
      refine WV (by rfl) (.string (S u'.key)) (fun w' hw'=> ?_) ?_
      ·obtain⟨x0,x1,x3,x2⟩:=hw'
       go_simp
      try simp only[Act.put,WA,WB,WC]
      refine WV (by rfl) (.pointer (some ⟨wr.heap.size,0,none⟩)) (fun w' hw'=> ?_) ?_
      ·obtain⟨x0,x1,x3,x2⟩:=hw'
       go_simp
      try simp only[Act.put,WA,WB,WC]
      refine WV (by rfl) (.string (S u.key)) (fun w' hw'=> ?_) ?_
      ·obtain⟨x0,x1,x3,x2⟩:=hw'
       go_simp
      try simp only[Act.put,WA,WB,WC]
      refine WV (by rfl) (.bool true) (fun w' hw'=> ?_) ?_
      ·obtain⟨x0,x1,x3,x2⟩:=hw'
       go_simp
      try simp only[Act.put,WA,WB,WC]
      refine WV (by rfl) (.bool true) (fun w' hw'=> ?_) ?_
      ·obtain⟨x0,x1,x3,x2⟩:=hw'
       go_simp
      try simp only[Act.put,WA,WB,WC]
      refine WV (by rfl) (.bool true) (fun w' hw'=> ?_) ?_
      ·obtain⟨x0,x1,x3,x2⟩:=hw'
       go_simp
      try simp only[Act.put,WA,WB,WC]
      refine WQ.done ?_
      rintro w6 ⟨-,-,-,hE⟩
      have p1:=Ja hE hp
      have pf1:=(hE.frozen (p:=⟨w.heap.size,0,none⟩) hsz).trans hpf
      have hB6:=hB.trans (hE.mono (by omega))
      clear hE hp hpf
      go_wp2_with fail
      refine bodyPost_ret (v:=.tuple #[.agg #[.slice none 0 0],.int .i64 2]) (by simp[results,Tryz.results113,go_sem,p1]) rfl ⟨?_,?_⟩
      ·rw[hbf.out]
       exact rfl
      ·exact hB6.setCell (p:=⟨w.heap.size,0,none⟩) (Nat.le_refl _) _
  ·obtain rfl:j=l.length:=by omega
   have hbt:=Lib.hid (HBO.out.2 (by have:=hR.out;rwa[List.take_length] at this))
   have HS2:=Lib.hid (HS.out.kept hB (Nat.le_refl _))
   go_wp2_with fail
   refine(Jl (Jh8 _ l wr HS2.out hl) wr.heap.size wr (Below.refl _ _) (Nat.le_refl _)).mono ?_
   rintro e w1 ⟨⟨v1,rfl,hown1⟩,hX1,hk1,hf1,-,hz1⟩
   obtain⟨a1,c1,e1⟩:=Jm hown1
   subst e1
   have p1:=(hk1 w.heap.size 0 hsz).trans hp
   have pf1:=(hf1 w.heap.size 0 hsz).trans hpf
   have hB1:=hB.trans (hX1.mono (by omega))
   have HO1:=Lib.hid hown1
   clear hk1 hf1 hX1 hp hpf hown1
   go_wp2_with fail
   refine bodyPost_ret (v:=.tuple #[.agg #[.slice a1 l.length c1],.int .i64 0]) (by simp[results,Tryz.results113,go_sem,p1]) rfl ⟨?_,?_⟩
   ·rw[hbt.out]
    exact⟨a1,c1,rfl,JI (ownsRow_setCell_other (a:=⟨w.heap.size,0,none⟩) HO1.out (fun e=>by have h:=((HO1.out).lt _ e).1;have h2:wr.heap.size<=w.heap.size:=h;omega) _) (by omega)⟩
   ·exact hB1.setCell (p:=⟨w.heap.size,0,none⟩) (Nat.le_refl _) _
end Go.Proofs.YtafciefjlkdecaaGreat
namespace Go.Proofs.YtafciefjlkdecaaGreat
open Go.RowKit
open Go.RowKit
theorem JcF (e:Ent) (l:List Ent) (k:List UInt8):Jz (e::l) k=if e.key=k then some e.val else Jz l k:=by
 unfold Jz
 rw[List.find?_cons]
 by_cases h:e.key=k
 ·simp[h]
 ·have:(e.key==k)=false:=by simpa using h
  simp[h,this]
theorem Jbt (ao:Option Addr) (c:Nat) (l:List Ent) (k:List UInt8) (w:World) (hl:l.length<=1000000) (hs:JC Ent.cells 2 w ao l):
  Calls Tryz.prog 26 #[.slice ao l.length c,.string (S k)] w fun e w'=>e=.returned (Jcg (Jz l k))/\Below w.heap.size w w':=by
 go_enter Tryz.func26,Tryz.ntmps26
 go_wp2_with fail
 go_loopw [6] (fun i wr=>∃j:Nat,i=.int .i64 j/\j<=l.length/\Hid (Jz (l.drop j) k=Jz l k)/\Below w.heap.size w wr) (fun i _=>l.length- (intOf i).toNat)
 case atStart=>exact⟨0,rfl,Nat.zero_le _,Lib.hid rfl,Below.refl _ _⟩
 case round=>
  obtain⟨j,rfl,hj,hlook,hB⟩:=hrel
  have hj0:(0:Int)<=(j:Int):=Int.natCast_nonneg _
  by_cases hjl:j<l.length
  ·have hj1:(j:Int)<(l.length:Int):=by omega
   obtain⟨b,off,rfl,hb,t0,t1⟩:=JC.cells2 hs j hjl
   have q0:=(Jh hB hb _).trans t0
   have q1:=(Jh hB hb _).trans t1
   have hdr:l.drop j=l[j]::l.drop (j+1):=List.drop_eq_getElem_cons hjl
   have hlk:=hlook.out
   rw[hdr,JcF] at hlk
   have hlk':=Lib.hid hlk
   clear t0 t1 hdr hlk hs
   generalize l[j]=u at*
   by_cases hk:u.key=k
   ·have hke:Hid (Jz l k=some u.val):=Lib.hid (by rw[<-hlk'.out,if_pos hk])
    subst hk
    clear hlk'
    go_wp2_with fail
    exact bodyPost_ret (v:=Jcg (some u.val)) (by simp[results,Tryz.results26,go_sem,Jcg]) rfl ⟨by rw[hke.out],hB⟩
   ·have hkb:(u.key==k)=false:=by simpa using hk
    have hke:=Lib.hid (show Jz (l.drop (j+1)) k=Jz l k by rw[<-hlk'.out,if_neg hk])
    go_wp2_with fail
    exact⟨⟨j+1,by go_num,by omega,hke,hB⟩,by simp[intOf];omega⟩
  ·obtain rfl:j=l.length:=by omega
   have hke:Hid (Jz l k=none):=Lib.hid (by rw[<-hlook.out,List.drop_length];rfl)
   go_wp2_with fail
   exact bodyPost_ret (v:=Jcg none) (by simp[results,Tryz.results26,go_sem,Jcg];rfl) rfl ⟨by rw[hke.out],hB⟩
open Go.RowKit
def Yh (x:Ent) (st:List Ent×Bool) (e:Ent):List Ent×Bool:=
 let s1:=if st.2=false/\bl e.key x.key=false then(st.1++[x],true) else st
 if e.key=x.key then s1 else(s1.1++[e],s1.2)
def YY (x:Ent) (st:List Ent×Bool) (l:List Ent):List Ent×Bool:=l.foldl (Yh x) st
theorem JhD (x:Ent) (st:List Ent×Bool) (l:List Ent) (j:Nat) (hj:j<l.length):YY x st (l.take (j+1))=Yh x (YY x st (l.take j)) l[j]:=by
 unfold YY
 rw[List.take_succ_eq_append_getElem hj,List.foldl_append]
 rfl
theorem JiJ (x:Ent) (st:List Ent×Bool) (e:Ent):(Yh x st e).1.length<=st.1.length+2:=by
 unfold Yh
 dsimp only
 split<;>split<;>simp
theorem Jbs (x:Ent):∀(l:List Ent) (st:List Ent×Bool),(YY x st l).1.length<=st.1.length+2*l.length
 |[],st=>by simp[YY]
 |e::l,st=>by
  have h1:=Jbs x l (Yh x st e)
  have h2:=JiJ x st e
  have h3:YY x st (e::l)=YY x (Yh x st e) l:=rfl
  rw[h3,List.length_cons]
  omega
theorem Zx (x:Ent):∀(l out:List Ent),YY x (out,true) l=(out++l.filter (fun e=>e.key !=x.key),true)
 |[],out=>by simp[YY]
 |e::l,out=>by
  have h3:YY x (out,true) (e::l)=YY x (Yh x (out,true) e) l:=rfl
  rw[h3]
  unfold Yh
  by_cases hk:e.key=x.key
  ·simp only[hk,if_true,Bool.true_eq_false,false_and,if_false]
   rw[Zx x l out]
   simp[hk]
  ·simp only[hk,if_false,Bool.true_eq_false,false_and]
   rw[Zx x l (out++[e])]
   simp[hk]
theorem Jlo (e:Ent) (l:List Ent) (k:List UInt8):below Ent.key (e::l) k=if bl e.key k=true then below Ent.key l k+1 else below Ent.key l k:=by
 unfold below
 rw[List.countP_cons]
 split<;>simp
theorem Jln {e:Ent} {l:List Ent} (hr:Je Ent.key (e::l)) (k:List UInt8) (h:bl e.key k=false):below Ent.key l k=0:=by
 unfold below
 rw[List.countP_eq_zero]
 intro a ha hb
 have:=J4 (hr.cons.1 a ha) hb
 rw[h] at this
 exact absurd this (by simp)
theorem JaT (x:Ent):∀(l out:List Ent),Je Ent.key l->YY x (out,false) l=if below Ent.key l x.key<l.length then(out++l.take (below Ent.key l x.key)++x::(l.drop (below Ent.key l x.key)).filter (fun e=>e.key !=x.key),true) else(out++l,false)
 |[],out,_=>by simp[YY,below]
 |e::l,out,hr=>by
  have h3:YY x (out,false) (e::l)=YY x (Yh x (out,false) e) l:=rfl
  rw[h3,Jlo]
  cases hb:bl e.key x.key with
  |true=>
   have hk:¬e.key=x.key:=ZY hb
   have hs:Yh x (out,false) e=(out++[e],false):=by
    unfold Yh
    simp[hb,hk]
   rw[hs,JaT x l (out++[e]) hr.cons.2]
   simp only[if_true,List.length_cons,Nat.add_lt_add_iff_right,List.take_succ_cons,List.drop_succ_cons]
   split<;>simp
  |false=>
   have h0:=Jln hr x.key hb
   simp only[Bool.false_eq_true,if_false,h0]
   rw[if_pos (by simp)]
   by_cases hk:e.key=x.key
   ·have hs:Yh x (out,false) e=(out++[x],true):=by
     unfold Yh
     simp[hk,YN]
    rw[hs,Zx]
    simp[hk]
   ·have hs:Yh x (out,false) e=(out++[x]++[e],true):=by
     unfold Yh
     simp[hb,hk]
    rw[hs,Zx]
    simp[hk]
def Jar (l:List Ent) (x:Ent) (is:Bool):List Ent:=
 let st:=YY x ([],!is) l
 if st.2 then st.1 else st.1++[x]
theorem XD {l:List Ent} {k:List UInt8} (h:∀e∈l,e.key≠k):l.filter (fun e=>e.key !=k)=l:=by
 rw[List.filter_eq_self]
 intro e he
 simpa using h e he
theorem Jm9 {l:List Ent} (hr:Je Ent.key l) (i:Nat) (hi:i<l.length) (k:List UInt8) (hk:l[i].key=k):l.filter (fun e=>e.key !=k)=l.take i++l.drop (i+1):=by
 have h1:(l.take i).filter (fun e=>e.key !=k)=l.take i:=XD fun e he=>by
  obtain⟨j,hj,rfl⟩:=List.getElem_of_mem he
  rw[List.length_take] at hj
  rw[List.getElem_take,<-hk]
  exact ZY (hr.lt (show j<i by omega) hi)
 have h2:(l.drop (i+1)).filter (fun e=>e.key !=k)=l.drop (i+1):=XD fun e he=>by
  obtain⟨j,hj,rfl⟩:=List.getElem_of_mem he
  rw[List.length_drop] at hj
  rw[List.getElem_drop,<-hk]
  exact fun hk=>ZY (hr.lt (show i<i+1+j by omega) (by omega)) hk.symm
 have h3:(l.drop i).filter (fun e=>e.key !=k)=(l.drop (i+1)).filter (fun e=>e.key !=k):=by
  rw[List.drop_eq_getElem_cons hi,List.filter_cons_of_neg (by simp[hk])]
 have h4:l.filter (fun e=>e.key !=k)=(l.take i++l.drop i).filter (fun e=>e.key !=k):=by rw[List.take_append_drop]
 rw[h4,List.filter_append,h1,h3,h2]
theorem Jmx {l:List Ent} (hr:Je Ent.key l) (u:Upd) (hc:u.check=0):Jar l ⟨u.key,(Jdb l u).1⟩ (Jdb l u).2=onE l u:=by
 have hc':¬u.check≠0:=by simp[hc]
 unfold onE
 rw[if_neg hc']
 generalize(Jdb l u).1=y
 unfold Jar
 cases hh:JE Ent.key l u.key with
 |false=>
  have hno:=Jei hh
  cases hi:(Jdb l u).2 with
  |false=>
   have:=Zx ⟨u.key,y⟩ l []
   simp only[Bool.not_false,this,if_true,List.nil_append]
   simp[XD hno]
  |true=>
   have:=JaT ⟨u.key,y⟩ l [] hr
   simp only[Bool.not_true,this]
   have hf:(l.drop (below Ent.key l u.key)).filter (fun e=>e.key !=u.key)=l.drop (below Ent.key l u.key):=XD fun e he=>hno e (List.mem_of_mem_drop he)
   split
   ·simp[Jbj,hf]
   ·rename_i hb
    have hle:=Xe (key:=Ent.key) l u.key
    have hbl:below Ent.key l u.key=l.length:=by omega
    simp[Jbj,hbl]
 |true=>
  obtain⟨hlt,hkey⟩:=(hr.found u.key).1 hh
  have hfa:=Jm9 hr _ hlt _ hkey
  cases hi:(Jdb l u).2 with
  |false=>
   have:=Zx ⟨u.key,y⟩ l []
   simp only[Bool.not_false,this,if_true,List.nil_append]
   simp[hfa,JaI]
  |true=>
   have:=JaT ⟨u.key,y⟩ l [] hr
   simp only[Bool.not_true,this]
   have hd:(l.drop (below Ent.key l u.key)).filter (fun e=>e.key !=u.key)=l.drop (below Ent.key l u.key+1):=by
    have h1:(l.take (below Ent.key l u.key)).filter (fun e=>e.key !=u.key)=l.take (below Ent.key l u.key):=XD fun e he=>by
     obtain⟨j,hj,rfl⟩:=List.getElem_of_mem he
     rw[List.length_take] at hj
     rw[List.getElem_take]
     exact ZY ((hr.below u.key j (by omega)).2 (by omega))
    have h4:l.filter (fun e=>e.key !=u.key)=(l.take (below Ent.key l u.key)++l.drop (below Ent.key l u.key)).filter (fun e=>e.key !=u.key):=by rw[List.take_append_drop]
    rw[h4,List.filter_append,h1] at hfa
    exact List.append_cancel_left hfa
   simp only[hlt,if_true,List.nil_append,hd]
   rw[List.set_eq_take_append_cons_drop,if_pos hlt]
open Go.RowKit
theorem Jqn:(Tryz.prog.info? 72).map (fun i=>(i.zero,i.size,i.bytes))=some (some (.agg #[.string ByteArray.empty,.string ByteArray.empty]),2,32):=by kernel_rfl
theorem SlE.of_row {w:World} {B n:Nat} {E:TypeId} {v:Value} {l:List Ent} (h:w.ownsRow B E 2 v n (cellsE l)):l.length=n/\SlE w v l:=by
 have hn:l.length=n:=by have:=h.1;rw[J2] at this;omega
 refine⟨hn,?_⟩
 subst hn
 rcases Jv h with⟨rfl,h0,-⟩|⟨g,cap,cur,rfl,-,hr,h3,h4,h5,h6⟩
 ·obtain rfl:=List.eq_nil_of_length_eq_zero h0
  exact SlE.nil w
 ·refine⟨_,cap,rfl,Or.inr ⟨g,0,rfl,hr.lt,fun i hi j x hx=> ?_⟩,h3,by unfold maxLen at h4;omega,fun e=>by simp at e⟩
  have hj:j<2:=(List.getElem?_eq_some_iff.1 hx).1
  have e:=ZR l i hi j x hx
  rw[hr.cell,Nat.zero_add,<-e,<-h6,List.getElem?_take,if_pos (by omega)]
theorem YD (w:World) (x y:Value) (t:TypeId):∀j v,[x,y][j]? =some v->(w.alloc (.cells #[x,y] t)).cell? ((⟨w.heap.size,0,none⟩:Addr).add j)=some v:=by
 intro j v hj
 match j,hj with
 |0,hj=>simp at hj;subst hj;simp[Addr.add]
 |1,hj=>simp at hj;subst hj;simp[Addr.add]
theorem Jkr (ao:Option Addr) (c:Nat) (l:List Ent) (kd:Nat) (key val:List UInt8) (dl:Nat) (w:World) (hs:JC Ent.cells 2 w ao l) (hl:l.length<=1000) (hk:kd<256) (hd:dl<18446744073709551616) (hc:(Upd.mk kd key val dl).check=0) (y:List UInt8) (is:Bool)
  (hnew:(match Jz l key with|some v=>onL v true ⟨kd,key,val,dl⟩|none=>onL [] false ⟨kd,key,val,dl⟩)=(y,is)):
  Calls Tryz.prog 24 #[.slice ao l.length c,.agg #[.int .u8 kd,.string (S key),.string (S val),.int .u64 dl]] w fun e w'=>(∃a c',e=.returned (.slice a (Jar l ⟨key,y⟩ is).length c')/\w'.ownsRow w.heap.size 72 2 (.slice a (Jar l ⟨key,y⟩ is).length c') (Jar l ⟨key,y⟩ is).length (cellsE (Jar l ⟨key,y⟩ is)))/\Below w.heap.size w w':=by
 obtain⟨i0,hi,iz0,iz1,iz2⟩:=info_parts Jqn
 have hchk:=fun w=>JiK kd key val dl hk hd w
 rw[hc] at hchk
 have hget:=fun w h=>Jbt ao c l key w (by omega) h
 obtain⟨old,there,hlv,hon⟩:∃old there,Jcg (Jz l key)=.tuple #[.string (S old),.bool there]/\onL old there ⟨kd,key,val,dl⟩=(y,is):=by
  cases hlk:Jz l key with
  |none=>exact⟨[],false,rfl,by simpa[hlk] using hnew⟩
  |some v=>exact⟨v,true,rfl,by simpa[hlk] using hnew⟩
 rw[hlv] at hget
 have honr:=fun w=>Jmy old there kd key val dl hk hd w
 unfold onV at honr
 rw[hon] at honr
 have HG:=Lib.hid hget
 have HN:=Lib.hid honr
 have HS:=Lib.hid hs
 clear hnew hlv hon hget honr hs hc hk hd
 go_enter Tryz.func24,Tryz.ntmps24
 go_wp2_with fail
 refine(Jl (hchk _) w.heap.size w (by go_grown) (by go_grown)).mono ?_
 rintro e w1 ⟨rfl,hB1,hk1,-,-,hz1⟩
 have p0:=(hk1 w.heap.size 0 (by simp)).trans (by simp[go_sem];rfl)
 have p1:=(hk1 w.heap.size 1 (by simp)).trans (by simp[go_sem];rfl)
 have p2:=(hk1 w.heap.size 2 (by simp)).trans (by simp[go_sem];rfl)
 have p3:=(hk1 w.heap.size 3 (by simp)).trans (by simp[go_sem];rfl)
 clear hk1 hchk
 go_wp2_with fail
 refine(Jl (HG.out _ (HS.out.kept hB1 (Nat.le_refl _))) w1.heap.size w1 (by go_grown) (by go_grown)).mono ?_
 rintro e w2 ⟨rfl,hX2,-,-,-,hz2⟩
 have q0:=Ja hX2 p0
 have q1:=Ja hX2 p1
 have q2:=Ja hX2 p2
 have q3:=Ja hX2 p3
 have hB2:=hB1.trans (hX2.mono hz1)
 clear p0 p1 p2 p3 hX2
 go_wp2_with fail
 refine(Jl (HN.out _) w2.heap.size w2 (by go_grown) (by go_grown)).mono ?_
 rintro e w3 ⟨rfl,hX3,-,-,-,hz3⟩
 have r1:=Ja hX3 q1
 have hB3:=hB2.trans (hX3.mono (by omega))
 have hu3:w.heap.size<w3.heap.size:=World.block_lt_of_cell? w3 _ r1
 clear q0 q1 q2 q3 hX3
 go_wp2_with fail
 go_loopw [12,10,11] (fun i out dn wr=>∃j:Nat,i=.int .i64 j/\j<=l.length/\∃st:List Ent×Bool,Hid (YY ⟨key,y⟩ ([],!is) (l.take j)=st)/\dn=.bool st.2/\wr.ownsRow w3.heap.size 72 2 out st.1.length (cellsE st.1)/\Below w3.heap.size w3 wr) (fun i _ _ _=>l.length- (intOf i).toNat)
 case atStart=>exact⟨0,rfl,Nat.zero_le _,([],!is),Lib.hid rfl,rfl,World.ownsRow_nil _ _ _ _,Below.refl _ _⟩
 case round=>
  obtain⟨j,rfl,hj,⟨o,dn⟩,hfold,rfl,ho,hB⟩:=hrel
  have hj0:(0:Int)<=(j:Int):=Int.natCast_nonneg _
  dsimp only at ho
  obtain⟨ov,oc,eo⟩:=Jm ho
  subst eo
  by_cases hjl:j<l.length
  ·have hj1:(j:Int)<(l.length:Int):=by omega
   obtain⟨b,off,rfl,hb,t0,t1⟩:=JC.cells2 HS.out j hjl
   have hBw:=hB3.trans (hB.mono hB3.size)
   have q0:=(Jh hBw hb _).trans t0
   have q1:=(Jh hBw hb _).trans t1
   have r1w:=(Jh hB hu3 1).trans r1
   have hst:=Lib.hid (JhD ⟨key,y⟩ ([],!is) l j hjl)
   have hol:o.length<=2000:=by
    have h1:=Jbs ⟨key,y⟩ (l.take j) ([],!is)
    rw[hfold.out,List.length_take] at h1
    simp only[List.length_nil] at h1
    omega
   clear t1 hBw HG HN
   generalize l[j]=e at*
   cases dn with
   |true=>
    by_cases hk:e.key=key
    ·have hkb:(e.key==key)=true:=by simpa using hk
     go_wp2_with fail
     go_quiet (fail)
     obtain⟨wqa,hwqa⟩:∃wqa,wqa=wr.drewN nq:=⟨_,rfl⟩
     rw[<-hwqa]
     have hBqa:Below wr.heap.size wr wqa:=by rw[hwqa];exact JS (Below.refl _ _) nq
     clear hwqa
     have e0a:=Ja hBqa q0
     have e1a:=Ja hBqa q1
     have k1a:=Ja hBqa r1w
     have owna:=Ji ho hBqa
     have hBBa:=hB.trans (hBqa.mono hB.size)
     clear hBqa
     go_wp2_with fail
     go_quiet (fail)
     obtain⟨wqb,hwqb⟩:∃wqb,wqb=wqa.drewN nq:=⟨_,rfl⟩
     rw[<-hwqb]
     have hBqb:Below wqa.heap.size wqa wqb:=by rw[hwqb];exact JS (Below.refl _ _) nq
     clear hwqb
     have e0b:=Ja hBqb e0a
     have e1b:=Ja hBqb e1a
     have k1b:=Ja hBqb k1a
     have ownb:=Ji owna hBqb
     have hBBb:=hBBa.trans (hBqb.mono hBBa.size)
     clear hBqb
     go_wp2_with fail
     have hstep:Yh ⟨key,y⟩ (o,true) e=(o,true):=by
      unfold Yh
      simp[hk]
     exact⟨⟨j+1,by go_num,by omega,(o,true),Lib.hid (by rw[hst.out,hfold.out,hstep]),rfl,ownb,hBBb⟩,by simp[intOf];omega⟩
    ·have hkb:(e.key==key)=false:=by simpa using hk
     go_wp2_with fail
     go_quiet (fail)
     obtain⟨wqa,hwqa⟩:∃wqa,wqa=wr.drewN nq:=⟨_,rfl⟩
     rw[<-hwqa]
     have hBqa:Below wr.heap.size wr wqa:=by rw[hwqa];exact JS (Below.refl _ _) nq
     clear hwqa
     have e0a:=Ja hBqa q0
     have e1a:=Ja hBqa q1
     have k1a:=Ja hBqa r1w
     have owna:=Ji ho hBqa
     have hBBa:=hB.trans (hBqa.mono hB.size)
     clear hBqa
     go_wp2_with fail
     go_quiet (fail)
     obtain⟨wqb,hwqb⟩:∃wqb,wqb=wqa.drewN nq:=⟨_,rfl⟩
     rw[<-hwqb]
     have hBqb:Below wqa.heap.size wqa wqb:=by rw[hwqb];exact JS (Below.refl _ _) nq
     clear hwqb
     have e0b:=Ja hBqb e0a
     have e1b:=Ja hBqb e1a
     have k1b:=Ja hBqb k1a
     have ownb:=Ji owna hBqb
     have hBBb:=hBBa.trans (hBqb.mono hBBa.size)
     clear hBqb
     go_wp2_with (at_builtin;go_must (refine wpList_append_own_at _ rfl (.tmp 67) (.tmp 72) 49 rfl w3.heap.size 72 i0 (.agg #[.string ByteArray.empty,.string ByteArray.empty]) 2 32 Tryz.underlying49 hi iz0 iz1 iz2 rfl (by decide) _ o.length _ rfl (ownb.alloc _) ⟨wqb.heap.size,0,none⟩ 1 1 [.string (S e.key),.string (S e.val)] rfl rfl (YD _ _ _ _) (by simp[Value.oneCell']) (by unfold maxLen;omega) (by omega) (by have:=hBBb.size;simp;omega) ?_;intro vz wz hownz hgrowz _ _))
     have hstep:Yh ⟨key,y⟩ (o,true) e=(o++[e],true):=by
      unfold Yh
      simp[hk]
     exact⟨⟨j+1,by go_num,by omega,(o++[e],true),Lib.hid (by rw[hst.out,hfold.out,hstep]),rfl,by rw[JF,Yt,List.length_append,List.length_singleton];exact hownz,Ju (hBBb.alloc (by have:=hBBb.size;omega) _) hgrowz (fun k e=>(ownb.lt k e).1) (by have:=hBBb.size;simp;omega)⟩,by simp[intOf];omega⟩
   |false=>
    cases hbl:bl e.key key with
    |true=>
     have hk:¬e.key=key:=ZY hbl
     have hkb:(e.key==key)=false:=by simpa using hk
     go_wp2_with fail
     go_quiet (fail)
     obtain⟨wqa,hwqa⟩:∃wqa,wqa=wr.drewN nq:=⟨_,rfl⟩
     rw[<-hwqa]
     have hBqa:Below wr.heap.size wr wqa:=by rw[hwqa];exact JS (Below.refl _ _) nq
     clear hwqa
     have e0a:=Ja hBqa q0
     have e1a:=Ja hBqa q1
     have k1a:=Ja hBqa r1w
     have owna:=Ji ho hBqa
     have hBBa:=hB.trans (hBqa.mono hB.size)
     clear hBqa
     go_wp2_with fail
     go_quiet (fail)
     obtain⟨wqb,hwqb⟩:∃wqb,wqb=wqa.drewN nq:=⟨_,rfl⟩
     rw[<-hwqb]
     have hBqb:Below wqa.heap.size wqa wqb:=by rw[hwqb];exact JS (Below.refl _ _) nq
     clear hwqb
     have e0b:=Ja hBqb e0a
     have e1b:=Ja hBqb e1a
     have k1b:=Ja hBqb k1a
     have ownb:=Ji owna hBqb
     have hBBb:=hBBa.trans (hBqb.mono hBBa.size)
     clear hBqb
     go_wp2_with (at_builtin;go_must (refine wpList_append_own_at _ rfl (.tmp 67) (.tmp 72) 49 rfl w3.heap.size 72 i0 (.agg #[.string ByteArray.empty,.string ByteArray.empty]) 2 32 Tryz.underlying49 hi iz0 iz1 iz2 rfl (by decide) _ o.length _ rfl (ownb.alloc _) ⟨wqb.heap.size,0,none⟩ 1 1 [.string (S e.key),.string (S e.val)] rfl rfl (YD _ _ _ _) (by simp[Value.oneCell']) (by unfold maxLen;omega) (by omega) (by have:=hBBb.size;simp;omega) ?_;intro vz wz hownz hgrowz _ _))
     have hstep:Yh ⟨key,y⟩ (o,false) e=(o++[e],false):=by
      unfold Yh
      simp[hbl,hk]
     exact⟨⟨j+1,by go_num,by omega,(o++[e],false),Lib.hid (by rw[hst.out,hfold.out,hstep]),rfl,by rw[JF,Yt,List.length_append,List.length_singleton];exact hownz,Ju (hBBb.alloc (by have:=hBBb.size;omega) _) hgrowz (fun k e=>(ownb.lt k e).1) (by have:=hBBb.size;simp;omega)⟩,by simp[intOf];omega⟩
    |false=>
     by_cases hk:e.key=key
     ·have hkb:(e.key==key)=true:=by simpa using hk
      have hbk:Op.bytesLess key key=false:=YN key
      go_wp2_with fail
      go_quiet (fail)
      obtain⟨wqa,hwqa⟩:∃wqa,wqa=wr.drewN nq:=⟨_,rfl⟩
      rw[<-hwqa]
      have hBqa:Below wr.heap.size wr wqa:=by rw[hwqa];exact JS (Below.refl _ _) nq
      clear hwqa
      have e0a:=Ja hBqa q0
      have e1a:=Ja hBqa q1
      have k1a:=Ja hBqa r1w
      have owna:=Ji ho hBqa
      have hBBa:=hB.trans (hBqa.mono hB.size)
      clear hBqa
      go_wp2_with (at_builtin;go_must (refine wpList_append_own_at _ rfl (.tmp 52) (.tmp 57) 49 rfl w3.heap.size 72 i0 (.agg #[.string ByteArray.empty,.string ByteArray.empty]) 2 32 Tryz.underlying49 hi iz0 iz1 iz2 rfl (by decide) _ o.length _ rfl (owna.alloc _) ⟨wqa.heap.size,0,none⟩ 1 1 [.string (S key),.string (S y)] rfl rfl (YD _ _ _ _) (by simp[Value.oneCell']) (by unfold maxLen;omega) (by omega) (by have:=hBBa.size;simp;omega) ?_;intro vx wx hownx hgrowx _ _))
      have hownX:wx.ownsRow w3.heap.size 72 2 vx (o++[Ent.mk key y]).length (cellsE (o++[Ent.mk key y])):=by rw[JF,Yt,List.length_append,List.length_singleton];exact hownx
      have hBX:=Ju (hBBa.alloc (by have:=hBBa.size;omega) _) hgrowx (fun k e=>(owna.lt k e).1) (by have:=hBBa.size;simp;omega)
      have hne:∀g,(Value.slice ov o.length oc).ownBlock=some g->w3.heap.size<=g:=fun g e=>(owna.lt g e).1
      obtain⟨ax,cx,ex⟩:=Jm hownx
      subst ex
      have f0:=hgrowx.cell (Jf _ e0a) (fun h=>by have h1:b<w.heap.size:=hb;have h2:w3.heap.size<=b:=hne _ h.symm;have h3:=hB3.size;omega)
      have f1:=hgrowx.cell (Jf _ e1a) (fun h=>by have h1:b<w.heap.size:=hb;have h2:w3.heap.size<=b:=hne _ h.symm;have h3:=hB3.size;omega)
      have f2:=hgrowx.cell (Jf _ k1a) (fun h=>by have h2:w3.heap.size<=w.heap.size:=hne _ h.symm;omega)
      have hol2:(o++[Ent.mk key y]).length<=2001:=by rw[List.length_append,List.length_singleton];omega
      clear hgrowx hownx
      go_wp2_with fail
      go_quiet (fail)
      obtain⟨wqb,hwqb⟩:∃wqb,wqb=wx.drewN nq:=⟨_,rfl⟩
      rw[<-hwqb]
      have hBqb:Below wx.heap.size wx wqb:=by rw[hwqb];exact JS (Below.refl _ _) nq
      clear hwqb
      have e0b:=Ja hBqb f0
      have e1b:=Ja hBqb f1
      have k1b:=Ja hBqb f2
      have ownb:=Ji hownX hBqb
      have hBBb:=hBX.trans (hBqb.mono hBX.size)
      clear hBqb
      go_wp2_with fail
      have hstep:Yh ⟨key,y⟩ (o,false) e=(o++[Ent.mk key y],true):=by
       unfold Yh
       simp[hk,YN]
      exact⟨⟨j+1,by go_num,by omega,(o++[Ent.mk key y],true),Lib.hid (by rw[hst.out,hfold.out,hstep]),rfl,ownb,hBBb⟩,by simp[intOf];omega⟩
     ·have hkb:(e.key==key)=false:=by simpa using hk
      go_wp2_with fail
      go_quiet (fail)
      obtain⟨wqa,hwqa⟩:∃wqa,wqa=wr.drewN nq:=⟨_,rfl⟩
      rw[<-hwqa]
      have hBqa:Below wr.heap.size wr wqa:=by rw[hwqa];exact JS (Below.refl _ _) nq
      clear hwqa
      have e0a:=Ja hBqa q0
      have e1a:=Ja hBqa q1
      have k1a:=Ja hBqa r1w
      have owna:=Ji ho hBqa
      have hBBa:=hB.trans (hBqa.mono hB.size)
      clear hBqa
      go_wp2_with (at_builtin;go_must (refine wpList_append_own_at _ rfl (.tmp 52) (.tmp 57) 49 rfl w3.heap.size 72 i0 (.agg #[.string ByteArray.empty,.string ByteArray.empty]) 2 32 Tryz.underlying49 hi iz0 iz1 iz2 rfl (by decide) _ o.length _ rfl (owna.alloc _) ⟨wqa.heap.size,0,none⟩ 1 1 [.string (S key),.string (S y)] rfl rfl (YD _ _ _ _) (by simp[Value.oneCell']) (by unfold maxLen;omega) (by omega) (by have:=hBBa.size;simp;omega) ?_;intro vx wx hownx hgrowx _ _))
      have hownX:wx.ownsRow w3.heap.size 72 2 vx (o++[Ent.mk key y]).length (cellsE (o++[Ent.mk key y])):=by rw[JF,Yt,List.length_append,List.length_singleton];exact hownx
      have hBX:=Ju (hBBa.alloc (by have:=hBBa.size;omega) _) hgrowx (fun k e=>(owna.lt k e).1) (by have:=hBBa.size;simp;omega)
      have hne:∀g,(Value.slice ov o.length oc).ownBlock=some g->w3.heap.size<=g:=fun g e=>(owna.lt g e).1
      obtain⟨ax,cx,ex⟩:=Jm hownx
      subst ex
      have f0:=hgrowx.cell (Jf _ e0a) (fun h=>by have h1:b<w.heap.size:=hb;have h2:w3.heap.size<=b:=hne _ h.symm;have h3:=hB3.size;omega)
      have f1:=hgrowx.cell (Jf _ e1a) (fun h=>by have h1:b<w.heap.size:=hb;have h2:w3.heap.size<=b:=hne _ h.symm;have h3:=hB3.size;omega)
      have f2:=hgrowx.cell (Jf _ k1a) (fun h=>by have h2:w3.heap.size<=w.heap.size:=hne _ h.symm;omega)
      have hol2:(o++[Ent.mk key y]).length<=2001:=by rw[List.length_append,List.length_singleton];omega
      clear hgrowx hownx
      go_wp2_with fail
      go_quiet (fail)
      obtain⟨wqb,hwqb⟩:∃wqb,wqb=wx.drewN nq:=⟨_,rfl⟩
      rw[<-hwqb]
      have hBqb:Below wx.heap.size wx wqb:=by rw[hwqb];exact JS (Below.refl _ _) nq
      clear hwqb
      have e0b:=Ja hBqb f0
      have e1b:=Ja hBqb f1
      have k1b:=Ja hBqb f2
      have ownb:=Ji hownX hBqb
      have hBBb:=hBX.trans (hBqb.mono hBX.size)
      clear hBqb
      go_wp2_with (at_builtin;go_must (refine wpList_append_own_at _ rfl (.tmp 67) (.tmp 72) 49 rfl w3.heap.size 72 i0 (.agg #[.string ByteArray.empty,.string ByteArray.empty]) 2 32 Tryz.underlying49 hi iz0 iz1 iz2 rfl (by decide) _ (o++[Ent.mk key y]).length _ rfl (ownb.alloc _) ⟨wqb.heap.size,0,none⟩ 1 1 [.string (S e.key),.string (S e.val)] rfl rfl (YD _ _ _ _) (by simp[Value.oneCell']) (by unfold maxLen;omega) (by omega) (by have:=hBBb.size;simp;omega) ?_;intro vz wz hownz hgrowz _ _))
      have hstep:Yh ⟨key,y⟩ (o,false) e=(o++[Ent.mk key y]++[e],true):=by
       unfold Yh
       simp[hbl,hk]
      exact⟨⟨j+1,by go_num,by omega,(o++[Ent.mk key y]++[e],true),Lib.hid (by rw[hst.out,hfold.out,hstep]),rfl,by rw[JF (o++[Ent.mk key y]) [e],Yt,List.length_append,List.length_singleton];exact hownz,Ju (hBBb.alloc (by have:=hBBb.size;omega) _) hgrowz (fun k e=>(ownb.lt k e).1) (by have:=hBBb.size;simp;omega)⟩,by simp[intOf];omega⟩
  ·obtain rfl:j=l.length:=by omega
   have hro:=hfold.out
   rw[List.take_length] at hro
   have hBw:=hB3.trans (hB.mono hB3.size)
   have r1w:=(Jh hB hu3 1).trans r1
   have hol:o.length<=2000:=by
    have h1:=Jbs ⟨key,y⟩ l ([],!is)
    rw[hro] at h1
    simp only[List.length_nil] at h1
    omega
   cases dn with
   |true=>
    have hre:=Lib.hid (show Jar l ⟨key,y⟩ is=o by unfold Jar;rw[hro];rfl)
    clear hro
    go_wp2_with fail
    go_ret
    exact⟨⟨ov,oc,by rw[hre.out];rfl,by rw[hre.out];exact JI ho (by have:=hB3.size;omega)⟩,hBw⟩
   |false=>
    have hre:=Lib.hid (show Jar l ⟨key,y⟩ is=o++[Ent.mk key y] by unfold Jar;rw[hro];rfl)
    clear hro
    go_wp2_with (at_builtin;go_must (refine wpList_append_own_at _ rfl (.tmp 76) (.tmp 81) 49 rfl w3.heap.size 72 i0 (.agg #[.string ByteArray.empty,.string ByteArray.empty]) 2 32 Tryz.underlying49 hi iz0 iz1 iz2 rfl (by decide) _ o.length _ rfl (ho.alloc _) ⟨wr.heap.size,0,none⟩ 1 1 [.string (S key),.string (S y)] rfl rfl (YD _ _ _ _) (by simp[Value.oneCell']) (by unfold maxLen;omega) (by omega) (by have:=hB.size;simp;omega) ?_;intro vz wz hownz hgrowz _ _;obtain⟨az,cz,ez⟩:=Jm hownz;subst ez))
    have hownZ:wz.ownsRow w3.heap.size 72 2 (.slice az (o++[Ent.mk key y]).length cz) (o++[Ent.mk key y]).length (cellsE (o++[Ent.mk key y])):=by rw[JF,Yt,List.length_append,List.length_singleton];exact hownz
    go_ret
    refine⟨⟨az,cz,by rw[hre.out,List.length_append,List.length_singleton];rfl,by rw[hre.out];exact JI hownZ (by have:=hB3.size;omega)⟩,?_⟩
    exact hB3.trans ((Ju (hB.alloc (by have:=hB.size;omega) _) hgrowz (fun k e=>(ho.lt k e).1) (by have:=hB.size;simp;omega)).mono hB3.size)
open Go.RowKit
theorem Jkt (v:Value) (kd:Nat) (key val:List UInt8) (dl:Nat) (w:World) (hk:kd<256) (hd:dl<18446744073709551616) (hc:(Upd.mk kd key val dl).check≠0):
  Calls Tryz.prog 24 #[v,.agg #[.int .u8 kd,.string (S key),.string (S val),.int .u64 dl]] w fun e w'=>e=.returned v/\Below w.heap.size w w':=by
 have hchk:=fun w=>JiK kd key val dl hk hd w
 have hc0:(((Upd.mk kd key val dl).check:Nat):Int)≠0:=by omega
 generalize(Upd.mk kd key val dl).check=cc at*
 go_enter Tryz.func24,Tryz.ntmps24
 go_wp2_with fail
 refine(Jl (hchk _) w.heap.size w (by go_grown) (by go_grown)).mono ?_
 rintro e w1 ⟨rfl,hB1,-,-,-,-⟩
 go_wp2_with fail
 go_ret
 exact⟨rfl,hB1⟩
theorem Jpw {l:List Ent} (hr:Je Ent.key l) (u:Upd):(match Jz l u.key with|some v=>onL v true u|none=>onL [] false u)=Jdb l u:=by
 unfold Jdb
 cases hh:JE Ent.key l u.key with
 |false=>rw[JcE hh];rfl
 |true=>
  obtain⟨hlt,hkey⟩:=(hr.found u.key).1 hh
  have ho:JhO l u.key=(l[below Ent.key l u.key]'hlt).val:=by unfold JhO;rw[List.getElem?_eq_getElem hlt];rfl
  have hl:=Jdc hr _ hlt
  rw[hkey] at hl
  rw[hl,ho]
  rfl
theorem Jks (ao:Option Addr) (n c:Nat) (l:List Ent) (kd:Nat) (key val:List UInt8) (dl:Nat) (w:World) (hn:n=l.length) (hs:SlE w (.slice ao n c) l) (hr:Je Ent.key l) (hl:l.length<=1000) (hk:kd<256) (hd:dl<18446744073709551616):
  Calls Tryz.prog 24 #[.slice ao n c,.agg #[.int .u8 kd,.string (S key),.string (S val),.int .u64 dl]] w fun e w'=>(∃a c',e=.returned (.slice a (onE l ⟨kd,key,val,dl⟩).length c')/\(w'.ownsRow w.heap.size 72 2 (.slice a (onE l ⟨kd,key,val,dl⟩).length c') (onE l ⟨kd,key,val,dl⟩).length (cellsE (onE l ⟨kd,key,val,dl⟩))\/(a=ao/\c'=c/\onE l ⟨kd,key,val,dl⟩=l)))/\Below w.heap.size w w':=by
 subst hn
 by_cases hc:(Upd.mk kd key val dl).check=0
 ·have h1:=Jpw hr ⟨kd,key,val,dl⟩
  have h2:=Jmx hr ⟨kd,key,val,dl⟩ hc
  obtain⟨ao',c',e,hs',-⟩:=hs
  simp only[Value.slice.injEq] at e
  obtain⟨rfl,-,rfl⟩:=e
  have:=Jkr ao c l kd key val dl w hs' hl hk hd hc (Jdb l ⟨kd,key,val,dl⟩).1 (Jdb l ⟨kd,key,val,dl⟩).2 h1
  dsimp only at h2
  rw[h2] at this
  refine this.mono ?_
  rintro e w' ⟨⟨a,c',he,ho⟩,hb⟩
  exact⟨⟨a,c',he,Or.inl ho⟩,hb⟩
 ·have h3:onE l ⟨kd,key,val,dl⟩=l:=by unfold onE;rw[if_pos hc]
  rw[h3]
  refine(Jkt _ kd key val dl w hk hd hc).mono ?_
  rintro e w' ⟨rfl,hb⟩
  exact⟨⟨ao,c,rfl,Or.inr ⟨rfl,rfl,rfl⟩⟩,hb⟩
theorem Jku (ao:Option Addr) (n c:Nat) (l:List Ent) (kd:Nat) (key val:List UInt8) (dl:Nat) (w:World) (hn:n=l.length) (hs:SlE w (.slice ao n c) l) (hr:Je Ent.key l) (hl:l.length<=1000) (hk:kd<256) (hd:dl<18446744073709551616):
  Calls Tryz.prog 24 #[.slice ao n c,.agg #[.int .u8 kd,.string (S key),.string (S val),.int .u64 dl]] w fun e w'=>(∃a c',e=.returned (.slice a (onE l ⟨kd,key,val,dl⟩).length c')/\SlE w' (.slice a (onE l ⟨kd,key,val,dl⟩).length c') (onE l ⟨kd,key,val,dl⟩))/\Below w.heap.size w w':=by
 refine(Jks ao n c l kd key val dl w hn hs hr hl hk hd).mono ?_
 rintro e w' ⟨⟨a,c',he,h⟩,hb⟩
 refine⟨⟨a,c',he,?_⟩,hb⟩
 rcases h with h|⟨rfl,rfl,h⟩
 ·exact(SlE.of_row h).2
 ·rw[h,<-hn]
  exact hs.kept hb (Nat.le_refl _)
end Go.Proofs.YtafciefjlkdecaaGreat
