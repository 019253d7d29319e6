/-
  The walk of a scan's vertex, whatever tree. The walk of Scan, whatever tree. A tree in a law: all of it made since the law began; what grows with each update. TreeFlushes: a set of keys as a map; what updates make of the sums; the plain law. The walk of has: a tree's entries are the document's. A tree in a law, and what the document says it has. Two trees over one shelf. The walk of Dirty. A tree, or two, in a law: what each call does to them, and to what else lies there. The walk of what the document fixes. The walk of TreeCopies.
-/
import Derived.Deep.DeepCutAuto
import Derived.Deep.CutBlock
import Derived.Deep.Cut
import Derived.BigQuiet
import Derived.Test.YtafciefjlkdecaaGreatQcg
set_option maxRecDepth 100000
set_option maxHeartbeats 16000000
set_option linter.unusedVariables false
namespace Go.Proofs.YtafciefjlkdecaaGreat
open Go.RowKit
attribute [local go_sem ↓] Go.wp_at_zero Go.wp_at_succ
theorem Jhd:Jl1 0:=by
 intro X root h T v lo hi sb slo shi most outs oa oc b m d above w hh hin hu hhn hn
 obtain rfl:hh=1:=by omega
 have hb0:=Below.refl w.heap.size w
 have HS:=Lib.hid hin.s
 have HU:=Lib.hid hu
 have HI:=Lib.hid hin
 obtain⟨tb,htb⟩:∃tb,tb=X.tb:=⟨_,rfl⟩
 rw[<-htb] at HS
 have HTB:=Lib.hid htb
 clear htb hin hu hhn
 go_enter Tryz.func43,Tryz.ntmps43
 go_upto_region 1 with(fail)
 obtain⟨W,hW_W⟩:∃W,W=(w.alloc (.cells #[.slice b m d] 103)):=⟨_,rfl⟩
 rw[<-hW_W]
 have hX_W:Below w.heap.size w W:=by rw[hW_W];go_grown
 have gu0:W.cell? ⟨w.heap.size,0,none⟩=some (.slice b m d):=by rw[hW_W,World.cell?_alloc_at _ _ _ _ (by simp)];rfl
 clear hW_W
 have hz_W:=hX_W.size
 replace HS:=Lib.hid (HS.out.kept hX_W (Nat.le_refl _))
 replace HU:=Lib.hid (HU.out.kept hX_W (Nat.le_refl _))
 replace hb0:=hb0.trans (hX_W.mono hb0.size)
 clear hX_W
 have c0:=HS.out.c0
 have HFT:=Lib.hid (show Calls Tryz.prog 50 #[.pointer (some ⟨tb,0,none⟩),.pointer (some ⟨v.b,0,none⟩),.int .i64 1] W _ from HTB.out▸(HI.out.on hb0).fetch 1 (by rfl))
 go_wp2_with fail
 refine HFT.out.mono ?_
 rintro e w2 ⟨wr1,hwr1,c1,k1,s1,⟨rfl,h0⟩|⟨v1,ld,rfl,hv1⟩⟩
 ·have HR:=Lib.hid (And.intro hwr1 (And.intro c1 (And.intro k1 h0)))
  have HB0:=Lib.hid hb0
  clear hwr1 c1 k1 s1 h0 hb0
  go_wp2_with fail
  go_ret
  show JbF X root h T sb slo shi most outs oa oc _ w (.returned (.int .i64 10)) w2
  exact⟨wr1,HR.out.1,HR.out.2.1,(Jg.of_below HB0.out).trans' HR.out.2.2.1,Or.inl ⟨rfl,HR.out.2.2.2⟩⟩
 ·obtain⟨-,pa,pg,ps,la,lc,hv,-,hbx⟩:=hv1.mem.leaf hv1.ld
  have v5:=hv.c5
  have hpw:v1.es.length<=1002/\above.length<=1000:=by
   have h1:=HI.out.pot
   have h2:=hv1.pot
   have h3:=Jbr (v:=v1) (N:=1000) (by omega)
   omega
  have hgl:¬S3 X.sb sb (Z5 oa outs.length oc) w.heap.size:=fun q=>by
   have:=(Jaq HI.out.c HI.out.s q).1
   omega
  have gu2:=k1.cellAt gu0 hgl
  have HU2:=Lib.hid (HU.out.keepN k1 fun x q=>(Jaq (HI.out.on hb0).c (HI.out.on hb0).s q).2.1)
  have HE:=Lib.hid (And.intro hv1.ok.rise0 (And.intro hv1.ok.fine (And.intro hbx HI.out.g)))
  have HV:=Lib.hid hv1
  have HR:=Lib.hid (And.intro hwr1 (And.intro c1 (And.intro k1 s1)))
  have HB0:=Lib.hid hb0
  have hzz:=hb0.size
  have HK:=Lib.hid k1.size
  have hol:=HI.out.o
  clear hwr1 c1 k1 s1 hb0 hbx hv hv1 hgl gu0 c0
  go_upto_region 5 with(fail)
  have hd:Below w2.heap.size w2 w2.drew:=Jb (Below.refl _ _)
  go_region_law (first|(go_simp;go_at_call 74;refine(Jon (tb:=X.tb) _ (HR.out.2.2.2.on hd) (HE.out.2.2.1.kept hd (Nat.le_refl _)) (HU2.out.kept hd (Nat.le_refl _)) (by omega) HE.out.1 HE.out.2.1 (by omega) (fun u hu=>(HE.out.2.2.2.ok u hu).1.wf) (by omega)).mono ?_;rintro e w4 ⟨rfl,⟨oa',oc',h4,hg4⟩,hK4⟩))
  all_goals
   have H4:=Lib.hid (And.intro h4 (And.intro hg4 hK4))
   clear h4 hg4 hK4
   go_wp2_with fail
   go_ret
   show JbF X root h T sb slo shi most outs oa oc _ w (.returned (.int .i64 0)) w4
   obtain⟨h4,hg4,hK4⟩:=H4.out
   obtain⟨hwr1,c1,k1,s1⟩:=HR.out
   have hen:enG 0 v above=Yr v1.es above:=(HV.out.en above).symm
   have hk4:Jg (fun x=>x=sb\/Z5 oa outs.length oc=some x) w2 w4:=(Jg.of_below hd).trans' hK4
   refine⟨wr1,hwr1,c1.keep3 s1 hk4,((Jg.of_below HB0.out).trans' k1).trans' (hk4.mono fun x q=>Or.inr q),Or.inr ⟨rfl,oa',oc',?_,fun g e=> ?_⟩⟩
   ·rw[hen];exact h4
   ·rw[hen] at e
    refine(hg4 g e).imp id (fun q=> ?_)
    have q':w2.heap.size<=g:=q
    have:=HK.out
    omega
theorem JnM {n:Nat} {v:Vt} {x:Chd×Vt} (hx:x∈v.ch):v.us.length+pot n x.2<=pot (n+1) v:=by
 have h1:=Jhk (f:=pot n) hx
 rw[JO]
 omega
theorem Jpf {n:Nat} {v:Vt} {N:Nat} (h:pot (n+1) v<=N):v.ch.length<=N/2+2:=by
 rw[JO] at h
 have h1:JJ v.ch.length*2<=JJ v.ch.length*2^(n+1):=Nat.mul_le_mul_left _ (by rw[Nat.pow_succ];have:=Nat.one_le_two_pow (n:=n);omega)
 unfold JJ at h h1
 omega
theorem Jhe (n:Nat) (IH:Jl1 n):Jl1 (n+1):=by
 intro X root h T v lo hi sb slo shi most outs oa oc b m d above w hh hin hu hhn hn
 have hb0:=Below.refl w.heap.size w
 have HS:=Lib.hid hin.s
 have HU:=Lib.hid hu
 have HI:=Lib.hid hin
 obtain⟨tb,htb⟩:∃tb,tb=X.tb:=⟨_,rfl⟩
 rw[<-htb] at HS
 have HTB:=Lib.hid htb
 have HIH:=Lib.hid IH
 have HHN:=Lib.hid hhn
 have hne:(hh==1)=false:=by simp;omega
 have hhb:2<=hh/\hh<=1000:=by omega
 clear htb hin hu IH hhn
 go_enter Tryz.func43,Tryz.ntmps43
 go_upto_region 1 with(fail)
 obtain⟨W,hW_W⟩:∃W,W=(w.alloc (.cells #[.slice b m d] 103)):=⟨_,rfl⟩
 rw[<-hW_W]
 have hX_W:Below w.heap.size w W:=by rw[hW_W];go_grown
 have gu0:W.cell? ⟨w.heap.size,0,none⟩=some (.slice b m d):=by rw[hW_W,World.cell?_alloc_at _ _ _ _ (by simp)];rfl
 clear hW_W
 have hz_W:=hX_W.size
 replace HS:=Lib.hid (HS.out.kept hX_W (Nat.le_refl _))
 replace HU:=Lib.hid (HU.out.kept hX_W (Nat.le_refl _))
 replace hb0:=hb0.trans (hX_W.mono hb0.size)
 clear hX_W
 have c0:=HS.out.c0
 have HFT:=Lib.hid (show Calls Tryz.prog 50 #[.pointer (some ⟨tb,0,none⟩),.pointer (some ⟨v.b,0,none⟩),.int .i64 hh] W _ from HTB.out▸(HI.out.on hb0).fetch hh HHN.out)
 go_wp2_with fail
 refine HFT.out.mono ?_
 rintro e w2 ⟨wr1,hwr1,c1,k1,s1,⟨rfl,h0⟩|⟨v1,ld,rfl,hv1⟩⟩
 ·have HR:=Lib.hid (And.intro hwr1 (And.intro c1 (And.intro k1 h0)))
  have HB0:=Lib.hid hb0
  clear hwr1 c1 k1 s1 h0 hb0
  go_wp2_with fail
  go_ret
  show JbF X root h T sb slo shi most outs oa oc _ w (.returned (.int .i64 10)) w2
  exact⟨wr1,HR.out.1,HR.out.2.1,(Jg.of_below HB0.out).trans' HR.out.2.2.1,Or.inl ⟨rfl,HR.out.2.2.2⟩⟩
 ·obtain⟨⟨-,pa,pg,ps,a1,x1,a2,x2,a3,x3,hv,-,hnd,-⟩,-⟩:=hv1.mem.node hv1.ld
  have hpw:above.length<=1000/\v1.us.length+above.length<=1000:=by
   have h1:=HI.out.pot
   have h2:=hv1.pot
   have h3:=JO n v1
   omega
  have hgl:¬S3 X.sb sb (Z5 oa outs.length oc) w.heap.size:=fun q=>by
   have:=(Jaq HI.out.c HI.out.s q).1
   omega
  have gu2:=k1.cellAt gu0 hgl
  have HU2:=Lib.hid (HU.out.keepN k1 fun x q=>(Jaq (HI.out.on hb0).c (HI.out.on hb0).s q).2.1)
  have v7:=hv.c7
  have HND:=Lib.hid hnd
  have HV:=Lib.hid hv1
  have HR:=Lib.hid (And.intro hwr1 (And.intro c1 (And.intro k1 s1)))
  have HB0:=Lib.hid hb0
  have hul:=hpw.2
  obtain⟨U,hU⟩:∃U,U=v1.us:=⟨_,rfl⟩
  rw[<-hU] at v7 HND hul
  have HUU:=Lib.hid hU
  clear hwr1 c1 k1 s1 hb0 hnd hv hv1 hgl gu0 c0 HU HS hU hpw
  go_upto_region 8 with(fail)
  obtain⟨ab,hab⟩:∃ab,ab=w2.heap.size:=⟨_,rfl⟩
  obtain⟨W3,hW3⟩:∃W3,W3=w2.alloc (.cells #[.slice a2 U.length x2] 103):=⟨_,rfl⟩
  have hX3:Below w2.heap.size w2 W3:=by rw[hW3];go_grown
  have HA:=Lib.hid (show Jc W3 103 ab [.slice a2 U.length x2] by rw[hW3,hab];exact Jc.new _ _ [.slice a2 U.length x2])
  have HND3:=Lib.hid (HND.out.kept hX3 (Nat.le_refl _))
  have HU3:=Lib.hid (HU2.out.kept hX3 (Nat.le_refl _))
  have gu3:=Ja hX3 gu2
  rw[<-hW3,<-hab]
  have HABE:=Lib.hid hab
  clear hW3 v7 gu2 HU2 HND hab
  have habW:=HA.out.lt
  go_wp2_with fail
  refine(Jlz (.agg #[.slice b m d]) above W3 HU3.out (by omega)).mono ?_
  rintro e w4 ⟨⟨v',rfl,hown⟩,hX4⟩
  obtain⟨la,lc,rfl⟩:=Jm hown
  have HLR:=Lib.hid hown
  have HLA:=Lib.hid (fun g e=>(hown.lt g e).1)
  have HA4:=Lib.hid (HA.out.on hX4)
  have HND4:=Lib.hid (HND3.out.kept hX4 (Nat.le_refl _))
  have HX4:=Lib.hid (show Below w2.heap.size w2 w4 from hX3.trans (hX4.mono hX3.size))
  clear hown gu3 hX4 hX3 HA HND3 HU3
  go_wp2_with fail
  go_loopw [53] (fun i wr=>∃(j:Nat) (A:List Upd) (qa:Option Addr) (qc:Nat),i=.int .i64 j/\j<=above.length/\A.length<=U.length+j/\Hid (A=(above.take j).foldl JR U/\Jd Upd.key A/\Jlf A)/\Hid (Jc wr 103 ab [.slice qa A.length qc])/\Hid (J4 wr (.agg #[.slice qa A.length qc]) A)/\Jg (fun x=>x=ab) w4 wr) (fun i _=>above.length- (intOf i).toNat)
  case atStart=>exact⟨0,U,a2,x2,rfl,Nat.zero_le _,by omega,Lib.hid ⟨rfl,by rw[HUU.out];exact HV.out.ok.usr,by rw[HUU.out];exact Jhh fun u hu=>(HV.out.ok.2.2.1 u hu).1⟩,HA4,Lib.hid ⟨_,rfl,HND4.out.parts.2⟩,Jg.refl _ _⟩
  case round=>
   obtain⟨j,A,qa,qc,rfl,hj,hAl,HAF,HAR,HAB,hK⟩:=hrel
   have hj0:(0:Int)<=(j:Int):=Int.natCast_nonneg _
   by_cases hju:j<above.length
   ·have hj1:(j:Int)<(above.length:Int):=by omega
    have hLr:=Zm HLR.out hK (fun g e q=>by subst q;have:=HLA.out _ e;omega)
    obtain⟨b0,off,ea,hb,t0,t1,t2,t3⟩:=JE.cells4 (SlU.at (Jeo hLr).2) j hju
    subst ea
    have hfx:=Jhh (fun u hu=>(HI.out.g.ok u hu).1) _ (List.getElem_mem hju)
    have HTK:=Lib.hid (show(above.take (j+1)).foldl JR U=JR ((above.take j).foldl JR U) above[j] by rw[List.take_succ_eq_append_getElem hju,List.foldl_append];rfl)
    obtain⟨hwf,hvl⟩:=hfx
    generalize above[j]=u at*
    obtain⟨kd,key,val,dl⟩:=u
    dsimp only at t0 t1 t2 t3 hvl
    have HW:=Lib.hid (fun w' h=>Jh8 (.agg #[.slice qa A.length qc]) A kd key val dl w' h (by omega) HAF.out.2.1 HAF.out.2.2 hwf.1 hwf.2)
    have HA2:=Lib.hid (And.intro (show JR A ⟨kd,key,val,dl⟩=(above.take (j+1)).foldl JR U by rw[HTK.out,<-HAF.out.1]) (And.intro (Zi HAF.out.2.1 ⟨kd,key,val,dl⟩) (Jj0 HAF.out.2.1 HAF.out.2.2 ⟨kd,key,val,dl⟩ ⟨hwf,hvl⟩)))
    have hAl2:=Jdl HAF.out.2.1 ⟨kd,key,val,dl⟩
    go_upto_region 11 with(fail)
    obtain⟨W5,hW5⟩:∃W5,W5=wr.alloc (.cells #[.int .u8 kd,.string (S key),.string (S val),.int .u64 dl] 39):=⟨_,rfl⟩
    have hX5:Below wr.heap.size wr W5:=by rw[hW5];go_grown
    have g0:W5.cell? ⟨wr.heap.size,0,none⟩=some (.int .u8 kd):=by rw[hW5,World.cell?_alloc_at _ _ _ _ rfl];rfl
    have g1:W5.cell? ⟨wr.heap.size,1,none⟩=some (.string (S key)):=by rw[hW5,World.cell?_alloc_at _ _ _ _ rfl];rfl
    have g2:W5.cell? ⟨wr.heap.size,2,none⟩=some (.string (S val)):=by rw[hW5,World.cell?_alloc_at _ _ _ _ rfl];rfl
    have g3:W5.cell? ⟨wr.heap.size,3,none⟩=some (.int .u64 dl):=by rw[hW5,World.cell?_alloc_at _ _ _ _ rfl];rfl
    have HAR5:=Lib.hid (HAR.out.on hX5)
    have HAB5:=Lib.hid (HAB.out.kept hX5 (Nat.le_refl _))
    have hK5:=hK.on hX5
    rw[<-hW5]
    clear hW5 hb t0 t1 t2 t3 hLr HAR HAB hX5 hK hwf hvl
    have p0:W5.cell? ⟨ab,0,none⟩=some (.slice qa A.length qc):=HAR5.out.cell 0
    go_wp2_with fail
    refine(HW.out W5 HAB5.out).mono ?_
    rintro e w6 ⟨⟨v',rfl,hbx⟩,hX6⟩
    obtain⟨sv,rfl,ao,cc,rfl,hrr⟩:=id hbx
    have HB6:=Lib.hid hbx
    have HAR6:=Lib.hid (HAR5.out.on hX6)
    have hK6:=hK5.on hX6
    have q0:w6.cell? ⟨ab,0,none⟩=some (.slice qa A.length qc):=HAR6.out.cell 0
    have qf:=HAR6.out.frozen 0
    generalize JR A ⟨kd,key,val,dl⟩=A2 at*
    clear hbx hrr
    go_wp2_with fail
    exact⟨⟨j+1,A2,ao,cc,by go_num,by omega,by omega,HA2,Lib.hid (HAR6.out.put 0 _),Lib.hid (HB6.out.setAt q0 _),hK6.setCell ⟨ab,0,none⟩ (Or.inl rfl) _⟩,by simp[intOf];omega⟩
   ·obtain rfl:j=above.length:=by omega
    obtain⟨w5,hw5⟩:∃w5,w5=wr:=⟨_,rfl⟩
    subst hw5
    have hX5:Below w2.heap.size w2 w5:=HX4.out.trans (hK.below HX4.out.size (fun x hx=>by rw[show x=ab from hx,HABE.out];exact Nat.le_refl _))
    obtain⟨hwr1,c1,k1,s1⟩:=HR.out
    have HC5:=Lib.hid (And.intro (c1.on hX5) (s1.on hX5))
    have HST5:=Lib.hid (fun w' (hk:Jg (S3 X.sb sb (Z5 oa outs.length oc)) w5 w')=>HV.out.stab (by omega) w' ((Jg.of_below hX5).trans' hk))
    have HKW:=Lib.hid (show Jg (S3 X.sb sb (Z5 oa outs.length oc)) w w5 from((Jg.of_below HB0.out).trans' k1).on hX5)
    have HWR1:=Lib.hid hwr1
    obtain⟨V2,hV2⟩:∃V2,V2=gv (n+1) v1 above:=⟨_,rfl⟩
    have hVA:V2.us=A:=by
     rw[hV2,HAF.out.1,List.take_length,HUU.out]
     rfl
    have hVc:V2.ch=v1.ch:=by rw[hV2];rfl
    have HV2:=Lib.hid (And.intro hV2 (And.intro hVA (And.intro hVc (show Ok (n+1) lo hi V2 by rw[hV2];exact Jjh HV.out.ok HI.out.g))))
    have HEN:=Lib.hid (show enG (n+1) v above=scI (enG n) A V2 v1.ch.length by
     rw[<-HV.out.en above]
     show en (n+1) (gv (n+1) v1 above)=_
     rw[<-hV2,Joo,hVA,hVc])
    clear hV2 hVA hVc
    obtain⟨⟨-,p1,p2,p3,p4,p5,p6,p7,b3,y3,hv5,-,-,hkd5⟩,-⟩:=(HST5.out w5 (Jg.refl _ _)).node HV.out.ld
    obtain⟨nk,hnk⟩:∃nk,nk=v1.ch.length:=⟨_,rfl⟩
    have HKD:=Lib.hid hkd5
    have v8:=hv5.c8
    rw[<-hnk] at v8
    have hnk2:nk<=502:=by
     have h1:=HI.out.pot
     have h2:=HV.out.pot
     have h3:=Jpf (n:=n) (v:=v1) (N:=1000) (by omega)
     omega
    have HNK:=Lib.hid hnk
    have HABX:=Lib.hid (And.intro HAR.out HAB.out)
    have hob:=HI.out.o
    have HIM:=Lib.hid HI.out.m
    have HAAF:=Lib.hid HAF.out.2
    have HAL:=Lib.hid (show A.length+pot (n+1) v1<=1000+U.length by
     have h1:=HI.out.pot
     have h2:=HV.out.pot
     omega)
    have hA1:A.length<=1000:=by omega
    have HRA:=Lib.hid HAF.out.2.1
    clear hnk hwr1 c1 k1 s1 hv5 hkd5 HLR HLA HA4 HND4 HAR HAB hK HX4 hX5 HAF
    go_wp2_with fail
    go_loopw [66] (fun i wr=>∃(j:Nat) (O:List Ent) (oa2:Option Addr) (oc2:Nat),i=.int .i64 j/\j<=nk/\O.length<=1000/\Hid (O=Zp most slo shi outs (scI (enG n) A V2 j))/\Hid (∃wr2,wr2<=T.wr/\CAt wr X root h {T with wr:=wr2}/\Jg (S3 X.sb sb (Z5 oa outs.length oc)) w5 wr/\ScR wr sb X.tb slo shi most O oa2 oc2/\∀g,Z5 oa2 O.length oc2=some g->Z5 oa outs.length oc=some g\/w5.heap.size<=g)) (fun i _=>nk- (intOf i).toNat)
    case atStart=>exact⟨0,outs,oa,oc,rfl,Nat.zero_le _,hob,Lib.hid (by rw[Jim,JoP]),Lib.hid ⟨wr1,HWR1.out,HC5.out.1,Jg.refl _ _,HC5.out.2,fun g e=>Or.inl e⟩⟩
    case round=>
     obtain⟨j,O,oa2,oc2,rfl,hj,hOl,HO,HRR⟩:=hrel
     have hj0:(0:Int)<=(j:Int):=Int.natCast_nonneg _
     by_cases hjl:j<nk
     ·have hj1:(j:Int)<(nk:Int):=by omega
      have hkl:j<v1.ch.length:=by rw[<-HNK.out];exact hjl
      obtain⟨x,hx⟩:∃x,x=v1.ch[j]:=⟨_,rfl⟩
      have hxm:x∈v1.ch:=by rw[hx];exact List.getElem_mem hkl
      obtain⟨wr2,hwr2,c2,k2,s2,hg2⟩:=HRR.out
      have hkr:wr.ownsRow 0 97 1 (.slice b3 nk y3) nk ((v1.ch.map fun x=>x.2.b).map vp):=by
       have h0:ZG wr (.slice b3 v1.ch.length y3) (v1.ch.map fun x=>x.2.b):=ZG.keepT HKD.out k2 fun x cur hr q=>by
        rcases(Jaq HC5.out.1 HC5.out.2 q).2.2 _ _ hr with e|e|e<;>exact absurd e (by decide)
       have h1:wr.ownsRow 0 97 1 (.slice b3 v1.ch.length y3) (v1.ch.map fun x=>x.2.b).length ((v1.ch.map fun x=>x.2.b).map vp):=h0
       rw[List.length_map,<-HNK.out] at h1
       exact h1
      obtain⟨g3,rfl,-,-,hgc⟩:=Ym hkr (by omega)
      have r0:wr.cell? ⟨g3,j,none⟩=some (.pointer (some ⟨x.2.b,0,none⟩)):=by
       have:=hgc j (vp x.2.b) (by rw[List.getElem?_map,List.getElem?_map,List.getElem?_eq_getElem hkl,hx];rfl)
       simpa using this
      obtain⟨⟨-,p1',p2',p3',a1',x1',a2',x2',p4',p5',hvr,-,hndr,-⟩,-⟩:=(HST5.out wr k2).node HV.out.ld
      have v6:=hvr.c6
      have v7:=hvr.c7
      rw[<-HNK.out] at v6
      rw[<-HUU.out] at v7
      have HRG:=Lib.hid (show Calls Tryz.prog 76 #[.agg #[.slice a1' nk x1',.slice a2' U.length x2'],.int .i64 j] wr fun e w'=>e=.returned (.tuple #[.string (S (Yu v1.cs j)),.string (S (JZ v1.cs j))])/\Below wr.heap.size wr w' by
       rw[HNK.out,HUU.out]
       exact Jgy (.agg #[.slice a1' v1.ch.length x1',.slice a2' v1.us.length x2']) v1.cs v1.us j wr hndr (by rw[List.length_map,<-HNK.out];omega) (by omega))
      obtain⟨lo',hi',hok,hgiv,hkey⟩:=Jbt HV2.out.2.2.2 j (by rw[HV2.out.2.2.1];exact hkl)
      have hx2:V2.ch[j]'(by rw[HV2.out.2.2.1];exact hkl)=x:=by
       rw[hx]
       congr 1
       exact HV2.out.2.2.1
      have hcs:V2.cs=v1.cs:=by rw[Vt.cs,HV2.out.2.2.1]
      rw[hx2] at hok
      rw[hcs] at hgiv hkey
      rw[HV2.out.2.1] at hgiv
      have hstep:Zp most slo shi outs (scI (enG n) A V2 (j+1))=Zp most slo shi O (enG n x.2 (JH A (Yu v1.cs j) (JZ v1.cs j))):=by
       rw[Jin (enG n) A V2 j (by rw[HV2.out.2.2.1];exact hkl),Jef,<-HO.out,hx2,hcs]
      have hcl:=Jjw HRA.out (Yu v1.cs j) (JZ v1.cs j)
      generalize Yu v1.cs j=kl at*
      generalize JZ v1.cs j=kg at*
      have HKK:=Lib.hid (And.intro hok (And.intro hgiv (And.intro hkey (And.intro hstep hxm))))
      have HCUT:=Lib.hid (fun w' hx=>JlO (.agg #[.slice qa A.length qc]) A kl kg w' hx (by omega) HRA.out)
      have HEK:=Lib.hid (fun e he=>hkey _ ((Jop hok hgiv).ent e he).2)
      generalize JH A kl kg=I at*
      generalize Ya A kl kg=OU at*
      have HBX:=Lib.hid (show J4 wr (.agg #[.slice qa A.length qc]) A from HABX.out.2.keepN k2 fun x q=>(Jaq HC5.out.1 HC5.out.2 q).2.1)
      have hab:¬S3 X.sb sb (Z5 oa outs.length oc) ab:=fun q=>by
       rcases(Jaq HC5.out.1 HC5.out.2 q).2.2 _ _ HABX.out.1 with e|e|e<;>exact absurd e (by decide)
      have p0:wr.cell? ⟨ab,0,none⟩=some (.slice qa A.length qc):=(k2.row HABX.out.1 hab).cell 0
      have HS2:=Lib.hid s2
      clear hwr2 c2 k2 s2 hg2 hkr hgc hx hxm hvr hndr hok hgiv hkey hx2 hcs hstep hab v8
      go_wp2_with fail
      refine HRG.out.mono ?_
      rintro e w7 ⟨rfl,hX7⟩
      have HS7:=Lib.hid (HS2.out.on hX7)
      have HBX7:=Lib.hid (HBX.out.kept hX7 (Nat.le_refl _))
      have p7:=Ja hX7 p0
      have HB7:=Lib.hid hX7
      have c3:=HS7.out.c3
      have c4:=HS7.out.c4
      have HMT:=Lib.hid (fun w' (hq:ScR w' sb X.tb slo shi most O oa2 oc2)=>Jqp slo shi kl kg w' hq)
      clear hX7 p0 r0 v6 v7
      have hskip:∀w8,Below w7.heap.size w7 w8->Zp most slo shi O (enG n x.2 I)=O->∃(j':Nat) (O':List Ent) (oa':Option Addr) (oc':Nat),Value.int .i64 ((j:Int)+1)=.int .i64 j'/\j'<=nk/\O'.length<=1000/\Hid (O'=Zp most slo shi outs (scI (enG n) A V2 j'))/\Hid (∃wr2,wr2<=T.wr/\CAt w8 X root h {T with wr:=wr2}/\Jg (S3 X.sb sb (Z5 oa outs.length oc)) w5 w8/\ScR w8 sb X.tb slo shi most O' oa' oc'/\∀g,Z5 oa' O'.length oc'=some g->Z5 oa outs.length oc=some g\/w5.heap.size<=g):=fun w8 hX8 hacc=>by
       obtain⟨wr2,hwr2,c2,k2,s2,hg2⟩:=HRR.out
       have hX:=HB7.out.trans (hX8.mono HB7.out.size)
       exact⟨j+1,O,oa2,oc2,by go_num,by omega,hOl,Lib.hid (by rw[HKK.out.2.2.2.1,hacc]),Lib.hid ⟨wr2,hwr2,c2.on hX,k2.on hX,s2.on hX,hg2⟩⟩
      have HSK:=Lib.hid hskip
      clear hskip
      go_upto_region 17 with(fail)
      cases hmt:Jff kl kg slo shi with
      |false=>
       have HACC:=Lib.hid (Jnh (most:=most) (outs:=O) hmt HEK.out)
       have HMF:=Lib.hid (fun w' (hq:ScR w' sb X.tb slo shi most O oa2 oc2)=>show Calls Tryz.prog 77 #[.pointer (some ⟨sb,0,none⟩),.string (S kl),.string (S kg)] w' (fun e w''=>e=.returned (.bool false)/\Below w'.heap.size w' w'') from hmt▸HMT.out w' hq)
       clear hmt
       refine WQ.region (C:=fun w'=>Below w7.heap.size w7 w') (by kernel_rfl) (by kernel_rfl) (Jb (Below.refl _ _)) ?_
       refine WV (by rfl) (.pointer (some ⟨sb,0,none⟩)) (fun w' hw'=> ?_) ?_
       ·have hq':=hw'
        go_simp
       try simp only[Act.put,WA,WB,WC]
       refine WV (by rfl) (.string (S kl)) (fun w' hw'=> ?_) ?_
       ·have hq':=hw'
        go_simp
       try simp only[Act.put,WA,WB,WC]
       refine WV (by rfl) (.string (S kg)) (fun w' hw'=> ?_) ?_
       ·have hq':=hw'
        go_simp
       try simp only[Act.put,WA,WB,WC]
       refine WV (by rfl) (.bool false) (fun w' hw'=> ?_) ?_
       ·have hq':=hw'
        go_simp
        go_at_call 77
        refine(HMF.out _ (HS7.out.kept hq' (Nat.le_refl _))).mono ?_
        rintro e w6 ⟨he,hb6⟩
        exact⟨he,hq'.trans (hb6.mono hq'.size)⟩
       try simp only[Act.put,WA,WB,WC]
       refine WV (by rfl) (.bool true) (fun w' hw'=> ?_) ?_
       ·have hq':=hw'
        go_simp
       try simp only[Act.put,WA,WB,WC]
       refine WV (by rfl) (.bool true) (fun w' hw'=> ?_) ?_
       ·have hq':=hw'
        go_simp
       try simp only[Act.put,WA,WB,WC]
       refine WS (by rfl) ?_
       try simp only[Act.put,WA,WB,WC]
       refine WS (by rfl) ?_
       try simp only[Act.put,WA,WB,WC]
       refine WS (by rfl) ?_
       try simp only[Act.put,WA,WB,WC]
       refine WS (by rfl) ?_
       try simp only[Act.put,WA,WB,WC]
       refine WS (by rfl) ?_
       try simp only[Act.put,WA,WB,WC]
       refine WS (by rfl) ?_
       try simp only[Act.put,WA,WB,WC]
       refine WS (by rfl) ?_
       try simp only[Act.put,WA,WB,WC]
       refine WS (by rfl) ?_
       try simp only[Act.put,WA,WB,WC]
       refine WS (by rfl) ?_
       try simp only[Act.put,WA,WB,WC]
       refine WS (by rfl) ?_
       try simp only[Act.put,WA,WB,WC]
       refine WV (by rfl) (.bool true) (fun w' hw'=> ?_) ?_
       ·have hq':=hw'
        go_simp
       try simp only[Act.put,WA,WB,WC]
       refine WQ.done ?_
       rintro w8 hX8
       have HX8:=Lib.hid hX8
       clear hX8
       go_wp2_with fail
       exact⟨HSK.out _ HX8.out HACC.out,by simp[intOf];omega⟩
      |true=>
      have HMF:=Lib.hid (fun w' (hq:ScR w' sb X.tb slo shi most O oa2 oc2)=>show Calls Tryz.prog 77 #[.pointer (some ⟨sb,0,none⟩),.string (S kl),.string (S kg)] w' (fun e w''=>e=.returned (.bool true)/\Below w'.heap.size w' w'') from hmt▸HMT.out w' hq)
      clear hmt
      by_cases hfull:most<=(O.length:Int)
      ·have hfd:decide (most<=(O.length:Int))=true:=by simpa using hfull
       have HACC:=Lib.hid (Jni (slo:=slo) (shi:=shi) (l:=enG n x.2 I) hfull)
       refine WQ.region (C:=fun w'=>Below w7.heap.size w7 w') (by kernel_rfl) (by kernel_rfl) (Jb (Below.refl _ _)) ?_
       refine WV (by rfl) (.pointer (some ⟨sb,0,none⟩)) (fun w' hw'=> ?_) ?_
       ·have hq':=hw'
        go_simp
       try simp only[Act.put,WA,WB,WC]
       refine WV (by rfl) (.string (S kl)) (fun w' hw'=> ?_) ?_
       ·have hq':=hw'
        go_simp
       try simp only[Act.put,WA,WB,WC]
       refine WV (by rfl) (.string (S kg)) (fun w' hw'=> ?_) ?_
       ·have hq':=hw'
        go_simp
       try simp only[Act.put,WA,WB,WC]
       refine WV (by rfl) (.bool true) (fun w' hw'=> ?_) ?_
       ·have hq':=hw'
        go_simp
        go_at_call 77
        refine(HMF.out _ (HS7.out.kept hq' (Nat.le_refl _))).mono ?_
        rintro e w6 ⟨he,hb6⟩
        exact⟨he,hq'.trans (hb6.mono hq'.size)⟩
       try simp only[Act.put,WA,WB,WC]
       refine WV (by rfl) (.bool false) (fun w' hw'=> ?_) ?_
       ·have hq':=hw'
        go_simp
       try simp only[Act.put,WA,WB,WC]
       refine WV (by rfl) (.bool false) (fun w' hw'=> ?_) ?_
       ·have hq':=hw'
        go_simp
       try simp only[Act.put,WA,WB,WC]
       refine WV (by rfl) (.pointer (some ⟨sb,0,none⟩)) (fun w' hw'=> ?_) ?_
       ·have hq':=hw'
        go_simp
       try simp only[Act.put,WA,WB,WC]
       refine WV (by rfl) (.pointer (some ⟨sb,0,none⟩)) (fun w' hw'=> ?_) ?_
       ·have hq':=hw'
        go_simp
       try simp only[Act.put,WA,WB,WC]
       refine WV (by rfl) (.pointer (some ⟨sb,4,none⟩)) (fun w' hw'=> ?_) ?_
       ·have hq':=hw'
        go_simp
       try simp only[Act.put,WA,WB,WC]
       refine WV (by rfl) (.slice oa2 O.length oc2) (fun w' hw'=> ?_) ?_
       ·have hq':=hw'
        have z0:=Ja hw' c3;have z1:=Ja hw' c4;go_simp
       try simp only[Act.put,WA,WB,WC]
       refine WV (by rfl) (.int .i64 O.length) (fun w' hw'=> ?_) ?_
       ·have hq':=hw'
        go_simp
       try simp only[Act.put,WA,WB,WC]
       refine WV (by rfl) (.pointer (some ⟨sb,0,none⟩)) (fun w' hw'=> ?_) ?_
       ·have hq':=hw'
        go_simp
       try simp only[Act.put,WA,WB,WC]
       refine WV (by rfl) (.pointer (some ⟨sb,0,none⟩)) (fun w' hw'=> ?_) ?_
       ·have hq':=hw'
        go_simp
       try simp only[Act.put,WA,WB,WC]
       refine WV (by rfl) (.pointer (some ⟨sb,3,none⟩)) (fun w' hw'=> ?_) ?_
       ·have hq':=hw'
        go_simp
       try simp only[Act.put,WA,WB,WC]
       refine WV (by rfl) (.int .i64 most) (fun w' hw'=> ?_) ?_
       ·have hq':=hw'
        have z0:=Ja hw' c3;have z1:=Ja hw' c4;go_simp
       try simp only[Act.put,WA,WB,WC]
       refine WV (by rfl) (.bool true) (fun w' hw'=> ?_) ?_
       ·have hq':=hw'
        go_simp
       try simp only[Act.put,WA,WB,WC]
       refine WV (by rfl) (.bool true) (fun w' hw'=> ?_) ?_
       ·have hq':=hw'
        go_simp
       try simp only[Act.put,WA,WB,WC]
       refine WQ.done ?_
       rintro w8 hX8
       have HX8:=Lib.hid hX8
       clear hX8
       go_wp2_with fail
       exact⟨HSK.out _ HX8.out HACC.out,by simp[intOf];omega⟩
      ·have hfd:decide (most<=(O.length:Int))=false:=by simpa using hfull
       refine WQ.region (C:=fun w'=>Below w7.heap.size w7 w') (by kernel_rfl) (by kernel_rfl) (Jb (Below.refl _ _)) ?_
       refine WV (by rfl) (.pointer (some ⟨sb,0,none⟩)) (fun w' hw'=> ?_) ?_
       ·have hq':=hw'
        go_simp
       try simp only[Act.put,WA,WB,WC]
       refine WV (by rfl) (.string (S kl)) (fun w' hw'=> ?_) ?_
       ·have hq':=hw'
        go_simp
       try simp only[Act.put,WA,WB,WC]
       refine WV (by rfl) (.string (S kg)) (fun w' hw'=> ?_) ?_
       ·have hq':=hw'
        go_simp
       try simp only[Act.put,WA,WB,WC]
       refine WV (by rfl) (.bool true) (fun w' hw'=> ?_) ?_
       ·have hq':=hw'
        go_simp
        go_at_call 77
        refine(HMF.out _ (HS7.out.kept hq' (Nat.le_refl _))).mono ?_
        rintro e w6 ⟨he,hb6⟩
        exact⟨he,hq'.trans (hb6.mono hq'.size)⟩
       try simp only[Act.put,WA,WB,WC]
       refine WV (by rfl) (.bool false) (fun w' hw'=> ?_) ?_
       ·have hq':=hw'
        go_simp
       try simp only[Act.put,WA,WB,WC]
       refine WV (by rfl) (.bool false) (fun w' hw'=> ?_) ?_
       ·have hq':=hw'
        go_simp
       try simp only[Act.put,WA,WB,WC]
       refine WV (by rfl) (.pointer (some ⟨sb,0,none⟩)) (fun w' hw'=> ?_) ?_
       ·have hq':=hw'
        go_simp
       try simp only[Act.put,WA,WB,WC]
       refine WV (by rfl) (.pointer (some ⟨sb,0,none⟩)) (fun w' hw'=> ?_) ?_
       ·have hq':=hw'
        go_simp
       try simp only[Act.put,WA,WB,WC]
       refine WV (by rfl) (.pointer (some ⟨sb,4,none⟩)) (fun w' hw'=> ?_) ?_
       ·have hq':=hw'
        go_simp
       try simp only[Act.put,WA,WB,WC]
       refine WV (by rfl) (.slice oa2 O.length oc2) (fun w' hw'=> ?_) ?_
       ·have hq':=hw'
        have z0:=Ja hw' c3;have z1:=Ja hw' c4;go_simp
       try simp only[Act.put,WA,WB,WC]
       refine WV (by rfl) (.int .i64 O.length) (fun w' hw'=> ?_) ?_
       ·have hq':=hw'
        go_simp
       try simp only[Act.put,WA,WB,WC]
       refine WV (by rfl) (.pointer (some ⟨sb,0,none⟩)) (fun w' hw'=> ?_) ?_
       ·have hq':=hw'
        go_simp
       try simp only[Act.put,WA,WB,WC]
       refine WV (by rfl) (.pointer (some ⟨sb,0,none⟩)) (fun w' hw'=> ?_) ?_
       ·have hq':=hw'
        go_simp
       try simp only[Act.put,WA,WB,WC]
       refine WV (by rfl) (.pointer (some ⟨sb,3,none⟩)) (fun w' hw'=> ?_) ?_
       ·have hq':=hw'
        go_simp
       try simp only[Act.put,WA,WB,WC]
       refine WV (by rfl) (.int .i64 most) (fun w' hw'=> ?_) ?_
       ·have hq':=hw'
        have z0:=Ja hw' c3;have z1:=Ja hw' c4;go_simp
       try simp only[Act.put,WA,WB,WC]
       refine WV (by rfl) (.bool false) (fun w' hw'=> ?_) ?_
       ·have hq':=hw'
        go_simp
       try simp only[Act.put,WA,WB,WC]
       refine WV (by rfl) (.bool false) (fun w' hw'=> ?_) ?_
       ·have hq':=hw'
        go_simp
       try simp only[Act.put,WA,WB,WC]
       refine WQ.done ?_
       rintro w8 hX8
       have p8:=Ja hX8 p7
       have HBX8:=Lib.hid (HBX7.out.kept hX8 (Nat.le_refl _))
       have HB8:=Lib.hid (HB7.out.trans (hX8.mono HB7.out.size))
       clear hX8 c3 c4 p7
       go_wp2_with fail
       refine(HCUT.out w8 HBX8.out).mono ?_
       rintro e w9 ⟨⟨z1,z2,rfl,hb1,hb2⟩,hX9⟩
       obtain⟨i1,d1,rfl,hb1'⟩:=hb1.open
       obtain⟨i2,d2,rfl,-⟩:=hb2.open
       have HB1:=Lib.hid hb1'
       have hb9:=HB8.out.trans (hX9.mono HB8.out.size)
       clear hb1 hb2 hb1' p8 hX9
       go_upto_region 19 with(fail)
       obtain⟨W10,hW_W10⟩:∃W10,W10=((w9.alloc (.cells #[.slice i1 I.length d1] 103)).alloc (.cells #[.slice i2 OU.length d2] 103)):=⟨_,rfl⟩
       rw[<-hW_W10]
       have hX_W10:Below w9.heap.size w9 W10:=by rw[hW_W10];go_grown
       have gi0:W10.cell? ⟨w9.heap.size,0,none⟩=some (.slice i1 I.length d1):=by rw[hW_W10,World.cell?_alloc_past _ _ _ (by simp<;>omega),World.cell?_alloc_at _ _ _ _ (by simp)];rfl
       have gq0:W10.cell? ⟨w9.heap.size+1,0,none⟩=some (.slice i2 OU.length d2):=by rw[hW_W10,World.cell?_alloc_at _ _ _ _ (by simp)];rfl
       clear hW_W10
       have hz_W10:=hX_W10.size
       replace HB1:=Lib.hid (HB1.out.kept hX_W10 (Nat.le_refl _))
       replace hb9:=hb9.trans (hX_W10.mono hb9.size)
       clear hX_W10
       have hwh:IntKind.i64.wrap (hh-1)=hh-1:=IntWalk.i64_in _ (by omega)
       have HB9:=Lib.hid hb9
       have HKC:=Lib.hid (show∃wr2:Nat,wr2<=T.wr/\Calls Tryz.prog 43 #[.pointer (some ⟨sb,0,none⟩),.pointer (some ⟨x.2.b,0,none⟩),.int .i64 (hh-1),.agg #[.slice i1 I.length d1]] W10 (fun e w'=>JbF X root h {T with wr:=wr2} sb slo shi most O oa2 oc2 (enG n x.2 I) W10 e w')/\(Jg (S3 X.sb sb (Z5 oa outs.length oc)) w5 W10/\∀g,Z5 oa2 O.length oc2=some g->Z5 oa outs.length oc=some g\/w5.heap.size<=g) from by
        obtain⟨wr2,hwr2,c2,k2,s2,hg2⟩:=HRR.out
        obtain⟨hok,hgiv,-,-,hxm⟩:=HKK.out
        have kW:=k2.on HB9.out
        refine⟨wr2,hwr2,HIH.out X root h {T with wr:=wr2} x.2 lo' hi' sb slo shi most O oa2 oc2 i1 I.length d1 I W10 (hh-1) ⟨c2.on HB9.out,fun w' hk=> ?_,hok,HV.out.shf.2 x hxm,HI.out.near,?_,Nat.le_trans hwr2 HI.out.wr,s2.on HB9.out,hgiv,HIM.out,hOl⟩ HB1.out (by have:=HHN.out;omega) (by omega),kW,hg2⟩
        ·have hk2:=kW.trans hk (fun y q=>by
          rcases q with q|q|q
          ·exact Or.inl (Or.inl q)
          ·exact Or.inl (Or.inr (Or.inl q))
          ·exact(hg2 y q).imp (fun r=>Or.inr (Or.inr r)) id)
         exact((HST5.out w' hk2).node HV.out.ld).2 x hxm
        ·have h1:=JnM (n:=n) hxm
         have h2:=HAL.out
         rw[HUU.out] at h2
         omega)
       obtain⟨wr2,hwr2,hcall,hkw⟩:=HKC.out
       have HCALL:=Lib.hid hcall
       have HKW2:=Lib.hid (And.intro hwr2 hkw)
       clear hcall hkw hwr2 hb9
       go_wp2_with fail
       refine HCALL.out.mono ?_
       rintro e w11 ⟨wr3,hwr3,c3,k3,⟨rfl,h0⟩|⟨rfl,oa',oc',s',hg'⟩⟩
       ·have HF:=Lib.hid (And.intro hwr3 (And.intro c3 (And.intro k3 h0)))
        clear hwr3 c3 k3 h0
        go_wp2_with fail
        go_ret
        show JbF X root h T sb slo shi most outs oa oc _ w (.returned (.int .i64 10)) w11
        obtain⟨hwr3,c3,k3,h0⟩:=HF.out
        obtain⟨hwr2,k5,hg2⟩:=HKW2.out
        have k4:=k5.trans k3 (fun y q=>by
         rcases q with q|q|q
         ·exact Or.inl (Or.inl q)
         ·exact Or.inl (Or.inr (Or.inl q))
         ·exact(hg2 y q).imp (fun r=>Or.inr (Or.inr r)) id)
        exact⟨wr3,Nat.le_trans hwr3 hwr2,c3,HKW.out.trans' k4,Or.inl ⟨rfl,Nat.lt_of_lt_of_le h0 hwr2⟩⟩
       ·have HF:=Lib.hid (And.intro hwr3 (And.intro c3 (And.intro k3 (And.intro s' hg'))))
        have hO2:=Jng most slo shi O (enG n x.2 I) HIM.out hOl
        have HST2:=Lib.hid HKK.out.2.2.2.1
        generalize Zp most slo shi O (enG n x.2 I)=O2 at*
        clear hwr3 c3 k3 s' hg'
        go_wp2_with fail
        obtain⟨hwr3,c3,k3,s',hg'⟩:=HF.out
        obtain⟨hwr2,k5,hg2⟩:=HKW2.out
        have k4:=k5.trans k3 (fun y q=>by
         rcases q with q|q|q
         ·exact Or.inl (Or.inl q)
         ·exact Or.inl (Or.inr (Or.inl q))
         ·exact(hg2 y q).imp (fun r=>Or.inr (Or.inr r)) id)
        exact⟨⟨j+1,O2,oa',oc',by go_num,by omega,hO2,Lib.hid HST2.out.symm,Lib.hid ⟨wr3,Nat.le_trans hwr3 hwr2,c3,k4,s',fun g e=>(hg' g e).elim (fun r=>hg2 g r) (fun r=>Or.inr (Nat.le_trans k5.size r))⟩⟩,by simp[intOf];omega⟩
     ·obtain rfl:j=nk:=by omega
      go_wp2_with fail
      go_ret
      show JbF X root h T sb slo shi most outs oa oc _ w (.returned (.int .i64 0)) wr
      obtain⟨wr2,hwr2,c2,k2,s2,hg2⟩:=HRR.out
      have hO:=HO.out
      rw[HNK.out,<-HEN.out] at hO
      refine⟨wr2,hwr2,c2,HKW.out.trans' k2,Or.inr ⟨rfl,oa2,oc2,?_,fun g e=> ?_⟩⟩
      ·rw[<-hO];exact s2
      ·rw[<-hO] at e
       exact(hg2 g e).imp id (fun r=>Nat.le_trans HKW.out.size r)
theorem Jez:∀n,Jl1 n
 |0=>Jhd
 |n+1=>Jhe n (Jez n)
open Go.RowKit
attribute [local go_sem ↓] Go.wp_at_zero Go.wp_at_succ
theorem Jqw (n:Nat) (v:Vt):gv n v []=v:=by cases v;cases n<;>rfl
theorem JpG (n:Nat) (v:Vt):enG n v []=en n v:=by unfold enG;rw[Jqw]
def Jeu (X:Kx) (n:Nat) (w:World) (v:Vt) (T:Tx) (slo shi:List UInt8) (most:Int) (e:Ending) (w':World):Prop:=
 ∃wr',wr'<=T.wr/\Zf X n w' v {T with wr:=wr'}/\Jg (fun x=>x=X.sb) w w'/\((e=.returned (.tuple #[.slice none 0 0,.int .i64 10])/\0<T.wr)\/∃oa oc,e=.returned (.tuple #[.slice oa (Zp most slo shi [] (en n v)).length oc,.int .i64 0])/\XQ w' (.slice oa (Zp most slo shi [] (en n v)).length oc) (Zp most slo shi [] (en n v))/\∀g,(Value.slice oa (Zp most slo shi [] (en n v)).length oc).ownBlock=some g->w.heap.size<=g)
theorem Zf.mem_load {X:Kx} {n:Nat} {w w':World} {v:Vt} {T:Tx} (t:Zf X n w v T) (hk:Jg (fun x=>x=X.sb) w w'):Mem w' n v:=
 t.m.keep hk (fun b e=>by rw[show b=X.sb from e];exact(t.c.soft X.sb (Or.inr (Or.inl rfl))).1) fun b hb e=>by
  obtain⟨cur,hc⟩:=t.m.cells b hb
  rw[show b=X.sb from e] at hc
  exact absurd (hc.one t.c.sh.row).1 (by decide)
theorem Zf.load {X:Kx} {n:Nat} {w w':World} {v:Vt} {T:Tx} (t:Zf X n w v T) {wr':Nat} (hw:wr'<=T.wr) (c:CAt w' X v.b (n+1) {T with wr:=wr'}) (hk:Jg (fun x=>x=X.sb) w w'):Zf X n w' v {T with wr:=wr'}:=
 ⟨c,t.mem_load hk,t.nd,t.ok,t.sh,t.pot,Nat.le_trans hw t.wr,t.gone,t.fl⟩
theorem JnF {X:Kx} {n:Nat} {v:Vt} {T:Tx} (slo shi:List UInt8) (most:Int) (w:World) (t:Zf X n w v T) (hN:Jgg X.f) (hm:most<=1000):
  Calls Tryz.prog 17 #[.pointer (some ⟨X.tb,0,none⟩),.string (S slo),.string (S shi),.int .i64 most] w fun e w'=>Jeu X n w v T slo shi most e w':=by
 have HT:=Lib.hid t.c.tr
 have HO:=Lib.hid t
 have hn8:=t.n8
 obtain⟨tb,htb⟩:∃tb,tb=X.tb:=⟨_,rfl⟩
 rw[<-htb] at HT
 have HTB:=Lib.hid htb
 rw[<-htb]
 clear t htb
 go_enter Tryz.func17,Tryz.ntmps17
 go_upto_region 4 with(fail)
 obtain⟨W,hW⟩:∃W,W=w.alloc (.cells #[.pointer (some ⟨tb,0,none⟩),.string (S slo),.string (S shi),.int .i64 most,.slice none 0 0] 115):=⟨_,rfl⟩
 have HS:=Lib.hid (show ScR W w.heap.size X.tb slo shi most [] none 0 from⟨by rw[hW,<-HTB.out];exact Jc.new _ _ [.pointer (some ⟨tb,0,none⟩),.string (S slo),.string (S shi),.int .i64 most,.slice none 0 0],XQ.nil _⟩)
 have hX:Below w.heap.size w W:=by rw[hW];go_grown
 rw[<-hW]
 clear hW
 have HT1:=Lib.hid (HT.out.on hX)
 have c4:=HT1.out.c4
 have c5:=HT1.out.c5
 have hd:Below W.heap.size W W.drew:=Jb (Below.refl _ _)
 have hXd:=hX.trans (hd.mono hX.size)
 have HVL:=Lib.hid (show Calls Tryz.prog 43 #[.pointer (some ⟨w.heap.size,0,none⟩),.pointer (some ⟨v.b,0,none⟩),.int .i64 ((n+1:Nat):Int),.agg #[.slice none 0 0]] W.drew (fun e w'=>∃er:Int,e=.returned (.int .i64 er)/\Hid (JbF X v.b (n+1) T w.heap.size slo shi most [] none 0 (en n v) W.drew e w')) from by
  have t:=HO.out
  refine(Jez n X v.b (n+1) T v [] [] w.heap.size slo shi most [] none 0 none 0 0 [] W.drew _ ⟨t.c.on hXd,fun w2 hk=> ?_,t.ok,t.sh,hN,?_,t.wr,HS.out.on hd,⟨List.Pairwise.nil,fun u hu=>by simp at hu⟩,hm,by simp⟩ ⟨_,rfl,SlU.nil _⟩ (by omega) (by omega)).mono ?_
  ·have hk2:Jg (fun x=>x=X.sb) w w2:=(Jg.of_below hXd).trans hk (fun x q=>by
    rcases q with q|q|q
    ·exact Or.inl q
    ·exact Or.inr (by rw[q];exact Nat.le_refl _)
    ·simp[Z5,Value.ownBlock] at q)
   exact t.mem_load hk2
  ·have hp0:=Nat.le_trans (Nat.le_add_right (pot n v) (2^(n+1))) t.pot
   show pot n v+0<=1000
   omega
  ·rintro e w' ⟨wr',h1,h2,h3,h4⟩
   rw[JpG] at h4
   rcases h4 with⟨rfl,h0⟩|⟨rfl,h0⟩
   ·exact⟨10,rfl,Lib.hid ⟨wr',h1,h2,h3,Or.inl ⟨rfl,h0⟩⟩⟩
   ·exact⟨0,rfl,Lib.hid ⟨wr',h1,h2,h3,Or.inr ⟨rfl,h0⟩⟩⟩)
 go_region_law (first|(go_simp;go_at_call 43;refine HVL.out.mono ?_;rintro e w4 ⟨er,rfl,H4⟩))
 all_goals
  have hfin:∀wr',wr'<=T.wr->CAt w4 X v.b (n+1) {T with wr:=wr'}->Jg (S3 X.sb w.heap.size (Z5 none 0 0)) W.drew w4->Zf X n w4 v {T with wr:=wr'}/\Jg (fun x=>x=X.sb) w w4:=fun wr' h1 h2 h3=>by
   have hk:Jg (fun x=>x=X.sb) w w4:=(Jg.of_below hXd).trans h3 (fun x q=>by
    rcases q with q|q|q
    ·exact Or.inl q
    ·exact Or.inr (by rw[q];exact Nat.le_refl _)
    ·simp[Z5,Value.ownBlock] at q)
   exact⟨HO.out.load h1 h2 hk,hk⟩
  have HFI:=Lib.hid hfin
  have HXD:=Lib.hid hXd
  clear hfin hXd hd hX c4 c5
  obtain⟨wr',h1,h2,h3,⟨he,h0⟩|⟨he,oa',oc',s4,hg4⟩⟩:=H4.out
  ·obtain rfl:er=10:=by simpa using he
   have HR:=Lib.hid (And.intro h1 (And.intro h0 (HFI.out wr' h1 h2 h3)))
   clear h1 h2 h3 he h0 H4
   go_wp2_with fail
   go_returns
   show Jeu X n w v T slo shi most (.returned (.tuple #[.slice none 0 0,.int .i64 10])) w4
   exact⟨wr',HR.out.1,HR.out.2.2.1,HR.out.2.2.2,Or.inl ⟨rfl,HR.out.2.1⟩⟩
  ·obtain rfl:er=0:=by simpa using he
   have HR:=Lib.hid (And.intro h1 (And.intro (HFI.out wr' h1 h2 h3) (And.intro s4 hg4)))
   have k4:=s4.c4
   clear h1 h2 h3 he s4 hg4 H4
   go_wp2_with fail
   go_returns
   show Jeu X n w v T slo shi most (.returned (.tuple #[.slice oa' (Zp most slo shi [] (en n v)).length oc',.int .i64 0])) w4
   refine⟨wr',HR.out.1,HR.out.2.1.1,HR.out.2.1.2,Or.inr ⟨oa',oc',rfl,HR.out.2.2.1.own,fun g e=> ?_⟩⟩
   rcases HR.out.2.2.2 g e with q|q
   ·simp[Z5,Value.ownBlock] at q
   ·exact Nat.le_trans HXD.out.size q
end Go.Proofs.YtafciefjlkdecaaGreat
namespace Go.Proofs.YtafciefjlkdecaaGreat
open Go.RowKit
structure Jcl (K:Kx) (n:Nat) (w:World) (v:Vt) (T:Tx) (w0:World):Prop where
 ok:Zf K n w v T
 lo:∀x,(Own K T x\/x∈blocks n v)->w0.heap.size<=x
 b:Below w0.heap.size w0 w
section
variable {K:Kx} {n n1:Nat} {w w0 w1:World} {v v1:Vt} {T T1:Tx} {u:Upd} {g:List Int} {l:List Nat}
theorem Jcl.apply (s:Jcl K n w v T w0) (a:AP K n w v T u n1 w1 v1 T1 g l):Jcl K n1 w1 v1 T1 w0:=
 ⟨a.ok,fun x hx=>by
  have hz:=s.b.size
  rcases hx with(q|q|q)|q
  ·exact s.lo x (Or.inl (Or.inl q))
  ·exact s.lo x (Or.inl (Or.inr (Or.inl q)))
  ·rcases a.gvb x q with k|k
   ·exact s.lo x (Or.inl (Or.inr (Or.inr k)))
   ·omega
  ·rcases a.fresh x q with k|k
   ·exact s.lo x (Or.inr k)
   ·omega,s.b.trans (a.keep.below s.b.size fun x hx=>s.lo x hx)⟩
theorem Jcl.load (s:Jcl K n w v T w0) {wr':Nat} (t:Zf K n w1 v {T with wr:=wr'}) (hk:Jg (fun x=>x=K.sb) w w1):Jcl K n w1 v {T with wr:=wr'} w0:=
 ⟨t,fun x hx=>s.lo x hx,s.b.trans (hk.below s.b.size fun x hx=>s.lo x (Or.inl (Or.inr (Or.inl hx))))⟩
theorem Jcl.on (s:Jcl K n w v T w0) (hb:Below w.heap.size w w1):Jcl K n w1 v T w0:=⟨s.ok.on hb,s.lo,s.b.trans (hb.mono s.b.size)⟩
structure Inv (K:Kx) (n:Nat) (w:World) (v:Vt) (T:Tx) (w0:World) (j:Nat):Prop where
 st:Jcl K n w v T w0
 pot:pot n v+2^(n+1)<=4+j
 fl:T.fl+mu n v<=2+20*j
 gd:Gd K n v
 wr:T.wr=0
theorem Inv.on {j:Nat} (s:Inv K n w v T w0 j) (hb:Below w.heap.size w w1):Inv K n w1 v T w0 j:=⟨s.st.on hb,s.pot,s.fl,s.gd,s.wr⟩
theorem Inv.apply {j:Nat} (s:Inv K n w v T w0 j) (hB:1<=K.B/K.F) (a:AP K n w v T u n1 w1 v1 T1 g l):Inv K n1 w1 v1 T1 w0 (j+1):=by
 have h0:=s.wr
 rcases a.gd s.gd with q|⟨g1,g2⟩
 ·omega
 ·have h1:=ZP (l:=l) fun m hm=>Nat.lt_of_lt_of_le hB (g2 m hm)
  have h2:=a.mu
  have h3:=a.fl
  have h4:=s.fl
  have h5:=a.pot
  have h6:=s.pot
  have h7:=a.wr
  exact⟨s.st.apply a,by omega,by omega,g1,by omega⟩
theorem JmN {j:Nat} (s:Inv K n w v T w0 j) (hj:j<=200):pot n v+2^(n+1)+1<=800/\T.fl+mu n v+20<=1000000000000:=by
 have h1:=s.pot
 have h2:=s.fl
 omega
theorem Inv.walk {j:Nat} (s:Inv K n w v T w0 j) (hP:Ja7 K) (hB:1<=K.B/K.F) (hj:j<=200) (hu:Tm u):
  Calls Tryz.prog 13 #[.pointer (some ⟨K.tb,0,none⟩),.agg #[.int .u8 u.kind,.string (S u.key),.string (S u.val),.int .u64 u.delta]] w fun e w'=>e=.returned (.int .i64 0)/\∃n1 v1 T1 g l,AP K n w v T u n1 w' v1 T1 g l/\Inv K n1 w' v1 T1 w0 (j+1):=by
 obtain⟨h1,h2⟩:=JmN s hj
 refine(JqH u w hP s.st.ok hu h1 h2).mono ?_
 rintro e w' (⟨rfl,n1,v1,T1,g,l,a⟩|⟨-,h0,-⟩)
 ·exact⟨rfl,n1,v1,T1,g,l,a,s.apply hB a⟩
 ·rw[s.wr] at h0
  exact absurd h0 (Nat.lt_irrefl 0)
end
abbrev JqV (tb sb mb F B L:Nat):Kx:=⟨tb,sb,mb,F,B,L,0,0,fun _=>none,0⟩
abbrev JqT (vb:Nat):Vt:=⟨vb,true,true,none,[],[],[]⟩
abbrev JqU:Tx:=⟨.slice none 0 0,[],0,0,0⟩
theorem Inv.new {w0 w:World} {tb vb sb mb F B L:Nat} (ht:Yg w tb F B L (ldV sb) vb 1 (.slice none 0 0) 0 0) (hv:Jq w vb false 0 0 0 true (.slice none 0 0) (.slice none 0 0) (.slice none 0 0) (.slice none 0 0)) (hs:Ju w sb mb 0 0 (fun _=>none) 0 0) (hb:Below w0.heap.size w0 w) (h1:w0.heap.size<=tb) (h2:w0.heap.size<=vb) (h3:w0.heap.size<=sb):Inv (JqV tb sb mb F B L) 0 w (JqT vb) JqU w0 0:=by
 refine⟨⟨⟨⟨ht,ZR.nil w,hs⟩,⟨rfl,Or.inl ⟨rfl,0,0,0,none,0,hv,fun p hp=>(by cases hp),_,rfl,none,0,rfl,Or.inl rfl,by simp⟩⟩,?_,⟨rfl,rfl,List.Pairwise.nil,fun e he=>by simp at he⟩,fun p hp=>(by cases hp),?_,?_,?_,?_⟩,fun x hx=> ?_,hb⟩,?_,?_,Nat.zero_le _,rfl⟩
 ·rw[JP _ rfl];simp
 ·show JJ 0+2^(0+1)<=800;decide
 ·show 0<=1000;omega
 ·show 0+0<=1000000;omega
 ·show 0+JJ 0<=1000000000000;decide
 ·rcases hx with(q|q|q)|q
  ·have q':x=tb:=q
   omega
  ·have q':x=sb:=q
   omega
  ·have q':(Value.slice none 0 0).ownBlock=some x:=q
   simp[Value.ownBlock] at q'
  ·rw[JP _ rfl,List.mem_singleton] at q
   have q':x=vb:=q
   omega
 ·show JJ 0+2^(0+1)<=4+0;decide
 ·show 0+JJ 0<=2+20*0;decide
open Go.RowKit
open Go.Maps (Keyed)
attribute [local go_sem ↓] Go.wp_at_zero Go.wp_at_succ
section
variable {w w':World} {b n:Nat} {ks:List (List UInt8)}
end
theorem JjS {most:Int}:∀(l outs:List Ent),(outs.length:Int)+l.length<=most->JfQ most outs l=outs++l
 |[],outs,_=>by show outs=_;simp
 |e::l,outs,h=>by
  rw[List.length_cons] at h
  have h1:Jdf most outs e=outs++[e]:=by unfold Jdf;rw[if_pos (by omega)]
  show JfQ most (Jdf most outs e) l=_
  rw[h1,JjS l (outs++[e]) (by rw[List.length_append,List.length_singleton];omega),List.append_assoc]
  rfl
theorem JoQ {most:Int} (l:List Ent) (h:(l.length:Int)<=most):Zp most [] [] [] l=l:=by
 unfold Zp
 rw[List.filter_eq_self.2 (fun e _=>Jey e.key),JjS l [] (by simpa using h)]
 rfl
section
variable {K:Kx} {w w1 w0:World} {j high:Nat} {ks:List (List UInt8)} {n fl le:Nat}
end
open Go.RowKit
attribute [local go_sem ↓] Go.wp_at_zero Go.wp_at_succ
theorem Jpz {X:Kx} {n:Nat} {v:Vt} {T:Tx} (m:List Ent) (ao:Option Addr) (c:Nat) (w:World) (t:Zf X n w v T) (hN:Jgg X.f) (hwr:T.wr=0) (hen:en n v=m) (hs:JE Ent.cells 2 w ao m) (hm:m.length<=1000):
  Calls Tryz.prog 28 #[.pointer (some ⟨X.tb,0,none⟩),.slice ao m.length c] w fun e w'=>e=.returned (.bool true)/\Zf X n w' v T/\Jg (fun x=>x=X.sb) w w':=by
 have hsc:=JnF [] [] 1000 w t hN (by omega)
 have hacc:Zp 1000 [] [] [] (en n v)=m:=by rw[hen];exact JoQ m (by omega)
 unfold Jeu at hsc
 rw[hacc] at hsc
 have HSC:=Lib.hid hsc
 have HS:=Lib.hid (And.intro hs (And.intro t hwr))
 obtain⟨ml,hml⟩:∃ml,ml=m.length:=⟨_,rfl⟩
 have HML:=Lib.hid hml
 rw[<-hml]
 have hm2:ml<=1000:=by omega
 clear hsc hacc hen hs hm t hwr hml
 go_enter Tryz.func28,Tryz.ntmps28
 go_wp2_with fail
 refine HSC.out.mono ?_
 rintro e w1 ⟨wr',h1,h2,h3,(⟨rfl,h0⟩|⟨oa,oc,rfl,h4,h5⟩)⟩
 ·have:=HS.out.2.2
  omega
 ·obtain rfl:wr'=0:=by have:=HS.out.2.2;omega
  have ht1:Zf X n w1 v T:=by
   have e:({T with wr:=0}:Tx)=T:=by have:=HS.out.2.2;cases T;simp at this;simp[this]
   rw[e] at h2;exact h2
  have HR1:=Lib.hid (And.intro ht1 h3)
  have hsl:JE Ent.cells 2 w1 ao m:=(show JE Ent.cells 2 w1 ao m from(HS.out.1).keep h3 (fun b hb=>by rw[show b=X.sb from hb];exact(HS.out.2.1.c.soft X.sb (Or.inr (Or.inl rfl))).1.str) (fun x=>⟨0,_,rfl⟩))
  have hso:JE Ent.cells 2 w1 oa m:=by
   obtain⟨-,h6⟩:=SlE.of_row h4.own
   obtain⟨a',c',e,h7,-⟩:=h6
   simp only[Value.slice.injEq] at e
   obtain⟨rfl,-,-⟩:=e
   exact h7
  have HSL:=Lib.hid (And.intro hsl hso)
  rw[<-HML.out]
  clear h1 h2 h3 h4 h5 ht1 hsl hso
  go_wp2_with fail
  go_loopw [25] (fun i wr=>∃j:Nat,i=.int .i64 j/\j<=ml/\Hid (Below w1.heap.size w1 wr)) (fun i _=>ml- (intOf i).toNat)
  case atStart=>exact⟨0,rfl,Nat.zero_le _,Lib.hid (Below.refl _ _)⟩
  case round=>
   obtain⟨j,rfl,hj,HB⟩:=hrel
   have hj0:(0:Int)<=(j:Int):=Int.natCast_nonneg _
   by_cases hjl:j<ml
   ·have hj1:(j:Int)<(ml:Int):=by omega
    have hjm:j<m.length:=by rw[<-HML.out];exact hjl
    obtain⟨b1,o1,rfl,hb1,s0,s1⟩:=JE.cells2 HSL.out.1 j hjm
    obtain⟨b2,o2,rfl,hb2,t0,t1⟩:=JE.cells2 HSL.out.2 j hjm
    replace s0:=(Jj HB.out hb1 _).trans s0
    replace s1:=(Jj HB.out hb1 _).trans s1
    replace t0:=(Jj HB.out hb2 _).trans t0
    replace t1:=(Jj HB.out hb2 _).trans t1
    generalize m[j]=e at*
    go_upto_region 7 with(fail)
    obtain⟨W,hW⟩:∃W,W=wr.alloc (.cells #[.string (S e.key),.string (S e.val)] 73):=⟨_,rfl⟩
    have hX:Below wr.heap.size wr W:=by rw[hW];go_grown
    have g0:W.cell? ⟨wr.heap.size,0,none⟩=some (.string (S e.key)):=by rw[hW,World.cell?_alloc_at _ _ _ _ rfl];rfl
    have g1:W.cell? ⟨wr.heap.size,1,none⟩=some (.string (S e.val)):=by rw[hW,World.cell?_alloc_at _ _ _ _ rfl];rfl
    rw[<-hW]
    replace s0:=Ja hX s0
    replace s1:=Ja hX s1
    replace HB:=Lib.hid (HB.out.trans (hX.mono HB.out.size))
    clear hW hX t0 t1
    go_quiet (fail)
    obtain⟨W2,hW2⟩:∃W2,W2=W.drewN nq:=⟨_,rfl⟩
    replace HB:=Lib.hid (show Below w1.heap.size w1 W2 by rw[hW2];exact HB.out.trans ((JX (Below.refl _ _) nq).mono HB.out.size))
    rw[<-hW2]
    clear hW2 s0 s1 g0 g1
    go_wp2_with fail
    exact⟨⟨j+1,by go_num,by omega,HB⟩,by simp[intOf];omega⟩
   ·obtain rfl:j=ml:=by omega
    go_wp2_with fail
    go_ret
    exact⟨rfl,HR1.out.1.on HB.out,HR1.out.2.on HB.out⟩
end Go.Proofs.YtafciefjlkdecaaGreat
namespace Go.Proofs.YtafciefjlkdecaaGreat
open Go.RowKit
theorem JlM {K:Kx} (hF:2<=K.F):∀(n:Nat) (v:Vt),Gd K n v->Ye n v+1<=2*K.F^n
 |0,v,_=>by
  unfold Ye
  rw[Nat.pow_zero]
  split<;>omega
 |n+1,v,g=>by
  have h1:Ye (n+1) v<=1+Yf (Ye n) v.ch:=by
   rw[Ye]
   split<;>omega
  have h2:=Jdo (f:=Ye n) (g:=fun _=>2*K.F^n-1) (l:=v.ch) (fun x hx=>by have:=JlM hF n x.2 (g.2.2 x hx);omega)
  rw[Jcp] at h2
  have h3:(2*K.F^n-1)*v.ch.length<=(2*K.F^n-1)*K.F:=Nat.mul_le_mul_left _ g.1
  have h4:1<=K.F^n:=Nat.one_le_pow _ _ (by omega)
  have h5:(2*K.F^n-1)*K.F+K.F=2*K.F^(n+1):=by
   rw[Nat.pow_succ,<-Nat.succ_mul,<-Nat.mul_assoc]
   congr 1
   omega
  omega
theorem JjP {K:Kx} (hF:2<=K.F):∀(n:Nat) (v:Vt),Gd K n v->(addrs n v).length+1<=2*K.F^n
 |0,v,_=>by
  rw[YA,Nat.pow_zero]
  cases v.kn<;>simp
 |n+1,v,g=>by
  have h0:∀l:List (Chd×Vt),(Yv n l).length=Yf (fun t=>(addrs n t).length) l:=fun l=>by
   induction l with
   |nil=>rfl
   |cons x l ih=>rw[JQ,List.length_append,ih,Jo]
  have h1:(addrs (n+1) v).length<=1+Yf (fun t=>(addrs n t).length) v.ch:=by
   rw[JG,List.length_append,h0]
   cases v.kn<;>simp
  have h2:=Jdo (f:=fun t=>(addrs n t).length) (g:=fun _=>2*K.F^n-1) (l:=v.ch) (fun x hx=>by have:=JjP hF n x.2 (g.2.2 x hx);omega)
  rw[Jcp] at h2
  have h3:(2*K.F^n-1)*v.ch.length<=(2*K.F^n-1)*K.F:=Nat.mul_le_mul_left _ g.1
  have h4:1<=K.F^n:=Nat.one_le_pow _ _ (by omega)
  have h5:(2*K.F^n-1)*K.F+K.F=2*K.F^(n+1):=by
   rw[Nat.pow_succ,<-Nat.succ_mul,<-Nat.mul_assoc]
   congr 1
   omega
  omega
theorem JlJ {K K':Kx} (h1:K'.F=K.F) (h2:K'.B=K.B) (h3:K'.L=K.L):∀(n:Nat) (v:Vt),Gd K n v->Gd K' n v
 |0,v,g=>by
  show v.es.length<=K'.L
  rw[h3];exact g
 |n+1,v,g=>⟨by rw[h1];exact g.1,by rw[h2];exact g.2.1,fun x hx=>JlJ h1 h2 h3 n x.2 (g.2.2 x hx)⟩
structure YH (G:Nat) (K:Kx) (n:Nat) (w:World) (v:Vt) (T:Tx) (w0:World) (j:Nat) (m:List Ent):Prop where
 inv:Inv K n w v T w0 j
 ps:Zn n v
 win:Win K.sf
 rise:Jd Ent.key m
 look:∀q,JN m q=den n v q
 len:m.length<=j
 pl:K.F=3/\K.B=4/\K.L=3
 gen:K.gen<=G
 nn:K.nn<=G
 mb:w0.heap.size<=K.mb
section
variable {G:Nat} {K:Kx} {n n1:Nat} {w w0 w1:World} {v v1:Vt} {T T1:Tx} {u:Upd} {g:List Int} {l:List Nat} {j:Nat} {m:List Ent}
theorem YH.on (s:YH G K n w v T w0 j m) (hb:Below w.heap.size w w1):YH G K n w1 v T w0 j m:=⟨s.inv.on hb,s.ps,s.win,s.rise,s.look,s.len,s.pl,s.gen,s.nn,s.mb⟩
theorem YH.below (s:YH G K n w v T w0 j m):Below w0.heap.size w0 w:=s.inv.st.b
theorem YH.near (s:YH G K n w v T w0 j m) (hG:G<=80000):Jgg K.f:=fun a ha=>by
 cases e:K.f a with
 |none=>exact absurd e ha
 |some b=>
  have h1:=s.win a b e
  have h2:=s.gen
  have h3:K.sf.gen=K.gen:=rfl
  rw[h3] at h1
  omega
theorem YH.plan (s:YH G K n w v T w0 j m) (hG:G<=80000):Ja7 K:=by
 obtain⟨h1,h2,h3⟩:=s.pl
 exact⟨by omega,by omega,by omega,by omega,by omega,by omega,s.near hG⟩
theorem YH.lvl (s:YH G K n w v T w0 j m) (hj:j<=150):n<=6:=by
 have h:=s.inv.pot
 rcases Nat.lt_or_ge 6 n with q|q
 ·have:2^8<=2^(n+1):=Nat.pow_le_pow_right (by omega) (by omega)
  omega
 ·exact q
theorem YH.en (s:YH G K n w v T w0 j m):en n v=m:=by
 obtain⟨h1,-,h3⟩:=JkW s.inv.st.ok.ok
 exact JmL h1 s.rise fun k=>by rw[h3,s.look]
theorem YH.apply (s:YH G K n w v T w0 j m) (a:AP K n w v T u n1 w1 v1 T1 g l):YH G K n1 w1 v1 T1 w0 (j+1) (onE m u):=by
 obtain⟨h1,h2,h3⟩:=s.pl
 refine⟨s.inv.apply (by rw[h1,h2];decide) a,a.pso s.ps,s.win,JaX s.rise u,fun q=> ?_,?_,s.pl,s.gen,s.nn,s.mb⟩
 ·rw[JiV s.rise,a.den,<-s.look,JgS,Jfr]
  by_cases h:q=u.key
  ·rw[if_pos h,if_pos h.symm];rfl
  ·rw[if_neg h,if_neg fun e=>h e.symm];rfl
 ·have:=Jlw s.rise u
  have:=s.len
  omega
theorem YH.walk (s:YH G K n w v T w0 j m) (hG:G<=80000) (hj:j<=200) (hu:Tm u):
  Calls Tryz.prog 13 #[.pointer (some ⟨K.tb,0,none⟩),.agg #[.int .u8 u.kind,.string (S u.key),.string (S u.val),.int .u64 u.delta]] w fun e w'=>e=.returned (.int .i64 0)/\∃n1 v1 T1 g l,AP K n w v T u n1 w' v1 T1 g l/\YH G K n1 w' v1 T1 w0 (j+1) (onE m u):=by
 obtain⟨h1,h2,h3⟩:=s.pl
 refine(s.inv.walk (s.plan hG) (by rw[h1,h2];decide) hj hu).mono ?_
 rintro e w' ⟨rfl,n1,v1,T1,g,l,a,-⟩
 exact⟨rfl,n1,v1,T1,g,l,a,s.apply a⟩
theorem YH.small (s:YH G K n w v T w0 j m) (hj:j<=150):Ye n v<=1457/\(addrs n v).length<=1457:=by
 obtain⟨h1,h2,h3⟩:=s.pl
 have h4:=JlM (by omega) n v s.inv.gd
 have h5:=JjP (by omega) n v s.inv.gd
 have h6:K.F^n<=729:=by
  rw[h1]
  exact Nat.le_trans (Nat.pow_le_pow_right (by omega) (s.lvl hj)) (by decide)
 omega
theorem YH.cm (s:YH G K n w v T w0 j m) (hG:G<=78000) (hj:j<=150):JoZ K n v:=by
 obtain⟨h1,h2,h3⟩:=s.pl
 obtain⟨h4,h5⟩:=s.small hj
 have h6:=s.gen
 have h7:=s.nn
 exact⟨s.ps,Jol (by omega) (by omega) n v s.inv.gd,s.win,by omega,by omega,by omega⟩
theorem YH.aft (s:YH G K n w v T w0 j m) (hG:G<=78000) (hj:j<=150) {p:Pt} {nb:Nat} (c:Jl4 K n w v T w1 p nb):YH (G+1457) (K.aft (sv n v K.sf).2) n w1 {(sv n v K.sf).1 with b:=nb,mem:=true,ld:=false} {T with gv:=.slice none 0 0,gone:=[]} w0 j m:=by
 have hin:=JeL s.inv.st.ok (s.cm hG hj)
 have hok:=JeM n [] [] v K.sf hin (s.cm hG hj).few
 obtain⟨new,m1,m2,m3⟩:=hok.more
 have hm:=hok.like
 have hmv:=JdC n (sv n v K.sf).1 [] [] nb true false (sv n v K.sf).1.kn (XT n _ _ _ _ hm s.inv.st.ok.ok)
 obtain⟨h4,h5⟩:=s.small hj
 have hz:=s.inv.st.b.size
 refine⟨⟨⟨c.ok,fun x hx=> ?_,s.inv.st.b.trans (c.keep.below hz fun x hx=> ?_)⟩,?_,?_,?_,s.inv.wr⟩,?_,m1.win s.win,s.rise,fun q=> ?_,s.len,s.pl,?_,?_,s.mb⟩
 ·rcases hx with(q|q|q)|q
  ·exact s.inv.st.lo x (Or.inl (Or.inl q))
  ·exact s.inv.st.lo x (Or.inl (Or.inr (Or.inl q)))
  ·simp[Value.ownBlock] at q
  ·obtain⟨p',hk,-⟩:=hok.kn
   have hbl:blocks n {(sv n v K.sf).1 with b:=nb,mem:=true,ld:=false}=[nb]:=by
    cases n with
    |zero=>exact JP _ rfl
    |succ n=>
     rw[Yk _ _ rfl]
     show nb::(sv (n+1) v K.sf).1.ch.flatMap (fun x=>blocks n x.2)=[nb]
     rw[List.flatMap_eq_nil_iff.2 fun x hx=>(hok.dsk.2 x hx).blocks]
   rw[hbl,List.mem_singleton] at q
   have:=c.nb
   omega
 ·rcases hx with q|q|q
  ·exact s.inv.st.lo x (Or.inl (Or.inr (Or.inl q)))
  ·rw[q];exact s.mb
  ·exact s.inv.st.lo x (Or.inl (Or.inl q))
 ·rw[X3 n _ _ hmv,X3 n _ _ hm];exact s.inv.pot
 ·rw[Ja0 n _ _ hmv,Ja0 n _ _ hm];exact s.inv.fl
 ·exact JlJ (K:=K) (K':=K.aft (sv n v K.sf).2) rfl rfl rfl n _ (Jer n _ _ hmv (Jer n _ _ hm s.inv.gd))
 ·exact(JdS (n:=n)).2 hok.ps
 ·rw[s.look,Jfg hmv (XT n _ _ _ _ hm s.inv.st.ok.ok),Jfg hm s.inv.st.ok.ok]
 ·show(sv n v K.sf).2.gen<=G+1457
  have h6:=m1.gen
  have h7:=s.gen
  have h8:K.sf.gen=K.gen:=rfl
  omega
 ·show(sv n v K.sf).2.nn<=G+1457
  have h6:=m1.nn
  have h7:=s.nn
  have h8:K.sf.nn=K.nn:=rfl
  omega
theorem YH.new {tb vb sb mb:Nat} (ht:Yg w tb 3 4 3 (ldV sb) vb 1 (.slice none 0 0) 0 0) (hv:Jq w vb false 0 0 0 true (.slice none 0 0) (.slice none 0 0) (.slice none 0 0) (.slice none 0 0)) (hs:Ju w sb mb 0 0 (fun _=>none) 0 0) (hb:Below w0.heap.size w0 w) (h1:w0.heap.size<=tb) (h2:w0.heap.size<=vb) (h3:w0.heap.size<=sb) (h4:w0.heap.size<=mb):YH 0 (JqV tb sb mb 3 4 3) 0 w (JqT vb) JqU w0 0 []:=
 ⟨Inv.new ht hv hs hb h1 h2 h3,fun p hp=>(by cases hp),fun a b h=>(by cases h),List.Pairwise.nil,fun q=>rfl,Nat.le_refl _,⟨rfl,rfl,rfl⟩,Nat.le_refl _,Nat.le_refl _,h4⟩
theorem YH.more (s:YH G K n w v T w0 j m) {G':Nat} (h:G<=G'):YH G' K n w v T w0 j m:=⟨s.inv,s.ps,s.win,s.rise,s.look,s.len,s.pl,Nat.le_trans s.gen h,Nat.le_trans s.nn h,s.mb⟩
theorem YH.load (s:YH G K n w v T w0 j m) (t:Zf K n w1 v T) (hk:Jg (fun x=>x=K.sb) w w1):YH G K n w1 v T w0 j m:=
 ⟨⟨s.inv.st.load (wr':=T.wr) t hk,s.inv.pot,s.inv.fl,s.inv.gd,s.inv.wr⟩,s.ps,s.win,s.rise,s.look,s.len,s.pl,s.gen,s.nn,s.mb⟩
theorem YH.has (s:YH G K n w v T w0 j m) (hG:G<=80000) (hj:j<=1000) (ao:Option Addr) (c:Nat) (hs:JE Ent.cells 2 w ao m):
  Calls Tryz.prog 28 #[.pointer (some ⟨K.tb,0,none⟩),.slice ao m.length c] w fun e w'=>e=.returned (.bool true)/\YH G K n w' v T w0 j m/\Jg (fun x=>x=K.sb) w w':=by
 refine(Jpz m ao c w s.inv.st.ok (s.near hG) s.inv.wr s.en hs (by have:=s.len;omega)).mono ?_
 rintro e w' ⟨rfl,t,hk⟩
 exact⟨rfl,s.load t hk,hk⟩
end
open Go.RowKit
theorem Ju.softMap {w:World} {sb mb n sz:Nat} {f:Int->Option Blk} {gen:Nat} {wr:Int} (h:Ju w sb mb n sz f gen wr):ZF w mb:=by
 obtain⟨D,⟨es,clock,hb,_⟩,_⟩:=h.map
 refine⟨fun o q e=> ?_,fun cur hr=>h.noMap hr⟩
 unfold World.cell? at e
 rw[hb] at e
 simp at e
theorem Zf.stay {K:Kx} {n:Nat} {w w':World} {v:Vt} {T:Tx} {M:Nat->Prop} (t:Zf K n w v T) (hk:Jg M w w') (hs:∀x,M x->ZF w x) (h1:¬M K.tb) (h2:∀x,T.gv.ownBlock=some x->¬M x) (h3:∀x∈blocks n v,¬M x) (s:Sf) {wr:Nat} (hw:wr<=1000) (hsh:Jdg w' K.sb K.mb s wr) (he:∀a,K.f a≠none->s.f a=K.f a):Zf (K.aft s) n w' v {T with wr:=wr}:=
 ⟨⟨⟨hk.row t.c.tr.row h1⟩,t.c.gn.keep hk h2,hsh⟩,t.m.keep hk hs h3,t.nd,t.ok,JbN he n v t.sh,t.pot,hw,t.gone,t.fl⟩
def Sib (K1 K2:Kx):Prop:=K2= {K1 with tb:=K2.tb}
theorem Sib.symm {K1 K2:Kx} (h:Sib K1 K2):Sib K2 K1:=by
 unfold Sib at h⊢
 rw[h]
structure XK (G:Nat) (w0 w:World) (K1:Kx) (n1:Nat) (v1:Vt) (T1:Tx) (j1:Nat) (m1:List Ent) (K2:Kx) (n2:Nat) (v2:Vt) (T2:Tx) (j2:Nat) (m2:List Ent):Prop where
 a:YH G K1 n1 w v1 T1 w0 j1 m1
 b:YH G K2 n2 w v2 T2 w0 j2 m2
 sib:Sib K1 K2
 ne:K1.tb≠K2.tb
 gv:∀x,T1.gv.ownBlock=some x->T2.gv.ownBlock≠some x
 bl:∀x∈blocks n1 v1,x∉blocks n2 v2
section
variable {G:Nat} {w0 w w':World} {K1 K2:Kx} {n1 n2 n':Nat} {v1 v2 v':Vt} {T1 T2 T':Tx} {j1 j2:Nat} {m1 m2:List Ent} {u:Upd} {g:List Int} {l:List Nat}
theorem XK.symm (h:XK G w0 w K1 n1 v1 T1 j1 m1 K2 n2 v2 T2 j2 m2):XK G w0 w K2 n2 v2 T2 j2 m2 K1 n1 v1 T1 j1 m1:=⟨h.b,h.a,h.sib.symm,fun e=>h.ne e.symm,fun x hx e=>h.gv x e hx,fun x hx hy=>h.bl x hy hx⟩
theorem XK.on (h:XK G w0 w K1 n1 v1 T1 j1 m1 K2 n2 v2 T2 j2 m2) (hb:Below w.heap.size w w'):XK G w0 w' K1 n1 v1 T1 j1 m1 K2 n2 v2 T2 j2 m2:=⟨h.a.on hb,h.b.on hb,h.sib,h.ne,h.gv,h.bl⟩
theorem XK.sbmb (h:XK G w0 w K1 n1 v1 T1 j1 m1 K2 n2 v2 T2 j2 m2):K2.sb=K1.sb/\K2.mb=K1.mb/\K2.sf=K1.sf:=by
 have:=h.sib
 unfold Sib at this
 rw[this]
 exact⟨rfl,rfl,rfl⟩
theorem XK.apart (h:XK G w0 w K1 n1 v1 T1 j1 m1 K2 n2 v2 T2 j2 m2):(∀x,(Own K2 T2 x\/x∈blocks n2 v2\/x=K2.mb)->ZF w x)/\(¬(Own K2 T2 K1.tb\/K1.tb∈blocks n2 v2\/K1.tb=K2.mb))/\(∀x,T1.gv.ownBlock=some x->¬(Own K2 T2 x\/x∈blocks n2 v2\/x=K2.mb))/\(∀x∈blocks n1 v1,¬(Own K2 T2 x\/x∈blocks n2 v2\/x=K2.mb)):=by
 obtain⟨e1,e2,-⟩:=h.sbmb
 have c1:=h.a.inv.st.ok.c
 have c2:=h.b.inv.st.ok.c
 have mm2:=h.b.inv.st.ok.m
 obtain⟨q1,q2,q3⟩:=c1.ne
 refine⟨fun x hx=> ?_,fun hx=> ?_,fun x hg hx=> ?_,fun x hb hx=> ?_⟩
 ·rcases hx with q|q|q
  ·exact(c2.soft x q).1
  ·exact(mm2.lt x q).1
  ·rw[q];exact c2.sh.softMap
 ·rcases hx with(q|q|q)|q|q
  ·exact h.ne q
  ·have q':K1.tb=K2.sb:=q
   rw[e1] at q'
   exact q1 q'.symm
  ·obtain⟨cu,hcu⟩:=Jr c2.gn.own _ q
   exact absurd (hcu.one c1.tr.row).1 (by decide)
  ·obtain⟨cu,hcu⟩:=mm2.cells _ q
   exact absurd (hcu.one c1.tr.row).1 (by decide)
  ·rw[e2] at q
   exact q2 q.symm
 ·obtain⟨cu,hcu⟩:=Jr c1.gn.own x hg
  rcases hx with(q|q|q)|q|q
  ·have q':x=K2.tb:=q
   rw[q'] at hcu
   exact absurd (hcu.one c2.tr.row).1 (by decide)
  ·have q':x=K2.sb:=q
   rw[q'] at hcu
   exact absurd (hcu.one c2.sh.row).1 (by decide)
  ·exact h.gv x hg q
  ·obtain⟨cu',hcu'⟩:=mm2.cells _ q
   exact absurd (hcu.one hcu').1 (by decide)
  ·rw[q] at hcu
   exact c2.sh.noMap hcu
 ·obtain⟨cu,hcu⟩:=h.a.inv.st.ok.m.cells x hb
  rcases hx with q|q|q
  ·exact(c2.notVx hcu).1 q
  ·exact h.bl x hb q
  ·exact(c2.notVx hcu).2 q
theorem XK.stay (h:XK G w0 w K1 n1 v1 T1 j1 m1 K2 n2 v2 T2 j2 m2) {G':Nat} {s:Sf} (hk:Jg (fun x=>Own K2 T2 x\/x∈blocks n2 v2\/x=K2.mb) w w') (hsh:Jdg w' K1.sb K1.mb s 0) (he:∀a,K1.f a≠none->s.f a=K1.f a) (hw:Win s) (hg:s.gen<=G') (hn:s.nn<=G') (hb:Below w0.heap.size w0 w'):YH G' (K1.aft s) n1 w' v1 T1 w0 j1 m1:=by
 obtain⟨a1,a2,a3,a4⟩:=h.apart
 have h0:=h.a.inv.wr
 have t:=h.a.inv.st.ok.stay hk a1 a2 a3 a4 s (wr:=0) (by omega) hsh he
 have e:({T1 with wr:=0}:Tx)=T1:=by cases T1;simp at h0;simp[h0]
 rw[e] at t
 exact⟨⟨⟨t,h.a.inv.st.lo,hb⟩,h.a.inv.pot,h.a.inv.fl,JlJ (K:=K1) (K':=K1.aft s) rfl rfl rfl n1 v1 h.a.inv.gd,h0⟩,h.a.ps,hw,h.a.rise,h.a.look,h.a.len,h.a.pl,hg,hn,h.a.mb⟩
theorem XK.shelf (h:XK G w0 w K1 n1 v1 T1 j1 m1 K2 n2 v2 T2 j2 m2) {T':Tx} {r x:Nat} (hw:T'.wr=0) (c:CAt w' K2 r x T'):Jdg w' K1.sb K1.mb K1.sf 0:=by
 obtain⟨e1,e2,e3⟩:=h.sbmb
 have hs:=c.sh
 rw[hw] at hs
 have hs':Jdg w' K2.sb K2.mb K2.sf 0:=hs
 rw[e1,e2,e3] at hs'
 exact hs'
theorem XK.apply (h:XK G w0 w K1 n1 v1 T1 j1 m1 K2 n2 v2 T2 j2 m2) (a:AP K2 n2 w v2 T2 u n' w' v' T' g l):XK G w0 w' K1 n1 v1 T1 j1 m1 K2 n' v' T' (j2+1) (onE m2 u):=by
 have hb:=h.b.apply a
 have hA:=h.stay (G':=G) (s:=K1.sf) (a.keep.mono fun x q=>by
  rcases q with q|q
  ·exact Or.inl q
  ·exact Or.inr (Or.inl q)) (h.shelf hb.inv.wr a.ok.c) (fun _ _=>rfl) h.a.win h.a.gen h.a.nn hb.below
 refine⟨hA,hb,h.sib,h.ne,fun x hx e=> ?_,fun x hx hy=> ?_⟩
 ·rcases a.gvb x e with q|q
  ·exact h.gv x hx q
  ·have:=(h.a.inv.st.ok.c.gn.soft x hx).2
   omega
 ·rcases a.fresh x hy with q|q
  ·exact h.bl x hx q
  ·have:=(h.a.inv.st.ok.m.lt x hx).2
   omega
theorem XK.look (h:XK G w0 w K1 n1 v1 T1 j1 m1 K2 n2 v2 T2 j2 m2) (hb:YH G K2 n2 w' v2 T2 w0 j2 m2) (hk:Jg (fun x=>x=K2.sb) w w'):XK G w0 w' K1 n1 v1 T1 j1 m1 K2 n2 v2 T2 j2 m2:=
 ⟨h.stay (G':=G) (s:=K1.sf) (hk.mono fun _ q=>Or.inl (Or.inr (Or.inl q))) (h.shelf hb.inv.wr hb.inv.st.ok.c) (fun _ _=>rfl) h.a.win h.a.gen h.a.nn hb.below,hb,h.sib,h.ne,h.gv,h.bl⟩
theorem XK.commit (h:XK G w0 w K1 n1 v1 T1 j1 m1 K2 n2 v2 T2 j2 m2) (hG:G<=76000) (hj:j2<=150) {p:Pt} {nb:Nat} (c:Jl4 K2 n2 w v2 T2 w' p nb):
  XK (G+1457) w0 w' (K1.aft (sv n2 v2 K2.sf).2) n1 v1 T1 j1 m1 (K2.aft (sv n2 v2 K2.sf).2) n2 {(sv n2 v2 K2.sf).1 with b:=nb,mem:=true,ld:=false} {T2 with gv:=.slice none 0 0,gone:=[]} j2 m2:=by
 have hb:=h.b.aft (by omega) hj c
 obtain⟨e1,e2,e3⟩:=h.sbmb
 have hin:=JeL h.b.inv.st.ok (h.b.cm (by omega) hj)
 have hok:=JeM n2 [] [] v2 K2.sf hin (h.b.cm (by omega) hj).few
 obtain⟨new,k1,k2,k3⟩:=hok.more
 have hsh:=c.ok.c.sh
 have h0:({T2 with gv:=.slice none 0 0,gone:=[]}:Tx).wr=0:=h.b.inv.wr
 rw[h0] at hsh
 have hsh':Jdg w' K2.sb K2.mb (sv n2 v2 K2.sf).2 0:=hsh
 rw[e1,e2] at hsh'
 have hext:∀a,K1.f a≠none->(sv n2 v2 K2.sf).2.f a=K1.f a:=fun a ha=>by
  have hf:K2.sf.f a=K1.f a:=by rw[e3];rfl
  rw[<-hf]
  exact k1.ext a (by rw[hf];exact ha)
 have hA:=h.stay (G':=G+1457) (s:=(sv n2 v2 K2.sf).2) (c.keep.mono fun x q=>by
  rcases q with q|q|q
  ·exact Or.inl (Or.inr (Or.inl q))
  ·exact Or.inr (Or.inr q)
  ·exact Or.inl (Or.inl q)) hsh' hext hb.win hb.gen hb.nn hb.below
 refine⟨hA,hb,?_,h.ne,fun x hx e=>by simp[Value.ownBlock] at e,fun x hx hy=> ?_⟩
 ·have hs:=h.sib
  unfold Sib at hs⊢
  rw[hs]
  rfl
 ·obtain⟨q,hq,-⟩:=hok.kn
  have hbl:blocks n2 {(sv n2 v2 K2.sf).1 with b:=nb,mem:=true,ld:=false}=[nb]:=by
   cases n2 with
   |zero=>exact JP _ rfl
   |succ n=>
    rw[Yk _ _ rfl]
    show nb::(sv (n+1) v2 K2.sf).1.ch.flatMap (fun x=>blocks n x.2)=[nb]
    rw[List.flatMap_eq_nil_iff.2 fun x hx=>(hok.dsk.2 x hx).blocks]
  rw[hbl,List.mem_singleton] at hy
  have h1:=(h.a.inv.st.ok.m.lt x hx).2
  have h2:=c.nb
  omega
theorem YH.copy (s:YH G K1 n1 w v1 T1 w0 j1 m1) {tb2:Nat} {v2:Vt} {gv2:Value} (c:Jqf K1 n1 w v1 T1 w' tb2 v2 gv2):XK G w0 w' K1 n1 v1 T1 j1 m1 {K1 with tb:=tb2} n1 v2 {T1 with gv:=gv2} j1 m1:=by
 have hl:=CpR.like n1 v1 v2 [] [] c.r s.inv.st.ok.ok
 have hz:=s.inv.st.b.size
 have hb0:=s.inv.st.b.trans (c.below.mono hz)
 refine⟨s.on c.below,⟨⟨⟨c.ok,fun x hx=> ?_,hb0⟩,?_,?_,?_,s.inv.wr⟩,CpR.pso n1 v1 v2 c.r s.ps,s.win,s.rise,fun q=> ?_,s.len,s.pl,s.gen,s.nn,s.mb⟩,rfl,fun e=> ?_,fun x hx e=> ?_,fun x hx hy=> ?_⟩
 ·rcases hx with(q|q|q)|q
  ·have q':x=tb2:=q
   have:=c.tb
   omega
  ·exact s.inv.st.lo x (Or.inl (Or.inr (Or.inl q)))
  ·have:=c.gv x q
   omega
  ·have:=c.fresh x q
   omega
 ·rw[X3 n1 _ _ hl];exact s.inv.pot
 ·rw[Ja0 n1 _ _ hl];exact s.inv.fl
 ·exact JlJ (K:=K1) (K':= {K1 with tb:=tb2}) rfl rfl rfl n1 v2 (Jer n1 _ _ hl s.inv.gd)
 ·rw[s.look,Jfg hl s.inv.st.ok.ok]
 ·have e':K1.tb=tb2:=e
  have h1:=s.inv.st.ok.c.tr.lt
  have h2:=c.tb
  omega
 ·have h1:=(s.inv.st.ok.c.gn.soft x hx).2
  have h2:=c.gv x e
  omega
 ·have h1:=(s.inv.st.ok.m.lt x hx).2
  have h2:=c.fresh x hy
  omega
end
open Go.RowKit
attribute [local go_sem ↓] Go.wp_at_zero Go.wp_at_succ
def Jdd (n:Nat) (c:Nat) (ch:List (Chd×Vt)) (j:Nat):Nat:=c+Yf (Ye n) (ch.take j)
theorem JkY (n c:Nat) (ch:List (Chd×Vt)) (j:Nat) (hj:j<ch.length):Jdd n c ch (j+1)=Jdd n c ch j+Ye n ch[j].2:=by
 unfold Jdd
 rw[List.take_succ_eq_append_getElem hj,JB,Jo,Jax]
 omega
theorem Jm1 (n c:Nat) (ch:List (Chd×Vt)):Jdd n c ch ch.length=c+Yf (Ye n) ch:=by unfold Jdd;rw[List.take_length]
theorem Jot (n c:Nat) (ch:List (Chd×Vt)) (j:Nat):Jdd n c ch j<=c+Yf (Ye n) ch:=by
 unfold Jdd
 have:Yf (Ye n) ch=Yf (Ye n) (ch.take j)+Yf (Ye n) (ch.drop j):=by
  conv=>lhs;rw[<-List.take_append_drop j ch]
  rw[JB]
 omega
theorem Jet {n:Nat} {v:Vt} {p:Pt} (h:v.kn=some p):Ye n v=0:=by
 cases n<;>(unfold Ye;rw[h];rfl)
theorem Jos {f:Int->Option Blk} {n:Nat} {v:Vt} (h:Shf f (n+1) v):Ye (n+1) v=(if v.kn.isSome then 0 else 1)+Yf (Ye n) v.ch:=by
 cases hk:v.kn with
 |none=>unfold Ye;rw[hk];rfl
 |some p=>
  rw[Jet hk]
  have h2:=(h.1 p hk).2.2
  have key:∀l:List (Chd×Vt),(∀x∈l,x.2.kn=some ⟨x.1.addr,x.1.gen,x.1.sum⟩)->Yf (Ye n) l=0:=fun l hl=>by
   induction l with
   |nil=>rfl
   |cons x l ih=>rw[Jo,Jet (hl x (by simp)),ih fun y hy=>hl y (List.mem_cons_of_mem _ hy)]
  rw[key v.ch h2]
  rfl
def Jqe (n:Nat):Prop:=∀(f:Int->Option Blk) (w:World) (v:Vt),Mem w n v->Shf f n v->pot n v<=1000->Ye n v<=1000000->
 Calls Tryz.prog 47 #[.pointer (some ⟨v.b,0,none⟩)] w fun e w'=>e=.returned (.int .i64 (Ye n v))/\Below w.heap.size w w'
theorem JcE (n:Nat) (f:Int->Option Blk) {b:Nat} {kn:Bool} {pa:Int} {pg ps:Nat} {ld:Bool} {l1 l2 l3 l4:Option Addr} {m1 m2 m3 nk c1 c2 c3 c4:Nat} (ch:List (Chd×Vt)) (IH:Jqe n\/ch=[]) (w:World) (hv:Jq w b kn pa pg ps ld (.slice l1 m1 c1) (.slice l2 m2 c2) (.slice l3 m3 c3) (.slice l4 nk c4)) (hnk:nk=ch.length)
  (hkd:ZG w (.slice l4 ch.length c4) (ch.map fun x=>x.2.b)) (hm:∀x∈ch,Mem w n x.2/\Shf f n x.2/\pot n x.2<=1000) (hl:ch.length<=2000) (k0:Nat) (hk0:k0=if kn then 0 else 1) (hd:k0+Yf (Ye n) ch<=1000000):
  Calls Tryz.prog 47 #[.pointer (some ⟨b,0,none⟩)] w fun e w'=>e=.returned (.int .i64 ((k0+Yf (Ye n) ch:Nat):Int))/\Below w.heap.size w w':=by
 have HH:=Lib.hid (And.intro hnk (And.intro hkd (And.intro hm hd)))
 have HIH:=Lib.hid IH
 have hl2:nk<=2000:=by omega
 have v0:=hv.c0
 have v8:=hv.c8
 have HK0:=Lib.hid hk0
 clear hnk hkd hm hv IH hl hd hk0
 go_enter Tryz.func47,Tryz.ntmps47
 go_upto_if 10 with(fail)
 go_cut [3] from 10 to 11 (fun s3 wx=>s3=.int .i64 (k0:Int)/\wx=w)
 case first=>
  cases kn with
  |true=>
   go_wp2_with fail
   go_meet
   exact⟨by rw[HK0.out];rfl,rfl⟩
  |false=>
   go_wp2_with fail
   go_meet
   exact⟨by rw[HK0.out];rfl,rfl⟩
 case rest=>
 obtain⟨rfl,rfl⟩:=hcut
 go_wp2_with fail
 go_loopw [16,3] (fun i s3 wr=>∃j:Nat,i=.int .i64 j/\j<=nk/\s3=.int .i64 (Jdd n k0 ch j:Nat)/\Hid (Below wc.heap.size wc wr)) (fun i _ _=>nk- (intOf i).toNat)
 case atStart=>exact⟨0,rfl,Nat.zero_le _,rfl,Lib.hid (Below.refl _ _)⟩
 case round=>
  obtain⟨j,rfl,hj,rfl,HB⟩:=hrel
  have hj0:(0:Int)<=(j:Int):=Int.natCast_nonneg _
  by_cases hjl:j<nk
  ·have hj1:(j:Int)<(nk:Int):=by omega
   have hkl:j<ch.length:=by rw[<-HH.out.1];exact hjl
   have HS:=Lib.hid (JkY n k0 ch j hkl)
   have hle:=Jot n k0 ch (j+1)
   rw[HS.out] at hle
   have hdd:=HH.out.2.2.2
   obtain⟨x,hx⟩:∃x,x=ch[j]:=⟨_,rfl⟩
   rw[<-hx] at HS hle
   have hkr:wr.ownsRow 0 97 1 (.slice l4 nk c4) nk ((ch.map fun x=>x.2.b).map vp):=by
    have h0:ZG wr (.slice l4 ch.length c4) (ch.map fun x=>x.2.b):=Jk HH.out.2.1 HB.out
    have h1:wr.ownsRow 0 97 1 (.slice l4 ch.length c4) (ch.map fun x=>x.2.b).length ((ch.map fun x=>x.2.b).map vp):=h0
    rw[List.length_map,<-HH.out.1] at h1
    exact h1
   obtain⟨g3,rfl,-,-,hgc⟩:=Ym hkr (by omega)
   have r0:wr.cell? ⟨g3,j,none⟩=some (.pointer (some ⟨x.2.b,0,none⟩)):=by
    have:=hgc j (vp x.2.b) (by rw[List.getElem?_map,List.getElem?_map,List.getElem?_eq_getElem hkl,hx];rfl)
    simpa using this
   have hxm:=HH.out.2.2.1 x (by rw[hx];exact List.getElem_mem hkl)
   have HCA:=Lib.hid ((HIH.out.resolve_right fun e=>by rw[e] at hkl;simp at hkl) f wr x.2 (hxm.1.on HB.out) hxm.2.1 hxm.2.2 (by omega))
   obtain⟨d1,hd1⟩:∃d1,d1=Jdd n k0 ch j:=⟨_,rfl⟩
   obtain⟨d2,hd2⟩:∃d2,d2=Ye n x.2:=⟨_,rfl⟩
   rw[<-hd1,<-hd2] at HS hle
   rw[<-hd1]
   rw[<-hd2] at HCA
   have hw1:IntKind.i64.wrap ((d1:Int)+d2)=(d1:Int)+d2:=IntWalk.i64_in _ (by omega)
   clear hkr hgc hx hxm hd1 hd2 hdd
   go_wp2_with fail
   refine HCA.out.mono ?_
   rintro e w7 ⟨rfl,hX7⟩
   have HB7:=Lib.hid (HB.out.trans (hX7.mono HB.out.size))
   clear hX7
   go_wp2_with fail
   exact⟨⟨j+1,by go_num,by omega,by rw[HS.out];rfl,HB7⟩,by simp[intOf];omega⟩
  ·obtain rfl:j=nk:=by omega
   have HA:=Lib.hid (Jm1 n k0 ch)
   rw[<-HH.out.1] at HA
   rw[HA.out]
   go_wp2_with fail
   go_ret
   exact⟨rfl,HB.out⟩
theorem JgZ:∀n,Jqe n
 |0=>fun f w v hm hs hp hd=>by
  have key:∀ {pa:Int} {pg ps:Nat} {ld:Bool} {l1:Option Addr} {m1 c1:Nat},Jq w v.b v.kn.isSome pa pg ps ld (.slice l1 m1 c1) (.slice none 0 0) (.slice none 0 0) (.slice none 0 0)->Calls Tryz.prog 47 #[.pointer (some ⟨v.b,0,none⟩)] w fun e w'=>e=.returned (.int .i64 (Ye 0 v))/\Below w.heap.size w w':=fun {pa pg ps ld l1 m1 c1} h=>by
   have h1:=JcE 0 f [] (Or.inr rfl) w h rfl (World.ownsRow_nil _ _ _ _) (fun x hx=>by simp at hx) (by simp) _ rfl (by simp only[Jax];split<;>omega)
   have e:(if v.kn.isSome=true then 0 else 1)+Yf (Ye 0) []=Ye 0 v:=by
    unfold Ye
    cases v.kn<;>rfl
   rw[e] at h1
   exact h1
  rcases hm.2 with q|q
  ·obtain⟨hl,pa,pg,ps,a,c,h1,h2,h3⟩:=q
   exact key h1
  ·obtain⟨hl,p,h1,h2⟩:=q
   have h2':Jq w v.b v.kn.isSome p.a p.g p.s false (.slice none 0 0) (.slice none 0 0) (.slice none 0 0) (.slice none 0 0):=by rw[h1];exact h2
   exact key h2'
 |n+1=>fun f w v hm hs hp hd=>by
  have hsum:=Jos hs
  rcases hm.2 with⟨q,qk⟩|⟨q,qk⟩
  ·obtain⟨hl,pa,pg,ps,a1,c1,a2,c2,a3,c3,h1,h2,h3,h4⟩:=q
   have hch:v.ch.length<=2000:=by
    have hp':=hp
    rw[JO] at hp'
    have h5:1<=2^(n+1):=Nat.one_le_two_pow
    have h6:JJ v.ch.length<=JJ v.ch.length*2^(n+1):=Nat.le_mul_of_pos_right _ h5
    unfold JJ at h6 hp'
    omega
   have h4':ZG w (.slice a3 v.ch.length c3) (v.ch.map fun x=>x.2.b):=h4
   have h:=JcE n f v.ch (Or.inl (JgZ n)) w h1 rfl h4' (fun x hx=>⟨qk x hx,hs.2 x hx,Jal hp hx⟩) hch _ rfl (by rw[<-hsum];exact hd)
   rw[<-hsum] at h
   exact h
  ·obtain⟨hl,p,h1,h2⟩:=q
   have h:=JcE n f [] (Or.inr rfl) w h2 rfl (World.ownsRow_nil _ _ _ _) (fun x hx=>by simp at hx) (by simp) 0 rfl (by simp[Yf])
   rw[Jet h1]
   exact h
theorem JqB {K:Kx} {n:Nat} {v:Vt} {T:Tx} (w:World) (t:Zf K n w v T) (hd:Ye n v<=1000000):
  Calls Tryz.prog 21 #[.pointer (some ⟨K.tb,0,none⟩)] w fun e w'=>e=.returned (.int .i64 (Ye n v))/\Below w.heap.size w w':=by
 have HC:=Lib.hid (JgZ n K.f w v t.m t.sh (Nat.le_trans (Nat.le_trans (Nat.le_add_right _ _) t.pot) (by omega)) hd)
 have c4:=t.c.tr.c4
 obtain⟨tb,htb⟩:∃tb,tb=K.tb:=⟨_,rfl⟩
 rw[<-htb] at c4⊢
 clear t hd htb
 obtain⟨d,hd⟩:∃d,d=Ye n v:=⟨_,rfl⟩
 rw[<-hd] at HC⊢
 clear hd
 go_enter Tryz.func21,Tryz.ntmps21
 go_wp2_with fail
 refine HC.out.mono ?_
 rintro e w1 ⟨rfl,hX⟩
 go_wp2_with fail
 go_ret
 exact⟨rfl,hX⟩
end Go.Proofs.YtafciefjlkdecaaGreat
namespace Go.Proofs.YtafciefjlkdecaaGreat
open Go.RowKit
structure Aft (w w':World):Prop where
 size:w.heap.size<=w'.heap.size
 row:∀ {E:TypeId} {x:Nat} {cur:List Value},E≠110->E≠27->E≠108->E≠3->Jc w E x cur->Jc w' E x cur
 sl:∀ {v:Value} {l:List Ent},SlE w v l->SlE w' v l
section
variable {G:Nat} {K K1 K2:Kx} {n n1 n2:Nat} {w w0 w1 w':World} {v v1 v2:Vt} {T T1 T2:Tx} {u:Upd} {j j1 j2:Nat} {m m1 m2:List Ent}
theorem YH.aft_of (s:YH G K n w v T w0 j m) (hk:Jg (fun x=>Own K T x\/x∈blocks n v\/x=K.mb) w w'):Aft w w':=by
 have c:=s.inv.st.ok.c
 have mm:=s.inv.st.ok.m
 refine⟨hk.size,fun {E x cur} h1 h2 h3 h4 hr=>hk.row hr fun q=> ?_,fun hs=>hs.keep hk fun b q=> ?_⟩
 ·rcases q with(q|q|q)|q|q
  ·have q':x=K.tb:=q
   rw[q'] at hr
   exact h1 (hr.one c.tr.row).1
  ·have q':x=K.sb:=q
   rw[q'] at hr
   exact h2 (hr.one c.sh.row).1
  ·obtain⟨cu,hcu⟩:=Jr c.gn.own x q
   exact h4 (hr.one hcu).1
  ·obtain⟨cu,hcu⟩:=mm.cells x q
   exact h3 (hr.one hcu).1
  ·rw[q] at hr
   exact c.sh.noMap hr
 ·rcases q with q|q|q
  ·exact(c.soft b q).1.str
  ·exact(mm.lt b q).1.str
  ·rw[q];exact c.sh.softMap.str
theorem YH.aft_ap {u:Upd} {g:List Int} {l:List Nat} (s:YH G K n w v T w0 j m) (a:AP K n w v T u n1 w1 v1 T1 g l):Aft w w1:=s.aft_of (a.keep.mono fun x q=>by
 rcases q with q|q
 ·exact Or.inl q
 ·exact Or.inr (Or.inl q))
theorem YH.aft_look (s:YH G K n w v T w0 j m) (hk:Jg (fun x=>x=K.sb) w w'):Aft w w':=s.aft_of (hk.mono fun _ q=>Or.inl (Or.inr (Or.inl q)))
theorem YH.aft_cm (s:YH G K n w v T w0 j m) {p:Pt} {nb:Nat} (c:Jl4 K n w v T w' p nb):Aft w w':=s.aft_of (c.keep.mono fun x q=>by
 rcases q with q|q|q
 ·exact Or.inl (Or.inr (Or.inl q))
 ·exact Or.inr (Or.inr q)
 ·exact Or.inl (Or.inl q))
def L1 (G tb sb:Nat) (w0:World) (j:Nat) (m:List Ent) (w:World):Prop:=∃K n v T,YH G K n w v T w0 j m/\K.tb=tb/\K.sb=sb
def L2 (Q:Nat->Vt->Prop) (G tb tb2 sb:Nat) (w0:World) (j1:Nat) (m1:List Ent) (j2:Nat) (m2:List Ent) (w:World):Prop:=∃K1 n1 v1 T1 K2 n2 v2 T2,XK G w0 w K1 n1 v1 T1 j1 m1 K2 n2 v2 T2 j2 m2/\K1.tb=tb/\K2.tb=tb2/\K1.sb=sb/\Q n2 v2
variable {tb tb2 sb:Nat} {Q:Nat->Vt->Prop}
theorem L1.on (h:L1 G tb sb w0 j m w) (hb:Below w.heap.size w w1):L1 G tb sb w0 j m w1:=by
 obtain⟨K,n,v,T,h1,h2⟩:=h
 exact⟨K,n,v,T,h1.on hb,h2⟩
theorem L1.below (h:L1 G tb sb w0 j m w):Below w0.heap.size w0 w:=by
 obtain⟨K,n,v,T,h1,h2⟩:=h
 exact h1.below
theorem L1.more (h:L1 G tb sb w0 j m w) {G':Nat} (hG:G<=G'):L1 G' tb sb w0 j m w:=by
 obtain⟨K,n,v,T,h1,h2⟩:=h
 exact⟨K,n,v,T,h1.more hG,h2⟩
theorem L1.rise (h:L1 G tb sb w0 j m w):Jd Ent.key m/\m.length<=j:=by
 obtain⟨K,n,v,T,h1,h2⟩:=h
 exact⟨h1.rise,h1.len⟩
theorem L1.apply (h:L1 G tb sb w0 j m w) (hG:G<=80000) (hj:j<=200) (hu:Tm u):
  Calls Tryz.prog 13 #[.pointer (some ⟨tb,0,none⟩),.agg #[.int .u8 u.kind,.string (S u.key),.string (S u.val),.int .u64 u.delta]] w fun e w'=>e=.returned (.int .i64 0)/\L1 G tb sb w0 (j+1) (onE m u) w'/\Aft w w':=by
 obtain⟨K,n,v,T,h1,rfl,rfl⟩:=h
 refine(h1.walk hG hj hu).mono ?_
 rintro e w' ⟨rfl,n1,v1,T1,g,l,a,h2⟩
 exact⟨rfl,⟨K,n1,v1,T1,h2,rfl,rfl⟩,h1.aft_ap a⟩
theorem L1.commit (h:L1 G tb sb w0 j m w) (hG:G<=76000) (hj:j<=150):
  Calls Tryz.prog 19 #[.pointer (some ⟨tb,0,none⟩),svV sb] w fun e w'=>(∃p ga gn gc,e=.returned (.tuple #[ptV p,.slice ga gn gc,.int .i64 0]))/\L1 (G+1457) tb sb w0 j m w'/\Aft w w':=by
 obtain⟨K,n,v,T,h1,rfl,rfl⟩:=h
 refine(JlP w h1.inv.st.ok (h1.cm (by omega) hj)).mono ?_
 rintro e w' ⟨p,gw,nb,rfl,hgw,c⟩
 obtain⟨ga,gc,rfl⟩:=Jm hgw
 exact⟨⟨p,ga,_,gc,rfl⟩,⟨_,n,_,_,h1.aft (by omega) hj c,rfl,rfl⟩,h1.aft_cm c⟩
theorem L1.copy (h:L1 G tb sb w0 j m w):
  Calls Tryz.prog 31 #[.pointer (some ⟨tb,0,none⟩)] w fun e w'=>∃tb2,e=.returned (.pointer (some ⟨tb2,0,none⟩))/\L2 (fun _ _=>True) G tb tb2 sb w0 j m j m w'/\Below w.heap.size w w':=by
 obtain⟨K,n,v,T,h1,rfl,rfl⟩:=h
 refine(Jq8 w h1.inv.st.ok).mono ?_
 rintro e w' ⟨tb2,v2,gv2,rfl,c⟩
 exact⟨tb2,rfl,⟨K,n,v,T,_,n,v2,_,h1.copy c,rfl,rfl,rfl,trivial⟩,c.below⟩
theorem L2.on (h:L2 Q G tb tb2 sb w0 j1 m1 j2 m2 w) (hb:Below w.heap.size w w1):L2 Q G tb tb2 sb w0 j1 m1 j2 m2 w1:=by
 obtain⟨K1,n1,v1,T1,K2,n2,v2,T2,h1,h2⟩:=h
 exact⟨K1,n1,v1,T1,K2,n2,v2,T2,h1.on hb,h2⟩
theorem L2.below (h:L2 Q G tb tb2 sb w0 j1 m1 j2 m2 w):Below w0.heap.size w0 w:=by
 obtain⟨K1,n1,v1,T1,K2,n2,v2,T2,h1,h2⟩:=h
 exact h1.a.below
theorem L2.rise (h:L2 Q G tb tb2 sb w0 j1 m1 j2 m2 w):(Jd Ent.key m1/\m1.length<=j1)/\Jd Ent.key m2/\m2.length<=j2:=by
 obtain⟨K1,n1,v1,T1,K2,n2,v2,T2,h1,h2⟩:=h
 exact⟨⟨h1.a.rise,h1.a.len⟩,h1.b.rise,h1.b.len⟩
theorem L2.apply1 (h:L2 Q G tb tb2 sb w0 j1 m1 j2 m2 w) (hG:G<=80000) (hj:j1<=200) (hu:Tm u):
  Calls Tryz.prog 13 #[.pointer (some ⟨tb,0,none⟩),.agg #[.int .u8 u.kind,.string (S u.key),.string (S u.val),.int .u64 u.delta]] w fun e w'=>e=.returned (.int .i64 0)/\L2 Q G tb tb2 sb w0 (j1+1) (onE m1 u) j2 m2 w'/\Aft w w':=by
 obtain⟨K1,n1,v1,T1,K2,n2,v2,T2,h1,rfl,rfl,rfl,hq⟩:=h
 refine(h1.a.walk hG hj hu).mono ?_
 rintro e w' ⟨rfl,n',v',T',g,l,a,-⟩
 exact⟨rfl,⟨K1,n',v',T',K2,n2,v2,T2,(h1.symm.apply a).symm,rfl,rfl,rfl,hq⟩,h1.a.aft_ap a⟩
theorem L2.apply2 (h:L2 Q G tb tb2 sb w0 j1 m1 j2 m2 w) (hG:G<=80000) (hj:j2<=200) (hu:Tm u):
  Calls Tryz.prog 13 #[.pointer (some ⟨tb2,0,none⟩),.agg #[.int .u8 u.kind,.string (S u.key),.string (S u.val),.int .u64 u.delta]] w fun e w'=>e=.returned (.int .i64 0)/\L2 (fun _ _=>True) G tb tb2 sb w0 j1 m1 (j2+1) (onE m2 u) w'/\Aft w w':=by
 obtain⟨K1,n1,v1,T1,K2,n2,v2,T2,h1,rfl,rfl,rfl,hq⟩:=h
 refine(h1.b.walk hG hj hu).mono ?_
 rintro e w' ⟨rfl,n',v',T',g,l,a,-⟩
 exact⟨rfl,⟨K1,n1,v1,T1,K2,n',v',T',h1.apply a,rfl,rfl,rfl,trivial⟩,h1.b.aft_ap a⟩
theorem L2.has1 (h:L2 Q G tb tb2 sb w0 j1 m1 j2 m2 w) (hG:G<=80000) (hj:j1<=1000) (ao:Option Addr) (c:Nat) (hs:SlE w (.slice ao m1.length c) m1):
  Calls Tryz.prog 28 #[.pointer (some ⟨tb,0,none⟩),.slice ao m1.length c] w fun e w'=>e=.returned (.bool true)/\L2 Q G tb tb2 sb w0 j1 m1 j2 m2 w'/\Aft w w':=by
 obtain⟨K1,n1,v1,T1,K2,n2,v2,T2,h1,rfl,rfl,rfl,hq⟩:=h
 obtain⟨a',c',e,hs',-⟩:=hs
 simp only[Value.slice.injEq] at e
 obtain⟨rfl,-,rfl⟩:=e
 refine(h1.a.has hG hj ao c hs').mono ?_
 rintro e w' ⟨rfl,h2,hk⟩
 exact⟨rfl,⟨K1,n1,v1,T1,K2,n2,v2,T2,(h1.symm.look h2 hk).symm,rfl,rfl,rfl,hq⟩,h1.a.aft_look hk⟩
theorem L2.has2 (h:L2 Q G tb tb2 sb w0 j1 m1 j2 m2 w) (hG:G<=80000) (hj:j2<=1000) (ao:Option Addr) (c:Nat) (hs:SlE w (.slice ao m2.length c) m2):
  Calls Tryz.prog 28 #[.pointer (some ⟨tb2,0,none⟩),.slice ao m2.length c] w fun e w'=>e=.returned (.bool true)/\L2 Q G tb tb2 sb w0 j1 m1 j2 m2 w'/\Aft w w':=by
 obtain⟨K1,n1,v1,T1,K2,n2,v2,T2,h1,rfl,rfl,rfl,hq⟩:=h
 obtain⟨a',c',e,hs',-⟩:=hs
 simp only[Value.slice.injEq] at e
 obtain⟨rfl,-,rfl⟩:=e
 refine(h1.b.has hG hj ao c hs').mono ?_
 rintro e w' ⟨rfl,h2,hk⟩
 exact⟨rfl,⟨K1,n1,v1,T1,K2,n2,v2,T2,h1.look h2 hk,rfl,rfl,rfl,hq⟩,h1.b.aft_look hk⟩
theorem L2.commit2 (h:L2 Q G tb tb2 sb w0 j1 m1 j2 m2 w) (hG:G<=76000) (hj:j2<=150):
  Calls Tryz.prog 19 #[.pointer (some ⟨tb2,0,none⟩),svV sb] w fun e w'=>(∃p ga gn gc,e=.returned (.tuple #[ptV p,.slice ga gn gc,.int .i64 0]))/\L2 (fun n v=>Ye n v=0) (G+1457) tb tb2 sb w0 j1 m1 j2 m2 w'/\Aft w w':=by
 obtain⟨K1,n1,v1,T1,K2,n2,v2,T2,h1,rfl,rfl,rfl,hq⟩:=h
 have hc:=JlP w h1.b.inv.st.ok (h1.b.cm (by omega) hj)
 rw[h1.sbmb.1] at hc
 refine hc.mono ?_
 rintro e w' ⟨p,gw,nb,rfl,hgw,c⟩
 obtain⟨ga,gc,rfl⟩:=Jm hgw
 exact⟨⟨p,ga,_,gc,rfl⟩,⟨_,n1,v1,T1,_,n2,_,_,h1.commit hG hj c,rfl,rfl,rfl,Jet (p:=p) c.kn⟩,h1.b.aft_cm c⟩
theorem L2.dirty2 (h:L2 (fun n v=>Ye n v=0) G tb tb2 sb w0 j1 m1 j2 m2 w):
  Calls Tryz.prog 21 #[.pointer (some ⟨tb2,0,none⟩)] w fun e w'=>e=.returned (.int .i64 0)/\Below w.heap.size w w':=by
 obtain⟨K1,n1,v1,T1,K2,n2,v2,T2,h1,rfl,rfl,rfl,hq⟩:=h
 have h2:=JqB w h1.b.inv.st.ok (by rw[hq];omega)
 rw[hq] at h2
 exact h2
end
open Go.RowKit
attribute [local go_sem ↓] Go.wp_at_zero Go.wp_at_succ
def JaG:List Ent:=[⟨[107],[118]⟩]
theorem JlE:Yr [] [⟨1,[107],[118],0⟩]=JaG:=by rfl
theorem Jfj:ZO (JS JaG)=(JaG,0):=by rfl
theorem JgJ:(JS JaG).length=4:=by rfl
theorem JmM:ZI JaG:=by intro e he;simp[JaG] at he;subst he;simp
theorem JgK:Jd Ent.key JaG:=by simp[Jd,JaG]
theorem Jqu:JN JaG [107]=some [118]:=by rfl
theorem Jqt:JN JaG [122]=none:=by rfl
theorem Jn1:(Upd.mk 1 [107] [118] 0).check=0:=by rfl
theorem Jbd {tb b sb mb n sz:Nat} {F B L:Int} {root:Nat} {h':Int} {gone:Value} {fl le:Int} {kn:Bool} {lf cs us ks:Value} {f:Int->Option Blk} {gen:Nat} (at':Nat) (bk:Blk) (ps:Nat) (w:World)
  (ht:Yg w tb F B L (.func (.func 11) #[.pointer (some ⟨sb,0,none⟩)] #[]) root h' gone fl le) (hv:Jq w b kn at' bk.gen ps false lf cs us ks) (hs:Ju w sb mb n sz f gen 0) (ha:at'<1000000) (hf:f (at':Int)=some bk) (hk:bk.kind=4) (hp:bk.pay.length<=100000) (es:List Ent) (hpe:ZO bk.pay=(es,0)):Jhb tb b es true w:=by
 intro w1 hX
 have hl:JoW 11 #[.pointer (some ⟨sb,0,none⟩)] #[] at' bk.gen ps bk.kind bk.pay 0 w1:=
  ⟨enters_of Tryz.func11 (by kernel_rfl) rfl,fun w2 hX2=>by
   have:=Ji2 at' ps bk w2 ((hs.on hX).on hX2) ha hf
   exact this⟩
 refine(JkU bk.kind bk.pay 1 w1 (ht.on hX) (hv.on hX) hl hk rfl hp 0 es hpe).mono ?_
 rintro e w2 ⟨(⟨-,b',a,c,rfl,-,hv2,hb2⟩|⟨h0,-⟩),hX2⟩
 ·exact⟨⟨b',true,at',bk.gen,ps,a,c,_,_,_,rfl,hv2,hb2⟩,hX2⟩
 ·exact absurd rfl h0
theorem Jo2 (w:World):Calls Tryz.prog 12 #[] w fun e w'=>e=.returned (.bool true)/\Below w.heap.size w w':=by
 have hmm:= @run_makeMap Tryz.prog
 have s1:(⟨#[107]⟩:ByteArray)=S [107]:=rfl
 have s2:(⟨#[118]⟩:ByteArray)=S [118]:=rfl
 have s3:(⟨#[122]⟩:ByteArray)=S [122]:=rfl
 go_enter Tryz.func12,Tryz.ntmps12
 go_upto_region 2 with(fail)
 obtain⟨W,hW⟩:∃W,W=(w.alloc (.map #[] 0)).alloc (.cells #[.map (some w.heap.size),.int .u64 0,.int .i64 0] 27):=⟨_,rfl⟩
 have hb0:Below w.heap.size w W:=by rw[hW];exact((Below.refl _ w).alloc (Nat.le_refl _) _).alloc (by simp) _
 have hS:Ju W (w.heap.size+1) w.heap.size 0 0 (fun _=>none) 0 0:=by
  rw[hW]
  exact⟨Jc.new' _ _ _ _ (by simp),(Zr.made w).on ((Below.refl _ _).alloc (Nat.le_refl _) _)⟩
 rw[<-hW]
 clear hW
 obtain⟨sb,hsb⟩:∃sb,sb=w.heap.size+1:=⟨_,rfl⟩
 obtain⟨mb,hmb⟩:∃mb,mb=w.heap.size:=⟨_,rfl⟩
 rw[<-hsb] at hS⊢
 rw[<-hmb] at hS
 have hsb':w.heap.size<=sb:=by omega
 have hmb':w.heap.size<=mb:=by omega
 clear hsb hmb
 replace hS:=Lib.hid hS
 go_wp2_with fail
 go_wp2_with fail
 refine(Jl (Jdq W) W.heap.size W (Below.refl _ _) (Nat.le_refl _)).mono ?_
 rintro e w1 ⟨rfl,hX_w1,-,-,-,hz_w1⟩
 replace hS:=Lib.hid (hS.out.kept hX_w1 (Nat.le_refl _))
 replace hb0:=hb0.trans (hX_w1.mono hb0.size)
 clear hX_w1
 go_wp2_with fail
 refine(Jly 3 4 3 (.func 11) #[.pointer (some ⟨sb,0,none⟩)] #[] w1).mono ?_
 rintro e w2 ⟨rfl,ht2,hv2,hX2⟩
 obtain⟨tb,htb⟩:∃tb,tb=w1.heap.size+1+1:=⟨_,rfl⟩
 obtain⟨b,hbb⟩:∃b,b=w1.heap.size+1:=⟨_,rfl⟩
 rw[<-htb] at ht2⊢
 rw[<-hbb] at ht2 hv2
 have htb':w1.heap.size<=tb:=by omega
 have hbb':w1.heap.size<=b:=by omega
 clear htb hbb
 have hT2:=Lib.hid ht2
 have hV2:=Lib.hid hv2
 have HS2:=Lib.hid (hS.out.on hX2)
 have hb2:=hb0.trans (hX2.mono hb0.size)
 have hbx:=hb0.size
 have hsl:=hS.out.row.lt
 have hml:=hS.out.map.lt
 clear ht2 hv2 hX2 hS hb0
 go_upto_region 3 with(fail)
 rw[s1,s2]
 go_wp2_with fail
 refine(Jlb 1 [107] [118] 0 w2 hT2.out hV2.out (es:=[]) ⟨_,rfl,_,_,rfl,Or.inl rfl,by simp,by simp,fun _=>rfl⟩ (by simp) (by simp[Jd]) (by intro e he;simp at he) (by decide) (by decide) Jn1 (by rw[JlE];simp[JaG])).mono ?_
 rintro e w3 ⟨rfl,⟨a3,c3,hv3,hb3⟩,ht3,hK3⟩
 rw[JlE] at hv3 hb3
 have hw1:sb<w1.heap.size/\mb<w1.heap.size:=⟨hsl,hml⟩
 have HS3:=Lib.hid (show Ju w3 sb mb 0 0 (fun _=>none) 0 0 from⟨hK3.row HS2.out.row (by show¬sb=b;omega),by
  have hh:=HS2.out.map
  obtain⟨D,⟨es0,clock0,hh1,hh2⟩,hh3⟩:=hh
  exact⟨D,⟨es0,clock0,(hK3.block mb HS2.out.map.lt (by show¬mb=b;omega)).trans hh1,hh2⟩,hh3⟩⟩)
 have hKa:=(Jg.of_below (S:=fun x=>w.heap.size<=x) hb2).trans hK3 (fun x hx=>Or.inl (by show w.heap.size<=x;have:x=b:=hx;omega))
 have hT3:=Lib.hid ht3
 have hV3:=Lib.hid hv3
 have HB3:=Lib.hid hb3
 clear ht3 hv3 hb3 hK3 hb2 HS2 hT2 hV2
 go_upto_region 4 with(fail)
 go_wp2_with fail
 refine(Jjx 0 w3 hT3.out hV3.out HB3.out rfl (by simp[JaG]) JmM HS3.out (by decide) rfl (fun j hj=>by omega) (by decide) (by decide)).mono ?_
 rintro e w4 ⟨rfl,hs4,⟨nb,hnb,ht4,hv4⟩,hK4⟩
 have hKb:=hKa.trans hK4 (fun x hx=>Or.inl (by show w.heap.size<=x;have:x=sb\/x=mb\/x=tb:=hx;omega))
 have hT4:=Lib.hid ht4
 have hV4:=Lib.hid hv4
 have HS4:=Lib.hid hs4
 clear ht4 hv4 hs4 hK4 hT3 hV3 HB3 HS3 hKa
 go_upto_region 5 with(fail)
 obtain⟨W5,hW5⟩:∃W5,W5=w4.alloc (.cells #[.int .i64 0,.int .u64 1,.int .u32 0] 54):=⟨_,rfl⟩
 have hX5:Below w4.heap.size w4 W5:=by rw[hW5];exact(Below.refl _ w4).alloc (Nat.le_refl _) _
 have hP5:=Lib.hid (show Y7 W5 54 w4.heap.size [.int .i64 0,.int .u64 1,.int .u32 0] from⟨by rw[hW5];exact Jc.new w4 _ _⟩)
 rw[<-hW5]
 clear hW5
 have hT5:=Lib.hid (hT4.out.on hX5)
 have hV5:=Lib.hid (hV4.out.on hX5)
 have HS5:=Lib.hid (HS4.out.on hX5)
 have hK5:=hKb.on hX5
 clear hT4 hV4 HS4 hKb hX5
 have p0:W5.cell? ⟨w4.heap.size,0,none⟩=some (.int .i64 0):=hP5.out.cell 0
 have p1:W5.cell? ⟨w4.heap.size,1,none⟩=some (.int .u64 1):=hP5.out.cell 1
 have p2:W5.cell? ⟨w4.heap.size,2,none⟩=some (.int .u32 0):=hP5.out.cell 2
 go_cut [7,8] (fun s7 s8 wx=>∃ub vb,s7=.pointer (some ⟨ub,0,none⟩)/\s8=.int .i64 0/\Yg wx ub 3 4 3 (.func (.func 11) #[.pointer (some ⟨sb,0,none⟩)] #[]) vb 1 (.slice none 0 0) 0 0/\Jq wx vb true 0 1 0 false (.slice none 0 0) (.slice none 0 0) (.slice none 0 0) (.slice none 0 0)/\Below W5.heap.size W5 wx)
 case first=>
  go_region_law (first|(go_simp;go_at_call 18;refine(Jl (Jdq _) W5.heap.size W5 (by go_grown) (by go_grown)).mono ?_;rintro e w6 ⟨rfl,hX6,-,-,-,hz6⟩;have q0:=Ja hX6 p0;have q1:=Ja hX6 p1;have q2:=Ja hX6 p2)|(go_simp;go_at_call 22;refine(JmI 3 4 3 (.func 11) #[.pointer (some ⟨sb,0,none⟩)] #[] 0 1 0 1 _ (by decide) (by decide)).mono ?_;rintro e w7 ⟨rfl,ht7,hv7,hX7⟩))
  all_goals
   have hX:=hX6.trans (hX7.mono hz6)
   go_wp2_with fail
   go_meet
   exact⟨_,_,rfl,rfl,ht7,hv7,hX⟩
 case rest=>
 obtain⟨ub,vb,rfl,rfl,hu,hv,hX⟩:=hcut
 obtain⟨w7,hw7⟩:∃w7,w7=wc:=⟨_,rfl⟩
 subst hw7
 have hU:=Lib.hid hu
 have hVu:=Lib.hid hv
 have hT:=Lib.hid (hT5.out.on hX)
 have hV:=Lib.hid (hV5.out.on hX)
 have HS:=Lib.hid (HS5.out.on hX)
 have hK:=hK5.on hX
 clear hu hv hX hT5 hV5 HS5 hK5 hP5 p0 p1 p2
 go_upto_region 6 with(fail)
 rw[s1]
 go_wp2_with fail
 refine(Jjk [107] JaG true w7 hU.out (Jbd (n:=1) (sz:=1) 0 ⟨4,JS JaG,1⟩ 0 w7 hU.out hVu.out HS.out (by decide) (by simp) rfl (by rw[JgJ];decide) JaG Jfj) JgK (by simp[JaG])).mono ?_
 rintro e w8 ⟨rfl,hX8⟩
 have hT8:=Lib.hid (hT.out.on hX8)
 have hV8:=Lib.hid (hV.out.on hX8)
 have HS8:=Lib.hid (HS.out.on hX8)
 have hK8:=hK.on hX8
 clear hX8 hU hVu hT hV HS hK
 rw[Jqu]
 simp only[Option.getD_some,Option.isSome_some,if_true]
 go_upto_region 7 with(fail)
 rw[s3]
 go_wp2_with fail
 refine(Jjk [122] JaG true w8 hT8.out (Jbd (n:=1) (sz:=1) 0 ⟨4,JS JaG,1⟩ 0 w8 hT8.out hV8.out HS8.out (by decide) (by simp) rfl (by rw[JgJ];decide) JaG Jfj) JgK (by simp[JaG])).mono ?_
 rintro e w9 ⟨rfl,hX9⟩
 have hT9:=Lib.hid (hT8.out.on hX9)
 have HS9:=Lib.hid (HS8.out.on hX9)
 have hK9:=hK8.on hX9
 clear hX9 hT8 hV8 HS8 hK8
 rw[Jqt]
 simp only[Option.getD_none,Option.isSome_none,if_true]
 go_upto_region 8 with(fail)
 have c0:=HS9.out.c0
 have hl:=HS9.out.map.len 3
 have hbk:w.heap.size<=w9.heap.size:=hK9.size
 go_wp2_with fail
 refine(Jl (JkN w9 hT9.out) w9.heap.size w9 (Below.refl _ _) (Nat.le_refl _)).mono ?_
 rintro e w10 ⟨rfl,hX10,-,-,-,hz10⟩
 have c0':=(HS9.out.on hX10).c0
 have hl':=(HS9.out.on hX10).map.len 3
 have hB:Below w.heap.size w w10:=(hK9.on hX10).below (Nat.le_refl _) (fun x hx=>hx)
 go_wp2_with fail
 go_ret
 exact⟨rfl,hB⟩
open Go.RowKit
attribute [local go_sem ↓] Go.wp_at_zero Go.wp_at_succ
theorem Jek (v v':Value) (l l':List Ja9) (w:World) (hl:Jh6 w v l) (hl':Jh6 w v' l'):
  Calls Tryz.prog 7 #[v,v'] w fun e w'=>e=.returned (.bool true)/\Below w.heap.size w w':=by
 obtain⟨⟨ao,c,rfl,hsl,hc1,hc2⟩,hok⟩:=hl
 obtain⟨⟨ao',c',rfl,hsl',hc1',hc2'⟩,hok'⟩:=hl'
 have hmm:= @run_makeMap Tryz.prog
 have hmin:=fun ts t a b w=>Jir (P:=Tryz.prog) ts t a b w
 have hm1:Jmb (l.length:Int) 60=((min l.length 60:Nat):Int):=JeD l.length 60
 have hm2:Jmb (l'.length:Int) 40=((min l'.length 40:Nat):Int):=JeD l'.length 40
 obtain⟨m,hm⟩:∃m,m=min l.length 60:=⟨_,rfl⟩
 obtain⟨m',hm'⟩:∃m',m'=min l'.length 40:=⟨_,rfl⟩
 rw[<-hm] at hm1
 rw[<-hm'] at hm2
 have hcut:=fun w=>Jp9 ao l.length c m (by omega) hc1 w
 have hcut':=fun w=>Jp9 ao' l'.length c' m' (by omega) hc1' w
 obtain⟨L,hL⟩:∃L,L=l.take m:=⟨_,rfl⟩
 have hLm:L.length=m:=by rw[hL,List.length_take];omega
 have HL:=Lib.hid (show JE Ja9.cells 4 w ao L by rw[hL];exact Jp0 hsl m)
 have HO:=Lib.hid (show∀x∈L,x.Ok by rw[hL];exact fun u hu=>hok u (List.mem_of_mem_take hu))
 obtain⟨L',hL'⟩:∃L',L'=l'.take m':=⟨_,rfl⟩
 have hLm':L'.length=m':=by rw[hL',List.length_take];omega
 have HL':=Lib.hid (show JE Ja9.cells 4 w ao' L' by rw[hL'];exact Jp0 hsl' m')
 have HO':=Lib.hid (show∀x∈L',x.Ok by rw[hL'];exact fun u hu=>hok' u (List.mem_of_mem_take hu))
 have hm60:m<=60:=by omega
 have hm40:m'<=40:=by omega
 clear hok hsl hL hok' hsl' hL'
 have HLm:=Lib.hid hLm
 have HLm':=Lib.hid hLm'
 clear hLm hm hLm' hm'
 go_enter Tryz.func7,Tryz.ntmps7
 go_upto_region 2 with(fail)
 obtain⟨W,hW⟩:∃W,W=(w.alloc (.map #[] 0)).alloc (.cells #[.map (some w.heap.size),.int .u64 0,.int .i64 0] 27):=⟨_,rfl⟩
 have hb0:Below w.heap.size w W:=by rw[hW];exact((Below.refl _ w).alloc (Nat.le_refl _) _).alloc (by simp) _
 have hS:Ju W (w.heap.size+1) w.heap.size 0 0 (fun _=>none) 0 0:=by
  rw[hW]
  exact⟨Jc.new' _ _ _ _ (by simp),(Zr.made w).on ((Below.refl _ _).alloc (Nat.le_refl _) _)⟩
 rw[<-hW]
 clear hW
 obtain⟨sb,hsb⟩:∃sb,sb=w.heap.size+1:=⟨_,rfl⟩
 obtain⟨mb,hmb⟩:∃mb,mb=w.heap.size:=⟨_,rfl⟩
 rw[<-hsb] at hS⊢
 rw[<-hmb] at hS
 have hsb':w.heap.size<=sb:=by omega
 have hmb':w.heap.size<=mb:=by omega
 clear hsb hmb
 replace hS:=Lib.hid hS
 go_wp2_with fail
 go_wp2_with fail
 refine(Jl (Jdq W) W.heap.size W (Below.refl _ _) (Nat.le_refl _)).mono ?_
 rintro e w1 ⟨rfl,hX_w1,-,-,-,hz_w1⟩
 replace hS:=Lib.hid (hS.out.kept hX_w1 (Nat.le_refl _))
 replace hb0:=hb0.trans (hX_w1.mono hb0.size)
 clear hX_w1
 go_wp2_with fail
 refine(Jly 3 4 3 (.func 11) #[.pointer (some ⟨sb,0,none⟩)] #[] w1).mono ?_
 rintro e w2 ⟨rfl,ht2,hv2,hX2⟩
 obtain⟨tb,htb⟩:∃tb,tb=w1.heap.size+1+1:=⟨_,rfl⟩
 obtain⟨b,hbb⟩:∃b,b=w1.heap.size+1:=⟨_,rfl⟩
 rw[<-htb] at ht2⊢
 rw[<-hbb] at ht2 hv2
 have htb':w1.heap.size<=tb:=by omega
 have hbb':w1.heap.size<=b:=by omega
 clear htb hbb
 have hbx:=hb0.size
 have HV2:=Lib.hid (show L1 0 tb sb w 0 [] w2 from⟨_,0,_,_,YH.new ht2 hv2 (hS.out.on hX2) (hb0.trans (hX2.mono hb0.size)) (by omega) (by omega) hsb' hmb',rfl,rfl⟩)
 clear ht2 hv2 hX2 hS hb0 hsb' hmb' htb' hbb' hbx
 go_upto_region 3 with(fail)
 go_wp2_with fail
 refine(Jo2 w2).mono ?_
 rintro e w3 ⟨rfl,hX3⟩
 have HV3:=Lib.hid (HV2.out.on hX3)
 clear hX3 HV2
 go_wp2_with fail
 go_loopw [43,7] (fun i s7 wr=>∃(j:Nat) (ms:List Ent) (ma:Option Addr) (mc:Nat),i=.int .i64 j/\j<=m/\s7=.slice ma ms.length mc/\Hid (L1 (if j<=30 then 0 else 1457) tb sb w j ms wr/\SlE wr (.slice ma ms.length mc) ms)) (fun i _ _=>m- (intOf i).toNat)
 case atStart=>exact⟨0,[],none,0,rfl,Nat.zero_le _,rfl,Lib.hid ⟨HV3.out,SlE.nil _⟩⟩
 case round=>
  obtain⟨j,ms,ma,mc,rfl,hj,rfl,HJ⟩:=hrel
  have hj0:(0:Int)<=(j:Int):=Int.natCast_nonneg _
  by_cases hjm:j<m
  ·have hj1:(j:Int)<(m:Int):=by omega
   have hjl:j<L.length:=by rw[HLm.out];exact hjm
   obtain⟨b,off,ea,hb,t0,t1,t2,t3⟩:=JE.cellsQ HL.out j hjl
   subst ea
   have hB:=HJ.out.1.below
   have q0:=(Jj hB hb _).trans t0
   have q1:=(Jj hB hb _).trans t1
   have q2:=(Jj hB hb _).trans t2
   have q3:=(Jj hB hb _).trans t3
   have hxo:=HO.out _ (List.getElem_mem hjl)
   clear t0 t1 t2 t3 hB
   generalize L[j]=x at*
   go_upto_region 9 with(fail)
   obtain⟨W4,hW4⟩:∃W4,W4=wr.alloc (.cells #[.int .i64 x.dv,.int .i64 x.kv,.string (S x.val),.int .u64 x.dl] 51):=⟨_,rfl⟩
   have hX4:Below wr.heap.size wr W4:=by rw[hW4];go_grown
   have z0:W4.cell? ⟨wr.heap.size,0,none⟩=some (.int .i64 x.dv):=by rw[hW4,World.cell?_alloc_at _ _ _ _ rfl];rfl
   have z1:W4.cell? ⟨wr.heap.size,1,none⟩=some (.int .i64 x.kv):=by rw[hW4,World.cell?_alloc_at _ _ _ _ rfl];rfl
   have z2:W4.cell? ⟨wr.heap.size,2,none⟩=some (.string (S x.val)):=by rw[hW4,World.cell?_alloc_at _ _ _ _ rfl];rfl
   have z3:W4.cell? ⟨wr.heap.size,3,none⟩=some (.int .u64 x.dl):=by rw[hW4,World.cell?_alloc_at _ _ _ _ rfl];rfl
   have HJ4:=Lib.hid (And.intro (HJ.out.1.on hX4) (HJ.out.2.kept hX4 (Nat.le_refl _)))
   rw[<-hW4]
   clear hW4 hX4 q0 q1 q2 q3 HJ hb
   go_wp2_with fail
   refine(Jh9 x.dv x.kv x.val x.dl W4 hxo.dv hxo.kv hxo.val).mono ?_
   rintro e w5 ⟨rfl,hX5⟩
   have HU:=Lib.hid (Jlh x.dv x.kv x.val x.dl hxo.dl)
   have HJ5:=Lib.hid (And.intro (HJ4.out.1.on hX5) (HJ4.out.2.kept hX5 (Nat.le_refl _)))
   generalize Jcm x.dv x.kv x.val x.dl=u at*
   clear hX5 HJ4 z0 z1 z2 z3 hxo
   go_upto_region 10 with(fail)
   obtain⟨W6,hW6⟩:∃W6,W6=(w5.alloc (.cells #[.int .u8 u.kind,.string (S u.key),.string (S u.val),.int .u64 u.delta] 39)).alloc (.cells #[.int .u8 u.kind,.string (S u.key),.string (S u.val),.int .u64 u.delta] 62):=⟨_,rfl⟩
   have hX6:Below w5.heap.size w5 W6:=by rw[hW6];go_grown
   have HR6:=Lib.hid (show Jc W6 39 w5.heap.size [.int .u8 u.kind,.string (S u.key),.string (S u.val),.int .u64 u.delta] by
    rw[hW6]
    exact(Jc.new w5 _ [.int .u8 u.kind,.string (S u.key),.string (S u.val),.int .u64 u.delta]).on ((Below.refl _ _).alloc (Nat.le_refl _) _))
   have HR6':=Lib.hid (show Jc W6 62 (w5.heap.size+1) [.int .u8 u.kind,.string (S u.key),.string (S u.val),.int .u64 u.delta] by
    rw[hW6]
    exact Jc.new' _ _ _ _ (by simp))
   have HJ6:=Lib.hid (And.intro (HJ5.out.1.on hX6) (HJ5.out.2.kept hX6 (Nat.le_refl _)))
   rw[<-hW6]
   clear hW6 hX6 HJ5
   have y0:W6.cell? ⟨w5.heap.size,0,none⟩=some (.int .u8 u.kind):=HR6.out.cell 0
   have y1:W6.cell? ⟨w5.heap.size,1,none⟩=some (.string (S u.key)):=HR6.out.cell 1
   have y2:W6.cell? ⟨w5.heap.size,2,none⟩=some (.string (S u.val)):=HR6.out.cell 2
   have y3:W6.cell? ⟨w5.heap.size,3,none⟩=some (.int .u64 u.delta):=HR6.out.cell 3
   have HAP:=Lib.hid (HJ6.out.1.apply (u:=u) (by split<;>omega) (by omega) HU.out)
   go_wp2_with fail
   refine HAP.out.mono ?_
   rintro e w7 ⟨rfl,hj7,ha7⟩
   have HJ7:=Lib.hid (And.intro hj7 (ha7.sl HJ6.out.2))
   have HR7:=Lib.hid (ha7.row (by decide) (by decide) (by decide) (by decide) HR6'.out)
   obtain⟨hri,hle⟩:=HJ6.out.1.rise
   have HON:=Lib.hid (Jcs ma ms.length mc ms u.kind u.key u.val u.delta w7 rfl HJ7.out.2 hri (by omega) HU.out.wf.1 HU.out.wf.2)
   have y0':w7.cell? ⟨w5.heap.size+1,0,none⟩=some (.int .u8 u.kind):=HR7.out.cell 0
   have y1':w7.cell? ⟨w5.heap.size+1,1,none⟩=some (.string (S u.key)):=HR7.out.cell 1
   have y2':w7.cell? ⟨w5.heap.size+1,2,none⟩=some (.string (S u.val)):=HR7.out.cell 2
   have y3':w7.cell? ⟨w5.heap.size+1,3,none⟩=some (.int .u64 u.delta):=HR7.out.cell 3
   clear hj7 ha7 y0 y1 y2 y3 HR6 HR6' HJ6 HAP hri hle
   go_upto_region 12 with(fail)
   go_wp2_with fail
   refine HON.out.mono ?_
   rintro e w8 ⟨⟨na,nc,rfl,hs8⟩,hX8⟩
   obtain⟨ms',hms'⟩:∃ms',ms'=onE ms u:=⟨_,rfl⟩
   have hms0:onE ms ⟨u.kind,u.key,u.val,u.delta⟩=ms':=by rw[hms']
   rw[hms0] at hs8⊢
   have HJ8:=Lib.hid (show L1 (if j<=30 then 0 else 1457) tb sb w (j+1) ms' w8/\SlE w8 (.slice na ms'.length nc) ms' by
    rw[hms']
    exact⟨HJ7.out.1.on hX8,by rw[<-hms'];exact hs8⟩)
   clear hs8 hX8 HJ7 HR7 HON y0' y1' y2' y3' hms0 hms' HU
   by_cases hj30:j=30
   ·subst hj30
    have HCM:=Lib.hid ((HJ8.out.1.more (G':=0) (by simp)).commit (by omega) (by omega))
    go_wp2_with fail
    refine HCM.out.mono ?_
    rintro e w9 ⟨⟨p,ga,gn,gc,rfl⟩,h9,ha9⟩
    have HJ9:=Lib.hid (show L1 (if 30+1<=30 then 0 else 1457) tb sb w (30+1) ms' w9/\SlE w9 (.slice na ms'.length nc) ms' from⟨h9,ha9.sl HJ8.out.2⟩)
    clear h9 ha9 HCM HJ8
    go_upto_region 15 with(fail)
    obtain⟨W10,hW10⟩:∃W10,W10=w9.alloc (.cells #[.int .i64 p.a,.int .u64 p.g,.int .u32 p.s] 54):=⟨_,rfl⟩
    have hX10:Below w9.heap.size w9 W10:=by rw[hW10];go_grown
    have HJ10:=Lib.hid (And.intro (HJ9.out.1.on hX10) (HJ9.out.2.kept hX10 (Nat.le_refl _)))
    rw[<-hW10]
    clear hW10 hX10 HJ9
    go_wp2_with fail
    exact⟨⟨30+1,ms',na,nc,by go_num,by omega,rfl,HJ10⟩,by simp[intOf];omega⟩
   ·have h30:((j:Int)==30)=false:=by simp;omega
    have HJ9:=Lib.hid (show L1 (if j+1<=30 then 0 else 1457) tb sb w (j+1) ms' w8/\SlE w8 (.slice na ms'.length nc) ms' from⟨by
     have h1:=HJ8.out.1
     by_cases h:j<=30
     ·rw[if_pos h] at h1
      rw[if_pos (by omega)];exact h1
     ·rw[if_neg h] at h1
      rw[if_neg (by omega)];exact h1,HJ8.out.2⟩)
    clear HJ8
    go_wp2_with fail
    exact⟨⟨j+1,ms',na,nc,by go_num,by omega,rfl,HJ9⟩,by simp[intOf];omega⟩
  ·obtain rfl:j=m:=by omega
   have HCY:=Lib.hid (HJ.out.1.more (G':=1457) (by split<;>omega)).copy
   go_upto_region 18 with(fail)
   go_wp2_with fail
   refine HCY.out.mono ?_
   rintro e w4 ⟨tb2,rfl,h4,hX4⟩
   have HT4:=Lib.hid (And.intro h4 (HJ.out.2.kept hX4 (Nat.le_refl _)))
   clear h4 hX4 HCY HJ
   go_upto_region 21 with(fail)
   go_loopw [82,7,16] (fun i s7 s16 wr=>∃(j:Nat) (ms1 ms2:List Ent) (j1 j2:Nat) (ma1:Option Addr) (mc1:Nat) (ma2:Option Addr) (mc2:Nat),i=.int .i64 j/\j<=m'/\j1<=60+j/\j2<=60+j/\s7=.slice ma1 ms1.length mc1/\s16=.slice ma2 ms2.length mc2/\Hid (L2 (fun _ _=>True) 1457 tb tb2 sb w j1 ms1 j2 ms2 wr/\SlE wr (.slice ma1 ms1.length mc1) ms1/\SlE wr (.slice ma2 ms2.length mc2) ms2)) (fun i _ _ _=>m'- (intOf i).toNat)
   case atStart=>exact⟨0,ms,ms,j,j,ma,mc,ma,mc,rfl,Nat.zero_le _,by omega,by omega,rfl,rfl,Lib.hid ⟨HT4.out.1,HT4.out.2,HT4.out.2⟩⟩
   case round=>
    clear HT4
    obtain⟨j,ms1,ms2,j1,j2,ma1,mc1,ma2,mc2,rfl,hj,hj1b,hj2b,rfl,rfl,HJ⟩:=hrel
    have hj0:(0:Int)<=(j:Int):=Int.natCast_nonneg _
    by_cases hjm:j<m'
    ·have hj1:(j:Int)<(m':Int):=by omega
     have hjl:j<L'.length:=by rw[HLm'.out];exact hjm
     obtain⟨b,off,ea,hb,t0,t1,t2,t3⟩:=JE.cellsQ HL'.out j hjl
     subst ea
     have hB:=HJ.out.1.below
     have q0:=(Jj hB hb _).trans t0
     have q1:=(Jj hB hb _).trans t1
     have q2:=(Jj hB hb _).trans t2
     have q3:=(Jj hB hb _).trans t3
     have hxo:=HO'.out _ (List.getElem_mem hjl)
     clear t0 t1 t2 t3 hB
     generalize L'[j]=x at*
     go_upto_region 23 with(fail)
     obtain⟨W4,hW4⟩:∃W4,W4=wr.alloc (.cells #[.int .i64 x.dv,.int .i64 x.kv,.string (S x.val),.int .u64 x.dl] 51):=⟨_,rfl⟩
     have hX4:Below wr.heap.size wr W4:=by rw[hW4];go_grown
     have z0:W4.cell? ⟨wr.heap.size,0,none⟩=some (.int .i64 x.dv):=by rw[hW4,World.cell?_alloc_at _ _ _ _ rfl];rfl
     have z1:W4.cell? ⟨wr.heap.size,1,none⟩=some (.int .i64 x.kv):=by rw[hW4,World.cell?_alloc_at _ _ _ _ rfl];rfl
     have z2:W4.cell? ⟨wr.heap.size,2,none⟩=some (.string (S x.val)):=by rw[hW4,World.cell?_alloc_at _ _ _ _ rfl];rfl
     have z3:W4.cell? ⟨wr.heap.size,3,none⟩=some (.int .u64 x.dl):=by rw[hW4,World.cell?_alloc_at _ _ _ _ rfl];rfl
     have HJ4:=Lib.hid (And.intro (HJ.out.1.on hX4) (And.intro (HJ.out.2.1.kept hX4 (Nat.le_refl _)) (HJ.out.2.2.kept hX4 (Nat.le_refl _))))
     rw[<-hW4]
     clear hW4 hX4 q0 q1 q2 q3 HJ hb
     go_wp2_with fail
     refine(Jh9 x.dv x.kv x.val x.dl W4 hxo.dv hxo.kv hxo.val).mono ?_
     rintro e w5 ⟨rfl,hX5⟩
     have HU:=Lib.hid (Jlh x.dv x.kv x.val x.dl hxo.dl)
     have HJ5:=Lib.hid (And.intro (HJ4.out.1.on hX5) (And.intro (HJ4.out.2.1.kept hX5 (Nat.le_refl _)) (HJ4.out.2.2.kept hX5 (Nat.le_refl _))))
     generalize Jcm x.dv x.kv x.val x.dl=u at*
     clear hX5 HJ4 z0 z1 z2 z3 hxo
     go_upto_region 24 with(fail)
     obtain⟨W6,hW6⟩:∃W6,W6=(w5.alloc (.cells #[.int .u8 u.kind,.string (S u.key),.string (S u.val),.int .u64 u.delta] 39)).alloc (.cells #[.int .u8 u.kind,.string (S u.key),.string (S u.val),.int .u64 u.delta] 62):=⟨_,rfl⟩
     have hX6:Below w5.heap.size w5 W6:=by rw[hW6];go_grown
     have HR6:=Lib.hid (show Jc W6 39 w5.heap.size [.int .u8 u.kind,.string (S u.key),.string (S u.val),.int .u64 u.delta] by
      rw[hW6]
      exact(Jc.new w5 _ [.int .u8 u.kind,.string (S u.key),.string (S u.val),.int .u64 u.delta]).on ((Below.refl _ _).alloc (Nat.le_refl _) _))
     have HR6':=Lib.hid (show Jc W6 62 (w5.heap.size+1) [.int .u8 u.kind,.string (S u.key),.string (S u.val),.int .u64 u.delta] by
      rw[hW6]
      exact Jc.new' _ _ _ _ (by simp))
     have HJ6:=Lib.hid (And.intro (HJ5.out.1.on hX6) (And.intro (HJ5.out.2.1.kept hX6 (Nat.le_refl _)) (HJ5.out.2.2.kept hX6 (Nat.le_refl _))))
     rw[<-hW6]
     clear hW6 hX6 HJ5
     have y0:W6.cell? ⟨w5.heap.size,0,none⟩=some (.int .u8 u.kind):=HR6.out.cell 0
     have y1:W6.cell? ⟨w5.heap.size,1,none⟩=some (.string (S u.key)):=HR6.out.cell 1
     have y2:W6.cell? ⟨w5.heap.size,2,none⟩=some (.string (S u.val)):=HR6.out.cell 2
     have y3:W6.cell? ⟨w5.heap.size,3,none⟩=some (.int .u64 u.delta):=HR6.out.cell 3
     obtain⟨r,hr⟩:∃r,r=j% 2:=⟨_,rfl⟩
     have h3:(j:Int).tmod 2=(r:Int):=by rw[Int.tmod_eq_emod_of_nonneg (by omega),hr];omega
     have w3:IntKind.i64.wrap (r:Int)=(r:Int):=IntWalk.i64_in _ (by omega)
     have hr2:r=0\/r=1:=by omega
     clear hr
     go_upto_if 94 with(fail)
     go_cut [7,16] from 92 to 108 (fun s7 s16 wx=>∃(ms1 ms2:List Ent) (j1 j2:Nat) (ma1:Option Addr) (mc1:Nat) (ma2:Option Addr) (mc2:Nat),j1<=60+(j+1)/\j2<=60+(j+1)/\s7=.slice ma1 ms1.length mc1/\s16=.slice ma2 ms2.length mc2/\Hid (L2 (fun _ _=>True) 1457 tb tb2 sb w j1 ms1 j2 ms2 wx/\SlE wx (.slice ma1 ms1.length mc1) ms1/\SlE wx (.slice ma2 ms2.length mc2) ms2))
     case first=>
      rcases hr2 with rfl|rfl
      ·skip
       have HAP:=Lib.hid (HJ6.out.1.apply2 (u:=u) (by omega) (by omega) HU.out)
       go_wp2_with fail
       refine HAP.out.mono ?_
       rintro e w7 ⟨rfl,hj7,ha7⟩
       have HJ7:=Lib.hid (And.intro hj7 (And.intro (ha7.sl HJ6.out.2.1) (ha7.sl HJ6.out.2.2)))
       have HR7:=Lib.hid (ha7.row (by decide) (by decide) (by decide) (by decide) HR6'.out)
       have hri:=HJ6.out.1.rise
       have HON:=Lib.hid (Jcs ma2 ms2.length mc2 ms2 u.kind u.key u.val u.delta w7 rfl HJ7.out.2.2 hri.2.1 (by have:=hri.2.2;omega) HU.out.wf.1 HU.out.wf.2)
       have y0':w7.cell? ⟨w5.heap.size+1,0,none⟩=some (.int .u8 u.kind):=HR7.out.cell 0
       have y1':w7.cell? ⟨w5.heap.size+1,1,none⟩=some (.string (S u.key)):=HR7.out.cell 1
       have y2':w7.cell? ⟨w5.heap.size+1,2,none⟩=some (.string (S u.val)):=HR7.out.cell 2
       have y3':w7.cell? ⟨w5.heap.size+1,3,none⟩=some (.int .u64 u.delta):=HR7.out.cell 3
       clear hj7 ha7 y0 y1 y2 y3 HR6 HR6' HJ6 HAP hri
       go_upto_region 27 with(fail)
       go_wp2_with fail
       refine HON.out.mono ?_
       rintro e w8 ⟨⟨na,nc,rfl,hs8⟩,hX8⟩
       obtain⟨ms',hms'⟩:∃ms',ms'=onE ms2 u:=⟨_,rfl⟩
       have hms0:onE ms2 ⟨u.kind,u.key,u.val,u.delta⟩=ms':=by rw[hms']
       rw[hms0] at hs8⊢
       have hl8:=HJ7.out.1.on hX8
       rw[<-hms'] at hl8
       clear hms0 hms' HU HON HR7 y0' y1' y2' y3'
       go_wp2_with fail
       go_meet
       exact⟨ms1,ms',j1,j2+1,ma1,mc1,na,nc,by omega,by omega,rfl,rfl,Lib.hid ⟨hl8,HJ7.out.2.1.kept hX8 (Nat.le_refl _),hs8⟩⟩
      ·skip
       have HAP:=Lib.hid (HJ6.out.1.apply1 (u:=u) (by omega) (by omega) HU.out)
       go_wp2_with fail
       refine HAP.out.mono ?_
       rintro e w7 ⟨rfl,hj7,ha7⟩
       have HJ7:=Lib.hid (And.intro hj7 (And.intro (ha7.sl HJ6.out.2.1) (ha7.sl HJ6.out.2.2)))
       have HR7:=Lib.hid (ha7.row (by decide) (by decide) (by decide) (by decide) HR6'.out)
       have hri:=HJ6.out.1.rise
       have HON:=Lib.hid (Jcs ma1 ms1.length mc1 ms1 u.kind u.key u.val u.delta w7 rfl HJ7.out.2.1 hri.1.1 (by have:=hri.1.2;omega) HU.out.wf.1 HU.out.wf.2)
       have y0':w7.cell? ⟨w5.heap.size+1,0,none⟩=some (.int .u8 u.kind):=HR7.out.cell 0
       have y1':w7.cell? ⟨w5.heap.size+1,1,none⟩=some (.string (S u.key)):=HR7.out.cell 1
       have y2':w7.cell? ⟨w5.heap.size+1,2,none⟩=some (.string (S u.val)):=HR7.out.cell 2
       have y3':w7.cell? ⟨w5.heap.size+1,3,none⟩=some (.int .u64 u.delta):=HR7.out.cell 3
       clear hj7 ha7 y0 y1 y2 y3 HR6 HR6' HJ6 HAP hri
       go_upto_region 30 with(fail)
       go_wp2_with fail
       refine HON.out.mono ?_
       rintro e w8 ⟨⟨na,nc,rfl,hs8⟩,hX8⟩
       obtain⟨ms',hms'⟩:∃ms',ms'=onE ms1 u:=⟨_,rfl⟩
       have hms0:onE ms1 ⟨u.kind,u.key,u.val,u.delta⟩=ms':=by rw[hms']
       rw[hms0] at hs8⊢
       have hl8:=HJ7.out.1.on hX8
       rw[<-hms'] at hl8
       clear hms0 hms' HU HON HR7 y0' y1' y2' y3'
       go_wp2_with fail
       go_meet
       exact⟨ms',ms2,j1+1,j2,na,nc,ma2,mc2,by omega,by omega,rfl,rfl,Lib.hid ⟨hl8,hs8,HJ7.out.2.2.kept hX8 (Nat.le_refl _)⟩⟩
     case rest=>
     obtain⟨ms1,ms2,j1,j2,ma1,mc1,ma2,mc2,hj1b,hj2b,rfl,rfl,HJ7⟩:=hcut
     obtain⟨w7,hw7⟩:∃w7,w7=wc:=⟨_,rfl⟩
     subst hw7
     clear HR6 HR6' HJ6 HU y0 y1 y2 y3 h3 w3 hr2
     have HH1:=Lib.hid (HJ7.out.1.has1 (by omega) (by omega) ma1 mc1 HJ7.out.2.1)
     go_wp2_with fail
     refine HH1.out.mono ?_
     rintro e w8 ⟨rfl,h8,ha8⟩
     have HJ8:=Lib.hid (And.intro h8 (And.intro (ha8.sl HJ7.out.2.1) (ha8.sl HJ7.out.2.2)))
     have HH2:=Lib.hid (HJ8.out.1.has2 (by omega) (by omega) ma2 mc2 HJ8.out.2.2)
     clear h8 ha8 HJ7 HH1
     go_wp2_with fail
     refine HH2.out.mono ?_
     rintro e w9 ⟨rfl,h9,ha9⟩
     have HJ9:=Lib.hid (And.intro h9 (And.intro (ha9.sl HJ8.out.2.1) (ha9.sl HJ8.out.2.2)))
     clear h9 ha9 HJ8 HH2
     go_wp2_with fail
     exact⟨⟨j+1,ms1,ms2,j1,j2,ma1,mc1,ma2,mc2,by go_num,by omega,hj1b,hj2b,rfl,rfl,HJ9⟩,by simp[intOf];omega⟩
    ·obtain rfl:j=m':=by omega
     have HCM:=Lib.hid (HJ.out.1.commit2 (by omega) (by omega))
     go_wp2_with fail
     refine HCM.out.mono ?_
     rintro e w9 ⟨⟨p,ga,gn,gc,rfl⟩,h9,ha9⟩
     have HJ9:=Lib.hid (And.intro h9 (And.intro (ha9.sl HJ.out.2.1) (ha9.sl HJ.out.2.2)))
     clear h9 ha9 HCM HJ
     go_upto_region 35 with(fail)
     obtain⟨W10,hW10⟩:∃W10,W10=w9.alloc (.cells #[.int .i64 p.a,.int .u64 p.g,.int .u32 p.s] 54):=⟨_,rfl⟩
     have hX10:Below w9.heap.size w9 W10:=by rw[hW10];go_grown
     have HJ10:=Lib.hid (And.intro (HJ9.out.1.on hX10) (And.intro (HJ9.out.2.1.kept hX10 (Nat.le_refl _)) (HJ9.out.2.2.kept hX10 (Nat.le_refl _))))
     rw[<-hW10]
     clear hW10 hX10 HJ9
     have HH1:=Lib.hid (HJ10.out.1.has1 (by omega) (by omega) ma1 mc1 HJ10.out.2.1)
     go_wp2_with fail
     refine HH1.out.mono ?_
     rintro e w11 ⟨rfl,h11,ha11⟩
     have HJ11:=Lib.hid (And.intro h11 (ha11.sl HJ10.out.2.2))
     have HH2:=Lib.hid (HJ11.out.1.has2 (by omega) (by omega) ma2 mc2 HJ11.out.2)
     clear h11 ha11 HJ10 HH1
     go_wp2_with fail
     refine HH2.out.mono ?_
     rintro e w12 ⟨rfl,h12,-⟩
     have HJ12:=Lib.hid h12
     have HDY:=Lib.hid h12.dirty2
     clear h12 HJ11 HH2
     go_wp2_with fail
     refine HDY.out.mono ?_
     rintro e w13 ⟨rfl,hX13⟩
     have HB13:=Lib.hid (HJ12.out.below.trans (hX13.mono HJ12.out.below.size))
     clear hX13
     go_wp2_with fail
     go_ret
     exact⟨rfl,HB13.out⟩
end Go.Proofs.YtafciefjlkdecaaGreat
