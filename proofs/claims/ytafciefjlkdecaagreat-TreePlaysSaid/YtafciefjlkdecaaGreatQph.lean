/-
  The walk of Dirty. A tree, or two, in a law: what each call does to them, and to what else lies there. slices.Reverse of updates, laid: a row of the call's own is turned round. What a Get comes upon: a vertex that lay there, or one that isn't loaded; the way of a key, in plain words. The walk of Get, whatever tree. The shelf has just what is gone and what is known, each once; an address is let go. A tree in a law that commits, lets go, and opens anew. The walk of what the document fixes. The walk of TreePlays.
-/
import Derived.Shelf.SlicesQ.Reverse
import Derived.Sort.OwnSortedInts
import Derived.Deep.DeepCutAuto
import Derived.Deep.CutBlock
import Derived.Test.YtafciefjlkdecaaGreatQpg
set_option maxRecDepth 100000
set_option maxHeartbeats 16000000
set_option linter.unusedVariables false
namespace Go.Proofs.YtafciefjlkdecaaGreat
open Go.RowKit
attribute [local go_sem ↓] Go.wp_at_zero Go.wp_at_succ
def Jdp (n:Nat) (c:Nat) (ch:List (Chd×Vt)) (j:Nat):Nat:=c+Yf (Yb n) (ch.take j)
theorem Jlc (n c:Nat) (ch:List (Chd×Vt)) (j:Nat) (hj:j<ch.length):Jdp n c ch (j+1)=Jdp n c ch j+Yb n ch[j].2:=by
 unfold Jdp
 rw[List.take_succ_eq_append_getElem hj,JD,Jo,Jaw]
 omega
theorem Jna (n c:Nat) (ch:List (Chd×Vt)):Jdp n c ch ch.length=c+Yf (Yb n) ch:=by unfold Jdp;rw[List.take_length]
theorem JoC (n c:Nat) (ch:List (Chd×Vt)) (j:Nat):Jdp n c ch j<=c+Yf (Yb n) ch:=by
 unfold Jdp
 have:Yf (Yb n) ch=Yf (Yb n) (ch.take j)+Yf (Yb n) (ch.drop j):=by
  conv=>lhs;rw[<-List.take_append_drop j ch]
  rw[JD]
 omega
theorem JeD {n:Nat} {v:Vt} {p:Pt} (h:v.kn=some p):Yb n v=0:=by
 cases n<;>(unfold Yb;rw[h];rfl)
theorem JoB {f:Int->Option Blk} {n:Nat} {v:Vt} (h:Shf f (n+1) v):Yb (n+1) v=(if v.kn.isSome then 0 else 1)+Yf (Yb n) v.ch:=by
 cases hk:v.kn with
 |none=>unfold Yb;rw[hk];rfl
 |some p=>
  rw[JeD hk]
  have h2:=(h.1 p hk).2.2
  have key:∀l:List (Chd×Vt),(∀x∈l,x.2.kn=some ⟨x.1.addr,x.1.gen,x.1.sum⟩)->Yf (Yb n) l=0:=fun l hl=>by
   induction l with
   |nil=>rfl
   |cons x l ih=>rw[Jo,JeD (hl x (by simp)),ih fun y hy=>hl y (List.mem_cons_of_mem _ hy)]
  rw[key v.ch h2]
  rfl
def Jqu (n:Nat):Prop:=∀(f:Int->Option Blk) (w:World) (v:Vt),Mem w n v->Shf f n v->pot n v<=1000->Yb n v<=1000000->
 Calls Tryz.prog 47 #[.pointer (some ⟨v.b,0,none⟩)] w fun e w'=>e=.returned (.int .i64 (Yb n v))/\Below w.heap.size w w'
theorem JcL (n:Nat) (f:Int->Option Blk) {b:Nat} {kn:Bool} {pa:Int} {pg ps:Nat} {ld:Bool} {l1 l2 l3 l4:Option Addr} {m1 m2 m3 nk c1 c2 c3 c4:Nat} (ch:List (Chd×Vt)) (IH:Jqu n\/ch=[]) (w:World) (hv:Jq w b kn pa pg ps ld (.slice l1 m1 c1) (.slice l2 m2 c2) (.slice l3 m3 c3) (.slice l4 nk c4)) (hnk:nk=ch.length)
  (hkd:Xu w (.slice l4 ch.length c4) (ch.map fun x=>x.2.b)) (hm:∀x∈ch,Mem w n x.2/\Shf f n x.2/\pot n x.2<=1000) (hl:ch.length<=2000) (k0:Nat) (hk0:k0=if kn then 0 else 1) (hd:k0+Yf (Yb n) ch<=1000000):
  Calls Tryz.prog 47 #[.pointer (some ⟨b,0,none⟩)] w fun e w'=>e=.returned (.int .i64 ((k0+Yf (Yb n) ch:Nat):Int))/\Below w.heap.size w w':=by
 have HH:=Lib.hid (And.intro hnk (And.intro hkd (And.intro hm hd)))
 have HIH:=Lib.hid IH
 have hl2:nk<=2000:=by omega
 have v0:=hv.c0
 have v8:=hv.c8
 have HK0:=Lib.hid hk0
 clear hnk hkd hm hv IH hl hd hk0
 go_enter Tryz.func47,Tryz.ntmps47
 go_upto_if 10 with(fail)
 go_cut [3] from 10 to 11 (fun s3 wx=>s3=.int .i64 (k0:Int)/\wx=w)
 case first=>
  cases kn with
  |true=>
   go_wp2_with fail
   go_meet
   exact⟨by rw[HK0.out];rfl,rfl⟩
  |false=>
   go_wp2_with fail
   go_meet
   exact⟨by rw[HK0.out];rfl,rfl⟩
 case rest=>
 obtain⟨rfl,rfl⟩:=hcut
 go_wp2_with fail
 go_loopw [16,3] (fun i s3 wr=>∃j:Nat,i=.int .i64 j/\j<=nk/\s3=.int .i64 (Jdp n k0 ch j:Nat)/\Hid (Below wc.heap.size wc wr)) (fun i _ _=>nk- (intOf i).toNat)
 case atStart=>exact⟨0,rfl,Nat.zero_le _,rfl,Lib.hid (Below.refl _ _)⟩
 case round=>
  obtain⟨j,rfl,hj,rfl,HB⟩:=hrel
  have hj0:(0:Int)<=(j:Int):=Int.natCast_nonneg _
  by_cases hjl:j<nk
  ·have hj1:(j:Int)<(nk:Int):=by omega
   have hkl:j<ch.length:=by rw[<-HH.out.1];exact hjl
   have HS:=Lib.hid (Jlc n k0 ch j hkl)
   have hle:=JoC n k0 ch (j+1)
   rw[HS.out] at hle
   have hdd:=HH.out.2.2.2
   obtain⟨x,hx⟩:∃x,x=ch[j]:=⟨_,rfl⟩
   rw[<-hx] at HS hle
   have hkr:wr.ownsRow 0 97 1 (.slice l4 nk c4) nk ((ch.map fun x=>x.2.b).map vp):=by
    have h0:Xu wr (.slice l4 ch.length c4) (ch.map fun x=>x.2.b):=Ji HH.out.2.1 HB.out
    have h1:wr.ownsRow 0 97 1 (.slice l4 ch.length c4) (ch.map fun x=>x.2.b).length ((ch.map fun x=>x.2.b).map vp):=h0
    rw[List.length_map,<-HH.out.1] at h1
    exact h1
   obtain⟨g3,rfl,-,-,hgc⟩:=Yk hkr (by omega)
   have r0:wr.cell? ⟨g3,j,none⟩=some (.pointer (some ⟨x.2.b,0,none⟩)):=by
    have:=hgc j (vp x.2.b) (by rw[List.getElem?_map,List.getElem?_map,List.getElem?_eq_getElem hkl,hx];rfl)
    simpa using this
   have hxm:=HH.out.2.2.1 x (by rw[hx];exact List.getElem_mem hkl)
   have HCA:=Lib.hid ((HIH.out.resolve_right fun e=>by rw[e] at hkl;simp at hkl) f wr x.2 (hxm.1.on HB.out) hxm.2.1 hxm.2.2 (by omega))
   obtain⟨d1,hd1⟩:∃d1,d1=Jdp n k0 ch j:=⟨_,rfl⟩
   obtain⟨d2,hd2⟩:∃d2,d2=Yb n x.2:=⟨_,rfl⟩
   rw[<-hd1,<-hd2] at HS hle
   rw[<-hd1]
   rw[<-hd2] at HCA
   have hw1:IntKind.i64.wrap ((d1:Int)+d2)=(d1:Int)+d2:=IntWalk.i64_in _ (by omega)
   clear hkr hgc hx hxm hd1 hd2 hdd
   go_wp2_with fail
   refine HCA.out.mono ?_
   rintro e w7 ⟨rfl,hX7⟩
   have HB7:=Lib.hid (HB.out.trans (hX7.mono HB.out.size))
   clear hX7
   go_wp2_with fail
   exact⟨⟨j+1,by go_num,by omega,by rw[HS.out];rfl,HB7⟩,by simp[intOf];omega⟩
  ·obtain rfl:j=nk:=by omega
   have HA:=Lib.hid (Jna n k0 ch)
   rw[<-HH.out.1] at HA
   rw[HA.out]
   go_wp2_with fail
   go_ret
   exact⟨rfl,HB.out⟩
theorem Jha:∀n,Jqu n
 |0=>fun f w v hm hs hp hd=>by
  have key:∀ {pa:Int} {pg ps:Nat} {ld:Bool} {l1:Option Addr} {m1 c1:Nat},Jq w v.b v.kn.isSome pa pg ps ld (.slice l1 m1 c1) (.slice none 0 0) (.slice none 0 0) (.slice none 0 0)->Calls Tryz.prog 47 #[.pointer (some ⟨v.b,0,none⟩)] w fun e w'=>e=.returned (.int .i64 (Yb 0 v))/\Below w.heap.size w w':=fun {pa pg ps ld l1 m1 c1} h=>by
   have h1:=JcL 0 f [] (Or.inr rfl) w h rfl (World.ownsRow_nil _ _ _ _) (fun x hx=>by simp at hx) (by simp) _ rfl (by simp only[Jaw];split<;>omega)
   have e:(if v.kn.isSome=true then 0 else 1)+Yf (Yb 0) []=Yb 0 v:=by
    unfold Yb
    cases v.kn<;>rfl
   rw[e] at h1
   exact h1
  rcases hm.2 with q|q
  ·obtain⟨hl,pa,pg,ps,a,c,h1,h2,h3⟩:=q
   exact key h1
  ·obtain⟨hl,p,h1,h2⟩:=q
   have h2':Jq w v.b v.kn.isSome p.a p.g p.s false (.slice none 0 0) (.slice none 0 0) (.slice none 0 0) (.slice none 0 0):=by rw[h1];exact h2
   exact key h2'
 |n+1=>fun f w v hm hs hp hd=>by
  have hsum:=JoB hs
  rcases hm.2 with⟨q,qk⟩|⟨q,qk⟩
  ·obtain⟨hl,pa,pg,ps,a1,c1,a2,c2,a3,c3,h1,h2,h3,h4⟩:=q
   have hch:v.ch.length<=2000:=by
    have hp':=hp
    rw[JP] at hp'
    have h5:1<=2^(n+1):=Nat.one_le_two_pow
    have h6:JM v.ch.length<=JM v.ch.length*2^(n+1):=Nat.le_mul_of_pos_right _ h5
    unfold JM at h6 hp'
    omega
   have h4':Xu w (.slice a3 v.ch.length c3) (v.ch.map fun x=>x.2.b):=h4
   have h:=JcL n f v.ch (Or.inl (Jha n)) w h1 rfl h4' (fun x hx=>⟨qk x hx,hs.2 x hx,Jai hp hx⟩) hch _ rfl (by rw[<-hsum];exact hd)
   rw[<-hsum] at h
   exact h
  ·obtain⟨hl,p,h1,h2⟩:=q
   have h:=JcL n f [] (Or.inr rfl) w h2 rfl (World.ownsRow_nil _ _ _ _) (fun x hx=>by simp at hx) (by simp) 0 rfl (by simp[Yf])
   rw[JeD h1]
   exact h
theorem JqU {K:Kx} {n:Nat} {v:Vt} {T:Tx} (w:World) (t:Y2 K n w v T) (hd:Yb n v<=1000000):
  Calls Tryz.prog 21 #[.pointer (some ⟨K.tb,0,none⟩)] w fun e w'=>e=.returned (.int .i64 (Yb n v))/\Below w.heap.size w w':=by
 have HC:=Lib.hid (Jha n K.f w v t.m t.sh (Nat.le_trans (Nat.le_trans (Nat.le_add_right _ _) t.pot) (by omega)) hd)
 have c4:=t.c.tr.c4
 obtain⟨tb,htb⟩:∃tb,tb=K.tb:=⟨_,rfl⟩
 rw[<-htb] at c4⊢
 clear t hd htb
 obtain⟨d,hd⟩:∃d,d=Yb n v:=⟨_,rfl⟩
 rw[<-hd] at HC⊢
 clear hd
 go_enter Tryz.func21,Tryz.ntmps21
 go_wp2_with fail
 refine HC.out.mono ?_
 rintro e w1 ⟨rfl,hX⟩
 go_wp2_with fail
 go_ret
 exact⟨rfl,hX⟩
end Go.Proofs.YtafciefjlkdecaaGreat
namespace Go.Proofs.YtafciefjlkdecaaGreat
open Go.RowKit
structure Aft (w w':World):Prop where
 size:w.heap.size<=w'.heap.size
 row:∀ {E:TypeId} {x:Nat} {cur:List Value},E≠110->E≠27->E≠108->E≠3->Jc w E x cur->Jc w' E x cur
 sl:∀ {v:Value} {l:List Ent},SlE w v l->SlE w' v l
section
variable {G:Nat} {K K1 K2:Kx} {n n1 n2:Nat} {w w0 w1 w':World} {v v1 v2:Vt} {T T1 T2:Tx} {u:Upd} {j j1 j2:Nat} {m m1 m2:List Ent}
theorem Yp.aft_of (s:Yp G K n w v T w0 j m) (hk:Jg (fun x=>Own K T x\/x∈blocks n v\/x=K.mb) w w'):Aft w w':=by
 have c:=s.inv.st.ok.c
 have mm:=s.inv.st.ok.m
 refine⟨hk.size,fun {E x cur} h1 h2 h3 h4 hr=>hk.row hr fun q=> ?_,fun hs=>hs.keep hk fun b q=> ?_⟩
 ·rcases q with(q|q|q)|q|q
  ·have q':x=K.tb:=q
   rw[q'] at hr
   exact h1 (hr.one c.tr.row).1
  ·have q':x=K.sb:=q
   rw[q'] at hr
   exact h2 (hr.one c.sh.row).1
  ·obtain⟨cu,hcu⟩:=Jt c.gn.own x q
   exact h4 (hr.one hcu).1
  ·obtain⟨cu,hcu⟩:=mm.cells x q
   exact h3 (hr.one hcu).1
  ·rw[q] at hr
   exact c.sh.noMap hr
 ·rcases q with q|q|q
  ·exact(c.soft b q).1.str
  ·exact(mm.lt b q).1.str
  ·rw[q];exact c.sh.softMap.str
theorem Yp.aft_ap {u:Upd} {g:List Int} {l:List Nat} (s:Yp G K n w v T w0 j m) (a:AP K n w v T u n1 w1 v1 T1 g l):Aft w w1:=s.aft_of (a.keep.mono fun x q=>by
 rcases q with q|q
 ·exact Or.inl q
 ·exact Or.inr (Or.inl q))
theorem Yp.aft_look (s:Yp G K n w v T w0 j m) (hk:Jg (fun x=>x=K.sb) w w'):Aft w w':=s.aft_of (hk.mono fun _ q=>Or.inl (Or.inr (Or.inl q)))
theorem Yp.aft_cm (s:Yp G K n w v T w0 j m) {p:Pt} {nb:Nat} (c:Jmc K n w v T w' p nb):Aft w w':=s.aft_of (c.keep.mono fun x q=>by
 rcases q with q|q|q
 ·exact Or.inl (Or.inr (Or.inl q))
 ·exact Or.inr (Or.inr q)
 ·exact Or.inl (Or.inl q))
def L1 (G tb sb:Nat) (w0:World) (j:Nat) (m:List Ent) (w:World):Prop:=∃K n v T,Yp G K n w v T w0 j m/\K.tb=tb/\K.sb=sb
def L2 (Q:Nat->Vt->Prop) (G tb tb2 sb:Nat) (w0:World) (j1:Nat) (m1:List Ent) (j2:Nat) (m2:List Ent) (w:World):Prop:=∃K1 n1 v1 T1 K2 n2 v2 T2,JrB G w0 w K1 n1 v1 T1 j1 m1 K2 n2 v2 T2 j2 m2/\K1.tb=tb/\K2.tb=tb2/\K1.sb=sb/\Q n2 v2
variable {tb tb2 sb:Nat} {Q:Nat->Vt->Prop}
theorem L1.below (h:L1 G tb sb w0 j m w):Below w0.heap.size w0 w:=by
 obtain⟨K,n,v,T,h1,h2⟩:=h
 exact h1.below
theorem L1.rise (h:L1 G tb sb w0 j m w):Je Ent.key m/\m.length<=j:=by
 obtain⟨K,n,v,T,h1,h2⟩:=h
 exact⟨h1.rise,h1.len⟩
end
end Go.Proofs.YtafciefjlkdecaaGreat
namespace Go.Proofs.YtafciefjlkdecaaGreat
open Go.RowKit Go.Shelf Go.Sort
def JhB:Go.Shelf.Ren:=⟨fun|35=>52|n=>n,fun|22=>101|23=>39|0=>0|3=>3|4=>4|n=>n,fun|n=>n⟩
theorem Jc6:Go.Proofs.SlLaysE0.n35 Tryz.prog JhB:= {
 mixed:=(by kernel_rfl),
 f35:=⟨Tryz.f52.name,by decide,Tryz.func52.trans (congrArg some (by kernel_rfl))⟩,
 t0:=Tryz.underlying0,
 a0:=Tryz.isAgg0,
 z0:=Tryz.sizeOf0,
 v0:=Tryz.zeroValue0,
 t3:=Tryz.underlying3,
 a3:=Tryz.isAgg3,
 z3:=Tryz.sizeOf3,
 v3:=Tryz.zeroValue3,
 t4:=Tryz.underlying4,
 a4:=Tryz.isAgg4,
 z4:=Tryz.sizeOf4,
 v4:=Tryz.zeroValue4,
 t22:=Tryz.underlying101,
 a22:=Tryz.isAgg101,
 z22:=Tryz.sizeOf101,
 v22:=Tryz.zeroValue101}
instance inhUpdG:Inhabited Upd:=⟨⟨0,[],[],0⟩⟩
theorem JjO (ul:List Upd) (t:Nat) (h:t<ul.length*4):(cellsU ul)[t]? =some (Upd.cells ul.toArray[t/4]!)[t% 4]! :=by
 have h1:t/4<ul.length:=by omega
 have h2:t% 4<4:=Nat.mod_lt _ (by omega)
 have h3:=Xo ul (t/4) h1 (t% 4) _ (List.getElem?_eq_getElem (l:=Upd.cells ul[t/4]) (i:=t% 4) (by simpa[Upd.cells] using h2))
 have e:t/4*4+t% 4=t:=by omega
 rw[e] at h3
 rw[h3]
 have e2:ul.toArray[t/4]! =ul[t/4]:=by simp[h1]
 rw[e2,getElem!_pos _ _ (by simpa[Upd.cells] using h2)]
theorem JnS {B n c:Nat} {a:Option Addr} {ul:List Upd} (w:World) (h:w.ownsRow B 39 4 (.slice a n c) n (cellsU ul)) (hn:n=ul.length) (hl:ul.length<=100000):
  Calls Tryz.prog 52 #[.slice a n c] w fun e w'=>e=.returned (.tuple #[])/\JC Upd.cells 4 w' a ul.reverse/\Jg (fun x=>(Value.slice a n c).ownBlock=some x) w w':=by
 rcases Nat.eq_zero_or_pos ul.length with h0|h0
 ·have hu:ul=[]:=List.eq_nil_of_length_eq_zero h0
  subst hu
  obtain rfl:n=0:=hn
  refine(AnyQ.slices_Reverse_empty Jc6 a c w).mono ?_
  rintro e w' ⟨rfl,rfl⟩
  exact⟨rfl,Or.inl rfl,Jg.refl _ _⟩
 ·obtain⟨g,rfl,-,-,hc⟩:=Yk h (by omega)
  obtain⟨cu,hcu⟩:=Jt h g rfl
  have hH:HoldsK Upd.cells 4 w g 0 ul.toArray:=fun j hj=>by
   have hj':j<ul.length*4:=by simpa using hj
   refine⟨?_,hcu.frozen _⟩
   rw[Nat.zero_add,get_flatK _ _ _ _ (by simpa using hj')]
   exact hc j _ (JjO ul j hj')
  have hs:=AnyQ.slices_Reverse (α:=Upd) Jc6 4 (fun w=>Tryz.isAgg39 w) (fun w=>Tryz.sizeOf39 w) Upd.cells (fun _=>rfl) (fun x v hv=>by simp[Upd.cells] at hv;rcases hv with rfl|rfl|rfl|rfl<;>rfl) g 0 c ul.toArray w hH (by simp;omega)
  rw[List.size_toArray,<-hn] at hs
  refine hs.mono ?_
  rintro e w' ⟨rfl,m,rfl⟩
  have hH':HoldsK Upd.cells 4 (putRowK Upd.cells 4 (Sort.ahead w m) g 0 ul.toArray.reverse) g 0 ul.toArray.reverse:=holdsK_putRowK Upd.cells 4 _ _ _ ul.toArray _ (holdsK_ahead Upd.cells 4 w m g 0 _ hH) (by simp)
  refine⟨rfl,Or.inr ⟨g,0,rfl,?_,fun i hi j x hx=> ?_⟩,?_⟩
  ·show g<(putRow id (Sort.ahead w m) g 0 _).heap.size
   rw[size_putRow]
   exact hcu.lt
  ·have hi':i<ul.toArray.reverse.size:=by simpa using hi
   have h1:=HoldsK.cells hH' (fun _=>rfl) hi' j x (by
    rw[getElem!_pos ul.toArray.reverse i hi']
    have e:ul.toArray.reverse[i]=ul.reverse[i]:=by simp
    rw[e]
    exact hx)
   rw[Addr.add_lit] at h1
   exact h1
  ·have hg:w.grownBy (putRow id (Sort.ahead w m) g 0 (flatK Upd.cells 4 ul.toArray.reverse)) (some g):=⟨rfl,rfl,rfl,by rw[size_putRow];exact Nat.le_refl _,fun k _ hk=>by
    unfold putRow mapBlock
    show(w.heap.modify g _)[k]? =w.heap[k]?
    rw[Array.getElem?_modify,if_neg fun e=>hk (by rw[e])]⟩
   exact(Jg.refl _ w).grown hg fun k e=>Or.inl e
open Go.RowKit
def Jmj (ul:List Upd) (x:Option (List UInt8)):Option (List UInt8):=ul.foldr Xs x
theorem Jmi (ul:List Upd) (u:Upd) (x:Option (List UInt8)):Jmj (ul++[u]) x=Jmj ul (Xs u x):=by unfold Jmj;rw[List.foldr_append];rfl
theorem Jpu (o:Option (List UInt8)) (u:Upd) (h:Tm u):onL (o.getD []) o.isSome u=((Xs u o).getD [],(Xs u o).isSome):=by
 have hc:=h.check
 have key:∀r:List UInt8×Bool,(r.2=false->r.1=[])->r=((if r.2 then some r.1 else none).getD [],(if r.2 then some r.1 else none:Option (List UInt8)).isSome):=fun r hr=>by
  obtain⟨a,b⟩:=r
  cases b with
  |true=>rfl
  |false=>rw[show a=[] from hr rfl];rfl
 have hn:∀(v:List UInt8) (t:Bool),(onL v t u).2=false->(onL v t u).1=[]:=fun v t=>by
  unfold onL
  rcases h.kind with q|q|q
  ·rw[if_pos q];simp
  ·rw[if_neg (by omega),if_pos q];simp
  ·rw[if_neg (by omega),if_neg (by omega),if_pos q]
   split
   ·simp
   ·split<;>simp
 unfold Xs
 rw[if_neg (by simp[hc])]
 cases o with
 |none=>exact key _ (hn [] false)
 |some v=>exact key _ (hn v true)
theorem Jfm:∀(l:List Upd) (o:Option (List UInt8)),(∀u∈l,Tm u)->YP (o.getD []) o.isSome l=((l.foldl (fun x u=>Xs u x) o).getD [],(l.foldl (fun x u=>Xs u x) o).isSome)
 |[],_,_=>rfl
 |u::l,o,h=>by
  have h1:YP (o.getD []) o.isSome (u::l)=YP (onL (o.getD []) o.isSome u).1 (onL (o.getD []) o.isSome u).2 l:=rfl
  rw[h1,Jpu o u (h u (by simp))]
  exact Jfm l (Xs u o) fun x hx=>h x (List.mem_cons_of_mem _ hx)
theorem Jny (ul:List Upd) (x:Option (List UInt8)):ul.reverse.foldl (fun x u=>Xs u x) x=Jmj ul x:=by
 rw[List.foldl_reverse]
 rfl
theorem Jht (o:Option (List UInt8)):Jcg o=.tuple #[.string (S (o.getD [])),.bool o.isSome]:=by cases o<;>rfl
theorem JkC (x:Chd×Vt) (r:List (Chd×Vt)) (q:List UInt8) (h:∀y,r[0]? =some y->bl q (lw y)=true):JaU (x::r) q=some x.2:=by
 cases r with
 |nil=>rfl
 |cons y r=>rw[Z9,if_pos (h y rfl)]
theorem Jn0 {ch:List (Chd×Vt)} (hk:Ja8 (ch.map Prod.fst)) {q:List UInt8} {i:Nat} (hb:Bel (ch.map Prod.fst) q i) (hi:i<ch.length):JaU ch q=some ch[i].2:=by
 have hlow:∀j (hj:j<ch.length),Y8 (ch.map Prod.fst) j=lw ch[j]:=fun j hj=>by
  rw[JaE (by rw[List.length_map];exact hj),List.getElem_map]
 have e:ch=ch.take i++ch[i]::ch.drop (i+1):=by
  have:=List.take_append_drop i ch
  rw[List.drop_eq_getElem_cons hi] at this
  exact this.symm
 have hd:JaU (ch[i]::ch.drop (i+1)) q=some ch[i].2:=JkC _ _ _ fun y hy=>by
  rw[List.getElem?_drop] at hy
  have hj:i+1<ch.length:=by
   have:=(List.getElem?_eq_some_iff.1 hy).1
   simpa using this
  have h1:=hb.up (i+1) (by omega) (by rw[List.length_map];exact hj)
  rw[hlow (i+1) hj] at h1
  rw[Nat.add_zero,List.getElem?_eq_getElem hj] at hy
  rw[<-Option.some.inj hy]
  exact h1
 have hno:=hb.no
 rw[hlow i hi] at hno
 cases i with
 |zero=>
  conv=>lhs;rw[e]
  exact hd
 |succ i=>
  conv=>lhs;rw[e]
  rw[Jbx _ _ _ _ (fun h=>by have:=congrArg List.length h;rw[List.length_take,List.length_nil] at this;omega) (fun a ha=> ?_),hno]
  ·exact hd
  ·obtain⟨j,hj,rfl⟩:=List.getElem_of_mem ha
   rw[List.length_take] at hj
   rw[List.getElem_take]
   have h1:=hk.rise j (i+1) (by omega) (by rw[List.length_map];exact hi)
   rw[hlow j (by omega),hlow (i+1) hi] at h1
   exact h1
def Jbf (K:Kx) (w0 w:World) (i vb:Nat) (x:Vt):Prop:=(x.ld=true/\vb=x.b/\Mem w0 i x)\/(∃p,x.kn=some p/\Jcs w vb ⟨[],p.a,p.g,p.s⟩/\vb≠K.sb/\match i with|0=>True|i+1=>∀y∈x.ch,Dsk i y.2)
theorem Jbf.of_mem {K:Kx} {root h:Nat} {T:Tx} {w0 w:World} (c:CAt w0 K root h T) (hk:Jg (fun x=>x=K.sb) w0 w) {i:Nat} {x:Vt} (hm:Mem w0 i x):Jbf K w0 w i x.b x:=by
 cases hl:x.ld with
 |true=>exact Or.inl ⟨hl,rfl,hm⟩
 |false=>
  have hne:x.b≠K.sb:=fun e=>by
   obtain⟨cur,hc⟩:=hm.cells x.b hm.head
   rw[e] at hc
   exact absurd (hc.one c.sh.row).1 (by decide)
  cases i with
  |zero=>
   obtain⟨p,h1,h2⟩:=(hm.far0 hl).ex
   exact Or.inr ⟨p,h1,hk.vx h2 hne,hne,trivial⟩
  |succ i=>
   obtain⟨hf,hd⟩:=hm.far hl
   obtain⟨p,h1,h2⟩:=hf.ex
   exact Or.inr ⟨p,h1,hk.vx h2 hne,hne,hd⟩
theorem JkU {K:Kx} {root h:Nat} {T:Tx} {w0 w:World} (c:CAt w0 K root h T) (hk:Jg (fun x=>x=K.sb) w0 w) {i:Nat} {x:Vt} (hm:Mem w0 i x):Mem w i x:=
 hm.keep hk (fun b e=>by rw[show b=K.sb from e];exact(c.soft K.sb (Or.inr (Or.inl rfl))).1) fun b hb e=>by
  obtain⟨cur,hc⟩:=hm.cells b hb
  rw[show b=K.sb from e] at hc
  exact absurd (hc.one c.sh.row).1 (by decide)
structure Jrw (K:Kx) (root h:Nat) (T:Tx) (w w2:World):Prop where
 st:∃wr',wr'<=T.wr/\CAt w2 K root h {T with wr:=wr'}
 keep:Jg (fun x=>x=K.sb) w w2
theorem Jg.sb_of {K:Kx} {B:Nat} {w0 w w2 w':World} (hk:Jg (fun x=>x=K.sb) w0 w) (hk2:Jg (fun x=>x=K.sb) w w2) (hk3:Jg (fun b=>w0.heap.size<=b/\b<B) w2 w'):Jg (fun x=>x=K.sb) w0 w':=(hk.trans' hk2).trans hk3 fun _ hb=>Or.inr hb.1
section
variable {K:Kx} {root h:Nat} {T:Tx} {w0 w:World} {vb:Nat} {x:Vt} {lo hi:List UInt8}
theorem JpR (c0:CAt w0 K root h T) {wr':Nat} (c:CAt w K root h {T with wr:=wr'}) (hk:Jg (fun x=>x=K.sb) w0 w) (hc:Jbf K w0 w 0 vb x) (ho:Ok 0 lo hi x) (hs:Shf K.f 0 x) (hN:Jd0 K.f) (hp:pot 0 x<=1000) (hwr:wr'<=1000):
  Calls Tryz.prog 50 #[.pointer (some ⟨K.tb,0,none⟩),.pointer (some ⟨vb,0,none⟩),.int .i64 1] w fun e w2=>Jrw K root h {T with wr:=wr'} w w2/\((e=.returned (.tuple #[.pointer none,.bool false,.int .i64 10])/\0<wr')\/∃ob fl kn pa pg ps a c,e=.returned (.tuple #[.pointer (some ⟨ob,0,none⟩),.bool fl,.int .i64 0])/\Jq w2 ob kn pa pg ps true (.slice a x.es.length c) (.slice none 0 0) (.slice none 0 0) (.slice none 0 0)/\Zq w2 (.agg #[.slice a x.es.length c]) x.es):=by
 rcases hc with⟨hl,rfl,hm⟩|⟨p,hkn,hv,hne,-⟩
 ·obtain⟨-,pa,pg,ps,a,y,h1,-,h3⟩:=(JkU c0 hk hm).leaf hl
  refine(JbF _ 1 w h1).mono ?_
  rintro e w2 ⟨rfl,hb⟩
  exact⟨⟨⟨wr',Nat.le_refl _,c.on hb⟩,Jg.of_below hb⟩,Or.inr ⟨_,_,_,pa,pg,ps,a,y,rfl,h1.on hb,h3.kept hb (Nat.le_refl _)⟩⟩
 ·have hvb:∀w2,Jg (fun x=>x=K.sb) w w2->Jcs w2 vb ⟨[],p.a,p.g,p.s⟩:=fun w2 hk2=>hk2.vx hv hne
  have hf:=hs p hkn
  by_cases hw1:wr'=1
  ·refine(JcI 0 [] 10 1 w c.tr hv _ (Jfs c p _ hN hf rfl hw1) (by decide)).mono ?_
   rintro e w2 ⟨rfl,h1,h2⟩
   exact⟨⟨⟨0,Nat.zero_le _,h1⟩,h2⟩,Or.inl ⟨rfl,by omega⟩⟩
  ·have hlen:(JO x.es).length<=100000:=by
    have h1:=Jan x.es ho.fine
    have h2:=Jas hp
    omega
   refine(Jen 4 (JO x.es) 1 w c.tr hv _ (fun w2 q=>hvb w2 q.2) (Jde c p _ hN hf rfl hwr hw1) rfl rfl hlen 0 x.es (Jea ho.fine ho.rise0)).mono ?_
   rintro e w2 ⟨w3,⟨h1,h2⟩,⟨-,b',a,y,rfl,hb',hv',hbx⟩|⟨h0,-⟩,hX⟩
   ·exact⟨⟨⟨wr'-1,Nat.sub_le _ _,h1.on hX⟩,h2.on hX⟩,Or.inr ⟨_,_,_,_,_,_,a,y,rfl,hv',hbx⟩⟩
   ·exact absurd rfl h0
theorem JpQ {i:Nat} (hh:Int) (hhi:hh=(i:Int)+2) (c0:CAt w0 K root h T) {wr':Nat} (c:CAt w K root h {T with wr:=wr'}) (hk:Jg (fun x=>x=K.sb) w0 w) (hc:Jbf K w0 w (i+1) vb x) (hs:Shf K.f (i+1) x) (hN:Jd0 K.f) (hwr:wr'<=1000):
  Calls Tryz.prog 50 #[.pointer (some ⟨K.tb,0,none⟩),.pointer (some ⟨vb,0,none⟩),.int .i64 hh] w fun e w2=>Jrw K root h {T with wr:=wr'} w w2/\((e=.returned (.tuple #[.pointer none,.bool false,.int .i64 10])/\0<wr')\/∃ob fl kn pa pg ps a1 c1 a2 c2 a3 c3,∃ks:List Nat,e=.returned (.tuple #[.pointer (some ⟨ob,0,none⟩),.bool fl,.int .i64 0])/\ks.length=x.ch.length/\
   ∀w',Jg (fun b=>w0.heap.size<=b/\b<w.heap.size) w2 w'->Jq w' ob kn pa pg ps true (.slice none 0 0) (.slice a1 x.ch.length c1) (.slice a2 x.us.length c2) (.slice a3 x.ch.length c3)/\JA w' (.agg #[.slice a1 x.ch.length c1,.slice a2 x.us.length c2]) x.cs x.us/\w'.ownsRow 0 97 1 (.slice a3 x.ch.length c3) x.ch.length (ks.map vp)/\∀j (hj:j<x.ch.length) kb,ks[j]? =some kb->Jbf K w0 w' i kb x.ch[j].2):=by
 rcases hc with⟨hl,rfl,hm⟩|⟨p,hkn,hv,hne,hdsk⟩
 ·obtain⟨⟨-,pa,pg,ps,a1,y1,a2,y2,a3,y3,h1,-⟩,-⟩:=(JkU c0 hk hm).node hl
  refine(JbF _ hh w h1).mono ?_
  rintro e w2 ⟨rfl,hb⟩
  refine⟨⟨⟨wr',Nat.le_refl _,c.on hb⟩,Jg.of_below hb⟩,Or.inr ⟨x.b,false,x.kn.isSome,pa,pg,ps,a1,y1,a2,y2,a3,y3,x.ch.map fun y=>y.2.b,rfl,by rw[List.length_map],fun w' hw'=> ?_⟩⟩
  have hk':Jg (fun x=>x=K.sb) w0 w':=Jg.sb_of hk (Jg.of_below hb) hw'
  obtain⟨⟨-,pa',pg',ps',a1',y1',a2',y2',a3',y3',h1',h2',h3',h4'⟩,h5⟩:=(JkU c0 hk' hm).node hl
  have h1w:Jq w' x.b x.kn.isSome pa pg ps true (.slice none 0 0) (.slice a1 x.ch.length y1) (.slice a2 x.us.length y2) (.slice a3 x.ch.length y3):=by
   obtain⟨⟨-,qa,qg,qs,b1,z1,b2,z2,b3,z3,g1,-⟩,-⟩:=hm.node hl
   have hns:x.b≠K.sb:=fun e=>by
    obtain⟨cur,hc⟩:=hm.cells x.b hm.head
    rw[e] at hc
    exact absurd (hc.one c0.sh.row).1 (by decide)
   have e1:=Jc.one (hk.vx g1 hns).row h1.row
   have g2:=hk'.vx g1 hns
   refine⟨?_⟩
   rw[<-e1.2]
   exact g2.row
  obtain⟨-,e2⟩:=Jc.one h1w.row h1'.row
  simp only[YH,List.cons.injEq,Value.slice.injEq,Value.int.injEq,and_true,true_and] at e2
  obtain⟨-,-,-,⟨rfl,rfl⟩,⟨rfl,rfl⟩,rfl,rfl⟩:=e2
  refine⟨h1w,h3',?_,fun j hj kb hkb=> ?_⟩
  ·have h6:w'.ownsRow 0 97 1 (.slice a3 x.ch.length y3) (x.ch.map fun y=>y.2.b).length ((x.ch.map fun y=>y.2.b).map vp):=h4'
   rw[List.length_map] at h6
   exact h6
  ·rw[List.getElem?_map,List.getElem?_eq_getElem hj] at hkb
   obtain rfl:=Option.some.inj hkb
   exact Jbf.of_mem c0 hk' ((hm.node hl).2 _ (List.getElem_mem hj))
 ·have hvb:∀w2,Jg (fun x=>x=K.sb) w w2->Jcs w2 vb ⟨[],p.a,p.g,p.s⟩:=fun w2 hk2=>hk2.vx hv hne
  obtain⟨hf,hok,hkk⟩:=hs.1 p hkn
  by_cases hw1:wr'=1
  ·refine(JcI 0 [] 10 hh w c.tr hv _ (Jfs c p _ hN hf rfl hw1) (by decide)).mono ?_
   rintro e w2 ⟨rfl,h1,h2⟩
   exact⟨⟨⟨0,Nat.zero_le _,h1⟩,h2⟩,Or.inl ⟨rfl,by omega⟩⟩
  ·refine(Jem 5 (Yl x.cs x.us) hh w c.tr hv _ (fun w2 q=>hvb w2 q.2) (Jde c p _ hN hf rfl hwr hw1) rfl (by omega) (by have:=Jgt hok;omega)).mono ?_
   rintro e w2 ⟨w3,⟨h1,h2⟩,⟨N,ob,cs,us,ks,a1,c1,a2,c2,a3,c3,hNw,hG,hnd,hob⟩|⟨hno,-⟩,hX⟩
   ·obtain⟨rfl,rfl⟩:=Jgu hG.ok hok hG.text
    have hcl:x.cs.length=x.ch.length:=List.length_map _
    have hz:=h2.size
    have hnew:=hG.new
    refine⟨⟨⟨wr'-1,Nat.sub_le _ _,h1.on hX⟩,h2.on hX⟩,Or.inr ⟨ob,true,true,p.a,p.g,p.s,a1,c1,a2,c2,a3,c3,ks,hG.ret,by rw[hG.len,hcl],fun w' hw'=> ?_⟩⟩
    have hM:∀b,w.heap.size<=b->¬(w0.heap.size<=b/\b<w.heap.size):=fun b hb q=>by omega
    have hvx:=hw'.vx hG.vx (hM ob (by omega))
    have hr3:=YK hG.row hw' fun g e=>hM g (by have:=(hG.row.lt g e).1;omega)
    have hr1:=YK hG.rowC hw' fun g e=>hM g (by have:=(hG.rowC.lt g e).1;omega)
    have hr2:=YK hG.rowU hw' fun g e=>hM g (by have:=(hG.rowU.lt g e).1;omega)
    have hnd':=JA.mk' (JaR hr1).2 (Jc2 hr2).2
    rw[hcl] at hvx hr3 hnd'
    refine⟨hvx,hnd',JI hr3 (Nat.zero_le _),fun j hj kb hkb=> ?_⟩
    have hj':j<x.cs.length:=by rw[hcl];exact hj
    obtain⟨b',k1,k2,k3⟩:=hG.kid j (x.cs[j]) (List.getElem?_eq_getElem hj')
    rw[hkb] at k1
    obtain rfl:=Option.some.inj k1
    have hy:=List.getElem_mem hj
    have hkc:=hkk _ hy
    have ec:x.cs[j]=x.ch[j].1:=List.getElem_map _
    rw[ec] at k2
    have hsl:=c.sh.row.lt
    refine Or.inr ⟨_,hkc,hw'.vx k2 (hM kb (by omega)),by omega,?_⟩
    have hd:=hdsk _ hy
    cases i with
    |zero=>trivial
    |succ i=>exact hd.2
   ·exact absurd rfl (hno x.cs x.us hok)
end
open Go.RowKit
attribute [local go_sem ↓] Go.wp_at_zero Go.wp_at_succ
theorem CAt.over {K:Kx} {root h:Nat} {T:Tx} {w0 w w':World} {M:Nat->Prop} (c0:CAt w0 K root h T) {wr':Nat} (c:CAt w K root h {T with wr:=wr'}) (hk:Jg M w w') (hM:∀x,M x->w0.heap.size<=x):CAt w' K root h {T with wr:=wr'}:=by
 have hn:∀x,x<w0.heap.size->¬M x:=fun x hl hx=>by have:=hM x hx;omega
 exact⟨⟨hk.row c.tr.row (hn _ c0.tr.lt)⟩,c.gn.keep hk (fun x e=>hn x (c0.gn.soft x e).2),c.sh.keep hk (hn _ c0.sh.row.lt) (hn _ c0.sh.map.lt)⟩
theorem Jbf.on {K:Kx} {w0 w w':World} {i vb:Nat} {x:Vt} (h:Jbf K w0 w i vb x) (hb:Below w.heap.size w w'):Jbf K w0 w' i vb x:=
 h.imp id fun⟨p,h1,h2,h3,h4⟩=>⟨p,h1,h2.on hb,h3,h4⟩
structure GtI (K:Kx) (root h:Nat) (T:Tx) (w0:World) (n:Nat) (v:Vt) (k:List UInt8) (ul:List Upd) (vb i:Nat) (w:World):Prop where
 ex:∃x L R wr',wr'<=T.wr/\CAt w K root h {T with wr:=wr'}/\Jbf K w0 w i vb x/\Ok i L R x/\Shf K.f i x/\pot i x<=800/\Jmj ul (den i x k)=den n v k
 keep:Jg (fun x=>x=K.sb) w0 w
 tm:∀u∈ul,Tm u
def Jo7 (K:Kx) (n:Nat) (w:World) (v:Vt) (T:Tx) (k:List UInt8) (e:Ending) (w':World):Prop:=
 ∃wr',wr'<=T.wr/\Y2 K n w' v {T with wr:=wr'}/\Jg (fun x=>x=K.sb) w w'/\((e=.returned (.tuple #[.string ⟨#[]⟩,.bool false,.int .i64 0,.int .i64 10])/\0<T.wr)\/∃lo:Nat,lo<=n+1/\e=.returned (.tuple #[.string (S ((den n v k).getD [])),.bool (den n v k).isSome,.int .i64 lo,.int .i64 0]))
theorem Y2.get_out {K:Kx} {n:Nat} {w w':World} {v:Vt} {T:Tx} {k:List UInt8} {e:Ending} (t:Y2 K n w v T) {wr':Nat} (hw:wr'<=T.wr) (c:CAt w' K v.b (n+1) {T with wr:=wr'}) (hk:Jg (fun x=>x=K.sb) w w') (h:(e=.returned (.tuple #[.string ⟨#[]⟩,.bool false,.int .i64 0,.int .i64 10])/\0<T.wr)\/∃lo:Nat,lo<=n+1/\e=.returned (.tuple #[.string (S ((den n v k).getD [])),.bool (den n v k).isSome,.int .i64 lo,.int .i64 0])):Jo7 K n w v T k e w':=
 ⟨wr',hw,t.load hw c hk,hk,h⟩
theorem JpU {ul:List Upd} {x:Vt} {k:List UInt8} {D:Option (List UInt8)} (h:Jmj ul (den 0 x k)=D) (ht:∀u∈ul,Tm u) {L R:List UInt8} (ho:Ok 0 L R x):∃(sv:List UInt8) (bv:Bool),Jcg (Jz x.es k)=.tuple #[.string (S sv),.bool bv]/\sv.length<=20/\(YP (if bv then sv else[]) bv ul.reverse).1=D.getD []/\(YP (if bv then sv else[]) bv ul.reverse).2=D.isSome:=by
 refine⟨(Jz x.es k).getD [],(Jz x.es k).isSome,Jht _,?_,?_⟩
 ·cases hl:Jz x.es k with
  |none=>simp
  |some y=>exact(ho.ent _ (Zy hl)).vlen
 ·have e:(if(Jz x.es k).isSome then(Jz x.es k).getD [] else[])=(Jz x.es k).getD []:=by cases Jz x.es k<;>rfl
  rw[e,Jfm _ _ fun u hu=>ht u (List.mem_reverse.1 hu),Jny,<-h]
  exact⟨rfl,rfl⟩
theorem JrA {K:Kx} {n:Nat} {v:Vt} {T:Tx} (k:List UInt8) (w:World) (t:Y2 K n w v T) (hN:Jd0 K.f):
  Calls Tryz.prog 25 #[.pointer (some ⟨K.tb,0,none⟩),.string (S k)] w fun e w'=>Jo7 K n w v T k e w':=by
 obtain⟨i0,hi,iz0,iz1,iz2⟩:=info_parts JqN
 have hn8:=t.n8
 have c4:=t.c.tr.c4
 have c5:=t.c.tr.c5
 have HT:=Lib.hid t
 have hI0:GtI K v.b (n+1) T w n v k [] v.b n w:=⟨⟨v,[],[],T.wr,Nat.le_refl _,t.c,Jbf.of_mem t.c (Jg.refl _ w) t.m,t.ok,t.sh,Nat.le_trans (Nat.le_add_right (pot n v) (2^(n+1))) t.pot,rfl⟩,Jg.refl _ w,fun u hu=>by simp at hu⟩
 have HI0:=Lib.hid hI0
 obtain⟨tb,htb⟩:∃tb,tb=K.tb:=⟨_,rfl⟩
 rw[<-htb] at c4 c5⊢
 have HTB:=Lib.hid htb
 clear t hI0 htb
 go_enter Tryz.func25,Tryz.ntmps25
 go_wp2_with fail
 go_loopw [8,9,10,11] (fun s8 s9 s10 s11 wr=>∃(ul:List Upd) (ua:Option Addr) (uc lo vb h:Nat),s8=.slice ua ul.length uc/\s9=.int .i64 lo/\s10=.pointer (some ⟨vb,0,none⟩)/\s11=.int .i64 h/\1<=h/\ul.length+h<=n+1/\lo+h<=n+1/\w.heap.size<=wr.heap.size/\Hid (wr.ownsRow w.heap.size 39 4 (.slice ua ul.length uc) ul.length (cellsU ul))/\Hid (GtI K v.b (n+1) T w n v k ul vb (h-1) wr)) (fun _ _ _ s11 _=>(intOf s11).toNat)
 case atStart=>exact⟨[],none,0,0,v.b,n+1,rfl,rfl,rfl,by first|rfl|go_num,by omega,by simp,by simp,by simp,Lib.hid (World.ownsRow_nil _ _ _ _),HI0⟩
 case round=>
  obtain⟨ul,ua,uc,lo,vb,h,rfl,rfl,rfl,rfl,hh1,hh2,hh3,hz,HU,HI⟩:=hrel
  obtain⟨⟨x,L,R,wr',hwr,hc,hcur,hok,hsh,hpt,hden⟩,hkp,htm⟩:=HI.out
  have HK:=Lib.hid hkp
  have HTM:=Lib.hid htm
  have HW:=Lib.hid hwr
  have hwrk:wr'<=1000:=Nat.le_trans hwr HT.out.wr
  by_cases he1:h=1
  ·subst he1
   have HD:=Lib.hid (JpU hden htm hok)
   have HR:=Lib.hid hok.rise0
   have hesl:=Jas hpt
   have HF:=Lib.hid (JpR HT.out.c hc hkp hcur hok hsh hN (Nat.le_trans hpt (by decide)) hwrk)
   rw[<-HTB.out] at HF
   clear hc hcur hok hsh hpt hden hkp htm hwr hwrk HI
   go_wp2_with fail
   refine HF.out.mono ?_
   rintro e w2 ⟨⟨⟨wr2,hw2,hc2⟩,hk2⟩,⟨rfl,h0⟩|⟨ob,fl,kn,pa,pg,ps,a,c,rfl,hv2,hb2⟩⟩
   ·have HO:=Lib.hid (HT.out.get_out (k:=k) (Nat.le_trans hw2 HW.out) hc2 (HK.out.trans' hk2) (Or.inl ⟨rfl,Nat.lt_of_lt_of_le h0 HW.out⟩))
    clear hc2 hk2 h0 hw2
    go_wp2_with fail
    go_returns
    exact HO.out
   ·have v5:=hv2.c5
    have HC2:=Lib.hid (And.intro hw2 (And.intro hc2 hk2))
    have HB2:=Lib.hid hb2
    have HU2:=Lib.hid (YK HU.out hk2 fun g e q=>by have h1:=(HU.out.lt g e).1;have h2:=HT.out.c.sh.row.lt;omega)
    have hz2:=hk2.size
    have HG:=Lib.hid (Jjx (.agg #[.slice a x.es.length c]) x.es k w2 hb2 (by omega) HR.out)
    obtain⟨sv,bv,hV,hsv,hr1,hr2⟩:=HD.out
    rw[hV] at HG
    have HR1:=Lib.hid hr1
    have HR2:=Lib.hid hr2
    clear hv2 hc2 hk2 hb2 hw2 hV hr1 hr2 HF HD HR HU
    cases fl
    all_goals
     go_wp2_with fail
     refine HG.out.mono ?_
     rintro e w3 ⟨rfl,hX3⟩
     have HU3:=Lib.hid (Ji HU2.out hX3)
     go_wp2_with fail
     refine(JnS w3 HU3.out rfl (by omega)).mono ?_
     rintro e w4 ⟨rfl,hs4,hk4⟩
     have HS4:=Lib.hid hs4
     have HK4:=Lib.hid hk4
     clear hs4 hk4
     go_wp2_with fail
     refine(JkT sv bv ua ul.length uc ul.reverse w4 (by simp) HS4.out (by simp;omega) (fun u hu=>HTM.out u (List.mem_reverse.1 hu)) hsv).mono ?_
     rintro e w5 ⟨rfl,hX5⟩
     rw[HR1.out,HR2.out]
     have HFI:=Lib.hid (show∃wr',wr'<=T.wr/\Y2 K n w5 v {T with wr:=wr'}/\Jg (fun x=>x=K.sb) w w5 from by
      obtain⟨q1,q2,q3⟩:=HC2.out
      have hM:∀y,(Value.slice ua ul.length uc).ownBlock=some y->w.heap.size<=y:=fun y e=>(HU3.out.lt y e).1
      have hc4:=HT.out.c.over (q2.on hX3) HK4.out hM
      have hk4:=((HK.out.trans' q3).on hX3).trans HK4.out fun y q=>Or.inr (hM y q)
      exact⟨wr2,Nat.le_trans q1 HW.out,HT.out.load (Nat.le_trans q1 HW.out) (hc4.on hX5) (hk4.on hX5),hk4.on hX5⟩)
     clear hX3 hX5
     go_wp2_with fail
     go_returns
     obtain⟨q,q1,q2,q3⟩:=HFI.out
     first
     |exact⟨q,q1,q2,q3,Or.inr ⟨lo,by omega,rfl⟩⟩
     |exact⟨q,q1,q2,q3,Or.inr ⟨lo+1,by omega,by simp⟩⟩
  ·have hne:((h:Int)==1)=false:=by simp;omega
   obtain⟨i,hi2⟩:∃i,h=i+2:=⟨h-2,by omega⟩
   have HH:=Lib.hid hi2
   have e1:h-1=i+1:=by omega
   rw[e1] at hcur hok hsh hpt hden
   have HF:=Lib.hid (JpQ (i:=i) (h:Int) (by rw[hi2];simp) HT.out.c hc hkp hcur hsh hN hwrk)
   rw[<-HTB.out] at HF
   have hkids:=JdM hok
   obtain⟨ix,hix,hbel⟩:=hkids.bel k
   have hxl:ix<x.ch.length:=by have:=hbel.lt;rwa[List.length_map] at this
   have hpk:=Jn0 hkids hbel hxl
   have hus:=hok.usr
   have hutm:∀u∈x.us,Tm u:=fun u hu=>(hok.2.2.1 u hu).1
   have hlen:x.us.length<=1000/\x.ch.length<=802:=by
    have:=Jcy hpt
    omega
   have HNX:=Lib.hid (show∀(w':World) (vb':Nat) (ul':List Upd),Jbf K w w' i vb' x.ch[ix].2->(∃wr2,wr2<=wr'/\CAt w' K v.b (n+1) {T with wr:=wr2})->Jg (fun x=>x=K.sb) w w'->(∀u∈ul',Tm u)->ul'=ul++(Yn x.us k).toList->GtI K v.b (n+1) T w n v k ul' vb' i w' from fun w' vb' ul' g1 ⟨wr2,g2,g3⟩ g4 g5 g6=>by
    obtain⟨lo',hi',hok',-⟩:=JbA hok ix hxl
    refine⟨⟨x.ch[ix].2,lo',hi',wr2,Nat.le_trans g2 hwr,g3,g1,hok',hsh.2 _ (List.getElem_mem hxl),Jai hpt (List.getElem_mem hxl),?_⟩,g4,g5⟩
    rw[<-hden,Yg,Zo,hpk,g6]
    cases Yn x.us k with
    |none=>rw[Option.toList_none,List.append_nil];rfl
    |some u=>exact Jmi ul u _)
   have HUS:=Lib.hid hus
   have HUT:=Lib.hid hutm
   have hgl:(Yn x.us k).toList.length<=1:=by cases Yn x.us k<;>simp
   have hgt:∀u∈(Yn x.us k).toList,Tm u:=fun u hu=>by
    cases hq:Yn x.us k with
    |none=>rw[hq] at hu;simp at hu
    |some y=>rw[hq] at hu;simp at hu;rw[hu];exact hutm y (X3 hq).1
   have HGL:=Lib.hid hgl
   have HGTM:=Lib.hid hgt
   clear hc hcur hok hsh hpt hden hkp htm hwr hwrk HI hi2 e1 hkids hbel hpk hus hutm hgl hgt
   go_wp2_with fail
   refine HF.out.mono ?_
   rintro e w2 ⟨⟨⟨wr2,hw2,hc2⟩,hk2⟩,⟨rfl,h0⟩|⟨ob,fl,kn,pa,pg,ps,a1,c1,a2,c2,a3,c3,ks,rfl,hks,hall⟩⟩
   ·have HO:=Lib.hid (HT.out.get_out (k:=k) (Nat.le_trans hw2 HW.out) hc2 (HK.out.trans' hk2) (Or.inl ⟨rfl,Nat.lt_of_lt_of_le h0 HW.out⟩))
    clear hc2 hk2 h0 hw2
    go_wp2_with fail
    go_returns
    exact HO.out
   ·have HC2:=Lib.hid (And.intro hw2 (And.intro hc2 hk2))
    have HALL:=Lib.hid hall
    obtain⟨hv2,hnd2,-,-⟩:=hall w2 (Jg.refl _ w2)
    have v7:=hv2.c7
    have HU2:=Lib.hid (YK HU.out hk2 fun g e q=>by have h1:=(HU.out.lt g e).1;have h2:=HT.out.c.sh.row.lt;omega)
    have hz2:=hk2.size
    have HBU:=Lib.hid (show JZ w2 (.agg #[.slice a2 x.us.length c2]) x.us from⟨_,rfl,hnd2.parts.2⟩)
    have HGT:=Lib.hid (JlT (.agg #[.slice a2 x.us.length c2]) x.us k w2 HBU.out (by omega) HUS.out)
    obtain⟨u',bb,hGV,hgb⟩:∃(u:Upd) (bb:Bool),Jm1 (Yn x.us k)=.tuple #[.agg #[.int .u8 u.kind,.string (S u.key),.string (S u.val),.int .u64 u.delta],.bool bb]/\(Yn x.us k).toList=if bb then[u] else[]:=by
     cases Yn x.us k with
     |none=>exact⟨⟨0,[],[],0⟩,false,rfl,rfl⟩
     |some u=>exact⟨u,true,rfl,rfl⟩
    rw[hGV] at HGT
    have HGB:=Lib.hid hgb
    have HCH:=Lib.hid (fun w' h=>Jhc (.agg #[.slice a1 x.ch.length c1,.slice a2 x.us.length c2]) x.cs x.us k w' h (by rw[List.length_map];omega))
    rw[hix] at HCH
    have HKS:=Lib.hid hks
    clear hv2 hc2 hk2 hw2 hall hnd2 hGV hgb hix hks HF
    go_upto_if 42 with(fail)
    go_cut [9] (fun s9 wx=>∃l':Nat,s9=.int .i64 l'/\l'<=lo+1/\w2=wx)
    case first=>
     cases fl
     ·go_wp2_with fail
      go_meet
      exact⟨lo,rfl,by omega,rfl⟩
     ·go_wp2_with fail
      go_meet
      exact⟨lo+1,by go_num,by omega,rfl⟩
    case rest=>
     obtain⟨l',rfl,hl',hwc⟩:=hcut
     subst hwc
     go_wp2_with fail
     refine HGT.out.mono ?_
     rintro e w3 ⟨rfl,hX3⟩
     have HU3:=Lib.hid (Ji HU2.out hX3)
     go_upto_if 78 with(fail)
     obtain⟨W4,hW4⟩:∃W4,W4=w3.alloc (.cells #[.int .u8 u'.kind,.string (S u'.key),.string (S u'.val),.int .u64 u'.delta] 39):=⟨_,rfl⟩
     have hX4:Below w3.heap.size w3 W4:=by rw[hW4];go_grown
     have g0:W4.cell? ⟨w3.heap.size,0,none⟩=some (.int .u8 u'.kind):=by rw[hW4,World.cell?_alloc_at _ _ _ _ rfl];rfl
     have g1:W4.cell? ⟨w3.heap.size,1,none⟩=some (.string (S u'.key)):=by rw[hW4,World.cell?_alloc_at _ _ _ _ rfl];rfl
     have g2:W4.cell? ⟨w3.heap.size,2,none⟩=some (.string (S u'.val)):=by rw[hW4,World.cell?_alloc_at _ _ _ _ rfl];rfl
     have g3:W4.cell? ⟨w3.heap.size,3,none⟩=some (.int .u64 u'.delta):=by rw[hW4,World.cell?_alloc_at _ _ _ _ rfl];rfl
     have HU4:=Lib.hid (Ji HU3.out hX4)
     have hX24:=hX3.trans (hX4.mono hX3.size)
     have hlt:=HU.out.lt
     have HLT:=Lib.hid hlt
     rw[<-hW4]
     clear hW4 hX4 hX3 HU2 HU3 hlt
     go_cut [8] (fun s8 wx=>∃(vl:List Upd) (va:Option Addr) (vc:Nat),s8=.slice va vl.length vc/\vl.length<=ul.length+1/\Hid (vl=ul++(Yn x.us k).toList)/\Hid (wx.ownsRow w.heap.size 39 4 (.slice va vl.length vc) vl.length (cellsU vl))/\Jg (fun x=>w.heap.size<=x/\x<wr.heap.size) w2 wx)
     case first=>
      cases bb
      ·go_wp2_with fail
       go_meet
       exact⟨ul,ua,uc,rfl,by omega,Lib.hid (by rw[HGB.out];simp),HU4,.of_below hX24⟩
      ·have HCL:=Lib.hid (show cellsU ul++[.int .u8 u'.kind,.string (S u'.key),.string (S u'.val),.int .u64 u'.delta]=cellsU (ul++[u']) by rw[Yq,ZQ];rfl)
       have HLN:=Lib.hid (show(ul++[u']).length=ul.length+1 by simp)
       have hX5:Below W4.heap.size W4 (W4.alloc (.cells #[.int .u8 u'.kind,.string (S u'.key),.string (S u'.val),.int .u64 u'.delta] 39)):=by go_grown
       go_wp2_with (at_builtin;go_must (refine wpList_append_own_at _ rfl (.tmp 79) (.tmp 81) 101 rfl w.heap.size 39 i0 (.agg #[.int .u8 0,.string ByteArray.empty,.string ByteArray.empty,.int .u64 0]) 4 48 Tryz.underlying101 hi iz0 iz1 iz2 rfl (by decide) _ ul.length _ rfl (HU4.out.alloc _) ⟨W4.heap.size,0,none⟩ 1 1 [.int .u8 u'.kind,.string (S u'.key),.string (S u'.val),.int .u64 u'.delta] rfl rfl (XV _ _ rfl _ _ _ _ _) (Jik u') (by unfold maxLen;omega) (by omega) (by rw[World.size_alloc];have:=hX24.size;omega) ?_;intro vc wz hownvc hgrowvc _ hatvc;rw[HCL.out] at hownvc;obtain⟨ac,yc,rfl⟩:=Jm hownvc;have HGR:=Lib.hid hownvc;have hKz:Jg (fun x=>w.heap.size<=x/\x<wr.heap.size) w2 wz:=((Jg.of_below hX24).on hX5).grown hgrowvc (fun g e=>Or.inl (HLT.out g e));clear hatvc hownvc hgrowvc))
       rw[<-HLN.out] at HGR
       go_meet
       exact⟨ul++[u'],ac,yc,by rw[HLN.out],by rw[HLN.out];exact Nat.le_refl _,Lib.hid (by rw[HGB.out];simp),HGR,hKz⟩
     case rest=>
      obtain⟨vl,va,vc,rfl,hvl,HVE,HVL,hK⟩:=hcut
      obtain⟨hv5,hnd5,hrw5,hkid5⟩:=HALL.out wc hK
      have HND:=Lib.hid hnd5
      have hks:=HKS.out
      obtain⟨kb,hkb⟩:∃kb,ks[ix]? =some kb:=⟨ks[ix]'(by omega),List.getElem?_eq_getElem (by omega)⟩
      have HCU:=Lib.hid (hkid5 ix hxl kb hkb)
      obtain⟨g,ea,kcell,hc3⟩:=Jqz hrw5 ix kb hkb hxl
      subst ea
      have v6:=hv5.c6
      have v7:=hv5.c7
      have v8:=hv5.c8
      have HFI:=Lib.hid (show(∃wr2,wr2<=wr'/\CAt wc K v.b (n+1) {T with wr:=wr2})/\Jg (fun x=>x=K.sb) w wc from by
       obtain⟨q1,q2,q3⟩:=HC2.out
       exact⟨⟨wr2,q1,HT.out.c.over q2 hK fun y q=>q.1⟩,Jg.sb_of HK.out q3 hK⟩)
      have hzc:=hK.size
      clear g0 g1 g2 g3 HU4 HBU HGT HALL hv5 hnd5 hrw5 hkid5 hks hkb hK hX24
      go_upto_region 21 with(fail)
      refine WQ.region (C:=fun w'=>Below wc.heap.size wc w') (by kernel_rfl) (by kernel_rfl) (Jb (Below.refl _ _)) ?_
      refine WV (by rfl) (.pointer (some ⟨ob,0,none⟩)) (fun w' hw'=> ?_) ?_
      ·have hq':=hw'
       go_simp
      try simp only[Act.put,WA,WB,WC]
      refine WV (by rfl) (.pointer (some ⟨ob,0,none⟩)) (fun w' hw'=> ?_) ?_
      ·have hq':=hw'
       go_simp
      try simp only[Act.put,WA,WB,WC]
      refine WV (by rfl) (.pointer (some ⟨ob,8,none⟩)) (fun w' hw'=> ?_) ?_
      ·have hq':=hw'
       go_simp
      try simp only[Act.put,WA,WB,WC]
      refine WV (by rfl) (.slice (some ⟨g,0,none⟩) x.ch.length c3) (fun w' hw'=> ?_) ?_
      ·have hq':=hw'
       have z0:=Ja hw' v6;have z1:=Ja hw' v7;have z2:=Ja hw' v8;have z3:=Ja hw' kcell;go_simp
      try simp only[Act.put,WA,WB,WC]
      refine WV (by rfl) (.pointer (some ⟨ob,0,none⟩)) (fun w' hw'=> ?_) ?_
      ·have hq':=hw'
       go_simp
      try simp only[Act.put,WA,WB,WC]
      refine WV (by rfl) (.pointer (some ⟨ob,0,none⟩)) (fun w' hw'=> ?_) ?_
      ·have hq':=hw'
       go_simp
      try simp only[Act.put,WA,WB,WC]
      refine WV (by rfl) (.pointer (some ⟨ob,6,none⟩)) (fun w' hw'=> ?_) ?_
      ·have hq':=hw'
       go_simp
      try simp only[Act.put,WA,WB,WC]
      refine WV (by rfl) (.agg #[.slice a1 x.ch.length c1,.slice a2 x.us.length c2]) (fun w' hw'=> ?_) ?_
      ·have hq':=hw'
       have z0:=Ja hw' v6;have z1:=Ja hw' v7;have z2:=Ja hw' v8;have z3:=Ja hw' kcell;go_simp
      try simp only[Act.put,WA,WB,WC]
      refine WV (by rfl) (.string (S k)) (fun w' hw'=> ?_) ?_
      ·have hq':=hw'
       go_simp
      try simp only[Act.put,WA,WB,WC]
      refine WV (by rfl) (.int .i64 ix) (fun w' hw'=> ?_) ?_
      ·have hq':=hw'
       go_simp
       go_at_call 55
       refine(HCH.out _ (HND.out.kept hq' (Nat.le_refl _))).mono ?_
       rintro e w6 ⟨he,hb6⟩
       exact⟨he,hq'.trans (hb6.mono hq'.size)⟩
      try simp only[Act.put,WA,WB,WC]
      refine WV (by rfl) (.pointer (some ⟨g,ix,none⟩)) (fun w' hw'=> ?_) ?_
      ·have hq':=hw'
       go_simp
      try simp only[Act.put,WA,WB,WC]
      refine WV (by rfl) (.pointer (some ⟨kb,0,none⟩)) (fun w' hw'=> ?_) ?_
      ·have hq':=hw'
       have z0:=Ja hw' v6;have z1:=Ja hw' v7;have z2:=Ja hw' v8;have z3:=Ja hw' kcell;go_simp
      try simp only[Act.put,WA,WB,WC]
      refine WV (by rfl) (.pointer (some ⟨kb,0,none⟩)) (fun w' hw'=> ?_) ?_
      ·have hq':=hw'
       go_simp
      try simp only[Act.put,WA,WB,WC]
      refine WQ.done ?_
      rintro w6 hX6
      have HVL6:=Lib.hid (Ji HVL.out hX6)
      have htv:∀u∈vl,Tm u:=fun u hu=>by
       rw[HVE.out] at hu
       exact(List.mem_append.1 hu).elim (HTM.out u) (HGTM.out u)
      have HG6:=Lib.hid (HNX.out w6 kb vl (HCU.out.on hX6) (by obtain⟨⟨q,q1,q2⟩,-⟩:=HFI.out;exact⟨q,q1,q2.on hX6⟩) (HFI.out.2.on hX6) htv HVE.out)
      have e2:h-1-1=i:=by have:=HH.out;omega
      rw[<-e2] at HG6
      have hz6:=hX6.size
      clear htv e2
      go_wp2_with fail
      exact⟨⟨vl,va,vc,l',kb,h-1,rfl,rfl,rfl,by go_num,by omega,by omega,by omega,by omega,HVL6,HG6⟩,by simp[intOf];omega⟩
end Go.Proofs.YtafciefjlkdecaaGreat
namespace Go.Proofs.YtafciefjlkdecaaGreat
open Go.RowKit
theorem Zg.del {w:World} {b n sz:Nat} {f:Int->Option Blk} (h:Zg w b n sz f) (i:Nat) (hi:i<9223372036854775808) (ty:TypeId):∃w' sz',(Builtin.delete_ #[24,3] ty #[.map (some b),.int .i64 (i:Int)]).run Tryz.prog w=.ok (.tuple #[]) w'/\sz'+(if(f (i:Int)).isSome then 1 else 0)=sz/\Zg w' b n sz' (fun a=>if a=(i:Int) then none else f a)/\w.grownBy w' (some b):=by
 obtain⟨D,h,hz,hs⟩:=h
 obtain⟨w',hrun,r1,r2⟩:=h.drop Jk2 Tryz.underlying24 (Jdi i hi) ty
 have hkl:WideAt.IsKeyLit (.int .i64 (i:Int)):=Jk2.key (Jdi i hi)
 have h1:=Maps.size_del (k:=.int .i64 (i:Int)) (h.tidy Jk2)
 rw[(hs i).1,hz] at h1
 refine⟨w',_,hrun,h1,⟨_,r1,rfl,fun j=> ?_⟩,r2.grown⟩
 ·by_cases e:j=(i:Int)
  ·subst e
   rw[Maps.has_del_same,Maps.atKey_del_same,if_pos rfl]
   exact⟨rfl,rfl⟩
  ·have hne:(Lit.int .i64 j)≠ .int .i64 (i:Int):=fun q=>e (by injection q)
   rw[Maps.has_del_other hne,Maps.atKey_del_other hne,if_neg e]
   exact hs j
theorem JqA {w:World} {B B':Nat} {E:TypeId} {k:Nat} {v:Value} {n:Nat} {xs:List Value} (h:w.ownsRow B E k v n xs) (hg:∀g,v.ownBlock=some g->B'<=g):w.ownsRow B' E k v n xs:=by
 obtain⟨hl,h1|⟨g,cap,cur,e,h2,h3⟩⟩:=h
 ·exact⟨hl,Or.inl h1⟩
 ·exact⟨hl,Or.inr ⟨g,cap,cur,e,hg g (by rw[e];rfl),h3⟩⟩
theorem JnN {f f':Int->Option Blk}:∀(n:Nat) (v:Vt),(∀a∈addrs n v,f' a=f a)->Shf f n v->Shf f' n v
 |0,v,he,h=>fun p hp=>by rw[he p.a (by rw[YJ,hp];simp)];exact h p hp
 |n+1,v,he,⟨h1,h2⟩=>⟨fun p hp=>⟨by rw[he p.a (by rw[JG,hp];simp)];exact(h1 p hp).1,(h1 p hp).2⟩,fun x hx=>JnN n x.2 (fun a ha=>he a (by rw[JG];exact List.mem_append_right _ (List.mem_flatMap.2 ⟨x,hx,ha⟩))) (h2 x hx)⟩
structure Dom (X:Prop) (f:Int->Option Blk) (l:List Int):Prop where
 nd:l.Nodup
 sub:∀a∈l,f a≠none
 all:X->∀a,f a≠none->a∈l
section
variable {X:Prop} {G:Nat} {K:Kx} {n n1:Nat} {w w0 w1 w2:World} {v v0 v1:Vt} {T T1:Tx} {u:Upd} {g:List Int} {l:List Nat} {j:Nat} {m:List Ent}
theorem Dom.perm {f:Int->Option Blk} {l l':List Int} (h:Dom X f l) (e:l'.Perm l):Dom X f l':=
 ⟨e.nodup_iff.2 h.nd,fun a ha=>h.sub a (e.mem_iff.1 ha),fun x a ha=>e.mem_iff.2 (h.all x a ha)⟩
theorem Dom.apply (h:Dom X K.f (T.gone++addrs n v)) (a:AP K n w v T u n1 w1 v1 T1 g l):Dom X K.f (T1.gone++addrs n1 v1):=by
 refine h.perm ?_
 rw[a.gone,List.append_assoc]
 exact List.Perm.append_left _ (List.perm_append_comm.trans a.addrs)
theorem JcP (n:Nat) (v:Vt) (b:Nat) (m l:Bool):addrs n {v with b:=b,mem:=m,ld:=l}=addrs n v:=Ja6 n v b m l
theorem Dom.commit (h:Dom X K.f (T.gone++addrs n v)) (s:Jo0 n [] [] v K.sf) (few:Few n v) {l:List Int} (hl:l.Perm T.gone):Dom X (sv n v K.sf).2.f (l++addrs n (sv n v K.sf).1):=by
 have hok:=JcZ n [] [] v K.sf s few
 obtain⟨new,m1,m2,m3⟩:=hok.more
 have e:(l++addrs n (sv n v K.sf).1).Perm ((T.gone++addrs n v)++new):=by
  rw[List.append_assoc]
  exact hl.append m2
 refine⟨e.nodup_iff.2 (List.nodup_append.2 ⟨h.nd,m1.nd,fun x hx y hy q=> ?_⟩),fun a ha=> ?_,fun x a ha=> ?_⟩
 ·subst q
  exact h.sub x hx (m1.fresh x hy)
 ·rw[m1.dom]
  rcases List.mem_append.1 (e.mem_iff.1 ha) with q|q
  ·exact Or.inl (h.sub a q)
  ·exact Or.inr q
 ·rw[e.mem_iff,List.mem_append]
  exact((m1.dom a).1 ha).imp (h.all x a) id
theorem Dom.drop {f f':Int->Option Blk} {l l':List Int} (h:Dom X f (l++l')) (e:∀a,f' a=if a∈l then none else f a):Dom X f' l':=by
 obtain⟨h1,h2,h3⟩:=List.nodup_append.1 h.nd
 refine⟨h2,fun a ha=> ?_,fun x a ha=> ?_⟩
 ·rw[e,if_neg fun q=>h3 a q a ha rfl]
  exact h.sub a (List.mem_append_right _ ha)
 ·rw[e] at ha
  by_cases q:a∈l
  ·rw[if_pos q] at ha;exact absurd rfl ha
  ·rw[if_neg q] at ha
   exact(List.mem_append.1 (h.all x a ha)).elim (fun k=>absurd k q) id
theorem Yp.reopen {nb:Nat} (s:Yp G K n w {v0 with b:=nb,mem:=true,ld:=false} T w0 j m) {p:Pt} (hkn:v0.kn=some p) (hdk:Dsk n v0) {tb2 nb2 nn2 sz2:Nat} {f2:Int->Option Blk} (ht:Yj w2 tb2 3 4 3 (ldV K.sb) nb2 ((n+1:Nat):Int) (.slice none 0 0) 0 0) (hv:Jq w2 nb2 true p.a p.g p.s false (.slice none 0 0) (.slice none 0 0) (.slice none 0 0) (.slice none 0 0)) (hs:Js w2 K.sb K.mb nn2 sz2 f2 K.gen 0) (hb:Below w0.heap.size w0 w2) (h1:w0.heap.size<=tb2) (h2:w0.heap.size<=nb2) (he:∀a∈addrs n v0,f2 a=K.f a) (hf:∀a b,f2 a=some b->K.f a=some b) (hn:nn2<=G):
  Yp G {K with tb:=tb2,nn:=nn2,sz:=sz2,f:=f2} n w2 {v0 with b:=nb2,mem:=true,ld:=false} JqE w0 j m:=by
 obtain⟨hm,hbl⟩:=JjA hdk hkn hv
 have t:=s.inv.st.ok
 have hpot:∀b,pot n {v0 with b:=b,mem:=true,ld:=false}=pot n v0:=fun b=>Jbv n v0 b true false v0.kn
 have hmu:∀b,mu n {v0 with b:=b,mem:=true,ld:=false}=mu n v0:=fun b=>JeA n v0 b true false v0.kn
 have hp:=s.inv.pot
 have hfl:=s.inv.fl
 rw[hpot] at hp
 rw[hmu] at hfl
 have htp:=t.pot
 rw[hpot] at htp
 have htf:=t.fl
 rw[hmu] at htf
 have htg:=t.gone
 rw[JcP] at htg
 obtain⟨e1,e2,e3⟩:=s.pl
 have hok0:Ok n [] [] v0:=JeH t.ok
 refine⟨⟨⟨⟨⟨?_,XK.nil w2,hs⟩,hm,by rw[hbl];simp,JeG nb2 true false v0.kn hok0,?_,?_,Nat.zero_le _,?_,?_⟩,fun x hx=> ?_,hb⟩,?_,?_,?_,rfl⟩,?_,fun a b hab=>s.win a b (hf a b hab),s.rise,fun q=> ?_,s.len,s.pl,s.gen,hn,s.mb⟩
 ·show Yj w2 tb2 K.F K.B K.L (ldV K.sb) nb2 ((n+1:Nat):Int) (.slice none 0 0) 0 0
  rw[e1,e2,e3]
  exact ht
 ·refine Jiv (JnN n v0 he ?_)
  exact(Jds (n:=n) (t:=v0)).1 t.sh
 ·rw[hpot];exact htp
 ·rw[JcP]
  show 0+_<=_
  omega
 ·rw[hmu]
  show 0+_<=_
  omega
 ·rcases hx with(q|q|q)|q
  ·have q':x=tb2:=q
   omega
  ·exact s.inv.st.lo x (Or.inl (Or.inr (Or.inl q)))
  ·simp[Value.ownBlock] at q
  ·rw[hbl,List.mem_singleton] at q
   omega
 ·rw[hpot];exact hp
 ·rw[hmu]
  show 0+_<=_
  omega
 ·have g0:=JeB (K:=K) n _ _ (Jb0 n {v0 with b:=nb,mem:=true,ld:=false} [] [] nb2 true false v0.kn t.ok) s.inv.gd
  exact Jot (K:=K) (K':= {K with tb:=tb2,nn:=nn2,sz:=sz2,f:=f2}) rfl rfl rfl n _ g0
 ·exact(JaK (n:=n)).2 ((JaK (n:=n)).1 s.ps)
 ·rw[s.look q,Jdq n v0 nb true false v0.kn,Jdq n v0 nb2 true false v0.kn]
end
open Go.RowKit
theorem Jhk (most:Int):∀(l outs:List Ent),JdY most outs l=outs++l.take (most.toNat-outs.length)
 |[],outs=>by rw[List.take_nil,List.append_nil];rfl
 |e::l,outs=>by
  show JdY most (Jch most outs e) l=_
  rw[Jhk most l]
  unfold Jch
  split
  ·rename_i h
   have h1:most.toNat-outs.length=(most.toNat- (outs++[e]).length)+1:=by rw[List.length_append,List.length_singleton];omega
   rw[h1,List.take_succ_cons,List.append_assoc]
   rfl
  ·rename_i h
   have h1:most.toNat-outs.length=0:=by omega
   rw[h1]
   simp
theorem Jnn (most:Int) (slo shi:List UInt8) (l:List Ent):Zn most slo shi [] l=(l.filter (inB slo shi)).take most.toNat:=by
 unfold Zn
 rw[Jhk]
 simp
section
variable {X:Prop} {G:Nat} {K:Kx} {n n1:Nat} {w w0 w1 w2:World} {v v0 v1:Vt} {T T1:Tx} {u:Upd} {g:List Int} {l:List Nat} {j:Nat} {m:List Ent} {tb sb:Nat}
theorem Yp.small5 (s:Yp G K n w v T w0 j m) (hj:j<=120):Yb n v<=485:=by
 obtain⟨h1,h2,h3⟩:=s.pl
 have h4:=Jh3 (by omega) n v s.inv.gd
 have h:=s.inv.pot
 have hn:n<=5:=by
  rcases Nat.lt_or_ge 5 n with q|q
  ·have:2^7<=2^(n+1):=Nat.pow_le_pow_right (by omega) (by omega)
   omega
  ·exact q
 have h6:K.F^n<=243:=by
  rw[h1]
  exact Nat.le_trans (Nat.pow_le_pow_right (by omega) hn) (by decide)
 omega
theorem Yp.aftD (s:Yp G K n w v T w0 j m) (hG:G<=78000) (hj:j<=150) {D:Nat} (hD:Yb n v<=D) {p:Pt} {nb:Nat} (c:Jmc K n w v T w1 p nb):Yp (G+D) (K.aft (sv n v K.sf).2) n w1 {(sv n v K.sf).1 with b:=nb,mem:=true,ld:=false} {T with gv:=.slice none 0 0,gone:=[]} w0 j m:=by
 have h:=s.aft hG hj c
 obtain⟨new,m1,m2,m3⟩:=(JcZ n [] [] v K.sf (JcW s.inv.st.ok (s.cm hG hj)) (s.cm hG hj).few).more
 refine⟨h.inv,h.ps,h.win,h.rise,h.look,h.len,h.pl,?_,?_,h.mb⟩
 ·show(sv n v K.sf).2.gen<=G+D
  have h6:=m1.gen
  have h7:=s.gen
  have h8:K.sf.gen=K.gen:=rfl
  omega
 ·show(sv n v K.sf).2.nn<=G+D
  have h6:=m1.nn
  have h7:=s.nn
  have h8:K.sf.nn=K.nn:=rfl
  omega
def LP (X:Prop) (G n tb sb:Nat) (w0:World) (j:Nat) (m:List Ent) (w:World):Prop:=∃K v T,Yp G K n w v T w0 j m/\Dom X K.f (T.gone++addrs n v)/\K.tb=tb/\K.sb=sb
theorem LP.l1 (h:LP X G n tb sb w0 j m w):L1 G tb sb w0 j m w:=by
 obtain⟨K,v,T,h1,-,h2,h3⟩:=h
 exact⟨K,n,v,T,h1,h2,h3⟩
theorem LP.on (h:LP X G n tb sb w0 j m w) (hb:Below w.heap.size w w1):LP X G n tb sb w0 j m w1:=by
 obtain⟨K,v,T,h1,h2⟩:=h
 exact⟨K,v,T,h1.on hb,h2⟩
theorem LP.more (h:LP X G n tb sb w0 j m w) {G':Nat} (hG:G<=G'):LP X G' n tb sb w0 j m w:=by
 obtain⟨K,v,T,h1,h2⟩:=h
 exact⟨K,v,T,h1.more hG,h2⟩
theorem LP.new {tb vb sb mb:Nat} (ht:Yj w tb 3 4 3 (ldV sb) vb 1 (.slice none 0 0) 0 0) (hv:Jq w vb false 0 0 0 true (.slice none 0 0) (.slice none 0 0) (.slice none 0 0) (.slice none 0 0)) (hs:Js w sb mb 0 0 (fun _=>none) 0 0) (hb:Below w0.heap.size w0 w) (h1:w0.heap.size<=tb) (h2:w0.heap.size<=vb) (h3:w0.heap.size<=sb) (h4:w0.heap.size<=mb):LP X 0 0 tb sb w0 0 [] w:=
 ⟨_,_,_,Yp.new ht hv hs hb h1 h2 h3 h4,⟨List.nodup_nil,fun a ha=>(by cases ha),fun _ a ha=>absurd rfl ha⟩,rfl,rfl⟩
theorem LP.apply (h:LP X G n tb sb w0 j m w) (hG:G<=80000) (hj:j<=200) (hu:Tm u):
  Calls Tryz.prog 13 #[.pointer (some ⟨tb,0,none⟩),.agg #[.int .u8 u.kind,.string (S u.key),.string (S u.val),.int .u64 u.delta]] w fun e w'=>e=.returned (.int .i64 0)/\(∃n1,LP X G n1 tb sb w0 (j+1) (onE m u) w')/\Aft w w':=by
 obtain⟨K,v,T,h1,hd,rfl,rfl⟩:=h
 refine(h1.walk hG hj hu).mono ?_
 rintro e w' ⟨rfl,n1,v1,T1,g,l,a,h2⟩
 exact⟨rfl,⟨n1,K,v1,T1,h2,hd.apply a,rfl,rfl⟩,h1.aft_ap a⟩
theorem LP.has (h:LP X G n tb sb w0 j m w) (hG:G<=80000) (hj:j<=1000) (ao:Option Addr) (c:Nat) (hs:SlE w (.slice ao m.length c) m):
  Calls Tryz.prog 28 #[.pointer (some ⟨tb,0,none⟩),.slice ao m.length c] w fun e w'=>e=.returned (.bool true)/\LP X G n tb sb w0 j m w'/\Aft w w':=by
 obtain⟨K,v,T,h1,hd,rfl,rfl⟩:=h
 obtain⟨a',c',e,hs',-⟩:=hs
 simp only[Value.slice.injEq] at e
 obtain⟨rfl,-,rfl⟩:=e
 refine(h1.has hG hj ao c hs').mono ?_
 rintro e w' ⟨rfl,h2,hk⟩
 exact⟨rfl,⟨K,v,T,h2,hd,rfl,rfl⟩,h1.aft_look hk⟩
theorem Y2.same {wr':Nat} (h:Y2 K n w v {T with wr:=wr'}) (h0:T.wr=0) (hw:wr'<=T.wr):Y2 K n w v T:=by
 obtain rfl:wr'=T.wr:=by omega
 exact h
theorem LP.get (h:LP X G n tb sb w0 j m w) (hG:G<=80000) (k:List UInt8):
  Calls Tryz.prog 25 #[.pointer (some ⟨tb,0,none⟩),.string (S k)] w fun e w'=>(∃lo:Nat,lo<=n+1/\e=.returned (.tuple #[.string (S ((Jz m k).getD [])),.bool (Jz m k).isSome,.int .i64 lo,.int .i64 0]))/\LP X G n tb sb w0 j m w'/\Aft w w':=by
 obtain⟨K,v,T,h1,hd,rfl,rfl⟩:=h
 refine(JrA k w h1.inv.st.ok (h1.near hG)).mono ?_
 rintro e w' ⟨wr',hw,t,hk,⟨-,h0⟩|⟨lo,hlo,rfl⟩⟩
 ·rw[h1.inv.wr] at h0
  exact absurd h0 (Nat.lt_irrefl 0)
 ·rw[h1.look k]
  exact⟨⟨lo,hlo,rfl⟩,⟨K,v,T,h1.load (t.same h1.inv.wr hw) hk,hd,rfl,rfl⟩,h1.aft_look hk⟩
theorem LP.height (h:LP X G n tb sb w0 j m w):
  Calls Tryz.prog 14 #[.pointer (some ⟨tb,0,none⟩)] w fun e w'=>e=.returned (.int .i64 ((n+1:Nat):Int))/\Below w.heap.size w w':=by
 obtain⟨K,v,T,h1,hd,rfl,rfl⟩:=h
 exact JfB w h1.inv.st.ok.c.tr
theorem LP.scan (h:LP X G n tb sb w0 j m w) (hG:G<=80000) (slo shi:List UInt8) (most:Int) (hm:most<=1000):
  Calls Tryz.prog 17 #[.pointer (some ⟨tb,0,none⟩),.string (S slo),.string (S shi),.int .i64 most] w fun e w'=>(∃oa oc,e=.returned (.tuple #[.slice oa ((m.filter (inB slo shi)).take most.toNat).length oc,.int .i64 0])/\w'.ownsRow w.heap.size 73 2 (.slice oa ((m.filter (inB slo shi)).take most.toNat).length oc) ((m.filter (inB slo shi)).take most.toNat).length (cellsE ((m.filter (inB slo shi)).take most.toNat)))/\LP X G n tb sb w0 j m w'/\Aft w w'/\Jg (fun x=>x=sb) w w':=by
 obtain⟨K,v,T,h1,hd,rfl,rfl⟩:=h
 refine(Jix slo shi most w h1.inv.st.ok (h1.near hG) hm).mono ?_
 rintro e w' ⟨wr',hw,t,hk,⟨-,h0⟩|⟨oa,oc,rfl,hown,hgb⟩⟩
 ·rw[h1.inv.wr] at h0
  exact absurd h0 (Nat.lt_irrefl 0)
 ·rw[h1.en,Jnn] at hown hgb⊢
  exact⟨⟨oa,oc,rfl,JqA hown.own hgb⟩,⟨K,v,T,h1.load (t.same h1.inv.wr hw) hk,hd,rfl,rfl⟩,h1.aft_look hk,hk⟩
theorem LP.shelf (h:LP X G n tb sb w0 j m w):∃cur,Jc w 27 sb cur:=by
 obtain⟨K,v,T,h1,hd,rfl,rfl⟩:=h
 exact⟨_,h1.inv.st.ok.c.sh.row⟩
def LC (X:Prop) (G n:Nat) (p:Pt) (zs:List Int) (tb sb:Nat) (w0:World) (j:Nat) (m:List Ent) (w:World):Prop:=∃K v0 T nb,Yp G K n w {v0 with b:=nb,mem:=true,ld:=false} T w0 j m/\v0.kn=some p/\Dsk n v0/\Dom X K.f (zs++addrs n v0)/\K.tb=tb/\K.sb=sb
theorem LC.on {p:Pt} {zs:List Int} (h:LC X G n p zs tb sb w0 j m w) (hb:Below w.heap.size w w1):LC X G n p zs tb sb w0 j m w1:=by
 obtain⟨K,v0,T,nb,h1,h2⟩:=h
 exact⟨K,v0,T,nb,h1.on hb,h2⟩
theorem LP.commit (h:LP X G n tb sb w0 j m w) (hG:G<=76000) {D:Nat} (hj:j<=150) (hD:D=1457\/j<=120/\D=485):
  Calls Tryz.prog 19 #[.pointer (some ⟨tb,0,none⟩),svV sb] w fun e w'=>(∃p ga gc zs,e=.returned (.tuple #[ptV p,.slice ga zs.length gc,.int .i64 0])/\zs.length<=1000000/\w'.ownsRow w.heap.size 3 1 (.slice ga zs.length gc) zs.length (zs.map fun x=>.int .i64 x)/\LC X (G+D) n p zs tb sb w0 j m w')/\Aft w w':=by
 obtain⟨K,v,T,h1,hd,rfl,rfl⟩:=h
 have hD':Yb n v<=D:=by
  rcases hD with rfl|⟨h2,rfl⟩
  ·exact(h1.small hj).1
  ·exact h1.small5 h2
 have hcm:=h1.cm (by omega) hj
 refine(Jp4 w h1.inv.st.ok hcm).mono ?_
 rintro e w' ⟨p,gw,nb,rfl,hgw,c⟩
 have hlen:(T.gone.mergeSort fun x y=>decide (x<=y)).length=T.gone.length:=List.length_mergeSort _
 obtain⟨ga,gc,rfl⟩:=Jm hgw
 have hin:=JcW h1.inv.st.ok hcm
 have hgl:=h1.inv.st.ok.gone
 rw[<-hlen] at hgw⊢
 refine⟨⟨p,ga,gc,_,rfl,by omega,hgw,⟨_,(sv n v K.sf).1,_,nb,h1.aftD (by omega) hj hD' c,c.kn,(JcZ n [] [] v K.sf hin hcm.few).dsk,hd.commit hin hcm.few (List.mergeSort_perm _ _),rfl,rfl⟩⟩,h1.aft_cm c⟩
theorem LC.dirty {p:Pt} {zs:List Int} (h:LC X G n p zs tb sb w0 j m w):
  Calls Tryz.prog 21 #[.pointer (some ⟨tb,0,none⟩)] w fun e w'=>e=.returned (.int .i64 0)/\Below w.heap.size w w':=by
 obtain⟨K,v0,T,nb,h1,h2,-,-,rfl,-⟩:=h
 have hq:Yb n {v0 with b:=nb,mem:=true,ld:=false}=0:=JeD (p:=p) h2
 have h3:=JqU w h1.inv.st.ok (by rw[hq];omega)
 rw[hq] at h3
 exact h3
def LD (X:Prop) (G n:Nat) (p:Pt) (zs:List Int) (i sb mb:Nat) (w0:World) (j:Nat) (m:List Ent) (w:World):Prop:=∃K v0 T nb wc,Yp G K n wc {v0 with b:=nb,mem:=true,ld:=false} T w0 j m/\v0.kn=some p/\Dsk n v0/\Dom X K.f (zs++addrs n v0)/\K.sb=sb/\K.mb=mb/\Below w0.heap.size w0 w/\∃nn sz f,Js w sb mb nn sz f K.gen 0/\nn<=G/\sz+i=K.sz/\∀a,f a=if a∈zs.take i then none else K.f a
theorem LC.start {p:Pt} {zs:List Int} (h:LC X G n p zs tb sb w0 j m w):∃mb,LD X G n p zs 0 sb mb w0 j m w:=by
 obtain⟨K,v0,T,nb,h1,h2,h3,h4,rfl,rfl⟩:=h
 have hs:=h1.inv.st.ok.c.sh
 rw[h1.inv.wr] at hs
 exact⟨K.mb,K,v0,T,nb,w,h1,h2,h3,h4,rfl,rfl,h1.below,K.nn,K.sz,K.f,hs,h1.nn,rfl,fun a=>by rw[List.take_zero,if_neg (by simp)]⟩
theorem LD.on {p:Pt} {zs:List Int} {i mb:Nat} (h:LD X G n p zs i sb mb w0 j m w) (hb:Below w.heap.size w w1):LD X G n p zs i sb mb w0 j m w1:=by
 obtain⟨K,v0,T,nb,wc,h1,h2,h3,h4,rfl,rfl,h5,nn,sz,f,h6,h7⟩:=h
 exact⟨K,v0,T,nb,wc,h1,h2,h3,h4,rfl,rfl,h5.trans (hb.mono h5.size),nn,sz,f,h6.on hb,h7⟩
theorem LD.c0 {p:Pt} {zs:List Int} {i mb:Nat} (h:LD X G n p zs i sb mb w0 j m w):w.cell? ⟨sb,0,none⟩=some (.map (some mb)):=by
 obtain⟨K,v0,T,nb,wc,h1,h2,h3,h4,rfl,rfl,h5,nn,sz,f,h6,h7⟩:=h
 exact h6.c0
theorem LD.noRow {p:Pt} {zs:List Int} {i mb:Nat} (h:LD X G n p zs i sb mb w0 j m w) {E:TypeId} {cur:List Value}:¬Jc w E mb cur:=by
 obtain⟨K,v0,T,nb,wc,h1,h2,h3,h4,rfl,rfl,h5,nn,sz,f,h6,h7⟩:=h
 exact h6.noMap
theorem LD.aft {p:Pt} {zs:List Int} {i mb:Nat} (h:LD X G n p zs i sb mb w0 j m w) (hk:Jg (fun x=>x=mb) w w1):Aft w w1:=by
 obtain⟨K,v0,T,nb,wc,h1,h2,h3,h4,rfl,rfl,h5,nn,sz,f,h6,h7⟩:=h
 refine⟨hk.size,fun {E x cur} _ _ _ _ hr=>hk.row hr fun q=> ?_,fun hs=>hs.keep hk fun b q=> ?_⟩
 ·have q':x=K.mb:=q
  rw[q'] at hr
  exact h6.noMap hr
 ·have q':b=K.mb:=q
  rw[q']
  exact h6.softMap.str
theorem LD.del {p:Pt} {zs:List Int} {i mb:Nat} (h:LD X G n p zs i sb mb w0 j m w) (hG:G<=80000) (hi:i<zs.length) (ty:TypeId):∃w',(Builtin.delete_ #[24,3] ty #[.map (some mb),.int .i64 zs[i]]).run Tryz.prog w=.ok (.tuple #[]) w'/\LD X G n p zs (i+1) sb mb w0 j m w'/\Jg (fun x=>x=mb) w w':=by
 obtain⟨K,v0,T,nb,wc,h1,h2,h3,h4,rfl,rfl,h5,nn,sz,f,h6,h7,h8,h9⟩:=h
 have hm:zs[i]∈zs++addrs n v0:=List.mem_append_left _ (List.getElem_mem hi)
 have hne:=h4.sub _ hm
 obtain⟨b,hb⟩:∃b,K.f zs[i]=some b:=by
  cases e:K.f zs[i] with
  |none=>exact absurd e hne
  |some b=>exact⟨b,rfl⟩
 have hw:=h1.win _ b hb
 have hgn:=h1.gen
 have hgn':K.sf.gen=K.gen:=rfl
 obtain⟨a,ha⟩:=Int.eq_ofNat_of_zero_le hw.1
 obtain⟨w',sz',hrun,hsz',hmap,hgr⟩:=h6.map.del a (by omega) ty
 have hnd:zs.Nodup:=(List.nodup_append.1 h4.nd).1
 have hnt:zs[i]∉zs.take i:=fun q=>by
  obtain⟨k,hk,e⟩:=List.getElem_of_mem q
  rw[List.getElem_take] at e
  rw[List.length_take] at hk
  have:=(List.getElem_inj hnd).1 e
  omega
 have hfs:(f (a:Int)).isSome=true:=by
  rw[<-ha,h9,if_neg hnt,hb];rfl
 rw[if_pos hfs] at hsz'
 have hk:Jg (fun x=>x=K.mb) w w':=(Jg.refl _ w).grown hgr fun k e=>Or.inl (Option.some.inj e).symm
 refine⟨w',by rw[ha];exact hrun,⟨K,v0,T,nb,wc,h1,h2,h3,h4,rfl,rfl,h5.trans (hk.below h5.size fun x e=>by rw[show x=K.mb from e];exact h1.mb),nn,sz',_,⟨hk.row h6.row fun e=>h6.ne e,hmap⟩,h7,by omega,fun x=> ?_⟩,hk⟩
 rw[h9 x,List.take_succ_eq_append_getElem hi,<-ha]
 by_cases e:x=zs[i]
 ·rw[if_pos e,if_pos (by rw[e];exact List.mem_append_right _ (List.mem_singleton.2 rfl))]
 ·rw[if_neg e]
  by_cases e2:x∈zs.take i
  ·rw[if_pos e2,if_pos (List.mem_append_left _ e2)]
  ·rw[if_neg e2,if_neg fun q=>by
    rcases List.mem_append.1 q with q|q
    ·exact e2 q
    ·exact e (List.mem_singleton.1 q)]
theorem LD.opens {p:Pt} {zs:List Int} {mb:Nat} (h:LD X G n p zs zs.length sb mb w0 j m w):
  Calls Tryz.prog 22 #[.agg #[.int .i64 3,.int .i64 4,.int .i64 3],ldV sb,ptV p,.int .i64 ((n+1:Nat):Int)] w fun e w'=>∃tb2,e=.returned (.tuple #[.pointer (some ⟨tb2,0,none⟩),.int .i64 0])/\LP X G n tb2 sb w0 j m w'/\Below w.heap.size w w':=by
 obtain⟨K,v0,T,nb,wc,h1,h2,h3,h4,rfl,rfl,h5,nn,sz,f,h6,h7,h8,h9⟩:=h
 have hn:=h1.inv.st.ok.n8
 refine(JgP 3 4 3 (.func 11) #[.pointer (some ⟨K.sb,0,none⟩)] #[] p.a p.g p.s ((n+1:Nat):Int) w (by omega) (by omega)).mono ?_
 rintro e w' ⟨rfl,ht,hv,hX⟩
 have hz:=h5.size
 rw[List.take_length] at h9
 have hdj:∀a∈addrs n v0,a∉zs:=fun a ha q=>(List.nodup_append.1 h4.nd).2.2 a q a ha rfl
 have hin:∀a b,f a=some b->K.f a=some b:=fun a b hab=>by
  rw[h9] at hab
  split at hab
  ·cases hab
  ·exact hab
 refine⟨_,rfl,⟨_,_,_,h1.reopen h2 h3 ht hv (h6.on hX) (h5.trans (hX.mono hz)) (by omega) (by omega) (fun a ha=>by rw[h9,if_neg (hdj a ha)]) hin h7,?_,rfl,rfl⟩,hX⟩
 show Dom X f ([]++addrs n _)
 rw[List.nil_append,JcP]
 exact h4.drop h9
end
open Go.RowKit
attribute [local go_sem ↓] Go.wp_at_zero Go.wp_at_succ
def JaG:List Ent:=[⟨[107],[118]⟩]
theorem JlP:Ys [] [⟨1,[107],[118],0⟩]=JaG:=by rfl
theorem Jfv:ZO (JO JaG)=(JaG,0):=by rfl
theorem JgT:(JO JaG).length=4:=by rfl
theorem JmU:ZI JaG:=by intro e he;simp[JaG] at he;subst he;simp
theorem JgU:Je Ent.key JaG:=by simp[Je,JaG]
theorem JqL:Jz JaG [107]=some [118]:=by rfl
theorem JqK:Jz JaG [122]=none:=by rfl
theorem Joc:(Upd.mk 1 [107] [118] 0).check=0:=by rfl
theorem Jbd {tb b sb mb n sz:Nat} {F B L:Int} {root:Nat} {h':Int} {gone:Value} {fl le:Int} {kn:Bool} {lf cs us ks:Value} {f:Int->Option Blk} {gen:Nat} (at':Nat) (bk:Blk) (ps:Nat) (w:World)
  (ht:Yj w tb F B L (.func (.func 11) #[.pointer (some ⟨sb,0,none⟩)] #[]) root h' gone fl le) (hv:Jq w b kn at' bk.gen ps false lf cs us ks) (hs:Js w sb mb n sz f gen 0) (ha:at'<1000000) (hf:f (at':Int)=some bk) (hk:bk.kind=4) (hp:bk.pay.length<=100000) (es:List Ent) (hpe:ZO bk.pay=(es,0)):Jho tb b es true w:=by
 intro w1 hX
 have hl:Jo6 11 #[.pointer (some ⟨sb,0,none⟩)] #[] at' bk.gen ps bk.kind bk.pay 0 w1:=
  ⟨enters_of Tryz.func11 (by kernel_rfl) rfl,fun w2 hX2=>by
   have:=Jje at' ps bk w2 ((hs.on hX).on hX2) ha hf
   exact this⟩
 refine(Jk9 bk.kind bk.pay 1 w1 (ht.on hX) (hv.on hX) hl hk rfl hp 0 es hpe).mono ?_
 rintro e w2 ⟨(⟨-,b',a,c,rfl,-,hv2,hb2⟩|⟨h0,-⟩),hX2⟩
 ·exact⟨⟨b',true,at',bk.gen,ps,a,c,_,_,_,rfl,hv2,hb2⟩,hX2⟩
 ·exact absurd rfl h0
theorem Jpd (w:World):Calls Tryz.prog 12 #[] w fun e w'=>e=.returned (.bool true)/\Below w.heap.size w w':=by
 have hmm:= @run_makeMap Tryz.prog
 have s1:(⟨#[107]⟩:ByteArray)=S [107]:=rfl
 have s2:(⟨#[118]⟩:ByteArray)=S [118]:=rfl
 have s3:(⟨#[122]⟩:ByteArray)=S [122]:=rfl
 go_enter Tryz.func12,Tryz.ntmps12
 go_upto_region 2 with(fail)
 obtain⟨W,hW⟩:∃W,W=(w.alloc (.map #[] 0)).alloc (.cells #[.map (some w.heap.size),.int .u64 0,.int .i64 0] 27):=⟨_,rfl⟩
 have hb0:Below w.heap.size w W:=by rw[hW];exact((Below.refl _ w).alloc (Nat.le_refl _) _).alloc (by simp) _
 have hS:Js W (w.heap.size+1) w.heap.size 0 0 (fun _=>none) 0 0:=by
  rw[hW]
  exact⟨Jc.new' _ _ _ _ (by simp),(Zg.made w).on ((Below.refl _ _).alloc (Nat.le_refl _) _)⟩
 rw[<-hW]
 clear hW
 obtain⟨sb,hsb⟩:∃sb,sb=w.heap.size+1:=⟨_,rfl⟩
 obtain⟨mb,hmb⟩:∃mb,mb=w.heap.size:=⟨_,rfl⟩
 rw[<-hsb] at hS⊢
 rw[<-hmb] at hS
 have hsb':w.heap.size<=sb:=by omega
 have hmb':w.heap.size<=mb:=by omega
 clear hsb hmb
 replace hS:=Lib.hid hS
 go_wp2_with fail
 go_wp2_with fail
 refine(Jl (JbS W) W.heap.size W (Below.refl _ _) (Nat.le_refl _)).mono ?_
 rintro e w1 ⟨rfl,hX_w1,-,-,-,hz_w1⟩
 replace hS:=Lib.hid (hS.out.kept hX_w1 (Nat.le_refl _))
 replace hb0:=hb0.trans (hX_w1.mono hb0.size)
 clear hX_w1
 go_wp2_with fail
 refine(JlK 3 4 3 (.func 11) #[.pointer (some ⟨sb,0,none⟩)] #[] w1).mono ?_
 rintro e w2 ⟨rfl,ht2,hv2,hX2⟩
 obtain⟨tb,htb⟩:∃tb,tb=w1.heap.size+1+1:=⟨_,rfl⟩
 obtain⟨b,hbb⟩:∃b,b=w1.heap.size+1:=⟨_,rfl⟩
 rw[<-htb] at ht2⊢
 rw[<-hbb] at ht2 hv2
 have htb':w1.heap.size<=tb:=by omega
 have hbb':w1.heap.size<=b:=by omega
 clear htb hbb
 have hT2:=Lib.hid ht2
 have hV2:=Lib.hid hv2
 have HS2:=Lib.hid (hS.out.on hX2)
 have hb2:=hb0.trans (hX2.mono hb0.size)
 have hbx:=hb0.size
 have hsl:=hS.out.row.lt
 have hml:=hS.out.map.lt
 clear ht2 hv2 hX2 hS hb0
 go_upto_region 3 with(fail)
 rw[s1,s2]
 go_wp2_with fail
 refine(Jlp 1 [107] [118] 0 w2 hT2.out hV2.out (es:=[]) ⟨_,rfl,_,_,rfl,Or.inl rfl,by simp,by simp,fun _=>rfl⟩ (by simp) (by simp[Je]) (by intro e he;simp at he) (by decide) (by decide) Joc (by rw[JlP];simp[JaG])).mono ?_
 rintro e w3 ⟨rfl,⟨a3,c3,hv3,hb3⟩,ht3,hK3⟩
 rw[JlP] at hv3 hb3
 have hw1:sb<w1.heap.size/\mb<w1.heap.size:=⟨hsl,hml⟩
 have HS3:=Lib.hid (show Js w3 sb mb 0 0 (fun _=>none) 0 0 from⟨hK3.row HS2.out.row (by show¬sb=b;omega),by
  have hh:=HS2.out.map
  obtain⟨D,⟨es0,clock0,hh1,hh2⟩,hh3⟩:=hh
  exact⟨D,⟨es0,clock0,(hK3.block mb HS2.out.map.lt (by show¬mb=b;omega)).trans hh1,hh2⟩,hh3⟩⟩)
 have hKa:=(Jg.of_below (S:=fun x=>w.heap.size<=x) hb2).trans hK3 (fun x hx=>Or.inl (by show w.heap.size<=x;have:x=b:=hx;omega))
 have hT3:=Lib.hid ht3
 have hV3:=Lib.hid hv3
 have HB3:=Lib.hid hb3
 clear ht3 hv3 hb3 hK3 hb2 HS2 hT2 hV2
 go_upto_region 4 with(fail)
 go_wp2_with fail
 refine(JjH 0 w3 hT3.out hV3.out HB3.out rfl (by simp[JaG]) JmU HS3.out (by decide) rfl (fun j hj=>by omega) (by decide) (by decide)).mono ?_
 rintro e w4 ⟨rfl,hs4,⟨nb,hnb,ht4,hv4⟩,hK4⟩
 have hKb:=hKa.trans hK4 (fun x hx=>Or.inl (by show w.heap.size<=x;have:x=sb\/x=mb\/x=tb:=hx;omega))
 have hT4:=Lib.hid ht4
 have hV4:=Lib.hid hv4
 have HS4:=Lib.hid hs4
 clear ht4 hv4 hs4 hK4 hT3 hV3 HB3 HS3 hKa
 go_upto_region 5 with(fail)
 obtain⟨W5,hW5⟩:∃W5,W5=w4.alloc (.cells #[.int .i64 0,.int .u64 1,.int .u32 0] 54):=⟨_,rfl⟩
 have hX5:Below w4.heap.size w4 W5:=by rw[hW5];exact(Below.refl _ w4).alloc (Nat.le_refl _) _
 have hP5:=Lib.hid (show Y6 W5 54 w4.heap.size [.int .i64 0,.int .u64 1,.int .u32 0] from⟨by rw[hW5];exact Jc.new w4 _ _⟩)
 rw[<-hW5]
 clear hW5
 have hT5:=Lib.hid (hT4.out.on hX5)
 have hV5:=Lib.hid (hV4.out.on hX5)
 have HS5:=Lib.hid (HS4.out.on hX5)
 have hK5:=hKb.on hX5
 clear hT4 hV4 HS4 hKb hX5
 have p0:W5.cell? ⟨w4.heap.size,0,none⟩=some (.int .i64 0):=hP5.out.cell 0
 have p1:W5.cell? ⟨w4.heap.size,1,none⟩=some (.int .u64 1):=hP5.out.cell 1
 have p2:W5.cell? ⟨w4.heap.size,2,none⟩=some (.int .u32 0):=hP5.out.cell 2
 go_cut [7,8] (fun s7 s8 wx=>∃ub vb,s7=.pointer (some ⟨ub,0,none⟩)/\s8=.int .i64 0/\Yj wx ub 3 4 3 (.func (.func 11) #[.pointer (some ⟨sb,0,none⟩)] #[]) vb 1 (.slice none 0 0) 0 0/\Jq wx vb true 0 1 0 false (.slice none 0 0) (.slice none 0 0) (.slice none 0 0) (.slice none 0 0)/\Below W5.heap.size W5 wx)
 case first=>
  go_region_law (first|(go_simp;go_at_call 18;refine(Jl (JbS _) W5.heap.size W5 (by go_grown) (by go_grown)).mono ?_;rintro e w6 ⟨rfl,hX6,-,-,-,hz6⟩;have q0:=Ja hX6 p0;have q1:=Ja hX6 p1;have q2:=Ja hX6 p2)|(go_simp;go_at_call 22;refine(JgP 3 4 3 (.func 11) #[.pointer (some ⟨sb,0,none⟩)] #[] 0 1 0 1 _ (by decide) (by decide)).mono ?_;rintro e w7 ⟨rfl,ht7,hv7,hX7⟩))
  all_goals
   have hX:=hX6.trans (hX7.mono hz6)
   go_wp2_with fail
   go_meet
   exact⟨_,_,rfl,rfl,ht7,hv7,hX⟩
 case rest=>
 obtain⟨ub,vb,rfl,rfl,hu,hv,hX⟩:=hcut
 obtain⟨w7,hw7⟩:∃w7,w7=wc:=⟨_,rfl⟩
 subst hw7
 have hU:=Lib.hid hu
 have hVu:=Lib.hid hv
 have hT:=Lib.hid (hT5.out.on hX)
 have hV:=Lib.hid (hV5.out.on hX)
 have HS:=Lib.hid (HS5.out.on hX)
 have hK:=hK5.on hX
 clear hu hv hX hT5 hV5 HS5 hK5 hP5 p0 p1 p2
 go_upto_region 6 with(fail)
 rw[s1]
 go_wp2_with fail
 refine(Jjw [107] JaG true w7 hU.out (Jbd (n:=1) (sz:=1) 0 ⟨4,JO JaG,1⟩ 0 w7 hU.out hVu.out HS.out (by decide) (by simp) rfl (by rw[JgT];decide) JaG Jfv) JgU (by simp[JaG])).mono ?_
 rintro e w8 ⟨rfl,hX8⟩
 have hT8:=Lib.hid (hT.out.on hX8)
 have hV8:=Lib.hid (hV.out.on hX8)
 have HS8:=Lib.hid (HS.out.on hX8)
 have hK8:=hK.on hX8
 clear hX8 hU hVu hT hV HS hK
 rw[JqL]
 simp only[Option.getD_some,Option.isSome_some,if_true]
 go_upto_region 7 with(fail)
 rw[s3]
 go_wp2_with fail
 refine(Jjw [122] JaG true w8 hT8.out (Jbd (n:=1) (sz:=1) 0 ⟨4,JO JaG,1⟩ 0 w8 hT8.out hV8.out HS8.out (by decide) (by simp) rfl (by rw[JgT];decide) JaG Jfv) JgU (by simp[JaG])).mono ?_
 rintro e w9 ⟨rfl,hX9⟩
 have hT9:=Lib.hid (hT8.out.on hX9)
 have HS9:=Lib.hid (HS8.out.on hX9)
 have hK9:=hK8.on hX9
 clear hX9 hT8 hV8 HS8 hK8
 rw[JqK]
 simp only[Option.getD_none,Option.isSome_none,if_true]
 go_upto_region 8 with(fail)
 have c0:=HS9.out.c0
 have hl:=HS9.out.map.len 3
 have hbk:w.heap.size<=w9.heap.size:=hK9.size
 go_wp2_with fail
 refine(Jl (JfB w9 hT9.out) w9.heap.size w9 (Below.refl _ _) (Nat.le_refl _)).mono ?_
 rintro e w10 ⟨rfl,hX10,-,-,-,hz10⟩
 have c0':=(HS9.out.on hX10).c0
 have hl':=(HS9.out.on hX10).map.len 3
 have hB:Below w.heap.size w w10:=(hK9.on hX10).below (Nat.le_refl _) (fun x hx=>hx)
 go_wp2_with fail
 go_ret
 exact⟨rfl,hB⟩
open Go.RowKit
attribute [local go_sem ↓] Go.wp_at_zero Go.wp_at_succ
theorem JeJ {P:Program} (w:World) {ops:Array Oper} {rest:List Oper} {o:Oper} {a:Act} {Q:Exit->Act->World->Prop} (hg:o.guard=none) (m x:Operand) (t k:TypeId) (hop:o.op=Op.call {callee:=Callee.builtin Builtin.delete,args:= #[m,x],argTypes:= #[t,k]})
  (mv xv:Value) (hm:a.eval m=mv) (hx:a.eval x=xv) (R:World->Prop) (hr:∀ty,∃w',(Builtin.delete_ #[t,k] ty #[mv,xv]).run P w=.ok (.tuple #[]) w'/\R w') (hK:∀w',R w'->wpList P ops Q rest (a.put o.dst (.tuple #[])) w'):wpList P ops Q (o::rest) a w:=by
 refine wpList_plain hg fun K' hK'=> ?_
 obtain⟨w',hrun,hR⟩:=hr o.type
 unfold Oper.wp
 simp[execOp,hop,resolve,invoke,builtin,hm,hx,hrun,Result.andThen]
 exact hK' _ _ (hK w' hR)
theorem JqM {w:World} {B:Nat} {a:Option Addr} {c:Nat} {zs:List Int} (h:w.ownsRow B 3 1 (.slice a zs.length c) zs.length (zs.map fun x=>.int .i64 x)) (i:Nat) (hi:i<zs.length):∃g,a=some ⟨g,0,none⟩/\g<w.heap.size/\w.cell? ⟨g,i,none⟩=some (.int .i64 zs[i]):=by
 obtain⟨g,e,-,h1,h2⟩:=Yk h (by omega)
 exact⟨g,e,h1,h2 i _ (by rw[List.getElem?_map,List.getElem?_eq_getElem hi];rfl)⟩
theorem JpL:(Tryz.prog.info? 72).map (fun i=>(i.zero,i.size,i.bytes))=some (some (.agg #[.string ByteArray.empty,.string ByteArray.empty]),2,32):=by kernel_rfl
theorem JeQ (v:Value) (l:List Jbm) (slo shi:List UInt8) (w:World) (hl:Jmd w v l):
  Calls Tryz.prog 4 #[v,.string (S slo),.string (S shi)] w fun e w'=>e=.returned (.bool true)/\Below w.heap.size w w':=by
 obtain⟨⟨ao,c,rfl,hsl,hc1,hc2⟩,hok⟩:=hl
 have hmm:= @run_makeMap Tryz.prog
 have hmin:=fun ts t a b w=>JiE (P:=Tryz.prog) ts t a b w
 have hmax:=fun ts t a b w=>Jbq (P:=Tryz.prog) ts t a b w
 have hm1:Jkc (l.length:Int) 120=((min l.length 120:Nat):Int):=Jin l.length 120
 obtain⟨m,hm⟩:∃m,m=min l.length 120:=⟨_,rfl⟩
 rw[<-hm] at hm1
 have hcut:=fun w=>Jrp ao l.length c m (by omega) hc1 w
 obtain⟨L,hL⟩:∃L,L=l.take m:=⟨_,rfl⟩
 have hLm:L.length=m:=by rw[hL,List.length_take];omega
 have HL:=Lib.hid (show JC Jbm.cells 4 w ao L by rw[hL];exact Jq6 hsl m)
 have HO:=Lib.hid (show∀x∈L,x.Ok by rw[hL];exact fun u hu=>hok u (List.mem_of_mem_take hu))
 have hm120:m<=120:=by omega
 clear hok hsl hL
 have HLm:=Lib.hid hLm
 clear hLm hm
 go_enter Tryz.func4,Tryz.ntmps4
 go_upto_region 2 with(fail)
 obtain⟨W,hW⟩:∃W,W=(w.alloc (.map #[] 0)).alloc (.cells #[.map (some w.heap.size),.int .u64 0,.int .i64 0] 27):=⟨_,rfl⟩
 have hb0:Below w.heap.size w W:=by rw[hW];exact((Below.refl _ w).alloc (Nat.le_refl _) _).alloc (by simp) _
 have hS:Js W (w.heap.size+1) w.heap.size 0 0 (fun _=>none) 0 0:=by
  rw[hW]
  exact⟨Jc.new' _ _ _ _ (by simp),(Zg.made w).on ((Below.refl _ _).alloc (Nat.le_refl _) _)⟩
 rw[<-hW]
 clear hW
 obtain⟨sb,hsb⟩:∃sb,sb=w.heap.size+1:=⟨_,rfl⟩
 obtain⟨mb,hmb⟩:∃mb,mb=w.heap.size:=⟨_,rfl⟩
 rw[<-hsb] at hS⊢
 rw[<-hmb] at hS
 have hsb':w.heap.size<=sb:=by omega
 have hmb':w.heap.size<=mb:=by omega
 clear hsb hmb
 replace hS:=Lib.hid hS
 go_wp2_with fail
 go_wp2_with fail
 refine(Jl (JbS W) W.heap.size W (Below.refl _ _) (Nat.le_refl _)).mono ?_
 rintro e w1 ⟨rfl,hX_w1,-,-,-,hz_w1⟩
 replace hS:=Lib.hid (hS.out.kept hX_w1 (Nat.le_refl _))
 replace hb0:=hb0.trans (hX_w1.mono hb0.size)
 clear hX_w1
 go_wp2_with fail
 refine(JlK 3 4 3 (.func 11) #[.pointer (some ⟨sb,0,none⟩)] #[] w1).mono ?_
 rintro e w2 ⟨rfl,ht2,hv2,hX2⟩
 obtain⟨tb,htb⟩:∃tb,tb=w1.heap.size+1+1:=⟨_,rfl⟩
 obtain⟨b,hbb⟩:∃b,b=w1.heap.size+1:=⟨_,rfl⟩
 rw[<-htb] at ht2⊢
 rw[<-hbb] at ht2 hv2
 have htb':w1.heap.size<=tb:=by omega
 have hbb':w1.heap.size<=b:=by omega
 clear htb hbb
 have hbx:=hb0.size
 have HV2:=Lib.hid (show LP True 0 0 tb sb w 0 [] w2 from LP.new (X:=True) ht2 hv2 (hS.out.on hX2) (hb0.trans (hX2.mono hb0.size)) (by omega) (by omega) hsb' hmb')
 clear ht2 hv2 hX2 hS hb0 hsb' hmb' htb' hbb' hbx mb
 go_upto_region 4 with(fail)
 go_wp2_with fail
 refine(Jpd w2).mono ?_
 rintro e w3 ⟨rfl,hX3⟩
 have HV3:=Lib.hid (HV2.out.on hX3)
 clear hX3 HV2
 go_wp2_with fail
 go_loopw [61,8,9] (fun i s8 s9 wr=>∃(j jj n tb:Nat) (ms:List Ent) (ma:Option Addr) (mc:Nat),i=.int .i64 j/\j<=m/\jj<=j/\s8=.pointer (some ⟨tb,0,none⟩)/\s9=.slice ma ms.length mc/\Hid (LP True (485*j) n tb sb w jj ms wr/\SlE wr (.slice ma ms.length mc) ms)) (fun i _ _ _=>m- (intOf i).toNat)
 case atStart=>exact⟨0,0,0,tb,[],none,0,rfl,Nat.zero_le _,Nat.le_refl _,rfl,rfl,Lib.hid ⟨HV3.out,SlE.nil _⟩⟩
 case round=>
  clear HV3
  obtain⟨j,jj,n,tb,ms,ma,mc,rfl,hj,hjj,rfl,rfl,HJ⟩:=hrel
  have hj0:(0:Int)<=(j:Int):=Int.natCast_nonneg _
  by_cases hjm:j<m
  ·have hj1:(j:Int)<(m:Int):=by omega
   have hjl:j<L.length:=by rw[HLm.out];exact hjm
   obtain⟨b,off,ea,hb,t0,t1,t2,t3⟩:=JC.cellsQ HL.out j hjl
   subst ea
   have hB:=HJ.out.1.l1.below
   have q0:=(Jh hB hb _).trans t0
   have q1:=(Jh hB hb _).trans t1
   have q2:=(Jh hB hb _).trans t2
   have q3:=(Jh hB hb _).trans t3
   have hxo:=HO.out _ (List.getElem_mem hjl)
   clear t0 t1 t2 t3 hB
   generalize L[j]=x at*
   go_upto_region 9 with(fail)
   obtain⟨W4,hW4⟩:∃W4,W4=wr.alloc (.cells #[.int .i64 x.dv,.int .i64 x.kv,.string (S x.val),.int .u64 x.dl] 51):=⟨_,rfl⟩
   have hX4:Below wr.heap.size wr W4:=by rw[hW4];go_grown
   have z0:W4.cell? ⟨wr.heap.size,0,none⟩=some (.int .i64 x.dv):=by rw[hW4,World.cell?_alloc_at _ _ _ _ rfl];rfl
   have z1:W4.cell? ⟨wr.heap.size,1,none⟩=some (.int .i64 x.kv):=by rw[hW4,World.cell?_alloc_at _ _ _ _ rfl];rfl
   have z2:W4.cell? ⟨wr.heap.size,2,none⟩=some (.string (S x.val)):=by rw[hW4,World.cell?_alloc_at _ _ _ _ rfl];rfl
   have z3:W4.cell? ⟨wr.heap.size,3,none⟩=some (.int .u64 x.dl):=by rw[hW4,World.cell?_alloc_at _ _ _ _ rfl];rfl
   have HJ4:=Lib.hid (And.intro (HJ.out.1.on hX4) (HJ.out.2.kept hX4 (Nat.le_refl _)))
   obtain⟨r,hr⟩:∃r,r=(ZE 0 x.dv).toNat% 7:=⟨_,rfl⟩
   have hr7:(ZE 0 x.dv).tmod 7=(r:Int):=by
    have hb0:0<=ZE 0 x.dv:=by unfold ZE;split<;>omega
    rw[Int.tmod_eq_emod_of_nonneg hb0,hr];omega
   have hw7:IntKind.i64.wrap (r:Int)=(r:Int):=IntWalk.i64_in _ (by omega)
   rw[<-hW4]
   clear hW4 hX4 q0 q1 q2 q3 HJ hb hr
   go_upto_if 69 with(fail)
   by_cases hr6:r=6
   ·have hd6:((r:Int)==6)=true:=by simp;omega
    have HHT:=Lib.hid HJ4.out.1.height
    go_wp2_with fail
    refine HHT.out.mono ?_
    rintro e w5 ⟨rfl,hX5⟩
    have HJ5:=Lib.hid (And.intro (HJ4.out.1.on hX5) (HJ4.out.2.kept hX5 (Nat.le_refl _)))
    have HCM:=Lib.hid (HJ5.out.1.commit (D:=485) (by omega) (by omega) (Or.inr ⟨by omega,rfl⟩))
    clear hX5 HHT z0 z1 z2 z3 HJ4
    go_wp2_with fail
    refine HCM.out.mono ?_
    rintro e w6 ⟨⟨p,ga,gc,zs,rfl,hzl,hown,hc6⟩,ha6⟩
    have HC6:=Lib.hid (And.intro hc6 (And.intro hown (ha6.sl HJ5.out.2)))
    clear hc6 hown ha6 HCM HJ5
    go_upto_region 12 with(fail)
    obtain⟨W7,hW7⟩:∃W7,W7=w6.alloc (.cells #[.int .i64 p.a,.int .u64 p.g,.int .u32 p.s] 54):=⟨_,rfl⟩
    have hX7:Below w6.heap.size w6 W7:=by rw[hW7];go_grown
    have HP7:=Lib.hid (show Jc W7 54 w6.heap.size [.int .i64 p.a,.int .u64 p.g,.int .u32 p.s] by rw[hW7];exact Jc.new _ _ _)
    obtain⟨pb,hpb⟩:∃pb,pb=w6.heap.size:=⟨_,rfl⟩
    rw[<-hpb] at HP7⊢
    have HC7:=Lib.hid (And.intro (HC6.out.1.on hX7) (And.intro (Ji HC6.out.2.1 hX7) (HC6.out.2.2.kept hX7 (Nat.le_refl _))))
    rw[<-hW7]
    clear hW7 hX7 hpb HC6
    have HDY:=Lib.hid HC7.out.1.dirty
    go_wp2_with fail
    refine HDY.out.mono ?_
    rintro e w8 ⟨rfl,hX8⟩
    obtain⟨mb,hd8⟩:=(HC7.out.1.on hX8).start
    have HP8:=Lib.hid (HP7.out.on hX8)
    have HC8:=Lib.hid (And.intro hd8 (And.intro (Ji HC7.out.2.1 hX8) (HC7.out.2.2.kept hX8 (Nat.le_refl _))))
    clear hX8 hd8 HC7 HDY HP7
    go_upto_region 15 with(fail)
    go_loopw [89] (fun i wq=>∃k:Nat,i=.int .i64 k/\k<=zs.length/\Hid (LD True (485*j+485) n p zs k sb mb w jj ms wq)/\Hid (Jg (fun x=>x=mb) w8 wq)) (fun i _=>zs.length- (intOf i).toNat)
    case atStart=>exact⟨0,rfl,Nat.zero_le _,Lib.hid HC8.out.1,Lib.hid (Jg.refl _ _)⟩
    case round=>
     obtain⟨k,rfl,hk,HD,HKQ⟩:=hrel
     have hk0:(0:Int)<=(k:Int):=Int.natCast_nonneg _
     by_cases hkz:k<zs.length
     ·have hk1:(k:Int)<(zs.length:Int):=by omega
      have hown:=YK HC8.out.2.1 HKQ.out fun g e q=>by
       obtain⟨cu,hcu⟩:=Jt HC8.out.2.1 g e
       rw[show g=mb from q] at hcu
       exact HC8.out.1.noRow hcu
      obtain⟨g,ea,hgl,hgc⟩:=JqM hown k hkz
      have hs0:=HD.out.c0
      have HDL:=Lib.hid (fun ty=>HD.out.del (by omega) hkz ty)
      have HG:=Lib.hid ea
      clear hown
      subst ea
      generalize zs[k]=z at*
      go_wp2_with (at_delete;go_must (refine JeJ _ rfl _ _ 24 3 rfl _ _ rfl rfl (fun w'=>LD True (485*j+485) n p zs (k+1) sb mb w jj ms w'/\Jg (fun x=>x=mb) wr w') HDL.out ?_;rintro w9 ⟨h9,hk9⟩;have HD9:=Lib.hid h9;have HK9:=Lib.hid (HKQ.out.trans' hk9);clear h9 hk9))
      exact⟨⟨k+1,by go_num,by omega,HD9,HK9⟩,by simp[intOf];omega⟩
     ·obtain rfl:k=zs.length:=by omega
      have HOP:=Lib.hid (fun w' (hb:Below wr.heap.size wr w')=>(HD.out.on hb).opens)
      have hnm:∀ {E:TypeId} {x:Nat} {cur:List Value},Jc w8 E x cur->¬x=mb:=fun hr q=>HC8.out.1.noRow (q▸hr)
      have hp9:=HKQ.out.row HP8.out (hnm HP8.out)
      have HM9:=Lib.hid ((HC8.out.1.aft HKQ.out).sl HC8.out.2.2)
      have p0:=hp9.cell 0
      have p1:=hp9.cell 1
      have p2:=hp9.cell 2
      clear hnm hp9 HC8 HP8 HD HKQ
      go_upto_region 20 with(fail)
      have hdr:Below wr.heap.size wr wr.drew:=Jb (Below.refl _ _)
      have sB:∀ {w4:World},Below wr.heap.size wr w4->(w4.cell? ⟨pb,0,none⟩=some (.int .i64 p.a)/\w4.cell? ⟨pb,1,none⟩=some (.int .u64 p.g)/\w4.cell? ⟨pb,2,none⟩=some (.int .u32 p.s)):=fun hb=>⟨Ja hb p0,Ja hb p1,Ja hb p2⟩
      have s0:=sB hdr
      go_region_held3 (fun w'=>(w'.cell? ⟨pb,0,none⟩=some (.int .i64 p.a)/\w'.cell? ⟨pb,1,none⟩=some (.int .u64 p.g)/\w'.cell? ⟨pb,2,none⟩=some (.int .u32 p.s)))
       (with_reducible first|exact s0|exact s4|exact s7)
       (first
        |(go_simp;go_at_call 18;refine(JbS _).mono ?_;rintro e w4 ⟨rfl,hX4⟩;have HX4:=Lib.hid (hdr.trans (hX4.mono (Nat.le_refl _)));clear hX4;have s4:=sB HX4.out)
        |(go_simp;go_at_call 22;refine(HOP.out w4 HX4.out).mono ?_;rintro e w7 ⟨tb2,rfl,h7,hX7⟩;have HL7:=Lib.hid h7;have HX7:=Lib.hid (HX4.out.trans (hX7.mono HX4.out.size));clear h7 hX7;have s7:=sB HX7.out))
      all_goals
       have HF7:=Lib.hid (And.intro (HL7.out.more (G':=485*(j+1)) (by omega)) (HM9.out.kept HX7.out (Nat.le_refl _)))
       clear s0 s4 s7 sB hdr p0 p1 p2 HX4 HX7 HL7 HOP HM9
       go_wp2_with fail
       exact⟨⟨j+1,jj,n,tb2,ms,ma,mc,by go_num,by omega,by omega,rfl,rfl,HF7⟩,by simp[intOf];omega⟩
   ·have hd6:((r:Int)==6)=false:=by simp;omega
    go_wp2_with fail
    refine(Jnz x.dv x.kv x.val x.dl W4 hxo.dv hxo.kv hxo.val).mono ?_
    rintro e w5 ⟨rfl,hX5⟩
    have HU:=Lib.hid (Jpe x.dv x.kv x.val x.dl hxo.dl)
    have HJ5:=Lib.hid (And.intro (HJ4.out.1.on hX5) (HJ4.out.2.kept hX5 (Nat.le_refl _)))
    generalize JcT x.dv x.kv x.val x.dl=u at*
    clear hX5 HJ4 z0 z1 z2 z3 hxo
    go_upto_region 24 with(fail)
    obtain⟨W6,hW6⟩:∃W6,W6=(w5.alloc (.cells #[.int .u8 u.kind,.string (S u.key),.string (S u.val),.int .u64 u.delta] 39)).alloc (.cells #[.int .u8 u.kind,.string (S u.key),.string (S u.val),.int .u64 u.delta] 62):=⟨_,rfl⟩
    have hX6:Below w5.heap.size w5 W6:=by rw[hW6];go_grown
    have HR6:=Lib.hid (show Jc W6 39 w5.heap.size [.int .u8 u.kind,.string (S u.key),.string (S u.val),.int .u64 u.delta] by
     rw[hW6]
     exact(Jc.new w5 _ [.int .u8 u.kind,.string (S u.key),.string (S u.val),.int .u64 u.delta]).on ((Below.refl _ _).alloc (Nat.le_refl _) _))
    have HR6':=Lib.hid (show Jc W6 62 (w5.heap.size+1) [.int .u8 u.kind,.string (S u.key),.string (S u.val),.int .u64 u.delta] by
     rw[hW6]
     exact Jc.new' _ _ _ _ (by simp))
    have HJ6:=Lib.hid (And.intro (HJ5.out.1.on hX6) (HJ5.out.2.kept hX6 (Nat.le_refl _)))
    rw[<-hW6]
    clear hW6 hX6 HJ5
    have y0:W6.cell? ⟨w5.heap.size,0,none⟩=some (.int .u8 u.kind):=HR6.out.cell 0
    have y1:W6.cell? ⟨w5.heap.size,1,none⟩=some (.string (S u.key)):=HR6.out.cell 1
    have y2:W6.cell? ⟨w5.heap.size,2,none⟩=some (.string (S u.val)):=HR6.out.cell 2
    have y3:W6.cell? ⟨w5.heap.size,3,none⟩=some (.int .u64 u.delta):=HR6.out.cell 3
    have HAP:=Lib.hid (HJ6.out.1.apply (u:=u) (by omega) (by omega) HU.out)
    go_wp2_with fail
    refine HAP.out.mono ?_
    rintro e w7 ⟨rfl,⟨n1,hj7⟩,ha7⟩
    have HJ7:=Lib.hid (And.intro hj7 (ha7.sl HJ6.out.2))
    have HR7:=Lib.hid (ha7.row (by decide) (by decide) (by decide) (by decide) HR6.out)
    have HR7':=Lib.hid (ha7.row (by decide) (by decide) (by decide) (by decide) HR6'.out)
    obtain⟨hri,hle⟩:=HJ6.out.1.l1.rise
    have HON:=Lib.hid (Jku ma ms.length mc ms u.kind u.key u.val u.delta w7 rfl HJ7.out.2 hri (by omega) HU.out.wf.1 HU.out.wf.2)
    have y0':w7.cell? ⟨w5.heap.size+1,0,none⟩=some (.int .u8 u.kind):=HR7'.out.cell 0
    have y1':w7.cell? ⟨w5.heap.size+1,1,none⟩=some (.string (S u.key)):=HR7'.out.cell 1
    have y2':w7.cell? ⟨w5.heap.size+1,2,none⟩=some (.string (S u.val)):=HR7'.out.cell 2
    have y3':w7.cell? ⟨w5.heap.size+1,3,none⟩=some (.int .u64 u.delta):=HR7'.out.cell 3
    clear hj7 ha7 y0 y1 y2 y3 HR6 HR6' HJ6 HAP
    go_upto_region 26 with(fail)
    go_wp2_with fail
    refine HON.out.mono ?_
    rintro e w8 ⟨⟨na,nc,rfl,hs8⟩,hX8⟩
    obtain⟨ms',hms'⟩:∃ms',ms'=onE ms u:=⟨_,rfl⟩
    have hms0:onE ms ⟨u.kind,u.key,u.val,u.delta⟩=ms':=by rw[hms']
    rw[hms0] at hs8⊢
    have hml:ms'.length<=1000:=by
     have:=JhM hri u
     rw[hms']
     omega
    have HJ8:=Lib.hid (show LP True (485*j) n1 tb sb w (jj+1) ms' w8/\SlE w8 (.slice na ms'.length nc) ms' by
     rw[hms']
     exact⟨HJ7.out.1.on hX8,by rw[<-hms'];exact hs8⟩)
    have HR8:=Lib.hid (HR7.out.on hX8)
    have x1:w8.cell? ⟨w5.heap.size,1,none⟩=some (.string (S u.key)):=HR8.out.cell 1
    have HGT:=Lib.hid (HJ8.out.1.get (by omega) u.key)
    clear hs8 hX8 HJ7 HR7 HR7' HON y0' y1' y2' y3' hms0 hms' HU hri hle
    go_wp2_with fail
    refine HGT.out.mono ?_
    rintro e w9 ⟨⟨lo,hlo,rfl⟩,h9,ha9⟩
    have HJ9:=Lib.hid (And.intro h9 (ha9.sl HJ8.out.2))
    have x1':w9.cell? ⟨w5.heap.size,1,none⟩=some (.string (S u.key)):=(ha9.row (by decide) (by decide) (by decide) (by decide) HR8.out).cell 1
    have HGR:=Lib.hid (Jbt na nc ms' u.key w9 (by omega) HJ9.out.2.at)
    obtain⟨sv,hsv⟩:∃sv,sv=(Jz ms' u.key).getD []:=⟨_,rfl⟩
    obtain⟨bv,hbv⟩:∃bv,bv=(Jz ms' u.key).isSome:=⟨_,rfl⟩
    rw[Jht,<-hsv,<-hbv] at HGR
    rw[<-hsv,<-hbv]
    clear h9 ha9 hsv hbv x1 HGT HJ8 HR8
    go_wp2_with fail
    refine HGR.out.mono ?_
    rintro e w10 ⟨rfl,hX10⟩
    have HJ10:=Lib.hid (And.intro (HJ9.out.1.on hX10) (HJ9.out.2.kept hX10 (Nat.le_refl _)))
    have HHT:=Lib.hid HJ10.out.1.height
    have hlo':decide (((n1+1:Nat):Int)<(lo:Int))=false:=by simp;omega
    clear hX10 HJ9 x1' HGR
    go_wp2_with fail
    refine HHT.out.mono ?_
    rintro e w11 ⟨rfl,hX11⟩
    have HJ11:=Lib.hid (And.intro ((HJ10.out.1.on hX11).more (G':=485*(j+1)) (by omega)) (HJ10.out.2.kept hX11 (Nat.le_refl _)))
    clear hX11 HJ10 HHT
    go_wp2_with fail
    exact⟨⟨j+1,jj+1,n1,tb,ms',na,nc,by go_num,by omega,by omega,rfl,rfl,HJ11⟩,by simp[intOf];omega⟩
  ·obtain rfl:j=m:=by omega
   go_upto_region 33 with(fail)
   go_loopw [157] (fun i wq=>∃k:Nat,i=.int .i64 k/\k<=60/\Hid (LP True (485*j) n tb sb w jj ms wq/\SlE wq (.slice ma ms.length mc) ms)) (fun i _=>60- (intOf i).toNat)
   case atStart=>exact⟨0,rfl,Nat.zero_le _,HJ⟩
   case round=>
    clear HJ
    obtain⟨k,rfl,hk,HJ⟩:=hrel
    have hk0:(0:Int)<=(k:Int):=Int.natCast_nonneg _
    by_cases hk6:k<60
    ·have hk1:(k:Int)<60:=by omega
     have HKY:=Lib.hid (fun w'=>Jql (k:Int) w' (by omega))
     generalize Jgh (k:Int)=ky at*
     go_wp2_with fail
     refine(HKY.out _).mono ?_
     rintro e w4 ⟨rfl,hX4⟩
     have HJ4:=Lib.hid (And.intro (HJ.out.1.on hX4) (HJ.out.2.kept hX4 (Nat.le_refl _)))
     have HGT:=Lib.hid (HJ4.out.1.get (by omega) ky)
     clear hX4 HJ
     go_wp2_with fail
     refine HGT.out.mono ?_
     rintro e w9 ⟨⟨lo,hlo,rfl⟩,h9,ha9⟩
     have HJ9:=Lib.hid (And.intro h9 (ha9.sl HJ4.out.2))
     have hml:=h9.l1.rise.2
     obtain⟨sv,hsv⟩:∃sv,sv=(Jz ms ky).getD []:=⟨_,rfl⟩
     obtain⟨bv,hbv⟩:∃bv,bv=(Jz ms ky).isSome:=⟨_,rfl⟩
     have HGR:=Lib.hid (fun w' h=>show Calls Tryz.prog 26 #[.slice ma ms.length mc,.string (S ky)] w' (fun e w''=>e=.returned (.tuple #[.string (S sv),.bool bv])/\Below w'.heap.size w' w'') from by
      have:=Jbt ma mc ms ky w' (by omega) h
      rw[Jht,<-hsv,<-hbv] at this
      exact this)
     rw[<-hsv,<-hbv]
     clear h9 ha9 hsv hbv HGT HJ4
     go_wp2_with fail
     refine(HKY.out _).mono ?_
     rintro e w10 ⟨rfl,hX10⟩
     have HJ10:=Lib.hid (And.intro (HJ9.out.1.on hX10) (HJ9.out.2.kept hX10 (Nat.le_refl _)))
     clear hX10 HJ9
     go_wp2_with fail
     refine(HGR.out _ HJ10.out.2.at).mono ?_
     rintro e w11 ⟨rfl,hX11⟩
     have HJ11:=Lib.hid (And.intro (HJ10.out.1.on hX11) (HJ10.out.2.kept hX11 (Nat.le_refl _)))
     have HHT:=Lib.hid HJ11.out.1.height
     have hlo':decide (((n+1:Nat):Int)<(lo:Int))=false:=by simp;omega
     clear hX11 HJ10 HGR HKY
     go_wp2_with fail
     refine HHT.out.mono ?_
     rintro e w12 ⟨rfl,hX12⟩
     have HJ12:=Lib.hid (And.intro (HJ11.out.1.on hX12) (HJ11.out.2.kept hX12 (Nat.le_refl _)))
     clear hX12 HJ11 HHT
     go_wp2_with fail
     exact⟨⟨k+1,by go_num,by omega,HJ12⟩,by simp[intOf];omega⟩
    ·have hk1:¬((k:Int)<60):=by omega
     have HB:=Lib.hid HJ.out.1.l1.below
     have hml:=HJ.out.1.l1.rise.2
     obtain⟨i0,hi,iz0,iz1,iz2⟩:=info_parts JpL
     obtain⟨wa,hwa⟩:∃wa,wa=wr:=⟨_,rfl⟩
     rw[<-hwa] at HJ HB⊢
     clear hwa
     go_upto_region 42 with(fail)
     go_loopw [197,34] (fun i s34 wq=>∃(q:Nat) (P:List Ent) (pa:Option Addr) (pl pc:Nat),i=.int .i64 q/\q<=ms.length/\s34=.slice pa pl pc/\pl<=q/\Hid (pl=P.length/\P=(ms.take q).filter (inB slo shi))/\Hid (wq.ownsRow wa.heap.size 72 2 (.slice pa pl pc) pl (cellsE P))/\Hid (Below wa.heap.size wa wq)) (fun i _ _=>ms.length- (intOf i).toNat)
     case atStart=>exact⟨0,[],none,0,0,rfl,Nat.zero_le _,rfl,Nat.le_refl _,Lib.hid ⟨rfl,by simp⟩,Lib.hid (World.ownsRow_nil _ _ _ _),Lib.hid (Below.refl _ _)⟩
     case round=>
      obtain⟨q,P,pa,pl,pc,rfl,hq,rfl,hPq,HP,HPR,HBQ⟩:=hrel
      have hq0:(0:Int)<=(q:Int):=Int.natCast_nonneg _
      by_cases hqm:q<ms.length
      ·have hq1:(q:Int)<(ms.length:Int):=by omega
       obtain⟨b0,off,ea,hb,t0,t1⟩:=JC.cells2 (HJ.out.2.kept HBQ.out (Nat.le_refl _)).at q hqm
       have HEA:=Lib.hid ea
       clear ea
       have HST:=Lib.hid (show(ms.take (q+1)).filter (inB slo shi)=if Jn ms[q].key slo shi=true then(ms.take q).filter (inB slo shi)++[ms[q]] else(ms.take q).filter (inB slo shi) by
        rw[List.take_succ_eq_append_getElem hqm,List.filter_append,List.filter_cons]
        by_cases h:Jn ms[q].key slo shi=true
        ·rw[if_pos h,if_pos h];rfl
        ·rw[if_neg h,if_neg h];simp)
       generalize ms[q]=u at*
       obtain rfl:=HEA.out
       go_upto_region 44 with(fail)
       obtain⟨W4,hW4⟩:∃W4,W4=wr.alloc (.cells #[.string (S u.key),.string (S u.val)] 72):=⟨_,rfl⟩
       have hX4:Below wr.heap.size wr W4:=by rw[hW4];go_grown
       have e0:W4.cell? ⟨wr.heap.size,0,none⟩=some (.string (S u.key)):=by rw[hW4,World.cell?_alloc_at _ _ _ _ rfl];rfl
       have e1:W4.cell? ⟨wr.heap.size,1,none⟩=some (.string (S u.val)):=by rw[hW4,World.cell?_alloc_at _ _ _ _ rfl];rfl
       have HPR4:=Lib.hid (Ji HPR.out hX4)
       have HB4:=Lib.hid (HBQ.out.trans (hX4.mono HBQ.out.size))
       have hzw:=HBQ.out.size
       have hz4:=hX4.size
       have HGL:=Lib.hid (fun g (e:(Value.slice pa pl pc).ownBlock=some g)=>(HPR.out.lt g e).1)
       rw[<-hW4]
       clear hW4 hX4 t0 t1 hb HPR HBQ
       cases hwi:Jn u.key slo shi with
       |false=>
        have HPF:=Lib.hid (show pl=P.length/\P=(ms.take (q+1)).filter (inB slo shi) from⟨HP.out.1,by rw[HST.out,hwi,if_neg (by simp)];exact HP.out.2⟩)
        unfold Jn at hwi
        cases h1:Op.bytesLess u.key slo<;>cases h2:shi.isEmpty<;>cases h3:Op.bytesLess u.key shi<;>simp[h1,h2,h3] at hwi
        all_goals
         go_wp2_with fail
         exact⟨⟨q+1,P,pa,pl,pc,by go_num,by omega,rfl,by omega,HPF,HPR4,HB4⟩,by simp[intOf];omega⟩
       |true=>
        have HPF:=Lib.hid (show pl+1=(P++[u]).length/\P++[u]=(ms.take (q+1)).filter (inB slo shi) from⟨by rw[HP.out.1];simp,by rw[HST.out,hwi,if_pos rfl];exact congrArg (·++[u]) HP.out.2⟩)
        have HCL:=Lib.hid (show cellsE P++[.string (S u.key),.string (S u.val)]=cellsE (P++[u]) by rw[Jeq])
        unfold Jn at hwi
        cases h1:Op.bytesLess u.key slo<;>cases h2:shi.isEmpty<;>cases h3:Op.bytesLess u.key shi<;>simp[h1,h2,h3] at hwi
        all_goals
         go_wp2_with (at_builtin;go_must (refine wpList_append_own_at _ rfl (.tmp 215) (.tmp 217) 49 rfl wa.heap.size 72 i0 (.agg #[.string ByteArray.empty,.string ByteArray.empty]) 2 32 Tryz.underlying49 hi iz0 iz1 iz2 rfl (by decide) _ pl _ rfl (HPR4.out.alloc _) ⟨W4.heap.size,0,none⟩ 1 1 [.string (S u.key),.string (S u.val)] rfl rfl (YD W4 _ _ _) (Jeo u) (by unfold maxLen;omega) (by omega) (by rw[World.size_alloc];omega) ?_;intro vc wz hownvc hgrowvc _ hatvc;rw[HCL.out] at hownvc;obtain⟨ac,yc,rfl⟩:=Jm hownvc;have HGR:=Lib.hid hownvc;have HBZ:=Lib.hid ((HB4.out.alloc HB4.out.size _).grown hgrowvc (by rw[World.size_alloc];have:=HB4.out.size;omega) (fun g e=>HGL.out g e));clear hatvc hownvc hgrowvc))
         exact⟨⟨q+1,P++[u],ac,pl+1,yc,by go_num,by omega,rfl,by omega,HPF,HGR,HBZ⟩,by simp[intOf];omega⟩
      ·obtain rfl:q=ms.length:=by omega
       have HPQ:=Lib.hid (show P=ms.filter (inB slo shi) by have:=HP.out.2;rwa[List.take_length] at this)
       obtain rfl:=HP.out.1
       have HJ2:=Lib.hid (And.intro (HJ.out.1.on HBQ.out) (And.intro (HJ.out.2.kept HBQ.out (Nat.le_refl _)) (SlE.of_row HPR.out).2))
       have hPl:P.length<=120:=by omega
       clear hPq
       clear HP HPR HBQ HJ HB
       go_upto_region 48 with(fail)
       obtain⟨W5,hW5⟩:∃W5,W5=wr.alloc (.cells #[.int .i64 (-1),.int .i64 0,.int .i64 1,.int .i64 3,.int .i64 1000] 3):=⟨_,rfl⟩
       have hX5:Below wr.heap.size wr W5:=by rw[hW5];go_grown
       have HM5:=Lib.hid (show Jc W5 3 wr.heap.size [.int .i64 (-1),.int .i64 0,.int .i64 1,.int .i64 3,.int .i64 1000] by rw[hW5];exact Jc.new _ _ _)
       obtain⟨xb,hxb⟩:∃xb,xb=wr.heap.size:=⟨_,rfl⟩
       rw[<-hxb] at HM5⊢
       have HJ5:=Lib.hid (And.intro (HJ2.out.1.on hX5) (And.intro (HJ2.out.2.1.kept hX5 (Nat.le_refl _)) (HJ2.out.2.2.kept hX5 (Nat.le_refl _))))
       rw[<-hW5]
       clear hW5 hX5 hxb HJ2
       go_loopw [222] (fun i wq=>∃q:Nat,i=.int .i64 q/\q<=5/\Hid (LP True (485*j) n tb sb w jj ms wq/\SlE wq (.slice ma ms.length mc) ms/\SlE wq (.slice pa P.length pc) P)/\Hid (Jc wq 3 xb [.int .i64 (-1),.int .i64 0,.int .i64 1,.int .i64 3,.int .i64 1000])) (fun i _=>5- (intOf i).toNat)
       case atStart=>exact⟨0,rfl,Nat.zero_le _,HJ5,HM5⟩
       case round=>
        clear HJ5 HM5
        obtain⟨q,rfl,hq5,HJ,HM⟩:=hrel
        have hq0:(0:Int)<=(q:Int):=Int.natCast_nonneg _
        by_cases hq:q<5
        ·have hq1:(q:Int)<5:=by omega
         obtain⟨z,hzq,hz1⟩:∃z:Int,([.int .i64 (-1),.int .i64 0,.int .i64 1,.int .i64 3,.int .i64 1000]:List Value)[q]? =some (.int .i64 z)/\z<=1000:=by
          have h5:q=0\/q=1\/q=2\/q=3\/q=4:=by omega
          rcases h5 with rfl|rfl|rfl|rfl|rfl
          ·exact⟨-1,rfl,by decide⟩
          ·exact⟨0,rfl,by decide⟩
          ·exact⟨1,rfl,by decide⟩
          ·exact⟨3,rfl,by decide⟩
          ·exact⟨1000,rfl,by decide⟩
         have xq:wr.cell? ⟨xb,q,none⟩=some (.int .i64 z):=(HM.out.cell q).trans hzq
         obtain⟨Z,hZ⟩:∃Z,Z=P.take z.toNat:=⟨_,rfl⟩
         have hsc:=HJ.out.1.scan (by omega) slo shi z hz1
         rw[<-HPQ.out,<-hZ] at hsc
         have HSC:=Lib.hid hsc
         have hzl:Jkc (ZE 0 z) (P.length:Int)=(Z.length:Int):=by
          rw[hZ,List.length_take]
          unfold Jkc ZE
          split<;>split<;>omega
         have HZP:=Lib.hid (show∀y (hy:y<Z.length),∃hy':y<P.length,Z[y]=P[y] from fun y hy=>by
          subst hZ
          rw[List.length_take] at hy
          exact⟨by omega,List.getElem_take⟩)
         obtain⟨zl,hzl2⟩:∃zl,zl=Z.length:=⟨_,rfl⟩
         have HZL:=Lib.hid hzl2
         rw[<-hzl2] at hzl hsc HSC
         have hzx:zl<=P.length:=by
          rw[hzl2,hZ,List.length_take];omega
         clear hzq hsc hZ hzl2
         go_wp2_with fail
         refine HSC.out.mono ?_
         rintro e w4 ⟨⟨oa,oc,rfl,hown⟩,h4,ha4,hk4⟩
         have hM4:=hk4.row HM.out fun e=>by
          obtain⟨cu,hcu⟩:=HJ.out.1.shelf
          have:=HM.out
          rw[show xb=sb from e] at this
          exact absurd (this.one hcu).1 (by decide)
         have HM4:=Lib.hid hM4
         have HJ4:=Lib.hid (And.intro h4 (And.intro (ha4.sl HJ.out.2.1) (ha4.sl HJ.out.2.2)))
         have HO4:=Lib.hid (SlE.of_own hown).2.at
         clear hown h4 ha4 hk4 hM4 HSC HJ HM xq
         go_upto_region 54 with(fail)
         clear hzl
         go_loopw [248] (fun i wq=>∃y:Nat,i=.int .i64 y/\y<=zl/\Hid (Below w4.heap.size w4 wq)) (fun i _=>zl- (intOf i).toNat)
         case atStart=>exact⟨0,rfl,Nat.zero_le _,Lib.hid (Below.refl _ _)⟩
         case round=>
          obtain⟨y,rfl,hy,HB⟩:=hrel
          have hy0:(0:Int)<=(y:Int):=Int.natCast_nonneg _
          by_cases hyl:y<zl
          ·have hy1:(y:Int)<(zl:Int):=by omega
           have hyp1:(y:Int)<(P.length:Int):=by omega
           have hyZ:y<Z.length:=by rw[<-HZL.out];exact hyl
           obtain⟨hyP,hyE⟩:=HZP.out y hyZ
           obtain⟨b1,o1,ea1,hb1,s0,s1⟩:=JC.cells2 HO4.out y hyZ
           obtain⟨b2,o2,ea2,hb2,t0,t1⟩:=JC.cells2 HJ4.out.2.2.at y hyP
           rw[hyE] at s0 s1
           replace s0:=(Jh HB.out hb1 _).trans s0
           replace s1:=(Jh HB.out hb1 _).trans s1
           replace t0:=(Jh HB.out hb2 _).trans t0
           replace t1:=(Jh HB.out hb2 _).trans t1
           clear hyE
           generalize P[y]=e at*
           subst ea1 ea2
           go_upto_region 56 with(fail)
           go_quiet (fail)
           obtain⟨W2,hW2⟩:∃W2,W2=wr.drewN nq:=⟨_,rfl⟩
           have HB2:=Lib.hid (show Below w4.heap.size w4 W2 by rw[hW2];exact HB.out.trans ((JS (Below.refl _ _) nq).mono HB.out.size))
           rw[<-hW2]
           clear hW2 s0 s1 t0 t1
           go_wp2_with fail
           exact⟨⟨y+1,by go_num,by omega,HB2⟩,by simp[intOf];omega⟩
          ·obtain rfl:y=zl:=by omega
           have HJ6:=Lib.hid (And.intro (HJ4.out.1.on HB.out) (And.intro (HJ4.out.2.1.kept HB.out (Nat.le_refl _)) (HJ4.out.2.2.kept HB.out (Nat.le_refl _))))
           have HM6:=Lib.hid (HM4.out.on HB.out)
           clear HJ4 HM4 HO4 HB
           go_wp2_with fail
           exact⟨⟨q+1,by go_num,by omega,HJ6,HM6⟩,by simp[intOf];omega⟩
        ·obtain rfl:q=5:=by omega
         have HHS:=Lib.hid (HJ.out.1.has (by omega) (by omega) ma mc HJ.out.2.1)
         go_wp2_with fail
         refine HHS.out.mono ?_
         rintro e w9 ⟨rfl,h9,-⟩
         have HB9:=Lib.hid h9.l1.below
         clear h9
         go_wp2_with fail
         go_ret
         exact⟨rfl,HB9.out⟩
end Go.Proofs.YtafciefjlkdecaaGreat
