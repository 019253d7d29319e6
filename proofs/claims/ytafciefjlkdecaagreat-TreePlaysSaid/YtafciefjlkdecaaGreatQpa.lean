/-
  Small lemmas that every walk of this seat uses: contracts threaded through what has been kept since a call began; equal returns.   A region that draws its order, walked once in a class of worlds.   Texts as lists of bytes: 'S l' is the text whose bytes are l. What the walk's operations on texts come to, said of the lists.   The order of texts, and lists by rising keys: plain laws, no program in sight.   A slice that is only read: where its elements' cells lie. 'SlAt enc k w ao l': the elements l, each of k cells 'enc x', lie behind the address ao (of which nothing is said where there is no element).   The plain words of layer 12 (rec): updates, whether they may be, and their bytes. No program in sight.   Updates as cells, and their bytes.   Entries as cells, and their bytes.   The walk of cmp.Compare at texts.   The walks of the look for a key among updates: the comparison, the binary search.   Rows of structs, of the call's own: copies of elements of several cells; an insertion into such a row, told as lists of cells.   The walk of slices.Clone at updates; slices as arguments.   The walks of a value that holds updates: how many, the list, the place of a key.   What all texts above use: worlds that kept what was there; the least and the greatest of two; a list turned; a list grown from behind. The walks of slices.Grow of nil, and slices.Concat of two, at updates.   The walk of (buf.Buffer).Cut.   The walk of (buf.Buffer).Cut, with an upper end.   The walks of layer 1 (lend): widths, numbers as bytes.   The walk of lend.Read: numbers of bytes.   The walks of layer 14 (msg): numbers as values, what an update makes of a value; the plain words for it. The walks of msg.On, msg.Join.   The walks of (buf.Buffer).Get, and of the updates that the statements make.   Updates held against each other; a buffer's list, its length by name.   The walks of strings.Builder's copyCheck, WriteString and String (after the shelf's own), and of lend.Join.   The walks of the document's layer 1: a number in a width.   The walks of the document's layer 12: whether an update may be; the bytes of updates.   The walk of (rec.Update).Check: as the document's.   The walk of slices.Insert of one element into a row of the call's own, at updates.   The walk of (buf.Buffer).With. Plain laws on the lists of a buffer: what With and Cut make of a list by rising keys.   Updates that tame made, joined; the document's With and Cut: plain laws, no program in sight.   An update in a box.   The walks of (rec.Update).bytes, rec.Text and (buf.Buffer).Text.   What a text with its length ahead leaves.   The updates of bytes: plain laws, no program in sight.
-/
import Derived.Test.YtafciefjlkdecaaGreatProg
import Derived.WalkKit
import Derived.WalkSpells
import Derived.WalkLawsBesides
import Derived.Handy
import Derived.Lib.Hide
import Derived.Deep.RegionHeld3
import Derived.BigQuiet
import Derived.Deep.DrawnRows
import Derived.Laws.BytesArg
import Derived.Laws.Concat
import Derived.Laws.Strings2
import Derived.Laws.Strings3
import Derived.Deep.OwnRows
import Derived.Outline
import Derived.Lib.Walk
import Derived.Laws.IdiomCopy
import Derived.Laws.OwnMore
import Derived.Lib.AppendZerosOnto
import Derived.Lib.Overlaps
import Derived.Maps.AppendAt
import Derived.Deep.RegionLaw
import Derived.Laws.AppendOwnNone
import Derived.Laws.BitsAllLaws
import Derived.Laws.BitsLemmas
import Derived.Lib.Builder
import Derived.Lib.AppendStr
import Derived.Laws.Externs
import Derived.Lib.UnsafeStr
import Derived.BigRegion
import Derived.Deep.Light
set_option maxRecDepth 100000
set_option maxHeartbeats 16000000
namespace Go.Proofs.YtafciefjlkdecaaGreat
open Go.RowKit
theorem Jaz {a b:Bool} (h:a=b):Ending.returned (.bool a)=.returned (.bool b):=by rw[h]
theorem XR {k:IntKind} {a b:Int} (h:a=b):Ending.returned (.int k a)=.returned (.int k b):=by rw[h]
theorem Ym {a b:Value} (h:a=b):Ending.returned a=.returned b:=by rw[h]
theorem JoW (m:Nat):((m:Int)==0)=decide (m=0):=by rw[Bool.eq_iff_iff];simp
theorem JB {W w1:World} (hb:Below W.heap.size W w1):(∀b o,b<W.heap.size->w1.cell? ⟨b,o,none⟩=W.cell? ⟨b,o,none⟩)/\(∀b o,b<W.heap.size->w1.frozen? ⟨b,o,none⟩=W.frozen? ⟨b,o,none⟩):=
 ⟨fun b o h=>hb.cell (p:=⟨b,o,none⟩) h,fun b o h=>hb.frozen (p:=⟨b,o,none⟩) h⟩
theorem Jf {W:World} {a:Addr} {v:Value} (o:Obj) (h:W.cell? a=some v):(W.alloc o).cell? a=some v:=by
 have hlt:a.block<W.heap.size:=World.block_lt_of_cell? W a h
 rw[<-h]
 exact World.cell?_of_block (Below.heap_alloc W o a.block hlt)
theorem Jl {P:Program} {f:FuncId} {args:Array Value} {w:World} {R:Ending->World->Prop}
  (hc:Calls P f args w (fun e w'=>R e w'/\Below w.heap.size w w')) (B:Nat) (w0:World) (h0:Below B w0 w) (hB:B<=w.heap.size):
  Calls P f args w (fun e w'=>R e w'/\Below B w0 w'/\(∀b o,b<w.heap.size->w'.cell? ⟨b,o,none⟩=w.cell? ⟨b,o,none⟩)/\(∀b o,b<w.heap.size->w'.frozen? ⟨b,o,none⟩=w.frozen? ⟨b,o,none⟩)/\w.heap.size<=w'.heap.size/\B<=w'.heap.size):=
 hc.mono fun _ _ ⟨hr,hb⟩=>⟨hr,h0.trans (hb.mono hB),(JB hb).1,(JB hb).2,hb.size,Nat.le_trans hB hb.size⟩
open Go.RowKit
theorem Jdv {P:Program} {C:World->Prop} {id:Nat} {Q:Exit->Act->World->Prop} {a:Act} {w:World} {l:List Oper} (hm:P.follows .mixedOrders=true) (hB:Region.lexB .any l.toArray=true) (hC:C w.drew)
  (h:wpQuiet P l.toArray C (fun a'=>∀w',C w'->Q .normal a' w') l a):(Code.region id l.toArray true).wp P Q a w:=
 wp_region_quiet (C:=C) hm hB hC (by simpa using h)
structure WQ (P:Program) (ops:Array Oper) (C:World->Prop) (Q:Act->Prop) (l:List Oper) (a:Act):Prop where
 out:wpQuiet P ops C Q l a
theorem WQ.want {P:Program} {ops:Array Oper} {C:World->Prop} {Q:Act->Prop} {o:Oper} {rest:List Oper} {a:Act} (hw:Region.wanted o (yielded ops a.tmps)=true) (h:∀K:Act->Prop,(∀a,WQ P ops C Q rest a->K a)->o.quiet P a C K):WQ P ops C Q (o::rest) a:=
 ⟨BigFrame.wpQuiet_want hw fun K hK=>h K fun a ha=>hK a ha.out⟩
theorem WQ.skip {P:Program} {ops:Array Oper} {C:World->Prop} {Q:Act->Prop} {o:Oper} {rest:List Oper} {a:Act} (hw:Region.wanted o (yielded ops a.tmps)=false) (h:WQ P ops C Q rest (a.put o.dst undef)):WQ P ops C Q (o::rest) a:=
 ⟨BigFrame.wpQuiet_skip hw h.out⟩
theorem WQ.done {P:Program} {ops:Array Oper} {C:World->Prop} {Q:Act->Prop} {a:Act} (h:Q a):WQ P ops C Q [] a:=⟨wpQuiet_nil h⟩
theorem WA {α:Type} (l:List α) (i:Nat) (a:α):l.toArray.setIfInBounds i a=(l.set i a).toArray:=List.setIfInBounds_toArray ..
theorem WB {α:Type} (x y:α) (l:List α):(x::l).set 0 y=y::l:=rfl
theorem WC {α:Type} (x y:α) (l:List α) (n:Nat):(x::l).set (n+1) y=x::l.set n y:=rfl
theorem WV {P:Program} {ops:Array Oper} {C:World->Prop} {Q:Act->Prop} {o:Oper} {rest:List Oper} {a:Act} (hw:Region.wanted o (yielded ops a.tmps)=true) (v:Value) (hv:∀w,C w->o.quietAt P a C w v) (h:WQ P ops C Q rest (a.put o.dst v)):WQ P ops C Q (o::rest) a:=WQ.want hw fun _ hK=>⟨v,hv,hK _ h⟩
theorem WM {P:Program} {ops:Array Oper} {C:World->Prop} {Q:Act->Prop} {o:Oper} {rest:List Oper} {a:Act} (hw:Region.wanted o (yielded ops a.tmps)=true) (x:Operand) (ho:o.op=.move x) (h:WQ P ops C Q rest (a.put o.dst (a.eval x))):WQ P ops C Q (o::rest) a:=WQ.want hw fun _ hK=>BigFrame.quiet_move x ho (hK _ h)
theorem WS {P:Program} {ops:Array Oper} {C:World->Prop} {Q:Act->Prop} {o:Oper} {rest:List Oper} {a:Act} (hw:Region.wanted o (yielded ops a.tmps)=false) (h:WQ P ops C Q rest (a.put o.dst undef)):WQ P ops C Q (o::rest) a:=WQ.skip hw h
theorem WQ.region {P:Program} {C:World->Prop} {id:Nat} {Q:Exit->Act->World->Prop} {a:Act} {w:World} {l:List Oper} (hm:P.follows .mixedOrders=true) (hB:Region.lexB .any l.toArray=true) (hC:C w.drew)
  (h:WQ P l.toArray C (fun a'=>∀w',C w'->Q .normal a' w') l a):(Code.region id l.toArray true).wp P Q a w:=Jdv hm hB hC h.out
open Go.RowKit
def S (l:List UInt8):ByteArray:=⟨l.toArray⟩
theorem JrC (s:ByteArray):s=S s.data.toList:=by cases s;simp[S]
theorem Jqa (s:ByteArray):∃l,s=S l:=⟨_,JrC s⟩
theorem Jqt {a b:List UInt8} (h:S a=S b):a=b:=by
 have:=congrArg (fun s:ByteArray=>s.data.toList) h
 simpa[S] using this
@[go_sem] theorem XI (l :List UInt8):(S l).size=l.length:=by simp[S,ByteArray.size]
@[go_sem] theorem Jj3 (l :List UInt8):(S l).toList=l:=by simp[S]
theorem Jlq (l:List UInt8):(S l).data.toList=l:=by simp[S]
@[go_sem] theorem Jo3 (a b:List UInt8):S a++S b=S (a++b):=by simp only[S];exact ByteArray.mk_append_mk a b
@[go_sem] theorem Jq3 (l :List UInt8) (a b:Nat):(S l).extract a b=S ((l.drop a).take (b-a)):=by simp only[S];exact ByteArray.extract_mk l a b
@[go_sem] theorem JrJ (l :List UInt8) (i:Nat) (h:i<(S l).size):(S l)[i]=l[i]'(by rwa[XI] at h):=by
 simp only[S];rfl
theorem Jiq (ns:List Int):strOfNums ns=S (ns.map fun n=>UInt8.ofNat n.toNat):=rfl
theorem JoK (w:World) (c:Array Value) (e:TypeId) (fz:Nat×Nat) (i:Nat):(w.alloc (.cells c e fz)).cell? ⟨w.heap.size,i,none⟩=c[i]? :=
 cell_of_row _ w.heap.size i c e fz (heap_alloc_new w _)
def Jqq (P:Program) (src dst:TypeId) (W:World) (n c:Nat):Option Value->Result Value
 |some (.int .u8 x)=>.ok (.string (S [UInt8.ofNat x.toNat])) W
 |_=>(convert src dst (.slice (some ⟨n,0,none⟩) 1 c)).run P W
@[go_sem] theorem JqW (P :Program) (src dst:TypeId) (W:World) (n c:Nat) (x:Int):Jqq P src dst W n c (some (.int .u8 x))=.ok (.string (S [UInt8.ofNat x.toNat])) W:=rfl
theorem Je4 {P:Program} (src dst e:TypeId) (hs:P.underlying src=some (.slice e)) (he:P.underlying e=some (.int .u8)) (hd:P.underlying dst=some .string) (W:World) (n c:Nat):
  (convert src dst (.slice (some ⟨n,0,none⟩) 1 c)).run P W=Jqq P src dst W n c (W.cell? ⟨n,0,none⟩):=by
 cases h:W.cell? ⟨n,0,none⟩ with
 |none=>rfl
 |some v=>
  cases v with
  |int k x=>
   cases k<;>first
    |rfl
    |(refine run_convert_bytes_arg W src e hs he n 0 1 c [x] rfl (fun i hi=> ?_) dst hd
      obtain rfl:i=0:=by omega
      exact h)
  |_=>rfl
def JoG (P:Program) (src dst:TypeId) (W:World) (n c:Nat):Option Value->Option Value->Result Value
 |some (.int .u8 x),some (.int .u8 y)=>.ok (.string (S [UInt8.ofNat x.toNat,UInt8.ofNat y.toNat])) W
 |_,_=>(convert src dst (.slice (some ⟨n,0,none⟩) 2 c)).run P W
@[go_sem] theorem JqV (P :Program) (src dst:TypeId) (W:World) (n c:Nat) (x y:Int):JoG P src dst W n c (some (.int .u8 x)) (some (.int .u8 y))=.ok (.string (S [UInt8.ofNat x.toNat,UInt8.ofNat y.toNat])) W:=rfl
theorem JnR {P:Program} (src dst e:TypeId) (hs:P.underlying src=some (.slice e)) (he:P.underlying e=some (.int .u8)) (hd:P.underlying dst=some .string) (W:World) (n c:Nat):
  (convert src dst (.slice (some ⟨n,0,none⟩) 2 c)).run P W=JoG P src dst W n c (W.cell? ⟨n,0,none⟩) (W.cell? ⟨n,1,none⟩):=by
 unfold JoG
 split
 ·rename_i x y h0 h1
  refine run_convert_bytes_arg W src e hs he n 0 2 c [x,y] rfl (fun i hi=> ?_) dst hd
  match i,hi with
  |0,_=>exact h0
  |1,_=>exact h1
 ·rfl
def le (n k:Nat):List UInt8:=(List.range k).map fun i=>UInt8.ofNat (n/256^i% 256)
theorem JpA (n:Nat):le n 0=[]:=rfl
theorem le_succ (n k:Nat):le n (k+1)=le n k++[UInt8.ofNat (n/256^k% 256)]:=by simp[le,List.range_succ]
@[simp, go_sem] theorem YV (n k:Nat):(le n k).length=k:=by simp[le]
theorem Jdo (n k:Nat):n/256^(k+1)=n/256^k/256:=by rw[Nat.pow_succ,Nat.div_div_eq_div_mul]
open Go.RowKit
abbrev bl (a b:List UInt8):Bool:=Op.bytesLess a b
theorem YN:∀a,bl a a=false
 |[]=>rfl
 |x::a=>by simp[bl,Op.bytesLess,YN a]
theorem Zm (a:List UInt8):bl a []=false:=by cases a<;>rfl
theorem Jie (x y:UInt8) (a b:List UInt8):bl (x::a) (y::b)=true↔x<y\/(x=y/\bl a b=true):=by
 simp only[bl,Op.bytesLess]
 by_cases h:x=y
 ·subst h;simp
 ·simp[h]
theorem J4:∀ {a b c:List UInt8},bl a b=true->bl b c=true->bl a c=true
 |a,b,[],_,h=>by rw[Zm] at h;exact absurd h (by simp)
 |a,[],z::c,h,_=>by rw[Zm] at h;exact absurd h (by simp)
 |[],y::b,z::c,_,_=>rfl
 |x::a,y::b,z::c,h,k=>by
  rw[Jie] at*
  rcases h with h|⟨rfl,h⟩<;>rcases k with k|⟨rfl,k⟩
  ·exact Or.inl (UInt8.lt_trans h k)
  ·exact Or.inl h
  ·exact Or.inl k
  ·exact Or.inr ⟨rfl,J4 h k⟩
theorem Jid:∀(a b:List UInt8),a=b\/bl a b=true\/bl b a=true
 |[],[]=>Or.inl rfl
 |[],_::_=>Or.inr (Or.inl rfl)
 |_::_,[]=>Or.inr (Or.inr rfl)
 |x::a,y::b=>by
  rw[Jie,Jie]
  rcases Nat.lt_trichotomy x.toNat y.toNat with h|h|h
  ·exact Or.inr (Or.inl (Or.inl h))
  ·have e:x=y:=UInt8.toNat_inj.1 h
   subst e
   rcases Jid a b with rfl|k|k
   ·exact Or.inl rfl
   ·exact Or.inr (Or.inl (Or.inr ⟨rfl,k⟩))
   ·exact Or.inr (Or.inr (Or.inr ⟨rfl,k⟩))
  ·exact Or.inr (Or.inr (Or.inl h))
theorem XG {a b:List UInt8} (h:bl a b=true):bl b a=false:=by
 cases k:bl b a with
 |false=>rfl
 |true=>have:=J4 h k;rw[YN] at this;exact absurd this (by simp)
theorem ZY {a b:List UInt8} (h:bl a b=true):a≠b:=fun e=>by rw[e,YN] at h;exact absurd h (by simp)
theorem JcO {a b:List UInt8} (h:bl a b=false):b=a\/bl b a=true:=by
 rcases Jid a b with e|k|k
 ·exact Or.inl e.symm
 ·rw[h] at k;exact absurd k (by simp)
 ·exact Or.inr k
section
variable {α:Type} (key:α->List UInt8)
def Je (l:List α):Prop:=l.Pairwise fun a b=>bl (key a) (key b)=true
def below (l:List α) (k:List UInt8):Nat:=l.countP fun a=>bl (key a) k
variable {key}
theorem Je.cons {a:α} {l:List α} (h:Je key (a::l)):(∀b∈l,bl (key a) (key b)=true)/\Je key l:=List.pairwise_cons.1 h
theorem Xe (l:List α) (k:List UInt8):below key l k<=l.length:=List.countP_le_length
theorem Je.below {l:List α} (h:Je key l) (k:List UInt8):∀(i:Nat) (hi:i<l.length),bl (key l[i]) k=true↔i<below key l k:=by
 induction l with
 |nil=>intro i hi;simp at hi
 |cons a l ih=>
  obtain⟨h1,h2⟩:=h.cons
  intro i hi
  by_cases ha:bl (key a) k=true
  ·have e:YtafciefjlkdecaaGreat.below key (a::l) k=YtafciefjlkdecaaGreat.below key l k+1:=by simp[YtafciefjlkdecaaGreat.below,ha]
   rw[e]
   cases i with
   |zero=>simp[ha]
   |succ i=>simpa using ih h2 i (by simpa using hi)
  ·have e0:YtafciefjlkdecaaGreat.below key l k=0:=by
    rw[YtafciefjlkdecaaGreat.below,List.countP_eq_zero]
    intro b hb hbk
    exact ha (J4 (h1 b hb) hbk)
   have e:YtafciefjlkdecaaGreat.below key (a::l) k=0:=by
    rw[YtafciefjlkdecaaGreat.below,List.countP_cons,if_neg ha]
    exact e0
   rw[e]
   cases i with
   |zero=>simp[ha]
   |succ i=>
    refine⟨fun hb=>absurd (J4 (h1 _ (List.getElem_mem (by simpa using hi))) ?_) ha,fun hb=>by omega⟩
    simpa using hb
theorem Je.lt {l:List α} (h:Je key l) {i j:Nat} (hij:i<j) (hj:j<l.length):bl (key (l[i]'(by omega))) (key l[j])=true:=List.pairwise_iff_getElem.1 h i j (by omega) hj hij
def JE (key:α->List UInt8) (l:List α) (k:List UInt8):Bool:=l.any fun a=>key a==k
theorem X2 {l:List α} {k:List UInt8}:JE key l k=true↔∃a∈l,key a=k:=by simp[JE]
theorem Je.found {l:List α} (h:Je key l) (k:List UInt8):JE key l k=true↔∃hi:YtafciefjlkdecaaGreat.below key l k<l.length,key (l[YtafciefjlkdecaaGreat.below key l k]'hi)=k:=by
 rw[X2]
 constructor
 ·rintro⟨a,ha,rfl⟩
  obtain⟨i,hi,rfl⟩:=List.getElem_of_mem ha
  have h1:¬i<YtafciefjlkdecaaGreat.below key l (key l[i]):=by rw[<-h.below _ i hi,YN];simp
  have h2:¬YtafciefjlkdecaaGreat.below key l (key l[i])<i:=fun hlt=>by
   have:=(h.below (key l[i]) _ (by omega)).1 (h.lt hlt hi)
   omega
  have e:YtafciefjlkdecaaGreat.below key l (key l[i])=i:=by omega
  exact⟨by omega,by simp[e]⟩
 ·rintro⟨hi,e⟩
  exact⟨_,List.getElem_mem hi,e⟩
end
open Go.RowKit
def JC {α:Type} (enc:α->List Value) (k:Nat) (w:World) (ao:Option Addr) (l:List α):Prop:=
 l=[]\/∃b off,ao=some ⟨b,off,none⟩/\b<w.heap.size/\∀(i:Nat) (hi:i<l.length) (j:Nat) (x:Value),(enc l[i])[j]? =some x->w.cell? ⟨b,off+i*k+j,none⟩=some x
section
variable {α:Type} {enc:α->List Value} {k:Nat} {w:World} {ao:Option Addr} {l:List α}
theorem JC.nil (enc:α->List Value) (k:Nat) (w:World) (ao:Option Addr):JC enc k w ao []:=Or.inl rfl
theorem JC.at (h:JC enc k w ao l) (hl:0<l.length):∃b off,ao=some ⟨b,off,none⟩/\b<w.heap.size/\∀(i:Nat) (hi:i<l.length) (j:Nat) (x:Value),(enc l[i])[j]? =some x->w.cell? ⟨b,off+i*k+j,none⟩=some x:=by
 rcases h with rfl|h
 ·simp at hl
 ·exact h
theorem JC.kept (h:JC enc k w ao l) {w':World} {B:Nat} (hb:Below B w w') (hB:w.heap.size<=B):JC enc k w' ao l:=by
 rcases h with rfl|⟨b,off,rfl,hlt,hc⟩
 ·exact Or.inl rfl
 ·exact Or.inr ⟨b,off,rfl,Nat.lt_of_lt_of_le hlt hb.size,fun i hi j x hx=>(hb.cell (p:=⟨b,off+i*k+j,none⟩) (Nat.lt_of_lt_of_le hlt hB)).trans (hc i hi j x hx)⟩
theorem JC.cut (h:JC enc k w ao l) (n:Nat):JC enc k w ao (l.take n):=by
 rcases h with rfl|⟨b,off,rfl,hlt,hc⟩
 ·exact Or.inl (by simp)
 ·refine Or.inr ⟨b,off,rfl,hlt,fun i hi j x hx=>hc i (by simp at hi;omega) j x ?_⟩
  simpa using hx
theorem JC.drop (h:JC enc k w ao l) (n:Nat) (b off:Nat) (ha:ao=some ⟨b,off,none⟩):JC enc k w (some ⟨b,off+n*k,none⟩) (l.drop n):=by
 rcases h with rfl|⟨b',off',h',hlt,hc⟩
 ·exact Or.inl (by simp)
 ·rw[ha] at h'
  obtain⟨rfl,rfl⟩:b=b'/\off=off':=by simpa using h'
  refine Or.inr ⟨b,_,rfl,hlt,fun i hi j x hx=> ?_⟩
  have hi':n+i<l.length:=by simp at hi;omega
  have:=hc (n+i) hi' j x (by simpa using hx)
  rw[show off+n*k+i*k+j=off+(n+i)*k+j by rw[Nat.add_mul];omega]
  exact this
theorem JC.new (w:World) (c:Array Value) (e:TypeId) (fz:Nat×Nat) (l:List α) (hlen:∀x∈l,(enc x).length=k) (hc:c.toList=l.flatMap enc):JC enc k (w.alloc (.cells c e fz)) (some ⟨w.heap.size,0,none⟩) l:=by
 refine Or.inr ⟨w.heap.size,0,rfl,by simp,fun i hi j x hx=> ?_⟩
 rw[JoK,<-Array.getElem?_toList,hc]
 have key:∀(l:List α) (i:Nat) (hi:i<l.length),(∀x∈l,(enc x).length=k)->∀j x,(enc l[i])[j]? =some x->(l.flatMap enc)[0+i*k+j]? =some x:=by
  intro l
  induction l with
  |nil=>intro i hi;simp at hi
  |cons a t ih=>
   intro i hi hlen j x hx
   have ha:=hlen a (by simp)
   cases i with
   |zero=>
    simp only[List.flatMap_cons,Nat.zero_mul,Nat.zero_add]
    have hj:j<(enc a).length:=(List.getElem?_eq_some_iff.1 hx).1
    rw[List.getElem?_append_left hj]
    exact hx
   |succ i=>
    simp only[List.flatMap_cons]
    rw[List.getElem?_append_right (by rw[ha,Nat.add_mul];omega)]
    have:=ih i (by simpa using hi) (fun x hx=>hlen x (by simp[hx])) j x (by simpa using hx)
    rw[<-this,ha]
    congr 1
    rw[Nat.add_mul];omega
 exact key l i hi hlen j x hx
end
end Go.Proofs.YtafciefjlkdecaaGreat
namespace Go.Proofs.YtafciefjlkdecaaGreat
structure Upd where
 kind:Nat
 key:List UInt8
 val:List UInt8
 delta:Nat
namespace Upd
def check (u:Upd):Nat:=
 if u.key.length<1\/16<u.key.length\/32<u.val.length then 13
 else if u.kind<1\/3<u.kind\/(u.kind≠1/\u.val≠[])\/(u.kind≠3/\u.delta≠0) then 2 else 0
theorem check_ok {u:Upd} (h:u.check=0):1<=u.key.length/\u.key.length<=16/\u.val.length<=32/\1<=u.kind/\u.kind<=3/\(u.kind=1\/u.val=[])/\(u.kind=3\/u.delta=0):=by
 unfold check at h
 split at h
 ·simp at h
 ·split at h
  ·simp at h
  ·rename_i h1 h2
   have e1:¬(u.kind≠1/\u.val≠[]):=fun e=>h2 (Or.inr (Or.inr (Or.inl e)))
   have e2:¬(u.kind≠3/\u.delta≠0):=fun e=>h2 (Or.inr (Or.inr (Or.inr e)))
   refine⟨by omega,by omega,by omega,by omega,by omega,?_,by omega⟩
   by_cases hk:u.kind=1
   ·exact Or.inl hk
   ·refine Or.inr ?_
    by_cases hv:u.val=[]
    ·exact hv
    ·exact(e1 ⟨hk,hv⟩).elim
end Upd
open Go.RowKit
def Upd.cells (u:Upd):List Value:=[.int .u8 u.kind,.string (S u.key),.string (S u.val),.int .u64 u.delta]
def Upd.Wf (u:Upd):Prop:=u.kind<256/\u.delta<18446744073709551616
def Upd.bytes (u:Upd):List UInt8:=
 [UInt8.ofNat u.kind,UInt8.ofNat u.key.length]++u.key++(if u.kind=1 then[UInt8.ofNat u.val.length]++u.val else[])++(if u.kind=3 then le u.delta 8 else[])
def Zb:List UInt8->List Upd->List UInt8×Nat
 |acc,[]=>(acc,0)
 |acc,u::r=>if u.check=0 then Zb (acc++u.bytes) r else([],u.check)
theorem JeO {w:World} {b off:Nat} {l:List Upd} (h:∀(i:Nat) (hi:i<l.length) (j:Nat) (x:Value),(Upd.cells l[i])[j]? =some x->w.cell? ⟨b,off+i*4+j,none⟩=some x) (i:Nat) (hi:i<l.length):
  w.cell? ⟨b,off+i*4,none⟩=some (.int .u8 l[i].kind)/\w.cell? ⟨b,off+i*4+1,none⟩=some (.string (S l[i].key))/\w.cell? ⟨b,off+i*4+2,none⟩=some (.string (S l[i].val))/\w.cell? ⟨b,off+i*4+3,none⟩=some (.int .u64 l[i].delta):=
 ⟨h i hi 0 _ rfl,h i hi 1 _ rfl,h i hi 2 _ rfl,h i hi 3 _ rfl⟩
open Go.RowKit
structure Ent where
 key:List UInt8
 val:List UInt8
def Ent.cells (u:Ent):List Value:=[.string (S u.key),.string (S u.val)]
def Ent.bytes (u:Ent):List UInt8:=[UInt8.ofNat u.key.length]++u.key++[UInt8.ofNat u.val.length]++u.val
def JO (l:List Ent):List UInt8:=l.flatMap Ent.bytes
theorem JfJ {w:World} {b off:Nat} {l:List Ent} (h:∀(i:Nat) (hi:i<l.length) (j:Nat) (x:Value),(Ent.cells l[i])[j]? =some x->w.cell? ⟨b,off+i*2+j,none⟩=some x) (i:Nat) (hi:i<l.length):
  w.cell? ⟨b,off+i*2,none⟩=some (.string (S l[i].key))/\w.cell? ⟨b,off+i*2+1,none⟩=some (.string (S l[i].val)):=
 ⟨h i hi 0 _ rfl,h i hi 1 _ rfl⟩
open Go.RowKit
def JbI (a b:List UInt8):Int:=if bl a b=true then-1 else if a=b then 0 else 1
theorem Jh7 {a b:List UInt8} (h:bl a b=true):JbI a b= -1:=by rw[JbI,if_pos h]
theorem Jp6 (a:List UInt8):JbI a a=0:=by rw[JbI,YN];simp
theorem Jp5 {a b:List UInt8} (h:bl b a=true):JbI a b=1:=by
 rw[JbI,XG h,if_neg (by simp),if_neg (fun e=>ZY h e.symm)]
theorem JlZ {a b:List UInt8} (h:bl a b=false):0<=JbI a b:=by
 rw[JbI,h];simp;split<;>omega
theorem Jb6 {a b:List UInt8}:JbI a b=0↔a=b:=by
 unfold JbI
 split
 ·rename_i h
  simp
  exact ZY h
 ·split<;>simp_all
theorem JdP (a:List UInt8) (w:World):Calls Tryz.prog 157 #[.string (S a)] w fun e w'=>e=.returned (.bool false)/\w=w':=by
 go_enter Tryz.func157,Tryz.ntmps157
 go_wp2
 go_ret
 exact⟨rfl,rfl⟩
theorem Jep (a b:List UInt8) (w:World):Calls Tryz.prog 120 #[.string (S a),.string (S b)] w fun e w'=>e=.returned (.int .i64 (JbI a b))/\w=w':=by
 rcases Jid a b with rfl|h|h
 ·have h1:=YN a
  have hz:=Lib.hid (Jp6 a)
  go_enter Tryz.func120,Tryz.ntmps120
  go_wp2_with (go_at_call 157;refine(JdP _ _).mono ?_;rintro e w' ⟨rfl,rfl⟩)
  go_ret
  exact⟨XR hz.out.symm,rfl⟩
 ·have hz:=Lib.hid (Jh7 h)
  go_enter Tryz.func120,Tryz.ntmps120
  go_wp2_with (go_at_call 157;refine(JdP _ _).mono ?_;rintro e w' ⟨rfl,rfl⟩)
  go_ret
  exact⟨XR hz.out.symm,rfl⟩
 ·have h1:=XG h
  have h2:(a==b)=false:=by simpa using fun e=>ZY h e.symm
  have hz:=Lib.hid (Jp5 h)
  go_enter Tryz.func120,Tryz.ntmps120
  go_wp2_with (go_at_call 157;refine(JdP _ _).mono ?_;rintro e w' ⟨rfl,rfl⟩)
  go_ret
  exact⟨XR hz.out.symm,rfl⟩
open Go.RowKit
theorem JhV (u:Upd) (k:List UInt8) (w:World):
  Calls Tryz.prog 124 #[.agg #[.int .u8 u.kind,.string (S u.key),.string (S u.val),.int .u64 u.delta],.string (S k)] w fun e w'=>e=.returned (.int .i64 (JbI u.key k))/\Below w.heap.size w w':=by
 go_enter Tryz.func124,Tryz.ntmps124
 go_wp2_with (go_at_call 120;refine(Jep _ _ _).mono ?_;rintro e w' ⟨rfl,rfl⟩)
 go_ret
 exact⟨rfl,by go_grown⟩
theorem Jpo (ao:Option Addr) (c:Nat) (l:List Upd) (k:List UInt8) (w:World) (hs:JC Upd.cells 4 w ao l) (hl:l.length<=1000000) (hr:Je Upd.key l):
  Calls Tryz.prog 123 #[.slice ao l.length c,.string (S k),.func (.func 124) #[] #[]] w fun e w'=>e=.returned (.tuple #[.int .i64 (below Upd.key l k:Nat),.bool (JE Upd.key l k)])/\Below w.heap.size w w':=by
 have hbl:=Xe (key:=Upd.key) l k
 go_enter Tryz.func123,Tryz.ntmps123
 go_wp2_with fail
 go_loopw [9,10] (fun i j wr=>∃a b:Nat,i=.int .i64 a/\j=.int .i64 b/\a<=below Upd.key l k/\below Upd.key l k<=b/\b<=l.length/\Below w.heap.size w wr) (fun i j _=>(intOf j).toNat- (intOf i).toNat)
 case atStart=>exact⟨0,l.length,rfl,rfl,Nat.zero_le _,hbl,Nat.le_refl _,Below.refl _ _⟩
 case round=>
  obtain⟨a,b,rfl,rfl,ha,hb,hbn,hB⟩:=hrel
  have hB0:=hB.size
  by_cases hab:a<b
  ·have hab':(a:Int)<(b:Int):=by omega
   have hh:(a+b)/2<l.length:=by omega
   obtain⟨bk,off,rfl,hbk,hcs⟩:=(hs.kept hB (Nat.le_refl _)).at (by omega)
   obtain⟨c0,c1,c2,c3⟩:=JeO hcs ((a+b)/2) hh
   have hR:=hr.below k ((a+b)/2) hh
   clear hcs
   generalize l[(a+b)/2]=u at*
   have hi0:(0:Int)<=((a:Int)+(b:Int))/2:=by omega
   have hi1:((a:Int)+(b:Int))/2<(l.length:Int):=by omega
   cases hq:bl u.key k with
   |true=>
    have hz:=Jh7 hq
    have hlt:(a+b)/2<below Upd.key l k:=hR.1 hq
    clear hR hq
    go_wp2_with (go_at_call 124;refine(Jl (JhV u k _) w.heap.size w (by go_grown) (by go_grown)).mono ?_;rw[hz];rintro e w1 ⟨rfl,hB1,-,-,hs1,hz1⟩)
    go_roundw
    case rel=>exact⟨(a+b)/2+1,b,by go_num,rfl,by omega,hb,hbn,hB1⟩
    case measure=>simp[intOf];omega
   |false=>
    have hz:=JlZ hq
    have hge:below Upd.key l k<=(a+b)/2:=by
     have:=mt hR.2 (by rw[hq];simp)
     omega
    clear hR hq
    have hzz:∃z,Hid (JbI u.key k=z)/\¬z<0:=⟨_,Lib.hid rfl,by omega⟩
    obtain⟨z,hzz,hz0⟩:=hzz
    clear hz
    go_wp2_with (go_at_call 124;refine(Jl (JhV u k _) w.heap.size w (by go_grown) (by go_grown)).mono ?_;rw[hzz.out];rintro e w1 ⟨rfl,hB1,-,-,hs1,hz1⟩)
    go_roundw
    case rel=>exact⟨a,(a+b)/2,rfl,by go_num,ha,hge,by omega,hB1⟩
    case measure=>simp[intOf];omega
  ·have hab':¬(a:Int)<(b:Int):=by omega
   obtain rfl:a=below Upd.key l k:=by omega
   have hf:=hr.found k
   by_cases hin:below Upd.key l k<l.length
   ·obtain⟨bk,off,rfl,hbk,hcs⟩:=(hs.kept hB (Nat.le_refl _)).at (by omega)
    obtain⟨c0,c1,c2,c3⟩:=JeO hcs _ hin
    clear hcs hr hs
    have hin':((below Upd.key l k:Nat):Int)<(l.length:Int):=by omega
    have hin0:(0:Int)<=((below Upd.key l k:Nat):Int):=by omega
    generalize hu:l[below Upd.key l k]=u at*
    by_cases he:u.key=k
    ·have hk:Hid (JE Upd.key l k=true):=Lib.hid (hf.2 ⟨hin,by rw[hu];exact he⟩)
     have hz:=Jb6.2 he
     clear hf hu he
     generalize hidx:below Upd.key l k=i at*
     have hidx':=Lib.hid hidx
     clear hidx
     go_wp2_with (go_at_call 124;refine(Jl (JhV u k _) w.heap.size w (by go_grown) (by go_grown)).mono ?_;rw[hz];rintro e w1 ⟨rfl,hB1,-,-,hs1,hz1⟩)
     go_ret2
     exact⟨Ym (by rw[hidx'.out,hk.out];rfl),hB1⟩
    ·have hk:Hid (JE Upd.key l k=false):=Lib.hid (by
      rw[<-Bool.not_eq_true,hf]
      rintro⟨h1,h2⟩
      exact he (by rw[<-hu];exact h2))
     have hz:(JbI u.key k==0)=false:=by rw[beq_eq_false_iff_ne];exact mt Jb6.1 he
     clear hf hu he
     generalize hidx:below Upd.key l k=i at*
     have hidx':=Lib.hid hidx
     clear hidx
     go_wp2_with (go_at_call 124;refine(Jl (JhV u k _) w.heap.size w (by go_grown) (by go_grown)).mono ?_;rintro e w1 ⟨rfl,hB1,-,-,hs1,hz1⟩)
     go_ret2
     exact⟨Ym (by rw[hidx'.out,hk.out];rfl),hB1⟩
   ·have hk:Hid (JE Upd.key l k=false):=Lib.hid (by
     rw[<-Bool.not_eq_true,hf]
     rintro⟨h1,h2⟩
     exact hin h1)
    have hin':¬((below Upd.key l k:Nat):Int)<(l.length:Int):=by omega
    clear hf hr hs
    generalize hidx:below Upd.key l k=i at*
    have hidx':=Lib.hid hidx
    clear hidx
    go_wp2_with fail
    go_ret2
    exact⟨Ym (by rw[hidx'.out,hk.out];rfl),hB⟩
open Go.RowKit
section
variable {P:Program} (w:World)
theorem JgB (dT sT ty elem:TypeId) (k g o dLen dCap:Nat) (a:Addr) (sLen sCap:Nat) (cur:Array Value) (t:TypeId) (cs:List Value) (m:Nat)
  (hu:P.underlying dT=some (.slice elem)) (hs:(P.info? elem).map (·.size)=some k)
  (hg:w.heap[g]? =some (.cells cur t (0,0))) (hm:Nat.min sLen dLen=m) (hn:cs.length=m*k)
  (hsrc:∀j v,cs[j]? =some v->w.cell? (a.add j)=some v) (hfit:o+cs.length<=cur.size) (h1:∀v∈cs,v.oneCell'=true):
  (Builtin.copy_ #[dT,sT] ty #[.slice (some ⟨g,o,none⟩) dLen dCap,.slice (some a) sLen sCap]).run P w=
   .ok (goInt m) (w.setRow g (cur.toList.take o++cs++cur.toList.drop (o+cs.length)).toArray):=by
 have hst:=run_storeCells_at P g o t cs 0 cur w hg (by simpa using hfit) h1
 cases hq:P.info? elem with
 |none=>simp[hq] at hs
 |some i=>
  have hi:i.size=k:=by simpa[hq] using hs
  have hf:=run_firstCells_some (P:=P) w k m a sLen sCap cs hn hsrc
  simp[Builtin.copy_,run_underlying hu,Builtin.lenOf,sizeOf,typeInfo,hq,hi,hm,hf,hst]
end
theorem JeK {P:Program} (w:World) {ops:Array Oper} {rest:List Oper} {o:Oper} {a:Act} {Q:Exit->Act->World->Prop} (hgd:o.guard=none) (d s:Operand) (t t':TypeId)
  (ho:o.op=.call {callee:=.builtin .copy,args:= #[d,s],argTypes:= #[t,t']}) (v u:Value) (hd:a.eval d=v) (hs:a.eval s=u) {v':Value} {w':World}
  (hr:(Builtin.copy_ #[t,t'] o.type #[v,u]).run P w=.ok v' w') (h:wpList P ops Q rest (a.put o.dst v') w'):wpList P ops Q (o::rest) a w:=by
 refine wpList_plain hgd fun K hK=> ?_
 unfold Oper.wp
 simp only[execOp,ho,resolve,invoke,builtin,Sem.run_bind,Sem.run_pure,Result.andThen_ok,List.map_toArray,List.map_cons,List.map_nil,hd,hs,hr]
 exact hK _ _ h
theorem Jhz {P:Program} {ops:Array Oper} {o:Oper} {a:Act} {w:World} {K:Act->World->Prop} {Q:Exit->Act->World->Prop} {E:Prop}
  (hg:o.guard=none) (d x:Operand) (dT sT:TypeId) (hop:o.op=Op.call {callee:=Callee.builtin Builtin.copy,args:= #[d,x],argTypes:= #[dT,sT]})
  (v u:Value) (hd:a.eval d=v) (hx:a.eval x=u) {v':Value} {w':World} (hr:(Builtin.copy_ #[dT,sT] o.type #[v,u]).run P w=.ok v' w') (hK:K (a.put o.dst v') w'):
  if Region.wanted o (yielded ops a.tmps)=true then Oper.wp P o a w K Q else E:=by
 have hw:Region.wanted o (yielded ops a.tmps)=true:=by simp[Region.wanted,hg]
 rw[if_pos hw]
 unfold Oper.wp
 simp[execOp,hop,resolve,invoke,builtin,hd,hx,hr,Result.andThen]
 exact hK
def Jc (w:World) (E:TypeId) (g:Nat) (cur:List Value):Prop:=w.heap[g]? =some (.cells cur.toArray E (0,0))
theorem Jc.lt {w:World} {E:TypeId} {g:Nat} {cur:List Value} (h:Jc w E g cur):g<w.heap.size:=(Array.getElem?_eq_some_iff.1 h).1
theorem Jc.cell {w:World} {E:TypeId} {g:Nat} {cur:List Value} (h:Jc w E g cur) (j:Nat):w.cell? ⟨g,j,none⟩=cur[j]? :=by
 rw[cell_of_row w g j _ _ _ h,List.getElem?_toArray]
theorem Jc.frozen {w:World} {E:TypeId} {g:Nat} {cur:List Value} (h:Jc w E g cur) (j:Nat):w.frozen? ⟨g,j,none⟩=false:=frozen_of_row w g j _ E h
theorem Jc.set {w:World} {E:TypeId} {g:Nat} {cur:List Value} (h:Jc w E g cur) (new:List Value):Jc (w.setRow g new.toArray) E g new:=setRow_heap w g _ _ E _ h
theorem Jc.drew {w:World} {E:TypeId} {g:Nat} {cur:List Value} (h:Jc w E g cur):Jc w.drew E g cur:=h
theorem Jc.new (w:World) (E:TypeId) (cur:List Value):Jc (w.alloc (.cells cur.toArray E)) E w.heap.size cur:=heap_alloc_new w _
theorem Jc.alloc {w:World} {E:TypeId} {g:Nat} {cur:List Value} (h:Jc w E g cur) (o:Obj):Jc (w.alloc o) E g cur:=(heap_alloc_old w o h.lt).trans h
theorem Jc.shape {w:World} {E:TypeId} {g:Nat} {cur:List Value} (h:Jc w E g cur):w.shape? g=some (E,cur.length):=by
 unfold World.shape?
 rw[show w.heap[g]? =_ from h]
 simp
theorem XU (w:World) (g:Nat) (new:Array Value):w.grownBy (w.setRow g new) (some g):=
 ⟨rfl,rfl,rfl,by simp[World.setRow],fun k _ hk=>setRow_other w g k new (fun e=>hk (by rw[e]))⟩
theorem Zp {w w1:World} {o:Obj} {r:Option Nat} (h:(w.alloc o).grownBy w1 r) (hr:∀k,r=some k->w.heap.size<=k):Below w.heap.size w w1:=
 ⟨h.os,h.tape,h.output,Nat.le_trans (by simp) h.size,fun k hk=>(h.block k (by simp;omega) (fun e=>by have:=hr k e.symm;omega)).trans (Below.heap_alloc _ _ _ hk)⟩
theorem Ju {B:Nat} {w0 w w1:World} {r:Option Nat} (hb:Below B w0 w) (h:w.grownBy w1 r) (hr:∀k,r=some k->B<=k) (hB:B<=w.heap.size):Below B w0 w1:=
 hb.trans ⟨h.os,h.tape,h.output,h.size,fun k hk=>h.block k (by omega) (fun e=>by have:=hr k e.symm;omega)⟩
theorem Jv {w:World} {B:Nat} {E:TypeId} {k:Nat} {v:Value} {n:Nat} {xs:List Value} (h:w.ownsRow B E k v n xs):
  (v=.slice none 0 0/\n=0/\xs=[])\/∃g cap cur,v=.slice (some ⟨g,0,none⟩) n cap/\B<=g/\Jc w E g cur/\n<=cap/\cap<=maxLen/\cur.length=cap*k/\cur.take (n*k)=xs:=by
 obtain⟨hl,⟨rfl,rfl⟩|⟨g,cap,cur,rfl,h1,h2,h3,h4,h5,h6⟩⟩:=h
 ·exact Or.inl ⟨rfl,rfl,List.eq_nil_of_length_eq_zero (by rw[hl];omega)⟩
 ·exact Or.inr ⟨g,cap,cur.toList,rfl,h1,by unfold Jc;rw[h2,Array.toArray_toList],h3,h4,by simpa using h5,h6⟩
theorem YB {w:World} {B:Nat} {E:TypeId} {k g n cap:Nat} {cur xs:List Value} (h1:B<=g) (h2:Jc w E g cur) (h3:n<=cap) (h4:cap<=maxLen) (h5:cur.length=cap*k) (h6:cur.take (n*k)=xs):
  w.ownsRow B E k (.slice (some ⟨g,0,none⟩) n cap) n xs:=by
 refine⟨?_,Or.inr ⟨g,cap,cur.toArray,rfl,h1,h2,h3,h4,by simpa using h5,by simpa using h6⟩⟩
 rw[<-h6,List.length_take,h5]
 exact Nat.min_eq_left (Nat.mul_le_mul_right k h3)
theorem Jc.kept {w w':World} {E:TypeId} {g:Nat} {cur:List Value} {r:Option Nat} (h:Jc w E g cur) (hg:w.grownBy w' r) (hne:some g≠r):Jc w' E g cur:=(hg.block g h.lt hne).trans h
theorem Jc.cells {w:World} {E:TypeId} {g:Nat} {cur:List Value} (h:Jc w E g cur) (o:Nat) (cs:List Value) (hc:∀j v,cs[j]? =some v->cur[o+j]? =some v):∀j v,cs[j]? =some v->w.cell? ((⟨g,o,none⟩:Addr).add j)=some v:=by
 intro j v hv
 rw[show(⟨g,o,none⟩:Addr).add j=⟨g,o+j,none⟩ by simp[Addr.add],h.cell]
 exact hc j v hv
def over (cur:List Value) (o:Nat) (cs:List Value):List Value:=cur.take o++(cs++cur.drop (o+cs.length))
theorem XQ {P:Program} (w:World) {ops:Array Oper} {rest:List Oper} {o:Oper} {a:Act} {Q:Exit->Act->World->Prop} (hgd:o.guard=none) (d s:Operand) (t t':TypeId)
  (ho:o.op=.call {callee:=.builtin .copy,args:= #[d,s],argTypes:= #[t,t']}) (E:TypeId) (k:Nat) (hu:P.underlying t=some (.slice E)) (hs:(P.info? E).map (·.size)=some k)
  (g off dLen dCap:Nat) (ad:Addr) (sLen sCap:Nat) (hd:a.eval d=.slice (some ⟨g,off,none⟩) dLen dCap) (hsr:a.eval s=.slice (some ad) sLen sCap) (cur cs:List Value) (m:Nat)
  (hrow:Jc w E g cur) (hm:Nat.min sLen dLen=m) (hn:cs.length=m*k) (hsrc:∀j v,cs[j]? =some v->w.cell? (ad.add j)=some v) (hfit:off+cs.length<=cur.length) (h1:∀v∈cs,v.oneCell'=true)
  (h:∀w',Jc w' E g (over cur off cs)->w.grownBy w' (some g)->wpList P ops Q rest (a.put o.dst (goInt m)) w'):wpList P ops Q (o::rest) a w:=by
 have hr:=JgB (P:=P) w t t' o.type E k g off dLen dCap ad sLen sCap cur.toArray E cs m hu hs hrow hm hn hsrc (by simpa using hfit) h1
 refine JeK w hgd d s t t' ho _ _ hd hsr hr (h _ ?_ (XU _ _ _))
 have:=hrow.set (over cur off cs)
 simpa[over] using this
theorem JaQ {P:Program} {ops:Array Oper} {o:Oper} {a:Act} {w:World} {K:Act->World->Prop} {Q:Exit->Act->World->Prop} {E0:Prop}
  (hgd:o.guard=none) (d s:Operand) (t t':TypeId) (ho:o.op=Op.call {callee:=Callee.builtin Builtin.copy,args:= #[d,s],argTypes:= #[t,t']}) (E:TypeId) (k:Nat) (hu:P.underlying t=some (.slice E)) (hs:(P.info? E).map (·.size)=some k)
  (g off dLen dCap:Nat) (ad:Addr) (sLen sCap:Nat) (hd:a.eval d=.slice (some ⟨g,off,none⟩) dLen dCap) (hsr:a.eval s=.slice (some ad) sLen sCap) (cur cs:List Value) (m:Nat)
  (hrow:Jc w E g cur) (hm:Nat.min sLen dLen=m) (hn:cs.length=m*k) (hsrc:∀j v,cs[j]? =some v->w.cell? (ad.add j)=some v) (hfit:off+cs.length<=cur.length) (h1:∀v∈cs,v.oneCell'=true)
  (h:∀w',Jc w' E g (over cur off cs)->w.grownBy w' (some g)->K (a.put o.dst (goInt m)) w'):
  if Region.wanted o (yielded ops a.tmps)=true then Oper.wp P o a w K Q else E0:=by
 have hr:=JgB (P:=P) w t t' o.type E k g off dLen dCap ad sLen sCap cur.toArray E cs m hu hs hrow hm hn hsrc (by simpa using hfit) h1
 refine Jhz hgd d s t t' ho _ _ hd hsr hr (h _ ?_ (XU _ _ _))
 have:=hrow.set (over cur off cs)
 simpa[over] using this
theorem YA (z:Array Value) (k:Nat):(Builtin.zeroCells z k).size=k*z.size:=by simp[Builtin.zeroCells]
theorem XL {P:Program} (w:World) {ops:Array Oper} {rest:List Oper} {o:Oper} {a:Act} {Q:Exit->Act->World->Prop} (hgd:o.guard=none) (s x:Operand) (t tn:TypeId)
  (ho:o.op=.call {callee:=.builtin .append,args:= #[s,x],argTypes:= #[t,tn]}) (E:TypeId) (i:TypeInfo) (z:Value) (k bytes:Nat) (ht:P.underlying t=some (.slice E)) (htn:P.underlying tn=some (.int .i64)) (hi:P.info? E=some i) (hz:i.zero=some z)
  (hk:i.size=k) (hby:i.bytes=bytes) (hzs:z.cells.size=k) (hk0:0<k) (hb0:bytes<=1000) (b n cap:Nat) (cur:List Value) (hrow:Jc w E b cur) (hs:a.eval s=.slice (some ⟨b,0,none⟩) n cap) (m:Nat) (hx:a.eval x=.int .i64 (m:Int))
  (hfit:n*k<=cur.length) (hm:0<m) (hroom:cap<n+m) (tot:Nat) (htot:n+m=tot) (hsmall:n+m<=4000000)
  (h:∀w' G zs,Jc w' E w.heap.size (cur.take (n*k)++zs)->zs.length=(G-n)*k->tot<=G->G<=maxLen->w.grownBy w' none->wpList P ops Q rest (a.put o.dst (.slice (some ⟨w.heap.size,0,none⟩) tot G)) w'):
  wpList P ops Q (o::rest) a w:=by
 subst hk hby htot
 have hold:(Builtin.firstCells i.size n (.slice (some ⟨b,0,none⟩) n cap)).run P w.drew=.ok (cur.take (n*i.size)).toArray w.drew:=
  run_firstCells_some w.drew i.size n ⟨b,0,none⟩ n cap (cur.take (n*i.size)) (by rw[List.length_take];omega) (hrow.drew.cells 0 _ fun j v hv=>by
   rw[List.getElem?_take] at hv
   split at hv
   ·rw[Nat.zero_add];exact hv
   ·simp at hv)
 have hcap:Builtin.nextslicecap (n+m) cap*i.bytes<=281474976710656:=growslice_fits hroom (by
  have:(n+m)*i.bytes<=4000000*1000:=Nat.mul_le_mul hsmall hb0
  omega)
 have hr:=Lib.run_append_grow_zeros (P:=P) w t tn o.type E i z .i64 .i64 ht htn hi hz (some ⟨b,0,none⟩) n cap (cur.take (n*i.size)) hold m hm hk0 hroom (by omega) (by
  have:m*i.bytes<=4000000*1000:=Nat.mul_le_mul (by omega) hb0
  omega) hcap
 have hG:=grownCap_ge w (n+m) cap E
 have hGm:=grownCap_le_maxLen w (n+m) cap E (by unfold maxLen;omega)
 generalize grownCap w (n+m) cap E=G at*
 refine Lib.wpList_append_run w hgd s x t tn ho _ _ hs hx _ _ hr (h _ G ((Builtin.zeroCells z.cells m).toList++(Builtin.zeroCells z.cells (G- (n+m))).toList) ?_ ?_ hG hGm ⟨rfl,rfl,rfl,by simp[World.alloc],fun j hj _=>heap_alloc_old w.drew _ hj⟩)
 ·have e:(cur.take (n*i.size)).toArray++Builtin.zeroCells z.cells m++Builtin.zeroCells z.cells (G- (n+m))=(cur.take (n*i.size)++((Builtin.zeroCells z.cells m).toList++(Builtin.zeroCells z.cells (G- (n+m))).toList)).toArray:=by
   apply Array.ext';simp
  rw[e]
  exact Jc.new w.drew E _
 ·rw[List.length_append,Array.length_toList,Array.length_toList,YA,YA,hzs,<-Nat.add_mul]
  congr 1;omega
theorem YZ {cur cs:List Value} {o:Nat} (h:o+cs.length<=cur.length):(over cur o cs).length=cur.length:=by simp[over];omega
theorem XA (P Z cs:List Value) (o:Nat) (ho:P.length=o):over (P++Z) o cs=P++(cs++Z.drop cs.length):=by
 subst ho
 simp[over,List.drop_append]
theorem Ji2 (P Z cs ds:List Value) (o m:Nat) (ho:P.length=o) (hm:o+cs.length=m) (n:Nat) (hn:m+ds.length=n):(over (over (P++Z) o cs) m ds).take n=P++(cs++ds):=by
 rw[XA P Z cs o ho,<-List.append_assoc,XA (P++cs) _ ds m (by simp;omega),<-List.append_assoc,List.take_append_of_le_length (by simp;omega),List.take_of_length_le (by simp;omega)]
 simp
theorem Ji3 (P Q R X:List Value) (o m:Nat) (ho:P.length=o) (hm:o+X.length=m) (n:Nat) (hn:m+Q.length=n) (hR:X.length<=R.length):(over (over (P++(Q++R)) m Q) o X).take n=P++(X++Q):=by
 have hT:((P++(Q++R)).take m).length=m:=by rw[List.length_take];simp;omega
 have e1:over (P++(Q++R)) m Q=(P++(Q++R)).take m++(Q++(P++(Q++R)).drop (m+Q.length)):=rfl
 have e2:(P++(Q++R)).take m=P++(Q++R).take X.length:=by rw[<-hm,<-ho,List.take_length_add_append]
 rw[e1,e2,List.append_assoc,XA P _ X o ho,List.drop_append_of_le_length (by rw[List.length_take];simp;omega),List.drop_eq_nil_of_le (by rw[List.length_take];omega),List.nil_append]
 rw[<-List.append_assoc X,<-List.append_assoc P,List.take_append_of_le_length (by simp;omega),List.take_of_length_le (by simp;omega)]
theorem Jb5 {a b c:World} {r:Option Nat} {g:Nat} (h:a.grownBy b r) (k:b.grownBy c (some g)) (hg:a.heap.size<=g):a.grownBy c r:=
 ⟨k.os.trans h.os,k.tape.trans h.tape,k.output.trans h.output,Nat.le_trans h.size k.size,fun i hi hr=>(k.block i (Nat.lt_of_lt_of_le hi h.size) (fun e=>by simp at e;omega)).trans (h.block i hi hr)⟩
theorem JfE {a b:World} {r:Option Nat} (h:a.grownBy b r):a.grownBy b.drew r:=⟨h.os,h.tape,h.output,h.size,h.block⟩
theorem XT {a b:World} {r:Option Nat} (h:a.drew.grownBy b r):a.grownBy b r:=⟨h.os,h.tape,h.output,h.size,h.block⟩
theorem Zz {a b c:World} {r:Option Nat} (h:a.grownBy b r) (k:b.grownBy c r):a.grownBy c r:=
 ⟨k.os.trans h.os,k.tape.trans h.tape,k.output.trans h.output,Nat.le_trans h.size k.size,fun i hi hr=>(k.block i (Nat.lt_of_lt_of_le hi h.size) hr).trans (h.block i hi hr)⟩
theorem Jbb {P:Program} {ops:Array Oper} {o:Oper} {a:Act} {w:World} {K:Act->World->Prop} {Q:Exit->Act->World->Prop} {E0:Prop} (hgd:o.guard=none) (s x:Operand) (t:TypeId)
  (ho:o.op=Op.call {callee:=Callee.builtin Builtin.append,args:= #[s,x],argTypes:= #[t,t]})
  (base:Nat) (e:TypeId) (i:TypeInfo) (z:Value) (size bytes:Nat) (ht:P.underlying t=some (.slice e)) (hi:P.info? e=some i) (hz:i.zero=some z)
  (hsize:i.size=size) (hby:i.bytes=bytes) (hzs:z.cells.size=size) (hsz:0<size)
  (v:Value) (n:Nat) (xs:List Value) (hs:a.eval s=v) (hown:w.ownsRow base e size v n xs)
  (ad:Addr) (m c:Nat) (news:List Value) (hx:a.eval x=.slice (some ad) m c) (hl:news.length=m*size) (hnews:∀j u,news[j]? =some u->w.cell? (ad.add j)=some u) (h1:∀u∈news,u.oneCell'=true)
  (h63:n+m<=maxLen) (hbytes:(n+m)*bytes<=140737488355328) (hbase:base<=w.heap.size)
  (h:∀v' w',w'.ownsRow base e size v' (n+m) (xs++news)->w.grownBy w' v.ownBlock->(v'.ownBlock=v.ownBlock\/v'.ownBlock=some w.heap.size)->K (a.put o.dst v') w'):
  if Region.wanted o (yielded ops a.tmps)=true then Oper.wp P o a w K Q else E0:=by
 have hw:Region.wanted o (yielded ops a.tmps)=true:=by simp[Region.wanted,hgd]
 rw[if_pos hw]
 obtain⟨v',w',hr,h2,h3,-,h5⟩:=run_append_own_at (P:=P) w base t o.type e i z size bytes ht hi hz hsize hby hzs hsz v n xs hown ad m c news hl hnews h1 h63 hbytes hbase
 unfold Oper.wp
 simp only[execOp,ho,resolve,invoke,builtin,Sem.run_bind,Sem.run_pure,Result.andThen_ok,List.map_toArray,List.map_cons,List.map_nil,hs,hx,hr]
 exact h v' w' h2 h3 h5
theorem Jm {w:World} {B:Nat} {E:TypeId} {k:Nat} {v:Value} {n:Nat} {xs:List Value} (h:w.ownsRow B E k v n xs):∃ao c,v=.slice ao n c:=by
 rcases h.2 with⟨e,hn⟩|⟨g,cap,cur,hv,_⟩
 ·exact⟨none,0,by rw[e,hn]⟩
 ·exact⟨_,_,hv⟩
theorem Jb {B:Nat} {a w:World} (h:Below B a w):Below B a w.drew:=⟨h.os,h.tape,h.output,h.size,h.block⟩
theorem JI {w:World} {B B':Nat} {E:TypeId} {k:Nat} {v:Value} {n:Nat} {xs:List Value} (h:w.ownsRow B E k v n xs) (hB:B'<=B):w.ownsRow B' E k v n xs:=by
 obtain⟨hl,h1|⟨g,cap,cur,e,h2,h3⟩⟩:=h
 ·exact⟨hl,Or.inl h1⟩
 ·exact⟨hl,Or.inr ⟨g,cap,cur,e,Nat.le_trans hB h2,h3⟩⟩
theorem Yk {w:World} {B:Nat} {E:TypeId} {k:Nat} {ao:Option Addr} {n c:Nat} {xs:List Value} (h:w.ownsRow B E k (.slice ao n c) n xs) (hn:0<n):∃g,ao=some ⟨g,0,none⟩/\B<=g/\g<w.heap.size/\∀j x,xs[j]? =some x->w.cell? ⟨g,j,none⟩=some x:=by
 rcases Jv h with⟨_,h0,-⟩|⟨g,cap,cur,e,hB,hr,h3,-,h5,h6⟩
 ·omega
 ·simp only[Value.slice.injEq,true_and] at e
  refine⟨g,e.1,hB,hr.lt,fun j x hx=> ?_⟩
  rw[<-h6,List.getElem?_take] at hx
  split at hx
  ·rw[hr.cell];exact hx
  ·simp at hx
open Go.RowKit
theorem JgZ:(Tryz.prog.info? 39).map (fun i=>(i.zero,i.size,i.bytes))=some (some (.agg #[.int .u8 0,.string ByteArray.empty,.string ByteArray.empty,.int .u64 0]),4,48):=by kernel_rfl
def cellsU (l:List Upd):List Value:=l.flatMap Upd.cells
theorem J1:∀l:List Upd,(cellsU l).length=l.length*4
 |[]=>rfl
 |u::l=>by
  have:=J1 l
  simp only[cellsU,List.flatMap_cons,List.length_append,List.length_cons] at*
  rw[this]
  simp[Upd.cells];omega
theorem Yq (a b:List Upd):cellsU (a++b)=cellsU a++cellsU b:=by simp[cellsU]
theorem ZQ (u:Upd):cellsU [u]=Upd.cells u:=by simp[cellsU]
theorem YF (l:List Upd):∀v∈cellsU l,v.oneCell'=true:=by
 intro v hv
 simp only[cellsU,List.mem_flatMap] at hv
 obtain⟨u,-,hv⟩:=hv
 simp only[Upd.cells,List.mem_cons,List.not_mem_nil,or_false] at hv
 rcases hv with rfl|rfl|rfl|rfl<;>rfl
theorem Xo:∀(l:List Upd) (i:Nat) (hi:i<l.length) (j:Nat) (x:Value),(Upd.cells l[i])[j]? =some x->(cellsU l)[i*4+j]? =some x
 |[],i,hi,_,_,_=>by simp at hi
 |u::l,0,_,j,x,hx=>by
  have hj:j<(Upd.cells u).length:=(List.getElem?_eq_some_iff.1 hx).1
  simp only[cellsU,List.flatMap_cons,Nat.zero_mul,Nat.zero_add]
  rw[List.getElem?_append_left hj];exact hx
 |u::l,i+1,hi,j,x,hx=>by
  have:=Xo l i (by simpa using hi) j x (by simpa using hx)
  have hu:(Upd.cells u).length=4:=rfl
  simp only[cellsU,List.flatMap_cons] at*
  rw[List.getElem?_append_right (by rw[hu];omega),hu,show(i+1)*4+j-4=i*4+j by omega]
  exact this
theorem JjM (l:List Upd) (n:Nat):(cellsU l).take (n*4)=cellsU (l.take n):=by
 by_cases h:n<=l.length
 ·conv=>lhs;rw[<-List.take_append_drop n l,Yq]
  rw[List.take_append_of_le_length (by rw[J1,List.length_take];omega),List.take_of_length_le (by rw[J1,List.length_take];omega)]
 ·rw[List.take_of_length_le (by rw[J1];omega),List.take_of_length_le (by omega)]
theorem JjP (l:List Upd) (n:Nat):(cellsU l).drop (n*4)=cellsU (l.drop n):=by
 by_cases h:n<=l.length
 ·conv=>lhs;rw[<-List.take_append_drop n l,Yq]
  rw[List.drop_append,List.drop_of_length_le (by rw[J1,List.length_take];omega),J1,List.length_take]
  simp[Nat.min_eq_left h]
 ·rw[List.drop_of_length_le (by rw[J1];omega),List.drop_of_length_le (by omega)];rfl
structure SlU (w:World) (v:Value) (l:List Upd):Prop where
 form:∃ao c,v=.slice ao l.length c/\JC Upd.cells 4 w ao l/\l.length<=c/\(c:Int)<=9223372036854775807/\(ao=none->c=0)
theorem SlU.nil (w:World):SlU w (.slice none 0 0) []:=⟨none,0,rfl,Or.inl rfl,Nat.le_refl _,by omega,fun _=>rfl⟩
theorem SlU.kept {w w':World} {v:Value} {l:List Upd} {B:Nat} (h:SlU w v l) (hb:Below B w w') (hB:w.heap.size<=B):SlU w' v l:=by
 obtain⟨ao,c,rfl,h1,h2⟩:=h
 exact⟨ao,c,rfl,h1.kept hb hB,h2⟩
theorem JC.cellsU {w:World} {b off:Nat} {l:List Upd} (h:∀(i:Nat) (hi:i<l.length) (j:Nat) (x:Value),(Upd.cells l[i])[j]? =some x->w.cell? ⟨b,off+i*4+j,none⟩=some x):
  ∀j x,(cellsU l)[j]? =some x->w.cell? ⟨b,off+j,none⟩=some x:=by
 intro j x hx
 have hj:=(List.getElem?_eq_some_iff.1 hx).1
 rw[J1] at hj
 have hi:j/4<l.length:=by omega
 have hr:j% 4<(Upd.cells l[j/4]).length:=Nat.mod_lt _ (by decide)
 have e:=Xo l (j/4) hi (j% 4) _ (List.getElem?_eq_getElem hr)
 rw[show j/4*4+j% 4=j by omega] at e
 rw[hx] at e
 have:=h (j/4) hi (j% 4) x (by rw[List.getElem?_eq_getElem hr,<-e])
 rw[show off+j/4*4+j% 4=off+j by omega] at this
 exact this
theorem SlU.of_own {w:World} {B n:Nat} {v:Value} {l:List Upd} (h:w.ownsRow B 39 4 v n (cellsU l)):l.length=n/\SlU w v l:=by
 have hn:l.length=n:=by have:=h.1;rw[J1] at this;omega
 refine⟨hn,?_⟩
 subst hn
 rcases Jv h with⟨rfl,h0,-⟩|⟨g,cap,cur,rfl,-,hr,h3,h4,h5,h6⟩
 ·obtain rfl:=List.eq_nil_of_length_eq_zero h0
  exact SlU.nil w
 ·refine⟨_,cap,rfl,Or.inr ⟨g,0,rfl,hr.lt,fun i hi j x hx=> ?_⟩,h3,by unfold maxLen at h4;omega,fun e=>by simp at e⟩
  have hj:j<4:=(List.getElem?_eq_some_iff.1 hx).1
  have e:=Xo l i hi j x hx
  rw[hr.cell,Nat.zero_add,<-e,<-h6,List.getElem?_take,if_pos (by omega)]
theorem JbJ (v:Value) (l:List Upd) (w:World) (h:SlU w v l) (hl:l.length<=1000000):
  Calls Tryz.prog 94 #[v] w fun e w'=>(∃v',e=.returned v'/\w'.ownsRow w.heap.size 39 4 v' l.length (cellsU l))/\Below w.heap.size w w':=by
 obtain⟨ao,c,rfl,hs,hc1,hc2,hn⟩:=h
 have hnil:=fun(w:World) a n c n' c'=>Lib.run_eql_slice_nil (P:=Tryz.prog) w 101 39 a n c n' c' Tryz.underlying101
 obtain⟨i0,hi,hz0,hz1,hz2⟩:=info_parts JgZ
 cases ao with
 |none=>
  obtain rfl:=hn rfl
  obtain rfl:l=[]:=List.eq_nil_of_length_eq_zero (by omega)
  go_enter Tryz.func94,Tryz.ntmps94
  go_wp2_with fail
  go_ret
  exact⟨⟨_,rfl,World.ownsRow_nil _ _ _ _⟩,Below.refl _ _⟩
 |some a=>
  have hown:=World.ownsRow_made (e:=39) (size:=4) (base:=w.heap.size) w #[] 0 (Nat.le_refl _) (by unfold maxLen;omega) rfl
  have hnews:∀j u,(cellsU l)[j]? =some u->(w.alloc (.cells #[] 39)).cell? (a.add j)=some u:=by
   intro j u hu
   have hj:=(List.getElem?_eq_some_iff.1 hu).1
   rw[J1] at hj
   obtain⟨b,off,e,hb,hc⟩:=hs.at (by omega)
   obtain rfl:a=⟨b,off,none⟩:=by simpa using e
   rw[show(⟨b,off,none⟩:Addr).add j=⟨b,off+j,none⟩ by simp[Addr.add]]
   exact Jf _ (JC.cellsU hc j u hu)
  have hcl:=J1 l
  clear hs
  go_enter Tryz.func94,Tryz.ntmps94
  go_wp2_with (at_builtin;refine wpList_append_own_at _ rfl _ _ 101 rfl w.heap.size 39 i0 (.agg #[.int .u8 0,.string ByteArray.empty,.string ByteArray.empty,.int .u64 0]) 4 48 Tryz.underlying101 hi hz0 hz1 hz2 rfl (by decide) _ 0 [] rfl hown a l.length c (cellsU l) rfl hcl hnews (YF l) (by unfold maxLen;omega) (by omega) (by simp) ?_;intro v' w1 hown' hgrow hnil' hat)
  go_ret
  rw[Nat.zero_add,List.nil_append] at hown'
  exact⟨⟨_,rfl,hown'⟩,Zp hgrow fun k e=>Nat.le_of_eq (Option.some.inj e)⟩
open Go.RowKit
structure JZ (w:World) (v:Value) (l:List Upd):Prop where
 form:∃s,v=.agg #[s]/\SlU w s l
theorem JZ.kept {w w':World} {v:Value} {l:List Upd} {B:Nat} (h:JZ w v l) (hb:Below B w w') (hB:w.heap.size<=B):JZ w' v l:=by
 obtain⟨s,rfl,hs⟩:=h
 exact⟨s,rfl,hs.kept hb hB⟩
theorem JZ.of_own {w:World} {B n:Nat} {v:Value} {l:List Upd} (h:w.ownsRow B 39 4 v n (cellsU l)):JZ w (.agg #[v]) l:=⟨v,rfl,(SlU.of_own h).2⟩
theorem lenU (v:Value) (l:List Upd) (w:World) (h:JZ w v l):
  Calls Tryz.prog 63 #[v] w fun e w'=>e=.returned (.int .i64 l.length)/\Below w.heap.size w w':=by
 obtain⟨s,rfl,ao,c,rfl,hs,hc1,hc2,hn⟩:=h
 go_enter Tryz.func63,Tryz.ntmps63
 go_wp2
 go_ret
 exact⟨rfl,by go_grown⟩
theorem JlL (v:Value) (l:List Upd) (w:World) (h:JZ w v l) (hl:l.length<=1000000):
  Calls Tryz.prog 75 #[v] w fun e w'=>(∃v',e=.returned v'/\w'.ownsRow w.heap.size 39 4 v' l.length (cellsU l))/\Below w.heap.size w w':=by
 obtain⟨s,rfl,h2⟩:=h
 have hcl:=fun w=>JbJ s l w
 obtain⟨ao,c,rfl,hs,hc1,hc2,hn⟩:=h2
 have hS:SlU w (.slice ao l.length c) l:=⟨ao,c,rfl,hs,hc1,hc2,hn⟩
 have H:=Lib.hid hcl
 have HS:=Lib.hid hS
 clear hcl hS hn
 go_enter Tryz.func75,Tryz.ntmps75
 go_wp2_with (go_at_call 94;refine(Jl (H.out _ (HS.out.kept (by go_grown) (Nat.le_refl _)) hl) w.heap.size w (by go_grown) (by go_grown)).mono ?_;rintro e w1 ⟨⟨v',rfl,hown⟩,hB,-,-,hs1,hz1⟩)
 go_ret
 exact⟨⟨_,rfl,JI hown (by simp)⟩,hB⟩
theorem JfI (v:Value) (l:List Upd) (k:List UInt8) (w:World) (h:JZ w v l) (hl:l.length<=1000000) (hr:Je Upd.key l):
  Calls Tryz.prog 90 #[v,.string (S k)] w fun e w'=>e=.returned (.tuple #[.int .i64 (below Upd.key l k:Nat),.bool (JE Upd.key l k)])/\Below w.heap.size w w':=by
 obtain⟨s,rfl,ao,c,rfl,hs,hc1,hc2,hn⟩:=h
 go_enter Tryz.func90,Tryz.ntmps90
 go_wp2_with (go_at_call 123;refine(Jl (Jpo ao c l k _ (hs.kept (by go_grown) (Nat.le_refl _)) hl hr) w.heap.size w (by go_grown) (by go_grown)).mono ?_;rintro e w1 ⟨rfl,hB,-,-,hs1,hz1⟩)
 go_ret2
 exact⟨rfl,hB⟩
open Go.RowKit
theorem Ji {w w':World} {B:Nat} {E:TypeId} {k:Nat} {v:Value} {n:Nat} {xs:List Value} (h:w.ownsRow B E k v n xs) (hb:Below w.heap.size w w'):w'.ownsRow B E k v n xs:=
 h.kept (row:=none) ⟨hb.os,hb.tape,hb.output,hb.size,fun i hi _=>hb.block i hi⟩ (by cases hv:v.ownBlock<;>simp)
theorem X8 {B:Nat} {w w':World} (h:Below w.heap.size w w') (hB:B<=w.heap.size):Below B w w':=h.mono hB
def ZE (a b:Int):Int:=if b>a then b else a
theorem Jbq {P:Program} (ts:Array TypeId) (t:TypeId) (a b:Int) (w:World):(Builtin.max_ ts t #[.int .i64 a,.int .i64 b]).run P w=.ok (.int .i64 (ZE a b)) w:=by rw[run_max_int2];rfl
theorem JjU (a b:Nat):ZE (a:Int) (b:Int)=((max a b:Nat):Int):=by unfold ZE;split<;>omega
theorem Jj {w:World} {a:Addr} {v:Value} (h:w.cell? a=some v):w.drew.cell? a=some v:=h
theorem YL {w:World} {a:Addr} {x:Bool} (h:w.frozen? a=x):w.drew.frozen? a=x:=h
theorem J5 {w:World} {b b' o o':Nat} {v u:Value} (h:b≠b') (hc:w.cell? ⟨b,o,none⟩=some v):(w.setCell ⟨b',o',none⟩ u).cell? ⟨b,o,none⟩=some v:=
 (World.cell?_of_block (Below.heap_setCell _ _ _ _ h)).trans hc
theorem JC.cells4 {w:World} {ao:Option Addr} {l:List Upd} (hs:JC Upd.cells 4 w ao l) (i:Nat) (hi:i<l.length):
  ∃b off,ao=some ⟨b,off,none⟩/\b<w.heap.size/\w.cell? ⟨b,off+i*4,none⟩=some (.int .u8 l[i].kind)/\w.cell? ⟨b,off+i*4+1,none⟩=some (.string (S l[i].key))/\w.cell? ⟨b,off+i*4+2,none⟩=some (.string (S l[i].val))/\w.cell? ⟨b,off+i*4+3,none⟩=some (.int .u64 l[i].delta):=by
 obtain⟨b,off,rfl,hb,hc⟩:=hs.at (by omega)
 obtain⟨h0,h1,h2,h3⟩:=JeO hc i hi
 exact⟨b,off,rfl,hb,h0,h1,h2,h3⟩
theorem Jh {B:Nat} {w w':World} (h:Below B w w') {b:Nat} (hb:b<B) (o:Nat):w'.cell? ⟨b,o,none⟩=w.cell? ⟨b,o,none⟩:=World.cell?_of_block (h.block b hb)
theorem Ja {w w':World} {b o:Nat} {v:Value} (hb:Below w.heap.size w w') (h:w.cell? ⟨b,o,none⟩=some v):w'.cell? ⟨b,o,none⟩=some v:=
 ((JB hb).1 b o (World.block_lt_of_cell? w _ h)).trans h
theorem Je2 {α:Type} {Q:List α->Prop} (h0:Q []) (h1:∀us u,Q us->Q (us++[u])) (l:List α):Q l:=by
 have h:∀r:List α,Q r.reverse:=by
  intro r
  induction r with
  |nil=>exact h0
  |cons a r ih=>rw[List.reverse_cons];exact h1 _ _ ih
 have:=h l.reverse
 rwa[List.reverse_reverse] at this
theorem SlU.cells4 {w:World} {a:Option Addr} {n c:Nat} {A:List Upd} (h:SlU w (.slice a n c) A) (i:Nat) (hi:i<A.length):
  ∃b off,a=some ⟨b,off,none⟩/\b<w.heap.size/\w.cell? ⟨b,off+i*4,none⟩=some (.int .u8 A[i].kind)/\w.cell? ⟨b,off+i*4+1,none⟩=some (.string (S A[i].key))/\w.cell? ⟨b,off+i*4+2,none⟩=some (.string (S A[i].val))/\w.cell? ⟨b,off+i*4+3,none⟩=some (.int .u64 A[i].delta):=by
 obtain⟨ao,c',e,hs,-⟩:=h
 simp only[Value.slice.injEq] at e
 obtain⟨rfl,rfl,rfl⟩:=e
 exact JC.cells4 hs i hi
theorem JS {B:Nat} {a w:World} (h:Below B a w) (m:Nat):Below B a (w.drewN m):=⟨h.os,h.tape,h.output,h.size,h.block⟩
theorem Jco (w:World) (x y z u:Value) (t:TypeId):∀j v,[x,y,z,u][j]? =some v->(w.alloc (.cells #[x,y,z,u] t)).cell? ((⟨w.heap.size,0,none⟩:Addr).add j)=some v:=by
 intro j v hj
 match j,hj with
 |0,hj=>simp at hj;subst hj;simp[Addr.add]
 |1,hj=>simp at hj;subst hj;simp[Addr.add]
 |2,hj=>simp at hj;subst hj;simp[Addr.add]
 |3,hj=>simp at hj;subst hj;simp[Addr.add]
theorem JhT (k:Int) (x y:ByteArray) (d:Int):∀u∈[Value.int .u8 k,.string x,.string y,.int .u64 d],u.oneCell'=true:=by
 intro u hu
 simp only[List.mem_cons,List.not_mem_nil,or_false] at hu
 rcases hu with rfl|rfl|rfl|rfl<;>rfl
theorem JjN (l:List Upd) (u:Upd):cellsU (l++[u])=cellsU l++[.int .u8 u.kind,.string (S u.key),.string (S u.val),.int .u64 u.delta]:=by
 simp[cellsU,Upd.cells]
def Jkc (a b:Int):Int:=if b<a then b else a
theorem JiE {P:Program} (ts:Array TypeId) (t:TypeId) (a b:Int) (w:World):(Builtin.min_ ts t #[.int .i64 a,.int .i64 b]).run P w=.ok (.int .i64 (Jkc a b)) w:=by rw[run_min_int2];rfl
theorem Jin (a b:Nat):Jkc (a:Int) (b:Int)=((min a b:Nat):Int):=by unfold Jkc;split<;>omega
open Go.RowKit
theorem Yc {P:Program} (w:World) {ops:Array Oper} {rest:List Oper} {o:Oper} {a:Act} {Q:Exit->Act->World->Prop} (hgd:o.guard=none) (s x:Operand) (t:TypeId)
  (ho:o.op=.call {callee:=.builtin .append,args:= #[s,x],argTypes:= #[t,t]})
  (base:Nat) (e:TypeId) (i:TypeInfo) (z:Value) (size bytes:Nat) (ht:P.underlying t=some (.slice e)) (hi:P.info? e=some i) (hz:i.zero=some z)
  (hsize:i.size=size) (hby:i.bytes=bytes) (hzs:z.cells.size=size) (hsz:0<size)
  (v:Value) (n:Nat) (xs:List Value) (hs:a.eval s=v) (hown:w.ownsRow base e size v n xs)
  (ao:Option Addr) (m c:Nat) (news:List Value) (hx:a.eval x=.slice ao m c) (hl:news.length=m*size) (hnone:ao=none->m=0/\c=0) (hnews:∀ad,ao=some ad->∀j u,news[j]? =some u->w.cell? (ad.add j)=some u) (h1:∀u∈news,u.oneCell'=true)
  (h63:n+m<=maxLen) (hbytes:(n+m)*bytes<=140737488355328) (hbase:base<=w.heap.size)
  (h:∀v' w',w'.ownsRow base e size v' (n+m) (xs++news)->w.grownBy w' v.ownBlock->(v'.ownBlock=v.ownBlock\/v'.ownBlock=some w.heap.size)->wpList P ops Q rest (a.put o.dst v') w'):
  wpList P ops Q (o::rest) a w:=by
 cases ao with
 |none=>
  obtain⟨rfl,rfl⟩:=hnone rfl
  obtain rfl:news=[]:=List.eq_nil_of_length_eq_zero (by omega)
  refine wpList_append_own_none hgd s x t ho base e i size ht hi v n xs hs hown hx (h v w ?_ ⟨rfl,rfl,rfl,Nat.le_refl _,fun _ _ _=>rfl⟩ (Or.inl rfl))
  simpa using hown
 |some ad=>exact wpList_append_own_at w hgd s x t ho base e i z size bytes ht hi hz hsize hby hzs hsz v n xs hs hown ad m c news hx hl (hnews ad rfl) h1 h63 hbytes hbase (fun v' w' a b _ d=>h v' w' a b d)
theorem Jop (n:Nat) (hn:n<=200000) (w:World):
  Calls Tryz.prog 134 #[.slice none 0 0,.int .i64 n] w fun e w'=>(∃v',e=.returned v'/\w'.ownsRow w.heap.size 39 4 v' 0 [])/\Below w.heap.size w w':=by
 obtain⟨i0,hi,hz0,hz1,hz2⟩:=info_parts JgZ
 by_cases h0:n=0
 ·subst h0
  go_enter Tryz.func134,Tryz.ntmps134
  go_wp2_with fail
  go_ret
  exact⟨⟨_,rfl,World.ownsRow_nil _ _ _ _⟩,Below.refl _ _⟩
 ·have hn0:(0:Int)<(n:Int):=by omega
  have hr:=fun ty=>Lib.run_append_nil_zeros (P:=Tryz.prog) w 101 3 ty 39 i0 _ .i64 .i64 Tryz.underlying101 Tryz.underlying3 hi hz0 n (by omega) (by omega) (by omega) (by rw[hz2];omega)
  have hG:=grownCap_ge w n 0 39
  have hGm:=grownCap_le_maxLen w n 0 39 (by unfold maxLen;omega)
  generalize grownCap w n 0 39=G at*
  have hzl:(Builtin.zeroCells (Value.agg #[.int .u8 0,.string ByteArray.empty,.string ByteArray.empty,.int .u64 0]).cells n++Builtin.zeroCells (Value.agg #[.int .u8 0,.string ByteArray.empty,.string ByteArray.empty,.int .u64 0]).cells (G-n)).size=G*4:=by
   rw[Array.size_append,YA,YA]
   show n*4+(G-n)*4=_
   omega
  generalize hZ:Builtin.zeroCells (Value.agg #[.int .u8 0,.string ByteArray.empty,.string ByteArray.empty,.int .u64 0]).cells n++Builtin.zeroCells (Value.agg #[.int .u8 0,.string ByteArray.empty,.string ByteArray.empty,.int .u64 0]).cells (G-n)=Z at*
  have hown:=World.ownsRow_made (e:=39) (size:=4) (base:=w.heap.size) w.drew Z G (Nat.le_refl _) hGm hzl
  have hown':=Lib.hid hown
  unfold maxLen at hGm
  clear hZ hzl hown
  go_enter Tryz.func134,Tryz.ntmps134
  go_wp2_with (at_builtin;refine Lib.wpList_append_run _ rfl _ _ _ _ rfl _ _ rfl rfl _ _ (hr _) ?_)
  go_ret
  exact⟨⟨_,rfl,hown'.out⟩,(Jb (Below.refl _ _)).alloc (Nat.le_refl _) _⟩
theorem Jgz {w:World} {ao:Option Addr} {l:List Upd} (hs:JC Upd.cells 4 w ao l):∀ad,ao=some ad->∀j u,(cellsU l)[j]? =some u->w.cell? (ad.add j)=some u:=by
 intro ad e j u hu
 have hj:=(List.getElem?_eq_some_iff.1 hu).1
 rw[J1] at hj
 obtain⟨b,off,e',hb,hc⟩:=hs.at (by omega)
 obtain rfl:ad=⟨b,off,none⟩:=by rw[e] at e';simpa using e'
 rw[show(⟨b,off,none⟩:Addr).add j=⟨b,off+j,none⟩ by simp[Addr.add]]
 exact JC.cellsU hc j u hu
theorem Jle (cb:Nat) (a1 a2:Option Addr) (c1 c2:Nat) (l1 l2:List Upd) (w:World) (hcb:cb<w.heap.size) (h1:w.cell? ⟨cb,0,none⟩=some (.slice a1 l1.length c1)) (h2:w.cell? ⟨cb,1,none⟩=some (.slice a2 l2.length c2))
  (s1:JC Upd.cells 4 w a1 l1) (s2:JC Upd.cells 4 w a2 l2) (n1:a1=none->l1.length=0/\c1=0) (n2:a2=none->l2.length=0/\c2=0) (hl1:l1.length<=100000) (hl2:l2.length<=100000):
  Calls Tryz.prog 103 #[.slice (some ⟨cb,0,none⟩) 2 2] w fun e w'=>(∃v',e=.returned v'/\w'.ownsRow w.heap.size 39 4 v' (l1++l2).length (cellsU (l1++l2)))/\Below w.heap.size w w':=by
 obtain⟨i0,hi,hz0,hz1,hz2⟩:=info_parts JgZ
 have hN1:=Lib.hid n1
 have hN2:=Lib.hid n2
 clear n1 n2
 go_enter Tryz.func103,Tryz.ntmps103
 go_wp2_with fail
 go_loop [3,11] (fun s i=>(i=.int .i64 (0:Nat)/\s=.int .i64 (0:Nat))\/(i=.int .i64 (1:Nat)/\s=.int .i64 l1.length)\/(i=.int .i64 (2:Nat)/\s=.int .i64 (l1.length+l2.length:Nat))) (fun _ i=>2- (intOf i).toNat)
 case atStart=>exact Or.inl ⟨rfl,rfl⟩
 case round=>
  rcases hrel with⟨rfl,rfl⟩|⟨rfl,rfl⟩|⟨rfl,rfl⟩
  ·have hp:¬(l1.length:Int)<0:=by omega
   go_wp2_with fail
   go_round
   case rel=>exact Or.inr (Or.inl ⟨by go_num,by go_num⟩)
   case measure=>first|(simp[intOf];done)|(simp[intOf];omega)
  ·have hp:¬(l1.length:Int)+(l2.length:Int)<0:=by omega
   go_wp2_with fail
   go_round
   case rel=>exact Or.inr (Or.inr ⟨by go_num,by go_num⟩)
   case measure=>first|(simp[intOf];done)|(simp[intOf];omega)
  ·go_wp2_with fail
   refine(Jop (l1.length+l2.length) (by omega) w).mono ?_
   rintro e w1 ⟨⟨v1,rfl,hown1⟩,hB1⟩
   go_wp2_with fail
   go_loopw [6,27] (fun v i wr=>((i=.int .i64 (0:Nat)/\wr.ownsRow w.heap.size 39 4 v 0 [])\/(i=.int .i64 (1:Nat)/\wr.ownsRow w.heap.size 39 4 v l1.length (cellsU l1))\/(i=.int .i64 (2:Nat)/\wr.ownsRow w.heap.size 39 4 v (l1++l2).length (cellsU (l1++l2))))/\Below w.heap.size w wr) (fun _ i _=>2- (intOf i).toNat)
   case atStart=>exact⟨Or.inl ⟨rfl,hown1⟩,hB1⟩
   case round=>
    obtain⟨hrel,hB⟩:=hrel
    have k1:=(hB.cell (p:=⟨cb,0,none⟩) hcb).trans h1
    have k2:=(hB.cell (p:=⟨cb,1,none⟩) hcb).trans h2
    rcases hrel with⟨rfl,hown⟩|⟨rfl,hown⟩|⟨rfl,hown⟩
    ·go_wp2_with (at_builtin;refine Yc _ rfl _ _ 101 rfl w.heap.size 39 i0 (.agg #[.int .u8 0,.string ByteArray.empty,.string ByteArray.empty,.int .u64 0]) 4 48 Tryz.underlying101 hi hz0 hz1 hz2 rfl (by decide) _ 0 _ rfl hown a1 l1.length c1 (cellsU l1) rfl (J1 _) hN1.out (Jgz (s1.kept hB (Nat.le_refl _))) (YF _) (by unfold maxLen;omega) (by omega) hB.size ?_;intro v' w2 hown' hgrow hat)
     go_roundw
     case rel=>exact⟨Or.inr (Or.inl ⟨by go_num,by rw[Nat.zero_add,List.nil_append] at hown';exact hown'⟩),Ju hB hgrow (fun k e=>(hown.lt k e).1) hB.size⟩
     case measure=>first|(simp[intOf];done)|(simp[intOf];omega)
    ·go_wp2_with (at_builtin;refine Yc _ rfl _ _ 101 rfl w.heap.size 39 i0 (.agg #[.int .u8 0,.string ByteArray.empty,.string ByteArray.empty,.int .u64 0]) 4 48 Tryz.underlying101 hi hz0 hz1 hz2 rfl (by decide) _ l1.length _ rfl hown a2 l2.length c2 (cellsU l2) rfl (J1 _) hN2.out (Jgz (s2.kept hB (Nat.le_refl _))) (YF _) (by unfold maxLen;omega) (by omega) hB.size ?_;intro v' w2 hown' hgrow hat)
     go_roundw
     case rel=>exact⟨Or.inr (Or.inr ⟨by go_num,by rw[List.length_append,Yq];exact hown'⟩),Ju hB hgrow (fun k e=>(hown.lt k e).1) hB.size⟩
     case measure=>first|(simp[intOf];done)|(simp[intOf];omega)
    ·go_wp2_with fail
     go_ret
     exact⟨⟨_,rfl,hown⟩,hB⟩
open Go.RowKit
theorem Jrm:Tryz.prog.elem 101=39:=by kernel_rfl
theorem Jkb:Tryz.prog.underlying 101=some (.slice (Tryz.prog.elem 101)):=by rw[Jrm];exact Tryz.underlying101
theorem JdB (w:World):(sizeOf (Tryz.prog.elem 101)).run Tryz.prog w=.ok 4 w:=by kernel_rfl
theorem Jfg (ao:Option Addr) (n c i k:Nat) (l:List Upd) (w:World) (hs:JC Upd.cells 4 w ao l) (hl:l.length=n) (hnc:n<=c) (hc:(c:Int)<=9223372036854775807) (hik:i<=k) (hkn:k<=n) (hno:ao=none->c=0):
  ∃A,(∀w,(Instr.slice 101 (.slice ao n c) (some (.int .i64 (i:Int))) (some (.int .i64 (k:Int))) none).run Tryz.prog w=.ok (.slice A (k-i) (c-i)) w)/\SlU w (.slice A (k-i) (c-i)) ((l.drop i).take (k-i)):=by
 have hlen:((l.drop i).take (k-i)).length=k-i:=by rw[List.length_take,List.length_drop];omega
 refine⟨if c=i then ao else ao.map (·.add (i*4)),fun w=> ?_,?_⟩
 ·rw[run_slice_lh w 101 ao n c Jkb .i64 .i64 i k (by omega) (by omega) (by omega)]
  rw[JdB];rfl
 ·refine⟨_,c-i,by rw[hlen],?_,by rw[hlen];omega,by omega,fun e=> ?_⟩
  ·by_cases h0:i<n
   ·rw[if_neg (by omega)]
    obtain⟨b,off,rfl,hb,hcc⟩:=hs.at (by omega)
    rw[show(some (⟨b,off,none⟩:Addr)).map (·.add (i*4))=some ⟨b,off+i*4,none⟩ by simp[Addr.add]]
    exact(hs.drop i b off rfl).cut _
   ·exact Or.inl (List.eq_nil_of_length_eq_zero (by omega))
  ·by_cases h0:c=i
   ·omega
   ·rw[if_neg h0] at e
    cases ao with
    |none=>have:=hno rfl;omega
    |some a=>simp at e
theorem JiV (ao:Option Addr) (n c i:Nat) (l:List Upd) (w:World) (hs:JC Upd.cells 4 w ao l) (hl:l.length=n) (hnc:n<=c) (hc:(c:Int)<=9223372036854775807) (hin:i<=n) (hno:ao=none->c=0):
  (∀w,(Instr.slice 101 (.slice ao n c) none (some (.int .i64 (i:Int))) none).run Tryz.prog w=.ok (.slice ao i c) w)/\SlU w (.slice ao i c) (l.take i):=by
 refine⟨fun w=> ?_,?_⟩
 ·rw[run_slice_h w 101 ao n c Jkb .i64 i (by omega) (by omega)]
  rw[JdB]
  have e:ao.map (·.add 0)=ao:=by cases ao<;>simp[Addr.add]
  simp[Result.andThen,sliced,e]
 ·have hlen:(l.take i).length=i:=by rw[List.length_take];omega
  exact⟨ao,c,by rw[hlen],hs.cut i,by rw[hlen];omega,hc,hno⟩
theorem JgM (ao:Option Addr) (n c k:Nat) (l:List Upd) (w:World) (hs:JC Upd.cells 4 w ao l) (hl:l.length=n) (hnc:n<=c) (hc:(c:Int)<=9223372036854775807) (hkn:k<=n) (hno:ao=none->c=0):
  ∃A,(∀w,(Instr.slice 101 (.slice ao n c) (some (.int .i64 (k:Int))) none none).run Tryz.prog w=.ok (.slice A (n-k) (c-k)) w)/\SlU w (.slice A (n-k) (c-k)) (l.drop k):=by
 obtain⟨A,-,h2⟩:=Jfg ao n c k n l w hs hl hnc hc hkn (Nat.le_refl _) hno
 have e:(l.drop k).take (n-k)=l.drop k:=List.take_of_length_le (by rw[List.length_drop];omega)
 rw[e] at h2
 refine⟨if c=k then ao else ao.map (·.add (k*4)),fun w=> ?_,?_⟩
 ·rw[run_slice_l w 101 ao n c Jkb .i64 k (by omega) (by omega)]
  rw[JdB];rfl
 ·have hlen:(l.drop k).length=n-k:=by rw[List.length_drop];omega
  refine⟨_,c-k,by rw[hlen],?_,by rw[hlen];omega,by omega,fun e=> ?_⟩
  ·by_cases h0:k<n
   ·rw[if_neg (by omega)]
    obtain⟨b,off,rfl,hb,hcc⟩:=hs.at (by omega)
    rw[show(some (⟨b,off,none⟩:Addr)).map (·.add (k*4))=some ⟨b,off+k*4,none⟩ by simp[Addr.add]]
    exact hs.drop k b off rfl
   ·exact Or.inl (List.eq_nil_of_length_eq_zero (by omega))
  ·by_cases h0:c=k
   ·omega
   ·rw[if_neg h0] at e
    cases ao with
    |none=>have:=hno rfl;omega
    |some a=>simp at e
theorem Ja4 (cb:Nat) (a1 a2:Option Addr) (n1 n2 c1 c2:Nat) (l1 l2:List Upd) (w:World) (hcb:cb<w.heap.size) (h1:w.cell? ⟨cb,0,none⟩=some (.slice a1 n1 c1)) (h2:w.cell? ⟨cb,1,none⟩=some (.slice a2 n2 c2))
  (s1:SlU w (.slice a1 n1 c1) l1) (s2:SlU w (.slice a2 n2 c2) l2) (hl1:l1.length<=100000) (hl2:l2.length<=100000):
  Calls Tryz.prog 103 #[.slice (some ⟨cb,0,none⟩) 2 2] w fun e w'=>(∃v',e=.returned v'/\w'.ownsRow w.heap.size 39 4 v' (l1++l2).length (cellsU (l1++l2)))/\Below w.heap.size w w':=by
 obtain⟨b1,d1,e1,t1,u1,-,m1⟩:=s1
 obtain⟨b2,d2,e2,t2,u2,-,m2⟩:=s2
 simp only[Value.slice.injEq] at e1 e2
 obtain⟨rfl,rfl,rfl⟩:=e1
 obtain⟨rfl,rfl,rfl⟩:=e2
 exact Jle cb a1 a2 c1 c2 l1 l2 w hcb h1 h2 t1 t2 (fun e=>by have:=m1 e;omega) (fun e=>by have:=m2 e;omega) hl1 hl2
theorem Jgs {w5:World} {z B3 B5 n3 n5:Nat} {v3 v5:Value} {l3 l5:List Upd} (h3:w5.ownsRow B3 39 4 v3 n3 (cellsU l3)) (h5:w5.ownsRow B5 39 4 v5 n5 (cellsU l5)) (hz3:z+1+1<B3) (hz5:z+1+1<B5) (u u':Value):
  JZ ((w5.setCell ⟨z+1,0,none⟩ u).setCell ⟨z+1+1,0,none⟩ u') (.agg #[v3]) l3/\JZ ((w5.setCell ⟨z+1,0,none⟩ u).setCell ⟨z+1+1,0,none⟩ u') (.agg #[v5]) l5:=by
 have a3:v3.ownBlock≠some (z+1):=fun e=>by have:=(h3.lt _ e).1;omega
 have b3:v3.ownBlock≠some (z+1+1):=fun e=>by have:=(h3.lt _ e).1;omega
 have a5:v5.ownBlock≠some (z+1):=fun e=>by have:=(h5.lt _ e).1;omega
 have b5:v5.ownBlock≠some (z+1+1):=fun e=>by have:=(h5.lt _ e).1;omega
 exact⟨JZ.of_own (ownsRow_setCell_other (a:=⟨z+1+1,0,none⟩) (ownsRow_setCell_other (a:=⟨z+1,0,none⟩) h3 a3 u) b3 u'),JZ.of_own (ownsRow_setCell_other (a:=⟨z+1+1,0,none⟩) (ownsRow_setCell_other (a:=⟨z+1,0,none⟩) h5 a5 u) b5 u')⟩
def Yz (l:List Upd) (low high:List UInt8):Nat:=max (below Upd.key l low) (if high=[] then l.length else below Upd.key l high)
theorem JdU (l:List Upd) (low high:List UInt8):below Upd.key l low<=Yz l low high/\Yz l low high<=l.length:=by
 have h1:=Xe (key:=Upd.key) l low
 have h2:=Xe (key:=Upd.key) l high
 unfold Yz
 split<;>omega
def JH (l:List Upd) (low high:List UInt8):List Upd:=(l.drop (below Upd.key l low)).take (Yz l low high-below Upd.key l low)
def Ya (l:List Upd) (low high:List UInt8):List Upd:=l.take (below Upd.key l low)++l.drop (Yz l low high)
theorem Jp1 (v:Value) (l:List Upd) (low:List UInt8) (w:World) (hv:JZ w v l) (hl:l.length<=100000) (hr:Je Upd.key l):
  Calls Tryz.prog 78 #[v,.string (S low),.string (S [])] w fun e w'=>(∃v1 v2,e=.returned (.tuple #[v1,v2])/\JZ w' v1 (JH l low [])/\JZ w' v2 (Ya l low []))/\Below w.heap.size w w':=by
 have hmax:=fun ts t a b w=>Jbq (P:=Tryz.prog) ts t a b w
 have hfind:=fun w hv=>JfI v l low w hv (by omega) hr
 obtain⟨hce1,hce2⟩:=JdU l low []
 have hbm:ZE (below Upd.key l low:Nat) (l.length:Nat)=((Yz l low []:Nat):Int):=by rw[JjU];unfold Yz;rw[if_pos rfl]
 obtain⟨s,rfl,hs⟩:=hv
 obtain⟨ao,c,rfl,hs0,hc1,hc2,hn⟩:=hs
 obtain⟨A1,hsl1,hp1⟩:=Jfg ao l.length c (below Upd.key l low) (Yz l low []) l w hs0 rfl hc1 hc2 hce1 hce2 hn
 obtain⟨hsl2,hp2⟩:=JiV ao l.length c (below Upd.key l low) l w hs0 rfl hc1 hc2 (by omega) hn
 obtain⟨A3,hsl3,hp3⟩:=JgM ao l.length c (Yz l low []) l w hs0 rfl hc1 hc2 hce2 hn
 have HF:=Lib.hid hfind
 have HS:=Lib.hid (show SlU w (.slice ao l.length c) l from⟨ao,c,rfl,hs0,hc1,hc2,hn⟩)
 have HL1:=Lib.hid (show((l.drop (below Upd.key l low)).take (Yz l low []-below Upd.key l low)).length<=1000000 by rw[List.length_take,List.length_drop];omega)
 have HL2:=Lib.hid (show(l.take (below Upd.key l low)).length<=100000 by rw[List.length_take];omega)
 have HL3:=Lib.hid (show(l.drop (Yz l low [])).length<=100000 by rw[List.length_drop];omega)
 have HP1:=Lib.hid hp1
 have HP2:=Lib.hid hp2
 have HP3:=Lib.hid hp3
 have hin:Hid (JH l low []=(l.drop (below Upd.key l low)).take (Yz l low []-below Upd.key l low)):=Lib.hid rfl
 have hout:Hid (Ya l low []=l.take (below Upd.key l low)++l.drop (Yz l low [])):=Lib.hid rfl
 clear hfind hn hs0 hr hp1 hp2 hp3
 generalize hi:below Upd.key l low=i at*
 generalize hK:Yz l low []=K at*
 clear hi hK
 have HE:Hid (l.take i++l.drop K=l.take i++l.drop K):=Lib.hid rfl
 generalize(l.drop i).take (K-i)=L1 at*
 generalize l.take i=L2 at*
 generalize l.drop K=L3 at*
 clear HE
 go_enter Tryz.func78,Tryz.ntmps78
 go_wp2_with fail
 refine(Jl (HF.out _ ⟨_,rfl,HS.out.kept (by go_grown) (Nat.le_refl _)⟩) w.heap.size w (by go_grown) (by go_grown)).mono ?_
 rintro e w1 ⟨rfl,hB1,hk1,hf1,hs1,hz1⟩
 have hs1':w.heap.size+1+1<w1.heap.size:=by simp at hs1;omega
 have p0:=(hk1 w.heap.size 0 (by first|(simp;done)|(simp;omega))).trans (by simp[go_sem];rfl)
 have p1:=(hk1 (w.heap.size+1) 0 (by first|(simp;done)|(simp;omega))).trans (by simp[go_sem];rfl)
 have p2:=(hk1 (w.heap.size+1+1) 0 (by first|(simp;done)|(simp;omega))).trans (by simp[go_sem];rfl)
 have p3:w1.frozen? ⟨w.heap.size+1,0,none⟩=false:=(hf1 (w.heap.size+1) 0 (by first|(simp;done)|(simp;omega))).trans (by simp[go_sem])
 have p4:w1.frozen? ⟨w.heap.size+1+1,0,none⟩=false:=(hf1 (w.heap.size+1+1) 0 (by first|(simp;done)|(simp;omega))).trans (by simp[go_sem])
 clear hk1 hf1 hs1
 go_wp2_with fail
 go_region_held3 (fun w'=>w'.cell? ⟨w.heap.size,0,none⟩=some (.slice ao l.length c)/\w1.heap.size<=w'.heap.size)
 (first|assumption|(constructor<;>(first|assumption|exact k0 _|exact k1 _ _|(go_keep;done)|(simp;done)|(simp;omega))))
 (first
  |(go_at_call 94;with_reducible show Calls _ _ _ (World.drew w1) _;go_must (obtain⟨x0,x1⟩:=‹_/\_›;refine(Jl (JbJ _ _ _ (HP1.out.kept (by go_grown) (Nat.le_refl _)) HL1.out) w.heap.size w (by go_grown) (by go_grown)).mono ?_;rintro e w3 ⟨⟨v3,rfl,hown3⟩,hB3,hk3,hf3,hs3,hz3⟩;obtain⟨a3,c3,e3⟩:=Jm hown3;subst e3;have y0:=(hk3 w.heap.size 0 (by first|omega|(simp at*;omega))).trans x0;have y1:=(hk3 (w.heap.size+1) 0 (by first|omega|(simp at*;omega))).trans (Jj p1);have y2:=(hk3 (w.heap.size+1+1) 0 (by first|omega|(simp at*;omega))).trans (Jj p2);have y3:=(hf3 (w.heap.size+1) 0 (by first|omega|(simp at*;omega))).trans (YL p3);have y4:=(hf3 (w.heap.size+1+1) 0 (by first|omega|(simp at*;omega))).trans (YL p4);have y5:=Nat.le_trans x1 hs3))
  |(go_at_call 94;with_reducible show Calls _ _ _ (World.drew (World.alloc w1 _)) _;go_must (obtain⟨x0,x1⟩:=‹_/\_›;refine(Jl (JbJ _ _ _ (HP1.out.kept (by go_grown) (Nat.le_refl _)) HL1.out) w.heap.size w (by go_grown) (by go_grown)).mono ?_;rintro e w3 ⟨⟨v3,rfl,hown3⟩,hB3,hk3,hf3,hs3,hz3⟩;obtain⟨a3,c3,e3⟩:=Jm hown3;subst e3;have y0:=(hk3 w.heap.size 0 (by first|omega|(simp at*;omega))).trans x0;have y1:=(hk3 (w.heap.size+1) 0 (by first|omega|(simp at*;omega))).trans (Jj (Jf _ p1));have y2:=(hk3 (w.heap.size+1+1) 0 (by first|omega|(simp at*;omega))).trans (Jj (Jf _ p2));have y3:=(hf3 (w.heap.size+1) 0 (by first|omega|(simp at*;omega))).trans (YL ((World.frozen?_alloc_old _ _ _ (by show w.heap.size+1≠_;omega)).trans p3));have y4:=(hf3 (w.heap.size+1+1) 0 (by first|omega|(simp at*;omega))).trans (YL ((World.frozen?_alloc_old _ _ _ (by show w.heap.size+1+1≠_;omega)).trans p4));have y5:=Nat.le_trans x1 hs3;have m0:=(hk3 w1.heap.size 0 (by simp)).trans (Jj (show _=some (.slice ao i c) by simp));have m1:=(hk3 w1.heap.size 1 (by simp)).trans (Jj (show _=some (.slice A3 (l.length-K) (c-K)) by simp));have mlt:w1.heap.size<w3.heap.size:=Nat.lt_of_lt_of_le (by simp) hs3))
  |(go_at_call 103;with_reducible show Calls _ _ _ (World.alloc _ _) _;refine(Ja4 w3.heap.size ao A3 i (l.length-K) c (c-K) _ _ _ (by simp) (by simp) (by simp) (HP2.out.kept (by go_grown) (Nat.le_refl _)) (HP3.out.kept (by go_grown) (Nat.le_refl _)) HL2.out HL3.out).mono ?_;rintro e w5 ⟨⟨v5,rfl,hown5⟩,hb5⟩;obtain⟨a5,c5,e5⟩:=Jm hown5;subst e5;have hown3':=Ji (hown3.alloc _) hb5;have hB5:=(hB3.alloc hz3 _).trans (X8 hb5 (by simp;omega));have z0:=((JB hb5).1 w.heap.size 0 (by simp;omega)).trans (Jf _ y0);have z1:=((JB hb5).1 (w.heap.size+1) 0 (by simp;omega)).trans (Jf _ y1);have z2:=((JB hb5).1 (w.heap.size+1+1) 0 (by simp;omega)).trans (Jf _ y2);have z3:=((JB hb5).2 (w.heap.size+1) 0 (by simp;omega)).trans ((World.frozen?_alloc_old _ _ _ (by show w.heap.size+1≠_;omega)).trans y3);have z4:=((JB hb5).2 (w.heap.size+1+1) 0 (by simp;omega)).trans ((World.frozen?_alloc_old _ _ _ (by show w.heap.size+1+1≠_;omega)).trans y4);have z5:w1.heap.size<=w5.heap.size:=Nat.le_trans (by simp;omega) hb5.size;have k0:∀u,(w5.setCell ⟨w.heap.size+1,0,none⟩ u).cell? ⟨w.heap.size,0,none⟩=some (.slice ao l.length c):=fun u=>J5 (by omega) z0;have k1:∀u u',((w5.setCell ⟨w.heap.size+1,0,none⟩ u).setCell ⟨w.heap.size+1+1,0,none⟩ u').cell? ⟨w.heap.size,0,none⟩=some (.slice ao l.length c):=fun u u'=>J5 (by omega) (k0 u))
  |(go_at_call 103;refine(Ja4 w1.heap.size ao A3 i (l.length-K) c (c-K) _ _ _ mlt m0 m1 (HP2.out.kept (by go_grown) (Nat.le_refl _)) (HP3.out.kept (by go_grown) (Nat.le_refl _)) HL2.out HL3.out).mono ?_;rintro e w5 ⟨⟨v5,rfl,hown5⟩,hb5⟩;obtain⟨a5,c5,e5⟩:=Jm hown5;subst e5;have hown3':=Ji hown3 hb5;have hB5:=hB3.trans (X8 hb5 hz3);have z0:=((JB hb5).1 w.heap.size 0 (by omega)).trans y0;have z1:=((JB hb5).1 (w.heap.size+1) 0 (by omega)).trans y1;have z2:=((JB hb5).1 (w.heap.size+1+1) 0 (by omega)).trans y2;have z3:=((JB hb5).2 (w.heap.size+1) 0 (by omega)).trans y3;have z4:=((JB hb5).2 (w.heap.size+1+1) 0 (by omega)).trans y4;have z5:w1.heap.size<=w5.heap.size:=Nat.le_trans (by omega) hb5.size;have k0:∀u,(w5.setCell ⟨w.heap.size+1,0,none⟩ u).cell? ⟨w.heap.size,0,none⟩=some (.slice ao l.length c):=fun u=>J5 (by omega) z0;have k1:∀u u',((w5.setCell ⟨w.heap.size+1,0,none⟩ u).setCell ⟨w.heap.size+1+1,0,none⟩ u').cell? ⟨w.heap.size,0,none⟩=some (.slice ao l.length c):=fun u u'=>J5 (by omega) (k0 u)))
 all_goals (
  have hown5':=hown5
  simp only[List.length_append] at hown5'
  have hbx:=Jgs (z:=w.heap.size) hown3' hown5' (by first|(simp;omega)|(simp at*;omega)) (by first|omega|(simp;omega)) (.slice a3 L1.length c3) (.slice a5 (L2.length+L3.length) c5)
  have hbl:=(hB5.setCell (p:=⟨w.heap.size+1,0,none⟩) (by show w.heap.size<=w.heap.size+1;omega) (.slice a3 L1.length c3)).setCell (p:=⟨w.heap.size+1+1,0,none⟩) (by show w.heap.size<=w.heap.size+1+1;omega) (.slice a5 (L2.length+L3.length) c5)
  have HX:=Lib.hid hbx
  have HY:=Lib.hid hbl
  clear hbx hbl hown3 hown3' hown5 hown5' hB3 hB5 hsl1 hsl2 hsl3 HS HF hmax hbm x0 x1 hk3 hf3 hs3 hz3
  have e1:((w5.setCell ⟨w.heap.size+1,0,none⟩ (.slice a3 L1.length c3)).setCell ⟨w.heap.size+1+1,0,none⟩ (.slice a5 (L2.length+L3.length) c5)).cell? ⟨w.heap.size+1,0,none⟩=some (.slice a3 L1.length c3):=J5 (by omega) (World.cell?_setCell_same' _ _ _ (by rw[z1];rfl))
  have e2:((w5.setCell ⟨w.heap.size+1,0,none⟩ (.slice a3 L1.length c3)).setCell ⟨w.heap.size+1+1,0,none⟩ (.slice a5 (L2.length+L3.length) c5)).cell? ⟨w.heap.size+1+1,0,none⟩=some (.slice a5 (L2.length+L3.length) c5):=World.cell?_setCell_same' _ _ _ (by rw[J5 (by omega) z2];rfl)
  generalize(w5.setCell ⟨w.heap.size+1,0,none⟩ (.slice a3 L1.length c3)).setCell ⟨w.heap.size+1+1,0,none⟩ (.slice a5 (L2.length+L3.length) c5)=wf at*
  clear z0 z1 z2 z3 z4 z5 k0 k1
  go_wp2_with fail
  exact bodyPost_ret (v:=.tuple #[.agg #[.slice a3 L1.length c3],.agg #[.slice a5 (L2.length+L3.length) c5]]) (by simp[results,Tryz.results78,go_sem,e1,e2]) rfl ⟨⟨_,_,rfl,by rw[hin.out];exact HX.out.1,by rw[hout.out];exact HX.out.2⟩,HY.out⟩)
open Go.RowKit
theorem JoE (v:Value) (l:List Upd) (low high:List UInt8) (w:World) (hne:high≠[]) (hv:JZ w v l) (hl:l.length<=100000) (hr:Je Upd.key l):
  Calls Tryz.prog 78 #[v,.string (S low),.string (S high)] w fun e w'=>(∃v1 v2,e=.returned (.tuple #[v1,v2])/\JZ w' v1 (JH l low high)/\JZ w' v2 (Ya l low high))/\Below w.heap.size w w':=by
 have hmax:=fun ts t a b w=>Jbq (P:=Tryz.prog) ts t a b w
 have hfind:=fun w hv=>JfI v l low w hv (by omega) hr
 obtain⟨hce1,hce2⟩:=JdU l low high
 have hbm:ZE (below Upd.key l low:Nat) (below Upd.key l high:Nat)=((Yz l low high:Nat):Int):=by rw[JjU];unfold Yz;rw[if_neg hne]
 have hemp:high.isEmpty=false:=by cases high<;>simp at hne⊢
 have hfind2:=fun w hv=>JfI v l high w hv (by omega) hr
 obtain⟨s,rfl,hs⟩:=hv
 obtain⟨ao,c,rfl,hs0,hc1,hc2,hn⟩:=hs
 obtain⟨A1,hsl1,hp1⟩:=Jfg ao l.length c (below Upd.key l low) (Yz l low high) l w hs0 rfl hc1 hc2 hce1 hce2 hn
 obtain⟨hsl2,hp2⟩:=JiV ao l.length c (below Upd.key l low) l w hs0 rfl hc1 hc2 (by omega) hn
 obtain⟨A3,hsl3,hp3⟩:=JgM ao l.length c (Yz l low high) l w hs0 rfl hc1 hc2 hce2 hn
 have HF:=Lib.hid hfind
 have HF2:=Lib.hid hfind2
 have HS:=Lib.hid (show SlU w (.slice ao l.length c) l from⟨ao,c,rfl,hs0,hc1,hc2,hn⟩)
 have HL1:=Lib.hid (show((l.drop (below Upd.key l low)).take (Yz l low high-below Upd.key l low)).length<=1000000 by rw[List.length_take,List.length_drop];omega)
 have HL2:=Lib.hid (show(l.take (below Upd.key l low)).length<=100000 by rw[List.length_take];omega)
 have HL3:=Lib.hid (show(l.drop (Yz l low high)).length<=100000 by rw[List.length_drop];omega)
 have HP1:=Lib.hid hp1
 have HP2:=Lib.hid hp2
 have HP3:=Lib.hid hp3
 have hin:Hid (JH l low high=(l.drop (below Upd.key l low)).take (Yz l low high-below Upd.key l low)):=Lib.hid rfl
 have hout:Hid (Ya l low high=l.take (below Upd.key l low)++l.drop (Yz l low high)):=Lib.hid rfl
 clear hfind hfind2 hn hs0 hr hp1 hp2 hp3 hne
 generalize hi:below Upd.key l low=i at*
 generalize hK:Yz l low high=K at*
 generalize hj:below Upd.key l high=j at*
 clear hi hK hj
 have HE:Hid (l.take i++l.drop K=l.take i++l.drop K):=Lib.hid rfl
 generalize(l.drop i).take (K-i)=L1 at*
 generalize l.take i=L2 at*
 generalize l.drop K=L3 at*
 clear HE
 go_enter Tryz.func78,Tryz.ntmps78
 go_wp2_with fail
 refine(Jl (HF.out _ ⟨_,rfl,HS.out.kept (by go_grown) (Nat.le_refl _)⟩) w.heap.size w (by go_grown) (by go_grown)).mono ?_
 rintro e w1a ⟨rfl,hB1a,hk1,hf1,hs1,hz1a⟩
 have hs1a':w.heap.size+1+1<w1a.heap.size:=by simp at hs1;omega
 have p0a:=(hk1 w.heap.size 0 (by first|(simp;done)|(simp;omega))).trans (by simp[go_sem];rfl)
 have p1a:=(hk1 (w.heap.size+1) 0 (by first|(simp;done)|(simp;omega))).trans (by simp[go_sem];rfl)
 have p2a:=(hk1 (w.heap.size+1+1) 0 (by first|(simp;done)|(simp;omega))).trans (by simp[go_sem];rfl)
 have p3a:w1a.frozen? ⟨w.heap.size+1,0,none⟩=false:=(hf1 (w.heap.size+1) 0 (by first|(simp;done)|(simp;omega))).trans (by simp[go_sem])
 have p4a:w1a.frozen? ⟨w.heap.size+1+1,0,none⟩=false:=(hf1 (w.heap.size+1+1) 0 (by first|(simp;done)|(simp;omega))).trans (by simp[go_sem])
 clear hk1 hf1 hs1
 go_wp2_with fail
 refine(Jl (HF2.out _ ⟨_,rfl,HS.out.kept hB1a (Nat.le_refl _)⟩) w.heap.size w hB1a hz1a).mono ?_
 rintro e w1 ⟨rfl,hB1,hk1,hf1,hs1,hz1⟩
 have hs1':w.heap.size+1+1<w1.heap.size:=by omega
 have p0:=(hk1 w.heap.size 0 (by omega)).trans p0a
 have p1:=(hk1 (w.heap.size+1) 0 (by omega)).trans p1a
 have p2:=(hk1 (w.heap.size+1+1) 0 (by omega)).trans p2a
 have p3:=(hf1 (w.heap.size+1) 0 (by omega)).trans p3a
 have p4:=(hf1 (w.heap.size+1+1) 0 (by omega)).trans p4a
 clear hk1 hf1 hs1 hB1a hz1a hs1a' p0a p1a p2a p3a p4a
 go_wp2_with fail
 go_region_held3 (fun w'=>w'.cell? ⟨w.heap.size,0,none⟩=some (.slice ao l.length c)/\w1.heap.size<=w'.heap.size)
 (first|assumption|(constructor<;>(first|assumption|exact k0 _|exact k1 _ _|(go_keep;done)|(simp;done)|(simp;omega))))
 (first
  |(go_at_call 94;with_reducible show Calls _ _ _ (World.drew w1) _;go_must (obtain⟨x0,x1⟩:=‹_/\_›;refine(Jl (JbJ _ _ _ (HP1.out.kept (by go_grown) (Nat.le_refl _)) HL1.out) w.heap.size w (by go_grown) (by go_grown)).mono ?_;rintro e w3 ⟨⟨v3,rfl,hown3⟩,hB3,hk3,hf3,hs3,hz3⟩;obtain⟨a3,c3,e3⟩:=Jm hown3;subst e3;have y0:=(hk3 w.heap.size 0 (by first|omega|(simp at*;omega))).trans x0;have y1:=(hk3 (w.heap.size+1) 0 (by first|omega|(simp at*;omega))).trans (Jj p1);have y2:=(hk3 (w.heap.size+1+1) 0 (by first|omega|(simp at*;omega))).trans (Jj p2);have y3:=(hf3 (w.heap.size+1) 0 (by first|omega|(simp at*;omega))).trans (YL p3);have y4:=(hf3 (w.heap.size+1+1) 0 (by first|omega|(simp at*;omega))).trans (YL p4);have y5:=Nat.le_trans x1 hs3))
  |(go_at_call 94;with_reducible show Calls _ _ _ (World.drew (World.alloc w1 _)) _;go_must (obtain⟨x0,x1⟩:=‹_/\_›;refine(Jl (JbJ _ _ _ (HP1.out.kept (by go_grown) (Nat.le_refl _)) HL1.out) w.heap.size w (by go_grown) (by go_grown)).mono ?_;rintro e w3 ⟨⟨v3,rfl,hown3⟩,hB3,hk3,hf3,hs3,hz3⟩;obtain⟨a3,c3,e3⟩:=Jm hown3;subst e3;have y0:=(hk3 w.heap.size 0 (by first|omega|(simp at*;omega))).trans x0;have y1:=(hk3 (w.heap.size+1) 0 (by first|omega|(simp at*;omega))).trans (Jj (Jf _ p1));have y2:=(hk3 (w.heap.size+1+1) 0 (by first|omega|(simp at*;omega))).trans (Jj (Jf _ p2));have y3:=(hf3 (w.heap.size+1) 0 (by first|omega|(simp at*;omega))).trans (YL ((World.frozen?_alloc_old _ _ _ (by show w.heap.size+1≠_;omega)).trans p3));have y4:=(hf3 (w.heap.size+1+1) 0 (by first|omega|(simp at*;omega))).trans (YL ((World.frozen?_alloc_old _ _ _ (by show w.heap.size+1+1≠_;omega)).trans p4));have y5:=Nat.le_trans x1 hs3;have m0:=(hk3 w1.heap.size 0 (by simp)).trans (Jj (show _=some (.slice ao i c) by simp));have m1:=(hk3 w1.heap.size 1 (by simp)).trans (Jj (show _=some (.slice A3 (l.length-K) (c-K)) by simp));have mlt:w1.heap.size<w3.heap.size:=Nat.lt_of_lt_of_le (by simp) hs3))
  |(go_at_call 103;with_reducible show Calls _ _ _ (World.alloc _ _) _;refine(Ja4 w3.heap.size ao A3 i (l.length-K) c (c-K) _ _ _ (by simp) (by simp) (by simp) (HP2.out.kept (by go_grown) (Nat.le_refl _)) (HP3.out.kept (by go_grown) (Nat.le_refl _)) HL2.out HL3.out).mono ?_;rintro e w5 ⟨⟨v5,rfl,hown5⟩,hb5⟩;obtain⟨a5,c5,e5⟩:=Jm hown5;subst e5;have hown3':=Ji (hown3.alloc _) hb5;have hB5:=(hB3.alloc hz3 _).trans (X8 hb5 (by simp;omega));have z0:=((JB hb5).1 w.heap.size 0 (by simp;omega)).trans (Jf _ y0);have z1:=((JB hb5).1 (w.heap.size+1) 0 (by simp;omega)).trans (Jf _ y1);have z2:=((JB hb5).1 (w.heap.size+1+1) 0 (by simp;omega)).trans (Jf _ y2);have z3:=((JB hb5).2 (w.heap.size+1) 0 (by simp;omega)).trans ((World.frozen?_alloc_old _ _ _ (by show w.heap.size+1≠_;omega)).trans y3);have z4:=((JB hb5).2 (w.heap.size+1+1) 0 (by simp;omega)).trans ((World.frozen?_alloc_old _ _ _ (by show w.heap.size+1+1≠_;omega)).trans y4);have z5:w1.heap.size<=w5.heap.size:=Nat.le_trans (by simp;omega) hb5.size;have k0:∀u,(w5.setCell ⟨w.heap.size+1,0,none⟩ u).cell? ⟨w.heap.size,0,none⟩=some (.slice ao l.length c):=fun u=>J5 (by omega) z0;have k1:∀u u',((w5.setCell ⟨w.heap.size+1,0,none⟩ u).setCell ⟨w.heap.size+1+1,0,none⟩ u').cell? ⟨w.heap.size,0,none⟩=some (.slice ao l.length c):=fun u u'=>J5 (by omega) (k0 u))
  |(go_at_call 103;refine(Ja4 w1.heap.size ao A3 i (l.length-K) c (c-K) _ _ _ mlt m0 m1 (HP2.out.kept (by go_grown) (Nat.le_refl _)) (HP3.out.kept (by go_grown) (Nat.le_refl _)) HL2.out HL3.out).mono ?_;rintro e w5 ⟨⟨v5,rfl,hown5⟩,hb5⟩;obtain⟨a5,c5,e5⟩:=Jm hown5;subst e5;have hown3':=Ji hown3 hb5;have hB5:=hB3.trans (X8 hb5 hz3);have z0:=((JB hb5).1 w.heap.size 0 (by omega)).trans y0;have z1:=((JB hb5).1 (w.heap.size+1) 0 (by omega)).trans y1;have z2:=((JB hb5).1 (w.heap.size+1+1) 0 (by omega)).trans y2;have z3:=((JB hb5).2 (w.heap.size+1) 0 (by omega)).trans y3;have z4:=((JB hb5).2 (w.heap.size+1+1) 0 (by omega)).trans y4;have z5:w1.heap.size<=w5.heap.size:=Nat.le_trans (by omega) hb5.size;have k0:∀u,(w5.setCell ⟨w.heap.size+1,0,none⟩ u).cell? ⟨w.heap.size,0,none⟩=some (.slice ao l.length c):=fun u=>J5 (by omega) z0;have k1:∀u u',((w5.setCell ⟨w.heap.size+1,0,none⟩ u).setCell ⟨w.heap.size+1+1,0,none⟩ u').cell? ⟨w.heap.size,0,none⟩=some (.slice ao l.length c):=fun u u'=>J5 (by omega) (k0 u)))
 all_goals (
  have hown5':=hown5
  simp only[List.length_append] at hown5'
  have hbx:=Jgs (z:=w.heap.size) hown3' hown5' (by first|(simp;omega)|(simp at*;omega)) (by first|omega|(simp;omega)) (.slice a3 L1.length c3) (.slice a5 (L2.length+L3.length) c5)
  have hbl:=(hB5.setCell (p:=⟨w.heap.size+1,0,none⟩) (by show w.heap.size<=w.heap.size+1;omega) (.slice a3 L1.length c3)).setCell (p:=⟨w.heap.size+1+1,0,none⟩) (by show w.heap.size<=w.heap.size+1+1;omega) (.slice a5 (L2.length+L3.length) c5)
  have HX:=Lib.hid hbx
  have HY:=Lib.hid hbl
  clear hbx hbl hown3 hown3' hown5 hown5' hB3 hB5 hsl1 hsl2 hsl3 HS HF hmax hbm x0 x1 hk3 hf3 hs3 hz3
  have e1:((w5.setCell ⟨w.heap.size+1,0,none⟩ (.slice a3 L1.length c3)).setCell ⟨w.heap.size+1+1,0,none⟩ (.slice a5 (L2.length+L3.length) c5)).cell? ⟨w.heap.size+1,0,none⟩=some (.slice a3 L1.length c3):=J5 (by omega) (World.cell?_setCell_same' _ _ _ (by rw[z1];rfl))
  have e2:((w5.setCell ⟨w.heap.size+1,0,none⟩ (.slice a3 L1.length c3)).setCell ⟨w.heap.size+1+1,0,none⟩ (.slice a5 (L2.length+L3.length) c5)).cell? ⟨w.heap.size+1+1,0,none⟩=some (.slice a5 (L2.length+L3.length) c5):=World.cell?_setCell_same' _ _ _ (by rw[J5 (by omega) z2];rfl)
  generalize(w5.setCell ⟨w.heap.size+1,0,none⟩ (.slice a3 L1.length c3)).setCell ⟨w.heap.size+1+1,0,none⟩ (.slice a5 (L2.length+L3.length) c5)=wf at*
  clear z0 z1 z2 z3 z4 z5 k0 k1
  go_wp2_with fail
  exact bodyPost_ret (v:=.tuple #[.agg #[.slice a3 L1.length c3],.agg #[.slice a5 (L2.length+L3.length) c5]]) (by simp[results,Tryz.results78,go_sem,e1,e2]) rfl ⟨⟨_,_,rfl,by rw[hin.out];exact HX.out.1,by rw[hout.out];exact HX.out.2⟩,HY.out⟩)
theorem JlX (v:Value) (l:List Upd) (low high:List UInt8) (w:World) (hv:JZ w v l) (hl:l.length<=100000) (hr:Je Upd.key l):
  Calls Tryz.prog 78 #[v,.string (S low),.string (S high)] w fun e w'=>(∃v1 v2,e=.returned (.tuple #[v1,v2])/\JZ w' v1 (JH l low high)/\JZ w' v2 (Ya l low high))/\Below w.heap.size w w':=by
 by_cases h:high=[]
 ·subst h;exact Jp1 v l low w hv hl hr
 ·exact JoE v l low high w h hv hl hr
open Go.RowKit
theorem Jri:(Tryz.prog.info? 5).map (fun i=>(i.zero,i.size,i.bytes))=some (some (.int .u8 0),1,1):=by kernel_rfl
def Xp (l:List UInt8):List Value:=l.map fun b=>.int .u8 b.toNat
theorem Jlk (l:List UInt8):(Xp l).length=l.length:=by simp[Xp]
theorem Jgm (a b:List UInt8):Xp (a++b)=Xp a++Xp b:=by simp[Xp]
theorem JkR (w:World):(convert 22 9 (.slice none 0 0)).run Tryz.prog w=.ok (.string (S [])) w:=by kernel_rfl
theorem Jn6 (l:List UInt8):(l.map fun b=>(b.toNat:Int)).map (fun n:Int=>UInt8.ofNat n.toNat)=l:=by
 rw[List.map_map]
 conv=>rhs;rw[<-List.map_id l]
 exact List.map_congr_left fun b _=>by simp
theorem JkG {B n:Nat} {v:Value} {l:List UInt8} {w:World} (h:w.ownsRow B 5 1 v n (Xp l)):(convert 22 9 v).run Tryz.prog w=.ok (.string (S l)) w:=by
 have hn:=h.1
 rw[Jlk,Nat.mul_one] at hn
 subst hn
 rcases Jv h with⟨rfl,h0,-⟩|⟨g,cap,cur,rfl,-,hr,h3,-,h5,h6⟩
 ·obtain rfl:=List.eq_nil_of_length_eq_zero h0
  exact JkR w
 ·have:=run_convert_bytes_arg (P:=Tryz.prog) w 22 5 Tryz.underlying22 Tryz.underlying5 g 0 l.length cap (l.map fun b=>(b.toNat:Int)) (by simp) (fun i hi=>by
   rw[Nat.zero_add,hr.cell]
   have e:(Xp l)[i]? =some (.int .u8 (l[i].toNat)):=by simp[Xp,hi]
   rw[<-h6,List.getElem?_take,if_pos (by omega)] at e
   rw[e];simp[hi]) 9 Tryz.underlying9
  rw[this,Jiq,Jn6]
abbrev JbO (w:World) (ao:Option Addr) (ps:List (Nat×Nat)):Prop:=JC (fun p:Nat×Nat=>[Value.int .i64 p.1]) 1 w ao ps
abbrev Jet (w:World) (ao:Option Addr) (ps:List (Nat×Nat)):Prop:=JC (fun p:Nat×Nat=>[Value.int .u64 p.2]) 1 w ao ps
def Jf2 (ps:List (Nat×Nat)):Prop:=∀p∈ps,1<=p.1/\p.1<=8
def Z0:List (Nat×Nat)->Nat
 |[]=>0
 |p::r=>p.1+Z0 r
theorem Jmm (l:List (Nat×Nat)) (p:Nat×Nat):Z0 (l++[p])=Z0 l+p.1:=by
 induction l with
 |nil=>simp[Z0]
 |cons q l ih=>simp[Z0,ih];omega
theorem JaP:∀ {l:List (Nat×Nat)},Jf2 l->l.length<=Z0 l/\Z0 l<=8*l.length
 |[],_=>by simp[Z0]
 |p::r,h=>by
  have h1:=h p (by simp)
  have h2:=JaP (l:=r) fun q hq=>h q (by simp[hq])
  simp only[Z0,List.length_cons];omega
theorem Jf2.take {l:List (Nat×Nat)} (h:Jf2 l) (n:Nat):Jf2 (l.take n):=fun p hp=>h p (List.mem_of_mem_take hp)
theorem Jpx (n:Nat) (h1:1<=n) (h2:n<=8) (w:World):Calls Tryz.prog 174 #[.int .i64 n] w fun e w'=>e=.returned (.bool true)/\w=w':=by
 have h1':(1:Int)<=(n:Int):=by omega
 have h2':(n:Int)<=8:=by omega
 go_enter Tryz.func174,Tryz.ntmps174
 go_wp2
 go_ret
 exact⟨rfl,rfl⟩
theorem Jc3 (ao:Option Addr) (c:Nat) (ps:List (Nat×Nat)) (w:World) (hs:JbO w ao ps) (hw:Jf2 ps) (hl:ps.length<=1000):
  Calls Tryz.prog 152 #[.slice ao ps.length c] w fun e w'=>e=.returned (.int .i64 (Z0 ps))/\w=w':=by
 go_enter Tryz.func152,Tryz.ntmps152
 go_wp2_with fail
 go_loop [3,8] (fun s i=>∃k:Nat,i=.int .i64 k/\k<=ps.length/\s=.int .i64 (Z0 (ps.take k))) (fun _ i=>ps.length- (intOf i).toNat)
 case atStart=>exact⟨0,rfl,Nat.zero_le _,rfl⟩
 case round=>
  obtain⟨k,rfl,hk,rfl⟩:=hrel
  have hk0:(0:Int)<=(k:Int):=by omega
  by_cases hkl:k<ps.length
  ·have hk1:(k:Int)<(ps.length:Int):=by omega
   obtain⟨b,off,rfl,hb,hc⟩:=hs.at (by omega)
   have hck:=hc k hkl 0 _ rfl
   rw[Nat.mul_one,Nat.add_zero] at hck
   have hp:=hw _ (List.getElem_mem hkl)
   obtain⟨hp1,hp2⟩:=hp
   have hsn:=Lib.hid (show Z0 (ps.take (k+1))=Z0 (ps.take k)+ps[k].1 by rw[List.take_succ_eq_append_getElem hkl,Jmm])
   have hsl:=JaP (hw.take k)
   rw[List.length_take] at hsl
   obtain⟨hsl1,hsl2⟩:=hsl
   have hsl3:Z0 (ps.take k)<=8000:=by omega
   clear hc hsl1 hsl2
   generalize ps[k].1=n at*
   generalize hsk:Z0 (ps.take k)=s at*
   have hsk':=Lib.hid hsk
   clear hsk
   go_wp2_with (go_at_call 174;refine(Jpx _ hp1 hp2 _).mono ?_;rintro e w' ⟨rfl,rfl⟩)
   go_round
   case rel=>exact⟨k+1,by go_num,by omega,by rw[hsn.out];go_num⟩
   case measure=>first|(simp[intOf];done)|(simp[intOf];omega)
  ·obtain rfl:k=ps.length:=by omega
   rw[List.take_length]
   go_wp2_with fail
   go_ret
   exact⟨rfl,rfl⟩
theorem JdC (ao:Option Addr) (c:Nat) (ps:List (Nat×Nat)) (w:World) (hs:JbO w ao ps) (hw:Jf2 ps) (hl:ps.length<=1000):
  Calls Tryz.prog 151 #[.slice ao ps.length c] w fun e w'=>e=.returned (.bool true)/\w=w':=by
 by_cases h0:ps.length=0
 ·have h0':((ps.length:Int)==0)=true:=by simpa using h0
  clear h0
  go_enter Tryz.func151,Tryz.ntmps151
  go_wp2_with fail
  go_ret
  exact⟨rfl,rfl⟩
 ·have h0':((ps.length:Int)==0)=false:=by simpa using h0
  have hsl:=JaP hw
  have hp:decide (0<Z0 ps)=true:=by simp;omega
  clear hsl
  go_enter Tryz.func151,Tryz.ntmps151
  go_wp2_with (go_at_call 152;refine(Jc3 _ _ _ _ hs hw hl).mono ?_;rintro e w' ⟨rfl,rfl⟩)
  go_ret
  exact⟨rfl,rfl⟩
def Jr (s:List UInt8):List UInt8×List UInt8×Bool:=
 match s with
 |[]=>([],[],false)
 |b::r=>if r.length<b.toNat then([],[],false) else(r.take b.toNat,r.drop b.toNat,true)
def Zt (s:List UInt8):Value:=.tuple #[.string (S (Jr s).1),.string (S (Jr s).2.1),.bool (Jr s).2.2]
theorem Jax (s:List UInt8) (hs:s.length<=1000000) (w:World):Calls Tryz.prog 112 #[.string (S s)] w fun e w'=>e=.returned (Zt s)/\Below w.heap.size w w':=by
 cases s with
 |nil=>
  go_enter Tryz.func112,Tryz.ntmps112
  go_wp2_with fail
  go_ret3
  exact⟨rfl,Below.refl _ _⟩
 |cons b r=>
  have hb:(b.toNat:Int)<256:=by have:=b.toNat_lt;omega
  have hl:(S (b::r)).size=r.length+1:=by rw[XI];rfl
  rw[List.length_cons] at hs
  by_cases h:r.length<b.toNat
  ·have h':(r.length:Int)<(b.toNat:Int):=by omega
   have hv:Hid (Zt (b::r)=.tuple #[.string ByteArray.empty,.string ByteArray.empty,.bool false]):=Lib.hid (by simp only[Zt,Jr,if_pos h];rfl)
   clear h
   go_enter Tryz.func112,Tryz.ntmps112
   go_wp2_with fail
   go_ret3
   exact⟨Ym (by rw[hv.out];rfl),Below.refl _ _⟩
  ·have h':¬(r.length:Int)<(b.toNat:Int):=by omega
   have h2:(b.toNat:Int)<=(r.length:Int):=by omega
   have hv:Hid (Zt (b::r)=.tuple #[.string (S (r.take b.toNat)),.string (S (r.drop b.toNat)),.bool true]):=Lib.hid (by simp only[Zt,Jr,if_neg h])
   clear h
   go_enter Tryz.func112,Tryz.ntmps112
   go_wp2_with fail
   go_region
   go_wp2_with fail
   go_ret3
   refine⟨Ym ?_,by go_grown⟩
   rw[hv.out]
   show Value.tuple #[.string (S (List.take (1+b.toNat-1) r)),.string (S (List.take (r.length+1- (1+b.toNat)) (List.drop (1+b.toNat) (b::r)))),.bool true]=_
   rw[Nat.add_sub_cancel_left,Nat.add_comm 1,List.drop_succ_cons,List.take_of_length_le (l:=List.drop b.toNat r) (by rw[List.length_drop];omega)]
def Yx (ps:List (Nat×Nat)):List UInt8:=ps.flatMap fun p=>le p.2 p.1
theorem Jj7 (l:List (Nat×Nat)) (p:Nat×Nat):Yx (l++[p])=Yx l++le p.2 p.1:=by simp[Yx]
theorem XX (l:List (Nat×Nat)):(Yx l).length=Z0 l:=by
 induction l with
 |nil=>rfl
 |cons p l ih=>simp only[Yx,List.flatMap_cons,List.length_append,YV,Z0] at*;rw[ih]
def Fit (ps:List (Nat×Nat)):Prop:=∀p∈ps,p.2<256^p.1
theorem Jez {k:Nat} (h:k<=8):256^k<=18446744073709551616:=Nat.le_trans (Nat.pow_le_pow_right (by decide) h) (by decide)
theorem JbP (aw an:Option Addr) (cw cn:Nat) (ps:List (Nat×Nat)) (w:World) (hsw:JbO w aw ps) (hsn:Jet w an ps) (hw:Jf2 ps) (hf:Fit ps) (hl:ps.length<=1000):
  Calls Tryz.prog 158 #[.slice aw ps.length cw,.slice an ps.length cn] w fun e w'=>e=.returned (.tuple #[.string (S (Yx ps)),.bool true])/\Below w.heap.size w w':=by
 obtain⟨i0,hi,hz0,hz1,hz2⟩:=info_parts Jri
 have hsl:=JaP hw
 have hsum:Z0 ps<=8000:=by omega
 clear hsl
 have hfull:=Lib.hid (XX ps)
 go_enter Tryz.func158,Tryz.ntmps158
 go_wp2_with (first|(go_at_call 151;refine(JdC _ _ _ _ hsw hw hl).mono ?_;rintro e w' ⟨rfl,rfl⟩)|(go_at_call 152;refine(Jc3 _ _ _ _ hsw hw hl).mono ?_;rintro e w' ⟨rfl,rfl⟩)|(at_make;refine wpList_make_own _ rfl _ _ 22 rfl w.heap.size 5 i0 (.int .u8 0) 1 Tryz.underlying22 hi hz0 hz1 .i64 .i64 _ (Z0 ps) rfl rfl rfl (by rw[hz2];omega) (by unfold maxLen;omega) (Nat.le_refl _) ?_;intro w1 hown1 hg1;have hB1:Below w.heap.size w w1:=⟨hg1.os,hg1.tape,hg1.output,hg1.size,fun k hk=>hg1.block k hk (by simp)⟩))
 go_loopw [6,25] (fun v i wr=>∃k:Nat,i=.int .i64 k/\k<=ps.length/\wr.ownsRow w.heap.size 5 1 v (Yx (ps.take k)).length (Xp (Yx (ps.take k)))/\Below w.heap.size w wr) (fun _ i _=>ps.length- (intOf i).toNat)
 case atStart=>exact⟨0,rfl,Nat.zero_le _,hown1,hB1⟩
 case round=>
  obtain⟨k,rfl,hk,hown,hB⟩:=hrel
  have hk0:(0:Int)<=(k:Int):=by omega
  by_cases hkl:k<ps.length
  ·have hk1:(k:Int)<(ps.length:Int):=by omega
   obtain⟨bw,ow,rfl,hbw,hcw⟩:=hsw.at (by omega)
   obtain⟨bn,on,rfl,hbn,hcn⟩:=hsn.at (by omega)
   have cw0:=(hB.cell (p:=⟨bw,ow+k*1+0,none⟩) hbw).trans (hcw k hkl 0 _ rfl)
   have cn0:=(hB.cell (p:=⟨bn,on+k*1+0,none⟩) hbn).trans (hcn k hkl 0 _ rfl)
   rw[Nat.mul_one,Nat.add_zero] at cw0 cn0
   obtain⟨hm1,hm8⟩:=hw _ (List.getElem_mem hkl)
   have hnf:=hf _ (List.getElem_mem hkl)
   have hsnoc:=Lib.hid (show Yx (ps.take (k+1))=Yx (ps.take k)++le ps[k].2 ps[k].1 by rw[List.take_succ_eq_append_getElem hkl,Jj7])
   have hacc:(Yx (ps.take k)).length<=8000:=by
    rw[XX]
    have:=JaP (hw.take k)
    rw[List.length_take] at this;omega
   clear hcw hcn
   generalize ps[k].1=m at*
   generalize ps[k].2=n at*
   generalize Yx (ps.take k)=acc at*
   have hn64:n<18446744073709551616:=Nat.lt_of_lt_of_le hnf (Jez hm8)
   have hnf':=Lib.hid hnf
   clear hnf
   have cn0':=cn0
   go_wp2_with fail
   go_loopw [6,9,35] (fun v x j wi=>∃q:Nat,j=.int .i64 q/\q<=m/\x=.int .u64 (n/256^q:Nat)/\wi.ownsRow w.heap.size 5 1 v (acc++le n q).length (Xp (acc++le n q))/\Below w.heap.size w wi) (fun _ _ j _=>m- (intOf j).toNat)
   case atStart=>exact⟨0,rfl,Nat.zero_le _,by simp,by rw[JpA,List.append_nil];exact hown,hB⟩
   case round=>
    obtain⟨q,rfl,hq,rfl,hownq,hBq⟩:=hrel
    have hd:n/256^q<18446744073709551616:=Nat.lt_of_le_of_lt (Nat.div_le_self _ _) hn64
    have hq0:(0:Int)<=(q:Int):=by omega
    have hle:=YV n q
    have hlen:(acc++le n q).length=acc.length+q:=by rw[List.length_append,hle]
    by_cases hqm:q<m
    ·have hqm':(q:Int)<(m:Int):=by omega
     have hls:=Lib.hid (le_succ n q)
     have hds:=Lib.hid (Jdo n q)
     generalize n/256^q=x at*
     go_wp2_with (at_builtin;refine wpList_append_own_at _ rfl _ _ 22 rfl w.heap.size 5 i0 (.int .u8 0) 1 1 Tryz.underlying22 hi hz0 hz1 hz2 rfl (by decide) _ (acc++le n q).length _ rfl (hownq.alloc _) ⟨wr.heap.size,0,none⟩ 1 1 _ rfl rfl (cell_one_new _ _ _) ?h1 (by rw[hlen];unfold maxLen;omega) (by rw[hlen];omega) (by have:=hBq.size;simp;omega) ?_;(case h1=>(intro u hu;simp at hu;subst hu;rfl));intro v' w3 hown' hgrow hnil hat)
     go_roundw
     case rel=>
      refine⟨q+1,by go_num,by omega,by rw[hds.out];simp,?_,Ju (hBq.alloc hBq.size _) hgrow (fun k e=>(hownq.lt k e).1) (by have:=hBq.size;simp;omega)⟩
      rw[hls.out,<-List.append_assoc,Jgm,List.length_append,List.length_singleton]
      have e:Xp [UInt8.ofNat (x% 256)]=[.int .u8 ((x:Int)% 256)]:=by simp[Xp]
      rw[e]
      exact hown'
     case measure=>first|(simp[intOf];done)|(simp[intOf];omega)
    ·obtain rfl:q=m:=by omega
     have hz:n/256^q=0:=Nat.div_eq_of_lt hnf'.out
     generalize n/256^q=x at*
     subst hz
     go_wp2_with fail
     go_roundw
     case rel=>exact⟨k+1,by go_num,by omega,by rw[hsnoc.out];exact hownq,hBq⟩
     case measure=>first|(simp[intOf];done)|(simp[intOf];omega)
  ·obtain rfl:k=ps.length:=by omega
   rw[List.take_length] at hown
   have hstr:=JkG hown
   clear hown
   go_wp2_with fail
   go_ret2
   exact⟨rfl,hB⟩
open Go.RowKit
theorem Jrg:(Tryz.prog.info? 25).map (fun i=>(i.zero,i.size,i.bytes))=some (some (.int .u64 0),1,8):=by kernel_rfl
def Jda (ps:List (Nat×Nat)):List Value:=ps.map fun p=>.int .u64 p.2
theorem JkQ (l:List (Nat×Nat)) (p:Nat×Nat):Jda (l++[p])=Jda l++[.int .u64 p.2]:=by simp[Jda]
theorem Ji9 {w:World} {B:Nat} {v:Value} {ps:List (Nat×Nat)} (h:w.ownsRow B 25 1 v ps.length (Jda ps)):∃ao c,v=.slice ao ps.length c/\Jet w ao ps:=by
 rcases Jv h with⟨rfl,h0,-⟩|⟨g,cap,cur,rfl,-,hr,h3,-,h5,h6⟩
 ·obtain rfl:=List.eq_nil_of_length_eq_zero h0
  exact⟨none,0,rfl,Or.inl rfl⟩
 ·refine⟨_,cap,rfl,Or.inr ⟨g,0,rfl,hr.lt,fun i hi j x hx=> ?_⟩⟩
  have hj:j=0:=by
   have:=(List.getElem?_eq_some_iff.1 hx).1
   simpa using this
  subst hj
  have e:(Jda ps)[i]? =some (.int .u64 ps[i].2):=by simp[Jda,hi]
  rw[<-h6,List.getElem?_take,if_pos (by omega)] at e
  rw[hr.cell,show 0+i*1+0=i by omega,e]
  simpa using hx
theorem JhI (q:Nat):256^q=2^(8*q):=by rw[Nat.pow_mul]
theorem Jpt (n q:Nat) (hq:q<8):bits .or .u64 ((n% 256^q:Nat):Int) (IntKind.u64.wrap ((n:Int)/256^q% 256*2^(8*q)))=((n% 256^(q+1):Nat):Int):=by
 have e:(n:Int)/256^q% 256*2^(8*q)=((n/256^q% 256*2^(8*q):Nat):Int):=by simp
 have h1:n/256^q% 256<256:=Nat.mod_lt _ (by decide)
 have h2:256*2^(8*q)<=18446744073709551616:=by
  rw[<-JhI,<-Nat.pow_succ'];exact Jez hq
 have hb:n/256^q% 256*2^(8*q)<18446744073709551616:=Nat.lt_of_lt_of_le (Nat.mul_lt_mul_of_pos_right h1 (Nat.two_pow_pos _)) h2
 have ha:n% 256^q<2^(8*q):=by rw[<-JhI];exact Nat.mod_lt _ (Nat.pow_pos (by decide))
 have ha':n% 256^q<18446744073709551616:=Nat.lt_of_lt_of_le ha (by rw[<-JhI];exact Jez (by omega))
 have hor:n% 256^q|||n/256^q% 256*2^(8*q)=n% 256^(q+1):=by
  rw[Nat.or_comm,Nat.mul_comm,<-Nat.two_pow_add_eq_or_of_lt ha,Nat.pow_succ,Nat.mod_mul,<-JhI,Nat.add_comm]
 rw[e,<-hor]
 generalize n/256^q% 256*2^(8*q)=y at*
 generalize n% 256^q=x at*
 rw[IntKind.wrap_u64,Int.emod_eq_of_lt (Int.natCast_nonneg _) (by omega),u64_or_nat _ _ ha' hb]
theorem JbT (aw:Option Addr) (cw:Nat) (ps:List (Nat×Nat)) (rest:List UInt8) (w:World) (hsw:JbO w aw ps) (hw:Jf2 ps) (hf:Fit ps) (hl:ps.length<=1000) (hr:rest.length<=1000000):
  Calls Tryz.prog 114 #[.slice aw ps.length cw,.string (S (Yx ps++rest))] w fun e w'=>(∃ao c,e=.returned (.tuple #[.slice ao ps.length c,.string (S rest),.bool true])/\Jet w' ao ps)/\Below w.heap.size w w':=by
 obtain⟨i0,hi,hz0,hz1,hz2⟩:=info_parts Jrg
 have hsl:=JaP hw
 have hsum:Z0 ps<=8000:=by omega
 clear hsl
 have hlen:(Yx ps++rest).length=Z0 ps+rest.length:=by rw[List.length_append,XX]
 have hge:¬((Z0 ps:Int)+(rest.length:Int)<(Z0 ps:Int)):=by omega
 go_enter Tryz.func114,Tryz.ntmps114
 go_wp2_with (first|(go_at_call 151;refine(JdC _ _ _ _ hsw hw hl).mono ?_;rintro e w' ⟨rfl,rfl⟩)|(go_at_call 152;refine(Jc3 _ _ _ _ hsw hw hl).mono ?_;rintro e w' ⟨rfl,rfl⟩))
 clear hlen hge
 go_loopw [1,7,24] (fun s v i wr=>∃k:Nat,i=.int .i64 k/\k<=ps.length/\s=.string (S (Yx (ps.drop k)++rest))/\wr.ownsRow w.heap.size 25 1 v (ps.take k).length (Jda (ps.take k))/\Below w.heap.size w wr) (fun _ _ i _=>ps.length- (intOf i).toNat)
 case atStart=>exact⟨0,rfl,Nat.zero_le _,rfl,World.ownsRow_nil _ _ _ _,Below.refl _ _⟩
 case round=>
  obtain⟨k,rfl,hk,rfl,hown,hB⟩:=hrel
  have hk0:(0:Int)<=(k:Int):=by omega
  have hlt:(ps.take k).length=k:=by rw[List.length_take];omega
  by_cases hkl:k<ps.length
  ·have hk1:(k:Int)<(ps.length:Int):=by omega
   obtain⟨bw,ow,rfl,hbw,hcw⟩:=hsw.at (by omega)
   have cw0:=(hB.cell (p:=⟨bw,ow+k*1+0,none⟩) hbw).trans (hcw k hkl 0 _ rfl)
   rw[Nat.mul_one,Nat.add_zero] at cw0
   obtain⟨hm1,hm8⟩:=hw _ (List.getElem_mem hkl)
   have hnf:=hf _ (List.getElem_mem hkl)
   have hsnoc:=Lib.hid (show Jda (ps.take (k+1))=Jda (ps.take k)++[.int .u64 ps[k].2] by rw[List.take_succ_eq_append_getElem hkl,JkQ])
   have hdrop:Yx (ps.drop k)++rest=le ps[k].2 ps[k].1++(Yx (ps.drop (k+1))++rest):=by
    rw[List.drop_eq_getElem_cons hkl,<-List.append_assoc];rfl
   rw[hdrop]
   have htl:(Yx (ps.drop (k+1))++rest).length<=1008000:=by
    rw[List.length_append,XX]
    have:=JaP (l:=ps.drop (k+1)) (fun p hp=>hw p (List.mem_of_mem_drop hp))
    rw[List.length_drop] at this;omega
   clear hcw hdrop
   generalize ps[k].1=m at*
   generalize ps[k].2=n at*
   generalize htle:Yx (ps.drop (k+1))++rest=tl at*
   have htle':=Lib.hid htle
   have hn64:n<18446744073709551616:=Nat.lt_of_lt_of_le hnf (Jez hm8)
   have hnf':=Lib.hid hnf
   have hle:=YV n m
   clear hnf htle
   have hsz:(le n m++tl).length=m+tl.length:=by rw[List.length_append,hle]
   go_wp2_with fail
   go_loop [10,29] (fun x j=>∃q:Nat,j=.int .i64 q/\q<=m/\x=.int .u64 (n% 256^q:Nat)) (fun _ j=>m- (intOf j).toNat)
   case atStart=>exact⟨0,rfl,Nat.zero_le _,by simp[Nat.mod_one]⟩
   case round=>
    obtain⟨q,rfl,hq,rfl⟩:=hrel
    have hq0:(0:Int)<=(q:Int):=by omega
    by_cases hqm:q<m
    ·have hqm':(q:Int)<(m:Int):=by omega
     have hq8:q<8:=by omega
     have hqs:(q:Int)<(m:Int)+(tl.length:Int):=by omega
     have hxl:n% 256^q<256^q:=Nat.mod_lt _ (Nat.pow_pos (by decide))
     have hbyte:(le n m++tl)[q]'(by omega)=UInt8.ofNat (n/256^q% 256):=by rw[List.getElem_append_left (by omega)];simp[le]
     have hob:=Lib.hid (Jpt n q hq8)
     generalize n% 256^q=x at*
     go_wp2_with fail
     go_round
     case rel=>exact⟨q+1,by go_num,by omega,by rw[hob.out]⟩
     case measure=>first|(simp[intOf];done)|(simp[intOf];omega)
    ·obtain rfl:q=m:=by omega
     have hmod:n% 256^q=n:=Nat.mod_eq_of_lt hnf'.out
     rw[hmod]
     have hq1:(q:Int)<=(q:Int)+(tl.length:Int):=by omega
     have hcut:Hid ((le n q++tl).drop q=tl):=Lib.hid (by rw[List.drop_append_of_le_length (by omega),List.drop_of_length_le (by omega),List.nil_append])
     clear hmod
     go_wp2_with fail
     rw[hlt] at hown
     obtain⟨ao',c',e'⟩:=Jm hown
     subst e'
     go_region_law (refine Jbb rfl _ _ 212 rfl w.heap.size 25 i0 (.int .u64 0) 1 8 Tryz.underlying212 hi hz0 hz1 hz2 rfl (by decide) (.slice ao' k c') k _ (by simp[Act.eval]) ((hown.alloc (.cells #[.int .u64 n] 25)).drew) ⟨wr.heap.size,0,none⟩ 1 1 [.int .u64 n] (by simp[Act.eval]) rfl (cell_one_new _ _ _) (by intro u hu;simp at hu;subst hu;rfl) (by unfold maxLen;omega) (by omega) (by have:=hB.size;simp;omega) ?_;intro v' w3 hown3 hg3 hat3)
     go_wp2_with fail
     go_roundw
     case rel=>
      refine⟨k+1,by go_num,by omega,?_,?_,?_⟩
      ·rw[htle'.out]
      ·rw[hsnoc.out,List.length_take,Nat.min_eq_left (by omega)]
       exact hown3
      ·exact Ju (Jb (hB.alloc hB.size _)) hg3 (fun k e=>(hown.lt k e).1) (by have:=hB.size;simp;omega)
     case measure=>first|(simp[intOf];done)|(simp[intOf];omega)
  ·obtain rfl:k=ps.length:=by omega
   rw[List.take_length] at hown
   obtain⟨ao,c,rfl,hN⟩:=Ji9 hown
   rw[List.drop_length]
   clear hown
   go_wp2_with fail
   go_ret3
   exact⟨⟨ao,c,rfl,hN⟩,hB⟩
theorem X0 (aw:Option Addr) (cw:Nat) (ps:List (Nat×Nat)) (s:List UInt8) (w:World) (hsw:JbO w aw ps) (hw:Jf2 ps) (hl:ps.length<=1000) (hs:s.length<Z0 ps):
  Calls Tryz.prog 114 #[.slice aw ps.length cw,.string (S s)] w fun e w'=>e=.returned (.tuple #[.slice none 0 0,.string (S []),.bool false])/\w=w':=by
 have hlt:(s.length:Int)<(Z0 ps:Int):=by omega
 go_enter Tryz.func114,Tryz.ntmps114
 go_wp2_with (first|(go_at_call 151;refine(JdC _ _ _ _ hsw hw hl).mono ?_;rintro e w' ⟨rfl,rfl⟩)|(go_at_call 152;refine(Jc3 _ _ _ _ hsw hw hl).mono ?_;rintro e w' ⟨rfl,rfl⟩))
 go_ret3
 exact⟨rfl,rfl⟩
def Y0:List UInt8->Nat
 |[]=>0
 |b::r=>b.toNat+256*Y0 r
theorem JbX:∀l:List UInt8,Y0 l<256^l.length
 |[]=>by simp[Y0]
 |b::r=>by
  have h1:=JbX r
  have h2:=b.toNat_lt
  simp only[Y0,List.length_cons,Nat.pow_succ];omega
theorem JlN (n k:Nat):le n (k+1)=UInt8.ofNat (n% 256)::le (n/256) k:=by
 simp only[le,List.range_succ_eq_map,List.map_cons,List.map_map,Nat.pow_zero,Nat.div_one]
 congr 1
 refine List.map_congr_left fun i _=> ?_
 simp only[Function.comp,Nat.succ_eq_add_one]
 rw[Nat.pow_succ',<-Nat.div_div_eq_div_mul]
theorem Jdh:∀l:List UInt8,le (Y0 l) l.length=l
 |[]=>rfl
 |b::r=>by
  have h2:=b.toNat_lt
  have e1:(b.toNat+256*Y0 r)% 256=b.toNat:=by omega
  have e2:(b.toNat+256*Y0 r)/256=Y0 r:=by omega
  rw[List.length_cons,JlN,Y0,e1,e2,Jdh r]
  simp
theorem JbY:∀(k n:Nat),Y0 (le n k)=n% 256^k
 |0,n=>by simp[le,Y0,Nat.mod_one]
 |k+1,n=>by
  rw[JlN,Y0,JbY k,Nat.pow_succ',Nat.mod_mul]
  simp
theorem Jl7:∀(ws:List Nat) (s:List UInt8),ws.sum<=s.length->∃(ps:List (Nat×Nat)) (rest:List UInt8),ps.map Prod.fst=ws/\Fit ps/\s=Yx ps++rest
 |[],s,_=>⟨[],s,rfl,fun p hp=>by simp at hp,rfl⟩
 |m::ws,s,h=>by
  rw[List.sum_cons] at h
  obtain⟨ps,rest,h1,h2,h3⟩:=Jl7 ws (s.drop m) (by rw[List.length_drop];omega)
  have hl:(s.take m).length=m:=by rw[List.length_take];omega
  refine⟨(m,Y0 (s.take m))::ps,rest,by simp[h1],fun p hp=> ?_,?_⟩
  ·rcases List.mem_cons.1 hp with rfl|hp
   ·have:=JbX (s.take m)
    rwa[hl] at this
   ·exact h2 p hp
  ·have e:=Jdh (s.take m)
   rw[hl] at e
   show s=(le (Y0 (s.take m)) m++Yx ps)++rest
   rw[e,List.append_assoc,<-h3,List.take_append_drop]
theorem ZW (w:World) (c:Array Value) (e:TypeId) (fz:Nat×Nat) (ps:List (Nat×Nat)) (hc:c.toList=ps.map fun p=>.int .i64 p.1):JbO (w.alloc (.cells c e fz)) (some ⟨w.heap.size,0,none⟩) ps:=
 JC.new w c e fz ps (fun _ _=>rfl) (by rw[hc,List.map_eq_flatMap])
theorem JbW (w:World) (c:Array Value) (e:TypeId) (fz:Nat×Nat) (ps:List (Nat×Nat)) (hc:c.toList=ps.map fun p=>.int .u64 p.2):Jet (w.alloc (.cells c e fz)) (some ⟨w.heap.size,0,none⟩) ps:=
 JC.new w c e fz ps (fun _ _=>rfl) (by rw[hc,List.map_eq_flatMap])
theorem Jcj (m n:Nat) (h1:1<=m) (h2:m<=8):Jf2 [(m,n)]:=by
 intro p hp
 simp only[List.mem_singleton] at hp
 subst hp
 exact⟨h1,h2⟩
theorem Jl8 (m:Nat) (s:List UInt8) (h:m<=s.length):∃(n:Nat) (rest:List UInt8),Fit [(m,n)]/\s=Yx [(m,n)]++rest:=by
 have hl:(s.take m).length=m:=by rw[List.length_take];omega
 refine⟨Y0 (s.take m),s.drop m,fun p hp=> ?_,?_⟩
 ·simp only[List.mem_singleton] at hp
  subst hp
  have:=JbX (s.take m)
  rwa[hl] at this
 ·have e:=Jdh (s.take m)
  rw[hl] at e
  simp only[Yx,List.flatMap_cons,List.flatMap_nil,List.append_nil]
  rw[e,List.take_append_drop]
open Go.RowKit
def onL (v:List UInt8) (there:Bool) (u:Upd):List UInt8×Bool:=
 if u.kind=1 then(u.val,true)
 else if u.kind=2 then([],false)
 else if u.kind=3 then
  if there=false then(le (u.delta% 18446744073709551616) 8,true)
  else if v.length=8 then(le ((Y0 v+u.delta)% 18446744073709551616) 8,true) else(v,true)
 else(if there then v else[],there)
def onV (v:List UInt8) (there:Bool) (u:Upd):Value:=.tuple #[.string (S (onL v there u).1),.bool (onL v there u).2]
def Zf (f t:Upd):Upd:=
 if t.kind≠3 then t
 else if f.kind=3 then {t with delta:=(t.delta+f.delta)% 18446744073709551616}
 else⟨1,t.key,(onL (onL [] false f).1 (onL [] false f).2 t).1,0⟩
theorem Jpv {v:List UInt8} (h:v.length=8):Y0 v<18446744073709551616:=by
 have:=JbX v
 rw[h] at this
 exact this
theorem JcD (v:List UInt8) (hv:v.length<=1000000) (w:World):
  Calls Tryz.prog 121 #[.string (S v)] w fun e w'=>e=.returned (.tuple #[.int .u64 (if v.length=8 then Y0 v else 0:Nat),.bool (decide (v.length=8))])/\Below w.heap.size w w':=by
 by_cases hlt:v.length<8
 ·have hd:decide (v.length=8)=false:=by simp;omega
  rw[if_neg (by omega),hd]
  clear hd
  have hI:=ZW w #[.int .i64 8] 3 (0,0) [(8,0)] rfl
  have hr:=X0 _ 1 [(8,0)] v _ hI (Jcj 8 0 (by omega) (by omega)) (by simp) (by simpa[Z0] using hlt)
  go_enter Tryz.func121,Tryz.ntmps121
  go_wp2_with (go_at_call 114;refine(hr).mono ?_;rintro e w' ⟨rfl,rfl⟩)
  go_ret2
  exact⟨rfl,by go_grown⟩
 ·obtain⟨n,rest,h2,h3⟩:=Jl8 8 v (by omega)
  have hn:n<256^8:=h2 (8,n) (by simp)
  have hn8:n<18446744073709551616:=hn
  have hlen:v.length=8+rest.length:=by rw[h3,List.length_append,XX];rfl
  have hI:=ZW w #[.int .i64 8] 3 (0,0) [(8,n)] rfl
  have hr:=JbT _ 1 [(8,n)] rest _ hI (Jcj 8 n (by omega) (by omega)) h2 (by simp) (by omega)
  rw[<-h3] at hr
  by_cases h8:v.length=8
  ·obtain rfl:rest=[]:=List.eq_nil_of_length_eq_zero (by omega)
   have hnum:Y0 v=n:=by
    rw[h3,List.append_nil]
    show Y0 (le n 8++[])=n
    rw[List.append_nil,JbY]
    exact Nat.mod_eq_of_lt hn
   rw[if_pos h8,decide_eq_true h8,hnum]
   clear hnum h8 hlen h3 h2
   go_enter Tryz.func121,Tryz.ntmps121
   go_wp2_with (go_at_call 114;refine(Jl hr w.heap.size w (by go_grown) (by go_grown)).mono ?_;rintro e w1 ⟨⟨ao,c,rfl,hN⟩,hB,-,-,-,-⟩;obtain⟨b,off,rfl,hb,hc⟩:=hN.at (by simp);have hc0:=hc 0 (by simp) 0 _ rfl;simp only[Nat.mul_one,Nat.add_zero,List.getElem_cons_zero] at hc0;clear hc hN)
   go_ret2
   exact⟨rfl,hB⟩
  ·have hne:0<rest.length:=by omega
   rw[if_neg h8,decide_eq_false h8]
   have hre:(S rest).toList.isEmpty=false:=by rw[Jj3];cases rest<;>simp at hne⊢
   have hre2:rest.isEmpty=false:=by rw[Jj3] at hre;exact hre
   clear h8 hlen h3 h2
   go_enter Tryz.func121,Tryz.ntmps121
   go_wp2_with (go_at_call 114;refine(Jl hr w.heap.size w (by go_grown) (by go_grown)).mono ?_;rintro e w1 ⟨⟨ao,c,rfl,hN⟩,hB,-,-,-,-⟩)
   go_ret2
   exact⟨rfl,hB⟩
theorem Jgr (n:Nat) (hn:n<18446744073709551616) (w:World):
  Calls Tryz.prog 122 #[.int .u64 n] w fun e w'=>e=.returned (.string (S (le n 8)))/\Below w.heap.size w w':=by
 have hI:=(ZW w #[.int .i64 8] 3 (0,0) [(8,n)] rfl).kept ((Below.refl _ _).alloc (Nat.le_refl _) (.cells #[.int .u64 n] 25)) (Nat.le_refl _)
 have hN:=JbW (w.alloc (.cells #[.int .i64 8] 3)) #[.int .u64 n] 25 (0,0) [(8,n)] rfl
 have hr:=JbP _ _ 1 1 [(8,n)] _ hI hN (Jcj 8 n (by omega) (by omega)) (by intro p hp;simp at hp;subst hp;exact hn) (by simp)
 have hw:Hid (Yx [(8,n)]=le n 8):=Lib.hid (by simp[Yx])
 rw[show(w.alloc (.cells #[.int .i64 8] 3)).heap.size=w.heap.size+1 by simp] at hr
 go_enter Tryz.func122,Tryz.ntmps122
 go_wp2_with (go_at_call 158;refine(Jl hr w.heap.size w (by go_grown) (by go_grown)).mono ?_;rintro e w1 ⟨rfl,hB,-,-,-,-⟩)
 go_ret
 exact⟨Ym (by rw[<-hw.out];rfl),hB⟩
open Go.RowKit
theorem JaC (v:List UInt8) (u:Upd) (h:u.kind=3):onL v false u=(le (u.delta% 18446744073709551616) 8,true):=by
 unfold onL;rw[if_neg (by omega),if_neg (by omega),if_pos h,if_pos rfl]
theorem XB (v:List UInt8) (u:Upd) (h:u.kind=3) (h8:v.length=8):onL v true u=(le ((Y0 v+u.delta)% 18446744073709551616) 8,true):=by
 unfold onL;rw[if_neg (by omega),if_neg (by omega),if_pos h,if_neg (by simp),if_pos h8]
theorem JaX (v:List UInt8) (u:Upd) (h:u.kind=3) (h8:¬v.length=8):onL v true u=(v,true):=by
 unfold onL;rw[if_neg (by omega),if_neg (by omega),if_pos h,if_neg (by simp),if_neg h8]
theorem JgQ (v:List UInt8) (there:Bool) (u:Upd) (h1:¬u.kind=1) (h2:¬u.kind=2) (h3:¬u.kind=3):onL v there u=(if there then v else[],there):=by
 unfold onL;rw[if_neg h1,if_neg h2,if_neg h3]
theorem Xw (v:List UInt8) (there:Bool) (u:Upd) (h:u.kind=1):onL v there u=(u.val,true):=by
 unfold onL;rw[if_pos h]
theorem JbV (v:List UInt8) (there:Bool) (u:Upd) (h:u.kind=2):onL v there u=([],false):=by
 unfold onL;rw[if_neg (by omega),if_pos h]
theorem Jal (v:List UInt8) (there:Bool) (u:Upd) (n:Nat) (h:v.length<=n) (hu:u.val.length<=n) (h8:8<=n):(onL v there u).1.length<=n:=by
 unfold onL
 repeat' split
 all_goals first|exact hu|exact h|(simp;done)|(simp;omega)
theorem Jhu (a b:Nat):IntKind.u64.wrap ((a:Int)+(b:Int))=(((a+b)% 18446744073709551616:Nat):Int):=by
 rw[IntKind.wrap_u64];omega
theorem Jfo (n:Nat):n% 18446744073709551616<18446744073709551616:=Nat.mod_lt _ (by decide)
theorem Jby (v:List UInt8) (there:Bool) (kd:Nat) (key val:List UInt8) (dl:Nat) (hv:v.length<=1000000) (hk:kd<256) (hd:dl<18446744073709551616) (w:World):
  Calls Tryz.prog 89 #[.string (S v),.bool there,.agg #[.int .u8 kd,.string (S key),.string (S val),.int .u64 dl]] w fun e w'=>e=.returned (onV v there ⟨kd,key,val,dl⟩)/\Below w.heap.size w w':=by
 have hkd:(kd:Int)<256:=by omega
 have hdl:(dl:Int)<18446744073709551616:=by omega
 by_cases h1:kd=1
 ·subst h1
  have hV:Hid (onV v there ⟨1,key,val,dl⟩=.tuple #[.string (S val),.bool true]):=Lib.hid (by rw[onV,Xw _ _ _ rfl])
  cases there
  all_goals
   go_enter Tryz.func89,Tryz.ntmps89
   go_wp2_with fail
   go_ret2
   exact⟨Ym (by rw[hV.out];rfl),by go_grown⟩
 ·by_cases h2:kd=2
  ·subst h2
   have hV:Hid (onV v there ⟨2,key,val,dl⟩=.tuple #[.string (S []),.bool false]):=Lib.hid (by rw[onV,JbV _ _ _ rfl])
   clear h1
   cases there
   all_goals
    go_enter Tryz.func89,Tryz.ntmps89
    go_wp2_with fail
    go_ret2
    exact⟨Ym (by rw[hV.out];rfl),by go_grown⟩
  ·by_cases h3:kd=3
   ·subst h3
    clear h1 h2
    cases there with
    |false=>
     have hV:Hid (onV v false ⟨3,key,val,dl⟩=.tuple #[.string (S (le dl 8)),.bool true]):=Lib.hid (by rw[onV,JaC _ _ rfl,Nat.mod_eq_of_lt hd])
     go_enter Tryz.func89,Tryz.ntmps89
     go_wp2_with (first|(go_at_call 121;refine(Jl (JcD [] (by simp) _) w.heap.size w (by go_grown) (by go_grown)).mono ?_;rintro e w1 ⟨rfl,hB,hc1,-,hs1,hz1⟩;have d3:=(hc1 w.heap.size 3 (by simp)).trans (by simp;rfl);clear hc1)|(go_at_call 122;refine(Jl (Jgr dl hd _) w.heap.size w (by go_grown) (by go_grown)).mono ?_;rintro e w2 ⟨rfl,hB2,-,-,-,-⟩))
     go_ret2
     exact⟨Ym (by rw[hV.out];rfl),hB2⟩
    |true=>
     by_cases h8:v.length=8
     ·have hn:=Jpv h8
      have hV:Hid (onV v true ⟨3,key,val,dl⟩=.tuple #[.string (S (le ((Y0 v+dl)% 18446744073709551616) 8)),.bool true]):=Lib.hid (by rw[onV,XB _ _ rfl h8])
      have hnum:=fun w=>JcD v hv w
      simp only[h8,if_true,decide_true] at hnum
      have hnum':=Lib.hid hnum
      clear hnum h8
      generalize Y0 v=n at*
      go_enter Tryz.func89,Tryz.ntmps89
      go_wp2_with (first|(go_at_call 121;refine(Jl (hnum'.out _) w.heap.size w (by go_grown) (by go_grown)).mono ?_;rintro e w1 ⟨rfl,hB,hc1,-,hs1,hz1⟩;have d3:=(hc1 w.heap.size 3 (by simp)).trans (by simp;rfl);clear hc1)|(go_at_call 122;rw[Jhu];refine(Jl (Jgr _ (Jfo _) _) w.heap.size w (by go_grown) (by go_grown)).mono ?_;rintro e w2 ⟨rfl,hB2,-,-,-,-⟩))
      go_ret2
      exact⟨Ym (by rw[hV.out];rfl),hB2⟩
     ·have hV:Hid (onV v true ⟨3,key,val,dl⟩=.tuple #[.string (S v),.bool true]):=Lib.hid (by rw[onV,JaX _ _ rfl h8])
      have hnum:=fun w=>JcD v hv w
      simp only[h8,if_false,decide_false] at hnum
      have hnum':=Lib.hid hnum
      clear hnum h8
      go_enter Tryz.func89,Tryz.ntmps89
      go_wp2_with (first|(go_at_call 121;refine(Jl (hnum'.out _) w.heap.size w (by go_grown) (by go_grown)).mono ?_;rintro e w1 ⟨rfl,hB,hc1,-,hs1,hz1⟩;clear hc1))
      go_ret2
      exact⟨Ym (by rw[hV.out];rfl),hB⟩
   ·have hV:Hid (onV v there ⟨kd,key,val,dl⟩=.tuple #[.string (S (if there then v else[])),.bool there]):=Lib.hid (by rw[onV,JgQ _ _ _ h1 h2 h3])
    have e1:((kd:Int)==1)=false:=by rw[beq_eq_false_iff_ne];omega
    have e2:((kd:Int)==2)=false:=by rw[beq_eq_false_iff_ne];omega
    have e3:((kd:Int)==3)=false:=by rw[beq_eq_false_iff_ne];omega
    clear h1 h2 h3
    cases there
    all_goals
     go_enter Tryz.func89,Tryz.ntmps89
     go_wp2_with fail
     go_ret2
     exact⟨Ym (by rw[hV.out];rfl),by go_grown⟩
theorem Jb4 (f t:Upd) (h:¬t.kind=3):Zf f t=t:=by unfold Zf;rw[if_pos h]
theorem JdO (f t:Upd) (h:t.kind=3) (k:f.kind=3):Zf f t=⟨3,t.key,t.val,(t.delta+f.delta)% 18446744073709551616⟩:=by
 unfold Zf;rw[if_neg (by simp[h]),if_pos k]
 obtain⟨a,b,c,d⟩:=t
 simp only at h;subst h;rfl
theorem Jb3 (f t:Upd) (h:t.kind=3) (k:¬f.kind=3):Zf f t=⟨1,t.key,(onL (onL [] false f).1 (onL [] false f).2 t).1,0⟩:=by
 unfold Zf;rw[if_neg (by simp[h]),if_neg k]
def Jbh (u:Upd):Value:=.agg #[.int .u8 u.kind,.string (S u.key),.string (S u.val),.int .u64 u.delta]
theorem Jod (f:Upd) (kd:Nat) (key val:List UInt8) (dl:Nat) (hf:f.Wf) (hfv:f.val.length<=1000000) (hk:kd<256) (hd:dl<18446744073709551616) (w:World):
  Calls Tryz.prog 95 #[.agg #[.int .u8 f.kind,.string (S f.key),.string (S f.val),.int .u64 f.delta],.agg #[.int .u8 kd,.string (S key),.string (S val),.int .u64 dl]] w fun e w'=>e=.returned (Jbh (Zf f ⟨kd,key,val,dl⟩))/\Below w.heap.size w w':=by
 obtain⟨fk,fkey,fval,fd⟩:=f
 obtain⟨hfk,hfd⟩:=hf
 dsimp only at hfk hfd hfv
 by_cases h3:kd=3
 ·subst h3
  by_cases hf3:fk=3
  ·subst hf3
   have hV:=Lib.hid (JdO ⟨3,fkey,fval,fd⟩ ⟨3,key,val,dl⟩ rfl rfl)
   go_enter Tryz.func95,Tryz.ntmps95
   go_wp2_with fail
   exact bodyPost_ret (v:=.agg #[.int .u8 3,.string (S key),.string (S val),.int .u64 (IntKind.u64.wrap (dl+fd))]) (by simp[results,Tryz.results95,go_sem]) rfl ⟨Ym (by rw[hV.out,Jhu];rfl),by go_grown⟩
  ·have e3:((fk:Int)==3)=false:=by rw[beq_eq_false_iff_ne];omega
   obtain⟨x,hx⟩:∃x,onL [] false ⟨fk,fkey,fval,fd⟩=x:=⟨_,rfl⟩
   obtain⟨y,hy⟩:∃y,onL x.1 x.2 ⟨3,key,val,dl⟩=y:=⟨_,rfl⟩
   have hV:=Lib.hid (Jb3 ⟨fk,fkey,fval,fd⟩ ⟨3,key,val,dl⟩ rfl hf3)
   have hxl:=Jal [] false ⟨fk,fkey,fval,fd⟩ 1000000 (by simp) hfv (by omega)
   have hc1:=fun w=>Jby [] false fk fkey fval fd (by simp) hfk hfd w
   simp only[onV] at hc1
   rw[hx] at hxl
   simp only[hx] at hc1
   have hc2:=fun w=>Jby x.1 x.2 3 key val dl hxl (by omega) hd w
   simp only[onV] at hc2
   simp only[hy] at hc2
   have hV':Hid (Jbh (Zf ⟨fk,fkey,fval,fd⟩ ⟨3,key,val,dl⟩)=.agg #[.int .u8 1,.string (S key),.string (S y.1),.int .u64 0]):=Lib.hid (by
    rw[hV.out,hx,hy];rfl)
   have H1:=Lib.hid hc1
   have H2:=Lib.hid hc2
   clear hc1 hc2 hx hy hV hf3 hxl
   obtain⟨x1,x2⟩:=x
   obtain⟨y1,y2⟩:=y
   dsimp only at H1 H2 hV'
   go_enter Tryz.func95,Tryz.ntmps95
   go_wp2_with fail
   refine(Jl (H1.out _) w.heap.size w (by go_grown) (by go_grown)).mono ?_
   rintro e w1 ⟨rfl,hB1,hk1,hf1,hs1,hz1⟩
   have a0:=(hk1 (w.heap.size+1) 0 (by simp)).trans (by simp[go_sem];rfl)
   have a1:=(hk1 (w.heap.size+1) 1 (by simp)).trans (by simp[go_sem];rfl)
   have a2:=(hk1 (w.heap.size+1) 2 (by simp)).trans (by simp[go_sem];rfl)
   have a3:=(hk1 (w.heap.size+1) 3 (by simp)).trans (by simp[go_sem];rfl)
   have b0:=(hk1 (w.heap.size+1+1) 0 (by simp)).trans (by simp[go_sem];rfl)
   have b1:=(hk1 (w.heap.size+1+1) 1 (by simp)).trans (by simp[go_sem];rfl)
   have b2:=(hk1 (w.heap.size+1+1) 2 (by simp)).trans (by simp[go_sem];rfl)
   have b3:=(hk1 (w.heap.size+1+1) 3 (by simp)).trans (by simp[go_sem];rfl)
   have g0:∀o,w1.frozen? ⟨w.heap.size+1+1,o,none⟩=false:=fun o=>(hf1 (w.heap.size+1+1) o (by simp)).trans (by simp[go_sem])
   have hs1':w.heap.size+1+1<w1.heap.size:=by simp at hs1;omega
   clear hk1 hf1 hs1
   go_wp2_with fail
   refine(Jl (H2.out _) w.heap.size w hB1 hz1).mono ?_
   rintro e w2 ⟨rfl,hB2,hk2,hf2,hs2,hz2⟩
   have c1:=(hk2 (w.heap.size+1) 1 (by omega)).trans a1
   have d0:=(hk2 (w.heap.size+1+1) 0 (by omega)).trans b0
   have d1:=(hk2 (w.heap.size+1+1) 1 (by omega)).trans b1
   have d2:=(hk2 (w.heap.size+1+1) 2 (by omega)).trans b2
   have d3:=(hk2 (w.heap.size+1+1) 3 (by omega)).trans b3
   have g2:=fun o=>(hf2 (w.heap.size+1+1) o (by omega)).trans (g0 o)
   clear hk2 hf2 a0 a1 a2 a3 b0 b1 b2 b3 g0
   go_wp2_with fail
   exact bodyPost_ret (v:=.agg #[.int .u8 1,.string (S key),.string (S y1),.int .u64 0]) (by simp[results,Tryz.results95,go_sem,d0,d1,d2,d3]) rfl ⟨Ym hV'.out.symm,by go_grown⟩
 ·have e3:((kd:Int) !=3)=true:=by rw[bne_iff_ne];omega
  have hV:=Lib.hid (Jb4 ⟨fk,fkey,fval,fd⟩ ⟨kd,key,val,dl⟩ h3)
  clear h3
  go_enter Tryz.func95,Tryz.ntmps95
  go_wp2_with fail
  exact bodyPost_ret (v:=.agg #[.int .u8 kd,.string (S key),.string (S val),.int .u64 dl]) (by simp[results,Tryz.results95,go_sem]) rfl ⟨Ym (by rw[hV.out];rfl),by go_grown⟩
open Go.RowKit
def Yn (l:List Upd) (k:List UInt8):Option Upd:=l.find? fun u=>u.key==k
def Jm1:Option Upd->Value
 |none=>.tuple #[Jbh ⟨0,[],[],0⟩,.bool false]
 |some u=>.tuple #[Jbh u,.bool true]
theorem JdQ {l:List Upd} {k:List UInt8} (h:JE Upd.key l k=false):Yn l k=none:=by
 unfold Yn
 rw[List.find?_eq_none]
 intro u hu hk
 have:JE Upd.key l k=true:=X2.2 ⟨u,hu,by simpa using hk⟩
 rw[h] at this;exact absurd this (by simp)
theorem Jm3 {l:List Upd} (hr:Je Upd.key l) (i:Nat) (hi:i<l.length):Yn l l[i].key=some l[i]:=by
 unfold Yn
 rw[List.find?_eq_some_iff_getElem]
 refine⟨by simp,i,hi,rfl,fun j hj=> ?_⟩
 have:=ZY (hr.lt hj hi)
 simpa using this
theorem Jor (v:Value) (l:List Upd) (k:List UInt8) (w:World) (hv:JZ w v l) (hl:l.length<=100000) (hr:Je Upd.key l) (hno:JE Upd.key l k=false):
  Calls Tryz.prog 54 #[v,.string (S k)] w fun e w'=>e=.returned (Jm1 none)/\Below w.heap.size w w':=by
 have hfind:=fun w hv=>JfI v l k w hv (by omega) hr
 rw[hno] at hfind
 obtain⟨s,rfl,hs⟩:=hv
 have HF:=Lib.hid hfind
 have HS:=Lib.hid hs
 obtain⟨ao,c,rfl,hs0,hc1,hc2,hn⟩:=hs
 clear hfind hn hs0 hr
 go_enter Tryz.func54,Tryz.ntmps54
 go_wp2_with fail
 refine(Jl (HF.out _ ⟨_,rfl,HS.out.kept (by go_grown) (Nat.le_refl _)⟩) w.heap.size w (by go_grown) (by go_grown)).mono ?_
 rintro e w1 ⟨rfl,hB1,hk1,hf1,hs1,hz1⟩
 have hs1':w.heap.size+1<w1.heap.size:=by simp at hs1;omega
 have p1:=(hk1 (w.heap.size+1) 0 (by first|(simp;done)|(simp;omega))).trans (by simp[go_sem];rfl)
 have p2:=(hk1 (w.heap.size+1) 1 (by first|(simp;done)|(simp;omega))).trans (by simp[go_sem];rfl)
 have p3:=(hk1 (w.heap.size+1) 2 (by first|(simp;done)|(simp;omega))).trans (by simp[go_sem];rfl)
 have p4:=(hk1 (w.heap.size+1) 3 (by first|(simp;done)|(simp;omega))).trans (by simp[go_sem];rfl)
 have p6:∀o,w1.frozen? ⟨w.heap.size+1,o,none⟩=false:=fun o=>(hf1 (w.heap.size+1) o (by first|(simp;done)|(simp;omega))).trans (by simp[go_sem])
 clear hk1 hf1 hs1
 go_wp2_with fail
 exact bodyPost_ret (v:=.tuple #[.agg #[.int .u8 0,.string (S []),.string (S []),.int .u64 0],.bool false]) (by simp[results,Tryz.results54,go_sem,p1,p2,p3,p4];rfl) rfl ⟨rfl,by go_grown⟩
theorem Joq (v:Value) (l:List Upd) (i:Nat) (hi:i<l.length) (u:Upd) (hu:l[i]=u) (k:List UInt8) (w:World) (hv:JZ w v l) (hl:l.length<=100000) (hr:Je Upd.key l) (hb:below Upd.key l k=i) (hno:JE Upd.key l k=true):
  Calls Tryz.prog 54 #[v,.string (S k)] w fun e w'=>e=.returned (Jm1 (some u))/\Below w.heap.size w w':=by
 have hfind:=fun w hv=>JfI v l k w hv (by omega) hr
 rw[hno,hb] at hfind
 obtain⟨s,rfl,hs⟩:=hv
 have HF:=Lib.hid hfind
 have HS:=Lib.hid hs
 obtain⟨ao,c,rfl,hs0,hc1,hc2,hn⟩:=hs
 clear hfind hn hr
 have hcl:=JC.cells4 hs0 i hi
 obtain⟨b,off,rfl,hbl,t0,t1,t2,t3⟩:=hcl
 clear hs0
 go_enter Tryz.func54,Tryz.ntmps54
 go_wp2_with fail
 refine(Jl (HF.out _ ⟨_,rfl,HS.out.kept (by go_grown) (Nat.le_refl _)⟩) w.heap.size w (by go_grown) (by go_grown)).mono ?_
 rintro e w1 ⟨rfl,hB1,hk1,hf1,hs1,hz1⟩
 have hs1':w.heap.size+1<w1.heap.size:=by simp at hs1;omega
 have p0:=(hk1 w.heap.size 0 (by first|(simp;done)|(simp;omega))).trans (by simp[go_sem];rfl)
 have p1:=(hk1 (w.heap.size+1) 0 (by first|(simp;done)|(simp;omega))).trans (by simp[go_sem];rfl)
 have p2:=(hk1 (w.heap.size+1) 1 (by first|(simp;done)|(simp;omega))).trans (by simp[go_sem];rfl)
 have p3:=(hk1 (w.heap.size+1) 2 (by first|(simp;done)|(simp;omega))).trans (by simp[go_sem];rfl)
 have p4:=(hk1 (w.heap.size+1) 3 (by first|(simp;done)|(simp;omega))).trans (by simp[go_sem];rfl)
 have p6:∀o,w1.frozen? ⟨w.heap.size+1,o,none⟩=false:=fun o=>(hf1 (w.heap.size+1) o (by first|(simp;done)|(simp;omega))).trans (by simp[go_sem])
 have q0:=(Jh hB1 hbl _).trans t0
 have q1:=(Jh hB1 hbl _).trans t1
 have q2:=(Jh hB1 hbl _).trans t2
 have q3:=(Jh hB1 hbl _).trans t3
 clear hk1 hf1 hs1
 have hi0:(0:Int)<=(i:Int):=by omega
 have hi1:(i:Int)<(l.length:Int):=by omega
 clear hb hno t0 t1 t2 t3
 rw[hu] at q0 q1 q2 q3
 clear hu
 go_wp2_with fail
 exact bodyPost_ret (v:=.tuple #[.agg #[.int .u8 u.kind,.string (S u.key),.string (S u.val),.int .u64 u.delta],.bool true]) (by simp[results,Tryz.results54,go_sem,p1,p2,p3,p4]) rfl ⟨rfl,by go_grown⟩
theorem JlT (v:Value) (l:List Upd) (k:List UInt8) (w:World) (hv:JZ w v l) (hl:l.length<=100000) (hr:Je Upd.key l):
  Calls Tryz.prog 54 #[v,.string (S k)] w fun e w'=>e=.returned (Jm1 (Yn l k))/\Below w.heap.size w w':=by
 cases hh:JE Upd.key l k with
 |false=>rw[JdQ hh];exact Jor v l k w hv hl hr hh
 |true=>
  obtain⟨hlt,hkey⟩:=(hr.found k).1 hh
  have e:Yn l k=some (l[below Upd.key l k]'hlt):=by
   have:=Jm3 hr _ hlt
   rwa[hkey] at this
  rw[e]
  exact Joq v l _ hlt _ rfl k w hv hl hr rfl hh
open Go.RowKit
theorem JZ.open {w:World} {v:Value} {l:List Upd} (h:JZ w v l):∃a c,v=.agg #[.slice a l.length c]/\JZ w (.agg #[.slice a l.length c]) l:=by
 obtain⟨s,rfl,a,c,rfl,h1⟩:=h
 exact⟨a,c,rfl,_,rfl,a,c,rfl,h1⟩
open Go.RowKit
theorem JlQ:(Tryz.prog.info? 200).map (·.size)=some 2:=by kernel_rfl
theorem Jjp:(Tryz.prog.info? 5).map (fun i=>(i.zero,i.size,i.bytes))=some (some (.int .u8 0),1,1):=by kernel_rfl
theorem JoR (b:Nat) (w:World) (h0:w.cell? ⟨b,0,none⟩=some (.pointer (some ⟨b,0,none⟩))):
  Calls Tryz.prog 135 #[.pointer (some ⟨b,0,none⟩)] w fun e w'=>e=.returned (.tuple #[])/\w'=w:=by
 obtain⟨j,hj,_⟩:=Option.map_eq_some_iff.1 JlQ
 go_enter Tryz.func135,Tryz.ntmps135
 go_wp2_with fail
 rw[Lib.run_neq_ptr_same w _ Tryz.underlying198 hj]
 go_wp2_with fail
 exact bodyPost_end (v:=.tuple #[]) (by simp[results,Tryz.results135,go_sem]) rfl ⟨rfl,rfl⟩
theorem Jnk (b:Nat) (w:World) (h0:w.cell? ⟨b,0,none⟩=some (.pointer none)) (hsh:w.shape? b=some (200,2)) (hfz:w.frozen? ⟨b,0,none⟩=false):
  Calls Tryz.prog 135 #[.pointer (some ⟨b,0,none⟩)] w fun e w'=>e=.returned (.tuple #[])/\w'=w.setCell ⟨b,0,none⟩ (.pointer (some ⟨b,0,none⟩)):=by
 obtain⟨j,hj,hjs⟩:=Option.map_eq_some_iff.1 JlQ
 go_enter Tryz.func135,Tryz.ntmps135
 go_wp2_with fail
 rw[Lib.run_to_unsafe w ⟨b,0,none⟩ Tryz.underlying198 Tryz.underlying267 hj (by rw[hjs];decide) hsh (Nat.zero_lt_succ 1)]
 simp only[Result.andThen]
 rw[Oper.upon_value]
 go_wp2_with fail
 rw[run_callFunc_extern Tryz.func165 (by kernel_rfl) (by kernel_rfl) (by kernel_rfl) (e:=Extern.AbiNoEscape.same) (by kernel_rfl)]
 rw[Lib.run_noEscape]
 simp only[Result.andThen]
 rw[Oper.upon_value]
 go_wp2_with fail
 rw[Lib.run_from_unsafe w ⟨b,0,none⟩ Tryz.underlying267 Tryz.underlying198 hj hsh (by kernel_rfl)]
 simp only[Result.andThen]
 rw[Oper.upon_value]
 go_wp2_with fail
 exact bodyPost_end (v:=.tuple #[]) (by simp[results,Tryz.results135,go_sem]) rfl ⟨rfl,rfl⟩
abbrev IsB (B b:Nat) (bs:List Value) (w:World):Prop:=Lib.IsBuilder 200 5 B b bs w
abbrev BAt (B b:Nat) (p:Value) (bs:List Value) (w:World):Prop:=Lib.BuilderAt 200 5 B b p bs w
theorem Jhj (B b:Nat) (bs:List Value) (w:World) (h:IsB B b bs w):
  Calls Tryz.prog 135 #[.pointer (some ⟨b,0,none⟩)] w fun e w'=>e=.returned (.tuple #[])/\BAt B b (.pointer (some ⟨b,0,none⟩)) bs w'/\Below B w w':=by
 rcases h with h|h
 ·refine(Jnk b w h.cell0 h.shape h.frozen0).mono ?_
  rintro e w' ⟨rfl,rfl⟩
  exact⟨rfl,h.used _,(Below.refl B w).setCell (p:=⟨b,0,none⟩) h.1 _⟩
 ·refine(JoR b w h.cell0).mono ?_
  rintro e w' ⟨rfl,rfl⟩
  exact⟨rfl,h,Below.refl B _⟩
theorem JdV (B b:Nat) (bs:List Value) (s:ByteArray) (w:World) (h:IsB B b bs w) (hlen:bs.length+s.size<=140737488355328) (hBw:B<=w.heap.size):
  Calls Tryz.prog 105 #[.pointer (some ⟨b,0,none⟩),.string s] w fun e w'=>e=.returned (.tuple #[.int .i64 s.size,.nilIface])/\IsB B b (bs++Lib.strCells s) w'/\Below B w w':=by
 obtain⟨i0,hi,hz0,hz1,hz2⟩:=info_parts Jjp
 go_enter Tryz.func105,Tryz.ntmps105
 go_wp2_with fail
 refine(Jhj B b bs _ h).mono ?_
 rintro e w1 ⟨rfl,h1,hb1⟩
 obtain⟨hB,v,hbk,hown,hne⟩:=h1
 have c0:w1.cell? ⟨b,0,none⟩=some (.pointer (some ⟨b,0,none⟩)):=by rw[Lib.cell_of_heap hbk];rfl
 have c1:w1.cell? ⟨b,1,none⟩=some v:=by rw[Lib.cell_of_heap hbk];rfl
 go_wp2_with (at_builtin;refine Lib.wpList_append_own_string _ rfl _ _ 22 9 rfl B 5 i0 Tryz.underlying22 Tryz.underlying9 hi hz0 hz1 hz2 _ _ _ rfl hown s rfl ?c3 ?c4 ?c5 ?_)
 case c3=>unfold maxLen;omega
 case c4=>omega
 case c5=>have:=hb1.size;omega
 intro v' w2 hown' hgrow _
 have hlt:b<w1.heap.size:=by
  rcases Nat.lt_or_ge b w1.heap.size with h'|h'
  ·exact h'
  ·simp[Array.getElem?_eq_none h'] at hbk
 have hb2:w2.heap[b]? =some (.cells #[.pointer (some ⟨b,0,none⟩),v] 200 (0,0)):=by
  rw[hgrow.block b hlt (fun e=>hne e.symm)]
  exact hbk
 have d0:w2.cell? ⟨b,0,none⟩=some (.pointer (some ⟨b,0,none⟩)):=by rw[Lib.cell_of_heap hb2];rfl
 have d1:w2.cell? ⟨b,1,none⟩=some v:=by rw[Lib.cell_of_heap hb2];rfl
 have f1:w2.frozen? ⟨b,1,none⟩=false:=Lib.frozen_of_heap hb2 1
 obtain⟨ao,n',cap,rfl⟩:∃ao n' cap,v'=.slice ao n' cap:=by
  rcases hown'.2 with⟨hv,_⟩|⟨g,cap,cur,hv,_⟩
  ·exact⟨_,_,_,hv⟩
  ·exact⟨_,_,_,hv⟩
 go_wp2_with fail
 go_ret2
 refine⟨rfl,Or.inr ?_,?_⟩
 ·exact Lib.BuilderAt.put (T:=200) (e:=5) hB hb2 (bs':=bs++Lib.strCells s) (by simpa[Lib.strCells_length] using hown') (by decide)
 ·exact(hb1.grown hgrow (by have:=hb1.size;omega) (fun k hk=>(hown.lt k hk).1)).setCell (p:=⟨b,1,none⟩) hB _
theorem Jbp (W:World) (q:Option Addr):(Builtin.unsafeString_ #[239,3] 9 #[.pointer q,.int .i64 0]).run Tryz.prog W=.ok (.string .empty) W:=Lib.run_unsafeString_none W _ _ _ q
theorem Jng:Tryz.prog.cellsOf 5=1:=by kernel_rfl
theorem JoS (B b g cap:Nat) (cur:Array Value) (p:Value) (l:List UInt8) (w:World) (h0:l≠[]) (hbk:w.heap[b]? =some (.cells #[p,.slice (some ⟨g,0,none⟩) l.length cap] 200 (0,0))) (hown:w.ownsRow B 5 1 (.slice (some ⟨g,0,none⟩) l.length cap) l.length (Lib.byteCells l)) (hbg:B<=g) (hg:w.heap[g]? =some (.cells cur 5 (0,0))) (hnc:l.length<=cap) (hcm:cap<=maxLen) (hcs:cur.size=cap*1):
  Calls Tryz.prog 106 #[.pointer (some ⟨b,0,none⟩)] w fun e w'=>e=.returned (.string ⟨l.toArray⟩)/\Below B w w':=by
 have hl0:l.length≠0:=by simpa using h0
 have c1:w.drew.cell? ⟨b,1,none⟩=some (.slice (some ⟨g,0,none⟩) l.length cap):=by
  have:w.drew.heap[b]? =some (.cells #[p,.slice (some ⟨g,0,none⟩) l.length cap] 200 (0,0)):=hbk
  rw[Lib.cell_of_heap this];rfl
 have hSD:(Builtin.unsafeSliceData_ #[22] 239 #[.slice (some ⟨g,0,none⟩) l.length cap]).run Tryz.prog w.drew=.ok (.pointer (some ⟨g,0,none⟩)) w.drew:=
  Lib.run_unsafeSliceData_row _ _ _ _ _ _ (by omega)
 have hUS:(Builtin.unsafeString_ #[239,3] 9 #[.pointer (some ⟨g,0,none⟩),.int .i64 l.length]).run Tryz.prog w.drew=.ok (.string ⟨l.toArray⟩) (w.drew.freeze ⟨g,0,none⟩ l.length):=by
  refine Lib.run_unsafeString_row w.drew 239 3 9 5 Tryz.underlying239 Jng g cur.size (by have hg':w.drew.heap[g]? =some (.cells cur 5 (0,0)):=hg;simp[World.shape?,hg']) l h0 (by omega) (by unfold maxLen at hcm;omega) ?_
  intro j x hx
  exact hown.cells (g:=g) rfl j (.int .u8 x.toNat) (by simp[Lib.byteCells,hx])
 go_enter Tryz.func106,Tryz.ntmps106
 go_wp2_with fail
 go_region
 all_goals (go_wp2_with fail;go_ret;exact⟨rfl,Lib.below_freeze (Below.drew (Below.refl B w)) (p:=⟨g,0,none⟩) hbg _⟩)
theorem Jp9 (B b:Nat) (p:Value) (w:World) (hbk:w.heap[b]? =some (.cells #[p,.slice none 0 0] 200 (0,0))):
  Calls Tryz.prog 106 #[.pointer (some ⟨b,0,none⟩)] w fun e w'=>e=.returned (.string ⟨#[]⟩)/\Below B w w':=by
 have hUS:=Jbp
 have c1:w.drew.cell? ⟨b,1,none⟩=some (.slice none 0 0):=by
  have:w.drew.heap[b]? =some (.cells #[p,.slice none 0 0] 200 (0,0)):=hbk
  rw[Lib.cell_of_heap this];rfl
 have hSD:(Builtin.unsafeSliceData_ #[22] 239 #[.slice none 0 0]).run Tryz.prog w.drew=.ok (.pointer none) w.drew:=rfl
 go_enter Tryz.func106,Tryz.ntmps106
 go_wp2_with fail
 go_region
 all_goals (go_wp2_with fail;go_ret;exact⟨rfl,Below.drew (Below.refl B w)⟩)
theorem JoU (B b g:Nat) (p:Value) (cur:Array Value) (w:World) (hBw:B<=w.heap.size) (hbk:w.heap[b]? =some (.cells #[p,.slice (some ⟨g,0,none⟩) 0 0] 200 (0,0))) (hg:w.heap[g]? =some (.cells cur 5 (0,0))):
  Calls Tryz.prog 106 #[.pointer (some ⟨b,0,none⟩)] w fun e w'=>e=.returned (.string ⟨#[]⟩)/\Below B w w':=by
 have hUS:=Jbp
 have hlt:b<w.heap.size:=by
  rcases Nat.lt_or_ge b w.heap.size with h'|h'
  ·exact h'
  ·simp[Array.getElem?_eq_none h'] at hbk
 have c1:w.drew.cell? ⟨b,1,none⟩=some (.slice (some ⟨g,0,none⟩) 0 0):=by
  have:w.drew.heap[b]? =some (.cells #[p,.slice (some ⟨g,0,none⟩) 0 0] 200 (0,0)):=hbk
  rw[Lib.cell_of_heap this];rfl
 have hSD:(Builtin.unsafeSliceData_ #[22] 239 #[.slice (some ⟨g,0,none⟩) 0 0]).run Tryz.prog w.drew=.ok (.pointer (some ⟨w.drew.heap.size,0,none⟩)) (w.drew.alloc (.view ⟨g,0,none⟩ 5)):=
  Lib.run_unsafeSliceData_zero w.drew _ _ 5 Tryz.underlying239 ⟨g,0,none⟩ 0 (5,cur.size) (by have hg':w.drew.heap[g]? =some (.cells cur 5 (0,0)):=hg;simp[World.shape?,hg'])
 have c2:(w.drew.alloc (.view ⟨g,0,none⟩ 5)).cell? ⟨b,1,none⟩=some (.slice (some ⟨g,0,none⟩) 0 0):=by
  have:(w.drew.alloc (.view ⟨g,0,none⟩ 5)).heap[b]? =_:=(Lib.alloc_old w.drew _ b hlt).trans hbk
  rw[Lib.cell_of_heap this];rfl
 have c3:(w.alloc (.view ⟨g,0,none⟩ 5)).drew.cell? ⟨b,1,none⟩=some (.slice (some ⟨g,0,none⟩) 0 0):=c2
 have c0:w.cell? ⟨b,1,none⟩=some (.slice (some ⟨g,0,none⟩) 0 0):=c1
 go_enter Tryz.func106,Tryz.ntmps106
 go_wp2_with fail
 go_region
 all_goals (go_wp2_with fail;go_ret;exact⟨rfl,(Below.drew (Below.refl B w)).alloc hBw _⟩)
theorem JoT (B b g cap:Nat) (p:Value) (w:World) (hc0:cap≠0) (hbk:w.heap[b]? =some (.cells #[p,.slice (some ⟨g,0,none⟩) 0 cap] 200 (0,0))):
  Calls Tryz.prog 106 #[.pointer (some ⟨b,0,none⟩)] w fun e w'=>e=.returned (.string ⟨#[]⟩)/\Below B w w':=by
 have hUS:=Jbp
 have c1:w.drew.cell? ⟨b,1,none⟩=some (.slice (some ⟨g,0,none⟩) 0 cap):=by
  have:w.drew.heap[b]? =some (.cells #[p,.slice (some ⟨g,0,none⟩) 0 cap] 200 (0,0)):=hbk
  rw[Lib.cell_of_heap this];rfl
 have hSD:(Builtin.unsafeSliceData_ #[22] 239 #[.slice (some ⟨g,0,none⟩) 0 cap]).run Tryz.prog w.drew=.ok (.pointer (some ⟨g,0,none⟩)) w.drew:=
  Lib.run_unsafeSliceData_row _ _ _ _ _ _ hc0
 clear hc0
 go_enter Tryz.func106,Tryz.ntmps106
 go_wp2_with fail
 go_region
 all_goals (go_wp2_with fail;go_ret;exact⟨rfl,Below.drew (Below.refl B w)⟩)
theorem JcN (B b:Nat) (l:List UInt8) (w:World) (h:IsB B b (Lib.byteCells l) w) (hBw:B<=w.heap.size):
  Calls Tryz.prog 106 #[.pointer (some ⟨b,0,none⟩)] w fun e w'=>e=.returned (.string ⟨l.toArray⟩)/\Below B w w':=by
 obtain⟨p,hB,v,hbk,hown,hne⟩:∃p,BAt B b p (Lib.byteCells l) w:=by
  rcases h with h|h
  ·exact⟨_,h⟩
  ·exact⟨_,h⟩
 rw[Lib.byteCells_length] at hown
 rcases id hown.2 with⟨rfl,hz⟩|⟨g,cap,cur,rfl,hbg,hg,hnc,hcm,hcs,_⟩
 ·obtain rfl:=List.eq_nil_of_length_eq_zero hz
  exact Jp9 B b p w hbk
 ·by_cases h0:l=[]
  ·subst h0
   by_cases hc0:cap=0
   ·subst hc0
    exact JoU B b g p cur w hBw hbk hg
   ·exact JoT B b g cap p w hc0 hbk
  ·exact JoS B b g cap cur p l w h0 hbk hown hbg hg hnc hcm hcs
def Yo (s:List UInt8):List UInt8:=[UInt8.ofNat s.length]++s
theorem Xa (s:List UInt8) (hs:s.length<=255) (w:World):
  Calls Tryz.prog 104 #[.string (S s)] w fun e w'=>e=.returned (.tuple #[.string (S (Yo s)),.bool true])/\Below w.heap.size w w':=by
 have hcv:=fun w n c=>Je4 (P:=Tryz.prog) 22 9 5 Tryz.underlying22 Tryz.underlying5 Tryz.underlying9 w n c
 have h1:¬(255:Int)<(s.length:Int):=by omega
 have hw8:IntKind.u8.wrap (s.length:Int)=(s.length:Int):=by rw[IntKind.wrap_u8];omega
 go_enter Tryz.func104,Tryz.ntmps104
 go_wp2_with fail
 go_ret2
 exact⟨by simp[Yo],by go_grown⟩
theorem Jcw (l:List UInt8):Lib.strCells (S l)=Lib.byteCells l:=by simp[Lib.strCells,Lib.byteCells,S]
theorem IsB.on {B b:Nat} {bs:List Value} {w w':World} (h:IsB B b bs w) (hb:Below w.heap.size w w'):IsB B b bs w':=by
 have key:∀p,BAt B b p bs w->BAt B b p bs w':=fun p ⟨hB,v,hbk,hown,hne⟩=>by
  have hlt:b<w.heap.size:=by
   rcases Nat.lt_or_ge b w.heap.size with h'|h'
   ·exact h'
   ·simp[Array.getElem?_eq_none h'] at hbk
  exact⟨hB,v,(hb.block b hlt).trans hbk,Ji hown hb,hne⟩
 rcases h with h|h
 ·exact Or.inl (key _ h)
 ·exact Or.inr (key _ h)
theorem YW (s:List UInt8):(Yo s).length=s.length+1:=by simp[Yo]
theorem Jav (a b:List UInt8):Lib.byteCells (a++b)=Lib.byteCells a++Lib.byteCells b:=by simp[Lib.byteCells]
open Go.RowKit
theorem JlH (n:Nat) (hn:n<18446744073709551616) (k:Nat) (h1:1<=k) (h8:k<=8) (w:World):
  Calls Tryz.prog 85 #[.int .u64 n,.int .i64 k] w fun e w'=>e=.returned (.tuple #[.string (S (le n k)),.bool (decide (n/256^k=0))])/\Below w.heap.size w w':=by
 have hcv:=fun w n c=>Je4 (P:=Tryz.prog) 22 9 5 Tryz.underlying22 Tryz.underlying5 Tryz.underlying9 w n c
 go_enter Tryz.func85,Tryz.ntmps85
 go_wp2
 go_loopw [0,6,7] (fun x s i wr=>∃j:Nat,j<=k/\x=.int .u64 (n/256^j:Nat)/\s=.string (S (le n j))/\i=.int .i64 j/\Below w.heap.size w wr) (fun _ _ i _=>k- (intOf i).toNat)
 case atStart=>exact⟨0,Nat.zero_le _,by simp,rfl,rfl,by go_grown⟩
 case round=>
  obtain⟨j,hj,rfl,rfl,rfl,hB⟩:=hrel
  have hz:=hB.size
  have hd:n/256^j<18446744073709551616:=Nat.lt_of_le_of_lt (Nat.div_le_self _ _) hn
  generalize hm:n/256^j=m at hd⊢
  have Hm:=Lib.hid hm
  clear hm hn
  have hl:(le n j).length=j:=YV n j
  go_wp2
  ·go_roundw
   case rel=>exact⟨j+1,by omega,by rw[Jdo,Hm.out];simp,by rw[le_succ,Hm.out],by go_num,by go_grown⟩
   case measure=>simp[intOf];omega
  ·obtain rfl:j=k:=by omega
   go_ret2
   exact⟨Ym (by rw[Hm.out,<-JoW];rfl),by go_grown⟩
open Go.RowKit
theorem Jhd (u:Upd) (h:u.key.length<1\/16<u.key.length\/32<u.val.length):(13:Int)=(u.check:Nat):=by rw[Upd.check,if_pos h];rfl
theorem Jhe (u:Upd) (h:¬(u.key.length<1\/16<u.key.length\/32<u.val.length)) (k:u.kind<1\/3<u.kind\/(u.kind≠1/\u.val≠[])\/(u.kind≠3/\u.delta≠0)):(2:Int)=(u.check:Nat):=by
 rw[Upd.check,if_neg h,if_pos k];rfl
theorem JfR (u:Upd) (h:¬(u.key.length<1\/16<u.key.length\/32<u.val.length)) (k:¬(u.kind<1\/3<u.kind\/(u.kind≠1/\u.val≠[])\/(u.kind≠3/\u.delta≠0))):(0:Int)=(u.check:Nat):=by
 rw[Upd.check,if_neg h,if_neg k];rfl
theorem JhE (u:Upd) (hu:u.Wf) (w:World):
  Calls Tryz.prog 48 #[.agg #[.int .u8 u.kind,.string (S u.key),.string (S u.val),.int .u64 u.delta]] w fun e w'=>e=.returned (.int .i64 u.check)/\Below w.heap.size w w':=by
 obtain⟨hk,hd⟩:=hu
 by_cases h:u.key.length<1\/16<u.key.length\/32<u.val.length
 ·have H:=Lib.hid h
  clear h
  go_enter Tryz.func48,Tryz.ntmps48
  go_wp2
  all_goals first
   |(go_ret;exact⟨XR (Jhd u H.out),by go_grown⟩)
   |(exfalso;have:=H.out;omega)
 ·obtain⟨h1,h2,h3⟩:1<=u.key.length/\u.key.length<=16/\u.val.length<=32:=by omega
  have H:=Lib.hid h
  clear h
  go_enter Tryz.func48,Tryz.ntmps48
  go_wp2
  all_goals (go_ret;refine⟨XR ?_,by go_grown⟩;go_light;(try simp only[bne_iff_ne,bne_eq_false_iff_eq,ne_eq] at*);by_cases hv:u.val=[])
  all_goals first
   |contradiction
   |exact JfR u H.out (by simp[hv];omega)
   |exact Jhe u H.out (by simp[hv];omega)
theorem JiK (kd:Nat) (key val:List UInt8) (dl:Nat) (hk:kd<256) (hd:dl<18446744073709551616) (w:World):
  Calls Tryz.prog 48 #[.agg #[.int .u8 kd,.string (S key),.string (S val),.int .u64 dl]] w fun e w'=>e=.returned (.int .i64 (Upd.mk kd key val dl).check)/\Below w.heap.size w w':=
 JhE ⟨kd,key,val,dl⟩ ⟨hk,hd⟩ w
open Go.RowKit
theorem Jp7 (u:Upd) (h:u.key.length<1\/16<u.key.length\/32<u.val.length) (w:World):
  Calls Tryz.prog 38 #[.agg #[.int .u8 u.kind,.string (S u.key),.string (S u.val),.int .u64 u.delta]] w fun e w'=>e=.returned (.int .i64 u.check)/\Below w.heap.size w w':=by
 have H:=Lib.hid (Jhd u h)
 by_cases h0:u.key=[]
 ·have he:u.key.isEmpty=true:=by rw[h0];rfl
  clear h
  go_enter Tryz.func38,Tryz.ntmps38
  go_wp2
  all_goals (go_ret;exact⟨XR H.out,by go_grown⟩)
 ·have he:u.key.isEmpty=false:=by cases hk:u.key<;>simp[hk] at h0⊢
  by_cases h1:16<u.key.length
  ·clear h
   go_enter Tryz.func38,Tryz.ntmps38
   go_wp2
   all_goals (go_ret;exact⟨XR H.out,by go_grown⟩)
  ·have h2:32<u.val.length:=by
    rcases h with h|h|h
    ·exact absurd (List.eq_nil_of_length_eq_zero (by omega)) h0
    ·exact absurd h h1
    ·exact h
   clear h
   go_enter Tryz.func38,Tryz.ntmps38
   go_wp2
   all_goals (go_ret;exact⟨XR H.out,by go_grown⟩)
theorem JoJ (u:Upd) (h:¬(u.key.length<1\/16<u.key.length\/32<u.val.length)) (hu:u.Wf) (w:World):
  Calls Tryz.prog 38 #[.agg #[.int .u8 u.kind,.string (S u.key),.string (S u.val),.int .u64 u.delta]] w fun e w'=>e=.returned (.int .i64 u.check)/\Below w.heap.size w w':=by
 obtain⟨hk,hd⟩:=hu
 obtain⟨h1,h2,h3⟩:1<=u.key.length/\u.key.length<=16/\u.val.length<=32:=by omega
 have he:u.key.isEmpty=false:=by cases hk:u.key<;>simp[hk] at h1⊢
 have H:=Lib.hid h
 clear h
 go_enter Tryz.func38,Tryz.ntmps38
 go_wp2
 all_goals (go_ret;refine⟨XR ?_,by go_grown⟩;go_light;(try simp only[bne_iff_ne,bne_eq_false_iff_eq,ne_eq] at*);by_cases hv:u.val=[])
 all_goals first
  |contradiction
  |exact JfR u H.out (by simp[hv];omega)
  |exact Jhe u H.out (by simp[hv];omega)
theorem chk (kd:Nat) (key val:List UInt8) (dl:Nat) (hk:kd<256) (hd:dl<18446744073709551616) (w:World):
  Calls Tryz.prog 38 #[.agg #[.int .u8 kd,.string (S key),.string (S val),.int .u64 dl]] w fun e w'=>e=.returned (.int .i64 (Upd.mk kd key val dl).check)/\Below w.heap.size w w':=by
 by_cases h:key.length<1\/16<key.length\/32<val.length
 ·exact Jp7 ⟨kd,key,val,dl⟩ h w
 ·exact JoJ ⟨kd,key,val,dl⟩ h ⟨hk,hd⟩ w
open Go.RowKit
theorem Jlz:(Tryz.prog.info? 39).map (·.size)=some 4:=by kernel_rfl
def JbB (l:List Upd) (i:Nat) (x:Upd):List Upd:=l.take i++x::l.drop i
theorem JpH (B:Nat) (v:Value) (l:List Upd) (x:Upd) (vb:Nat) (w:World) (hown:w.ownsRow B 39 4 v l.length (cellsU l)) (hB:B<=w.heap.size) (hl:l.length<=1000000)
  (hx:Jc w 39 vb (Upd.cells x)):
  Calls Tryz.prog 96 #[v,.int .i64 l.length,.slice (some ⟨vb,0,none⟩) 1 1] w fun e w'=>(∃v',e=.returned v'/\w'.ownsRow B 39 4 v' (l.length+1) (cellsU (l++[x]))/\w.grownBy w' v.ownBlock/\(v'.ownBlock=v.ownBlock\/v'.ownBlock=some w.heap.size)):=by
 obtain⟨i0,hi,hz0,hz1,hz2⟩:=info_parts JgZ
 obtain⟨ao,c,rfl,hlc⟩:∃ao c,v=.slice ao l.length c/\l.length<=c:=by
  rcases Jv hown with⟨rfl,h0,-⟩|⟨g,cap,cur,rfl,-,-,h3,-⟩
  ·exact⟨none,0,by rw[h0],by omega⟩
  ·exact⟨_,_,rfl,h3⟩
 obtain⟨X,hX⟩:∃X,∀w,(Instr.slice 101 (.slice ao l.length c) (some (.int .i64 (l.length:Int))) none none).run Tryz.prog w=.ok X w:=
  ⟨_,fun w=>by rw[run_slice_l w 101 ao l.length c (by exact Tryz.underlying101) .i64 l.length (by omega) (by omega)];rfl⟩
 have hl0:((1:Int)==0)=false:=rfl
 go_enter Tryz.func96,Tryz.ntmps96
 go_wp2_with (at_builtin;refine wpList_append_own_at _ rfl _ _ 101 rfl B 39 i0 (.agg #[.int .u8 0,.string ByteArray.empty,.string ByteArray.empty,.int .u64 0]) 4 48 Tryz.underlying101 hi hz0 hz1 hz2 rfl (by decide) _ l.length _ rfl hown ⟨vb,0,none⟩ 1 1 (Upd.cells x) rfl rfl (hx.cells 0 _ fun j v hv=>by rw[Nat.zero_add];exact hv) (by rw[<-ZQ];exact YF _) (by unfold maxLen;omega) (by omega) hB ?_;intro v' w1 hown' hgrow hnil' hat)
 go_ret
 exact⟨_,rfl,by rw[Yq,ZQ];exact hown',hgrow,hat⟩
theorem JpF {cur zs:List Value} {i G k:Nat} (h:i*k<=cur.length) (hz:zs.length=(G-i)*k) (hi:i<=G):(cur.take (i*k)++zs).length=G*k:=by
 rw[List.length_append,List.length_take,hz,Nat.sub_mul]
 have:=Nat.mul_le_mul_right k hi
 omega
theorem Joe (B g cap:Nat) (cur:List Value) (l:List Upd) (i:Nat) (x:Upd) (vb:Nat) (w:World) (hrow:Jc w 39 g cur) (hcur:cur=cellsU l) (hil:i<l.length) (hcl:cap=l.length) (hB:B<=w.heap.size) (hl:l.length<=1000000)
  (hx:Jc w 39 vb (Upd.cells x)):
  Calls Tryz.prog 96 #[.slice (some ⟨g,0,none⟩) l.length cap,.int .i64 i,.slice (some ⟨vb,0,none⟩) 1 1] w fun e w'=>(∃v',e=.returned v'/\w'.ownsRow B 39 4 v' (l.length+1) (cellsU (JbB l i x))/\w.grownBy w' none/\v'.ownBlock=some w.heap.size):=by
 obtain⟨i0,hi,hz0,hz1,hz2⟩:=info_parts JgZ
 have hcurl:cur.length=l.length*4:=by rw[hcur,J1]
 have hg:=hrow.lt
 have hv:=hx.lt
 have hne:((i:Int)==(l.length:Int))=false:=by rw[beq_eq_false_iff_ne];omega
 have hi1:(i:Int)<(l.length:Int):=by omega
 have hi0:(0:Int)<=(i:Int):=by omega
 have hci:¬cap=i:=by omega
 have hc1:(cap:Int)<(l.length:Int)+1:=by omega
 have hc2:(l.length:Int)<=(cap:Int):=by omega
 have hk:(l.length:Int)+1- (i:Int)=((l.length+1-i:Nat):Int):=by omega
 have hkk:=Lib.hid hk
 have hxl:(Upd.cells x).length=4:=rfl
 have hcur':=Lib.hid hcur
 have hcl':=Lib.hid hcl
 clear hk hcur hcl
 go_enter Tryz.func96,Tryz.ntmps96
 go_wp2_with (first|(at_builtin;refine XL _ rfl _ _ 101 3 rfl 39 i0 (.agg #[.int .u8 0,.string ByteArray.empty,.string ByteArray.empty,.int .u64 0]) 4 48 Tryz.underlying101 Tryz.underlying3 hi hz0 hz1 hz2 rfl (by decide) (by decide) g i cap cur hrow rfl (l.length+1-i) (by rw[<-hkk.out];rfl) (by omega) (by omega) (by rw[hcl'.out];omega) (l.length+1) (by omega) (by omega) ?_;intro w1 G zs hr1 hzs hG hGm hg1;have tokG:True:=trivial;unfold maxLen at hGm;have hGi:¬G=i:=(by omega);have hGi1:¬G=i+1:=(by omega);have hx1:=hx.kept hg1 (by simp);have hrow1:=hrow.kept hg1 (by simp);have hzl:=Lib.hid hzs;clear hzs;have hrl':=Lib.hid (JpF (cur:=cur) (k:=4) (by rw[hcurl];exact Nat.mul_le_mul_right _ (Nat.le_of_lt hil)) hzl.out (by omega)))|(with_reducible show wpList _ _ _ (Oper.mk (some 45) _ _ _ _ _::_) _ _;go_must (refine XQ _ rfl (.tmp 43) (.tmp 44) 101 101 rfl 39 4 Tryz.underlying101 Jlz w.heap.size (i*4) (l.length+1-i) (G-i) ⟨vb,0,none⟩ 1 1 rfl rfl _ (Upd.cells x) 1 hr1 (by simp only[Nat.min_def];split<;>omega) rfl (hx1.cells 0 _ fun j v hv=>by rw[Nat.zero_add];exact hv) ?hfit (by rw[<-ZQ];exact YF _) ?_;(case hfit=>(rw[hrl'.out,hxl];omega));intro w2 hr2 hg2;have hrow2:=hrow1.kept hg2 (by simp;omega))))
 have hol:=Lib.hid ((YZ (cur:=cur.take (i*4)++zs) (cs:=Upd.cells x) (o:=i*4) (by rw[hrl'.out,hxl];omega)).trans hrl'.out)
 have hw1:IntKind.i64.wrap ((i:Int)+1)=(i:Int)+1:=IntWalk.i64_in _ (by omega)
 have hb1:(0:Int)<=(i:Int)+1:=by omega
 have hin:i<=l.length:=by omega
 have hb3:(i:Int)<=(l.length:Int):=by omega
 have htn:((i:Int)+1).toNat=i+1:=by omega
 have hdl:(cur.drop (i*4)).length=(l.length-i)*4:=by rw[List.length_drop,hcurl,Nat.sub_mul]
 have hdl':=Lib.hid hdl
 clear hdl hzl hrl'
 go_region_law (refine JaQ rfl _ _ 101 101 rfl 39 4 Tryz.underlying101 Jlz w.heap.size ((i+1)*4) (l.length+1- (i+1)) (G- (i+1)) ⟨g,i*4,none⟩ (l.length-i) (cap-i) (by simp[Act.eval,Act.put]) (by simp[Act.eval,Act.put]) _ (cur.drop (i*4)) (l.length-i) hr2.drew (by simp only[Nat.min_def];split<;>omega) hdl'.out (hrow2.drew.cells _ _ fun j v hv=>by rwa[List.getElem?_drop] at hv) ?hfit2 (by rw[hcur'.out];exact fun v hv=>YF _ v (List.mem_of_mem_drop hv)) ?_;(case hfit2=>(rw[hdl'.out,hol.out];omega));intro w3 hr3 hg3)
 go_wp2_with fail
 go_ret
 have hfit3:(i+1)*4+(cur.drop (i*4)).length<=(over (cur.take (i*4)++zs) (i*4) (Upd.cells x)).length:=by rw[hdl'.out,hol.out];omega
 refine⟨_,rfl,YB hB hr3 hG (by unfold maxLen;omega) ((YZ hfit3).trans hol.out) ?_,Jb5 (JfE (Jb5 hg1 hg2 (Nat.le_refl _))) hg3 (Nat.le_refl _),rfl⟩
 rw[Ji2 (cur.take (i*4)) zs (Upd.cells x) (cur.drop (i*4)) (i*4) ((i+1)*4) (by rw[List.length_take,hcurl];omega) (by rw[hxl];omega) ((l.length+1)*4) (by rw[hdl'.out];omega)]
 rw[hcur'.out,JjM,JjP,JbB,Yq,<-List.singleton_append,Yq,ZQ]
theorem JmX (B g cap:Nat) (cur:List Value) (l:List Upd) (i:Nat) (x:Upd) (vb:Nat) (w:World) (hrow:Jc w 39 g cur) (hcur:cur.take (l.length*4)=cellsU l) (hcurl:cur.length=cap*4) (hil:i<l.length) (hcl:l.length+1<=cap) (hcm:cap<=9223372036854775807) (hB:B<=g) (hl:l.length<=1000000)
  (hx:Jc w 39 vb (Upd.cells x)) (hvg:vb≠g):
  Calls Tryz.prog 96 #[.slice (some ⟨g,0,none⟩) l.length cap,.int .i64 i,.slice (some ⟨vb,0,none⟩) 1 1] w fun e w'=>(∃v',e=.returned v'/\w'.ownsRow B 39 4 v' (l.length+1) (cellsU (JbB l i x))/\w.grownBy w' (some g)/\v'.ownBlock=some g):=by
 have hg:=hrow.lt
 have hv:=hx.lt
 have hne:((i:Int)==(l.length:Int))=false:=by rw[beq_eq_false_iff_ne];omega
 have hi1:(i:Int)<(l.length:Int):=by omega
 have hi0:(0:Int)<=(i:Int):=by omega
 have hci:¬cap=i:=by omega
 have hci1:¬cap=i+1:=by omega
 have hc1:¬(cap:Int)<(l.length:Int)+1:=by omega
 have hc2:(l.length:Int)+1<=(cap:Int):=by omega
 have hov:∀lb cb,(callFunc 130 #[.slice (some ⟨vb,0,none⟩) 1 1,.slice (some ⟨g,(i+1)*4,none⟩) lb cb]).run Tryz.prog w=.ok (.value (.bool false)) w:=fun lb cb=>by
  rw[run_callFunc_extern Tryz.func130 (by kernel_rfl) (by kernel_rfl) (by kernel_rfl) (e:=Extern.SlicesOverlaps.overlaps #[101,101] #[4]) (by kernel_rfl),
   Lib.run_overlaps_apart w 101 4 39 Tryz.underlying101 4 Tryz.sizeOf39 ⟨vb,0,none⟩ ⟨g,(i+1)*4,none⟩ 1 1 lb cb hvg 39 39 _ _ hx.shape hrow.shape (by omega) (hx.frozen 0) (hx.frozen _)]
  rfl
 have hxl:(Upd.cells x).length=4:=rfl
 have hw1:IntKind.i64.wrap ((i:Int)+1)=(i:Int)+1:=IntWalk.i64_in _ (by omega)
 have hb1:(0:Int)<=(i:Int)+1:=by omega
 have hin:i<=l.length:=by omega
 have hb3:(i:Int)<=(l.length:Int):=by omega
 have hb4:(i:Int)<=(l.length:Int)+1:=by omega
 have htn:((i:Int)+1).toNat=i+1:=by omega
 obtain⟨R,hcurE⟩:∃R,cur=cellsU (l.take i)++(cellsU (l.drop i)++R):=⟨cur.drop (l.length*4),by
  rw[<-List.append_assoc,<-Yq,List.take_append_drop,<-hcur,List.take_append_drop]⟩
 have hPl:(cellsU (l.take i)).length=i*4:=by rw[J1,List.length_take];omega
 have hQl:(cellsU (l.drop i)).length=(l.length-i)*4:=by rw[J1,List.length_drop]
 have hRl:R.length=(cap-l.length)*4:=by rw[hcurE,List.length_append,List.length_append,hPl,hQl] at hcurl;omega
 have hQ1:=YF (l.drop i)
 have hins:cellsU (JbB l i x)=cellsU (l.take i)++(Upd.cells x++cellsU (l.drop i)):=by
  rw[JbB,Yq,<-List.singleton_append,Yq,ZQ]
 have hins':=Lib.hid hins
 have hcurl':=Lib.hid hcurl
 clear hcur hins hcurl
 generalize cellsU (l.take i)=C at*
 generalize cellsU (l.drop i)=D at*
 have hCl:=Lib.hid hPl
 have hDl:=Lib.hid hQl
 have hRl':=Lib.hid hRl
 have hcurE':=Lib.hid hcurE
 clear hPl hQl hRl hcurE
 go_enter Tryz.func96,Tryz.ntmps96
 go_wp2_with (simp only[hov])
 go_region_law (refine JaQ rfl _ _ 101 101 rfl 39 4 Tryz.underlying101 Jlz g ((i+1)*4) (l.length+1- (i+1)) (cap- (i+1)) ⟨g,i*4,none⟩ (l.length+1-i) (cap-i) (by simp[Act.eval,Act.put]) (by simp[Act.eval,Act.put]) _ D (l.length-i) hrow.drew (by simp only[Nat.min_def];split<;>omega) hDl.out (hrow.drew.cells _ _ fun j v hv=>by rw[hcurE'.out,<-hCl.out,List.getElem?_append_right (by omega),Nat.add_sub_cancel_left,List.getElem?_append_left (List.getElem?_eq_some_iff.1 hv).1];exact hv) (by rw[hDl.out,hcurl'.out];omega) hQ1 ?_;intro w3 hr3 hg3)
 have hx3:=hx.drew.kept hg3 (by simpa using hvg)
 have hol:=Lib.hid ((YZ (cur:=cur) (cs:=D) (o:=(i+1)*4) (by rw[hDl.out,hcurl'.out];omega)).trans hcurl'.out)
 go_wp2_with (with_reducible show wpList _ _ _ (Oper.mk (some 82) _ _ _ _ _::_) _ _;refine XQ _ rfl (.tmp 80) (.tmp 81) 101 101 rfl 39 4 Tryz.underlying101 Jlz g (i*4) (l.length+1-i) (cap-i) ⟨vb,0,none⟩ 1 1 rfl rfl _ (Upd.cells x) 1 hr3 (by simp only[Nat.min_def];split<;>omega) rfl (hx3.cells 0 _ fun j v hv=>by rw[Nat.zero_add];exact hv) ?hfit (by rw[<-ZQ];exact YF _) ?_;(case hfit=>(rw[hol.out,hxl];omega));intro w4 hr4 hg4)
 go_ret
 refine⟨_,rfl,YB hB hr4 hcl (by unfold maxLen;omega) ((YZ (by rw[hol.out,hxl];omega)).trans hol.out) ?_,Zz (XT hg3) hg4,rfl⟩
 rw[hcurE'.out,hins'.out]
 exact Ji3 C D R (Upd.cells x) (i*4) ((i+1)*4) hCl.out (by rw[hxl];omega) ((l.length+1)*4) (by rw[hDl.out];omega) (by rw[hxl,hRl'.out];omega)
theorem JpD (B:Nat) (v:Value) (l:List Upd) (i:Nat) (x:Upd) (vb:Nat) (w:World) (hown:w.ownsRow B 39 4 v l.length (cellsU l)) (hB:B<=w.heap.size) (hi:i<=l.length) (hl:l.length<=1000000)
  (hx:Jc w 39 vb (Upd.cells x)) (hvb:v.ownBlock≠some vb):
  Calls Tryz.prog 96 #[v,.int .i64 i,.slice (some ⟨vb,0,none⟩) 1 1] w fun e w'=>(∃v',e=.returned v'/\w'.ownsRow B 39 4 v' (l.length+1) (cellsU (JbB l i x))/\w.grownBy w' v.ownBlock/\(v'.ownBlock=v.ownBlock\/v'.ownBlock=some w.heap.size)):=by
 by_cases he:i=l.length
 ·subst he
  have:=JpH B v l x vb w hown hB hl hx
  rw[JbB,List.take_length,List.drop_length]
  exact this
 ·rcases Jv hown with⟨rfl,h0,-⟩|⟨g,cap,cur,rfl,hBg,hr,hn,hm,hc,ht⟩
  ·omega
  ·have hvg:vb≠g:=fun e=>hvb (by simp[Value.ownBlock,e])
   by_cases hroom:l.length+1<=cap
   ·refine(JmX B g cap cur l i x vb w hr ht hc (by omega) hroom (by unfold maxLen at hm;omega) hBg hl hx hvg).mono ?_
    rintro e w' ⟨v',h1,h2,h3,h4⟩
    exact⟨v',h1,h2,h3,Or.inl h4⟩
   ·have hcl:cap=l.length:=by omega
    subst hcl
    refine(Joe B g l.length cur l i x vb w hr (by rw[<-ht,List.take_of_length_le (by omega)]) (by omega) rfl hB hl hx).mono ?_
    rintro e w' ⟨v',h1,h2,h3,h4⟩
    exact⟨v',h1,h2,⟨h3.os,h3.tape,h3.output,h3.size,fun k hk _=>h3.block k hk (by simp)⟩,Or.inr h4⟩
open Go.RowKit
def JQ (l:List Upd) (u:Upd):List Upd:=
 if h:below Upd.key l u.key<l.length/\JE Upd.key l u.key=true then l.set (below Upd.key l u.key) (Zf (l[below Upd.key l u.key]'h.1) u) else JbB l (below Upd.key l u.key) u
def Jlt (l:List Upd):Prop:=∀u∈l,u.Wf/\u.val.length<=1000000
theorem JfU:∀(l:List Upd) (i:Nat) (x:Upd),i<l.length->((((cellsU l).set (i*4) (.int .u8 x.kind)).set (i*4+1) (.string (S x.key))).set (i*4+2) (.string (S x.val))).set (i*4+3) (.int .u64 x.delta)=cellsU (l.set i x)
 |[],i,x,h=>by simp at h
 |u::l,0,x,_=>by simp[cellsU,Upd.cells]
 |u::l,i+1,x,h=>by
  have ih:=JfU l i x (by simpa using h)
  have e:∀(y:Upd) (m:List Upd),cellsU (y::m)=.int .u8 y.kind:: .string (S y.key):: .string (S y.val):: .int .u64 y.delta::cellsU m:=fun y m=>by simp[cellsU,Upd.cells]
  rw[List.set_cons_succ,e,e,<-ih,show(i+1)*4=i*4+1+1+1+1 by omega]
  simp only[List.set_cons_succ]
def Jii (B:Nat) (w:World) (v:Value) (l:List Upd):Prop:=∃a c,v=.agg #[.slice a l.length c]/\w.ownsRow B 39 4 (.slice a l.length c) l.length (cellsU l)
theorem Jii.mk {B:Nat} {w:World} {a:Option Addr} {n c:Nat} {l:List Upd} (h:w.ownsRow B 39 4 (.slice a n c) n (cellsU l)):Jii B w (.agg #[.slice a n c]) l:=by
 have hn:=(SlU.of_own h).1
 subst hn
 exact⟨a,c,rfl,h⟩
theorem Jii.box {B:Nat} {w:World} {v:Value} {l:List Upd} (h:Jii B w v l):JZ w v l:=by
 obtain⟨a,c,rfl,h⟩:=h
 exact JZ.of_own h
theorem Jnw (v:Value) (l:List Upd) (kd:Nat) (key val:List UInt8) (dl:Nat) (w:World) (hv:JZ w v l) (hl:l.length<=100000) (hr:Je Upd.key l) (hno:JE Upd.key l key=false):
  Calls Tryz.prog 67 #[v,.agg #[.int .u8 kd,.string (S key),.string (S val),.int .u64 dl]] w fun e w'=>(∃v',e=.returned v'/\Jii w.heap.size w' v' (JbB l (below Upd.key l key) ⟨kd,key,val,dl⟩))/\Below w.heap.size w w':=by
 have hfind:=fun w hv=>JfI v l key w hv (by omega) hr
 rw[hno] at hfind
 have hbl:=Xe (key:=Upd.key) l key
 obtain⟨s,rfl,hs⟩:=hv
 have hcl:=fun w hs=>JbJ s l w hs (by omega)
 have HF:=Lib.hid hfind
 have HC:=Lib.hid hcl
 have HS:=Lib.hid hs
 obtain⟨ao,c,rfl,hs0,hc1,hc2,hn⟩:=hs
 clear hfind hcl hn hs0 hr
 go_enter Tryz.func67,Tryz.ntmps67
 go_wp2_with fail
 refine(Jl (HF.out _ ⟨_,rfl,HS.out.kept (by go_grown) (Nat.le_refl _)⟩) w.heap.size w (by go_grown) (by go_grown)).mono ?_
 rintro e w1 ⟨rfl,hB1,hk1,hf1,hs1,hz1⟩
 have hs1':w.heap.size+1+1<w1.heap.size:=by simp at hs1;omega
 have p0:=(hk1 w.heap.size 0 (by first|(simp;done)|(simp;omega))).trans (by simp[go_sem];rfl)
 have p1:=(hk1 (w.heap.size+1) 0 (by first|(simp;done)|(simp;omega))).trans (by simp[go_sem];rfl)
 have p2:=(hk1 (w.heap.size+1) 1 (by first|(simp;done)|(simp;omega))).trans (by simp[go_sem];rfl)
 have p3:=(hk1 (w.heap.size+1) 2 (by first|(simp;done)|(simp;omega))).trans (by simp[go_sem];rfl)
 have p4:=(hk1 (w.heap.size+1) 3 (by first|(simp;done)|(simp;omega))).trans (by simp[go_sem];rfl)
 have p5:=(hk1 (w.heap.size+1+1) 0 (by first|(simp;done)|(simp;omega))).trans (by simp[go_sem];rfl)
 have p6:w1.frozen? ⟨w.heap.size+1+1,0,none⟩=false:=(hf1 (w.heap.size+1+1) 0 (by first|(simp;done)|(simp;omega))).trans (by simp[go_sem])
 clear hk1 hf1 hs1
 go_wp2_with fail
 refine(Jl (HC.out _ (HS.out.kept hB1 (Nat.le_refl _))) w.heap.size w hB1 hz1).mono ?_
 rintro e w2 ⟨⟨v',rfl,hown⟩,hB2,hk2,hf2,hs2,hz2⟩
 have q1:=(hk2 (w.heap.size+1) 0 (by omega)).trans p1
 have q2:=(hk2 (w.heap.size+1) 1 (by omega)).trans p2
 have q3:=(hk2 (w.heap.size+1) 2 (by omega)).trans p3
 have q4:=(hk2 (w.heap.size+1) 3 (by omega)).trans p4
 have q5:=(hk2 (w.heap.size+1+1) 0 (by omega)).trans p5
 have q6:=(hf2 (w.heap.size+1+1) 0 (by omega)).trans p6
 clear hk2 hf2 p0 p1 p2 p3 p4 p5 p6
 obtain⟨ao',c',e'⟩:=Jm hown
 subst e'
 have hne:(Value.slice ao' l.length c').ownBlock≠some w2.heap.size:=fun e=>by have:=(hown.lt _ e).2;omega
 have hnr:(Value.slice ao' l.length c').ownBlock≠some (w.heap.size+1+1):=fun e=>by have:=(hown.lt _ e).1;omega
 have hins:=JpD w1.heap.size (.slice ao' l.length c') l (below Upd.key l key) ⟨kd,key,val,dl⟩ w2.heap.size (w2.alloc (.cells #[.int .u8 kd,.string (S key),.string (S val),.int .u64 dl] 39)) (hown.alloc _) (by simp;omega) hbl (by omega) (Jc.new w2 39 (Upd.cells ⟨kd,key,val,dl⟩)) hne
 have HI:=Lib.hid hins
 clear hins hbl
 go_wp2_with fail
 refine(HI.out).mono ?_
 rintro e w3 ⟨v3,rfl,hown3,hg3,hat3⟩
 have s5:=hg3.cell (Jf _ q5) (by simpa using fun e=>hnr e.symm)
 have s6:w3.frozen? ⟨w.heap.size+1+1,0,none⟩=false:=(World.frozen?_of_block (hg3.block (w.heap.size+1+1) (by simp;omega) (fun e=>hnr e.symm))).trans (by rw[World.frozen?_alloc_old _ _ _ (by show w.heap.size+1+1≠_;omega)];exact q6)
 have hB3:=Ju (hB2.alloc hz2 (.cells #[.int .u8 kd,.string (S key),.string (S val),.int .u64 dl] 39)) hg3 (fun k e=>by have:=(hown.lt k e).1;omega) (by simp;omega)
 obtain⟨a3,c3,e3⟩:=Jm hown3
 subst e3
 have hne3:(Value.slice a3 (l.length+1) c3).ownBlock≠some (w.heap.size+1+1):=fun e=>by have:=(hown3.lt _ e).1;omega
 have hbox:=fun u=>Jii.mk (JI (B':=w.heap.size) (ownsRow_setCell_other (a:=⟨w.heap.size+1+1,0,none⟩) hown3 hne3 u) (by omega))
 have hbox':=Lib.hid hbox
 clear q1 q2 q3 q4 q5 q6 hg3 hat3 hown3 hown hne hnr hne3 hbox
 go_wp2_with fail
 exact bodyPost_ret (v:=.agg #[.slice a3 (l.length+1) c3]) (by simp[results,Tryz.results67,go_sem,s5]) rfl ⟨⟨_,rfl,hbox'.out _⟩,hB3.setCell (p:=⟨w.heap.size+1+1,0,none⟩) (by show w.heap.size<=w.heap.size+1+1;omega) _⟩
theorem Jnv (v:Value) (l:List Upd) (kd:Nat) (key val:List UInt8) (dl:Nat) (w:World) (hv:JZ w v l) (hl:l.length<=100000) (hr:Je Upd.key l) (i:Nat) (hi:below Upd.key l key=i) (hil:i<l.length) (hyes:JE Upd.key l key=true) (hf:Jlt l) (J:Upd) (hJ:Zf l[i] ⟨kd,key,val,dl⟩=J) (hk:kd<256) (hd:dl<18446744073709551616):
  Calls Tryz.prog 67 #[v,.agg #[.int .u8 kd,.string (S key),.string (S val),.int .u64 dl]] w fun e w'=>(∃v',e=.returned v'/\Jii w.heap.size w' v' (l.set i J))/\Below w.heap.size w w':=by
 have hfind:=fun w hv=>JfI v l key w hv (by omega) hr
 rw[hyes,hi] at hfind
 obtain⟨hwf,hvl⟩:=hf _ (List.getElem_mem hil)
 have hjoin:=fun w=>Jod l[i] kd key val dl hwf hvl hk hd w
 simp only[hJ,Jbh] at hjoin
 have HJ:=Lib.hid hjoin
 clear hjoin hf hJ
 obtain⟨s,rfl,hs⟩:=hv
 have hcl:=fun w hs=>JbJ s l w hs (by omega)
 have HF:=Lib.hid hfind
 have HC:=Lib.hid hcl
 have HS:=Lib.hid hs
 obtain⟨ao,c,rfl,hs0,hc1,hc2,hn⟩:=hs
 clear hfind hcl hn hs0 hr
 go_enter Tryz.func67,Tryz.ntmps67
 go_wp2_with fail
 refine(Jl (HF.out _ ⟨_,rfl,HS.out.kept (by go_grown) (Nat.le_refl _)⟩) w.heap.size w (by go_grown) (by go_grown)).mono ?_
 rintro e w1 ⟨rfl,hB1,hk1,hf1,hs1,hz1⟩
 have hs1':w.heap.size+1+1<w1.heap.size:=by simp at hs1;omega
 have p0:=(hk1 w.heap.size 0 (by first|(simp;done)|(simp;omega))).trans (by simp[go_sem];rfl)
 have p1:=(hk1 (w.heap.size+1) 0 (by first|(simp;done)|(simp;omega))).trans (by simp[go_sem];rfl)
 have p2:=(hk1 (w.heap.size+1) 1 (by first|(simp;done)|(simp;omega))).trans (by simp[go_sem];rfl)
 have p3:=(hk1 (w.heap.size+1) 2 (by first|(simp;done)|(simp;omega))).trans (by simp[go_sem];rfl)
 have p4:=(hk1 (w.heap.size+1) 3 (by first|(simp;done)|(simp;omega))).trans (by simp[go_sem];rfl)
 have p5:=(hk1 (w.heap.size+1+1) 0 (by first|(simp;done)|(simp;omega))).trans (by simp[go_sem];rfl)
 have p6:w1.frozen? ⟨w.heap.size+1+1,0,none⟩=false:=(hf1 (w.heap.size+1+1) 0 (by first|(simp;done)|(simp;omega))).trans (by simp[go_sem])
 clear hk1 hf1 hs1
 go_wp2_with fail
 refine(Jl (HC.out _ (HS.out.kept hB1 (Nat.le_refl _))) w.heap.size w hB1 hz1).mono ?_
 rintro e w2 ⟨⟨v',rfl,hown⟩,hB2,hk2,hf2,hs2,hz2⟩
 have q1:=(hk2 (w.heap.size+1) 0 (by omega)).trans p1
 have q2:=(hk2 (w.heap.size+1) 1 (by omega)).trans p2
 have q3:=(hk2 (w.heap.size+1) 2 (by omega)).trans p3
 have q4:=(hk2 (w.heap.size+1) 3 (by omega)).trans p4
 have q5:=(hk2 (w.heap.size+1+1) 0 (by omega)).trans p5
 have q6:=(hf2 (w.heap.size+1+1) 0 (by omega)).trans p6
 clear hk2 hf2 p0 p1 p2 p3 p4 p5 p6
 obtain⟨ao',c',e'⟩:=Jm hown
 subst e'
 have hgl:=Yk hown (by omega)
 obtain⟨g,rfl,hgB,hgl,hrow⟩:=hgl
 have hcell:=fun j x hx=>hrow (i*4+j) x (Xo l i hil j x hx)
 have t0:=hcell 0 _ rfl
 have t1:=hcell 1 _ rfl
 have t2:=hcell 2 _ rfl
 have t3:=hcell 3 _ rfl
 rw[Nat.add_zero] at t0
 have hfz:=hown.frozenAt
 have hi0:(0:Int)<=(i:Int):=by omega
 have hi1:(i:Int)<(l.length:Int):=by omega
 clear hcell hrow
 generalize l[i]=u at*
 go_wp2_with fail
 have hnr:(Value.slice (some ⟨g,0,none⟩) l.length c').ownBlock≠some (w.heap.size+1+1):=fun e=>by have:=(hown.lt _ e).1;omega
 have hown':=Lib.hid hown
 go_region_law (first|(go_simp;go_at_call 95;refine(HJ.out _).mono ?_;rintro e w4 ⟨rfl,hb4⟩;have hown4:=Ji (World.ownsRow.drew hown'.out) hb4;have hB4:=(Jb hB2).trans (X8 hb4 hz2);have hk4:=(JB hb4).1;have hf4:=(JB hb4).2;have y0:=(hk4 g (i*4) (by first|exact hgl|(simp;omega))).trans t0;have y1:=(hk4 g (i*4+1) (by first|exact hgl|(simp;omega))).trans t1;have y2:=(hk4 g (i*4+2) (by first|exact hgl|(simp;omega))).trans t2;have y3:=(hk4 g (i*4+3) (by first|exact hgl|(simp;omega))).trans t3;have z5:=(hk4 (w.heap.size+1+1) 0 (by first|(simp;omega)|omega)).trans q5;have z6:=(hf4 (w.heap.size+1+1) 0 (by first|(simp;omega)|omega)).trans q6;have zf:=fun o=>(hf4 g o (by first|exact hgl|(simp;omega))).trans (hfz o);clear hk4 hf4 hb4))
 all_goals
  have hset:=(((((hown4.stored (i*4) (.int .u8 J.kind)).1.stored (i*4+1) (.string (S J.key))).1.stored (i*4+2) (.string (S J.val))).1.stored (i*4+3) (.int .u64 J.delta)).1)
  rw[JfU l i J hil] at hset
  have hlen':(l.set i J).length=l.length:=List.length_set ..
  have hbox:=fun u=>Jii.mk (JI (B':=w.heap.size) (ownsRow_setCell_other (a:=⟨w.heap.size+1+1,0,none⟩) hset hnr u) (by omega))
  have hbox':=Lib.hid hbox
  have hB5:=(((hB4.setCell (p:=⟨g,i*4,none⟩) (by show w.heap.size<=g;omega) (.int .u8 J.kind)).setCell (p:=⟨g,i*4+1,none⟩) (by show w.heap.size<=g;omega) (.string (S J.key))).setCell (p:=⟨g,i*4+2,none⟩) (by show w.heap.size<=g;omega) (.string (S J.val))).setCell (p:=⟨g,i*4+3,none⟩) (by show w.heap.size<=g;omega) (.int .u64 J.delta)
  clear hset hown4 hbox y0 y1 y2 y3 t0 t1 t2 t3 zf hfz
  go_wp2_with fail
  exact bodyPost_ret (v:=.agg #[.slice (some ⟨g,0,none⟩) l.length c']) (by simp[results,Tryz.results67,go_sem,z5]) rfl ⟨⟨_,rfl,hbox'.out _⟩,hB5.setCell (p:=⟨w.heap.size+1+1,0,none⟩) (by show w.heap.size<=w.heap.size+1+1;omega) _⟩
theorem Jnu (v:Value) (l:List Upd) (kd:Nat) (key val:List UInt8) (dl:Nat) (w:World) (hv:JZ w v l) (hl:l.length<=100000) (hr:Je Upd.key l) (hf:Jlt l) (hk:kd<256) (hd:dl<18446744073709551616):
  Calls Tryz.prog 67 #[v,.agg #[.int .u8 kd,.string (S key),.string (S val),.int .u64 dl]] w fun e w'=>(∃v',e=.returned v'/\Jii w.heap.size w' v' (JQ l ⟨kd,key,val,dl⟩))/\Below w.heap.size w w':=by
 cases hh:JE Upd.key l key with
 |false=>
  have:=Jnw v l kd key val dl w hv hl hr hh
  rwa[show JQ l ⟨kd,key,val,dl⟩=JbB l (below Upd.key l key) ⟨kd,key,val,dl⟩ by unfold JQ;rw[dif_neg (by simp[hh])]]
 |true=>
  obtain⟨hlt,hkey⟩:=(hr.found key).1 hh
  have:=Jnv v l kd key val dl w hv hl hr _ rfl hlt hh hf _ rfl hk hd
  rwa[show JQ l ⟨kd,key,val,dl⟩=l.set (below Upd.key l key) (Zf (l[below Upd.key l key]'hlt) ⟨kd,key,val,dl⟩) by unfold JQ;rw[dif_pos ⟨hlt,hh⟩]]
theorem Jij (v:Value) (l:List Upd) (kd:Nat) (key val:List UInt8) (dl:Nat) (w:World) (hv:JZ w v l) (hl:l.length<=100000) (hr:Je Upd.key l) (hf:Jlt l) (hk:kd<256) (hd:dl<18446744073709551616):
  Calls Tryz.prog 67 #[v,.agg #[.int .u8 kd,.string (S key),.string (S val),.int .u64 dl]] w fun e w'=>(∃v',e=.returned v'/\JZ w' v' (JQ l ⟨kd,key,val,dl⟩))/\Below w.heap.size w w':=
 (Jnu v l kd key val dl w hv hl hr hf hk hd).mono fun _ _ ⟨⟨v',he,h⟩,hb⟩=>⟨⟨v',he,h.box⟩,hb⟩
open Go.RowKit
theorem Je5 (l:List Upd):Je Upd.key l↔(l.map Upd.key).Pairwise (fun a b=>bl a b=true):=by unfold Je;rw[List.pairwise_map]
theorem JdN (f t:Upd):(Zf f t).key=t.key:=by
 unfold Zf
 repeat' split
 all_goals rfl
theorem JkZ (f t:Upd) (hf:f.Wf/\f.val.length<=1000000) (ht:t.Wf/\t.val.length<=1000000):(Zf f t).Wf/\(Zf f t).val.length<=1000000:=by
 unfold Zf
 split
 ·exact ht
 ·split
  ·exact⟨⟨ht.1.1,Jfo _⟩,ht.2⟩
  ·refine⟨⟨by show(1:Nat)<256;decide,by show(0:Nat)<_;decide⟩,?_⟩
   exact Jal _ _ _ 1000000 (Jal _ _ _ 1000000 (by simp) hf.2 (by decide)) ht.2 (by decide)
theorem Jdk {l:List Upd} {i:Nat} {u x:Upd}:x∈JbB l i u↔x=u\/x∈l:=by
 unfold JbB
 rw[List.mem_append,List.mem_cons]
 have:x∈l↔x∈l.take i\/x∈l.drop i:=by
  rw[<-List.mem_append,List.take_append_drop]
 rw[this]
 constructor
 ·rintro(h|h|h)
  ·exact Or.inr (Or.inl h)
  ·exact Or.inl h
  ·exact Or.inr (Or.inr h)
 ·rintro(h|h|h)
  ·exact Or.inr (Or.inl h)
  ·exact Or.inl h
  ·exact Or.inr (Or.inr h)
theorem Jjm (l:List Upd) (i:Nat) (u:Upd):(JbB l i u).length=l.length+1:=by
 unfold JbB
 simp only[List.length_append,List.length_cons,List.length_take,List.length_drop]
 omega
theorem Jjl {l:List Upd} (hr:Je Upd.key l) (u:Upd) (hno:JE Upd.key l u.key=false):Je Upd.key (JbB l (below Upd.key l u.key) u):=by
 have hne:∀x∈l,x.key≠u.key:=fun x hx e=>by
  have:JE Upd.key l u.key=true:=X2.2 ⟨x,hx,e⟩
  rw[hno] at this;exact absurd this (by simp)
 unfold JbB
 have h1:∀a∈l.take (below Upd.key l u.key),bl a.key u.key=true:=by
  intro a ha
  obtain⟨i,hi,rfl⟩:=List.getElem_of_mem ha
  rw[List.length_take] at hi
  rw[List.getElem_take]
  exact(hr.below u.key i (by omega)).2 (by omega)
 have h2:∀b∈l.drop (below Upd.key l u.key),bl u.key b.key=true:=by
  intro b hb
  obtain⟨i,hi,rfl⟩:=List.getElem_of_mem hb
  rw[List.length_drop] at hi
  rw[List.getElem_drop]
  have hb':¬bl (l[below Upd.key l u.key+i]'(by omega)).key u.key=true:=by
   rw[hr.below u.key _ (by omega)];omega
  rcases JcO (Bool.not_eq_true _▸hb':bl (l[below Upd.key l u.key+i]'(by omega)).key u.key=false) with e|e
  ·exact absurd e.symm (hne _ (List.getElem_mem _))
  ·exact e
 have h3:Je Upd.key (l.take (below Upd.key l u.key)++l.drop (below Upd.key l u.key)):=by rw[List.take_append_drop];exact hr
 have h4:=List.pairwise_append.1 h3
 refine List.pairwise_append.2 ⟨h4.1,List.pairwise_cons.2 ⟨h2,h4.2.1⟩,fun a ha b hb=> ?_⟩
 rcases List.mem_cons.1 hb with rfl|hb
 ·exact h1 a ha
 ·exact h4.2.2 a ha b hb
theorem Xi {l:List Upd} {u:Upd} (h:JE Upd.key l u.key=false):JQ l u=JbB l (below Upd.key l u.key) u:=by
 unfold JQ
 rw[dif_neg (by simp[h])]
theorem ZS {l:List Upd} {u:Upd} (hr:Je Upd.key l) (h:JE Upd.key l u.key=true):∃(i:Nat) (hi:i<l.length),l[i].key=u.key/\JQ l u=l.set i (Zf l[i] u):=by
 obtain⟨hlt,hk⟩:=(hr.found u.key).1 h
 refine⟨_,hlt,hk,?_⟩
 unfold JQ
 rw[dif_pos ⟨hlt,h⟩]
theorem Zj {l:List Upd} (hr:Je Upd.key l) (u:Upd):Je Upd.key (JQ l u):=by
 cases h:JE Upd.key l u.key with
 |false=>rw[Xi h];exact Jjl hr u h
 |true=>
  obtain⟨i,hi,hk,e⟩:=ZS hr h
  rw[e,Je5,List.map_set,JdN,<-hk]
  have:(l.map Upd.key).set i l[i].key=l.map Upd.key:=by
   apply List.ext_getElem (by simp)
   intro j h1 h2
   rw[List.getElem_set]
   split
   ·rename_i e;subst e;simp
   ·rfl
  rw[this,<-Je5]
  exact hr
theorem Jdw {l:List Upd} (hr:Je Upd.key l) (u:Upd):(JQ l u).length<=l.length+1:=by
 cases h:JE Upd.key l u.key with
 |false=>rw[Xi h,Jjm];exact Nat.le_refl _
 |true=>
  obtain⟨i,hi,hk,e⟩:=ZS hr h
  rw[e,List.length_set];omega
theorem Jj9 {l:List Upd} (hr:Je Upd.key l) (hf:Jlt l) (u:Upd) (hu:u.Wf/\u.val.length<=1000000):Jlt (JQ l u):=by
 cases h:JE Upd.key l u.key with
 |false=>
  rw[Xi h]
  intro x hx
  rcases Jdk.1 hx with rfl|hx
  ·exact hu
  ·exact hf x hx
 |true=>
  obtain⟨i,hi,hk,e⟩:=ZS hr h
  rw[e]
  intro x hx
  rcases List.mem_or_eq_of_mem_set hx with hx|rfl
  ·exact hf x hx
  ·exact JkZ _ _ (hf _ (List.getElem_mem hi)) hu
open Go.RowKit
structure Tm (u:Upd):Prop where
 wf:u.Wf
 kind:u.kind=1\/u.kind=2\/u.kind=3
 val:u.kind=1\/u.val=[]
 delta:u.kind=3\/u.delta=0
 klen:u.key.length<=3
 kpos:1<=u.key.length
 vlen:u.val.length<=20
theorem Tm.check {u:Upd} (h:Tm u):u.check=0:=by
 have h1:=h.kind
 have h2:=h.val
 have h3:=h.delta
 have h4:=h.klen
 have h5:=h.kpos
 have h6:=h.vlen
 unfold Upd.check
 rw[if_neg (by omega),if_neg]
 rintro(h|h|⟨h,h'⟩|⟨h,h'⟩)
 ·omega
 ·omega
 ·rcases h2 with h2|h2
  ·exact h h2
  ·exact h' h2
 ·rcases h3 with h3|h3
  ·exact h h3
  ·exact h' h3
theorem JgW {f t:Upd} (ht:t.kind=3) (hf:f.kind=1) (h8:¬f.val.length=8):Zf f t=⟨1,t.key,f.val,0⟩:=by
 rw[Jb3 f t ht (by omega),Xw [] false f hf]
 simp only[JaX f.val t ht h8]
theorem JgX {f t:Upd} (ht:t.kind=3) (hf:f.kind=1) (h8:f.val.length=8):Zf f t=⟨1,t.key,le ((Y0 f.val+t.delta)% 18446744073709551616) 8,0⟩:=by
 rw[Jb3 f t ht (by omega),Xw [] false f hf]
 simp only[XB f.val t ht h8]
theorem JgV {f t:Upd} (ht:t.kind=3) (hf:f.kind=2):Zf f t=⟨1,t.key,le (t.delta% 18446744073709551616) 8,0⟩:=by
 rw[Jb3 f t ht (by omega),JbV [] false f hf]
 simp only[JaC [] t ht]
theorem Jfw {f t:Upd} (hf:Tm f) (ht:Tm t):Tm (Zf f t):=by
 by_cases h3:t.kind=3
 ·have hw:(0:Nat)<18446744073709551616:=by decide
  rcases hf.kind with h|h|h
  ·by_cases h8:f.val.length=8
   ·rw[JgX h3 h h8]
    exact⟨⟨by show(1:Nat)<256;decide,hw⟩,Or.inl rfl,Or.inl rfl,Or.inr rfl,ht.klen,ht.kpos,by show(le _ 8).length<=20;rw[YV];decide⟩
   ·rw[JgW h3 h h8]
    exact⟨⟨by show(1:Nat)<256;decide,hw⟩,Or.inl rfl,Or.inl rfl,Or.inr rfl,ht.klen,ht.kpos,hf.vlen⟩
  ·rw[JgV h3 h]
   exact⟨⟨by show(1:Nat)<256;decide,hw⟩,Or.inl rfl,Or.inl rfl,Or.inr rfl,ht.klen,ht.kpos,by show(le _ 8).length<=20;rw[YV];decide⟩
  ·rw[JdO f t h3 h]
   have hv:t.val=[]:=ht.val.resolve_left (by omega)
   exact⟨⟨by show(3:Nat)<256;decide,Nat.mod_lt _ (by decide)⟩,Or.inr (Or.inr rfl),Or.inr hv,Or.inl rfl,ht.klen,ht.kpos,ht.vlen⟩
 ·rw[Jb4 f t h3];exact ht
theorem Jkg {l:List Upd} (hr:Je Upd.key l) (k:List UInt8):∀x∈l.take (below Upd.key l k),bl x.key k=true:=by
 intro x hx
 obtain⟨i,hi,rfl⟩:=List.mem_take_iff_getElem.1 hx
 exact(hr.below k i (by omega)).2 (by omega)
def Jn (k low high:List UInt8):Bool:= !(bl k low)&&(high.isEmpty||bl k high)
theorem Y4 {l:List Upd} (hr:Je Upd.key l) (low high:List UInt8):
  JH l low high=l.filter (fun u=>Jn u.key low high)/\Ya l low high=l.filter (fun u=> !Jn u.key low high):=by
 have hce:=JdU l low high
 generalize hi:below Upd.key l low=i at*
 generalize hk:Yz l low high=k at*
 have hmid:∀x∈(l.drop i).take (k-i),Jn x.key low high=true:=by
  intro x hx
  obtain⟨j,hj,rfl⟩:=List.mem_take_iff_getElem.1 hx
  rw[List.length_drop] at hj
  rw[List.getElem_drop]
  unfold Jn
  have h1:bl (l[i+j]'(by omega)).key low=false:=by
   cases h:bl (l[i+j]'(by omega)).key low with
   |false=>rfl
   |true=>have:=(hr.below low _ (by omega)).1 h;omega
  rw[h1]
  cases hh:high with
  |nil=>rfl
  |cons a t=>
   have h2:bl (l[i+j]'(by omega)).key high=true:=by
    refine(hr.below high _ (by omega)).2 ?_
    have:k=max i (below Upd.key l high):=by rw[<-hk,Yz,hi,if_neg (by rw[hh];simp)]
    omega
   rw[hh] at h2
   simp[h2]
 have hlow:∀x∈l.take i,Jn x.key low high=false:=by
  intro x hx
  have:=Jkg hr low x (by rw[hi];exact hx)
  unfold Jn
  rw[this];rfl
 have hup:∀x∈l.drop k,Jn x.key low high=false:=by
  intro x hx
  obtain⟨j,hj,rfl⟩:=List.mem_iff_getElem.1 hx
  rw[List.length_drop] at hj
  rw[List.getElem_drop]
  unfold Jn
  by_cases hh:high=[]
  ·have:k=max i l.length:=by rw[<-hk,Yz,hi,if_pos hh]
   omega
  ·have hke:k=max i (below Upd.key l high):=by rw[<-hk,Yz,hi,if_neg hh]
   have h2:bl (l[k+j]'(by omega)).key high=false:=by
    cases h:bl (l[k+j]'(by omega)).key high with
    |false=>rfl
    |true=>have:=(hr.below high _ (by omega)).1 h;omega
   have h3:high.isEmpty=false:=by cases high<;>simp at hh⊢
   rw[h2,h3];simp
 have hl:l=l.take i++((l.drop i).take (k-i)++l.drop k):=by
  have e1:l.drop k=(l.drop i).drop (k-i):=by rw[List.drop_drop];congr 1;omega
  rw[e1,List.take_append_drop,List.take_append_drop]
 have f1:∀(p:Upd->Bool) (s:List Upd),(∀x∈s,p x=true)->s.filter p=s:=fun p s h=>List.filter_eq_self.2 h
 have f0:∀(p:Upd->Bool) (s:List Upd),(∀x∈s,p x=false)->s.filter p=[]:=fun p s h=>List.filter_eq_nil_iff.2 (fun x hx=>by rw[h x hx];simp)
 constructor
 ·unfold JH
  rw[hi,hk]
  conv=>rhs;rw[hl]
  rw[List.filter_append,List.filter_append,f0 _ _ hlow,f1 _ _ hmid,f0 _ _ hup];simp
 ·unfold Ya
  rw[hi,hk]
  conv=>rhs;rw[hl]
  rw[List.filter_append,List.filter_append,f1 _ _ (fun x hx=>by rw[hlow x hx];rfl),f0 _ _ (fun x hx=>by rw[hmid x hx];rfl),f1 _ _ (fun x hx=>by rw[hup x hx];rfl)];simp
open Go.RowKit
structure UAt (w:World) (g:Nat) (x:Upd):Prop where
 c0:w.cell? ⟨g,0,none⟩=some (.int .u8 x.kind)
 c1:w.cell? ⟨g,1,none⟩=some (.string (S x.key))
 c2:w.cell? ⟨g,2,none⟩=some (.string (S x.val))
 c3:w.cell? ⟨g,3,none⟩=some (.int .u64 x.delta)
 free:∀i,w.frozen? ⟨g,i,none⟩=false
 lt:g<w.heap.size
theorem UAt.new (w:World) (t:TypeId):UAt (w.alloc (.cells #[.int .u8 0,.string ByteArray.empty,.string ByteArray.empty,.int .u64 0] t)) w.heap.size ⟨0,[],[],0⟩:=
 ⟨by simp,by simp;rfl,by simp;rfl,by simp,fun i=>by simp,by simp⟩
theorem UAt.on {w w':World} {g B:Nat} {x:Upd} (h:UAt w g x) (hb:Below B w w') (hB:g<B):UAt w' g x:=
 ⟨(hb.cell (p:=⟨g,0,none⟩) hB).trans h.c0,(hb.cell (p:=⟨g,1,none⟩) hB).trans h.c1,(hb.cell (p:=⟨g,2,none⟩) hB).trans h.c2,(hb.cell (p:=⟨g,3,none⟩) hB).trans h.c3,fun i=>(hb.frozen (p:=⟨g,i,none⟩) hB).trans (h.free i),Nat.lt_of_lt_of_le h.lt hb.size⟩
theorem UAt.far {w:World} {g:Nat} {x:Upd} (h:UAt w g x) {p:Addr} (hp:p.block≠g) (v:Value):UAt (w.setCell p v) g x:=
 ⟨(World.cell?_setCell_far w p _ v hp).trans h.c0,(World.cell?_setCell_far w p _ v hp).trans h.c1,(World.cell?_setCell_far w p _ v hp).trans h.c2,(World.cell?_setCell_far w p _ v hp).trans h.c3,fun i=>by rw[World.frozen?_setCell];exact h.free i,by rw[World.size_setCell];exact h.lt⟩
theorem JaZ {g i j:Nat} (h:i≠j):(⟨g,i,none⟩:Addr)≠⟨g,j,none⟩:=fun e=>h (by injection e)
theorem UAt.setKey {w:World} {g:Nat} {x:Upd} (h:UAt w g x) (k:List UInt8):UAt (w.setCell ⟨g,1,none⟩ (.string (S k))) g ⟨x.kind,k,x.val,x.delta⟩:=
 ⟨(World.cell?_setCell_other w _ _ _ (JaZ (by decide))).trans h.c0,World.cell?_setCell_same w _ _ h.c1,(World.cell?_setCell_other w _ _ _ (JaZ (by decide))).trans h.c2,(World.cell?_setCell_other w _ _ _ (JaZ (by decide))).trans h.c3,fun i=>by rw[World.frozen?_setCell];exact h.free i,by rw[World.size_setCell];exact h.lt⟩
theorem UAt.setVal {w:World} {g:Nat} {x:Upd} (h:UAt w g x) (k:List UInt8):UAt (w.setCell ⟨g,2,none⟩ (.string (S k))) g ⟨x.kind,x.key,k,x.delta⟩:=
 ⟨(World.cell?_setCell_other w _ _ _ (JaZ (by decide))).trans h.c0,(World.cell?_setCell_other w _ _ _ (JaZ (by decide))).trans h.c1,World.cell?_setCell_same w _ _ h.c2,(World.cell?_setCell_other w _ _ _ (JaZ (by decide))).trans h.c3,fun i=>by rw[World.frozen?_setCell];exact h.free i,by rw[World.size_setCell];exact h.lt⟩
theorem UAt.setDelta {w:World} {g:Nat} {x:Upd} (h:UAt w g x) (d:Nat):UAt (w.setCell ⟨g,3,none⟩ (.int .u64 d)) g ⟨x.kind,x.key,x.val,d⟩:=
 ⟨(World.cell?_setCell_other w _ _ _ (JaZ (by decide))).trans h.c0,(World.cell?_setCell_other w _ _ _ (JaZ (by decide))).trans h.c1,(World.cell?_setCell_other w _ _ _ (JaZ (by decide))).trans h.c2,World.cell?_setCell_same w _ _ h.c3,fun i=>by rw[World.frozen?_setCell];exact h.free i,by rw[World.size_setCell];exact h.lt⟩
open Go.RowKit
attribute [local go_sem ↓] Go.wp_at_zero Go.wp_at_succ
theorem Jb8 (u:Upd) (h:u.kind=1):u.bytes=[UInt8.ofNat u.kind]++Yo u.key++Yo u.val:=by
 unfold Upd.bytes Yo;rw[if_pos h,if_neg (by omega)];simp
theorem Jb9 (u:Upd) (h:u.kind=2):u.bytes=[UInt8.ofNat u.kind]++Yo u.key:=by
 unfold Upd.bytes Yo;rw[if_neg (by omega),if_neg (by omega)];simp
theorem Jca (u:Upd) (h:u.kind=3):u.bytes=[UInt8.ofNat u.kind]++Yo u.key++le u.delta 8:=by
 unfold Upd.bytes Yo;rw[if_neg (by omega),if_pos h];simp
theorem Jk0 (w:World) (b:Nat) (hb:w.heap.size=b) (c:Array Value) (e:TypeId) (ps:List (Nat×Nat)) (hc:c.toList=ps.map fun p=>.int .i64 p.1):JbO (w.alloc (.cells c e (0,0))) (some ⟨b,0,none⟩) ps:=by
 subst hb
 exact ZW w c e (0,0) ps hc
theorem JkP (w:World) (b:Nat) (hb:w.heap.size=b) (c:Array Value) (e:TypeId) (ps:List (Nat×Nat)) (hc:c.toList=ps.map fun p=>.int .u64 p.2):Jet (w.alloc (.cells c e (0,0))) (some ⟨b,0,none⟩) ps:=by
 subst hb
 exact JbW w c e (0,0) ps hc
def YI (l:List Upd):List UInt8:=l.flatMap Upd.bytes
theorem Jkd {l:List Upd} {i:Nat} (hi:i<l.length):YI (l.take (i+1))=YI (l.take i)++(l[i]).bytes:=by
 rw[List.take_succ_eq_append_getElem hi];simp only[YI,List.flatMap_append,List.flatMap_cons,List.flatMap_nil,List.append_nil]
end Go.Proofs.YtafciefjlkdecaaGreat
namespace Go.Proofs.YtafciefjlkdecaaGreat
open Go.RowKit
theorem Y3 (s:List UInt8):(Jr s).2.1.length<=s.length/\((Jr s).2.2=true->(Jr s).2.1.length<s.length):=by
 cases s with
 |nil=>simp[Jr]
 |cons b r=>
  by_cases h:r.length<b.toNat
  ·simp[Jr,h]
  ·simp[Jr,h];omega
open Go.RowKit
def ZV (b:UInt8) (key more:List UInt8):Option (Upd×List UInt8):=
 if b.toNat=1 then(if(Jr more).2.2 then some (⟨1,key,(Jr more).1,0⟩,(Jr more).2.1) else none)
 else if b.toNat=3 then(if more.length<8 then none else some (⟨3,key,[],Y0 (more.take 8)⟩,more.drop 8))
 else some (⟨b.toNat,key,[],0⟩,more)
def YX (s:List UInt8):Option (Upd×List UInt8):=
 match s with
 |[]=>none
 |b::r=>if(Jr r).2.2 then(match ZV b (Jr r).1 (Jr r).2.1 with
  |none=>none
  |some (u,m)=>if u.check=0 then some (u,m) else none) else none
theorem Jmw {b:UInt8} {key more m:List UInt8} {u:Upd} (h:ZV b key more=some (u,m)):m.length<=more.length:=by
 unfold ZV at h
 have h1:=(Y3 more).1
 split at h
 ·split at h
  ·simp only[Option.some.injEq,Prod.mk.injEq] at h;rw[<-h.2];exact h1
  ·simp at h
 ·split at h
  ·split at h
   ·simp at h
   ·simp only[Option.some.injEq,Prod.mk.injEq] at h;rw[<-h.2,List.length_drop];omega
  ·simp only[Option.some.injEq,Prod.mk.injEq] at h;rw[<-h.2];exact Nat.le_refl _
theorem JbR {s m:List UInt8} {u:Upd} (h:YX s=some (u,m)):m.length+1<=s.length:=by
 unfold YX at h
 split at h
 ·simp at h
 ·rename_i b r
  split at h
  ·split at h
   ·simp at h
   ·rename_i u' m' hr
    split at h
    ·simp only[Option.some.injEq,Prod.mk.injEq] at h
     have h1:=Jmw hr
     have h2:=(Y3 r).1
     rw[h.2] at h1
     rw[List.length_cons];omega
    ·simp at h
  ·simp at h
theorem JdJ (l:List UInt8) (hl:8<=l.length):Y0 (l.take 8)<18446744073709551616:=by
 have:=JbX (l.take 8)
 rw[List.length_take,Nat.min_eq_left hl] at this
 exact this
theorem JnT {b:UInt8} {key more m:List UInt8} {u:Upd} (h:ZV b key more=some (u,m)):u.Wf:=by
 have hb:=b.toNat_lt
 unfold ZV at h
 split at h
 ·split at h
  ·simp only[Option.some.injEq,Prod.mk.injEq] at h;rw[<-h.1];exact⟨by show(1:Nat)<256;decide,by show(0:Nat)<_;decide⟩
  ·simp at h
 ·split at h
  ·split at h
   ·simp at h
   ·simp only[Option.some.injEq,Prod.mk.injEq] at h;rw[<-h.1];exact⟨by show(3:Nat)<256;decide,JdJ more (by omega)⟩
  ·simp only[Option.some.injEq,Prod.mk.injEq] at h;rw[<-h.1];exact⟨hb,by show(0:Nat)<_;decide⟩
theorem Jir {s m:List UInt8} {u:Upd} (h:YX s=some (u,m)):u.Wf/\u.check=0:=by
 unfold YX at h
 split at h
 ·simp at h
 ·split at h
  ·split at h
   ·simp at h
   ·rename_i u' m' hr
    split at h
    ·rename_i hc
     simp only[Option.some.injEq,Prod.mk.injEq] at h
     rw[<-h.1]
     exact⟨JnT hr,hc⟩
    ·simp at h
  ·simp at h
def Xz:Nat->List UInt8->Option (List Upd)
 |0,_=>some []
 |n+1,s=>if s=[] then some [] else match YX s with
  |none=>none
  |some (e,r)=>(Xz n r).map fun l=>e::l
theorem Je9:∀(n m:Nat) (s:List UInt8),s.length<=n->s.length<=m->Xz n s=Xz m s
 |0,0,_,_,_=>rfl
 |0,m+1,s,h,_=>by
  have:s=[]:=List.eq_nil_of_length_eq_zero (by omega)
  simp[Xz,this]
 |n+1,0,s,_,h=>by
  have:s=[]:=List.eq_nil_of_length_eq_zero (by omega)
  simp[Xz,this]
 |n+1,m+1,s,h,k=>by
  unfold Xz
  by_cases h0:s=[]
  ·simp[h0]
  ·rw[if_neg h0,if_neg h0]
   cases hs:YX s with
   |none=>rfl
   |some p=>
    obtain⟨e,r⟩:=p
    have:=JbR hs
    simp only
    rw[Je9 n m r (by omega) (by omega)]
def Z7 (s:List UInt8):Option (List Upd):=Xz s.length s
theorem JnV:Z7 []=some []:=rfl
theorem JmD {s:List UInt8} (h0:s≠[]) (h:YX s=none):Z7 s=none:=by
 unfold Z7
 cases hl:s.length with
 |zero=>exact absurd (List.eq_nil_of_length_eq_zero hl) h0
 |succ n=>simp[Xz,h0,h]
theorem JgE {s r:List UInt8} {e:Upd} (h0:s≠[]) (h:YX s=some (e,r)):Z7 s=(Z7 r).map fun l=>e::l:=by
 have hlt:=JbR h
 unfold Z7
 cases hl:s.length with
 |zero=>exact absurd (List.eq_nil_of_length_eq_zero hl) h0
 |succ n=>
  conv=>lhs;unfold Xz
  rw[if_neg h0,h]
  simp only
  rw[Je9 n r.length r (by omega) (Nat.le_refl _)]
theorem JmE {s0 s r:List UInt8} {acc:List Upd} {e:Upd} (h:Z7 s0=(Z7 s).map fun l=>acc++l) (h0:s≠[]) (k:YX s=some (e,r)):Z7 s0=(Z7 r).map fun l=>(acc++[e])++l:=by
 rw[h,JgE h0 k]
 cases Z7 r<;>simp
theorem JmC {s0 s:List UInt8} {acc:List Upd} (h:Z7 s0=(Z7 s).map fun l=>acc++l) (h0:s≠[]) (k:YX s=none):Z7 s0=none:=by
 rw[h,JmD h0 k];rfl
theorem JnW {s0:List UInt8} {acc:List Upd} (h:Z7 s0=(Z7 []).map fun l=>acc++l):Z7 s0=some acc:=by
 rw[h,JnV];simp
theorem JgF:∀(n:Nat) (s:List UInt8) (l:List Upd),Xz n s=some l->l.length<=n/\∀u∈l,u.Wf/\u.check=0
 |0,_,l,h=>by simp only[Xz,Option.some.injEq] at h;rw[<-h];exact⟨Nat.le_refl _,fun u hu=>by simp at hu⟩
 |n+1,s,l,h=>by
  unfold Xz at h
  split at h
  ·simp only[Option.some.injEq] at h;rw[<-h];exact⟨Nat.zero_le _,fun u hu=>by simp at hu⟩
  ·split at h
   ·simp at h
   ·rename_i e r hs
    cases hr:Xz n r with
    |none=>rw[hr] at h;simp at h
    |some t=>
     rw[hr] at h
     simp only[Option.map_some,Option.some.injEq] at h
     obtain⟨h1,h2⟩:=JgF n r t hr
     rw[<-h]
     refine⟨by rw[List.length_cons];omega,fun u hu=> ?_⟩
     rcases List.mem_cons.1 hu with rfl|hu
     ·exact Jir hs
     ·exact h2 u hu
def Jah (l:List Upd):Bool:=decide (l.Pairwise fun a b=>bl a.key b.key=true)
theorem ZU (l:List Upd):Jah l=true↔Je Upd.key l:=by
 unfold Jah Je
 rw[decide_eq_true_iff]
def XH (s:List UInt8):List Upd×Nat:=
 match Z7 s with
 |none=>([],4)
 |some l=>(l,0)
def Zc (s:List UInt8):List Upd×Nat:=
 match Z7 s with
 |none=>([],4)
 |some l=>if Jah l then(l,0) else([],4)
theorem JiL (s:List UInt8):(XH s).1.length<=s.length/\∀u∈(XH s).1,u.Wf/\u.check=0:=by
 unfold XH
 split
 ·exact⟨Nat.zero_le _,fun u hu=>by simp at hu⟩
 ·rename_i l h
  exact JgF _ _ _ h
theorem JbU (s:List UInt8):Zc s=if(XH s).2=0 then(if Jah (XH s).1 then((XH s).1,0) else([],4)) else([],(XH s).2):=by
 unfold Zc XH
 cases Z7 s<;>simp
theorem JnU (s:List UInt8):(XH s).2=0\/(XH s).2=4/\(XH s).1=[]:=by
 unfold XH
 cases Z7 s<;>simp
theorem Jgd (s:List UInt8):Je Upd.key (Zc s).1:=by
 unfold Zc
 split
 ·exact List.Pairwise.nil
 ·split
  ·rename_i h;exact(ZU _).1 h
  ·exact List.Pairwise.nil
theorem Jfj (s:List UInt8):(Zc s).1.length<=s.length/\∀u∈(Zc s).1,u.Wf/\u.check=0:=by
 have h:=JiL s
 rw[JbU]
 split
 ·split
  ·exact h
  ·exact⟨Nat.zero_le _,fun u hu=>by simp at hu⟩
 ·exact⟨Nat.zero_le _,fun u hu=>by simp at hu⟩
end Go.Proofs.YtafciefjlkdecaaGreat
