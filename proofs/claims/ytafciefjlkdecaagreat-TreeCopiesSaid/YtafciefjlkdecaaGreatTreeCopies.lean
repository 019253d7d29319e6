/-
  The statement TreeCopies, proved: the Go text returns true whatever the input, and what came in reads as it did. No condition.
-/
import Derived.Test.YtafciefjlkdecaaGreatRows
import Derived.Test.YtafciefjlkdecaaGreatQch
namespace Go.Proofs.YtafciefjlkdecaaGreat.lawTreeCopies
open Go.ChangeShapes Go.WideShapes Go.ChangeAt Go.RowKit
open Go.ChangeMaps (open_string shut_string)
set_option linter.unusedVariables false
theorem own:ownKnob Tryz.prog.godebug=none:=by kernel_rfl
theorem JlC:laidOutB Tryz.prog=true:=by kernel_rfl
set_option maxRecDepth 100000 in
set_option maxHeartbeats 4000000 in
theorem Jqs (os:Os) (started:os.Started) (H:Type) (enc:TypeId×Value->H):
    ReturnsInHanded {} Tryz.checked os 7 .any (Rows.treeCopiesSpec.pre6 enc Tryz.prog Tryz.f7 Rows.treeCopiesRow.domain false) (Rows.treeCopiesSpec.post enc Tryz.prog Tryz.f7 false true false false):=by
  refine returnsInHanded_of_change_sized (C:=Tryz.checked) own started (by kernel_rfl) Tryz.func7
    (ChangeSpec.witness6 (enc:=enc) (C:=Tryz.checked) false ⟨#[],#[.slice none 0 0,.slice none 0 0],[]⟩ 8 (by kernel_rfl) (by kernel_rfl) (by kernel_rfl) (by kernel_rfl)) ?_
  intro W base args ds gs before hval0 hW hcnd hsz0 _
  have hval:∀(j:Nat) t v,Tryz.f7.params[j]? =some t->args[j]? =some v->Value.okWide Tryz.prog W .any base t v:=hval0
  have hsz:(DataW.weightsEach Tryz.prog (Tryz.f7.params.toList++Rows.treeCopiesSpec.plain.varTypes Tryz.prog) (ds++gs)).all (·<=reachBytes)=true:=hsz0
  have hW':=hW
  obtain⟨p,q,hA0,hV,rfl,hfz,hnd⟩:=hW
  have hA:DataW.TrodAll enc Tryz.prog W 0 (fun _=>true) true Tryz.f7.params.toList args.toList ds p:=hA0
  rw[Tryz.params7] at hA hval hsz
  obtain⟨v0,vs0,d0,ds0,p0,q0,hargs,rfl,rfl,h0,r0⟩:=trodAll_cons hA
  obtain⟨v1,vs1,d1,ds1,p1,q1,rfl,rfl,rfl,h1,r1⟩:=trodAll_cons r0
  obtain⟨rfl,rfl,rfl⟩:=trodAll_nil r1
  obtain rfl:args= #[v0,v1]:=by cases args;simp_all
  obtain⟨rfl,rfl⟩:=trodVars_none hV
  have k0:=h0
  have lt0:∀x∈p0,x.block<W.heap.size:=by obtain⟨m,hm⟩:=k0;exact DataW.trod_lt m _ _ _ hm
  obtain⟨a0,b0⟩:=JgE Tryz.underlying47 Tryz.underlying51 (by kernel_rfl) (by kernel_rfl) (by kernel_rfl) (by kernel_rfl) (by kernel_rfl) (by kernel_rfl) (hval 0 47 v0 rfl rfl) h0 (fun n hn=>by simpa using List.all_eq_true.1 hsz n (DataW.weights_mem_each (j:=0) (t:=47) rfl rfl n hn))
  have k1:=h1
  have lt1:∀x∈p1,x.block<W.heap.size:=by obtain⟨m,hm⟩:=k1;exact DataW.trod_lt m _ _ _ hm
  obtain⟨a1,b1⟩:=JgE Tryz.underlying47 Tryz.underlying51 (by kernel_rfl) (by kernel_rfl) (by kernel_rfl) (by kernel_rfl) (by kernel_rfl) (by kernel_rfl) (hval 1 47 v1 rfl rfl) h1 (fun n hn=>by simpa using List.all_eq_true.1 hsz n (DataW.weights_mem_each (j:=1) (t:=47) rfl rfl n hn))
  clear hA0 hval0
  refine(Jek v0 v1 a0 a1 W b0 b1).mono fun e W' ⟨he,bel⟩=> ?_
  subst he
  exact⟨_,rfl,_,_,_,[],_,[],hW',trodAll_mk1 (shut_bool Tryz.underlying4 _),(trodAll_cons_mk (Below.trod JlC (by kernel_rfl) (of_decide_eq_true (by kernel_rfl)) k0 bel lt0) (trodAll_cons_mk (Below.trod JlC (by kernel_rfl) (of_decide_eq_true (by kernel_rfl)) k1 bel lt1) trodAll_mk0)),rfl,bel.frame _,fun h=>by cases h⟩
theorem over:Rows.treeCopiesRow.holds Tryz.pinned (OpenSpec.ofChange Rows.treeCopiesSpec):=
  OpenClaim.holds_of_wide 7 Tryz.f7 rfl rfl rfl rfl rfl rfl rfl ⟨rfl,rfl,rfl,rfl,rfl⟩ rfl rfl rfl rfl rfl (by kernel_rfl) Tryz.func7 (by kernel_rfl)
    (of_decide_eq_true (by kernel_rfl)) (by unfold Func.isWrapper;first|(rw[if_pos (by decide+kernel)];kernel_rfl)|(rw[if_neg (by decide+kernel)];exact⟨rfl,rfl⟩))
    (fun os started H enc _=>Jqs os started H enc)
/-- The statement. -/
theorem proved:Rows.TreeCopiesSaid:=over
#print axioms proved
end Go.Proofs.YtafciefjlkdecaaGreat.lawTreeCopies
