import Derived.Test.YtlnphjjhfgghkaaGreatDoorCards
import Derived.Test.YtlnphjjhfgghkaaGreatDoorSDh
import Derived.Test.YtlnphjjhfgghkaaGreatDoorSDi
set_option linter.unusedSimpArgs false
set_option linter.unusedVariables false
/-
  ScopeFront, for every input whose bulk is at most 1048576: the law's function returns true, and its arguments read as they did; and its card.
-/
namespace Go.Proofs.YtlnphjjhfgghkaaGreatDoor
open Go Go.Lg Go.RowKit Go.ChangeShapes Go.WideShapes Go.ChangeAt
set_option maxRecDepth 100000 in
theorem scopeFront_lifted (os:Os) (started:os.Started) (H:Type) (enc:TypeId × Value→H) :
    ReturnsInHanded {} Tryz.checked os 6 .any (fun w args=>((Rows.OpenSpec.upto Rows.scopeFrontSpec).pre enc Tryz.prog Tryz.f6 [] false w args∧laidMetH Tryz.prog Rows.scopeFrontUptoRow.laid w)∧sizedMet enc Tryz.prog Tryz.f6 (Rows.OpenSpec.upto Rows.scopeFrontSpec) false w args)
      (Rows.scopeFrontSpec.post enc Tryz.prog Tryz.f6 false true false false):=by
  refine lifted_cond (s:=(Rows.OpenSpec.upto Rows.scopeFrontSpec)) (s0:=Rows.scopeFrontSpec) (k:=Rows.uptoSmall) rfl (C:=Tryz.checked) (X:=fun w _=>laidMetH Tryz.prog Rows.scopeFrontUptoRow.laid w) (fun _ _ _ hh h=>h.of_heap hh) own started (by kernel_rfl) Tryz.func6
    (witness_cond (s:=(Rows.OpenSpec.upto Rows.scopeFrontSpec)) (k:=Rows.uptoSmall) rfl (enc:=enc) (C:=Tryz.checked) (os:=os) (X:=fun w _=>laidMetH Tryz.prog Rows.scopeFrontUptoRow.laid w) false (laidWorld os) #[.agg #[.slice none 0 0,.slice none 0 0],.int .i64 0] 8 rfl (by kernel_rfl) (by kernel_rfl) (by kernel_rfl) (by kernel_rfl) (by kernel_rfl) (laidWorld_met os _)) ?_
  intro W base args ds gs before hval0 hW hkk hL hsh
  have hval:∀ (j:Nat) t v,Tryz.f6.params[j]? = some t→args[j]? = some v→Value.okWide Tryz.prog W .any base t v:=hval0
  have hW':=hW
  obtain ⟨p,q,hA0,hV,rfl,hfz,hnd⟩:=hW
  have hA:DataW.TrodAll enc Tryz.prog W 0 (fun _=>true) true Tryz.f6.params.toList args.toList ds p:=hA0
  rw [Tryz.params6] at hA hval
  obtain ⟨v0,vs0,d0,ds0,p0,q0,hargs0,rfl,rfl,h0,r0⟩:=trodAll_cons hA
  obtain ⟨v1,vs1,d1,ds1,p1,q1,hargs1,rfl,rfl,h1,r1⟩:=trodAll_cons r0
  obtain ⟨rfl,rfl,rfl⟩:=trodAll_nil r1
  obtain rfl:args = #[v0,v1]:=by cases args;simp_all
  obtain ⟨rfl,rfl⟩:=trodVars_none hV
  have k0:=h0
  have lt0:∀ x∈p0,x.block<W.heap.size:=by obtain ⟨m,hm⟩:=k0;exact DataW.trod_lt m _ _ _ hm
  obtain ⟨x0,hx0,hrep0⟩:=arg_aggU Tryz.underlying26 (of_decide_eq_true (by kernel_rfl)) tyCR (hval 0 26 v0 rfl rfl) h0
  have hs0:x0.ok:=CR.ok_of x0 hx0.1 (Nat.le_trans hx0.2 (bulk_of hkk 0 rfl))
  have k1:=h1
  obtain ⟨x1,rfl,rfl,rfl,hx1⟩:=open_int Tryz.underlying3 (hval 1 3 v1 rfl rfl) h1
  clear hA0 hval0
  have hcall:=(scopeFront_ret x0 hs0 x1 (wf_in hx1)).2 (· < W.heap.size) W #[v0,.int .i64 x1] ⟨fun _ h=>h,gok hL hsh⟩ rfl (fun j u c hu hc=>by
    match j,hu,hc with
    | 0,hu,hc=>simp at hu hc;subst hu hc;exact hrep0
    | 1,hu,hc=>simp at hu hc;subst hu hc;exact .int _ _
    | j+2,hu,_=>simp at hu)
  refine hcall.mono ?_
  rintro e W' ⟨u,imm',rfl,hu,bel,_,_⟩
  cases hu
  exact ⟨_,rfl,_,_,_,[],_,[],hW',trodAll_mk1 (shut_bool Tryz.underlying4 _),(trodAll_cons_mk (Below.trod laidOut (by kernel_rfl) (of_decide_eq_true (by kernel_rfl)) k0 bel.toBelow lt0) (trodAll_cons_mk (shut_int Tryz.underlying3 hx1) trodAll_mk0)),rfl,bel.frame _,fun h=>by cases h⟩
theorem scopeFront_said:Rows.ScopeFrontUptoSaid :=
  OpenClaim.holds_of_cond 6 Tryz.f6 rfl rfl rfl rfl rfl rfl rfl ⟨rfl,rfl,rfl,rfl,rfl⟩ rfl rfl rfl rfl rfl (by kernel_rfl) Tryz.func6 scopeFront_closed
    (of_decide_eq_true (by kernel_rfl)) (by unfold Func.isWrapper;rw [if_neg (of_decide_eq_false (by kernel_rfl))];exact ⟨rfl,rfl⟩)
    (fun os started H enc _ _=>scopeFront_lifted os started H enc)
theorem scopeFrontUpto_card_holds:Rows.ScopeFrontUptoCardSaid :=
  Claim7.holds_tied_plain_at .later [] [.handle] true (true, "9057aab2ba222a5bcf4c88245c4ec298812a981d5a1633fc530dab7136ce4f58") true
    scopeFront_said (fun _ h=>by cases h) (by kernel_rfl) (fun _ h=>by cases h) scopeFrontUpto_row_tie rfl ⟨rfl,rfl⟩ (by kernel_rfl) rfl
    (fun f fn hf hfn=>by
      obtain rfl:f=6:=Option.some.inj ((show Tryz.prog.funcNamed "usufruct/usufructlaw13.ScopeFront" = some 6 by kernel_rfl).symm.trans hf) |>.symm
      obtain rfl:fn=Tryz.f6:=(Option.some.inj (Tryz.func6.symm.trans hfn)).symm
      exact ⟨by kernel_rfl,fun j t ht=>by
        rw [Tryz.params6] at ht
        rcases j with _|_|j
        · obtain rfl:t=26:=by simpa using ht.symm
          exact (show Tryz.prog.wantsStandIn 26=false by kernel_rfl)
        · obtain rfl:t=3:=by simpa using ht.symm
          exact (show Tryz.prog.wantsStandIn 3=false by kernel_rfl)
        · simp at ht⟩)
    (by kernel_rfl)
#print axioms scopeFrontUpto_card_holds
end Go.Proofs.YtlnphjjhfgghkaaGreatDoor
