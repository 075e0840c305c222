/- For every input the law WholeNotEmpty returns true, and its arguments read afterwards as before: the statement Rows.WholeNotEmptyCardSaid. Conditions: none but the card's own (package-level variables of Go's library start as the program's text lays them). -/
import Derived.Test.YtpggdkenajfjjaaGreatDoorTie
import Derived.JoinedCond
import Derived.Test.YtpggdkenajfjjaaGreatDoorGah
import Derived.Test.YtpggdkenajfjjaaGreatDoorGai
import Derived.Test.YtpggdkenajfjjaaGreatDoorGaj
import Derived.Test.YtpggdkenajfjjaaGreatDoorGak
import Derived.Test.YtpggdkenajfjjaaGreatDoorGbd
import Derived.Test.YtpggdkenajfjjaaGreatDoorGbg
import Derived.Test.YtpggdkenajfjjaaGreatDoorGca
set_option linter.all false
set_option maxRecDepth 100000
set_option maxHeartbeats 16000000
namespace Go.Proofs.YtpggdkenajfjjaaGreatDoor.wholeNotEmpty
open Go.ChangeShapes Go.WideShapes Go.ChangeAt Go.RowKit
theorem own:ownKnob Tryz.prog.godebug=none:=by kernel_rfl
theorem laidOut:laidOutB Tryz.prog=true:=by kernel_rfl
theorem contract (H:Type) (enc:TypeId×Value->H) (W:World) (base:Nat) (args:Array Value) (ds gs:List (DataW H)) (before:List MemPlace)
 (hval:∀(j:Nat) t v,Tryz.f3.params[j]? =some t->args[j]? =some v->Value.okWide Tryz.prog W .any base t v)
 (hW:DataW.Whole enc Tryz.prog Tryz.f3.params.toList Rows.wholeNotEmptySpec.vars false W args.toList ds gs before):
 Calls Tryz.prog 3 args W λe W'=>∃v,e=.returned v∧Rows.wholeNotEmptySpec.post enc Tryz.prog Tryz.f3 false true false false W args v W':=by
 have hW':=hW;obtain ⟨p,q,hA0,hV,rfl,hfz,hnd⟩:=hW';have hA:DataW.TrodAll enc Tryz.prog W 0 (λ_=>true) true Tryz.f3.params.toList args.toList ds p:=hA0;rw [Tryz.params3] at hA hval;obtain ⟨v0,vs0,d0,ds0,p0,q0,hargs,rfl,rfl,h0,r0⟩:=trodAll_cons hA;obtain ⟨v1,vs1,d1,ds1,p1,q1,rfl,rfl,rfl,h1,r1⟩:=trodAll_cons r0;obtain ⟨rfl,rfl,rfl⟩:=trodAll_nil r1;obtain rfl:args=#[v0,v1]:=by cases args;simp_all
 obtain ⟨rfl,rfl⟩:=trodVars_none hV;clear hA0;obtain ⟨m,g,rfl,hG,hNm⟩:=Jr6 (hval 0 _ v0 rfl rfl) h0;obtain ⟨a0,len,cap,rfl⟩:=okWide_slice Tryz.underlying27 (hval 1 _ v1 rfl rfl);obtain ⟨fuel,hf⟩:=h1;obtain ⟨A,c,os,hv,ho,_,_,_⟩:=Jk5 (v:=.slice a0 len cap) Tryz.underlying27 Tryz.underlying32 (by kernel_rfl) (by kernel_rfl) Tryz.underlying3 Tryz.underlying4 Tryz.underlying30 Tryz.underlying2 (by kernel_rfl) hf;rw [hv] at hW |-
 refine (Zs1 m g A c os W hG hNm ho).mono λe W' ⟨he,hb⟩=>?_
 subst he;exact ⟨_,rfl,Jb2 laidOut (by kernel_rfl) (by kernel_rfl) Tryz.underlying4 rfl hW rfl hb⟩
theorem h3 (os:Os):Input.okWideB Tryz.prog ((World.laidAll Tryz.prog os Rows.wholeNotEmptyRow.laid).forCall (λ_ _=>0) ⟨#[],#[.agg #[.slice none 0 0,.int .i64 0,.slice none 0 0,.int .i64 0,.int .i64 0,.slice none 0 0],.slice none 0 0],[]⟩) 3 ⟨#[],#[.agg #[.slice none 0 0,.int .i64 0,.slice none 0 0,.int .i64 0,.int .i64 0,.slice none 0 0],.slice none 0 0],[]⟩=true:=by kernel_rfl
theorem h4 (os:Os) (H:Type) (enc:TypeId×Value->H):Rows.wholeNotEmptySpec.preB enc Tryz.prog Tryz.f3 [] false ((World.laidAll Tryz.prog os Rows.wholeNotEmptyRow.laid).forCall (λ_ _=>0) ⟨#[],#[.agg #[.slice none 0 0,.int .i64 0,.slice none 0 0,.int .i64 0,.int .i64 0,.slice none 0 0],.slice none 0 0],[]⟩).memory #[.agg #[.slice none 0 0,.int .i64 0,.slice none 0 0,.int .i64 0,.int .i64 0,.slice none 0 0],.slice none 0 0] 8=true:=by kernel_rfl
theorem h5 (os:Os) (H:Type) (enc:TypeId×Value->H):Rows.wholeNotEmptySpec.sizedB enc Tryz.prog Tryz.f3 false ((World.laidAll Tryz.prog os Rows.wholeNotEmptyRow.laid).forCall (λ_ _=>0) ⟨#[],#[.agg #[.slice none 0 0,.int .i64 0,.slice none 0 0,.int .i64 0,.int .i64 0,.slice none 0 0],.slice none 0 0],[]⟩).memory #[.agg #[.slice none 0 0,.int .i64 0,.slice none 0 0,.int .i64 0,.int .i64 0,.slice none 0 0],.slice none 0 0] 8=true:=by kernel_rfl
theorem h6:(Rows.wholeNotEmptyRow.laid.all λx=>x.2.handleName?.isNone)=true:=by kernel_rfl
theorem lifted (os:Os) (started:os.Started) (H:Type) (enc:TypeId×Value->H):
 ReturnsInHanded {} Tryz.checked os 3 .any (λw args=>(Rows.wholeNotEmptySpec.pre enc Tryz.prog Tryz.f3 [] false w args∧laidMetH Tryz.prog Rows.wholeNotEmptyRow.laid w)∧sizedMet enc Tryz.prog Tryz.f3 (OpenSpec.ofChange Rows.wholeNotEmptySpec) false w args)
  (Rows.wholeNotEmptySpec.post enc Tryz.prog Tryz.f3 false true false false):=by
 refine returnsInHanded_of_change_and (C:=Tryz.checked) (X:=λw _=>laidMetH Tryz.prog Rows.wholeNotEmptyRow.laid w) (λ_ _ _ hh h=>h.of_heap hh) own started (by kernel_rfl) Tryz.func3
  (ChangeSpec.witness_shaped (enc:=enc) (C:=Tryz.checked) (os:=os) (X:=λw _=>laidMetH Tryz.prog Rows.wholeNotEmptyRow.laid w) false (World.laidAll Tryz.prog os Rows.wholeNotEmptyRow.laid) #[.agg #[.slice none 0 0,.int .i64 0,.slice none 0 0,.int .i64 0,.int .i64 0,.slice none 0 0],.slice none 0 0] 8 (World.laidAll_os _ _ _)
   (World.shaped_of_ZipB (h1 os) (h2 os)) (h3 os) (h4 os H enc) (h5 os H enc)
   (by rw [MakeChecks.laidMetH_plain _ _ _ h6];exact laidMet_laidAll _ (h7 os) (h8 os))) ?_
 intro W base args ds gs before hval hW _ _ hL _;exact contract H enc W base args ds gs before hval hW
theorem row_holds:Rows.WholeNotEmptySaid:=
 OpenClaim.holds_of_wide 3 Tryz.f3 rfl rfl rfl rfl rfl rfl rfl ⟨rfl,rfl,rfl,rfl,rfl⟩ rfl rfl rfl rfl rfl (by kernel_rfl) Tryz.func3 joined
  (of_decide_eq_true (by kernel_rfl)) (by unfold Func.isWrapper;first|(rw [if_pos (by decide+kernel)];kernel_rfl)|(rw [if_neg (by decide+kernel)];exact ⟨rfl,rfl⟩))
  (λos started H enc _=>lifted os started H enc)
theorem proved:Rows.WholeNotEmptyCardSaid:=
 Claim7.holds_tied_plain_at .later [] [.data,.data,.data,.data,.sentinel,.sentinel,.pinned] true (true,"d5bd0bddabe18322f9137dad92c1e5f057d74d8fabe9bc45d51772037301d3c9") true row_holds (λ_ h=>by cases h) (by kernel_rfl) (λ_ h=>by cases h) wholeNotEmpty_row_tie rfl ⟨rfl,rfl⟩ (by kernel_rfl) rfl
  (λf fn hf hfn=>by
   obtain rfl:f=3:=Option.some.inj ((show Tryz.prog.funcNamed "gnomon/gnomontop.WholeNotEmpty" =some 3 by kernel_rfl).symm.trans hf) |>.symm;obtain rfl:fn=Tryz.f3:=(Option.some.inj (Tryz.func3.symm.trans hfn)).symm;exact ⟨by kernel_rfl,λj t ht=>by
    rw [Tryz.params3] at ht;have hm:t∈[26,27]:=by simpa using Array.mem_of_getElem? ht
    have hall:([26,27].all λu=>!Tryz.prog.wantsStandIn u)=true:=by kernel_rfl
    exact (show Tryz.prog.wantsStandIn t=false by simpa using List.all_eq_true.1 hall t hm)⟩)
  c4
end Go.Proofs.YtpggdkenajfjjaaGreatDoor.wholeNotEmpty
