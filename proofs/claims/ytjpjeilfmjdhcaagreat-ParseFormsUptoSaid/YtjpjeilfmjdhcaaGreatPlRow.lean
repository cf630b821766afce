/- ParseForms, the row: for every input the law returns true and the input reads behind the call as it read before. The condition: what it reads is of bulk at most 1048576, as the statement says. -/
import Derived.Test.YtjpjeilfmjdhcaaGreatRows
import Derived.Test.YtjpjeilfmjdhcaaGreatA29
import Derived.WalkKit
import Derived.ProofKit
import Derived.OpenShut
import Derived.JoinedCond
import Derived.ShutString
import Derived.ChangeOld
import Derived.Below
import Derived.SizedLaws
namespace Go.Proofs.YtjpjeilfmjdhcaaGreat.Xa
open Go.ChangeShapes Go.WideShapes Go.ChangeAt Go.RowKit E
open Go.ChangeMaps (open_string)
theorem own:ownKnob Tryz.prog.godebug=none:=by kernel_rfl
theorem laidOut:laidOutB Tryz.prog=true:=by kernel_rfl
theorem aqP{H:Type}:(∀d:DataW H,g7 d=Rows.uptoBulk d):=fun d=>
 DataW.rec (motive_1:=fun d=>g7 d=Rows.uptoBulk d) (motive_2:=fun l=>nm l=Rows.uptoBulkAll l) (motive_3:=fun l=>ER l=Rows.uptoBulkEntries l) (motive_4:=fun x=>Ll x=Rows.uptoBulkEntry x)
  (fun l=>by cases l<;>rfl) rfl (fun d h=>by simp only[g7,Rows.uptoBulk,h]) (fun a b R ae=>by simp only[g7,Rows.uptoBulk,R,ae]) (fun a h=>by simp only[g7,Rows.uptoBulk,h]) (fun t d h=>by simp only[g7,Rows.uptoBulk,h]) (fun a h=>by simp only[g7,Rows.uptoBulk,h]) (fun h=>rfl)
  rfl (fun a b R ae=>by simp only[nm,Rows.uptoBulkAll,R,ae]) rfl (fun a b R ae=>by simp only[ER,Rows.uptoBulkEntries,R,ae]) (fun l d h=>by cases l<;>simp only[Ll,Rows.uptoBulkEntry,h]) d
theorem Xb{H:Type}:∀l:List (DataW H),nm l=Rows.uptoBulkAll l
 | []=>rfl
 |d::l=>by simp only[nm,Rows.uptoBulkAll,aqP,Xb l]
set_option maxRecDepth 100000 in
theorem lifted(os:Os)(started:os.Started)(H:Type)(enc:TypeId × Value→H)(F:Stop.Interp):
  ReturnsInHanded {} Tryz.checked os 3 .any ((Rows.OpenSpec.upto Rows.parseFormsSpec).pre6 enc Tryz.prog Tryz.f3 Rows.parseFormsUptoRow.domain false) (((Rows.OpenSpec.upto Rows.parseFormsSpec).at F).post enc Tryz.prog Tryz.f3 false true false false):=by
 refine returnsInHanded_of_cond (C:=Tryz.checked) (s:=Rows.OpenSpec.upto Rows.parseFormsSpec) (k:=Rows.uptoSmall) rfl own started (by kernel_rfl) Tryz.func3
  (OpenSpec.witness (enc:=enc) (C:=Tryz.checked) (s:=Rows.OpenSpec.upto Rows.parseFormsSpec) (k:=Rows.uptoSmall) rfl false ⟨#[], #[.agg #[.int .i64 0, .string ⟨#[]⟩, .string ⟨#[]⟩, .bool false, .slice none 0 0, .slice none 0 0, .slice none 0 0, .slice none 0 0, .slice none 0 0, .bool false, .bool false, .slice none 0 0, .slice none 0 0, .slice none 0 0, .slice none 0 0, .slice none 0 0, .int .i64 0], .agg #[.int .i64 0, .string ⟨#[]⟩, .string ⟨#[]⟩, .bool false, .slice none 0 0, .slice none 0 0, .slice none 0 0, .slice none 0 0, .slice none 0 0, .bool false, .bool false, .slice none 0 0, .slice none 0 0, .slice none 0 0, .slice none 0 0, .slice none 0 0, .int .i64 0], .string ⟨#[]⟩],[]⟩ 8 (by kernel_rfl) (by kernel_rfl) (by kernel_rfl)
   (x:=([(.agg [.lit (.int .i64 0), .lit (.string []), .lit (.string []), .lit (.bool false), .nil, .nil, .nil, .nil, .nil, .agg [.lit (.bool false), .lit (.bool false), .nil, .nil, .nil, .nil, .nil, .lit (.int .i64 0)]]),(.agg [.lit (.int .i64 0), .lit (.string []), .lit (.string []), .lit (.bool false), .nil, .nil, .nil, .nil, .nil, .agg [.lit (.bool false), .lit (.bool false), .nil, .nil, .nil, .nil, .nil, .lit (.int .i64 0)]]), .lit (.string [])],[],[])) (by kernel_rfl) rfl (by kernel_rfl)) ?_
 intro W base args aM gs before aqQ oe _ aH _
 have Jr:∀(o:Nat) t v,Tryz.f3.params[o]? =some t→args[o]? =some v→Value.okWide Tryz.prog W .any base t v:=aqQ
 have aqR:=oe
 obtain⟨p,q,aqS,aqT,rfl,asg,rz⟩:=oe
 have eW:DataW.TrodAll enc Tryz.prog W 0 (fun _=>true) true Tryz.f3.params.toList args.toList aM p:=aqS
 rw[Tryz.params3] at eW Jr
 obtain⟨v0,ash,d0,xQ,Cq,cS,asi,rfl,rfl,aI,o6⟩:=trodAll_cons eW
 obtain⟨v1,asj,d1,asl,cF,aE,rfl,rfl,rfl,R,fD⟩:=trodAll_cons o6
 obtain⟨v2,asm,d2,asn,cW,aR,rfl,rfl,rfl,ae,bf⟩:=trodAll_cons fD
 obtain⟨rfl,rfl,rfl⟩:=trodAll_nil bf
 obtain rfl:args= #[v0,v1,v2]:=by cases args;simp_all
 obtain⟨rfl,rfl⟩:=trodVars_none aqT
 have qx:=aI
 have ar:=R
 have aA:=ae
 have aqU:∀x∈Cq,x.block<W.heap.size:=by obtain⟨m,hm⟩:=qx;exact DataW.trod_lt m _ _ _ hm
 have W4:∀x∈cF,x.block<W.heap.size:=by obtain⟨m,hm⟩:=ar;exact DataW.trod_lt m _ _ _ hm
 have W5:∀x∈cW,x.block<W.heap.size:=by obtain⟨m,hm⟩:=aA;exact DataW.trod_lt m _ _ _ hm
 have Oy:=Jr 0 33 v0 rfl rfl
 unfold Value.okWide at Oy
 rw[Tryz.underlying33] at Oy
 obtain⟨aso,rfl,_,_⟩:=Oy
 have nN:=Jr 1 33 v1 rfl rfl
 unfold Value.okWide at nN
 rw[Tryz.underlying33] at nN
 obtain⟨asp,rfl,_,_⟩:=nN
 obtain⟨s2,aqV,_⟩:=open_string Tryz.underlying9 (Jr 2 9 v2 rfl rfl) ae
 subst aqV
 obtain⟨Li,Xc⟩:=aI
 obtain⟨il,Xd⟩:=R
 obtain⟨tT,Xe⟩:=ae
 obtain⟨vu,Xf⟩:=KJ (P:=Tryz.prog) (S:=[33,3,9,4,22,23,24,25,26,31,82,57,59,55,2,27,28,29,61,63,65]) (by kernel_rfl) Li 33 _ d0 Cq rfl Xc
 obtain⟨de,Xg⟩:=KJ (P:=Tryz.prog) (S:=[33,3,9,4,22,23,24,25,26,31,82,57,59,55,2,27,28,29,61,63,65]) (by kernel_rfl) il 33 _ d1 cF rfl Xd
 obtain⟨cD,tN⟩:=KJ (P:=Tryz.prog) (S:=[9]) (by kernel_rfl) tT 9 _ d2 cW rfl Xe
 have aqW:nm [d0,d1,d2]≤1048576:=by have q:Rows.uptoSmall H _=true:=aH;have q:=of_decide_eq_true q;rw[←Xb] at q;simpa only[List.append_nil] using q
 obtain⟨kG,rfl,A5⟩:=AI.shape aqW Xf Xg tN
 refine(aag A5 (lO.cons (Qm (KH Li 33 _ d0 Cq vu Xc Xf)) (lO.cons (Qm (KH il 33 _ d1 cF de Xd Xg)) (lO.cons (aah (KH tT 9 _ d2 cW _ Xe tN)) lO.nil)))).mono fun e asq ⟨he,Js⟩=> ?_
 subst he
 exact⟨_,rfl,_,_,_,[],_,[],aqR,trodAll_mk1 (shut_bool Tryz.underlying4 _),(trodAll_cons_mk (Below.trod laidOut (by kernel_rfl) (of_decide_eq_true (by kernel_rfl)) qx Js aqU) (trodAll_cons_mk (Below.trod laidOut (by kernel_rfl) (of_decide_eq_true (by kernel_rfl)) ar Js W4) (trodAll_cons_mk (Below.trod laidOut (by kernel_rfl) (of_decide_eq_true (by kernel_rfl)) aA Js W5) trodAll_mk0))),rfl,Js.frame _,fun h=>by cases h⟩
theorem aqX:Rows.parseFormsUptoRow.holds Tryz.pinned (Rows.OpenSpec.upto Rows.parseFormsSpec):=
 OpenClaim.holds_of_cond 3 Tryz.f3 rfl rfl rfl rfl rfl rfl rfl ⟨rfl,rfl,rfl,rfl,rfl⟩ rfl rfl rfl rfl rfl (by kernel_rfl) Tryz.func3 (by kernel_rfl)
  (of_decide_eq_true (by kernel_rfl)) (by unfold Func.isWrapper;first|(rw[if_pos (by decide+kernel)];kernel_rfl)|(rw[if_neg (by decide+kernel)];exact⟨rfl,rfl⟩))
  (fun os started H enc _ F=>lifted os started H enc F)
theorem proved:Rows.ParseFormsUptoSaid:=aqX
#print axioms proved
end Go.Proofs.YtjpjeilfmjdhcaaGreat.Xa
namespace Go.Proofs.YtjpjeilfmjdhcaaGreat
theorem parseForms_holds:Rows.ParseFormsUptoSaid:=Xa.proved
end Go.Proofs.YtjpjeilfmjdhcaaGreat
