/- StorePlays returns true, whatever the arguments; they read as they did: the tied card. No condition beyond the card's own. -/
import Derived.Test.YtmgmfnimaafkdaaGreatDoorVR
open Go.Proofs.Tryz
namespace Go.Proofs.YtmgmfnimaafkdaaGreatDoor
set_option maxRecDepth 100000
set_option maxHeartbeats 0
open Go.ChangeShapes Go.WideShapes Go.ChangeAt Go.WideMaps Go.WideElems Go.RowKit
theorem Ih:(Rows.storePlaysRow.inPlace==Program.inPlace Tryz.pinned.checked.prog 6)=true:=by kernel_rfl
theorem U5:(Rows.storePlaysRow.unfollowed==Program.unfollowed Tryz.pinned.checked.prog 6)=true:=by kernel_rfl
theorem Is:(Rows.storePlaysRow.recurses==Program.recurses Tryz.pinned.checked.prog 6)=true:=by kernel_rfl
theorem Ik:(Rows.storePlaysRow.named==Program.varsNamed Tryz.pinned.checked.prog 6)=true:=by kernel_rfl
theorem U0:joinedFacts Tryz.pinned.checked.prog 6 Tryz.f6 Rows.storePlaysSpec Rows.storePlaysRow=true:=by
 unfold joinedFacts;rw[Ih,U5,Is,Ik];kernel_rfl
theorem Oj:prog.readableRec 5=true:=by kernel_rfl
theorem Wi:5<prog.types.size:=of_decide_eq_true (by kernel_rfl)
theorem ZN:prog.readableRec 45=true:=by kernel_rfl
theorem Ip:45<prog.types.size:=of_decide_eq_true (by kernel_rfl)
theorem ZL:prog.readableRec 53=true:=by kernel_rfl
theorem U8:53<prog.types.size:=of_decide_eq_true (by kernel_rfl)
variable {base:Nat} {w:World}
theorem Nn{H:Type}{enc:TypeId × Value→H}{spare:Nat→Bool}{held:Bool}{fuel:Nat}{cs:List Value}{x:DataW H × List MemPlace}(h:DataW.trod enc prog w base spare held fuel 53 cs=some x):∃v n:Int,cs=[.int .i64 v,.int .i64 n]∧ZX v∧ZX n:=by
 have hl:cs.length=2:=(L0 underlying53 h).trans Tryz.Gg
 match cs,hl with
 |[c0,c1],_=>
  obtain⟨_,_,g0⟩:=DU underlying53 h 0 2 0 _ rfl Tryz.OZ;obtain⟨_,_,g1⟩:=DU underlying53 h 1 2 1 _ rfl Tryz.OZ;obtain⟨v,e1,_,u1⟩:=DataW.trod_int underlying2 g0;obtain⟨n,e2,_,u2⟩:=DataW.trod_int underlying2 g1;simp at e1 e2;subst e1;subst e2;exact⟨v,n,rfl,u1,u2⟩
theorem UK(os:Os)(started:os.Started)(H:Type)(enc:TypeId × Value→H):
  ReturnsInHanded {} Tryz.checked os 6 .any (fun w args=>(Rows.storePlaysSpec.pre enc prog Tryz.f6 [] false w args∧laidMetH prog MC w)∧sizedMet enc prog Tryz.f6 (OpenSpec.ofChange Rows.storePlaysSpec) false w args)
   (Rows.storePlaysSpec.post enc prog Tryz.f6 false true false false):=by
 refine UB (C:=Tryz.checked) (X:=fun w _=>laidMetH prog MC w) (fun _ _ _ hh h=>h.of_heap hh) Tryz.own started (by kernel_rfl) func6
  (ChangeSpec.witness_shaped (enc:=enc) (C:=Tryz.checked) (os:=os) (X:=fun w _=>laidMetH prog MC w) false (World.laidAll prog os MC) #[.int .u8 0,.slice none 0 0,.agg #[.int .i64 0,.int .i64 0]] 8 (World.laidAll_os _ _ _)
   (World.shaped_of_ZipB (by kernel_rfl) (by kernel_rfl)) (by kernel_rfl) (by kernel_rfl) (by kernel_rfl)
   (by rw[MakeChecks.laidMetH_plain _ _ _ (by kernel_rfl)];exact laidMet_laidAll _ (by kernel_rfl) (by kernel_rfl))) ?_
 intro W base args ds gs before hval0 hW _ _ hL;have b:∀(j:Nat) t v,Tryz.f6.params[j]? =some t→args[j]? =some v→Value.okWide prog W .any base t v:=hval0;have f:=hW;obtain⟨p,q,k,hV,rfl,a2,a1⟩:=hW;have hA:DataW.TrodAll enc prog W 0 (fun _=>true) true Tryz.f6.params.toList args.toList ds p:=k;rw[params6]at hA b;obtain⟨v0,v1,v2,d0,d1,d2,p0,p1,p2,rfl,rfl,rfl,h0,h1,h2⟩:=trodAll_three hA;obtain⟨rfl,rfl⟩:=trodVars_none hV;obtain⟨a,rfl⟩:∃a,v0=.int .u8 a:=okWide_int underlying5 (b 0 5 v0 rfl rfl);obtain⟨A,n,c,rfl⟩:=okWide_slice underlying45 (b 1 45 v1 rfl rfl);obtain⟨cs,rfl,a0⟩:=okWide_struct underlying53 (b 2 53 v2 rfl rfl);obtain⟨fuel,hf⟩:=h0;obtain⟨i,s⟩:=h1;obtain⟨d,m⟩:=h2;obtain⟨A',n',c',l,hv,y,o⟩:=GD s;injection hv with hA' hn' hc';subst hA' hn' hc';obtain⟨a',e1,_,w1⟩:=DataW.trod_int underlying5 hf;simp[Value.cells]at e1;subst e1;have m1:IntKind.u8.min=0:=rfl;have m2:IntKind.u8.max=255:=rfl;simp[Lit.wf,m1,m2]at w1;obtain⟨x,rfl⟩:∃x:Nat,a=x:=⟨a.toNat,by omega⟩;obtain⟨vv,no,u,u1,u2⟩:=Nn m;have r:cs=#[.int .i64 vv,.int .i64 no]:=Array.toList_inj.1 (by simpa [Value.cells]using u);subst r;clear k hval0;simp only[List.append_nil]at f;have g:∀x∈p0++p1++p2,x.block<W.heap.size:=fun x hx=>f.lt x (by simpa using hx)
 refine(Ry (UE hL).1 (UE hL).2 x (by omega) A n c l vv no u1 u2 y (fun a ha=>⟨(o a ha).1,(o a ha).2.2⟩)).mono fun e W' ⟨he,hb⟩=> ?_
 subst he;refine⟨_,rfl,Ti (pa:=p0++p1++p2) (pv:=[]) f (fun _ _ _=>trodAll_mk1 (shut_bool underlying4 _)) (fun sp hsp=> ?_) (fun _ _=>rfl) (by simp) hb (ok_one (by kernel_rfl) rfl (okWide_bool_mk underlying4 _))⟩;have t0:=Trod_stays (sp':=sp) Tryz.laidOut Oj Wi ⟨fuel,hf⟩ (fun x hx=>hb.same (g x (by simp[hx]))) (fun x hx=>hsp x (by simp[hx]));have t1:=Trod_stays (sp':=sp) Tryz.laidOut ZN Ip ⟨i,s⟩ (fun x hx=>hb.same (g x (by simp[hx]))) (fun x hx=>hsp x (by simp[hx]));have t2:=Trod_stays (sp':=sp) Tryz.laidOut ZL U8 ⟨d,m⟩ (fun x hx=>hb.same (g x (by simp[hx]))) (fun x hx=>hsp x (by simp[hx]));rw[params6];rw[List.append_assoc];exact trodAll_mk3 t0 t1 t2
theorem Im:Rows.StorePlaysSaid:=
 OpenClaim.holds_of_wide 6 Tryz.f6 rfl rfl rfl rfl rfl rfl rfl ⟨rfl,rfl,rfl,rfl,rfl⟩ rfl rfl rfl rfl rfl (by as_aux_lemma=>kernel_rfl) func6 U0
  (of_decide_eq_true (by as_aux_lemma=>kernel_rfl)) (by unfold Func.isWrapper;first|(rw[if_pos (by decide+kernel)];kernel_rfl)|(rw[if_neg (by decide+kernel)];exact⟨rfl,rfl⟩))
  (fun os started H enc _=>UK os started H enc)
theorem storePlays_card:Rows.StorePlaysCardSaid:=
 Claim7.holds_tied_plain_at .later [] [.data,.data,.data,.data,.data,.sentinel,.sentinel,.pinned] true (true, "209465126921618adcba03cc87c42158259f8c7376558b035b250d64474314ce") true
  Im (fun _ h=>by cases h) (by as_aux_lemma=>kernel_rfl) (fun _ h=>by cases h) storePlays_row_tie rfl ⟨rfl,rfl⟩ (by as_aux_lemma=>kernel_rfl) rfl
  (fun f fn hf hfn=>by
   obtain rfl:f=6:=Option.some.inj ((show prog.funcNamed "mandoline/mandolinelaw23.StorePlays" =some 6 by as_aux_lemma=>kernel_rfl).symm.trans hf) |>.symm
   obtain rfl:fn=Tryz.f6:=(Option.some.inj (Tryz.func6.symm.trans hfn)).symm
   exact⟨by as_aux_lemma=>kernel_rfl,fun j t ht=>by
    rw[params6]at ht;have hm:t∈[5,45,53]:=by simpa using Array.mem_of_getElem? ht
    have a:([5,45,53].all fun u=> !prog.wantsStandIn u)=true:=by kernel_rfl
    exact(show prog.wantsStandIn t=false by simpa using List.all_eq_true.1 a t hm)⟩)
  (by as_aux_lemma=>kernel_rfl)
end Go.Proofs.YtmgmfnimaafkdaaGreatDoor
