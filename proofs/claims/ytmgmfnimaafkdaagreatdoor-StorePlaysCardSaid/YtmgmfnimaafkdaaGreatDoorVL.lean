/- The document's notes told; which name stands ahead. -/
import Derived.Test.YtmgmfnimaafkdaaGreatDoorVK
namespace Go.Proofs.YtmgmfnimaafkdaaGreatDoor
set_option maxRecDepth 100000
set_option maxHeartbeats 0
open Go.RowKit Go.Maps
open Tryz
abbrev QL(A:Option Addr)(c:Nat)(h s e:Int):Array Value:=#[.slice A 0 c,.int .i64 0,.int .i64 h,.int .i64 s,.int .i64 e]
theorem Z9(A:Option Addr)(c h s:Nat)(e:Int)(hh:h<2^40)(hs:s<2^40)(w:World):
  Calls prog 124 #[.agg (QL A c h s e)] w fun en w'=>en=.returned (.int .i64 ((h:Int)-(Qf s 0:Nat)))∧Below w.heap.size w w':=by
 have HX:=Qa (Qh.new w 36 (QL A c h s e));have HB:Qb (Below w.heap.size w (w.alloc (.cells (QL A c h s e) 36))):=bR.alloc nR _;have HN:=Qa (show ∀wy,Calls prog 67 #[.int .i64 s,.int .i64 0] wy fun e w'=>e=.returned (.int .i64 (Qf s 0:Nat))∧wy=w' from fun wy=>V8 s 0 (by omega) (by omega) wy);have hn:=JE (s:=s) (n:=0);generalize Qf s 0=N at*
 have q1:IntKind.i64.wrap ((h:Int)-(N:Int))=(h:Int)-(N:Int):=by rw[IntKind.wrap_i64];omega
 go_enter func124,ntmps124;go_upto_region 1 with fail;generalize w.alloc (.cells (QL A c h s e) 36)=w1 at*
 have S0:=Qa (show w1.drew.cell? ⟨w.heap.size,2,none⟩=some (.int .i64 h)∧w1.drew.cell? ⟨w.heap.size,3,none⟩=some (.int .i64 s) from ⟨HX.o.drew.cell 2,HX.o.drew.cell 3⟩)
 go_region_held3 (fun wy=>wy.cell? ⟨w.heap.size,2,none⟩=some (.int .i64 h)∧wy.cell? ⟨w.heap.size,3,none⟩=some (.int .i64 s))
  (first|exact S0.o)
  (first|(go_at_call 67;refine(HN.o _).mono ?_;rintro en w' ⟨rfl,rfl⟩))
 all_goals
  go_wp2_with fail;go_ret;exact⟨rfl,HB.o.trans (bR.drew.mono HB.o.size)⟩
theorem UF(s:Nat)(A:Option Addr)(c:Nat)(w:World):Calls prog 125 #[.int .i64 s,.slice A 0 c] w fun e w'=>e=.returned (.int .i64 0)∧w=w':=by
 go_enter func125,ntmps125;go_wp2_with fail;go_loopw [5,6] (fun x i wr=>x=.int .i64 0∧i=.int .i64 0∧wr=w) (fun _ _ _=>0)
 case atStart=>exact⟨rfl,rfl,rfl⟩
 obtain⟨rfl,rfl,rfl⟩:=hrel;go_wp2_with fail;go_ret;exact⟨rfl,rfl⟩
theorem Ms(A:Option Addr)(c h s:Nat)(e:Int)(hh:h<2^40)(hs:s<2^40)(w:World):
  Calls prog 66 #[.agg (QL A c h s e)] w fun en w'=>en=.returned (.int .i64 ((h:Int)-(Qf s 0:Nat)))∧Below w.heap.size w w':=by
 have HX:=Qa (Qh.new w 36 (QL A c h s e));have HB:Qb (Below w.heap.size w (w.alloc (.cells (QL A c h s e) 36))):=bR.alloc nR _;have HR:=Qa (fun wy=>Z9 A c h s e hh hs wy);have HN:=Qa (fun wy=>UF s A c wy);have hn:=JE (s:=s) (n:=0);generalize Qf s 0=N at*
 obtain⟨z,hz⟩:∃z:Int,z=(h:Int)-(N:Int):=⟨_,rfl⟩;have a0: -1073741826≤z∧z≤1099511627776:=by omega
 rw[←hz]at HR ⊢;clear hz;have q1:IntKind.i64.wrap z=z:=by rw[IntKind.wrap_i64];omega
 go_enter func66,ntmps66;go_upto_region 1 with fail;generalize w.alloc (.cells (QL A c h s e) 36)=w1 at*
 have b:=HB.o.size
 have SK:=Qa (show ∀wy,Below w1.heap.size w1 wy→wy.cell? ⟨w.heap.size,0,none⟩=some (.slice A 0 c)∧wy.cell? ⟨w.heap.size,1,none⟩=some (.int .i64 0)∧wy.cell? ⟨w.heap.size,2,none⟩=some (.int .i64 h)∧wy.cell? ⟨w.heap.size,3,none⟩=some (.int .i64 s)∧wy.cell? ⟨w.heap.size,4,none⟩=some (.int .i64 e) from fun wy hy=>by
  have hx:=HX.o.below hy HX.o.lt;exact⟨hx.cell 0,hx.cell 1,hx.cell 2,hx.cell 3,hx.cell 4⟩)
 have S0:=Qa (SK.o _ bR.drew)
 go_region_held3 (fun wy=>wy.cell? ⟨w.heap.size,0,none⟩=some (.slice A 0 c)∧wy.cell? ⟨w.heap.size,1,none⟩=some (.int .i64 0)∧wy.cell? ⟨w.heap.size,2,none⟩=some (.int .i64 h)∧wy.cell? ⟨w.heap.size,3,none⟩=some (.int .i64 s)∧wy.cell? ⟨w.heap.size,4,none⟩=some (.int .i64 e))
  (first|exact S0.o|exact SK.o _ a.o)
  (first
   |(go_at_call 125;refine(HN.o _).mono ?_;rintro en w' ⟨rfl,rfl⟩)
   |(go_at_call 124;refine(HR.o _).mono ?_;rintro en w3 ⟨rfl,hb⟩;(have a:Qb (Below w1.heap.size w1 w3):=bR.drew.trans hb);clear hb))
 all_goals
  go_wp2_with fail;go_ret;exact⟨by simp,HB.o.trans (a.o.mono b)⟩
def IW(all s q:Nat):Prop:=19≤s∧4≤q∧Qf s 0+1≤q/2∧q≤all
theorem RX(all s q:Nat)(ha:all<2^40)(hs:s<2^40)(hq:q<2^40)(w:World):
  Calls prog 65 #[.int .i64 all,.int .i64 s,.int .i64 0,.int .i64 q] w fun e w'=>((IW all s q∧e=.returned (.tuple #[.agg (QL none 0 (q/2:Nat) s 1),.int .i64 0]))∨(¬IW all s q∧e=.returned (.tuple #[.agg (QL none 0 0 0 0),.int .i64 1])))∧Below w.heap.size w w':=by
 have HI:Qb ((prog.info? 36).map (·.size)=some 5):=show(prog.info? 36).map (·.size)=some 5 from by kernel_rfl
 obtain⟨h,hh⟩:=eX (q/2);have a1:(q:Int)/2=(h:Int):=by omega
 have HR:=Qa (fun wy=>Z9 none 0 h s 1 (by omega) hs wy);have hn:=JE (s:=s) (n:=0);obtain⟨N,hN⟩:=eX (Qf s 0);have m:IW all s q↔19≤s∧4≤q∧N+1≤h∧q≤all:=by unfold IW;rw[hN,hh]
 rw[←hN]at HR hn;rw[←hh];obtain⟨ok,l⟩:=eX (IW all s q);rw[←l]at m ⊢;have i:=Qa m;have d:Qb (Below w.heap.size w ((w.alloc (.cells (QL none 0 0 0 0) 36)).alloc (.cells (QL none 0 h s 1) 36))):=(bR.alloc nR _).alloc (by simp) _;have b:Qb (Qh ((w.alloc (.cells (QL none 0 0 0 0) 36)).alloc (.cells (QL none 0 h s 1) 36)) w.heap.size 36 (QL none 0 0 0 0)):=(Qh.new _ _ _).alloc _;have a:Qb (Qh ((w.alloc (.cells (QL none 0 0 0 0) 36)).alloc (.cells (QL none 0 h s 1) 36)) (w.heap.size+1) 36 (QL none 0 h s 1)):=Qh.Qz (by simp);clear hN hh l m;go_enter func65,ntmps65;go_upto_region 2 with fail;generalize (w.alloc (.cells (QL none 0 0 0 0) 36)).alloc (.cells (QL none 0 h s 1) 36)=w1 at*
 have k:=d.o.size;have d0:w1.cell? ⟨w.heap.size+1,0,none⟩=some (.slice none 0 0):=a.o.cell 0;have d1:w1.cell? ⟨w.heap.size+1,1,none⟩=some (.int .i64 0):=a.o.cell 1;have d2:w1.cell? ⟨w.heap.size+1,2,none⟩=some (.int .i64 h):=a.o.cell 2;have d3:w1.cell? ⟨w.heap.size+1,3,none⟩=some (.int .i64 s):=a.o.cell 3;have d4:w1.cell? ⟨w.heap.size+1,4,none⟩=some (.int .i64 1):=a.o.cell 4;have dl:=a.o.lt;have a2:IntKind.i64.wrap ((all:Int)-0)=(all:Int):=by rw[IntKind.wrap_i64];omega
 have a0:decide ((all:Int)<0)=false:=decide_eq_false (by omega);by_cases c1:s<19
 ·have i1:decide ((s:Int)<19)=true:=decide_eq_true (by omega);have g:Qb (¬ok):=fun hk=>by have:=i.o.1 hk;omega
  clear c1;have H1:Qb ((QL none 0 0 0 0).all (·.oneCell')=true):=Qa (by simp[Value.oneCell'])
  go_wp2_with (first
   |(go_at_call 124;refine(HR.o _).mono ?_;rintro en w3 ⟨rfl,hb⟩;(have f:=Qa (d.o.trans (hb.mono k)));(have c:=Qa (b.o.below hb b.o.lt));(have j:=Qa (a.o.below hb a.o.lt));clear hb)
   |(refine wpList_store_row rfl 36 _ _ rfl w.heap.size (QL none 0 0 0 0) rfl rfl 36 (QL none 0 0 0 0) b.o HI.o rfl H1.o ?_))
  refine bodyPost_ret (v:=.tuple #[.agg (QL none 0 0 0 0),.int .i64 1]) (Ql results65 _ _ w.heap.size 36 _ (0,0) _ rfl (Qp b.o _) underlying36 rfl HI.o) rfl ?_;exact⟨.inr ⟨g.o,rfl⟩,d.o.trans (Qg (Qm _ _ _) d.o.size (gB (by omega)))⟩
 have i1:decide ((s:Int)<19)=false:=decide_eq_false (by omega);by_cases c2:q<4
 ·have i2:decide ((q:Int)<4)=true:=decide_eq_true (by omega);have g:Qb (¬ok):=fun hk=>by have:=i.o.1 hk;omega
  clear c1 c2;have H1:Qb ((QL none 0 0 0 0).all (·.oneCell')=true):=Qa (by simp[Value.oneCell'])
  go_wp2_with (first
   |(go_at_call 124;refine(HR.o _).mono ?_;rintro en w3 ⟨rfl,hb⟩;(have f:=Qa (d.o.trans (hb.mono k)));(have c:=Qa (b.o.below hb b.o.lt));(have j:=Qa (a.o.below hb a.o.lt));clear hb)
   |(refine wpList_store_row rfl 36 _ _ rfl w.heap.size (QL none 0 0 0 0) rfl rfl 36 (QL none 0 0 0 0) b.o HI.o rfl H1.o ?_))
  refine bodyPost_ret (v:=.tuple #[.agg (QL none 0 0 0 0),.int .i64 1]) (Ql results65 _ _ w.heap.size 36 _ (0,0) _ rfl (Qp b.o _) underlying36 rfl HI.o) rfl ?_;exact⟨.inr ⟨g.o,rfl⟩,d.o.trans (Qg (Qm _ _ _) d.o.size (gB (by omega)))⟩
 have i2:decide ((q:Int)<4)=false:=decide_eq_false (by omega);by_cases c3:h<N+1
 ·have i3:decide ((h:Int)-(N:Int)<1)=true:=decide_eq_true (by omega);have g:Qb (¬ok):=fun hk=>by have:=i.o.1 hk;omega
  clear c1 c2 c3;have H1:Qb ((QL none 0 0 0 0).all (·.oneCell')=true):=Qa (by simp[Value.oneCell'])
  go_wp2_with (first
   |(go_at_call 124;refine(HR.o _).mono ?_;rintro en w3 ⟨rfl,hb⟩;(have f:=Qa (d.o.trans (hb.mono k)));(have c:=Qa (b.o.below hb b.o.lt));(have j:=Qa (a.o.below hb a.o.lt));clear hb)
   |(refine wpList_store_row rfl 36 _ _ rfl w.heap.size (QL none 0 0 0 0) rfl rfl 36 (QL none 0 0 0 0) c.o HI.o rfl H1.o ?_))
  refine bodyPost_ret (v:=.tuple #[.agg (QL none 0 0 0 0),.int .i64 1]) (Ql results65 _ _ w.heap.size 36 _ (0,0) _ rfl (Qp c.o _) underlying36 rfl HI.o) rfl ?_;exact⟨.inr ⟨g.o,rfl⟩,f.o.trans (Qg (Qm _ _ _) f.o.size (gB (by omega)))⟩
 have i3:decide ((h:Int)-(N:Int)<1)=false:=decide_eq_false (by omega);by_cases c4:all<q
 ·have i4:decide (all<q)=true:=decide_eq_true (by omega);have g:Qb (¬ok):=fun hk=>by have:=i.o.1 hk;omega
  clear c1 c2 c3 c4;have H1:Qb ((QL none 0 0 0 0).all (·.oneCell')=true):=Qa (by simp[Value.oneCell'])
  go_wp2_with (first
   |(go_at_call 124;refine(HR.o _).mono ?_;rintro en w3 ⟨rfl,hb⟩;(have f:=Qa (d.o.trans (hb.mono k)));(have c:=Qa (b.o.below hb b.o.lt));(have j:=Qa (a.o.below hb a.o.lt));clear hb)
   |(refine wpList_store_row rfl 36 _ _ rfl w.heap.size (QL none 0 0 0 0) rfl rfl 36 (QL none 0 0 0 0) c.o HI.o rfl H1.o ?_))
  refine bodyPost_ret (v:=.tuple #[.agg (QL none 0 0 0 0),.int .i64 1]) (Ql results65 _ _ w.heap.size 36 _ (0,0) _ rfl (Qp c.o _) underlying36 rfl HI.o) rfl ?_;exact⟨.inr ⟨g.o,rfl⟩,f.o.trans (Qg (Qm _ _ _) f.o.size (gB (by omega)))⟩
 have i4:decide (all<q)=false:=decide_eq_false (by omega);have p:Qb ok:=i.o.2 (by omega);clear c1 c2 c3 c4;have H1:Qb ((QL none 0 h s 1).all (·.oneCell')=true):=Qa (by simp[Value.oneCell'])
 go_wp2_with (first
  |(go_at_call 124;refine(HR.o _).mono ?_;rintro en w3 ⟨rfl,hb⟩;(have f:=Qa (d.o.trans (hb.mono k)));(have c:=Qa (b.o.below hb b.o.lt));(have j:=Qa (a.o.below hb a.o.lt));clear hb)
  |(refine wpList_load_row rfl 36 _ rfl (w.heap.size+1) rfl 36 (QL none 0 h s 1) (0,0) _ j.o underlying36 rfl HI.o ?_)
  |(refine wpList_store_row rfl 36 _ _ rfl w.heap.size (QL none 0 h s 1) rfl rfl 36 (QL none 0 0 0 0) c.o HI.o rfl H1.o ?_))
 refine bodyPost_ret (v:=.tuple #[.agg (QL none 0 h s 1),.int .i64 0]) (Ql results65 _ _ w.heap.size 36 _ (0,0) _ rfl (Qp c.o _) underlying36 rfl HI.o) rfl ?_;exact⟨.inl ⟨p.o,rfl⟩,f.o.trans (Qg (Qm _ _ _) f.o.size (gB (by omega)))⟩
theorem Gd:prog.underlying 46=some (.slice 4):=by kernel_rfl
theorem D9:(prog.info? 4).map (fun i=>(i.zero,i.size,i.bytes))=some (some (.bool false),1,1):=by kernel_rfl
def G5(w w':World)(q r:Nat)(e:Ending):Prop:=(∃M A c,e=.returned (.tuple #[.pointer (some ⟨M,0,none⟩),.bool true])∧w.heap.size≤M∧Qh w' M 236 #[.int .i64 q,.slice A r c]∧w'.ownsRow w.heap.size 4 1 (.slice A r c) r (List.replicate r (.bool true)))∧Below w.heap.size w w'
theorem Tf(q r:Nat)(hq:q≤65536)(hr:r≤65536)(w:World):
  Calls prog 68 #[.int .i64 q,.int .i64 r] w fun e w'=>G5 w w' q r e:=by
 obtain⟨i4,t,x,s,z⟩:=info_parts D9;have a1:decide ((q:Int)<0)=false:=decide_eq_false (by omega);have a2:decide ((q:Int)>1048576)=false:=decide_eq_false (by omega);have a3:decide ((r:Int)<0)=false:=decide_eq_false (by omega);have a4:decide ((r:Int)>1048576)=false:=decide_eq_false (by omega);have HX:=Qa (Qh.new w 236 #[.int .i64 q,.slice none 0 0]);have HB:Qb (Below w.heap.size w (w.alloc (.cells #[.int .i64 q,.slice none 0 0] 236))):=bR.alloc nR _;go_enter func68,ntmps68;go_upto_region 4 with fail;generalize w.alloc (.cells #[.int .i64 q,.slice none 0 0] 236)=w1 at*
 obtain⟨M,hM⟩:=eX w.heap.size;rw[←hM]at HX ⊢;have d:w.heap.size≤M:=by omega
 clear hM a1 a2 a3 a4;go_wp2_with fail;go_loopw [7] (fun i wr=>∃(k:Nat)(A:Option Addr)(c:Nat),k≤r∧i=.int .i64 k∧Qh wr M 236 #[.int .i64 q,.slice A k c]∧wr.ownsRow w.heap.size 4 1 (.slice A k c) k (List.replicate k (.bool true))∧Below w.heap.size w wr) (fun i _=>r-(intOf i).toNat)
 case atStart=>exact⟨0,none,0,Nat.zero_le _,rfl,HX.o,Zs _ _ _ _,HB.o⟩
 obtain⟨k,A,c,hk,rfl,hx,ho,hb⟩:=hrel;have D:=Qa hx;have HO:=Qa ho;have B:=Qa hb;have v:=hb.size;by_cases hkr:k<r
 ·have j:(k:Int)<r:=by omega
  have c1:wr.cell? ⟨M,1,none⟩=some (.slice A k c):=hx.cell 1;have xl:=hx.lt;have C:Qb (Rd (wr.alloc (.cells #[.bool true] 4)) (wr.alloc (.cells #[.bool true] 4)).heap.size 1 (some ⟨wr.heap.size,0,none⟩) 1 [.bool true]):=Kq (Sl.Ja (sz:=1) (n:=1) (xs:=[.bool true]) (Qh.new wr 4 #[.bool true]) rfl);have f:=Qa (Qu ho (.cells #[.bool true] 4));have y:Qb (∀u∈([.bool true]:List Value),u.oneCell'=true):=by
   show ∀u∈([.bool true]:List Value),u.oneCell'=true;simp[Value.oneCell']
  have g:=Qa (hx.alloc (.cells #[.bool true] 4));have E:=Qa (hb.alloc v (.cells #[.bool true] 4));clear hx ho hb;go_wp2_with (at_builtin;refine Qv _ rfl _ _ 46 rfl w.heap.size 4 i4 _ 1 1 Gd t x s z rfl (by decide) (.slice A k c) k (List.replicate k (.bool true)) rfl f.o (some ⟨wr.heap.size,0,none⟩) 1 1 _ [.bool true] rfl C.o y.o (by unfold maxLen;omega) (by omega) (by simp;omega) ?_;intro A4 c4 w4 hown4 hgr4 hnc4 _;(have b:=Qa hown4);(have h:=Qa hgr4);(have a:=g.o.grown hgr4 (Xl f.o g.o (by decide)));(have l:=Qa a);(have e1:=a.cell 1);(have e2:=a.free 1);(have e3:=a.lt);clear hown4 hgr4 a);go_roundw
  case rel=>
   have k4:=Q7 f.o h.o (by simp;omega);have m:Qh (w4.setCell ⟨M,1,none⟩ (.slice A4 (k+1) c4)) M 236 #[.int .i64 q,.slice A4 (k+1) c4]:=by
    have:=l.o.set 1 (.slice A4 (k+1) c4);simpa using this
   have p:(w4.setCell ⟨M,1,none⟩ (.slice A4 (k+1) c4)).ownsRow w.heap.size 4 1 (.slice A4 (k+1) c4) (k+1) (List.replicate (k+1) (.bool true)):=by
    have k5:Qd w.heap.size [236] w4 (w4.setCell ⟨M,1,none⟩ (.slice A4 (k+1) c4)):=(Qd.refl _ _ w4).set l.o d (by simp) _;have:=QF b.o k5 (by decide);rw[List.replicate_succ'];exact this
   exact⟨k+1,A4,c4,by omega,by simp,m,p,Jo (E.o.trans k4.below) d _⟩
  case measure=>simp[intOf];omega
 obtain rfl:k=r:=by omega
 have j:¬(k:Int)<k:=by omega
 clear hx ho hb;go_wp2_with fail;go_ret2;exact⟨⟨M,A,c,rfl,d,D.o,HO.o⟩,B.o⟩
abbrev VM(z:Int)(A:Option Addr)(c:Nat)(h s e:Int)(mp:Value):Array Value:=#[.int .i64 z,.slice none 0 0,.slice none 0 0,.slice none 0 0,.slice A 0 c,.int .i64 0,.int .i64 h,.int .i64 s,.int .i64 e,mp,.int .i64 0,.int .i64 0]
theorem WR(z:Int)(A:Option Addr)(c:Nat)(h s e:Int)(M:Nat)(w:World):
  Calls prog 128 #[.agg (VM z A c h s e (.pointer (some ⟨M,0,none⟩)))] w fun en w'=>en=.returned (.slice none 0 0)∧Below w.heap.size w w':=by
 have HX:=Qa (Qh.new w 39 (VM z A c h s e (.pointer (some ⟨M,0,none⟩))));have HB:Qb (Below w.heap.size w (w.alloc (.cells (VM z A c h s e (.pointer (some ⟨M,0,none⟩))) 39))):=bR.alloc nR _;go_enter func128,ntmps128;go_upto_region 1 with fail;generalize w.alloc (.cells (VM z A c h s e (.pointer (some ⟨M,0,none⟩))) 39)=w1 at*
 have c1:w1.cell? ⟨w.heap.size,1,none⟩=some (.slice none 0 0):=HX.o.cell 1;have c2:w1.cell? ⟨w.heap.size,2,none⟩=some (.slice none 0 0):=HX.o.cell 2;have c3:w1.cell? ⟨w.heap.size,3,none⟩=some (.slice none 0 0):=HX.o.cell 3;have xl:=HX.o.lt;go_wp2_with fail;go_loopw [3,13] (fun y i wr=>y=.slice none 0 0∧i=.int .i64 0∧wr=w1) (fun _ _ _=>0)
 case atStart=>exact⟨rfl,rfl,rfl⟩
 obtain⟨rfl,rfl,rfl⟩:=hrel;go_wp2_with fail;go_loopw [3,32] (fun y i wq=>y=.slice none 0 0∧i=.int .i64 0∧wq=wr) (fun _ _ _=>0)
 case atStart=>exact⟨rfl,rfl,rfl⟩
 obtain⟨rfl,rfl,rfl⟩:=hrel;go_wp2_with fail;go_loopw [3,45] (fun y i wq=>y=.slice none 0 0∧i=.int .i64 0∧wq=wr) (fun _ _ _=>0)
 case atStart=>exact⟨rfl,rfl,rfl⟩
 obtain⟨rfl,rfl,rfl⟩:=hrel;go_wp2_with fail;go_ret;exact⟨rfl,HB.o⟩
def Fa(p v:Value):Sem Unit:=Instr.storeAt 36 p v
theorem Ib(p v:Value):Instr.storeAt 36 p v=Fa p v:=rfl
theorem OY:(prog.info? 36).map (·.size)=some 5:=by kernel_rfl
variable {cs:Array Value} {g:Nat} {w:World}
theorem Oa{v:Array Value}(hk:Qh w g 36 cs)(hs:cs.size=5)(hv:v.size=5)(h1:v.all (·.oneCell')=true):(Fa (.pointer (some ⟨g,0,none⟩)) (.agg v)).run prog w=.ok () (w.setRow g v):=by
 have:=run_storeVar_row (P:=prog) w g 36 36 cs v hk (by rw[hv];exact OY) (by omega) h1;simp only[Fa,Instr.storeAt,Instr.sureAddr,Sem.run_bind,Sem.run_pure,Result.andThen_ok,this]
theorem WZ(A:Option Addr)(c h s:Nat)(e:Int)(hh:h<2^40)(hs:s<2^40)(he:0≤e∧e<1099511627776)(hr:Qf s 0≤h)(w:World):
  Calls prog 127 #[.agg (QL A c h s e),.slice none 0 0] w fun en w'=>(∃A' c',en=.returned (.tuple #[.agg (QL A' c' h s (e+1)),.int .i64 0]))∧Below w.heap.size w w':=by
 have HX:Qb (Qh ((w.alloc (.cells (QL A c h s e) 36)).alloc (.cells (QL none 0 0 0 0) 36)) w.heap.size 36 (QL A c h s e)):=(Qh.new _ _ _).alloc _;have HG:Qb (Qh ((w.alloc (.cells (QL A c h s e) 36)).alloc (.cells (QL none 0 0 0 0) 36)) (w.heap.size+1) 36 (QL none 0 0 0 0)):=Qh.Qz (by simp);have HB:Qb (Below w.heap.size w ((w.alloc (.cells (QL A c h s e) 36)).alloc (.cells (QL none 0 0 0 0) 36))):=(bR.alloc nR _).alloc (by simp) _;have HR:=Qa (fun wy=>Z9 A c h s e hh hs wy);have HN:=Qa (fun wy=>UF s none 0 wy);have hn:=JE (s:=s) (n:=0);generalize Qf s 0=N at*
 have q1:IntKind.i64.wrap (e+1)=e+1:=by rw[IntKind.wrap_i64];omega
 have q2:decide ((0:Int)>(h:Int)-(N:Int))=false:=decide_eq_false (by omega);go_enter func127,ntmps127;go_upto_region 1 with fail;generalize (w.alloc (.cells (QL A c h s e) 36)).alloc (.cells (QL none 0 0 0 0) 36)=w1 at*
 have q:=HB.o.size;go_wp2_with fail;go_loopw [6] (fun i wr=>i=.int .i64 0∧wr=w1) (fun _ _=>0)
 case atStart=>exact⟨rfl,rfl⟩
 obtain⟨rfl,rfl⟩:=hrel
 have SK:=Qa (show ∀wy,Below wr.heap.size wr wy→wy.cell? ⟨w.heap.size,0,none⟩=some (.slice A 0 c)∧wy.cell? ⟨w.heap.size,1,none⟩=some (.int .i64 0)∧wy.cell? ⟨w.heap.size,2,none⟩=some (.int .i64 h)∧wy.cell? ⟨w.heap.size,3,none⟩=some (.int .i64 s)∧wy.cell? ⟨w.heap.size,4,none⟩=some (.int .i64 e) from fun wy hy=>by
  have hx:=HX.o.below hy HX.o.lt;exact⟨hx.cell 0,hx.cell 1,hx.cell 2,hx.cell 3,hx.cell 4⟩)
 have S0:=Qa (SK.o _ bR.drew);go_upto_region 6 with fail;go_cut [27] (fun v wx=>v=.bool false∧Below wr.heap.size wr wx)
 case first=>
  go_region_held3 (fun wy=>wy.cell? ⟨w.heap.size,0,none⟩=some (.slice A 0 c)∧wy.cell? ⟨w.heap.size,1,none⟩=some (.int .i64 0)∧wy.cell? ⟨w.heap.size,2,none⟩=some (.int .i64 h)∧wy.cell? ⟨w.heap.size,3,none⟩=some (.int .i64 s)∧wy.cell? ⟨w.heap.size,4,none⟩=some (.int .i64 e))
   (first|exact S0.o|exact SK.o _ b.o)
   (first
    |(go_at_call 125;refine(HN.o _).mono ?_;rintro en w' ⟨rfl,rfl⟩)
    |(go_at_call 124;refine(HR.o _).mono ?_;rintro en w3 ⟨rfl,hb⟩;(have b:Qb (Below wr.heap.size wr w3):=bR.drew.trans hb);clear hb))
  all_goals
   go_wp2_with fail;go_meet;exact⟨rfl,b.o⟩
 obtain⟨rfl,f⟩:=hcut;have d:=Qa (HX.o.below f HX.o.lt);have l:=Qa (HG.o.below f HG.o.lt);have b:=Qa (HB.o.trans (f.mono q));have x0:wc.cell? ⟨w.heap.size,0,none⟩=some (.slice A 0 c):=d.o.cell 0;have f0:=d.o.free 0;have xl:=d.o.lt;clear f HX HG HB SK S0;go_upto_region 9 with fail;have a:Qb (Qh ((wc.setCell ⟨w.heap.size,0,none⟩ (.slice (some ⟨wc.heap.size,0,none⟩) 0 0)).alloc (.cells #[] 247)) w.heap.size 36 (QL (some ⟨wc.heap.size,0,none⟩) 0 h s e)):=by
  have:=(d.o.set 0 (.slice (some ⟨wc.heap.size,0,none⟩) 0 0)).alloc (.cells #[] 247);show Qh _ _ _ _;simpa using this
 have g:w.heap.size+1≠w.heap.size:=by omega
 have j:=Qa ((l.o.Yq g (o:=0) (.slice (some ⟨wc.heap.size,0,none⟩) 0 0)).alloc (.cells #[] 247));have k:=Qa ((Jo (o:=0) b.o nR (.slice (some ⟨wc.heap.size,0,none⟩) 0 0)).alloc (by have:=b.o.size;simpa [World.setCell]using this) (.cells #[] 247));clear x0 f0 xl d l b;generalize (wc.setCell ⟨w.heap.size,0,none⟩ (.slice (some ⟨wc.heap.size,0,none⟩) 0 0)).alloc (.cells #[] 247)=w5 at*
 generalize wc.heap.size=g5 at*
 have x1:w5.cell? ⟨w.heap.size,1,none⟩=some (.int .i64 0):=a.o.cell 1;have f1:=a.o.free 1;have f4:=a.o.free 4;have x4:w5.cell? ⟨w.heap.size,4,none⟩=some (.int .i64 e):=a.o.cell 4;have xl:=a.o.lt;go_upto_region 11 with fail;have r:Qb (Qh ((w5.setCell ⟨w.heap.size,1,none⟩ (.int .i64 0)).setCell ⟨w.heap.size,4,none⟩ (.int .i64 (e+1))) w.heap.size 36 (QL (some ⟨g5,0,none⟩) 0 h s (e+1))):=by
  have:=(a.o.set 1 (.int .i64 0)).set 4 (.int .i64 (e+1));show Qh _ _ _ _;simpa using this
 have m:=Qa ((j.o.Yq (o:=1) g (.int .i64 0)).Yq (o:=4) g (.int .i64 (e+1)));have p:=Qa (Jo (o:=4) (Jo (o:=1) k.o nR (.int .i64 0)) nR (.int .i64 (e+1)));have HI:Qb ((prog.info? 36).map (·.size)=some (QL (some ⟨g5,0,none⟩) 0 h s (e+1)).size):=OY;have H1:Qb ((QL (some ⟨g5,0,none⟩) 0 h s (e+1)).all (·.oneCell')=true):=Qa (by simp[Value.oneCell']);clear x1 f1 f4 x4 xl a j k;generalize (w5.setCell ⟨w.heap.size,1,none⟩ (.int .i64 0)).setCell ⟨w.heap.size,4,none⟩ (.int .i64 (e+1))=w6 at*
 go_wp2_with (first
  |(refine wpList_load_row rfl 36 _ rfl w.heap.size rfl 36 (QL (some ⟨g5,0,none⟩) 0 h s (e+1)) (0,0) _ r.o underlying36 rfl HI.o ?_)
  |(refine wpList_store_row rfl 36 _ _ rfl (w.heap.size+1) (QL (some ⟨g5,0,none⟩) 0 h s (e+1)) rfl rfl 36 (QL none 0 0 0 0) m.o HI.o rfl H1.o ?_))
 refine bodyPost_ret (v:=.tuple #[.agg (QL (some ⟨g5,0,none⟩) 0 h s (e+1)),.int .i64 0]) (Ql results127 _ _ (w.heap.size+1) 36 _ (0,0) _ rfl (Qp m.o _) underlying36 rfl HI.o) rfl ?_;exact⟨⟨_,_,rfl⟩,p.o.trans (Qg (Qm _ _ _) p.o.size (gB (by omega)))⟩
theorem Qh.DK{g b:Nat}{t:TypeId}{cs:Array Value}(hne:g≠b):∀(vs:List Value)(w:World)(o:Nat),Qh w g t cs→Qh (w.setCells b o vs) g t cs
 |[],_,_,h=>h
 |v::vs,_,_,h=>Qh.DK hne vs _ _ (h.Yq hne v)
theorem Zo{B b:Nat}(hb:B≤b):∀(vs:List Value)(a w:World)(o:Nat),Below B a w→Below B a (w.setCells b o vs)
 |[],_,_,_,h=>h
 |v::vs,a,_,o,h=>Zo hb vs a _ _ (Jo (o:=o) h hb v)
theorem ZF(w:World)(b o:Nat)(cells:Array Value)(ht:w.there b o cells.size)(hs:cells.size=5)(h1:cells.all (·.oneCell')=true):(Fa (.pointer (some ⟨b,o,none⟩)) (.agg cells)).run prog w=.ok () (w.setCells b o cells.toList):=
 run_storeAt_mid (P:=prog) w b o 36 cells ht (by rw[hs];exact OY) h1
abbrev Ji:Array Value:=#[.int .i64 0,.slice none 0 0,.slice none 0 0,.slice none 0 0,.slice none 0 0,.int .i64 0,.int .i64 0,.int .i64 0,.int .i64 0,.pointer none,.int .i64 0,.int .i64 0]
theorem Jy:(prog.info? 39).map (·.size)=some 12:=by kernel_rfl
section
attribute [local go_sem ↓] Ib
theorem Tj(z h s e M:Nat)(hh:h<2^40)(hs:s<2^40)(he:e<1099511627776)(hr:Qf s 0≤h)(w:World):
  Calls prog 69 #[.agg (VM z none 0 h s e (.pointer (some ⟨M,0,none⟩)))] w fun en w'=>(∃A c,en=.returned (.tuple #[.agg (VM z A c h s (e+1:Nat) (.pointer (some ⟨M,0,none⟩))),.int .i64 0]))∧Below w.heap.size w w':=by
 have HX:Qb (Qh ((w.alloc (.cells (VM z none 0 h s e (.pointer (some ⟨M,0,none⟩))) 39)).alloc (.cells Ji 39)) w.heap.size 39 (VM z none 0 h s e (.pointer (some ⟨M,0,none⟩)))):=(Qh.new _ _ _).alloc _;have HG:Qb (Qh ((w.alloc (.cells (VM z none 0 h s e (.pointer (some ⟨M,0,none⟩))) 39)).alloc (.cells Ji 39)) (w.heap.size+1) 39 Ji):=Qh.Qz (by simp);have HB:Qb (Below w.heap.size w ((w.alloc (.cells (VM z none 0 h s e (.pointer (some ⟨M,0,none⟩))) 39)).alloc (.cells Ji 39))):=(bR.alloc nR _).alloc (by simp) _;have q:=Qa (fun wy=>WR z none 0 h s e M wy);have p:=Qa (fun wy=>WZ none 0 h s e hh hs (by omega) hr wy);go_enter func69,ntmps69;go_upto_region 1 with fail;generalize (w.alloc (.cells (VM z none 0 h s e (.pointer (some ⟨M,0,none⟩))) 39)).alloc (.cells Ji 39)=w1 at*
 have C:=HB.o.size
 have SK:=Qa (show ∀wy,Below w1.heap.size w1 wy→wy.cell? ⟨w.heap.size,0,none⟩=some (.int .i64 z)∧wy.cell? ⟨w.heap.size,1,none⟩=some (.slice none 0 0)∧wy.cell? ⟨w.heap.size,2,none⟩=some (.slice none 0 0)∧wy.cell? ⟨w.heap.size,3,none⟩=some (.slice none 0 0)∧wy.cell? ⟨w.heap.size,4,none⟩=some (.slice none 0 0)∧wy.cell? ⟨w.heap.size,5,none⟩=some (.int .i64 0)∧wy.cell? ⟨w.heap.size,6,none⟩=some (.int .i64 h)∧wy.cell? ⟨w.heap.size,7,none⟩=some (.int .i64 s)∧wy.cell? ⟨w.heap.size,8,none⟩=some (.int .i64 e)∧wy.cell? ⟨w.heap.size,9,none⟩=some (.pointer (some ⟨M,0,none⟩))∧wy.cell? ⟨w.heap.size,10,none⟩=some (.int .i64 0)∧wy.cell? ⟨w.heap.size,11,none⟩=some (.int .i64 0) from fun wy hy=>by
  have hx:=HX.o.below hy HX.o.lt;exact⟨hx.cell 0,hx.cell 1,hx.cell 2,hx.cell 3,hx.cell 4,hx.cell 5,hx.cell 6,hx.cell 7,hx.cell 8,hx.cell 9,hx.cell 10,hx.cell 11⟩)
 have S0:=Qa (SK.o _ bR.drew);have BZ:Qb (Below w1.heap.size w1 (w1.alloc (.cells (QL none 0 0 0 0) 36)).drew):=(bR.alloc nR _).drew;have HZ:=Qa ((Qh.new w1 36 (QL none 0 0 0 0)).drew);have u:w1.heap.size≤(w1.alloc (.cells (QL none 0 0 0 0) 36)).drew.heap.size:=BZ.o.size;go_cut [4,5] (fun v4 v5 wx=>∃A c g,v4=.pointer (some ⟨g,0,none⟩)∧v5=.int .i64 0∧w1.heap.size≤g∧Below w1.heap.size w1 wx∧Qh wx g 36 (QL A c h s (e+1)))
 case first=>
  go_region_held3 (fun wy=>wy.cell? ⟨w.heap.size,0,none⟩=some (.int .i64 z)∧wy.cell? ⟨w.heap.size,1,none⟩=some (.slice none 0 0)∧wy.cell? ⟨w.heap.size,2,none⟩=some (.slice none 0 0)∧wy.cell? ⟨w.heap.size,3,none⟩=some (.slice none 0 0)∧wy.cell? ⟨w.heap.size,4,none⟩=some (.slice none 0 0)∧wy.cell? ⟨w.heap.size,5,none⟩=some (.int .i64 0)∧wy.cell? ⟨w.heap.size,6,none⟩=some (.int .i64 h)∧wy.cell? ⟨w.heap.size,7,none⟩=some (.int .i64 s)∧wy.cell? ⟨w.heap.size,8,none⟩=some (.int .i64 e)∧wy.cell? ⟨w.heap.size,9,none⟩=some (.pointer (some ⟨M,0,none⟩))∧wy.cell? ⟨w.heap.size,10,none⟩=some (.int .i64 0)∧wy.cell? ⟨w.heap.size,11,none⟩=some (.int .i64 0))
   (first|exact S0.o|exact S5.o|exact SK.o _ b.o|exact SK.o _ n.o|exact SK.o _ l.o|exact SK.o _ a.o|exact SK.o _ BZ.o|exact SK.o _ (bR.drew.alloc nR _))
   (first
    |(go_at_call 128;refine(q.o _).mono ?_;rintro en w3 ⟨rfl,hb⟩;(have a:Qb (Below w1.heap.size w1 w3):=BZ.o.trans (hb.mono u));(have x:=Qa (HZ.o.below hb HZ.o.lt));clear hb)
    |(go_at_call 128;refine(q.o _).mono ?_;rintro en w3 ⟨rfl,hb⟩;(have a:Qb (Below w1.heap.size w1 w3):=bR.drew.trans hb);(have a0:=a.o.size);(have l:Qb (Below w1.heap.size w1 (w3.alloc (.cells (QL none 0 0 0 0) 36))):=a.o.alloc a.o.size _);(have k:Qb (Qh (w3.alloc (.cells (QL none 0 0 0 0) 36)) w3.heap.size 36 (QL none 0 0 0 0)):=Qh.new _ _ _);clear hb)
    |(go_at_call 127;refine(p.o _).mono ?_;rintro en w4 ⟨⟨A4,c4,rfl⟩,hb⟩;(have b:Qb (Below w1.heap.size w1 w4):=a.o.trans (hb.mono a.o.size));(have f:=Qa (x.o.below hb x.o.lt));(have zs:=Oa (v:=QL A4 c4 h s (e+1)) f.o rfl rfl (by simp[Value.oneCell']));(have i:Qb (Below w1.heap.size w1 (w4.setRow w1.heap.size (QL A4 c4 h s (e+1)))∧Qh (w4.setRow w1.heap.size (QL A4 c4 h s (e+1))) w1.heap.size 36 (QL A4 c4 h s (e+1))∧w1.heap.size≤w1.heap.size):=⟨b.o.trans (Qg (Qm _ _ _) b.o.size (gB (by omega))),Qp f.o _,by omega⟩);(have S5:=Qa (SK.o _ i.o.1));clear hb)
    |(go_at_call 127;refine(p.o _).mono ?_;rintro en w4 ⟨⟨A4,c4,rfl⟩,hb⟩;(have b:Qb (Below w1.heap.size w1 w4):=l.o.trans (hb.mono l.o.size));(have f:=Qa (k.o.below hb k.o.lt));(have zs:=Oa (v:=QL A4 c4 h s (e+1)) f.o rfl rfl (by simp[Value.oneCell']));(have i:Qb (Below w1.heap.size w1 (w4.setRow w3.heap.size (QL A4 c4 h s (e+1)))∧Qh (w4.setRow w3.heap.size (QL A4 c4 h s (e+1))) w3.heap.size 36 (QL A4 c4 h s (e+1))∧w1.heap.size≤w3.heap.size):=⟨b.o.trans (Qg (Qm _ _ _) b.o.size (gB (by omega))),Qp f.o _,by omega⟩);(have S5:=Qa (SK.o _ i.o.1));clear hb)
    |(go_at_call 127;refine(p.o _).mono ?_;rintro en w4 ⟨⟨A4,c4,rfl⟩,hb⟩;(have n:Qb (Below w1.heap.size w1 w4):=a.o.trans (hb.mono a.o.size));(have E:=n.o.size);(have b:Qb (Below w1.heap.size w1 (w4.alloc (.cells (QL none 0 0 0 0) 36))):=n.o.alloc E _);(have f:Qb (Qh (w4.alloc (.cells (QL none 0 0 0 0) 36)) w4.heap.size 36 (QL none 0 0 0 0)):=Qh.new _ _ _);(have zs:=Oa (v:=QL A4 c4 h s (e+1)) f.o rfl rfl (by simp[Value.oneCell']));(have i:Qb (Below w1.heap.size w1 ((w4.alloc (.cells (QL none 0 0 0 0) 36)).setRow w4.heap.size (QL A4 c4 h s (e+1)))∧Qh ((w4.alloc (.cells (QL none 0 0 0 0) 36)).setRow w4.heap.size (QL A4 c4 h s (e+1))) w4.heap.size 36 (QL A4 c4 h s (e+1))∧w1.heap.size≤w4.heap.size):=⟨b.o.trans (Qg (Qm _ _ _) b.o.size (gB (by omega))),Qp f.o _,by omega⟩);(have S5:=Qa (SK.o _ i.o.1));clear hb))
  all_goals
   go_wp2_with fail;go_meet;exact⟨A4,c4,_,rfl,rfl,i.o.2.2,i.o.1,i.o.2.1⟩
 obtain⟨A4,c4,g,rfl,rfl,a1,j,d⟩:=hcut;have m:=Qa (HX.o.below j HX.o.lt);have t:=Qa (HG.o.below j HG.o.lt);have r:=Qa (HB.o.trans (j.mono C));have D:w.heap.size+1≠w.heap.size:=by omega
 have hc:=d;have x0:wc.cell? ⟨g,0,none⟩=some (.slice A4 0 c4):=d.cell 0;have x1:wc.cell? ⟨g,1,none⟩=some (.int .i64 0):=d.cell 1;have x2:wc.cell? ⟨g,2,none⟩=some (.int .i64 h):=d.cell 2;have x3:wc.cell? ⟨g,3,none⟩=some (.int .i64 s):=d.cell 3;have x4:wc.cell? ⟨g,4,none⟩=some (.int .i64 (e+1)):=d.cell 4;have xl:=d.lt;have zs:=ZF wc w.heap.size 4 #[.slice A4 0 c4,.int .i64 0,.int .i64 h,.int .i64 s,.int .i64 (e+1)] (m.o.there 4 5 (by simp)) rfl (by simp[Value.oneCell']);have F:Qb (Qh (wc.setCells w.heap.size 4 [.slice A4 0 c4,.int .i64 0,.int .i64 h,.int .i64 s,.int .i64 (e+1)]) w.heap.size 39 (VM z A4 c4 h s (e+1) (.pointer (some ⟨M,0,none⟩)))):=by
  have:=m.o.sets [.slice A4 0 c4,.int .i64 0,.int .i64 h,.int .i64 s,.int .i64 (e+1)] 4;show Qh _ _ _ _;simpa [Er]using this
 have y:=Qa (Qh.DK D [.slice A4 0 c4,.int .i64 0,.int .i64 h,.int .i64 s,.int .i64 (e+1)] wc 4 t.o);have B:=Qa (Zo nR [.slice A4 0 c4,.int .i64 0,.int .i64 h,.int .i64 s,.int .i64 (e+1)] w wc 4 r.o);clear j d hc SK S0 BZ HZ u;go_upto_region 5 with fail;have HI:Qb ((prog.info? 39).map (·.size)=some (VM z A4 c4 h s (e+1) (.pointer (some ⟨M,0,none⟩))).size):=Jy;have H1:Qb ((VM z A4 c4 h s (e+1) (.pointer (some ⟨M,0,none⟩))).all (·.oneCell')=true):=Qa (by simp[Value.oneCell']);clear zs x0 x1 x2 x3 x4 xl m t r;generalize wc.setCells w.heap.size 4 [.slice A4 0 c4,.int .i64 0,.int .i64 h,.int .i64 s,.int .i64 (e+1)]=w6 at*
 go_wp2_with (first
  |(refine wpList_load_row rfl 39 _ rfl w.heap.size rfl 39 (VM z A4 c4 h s (e+1) (.pointer (some ⟨M,0,none⟩))) (0,0) _ F.o underlying39 rfl HI.o ?_)
  |(refine wpList_store_row rfl 39 _ _ rfl (w.heap.size+1) (VM z A4 c4 h s (e+1) (.pointer (some ⟨M,0,none⟩))) rfl rfl 39 Ji y.o HI.o rfl H1.o ?_))
 refine bodyPost_ret (v:=.tuple #[.agg (VM z A4 c4 h s (e+1) (.pointer (some ⟨M,0,none⟩))),.int .i64 0]) (Ql results69 _ _ (w.heap.size+1) 39 _ (0,0) _ rfl (Qp y.o _) underlying39 rfl HI.o) rfl ?_;exact⟨⟨_,_,rfl⟩,B.o.trans (Qg (Qm _ _ _) B.o.size (gB (by omega)))⟩
end
section
open Go.Shelf Go.Sort
def Js(size:Nat)(rs:List QN):Nat:=(rs.map fun r=>Qf size (1+r.2.length)).sum
theorem Tm(size:Nat)(a b:List QN):Js size (a++b)=Js size a+Js size b:=by
 unfold Js;rw[List.map_append,List.sum_append_nat]
theorem W4(size:Nat)(r:QN):Js size [r]=Qf size (1+r.2.length):=by simp[Js]
theorem N3(size:Nat)(rs:List QN)(k:Nat)(hk:k<rs.length):Js size (rs.take (k+1))=Js size (rs.take k)+Qf size (1+rs[k].2.length):=by
 rw[List.take_succ_eq_append_getElem hk,Tm,W4]
theorem Ot(size:Nat)(rs:List QN):Js size rs≤rs.length*1073741826:=by
 induction rs with
 |nil=>simp[Js]
 |cons r rs ih=>
  have h1:Js size (r::rs)=Qf size (1+r.2.length)+Js size rs:=by simp[Js]
  have h2:=JE (s:=size) (n:=1+r.2.length);rw[h1,List.length_cons,Nat.succ_mul];omega
theorem It(s:Nat)(hs:s<2^40)(A:Option Addr)(n c:Nat)(L:List Kx)(hn:n=L.length)(h:Rd w w.heap.size 2 A n (QI L))(hb:∀x∈L,x.1.2.length<1099511627776)(hl:n≤2000000):
  Calls prog 125 #[.int .i64 s,.slice A n c] w fun e w'=>e=.returned (.int .i64 (Js s (L.map (·.1))))∧w=w':=by
 have HN:=Qa (fun (k:Nat) (hk:k<2^62) wy=>V8 s k (by omega) hk wy);have HR:=Qa h;have m:=Qa hb;have HL:=Qa hn;clear h hb hn;go_enter func125,ntmps125;go_wp2_with fail;go_loopw [5,6] (fun x i wr=>∃k:Nat,k≤n∧x=.int .i64 (Js s ((L.map (·.1)).take k))∧i=.int .i64 (k:Nat)∧wr=w) (fun _ i _=>n-(intOf i).toNat)
 case atStart=>exact⟨0,Nat.zero_le _,rfl,rfl,rfl⟩
 obtain⟨k,hk,rfl,rfl,rfl⟩:=hrel;have g:=Ot s ((L.map (·.1)).take k);have f:((L.map (·.1)).take k).length≤2000000:=by rw[List.length_take];omega
 have hT:Js s ((L.map (·.1)).take k)≤2000000*1073741826:=Nat.le_trans g (Nat.mul_le_mul_right _ f);by_cases hkl:k<n
 ·have j:(k:Int)<n:=by omega
  have a0:(0:Int)≤k:=by omega
  have d:k<L.length:=by rw[←HL.o];exact hkl
  have hE:=N3 s (L.map (·.1)) k (by rw[List.length_map];exact d);rw[List.getElem_map]at hE;obtain⟨b,o,hA,a1,hc⟩:=HR.o.2 (by omega);have hp:=(Vf (fun x:Kx=>Value.int .u8 x.1.1) (fun x=>.slice x.2.1 x.1.2.length x.2.2) L k d).2;have l2:k*2+1<(QI L).length:=by rw[YE];omega
  have r:wr.cell? ⟨b,o+k*2+1,none⟩=some (.slice L[k].2.1 L[k].1.2.length L[k].2.2):=by
   rw[Nat.add_assoc,hc _ l2,←hp];exact(List.getElem?_eq_getElem l2).symm
  have p:=m.o _ (List.getElem_mem d);have l:=JE (s:=s) (n:=1+L[k].1.2.length);have HC:=Qa (HN.o (1+L[k].1.2.length) (by omega));rw[hA];generalize L[k]=x at*
  obtain⟨⟨kd,bs⟩,Ax,cx⟩:=x;simp only at r p l HC hE;generalize bs.length=q at*
  generalize Js s ((L.map (·.1)).take k)=T at*
  generalize Qf s (1+q)=N at*
  have HE:=Qa hE;have q1:IntKind.i64.wrap (1+(q:Int))=((1+q:Nat):Int):=by rw[IntKind.wrap_i64];omega
  have q2:IntKind.i64.wrap ((T:Int)+(N:Int))=((T+N:Nat):Int):=by rw[IntKind.wrap_i64];omega
  clear hE hc hp l2 l g f;go_wp2_with (go_at_call 67;refine(HC.o _).mono ?_;rintro en w' ⟨rfl,rfl⟩);go_roundw
  case rel=>exact⟨k+1,by omega,by rw[HE.o];simp,by simp,trivial⟩
  case measure=>simp[intOf];omega
 have t:k=n:=by omega
 subst t;have j:¬(k:Int)<k:=by omega
 have e1:(L.map (·.1)).take k=L.map (·.1):=List.take_of_length_le (by rw[List.length_map,←HL.o];exact nR);rw[e1];obtain⟨T,a⟩:=eX (Js s (L.map (·.1)));rw[←a];have HT:=Qa a;clear e1 g f hT a;go_wp2_with fail;go_ret;exact⟨by rw[←HT.o];rfl,rfl⟩
abbrev DZ(A:Option Addr)(n c:Nat)(la:Int)(h s e:Nat):Array Value:=#[.slice A n c,.int .i64 la,.int .i64 h,.int .i64 s,.int .i64 e]
theorem St(A:Option Addr)(n c:Nat)(la:Int)(h s e:Nat)(hh:h<2^40)(hs:s<2^40)(w:World):
  Calls prog 124 #[.agg (DZ A n c la h s e)] w fun en w'=>en=.returned (.int .i64 ((h:Int)-(Qf s 0:Nat)))∧Below w.heap.size w w':=by
 have HX:=Qa (Qh.new w 36 (DZ A n c la h s e));have HB:Qb (Below w.heap.size w (w.alloc (.cells (DZ A n c la h s e) 36))):=bR.alloc nR _;have HN:=Qa (show ∀wy,Calls prog 67 #[.int .i64 s,.int .i64 0] wy fun e w'=>e=.returned (.int .i64 (Qf s 0:Nat))∧wy=w' from fun wy=>V8 s 0 (by omega) (by omega) wy);have hn:=JE (s:=s) (n:=0);generalize Qf s 0=N at*
 have q1:IntKind.i64.wrap ((h:Int)-(N:Int))=(h:Int)-(N:Int):=by rw[IntKind.wrap_i64];omega
 go_enter func124,ntmps124;go_upto_region 1 with fail;generalize w.alloc (.cells (DZ A n c la h s e) 36)=w1 at*
 have S0:=Qa (show w1.drew.cell? ⟨w.heap.size,2,none⟩=some (.int .i64 h)∧w1.drew.cell? ⟨w.heap.size,3,none⟩=some (.int .i64 s) from ⟨HX.o.drew.cell 2,HX.o.drew.cell 3⟩)
 go_region_held3 (fun wy=>wy.cell? ⟨w.heap.size,2,none⟩=some (.int .i64 h)∧wy.cell? ⟨w.heap.size,3,none⟩=some (.int .i64 s))
  (first|exact S0.o)
  (first|(go_at_call 67;refine(HN.o _).mono ?_;rintro en w' ⟨rfl,rfl⟩))
 all_goals
  go_wp2_with fail;go_ret;exact⟨rfl,HB.o.trans (bR.drew.mono HB.o.size)⟩
def OO(h s:Nat)(rs:List QN):Int:=(h:Int)-(Qf s 0:Nat)-(Js s rs:Nat)
theorem ID(h s:Nat)(rs:List QN)(hh:h<2^40)(hl:rs.length≤2000000): -4000000000000000≤OO h s rs∧OO h s rs≤1099511627776∧ -1073741826≤(h:Int)-(Qf s 0:Nat):=by
 have h1:=Ot s rs;have h2:Js s rs≤2000000*1073741826:=Nat.le_trans h1 (Nat.mul_le_mul_right _ hl);have h3:=JE (s:=s) (n:=0);unfold OO;omega
theorem GR(A:Option Addr)(n c:Nat)(la:Int)(h s e:Nat)(hh:h<2^40)(hs:s<2^40)(L:List Kx)(hn:n=L.length)(hr:Sl w 247 2 A n (QI L))(hb:∀x∈L,x.1.2.length<1099511627776)(hl:n≤2000000):
  Calls prog 66 #[.agg (DZ A n c la h s e)] w fun en w'=>en=.returned (.int .i64 (OO h s (L.map (·.1))))∧Below w.heap.size w w':=by
 have HX:=Qa (Qh.new w 36 (DZ A n c la h s e));have HB:Qb (Below w.heap.size w (w.alloc (.cells (DZ A n c la h s e) 36))):=bR.alloc nR _;have HR:=Qa (fun wy=>St A n c la h s e hh hs wy);have HN:=Qa (show ∀wy,Below w.heap.size w wy→Calls prog 125 #[.int .i64 s,.slice A n c] wy fun e w'=>e=.returned (.int .i64 (Js s (L.map (·.1))))∧wy=w' from fun wy hy=>It s hs A n c L hn (hr.keeps (ts:=[]) (Qd.Qe (base:=0) hy (Nat.zero_le _)) (by simp)).1 hb hl);have b:=ID h s (L.map (·.1)) hh (by rw[List.length_map,←hn];exact hl);obtain⟨z,hz⟩:=eX (OO h s (L.map (·.1)));have f:z=(h:Int)-(Qf s 0:Nat)-(Js s (L.map (·.1)):Nat):=hz;rw[←hz]at b ⊢;generalize Js s (L.map (·.1))=T at*
 generalize Qf s 0=N at*
 obtain⟨y,hy⟩:∃y:Int,y=(h:Int)-(N:Int):=⟨_,rfl⟩;have q1:IntKind.i64.wrap (y-(T:Int))=z:=by rw[IntKind.wrap_i64];omega
 rw[←hy]at HR b;clear hz f hr hb hy hn;go_enter func66,ntmps66;go_upto_region 1 with fail;generalize w.alloc (.cells (DZ A n c la h s e) 36)=w1 at*
 have d:=HB.o.size
 have SK:=Qa (show ∀wy,Below w1.heap.size w1 wy→wy.cell? ⟨w.heap.size,0,none⟩=some (.slice A n c)∧wy.cell? ⟨w.heap.size,1,none⟩=some (.int .i64 la)∧wy.cell? ⟨w.heap.size,2,none⟩=some (.int .i64 h)∧wy.cell? ⟨w.heap.size,3,none⟩=some (.int .i64 s)∧wy.cell? ⟨w.heap.size,4,none⟩=some (.int .i64 e) from fun wy hy=>by
  have hx:=HX.o.below hy HX.o.lt;exact⟨hx.cell 0,hx.cell 1,hx.cell 2,hx.cell 3,hx.cell 4⟩)
 have S0:=Qa (SK.o _ bR.drew)
 go_region_held3 (fun wy=>wy.cell? ⟨w.heap.size,0,none⟩=some (.slice A n c)∧wy.cell? ⟨w.heap.size,1,none⟩=some (.int .i64 la)∧wy.cell? ⟨w.heap.size,2,none⟩=some (.int .i64 h)∧wy.cell? ⟨w.heap.size,3,none⟩=some (.int .i64 s)∧wy.cell? ⟨w.heap.size,4,none⟩=some (.int .i64 e))
  (first|exact S0.o|exact SK.o _ a.o)
  (first
   |(go_at_call 125;refine(HN.o _ (HB.o.trans ((a.o).mono d))).mono ?_;rintro en w' ⟨rfl,rfl⟩)
   |(go_at_call 124;refine(HR.o _).mono ?_;rintro en w3 ⟨rfl,hb⟩;(have a:Qb (Below w1.heap.size w1 w3):=bR.drew.trans hb);clear hb))
 all_goals
  go_wp2_with fail;go_ret;exact⟨rfl,HB.o.trans (a.o.mono d)⟩
end
section
open Go.Shelf Go.Sort
abbrev JM.log(m:JM)(A:Option Addr)(c:Nat)(L:List Kx)(la:Int):JM:={ m with AL:=A,cL:=c,L:=L,Qk:=la }
def Pc(w w':World)(m:JM)(q:Nat × QH)(e:Ending):Prop:=
 ∃A c L la,e=.returned (.tuple #[.agg (J1 q.2 (m.log A c L la)),.int .i64 q.1])∧JN w' q.2 (m.log A c L la)∧Below w.heap.size w w'
def XU(r:QH)(keep:List QN):Nat × QH:=
 if keep.any (fun x=>4000<x.2.length)then(1,r)
 else if(r.half:Int)-(Qf r.size 0:Nat)<(Js r.size keep:Nat)then(5,r)
 else(0,{ r with Qo:=keep,ep:=r.ep+1 })
structure XV (r:QH):Prop where
 h:r.half<2^40
 s:r.size<2^40
 e:r.ep<2^40
 n:r.Qo.length≤1000000
variable {A:Option Addr} {B n:Nat}
theorem EV{L:List Kx}(hn:n=L.length)(h:Rd w B 2 A n (QI L))(k:Nat)(hk:k<L.length):∃b o,A=some ⟨b,o,none⟩∧w.cell? ⟨b,o+k*2+1,none⟩=some (.slice L[k].2.1 L[k].1.2.length L[k].2.2):=by
 obtain⟨b,o,hA,a0,hc⟩:=h.2 (by omega);have hp:=(Vf (fun x:Kx=>Value.int .u8 x.1.1) (fun x=>.slice x.2.1 x.1.2.length x.2.2) L k hk).2;have l2:k*2+1<(QI L).length:=by rw[YE];omega
 refine⟨b,o,hA, ?_⟩;rw[Nat.add_assoc,hc _ l2,←hp];exact(List.getElem?_eq_getElem l2).symm
variable {r:QH}
theorem SI{m:JM}(h:JN w r m)(ok:XV r)(K:List Kx)(A:Option Addr)(n c:Nat)(hn:n=K.length)(hK:Sl w 247 2 A n (QI K))(hKb:Yj w K)(hKl:n≤1000000):
  Calls prog 127 #[.agg (J1 r m),.slice A n c] w fun e w'=>Pc w w' m (XU r (K.map (·.1))) e:=by
 have HX:Qb (Qh ((w.alloc (.cells (J1 r m) 36)).alloc (.cells (QL none 0 0 0 0) 36)) w.heap.size 36 (J1 r m)):=(Qh.new _ _ _).alloc _;have HG:Qb (Qh ((w.alloc (.cells (J1 r m) 36)).alloc (.cells (QL none 0 0 0 0) 36)) (w.heap.size+1) 36 (QL none 0 0 0 0)):=Qh.Qz (by simp);have HB:Qb (Below w.heap.size w ((w.alloc (.cells (J1 r m) 36)).alloc (.cells (QL none 0 0 0 0) 36))):=(bR.alloc nR _).alloc (by simp) _;have HR:=Qa (fun wy=>St m.AL r.Qo.length m.cL m.Qk r.half r.size r.ep ok.h ok.s wy);have HN:=Qa (show ∀wy,Below w.heap.size w wy→Calls prog 125 #[.int .i64 r.size,.slice A n c] wy fun e w'=>e=.returned (.int .i64 (Js r.size (K.map (·.1))))∧wy=w' from fun wy hy=>It r.size ok.s A n c K hn (hK.keeps (ts:=[]) (Qd.Qe (base:=0) hy (Nat.zero_le _)) (by simp)).1 (fun x hx=>(hKb x hx).2.2.2) (by omega));have HS:=Qa h;have HK:=Qa hK;have W:=Qa hKb;have HL:=Qa hn;have ao:=Qa ok;obtain⟨i0,ag,ab,af,ac⟩:=info_parts PE;have an:=ok.e;have hh:=ok.h;have a9:=JE (s:=r.size) (n:=0);have U:=Ot r.size (K.map (·.1));have hT:Js r.size (K.map (·.1))≤1000000*1073741826:=Nat.le_trans U (Nat.mul_le_mul_right _ (by rw[List.length_map,←hn];exact hKl));obtain⟨q,hq⟩:=eX (XU r (K.map (·.1)));rw[←hq];have HQ:=Qa hq;clear h ok hn hK hKb hq U
 -- the endings that turn nothing
 have HI:∀r':QH,∀m':JM,Qb ((prog.info? 36).map (·.size)=some (J1 r' m').size):=fun r' m'=>OY
 have H1:∀r':QH,∀m':JM,Qb ((J1 r' m').all (·.oneCell')=true):=fun r' m'=>Qa (by simp[Value.oneCell'])
 go_enter func127,ntmps127;go_upto_region 1 with fail;generalize (w.alloc (.cells (J1 r m) 36)).alloc (.cells (QL none 0 0 0 0) 36)=w1 at*
 have Y:=HB.o.size;go_wp2_with fail;go_loopw [6] (fun i wr=>∃k:Nat,k≤n∧i=.int .i64 (k:Nat)∧(∀j (hj:j<K.length),j<k→K[j].1.2.length≤4000)∧wr=w1) (fun i _=>n-(intOf i).toNat)
 case atStart=>exact⟨0,Nat.zero_le _,rfl,fun j _ hj=>by omega,rfl⟩
 obtain⟨k,hk,rfl,G,rfl⟩:=hrel;have z:=Qa G;clear G;by_cases hkl:k<n
 ·have a7:(k:Int)<n:=by omega
  have X:(0:Int)≤k:=by omega
  have Q:k<K.length:=by rw[←HL.o];exact hkl
  obtain⟨b,o,hA,ak⟩:=EV HL.o (HK.o.keeps (ts:=[]) (Qd.Qe (base:=0) HB.o (Nat.zero_le _)) (by simp)).1 k Q;have ai:=(W.o _ (List.getElem_mem Q)).2.2.2;obtain⟨q0,D⟩:=eX (K[k].1.2.length);rw[←D]at ak ai;rw[hA];by_cases h4:4000<q0
  ·have aa:(q0:Int)>4000:=by omega
   have p:q=(1,r):=by
    rw[HQ.o];unfold XU;rw[if_pos];rw[List.any_eq_true];exact⟨K[k].1,List.mem_map.2 ⟨_,List.getElem_mem Q,rfl⟩,by simp;omega⟩
   subst p;clear D
   go_wp2_with (first
    |(refine wpList_load_row rfl 36 _ rfl w.heap.size rfl 36 (J1 r m) (0,0) _ HX.o underlying36 rfl (HI r m).o ?_)
    |(refine wpList_store_row rfl 36 _ _ rfl (w.heap.size+1) (J1 r m) rfl rfl 36 (QL none 0 0 0 0) HG.o (HI r m).o rfl (H1 r m).o ?_))
   refine bodyPost_ret (v:=.tuple #[.agg (J1 r m),.int .i64 1]) (Ql results127 _ _ (w.heap.size+1) 36 _ (0,0) _ rfl (Qp HG.o _) underlying36 rfl (HI r m).o) rfl ?_;have u:Below w.heap.size w (wr.setRow (w.heap.size+1) (J1 r m)):=HB.o.trans (Qg (Qm _ _ _) HB.o.size (gB (by omega)));exact⟨m.AL,m.cL,m.L,m.Qk,rfl,HS.o.below u,u⟩
  have aa:¬((q0:Int)>4000):=by omega
  have ad:=Qa D;clear D;go_wp2_with fail;go_roundw
  case rel=>exact⟨k+1,by omega,by simp,fun j hj hjk=>by
   rcases Nat.lt_succ_iff_lt_or_eq.1 hjk with h|h
   ·exact z.o j hj h
   subst h;rw[←ad.o];omega,trivial⟩
  case measure=>simp[intOf];omega
 have al:k=n:=by omega
 subst al;have a7:¬(k:Int)<k:=by omega
 have F:¬((K.map (·.1)).any (fun x=>4000<x.2.length)=true):=by
  rw[List.any_eq_true];rintro⟨x,hx,ae⟩;obtain⟨y,hy,rfl⟩:=List.mem_map.1 hx;obtain⟨j,hj,rfl⟩:=List.getElem_of_mem hy;have:=z.o j hj (by rw[HL.o];exact hj);simp at ae;omega
 obtain⟨T,J⟩:=eX (Js r.size (K.map (·.1)));obtain⟨N,R⟩:=eX (Qf r.size 0);have p:q=if(r.half:Int)-(N:Nat)<(T:Nat)then(5,r)else(0,{ r with Qo:=K.map (·.1),ep:=r.ep+1 }):=by
  rw[HQ.o,J,R];unfold XU;rw[if_neg F]
 rw[←J]at HN hT;rw[←R]at HR a9;clear J R F z HQ;obtain⟨y,hy⟩:∃y:Int,y=(r.half:Int)-(N:Int):=⟨_,rfl⟩;rw[←hy]at HR p;clear hy a9
 have SK:=Qa (show ∀wy,Below wr.heap.size wr wy→wy.cell? ⟨w.heap.size,0,none⟩=some (.slice m.AL r.Qo.length m.cL)∧wy.cell? ⟨w.heap.size,1,none⟩=some (.int .i64 m.Qk)∧wy.cell? ⟨w.heap.size,2,none⟩=some (.int .i64 r.half)∧wy.cell? ⟨w.heap.size,3,none⟩=some (.int .i64 r.size)∧wy.cell? ⟨w.heap.size,4,none⟩=some (.int .i64 r.ep) from fun wy hy=>by
  have hx:=HX.o.below hy HX.o.lt;exact⟨hx.cell 0,hx.cell 1,hx.cell 2,hx.cell 3,hx.cell 4⟩)
 have S0:=Qa (SK.o _ bR.drew);go_upto_region 6 with fail;go_cut [27] (fun v wx=>v=.bool (decide (y<(T:Int)))∧Below wr.heap.size wr wx)
 case first=>
  go_region_held3 (fun wy=>wy.cell? ⟨w.heap.size,0,none⟩=some (.slice m.AL r.Qo.length m.cL)∧wy.cell? ⟨w.heap.size,1,none⟩=some (.int .i64 m.Qk)∧wy.cell? ⟨w.heap.size,2,none⟩=some (.int .i64 r.half)∧wy.cell? ⟨w.heap.size,3,none⟩=some (.int .i64 r.size)∧wy.cell? ⟨w.heap.size,4,none⟩=some (.int .i64 r.ep))
   (first|exact S0.o|exact SK.o _ f.o)
   (first
    |(go_at_call 125;refine(HN.o _ (HB.o.trans (bR.drew.mono Y))).mono ?_;rintro en w' ⟨rfl,rfl⟩)
    |(go_at_call 124;refine(HR.o _).mono ?_;rintro en w3 ⟨rfl,hb⟩;(have f:Qb (Below wr.heap.size wr w3):=bR.drew.trans hb);clear hb))
  all_goals
   go_wp2_with fail;go_meet;exact⟨by simp,f.o⟩
 obtain⟨rfl,E⟩:=hcut;have a:=Qa (HX.o.below E HX.o.lt);have C:=Qa (HG.o.below E HG.o.lt);have f:=Qa (HB.o.trans (E.mono Y));have P:w.heap.size+1≠w.heap.size:=by omega
 clear E HX HG HB SK S0 HN HR;by_cases hlt:y<(T:Int)
 ·have hd:decide (y<(T:Int))=true:=decide_eq_true hlt;have O:q=(5,r):=by rw[p,if_pos hlt]
  rw[hd];subst O;clear hd p hlt
  go_wp2_with (first
   |(refine wpList_load_row rfl 36 _ rfl w.heap.size rfl 36 (J1 r m) (0,0) _ a.o underlying36 rfl (HI r m).o ?_)
   |(refine wpList_store_row rfl 36 _ _ rfl (w.heap.size+1) (J1 r m) rfl rfl 36 (QL none 0 0 0 0) C.o (HI r m).o rfl (H1 r m).o ?_))
  refine bodyPost_ret (v:=.tuple #[.agg (J1 r m),.int .i64 5]) (Ql results127 _ _ (w.heap.size+1) 36 _ (0,0) _ rfl (Qp C.o _) underlying36 rfl (HI r m).o) rfl ?_;have u:Below w.heap.size w (wc.setRow (w.heap.size+1) (J1 r m)):=f.o.trans (Qg (Qm _ _ _) f.o.size (gB (by omega)));exact⟨m.AL,m.cL,m.L,m.Qk,rfl,HS.o.below u,u⟩
 have hd:decide (y<(T:Int))=false:=decide_eq_false hlt;have O:q=(0,{ r with Qo:=K.map (·.1),ep:=r.ep+1 }):=by rw[p,if_neg hlt]
 rw[hd];subst O;clear hd p hlt;have x0:wc.cell? ⟨w.heap.size,0,none⟩=some (.slice m.AL r.Qo.length m.cL):=a.o.cell 0;have f0:=a.o.free 0;have xl:=a.o.lt;have a6:Qb ((wc.alloc (.cells #[] 247)).ownsRow wc.heap.size 247 2 (.slice (some ⟨wc.heap.size,0,none⟩) 0 0) 0 []):=Qa (World.ownsRow_lit wc #[] 0 nR (by decide) rfl);have a5:Qb (Rd (wc.alloc (.cells #[] 247)) (wc.alloc (.cells #[] 247)).heap.size 2 A k (QI K)):=Qa (Kq (HK.o.keeps (ts:=[]) (Qd.Qe (base:=0) (f.o.alloc f.o.size _) (Nat.zero_le _)) (by simp)));have a4:=Qa (ZT K);have M:=f.o.size;go_upto_region 9 with(at_builtin;refine Qv _ rfl _ _ 34 rfl wc.heap.size 247 i0 _ 2 32 XM ag ab af ac rfl (by decide) (.slice (some ⟨wc.heap.size,0,none⟩) 0 0) 0 [] rfl a6.o A k c _ (QI K) rfl a5.o a4.o (by unfold maxLen;omega) (by omega) (by simp) ?_;intro A4 c4 w4 hown4 hgr4 hnc4 _;(have B:=Qa hown4);(have d:Qb (Below wc.heap.size wc w4):=Qa ((bR.alloc nR _).trans (Qg hgr4 (by simp) (fun k hk=>by simp[Value.ownBlock]at hk;omega))));clear hown4 hgr4;(have ap:w4.cell? ⟨w.heap.size,0,none⟩=some (.slice m.AL r.Qo.length m.cL):=(a.o.below d.o a.o.lt).cell 0);(have am:=(a.o.below d.o a.o.lt).free 0);(have aq:=(a.o.below d.o a.o.lt).lt));have X:0+k=k:=Nat.zero_add k;rw[X,List.nil_append]at B;have Z:=Qa (HS.o.below (f.o.trans (d.o.mono M)));have V:=Qa (W.o.below (f.o.trans (d.o.mono M)));have l:=Qa (a.o.below d.o a.o.lt);have a0:=Qa (C.o.below d.o C.o.lt);have S:=Qa (f.o.trans (d.o.mono M));have q1:IntKind.i64.wrap ((r.ep:Int)+1)=(r.ep:Int)+1:=by rw[IntKind.wrap_i64];omega
 have k6:Qd 0 [36] w4 (((w4.setCell ⟨w.heap.size,0,none⟩ (.slice A4 k c4)).setCell ⟨w.heap.size,1,none⟩ (.int .i64 k)).setCell ⟨w.heap.size,4,none⟩ (.int .i64 ((r.ep:Int)+1))):=by
  have a1:=(Qd.refl 0 [36] w4).set l.o (Nat.zero_le _) (by simp) (.slice A4 k c4) (o:=0);have b1:=l.o.set 0 (.slice A4 k c4);have a2:=(Qd.refl 0 [36] _).set b1 (Nat.zero_le _) (by simp) (.int .i64 k) (o:=1);have b2:=b1.set 1 (.int .i64 k);have a3:=(Qd.refl 0 [36] _).set b2 (Nat.zero_le _) (by simp) (.int .i64 ((r.ep:Int)+1)) (o:=4);exact(a1.trans a2).trans a3
 have aj:Qb (Qh (((w4.setCell ⟨w.heap.size,0,none⟩ (.slice A4 k c4)).setCell ⟨w.heap.size,1,none⟩ (.int .i64 k)).setCell ⟨w.heap.size,4,none⟩ (.int .i64 ((r.ep:Int)+1))) w.heap.size 36 #[.slice A4 k c4,.int .i64 k,.int .i64 r.half,.int .i64 r.size,.int .i64 ((r.ep:Int)+1)]):=by
  have:=((l.o.set 0 (.slice A4 k c4)).set 1 (.int .i64 k)).set 4 (.int .i64 ((r.ep:Int)+1));show Qh _ _ _ _;simpa using this
 have I:=Qa (((a0.o.Yq (o:=0) P (.slice A4 k c4)).Yq (o:=1) P (.int .i64 k)).Yq (o:=4) P (.int .i64 ((r.ep:Int)+1)));have a8:=Qa (Jo (o:=4) (Jo (o:=1) (Jo (o:=0) S.o nR (.slice A4 k c4)) nR (.int .i64 k)) nR (.int .i64 ((r.ep:Int)+1)))
 have HE:=Qa (show JN (((w4.setCell ⟨w.heap.size,0,none⟩ (.slice A4 k c4)).setCell ⟨w.heap.size,1,none⟩ (.int .i64 k)).setCell ⟨w.heap.size,4,none⟩ (.int .i64 ((r.ep:Int)+1))) { r with Qo:=K.map (·.1),ep:=r.ep+1 } (m.log A4 c4 K k) from by
  have h6:=Z.o.keeps k6 (by decide);refine⟨h6.notes,h6.Qc,h6.marks,rfl, ?_,V.o.keeps k6 (by decide),h6.Tk⟩;have:=(Sl.Jl B.o).keeps k6 (by decide);show Sl _ 247 2 A4 (K.map (·.1)).length (QI K);rw[List.length_map,←HL.o];exact this)
 have H:Qb ((prog.info? 36).map (·.size)=some (#[.slice A4 k c4,.int .i64 k,.int .i64 r.half,.int .i64 r.size,.int .i64 ((r.ep:Int)+1)]:Array Value).size):=OY;have ah:Qb ((#[.slice A4 k c4,.int .i64 k,.int .i64 r.half,.int .i64 r.size,.int .i64 ((r.ep:Int)+1)]:Array Value).all (·.oneCell')=true):=Qa (by simp[Value.oneCell']);have x1:w4.cell? ⟨w.heap.size,1,none⟩=some (.int .i64 m.Qk):=l.o.cell 1;have f1:=l.o.free 1;have x4:w4.cell? ⟨w.heap.size,4,none⟩=some (.int .i64 r.ep):=l.o.cell 4;have f4:=l.o.free 4;clear x0 f0 xl a C f l a0 S k6 Z V a6 a5 a4;go_upto_region 11 with fail;generalize ((w4.setCell ⟨w.heap.size,0,none⟩ (.slice A4 k c4)).setCell ⟨w.heap.size,1,none⟩ (.int .i64 k)).setCell ⟨w.heap.size,4,none⟩ (.int .i64 ((r.ep:Int)+1))=w6 at*
 go_wp2_with (first
  |(refine wpList_load_row rfl 36 _ rfl w.heap.size rfl 36 #[.slice A4 k c4,.int .i64 k,.int .i64 r.half,.int .i64 r.size,.int .i64 ((r.ep:Int)+1)] (0,0) _ aj.o underlying36 rfl H.o ?_)
  |(refine wpList_store_row rfl 36 _ _ rfl (w.heap.size+1) #[.slice A4 k c4,.int .i64 k,.int .i64 r.half,.int .i64 r.size,.int .i64 ((r.ep:Int)+1)] rfl rfl 36 (QL none 0 0 0 0) I.o H.o rfl ah.o ?_))
 refine bodyPost_ret (v:=.tuple #[.agg #[.slice A4 k c4,.int .i64 k,.int .i64 r.half,.int .i64 r.size,.int .i64 ((r.ep:Int)+1)],.int .i64 0]) (Ql results127 _ _ (w.heap.size+1) 36 _ (0,0) _ rfl (Qp I.o _) underlying36 rfl H.o) rfl ?_;have k9:Qd 0 [36] w6 (w6.setRow (w.heap.size+1) #[.slice A4 k c4,.int .i64 k,.int .i64 r.half,.int .i64 r.size,.int .i64 ((r.ep:Int)+1)]):=Qd.JY (Qm _ _ _) (Nat.zero_le _) fun g hg=>⟨Nat.zero_le _,fun t ht=>by injection hg with hg;subst hg;rw[I.o.ty]at ht;injection ht with ht;simp[←ht]⟩
 refine⟨A4,c4,K,k, ?_,HE.o.keeps k9 (by decide),a8.o.trans (Qg (Qm _ _ _) a8.o.size (gB (by omega)))⟩;have e9:(K.map (·.1)).length=k:=by rw[List.length_map];exact HL.o.symm
 show _=Ending.returned (.tuple #[.agg #[.slice A4 (K.map (·.1)).length c4,.int .i64 k,.int .i64 r.half,.int .i64 r.size,.int .i64 ((r.ep+1:Nat):Int)],.int .i64 ((0:Nat):Int)]);rw[e9];rfl
end
def J2(l:QD)(rs:List QN):Nat:=(rs.map l.Jb).sum
def Yt(s:QM):Nat:=J2 s.log (Qn s)
structure Zz (s:QM):Prop where
 sec:s.log.begin s.log.use+1+Yt s≤s.log.at'
 cnt:(Qn s).length≤s.log.Qo.length
variable {d:Qq} {keep:List QN} {l:QD} {lo:Nat}
theorem OX(h:JU d l lo)(hr:∀r∈keep,r.2.length≤4000):
  (Ju d l keep=(5,d,l)∧(l.half<1+J2 l keep∨1000000<keep.length))∨∃d',Ju d l keep=(0,d',{ l with use:=1-l.use,epoch:=l.epoch+1,at':=l.begin (1-l.use)+1+J2 l keep,Qo:=keep }):=by
 unfold Ju;have ha:keep.any (fun r=>decide (4000<r.2.length))=false:=by
  rw[List.any_eq_false];intro r hr';have:=hr r hr';simp;omega
 have h0:=Z5 h;rw[ha,if_neg (by simp)];split
 ·rename_i hf;rw[h0]at hf;exact .inl ⟨rfl,hf⟩
 rename_i hfit;have a:l.Ky+2*l.half≤d.Qk.length:=by rw[h.Ky];have:=h.half;have:=h.lo;omega
 obtain⟨d',e,L⟩:=OD h.s1 h.s2 h.sz h.on hr (by omega) a;rw[h0]at e;exact .inr ⟨d',e⟩
theorem OA{r:QN}(h:JU d l lo)(hr:r.2.length≤4000):
  VN d l r=(5,d,l)∨∃d',VN d l r=(0,d',{ l with at':=l.at'+l.Jb r,Qo:=l.Qo++[r] }):=by
 unfold VN;rw[if_neg (by omega)];split
 ·exact .inl rfl
 rename_i hfit;have hb:(J7 r).length=1+r.2.length:=by unfold J7;simp;omega
 have hp:1≤Qf d.size (1+r.2.length):=JQ h.s1 h.s2 (by omega);have a1:=h.XS l.use h.use;have a2:=h.lo;have h1:=h.C0;have h2:=h.TY;have a:l.Jb r=Qf d.size (1+r.2.length):=by unfold QD.Jb;rw[h.sz]
 have a0:Qf d.size (1+r.2.length)≤l.begin l.use+l.half-l.at':=by
  rw[←a];have:l.left=l.begin l.use+l.half-l.at':=rfl;omega
 obtain⟨d',e,L⟩:=Xi (d:=d) (at':=l.at') (kind:=82) (mark:=l.epoch*J6+l.Qo.length+1) (b:=J7 r) h.s1 (by omega) h.on (by rw[hb];exact hp) (by rw[hb];omega);rw[hb,←a]at e;rw[e];exact .inr ⟨d',rfl⟩
variable {s was:QM}
theorem Xh{r:QN}(h:JU s.d s.log lo)(hl:was.log=s.log)(hr:r.2.length≤4000)(hrs:∀r∈Qn s,r.2.length≤4000)(hw:Zz was)
  (h1:Yt s≤Yt was+s.log.Jb r)(h2:(Qn s).length≤(Qn was).length+1):Zz (Qy s was r).2:=by
 have e1:=hw.sec;have e2:=hw.cnt;have e3:J2 s.log (Qn was)=Yt was:=by rw[←hl];rfl
 have e4:Yt s=J2 s.log (Qn s):=rfl;rw[hl]at e1 e2;unfold Qy;rcases OA h hr with e|⟨d',e⟩
 ·rw[e];simp only;rcases OX h hrs with⟨g,_⟩|⟨d',g⟩
  ·rw[g];refine⟨?_,e2⟩;show s.log.begin s.log.use+1+J2 s.log (Qn was)≤s.log.at';omega
  rw[g];refine⟨?_,nR⟩;show s.log.begin (1-s.log.use)+1+J2 s.log (Qn s)≤s.log.begin (1-s.log.use)+1+J2 s.log (Qn s);omega
 rw[e];refine⟨?_, ?_⟩
 ·show s.log.begin s.log.use+1+J2 s.log (Qn s)≤s.log.at'+s.log.Jb r;omega
 show(Qn s).length≤(s.log.Qo++[r]).length;rw[List.length_append,List.length_singleton];omega
theorem UJ{r:QN}(h:JU s.d s.log lo)(hr:r.2.length≤4000)(hrs:∀r∈Qn s,r.2.length≤4000)(hw:s.log.begin s.log.use+1+Yt s≤s.log.at')(hn:(Qn s).length≤1000000):
  (Qy s was r).1=0:=by
 have e4:Yt s=J2 s.log (Qn s):=rfl;have h2:=h.TY;unfold Qy;rcases OA h hr with e|⟨d',e⟩
 ·rw[e];simp only;rcases OX h hrs with⟨g,hf⟩|⟨d',g⟩
  ·omega
  rw[g];rfl
 rw[e];rfl
theorem YR{α:Type}(f:α→Nat)(p:α→Bool):∀l:List α,((l.filter p).map f).sum≤(l.map f).sum
 |[]=>by simp
 |a::l=>by
  have:=YR f p l;rw[List.filter_cons];split<;>simp only[List.map_cons,List.sum_cons]<;>omega
theorem IP{α:Type}(f:Int × α→Nat)(k:Int)(v:α):∀l:List (Int × α),((KM k v l).map f).sum≤(l.map f).sum+f (k,v)
 |[]=>by simp[KM]
 |(a,x)::l=>by
  have:=IP f k v l;unfold KM;split
  ·simp only[List.map_cons,List.sum_cons];omega
  split<;>simp only[List.map_cons,List.sum_cons]<;>omega
theorem I9{α:Type}(f:Qj × α→Nat)(k:Qj)(v:α):∀l:List (Qj × α),((JL k v l).map f).sum≤(l.map f).sum+f (k,v)
 |[]=>by simp[JL]
 |(a,x)::l=>by
  have:=I9 f k v l;unfold JL;split
  ·simp only[List.map_cons,List.sum_cons];omega
  split<;>simp only[List.map_cons,List.sum_cons]<;>omega
theorem Zv(l:QD)(a b:List QN):J2 l (a++b)=J2 l a+J2 l b:=by unfold J2;rw[List.map_append,List.sum_append]
def ZS(l:QD)(n:Int × List UInt8):Nat:=l.Jb (78,Qi [n.1]++32::n.2)
def Ob(l:QD)(n:Qj × Qx):Nat:=l.Jb (Ka n.1 n.2)
def Y3(l:QD)(m:List UInt8):Nat:=l.Jb (77,m)
theorem Vv(s:QM):Yt s=(s.notes.map (ZS s.log)).sum+(s.Qc.map (Ob s.log)).sum+(s.marks.map (Y3 s.log)).sum:=by
 unfold Yt Qn;rw[Zv,Zv];unfold J2;rw[List.map_map,List.map_map,List.map_map];rfl
theorem Kw(s:QM):(Qn s).length=s.notes.length+s.Qc.length+s.marks.length:=by
 unfold Qn;simp;omega
variable {E:Nat} {ts:List (Qj × List UInt8)}
theorem F8(h:JH s lo E ts)(hE:E+4<549755813888)(hp:s.QA<1048575)(hw:Zz s)(n:Qj)(b:List UInt8):Zz (Q6 s n b).2:=by
 by_cases hn:Qs n.1=false∨Qs n.2=false∨b.length<1∨1048576<b.length
 ·rw[ZD hn];exact hw
 have r1:Qs n.1=true:=by cases hh:Qs n.1<;>simp_all
 have r2:Qs n.2=true:=by cases hh:Qs n.2<;>simp_all
 have b1:1≤b.length:=by omega
 have b2:b.length≤1048576:=by omega
 have a1:=h.ep;have a0:=h.Yp;cases hg:QC s.Qc n with
 |some x=>rw[Yu r1 r2 b1 b2 hg];exact hw
 |none=>
  rcases RG (c:=Qf s.d.size b.length) h.map with⟨e,he,hne⟩|⟨a,m',he,hc1,hm',ha1,ha2,_,_⟩
  ·rw[YK r1 r2 b1 b2 hg he hne];exact hw
  obtain⟨p,mark,e1,p1,p2,g⟩:=Rh (s:={ s with map:=m' }) hp;simp only at g p2 e1;obtain⟨d2,i,L⟩:=Xi (d:=s.d) (at':=a) (kind:=83) (mark:=mark) (b:=b) h.log.s1 (by decide) h.log.on hc1 ha2;have hq:Q6 s n b=Ri { s with map:=m',epoch:=s.log.epoch,QA:=p } n b a (Qf s.d.size b.length) mark d2:=by
   unfold Q6;rw[if_neg (P3 r1 r2 b1 b2),Yf,hg,if_neg (by simp),he];simp only;rw[e1];simp only[Int.toNat_natCast];rw[i];rfl
  have f:Kf (n,(⟨a,Qf s.d.size b.length,b.length,mark⟩:Qx)):=⟨r1,r2,by simp only;omega,b2,by simp only;omega,by simp only;omega⟩;rw[hq];unfold Ri;refine Xh (lo:=lo) (h.log.like L) rfl (Zp f) (VW h.Xv h.Xk fun x hx=> ?_) ⟨hw.sec,hw.cnt⟩ ?_ ?_
  ·rcases VR hx with rfl|hx
   ·exact f
   exact h.U6 x hx
  ·rw[Vv,Vv];have:=I9 (Ob s.log) n (⟨a,Qf s.d.size b.length,b.length,mark⟩:Qx) s.Qc;show _+((JL n (⟨a,Qf s.d.size b.length,b.length,mark⟩:Qx) s.Qc).map (Ob s.log)).sum+_≤_+Ob s.log (n,⟨a,Qf s.d.size b.length,b.length,mark⟩);simp only;omega
  rw[Kw,Kw];have:=Zl (k:=n) (v:=(⟨a,Qf s.d.size b.length,b.length,mark⟩:Qx)) s.Qc;simp only;omega
theorem Zz.DC(h:Zz s)(d:Qq):Zz { s with d:=d }:=⟨h.sec,h.cnt⟩
theorem Zz.mapped(h:Zz s)(m:Jt):Zz { s with map:=m }:=⟨h.sec,h.cnt⟩
theorem II{r:QN}(h:JH s lo E ts)(hw:Zz s)(p:Qj × Qx→Bool)(q:Int × List UInt8→Bool)(hr:r.2.length≤4000):
  (Qy { s with notes:=s.notes.filter q,Qc:=s.Qc.filter p } s r).1=0∧Zz (Qy { s with notes:=s.notes.filter q,Qc:=s.Qc.filter p } s r).2:=by
 have a:∀r∈Qn { s with notes:=s.notes.filter q,Qc:=s.Qc.filter p },r.2.length≤4000:=VW (fun x hx=>h.Xv x (List.mem_filter.1 hx).1) h.Xk (fun x hx=>h.U6 x (List.mem_filter.1 hx).1);have h1:Yt { s with notes:=s.notes.filter q,Qc:=s.Qc.filter p }≤Yt s:=by
  rw[Vv,Vv];have g1:=YR (ZS s.log) q s.notes;have g2:=YR (Ob s.log) p s.Qc;simp only;omega
 have h2:(Qn { s with notes:=s.notes.filter q,Qc:=s.Qc.filter p }).length≤(Qn s).length:=by
  rw[Kw,Kw];have g1:=List.length_filter_le q s.notes;have g2:=List.length_filter_le p s.Qc;simp only;omega
 have a0:=hw.sec;have a2:=hw.cnt;have a1:=h.Qo;refine⟨UJ (lo:=lo) h.log hr a ?_ (by omega),Xh (lo:=lo) h.log rfl hr a hw (by omega) (by omega)⟩;show s.log.begin s.log.use+1+Yt { s with notes:=s.notes.filter q,Qc:=s.Qc.filter p }≤s.log.at';omega
theorem WG{α:Type}(l:List α):l.filter (fun _=>true)=l:=List.filter_eq_self.2 fun _ _=>rfl
theorem LI(h:JH s lo E ts)(h1:s.notes=[])(h2:s.Qc=[])(h3:s.marks=[]):Zz s:=by
 have:=h.log.C0;refine⟨?_, ?_⟩
 ·rw[Vv,h1,h2,h3];simp only[List.map_nil,List.sum_nil];omega
 rw[Kw,h1,h2,h3];simp
def YP(r:QH)(x:QN):Nat × QH:=
 if 4000<x.2.length then(1,r)
 else if OO r.half r.size r.Qo<(Js r.size [x]:Nat)then(5,r)
 else(0,{ r with Qo:=r.Qo++[x] })
def Vq(r:QH):Nat × QH:=XU r (Q3 r)
def QE(r was:QH)(x:QN):Nat × QH:=match YP r x with
 |(0,r1)=>(0,r1)
 |(_,_)=>match Vq r with
  |(0,r2)=>(0,r2)
  |(e,_)=>(e,was)
structure FR (l:QD) (r:QH):Prop where
 size:r.size=l.size
 half:r.half=l.half
 ep:r.ep=l.epoch
 lens:r.Qo.map (·.2.length)=l.Qo.map (·.2.length)
 Bb:l.at'=l.begin l.use+1+J2 l l.Qo
variable {rs:List QN} {size:Nat}
theorem WJ{qs:List QN}(hs:size=l.size)(h:qs.map (·.2.length)=rs.map (·.2.length)):Js size qs=J2 l rs:=by
 unfold Js J2 QD.Jb;have e:∀(ls:List QN),ls.map (fun r=>Qf size (1+r.2.length))=(ls.map (·.2.length)).map fun n=>Qf size (1+n):=fun ls=>by rw[List.map_map];rfl
 rw[←hs,e qs,e rs,h]
variable {r:QH} {y:QN}
theorem Mq{x:QN}(h:JU s.d s.log lo)(hL:FR s.log r)(hrec:Qn s=Q3 r)(hx:x.2.length≤4000)(hy:y.2.length=x.2.length)(hrs:∀q∈Qn s,q.2.length≤4000)(hn:s.log.Qo.length<1000000)(hk:(Qn s).length≤1000000):
  (∃d' l' r',JV s x=(0,d',l')∧(∀was,QE r was y=(0,r'))∧FR l' r'∧(∃rs e,r'={ r with Qo:=rs,ep:=e })∧(l'.Qo.length≤s.log.Qo.length+1∨l'.Qo.length=(Qn s).length))∨
   (JV s x=(5,s.d,s.log)∧∀was,QE r was y=(5,was)):=by
 have h0:=Z5 h;have a5:=h.C0;have a4:=h.TY;have a1:=hL.Bb;have i:Js r.size r.Qo=J2 s.log s.log.Qo:=WJ hL.size hL.lens;have j:Js r.size [y]=s.log.Jb x:=by rw[W4,hL.size,hy];rfl
 have c:OO r.half r.size r.Qo=((s.log.begin s.log.use+s.log.half:Nat):Int)-s.log.at':=by
  unfold OO;rw[hL.size,h0,←hL.size,i,hL.half];omega
 have a:YP r y=if s.log.left<s.log.Jb x then(5,r)else(0,{ r with Qo:=r.Qo++[y] }):=by
  unfold YP;rw[if_neg (by omega),c,j];have e:s.log.left=s.log.begin s.log.use+s.log.half-s.log.at':=rfl;by_cases g:s.log.left<s.log.Jb x
  ·rw[if_pos g,if_pos (by omega)]
  rw[if_neg g,if_neg (by omega)]
 by_cases hg:s.log.left<s.log.Jb x
 ·have e1:VN s.d s.log x=(5,s.d,s.log):=by
   unfold VN;rw[if_neg (by omega),if_pos (.inl hg)]
  have e2:YP r y=(5,r):=by rw[a,if_pos hg]
  have e3:JV s x=Ju s.d s.log (Qn s):=by unfold JV;rw[e1];rfl
  have e4:Js r.size (Q3 r)=J2 s.log (Qn s):=WJ hL.size (by rw[hrec]);have e5:Vq r=if(s.log.half:Int)-1<(J2 s.log (Qn s):Nat)then(5,r)else(0,{ r with Qo:=Q3 r,ep:=r.ep+1 }):=by
   unfold Vq XU;rw[if_neg,hL.size,h0,←hL.size,e4,hL.half]
   ·rfl
   intro hh;rw[List.any_eq_true]at hh;obtain⟨q,q1,q2⟩:=hh;rw[←hrec]at q1;have:=hrs q q1;simp at q2;omega
  rcases OX h hrs with⟨g,hf⟩|⟨d',g⟩
  ·refine .inr ⟨by rw[e3,g],fun was=> ?_⟩;unfold QE;rw[e2];simp only;rw[e5,if_pos (by omega)];rfl
  refine .inl ⟨d',_,{ r with Qo:=Q3 r,ep:=r.ep+1 },by rw[e3,g],fun was=> ?_, ?_,⟨_,_,rfl⟩,.inr rfl⟩
  ·have f:¬((s.log.half:Int)-1<(J2 s.log (Qn s):Nat)):=by
    intro hc;have:Ju s.d s.log (Qn s)=(5,s.d,s.log):=by
     unfold Ju;rw[if_neg,if_pos]
     ·rw[h0];have:J2 s.log (Qn s)=((Qn s).map s.log.Jb).sum:=rfl;omega
     intro hh;rw[List.any_eq_true]at hh;obtain⟨q,q1,q2⟩:=hh;have:=hrs q q1;simp at q2;omega
    rw[this]at g;cases g
   unfold QE;rw[e2];simp only;rw[e5,if_neg f];rfl
  exact⟨hL.size,hL.half,by show r.ep+1=s.log.epoch+1;rw[hL.ep],by show(Q3 r).map _=(Qn s).map _;rw[hrec],rfl⟩
 rcases OA h hx with e|⟨d',e⟩
 ·exfalso;unfold VN at e;rw[if_neg (by omega),if_neg (by omega)]at e;rcases OA h hx with e'|⟨d',e'⟩
  ·unfold VN at e';rw[if_neg (by omega),if_neg (by omega)]at e';have hb:(J7 x).length=1+x.2.length:=by unfold J7;simp;omega
   have hp:1≤Qf s.d.size (1+x.2.length):=JQ h.s1 h.s2 (by omega);have a6:=h.XS s.log.use h.use;have a3:=h.lo;have a0:s.log.Jb x=Qf s.d.size (1+x.2.length):=by unfold QD.Jb;rw[h.sz]
   have a2:s.log.left=s.log.begin s.log.use+s.log.half-s.log.at':=rfl;obtain⟨d',e1,L⟩:=Xi (d:=s.d) (at':=s.log.at') (kind:=82) (mark:=s.log.epoch*J6+s.log.Qo.length+1) (b:=J7 x) h.s1 (by omega) h.on (by rw[hb];exact hp) (by rw[hb];omega);rw[e1]at e';cases e'
  unfold VN at e';rw[if_neg (by omega),if_neg (by omega),e]at e';cases e'
 refine .inl ⟨d',_,{ r with Qo:=r.Qo++[y] },by unfold JV;rw[e];rfl,fun was=> ?_, ?_,⟨_,r.ep,rfl⟩,.inl (by simp)⟩
 ·unfold QE;rw[a,if_neg hg];rfl
 refine⟨hL.size,hL.half,hL.ep, ?_, ?_⟩
 ·show(r.Qo++[y]).map _=(s.log.Qo++[x]).map _;rw[List.map_append,List.map_append,hL.lens];simp[hy]
 show s.log.at'+s.log.Jb x=s.log.begin s.log.use+1+J2 s.log (s.log.Qo++[x]);rw[Zv];have:J2 s.log [x]=s.log.Jb x:=by simp[J2]
 omega
structure PV (s:QM) (r:QH):Prop where
 notes:r.notes=s.notes
 Qc:V3 (fun(a:Qj × Qx)(b:V4)=>a.1=b.n∧a.2.at'=(b.at':Int)∧a.2.bytes=b.b.length∧a.2.mark=(b.mark:Int)) s.Qc r.Qc
 marks:r.marks=s.marks
theorem PV.Qo(h:PV s r):Qn s=Q3 r:=by
 have e:s.Qc.map (fun n=>Ka n.1 n.2)=r.Qc.map Xs:=by
  have:=h.Qc;generalize s.Qc=l at*
  generalize r.Qc=m at*
  induction this with
  |nil=>rfl
  |cons hab _ ih=>
   rename_i a b l m;rw[List.map_cons,List.map_cons,ih];obtain⟨h1,h2,h3,h4⟩:=hab;unfold Ka Xs;rw[h1,h2,h3,h4]
 unfold Qn Q3;rw[e,h.notes,h.marks];rfl
/-! notes -/
def JT(v:Int)(t:List UInt8)(q:List (Int × List UInt8) × Bool)(a:Int × List UInt8):List (Int × List UInt8) × Bool:=
 ((if q.2=false∧v≤a.1 then q.1++[(v,t)]else q.1)++(if a.1≠v then[a]else[]),q.2||decide (v≤a.1))
def YI(v:Int)(t:List UInt8)(l:List (Int × List UInt8)):List (Int × List UInt8):=
 if(l.foldl (JT v t) ([],false)).2=true then(l.foldl (JT v t) ([],false)).1 else(l.foldl (JT v t) ([],false)).1++[(v,t)]
theorem Iz(v:Int)(t:List UInt8):∀(l:List (Int × List UInt8)) (o:List (Int × List UInt8)),(∀x∈l,v<x.1)→l.foldl (JT v t) (o,true)=(o++l,true)
 |[],o,_=>by simp
 |a::l,o,h=>by
  have ha:=h a (by simp);rw[List.foldl_cons];have:JT v t (o,true) a=(o++[a],true):=by
   unfold JT;simp only[Bool.true_or];rw[if_neg (by simp),if_pos (by omega)]
  rw[this,Iz v t l _ fun x hx=>h x (by simp[hx])];simp
theorem Ia{α:Type}(k:Int)(v:α)(a:Int)(x:α)(l:List (Int × α)):KM k v ((a,x)::l)=if k<a then(k,v)::(a,x)::l else if a=k then(k,v)::l else(a,x)::KM k v l:=by rw[KM]
theorem Mx(v:Int)(t:List UInt8):∀(l:List (Int × List UInt8)) (o:List (Int × List UInt8)),Yx l→(if(l.foldl (JT v t) (o,false)).2=true then(l.foldl (JT v t) (o,false)).1 else(l.foldl (JT v t) (o,false)).1++[(v,t)])=o++KM v t l
 |[],o,_=>by simp[KM]
 |(a,x)::l,o,h=>by
  unfold Yx at h;rw[List.pairwise_cons]at h;obtain⟨h1,h2⟩:=h;rw[List.foldl_cons];rcases Int.lt_trichotomy v a with g|g|g
  ·have:JT v t (o,false) (a,x)=(o++[(v,t)]++[(a,x)],true):=by
    unfold JT;simp only[Bool.false_or];rw[if_pos ⟨trivial,by omega⟩,if_pos (by omega),decide_eq_true (by omega)]
   rw[this,Iz v t l _ fun y hy=>by have:=h1 y hy;simp only at this;omega];rw[Ia,if_pos g];simp
  ·subst g;have:JT v t (o,false) (v,x)=(o++[(v,t)],true):=by
    unfold JT;simp only[Bool.false_or];simp
   rw[this,Iz v t l _ fun y hy=>h1 y hy];rw[Ia,if_neg (Int.lt_irrefl v),if_pos (rfl:v=v)];simp
  have:JT v t (o,false) (a,x)=(o++[(a,x)],false):=by
   unfold JT;simp only[Bool.false_or];rw[if_neg (by omega),if_pos (by omega),decide_eq_false (by omega)]
  rw[this,Mx v t l _ h2];rw[Ia,if_neg (by omega),if_neg (by omega)];simp
theorem Ge{v:Int}{t:List UInt8}{l:List (Int × List UInt8)}(h:Yx l):YI v t l=KM v t l:=by
 have:=Mx v t l [] h;unfold YI;rw[this];simp
def Xp(r:QH)(v:Int)(t:List UInt8):Nat × QH:=
 if Qs v=false∨3000<t.length then(1,r)else QE { r with notes:=YI v t r.notes } r (78,Qi [v]++32::t)
def Xn(r:QH)(t:List UInt8):Nat × QH:=
 if 3000<t.length then(1,r)else QE { r with marks:=r.marks++[t] } r (77,t)
def Jn(r:QH)(keep:Int):QH:=if keep<r.marks.length then { r with marks:=r.marks.drop (r.marks.length-keep.toNat) }else r
def Uw(r:QH)(keep:Int):Nat × QH:=
 if keep<0 then(1,r)else QE (Jn r keep) (Jn r keep) (84,Qi [keep])
structure Bo (s:QM) (r:QH):Prop where
 VB:r.VB=s.epoch
 QA:r.QA=s.QA
structure CM (s:QM) (r:QH):Prop where
 l:FR s.log r
 d:PV s r
 e:Bo s r
variable {r1:QH} {s1:QM}
theorem IY{x:QN}(h:JH s lo E ts)(hS:CM s r)(hd:s1.d=s.d)(hl:s1.log=s.log)(hp:s1.QA=s.QA)(he:s1.epoch=s.epoch)(hL1:r1.size=r.size∧r1.half=r.half∧r1.ep=r.ep∧r1.Qo=r.Qo∧r1.VB=r.VB∧r1.QA=r.QA)(hD1:PV s1 r1)
  (hx:x.2.length≤4000)(hy:y.2.length=x.2.length)(hrs:∀q∈Qn s1,q.2.length≤4000)(hn:s.log.Qo.length<1000000)(hk:(Qn s1).length≤1000000):
  (Qy s1 s x).1=(QE r1 r y).1∧CM (Qy s1 s x).2 (QE r1 r y).2∧((Qy s1 s x).2.log.Qo.length≤s.log.Qo.length+1∨(Qy s1 s x).2.log.Qo.length=(Qn s1).length):=by
 obtain⟨q1,q2,q3,q4,q5,q6⟩:=hL1;have hL:FR s1.log r1:=by rw[hl];exact⟨q1.trans hS.l.size,q2.trans hS.l.half,q3.trans hS.l.ep,by rw[q4];exact hS.l.lens,hS.l.Bb⟩
 rw[Ym];rcases Mq (x:=x) (y:=y) (by rw[hd,hl];exact h.log) hL hD1.Qo hx hy hrs (by rw[hl];exact hn) hk with⟨d',l',r',e1,e2,e3,⟨rs,e,rfl⟩,e5⟩|⟨e1,e2⟩
 ·rw[e1,e2];rw[hl]at e5;exact⟨rfl,⟨e3,⟨hD1.notes,hD1.Qc,hD1.marks⟩,⟨by show r1.VB=s1.epoch;rw[q5,he];exact hS.e.VB,by show r1.QA=s1.QA;rw[q6,hp];exact hS.e.QA⟩⟩,e5⟩
 rw[e1,e2];refine⟨rfl,⟨by show FR s1.log r;rw[hl];exact hS.l,⟨hS.d.notes,hS.d.Qc,hS.d.marks⟩,⟨hS.e.VB,hS.e.QA⟩⟩,.inl ?_⟩;show s1.log.Qo.length≤_;rw[hl];omega
theorem Sr(h:JH s lo E ts)(hS:CM s r):(Vr s).1=0∧CM (Vr s).2 r∧(Vr s).2.log=s.log:=by
 obtain⟨d',hf,_⟩:=Yg h.log.on;unfold Vr;rw[hf];exact⟨rfl,⟨hS.l,⟨hS.d.notes,hS.d.Qc,hS.d.marks⟩,⟨hS.e.VB,hS.e.QA⟩⟩,rfl⟩
section
open Go.Shelf Go.Sort
variable {base e n:Nat} {v:Value} {xs:List Value}
theorem Rv(h:w.ownsRow base e size v n xs):w.drew.ownsRow base e size v n xs:=QF h (ts:=[]) (Qd.Qe (base:=0) bR.drew (Nat.zero_le _)) (by simp)
theorem NL{m:JM}(h:JN w r m)(ok:XV r)(kd:Nat)(bs:List UInt8)(Ar:Option Addr)(cr:Nat)(hby:Kb w Ar bs)(hc:bs.length≤cr)(hkd:kd<256)(hbl:bs.length<1099511627776):
  Calls prog 178 #[.agg (J1 r m),.agg #[.int .u8 kd,.slice Ar bs.length cr]] w fun e w'=>Pc w w' m (YP r (kd,bs)) e:=by
 have HX:Qb (Qh (((w.alloc (.cells (J1 r m) 36)).alloc (.cells #[.int .u8 kd,.slice Ar bs.length cr] 247)).alloc (.cells (QL none 0 0 0 0) 36)) w.heap.size 36 (J1 r m)):=((Qh.new _ _ _).alloc _).alloc _;have HY:Qb (Qh (((w.alloc (.cells (J1 r m) 36)).alloc (.cells #[.int .u8 kd,.slice Ar bs.length cr] 247)).alloc (.cells (QL none 0 0 0 0) 36)) (w.heap.size+1) 247 #[.int .u8 kd,.slice Ar bs.length cr]):=(Qh.Qz (by simp)).alloc _;have HG:Qb (Qh (((w.alloc (.cells (J1 r m) 36)).alloc (.cells #[.int .u8 kd,.slice Ar bs.length cr] 247)).alloc (.cells (QL none 0 0 0 0) 36)) (w.heap.size+1+1) 36 (QL none 0 0 0 0)):=Qh.Qz (by simp);have HB:Qb (Below w.heap.size w (((w.alloc (.cells (J1 r m) 36)).alloc (.cells #[.int .u8 kd,.slice Ar bs.length cr] 247)).alloc (.cells (QL none 0 0 0 0) 36))):=((bR.alloc nR _).alloc (by simp) _).alloc (by simp;omega) _;have HS:=Qa h;have aq:=Qa hby;have ae:m.L.length=r.Qo.length:=by rw[←h.Qo,List.length_map]
 have a0:=Qa (show ∀wy,Below w.heap.size w wy→Calls prog 66 #[.agg (J1 r m)] wy fun e w'=>e=.returned (.int .i64 (OO r.half r.size r.Qo))∧Below wy.heap.size wy w' from fun wy hy=>by
  have h1:=h.below hy;have:=GR (w:=wy) m.AL r.Qo.length m.cL m.Qk r.half r.size r.ep ok.h ok.s m.L ae.symm h1.row (fun x hx=>(h.OM x hx).2.2.2) (by have:=ok.n;omega);rw[h.Qo]at this;exact this)
 have HN:=Qa (show ∀wy g,Qh wy g 247 #[.int .u8 kd,.slice Ar bs.length cr]→Calls prog 125 #[.int .i64 r.size,.slice (some ⟨g,0,none⟩) 1 1] wy fun e w'=>e=.returned (.int .i64 (Js r.size [(kd,bs)]))∧wy=w' from fun wy g hg=>by
  have:=It (w:=wy) r.size ok.s (some ⟨g,0,none⟩) 1 1 [((kd,bs),Ar,cr)] rfl (Sl.Ja (sz:=2) (n:=1) hg rfl).1 (fun x hx=>by rw[List.mem_singleton]at hx;subst hx;exact hbl) (by omega);exact this)
 have aH:=Qa ok;obtain⟨i0,p,E,I,F⟩:=info_parts PE;have av:=ID r.half r.size r.Qo ok.h (by have:=ok.n;omega);have ay:Js r.size [(kd,bs)]≤1073741826:=by
  have:=Ot r.size [(kd,bs)];simpa using this
 have ax:=Qa ok.n;obtain⟨q,hq⟩:=eX (YP r (kd,bs));rw[←hq];have HQ:=Qa hq;have Z:=Qa (And.intro hbl (And.intro hc hkd));have HI:∀r':QH,∀m':JM,Qb ((prog.info? 36).map (·.size)=some (J1 r' m').size):=fun r' m'=>OY
 have H1:∀r':QH,∀m':JM,Qb ((J1 r' m').all (·.oneCell')=true):=fun r' m'=>Qa (by simp[Value.oneCell'])
 clear h ok hby hq ae;obtain⟨X,hX⟩:=eX w.heap.size;obtain⟨Y,hY⟩:=eX (w.heap.size+1);obtain⟨G,hG⟩:=eX (w.heap.size+1+1);obtain⟨b,hb⟩:=eX bs.length;have ao:w.heap.size≤X:=by omega
 have aI:w.heap.size≤G:=by omega
 have ap:G≠X:=by omega
 rw[←hb]at hbl hc;have an:=Qa hb;have y1:(((w.alloc (.cells (J1 r m) 36)).alloc (.cells #[.int .u8 kd,.slice Ar bs.length cr] 247)).alloc (.cells (QL none 0 0 0 0) 36)).cell? ⟨w.heap.size+1,1,none⟩=some (.slice Ar b cr):=by rw[hb];exact HY.o.cell 1
 have yl:=HY.o.lt;go_enter func178,ntmps178;go_upto_region 1 with fail;generalize ((w.alloc (.cells (J1 r m) 36)).alloc (.cells #[.int .u8 kd,.slice Ar bs.length cr] 247)).alloc (.cells (QL none 0 0 0 0) 36)=w1 at*
 have ah:=HB.o.size;rw[←hX]at HX;rw[←hY]at HY y1 yl;rw[←hG]at HG;rw[←hG,←hY,←hX];clear hX hY hG;by_cases h4:4000<b
 ·have al:(b:Int)>4000:=by omega
  have D:q=(1,r):=by rw[HQ.o];unfold YP;rw[if_pos (by show 4000<bs.length;rw[←hb];exact h4)]
  subst D;clear hb
  go_wp2_with (first
   |(refine wpList_load_row rfl 36 _ rfl X rfl 36 (J1 r m) (0,0) _ HX.o underlying36 rfl (HI r m).o ?_)
   |(refine wpList_store_row rfl 36 _ _ rfl G (J1 r m) rfl rfl 36 (QL none 0 0 0 0) HG.o (HI r m).o rfl (H1 r m).o ?_))
  refine bodyPost_ret (v:=.tuple #[.agg (J1 r m),.int .i64 1]) (Ql results178 _ _ G 36 _ (0,0) _ rfl (Qp HG.o _) underlying36 rfl (HI r m).o) rfl ?_;have f:Below w.heap.size w (w1.setRow G (J1 r m)):=HB.o.trans (Qg (Qm _ _ _) HB.o.size (gB (by omega)));exact⟨m.AL,m.cL,m.L,m.Qk,rfl,HS.o.below f,f⟩
 have al:¬((b:Int)>4000):=by omega
 obtain⟨T,W⟩:=eX (Js r.size [(kd,bs)]);obtain⟨y,hy⟩:=eX (OO r.half r.size r.Qo);have D:q=if y<(T:Nat)then(5,r)else(0,{ r with Qo:=r.Qo++[(kd,bs)] }):=by
  rw[HQ.o,W,hy];unfold YP;rw[if_neg (by show ¬4000<bs.length;rw[←hb];exact h4)]
 rw[←W]at HN ay;rw[←hy]at a0 av;rw[←hb]at HY HN;clear W hy HQ hb
 have SK:=Qa (show ∀wy,Below w1.heap.size w1 wy→wy.cell? ⟨X,0,none⟩=some (.slice m.AL r.Qo.length m.cL)∧wy.cell? ⟨X,1,none⟩=some (.int .i64 m.Qk)∧wy.cell? ⟨X,2,none⟩=some (.int .i64 r.half)∧wy.cell? ⟨X,3,none⟩=some (.int .i64 r.size)∧wy.cell? ⟨X,4,none⟩=some (.int .i64 r.ep)∧wy.cell? ⟨Y,0,none⟩=some (.int .u8 kd)∧wy.cell? ⟨Y,1,none⟩=some (.slice Ar b cr) from fun wy hy=>by
  have hx:=HX.o.below hy HX.o.lt;have C:=HY.o.below hy HY.o.lt;exact⟨hx.cell 0,hx.cell 1,hx.cell 2,hx.cell 3,hx.cell 4,C.cell 0,C.cell 1⟩)
 have S0:=Qa (SK.o _ bR.drew);have xl:=HX.o.lt;go_upto_region 3 with fail;go_cut [18] (fun v wx=>v=.bool (decide (y<(T:Int)))∧Below w1.heap.size w1 wx)
 case first=>
  go_region_held3 (fun wy=>wy.cell? ⟨X,0,none⟩=some (.slice m.AL r.Qo.length m.cL)∧wy.cell? ⟨X,1,none⟩=some (.int .i64 m.Qk)∧wy.cell? ⟨X,2,none⟩=some (.int .i64 r.half)∧wy.cell? ⟨X,3,none⟩=some (.int .i64 r.size)∧wy.cell? ⟨X,4,none⟩=some (.int .i64 r.ep)∧wy.cell? ⟨Y,0,none⟩=some (.int .u8 kd)∧wy.cell? ⟨Y,1,none⟩=some (.slice Ar b cr))
   (first|exact S0.o|exact SK.o _ i.o|exact SK.o _ (bR.drew.alloc nR _))
   (first
    |(go_at_call 125;refine(HN.o _ _ (Qh.new w1.drew 247 _)).mono ?_;rintro en w' ⟨rfl,rfl⟩)
    |(go_at_call 66;refine(a0.o _ (HB.o.trans ((bR.drew.alloc nR _).mono ah))).mono ?_;rintro en w3 ⟨rfl,hb⟩;(have i:Qb (Below w1.heap.size w1 w3):=(bR.drew.alloc nR _).trans (hb.mono (by simp)));clear hb))
  all_goals
   go_wp2_with fail;go_meet;exact⟨by simp,i.o⟩
 obtain⟨rfl,K⟩:=hcut;have l:=Qa (HX.o.below K HX.o.lt);have a8:=Qa (HY.o.below K HY.o.lt);have J:=Qa (HG.o.below K HG.o.lt);have i:=Qa (HB.o.trans (K.mono ah));clear K HX HG HY HB SK S0 HN a0 y1 yl xl;by_cases hlt:y<(T:Int)
 ·have hd:decide (y<(T:Int))=true:=decide_eq_true hlt;have a1:q=(5,r):=by rw[D,if_pos hlt]
  rw[hd];subst a1;clear hd D hlt
  go_wp2_with (first
   |(refine wpList_load_row rfl 36 _ rfl X rfl 36 (J1 r m) (0,0) _ l.o underlying36 rfl (HI r m).o ?_)
   |(refine wpList_store_row rfl 36 _ _ rfl G (J1 r m) rfl rfl 36 (QL none 0 0 0 0) J.o (HI r m).o rfl (H1 r m).o ?_))
  refine bodyPost_ret (v:=.tuple #[.agg (J1 r m),.int .i64 5]) (Ql results178 _ _ G 36 _ (0,0) _ rfl (Qp J.o _) underlying36 rfl (HI r m).o) rfl ?_;have f:Below w.heap.size w (wc.setRow G (J1 r m)):=i.o.trans (Qg (Qm _ _ _) i.o.size (gB (by omega)));exact⟨m.AL,m.cL,m.L,m.Qk,rfl,HS.o.below f,f⟩
 have hd:decide (y<(T:Int))=false:=decide_eq_false hlt;have a1:q=(0,{ r with Qo:=r.Qo++[(kd,bs)] }):=by rw[D,if_neg hlt]
 rw[hd];subst a1;clear hd D hlt;have aC:=Qa (HS.o.below i.o);obtain⟨n,hn⟩:=eX r.Qo.length;have P:=Qa hn;have aF:n≤1000000:=by rw[hn];exact ax.o
 obtain⟨g,hg⟩:=eX wc.heap.size;have aG:=Qa hg;have aB:=i.o.size
 have SK:=Qa (show ∀wy,Below wc.heap.size wc wy→wy.cell? ⟨X,0,none⟩=some (.slice m.AL n m.cL)∧wy.frozen? ⟨X,0,none⟩=false∧X<wy.heap.size∧wy.cell? ⟨Y,0,none⟩=some (.int .u8 kd)∧wy.cell? ⟨Y,1,none⟩=some (.slice Ar b cr)∧Y<wy.heap.size from fun wy hy=>by
  have hx:=l.o.below hy l.o.lt;have C:=a8.o.below hy a8.o.lt;exact⟨by rw[P.o];exact hx.cell 0,hx.free 0,hx.lt,C.cell 0,C.cell 1,C.lt⟩)
 have RD:=Qa (show ∀wy,Below wc.heap.size wc wy→Rd wy wy.heap.size 2 m.AL n (QI m.L) from fun wy hy=>by
  have:=(aC.o.below hy).row.1;rw[P.o];exact this)
 have R:=Qa (ZT m.L);have a2:Qb (∀u∈([.int .u8 kd,.slice Ar b cr]:List Value),u.oneCell'=true):=Qa (by simp[Value.oneCell']);obtain⟨x0,f0,xl,y0,y1,yl⟩:=SK.o _ bR;clear hn hg;go_upto_region 5 with fail;go_cut [5] (fun v wx=>v=.int .i64 0∧∃A c,∃w9,w9.ownsRow wc.heap.size 247 2 (.slice A (n+1) c) (n+1) (QI m.L++[.int .u8 kd,.slice Ar b cr])∧wx=w9.setCell ⟨X,0,none⟩ (.slice A (n+1) c)∧Below wc.heap.size wc w9)
 case first=>
  have aD:Qb (((wc.alloc (.cells #[] 247)).drew).ownsRow wc.heap.size 247 2 (.slice (some ⟨wc.heap.size,0,none⟩) 0 0) 0 []):=Qa (Rv (World.ownsRow_lit wc #[] 0 nR (by decide) rfl));have M:Qb (Below wc.heap.size wc ((wc.alloc (.cells #[] 247)).drew)):=(bR.alloc nR _).drew;have az:=Qa (RD.o _ M.o);have am:Qb ((((wc.alloc (.cells #[] 247)).drew).alloc (.cells #[.int .u8 kd,.slice Ar b cr] 247)).ownsRow wc.heap.size 247 2 (.slice (some ⟨wc.heap.size,0,none⟩) 0 0) 0 []):=Qa (Qu (Rv (World.ownsRow_lit wc #[] 0 nR (by decide) rfl)) _);have O:Qb (Below wc.heap.size wc (((wc.alloc (.cells #[] 247)).drew).alloc (.cells #[.int .u8 kd,.slice Ar b cr] 247))):=((bR.alloc nR _).drew).alloc (by simp) _;have au:=Qa (RD.o _ O.o);have ak:Qb (Qh (((wc.alloc (.cells #[] 247)).drew).alloc (.cells #[.int .u8 kd,.slice Ar b cr] 247)) (wc.heap.size+1) 247 #[.int .u8 kd,.slice Ar b cr]):=Qa (by first|exact Qh.Qz (by simp)|exact((Qh.new _ _ _).drew).alloc _);have aj:Qb ((((wc.alloc (.cells #[.int .u8 kd,.slice Ar b cr] 247)).drew).alloc (.cells #[] 247)).ownsRow wc.heap.size 247 2 (.slice (some ⟨wc.heap.size+1,0,none⟩) 0 0) 0 []):=Qa (by have:=World.ownsRow_lit (base:=wc.heap.size) (e:=247) (size:=2) ((wc.alloc (.cells #[.int .u8 kd,.slice Ar b cr] 247)).drew) #[] 0 (show wc.heap.size≤((wc.alloc (.cells #[.int .u8 kd,.slice Ar b cr] 247)).drew).heap.size from by simp) (by decide) rfl;simpa using this);have N:Qb (Below wc.heap.size wc (((wc.alloc (.cells #[.int .u8 kd,.slice Ar b cr] 247)).drew).alloc (.cells #[] 247))):=((bR.alloc nR _).drew).alloc (by simp) _;have aA:=Qa (RD.o _ N.o);have aw:Qb (Qh (((wc.alloc (.cells #[.int .u8 kd,.slice Ar b cr] 247)).drew).alloc (.cells #[] 247)) (wc.heap.size) 247 #[.int .u8 kd,.slice Ar b cr]):=Qa (by first|exact Qh.Qz (by simp)|exact((Qh.new _ _ _).drew).alloc _)
  go_region_law (first
   |((fail_if_success (have:=a));refine Q9 _ (by rfl) _ _ _ (by rfl) wc.heap.size 247 i0 _ 2 32 XM p E I F rfl (by decide) (.slice (some ⟨wc.heap.size,0,none⟩) 0 0) 0 [] (by rfl) aD.o m.AL n m.cL _ (QI m.L) (by rfl) az.o R.o (by unfold maxLen;omega) (by omega) M.o.size ?_;intro A3 c3 w3 hown3 hgr3 hnc3;(rw[Nat.zero_add,List.nil_append]at hown3);(have a:=Qa hown3);(have d:Qb (Below wc.heap.size wc w3):=Qa (M.o.trans (Qg hgr3 M.o.size (fun k hk=>by simp[Value.ownBlock]at hk;omega))));(have j:=d.o.size);(obtain⟨x3,f3,a9,y3,ag,ai⟩:=SK.o _ d.o);clear hown3 hgr3)
   |((fail_if_success (have:=a));refine Q9 _ (by rfl) _ _ _ (by rfl) wc.heap.size 247 i0 _ 2 32 XM p E I F rfl (by decide) (.slice (some ⟨wc.heap.size,0,none⟩) 0 0) 0 [] (by rfl) am.o m.AL n m.cL _ (QI m.L) (by rfl) au.o R.o (by unfold maxLen;omega) (by omega) O.o.size ?_;intro A3 c3 w3 hown3 hgr3 hnc3;(rw[Nat.zero_add,List.nil_append]at hown3);(have a:=Qa hown3);(have H:Qb (Qh w3 (wc.heap.size+1) 247 #[.int .u8 kd,.slice Ar b cr]):=Qa (ak.o.grown hgr3 (by simp[Value.ownBlock])));(have d:Qb (Below wc.heap.size wc w3):=Qa (O.o.trans (Qg hgr3 O.o.size (fun k hk=>by simp[Value.ownBlock]at hk;omega))));(have j:=d.o.size);(obtain⟨x3,f3,a9,y3,ag,ai⟩:=SK.o _ d.o);clear hown3 hgr3)
   |((fail_if_success (have:=a));refine Q9 _ (by rfl) _ _ _ (by rfl) wc.heap.size 247 i0 _ 2 32 XM p E I F rfl (by decide) (.slice (some ⟨wc.heap.size+1,0,none⟩) 0 0) 0 [] (by rfl) aj.o m.AL n m.cL _ (QI m.L) (by rfl) aA.o R.o (by unfold maxLen;omega) (by omega) N.o.size ?_;intro A3 c3 w3 hown3 hgr3 hnc3;(rw[Nat.zero_add,List.nil_append]at hown3);(have a:=Qa hown3);(have H:Qb (Qh w3 (wc.heap.size) 247 #[.int .u8 kd,.slice Ar b cr]):=Qa (aw.o.grown hgr3 (by simp[Value.ownBlock])));(have d:Qb (Below wc.heap.size wc w3):=Qa (N.o.trans (Qg hgr3 N.o.size (fun k hk=>by simp[Value.ownBlock]at hk;omega))));(have j:=d.o.size);(obtain⟨x3,f3,a9,y3,ag,ai⟩:=SK.o _ d.o);clear hown3 hgr3)
   |((have:=a);(fail_if_success (have:=H));refine Q9 _ (by rfl) _ _ _ (by rfl) wc.heap.size 247 i0 _ 2 32 XM p E I F rfl (by decide) (.slice A3 n c3) n (QI m.L) (by rfl) (Qu a.o _) (some ⟨w3.heap.size,0,none⟩) 1 1 _ [.int .u8 kd,.slice Ar b cr] (by rfl) (Kq (Sl.Ja (sz:=2) (n:=1) (Qh.new w3 247 _) rfl)) a2.o (by unfold maxLen;omega) (by omega) (by simp;omega) ?_;(have BB:=d.o.alloc j (.cells #[.int .u8 kd,.slice Ar b cr] 247));intro A4 c4 w4 hown4 hgr4 hnc4;(have V:=Qa hown4);(have B:Qb (Below wc.heap.size wc w4):=Qa (BB.trans (Qg hgr4 BB.size (fun k hk=>(a.o.lt k hk).1))));(obtain⟨x4,f4,a7,y4,a5,ab⟩:=SK.o _ B.o);clear hown4 hgr4)
   |((have:=H);refine Q9 _ (by rfl) _ _ _ (by rfl) wc.heap.size 247 i0 _ 2 32 XM p E I F rfl (by decide) (.slice A3 n c3) n (QI m.L) (by rfl) a.o (some ⟨wc.heap.size+1,0,none⟩) 1 1 _ [.int .u8 kd,.slice Ar b cr] (by rfl) (Kq (Sl.Ja (sz:=2) (n:=1) H.o rfl)) a2.o (by unfold maxLen;omega) (by omega) j ?_;(have BB:=d.o);intro A4 c4 w4 hown4 hgr4 hnc4;(have V:=Qa hown4);(have B:Qb (Below wc.heap.size wc w4):=Qa (BB.trans (Qg hgr4 BB.size (fun k hk=>(a.o.lt k hk).1))));(obtain⟨x4,f4,a7,y4,a5,ab⟩:=SK.o _ B.o);clear hown4 hgr4)
   |((have:=H);refine Q9 _ (by rfl) _ _ _ (by rfl) wc.heap.size 247 i0 _ 2 32 XM p E I F rfl (by decide) (.slice A3 n c3) n (QI m.L) (by rfl) a.o (some ⟨wc.heap.size,0,none⟩) 1 1 _ [.int .u8 kd,.slice Ar b cr] (by rfl) (Kq (Sl.Ja (sz:=2) (n:=1) H.o rfl)) a2.o (by unfold maxLen;omega) (by omega) j ?_;(have BB:=d.o);intro A4 c4 w4 hown4 hgr4 hnc4;(have V:=Qa hown4);(have B:Qb (Below wc.heap.size wc w4):=Qa (BB.trans (Qg hgr4 BB.size (fun k hk=>(a.o.lt k hk).1))));(obtain⟨x4,f4,a7,y4,a5,ab⟩:=SK.o _ B.o);clear hown4 hgr4))
  all_goals go_wp2_with fail
  all_goals
   go_meet;exact⟨rfl,A4,c4,w4,V.o,rfl,B.o⟩
 obtain⟨rfl,A,c,w9,af,rfl,f⟩:=hcut;have a6:=Qa af;have a3:=Qa (l.o.below f l.o.lt);have aa:=Qa (J.o.below f J.o.lt);have Q:=Qa (i.o.trans (f.mono aB));have a4:=Qa (HS.o.below Q.o);have ad:=Qa (aq.o.keeps (Qd.Qe (base:=0) (ts:=[]) Q.o (Nat.zero_le _)) (by simp));have k6:Qd 0 [36] w9 (w9.setCell ⟨X,0,none⟩ (.slice A (n+1) c)):=(Qd.refl 0 [36] w9).set a3.o (Nat.zero_le _) (by simp) _;have aE:Qb (Qh (w9.setCell ⟨X,0,none⟩ (.slice A (n+1) c)) X 36 #[.slice A (n+1) c,.int .i64 m.Qk,.int .i64 r.half,.int .i64 r.size,.int .i64 r.ep]):=by
  have:=a3.o.set 0 (.slice A (n+1) c);show Qh _ _ _ _;simpa using this
 have U:=Qa (aa.o.Yq (o:=0) ap (.slice A (n+1) c));have ac:=Qa (Jo (o:=0) Q.o ao (.slice A (n+1) c))
 have HE:=Qa (show JN (w9.setCell ⟨X,0,none⟩ (.slice A (n+1) c)) { r with Qo:=r.Qo++[(kd,bs)] } (m.log A c (m.L++[((kd,bs),Ar,cr)]) m.Qk) from by
  have h6:=a4.o.keeps k6 (by decide);refine⟨h6.notes,h6.Qc,h6.marks, ?_, ?_, ?_,h6.Tk⟩
  ·show(m.L++[((kd,bs),Ar,cr)]).map (·.1)=r.Qo++[(kd,bs)];rw[List.map_append,a4.o.Qo];rfl
  ·have:=(Sl.Jl a6.o).keeps k6 (by decide);show Sl _ 247 2 A (r.Qo++[(kd,bs)]).length (QI (m.L++[((kd,bs),Ar,cr)]));rw[List.length_append,List.length_singleton,←P.o,KU];have eb:QI [((kd,bs),Ar,cr)]=[.int .u8 kd,.slice Ar b cr]:=by rw[an.o];rfl
   rw[eb];exact this
  intro z hz;rcases List.mem_append.1 hz with hz|hz
  ·exact h6.OM z hz
  rw[List.mem_singleton]at hz;subst hz;exact⟨ad.o.keeps k6 (by decide),Z.o.2.1,Z.o.2.2,Z.o.1⟩)
 have S:Qb ((prog.info? 36).map (·.size)=some (#[.slice A (n+1) c,.int .i64 m.Qk,.int .i64 r.half,.int .i64 r.size,.int .i64 r.ep]:Array Value).size):=OY;have ar:Qb ((#[.slice A (n+1) c,.int .i64 m.Qk,.int .i64 r.half,.int .i64 r.size,.int .i64 r.ep]:Array Value).all (·.oneCell')=true):=Qa (by simp[Value.oneCell']);clear a3 aa Q a4 a6 af f l J i x0 f0 xl y0 y1 yl SK RD k6;generalize w9.setCell ⟨X,0,none⟩ (.slice A (n+1) c)=w6 at*
 go_wp2_with (first
  |(refine wpList_load_row rfl 36 _ rfl X rfl 36 #[.slice A (n+1) c,.int .i64 m.Qk,.int .i64 r.half,.int .i64 r.size,.int .i64 r.ep] (0,0) _ aE.o underlying36 rfl S.o ?_)
  |(refine wpList_store_row rfl 36 _ _ rfl G #[.slice A (n+1) c,.int .i64 m.Qk,.int .i64 r.half,.int .i64 r.size,.int .i64 r.ep] rfl rfl 36 (QL none 0 0 0 0) U.o S.o rfl ar.o ?_))
 refine bodyPost_ret (v:=.tuple #[.agg #[.slice A (n+1) c,.int .i64 m.Qk,.int .i64 r.half,.int .i64 r.size,.int .i64 r.ep],.int .i64 0]) (Ql results178 _ _ G 36 _ (0,0) _ rfl (Qp U.o _) underlying36 rfl S.o) rfl ?_;have k9:Qd 0 [36] w6 (w6.setRow G #[.slice A (n+1) c,.int .i64 m.Qk,.int .i64 r.half,.int .i64 r.size,.int .i64 r.ep]):=Qd.JY (Qm _ _ _) (Nat.zero_le _) fun g hg=>⟨Nat.zero_le _,fun t ht=>by injection hg with hg;subst hg;rw[U.o.ty]at ht;injection ht with ht;simp[←ht]⟩
 refine⟨A,c,m.L++[((kd,bs),Ar,cr)],m.Qk, ?_,HE.o.keeps k9 (by decide),ac.o.trans (Qg (Qm _ _ _) ac.o.size (gB (by omega)))⟩;have e9:(r.Qo++[(kd,bs)]).length=n+1:=by rw[List.length_append,P.o];rfl
 show _=Ending.returned (.tuple #[.agg #[.slice A (r.Qo++[(kd,bs)]).length c,.int .i64 m.Qk,.int .i64 r.half,.int .i64 r.size,.int .i64 r.ep],.int .i64 ((0:Nat):Int)]);rw[e9];rfl
end
section
open Go.Shelf Go.Sort
theorem PR{v:Int}(l:List (Int × List UInt8))(k:Nat)(hk:k<l.length)(h:∀j (hj:j<l.length),j<k→l[j].1≠v)(he:l[k].1=v):QC l v=some l[k].2:=by
 induction l generalizing k with
 |nil=>simp at hk
 |cons a l ih=>
  obtain⟨a1,a2⟩:=a;rw[Jd];cases k with
  |zero=>simp at he;rw[if_pos he.symm];simp
  |succ k=>
   have h0:=h 0 (by simp) (by omega);simp at h0;rw[if_neg (fun e=>h0 e.symm)];have:=ih k (by simpa using hk) (fun j hj hjk=>by have:=h (j+1) (by simpa using hj) (by omega);simpa using this) (by simpa using he);simpa using this
theorem SR{v:Int}(l:List (Int × List UInt8))(h:∀j (hj:j<l.length),l[j].1≠v):QC l v=none:=by
 induction l with
 |nil=>rfl
 |cons a l ih=>
  obtain⟨a1,a2⟩:=a;rw[Jd];have h0:=h 0 (by simp);simp at h0;rw[if_neg (fun e=>h0 e.symm)];exact ih fun j hj=>by have:=h (j+1) (by simpa using hj);simpa using this
theorem Z1{m:JM}(h:JN w r m)(v:Int)(hl:r.notes.length≤1000000):
  Calls prog 34 #[.agg (Qr r m),.int .i64 v] w fun e w'=>e=.returned (.tuple #[Qw ((QC r.notes v).getD []),.bool (QC r.notes v).isSome])∧Below w.heap.size w w':=by
 have HX:=Qa (Qh.new w 39 (Qr r m));have F:Qb (Below w.heap.size w (w.alloc (.cells (Qr r m) 39))):=bR.alloc nR _;obtain⟨nN,d⟩:=eX r.notes.length;rw[←d]at hl;have N1:=Qa (V1 (f:=JG) (k:=2) (fun _=>rfl) (by decide) h.notes.1).2;have z:=Qa d;have J:(w.alloc (.cells (Qr r m) 39)).cell? ⟨w.heap.size,1,none⟩=some (.slice m.AN nN m.cN):=by rw[d];exact HX.o.cell 1
 have xl:=HX.o.lt;clear h d HX;generalize Qr r m=ra at*
 go_enter func34,ntmps34;go_wp2_with fail;generalize w.alloc (.cells ra 39)=w1 at*
 go_loopw [11] (fun i wr=>∃k:Nat,k≤nN∧i=.int .i64 (k:Nat)∧(∀j (hj:j<r.notes.length),j<k→r.notes[j].1≠v)∧Below w.heap.size w wr) (fun i _=>nN-(intOf i).toNat)
 case atStart=>exact⟨0,Nat.zero_le _,rfl,fun j _ hj=>by omega,F.o⟩
 obtain⟨k,hk,rfl,q,s⟩:=hrel;have c:=Qa q;have l:=Qa s;have G:=s.size;clear q s J xl;by_cases hkl:k<nN
 ·have D:(k:Int)<nN:=by omega
  have a0:(0:Int)≤k:=by omega
  have E:k<r.notes.length:=by rw[←z.o];exact hkl
  obtain⟨b,o,hA,C,A⟩:=N1.o k E;have HT:=Qa (PR (v:=v) r.notes k E c.o)
  have n:=Qa (show r.notes[k].1≠v→∀j (hj:j<r.notes.length),j<k+1→r.notes[j].1≠v from fun h j hj hjk=>by
   rcases Nat.lt_succ_iff_lt_or_eq.1 hjk with h1|h1
   ·exact c.o j hj h1
   subst h1;exact h)
  rw[hA];generalize r.notes[k]=x at*
  obtain⟨a,t⟩:=x;simp only at HT n;have y:Qb (wr.rangeAt b (o+k*2) [.int .i64 a,.string ⟨t.toArray⟩]):=Qa (fun i v hv=>(l.o.cell (p:=⟨b,o+k*2+i,none⟩) C).trans (A i v hv));have B:Qb ((prog.info? 67).map (·.size)=some ([.int .i64 a,.string ⟨t.toArray⟩]:List Value).length):=YL;have HI:Qb ((prog.info? 67).map (·.size)=some (#[.int .i64 a,.string ⟨t.toArray⟩]:Array Value).size):=YL;clear A C
  go_upto_region 4 with first
   |(refine wpList_load_mid rfl 67 _ rfl b (o+k*2) rfl [.int .i64 a,.string ⟨t.toArray⟩] _ y.o underlying67 rfl B.o ?_)
   |(refine wpList_store_row rfl 67 _ _ rfl wr.heap.size #[.int .i64 a,.string ⟨t.toArray⟩] rfl rfl 67 _ (Qh.new wr 67 _) HI.o rfl (by simp[Value.oneCell']) ?_;rw[World.setRow_alloc_new])
  try go_frame
  have HZ:=Qa (Qh.new wr 67 #[.int .i64 a,.string ⟨t.toArray⟩]);have u:=Qa (l.o.alloc G (.cells #[.int .i64 a,.string ⟨t.toArray⟩] 67));clear y B HI l;generalize wr.alloc (.cells #[.int .i64 a,.string ⟨t.toArray⟩] 67)=wz at*
  generalize wr.heap.size=g at*
  have z0:wz.cell? ⟨g,0,none⟩=some (.int .i64 a):=HZ.o.cell 0;have z1:wz.cell? ⟨g,1,none⟩=some (.string ⟨t.toArray⟩):=HZ.o.cell 1;have zl:=HZ.o.lt;by_cases he:a=v
  ·have HG:=Qa (HT.o he);clear HT n;subst he;go_wp2_with fail;go_ret2;exact⟨by rw[HG.o];rfl,u.o⟩
  have H:=Qa (n.o he);clear HT n;go_wp2_with fail;go_roundw
  case rel=>exact⟨k+1,by omega,by simp,H.o,u.o⟩
  case measure=>simp[intOf];omega
 have I:k=nN:=by omega
 subst I;have D:¬(k:Int)<k:=by omega
 have HN:=Qa (SR (v:=v) r.notes fun j hj=>c.o j hj (by rw[z.o];exact hj));go_wp2_with fail;go_ret2;exact⟨by rw[HN.o];rfl,l.o⟩
end
end Go.Proofs.YtmgmfnimaafkdaaGreatDoor
