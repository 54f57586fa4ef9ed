/- The two stores where nothing was; the acts' whole step. No program in sight. -/
import Derived.Test.YtmgmfnimaafkdaaGreatDoorVM
import Derived.Laws.OwnMore
namespace Go.Proofs.YtmgmfnimaafkdaaGreatDoor
set_option maxRecDepth 100000
set_option maxHeartbeats 0
open Go.RowKit Go.Maps Go.Shelf Go.Sort
open Tryz
theorem SL(F:List Bool)(j:Nat)(v:Bool):(F.map Value.bool).set j (.bool v)=(F.set j v).map Value.bool:=by rw[List.map_set]
variable {F:List Bool} {M base lo:Nat} {w:World}
theorem Uz(h:Kr w M lo F)(a n:Nat)(v:Bool)(hl:F.length≤65536)(hn:1≤n)(hf:a+n≤F.length)(hbM:base≤M)(hbw:base≤w.heap.size):
  Calls prog 177 #[.pointer (some ⟨M,0,none⟩),.agg #[.int .i64 ((lo+a:Nat):Int),.int .i64 n],.bool v] w fun e w'=>e=.returned (.tuple #[])∧Kr w' M lo (Vo F a v n)∧Qd base [236] w w':=by
 obtain⟨A,c,hM,hs⟩:=h.ex;obtain⟨i4,O,P,J,R⟩:=info_parts D9;obtain⟨s,hse⟩:∃s:Nat,s=lo+a:=⟨_,rfl⟩;rw[←hse];obtain⟨N,hN⟩:=eX F.length;rw[←hN]at hM hl hf hs;have HX:=Qa (Qh.new w 241 #[.int .i64 s,.int .i64 n]);have HB:Qb (Below w.heap.size w (w.alloc (.cells #[.int .i64 s,.int .i64 n] 241))):=bR.alloc nR _;have f:=Qa (hM.alloc (.cells #[.int .i64 s,.int .i64 n] 241));have H:=Qa (hs.below (bR.alloc nR (.cells #[.int .i64 s,.int .i64 n] 241)));have q1:IntKind.i64.wrap ((s:Int)-(lo:Int))=(a:Int):=by rw[IntKind.wrap_i64];omega
 have D:=Qa hN;have a0:=hM.lt;clear h hs hM hN hse;go_enter func177,ntmps177;go_upto_region 1 with fail;generalize w.alloc (.cells #[.int .i64 s,.int .i64 n] 241)=w1 at*
 have I:=HB.o.size;have m1:w1.cell? ⟨M,1,none⟩=some (.slice A N c):=f.o.cell 1;have ml:=f.o.lt;have C:Qb ((w1.alloc (.cells #[] 4)).ownsRow w1.heap.size 4 1 (.slice (some ⟨w1.heap.size,0,none⟩) 0 0) 0 []):=Qa (World.ownsRow_lit w1 #[] 0 nR (by decide) rfl);have z:Qb (Rd (w1.alloc (.cells #[] 4)) (w1.alloc (.cells #[] 4)).heap.size 1 A N (F.map Value.bool)):=Qa (Kq (H.o.below (bR.alloc nR _)));have y:Qb (∀u∈F.map Value.bool,u.oneCell'=true):=Qa (fun u hu=>by obtain⟨x,_,rfl⟩:=List.mem_map.1 hu;rfl);have mA:(w1.alloc (.cells #[] 4)).cell? ⟨M,1,none⟩=some (.slice A N c):=(f.o.alloc _).cell 1;have K:M<(w1.alloc (.cells #[] 4)).heap.size:=(f.o.alloc _).lt;go_upto_region 2 with(at_builtin;refine Qv _ rfl _ _ 46 rfl w1.heap.size 4 i4 _ 1 1 Gd O P J R rfl (by decide) (.slice (some ⟨w1.heap.size,0,none⟩) 0 0) 0 [] rfl C.o A N c _ (F.map Value.bool) rfl z.o y.o (by unfold maxLen;omega) (by omega) (by simp) ?_;intro A4 c4 w4 hown4 hgr4 hnc4 _;(have d:=Qa hown4);(have L:Qb (Below w1.heap.size w1 w4):=Qa ((bR.alloc nR _).trans (Qg hgr4 (by simp) (fun k hk=>by simp[Value.ownBlock]at hk;omega))));clear hown4 hgr4);rw[Nat.zero_add,List.nil_append]at d;have e0:0+N=N:=Nat.zero_add N;try rw[e0]
 obtain⟨g,Q,a4,a1,_⟩:=Uf d.o (by omega);subst Q;have a3:g≠M:=by omega
 clear m1 mA K ml C z y;go_wp2_with fail;go_loopw [7] (fun i wr=>∃k:Nat,k≤n∧i=.int .i64 (k:Nat)∧wr.ownsRow w1.heap.size 4 1 (.slice (some ⟨g,0,none⟩) N c4) N ((Vo F a v k).map Value.bool)∧Below w1.heap.size w1 wr) (fun i _=>n-(intOf i).toNat)
 case atStart=>exact⟨0,Nat.zero_le _,rfl,d.o,L.o⟩
 obtain⟨k,hk,rfl,p,l⟩:=hrel;have HO:=Qa p;have r:=Qa l;have a5:=l.size;have m:=Qa (HX.o.below l HX.o.lt);have b:=Qa (f.o.below l f.o.lt);have x0:wr.cell? ⟨w.heap.size,0,none⟩=some (.int .i64 s):=m.o.cell 0;have x1:wr.cell? ⟨w.heap.size,1,none⟩=some (.int .i64 n):=m.o.cell 1;have m0:wr.cell? ⟨M,0,none⟩=some (.int .i64 lo):=b.o.cell 0;have xl:=m.o.lt;have ml:=b.o.lt;clear l p;by_cases hkl:k<n
 ·have E:(k:Int)<n:=by omega
  have q2:IntKind.i64.wrap ((a:Int)+(k:Int))=((a+k:Nat):Int):=by rw[IntKind.wrap_i64];omega
  obtain⟨j,hj⟩:=eX (a+k);have S:j<N:=by omega
  rw[←hj]at q2;have j1:(j:Int)<(N:Int):=by omega
  have j0:(0:Int)≤j:=by omega
  have q:=Qa (Rv HO.o);have B:=Qa (World.ownsRow.stored q.o j (.bool v));have a8:wr.drew.cell? ⟨w.heap.size,0,none⟩=some (.int .i64 s):=m.o.drew.cell 0;have a6:wr.drew.cell? ⟨M,0,none⟩=some (.int .i64 lo):=b.o.drew.cell 0;have r0:wr.drew.cell? ⟨g,j,none⟩=some (.bool ((Vo F a v k).getD j false)):=by
   rw[World.ownsRow.cellAt q.o j (by omega)];have G:j<(Vo F a v k).length:=by rw[KP,←D.o];exact S
   simp[List.getD_eq_getElem?_getD,G]
  have r1:wr.drew.frozen? ⟨g,j,none⟩=false:=World.ownsRow.frozenAt q.o j;have a2:=m.o.drew.lt;have a7:=b.o.drew.lt;obtain⟨ov,t⟩:=eX ((Vo F a v k).getD j false);rw[←t]at r0;have HJ:=Qa hj;clear t hj;go_upto_region 5 with fail
  go_region
  all_goals
   go_wp2_with fail;go_roundw
   case rel=>
    refine⟨k+1,by omega,by simp, ?_,r.o.drew.trans (Qg B.o.2 r.o.drew.size (gB (by omega)))⟩;have:=B.o.1;rw[SL,HJ.o]at this;rw[HJ.o];exact this
   case measure=>simp[intOf];omega
 have T:k=n:=by omega
 subst T;have E:¬(k:Int)<k:=by omega
 have m1:wr.cell? ⟨M,1,none⟩=some (.slice A N c):=b.o.cell 1;have f1:=b.o.free 1;go_wp2_with fail
 go_end0
 have kp:Qd base [236] w wr:=Qd.Qe (HB.o.trans (r.o.mono I)) hbw;have kq:Qd base [236] wr (wr.setCell ⟨M,1,none⟩ (.slice (some ⟨g,0,none⟩) N c4)):=(Qd.refl base [236] wr).set b.o hbM (by simp) _;have hx:=b.o.set 1 (.slice (some ⟨g,0,none⟩) N c4);have el:(Vo F a v k).length=N:=by rw[KP,D.o]
 refine⟨rfl,⟨some ⟨g,0,none⟩,c4, ?_, ?_⟩,kp.trans kq⟩
 ·rw[el];simpa using hx
 rw[el];exact(Sl.Jl HO.o).keeps kq (by decide)
theorem Qd.fresh{ts:List TypeId}{a b:World}{row:Option Nat}(h:Qd base ts w a)(hg:a.grownBy b row)(hr:∀k,row=some k→w.heap.size≤k)(hb:base≤w.heap.size):Qd base ts w b:=by
 refine⟨h.below.trans (Qg hg (Nat.le_trans hb h.below.size) (fun k hk=>Nat.le_trans hb (hr k hk))),fun j t ht hn=> ?_⟩;have e:=h.old j t ht hn;have hj:j<w.heap.size:=by
  unfold VG at ht;cases hh:w.heap[j]? with
  |none=>rw[hh]at ht;cases ht
  |some o=>exact(Array.getElem?_eq_some_iff.1 hh).1
 rw[←e];exact hg.block j (Nat.lt_of_lt_of_le hj h.below.size) (fun e=>by have:=hr j e.symm;omega)
def Zm(w w':World)(base M lo:Nat)(F:List Bool)(n:Nat)(e:Ending):Prop:=
 match Yb F n with
 |some a=>e=.returned (.tuple #[.agg #[.int .i64 ((lo+a:Nat):Int),.int .i64 n],.int .i64 0])∧Kr w' M lo (Vo F a false n)∧Qd base [236] w w'
 |none=>e=.returned (.tuple #[.agg #[.int .i64 0,.int .i64 0],.int .i64 5])∧Kr w' M lo F∧Qd base [236] w w'
variable {k n:Nat}
theorem M1(hk:k<F.length)(h:∀j,j<k→(Vj F j n&&YM F j n true)=false)(he:Vj F k n=true)(ha:YM F k n true=true):Yb F n=some k:=by
 unfold Yb;rw[List.find?_range_eq_some];exact⟨by rw[he,ha];rfl,List.mem_range.2 hk,fun j hj=>by rw[h j hj];rfl⟩
theorem MO(h:∀j,j<F.length→(Vj F j n&&YM F j n true)=false):Yb F n=none:=by
 unfold Yb;rw[List.find?_eq_none];intro j hj;rw[h j (List.mem_range.1 hj)];simp
theorem Wu:(prog.info? 241).map (·.size)=some 2:=by kernel_rfl
theorem Fh(h:Kr w M lo F)(n:Nat)(hl:F.length≤65536)(hlo:lo≤65536)(hn1:1≤n)(hn2:n≤1073741826)(hbM:base≤M)(hbw:base≤w.heap.size):
  Calls prog 137 #[.pointer (some ⟨M,0,none⟩),.int .i64 n] w fun e w'=>Zm w w' base M lo F n e:=by
 have HF:=Qa h;obtain⟨N,hN⟩:=eX F.length;obtain⟨A,c,hM,_⟩:=h.ex;have af:=hM.lt;rw[←hN]at hM;have HG:Qb (Qh (w.alloc (.cells #[.int .i64 0,.int .i64 0] 241)) w.heap.size 241 #[.int .i64 0,.int .i64 0]):=Qh.new _ _ _;have HB:Qb (Below w.heap.size w (w.alloc (.cells #[.int .i64 0,.int .i64 0] 241))):=bR.alloc nR _;have V:=Qa (hM.alloc (.cells #[.int .i64 0,.int .i64 0] 241));have ag:¬(n:Int)<1:=by omega
 obtain⟨q,hq⟩:=eX (Yb F n)
 have T:=Qa (show ∀e w',(match q with
  |some a=>e=.returned (.tuple #[.agg #[.int .i64 ((lo+a:Nat):Int),.int .i64 n],.int .i64 0])∧Kr w' M lo (Vo F a false n)∧Qd base [236] w w'
  |none=>e=.returned (.tuple #[.agg #[.int .i64 0,.int .i64 0],.int .i64 5])∧Kr w' M lo F∧Qd base [236] w w')→Zm w w' base M lo F n e from fun e w' h=>by unfold Zm;rw[←hq];exact h)
 have HQ:=Qa hq;have C:=Qa hN;rw[←hN]at hl;have d:∀x y:Int,Qb ((prog.info? 241).map (·.size)=some (#[.int .i64 x,.int .i64 y]:Array Value).size):=fun x y=>Wu
 have X:∀x y:Int,Qb ((#[.int .i64 x,.int .i64 y]:Array Value).all (·.oneCell')=true):=fun x y=>Qa (by simp[Value.oneCell'])
 clear h hN hq hM;go_enter func137,ntmps137;go_upto_region 1 with fail;generalize w.alloc (.cells #[.int .i64 0,.int .i64 0] 241)=w1 at*
 have I:=HB.o.size;go_wp2_with fail;go_loopw [6] (fun i wr=>∃k:Nat,k≤N∧i=.int .i64 (k:Nat)∧(∀j,j<k→(Vj F j n&&YM F j n true)=false)∧Below w1.heap.size w1 wr) (fun i _=>N-(intOf i).toNat)
 case atStart=>exact⟨0,Nat.zero_le _,rfl,fun j h2=>by omega,bR⟩
 obtain⟨k,hk,rfl,L,u⟩:=hrel;have r:=Qa L;have a4:=Qa u;have ac:=u.size;have G:=Qa (V.o.below u V.o.lt);have H:=Qa (HG.o.below u HG.o.lt);have m0:wr.cell? ⟨M,0,none⟩=some (.int .i64 lo):=G.o.cell 0;have m1:wr.cell? ⟨M,1,none⟩=some (.slice A N c):=G.o.cell 1;have ml:=G.o.lt;have a0:=Qa (HB.o.trans (u.mono I));clear L u;by_cases hkl:k<N
 ·have a1:(k:Int)<N:=by omega
  have q1:IntKind.i64.wrap ((lo:Int)+(k:Int))=((lo+k:Nat):Int):=by rw[IntKind.wrap_i64];omega
  obtain⟨s,hs⟩:=eX (lo+k);rw[←hs]at q1;have J:=Qa hs;clear hs;go_upto_region 7 with fail;have HZ:=Qa (Qh.new wr 241 #[.int .i64 s,.int .i64 n]);have E:=Qa (a4.o.alloc ac (.cells #[.int .i64 s,.int .i64 n] 241));have W:=Qa (H.o.alloc (.cells #[.int .i64 s,.int .i64 n] 241));clear m0 m1 ml G H;generalize wr.alloc (.cells #[.int .i64 s,.int .i64 n] 241)=w2 at*
  generalize wr.heap.size=g at*
  have B:=E.o.size;have S:=Qa (HB.o.trans (E.o.mono I));have Q:=Qa (HF.o.below S.o);have a8:k<F.length:=by rw[←C.o];exact hkl
  have z:=Qa (show Calls prog 175 #[.pointer (some ⟨M,0,none⟩),.agg #[.int .i64 s,.int .i64 n]] w2 fun e w'=>e=.returned (.bool (Vj F k n))∧Below w2.heap.size w2 w' from by rw[J.o];exact L9 Q.o k n (by rw[←C.o];exact hl) hlo (by omega) hn2);have t:=Qa (show Vj F k n=true→∀wy,Below w2.heap.size w2 wy→Calls prog 176 #[.pointer (some ⟨M,0,none⟩),.agg #[.int .i64 s,.int .i64 n],.bool true] wy fun e w'=>e=.returned (.bool (YM F k n true))∧Below wy.heap.size wy w' from fun hf wy hy=>by rw[J.o];exact NJ (Q.o.below hy) k n true (by rw[←C.o];exact hl) (Vm.1 hf).2);have P:=Qa (show Vj F k n=true→∀wy,Below w2.heap.size w2 wy→Calls prog 177 #[.pointer (some ⟨M,0,none⟩),.agg #[.int .i64 s,.int .i64 n],.bool false] wy fun e w'=>e=.returned (.tuple #[])∧Kr w' M lo (Vo F k false n)∧Qd base [236] wy w' from fun hf wy hy=>by rw[J.o];exact Uz (Q.o.below hy) k n false (by rw[←C.o];exact hl) hn1 (Vm.1 hf).2 hbM (Nat.le_trans hbw (S.o.trans (hy.mono (Nat.le_trans I B))).size));cases hft:Vj F k n with
  |false=>
   have p:=Qa (show ∀j,j<k+1→(Vj F j n&&YM F j n true)=false from fun j hj=>by
    by_cases h3:j<k
    ·exact r.o j h3
    have:j=k:=by omega
    rw[this,hft];rfl)
   rw[hft]at z;clear hft
   go_wp2_with (first
    |(refine wpList_load_row rfl 241 _ rfl g rfl 241 #[.int .i64 s,.int .i64 n] (0,0) _ HZ.o underlying241 rfl (d s n).o ?_)
    |(go_at_call 175;refine z.o.mono ?_;rintro en w3 ⟨rfl,b⟩;(have l:=Qa (E.o.trans (b.mono B)));clear b))
   go_roundw
   case rel=>exact⟨k+1,by omega,by simp,p.o,l.o⟩
   case measure=>simp[intOf];omega
  |true=>
   have t:=Qa (t.o hft);have P:=Qa (P.o hft);rw[hft]at z;cases hal:YM F k n true with
   |false=>
    have p:=Qa (show ∀j,j<k+1→(Vj F j n&&YM F j n true)=false from fun j hj=>by
     by_cases h3:j<k
     ·exact r.o j h3
     have:j=k:=by omega
     rw[this,hft,hal];rfl)
    rw[hal]at t;clear hft hal
    go_wp2_with (first
     |(refine wpList_load_row rfl 241 _ rfl g rfl 241 #[.int .i64 s,.int .i64 n] (0,0) _ HZ.o underlying241 rfl (d s n).o ?_)
     |(go_at_call 175;refine z.o.mono ?_;rintro en w3 ⟨rfl,b⟩;(have l:=Qa (E.o.trans (b.mono B)));(have f:=Qa (HZ.o.below b HZ.o.lt));(have a9:w3.cell? ⟨g,0,none⟩=some (.int .i64 s):=f.o.cell 0);(have a7:w3.cell? ⟨g,1,none⟩=some (.int .i64 n):=f.o.cell 1);(have a3:=f.o.lt);(have D:=Qa b);clear b)
     |(go_at_call 176;refine(t.o _ D.o).mono ?_;rintro en w4 ⟨rfl,m⟩;(have U:=Qa (l.o.trans (m.mono l.o.size)));clear m))
    go_roundw
    case rel=>exact⟨k+1,by omega,by simp,p.o,U.o⟩
    case measure=>simp[intOf];omega
   |true=>
    have ad:q=some k:=by rw[HQ.o];exact M1 a8 r.o hft hal
    subst ad;rw[hal]at t;clear hft hal
    go_wp2_with (first
     |(refine wpList_load_row rfl 241 _ rfl g rfl 241 #[.int .i64 s,.int .i64 n] (0,0) _ HZ.o underlying241 rfl (d s n).o ?_)
     |(go_at_call 175;refine z.o.mono ?_;rintro en w3 ⟨rfl,b⟩;(have l:=Qa (E.o.trans (b.mono B)));(have f:=Qa (HZ.o.below b HZ.o.lt));(have a9:w3.cell? ⟨g,0,none⟩=some (.int .i64 s):=f.o.cell 0);(have a7:w3.cell? ⟨g,1,none⟩=some (.int .i64 n):=f.o.cell 1);(have a3:=f.o.lt);(have D:=Qa b);clear b)
     |(go_at_call 176;refine(t.o _ D.o).mono ?_;rintro en w4 ⟨rfl,m⟩;(have U:=Qa (l.o.trans (m.mono l.o.size)));(have Z:=Qa (f.o.below m f.o.lt));(have R:=Qa (D.o.trans (m.mono D.o.size)));clear m)
     |(refine wpList_load_row rfl 241 _ rfl g rfl 241 #[.int .i64 s,.int .i64 n] (0,0) _ Z.o underlying241 rfl (d s n).o ?_)
     |(go_at_call 177;refine(P.o _ R.o).mono ?_;rintro en w5 ⟨rfl,a2,K⟩;(have a5:=Qa a2);(have aa:=Qa K);(have ab:=Qa (Z.o.keeps K (by decide)));(have O:=Qa ((W.o.below R.o W.o.lt).keeps K (by decide)));clear a2 K)
     |(refine wpList_load_row rfl 241 _ rfl g rfl 241 #[.int .i64 s,.int .i64 n] (0,0) _ ab.o underlying241 rfl (d s n).o ?_)
     |(refine wpList_store_row rfl 241 _ _ rfl w.heap.size #[.int .i64 s,.int .i64 n] rfl rfl 241 #[.int .i64 0,.int .i64 0] O.o (d s n).o rfl (X s n).o ?_))
    refine bodyPost_ret (v:=.tuple #[.agg #[.int .i64 s,.int .i64 n],.int .i64 0]) (Ql results137 _ _ w.heap.size 241 _ (0,0) _ rfl (Qp O.o _) underlying241 rfl (d s n).o) rfl ?_;refine T.o _ _ ⟨by rw[J.o],a5.o.keeps (Q5 (ts:=[241]) O.o (by decide) _) (by decide) (by decide), ?_⟩;have kw:Qd base [236] w w5:=(Qd.Qe (S.o.trans (R.o.mono (Nat.le_trans I B))) hbw).trans aa.o;exact kw.fresh (Qm w5 w.heap.size #[.int .i64 s,.int .i64 n]) (gB (by omega)) hbw
 have ae:k=N:=by omega
 subst ae;have a1:¬(k:Int)<k:=by omega
 have a6:q=none:=by rw[HQ.o];exact MO fun j hj=>r.o j (by rw[C.o];exact hj)
 subst a6;go_wp2_with (refine wpList_store_row rfl 241 _ _ rfl w.heap.size #[.int .i64 0,.int .i64 0] rfl rfl 241 #[.int .i64 0,.int .i64 0] H.o (d 0 0).o rfl (X 0 0).o ?_);refine bodyPost_ret (v:=.tuple #[.agg #[.int .i64 0,.int .i64 0],.int .i64 5]) (Ql results137 _ _ w.heap.size 241 _ (0,0) _ rfl (Qp H.o _) underlying241 rfl (d 0 0).o) rfl ?_;have Y:Below w.heap.size w (wr.setRow w.heap.size #[.int .i64 0,.int .i64 0]):=a0.o.trans (Qg (Qm _ _ _) a0.o.size (gB (by omega)));exact T.o _ _ ⟨rfl,HF.o.below Y,Qd.Qe Y hbw⟩
theorem T0(h:Kr w M lo F)(a n:Nat)(hl:F.length≤65536)(hlo:lo≤65536)(ha:a≤4194304)(hn2:n≤1073741826)(hbM:base≤M)(hbw:base≤w.heap.size):
  Calls prog 141 #[.pointer (some ⟨M,0,none⟩),.agg #[.int .i64 ((lo+a:Nat):Int),.int .i64 n]] w fun e w'=>(∃er,e=.returned (.int .i64 er))∧Kr w' M lo (VJ F a n)∧Qd base [236] w w':=by
 have HF:=Qa h;obtain⟨s,hs⟩:=eX (lo+a);rw[←hs];have HX:=Qa (Qh.new w 241 #[.int .i64 s,.int .i64 n]);have HB:Qb (Below w.heap.size w (w.alloc (.cells #[.int .i64 s,.int .i64 n] 241))):=bR.alloc nR _;have q:=Qa (h.below (bR.alloc nR (.cells #[.int .i64 s,.int .i64 n] 241)));have f:Qb ((prog.info? 241).map (·.size)=some (#[.int .i64 s,.int .i64 n]:Array Value).size):=Wu;have HQ:=Qa (show VJ F a n=if Vj F a n&&YM F a n false then Vo F a true n else F from rfl);have p:=Qa hs;clear h hs;go_enter func141,ntmps141;go_upto_region 1 with fail;generalize w.alloc (.cells #[.int .i64 s,.int .i64 n] 241)=w1 at*
 have l:=HB.o.size;have j:=Qa (show Calls prog 175 #[.pointer (some ⟨M,0,none⟩),.agg #[.int .i64 s,.int .i64 n]] w1 fun e w'=>e=.returned (.bool (Vj F a n))∧Below w1.heap.size w1 w' from by rw[p.o];exact L9 q.o a n hl hlo ha hn2);have d:=Qa (show Vj F a n=true→∀wy,Below w1.heap.size w1 wy→Calls prog 176 #[.pointer (some ⟨M,0,none⟩),.agg #[.int .i64 s,.int .i64 n],.bool false] wy fun e w'=>e=.returned (.bool (YM F a n false))∧Below wy.heap.size wy w' from fun hf wy hy=>by rw[p.o];exact NJ (q.o.below hy) a n false hl (Vm.1 hf).2);have m:=Qa (show Vj F a n=true→∀wy,Below w1.heap.size w1 wy→Calls prog 177 #[.pointer (some ⟨M,0,none⟩),.agg #[.int .i64 s,.int .i64 n],.bool true] wy fun e w'=>e=.returned (.tuple #[])∧Kr w' M lo (Vo F a true n)∧Qd base [236] wy w' from fun hf wy hy=>by rw[p.o];exact Uz (q.o.below hy) a n true hl (Vm.1 hf).1 (Vm.1 hf).2 hbM (Nat.le_trans hbw (HB.o.trans (hy.mono l)).size));cases hft:Vj F a n with
 |false=>
  have k:=Qa (show VJ F a n=F from by rw[HQ.o,hft];rfl);rw[hft]at j;clear hft
  go_wp2_with (first
   |(refine wpList_load_row rfl 241 _ rfl w.heap.size rfl 241 #[.int .i64 s,.int .i64 n] (0,0) _ HX.o underlying241 rfl f.o ?_)
   |(go_at_call 175;refine j.o.mono ?_;rintro en w3 ⟨rfl,b⟩;(have u:=Qa (HB.o.trans (b.mono l)));clear b))
  go_ret;refine⟨⟨_,rfl⟩, ?_,Qd.Qe u.o hbw⟩;rw[k.o];exact HF.o.below u.o
 |true=>
  have d:=Qa (d.o hft);have m:=Qa (m.o hft);rw[hft]at j;cases hal:YM F a n false with
  |false=>
   have k:=Qa (show VJ F a n=F from by rw[HQ.o,hft,hal];rfl);rw[hal]at d;clear hft hal
   go_wp2_with (first
    |(refine wpList_load_row rfl 241 _ rfl w.heap.size rfl 241 #[.int .i64 s,.int .i64 n] (0,0) _ HX.o underlying241 rfl f.o ?_)
    |(go_at_call 175;refine j.o.mono ?_;rintro en w3 ⟨rfl,b⟩;(have i:=Qa (HX.o.below b HX.o.lt));(have c:=Qa b);clear b)
    |(refine wpList_load_row rfl 241 _ rfl w.heap.size rfl 241 #[.int .i64 s,.int .i64 n] (0,0) _ i.o underlying241 rfl f.o ?_)
    |(go_at_call 176;refine(d.o _ c.o).mono ?_;rintro en w4 ⟨rfl,g⟩;(have r:=Qa (HB.o.trans ((c.o.trans (g.mono c.o.size)).mono l)));clear g))
   go_ret;refine⟨⟨_,rfl⟩, ?_,Qd.Qe r.o hbw⟩;rw[k.o];exact HF.o.below r.o
  |true=>
   have k:=Qa (show VJ F a n=Vo F a true n from by rw[HQ.o,hft,hal];rfl);rw[hal]at d;clear hft hal
   go_wp2_with (first
    |(refine wpList_load_row rfl 241 _ rfl w.heap.size rfl 241 #[.int .i64 s,.int .i64 n] (0,0) _ HX.o underlying241 rfl f.o ?_)
    |(go_at_call 175;refine j.o.mono ?_;rintro en w3 ⟨rfl,b⟩;(have i:=Qa (HX.o.below b HX.o.lt));(have c:=Qa b);clear b)
    |(refine wpList_load_row rfl 241 _ rfl w.heap.size rfl 241 #[.int .i64 s,.int .i64 n] (0,0) _ i.o underlying241 rfl f.o ?_)
    |(go_at_call 176;refine(d.o _ c.o).mono ?_;rintro en w4 ⟨rfl,g⟩;(have A:=Qa (i.o.below g i.o.lt));(have t:=Qa (c.o.trans (g.mono c.o.size)));clear g)
    |(refine wpList_load_row rfl 241 _ rfl w.heap.size rfl 241 #[.int .i64 s,.int .i64 n] (0,0) _ A.o underlying241 rfl f.o ?_)
    |(go_at_call 177;refine(m.o _ t.o).mono ?_;rintro en w5 ⟨rfl,v,x⟩;(have z:=Qa v);(have y:=Qa x);clear v x))
   go_ret;refine⟨⟨_,rfl⟩, ?_,(Qd.Qe (HB.o.trans (t.o.mono l)) hbw).trans y.o⟩;rw[k.o];exact z.o
def VQ(p:Value):Sem Value:=Instr.loadAt 39 p
theorem VC(p:Value):Instr.loadAt 39 p=VQ p:=rfl
variable {cs:Array Value} {g:Nat}
theorem QG(hk:Qh w g 39 cs)(hs:cs.size=12):(VQ (.pointer (some ⟨g,0,none⟩))).run prog w=.ok (.agg cs) w:=by
 have:=run_loadVar_row (P:=prog) w g 39 39 cs (0,0) _ hk underlying39 rfl (by rw[hs];exact Jy);simp only[VQ,Instr.loadAt,Instr.sureAddr,Sem.run_bind,Sem.run_pure,Result.andThen_ok,this]
def LN(p v:Value):Sem Unit:=Instr.storeAt 39 p v
theorem VF(p v:Value):Instr.storeAt 39 p v=LN p v:=rfl
theorem QY{v:Array Value}(hk:Qh w g 39 cs)(hs:cs.size=12)(hv:v.size=12)(h1:v.all (·.oneCell')=true):(LN (.pointer (some ⟨g,0,none⟩)) (.agg v)).run prog w=.ok () (w.setRow g v):=by
 have:=run_storeVar_row (P:=prog) w g 39 39 cs v hk (by rw[hv];exact Jy) (by omega) h1;simp only[LN,Instr.storeAt,Instr.sureAddr,Sem.run_bind,Sem.run_pure,Result.andThen_ok,this]
theorem JK(r:QH)(m:JM):(Qr r m).size=12:=rfl
theorem QX(r:QH)(m:JM):(Qr r m).all (·.oneCell')=true:=by simp[Value.oneCell']
def Yk(w w':World)(m m':JM):Prop:=∀a,m'.AM=some a→(∃b,m.AM=some b∧a.block=b.block)∨(w.heap.size≤a.block∧a.block<w'.heap.size)
variable {w':World}
theorem Yk.same{m m':JM}(h:m'.AM=m.AM):Yk w w' m m':=fun a ha=>.inl ⟨a,by rw[←h];exact ha,rfl⟩
theorem Yk.new{m m':JM}(h:∀a,m'.AM=some a→w.heap.size≤a.block∧a.block<w'.heap.size):Yk w w' m m':=fun a ha=>.inr (h a ha)
def G8(w w':World)(m:JM)(q:Nat × QH)(e:Ending):Prop:=
 ∃m',e=.returned (.tuple #[.agg (Qr q.2 m'),.int .i64 q.1])∧JN w' q.2 m'∧m'.M=m.M∧Yk w w' m m'∧Below w.heap.size w w'
section
attribute [local go_sem ↓] VC VF
variable {r:QH}
theorem Pw{m:JM}(h:JN w r m)(ok:Ya r)(lk:XV r)(hM:r.marks.length≤100000)(t:List UInt8)(ht:t.length≤1048576):
  Calls prog 81 #[.agg (Qr r m),Qw t] w fun e w'=>G8 w w' m (Xn r t) e:=by
 obtain⟨i9,ae,ab,al,ad⟩:=info_parts Gk;have HX:Qb (Qh ((w.alloc (.cells (Qr r m) 39)).alloc (.cells Ji 39)) w.heap.size 39 (Qr r m)):=(Qh.new _ _ _).alloc _;have HG:Qb (Qh ((w.alloc (.cells (Qr r m) 39)).alloc (.cells Ji 39)) (w.heap.size+1) 39 Ji):=Qh.Qz (by simp);have HB:Qb (Below w.heap.size w ((w.alloc (.cells (Qr r m) 39)).alloc (.cells Ji 39))):=(bR.alloc nR _).alloc (by simp) _;have HS:=Qa h;have l:=Qa ok;have y:=Qa lk;have HQ:Qb (Xn r t=if 3000<t.length then(1,r)else QE { r with marks:=r.marks++[t] } r (77,t)):=rfl;have T:=Qa (show ∀wy,Calls prog 143 #[.int .u8 77,Qw t] wy fun e w'=>Kz wy w' (77,t) e from fun wy=>Vb 77 t);obtain⟨q,hq⟩:=eX (Xn r t);rw[←hq]at HQ ⊢;obtain⟨k,hk⟩:=eX t.length;have av:(⟨t.toArray⟩:ByteArray).size=k:=by rw[hk];simp[ByteArray.size]
 rw[←hk]at HQ ht;have HK:=Qa hk;obtain⟨n,hn⟩:=eX r.marks.length;have HN:=Qa hn;rw[←hn]at hM;have f:∀wy,Qh wy w.heap.size 39 (Qr r m)→wy.cell? ⟨w.heap.size,3,none⟩=some (.slice m.AM n m.cM):=fun wy hy=>by rw[hn];exact hy.cell 3
 have f:=Qa f;have ac:=Qa (show ∀u∈r.marks.map Qw,u.oneCell'=true from fun u hu=>by obtain⟨x,_,rfl⟩:=List.mem_map.1 hu;rfl);have ah:Sl w 9 1 m.AM n (r.marks.map Qw):=by rw[hn];exact h.marks
 have a4:=Qa ah;have g:Qb ((Qr r m).size=12∧(Qr r m).all (·.oneCell')=true):=⟨rfl,by simp[Value.oneCell']⟩;clear h ok lk hq hk hn ah;unfold Qw at T;unfold Qw;obtain⟨tb,htb⟩:∃tb:ByteArray,(⟨t.toArray⟩:ByteArray)=tb:=⟨_,rfl⟩;rw[htb]at av T ⊢;have aF:=Qa htb;clear htb;go_enter func81,ntmps81;go_upto_region 1 with fail;generalize (w.alloc (.cells (Qr r m) 39)).alloc (.cells Ji 39)=w1 at*
 have aj:=HB.o.size;have HI:=Qa (show (prog.info? 39).map (·.size)=some (Qr r m).size from Jy);obtain⟨ra,E⟩:=eX (Qr r m);rw[←E]at HX g f HI;have Q:=Qa E;obtain⟨X,hX⟩:=eX w.heap.size;obtain⟨G,hG⟩:=eX (w.heap.size+1);rw[←hG,←hX,←E];rw[←hX]at HX f;rw[←hG]at HG;have ay:w.heap.size≤X:=by omega
 have aP:w.heap.size≤G:=by omega
 have aq:G≠X:=by omega
 clear hX hG E;have l0:=QG HX.o g.o.1;by_cases hk3:3000<k
 ·have aG:(k:Int)>3000:=by omega
  have hq:q=(1,r):=by rw[HQ.o,if_pos hk3]
  subst hq;have zs:=QY HG.o rfl g.o.1 g.o.2;go_wp2_with fail;refine bodyPost_ret (v:=.tuple #[.agg ra,.int .i64 1]) (Ql results81 _ _ G 39 _ (0,0) _ rfl (Qp HG.o _) underlying39 rfl HI.o) rfl ?_;have H:Below w.heap.size w (w1.setRow G ra):=HB.o.trans (Qg (Qm _ _ _) aj (gB (by omega)));exact⟨m,by rw[Q.o];rfl,HS.o.below H,rfl,Yk.same rfl,H⟩
 have aG:¬(k:Int)>3000:=by omega
 have hq:q=QE { r with marks:=r.marks++[t] } r (77,t):=by rw[HQ.o,if_neg hk3]
 have ao:=Qa hq;clear hq HQ;have aD:(LN (.pointer (some ⟨w1.heap.size,0,none⟩)) (.agg ra)).run prog (w1.alloc (.cells Ji 39))=.ok () (w1.alloc (.cells ra 39)):=by
  have:=QY (v:=ra) (Qh.new w1 39 Ji) rfl g.o.1 g.o.2;rwa [World.setRow_alloc_new]at this
 go_upto_region 4 with fail;have b:=Qa (HX.o.alloc (.cells ra 39));have R:=Qa (HG.o.alloc (.cells ra 39));have C:=Qa (Qh.new w1 39 ra);have B:=Qa (HB.o.alloc aj (.cells ra 39));have aL:=HX.o.lt;have au:=HG.o.lt;clear l0 aD HX HG HB;obtain⟨Y,hY⟩:=eX w1.heap.size;rw[←hY]at C ⊢;have aK:Y≠X:=by omega
 have aN:G≠Y:=by omega
 clear hY aL au;generalize w1.alloc (.cells ra 39)=w3 at*
 have O:=B.o.size;have x3:w3.cell? ⟨X,3,none⟩=some (.slice m.AM n m.cM):=f.o _ b.o;have xl:=b.o.lt;have a6:Qb ((w3.alloc (.cells #[] 9)).ownsRow w3.heap.size 9 1 (.slice (some ⟨w3.heap.size,0,none⟩) 0 0) 0 []):=Qa (World.ownsRow_lit w3 #[] 0 nR (by decide) rfl);have am:Qb (Rd (w3.alloc (.cells #[] 9)) (w3.alloc (.cells #[] 9)).heap.size 1 m.AM n (r.marks.map Qw)):=Qa (Kq (a4.o.below (B.o.alloc O _)));have ar:(w3.alloc (.cells #[] 9)).cell? ⟨X,3,none⟩=some (.slice m.AM n m.cM):=f.o _ (b.o.alloc _);have az:X<(w3.alloc (.cells #[] 9)).heap.size:=(b.o.alloc _).lt;have a7:Qb (∀u∈([.string tb]:List Value),u.oneCell'=true):=Qa (by simp[Value.oneCell'])
 go_upto_region 5 with(first
  |(at_builtin;refine Qv _ rfl _ _ 33 rfl w3.heap.size 9 i9 _ 1 16 ZI ae ab al ad rfl (by decide) (.slice (some ⟨w3.heap.size,0,none⟩) 0 0) 0 [] rfl a6.o m.AM n m.cM _ (r.marks.map Qw) rfl am.o ac.o (by unfold maxLen;omega) (by omega) (by simp) ?_;intro A4 c4 w4 hown4 hgr4 hnc4 _;(have j:Qb (w4.ownsRow w3.heap.size 9 1 (.slice A4 n c4) n (r.marks.map Qw)):=Qa (by rw[Nat.zero_add,List.nil_append]at hown4;exact hown4));(have F:Qb (Below w3.heap.size w3 w4):=Qa ((bR.alloc nR _).trans (Qg hgr4 (by simp) (fun k hk=>by simp[Value.ownBlock]at hk;omega))));(have ax:=F.o.size);(have aC:=Qa (b.o.below F.o b.o.lt));(have L:=Qa (Qu j.o (.cells #[.string tb] 9)));(have N:=Qa (Kq (Sl.Ja (sz:=1) (n:=1) (Qh.new w4 9 [.string tb].toArray) rfl)));clear hown4 hgr4)
  |(at_builtin;(try rw[Nat.zero_add]);refine Qv _ rfl _ _ 33 rfl w3.heap.size 9 i9 _ 1 16 ZI ae ab al ad rfl (by decide) (.slice A4 n c4) n (r.marks.map Qw) rfl L.o (some ⟨w4.heap.size,0,none⟩) 1 1 _ [.string tb] rfl N.o a7.o (by unfold maxLen;omega) (by omega) (by simp;omega) ?_;intro A5 c5 w5 hown5 hgr5 hnc5 _;(have d:=Qa hown5);(have z:Qb (Below w3.heap.size w3 w5):=Qa ((F.o.alloc ax _).trans (Qg hgr5 (by simp;omega) (fun k hk=>(j.o.lt k hk).1))));(have p:=Qa (b.o.below z.o b.o.lt));(have aH:=f.o _ p.o);(have aw:=p.o.free 3);(have aE:=p.o.lt);clear hown5 hgr5))
 obtain⟨r1,hr1⟩:∃r1,r1={ r with marks:=r.marks++[t] }:=⟨_,rfl⟩;obtain⟨m1,hm1⟩:∃m1,m1={ m with AM:=A5,cM:=c5 }:=⟨_,rfl⟩
 have a9:Qb (Qr r1 m1=#[.int .i64 r.size,.slice m.AN r.notes.length m.cN,.slice m.AS r.Qc.length m.cS,.slice A5 (n+1) c5,.slice m.AL r.Qo.length m.cL,.int .i64 m.Qk,.int .i64 r.half,.int .i64 r.size,.int .i64 r.ep,.pointer (some ⟨m.M,0,none⟩),.int .i64 r.VB,.int .i64 r.QA]):=Qa (by
  rw[hr1,hm1];show(#[.int .i64 r.size,.slice m.AN r.notes.length m.cN,.slice m.AS r.Qc.length m.cS,.slice A5 (r.marks++[t]).length c5,.slice m.AL r.Qo.length m.cL,.int .i64 m.Qk,.int .i64 r.half,.int .i64 r.size,.int .i64 r.ep,.pointer (some ⟨m.M,0,none⟩),.int .i64 r.VB,.int .i64 r.QA]:Array Value)=_;rw[List.length_append,List.length_singleton,←HN.o])
 have K:Qb (Qh (w5.setCell ⟨X,3,none⟩ (.slice A5 (n+1) c5)) X 39 (Qr r1 m1)):=by
  have:=p.o.set 3 (.slice A5 (n+1) c5);rw[a9.o];rw[Q.o]at this;show Qh _ _ _ _;simpa using this
 have a0:=Qa ((R.o.below z.o R.o.lt).Yq (o:=3) aq (.slice A5 (n+1) c5));have I:=Qa ((C.o.below z.o C.o.lt).Yq (o:=3) aK (.slice A5 (n+1) c5));have a8:=Qa (Jo (o:=3) (B.o.trans (z.o.mono O)) ay (.slice A5 (n+1) c5));have k6:Qd 0 [39] w5 (w5.setCell ⟨X,3,none⟩ (.slice A5 (n+1) c5)):=(Qd.refl 0 [39] w5).set p.o (Nat.zero_le _) (by simp) _;have a2:Qb (JN (w5.setCell ⟨X,3,none⟩ (.slice A5 (n+1) c5)) r m):=Qa ((HS.o.below (B.o.trans (z.o.mono O))).keeps k6 (by decide))
 have aM:Qb (JN (w5.setCell ⟨X,3,none⟩ (.slice A5 (n+1) c5)) r1 m1):=Qa (by
  have h6:=a2.o;rw[hr1,hm1];refine⟨h6.notes,h6.Qc, ?_,h6.Qo,h6.row,h6.OM, ?_⟩;rotate_left
  ·obtain⟨A',c',e',aB⟩:=Jg d.o;injection e' with _ _ e';subst e';show(r.marks++[t]).length≤c5;rw[List.length_append,List.length_singleton,←HN.o];exact aB
  have:=(Sl.Jl d.o).keeps k6 (by decide);show Sl _ 9 1 A5 (r.marks++[t]).length ((r.marks++[t]).map Qw);rw[List.length_append,List.length_singleton,←HN.o,List.map_append];have e1:[t].map Qw=[.string tb]:=by rw[←aF.o];rfl
  rw[e1];exact this)
 have ap:Qb (Ya r1):=Qa (by
  rw[hr1];refine⟨l.o.notes,l.o.Qc,fun x hx=> ?_,l.o.nN,l.o.nS, ?_⟩
  ·rcases List.mem_append.1 hx with hx|hx
   ·exact l.o.marks x hx
   rw[List.mem_singleton]at hx;subst hx;rw[←HK.o];omega
  show(r.marks++[t]).length≤_;rw[List.length_append,List.length_singleton,←HN.o];omega)
 have af:Qb (XV r1):=Qa (by rw[hr1];exact⟨y.o.h,y.o.s,y.o.e,y.o.n⟩)
 have aJ:Qb (∀a,A5=some a→w.heap.size≤a.block∧a.block<(w5.setCell ⟨X,3,none⟩ (.slice A5 (n+1) c5)).heap.size):=Qa (fun a ha=>by
  have:=d.o.lt a.block (by rw[ha];rfl);have:=this.1;simp;omega)
 have P:Qb (m1.M=m.M∧m1.AM=A5):=Qa (by rw[hm1];exact⟨rfl,rfl⟩);have aA:Qb (q=QE r1 r (77,t)):=Qa (by rw[ao.o,hr1]);have J:Qb (k=t.length∧k≤1048576):=Qa ⟨HK.o,ht⟩;clear p aC b R C B a6 am x3 ar az xl aH aw aE a7 k6 ao hr1 hm1 j L N F a9 d HS a4 ac HN f l y;generalize hr1a:Qr r1 m1=r1a at*
 have an:Qb (r1a.size=12∧r1a.all (·.oneCell')=true):=Qa (by rw[←hr1a];exact⟨rfl,QX r1 m1⟩);have Z:=Qa hr1a;clear hr1a;go_upto_region 5 with fail;have a3:=a8.o.size;generalize w5.setCell ⟨X,3,none⟩ (.slice A5 (n+1) c5)=w6 at*
 have SK:=Qa (show ∀wy,Below w6.heap.size w6 wy→(VQ (.pointer (some ⟨X,0,none⟩))).run prog wy=.ok (.agg r1a) wy∧(VQ (.pointer (some ⟨Y,0,none⟩))).run prog wy=.ok (.agg ra) wy from fun wy hy=>⟨QG (K.o.below hy K.o.lt) an.o.1,QG (I.o.below hy I.o.lt) g.o.1⟩);have S0:=Qa (SK.o _ bR.drew)
 have aI:=Qa (show ∀wy A c,Below w6.heap.size w6 wy→Kb wy A t→k≤c→Calls prog 139 #[.agg r1a,.agg ra,.agg #[.int .u8 77,.slice A k c]] wy fun e w'=>XH wy w' m1 m q e from fun wy A c hy hb hc=>by
  rw[aA.o,←Z.o,Q.o,J.o.1];exact V7 (aM.o.below hy) (a2.o.below hy) P.o.1.symm ap.o af.o 77 t A c hb (by rw[←J.o.1];exact hc) (by decide) (by have:=J.o;omega))
 go_region_held3 (fun wy=>(VQ (.pointer (some ⟨X,0,none⟩))).run prog wy=.ok (.agg r1a) wy∧(VQ (.pointer (some ⟨Y,0,none⟩))).run prog wy=.ok (.agg ra) wy)
  (first|exact S0.o|exact S9.o|exact SK.o _ i.o|exact SK.o _ D.o)
  (first
   |(go_at_call 143;refine(T.o _).mono ?_;rintro en w7 ⟨⟨A7,c7,rfl,ai,aa⟩,hb⟩;(have D:Qb (Below w6.heap.size w6 w7):=bR.drew.trans hb);(have ak:=Qa ai);(have W:=Qa aa);(have ek:t.length=k:=J.o.1.symm);(rw[ek]at W);(try simp only[ek]);clear ai hb aa ek)
   |(go_at_call 139;refine(aI.o w7 A7 c7 D.o ak.o W.o).mono ?_;rintro en w8 ⟨m8,rfl,a1,a5,V,ag⟩;(have i:Qb (Below w6.heap.size w6 w8):=D.o.trans (ag.mono D.o.size));(have U:=Qa (a0.o.below i.o a0.o.lt));(have aO:=QY U.o rfl (JK q.2 m8) (QX q.2 m8));(have S:=Qa (And.intro a1 (And.intro a5 V)));(have S9:=Qa (And.intro (QG ((K.o.below i.o K.o.lt).Km (fun e=>aq e.symm) (Qr q.2 m8)) an.o.1) (QG ((I.o.below i.o I.o.lt).Km (fun e=>aN e.symm) (Qr q.2 m8)) g.o.1)));clear a1 a5 V ag))
 all_goals
  go_wp2_with fail;refine bodyPost_ret (v:=.tuple #[.agg (Qr q.2 m8),.int .i64 q.1]) (Ql results81 _ _ G 39 _ (0,0) _ rfl (Qp U.o _) underlying39 rfl Jy) rfl ?_;have H:Below w.heap.size w (w8.setRow G (Qr q.2 m8)):=(a8.o.trans (i.o.mono a3)).trans (Qg (Qm _ _ _) (Nat.le_trans a3 i.o.size) (gB (by omega)));refine⟨m8,rfl,S.o.1.keeps (Q5 (ts:=[39]) U.o (by decide) _) (by decide),S.o.2.1.trans P.o.1, ?_,H⟩;rcases S.o.2.2 with e|e
  ·refine Yk.new fun a ha=> ?_
   have h1:=aJ.o a (by rw[←ha,e];exact P.o.2.symm);have h2:=i.o.size;exact⟨h1.1,by simp;omega⟩
  exact Yk.same e
end
theorem Zx:prog.underlying 31=some (.slice 67):=by kernel_rfl
theorem EM:(prog.info? 67).map (fun i=>(i.zero,i.size,i.bytes))=some (some (.agg #[.int .i64 0,.string ⟨#[]⟩]),2,24):=by kernel_rfl
structure Xq (w wr:World) (o:List (Int × List UInt8)) (out:Value):Prop where
 own:wr.ownsRow w.heap.size 67 2 out o.length (o.flatMap JG)
 below:Below w.heap.size w wr
variable {out:Value} {wr:World}
theorem Xq.keep{o:List (Int × List UInt8)}(h:Xq w wr o out)(hb:Below wr.heap.size wr w'):Xq w w' o out:=
 ⟨QF h.own (ts:=[]) (Qd.Qe (base:=0) hb (Nat.zero_le _)) (by simp),h.below.trans (hb.mono h.below.size)⟩
variable {A4:Option Addr} {c4:Nat} {w4:World}
theorem Xq.push{o:List (Int × List UInt8)}{a:Int}{s:List UInt8}{ob:Obj}(h:Xq w wr o out)(hown:w4.ownsRow w.heap.size 67 2 (.slice A4 (o.length+1) c4) (o.length+1) (o.flatMap JG++[.int .i64 a,Qw s]))(hgr:(wr.alloc ob).grownBy w4 out.ownBlock):Xq w w4 (o++[(a,s)]) (.slice A4 (o.length+1) c4):=by
 refine⟨?_,(h.below.alloc h.below.size ob).trans (Qg hgr (h.below.alloc h.below.size ob).size (fun k hk=>(h.own.lt k hk).1))⟩;rw[List.length_append,List.length_singleton,List.flatMap_append];exact hown
theorem WL(h:k≤1099511627776):Qs (k:Int)=true:=by
 unfold Qs;simp only[Bool.and_eq_true,decide_eq_true_eq];omega
theorem Gp(v:Int)(t:List UInt8)(q:List (Int × List UInt8) × Bool)(a:Int × List UInt8):(JT v t q a).1.length≤q.1.length+2:=by
 unfold JT;simp only[List.length_append];split<;>split<;>simp
theorem Fw(v:Int)(t:List UInt8)(l:List (Int × List UInt8)):(l.foldl (JT v t) ([],false)).1.length≤2*l.length:=by
 have:∀(l:List (Int × List UInt8)) (q:List (Int × List UInt8) × Bool),(l.foldl (JT v t) q).1.length≤q.1.length+2*l.length:=by
  intro l
  induction l with
  |nil=>intro q;simp
  |cons a l ih=>
   intro q;rw[List.foldl_cons,List.length_cons];have:=ih (JT v t q a);have:=Gp v t q a;omega
 simpa using this l ([],false)
theorem Um{α β:Type}(f:β→α→β)(b:β)(l:List α)(k:Nat)(hk:k<l.length):(l.take (k+1)).foldl f b=f ((l.take k).foldl f b) l[k]:=by
 rw[List.take_succ_eq_append_getElem hk,List.foldl_append];rfl
section
attribute [local go_sem ↓] VC VF
variable {r:QH}
theorem PY{m:JM}(h:JN w r m)(ok:Ya r)(lk:XV r)(hN:r.notes.length≤100000)(v:Int)(t:List UInt8)(ht:t.length≤1048576)(hins:(YI v t r.notes).length≤100001∧∀x∈YI v t r.notes,x∈r.notes∨x=(v,t)):
  Calls prog 80 #[.agg (Qr r m),.int .i64 v,Qw t] w fun e w'=>G8 w w' m (Xp r v t) e:=by
 obtain⟨a0,C,U,a1,Z⟩:=info_parts EM;have HX:Qb (Qh ((w.alloc (.cells (Qr r m) 39)).alloc (.cells Ji 39)) w.heap.size 39 (Qr r m)):=(Qh.new _ _ _).alloc _;have HG:Qb (Qh ((w.alloc (.cells (Qr r m) 39)).alloc (.cells Ji 39)) (w.heap.size+1) 39 Ji):=Qh.Qz (by simp);have HB:Qb (Below w.heap.size w ((w.alloc (.cells (Qr r m) 39)).alloc (.cells Ji 39))):=(bR.alloc nR _).alloc (by simp) _;have HS:=Qa h;have R:=Qa ok;have a2:=Qa lk;have a5:=Qa hins;have HQ:Qb (Xp r v t=if Qs v=false∨3000<t.length then(1,r)else QE { r with notes:=YI v t r.notes } r (78,Qi [v]++32::t)):=rfl;have V:=Qa (fun wy=>IK v wy);obtain⟨q,hq⟩:=eX (Xp r v t);rw[←hq]at HQ ⊢;obtain⟨k,hk⟩:=eX t.length;have aa:(⟨t.toArray⟩:ByteArray).size=k:=by rw[hk];simp[ByteArray.size]
 rw[←hk]at HQ ht;have HK:=Qa hk;obtain⟨n,hn⟩:=eX r.notes.length;have HN:=Qa hn;rw[←hn]at hN;have P:∀wy g,Qh wy g 39 (Qr r m)→wy.cell? ⟨g,1,none⟩=some (.slice m.AN n m.cN):=fun wy g hy=>by rw[hn];exact hy.cell 1
 have P:=Qa P;have N1:=Qa (V1 (f:=JG) (k:=2) (fun _=>rfl) (by decide) h.notes.1).2;have E:Qb ((Qr r m).size=12∧(Qr r m).all (·.oneCell')=true):=⟨rfl,by simp[Value.oneCell']⟩;have HI:=Qa (show (prog.info? 39).map (·.size)=some (Qr r m).size from Jy);clear h ok lk hq hk hn hins;unfold Qw;obtain⟨tb,htb⟩:∃tb:ByteArray,(⟨t.toArray⟩:ByteArray)=tb:=⟨_,rfl⟩;rw[htb]at aa ⊢;have aB:=Qa htb;clear htb;go_enter func80,ntmps80;go_upto_region 1 with fail;generalize (w.alloc (.cells (Qr r m) 39)).alloc (.cells Ji 39)=w1 at*
 have b7:=HB.o.size;obtain⟨ra,I⟩:=eX (Qr r m);rw[←I]at HX E P HI;have aw:=Qa I;obtain⟨X,hX⟩:=eX w.heap.size;obtain⟨G,hG⟩:=eX (w.heap.size+1);rw[←hG,←hX,←I];rw[←hX]at HX;rw[←hG]at HG;have bm:w.heap.size≤X:=by omega
 have bM:w.heap.size≤G:=by omega
 have bg:G≠X:=by omega
 clear hX hG I;have l0:=QG HX.o E.o.1
 have a9:=Qa (show q=(1,r)→G8 w (w1.setRow G ra) m q (.returned (.tuple #[.agg ra,.int .i64 1])) from fun hq=>by
  have aj:Below w.heap.size w (w1.setRow G ra):=HB.o.trans (Qg (Qm _ _ _) b7 (gB (by omega)));rw[hq];exact⟨m,by rw[aw.o];rfl,HS.o.below aj,rfl,Yk.same rfl,aj⟩)
 have aA:=Qa (QY HG.o rfl E.o.1 E.o.2);cases hrv:Qs v with
 |false=>
  rw[hrv]at V HQ;have hq:q=(1,r):=by rw[HQ.o,if_pos (.inl rfl)]
  have zs:=aA.o;clear hrv;go_wp2_with (go_at_call 136;refine(V.o _).mono ?_;rintro en w' ⟨rfl,rfl⟩);refine bodyPost_ret (v:=.tuple #[.agg ra,.int .i64 1]) (Ql results80 _ _ G 39 _ (0,0) _ rfl (Qp HG.o _) underlying39 rfl HI.o) rfl ?_;exact a9.o hq
 |true=>
  obtain⟨vn,rfl,bn⟩:=VE hrv;rw[hrv]at V HQ;clear hrv;by_cases hk3:3000<k
  ·have bv:(k:Int)>3000:=by omega
   have hq:q=(1,r):=by rw[HQ.o,if_pos (.inr hk3)]
   have zs:=aA.o;go_wp2_with (go_at_call 136;refine(V.o _).mono ?_;rintro en w' ⟨rfl,rfl⟩);refine bodyPost_ret (v:=.tuple #[.agg ra,.int .i64 1]) (Ql results80 _ _ G 39 _ (0,0) _ rfl (Qp HG.o _) underlying39 rfl HI.o) rfl ?_;exact a9.o hq
  have bv:¬(k:Int)>3000:=by omega
  have hq:q=QE { r with notes:=YI vn t r.notes } r (78,Qi [(vn:Int)]++32::t):=by rw[HQ.o,if_neg (by simp;omega)]
  have bd:=Qa hq;clear hq HQ a9 aA;have br:(LN (.pointer (some ⟨w1.heap.size,0,none⟩)) (.agg ra)).run prog (w1.alloc (.cells Ji 39))=.ok () (w1.alloc (.cells ra 39)):=by
   have:=QY (v:=ra) (Qh.new w1 39 Ji) rfl E.o.1 E.o.2;rwa [World.setRow_alloc_new]at this
  go_upto_region 4 with(go_at_call 136;refine(V.o _).mono ?_;rintro en w' ⟨rfl,rfl⟩);have H:=Qa (HX.o.alloc (.cells ra 39));have ax:=Qa (HG.o.alloc (.cells ra 39));have ac:=Qa (Qh.new w1 39 ra);have a7:=Qa (HB.o.alloc b7 (.cells ra 39));obtain⟨Y,hY⟩:=eX w1.heap.size;rw[←hY]at ac ⊢;have bB:=HX.o.lt;have bi:=HG.o.lt;have bA:Y≠X:=by omega
  have bF:G≠Y:=by omega
  clear l0 br HX HG HB hY bB bi;generalize w1.alloc (.cells ra 39)=w3 at*
  have ar:=a7.o.size;have x1:w3.cell? ⟨X,1,none⟩=some (.slice m.AN n m.cN):=P.o _ _ H.o;have xl:=H.o.lt;go_wp2_with fail;go_loopw [9,10,26] (fun out p i wr=>∃j:Nat,j≤n∧i=.int .i64 (j:Nat)∧p=.bool ((r.notes.take j).foldl (JT vn t) ([],false)).2∧Xq w3 wr ((r.notes.take j).foldl (JT vn t) ([],false)).1 out) (fun _ _ i _=>n-(intOf i).toNat)
  case atStart=>exact⟨0,Nat.zero_le _,rfl,rfl,⟨World.ownsRow_nil _ _ _ _,bR⟩⟩
  obtain⟨j,hj,rfl,rfl,hL⟩:=hrel;have HL:=Qa hL;have bN:=hL.below.size;obtain⟨O,cO,rfl,a8⟩:=Jg hL.own;have B:=Fw vn t (r.notes.take j);rw[List.length_take,←HN.o]at B;clear hL x1 xl;by_cases hjl:j<n
  ·have b9:(j:Int)<n:=by omega
   have bI:(0:Int)≤j:=by omega
   have aW:j<r.notes.length:=by rw[←HN.o];exact hjl
   obtain⟨b,o2,hA,a6,I⟩:=N1.o j aW;have z:=Qa (Um (JT vn t) ([],false) r.notes j aW);rw[hA];generalize (r.notes.take j).foldl (JT vn t) ([],false)=st at*
   obtain⟨o,p⟩:=st;generalize r.notes[j]=x at*
   obtain⟨a,s⟩:=x;simp only at HL B a8;obtain⟨no,D⟩:=eX o.length;rw[←D]at B a8;have l:=Qa D;have ap:Qb (wr.rangeAt b (o2+j*2) [.int .i64 a,.string ⟨s.toArray⟩]):=Qa (fun i v hv=>((a7.o.trans (HL.o.below.mono ar)).cell (p:=⟨b,o2+j*2+i,none⟩) a6).trans (I i v hv));have aI:Qb ((prog.info? 67).map (·.size)=some ([.int .i64 a,.string ⟨s.toArray⟩]:List Value).length):=YL;have bj:Qb ((prog.info? 67).map (·.size)=some (#[.int .i64 a,.string ⟨s.toArray⟩]:Array Value).size):=YL;rw[←D];clear I a6 D
   go_upto_region 9 with first
    |(refine wpList_load_mid rfl 67 _ rfl b (o2+j*2) rfl [.int .i64 a,.string ⟨s.toArray⟩] _ ap.o underlying67 rfl aI.o ?_)
    |(refine wpList_store_row rfl 67 _ _ rfl wr.heap.size #[.int .i64 a,.string ⟨s.toArray⟩] rfl rfl 67 _ (Qh.new wr 67 _) bj.o rfl (by simp[Value.oneCell']) ?_;rw[World.setRow_alloc_new])
   try go_frame
   have HZ:=Qa (Qh.new wr 67 #[.int .i64 a,.string ⟨s.toArray⟩]);have N:=Qa (HL.o.keep (bR.alloc nR (.cells #[.int .i64 a,.string ⟨s.toArray⟩] 67)));have aQ:=Qa HL.o;clear ap aI HL;generalize wr.alloc (.cells #[.int .i64 a,.string ⟨s.toArray⟩] 67)=wz at*
   have ba:Qb ((Value.slice O no cO).ownBlock≠some wr.heap.size):=Qa (fun e=>by have:=(aQ.o.own.lt _ (by rw[←l.o];exact e)).2;omega);have bb:Qb (Xq w3 wz o (.slice O no cO)):=Qa (by rw[l.o];exact N.o);clear aQ;generalize wr.heap.size=g at*
   have z0:wz.cell? ⟨g,0,none⟩=some (.int .i64 a):=HZ.o.cell 0;have z1:wz.cell? ⟨g,1,none⟩=some (.string ⟨s.toArray⟩):=HZ.o.cell 1;have zl:=HZ.o.lt;have bK:=N.o.below.size;have af:Qb (∀u∈([.int .i64 vn,.string tb]:List Value),u.oneCell'=true):=Qa (by simp[Value.oneCell']);have av:Qb (∀u∈([.int .i64 a,.string ⟨s.toArray⟩]:List Value),u.oneCell'=true):=Qa (by simp[Value.oneCell']);have L:Qb ((wz.alloc (.cells #[.int .i64 vn,.string tb] 67)).ownsRow w3.heap.size 67 2 (.slice O no cO) no (o.flatMap JG)):=Qa (by rw[l.o];exact Qu N.o.own _);have K:=Qa (Kq (Sl.Ja (sz:=2) (n:=1) (Qh.new wz 67 [.int .i64 vn,.string tb].toArray) rfl));have aq:Qb ((wz.alloc (.cells #[.int .i64 a,.string ⟨s.toArray⟩] 67)).ownsRow w3.heap.size 67 2 (.slice O no cO) no (o.flatMap JG)):=Qa (by rw[l.o];exact Qu N.o.own _);have ao:=Qa (Kq (Sl.Ja (sz:=2) (n:=1) (Qh.new wz 67 [.int .i64 a,.string ⟨s.toArray⟩].toArray) rfl))
   have ai:=Qa (show ∀A4 c4 w4,w4.ownsRow w3.heap.size 67 2 (.slice A4 (no+1) c4) (no+1) (o.flatMap JG++[.int .i64 vn,.string tb])→(wz.alloc (.cells #[.int .i64 vn,.string tb] 67)).grownBy w4 (Value.slice O no cO).ownBlock→Xq w3 w4 (o++[((vn:Int),t)]) (.slice A4 (no+1) c4) from fun A4 c4 w4 h1 h2=>by
    rw[l.o,←aB.o]at h1;rw[l.o]at h2 ⊢;exact N.o.push h1 h2)
   have aU:=Qa (show ∀A4 c4 w4,w4.ownsRow w3.heap.size 67 2 (.slice A4 (no+1) c4) (no+1) (o.flatMap JG++[.int .i64 a,.string ⟨s.toArray⟩])→(wz.alloc (.cells #[.int .i64 a,.string ⟨s.toArray⟩] 67)).grownBy w4 (Value.slice O no cO).ownBlock→Xq w3 w4 (o++[(a,s)]) (.slice A4 (no+1) c4) from fun A4 c4 w4 h1 h2=>by
    rw[l.o]at h1 h2 ⊢;exact N.o.push h1 h2)
   have bh:=Qa (show ∀A4 c4 w4 A5 c5 w5,Xq w3 w4 (o++[((vn:Int),t)]) (.slice A4 (no+1) c4)→w5.ownsRow w3.heap.size 67 2 (.slice A5 (no+1+1) c5) (no+1+1) ((o++[((vn:Int),t)]).flatMap JG++[.int .i64 a,.string ⟨s.toArray⟩])→(w4.alloc (.cells #[.int .i64 a,.string ⟨s.toArray⟩] 67)).grownBy w5 (Value.slice A4 (no+1) c4).ownBlock→Xq w3 w5 (o++[((vn:Int),t)]++[(a,s)]) (.slice A5 (no+1+1) c5) from fun A4 c4 w4 A5 c5 w5 h0 h1 h2=>by
    have e:no+1=(o++[((vn:Int),t)]).length:=by rw[List.length_append,l.o];rfl
    rw[e]at h0 h1 h2 ⊢;exact h0.push h1 h2)
   have T:=Qa (show ∀A4 c4 w4,Xq w3 w4 (o++[((vn:Int),t)]) (.slice A4 (no+1) c4)→w4.ownsRow w3.heap.size 67 2 (.slice A4 (no+1) c4) (no+1) ((o++[((vn:Int),t)]).flatMap JG) from fun A4 c4 w4 h0=>by
    have e:(o++[((vn:Int),t)]).length=no+1:=by rw[List.length_append,l.o];rfl
    have:=h0.own;rw[e]at this;exact this)
   cases p with
   |true=>
    by_cases ha:a=(vn:Int)
    ·subst ha;go_wp2_with fail
     all_goals
      go_roundw
      case rel=>exact⟨j+1,by omega,by simp,by rw[z.o];simp[JT],by rw[z.o];simpa [JT]using bb.o⟩
      case measure=>simp[intOf];omega
    have bq:¬a=(vn:Int):=ha;go_wp2_with ((at_builtin;refine Qv _ rfl _ _ 31 rfl w3.heap.size 67 a0 _ 2 24 Zx C U a1 Z rfl (by decide) (.slice O no cO) no (o.flatMap JG) rfl aq.o (some ⟨wz.heap.size,0,none⟩) 1 1 _ [.int .i64 a,.string ⟨s.toArray⟩] rfl ao.o av.o (by unfold maxLen;omega) (by omega) (by simp;omega) ?_;intro A4 c4 w4 hown4 hgr4 hnc4 _;(have y:=Qa (aU.o A4 c4 w4 hown4 hgr4));clear hown4 hgr4))
    all_goals
     go_roundw
     case rel=>exact⟨j+1,by omega,by simp,by rw[z.o];simp[JT,ha],by rw[z.o];simpa [JT,ha]using y.o⟩
     case measure=>simp[intOf];omega
   |false=>
    by_cases hge:(vn:Int)≤a
    ·have aT:a≥(vn:Int):=hge;by_cases ha:a=(vn:Int)
     ·subst ha;go_wp2_with ((at_builtin;refine Qv _ rfl _ _ 31 rfl w3.heap.size 67 a0 _ 2 24 Zx C U a1 Z rfl (by decide) (.slice O no cO) no (o.flatMap JG) rfl L.o (some ⟨wz.heap.size,0,none⟩) 1 1 _ [.int .i64 vn,.string tb] rfl K.o af.o (by unfold maxLen;omega) (by omega) (by simp;omega) ?_;intro A4 c4 w4 hown4 hgr4 hnc4 _;(have y:=Qa (ai.o A4 c4 w4 hown4 hgr4));(have Q:=Qa ((HZ.o.alloc (.cells #[.int .i64 vn,.string tb] 67)).grown hgr4 ba.o));(have bk:w4.cell? ⟨g,0,none⟩=some (.int .i64 vn):=Q.o.cell 0);(have bt:=Q.o.lt);clear hown4 hgr4))
      all_goals
       go_roundw
       case rel=>exact⟨j+1,by omega,by simp,by rw[z.o];simp[JT],by rw[z.o];simpa [JT]using y.o⟩
       case measure=>simp[intOf];omega
     have bq:¬a=(vn:Int):=ha
     go_wp2_with (first
      |(at_builtin;refine Qv _ rfl _ _ 31 rfl w3.heap.size 67 a0 _ 2 24 Zx C U a1 Z rfl (by decide) (.slice O no cO) no (o.flatMap JG) rfl L.o (some ⟨wz.heap.size,0,none⟩) 1 1 _ [.int .i64 vn,.string tb] rfl K.o af.o (by unfold maxLen;omega) (by omega) (by simp;omega) ?_;intro A4 c4 w4 hown4 hgr4 hnc4 _;(have y:=Qa (ai.o A4 c4 w4 hown4 hgr4));(have Q:=Qa ((HZ.o.alloc (.cells #[.int .i64 vn,.string tb] 67)).grown hgr4 ba.o));(have bk:w4.cell? ⟨g,0,none⟩=some (.int .i64 a):=Q.o.cell 0);(have bL:w4.cell? ⟨g,1,none⟩=some (.string ⟨s.toArray⟩):=Q.o.cell 1);(have bt:=Q.o.lt);(have bJ:=y.o.below.size);(have aH:Qb ((w4.alloc (.cells #[.int .i64 a,.string ⟨s.toArray⟩] 67)).ownsRow w3.heap.size 67 2 (.slice A4 (no+1) c4) (no+1) ((o++[((vn:Int),t)]).flatMap JG)):=Qa (Qu (T.o A4 c4 w4 y.o) _));(have aY:=Qa (Kq (Sl.Ja (sz:=2) (n:=1) (Qh.new w4 67 [.int .i64 a,.string ⟨s.toArray⟩].toArray) rfl)));clear hown4 hgr4)
      |(at_builtin;refine Qv _ rfl _ _ 31 rfl w3.heap.size 67 a0 _ 2 24 Zx C U a1 Z rfl (by decide) (.slice A4 (no+1) c4) (no+1) ((o++[((vn:Int),t)]).flatMap JG) rfl aH.o (some ⟨w4.heap.size,0,none⟩) 1 1 _ [.int .i64 a,.string ⟨s.toArray⟩] rfl aY.o av.o (by unfold maxLen;omega) (by omega) (by simp;omega) ?_;intro A5 c5 w5 hown5 hgr5 hnc5 _;(have aL:=Qa (bh.o A4 c4 w4 A5 c5 w5 y.o hown5 hgr5));clear hown5 hgr5))
     all_goals
      go_roundw
      case rel=>exact⟨j+1,by omega,by simp,by rw[z.o];simp[JT,ha,hge],by rw[z.o];simpa [JT,ha,hge]using aL.o⟩
      case measure=>simp[intOf];omega
    have aT:¬a≥(vn:Int):=hge;have ha:¬a=(vn:Int):=by omega
    go_wp2_with ((at_builtin;refine Qv _ rfl _ _ 31 rfl w3.heap.size 67 a0 _ 2 24 Zx C U a1 Z rfl (by decide) (.slice O no cO) no (o.flatMap JG) rfl aq.o (some ⟨wz.heap.size,0,none⟩) 1 1 _ [.int .i64 a,.string ⟨s.toArray⟩] rfl ao.o av.o (by unfold maxLen;omega) (by omega) (by simp;omega) ?_;intro A4 c4 w4 hown4 hgr4 hnc4 _;(have y:=Qa (aU.o A4 c4 w4 hown4 hgr4));clear hown4 hgr4))
    all_goals
     go_roundw
     case rel=>exact⟨j+1,by omega,by simp,by rw[z.o];simp[JT,ha,hge],by rw[z.o];simpa [JT,ha,hge]using y.o⟩
     case measure=>simp[intOf];omega
  have bC:j=n:=by omega
  subst bC;have b9:¬(j:Int)<j:=by omega
  have b5:r.notes.take j=r.notes:=List.take_of_length_le (by rw[←HN.o];exact nR);rw[b5]at HL B a8 ⊢;clear b5;have ah:=Qa (show YI vn t r.notes=if(r.notes.foldl (JT vn t) ([],false)).2=true then(r.notes.foldl (JT vn t) ([],false)).1 else(r.notes.foldl (JT vn t) ([],false)).1++[((vn:Int),t)] from rfl);generalize r.notes.foldl (JT vn t) ([],false)=st at*
  obtain⟨o,p⟩:=st;simp only at HL B a8 ah;obtain⟨no,D⟩:=eX o.length;rw[←D]at B a8 ⊢;have l:=Qa D;have T:Qb (Xq w3 wr o (.slice O no cO)):=Qa (by rw[D];exact HL.o);have bG:=HL.o.below.size;clear D HL;go_upto_region 15 with fail;go_upto_if 54 with fail;go_cut [9] (fun out wx=>∃A c,out=.slice A (YI vn t r.notes).length c∧Xq w3 wx (YI vn t r.notes) (.slice A (YI vn t r.notes).length c))
  case first=>
   cases p with
   |true=>
    have F:=Qa (show YI vn t r.notes=o from by rw[ah.o];rfl);go_wp2_with fail;go_meet;exact⟨O,cO,by rw[F.o,l.o],by rw[F.o,←l.o];exact T.o⟩
   |false=>
    have F:=Qa (show YI vn t r.notes=o++[((vn:Int),t)] from by rw[ah.o];rfl);have af:Qb (∀u∈([.int .i64 vn,.string tb]:List Value),u.oneCell'=true):=Qa (by simp[Value.oneCell']);have L:Qb ((wr.alloc (.cells #[.int .i64 vn,.string tb] 67)).ownsRow w3.heap.size 67 2 (.slice O no cO) no (o.flatMap JG)):=Qa (by have:=T.o.own;rw[←l.o]at this;exact Qu this _);have K:=Qa (Kq (Sl.Ja (sz:=2) (n:=1) (Qh.new wr 67 [.int .i64 vn,.string tb].toArray) rfl))
    have ai:=Qa (show ∀A4 c4 w4,w4.ownsRow w3.heap.size 67 2 (.slice A4 (no+1) c4) (no+1) (o.flatMap JG++[.int .i64 vn,.string tb])→(wr.alloc (.cells #[.int .i64 vn,.string tb] 67)).grownBy w4 (Value.slice O no cO).ownBlock→Xq w3 w4 (o++[((vn:Int),t)]) (.slice A4 (no+1) c4) from fun A4 c4 w4 h1 h2=>by
     have h0:=T.o;rw[l.o]at h0 h1 h2 ⊢;rw[←aB.o]at h1;exact h0.push h1 h2)
    go_wp2_with (at_builtin;refine Qv _ rfl _ _ 31 rfl w3.heap.size 67 a0 _ 2 24 Zx C U a1 Z rfl (by decide) (.slice O no cO) no (o.flatMap JG) rfl L.o (some ⟨wr.heap.size,0,none⟩) 1 1 _ [.int .i64 vn,.string tb] rfl K.o af.o (by unfold maxLen;omega) (by omega) (by simp;omega) ?_;intro A4 c4 w4 hown4 hgr4 hnc4 _;(have y:=Qa (ai.o A4 c4 w4 hown4 hgr4));clear hown4 hgr4);go_meet;have e:(o++[((vn:Int),t)]).length=no+1:=by rw[List.length_append,l.o];rfl
    exact⟨A4,c4,by rw[F.o,e],by rw[F.o,e];exact y.o⟩
  obtain⟨A,c,rfl,a3⟩:=hcut;obtain⟨nl,aC⟩:=eX ((YI vn t r.notes).length);rw[←aC]at a3 ⊢;have ag:=Qa aC;have aM:=Qa a3;have ab:=Qa a3.below;have W:=Qa (H.o.below a3.below H.o.lt);have bz:wc.cell? ⟨X,1,none⟩=some (.slice m.AN j m.cN):=P.o _ _ W.o;have bp:=W.o.free 1;have bu:=W.o.lt;clear aC a3 ah l T;obtain⟨r1,hr1⟩:∃r1,r1={ r with notes:=YI vn t r.notes }:=⟨_,rfl⟩;obtain⟨m1,hm1⟩:∃m1,m1={ m with AN:=A,cN:=c }:=⟨_,rfl⟩
  have aZ:Qb (Qr r1 m1=#[.int .i64 r.size,.slice A nl c,.slice m.AS r.Qc.length m.cS,.slice m.AM r.marks.length m.cM,.slice m.AL r.Qo.length m.cL,.int .i64 m.Qk,.int .i64 r.half,.int .i64 r.size,.int .i64 r.ep,.pointer (some ⟨m.M,0,none⟩),.int .i64 r.VB,.int .i64 r.QA]):=Qa (by
   rw[hr1,hm1,ag.o])
  have al:Qb (Qh (wc.setCell ⟨X,1,none⟩ (.slice A nl c)) X 39 (Qr r1 m1)):=by
   have:=W.o.set 1 (.slice A nl c);rw[aZ.o];rw[aw.o]at this;show Qh _ _ _ _;simpa using this
  have aJ:=Qa ((ax.o.below ab.o ax.o.lt).Yq (o:=1) bg (.slice A nl c));have ak:=Qa ((ac.o.below ab.o ac.o.lt).Yq (o:=1) bA (.slice A nl c));have aV:=Qa (Jo (o:=1) (a7.o.trans (ab.o.mono ar)) bm (.slice A nl c));have k6:Qd 0 [39] wc (wc.setCell ⟨X,1,none⟩ (.slice A nl c)):=(Qd.refl 0 [39] wc).set W.o (Nat.zero_le _) (by simp) _;have aN:Qb (JN (wc.setCell ⟨X,1,none⟩ (.slice A nl c)) r m):=Qa ((HS.o.below (a7.o.trans (ab.o.mono ar))).keeps k6 (by decide))
  have bE:Qb (JN (wc.setCell ⟨X,1,none⟩ (.slice A nl c)) r1 m1):=Qa (by
   have h6:=aN.o;rw[hr1,hm1];refine⟨?_,h6.Qc,h6.marks,h6.Qo,h6.row,h6.OM,h6.Tk⟩;have an:=aM.o.own;rw[←ag.o]at an;have:=(Sl.Jl an).keeps k6 (by decide);show Sl _ 67 2 A (YI vn t r.notes).length _;rw[←ag.o];exact this)
  have bf:Qb (Ya r1):=Qa (by
   rw[hr1];refine⟨fun x hx=> ?_,R.o.Qc,R.o.marks,a5.o.1,R.o.nS,R.o.nM⟩;rcases a5.o.2 x hx with hx|hx
   ·exact R.o.notes x hx
   subst hx;exact⟨WL bn,by rw[←HK.o];omega⟩)
  have b3:Qb (XV r1):=Qa (by rw[hr1];exact⟨a2.o.h,a2.o.s,a2.o.e,a2.o.n⟩);have au:Qb (m1.M=m.M∧m1.AM=m.AM):=Qa (by rw[hm1];exact⟨rfl,rfl⟩);have aR:Qb (q=QE r1 r (78,Qi [(vn:Int)]++32::t)):=Qa (by rw[bd.o,hr1]);have bD:Qb (k=t.length∧k≤1048576):=Qa ⟨HK.o,ht⟩;clear W H ax ac a7 k6 bd hr1 hm1 aZ HS P R a2 aM ag N1 a5 HI V;generalize hr1a:Qr r1 m1=r1a at*
  have bc:Qb (r1a.size=12∧r1a.all (·.oneCell')=true):=Qa (by rw[←hr1a];exact⟨rfl,QX r1 m1⟩);have aG:=Qa hr1a;clear hr1a;obtain⟨d1,e1⟩:∃d:ByteArray,Qw (Lib.itoa (vn:Int))=.string d:=⟨_,rfl⟩;have aX:=Qa (fun wy=>J5 vn wy (by omega));rw[e1]at aX;have s1:d1.size≤21:=by
   have:=Ke (n:=(vn:Int)) (by omega) (by omega);injection e1 with e1;rw[←e1];exact this
  obtain⟨c1,q1⟩:∃c:ByteArray,d1++⟨#[32]⟩=c:=⟨_,rfl⟩;obtain⟨c2,q2⟩:∃c:ByteArray,c1++tb=c:=⟨_,rfl⟩;have aS:c1.size=d1.size+1:=by rw[←q1,ByteArray.size_append];rfl
  have b1:¬(9223372036854775807<d1.size+1):=by omega
  have b2:¬(9223372036854775807<c1.size+tb.size):=by rw[aa];omega
  have J:Value.string c2=Qw (Qi [(vn:Int)]++32::t):=by
   unfold Qw at e1 ⊢;injection e1 with e1;subst e1;rw[←q2,←q1,←aB.o,Oh];congr 1;apply ByteArray.ext;simp[ByteArray.data_append]
  obtain⟨bs,am⟩:=eX (Qi [(vn:Int)]++32::t);have a6:bs.length≤1048576+22:=by
   have bw:c2.size=bs.length:=by
    rw[←am]at J;unfold Qw at J;injection J with J;rw[J];simp[ByteArray.size]
   rw[←bw,←q2,ByteArray.size_append,aS,aa];have:=bD.o.2;omega
  have bo:=Qa (show ∀wy,Calls prog 143 #[.int .u8 78,.string c2] wy fun e w'=>Kz wy w' (78,bs) e from fun wy=>by rw[J,←am];exact Vb 78 bs);rw[←am]at aR;obtain⟨bl,a4⟩:=eX bs.length;have ad:Qb (bl=bs.length∧bl≤1048576+22):=Qa ⟨a4,by rw[a4];exact a6⟩;clear J am a6 a4 e1 s1 aS aa;go_upto_region 18 with fail;have aO:=aV.o.size;clear bz bp bu;generalize wc.setCell ⟨X,1,none⟩ (.slice A nl c)=w6 at*
  have SK:=Qa (show ∀wy,Below w6.heap.size w6 wy→(VQ (.pointer (some ⟨X,0,none⟩))).run prog wy=.ok (.agg r1a) wy∧(VQ (.pointer (some ⟨Y,0,none⟩))).run prog wy=.ok (.agg ra) wy from fun wy hy=>⟨QG (al.o.below hy al.o.lt) bc.o.1,QG (ak.o.below hy ak.o.lt) E.o.1⟩);have S0:=Qa (SK.o _ bR.drew)
  have bx:=Qa (show ∀wy A c,Below w6.heap.size w6 wy→Kb wy A bs→bl≤c→Calls prog 139 #[.agg r1a,.agg ra,.agg #[.int .u8 78,.slice A bl c]] wy fun e w'=>XH wy w' m1 m q e from fun wy A c hy hb hc=>by
   rw[aR.o,←aG.o,aw.o,ad.o.1];exact V7 (bE.o.below hy) (aN.o.below hy) au.o.1.symm bf.o b3.o 78 bs A c hb (by rw[←ad.o.1];exact hc) (by decide) (by have:=ad.o;omega))
  go_region_held3 (fun wy=>(VQ (.pointer (some ⟨X,0,none⟩))).run prog wy=.ok (.agg r1a) wy∧(VQ (.pointer (some ⟨Y,0,none⟩))).run prog wy=.ok (.agg ra) wy)
   (first|exact S0.o|exact S9.o|exact SK.o _ S.o|exact SK.o _ ae.o|exact SK.o _ az.o)
   (first
    |(go_at_call 144;refine(aX.o _).mono ?_;rintro en wd ⟨rfl,hb⟩;(have az:Qb (Below w6.heap.size w6 wd):=bR.drew.trans hb);clear hb)
    |(go_at_call 143;refine(bo.o _).mono ?_;rintro en w7 ⟨⟨A7,c7,rfl,b6,b0⟩,hb⟩;(have ae:Qb (Below w6.heap.size w6 w7):=az.o.trans (hb.mono az.o.size));(have b8:=Qa b6);(have aF:=Qa b0);(have ek:bs.length=bl:=ad.o.1.symm);(rw[ek]at aF);(try simp only[ek]);clear b6 hb b0 ek)
    |(go_at_call 139;refine(bx.o w7 A7 c7 ae.o b8.o aF.o).mono ?_;rintro en w8 ⟨m8,rfl,aK,aP,aE,b4⟩;(have S:Qb (Below w6.heap.size w6 w8):=ae.o.trans (b4.mono ae.o.size));(have aD:=Qa (aJ.o.below S.o aJ.o.lt));(have bH:=QY aD.o rfl (JK q.2 m8) (QX q.2 m8));(have ay:=Qa (And.intro aK (And.intro aP aE)));(have S9:=Qa (And.intro (QG ((al.o.below S.o al.o.lt).Km (fun e=>bg e.symm) (Qr q.2 m8)) bc.o.1) (QG ((ak.o.below S.o ak.o.lt).Km (fun e=>bF e.symm) (Qr q.2 m8)) E.o.1)));clear aK aP aE b4))
  all_goals
   go_wp2_with fail;refine bodyPost_ret (v:=.tuple #[.agg (Qr q.2 m8),.int .i64 q.1]) (Ql results80 _ _ G 39 _ (0,0) _ rfl (Qp aD.o _) underlying39 rfl Jy) rfl ?_;have aj:Below w.heap.size w (w8.setRow G (Qr q.2 m8)):=(aV.o.trans (S.o.mono aO)).trans (Qg (Qm _ _ _) (Nat.le_trans aO S.o.size) (gB (by omega)));refine⟨m8,rfl,ay.o.1.keeps (Q5 (ts:=[39]) aD.o (by decide) _) (by decide),ay.o.2.1.trans au.o.1,Yk.same ?_,aj⟩;rcases ay.o.2.2 with e|e
   ·exact e.trans au.o.2
   exact e
end
theorem Sn(a:Addr)(j:Nat):(a.add j).block=a.block:=by unfold Addr.add;split<;>rfl
variable {A:Option Addr} {c e j:Nat} {xs:List Value}
theorem Dr(h:Sl w e 1 A n xs)(hc:n≤c)(hj:j≤n):Sl w e 1 (if c=j then A else Option.map (fun x=>x.add j) A) (n-j) (xs.drop j):=by
 have hr:=h.1;refine⟨⟨by rw[List.length_drop,hr.1];omega,fun hn=> ?_⟩,fun hn a ha=> ?_⟩
 ·obtain⟨b,o,rfl,hb,f⟩:=hr.2 (by omega);have d:¬c=j:=by omega
  rw[if_neg d];refine⟨b,o+j,by simp[J3],hb,fun i hi=> ?_⟩;rw[List.length_drop]at hi;have:=f (j+i) (by omega);rw[List.getElem_drop,←this];congr 2;omega
 have d:¬c=j:=by omega
 rw[if_neg d]at ha;cases A with
 |none=>cases ha
 |some a0=>
  simp only[Option.map_some,Option.some.injEq]at ha;have:=h.2 (by omega) a0 rfl;rw[←ha,Sn];exact this
section
attribute [local go_sem ↓] VC VF
variable {r:QH}
theorem GF{m:JM}(h:JN w r m)(ok:Ya r)(lk:XV r)(hM:r.marks.length≤100000)(keep:Int)(hkp: -1000≤keep∧keep<1000):
  Calls prog 83 #[.agg (Qr r m),.int .i64 keep] w fun e w'=>G8 w w' m (Uw r keep) e:=by
 have HX:Qb (Qh ((w.alloc (.cells (Qr r m) 39)).alloc (.cells Ji 39)) w.heap.size 39 (Qr r m)):=(Qh.new _ _ _).alloc _;have HG:Qb (Qh ((w.alloc (.cells (Qr r m) 39)).alloc (.cells Ji 39)) (w.heap.size+1) 39 Ji):=Qh.Qz (by simp);have HB:Qb (Below w.heap.size w ((w.alloc (.cells (Qr r m) 39)).alloc (.cells Ji 39))):=(bR.alloc nR _).alloc (by simp) _;have HS:=Qa h;have f:=Qa ok;have i:=Qa lk;have HQ:Qb (Uw r keep=if keep<0 then(1,r)else QE (Jn r keep) (Jn r keep) (84,Qi [keep])):=rfl;obtain⟨q,hq⟩:=eX (Uw r keep);rw[←hq]at HQ ⊢;obtain⟨n,hn⟩:=eX r.marks.length;have HN:=Qa hn;rw[←hn]at hM;have I:n≤m.cM:=by rw[hn];exact h.Tk
 have L:=Qa (show ∀wy g,Qh wy g 39 (Qr r m)→wy.cell? ⟨g,3,none⟩=some (.slice m.AM n m.cM) from fun wy g hy=>by rw[hn];exact hy.cell 3);have y:Qb ((Qr r m).size=12∧(Qr r m).all (·.oneCell')=true):=⟨rfl,by simp[Value.oneCell']⟩;have HI:=Qa (show (prog.info? 39).map (·.size)=some (Qr r m).size from Jy);clear h ok lk hq hn;go_enter func83,ntmps83;go_upto_region 1 with fail;generalize (w.alloc (.cells (Qr r m) 39)).alloc (.cells Ji 39)=w1 at*
 have ao:=HB.o.size;obtain⟨ra,B⟩:=eX (Qr r m);rw[←B]at HX y L HI;have C:=Qa B;obtain⟨X,hX⟩:=eX w.heap.size;obtain⟨G,hG⟩:=eX (w.heap.size+1);rw[←hG,←hX,←B];rw[←hX]at HX;rw[←hG]at HG;have ap:w.heap.size≤X:=by omega
 have av:w.heap.size≤G:=by omega
 have ac:G≠X:=by omega
 clear hX hG B;by_cases hk0:keep<0
 ·have l0:=QG HX.o y.o.1;have zs:=QY HG.o rfl y.o.1 y.o.2;have hq:q=(1,r):=by rw[HQ.o,if_pos hk0]
  go_wp2_with fail;refine bodyPost_ret (v:=.tuple #[.agg ra,.int .i64 1]) (Ql results83 _ _ G 39 _ (0,0) _ rfl (Qp HG.o _) underlying39 rfl HI.o) rfl ?_;have D:Below w.heap.size w (w1.setRow G ra):=HB.o.trans (Qg (Qm _ _ _) ao (gB (by omega)));rw[hq];exact⟨m,by rw[C.o];rfl,HS.o.below D,rfl,Yk.same rfl,D⟩
 obtain⟨k,rfl⟩:∃k:Nat,keep=k:=⟨keep.toNat,by omega⟩;have hq:q=QE (Jn r k) (Jn r k) (84,Qi [(k:Int)]):=by rw[HQ.o,if_neg hk0]
 have R:=Qa hq;have V:Qb (k<1000):=Qa (by omega);clear hq HQ;have x3:=L.o _ _ HX.o;have f3:=HX.o.free 3;have xl:=HX.o.lt;go_upto_region 3 with fail;go_upto_if 13 with fail;go_cut [13] (fun v wx=>(∃b,v=.bool b)∧∃m1,Qh wx X 39 (Qr (Jn r k) m1)∧JN wx (Jn r k) m1∧Below w.heap.size w wx∧Qh wx G 39 Ji∧m1.M=m.M∧(m1.AM=m.AM∨(∀a,m1.AM=some a→∃b,m.AM=some b∧a.block=b.block)))
 case first=>
  by_cases hkn:k<n
  ·have u:(k:Int)<n:=by omega
   have q1:0≤(n:Int)-(k:Int):=by omega
   have q2:(n:Int)-(k:Int)≤(n:Int):=by omega
   have q3:IntKind.i64.wrap ((n:Int)-(k:Int))=(n:Int)-(k:Int):=by rw[IntKind.wrap_i64];omega
   have q4:(n:Int)≤m.cM:=by omega
   have ah:=Qa (show ∀A' c',A'=(if m.cM=n-k then m.AM else Option.map (fun x=>x.add (n-k)) m.AM)→k≤c'→∃m1,Qh (w1.setCell ⟨X,3,none⟩ (.slice A' (n-(n-k)) c')) X 39 (Qr (Jn r k) m1)∧JN (w1.setCell ⟨X,3,none⟩ (.slice A' (n-(n-k)) c')) (Jn r k) m1∧Below w.heap.size w (w1.setCell ⟨X,3,none⟩ (.slice A' (n-(n-k)) c'))∧Qh (w1.setCell ⟨X,3,none⟩ (.slice A' (n-(n-k)) c')) G 39 Ji∧m1.M=m.M∧(m1.AM=m.AM∨(∀a,m1.AM=some a→∃b,m.AM=some b∧a.block=b.block)) from fun A' c' hA hc=>by
    have hT:Jn r k={ r with marks:=r.marks.drop (n-k) }:=by
     unfold Jn;rw[if_pos (by rw[←HN.o];exact u),HN.o];rfl
    have hl:(r.marks.drop (n-k)).length=n-(n-k):=by rw[List.length_drop,←HN.o]
    have k6:Qd 0 [39] w1 (w1.setCell ⟨X,3,none⟩ (.slice A' (n-(n-k)) c')):=(Qd.refl 0 [39] w1).set HX.o (Nat.zero_le _) (by simp) _;have h6:=(HS.o.below HB.o).keeps k6 (by decide);refine⟨{ m with AM:=A',cM:=c' }, ?_, ?_,Jo (o:=3) HB.o ap _,HG.o.Yq (o:=3) ac _,rfl,.inr ?_⟩
    ·have:=HX.o.set 3 (.slice A' (n-(n-k)) c');rw[C.o]at this;rw[hT];show Qh _ X 39 (#[.int .i64 r.size,.slice m.AN r.notes.length m.cN,.slice m.AS r.Qc.length m.cS,.slice A' (r.marks.drop (n-k)).length c',.slice m.AL r.Qo.length m.cL,.int .i64 m.Qk,.int .i64 r.half,.int .i64 r.size,.int .i64 r.ep,.pointer (some ⟨m.M,0,none⟩),.int .i64 r.VB,.int .i64 r.QA]:Array Value);rw[hl];simpa using this
    ·rw[hT];refine⟨h6.notes,h6.Qc, ?_,h6.Qo,h6.row,h6.OM, ?_⟩
     ·have hs:=h6.marks;rw[←HN.o]at hs;have:=Dr hs I (j:=n-k) (by omega);show Sl _ 9 1 A' (r.marks.drop (n-k)).length ((r.marks.drop (n-k)).map Qw);rw[hl,List.map_drop];rw[←hA]at this;exact this
     show(r.marks.drop (n-k)).length≤c';rw[hl];omega
    intro a ha;rw[hA]at ha;split at ha
    ·exact⟨a,ha,rfl⟩
    cases hAM:m.AM with
    |none=>rw[hAM]at ha;cases ha
    |some b=>
     rw[hAM]at ha;simp only[Option.map_some,Option.some.injEq]at ha;exact⟨b,rfl,by rw[←ha,Sn]⟩)
   by_cases hcj:m.cM=n-k
   ·have Q:=Qa (ah.o m.AM 0 (by rw[if_pos hcj]) (by omega));go_wp2_with fail;go_meet;exact⟨⟨_,rfl⟩,Q.o⟩
   have Q:=Qa (ah.o (Option.map (fun x=>x.add (n-k)) m.AM) (m.cM-(n-k)) (by rw[if_neg hcj]) (by omega));go_wp2_with fail;go_meet;exact⟨⟨_,rfl⟩,Q.o⟩
  have u:¬(k:Int)<n:=by omega
  have hT:Jn r k=r:=by unfold Jn;rw[if_neg (by rw[←HN.o];exact u)]
  go_wp2_with fail;go_meet;rw[hT];exact⟨⟨_,rfl⟩,m,by rw[←C.o];exact HX.o,HS.o.below HB.o,HB.o,HG.o,rfl,.inl rfl⟩
 obtain⟨⟨b0,rfl⟩,m1,U,a4,af,T,aa,ad⟩:=hcut;have z:=Qa U;have K:=Qa a4;have aj:=Qa af;have a1:=Qa T;have an:=Qa aa;have al:=Qa ad;clear U a4 af T aa ad x3 f3 xl HX HG HB L y HI C;obtain⟨r1,S⟩:=eX (Jn r k);rw[←S]at z K R;have hT:∃l,r1={ r with marks:=l }∧l.length≤n∧∀x∈l,x∈r.marks:=by
  rw[S];unfold Jn;split
  ·exact⟨_,rfl,by rw[List.length_drop,HN.o];omega,fun x hx=>List.mem_of_mem_drop hx⟩
  exact⟨r.marks,rfl,by rw[HN.o];exact nR,fun x hx=>hx⟩
 obtain⟨l,P,ar,a2⟩:=hT
 have ai:Qb (Ya r1):=Qa (by
  rw[P];exact⟨f.o.notes,f.o.Qc,fun x hx=>f.o.marks x (a2 x hx),f.o.nN,f.o.nS,by show l.length≤_;omega⟩)
 have a5:Qb (XV r1):=Qa (by rw[P];exact⟨i.o.h,i.o.s,i.o.e,i.o.n⟩);clear S P ar a2 f i HN I;generalize hr1a:Qr r1 m1=r1a at*
 have ag:Qb (r1a.size=12∧r1a.all (·.oneCell')=true):=Qa (by rw[←hr1a];exact⟨rfl,QX r1 m1⟩);have Z:=Qa hr1a;clear hr1a;obtain⟨d1,e1⟩:∃d:ByteArray,Qw (Lib.itoa (k:Int))=.string d:=⟨_,rfl⟩;have ak:=Qa (fun wy=>J5 k wy (by have:=V.o;omega));rw[e1]at ak;obtain⟨bs,H⟩:=eX (Qi [(k:Int)]);have a3:bs.length≤21:=by
  have h2:=V.o;have:=Lib.itoa_length_le (k:Int) (by omega) (by omega);rw[H,Oh];exact this
 have aq:=Qa (show ∀wy,Calls prog 143 #[.int .u8 84,.string d1] wy fun e w'=>Kz wy w' (84,bs) e from fun wy=>by rw[←e1,H,Oh];exact Vb 84 _);rw[←H]at R;obtain⟨bl,t⟩:=eX bs.length;have E:Qb (bl=bs.length∧bl≤21):=Qa ⟨t,by rw[t];exact a3⟩;clear H a3 t e1;have ab:=aj.o.size;have SK:=Qa (show ∀wy,Below wc.heap.size wc wy→(VQ (.pointer (some ⟨X,0,none⟩))).run prog wy=.ok (.agg r1a) wy from fun wy hy=>QG (z.o.below hy z.o.lt) ag.o.1);have S0:=Qa (SK.o _ bR.drew)
 have am:=Qa (show ∀wy A c,Below wc.heap.size wc wy→Kb wy A bs→bl≤c→Calls prog 139 #[.agg r1a,.agg r1a,.agg #[.int .u8 84,.slice A bl c]] wy fun e w'=>XH wy w' m1 m1 q e from fun wy A c hy hb hc=>by
  rw[R.o,←Z.o,E.o.1];exact V7 (K.o.below hy) (K.o.below hy) rfl ai.o a5.o 84 bs A c hb (by rw[←E.o.1];exact hc) (by decide) (by have:=E.o;omega))
 go_upto_region 5 with fail
 go_region_held3 (fun wy=>(VQ (.pointer (some ⟨X,0,none⟩))).run prog wy=.ok (.agg r1a) wy)
  (first|exact S0.o|exact S9.o|exact SK.o _ p.o|exact SK.o _ F.o|exact SK.o _ J.o)
  (first
   |(go_at_call 144;refine(ak.o _).mono ?_;rintro en wd ⟨rfl,hb⟩;(have J:Qb (Below wc.heap.size wc wd):=bR.drew.trans hb);clear hb)
   |(go_at_call 143;refine(aq.o _).mono ?_;rintro en w7 ⟨⟨A7,c7,rfl,a8,a0⟩,hb⟩;(have F:Qb (Below wc.heap.size wc w7):=J.o.trans (hb.mono J.o.size));(have a9:=Qa a8);(have Y:=Qa a0);(have ek:bs.length=bl:=E.o.1.symm);(rw[ek]at Y);(try simp only[ek]);clear a8 hb a0 ek)
   |(go_at_call 139;refine(am.o w7 A7 c7 F.o a9.o Y.o).mono ?_;rintro en w8 ⟨m8,rfl,a6,ae,W,a7⟩;(have p:Qb (Below wc.heap.size wc w8):=F.o.trans (a7.mono F.o.size));(have N:=Qa (a1.o.below p.o a1.o.lt));(have au:=QY N.o rfl (JK q.2 m8) (QX q.2 m8));(have O:=Qa (And.intro a6 (And.intro ae W)));(have S9:=Qa (QG ((z.o.below p.o z.o.lt).Km (fun e=>ac e.symm) (Qr q.2 m8)) ag.o.1));clear a6 ae W a7))
 all_goals
  go_wp2_with fail;refine bodyPost_ret (v:=.tuple #[.agg (Qr q.2 m8),.int .i64 q.1]) (Ql results83 _ _ G 39 _ (0,0) _ rfl (Qp N.o _) underlying39 rfl Jy) rfl ?_;have D:Below w.heap.size w (w8.setRow G (Qr q.2 m8)):=(aj.o.trans (p.o.mono ab)).trans (Qg (Qm _ _ _) (Nat.le_trans ab p.o.size) (gB (by omega)));have e8:m8.AM=m1.AM:=by rcases O.o.2.2 with e|e<;>exact e
  refine⟨m8,rfl,O.o.1.keeps (Q5 (ts:=[39]) N.o (by decide) _) (by decide),O.o.2.1.trans an.o, ?_,D⟩;intro a ha;rw[e8]at ha;rcases al.o with e|e
  ·rw[e]at ha;exact .inl ⟨a,ha,rfl⟩
  exact .inl (e a ha)
end
def Vy(lo size:Nat)(p:V4→Bool)(l:List V4)(F:List Bool):List Bool:=l.foldl (fun F x=>if p x=true then VJ F (x.at'-lo) (Qf size x.b.length)else F) F
def IM(lo:Nat)(r:QH)(F:List Bool)(n:Qj):Nat × QH × List Bool:=
 if(Xx r n).isSome=false then(6,r,F)
 else
  let r1:={ r with Qc:=r.Qc.filter fun x=> !decide (x.n=n) }
  ((QE r1 r1 (68,Qi [n.1,n.2])).1,(QE r1 r1 (68,Qi [n.1,n.2])).2,Vy lo r.size (fun x=>decide (x.n=n)) r.Qc F)
def XK(lo:Nat)(r:QH)(F:List Bool)(v:Int):Nat × QH × List Bool:=
 if QC r.notes v=none∧(r.Qc.any fun x=>decide (x.n.1=v))=false then(6,r,F)
 else
  let r1:={ r with notes:=r.notes.filter (fun y=>decide (y.1≠v)),Qc:=r.Qc.filter fun x=> !decide (x.n.1=v) }
  ((QE r1 r1 (70,Qi [v])).1,(QE r1 r1 (70,Qi [v])).2,Vy lo r.size (fun x=>decide (x.n.1=v)) r.Qc F)
def Cb(lo size:Nat)(x:V4)(i:Nat):Prop:=x.at'-lo≤i∧i<x.at'-lo+Qf size x.b.length
theorem PG{lo size N:Nat}{p:V4→Bool}:∀(l:List V4)(F:List Bool),F.length=N→(∀x∈l,p x=true→1≤Qf size x.b.length∧x.at'-lo+Qf size x.b.length≤N)→(∀x∈l,p x=true→∀i,Cb lo size x i→F.getD i false=false)→(l.Pairwise fun x y=>p x=true→p y=true→∀i,Cb lo size x i→¬Cb lo size y i)→
  (Vy lo size p l F).length=N∧∀i,i<N→((Vy lo size p l F).getD i false=true↔F.getD i false=true∨∃x∈l,p x=true∧Cb lo size x i)
 |[],F,hl,_,_,_=>⟨hl,fun i _=>by simp[Vy]⟩
 |x::l,F,hl,h1,h2,h3=>by
  rw[List.pairwise_cons]at h3;have c:Vy lo size p (x::l) F=Vy lo size p l (if p x=true then VJ F (x.at'-lo) (Qf size x.b.length)else F):=rfl;rw[c];by_cases hp:p x=true
  ·rw[if_pos hp];obtain⟨g1,g2⟩:=h1 x (by simp) hp;have d:VJ F (x.at'-lo) (Qf size x.b.length)=Vo F (x.at'-lo) true (Qf size x.b.length):=by
    unfold VJ;rw[if_pos];simp only[Bool.and_eq_true];refine⟨Vm.2 ⟨g1,by omega⟩,(Od (by omega)).2 fun i i1 i2=>h2 x (by simp) hp i ⟨i1,i2⟩⟩
   rw[d];have a:∀i,i<N→(Vo F (x.at'-lo) true (Qf size x.b.length)).getD i false=if x.at'-lo≤i∧i<x.at'-lo+Qf size x.b.length then true else F.getD i false:=fun i hi=>Us F _ _ i (by omega) _ _
   obtain⟨q1,q2⟩:=PG l (Vo F (x.at'-lo) true (Qf size x.b.length)) (by rw[KP];exact hl) (fun y hy=>h1 y (by simp[hy])) (fun y hy hpy i hi=>by
    have e:i<N:=by have:=(h1 y (by simp[hy]) hpy).2;have:=hi.2;omega
    rw[a i e,if_neg (fun hc:x.at'-lo≤i∧i<x.at'-lo+Qf size x.b.length=>h3.1 y hy hp hpy i hc hi)];exact h2 y (by simp[hy]) hpy i hi) h3.2
   refine⟨q1,fun i hi=> ?_⟩;rw[q2 i hi,a i hi];by_cases hc:x.at'-lo≤i∧i<x.at'-lo+Qf size x.b.length
   ·rw[if_pos hc];simp only[true_or,true_iff];exact .inr ⟨x,by simp,hp,hc⟩
   rw[if_neg hc];constructor
   ·rintro(g|⟨y,hy,g⟩)
    ·exact .inl g
    exact .inr ⟨y,by simp[hy],g⟩
   rintro(g|⟨y,hy,g,g'⟩)
   ·exact .inl g
   rcases List.mem_cons.1 hy with rfl|hy
   ·exact absurd g' hc
   exact .inr ⟨y,hy,g,g'⟩
  rw[if_neg hp];obtain⟨q1,q2⟩:=PG l F hl (fun y hy=>h1 y (by simp[hy])) (fun y hy=>h2 y (by simp[hy])) h3.2;refine⟨q1,fun i hi=> ?_⟩;rw[q2 i hi];constructor
  ·rintro(g|⟨y,hy,g⟩)
   ·exact .inl g
   exact .inr ⟨y,by simp[hy],g⟩
  rintro(g|⟨y,hy,g,g'⟩)
  ·exact .inl g
  rcases List.mem_cons.1 hy with rfl|hy
  ·exact absurd g hp
  exact .inr ⟨y,hy,g,g'⟩
theorem WH{lo n:Nat}:∀(l:List (Qj × Qx)) {m:Jt} {F:List Bool},JC m lo n→RC m F→(∀y∈l,1≤y.2.len∧∃a:Nat,y.2.at'=a∧lo≤a∧a+y.2.len≤n)→(∀y∈l,∀k,JS y.2 k→¬Jp m.free k)→(l.Pairwise fun x y=>∀k,JS x.2 k→¬JS y.2 k)→
  ∃F',RC (l.foldl (fun m y=>Jk m y.2) m) F'∧F'.length=F.length∧∀i,i<F.length→(F'.getD i false=true↔F.getD i false=true∨∃y∈l,JS y.2 (lo+i))
 |[],m,F,_,hs,_,_,_=>⟨F,hs,rfl,fun i _=>by simp⟩
 |y::l,m,F,hm,hs,h1,h2,h3=>by
  rw[List.pairwise_cons]at h3;obtain⟨g1,a,g2,g3,g4⟩:=h1 y (by simp);have a0:F.length=n-lo:=by rw[hs.len,hm.QJ]
  have b:∀k:Nat,JS y.2 k↔a≤k∧k<a+y.2.len:=fun k=>by unfold JS;rw[g2];omega
  have d:Jk m y.2=(JF m (lo+(a-lo)) y.2.len).2:=by
   unfold Jk;rw[g2,if_neg (by omega)];have e:((a:Nat):Int).toNat=lo+(a-lo):=by omega
   rw[e]
  obtain⟨q1,q2,q3,q4,q5⟩:=Ts (a:=a-lo) (c:=y.2.len) hm hs g1 (by omega) fun k k1 k2=>h2 y (by simp) k ((b k).2 ⟨by omega,by omega⟩)
  rw[List.foldl_cons,d];rw[q4]at q3
  obtain⟨F',p1,p2,p3⟩:=WH l q2 q3 (fun z hz=>h1 z (by simp[hz])) (fun z hz k hk=>by
   rw[q5];rintro(g|g)
   ·exact h2 z (by simp[hz]) k hk g
   exact h3.1 z hz k ((b k).2 (by omega)) hk) h3.2
  rw[KP]at p2 p3;refine⟨F',p1,p2,fun i hi=> ?_⟩;rw[p3 i hi,Us F _ _ i hi];by_cases hc:a-lo≤i∧i<a-lo+y.2.len
  ·rw[if_pos hc];simp only[true_or,true_iff];exact .inr ⟨y,by simp,(b _).2 (by omega)⟩
  rw[if_neg hc];constructor
  ·rintro(g|⟨z,hz,g⟩)
   ·exact .inl g
   exact .inr ⟨z,by simp[hz],g⟩
  rintro(g|⟨z,hz,g⟩)
  ·exact .inl g
  rcases List.mem_cons.1 hz with rfl|hz
  ·have:=(b _).1 g;exact absurd (by omega) hc
  exact .inr ⟨z,hz,g⟩
theorem FJ{G:List Bool}(h:F.length=G.length)(hi:∀i,i<F.length→(F.getD i false=true↔G.getD i false=true)):F=G:=by
 refine List.ext_getElem h fun i h1 h2=> ?_
 have:=hi i h1;rw[List.getD_eq_getElem?_getD,List.getD_eq_getElem?_getD,List.getElem?_eq_getElem h1,List.getElem?_eq_getElem h2]at this;exact Bool.eq_iff_iff.2 this
variable {K:Nat} {r:QH} {s:QM} {ts:List (Qj × List UInt8)}
theorem QW.secs(h:QW s lo K ts r F):
  V3 (fun(y:Qj × Qx)(x:V4)=>y.1=x.n∧(y.2.at'=(x.at':Int)∧y.2.len=Qf r.size x.b.length)∧1≤y.2.len∧lo≤x.at'∧x.at'+y.2.len≤s.d.Qk.length) s.Qc r.Qc:=by
 refine h.V9.d.Qc.mono fun y hy x hyx=> ?_
 obtain⟨t,ht,e,⟨a,mark,h1,h2,h3,h4,h5⟩,h6,h7⟩:=h.all.side.mem y hy;obtain⟨e1,e2,e3,e4⟩:=hyx;have hp:=JQ (bytes:=t.2.length) h.all.log.s1 h.all.log.s2 (by omega);have c:r.size=s.d.size:=h.V9.l.size.trans h.all.log.sz;rw[h1]at e2 e3 ⊢;simp only at e2 e3 ⊢;refine⟨e1,⟨e2,by rw[c,←e3]⟩,hp,by omega,by omega⟩
theorem YW{α β:Type}{R:α→β→Prop}{l:List α}{m:List β}(h:V3 R l m):∀y∈m,∃x∈l,R x y:=by
 induction h with
 |nil=>intro y hy;cases hy
 |cons hab _ ih=>
  intro y hy;rcases List.mem_cons.1 hy with rfl|hy
  ·exact⟨_,by simp,hab⟩
  obtain⟨x,hx,g⟩:=ih y hy;exact⟨x,by simp[hx],g⟩
theorem Tr{α β:Type}{R:α→β→Prop}{P:α→α→Prop}{Q:β→β→Prop}(hPQ:∀a b c d,R a c→R b d→P a b→Q c d){l:List α}{m:List β}(h:V3 R l m)(hp:l.Pairwise P):m.Pairwise Q:=by
 induction h with
 |nil=>exact List.Pairwise.nil
 |cons hab ht ih=>
  rw[List.pairwise_cons]at hp ⊢;refine⟨fun y hy=> ?_,ih hp.2⟩;obtain⟨x,hx,g⟩:=YW ht y hy;exact hPQ _ _ _ _ hab g (hp.1 x hx)
theorem QW.Bp(h:QW s lo K ts r F)(p:Qj→Bool)(gone:List (Qj × Qx))(hg:∀y,y∈gone↔y∈s.Qc∧p y.1=true)(hnd:(gone.map (·.1)).Nodup):
  RC (gone.foldl (fun m y=>Jk m y.2) s.map) (Vy lo r.size (fun x=>p x.n) r.Qc F):=by
 have hS:=h.secs;have a0:F.length=s.d.Qk.length-lo:=by rw[h.mp.len,h.all.map.QJ]
 have j:∀(y:Qj × Qx)(x:V4),(y.1=x.n∧(y.2.at'=(x.at':Int)∧y.2.len=Qf r.size x.b.length)∧1≤y.2.len∧lo≤x.at'∧x.at'+y.2.len≤s.d.Qk.length)→∀i,Cb lo r.size x i↔JS y.2 (lo+i):=by
  rintro y x ⟨_,⟨e2,e3⟩,_,e4,e5⟩ i;unfold Cb JS;rw[e2,e3];omega
 have l:(gone).Pairwise fun x y=>∀k,JS x.2 k→¬JS y.2 k:=by
  have:gone.Pairwise fun x y=>x.1≠y.1:=List.pairwise_map.1 hnd
  refine(List.Pairwise.and_mem.1 this).imp ?_;rintro x y ⟨hx,hy,o⟩;exact FT (R:=fun(x y:Qj × Qx)=>∀k,JS x.2 k→¬JS y.2 k) (fun a b g k h1 h2=>g k h2 h1) h.all.apart ((hg x).1 hx).1 ((hg y).1 hy).1 (fun e=>o (by rw[e]))
 obtain⟨F',q1,q2,q3⟩:=WH gone h.all.map h.mp (fun y hy=>by
  obtain⟨x,hx,e1,⟨e2,e3⟩,e4,e5,e6⟩:=hS.mem y ((hg y).1 hy).1;exact⟨e4,x.at',e2,e5,e6⟩) (fun y hy=>h.all.used y ((hg y).1 hy).1) l
 obtain⟨g1,g2⟩:=PG (lo:=lo) (size:=r.size) (N:=F.length) (p:=fun x=>p x.n) r.Qc F rfl (fun x hx _=>by
  obtain⟨y,hy,e1,⟨e2,e3⟩,e4,e5,e6⟩:=YW hS x hx;rw[←e3];omega) (fun x hx _ i hi=>by
  obtain⟨y,hy,f⟩:=YW hS x hx;have hk:=(j y x f i).1 hi;have hu:=h.all.used y hy _ hk;obtain⟨e1,⟨e2,e3⟩,e4,e5,e6⟩:=f;have q:i<F.length:=by unfold Cb at hi;omega
  cases hF:F.getD i false with
  |false=>rfl
  |true=>
   have:=(h.mp.iff i q).1 hF;rw[h.all.map.Ky]at this;exact absurd this hu) (Tr (P:=fun x y=>∀k,JS x.2 k→¬JS y.2 k) (fun a b c d hac hbd hab _ _ i hi=>by
   rw[j b d hbd];exact hab _ ((j a c hac i).1 hi)) hS h.all.apart)
 have:F'=Vy lo r.size (fun x=>p x.n) r.Qc F:=FJ (by rw[q2,g1]) fun i hi=>by
  rw[q2]at hi;rw[q3 i hi,g2 i hi];constructor
  ·rintro(g|⟨y,hy,g⟩)
   ·exact .inl g
   obtain⟨y1,y2⟩:=(hg y).1 hy;obtain⟨x,hx,f⟩:=hS.mem y y1;exact .inr ⟨x,hx,by rw[←f.1];exact y2,(j y x f i).2 g⟩
  rintro(g|⟨x,hx,y2,g⟩)
  ·exact .inl g
  obtain⟨y,hy,f⟩:=YW hS x hx;exact .inr ⟨y,(hg y).2 ⟨hy,by rw[f.1];exact y2⟩,(j y x f i).1 g⟩
 rw[←this];exact q1
theorem QW.SC(h:QW s lo K ts r F)(hK:K≤60)(p:Qj→Bool)(q:Int × List UInt8→Bool)(x:QN)(hx:x.2.length≤4000)(gone:List (Qj × Qx))(hg:∀y,y∈gone↔y∈s.Qc∧p y.1=true)(hnd:(gone.map (·.1)).Nodup)
  {s2:QM}(hs2:Qy { s with notes:=s.notes.filter q,Qc:=s.Qc.filter fun y=> !p y.1 } s x=(e,s2)):
  e=0∧(QE { r with notes:=r.notes.filter q,Qc:=r.Qc.filter fun y=> !p y.n } { r with notes:=r.notes.filter q,Qc:=r.Qc.filter fun y=> !p y.n } x).1=0∧QW { s2 with map:=gone.foldl (fun m y=>Jk m y.2) s2.map } lo (K+1) (ts.filter fun y=> !p y.1) (QE { r with notes:=r.notes.filter q,Qc:=r.Qc.filter fun y=> !p y.n } { r with notes:=r.notes.filter q,Qc:=r.Qc.filter fun y=> !p y.n } x).2 (Vy lo r.size (fun x=>p x.n) r.Qc F):=by
 obtain⟨d',l',c,hr,ha,_⟩:=M9 (r:=x) h.all (by omega) (fun y=> !p y) (s.notes.filter q) (fun x hx=>h.all.Xv x (List.mem_filter.1 hx).1) (List.Pairwise.filter _ h.all.VL) hx gone (fun y hy=>by
  obtain⟨y1,y2⟩:=(hg y).1 hy;exact⟨y1,by rw[y2];rfl⟩)
 obtain⟨w1,w2⟩:=II (r:=x) h.all h.room (fun y=> !p y.1) q hx;have i:=h.Bp p gone hg hnd;have a2:=h.nt;have a5:=h.mr;have a4:=h.pu;have a0:=h.Yp;have a3:=h.rc;have a1:(Qn { s with notes:=s.notes.filter q,Qc:=s.Qc.filter fun y=> !p y.1 }).length≤3*K:=by
  have e1:=h.Qo;rw[Kw]at e1 ⊢;have:=List.length_filter_le q s.notes;have:=List.length_filter_le (fun y:Qj × Qx=> !p y.1) s.Qc;simp only at*
  omega
 obtain⟨g1,g2,g3⟩:=IY (s1:={ s with notes:=s.notes.filter q,Qc:=s.Qc.filter fun y=> !p y.1 }) (r1:={ r with notes:=r.notes.filter q,Qc:=r.Qc.filter fun y=> !p y.n }) (x:=x) (y:=x) h.all h.V9 rfl rfl rfl rfl ⟨rfl,rfl,rfl,rfl,rfl,rfl⟩
  ⟨by show r.notes.filter q=s.notes.filter q;rw[h.V9.d.notes],V3.filter (fun a b g=>by rw[g.1]) h.V9.d.Qc,h.V9.d.marks⟩ hx rfl (VW (fun x hx=>h.all.Xv x (List.mem_filter.1 hx).1) h.all.Xk (fun x hx=>h.all.U6 x (List.mem_filter.1 hx).1)) (by omega) (by omega)
 have f:=Xm (r1:={ r with notes:=r.notes.filter q,Qc:=r.Qc.filter fun y=> !p y.n }) (r:={ r with notes:=r.notes.filter q,Qc:=r.Qc.filter fun y=> !p y.n }) (y:=x) rfl;rcases c with c|c
 ·rw[hs2]at c w1 w2 g1 g2 g3;simp only[Prod.mk.injEq]at c;obtain⟨rfl,rfl⟩:=c;have e0:(QE { r with notes:=r.notes.filter q,Qc:=r.Qc.filter fun y=> !p y.n } r x).1=0:=g1.symm;have ez:QE { r with notes:=r.notes.filter q,Qc:=r.Qc.filter fun y=> !p y.n } { r with notes:=r.notes.filter q,Qc:=r.Qc.filter fun y=> !p y.n } x=QE { r with notes:=r.notes.filter q,Qc:=r.Qc.filter fun y=> !p y.n } r x:=by
   have:=Uv (was:=r) (was':={ r with notes:=r.notes.filter q,Qc:=r.Qc.filter fun y=> !p y.n }) (y:=x) (r:={ r with notes:=r.notes.filter q,Qc:=r.Qc.filter fun y=> !p y.n }) (q:=(QE { r with notes:=r.notes.filter q,Qc:=r.Qc.filter fun y=> !p y.n } r x).2) (by rw[←e0]);rw[this,←e0]
  rw[ez]at f ⊢;refine⟨rfl,e0,h.step (ha.le (by omega)) ((hr.mono fun b hb=>hb.le (by omega)).le (by omega)) ⟨g2.l,⟨g2.d.notes,g2.d.Qc,g2.d.marks⟩,⟨g2.e.VB,g2.e.QA⟩⟩ i ?_ (w2.mapped _) (by show s.QA≤_;omega) ?_ (by show s.marks.length≤_;omega) ?_ ?_⟩
  ·rw[f];show(r.Qc.filter fun y=> !p y.n).map _=_;rw[←h.Xv,List.filter_map];rfl
  ·show(s.notes.filter q).length≤_;have:=List.length_filter_le q s.notes;omega
  ·have:=List.length_filter_le (fun y:Qj × List UInt8=> !p y.1) ts;omega
  show l'.Qo.length≤_;simp only at g3;omega
 rw[hs2]at c w1;simp only[Prod.mk.injEq]at c;simp only at w1;omega
theorem QW.drop(h:QW s lo K ts r F)(hK:K≤60)(n:Qj):
  (KB s n).1=(IM lo r F n).1∧∃ts',QW (KB s n).2 lo (K+1) ts' (IM lo r F n).2.1 (IM lo r F n).2.2:=by
 have b:=h.V9.d.get n;unfold KB IM;rw[Yf,b];cases hg:QC s.Qc n with
 |none=>exact⟨rfl,ts,h.idle⟩
 |some x=>
  rw[if_neg (by simp)];simp only;have hm:=Vt hg;obtain⟨q1,q2⟩:=h.all.right _ hm;have c:=M7 q1 q2;have e1:(s.Qc.filter fun y=>decide (y.1≠n))=s.Qc.filter fun y=> !decide (y.1=n):=by
   congr 1;funext y;simp
  rw[e1]
  have a:=fun e s2=>h.SC hK (fun y=>decide (y=n)) (fun _=>true) (68,Qi [n.1,n.2]) (by simp only at c ⊢;omega) [(n,x)] (fun y=>by
   rw[List.mem_singleton];constructor
   ·rintro rfl;exact⟨hm,by simp⟩
   rintro⟨y1,y2⟩;have y2:=of_decide_eq_true y2;obtain⟨a0,a1⟩:=y;simp only at y2;subst y2;have:=VX h.all.Vn.nodup y1;rw[hg]at this;injection this with this;rw[this]) (by simp) (s2:=s2) (e:=e)
  rw[WG,WG]at a;generalize Qy { s with Qc:=s.Qc.filter fun y=> !decide (y.1=n) } s (68,Qi [n.1,n.2])=q at*
  obtain⟨e,s2⟩:=q;obtain⟨k1,k2,k3⟩:=a e s2 rfl;subst k1;exact⟨k2.symm,_,k3⟩
theorem QW.forget(h:QW s lo K ts r F)(hK:K≤60)(v:Int)(gone:List (Qj × Qx))(hg1:∀y∈gone,y∈QS s v)(hg2:(JX s v gone).1=0→(gone.map (·.1)).Nodup∧∀y∈QS s v,y∈gone):
  (JX s v gone).1=(XK lo r F v).1∧∃ts',QW (JX s v gone).2 lo (K+1) ts' (XK lo r F v).2.1 (XK lo r F v).2.2:=by
 have a:QS s v=[]↔(r.Qc.any fun x=>decide (x.n.1=v))=false:=by
  rw[List.any_eq_false,QS,List.filter_eq_nil_iff];constructor
  ·intro g x hx;obtain⟨y,hy,e,_⟩:=YW h.V9.d.Qc x hx;rw[←e];exact g y hy
  intro g y hy;obtain⟨x,hx,e,_⟩:=h.V9.d.Qc.mem y hy;rw[e];exact g x hx
 by_cases hc:QC s.notes v=none∧QS s v=[]
 ·have e1:JX s v gone=(6,s):=by unfold JX;rw[if_pos hc]
  have e2:XK lo r F v=(6,r,F):=by
   unfold XK;rw[if_pos];rw[h.V9.d.notes];exact⟨hc.1,a.1 hc.2⟩
  rw[e1,e2];exact⟨rfl,ts,h.idle⟩
 have hv:Qs v=true:=by
  cases hn:QC s.notes v with
  |some t=>exact(h.all.Xv _ (Vt hn)).1
  |none=>
   cases hgl:QS s v with
   |nil=>exact absurd ⟨hn,hgl⟩ hc
   |cons y l=>
    have hy:y∈QS s v:=by rw[hgl];exact List.mem_cons_self
    obtain⟨y1,y2⟩:=List.mem_filter.1 hy;have:=(h.all.right y y1).1;rw[of_decide_eq_true y2]at this;exact this
 have c:=Uk hv;obtain⟨w1,w2⟩:=II (r:=(70,Qi [v])) h.all h.room (fun y=>decide (y.1.1≠v)) (fun y=>decide (y.1≠v)) (by simp only at c ⊢;omega);have e1:(s.Qc.filter fun y=>decide (y.1.1≠v))=s.Qc.filter fun y=> !decide (y.1.1=v):=by
  congr 1;funext y;simp
 have j:JX s v gone=(match Qy { s with notes:=s.notes.filter (fun y=>decide (y.1≠v)),Qc:=s.Qc.filter fun y=> !decide (y.1.1=v) } s (70,Qi [v])with
  |(0,s1)=>(0,{ s1 with map:=gone.foldl (fun m y=>Jk m y.2) s1.map })
  |(e,s1)=>(e,s1)):=by
  unfold JX;rw[if_neg hc,WQ,e1];rfl
 have e2:¬(QC r.notes v=none∧(r.Qc.any fun x=>decide (x.n.1=v))=false):=by
  rw[h.V9.d.notes];rintro⟨g1,g2⟩;exact hc ⟨g1,a.2 g2⟩
 rw[e1]at w1;rw[j]at hg2 ⊢;have f:=fun e s2 hgg hnn=>h.SC hK (fun y=>decide (y.1=v)) (fun y=>decide (y.1≠v)) (70,Qi [v]) (by simp only at c ⊢;omega) gone hgg hnn (s2:=s2) (e:=e)
 generalize Qy { s with notes:=s.notes.filter (fun y=>decide (y.1≠v)),Qc:=s.Qc.filter fun y=> !decide (y.1.1=v) } s (70,Qi [v])=q at*
 obtain⟨e,s2⟩:=q;simp only at w1;subst w1;simp only at hg2 ⊢;obtain⟨i,b⟩:=hg2 trivial;obtain⟨k1,k2,k3⟩:=f 0 s2 (fun y=>⟨fun hy=>List.mem_filter.1 (hg1 y hy),fun hy=>b y (List.mem_filter.2 hy)⟩) i rfl;unfold XK;rw[if_neg e2];exact⟨k2.symm,_,k3⟩
def RJ(n k:Nat):QH:=⟨k,[],[],[],[],n/4/2,2,0,0⟩
variable {d:Qq}
theorem R5(hs:KJ n k=true)(hn:n≤65536)(ho:Wf (JA n k)=(0,d,some s)):QW s (n/4) 0 [] (RJ n k) (List.replicate (n-n/4) true):=by
 obtain⟨d1,d0,e1,e2,L1,L,h⟩:=ZQ hs;obtain⟨d',s',f1,f2,f3,f4,f5,f6,f7⟩:=TU hs hn;rw[ho]at f1 h;injection f1 with _ f1;injection f1 with f1 f8;injection f8 with f8;subst f8 f1;injection h with _ h;injection h with h1 h2;injection h2 with h2;have h0:0<n-n/4:=by
  have:=hs;unfold KJ at this;simp only[Bool.not_eq_true',Bool.or_eq_false_iff,decide_eq_false_iff_not,beq_eq_false_iff_ne]at this;omega
 rw[if_pos h0]at h2;have hr:=f4.like.2;have a0:(JA n k).waits.length=0:=by simp[JA]
 have hz:(JA n k).size=k:=rfl;subst h2;refine⟨f3,⟨⟨rfl,rfl,rfl,rfl, ?_⟩,⟨rfl,.nil,rfl⟩,⟨rfl,rfl⟩⟩,⟨?_,List.pairwise_singleton _ _,fun i hi=> ?_⟩,rfl,LI f3 rfl rfl rfl,nR,nR,nR,nR,nR, ?_, ?_⟩
 ·show n/4/2+1=0+1*(n/4/2)+1+0;omega
 ·show(List.replicate (n-n/4) true).length=n-n/4;simp
 ·rw[List.length_replicate]at hi;rw[List.getD_eq_getElem?_getD,List.getElem?_replicate,if_pos hi];simp only[Option.getD_some,true_iff];exact⟨(n/4,n-n/4),by simp,by show n/4≤n/4+i;omega,by show n/4+i<n/4+(n-n/4);omega⟩
 ·simp only at f2 hr ⊢;rw[f2];omega
 have:=IQ f4;rw[Th]at this;simp only at f2 ⊢;rw[f2];exact List.length_eq_zero_iff.1 (by simpa using this)
def X0(lo:Nat)(r:QH)(F:List Bool)(k v n:Int)(sz:Nat)(bs:List UInt8):Nat × QH × List Bool:=
 if k=0 then Il lo r F (v,n) bs
 else if k=1 then IM lo r F (v,n)
 else if k=2 then((Xp r v bs).1,(Xp r v bs).2,F)
 else if k=3 then((Xn r bs).1,(Xn r bs).2,F)
 else if k=4 then XK lo r F v
 else if k=5 then((Uw r (((sz%8:Nat):Int)-1)).1,(Uw r (((sz%8:Nat):Int)-1)).2,F)
 else(0,r,F)
theorem QW.sync(h:QW s lo K ts r F):(Vr s).1=0∧QW (Vr s).2 lo (K+1) ts r F:=by
 obtain⟨s3,s4,s5⟩:=Sr h.all h.V9;obtain⟨d',hf,r2,a3⟩:=h.all.KH;have es:Vr s=(0,{ s with d:=d' }):=by unfold Vr;rw[hf]
 rw[es]at s3 s4 ⊢;exact⟨rfl,h.step (a3.le (by omega)) ((r2.mono fun b hb=>hb.le (by omega)).le (by omega)) s4 h.mp h.Xv (h.room.DC d') (Nat.le_succ_of_le h.pu) (Nat.le_succ_of_le h.nt) (Nat.le_succ_of_le h.mr) (Nat.le_succ_of_le h.Yp) (by have:=h.rc;show s.log.Qo.length≤_;omega)⟩
theorem QW.Mi(h:QW s lo K ts r F){y:Qj × Qx}{x:V4}(hy:y∈s.Qc)(hx:x∈r.Qc)(e:y.1=x.n):Jj s.d y.2=(0,x.b):=by
 obtain⟨t,ht,g⟩:=h.all.told hy;have hb:=Cd h.all;rw[h.Bt]at hb;have c:y∉MH s:=fun hm=>by
  have:=List.length_pos_of_mem hm;simp at hb;rw[hb]at this;simp at this
 have h0:(Jj s.d y.2).1=0:=by
  apply Decidable.byContradiction;intro hc;exact c (List.mem_filter.2 ⟨hy,decide_eq_true hc⟩)
 rcases g with g|g
 ·rw[g];have a:(ts.map (·.1)).Nodup:=by
   have:s.Qc.map (·.1)=ts.map (·.1):=h.all.side.map_eq fun _ _ g=>g.1
   rw[←this];exact h.all.Vn.nodup
  have e1:=VX a ht;have f:(x.n,x.b)∈ts:=by rw[←h.Xv];exact List.mem_map.2 ⟨x,hx,rfl⟩
  have e2:=VX a f;rw[←e,e1]at e2;injection e2 with e2;rw[e2]
 rw[g]at h0;cases h0
theorem QW.sum(h:QW s lo K ts r F):s.Qc.map (fun x=>x.2.bytes)=r.Qc.map fun x=>x.b.length:=h.V9.d.Qc.map_eq fun _ _ g=>g.2.2.1
end Go.Proofs.YtmgmfnimaafkdaaGreatDoor
