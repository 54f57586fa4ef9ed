/- The reference's Need, and its log that has no records. -/
import Derived.Test.YtmgmfnimaafkdaaGreatDoorVJ
namespace Go.Proofs.YtmgmfnimaafkdaaGreatDoor
set_option maxRecDepth 100000
set_option maxHeartbeats 0
open Go.RowKit Go.Maps
open Tryz
section
open Go.Shelf Go.Sort
attribute [local go_sem ↓] RW
variable {N Sb a base lo mark nn:Nat} {b:List UInt8} {d1:Qq} {m:KY} {m1:Jt} {s s1:QM} {w:World}
theorem F3{n:Qj}{l:Nat}(h:QO w base Sb s m)(ok:XA s)(hp:Di s n b a l m1 mark s1 nn d1)(hgv:JC s1.map lo N)(A:Option Addr)(c:Nat)(hby:Wp base w A b)(hc:b.length≤c):
  Calls prog 53 #[.pointer (some ⟨Sb,0,none⟩),QZ n,.slice A b.length c] w fun e w'=>e=.returned (.int .i64 (Ri s1 n b a l mark d1).1)∧QO w' base Sb (Ri s1 n b a l mark d1).2 m∧Qt base m m w w':=by
 have HH:=Qa h;have HK:=Qa ok;have HP:=Qa hp;have b7:=Qa hby;have bb:=h.lt;have bt:=h.blk.lt;obtain⟨n1,n2⟩:=n;obtain⟨q,hq⟩:=eX (Ri s1 (n1,n2) b a l mark d1);rw[←hq];have a9:=Qa hq;clear hq;have ab:=hp.r1;have ah:=hp.r2;have bu:=hp.b1;have R:=hp.b2;have ao:TQ (n1,n2):=⟨Q8 hp.r1,Q8 hp.r2⟩;clear h ok hp hby;unfold QZ;simp only at ab ah ⊢;have al:Below w.heap.size w ((w.alloc (.cells #[.pointer (some ⟨Sb,0,none⟩)] 28)).alloc (.cells #[.int .i64 n1,.int .i64 n2] 73)):=(bR.alloc nR _).alloc (by simp) _;have O:=Qa al;have S:=Qa (show Qh ((w.alloc (.cells #[.pointer (some ⟨Sb,0,none⟩)] 28)).alloc (.cells #[.int .i64 n1,.int .i64 n2] 73)) w.heap.size 28 #[.pointer (some ⟨Sb,0,none⟩)] from (Qh.new _ _ _).alloc _);have I:=Qa (show Qh ((w.alloc (.cells #[.pointer (some ⟨Sb,0,none⟩)] 28)).alloc (.cells #[.int .i64 n1,.int .i64 n2] 73)) (w.heap.size+1) 73 #[.int .i64 n1,.int .i64 n2] from Qh.Qz (by simp));have R1:=Qa (fun wy=>show Calls prog 104 #[.int .i64 n1] wy fun e w'=>e=.returned (.bool true)∧wy=w' from by have:=KR n1 wy;rw[ab]at this;exact this);have R2:=Qa (fun wy=>show Calls prog 104 #[.int .i64 n2] wy fun e w'=>e=.returned (.bool true)∧wy=w' from by have:=KR n2 wy;rw[ah]at this;exact this);clear al ab ah;go_enter func53,ntmps53;go_upto_region 1 with fail;generalize hw1e:(w.alloc (.cells #[.pointer (some ⟨Sb,0,none⟩)] 28)).alloc (.cells #[.int .i64 n1,.int .i64 n2] 73)=w1 at*
 clear hw1e;have aN:=O.o.size;have c3:w1.cell? ⟨w.heap.size,0,none⟩=some (.pointer (some ⟨Sb,0,none⟩)):=S.o.cell 0;have aX:w1.cell? ⟨w.heap.size+1,0,none⟩=some (.int .i64 n1):=I.o.cell 0;have bj:w1.cell? ⟨w.heap.size+1,1,none⟩=some (.int .i64 n2):=I.o.cell 1;have l3:=S.o.lt;have l4:=I.o.lt;have ay:¬((b.length:Int)<1):=by omega
 have aR:¬((b.length:Int)>1048576):=by omega
 go_upto_region 5 with(first
  |((fail_if_success (have:=RR));go_at_call 104;refine(R1.o _).mono ?_;rintro en w' ⟨rfl,rfl⟩;(have RR:=Qa (show True from trivial)))
  |(go_at_call 104;refine(R2.o _).mono ?_;rintro en w' ⟨rfl,rfl⟩))
 clear c3 aX bj RR ay aR R1 R2
 have z:=Qa (show ∀wy,Qd base [121,165,167,216,137,129,220] w1 wy→wy.cell? ⟨w.heap.size,0,none⟩=some (.pointer (some ⟨Sb,0,none⟩))∧wy.cell? ⟨w.heap.size+1,0,none⟩=some (.int .i64 n1)∧wy.cell? ⟨w.heap.size+1,1,none⟩=some (.int .i64 n2) from fun wy hy=>by
  have a3:=S.o.keeps hy (by decide);have a4:=I.o.keeps hy (by decide);exact⟨a3.cell 0,a4.cell 0,a4.cell 1⟩)
 have u:base≤w1.heap.size:=by omega
 go_cut [7,8] (fun _ v8 wx=>v8=.bool false∧Below w1.heap.size w1 wx)
 case first=>as_aux_lemma=>
  have SK:=Qa (show ∀wy,Below w1.heap.size w1 wy→(wy.cell? ⟨w.heap.size,0,none⟩=some (.pointer (some ⟨Sb,0,none⟩))∧wy.cell? ⟨w.heap.size+1,0,none⟩=some (.int .i64 n1)∧wy.cell? ⟨w.heap.size+1,1,none⟩=some (.int .i64 n2))∧wy.cell? ⟨Sb,5,none⟩=some (.map (some m.Pb))∧(Instr.lookup 125 (.map (some m.Pb)) (.agg #[.int .i64 n1,.int .i64 n2]) true).run prog wy=.ok (.tuple #[.agg #[.int .i64 0,.int .i64 0,.int .i64 0,.int .i64 0],.bool false]) wy from fun wy hy=>by
   have hh:=HH.o.below (O.o.trans (hy.mono aN));refine⟨z.o _ (Qd.Qe hy u),hh.blk.cell 5, ?_⟩;have:=hh.pmap.look_ok (x:=(n1,n2)) ao;rw[HP.o.new]at this;exact this)
  have S0:=Qa (SK.o _ bR.drew)
  go_region_held3 (fun wy=>(wy.cell? ⟨w.heap.size,0,none⟩=some (.pointer (some ⟨Sb,0,none⟩))∧wy.cell? ⟨w.heap.size+1,0,none⟩=some (.int .i64 n1)∧wy.cell? ⟨w.heap.size+1,1,none⟩=some (.int .i64 n2))∧wy.cell? ⟨Sb,5,none⟩=some (.map (some m.Pb))∧(Instr.lookup 125 (.map (some m.Pb)) (.agg #[.int .i64 n1,.int .i64 n2]) true).run prog wy=.ok (.tuple #[.agg #[.int .i64 0,.int .i64 0,.int .i64 0,.int .i64 0],.bool false]) wy)
   (first|exact S0.o|exact SK.o _ (bR.drew.alloc nR _)|exact SK.o _ ((bR.alloc nR _).drew))
   (fail)
  all_goals
   go_wp2_with fail;go_meet;exact⟨rfl,(bR.alloc nR _).drew⟩
 obtain⟨rfl,R⟩:=hcut;have L:QO wc base Sb s m:=HH.o.below (O.o.trans (R.mono aN));have D:=Qa L;have bl:=L.blk.lt;have r:=L.lt;have Z:=R.size;have ai:=Qa R;have bw:s.d.size≤4096:=by obtain⟨m',hm⟩:=L.Ul;exact hm.sz.2
 have HN:=Qa (show ∀wy,Calls prog 56 #[.int .i64 s.d.size,.int .i64 b.length] wy fun e w'=>e=.returned (.int .i64 (Qf s.d.size b.length:Nat))∧wy=w' from fun wy=>JP s.d.size b.length (by omega) (by omega) wy)
 have G:=Qa (show ∀wy,Below wc.heap.size wc wy→Calls prog 105 #[.pointer (some ⟨m.M,0,none⟩),.int .i64 (Qf s.d.size b.length:Nat)] wy fun e w'=>Rc wy w' base m.M (0,(a,l),m1) e from fun wy hy=>by
  have:=TM (D.o.below hy).map HK.o.map (Nat.le_trans r hy.size) (Qf s.d.size b.length) (IV _ _);rw[HP.o.take]at this;exact this)
 have SK:=Qa (show ∀wy,Qd base [220] wc wy→wy.cell? ⟨w.heap.size,0,none⟩=some (.pointer (some ⟨Sb,0,none⟩))∧wy.cell? ⟨Sb,3,none⟩=some (.pointer (some ⟨m.M,0,none⟩))∧wy.cell? ⟨Sb,1,none⟩=some (.int .i64 s.d.size) from fun wy hy=>by
  have hh:=D.o.blk.keeps hy (by decide);exact⟨(z.o _ ((Qd.Qe ai.o u).trans (hy.mono nR (by simp)))).1,hh.cell 3,hh.cell 1⟩)
 have aH:Qb (s.map.free≠[]):=by
  refine Qa fun h0=> ?_
  have:=HP.o.take;unfold XZ at this;rw[h0]at this;split at this<;>simp at this
 clear L R;generalize Qf s.d.size b.length=nd at*
 go_upto_region 8 with fail;go_cut [9,10] (fun v9 v10 wx=>∃k,v9=.pointer (some ⟨k,0,none⟩)∧v10=.int .i64 0∧Qh wx k 140 #[.int .i64 a,.int .i64 l]∧w1.heap.size≤k∧QO wx base Sb { s with map:=m1 } m∧Qd base [121,165,167,216,137,129,220] w1 wx)
 case first=>as_aux_lemma=>
  have kd:=Qa (Qd.Qe (base:=base) (ts:=[220]) bR.drew r);have bz:Below wc.heap.size wc (wc.alloc (.cells #[.int .i64 0,.int .i64 0] 140)).drew:=(bR.alloc nR _).drew;have BZ:=Qa bz;have kz:=Qa (Qd.Qe (base:=base) (ts:=[220]) bz r);obtain⟨d1,d2,d3⟩:=SK.o _ kd.o;obtain⟨d4,d5,d6⟩:=SK.o _ kz.o
  have ZA:=Qa (show ∀w4,Qd base [220] (wc.alloc (.cells #[.int .i64 0,.int .i64 0] 140)).drew w4→Qh w4 wc.heap.size 140 #[.int .i64 0,.int .i64 0]∧(Rt (.pointer (some ⟨wc.heap.size,0,none⟩)) (.agg #[.int .i64 a,.int .i64 l])).run prog w4=.ok () (w4.setRow wc.heap.size #[.int .i64 a,.int .i64 l]) from fun w4 hk=>by
   have hb:=(Qh.new wc 140 #[.int .i64 0,.int .i64 0]).drew.keeps hk (by decide);exact⟨hb,Ox hb rfl rfl (by simp[Value.oneCell'])⟩)
  have ZB:=Qa (show ∀w4:World,(Rt (.pointer (some ⟨w4.heap.size,0,none⟩)) (.agg #[.int .i64 a,.int .i64 l])).run prog (w4.alloc (.cells #[.int .i64 0,.int .i64 0] 140))=.ok () ((w4.alloc (.cells #[.int .i64 0,.int .i64 0] 140)).setRow w4.heap.size #[.int .i64 a,.int .i64 l]) from fun w4=>Ox (Qh.new w4 140 _) rfl rfl (by simp[Value.oneCell']));clear bz
  go_region_law (first
    |(go_at_call 56;refine(HN.o _).mono ?_;rintro en w' ⟨rfl,rfl⟩)
    |(go_at_call 105;refine(G.o _ BZ.o).mono ?_;rintro en w4 ⟨rfl,j,f,i⟩;(have K:=Qa j);(have Y:=Qa i);(have K4:=Qa (kz.o.trans f));(have F:=Qa (ZA.o _ f));(have zs:=F.o.2);clear j f i)
    |(go_at_call 105;refine(G.o _ bR.drew).mono ?_;rintro en w4 ⟨rfl,j,f,i⟩;(have K:=Qa j);(have Y:=Qa i);(have K4:=Qa (kd.o.trans f));(have zs:=ZB.o w4);clear j f i)
    |(go_simp;go_at_call 56;refine(HN.o _).mono ?_;rintro en w' ⟨rfl,rfl⟩)
    |(go_simp;go_at_call 105;refine(G.o _ BZ.o).mono ?_;rintro en w4 ⟨rfl,j,f,i⟩;(have K:=Qa j);(have Y:=Qa i);(have K4:=Qa (kz.o.trans f));(have F:=Qa (ZA.o _ f));(have zs:=F.o.2);clear j f i)
    |(go_simp;go_at_call 105;refine(G.o _ bR.drew).mono ?_;rintro en w4 ⟨rfl,j,f,i⟩;(have K:=Qa j);(have Y:=Qa i);(have K4:=Qa (kd.o.trans f));(have zs:=ZB.o w4);clear j f i))
  all_goals
   go_wp2_with fail;go_meet
  all_goals first
   | (have bC:=F.o.1
      have aJ:=Qm w4 wc.heap.size #[.int .i64 a,.int .i64 l];have aF:=K4.o.U9 aJ r nR;have aL:=D.o.map.lt
      have ae:=K.o.grown aJ (Nat.ne_of_lt aL) (fun a1 n1 c1 h1=>by
       have aY:Xf (wc.alloc (.cells #[.int .i64 0,.int .i64 0] 140)).drew m.M (· <wc.heap.size):=fun a2 n2 c2 h2=>D.o.map.E7 aH.o a2 n2 c2 ((BZ.o.cell aL).symm.trans h2)
       rcases Y.o _ aY a1 n1 c1 h1 with h5|h5
       ·exact Nat.ne_of_lt h5
       simp at h5;omega)
      exact⟨wc.heap.size,rfl,rfl,Qp F.o.1 _,Z,D.o.mapped aF ae,(Qd.Qe ai.o u).trans (aF.mono nR (by simp))⟩)
   | (have ae:=D.o.mapped K4.o K.o
      have ba:Below w4.heap.size w4 ((w4.alloc (.cells #[.int .i64 0,.int .i64 0] 140)).setRow w4.heap.size #[.int .i64 a,.int .i64 l]):=(bR.alloc nR _).trans (Qg (Qm _ _ _) (by simp) (gB (by omega)));exact⟨w4.heap.size,rfl,rfl,Qp (Qh.new w4 140 _) _,Nat.le_trans Z K4.o.below.size,ae.below ba,((Qd.Qe ai.o u).trans (K4.o.mono nR (by simp))).trans (Qd.Qe ba (Nat.le_trans r K4.o.below.size))⟩)
 obtain⟨k,rfl,rfl,aw,bx,W,f⟩:=hcut;have bd:=Qa aw;have b3:=Qa W;have b6:=Qa f;have bm:=W.blk.lt;have bn:=W.lt;have e1:=(z.o _ f).1
 have aD:=Qa (show ∀wy,Below wc.heap.size wc wy→Calls prog 106 #[.pointer (some ⟨Sb,0,none⟩)] wy fun e w'=>e=.returned (.tuple #[.int .i64 (mark:Nat),.int .i64 0])∧QO w' base Sb s1 m∧Qd base [121,165,167,216,137,129] wy w' from fun wy hy=>by
  have hl:=HK.o.l;have:=EK (s:={ s with map:=m1 }) (b3.o.below hy) ⟨hl.Vn,hl.num,hl.VL,hl.Xv,hl.Xk,hl.nS,hl.nN,hl.nM⟩ (by have:=HP.o.w0;show s.d.waits.length≤_;omega) (by have:=HP.o.e0;show s.log.epoch+2<_;omega) HK.o.D8 HP.o.se HP.o.sp;rw[HP.o.next]at this;exact this)
 clear aw W f G SK aH HN;go_upto_region 11 with fail;go_cut [10,11] (fun v10 v11 wx=>v10=.int .i64 0∧v11=.int .i64 mark∧QO wx base Sb s1 m∧Qd base [121,165,167,216,137,129,220] w1 wx∧Qh wx k 140 #[.int .i64 a,.int .i64 l])
 case first=>as_aux_lemma=>
  go_wp2_with (go_at_call 106;refine(aD.o _ bR).mono ?_;rintro en w4 ⟨rfl,aA,aG⟩;(have b5:=Qa aA);(have aq:=Qa aG);clear aA aG);go_meet;exact⟨rfl,rfl,b5.o,b6.o.trans (aq.o.mono nR (by simp)),bd.o.keeps aq.o (by decide)⟩
 obtain⟨rfl,rfl,T,V,aj⟩:=hcut;have E:=Qa T;have ax:=Qa V;have av:=Qa aj;have br:=T.blk.lt;have H:=T.lt;have bp:=aj.lt;have e5:=(z.o _ V).1;have aO:d1.size=s1.d.size:=by have:=Oz s1.d a 83 mark b;rw[HP.o.put]at this;exact this
 have ak:=Qa (show ∀wy,Below wc.heap.size wc wy→Calls prog 107 #[.pointer (some ⟨m.B,0,none⟩),.int .i64 a,.int .u8 83,.int .i64 mark,.slice A b.length c] wy fun e w'=>e=.returned (.tuple #[.int .i64 nn,.int .i64 0])∧VK w' base m.B d1∧Qd base [121,165,167] wy w' from fun wy hy=>by
  have hh:=E.o.below hy;have bf:=V.trans (Qd.Qe (base:=base) (ts:=[121,165,167,216,137,129,220]) hy H);have:=ZE hh.Ul hh.Rn.steps hh.b2 a 83 mark (by have:=HP.o.la;omega) (by decide) HP.o.lm b (by omega) A c ((b7.o.below (O.o)).keeps bf (by decide)) hc (by have:=HP.o.w1;omega);rw[HP.o.put]at this;exact this)
 have SK:=Qa (show ∀wy,Qd base [121,165,167] wc wy→wy.cell? ⟨w.heap.size,0,none⟩=some (.pointer (some ⟨Sb,0,none⟩))∧wy.cell? ⟨Sb,0,none⟩=some (.pointer (some ⟨m.B,0,none⟩))∧wy.cell? ⟨k,0,none⟩=some (.int .i64 a) from fun wy hy=>by
  have hh:=E.o.blk.keeps hy (by decide);have h2:=av.o.keeps hy (by decide);exact⟨(z.o _ (ax.o.trans (hy.mono nR (by simp)))).1,hh.cell 0,h2.cell 0⟩)
 have S0:=Qa (SK.o _ (Qd.Qe bR.drew H));clear T V aj aD e1;go_upto_region 13 with fail;go_cut [10] (fun v10 wx=>v10=.int .i64 0∧QO wx base Sb { s1 with d:=d1 } m∧Qd base [121,165,167,216,137,129,220] w1 wx∧Qh wx k 140 #[.int .i64 a,.int .i64 l])
 case first=>as_aux_lemma=>
  go_region_held3 (fun wy=>wy.cell? ⟨w.heap.size,0,none⟩=some (.pointer (some ⟨Sb,0,none⟩))∧wy.cell? ⟨Sb,0,none⟩=some (.pointer (some ⟨m.B,0,none⟩))∧wy.cell? ⟨k,0,none⟩=some (.int .i64 a))
   (first|exact S0.o|exact SK.o _ K6.o)
   (first|(go_at_call 107;refine(ak.o _ bR.drew).mono ?_;rintro en w6 ⟨rfl,an,aS⟩;(have bk:=Qa an);(have K6:=Qa ((Qd.Qe (base:=base) (ts:=[121,165,167]) bR.drew H).trans aS));clear an aS))
  all_goals
   have kq:=Qa (show QO w6 base Sb { s1 with d:=d1 } m∧Qd base [121,165,167,216,137,129,220] w1 w6∧Qh w6 k 140 #[.int .i64 a,.int .i64 l] from by
    have b9:=K6.o.mono nR (ts':=[121,165,167,216,137]) (by simp);have l6:=E.o.log.keeps K6.o (by decide) (by decide) (by decide);have s6:=E.o.YG b9 bk.o l6 aO;exact⟨s6,ax.o.trans (K6.o.mono nR (by simp)),av.o.keeps K6.o (by decide)⟩)
   go_wp2_with fail;go_meet;exact⟨rfl,kq.o⟩
 obtain⟨rfl,X,az,Q⟩:=hcut;have aU:=Qa X;have bi:=Qa az;have bo:=X.blk.lt;have aM:=X.lt;have bq:=Q.lt;have aa:=Qa Q;have j0:wc.cell? ⟨k,0,none⟩=some (.int .i64 a):=Q.cell 0;have j1:wc.cell? ⟨k,1,none⟩=some (.int .i64 l):=Q.cell 1
 have C:Qb (Below wc.heap.size wc ((wc.alloc (.cells #[.int .i64 0,.int .i64 0,.int .i64 0,.int .i64 0] 142)).setRow wc.heap.size #[.int .i64 a,.int .i64 l,.int .i64 b.length,.int .i64 mark])):=
  (bR.alloc nR _).trans (Qg (Qm _ _ _) (by simp) (gB (by omega)))
 have p:Qb (Qh ((wc.alloc (.cells #[.int .i64 0,.int .i64 0,.int .i64 0,.int .i64 0] 142)).setRow wc.heap.size #[.int .i64 a,.int .i64 l,.int .i64 b.length,.int .i64 mark]) wc.heap.size 142 #[.int .i64 a,.int .i64 l,.int .i64 b.length,.int .i64 mark]):=Qp (Qh.new wc 142 _) _;have aP:=Qa (Qh.new wc 142 #[.int .i64 0,.int .i64 0,.int .i64 0,.int .i64 0]);have ar:Qb ((prog.info? 142).map (·.size)=some (#[.int .i64 a,.int .i64 l,.int .i64 b.length,.int .i64 mark]:Array Value).size):=show(prog.info? 142).map (·.size)=some 4 from by kernel_rfl
 have H1:Qb ((#[.int .i64 a,.int .i64 l,.int .i64 b.length,.int .i64 mark]:Array Value).all (·.oneCell')=true):=Qa (by simp[Value.oneCell']);clear X az Q;go_upto_region 18 with(refine wpList_store_row rfl 142 _ _ rfl wc.heap.size #[.int .i64 a,.int .i64 l,.int .i64 b.length,.int .i64 mark] rfl rfl 142 #[.int .i64 0,.int .i64 0,.int .i64 0,.int .i64 0] aP.o ar.o rfl H1.o ?_;dsimp only[Act.put]);generalize (wc.alloc (.cells #[.int .i64 0,.int .i64 0,.int .i64 0,.int .i64 0] 142)).setRow wc.heap.size #[.int .i64 a,.int .i64 l,.int .i64 b.length,.int .i64 mark]=w8 at*
 have ac:=C.o.size;obtain⟨g8,aK⟩:=eX wc.heap.size;rw[←aK]at p ⊢;have bs:=p.o.lt;clear aP ar H1 j0 j1 aK;have aO:d1.size=s1.d.size:=by have:=Oz s1.d a 83 mark b;rw[HP.o.put]at this;exact this
 have bE:s1.Qc.length≤100000:=by rw[HP.o.sl];exact HK.o.nS
 have aQ:=Qa (show ∀wy,Below w8.heap.size w8 wy→∃w9,(Instr.mapUpdate 125 (.map (some m.Pb)) (.agg #[.int .i64 n1,.int .i64 n2]) (.agg #[.int .i64 a,.int .i64 l,.int .i64 b.length,.int .i64 mark])).run prog wy=.ok () w9∧QO w9 base Sb { s1 with d:=d1,Qc:=JL (n1,n2) ⟨a,l,b.length,mark⟩ s1.Qc } m∧Qt base m m wy w9∧Qd base [1000000] wy w9∧wy.mapTurned w9 m.Pb from fun wy hy=>
  (aU.o.below (C.o.trans (hy.mono ac))).Gm (by show Xa s1.Qc;rw[HP.o.sl];exact HK.o.Vn) (by show ∀x∈s1.Qc,_;rw[HP.o.sl];exact HK.o.num) (by show s1.Qc.length≤_;omega) (n1,n2) ⟨a,l,b.length,mark⟩ ⟨⟨HP.o.r1,HP.o.r2,⟨by show(0:Int)≤(a:Int);omega,by show(a:Int)≤65536;have:=HP.o.la;omega⟩,HP.o.b2,by show(0:Int)≤(mark:Int);omega,by show(mark:Int)<_;have:=HP.o.lm;omega⟩,HP.o.ll⟩)
 obtain⟨w9,aI,am,aB,t,g⟩:=aQ.o w8.drew bR.drew;have J:=bi.o.trans (Qd.Qe (base:=base) (ts:=[121,165,167,216,137,129,220]) (C.o.trans (bR.drew.mono ac)) aM);have q3:=z.o _ J
 have S8:=Qa (show w8.drew.cell? ⟨w.heap.size,0,none⟩=some (.pointer (some ⟨Sb,0,none⟩))∧w8.drew.cell? ⟨Sb,5,none⟩=some (.map (some m.Pb))∧(w8.drew.cell? ⟨w.heap.size+1,0,none⟩=some (.int .i64 n1)∧w8.drew.cell? ⟨w.heap.size+1,1,none⟩=some (.int .i64 n2))∧w8.drew.cell? ⟨g8,0,none⟩=some (.int .i64 a)∧w8.drew.cell? ⟨g8,1,none⟩=some (.int .i64 l)∧w8.drew.cell? ⟨g8,2,none⟩=some (.int .i64 b.length)∧w8.drew.cell? ⟨g8,3,none⟩=some (.int .i64 mark)from
  ⟨q3.1,(aU.o.below (C.o.trans (bR.drew.mono ac))).blk.cell 5,q3.2,p.o.cell 0,p.o.cell 1,p.o.cell 2,p.o.cell 3⟩)
 have S9:=Qa (show w9.cell? ⟨w.heap.size,0,none⟩=some (.pointer (some ⟨Sb,0,none⟩))∧w9.cell? ⟨Sb,5,none⟩=some (.map (some m.Pb))∧(w9.cell? ⟨w.heap.size+1,0,none⟩=some (.int .i64 n1)∧w9.cell? ⟨w.heap.size+1,1,none⟩=some (.int .i64 n2))∧w9.cell? ⟨g8,0,none⟩=some (.int .i64 a)∧w9.cell? ⟨g8,1,none⟩=some (.int .i64 l)∧w9.cell? ⟨g8,2,none⟩=some (.int .i64 b.length)∧w9.cell? ⟨g8,3,none⟩=some (.int .i64 mark) from by
  obtain⟨a1,a2,⟨a3,a4⟩,a5,a6,a7,a8⟩:=S8.o;exact⟨Jh g a1,Jh g a2,⟨Jh g a3,Jh g a4⟩,Jh g a5,Jh g a6,Jh g a7,Jh g a8⟩)
 have U:=Qa (show QO w9 base Sb { s1 with d:=d1,Qc:=JL (n1,n2) ⟨a,l,b.length,mark⟩ s1.Qc } m∧Qt base m m w w9 from
  ⟨am,((Qt.of (Qd.Qe (base:=base) (ts:=[121]) O.o bb) (by simp)).trans (Qt.of J (by simp))).trans aB⟩)
 have B9:=Qa (show Qh w9 w.heap.size 28 #[.pointer (some ⟨Sb,0,none⟩)]∧Qh w9 (w.heap.size+1) 73 #[.int .i64 n1,.int .i64 n2]∧Qh w9 g8 142 #[.int .i64 a,.int .i64 l,.int .i64 b.length,.int .i64 mark]∧Qh w9 k 140 #[.int .i64 a,.int .i64 l]from
  ⟨(S.o.keeps J (by decide)).keeps t (by decide),(I.o.keeps J (by decide)).keeps t (by decide),(p.o.drew).keeps t (by decide),((aa.o.below C.o aa.o.lt).drew).keeps t (by decide)⟩)
 clear am aB t g q3 aQ C p SK S0 ak J aa;go_cut [12] (fun v12 wx=>v12=.pointer (some ⟨g8,0,none⟩)∧wx=w9)
 case first=>as_aux_lemma=>
  go_region_held3 (fun wy=>wy.cell? ⟨w.heap.size,0,none⟩=some (.pointer (some ⟨Sb,0,none⟩))∧wy.cell? ⟨Sb,5,none⟩=some (.map (some m.Pb))∧(wy.cell? ⟨w.heap.size+1,0,none⟩=some (.int .i64 n1)∧wy.cell? ⟨w.heap.size+1,1,none⟩=some (.int .i64 n2))∧wy.cell? ⟨g8,0,none⟩=some (.int .i64 a)∧wy.cell? ⟨g8,1,none⟩=some (.int .i64 l)∧wy.cell? ⟨g8,2,none⟩=some (.int .i64 b.length)∧wy.cell? ⟨g8,3,none⟩=some (.int .i64 mark))
   (first|exact S8.o|exact S9.o)
   (fail)
  all_goals
   go_wp2_with fail;go_meet;exact⟨rfl,rfl⟩
 obtain⟨rfl,rfl⟩:=hcut;have P:=U.o.1.lt;have ad:∀y∈[n1,n2,(a:Int),((b.length:Nat):Int),(mark:Int)],-9223372036854775808≤y∧y≤9223372036854775807:=by
  have r1:=HP.o.r1;have r2:=HP.o.r2;unfold Qs at r1 r2;simp only[Bool.and_eq_true,decide_eq_true_eq]at r1 r2;have:=HP.o.la;have:=HP.o.lm;have:=HP.o.b2;intro y hy;simp only[List.mem_cons,List.not_mem_nil,or_false]at hy;rcases hy with rfl|rfl|rfl|rfl|rfl<;>omega
 have au:=KX _ ad;have bh:=Qa (show ∀wy,Below wc.heap.size wc wy→Calls prog 109 #[.agg #[.int .i64 a,.int .i64 l,.int .i64 b.length,.int .i64 mark],.agg #[.int .i64 n1,.int .i64 n2]] wy fun e w'=>Kz wy w' (83,Qi [n1,n2,(a:Int),((b.length:Nat):Int),(mark:Int)]) e from fun wy hy=>IT ⟨a,l,b.length,mark⟩ (n1,n2) (U.o.1.below hy).Rn.tb ad)
 have bc:=Qa (show ∀wy A' c',Below wc.heap.size wc wy→Kb wy A' (Qi [n1,n2,(a:Int),((b.length:Nat):Int),(mark:Int)])→(Qi [n1,n2,(a:Int),((b.length:Nat):Int),(mark:Int)]).length≤c'→Calls prog 70 #[.pointer (some ⟨Sb,0,none⟩),.agg #[.int .u8 83,.slice A' (Qi [n1,n2,(a:Int),((b.length:Nat):Int),(mark:Int)]).length c'],.func (.func 110) #[] #[.pointer (some ⟨w.heap.size,0,none⟩),.pointer (some ⟨w.heap.size+1,0,none⟩),.pointer (some ⟨k,0,none⟩)]] wy fun e w'=>e=.returned (.int .i64 q.1)∧QO w' base Sb q.2 m∧Qt base m m wy w'∧Qh w' w.heap.size 28 #[.pointer (some ⟨Sb,0,none⟩)]∧Qh w' (w.heap.size+1) 73 #[.int .i64 n1,.int .i64 n2]∧Qh w' g8 142 #[.int .i64 a,.int .i64 l,.int .i64 b.length,.int .i64 mark] from fun wy A' c' hy hby' hc'=>by
  have hh:=U.o.1.below hy;have bg:s1.d.Qk.length≤65536:=by obtain⟨m',hm⟩:=E.o.Ul;exact hm.n1.2
  have a0:=Iu bg HP.o.put;have hl:=HK.o.l;have bD:=HK.o.nS;have bB:=HK.o.nN;have bv:=HK.o.nM;have bA:=Zl (k:=(n1,n2)) (v:=(⟨a,l,b.length,mark⟩:Qx)) s1.Qc;have aZ:MF { s1 with d:=d1,Qc:=JL (n1,n2) ⟨a,l,b.length,mark⟩ s1.Qc }:=by
   refine⟨?_, ?_, ?_, ?_, ?_, ?_, ?_, ?_⟩
   ·show Xa (JL _ _ s1.Qc);rw[HP.o.sl];exact Z3 HK.o.Vn
   ·intro x hx;rcases VR hx with e|hx
    ·subst e;exact⟨⟨HP.o.r1,HP.o.r2,⟨by show(0:Int)≤(a:Int);omega,by show(a:Int)≤65536;have:=HP.o.la;omega⟩,HP.o.b2,by show(0:Int)≤(mark:Int);omega,by show(mark:Int)<_;have:=HP.o.lm;omega⟩,HP.o.ll⟩
    rw[HP.o.sl]at hx;exact HK.o.num x hx
   ·show Yx s1.notes;rw[HP.o.n1];exact HK.o.VL
   ·show ∀x∈s1.notes,_;rw[HP.o.n1];exact HK.o.Xv
   ·show ∀x∈s1.marks,_;rw[HP.o.Be];exact HK.o.Xk
   ·show(JL _ _ s1.Qc).length≤_;omega
   ·show s1.notes.length≤_;rw[HP.o.n1];omega
   show s1.marks.length≤_;rw[HP.o.Be];omega
  have:=Xz hh aZ (by have:=HP.o.w1;have:=a0.2.2;show d1.waits.length≤_;omega) (by have:=HP.o.e1;exact this) (by have:=HP.o.a1;exact this) (by have:=HP.o.z1;show s1.log.size=d1.size;omega)
   (83,Qi [n1,n2,(a:Int),((b.length:Nat):Int),(mark:Int)]) (by show 83<256;decide) (by show(Qi _).length<_;simp only[List.length_cons,List.length_nil]at au;omega) A' c' hby' hc'
   (by rw[Vd,List.length_append,List.length_append,List.length_map,List.length_map,List.length_map];show s1.notes.length+(JL _ _ s1.Qc).length+s1.marks.length≤_;rw[HP.o.n1,HP.o.Be];omega)
   110 #[.pointer (some ⟨w.heap.size,0,none⟩),.pointer (some ⟨w.heap.size+1,0,none⟩),.pointer (some ⟨k,0,none⟩)] (fun _ _=>rfl) (fun w'=>QO w' base Sb q.2 m∧Qt base m m wy w'∧Qh w' w.heap.size 28 #[.pointer (some ⟨Sb,0,none⟩)]∧Qh w' (w.heap.size+1) 73 #[.int .i64 n1,.int .i64 n2]∧Qh w' g8 142 #[.int .i64 a,.int .i64 l,.int .i64 b.length,.int .i64 mark])
   (fun w' d l' hd hk hs=>by
    have ag:q=(0,{ s1 with d:=d,log:=l',Qc:=JL (n1,n2) ⟨a,l,b.length,mark⟩ s1.Qc }):=by
     rw[a9.o];exact XF hd
    rw[ag];exact⟨hs,Qt.of hk (by simp),(B9.o.1.below hy B9.o.1.lt).keeps hk (by decide),(B9.o.2.1.below hy B9.o.2.1.lt).keeps hk (by decide),(B9.o.2.2.1.below hy B9.o.2.2.1.lt).keeps hk (by decide)⟩)
   (fun wz e' d l' hd he hk hs=>by
    have ag:q=(e',{ s1 with d:=d,log:=l',map:=(JF s1.map a l).2 }):=by
     rw[a9.o];exact XE hd he
    rw[ag];have z1:=(B9.o.1.below hy B9.o.1.lt).keeps hk (by decide);have z2:=(B9.o.2.1.below hy B9.o.2.1.lt).keeps hk (by decide);have z3:=(B9.o.2.2.1.below hy B9.o.2.2.1.lt).keeps hk (by decide);have z4:=(B9.o.2.2.2.below hy B9.o.2.2.2.lt).keeps hk (by decide);refine(Mj (s:={ s1 with d:=d,log:=l' }) (n:=(n1,n2)) (x:=⟨a,l,b.length,mark⟩) hs ao z1 z2 z4 (fun y=> ?_) (by show Xa s1.Qc;rw[HP.o.sl];exact HK.o.Vn) (by show ∀x∈s1.Qc,_;rw[HP.o.sl];exact HK.o.num) hgv (by have:=HP.o.la;omega) (by have:=HP.o.ll;omega)).mono ?_
    ·show QC s1.Qc y=if y=(n1,n2)then none else QC (JL (n1,n2) (⟨a,l,b.length,mark⟩:Qx) s1.Qc) y
     by_cases hy2:y=(n1,n2)
     ·rw[if_pos hy2,hy2,HP.o.sl];exact HP.o.new
     rw[if_neg hy2,IB,if_neg hy2]
    rintro en w' ⟨h1,h2,h3⟩;exact⟨h1,h2,(Qt.of hk (by simp)).trans h3,h3.blk hs z1 (by decide) (by decide),h3.blk hs z2 (by decide) (by decide),h3.blk hs z3 (by decide) (by decide)⟩)
  have b8:q.1=(JV { s1 with d:=d1,Qc:=JL (n1,n2) ⟨a,l,b.length,mark⟩ s1.Qc } (83,Qi [n1,n2,(a:Int),((b.length:Nat):Int),(mark:Int)])).1:=by rw[a9.o];exact V5
  rw[←b8]at this;exact this)
 clear ad au;generalize Qi [n1,n2,(a:Int),((b.length:Nat):Int),(mark:Int)]=tx at*
 have ap:=Qa (show ∀wy,Qd base [121,165,167,216,137] wc wy→wy.cell? ⟨w.heap.size,0,none⟩=some (.pointer (some ⟨Sb,0,none⟩))∧(wy.cell? ⟨w.heap.size+1,0,none⟩=some (.int .i64 n1)∧wy.cell? ⟨w.heap.size+1,1,none⟩=some (.int .i64 n2))∧wy.cell? ⟨g8,0,none⟩=some (.int .i64 a)∧wy.cell? ⟨g8,1,none⟩=some (.int .i64 l)∧wy.cell? ⟨g8,2,none⟩=some (.int .i64 b.length)∧wy.cell? ⟨g8,3,none⟩=some (.int .i64 mark) from fun wy hy=>by
  have a3:=B9.o.1.keeps hy (by decide);have a4:=B9.o.2.1.keeps hy (by decide);have a8:=B9.o.2.2.1.keeps hy (by decide);exact⟨a3.cell 0,⟨a4.cell 0,a4.cell 1⟩,a8.cell 0,a8.cell 1,a8.cell 2,a8.cell 3⟩)
 have S1:=Qa (ap.o _ (Qd.Qe bR.drew P))
 have aV:=Qa (show ∀wy,Qh wy w.heap.size 28 #[.pointer (some ⟨Sb,0,none⟩)]∧Qh wy (w.heap.size+1) 73 #[.int .i64 n1,.int .i64 n2]∧Qh wy g8 142 #[.int .i64 a,.int .i64 l,.int .i64 b.length,.int .i64 mark]→wy.cell? ⟨w.heap.size,0,none⟩=some (.pointer (some ⟨Sb,0,none⟩))∧(wy.cell? ⟨w.heap.size+1,0,none⟩=some (.int .i64 n1)∧wy.cell? ⟨w.heap.size+1,1,none⟩=some (.int .i64 n2))∧wy.cell? ⟨g8,0,none⟩=some (.int .i64 a)∧wy.cell? ⟨g8,1,none⟩=some (.int .i64 l)∧wy.cell? ⟨g8,2,none⟩=some (.int .i64 b.length)∧wy.cell? ⟨g8,3,none⟩=some (.int .i64 mark) from fun wy hy=>
  ⟨hy.1.cell 0,⟨hy.2.1.cell 0,hy.2.1.cell 1⟩,hy.2.2.cell 0,hy.2.2.cell 1,hy.2.2.cell 2,hy.2.2.cell 3⟩)
 clear aI S8 S9;go_upto_region 19 with fail
 go_region_held3 (fun wy=>wy.cell? ⟨w.heap.size,0,none⟩=some (.pointer (some ⟨Sb,0,none⟩))∧(wy.cell? ⟨w.heap.size+1,0,none⟩=some (.int .i64 n1)∧wy.cell? ⟨w.heap.size+1,1,none⟩=some (.int .i64 n2))∧wy.cell? ⟨g8,0,none⟩=some (.int .i64 a)∧wy.cell? ⟨g8,1,none⟩=some (.int .i64 l)∧wy.cell? ⟨g8,2,none⟩=some (.int .i64 b.length)∧wy.cell? ⟨g8,3,none⟩=some (.int .i64 mark))
  (first|exact aV.o _ B4.o|exact ap.o _ (Qd.Qe af.o P)|exact S1.o)
  (first
   |(go_at_call 109;refine(bh.o _ bR.drew).mono ?_;rintro en w3 ⟨⟨A3,c3,rfl,aT,aE⟩,aC⟩;(have b0:=Qa aT);(have aW:=Qa aE);(have af:Qb (Below wc.heap.size wc w3):=bR.drew.trans aC);clear aT aE aC)
   |(go_at_call 70;refine(bc.o _ _ _ af.o b0.o aW.o).mono ?_;rintro en w4 ⟨rfl,h4,k4,b4⟩;(have H4:=Qa h4);(have K4:Qb (Qt base m m wc w4):=(Qt.Qe (m:=m) af.o P).trans k4);(have B4:=Qa b4);clear h4 k4 b4))
 all_goals
  go_wp2_with fail;go_ret;exact⟨rfl,H4.o,U.o.2.trans K4.o⟩
end
end Go.Proofs.YtmgmfnimaafkdaaGreatDoor
