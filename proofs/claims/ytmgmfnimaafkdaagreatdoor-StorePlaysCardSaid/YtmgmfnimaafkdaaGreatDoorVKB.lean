/- The reference's Need, and its log that has no records. -/
import Derived.Test.YtmgmfnimaafkdaaGreatDoorVJ
namespace Go.Proofs.YtmgmfnimaafkdaaGreatDoor
set_option maxRecDepth 100000
set_option maxHeartbeats 0
open Go.RowKit Go.Maps
open Tryz
section
open Go.Shelf Go.Sort
variable {M base g:Nat} {w w':World}
theorem KL.Cy{m:Jt}(h:KL w base M m)(hg:w.grownBy w' (some g))(hM:M≠g)(hf:m.free≠[]→Xf w M (· ≠g)):KL w' base M m:=by
 by_cases he:m.free=[]
 ·obtain⟨a1,a2,a3,a4,a5,A,c,h3,h4,h6⟩:=h;have h0:m.free.length=0:=by rw[he];rfl
  exact⟨a1,a2,a3,a4,a5,A,c,h3.grown hg (by intro e;injection e with e;exact hM e.symm),h4,⟨⟨h6.1.1,fun hn=>absurd hn (by omega)⟩,fun hn=>absurd hn (by omega)⟩⟩
 exact h.grown hg hM (hf he)
attribute [local go_sem ↓] RW
variable {Sb:Nat} {b:List UInt8} {m:KY} {s:QM}
theorem MT{n:Qj}(h:QO w base Sb s m)(hn:Qs n.1=false∨Qs n.2=false∨b.length<1∨1048576<b.length)(A:Option Addr)(c:Nat):
  Calls prog 53 #[.pointer (some ⟨Sb,0,none⟩),QZ n,.slice A b.length c] w fun e w'=>e=.returned (.int .i64 1)∧QO w' base Sb s m∧Qt base m m w w':=by
 have HH:=Qa h;have l:=h.lt;have a0:=h.blk.lt;obtain⟨n1,n2⟩:=n;clear h;unfold QZ;simp only at hn ⊢;have g:Below w.heap.size w ((w.alloc (.cells #[.pointer (some ⟨Sb,0,none⟩)] 28)).alloc (.cells #[.int .i64 n1,.int .i64 n2] 73)):=(bR.alloc nR _).alloc (by simp) _;have d:=Qa g;have i:=Qa (show Qh ((w.alloc (.cells #[.pointer (some ⟨Sb,0,none⟩)] 28)).alloc (.cells #[.int .i64 n1,.int .i64 n2] 73)) w.heap.size 28 #[.pointer (some ⟨Sb,0,none⟩)] from (Qh.new _ _ _).alloc _);have f:=Qa (show Qh ((w.alloc (.cells #[.pointer (some ⟨Sb,0,none⟩)] 28)).alloc (.cells #[.int .i64 n1,.int .i64 n2] 73)) (w.heap.size+1) 73 #[.int .i64 n1,.int .i64 n2] from Qh.Qz (by simp));have R1:=Qa (fun wy=>show Calls prog 104 #[.int .i64 n1] wy fun e w'=>e=.returned (.bool (Qs n1))∧wy=w' from KR n1 wy);have R2:=Qa (fun wy=>show Calls prog 104 #[.int .i64 n2] wy fun e w'=>e=.returned (.bool (Qs n2))∧wy=w' from KR n2 wy);clear g;go_enter func53,ntmps53;go_upto_region 1 with fail;generalize hw1e:(w.alloc (.cells #[.pointer (some ⟨Sb,0,none⟩)] 28)).alloc (.cells #[.int .i64 n1,.int .i64 n2] 73)=w1 at*
 clear hw1e;have a1:=d.o.size;have c3:w1.cell? ⟨w.heap.size,0,none⟩=some (.pointer (some ⟨Sb,0,none⟩)):=i.o.cell 0;have a4:w1.cell? ⟨w.heap.size+1,0,none⟩=some (.int .i64 n1):=f.o.cell 0;have a3:w1.cell? ⟨w.heap.size+1,1,none⟩=some (.int .i64 n2):=f.o.cell 1;have l3:=i.o.lt;have l4:=f.o.lt;have a:=Qa (show QO w1 base Sb s m∧Qt base m m w w1 from ⟨HH.o.below d.o,Qt.Qe d.o l⟩);by_cases h1:Qs n1=false
 ·rw[h1]at R1;clear R2;go_wp2_with (go_at_call 104;refine(R1.o _).mono ?_;rintro en w' ⟨rfl,rfl⟩)
  all_goals
   go_ret;exact⟨rfl,a.o.1,a.o.2⟩
 have k:Qs n1=true:=by simpa using h1
 rw[k]at R1;by_cases h2:Qs n2=false
 ·rw[h2]at R2
  go_wp2_with (first
   |((fail_if_success (have:=RR));go_at_call 104;refine(R1.o _).mono ?_;rintro en w' ⟨rfl,rfl⟩;(have RR:=Qa (show True from trivial)))
   |(go_at_call 104;refine(R2.o _).mono ?_;rintro en w' ⟨rfl,rfl⟩))
  go_ret;exact⟨rfl,a.o⟩
 have j:Qs n2=true:=by simpa using h2
 rw[j]at R2;by_cases h3:b.length<1
 ·have p:(b.length:Int)<1:=by omega
  go_wp2_with (first
   |((fail_if_success (have:=RR));go_at_call 104;refine(R1.o _).mono ?_;rintro en w' ⟨rfl,rfl⟩;(have RR:=Qa (show True from trivial)))
   |(go_at_call 104;refine(R2.o _).mono ?_;rintro en w' ⟨rfl,rfl⟩))
  go_ret;exact⟨rfl,a.o⟩
 have p:¬((b.length:Int)<1):=by omega
 have h4:1048576<b.length:=by
  rcases hn with e|e|e|e
  ·exact absurd e h1
  ·exact absurd e h2
  ·exact absurd e h3
  exact e
 have a2:(b.length:Int)>1048576:=by omega
 go_wp2_with (first
  |((fail_if_success (have:=RR));go_at_call 104;refine(R1.o _).mono ?_;rintro en w' ⟨rfl,rfl⟩;(have RR:=Qa (show True from trivial)))
  |(go_at_call 104;refine(R2.o _).mono ?_;rintro en w' ⟨rfl,rfl⟩))
 go_ret;exact⟨rfl,a.o⟩
section
attribute [local go_sem ↓] XN
variable {x:Qx}
theorem SN{n:Qj}(h:QO w base Sb s m)(hr1:Qs n.1=true)(hr2:Qs n.2=true)(hb1:1≤b.length)(f:b.length≤1048576)(hnew0:QC s.Qc n=some x)(A:Option Addr)(c:Nat):
  Calls prog 53 #[.pointer (some ⟨Sb,0,none⟩),QZ n,.slice A b.length c] w fun e w'=>e=.returned (.int .i64 7)∧QO w' base Sb s m∧Qt base m m w w':=by
 have HH:=Qa h;have y:=h.lt;have a0:=h.blk.lt;obtain⟨n1,n2⟩:=n;have v:TQ (n1,n2):=⟨Q8 hr1,Q8 hr2⟩;obtain⟨at',len,a,mk⟩:=x;have k:=Qa hnew0;clear h hnew0;unfold QZ;simp only at hr1 hr2 ⊢;have l:Below w.heap.size w ((w.alloc (.cells #[.pointer (some ⟨Sb,0,none⟩)] 28)).alloc (.cells #[.int .i64 n1,.int .i64 n2] 73)):=(bR.alloc nR _).alloc (by simp) _;have d:=Qa l;have i:=Qa (show Qh ((w.alloc (.cells #[.pointer (some ⟨Sb,0,none⟩)] 28)).alloc (.cells #[.int .i64 n1,.int .i64 n2] 73)) w.heap.size 28 #[.pointer (some ⟨Sb,0,none⟩)] from (Qh.new _ _ _).alloc _);have g:=Qa (show Qh ((w.alloc (.cells #[.pointer (some ⟨Sb,0,none⟩)] 28)).alloc (.cells #[.int .i64 n1,.int .i64 n2] 73)) (w.heap.size+1) 73 #[.int .i64 n1,.int .i64 n2] from Qh.Qz (by simp));have R1:=Qa (fun wy=>show Calls prog 104 #[.int .i64 n1] wy fun e w'=>e=.returned (.bool true)∧wy=w' from by have:=KR n1 wy;rw[hr1]at this;exact this);have R2:=Qa (fun wy=>show Calls prog 104 #[.int .i64 n2] wy fun e w'=>e=.returned (.bool true)∧wy=w' from by have:=KR n2 wy;rw[hr2]at this;exact this);clear l hr1 hr2;go_enter func53,ntmps53;go_upto_region 1 with fail;generalize hw1e:(w.alloc (.cells #[.pointer (some ⟨Sb,0,none⟩)] 28)).alloc (.cells #[.int .i64 n1,.int .i64 n2] 73)=w1 at*
 clear hw1e;have j:=d.o.size;have c3:w1.cell? ⟨w.heap.size,0,none⟩=some (.pointer (some ⟨Sb,0,none⟩)):=i.o.cell 0;have B:w1.cell? ⟨w.heap.size+1,0,none⟩=some (.int .i64 n1):=g.o.cell 0;have z:w1.cell? ⟨w.heap.size+1,1,none⟩=some (.int .i64 n2):=g.o.cell 1;have l3:=i.o.lt;have l4:=g.o.lt;have p:¬((b.length:Int)<1):=by omega
 have r:¬((b.length:Int)>1048576):=by omega
 go_upto_region 5 with(first
  |((fail_if_success (have:=RR));go_at_call 104;refine(R1.o _).mono ?_;rintro en w' ⟨rfl,rfl⟩;(have RR:=Qa (show True from trivial)))
  |(go_at_call 104;refine(R2.o _).mono ?_;rintro en w' ⟨rfl,rfl⟩))
 clear c3 B z RR p r R1 R2
 have C:=Qa (show ∀wy,Qd base [121,165,167,216,137,129,220] w1 wy→wy.cell? ⟨w.heap.size,0,none⟩=some (.pointer (some ⟨Sb,0,none⟩))∧wy.cell? ⟨w.heap.size+1,0,none⟩=some (.int .i64 n1)∧wy.cell? ⟨w.heap.size+1,1,none⟩=some (.int .i64 n2) from fun wy hy=>by
  have a3:=i.o.keeps hy (by decide);have a4:=g.o.keeps hy (by decide);exact⟨a3.cell 0,a4.cell 0,a4.cell 1⟩)
 have u:base≤w1.heap.size:=by omega
 go_cut [7,8] (fun _ v8 wx=>v8=.bool true∧Below w1.heap.size w1 wx)
 case first=>as_aux_lemma=>
  have SK:=Qa (show ∀wy,Below w1.heap.size w1 wy→(wy.cell? ⟨w.heap.size,0,none⟩=some (.pointer (some ⟨Sb,0,none⟩))∧wy.cell? ⟨w.heap.size+1,0,none⟩=some (.int .i64 n1)∧wy.cell? ⟨w.heap.size+1,1,none⟩=some (.int .i64 n2))∧wy.cell? ⟨Sb,5,none⟩=some (.map (some m.Pb))∧(Instr.lookup 125 (.map (some m.Pb)) (.agg #[.int .i64 n1,.int .i64 n2]) true).run prog wy=.ok (.tuple #[.agg #[.int .i64 at',.int .i64 len,.int .i64 a,.int .i64 mk],.bool true]) wy from fun wy hy=>by
   have hh:=HH.o.below (d.o.trans (hy.mono j));refine⟨C.o _ (Qd.Qe hy u),hh.blk.cell 5, ?_⟩;have:=hh.pmap.look_ok (x:=(n1,n2)) v;rw[k.o]at this;exact this)
  have S0:=Qa (SK.o _ bR.drew)
  have t:Qb (Below w1.heap.size w1 ((w1.alloc (.cells #[.int .i64 0,.int .i64 0,.int .i64 0,.int .i64 0] 142)).drew.setRow w1.heap.size #[.int .i64 at',.int .i64 len,.int .i64 a,.int .i64 mk])):=
   (bR.alloc nR _).drew.trans (Qg (Qm _ _ _) (by simp) (gB (by omega)))
  have zs:(Zq (.pointer (some ⟨w1.heap.size,0,none⟩)) (.agg #[.int .i64 at',.int .i64 len,.int .i64 a,.int .i64 mk])).run prog (w1.alloc (.cells #[.int .i64 0,.int .i64 0,.int .i64 0,.int .i64 0] 142)).drew=.ok () ((w1.alloc (.cells #[.int .i64 0,.int .i64 0,.int .i64 0,.int .i64 0] 142)).drew.setRow w1.heap.size #[.int .i64 at',.int .i64 len,.int .i64 a,.int .i64 mk]):=XD (Qh.new w1 142 _).drew rfl rfl (by simp[Value.oneCell']);have S3:=Qa (SK.o _ t.o)
  go_region_held3 (fun wy=>(wy.cell? ⟨w.heap.size,0,none⟩=some (.pointer (some ⟨Sb,0,none⟩))∧wy.cell? ⟨w.heap.size+1,0,none⟩=some (.int .i64 n1)∧wy.cell? ⟨w.heap.size+1,1,none⟩=some (.int .i64 n2))∧wy.cell? ⟨Sb,5,none⟩=some (.map (some m.Pb))∧(Instr.lookup 125 (.map (some m.Pb)) (.agg #[.int .i64 n1,.int .i64 n2]) true).run prog wy=.ok (.tuple #[.agg #[.int .i64 at',.int .i64 len,.int .i64 a,.int .i64 mk],.bool true]) wy)
   (first|exact S0.o|exact S3.o|exact SK.o _ (bR.drew.alloc nR _)|exact SK.o _ ((bR.alloc nR _).drew))
   (fail)
  all_goals
   go_wp2_with fail;go_meet;exact⟨rfl,t.o⟩
 obtain⟨rfl,f⟩:=hcut;have q:=Qa (show QO wc base Sb s m∧Qt base m m w wc from ⟨HH.o.below (d.o.trans (f.mono j)),Qt.Qe (d.o.trans (f.mono j)) y⟩);clear f;go_wp2_with fail;go_ret;exact⟨rfl,q.o⟩
end
theorem Ny{et:Nat}{n:Qj}(h:QO w base Sb s m)(ok:XA s)(hr1:Qs n.1=true)(hr2:Qs n.2=true)(hb1:1≤b.length)(l:b.length≤1048576)(hnew0:QC s.Qc n=none)(htk0:XZ s.map (Qf s.d.size b.length)=(et,(0,0),s.map))(het:et≠0)(A:Option Addr)(c:Nat):
  Calls prog 53 #[.pointer (some ⟨Sb,0,none⟩),QZ n,.slice A b.length c] w fun e w'=>e=.returned (.int .i64 et)∧QO w' base Sb s m∧Qt base m m w w':=by
 have HH:=Qa h;have HK:=Qa ok;have T:=h.lt;have a5:=h.blk.lt;obtain⟨n1,n2⟩:=n;have S:TQ (n1,n2):=⟨Q8 hr1,Q8 hr2⟩;have G:=Qa hnew0;have X:=Qa htk0;clear h ok hnew0 htk0;unfold QZ;simp only at hr1 hr2 ⊢;have H:Below w.heap.size w ((w.alloc (.cells #[.pointer (some ⟨Sb,0,none⟩)] 28)).alloc (.cells #[.int .i64 n1,.int .i64 n2] 73)):=(bR.alloc nR _).alloc (by simp) _;have r:=Qa H;have C:=Qa (show Qh ((w.alloc (.cells #[.pointer (some ⟨Sb,0,none⟩)] 28)).alloc (.cells #[.int .i64 n1,.int .i64 n2] 73)) w.heap.size 28 #[.pointer (some ⟨Sb,0,none⟩)] from (Qh.new _ _ _).alloc _);have z:=Qa (show Qh ((w.alloc (.cells #[.pointer (some ⟨Sb,0,none⟩)] 28)).alloc (.cells #[.int .i64 n1,.int .i64 n2] 73)) (w.heap.size+1) 73 #[.int .i64 n1,.int .i64 n2] from Qh.Qz (by simp));have R1:=Qa (fun wy=>show Calls prog 104 #[.int .i64 n1] wy fun e w'=>e=.returned (.bool true)∧wy=w' from by have:=KR n1 wy;rw[hr1]at this;exact this);have R2:=Qa (fun wy=>show Calls prog 104 #[.int .i64 n2] wy fun e w'=>e=.returned (.bool true)∧wy=w' from by have:=KR n2 wy;rw[hr2]at this;exact this);clear H hr1 hr2;go_enter func53,ntmps53;go_upto_region 1 with fail;generalize hw1e:(w.alloc (.cells #[.pointer (some ⟨Sb,0,none⟩)] 28)).alloc (.cells #[.int .i64 n1,.int .i64 n2] 73)=w1 at*
 clear hw1e;have E:=r.o.size;have c3:w1.cell? ⟨w.heap.size,0,none⟩=some (.pointer (some ⟨Sb,0,none⟩)):=C.o.cell 0;have U:w1.cell? ⟨w.heap.size+1,0,none⟩=some (.int .i64 n1):=z.o.cell 0;have Z:w1.cell? ⟨w.heap.size+1,1,none⟩=some (.int .i64 n2):=z.o.cell 1;have l3:=C.o.lt;have l4:=z.o.lt;have N:¬((b.length:Int)<1):=by omega
 have P:¬((b.length:Int)>1048576):=by omega
 go_upto_region 5 with(first
  |((fail_if_success (have:=RR));go_at_call 104;refine(R1.o _).mono ?_;rintro en w' ⟨rfl,rfl⟩;(have RR:=Qa (show True from trivial)))
  |(go_at_call 104;refine(R2.o _).mono ?_;rintro en w' ⟨rfl,rfl⟩))
 clear c3 U Z RR N P R1 R2
 have Q:=Qa (show ∀wy,Qd base [121,165,167,216,137,129,220] w1 wy→wy.cell? ⟨w.heap.size,0,none⟩=some (.pointer (some ⟨Sb,0,none⟩))∧wy.cell? ⟨w.heap.size+1,0,none⟩=some (.int .i64 n1)∧wy.cell? ⟨w.heap.size+1,1,none⟩=some (.int .i64 n2) from fun wy hy=>by
  have a3:=C.o.keeps hy (by decide);have a4:=z.o.keeps hy (by decide);exact⟨a3.cell 0,a4.cell 0,a4.cell 1⟩)
 have j:base≤w1.heap.size:=by omega
 go_cut [7,8] (fun _ v8 wx=>v8=.bool false∧Below w1.heap.size w1 wx)
 case first=>as_aux_lemma=>
  have SK:=Qa (show ∀wy,Below w1.heap.size w1 wy→(wy.cell? ⟨w.heap.size,0,none⟩=some (.pointer (some ⟨Sb,0,none⟩))∧wy.cell? ⟨w.heap.size+1,0,none⟩=some (.int .i64 n1)∧wy.cell? ⟨w.heap.size+1,1,none⟩=some (.int .i64 n2))∧wy.cell? ⟨Sb,5,none⟩=some (.map (some m.Pb))∧(Instr.lookup 125 (.map (some m.Pb)) (.agg #[.int .i64 n1,.int .i64 n2]) true).run prog wy=.ok (.tuple #[.agg #[.int .i64 0,.int .i64 0,.int .i64 0,.int .i64 0],.bool false]) wy from fun wy hy=>by
   have hh:=HH.o.below (r.o.trans (hy.mono E));refine⟨Q.o _ (Qd.Qe hy j),hh.blk.cell 5, ?_⟩;have:=hh.pmap.look_ok (x:=(n1,n2)) S;rw[G.o]at this;exact this)
  have S0:=Qa (SK.o _ bR.drew)
  go_region_held3 (fun wy=>(wy.cell? ⟨w.heap.size,0,none⟩=some (.pointer (some ⟨Sb,0,none⟩))∧wy.cell? ⟨w.heap.size+1,0,none⟩=some (.int .i64 n1)∧wy.cell? ⟨w.heap.size+1,1,none⟩=some (.int .i64 n2))∧wy.cell? ⟨Sb,5,none⟩=some (.map (some m.Pb))∧(Instr.lookup 125 (.map (some m.Pb)) (.agg #[.int .i64 n1,.int .i64 n2]) true).run prog wy=.ok (.tuple #[.agg #[.int .i64 0,.int .i64 0,.int .i64 0,.int .i64 0],.bool false]) wy)
   (first|exact S0.o|exact SK.o _ (bR.drew.alloc nR _)|exact SK.o _ ((bR.alloc nR _).drew))
   (fail)
  all_goals
   go_wp2_with fail;go_meet;exact⟨rfl,(bR.alloc nR _).drew⟩
 obtain⟨rfl,l⟩:=hcut;have q:QO wc base Sb s m:=HH.o.below (r.o.trans (l.mono E));have R:∀{w2:World},Qd base [220] wc w2→KL w2 base m.M s.map→QO w2 base Sb s m:=fun k9 m9=>HH.o.below (r.o.trans (l.mono E)) |>.mapped k9 m9
 have u:=Qa q;have a0:=q.blk.lt;have i:=q.lt;have B:=l.size;have F:=Qa l;have a6:s.d.size≤4096:=by obtain⟨m',hm⟩:=q.Ul;exact hm.sz.2
 have HN:=Qa (show ∀wy,Calls prog 56 #[.int .i64 s.d.size,.int .i64 b.length] wy fun e w'=>e=.returned (.int .i64 (Qf s.d.size b.length:Nat))∧wy=w' from fun wy=>JP s.d.size b.length (by omega) (by omega) wy)
 have v:=Qa (show ∀wy,Below wc.heap.size wc wy→Calls prog 105 #[.pointer (some ⟨m.M,0,none⟩),.int .i64 (Qf s.d.size b.length:Nat)] wy fun e w'=>Rc wy w' base m.M (et,(0,0),s.map) e from fun wy hy=>by
  have:=TM (u.o.below hy).map HK.o.map (Nat.le_trans i hy.size) (Qf s.d.size b.length) (IV _ _);rw[X.o]at this;exact this)
 have SK:=Qa (show ∀wy,Qd base [220] wc wy→wy.cell? ⟨w.heap.size,0,none⟩=some (.pointer (some ⟨Sb,0,none⟩))∧wy.cell? ⟨Sb,3,none⟩=some (.pointer (some ⟨m.M,0,none⟩))∧wy.cell? ⟨Sb,1,none⟩=some (.int .i64 s.d.size) from fun wy hy=>by
  have hh:=u.o.blk.keeps hy (by decide);exact⟨(Q.o _ ((Qd.Qe F.o j).trans (hy.mono nR (by simp)))).1,hh.cell 3,hh.cell 1⟩)
 clear q l;generalize Qf s.d.size b.length=nd at*
 go_upto_region 8 with fail;go_cut [9,10] (fun v9 v10 wx=>∃k,v9=.pointer (some ⟨k,0,none⟩)∧v10=.int .i64 et∧Qh wx k 140 #[.int .i64 0,.int .i64 0]∧w1.heap.size≤k∧QO wx base Sb s m∧Qd base [121,165,167,216,137,129,220] w1 wx)
 case first=>as_aux_lemma=>
  have kd:=Qa (Qd.Qe (base:=base) (ts:=[220]) bR.drew i);have bz:Below wc.heap.size wc (wc.alloc (.cells #[.int .i64 0,.int .i64 0] 140)).drew:=(bR.alloc nR _).drew;have BZ:=Qa bz;have kz:=Qa (Qd.Qe (base:=base) (ts:=[220]) bz i);obtain⟨d1,d2,d3⟩:=SK.o _ kd.o;obtain⟨d4,d5,d6⟩:=SK.o _ kz.o
  have ZA:=Qa (show ∀w4,Qd base [220] (wc.alloc (.cells #[.int .i64 0,.int .i64 0] 140)).drew w4→Qh w4 wc.heap.size 140 #[.int .i64 0,.int .i64 0]∧(Rt (.pointer (some ⟨wc.heap.size,0,none⟩)) (.agg #[.int .i64 0,.int .i64 0])).run prog w4=.ok () (w4.setRow wc.heap.size #[.int .i64 0,.int .i64 0]) from fun w4 hk=>by
   have hb:=(Qh.new wc 140 #[.int .i64 0,.int .i64 0]).drew.keeps hk (by decide);exact⟨hb,Ox hb rfl rfl (by simp[Value.oneCell'])⟩)
  have ZB:=Qa (show ∀w4:World,(Rt (.pointer (some ⟨w4.heap.size,0,none⟩)) (.agg #[.int .i64 0,.int .i64 0])).run prog (w4.alloc (.cells #[.int .i64 0,.int .i64 0] 140))=.ok () ((w4.alloc (.cells #[.int .i64 0,.int .i64 0] 140)).setRow w4.heap.size #[.int .i64 0,.int .i64 0]) from fun w4=>Ox (Qh.new w4 140 _) rfl rfl (by simp[Value.oneCell']));clear bz
  go_region_law (first
    |(go_at_call 56;refine(HN.o _).mono ?_;rintro en w' ⟨rfl,rfl⟩)
    |(go_at_call 105;refine(v.o _ BZ.o).mono ?_;rintro en w4 ⟨rfl,g,a,f⟩;(have p:=Qa g);(have y:=Qa f);(have K4:=Qa (kz.o.trans a));(have t:=Qa (ZA.o _ a));(have zs:=t.o.2);clear g a f)
    |(go_at_call 105;refine(v.o _ bR.drew).mono ?_;rintro en w4 ⟨rfl,g,a,f⟩;(have p:=Qa g);(have y:=Qa f);(have K4:=Qa (kd.o.trans a));(have zs:=ZB.o w4);clear g a f)
    |(go_simp;go_at_call 56;refine(HN.o _).mono ?_;rintro en w' ⟨rfl,rfl⟩)
    |(go_simp;go_at_call 105;refine(v.o _ BZ.o).mono ?_;rintro en w4 ⟨rfl,g,a,f⟩;(have p:=Qa g);(have y:=Qa f);(have K4:=Qa (kz.o.trans a));(have t:=Qa (ZA.o _ a));(have zs:=t.o.2);clear g a f)
    |(go_simp;go_at_call 105;refine(v.o _ bR.drew).mono ?_;rintro en w4 ⟨rfl,g,a,f⟩;(have p:=Qa g);(have y:=Qa f);(have K4:=Qa (kd.o.trans a));(have zs:=ZB.o w4);clear g a f))
  all_goals
   go_wp2_with fail;go_meet
  all_goals first
   | (have a7:=t.o.1
      have J:=Qm w4 wc.heap.size #[.int .i64 0,.int .i64 0];have I:=K4.o.U9 J i nR;have K:=u.o.map.lt
      have D:=p.o.Cy J (Nat.ne_of_lt K) (fun hne a1 n1 c1 h1=>by
       have W:Xf (wc.alloc (.cells #[.int .i64 0,.int .i64 0] 140)).drew m.M (· <wc.heap.size):=fun a2 n2 c2 h2=>u.o.map.E7 hne a2 n2 c2 ((BZ.o.cell K).symm.trans h2)
       rcases y.o _ W a1 n1 c1 h1 with h5|h5
       ·exact Nat.ne_of_lt h5
       simp at h5;omega)
      exact⟨wc.heap.size,rfl,rfl,Qp t.o.1 _,B,R I D,(Qd.Qe F.o j).trans (I.mono nR (by simp))⟩)
   | (have D:=R K4.o p.o
      have ba:Below w4.heap.size w4 ((w4.alloc (.cells #[.int .i64 0,.int .i64 0] 140)).setRow w4.heap.size #[.int .i64 0,.int .i64 0]):=(bR.alloc nR _).trans (Qg (Qm _ _ _) (by simp) (gB (by omega)));exact⟨w4.heap.size,rfl,rfl,Qp (Qh.new w4 140 _) _,Nat.le_trans B K4.o.below.size,D.below ba,((Qd.Qe F.o j).trans (K4.o.mono nR (by simp))).trans (Qd.Qe ba (Nat.le_trans i K4.o.below.size))⟩)
 obtain⟨k,rfl,rfl,Y,V,L,a⟩:=hcut;have a8:((et:Int) != 0)=true:=by simp;omega
 have O:=Qa (show QO wc base Sb s m∧Qt base m m w wc from ⟨L,(Qt.Qe (m:=m) r.o T).trans (Qt.of a (by simp))⟩);clear Y L a V;go_wp2_with fail;go_ret;exact⟨rfl,O.o⟩
end
end Go.Proofs.YtmgmfnimaafkdaaGreatDoor
