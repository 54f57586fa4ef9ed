/- The document's Open where a store can stand. -/
import Derived.Test.YtmgmfnimaafkdaaGreatDoorVP
import Derived.Lib.SlBytesConst
namespace Go.Proofs.YtmgmfnimaafkdaaGreatDoor
set_option maxRecDepth 100000
set_option maxHeartbeats 0
open Go.RowKit Go.Maps
open Tryz
def OT(w w':World)(base lo:Nat)(m m':JM)(q:Nat × QH × List Bool):Prop:=JN w' q.2.1 m'∧m'.M=m.M∧Yk w w' m m'∧Kr w' m.M lo q.2.2∧Qd base [236] w w'
variable {G base lo:Nat} {w w5 wy:World}
theorem Zd.lay{m m':JM}{q:Nat × QH × List Bool}(hb:Below w.heap.size w wy)(hG:Qh wy G 39 Ji)(hwG:w.heap.size≤G)(hbw:base≤w.heap.size)
  (h2:JN w5 q.2.1 m')(h3:m'.M=m.M)(h4:Yk wy w5 m m')(h5:Kr w5 m.M lo q.2.2)(h6:Qd base [236] wy w5):Qh w5 G 39 Ji∧OT w (w5.setRow G (Qr q.2.1 m')) base lo m m' q:=by
 have b:Qh w5 G 39 Ji:=hG.keeps h6 (by decide);have kr:=Q5 (ts:=[39]) b (by decide) (Qr q.2.1 m');refine⟨b,h2.keeps kr (by decide),h3, ?_,h5.keeps kr (by decide) (by decide), ?_⟩
 ·intro a ha;rcases h4 a ha with h|h
  ·exact .inl h
  exact .inr ⟨Nat.le_trans hb.size h.1,by simp;exact h.2⟩
 exact((Qd.Qe hb hbw).trans h6).fresh (Qm w5 G (Qr q.2.1 m')) (gB (by omega)) hbw
section
attribute [local go_sem ↓] VC VF
variable {r:QH}
theorem SP{m:JM}{q:Nat × QH × List Bool}(v n:Int)(sz b:Nat)(hsz:sz<65536)(hbw:base≤w.heap.size)
  (hcall:∀wy,Below w.heap.size w wy→Calls prog 79 #[.agg (Qr r m),.agg #[.int .i64 v,.int .i64 n]] wy fun e w'=>Zd wy w' base lo m q e):
  Calls prog 21 #[.agg (Qr r m),.agg (Jw 1 v n sz b)] w fun e w'=>∃m',e=.returned (.tuple #[.agg (Qr q.2.1 m'),.int .i64 q.1])∧OT w w' base lo m m' q:=by
 obtain⟨w1,a⟩:=eX (((w.alloc (.cells (Qr r m) 39)).alloc (.cells (Jw 1 v n sz b) 55)).alloc (.cells Ji 39));have HX:Qb (Qh w1 w.heap.size 39 (Qr r m)):=Qa (by rw[a];exact((Qh.new _ _ _).alloc _).alloc _);have HY:Qb (Qh w1 (w.heap.size+1) 55 (Jw 1 v n sz b)):=Qa (by rw[a];exact(Qh.Qz (by simp)).alloc _);have HG:Qb (Qh w1 (w.heap.size+2) 39 Ji):=Qa (by rw[a];exact Qh.Qz (by simp));have HB:Qb (Below w.heap.size w w1):=Qa (by rw[a];exact((bR.alloc nR _).alloc (by simp) _).alloc (by simp;omega) _);have a1:=Qa (fun wy=>Jq 1 v n sz b hsz wy);have h:=Qa hcall;clear hcall;obtain⟨ra,c⟩:=eX (Qr r m);have HR:Qb (ra.size=12∧ra.all (·.oneCell')=true):=Qa (by rw[c];exact⟨rfl,QX r m⟩);rw[←c]at HX h;have a0:=Qa c;go_enter func21,ntmps21;go_upto_region 1 with fail;rw[←a];clear a;have k:=HB.o.size;obtain⟨X,hX⟩:=eX w.heap.size;obtain⟨Y,hY⟩:=eX (w.heap.size+1);obtain⟨G,hG⟩:=eX (w.heap.size+2);have g:w.heap.size+1+1=G:=by omega
 try rw[g]
 try rw[←hG]
 rw[←hY,←hX,←c];rw[←hX]at HX;rw[←hY]at HY;rw[←hG]at HG;have j:w.heap.size≤G:=by omega
 have a4:G≠X:=by omega
 have a3:G≠Y:=by omega
 clear hX hG c hY g
 have SK:=Qa (show ∀wy,Below w1.heap.size w1 wy→(VQ (.pointer (some ⟨X,0,none⟩))).run prog wy=.ok (.agg ra) wy∧wy.cell? ⟨Y,0,none⟩=some (.int .i64 1)∧wy.cell? ⟨Y,1,none⟩=some (.int .i64 v)∧wy.cell? ⟨Y,2,none⟩=some (.int .i64 n)∧wy.cell? ⟨Y,3,none⟩=some (.int .u16 sz)∧wy.cell? ⟨Y,4,none⟩=some (.int .u8 b) from fun wy hy=>by
  have d:=HY.o.below hy HY.o.lt;exact⟨QG (HX.o.below hy HX.o.lt) HR.o.1,d.cell 0,d.cell 1,d.cell 2,d.cell 3,d.cell 4⟩)
 have S0:=Qa (SK.o _ bR.drew);obtain⟨l0,c0,c1,c2,c3,c4⟩:=SK.o _ bR;have yl:=HY.o.lt;have i:=Qa (fun wy (hy:Below w1.heap.size w1 wy) w5 m' h2 h3 h4 h5 h6=>Zd.lay (w:=w) (wy:=wy) (w5:=w5) (base:=base) (lo:=lo) (G:=G) (m:=m) (m':=m') (q:=q) (HB.o.trans (hy.mono k)) (HG.o.below hy HG.o.lt) j hbw h2 h3 h4 h5 h6);have HI:Qb ((prog.info? 39).map (·.size)=some ra.size):=Qa (by rw[HR.o.1];exact Jy);clear S0 SK;go_wp2_with (go_at_call 79;refine(h.o _ HB.o).mono ?_;rintro en w5 ⟨m',rfl,h2,h3,h4,h5,h6⟩;(have f:=Qa (i.o _ bR w5 m' h2 h3 h4 h5 h6));(have a2:=QY f.o.1 rfl (JK q.2.1 m') (QX q.2.1 m'));clear h2 h3 h4 h5 h6);refine bodyPost_ret (v:=.tuple #[.agg (Qr q.2.1 m'),.int .i64 q.1]) (Ql results21 _ _ G 39 _ (0,0) _ rfl (Qp f.o.1 _) underlying39 rfl Jy) rfl ?_;exact⟨m',rfl,f.o.2⟩
theorem RS{m:JM}{q:Nat × QH × List Bool}(v n:Int)(sz b:Nat)(hsz:sz<65536)(hbw:base≤w.heap.size)
  (hcall:∀wy,Below w.heap.size w wy→Calls prog 82 #[.agg (Qr r m),.int .i64 v] wy fun e w'=>Zd wy w' base lo m q e):
  Calls prog 21 #[.agg (Qr r m),.agg (Jw 4 v n sz b)] w fun e w'=>∃m',e=.returned (.tuple #[.agg (Qr q.2.1 m'),.int .i64 q.1])∧OT w w' base lo m m' q:=by
 obtain⟨w1,a⟩:=eX (((w.alloc (.cells (Qr r m) 39)).alloc (.cells (Jw 4 v n sz b) 55)).alloc (.cells Ji 39));have HX:Qb (Qh w1 w.heap.size 39 (Qr r m)):=Qa (by rw[a];exact((Qh.new _ _ _).alloc _).alloc _);have HY:Qb (Qh w1 (w.heap.size+1) 55 (Jw 4 v n sz b)):=Qa (by rw[a];exact(Qh.Qz (by simp)).alloc _);have HG:Qb (Qh w1 (w.heap.size+2) 39 Ji):=Qa (by rw[a];exact Qh.Qz (by simp));have HB:Qb (Below w.heap.size w w1):=Qa (by rw[a];exact((bR.alloc nR _).alloc (by simp) _).alloc (by simp;omega) _);have a1:=Qa (fun wy=>Jq 4 v n sz b hsz wy);have h:=Qa hcall;clear hcall;obtain⟨ra,c⟩:=eX (Qr r m);have HR:Qb (ra.size=12∧ra.all (·.oneCell')=true):=Qa (by rw[c];exact⟨rfl,QX r m⟩);rw[←c]at HX h;have a0:=Qa c;go_enter func21,ntmps21;go_upto_region 1 with fail;rw[←a];clear a;have k:=HB.o.size;obtain⟨X,hX⟩:=eX w.heap.size;obtain⟨Y,hY⟩:=eX (w.heap.size+1);obtain⟨G,hG⟩:=eX (w.heap.size+2);have g:w.heap.size+1+1=G:=by omega
 try rw[g]
 try rw[←hG]
 rw[←hY,←hX,←c];rw[←hX]at HX;rw[←hY]at HY;rw[←hG]at HG;have j:w.heap.size≤G:=by omega
 have a4:G≠X:=by omega
 have a3:G≠Y:=by omega
 clear hX hG c hY g
 have SK:=Qa (show ∀wy,Below w1.heap.size w1 wy→(VQ (.pointer (some ⟨X,0,none⟩))).run prog wy=.ok (.agg ra) wy∧wy.cell? ⟨Y,0,none⟩=some (.int .i64 4)∧wy.cell? ⟨Y,1,none⟩=some (.int .i64 v)∧wy.cell? ⟨Y,2,none⟩=some (.int .i64 n)∧wy.cell? ⟨Y,3,none⟩=some (.int .u16 sz)∧wy.cell? ⟨Y,4,none⟩=some (.int .u8 b) from fun wy hy=>by
  have d:=HY.o.below hy HY.o.lt;exact⟨QG (HX.o.below hy HX.o.lt) HR.o.1,d.cell 0,d.cell 1,d.cell 2,d.cell 3,d.cell 4⟩)
 have S0:=Qa (SK.o _ bR.drew);obtain⟨l0,c0,c1,c2,c3,c4⟩:=SK.o _ bR;have yl:=HY.o.lt;have i:=Qa (fun wy (hy:Below w1.heap.size w1 wy) w5 m' h2 h3 h4 h5 h6=>Zd.lay (w:=w) (wy:=wy) (w5:=w5) (base:=base) (lo:=lo) (G:=G) (m:=m) (m':=m') (q:=q) (HB.o.trans (hy.mono k)) (HG.o.below hy HG.o.lt) j hbw h2 h3 h4 h5 h6);have HI:Qb ((prog.info? 39).map (·.size)=some ra.size):=Qa (by rw[HR.o.1];exact Jy);clear S0 SK;go_wp2_with (go_at_call 82;refine(h.o _ HB.o).mono ?_;rintro en w5 ⟨m',rfl,h2,h3,h4,h5,h6⟩;(have f:=Qa (i.o _ bR w5 m' h2 h3 h4 h5 h6));(have a2:=QY f.o.1 rfl (JK q.2.1 m') (QX q.2.1 m'));clear h2 h3 h4 h5 h6);refine bodyPost_ret (v:=.tuple #[.agg (Qr q.2.1 m'),.int .i64 q.1]) (Ql results21 _ _ G 39 _ (0,0) _ rfl (Qp f.o.1 _) underlying39 rfl Jy) rfl ?_;exact⟨m',rfl,f.o.2⟩
theorem Np{m:JM}{q:Nat × QH × List Bool}(v n:Int)(sz b:Nat)(hsz:sz<65536)(hbw:base≤w.heap.size)
  (hcall:∀wy A c,Below w.heap.size w wy→Kb wy A (QU sz b)→(QU sz b).length≤c→Calls prog 78 #[.agg (Qr r m),.agg #[.int .i64 v,.int .i64 n],.slice A (QU sz b).length c] wy fun e w'=>Zd wy w' base lo m q e):
  Calls prog 21 #[.agg (Qr r m),.agg (Jw 0 v n sz b)] w fun e w'=>∃m',e=.returned (.tuple #[.agg (Qr q.2.1 m'),.int .i64 q.1])∧OT w w' base lo m m' q:=by
 obtain⟨w1,a⟩:=eX (((w.alloc (.cells (Qr r m) 39)).alloc (.cells (Jw 0 v n sz b) 55)).alloc (.cells Ji 39));have HX:Qb (Qh w1 w.heap.size 39 (Qr r m)):=Qa (by rw[a];exact((Qh.new _ _ _).alloc _).alloc _);have HY:Qb (Qh w1 (w.heap.size+1) 55 (Jw 0 v n sz b)):=Qa (by rw[a];exact(Qh.Qz (by simp)).alloc _);have HG:Qb (Qh w1 (w.heap.size+2) 39 Ji):=Qa (by rw[a];exact Qh.Qz (by simp));have HB:Qb (Below w.heap.size w w1):=Qa (by rw[a];exact((bR.alloc nR _).alloc (by simp) _).alloc (by simp;omega) _);have y:=Qa (fun wy=>Jq 0 v n sz b hsz wy);have s:=Qa hcall;clear hcall;obtain⟨ra,d⟩:=eX (Qr r m);have HR:Qb (ra.size=12∧ra.all (·.oneCell')=true):=Qa (by rw[d];exact⟨rfl,QX r m⟩);rw[←d]at HX s;have a0:=Qa d;go_enter func21,ntmps21;go_upto_region 1 with fail;rw[←a];clear a;have j:=HB.o.size;obtain⟨X,hX⟩:=eX w.heap.size;obtain⟨Y,hY⟩:=eX (w.heap.size+1);obtain⟨G,hG⟩:=eX (w.heap.size+2);have p:w.heap.size+1+1=G:=by omega
 try rw[p]
 try rw[←hG]
 rw[←hY,←hX,←d];rw[←hX]at HX;rw[←hY]at HY;rw[←hG]at HG;have u:w.heap.size≤G:=by omega
 have C:G≠X:=by omega
 have B:G≠Y:=by omega
 clear hX hG d hY p
 have SK:=Qa (show ∀wy,Below w1.heap.size w1 wy→(VQ (.pointer (some ⟨X,0,none⟩))).run prog wy=.ok (.agg ra) wy∧wy.cell? ⟨Y,0,none⟩=some (.int .i64 0)∧wy.cell? ⟨Y,1,none⟩=some (.int .i64 v)∧wy.cell? ⟨Y,2,none⟩=some (.int .i64 n)∧wy.cell? ⟨Y,3,none⟩=some (.int .u16 sz)∧wy.cell? ⟨Y,4,none⟩=some (.int .u8 b) from fun wy hy=>by
  have f:=HY.o.below hy HY.o.lt;exact⟨QG (HX.o.below hy HX.o.lt) HR.o.1,f.cell 0,f.cell 1,f.cell 2,f.cell 3,f.cell 4⟩)
 have S0:=Qa (SK.o _ bR.drew);obtain⟨l0,c0,c1,c2,c3,c4⟩:=SK.o _ bR;have yl:=HY.o.lt;have t:=Qa (fun wy (hy:Below w1.heap.size w1 wy) w5 m' h2 h3 h4 h5 h6=>Zd.lay (w:=w) (wy:=wy) (w5:=w5) (base:=base) (lo:=lo) (G:=G) (m:=m) (m':=m') (q:=q) (HB.o.trans (hy.mono j)) (HG.o.below hy HG.o.lt) u hbw h2 h3 h4 h5 h6);have HI:Qb ((prog.info? 39).map (·.size)=some ra.size):=Qa (by rw[HR.o.1];exact Jy);go_upto_region 3 with fail;clear l0 c0 c1 c2 c3 c4
 go_region_held3 (fun wy=>(VQ (.pointer (some ⟨X,0,none⟩))).run prog wy=.ok (.agg ra) wy∧wy.cell? ⟨Y,0,none⟩=some (.int .i64 0)∧wy.cell? ⟨Y,1,none⟩=some (.int .i64 v)∧wy.cell? ⟨Y,2,none⟩=some (.int .i64 n)∧wy.cell? ⟨Y,3,none⟩=some (.int .u16 sz)∧wy.cell? ⟨Y,4,none⟩=some (.int .u8 b))
  (first|exact S0.o|exact S9.o|exact S5.o|exact SK.o _ g.o)
  (first
   |(go_at_call 38;refine(y.o _).mono ?_;rintro en w3 ⟨A,c,rfl,hy,k,hb⟩;(have g:Qb (Below w1.heap.size w1 w3):=bR.drew.trans hb);skip;(have x:=Qa hy);(have z:=Qa k);clear hy k hb)
   |(go_at_call 78;refine(s.o _ A c (HB.o.trans (g.o.mono j)) x.o z.o).mono ?_;rintro en w5 ⟨m',rfl,h2,h3,h4,h5,h6⟩;(have h:=Qa (t.o _ g.o w5 m' h2 h3 h4 h5 h6));(have a1:=QY h.o.1 rfl (JK q.2.1 m') (QX q.2.1 m'));(have i:=HX.o.below g.o HX.o.lt);(have l:=HY.o.below g.o HY.o.lt);(have X5:=Qa (i.keeps h6 (by decide)));(have Y5:=Qa (l.keeps h6 (by decide)));(have S5:=Qa (And.intro (QG X5.o HR.o.1) (And.intro (Y5.o.cell 0) (And.intro (Y5.o.cell 1) (And.intro (Y5.o.cell 2) (And.intro (Y5.o.cell 3) (Y5.o.cell 4)))))));(have Y9:=Qa (Y5.o.Km (fun e=>B e.symm) (Qr q.2.1 m')));(have S9:=Qa (And.intro (QG (X5.o.Km (fun e=>C e.symm) (Qr q.2.1 m')) HR.o.1) (And.intro (Y9.o.cell 0) (And.intro (Y9.o.cell 1) (And.intro (Y9.o.cell 2) (And.intro (Y9.o.cell 3) (Y9.o.cell 4)))))));clear h2 h3 h4 h5 h6 i l))
 all_goals
   go_wp2_with fail;refine bodyPost_ret (v:=.tuple #[.agg (Qr q.2.1 m'),.int .i64 q.1]) (Ql results21 _ _ G 39 _ (0,0) _ rfl (Qp h.o.1 _) underlying39 rfl Jy) rfl ?_;exact⟨m',rfl,h.o.2⟩
theorem PO{m:JM}{q:Nat × QH × List Bool}(v n:Int)(sz b:Nat)(hsz:sz<65536)(hbw:base≤w.heap.size)
  (hcall:∀wy,Below w.heap.size w wy→Calls prog 80 #[.agg (Qr r m),.int .i64 v,Qw (QU sz b)] wy fun e w'=>Zd wy w' base lo m q e):
  Calls prog 21 #[.agg (Qr r m),.agg (Jw 2 v n sz b)] w fun e w'=>∃m',e=.returned (.tuple #[.agg (Qr q.2.1 m'),.int .i64 q.1])∧OT w w' base lo m m' q:=by
 obtain⟨w1,a⟩:=eX (((w.alloc (.cells (Qr r m) 39)).alloc (.cells (Jw 2 v n sz b) 55)).alloc (.cells Ji 39));have HX:Qb (Qh w1 w.heap.size 39 (Qr r m)):=Qa (by rw[a];exact((Qh.new _ _ _).alloc _).alloc _);have HY:Qb (Qh w1 (w.heap.size+1) 55 (Jw 2 v n sz b)):=Qa (by rw[a];exact(Qh.Qz (by simp)).alloc _);have HG:Qb (Qh w1 (w.heap.size+2) 39 Ji):=Qa (by rw[a];exact Qh.Qz (by simp));have HB:Qb (Below w.heap.size w w1):=Qa (by rw[a];exact((bR.alloc nR _).alloc (by simp) _).alloc (by simp;omega) _);have p:=Qa (fun wy=>Jq 2 v n sz b hsz wy);have k:=Qa hcall;clear hcall;obtain⟨ra,f⟩:=eX (Qr r m);have HR:Qb (ra.size=12∧ra.all (·.oneCell')=true):=Qa (by rw[f];exact⟨rfl,QX r m⟩);rw[←f]at HX k;have a0:=Qa f;go_enter func21,ntmps21;go_upto_region 1 with fail;rw[←a];clear a;have i:=HB.o.size;obtain⟨X,hX⟩:=eX w.heap.size;obtain⟨Y,hY⟩:=eX (w.heap.size+1);obtain⟨G,hG⟩:=eX (w.heap.size+2);have s:w.heap.size+1+1=G:=by omega
 try rw[s]
 try rw[←hG]
 rw[←hY,←hX,←f];rw[←hX]at HX;rw[←hY]at HY;rw[←hG]at HG;have t:w.heap.size≤G:=by omega
 have a2:G≠X:=by omega
 have a1:G≠Y:=by omega
 clear hX hG f hY s
 have SK:=Qa (show ∀wy,Below w1.heap.size w1 wy→(VQ (.pointer (some ⟨X,0,none⟩))).run prog wy=.ok (.agg ra) wy∧wy.cell? ⟨Y,0,none⟩=some (.int .i64 2)∧wy.cell? ⟨Y,1,none⟩=some (.int .i64 v)∧wy.cell? ⟨Y,2,none⟩=some (.int .i64 n)∧wy.cell? ⟨Y,3,none⟩=some (.int .u16 sz)∧wy.cell? ⟨Y,4,none⟩=some (.int .u8 b) from fun wy hy=>by
  have g:=HY.o.below hy HY.o.lt;exact⟨QG (HX.o.below hy HX.o.lt) HR.o.1,g.cell 0,g.cell 1,g.cell 2,g.cell 3,g.cell 4⟩)
 have S0:=Qa (SK.o _ bR.drew);obtain⟨l0,c0,c1,c2,c3,c4⟩:=SK.o _ bR;have yl:=HY.o.lt;have l:=Qa (fun wy (hy:Below w1.heap.size w1 wy) w5 m' h2 h3 h4 h5 h6=>Zd.lay (w:=w) (wy:=wy) (w5:=w5) (base:=base) (lo:=lo) (G:=G) (m:=m) (m':=m') (q:=q) (HB.o.trans (hy.mono i)) (HG.o.below hy HG.o.lt) t hbw h2 h3 h4 h5 h6);have HI:Qb ((prog.info? 39).map (·.size)=some ra.size):=Qa (by rw[HR.o.1];exact Jy);go_upto_region 7 with fail;clear l0 c0 c1 c2 c3 c4;obtain⟨f9,f0,f1,f2,f3,f4⟩:=S0.o
 go_region_law (first
   |(go_at_call 38;refine(p.o _).mono ?_;rintro en w3 ⟨A,c,rfl,hy,j,hb⟩;(have d:Qb (Below w1.heap.size w1 w3):=bR.drew.trans hb);(have u:=Kj w3 A c _ hy);(obtain⟨d9,d0,d1,d2,d3,d4⟩:=SK.o _ d.o);clear hy j hb)
   |(go_simp;go_at_call 38;refine(p.o _).mono ?_;rintro en w3 ⟨A,c,rfl,hy,j,hb⟩;(have d:Qb (Below w1.heap.size w1 w3):=bR.drew.trans hb);(have u:=Kj w3 A c _ hy);(obtain⟨d9,d0,d1,d2,d3,d4⟩:=SK.o _ d.o);clear hy j hb)
   |(go_at_call 80;refine(k.o _ (HB.o.trans (d.o.mono i))).mono ?_;rintro en w5 ⟨m',rfl,h2,h3,h4,h5,h6⟩;(have h:=Qa (l.o _ d.o w5 m' h2 h3 h4 h5 h6));(have x:=QY h.o.1 rfl (JK q.2.1 m') (QX q.2.1 m'));clear h2 h3 h4 h5 h6)
   |(go_simp;go_at_call 80;refine(k.o _ (HB.o.trans (d.o.mono i))).mono ?_;rintro en w5 ⟨m',rfl,h2,h3,h4,h5,h6⟩;(have h:=Qa (l.o _ d.o w5 m' h2 h3 h4 h5 h6));(have x:=QY h.o.1 rfl (JK q.2.1 m') (QX q.2.1 m'));clear h2 h3 h4 h5 h6))
 all_goals
   go_wp2_with fail;refine bodyPost_ret (v:=.tuple #[.agg (Qr q.2.1 m'),.int .i64 q.1]) (Ql results21 _ _ G 39 _ (0,0) _ rfl (Qp h.o.1 _) underlying39 rfl Jy) rfl ?_;exact⟨m',rfl,h.o.2⟩
theorem Po{m:JM}{q:Nat × QH × List Bool}(v n:Int)(sz b:Nat)(hsz:sz<65536)(hbw:base≤w.heap.size)
  (hcall:∀wy,Below w.heap.size w wy→Calls prog 81 #[.agg (Qr r m),Qw (QU sz b)] wy fun e w'=>Zd wy w' base lo m q e):
  Calls prog 21 #[.agg (Qr r m),.agg (Jw 3 v n sz b)] w fun e w'=>∃m',e=.returned (.tuple #[.agg (Qr q.2.1 m'),.int .i64 q.1])∧OT w w' base lo m m' q:=by
 obtain⟨w1,a⟩:=eX (((w.alloc (.cells (Qr r m) 39)).alloc (.cells (Jw 3 v n sz b) 55)).alloc (.cells Ji 39));have HX:Qb (Qh w1 w.heap.size 39 (Qr r m)):=Qa (by rw[a];exact((Qh.new _ _ _).alloc _).alloc _);have HY:Qb (Qh w1 (w.heap.size+1) 55 (Jw 3 v n sz b)):=Qa (by rw[a];exact(Qh.Qz (by simp)).alloc _);have HG:Qb (Qh w1 (w.heap.size+2) 39 Ji):=Qa (by rw[a];exact Qh.Qz (by simp));have HB:Qb (Below w.heap.size w w1):=Qa (by rw[a];exact((bR.alloc nR _).alloc (by simp) _).alloc (by simp;omega) _);have p:=Qa (fun wy=>Jq 3 v n sz b hsz wy);have k:=Qa hcall;clear hcall;obtain⟨ra,f⟩:=eX (Qr r m);have HR:Qb (ra.size=12∧ra.all (·.oneCell')=true):=Qa (by rw[f];exact⟨rfl,QX r m⟩);rw[←f]at HX k;have a0:=Qa f;go_enter func21,ntmps21;go_upto_region 1 with fail;rw[←a];clear a;have i:=HB.o.size;obtain⟨X,hX⟩:=eX w.heap.size;obtain⟨Y,hY⟩:=eX (w.heap.size+1);obtain⟨G,hG⟩:=eX (w.heap.size+2);have s:w.heap.size+1+1=G:=by omega
 try rw[s]
 try rw[←hG]
 rw[←hY,←hX,←f];rw[←hX]at HX;rw[←hY]at HY;rw[←hG]at HG;have t:w.heap.size≤G:=by omega
 have a2:G≠X:=by omega
 have a1:G≠Y:=by omega
 clear hX hG f hY s
 have SK:=Qa (show ∀wy,Below w1.heap.size w1 wy→(VQ (.pointer (some ⟨X,0,none⟩))).run prog wy=.ok (.agg ra) wy∧wy.cell? ⟨Y,0,none⟩=some (.int .i64 3)∧wy.cell? ⟨Y,1,none⟩=some (.int .i64 v)∧wy.cell? ⟨Y,2,none⟩=some (.int .i64 n)∧wy.cell? ⟨Y,3,none⟩=some (.int .u16 sz)∧wy.cell? ⟨Y,4,none⟩=some (.int .u8 b) from fun wy hy=>by
  have g:=HY.o.below hy HY.o.lt;exact⟨QG (HX.o.below hy HX.o.lt) HR.o.1,g.cell 0,g.cell 1,g.cell 2,g.cell 3,g.cell 4⟩)
 have S0:=Qa (SK.o _ bR.drew);obtain⟨l0,c0,c1,c2,c3,c4⟩:=SK.o _ bR;have yl:=HY.o.lt;have l:=Qa (fun wy (hy:Below w1.heap.size w1 wy) w5 m' h2 h3 h4 h5 h6=>Zd.lay (w:=w) (wy:=wy) (w5:=w5) (base:=base) (lo:=lo) (G:=G) (m:=m) (m':=m') (q:=q) (HB.o.trans (hy.mono i)) (HG.o.below hy HG.o.lt) t hbw h2 h3 h4 h5 h6);have HI:Qb ((prog.info? 39).map (·.size)=some ra.size):=Qa (by rw[HR.o.1];exact Jy);go_upto_region 9 with fail;clear l0 c0 c1 c2 c3 c4;obtain⟨f9,f0,f1,f2,f3,f4⟩:=S0.o
 go_region_law (first
   |(go_at_call 38;refine(p.o _).mono ?_;rintro en w3 ⟨A,c,rfl,hy,j,hb⟩;(have d:Qb (Below w1.heap.size w1 w3):=bR.drew.trans hb);(have u:=Kj w3 A c _ hy);(obtain⟨d9,d0,d1,d2,d3,d4⟩:=SK.o _ d.o);clear hy j hb)
   |(go_simp;go_at_call 38;refine(p.o _).mono ?_;rintro en w3 ⟨A,c,rfl,hy,j,hb⟩;(have d:Qb (Below w1.heap.size w1 w3):=bR.drew.trans hb);(have u:=Kj w3 A c _ hy);(obtain⟨d9,d0,d1,d2,d3,d4⟩:=SK.o _ d.o);clear hy j hb)
   |(go_at_call 81;refine(k.o _ (HB.o.trans (d.o.mono i))).mono ?_;rintro en w5 ⟨m',rfl,h2,h3,h4,h5,h6⟩;(have h:=Qa (l.o _ d.o w5 m' h2 h3 h4 h5 h6));(have x:=QY h.o.1 rfl (JK q.2.1 m') (QX q.2.1 m'));clear h2 h3 h4 h5 h6)
   |(go_simp;go_at_call 81;refine(k.o _ (HB.o.trans (d.o.mono i))).mono ?_;rintro en w5 ⟨m',rfl,h2,h3,h4,h5,h6⟩;(have h:=Qa (l.o _ d.o w5 m' h2 h3 h4 h5 h6));(have x:=QY h.o.1 rfl (JK q.2.1 m') (QX q.2.1 m'));clear h2 h3 h4 h5 h6))
 all_goals
   go_wp2_with fail;refine bodyPost_ret (v:=.tuple #[.agg (Qr q.2.1 m'),.int .i64 q.1]) (Ql results21 _ _ G 39 _ (0,0) _ rfl (Qp h.o.1 _) underlying39 rfl Jy) rfl ?_;exact⟨m',rfl,h.o.2⟩
theorem SU{m:JM}{q:Nat × QH × List Bool}(v n:Int)(sz b:Nat)(hsz:sz<65536)(hbw:base≤w.heap.size)
  (hcall:∀wy,Below w.heap.size w wy→Calls prog 83 #[.agg (Qr r m),.int .i64 (((sz%8:Nat):Int)-1)] wy fun e w'=>Zd wy w' base lo m q e):
  Calls prog 21 #[.agg (Qr r m),.agg (Jw 5 v n sz b)] w fun e w'=>∃m',e=.returned (.tuple #[.agg (Qr q.2.1 m'),.int .i64 q.1])∧OT w w' base lo m m' q:=by
 obtain⟨w1,a⟩:=eX (((w.alloc (.cells (Qr r m) 39)).alloc (.cells (Jw 5 v n sz b) 55)).alloc (.cells Ji 39));have HX:Qb (Qh w1 w.heap.size 39 (Qr r m)):=Qa (by rw[a];exact((Qh.new _ _ _).alloc _).alloc _);have HY:Qb (Qh w1 (w.heap.size+1) 55 (Jw 5 v n sz b)):=Qa (by rw[a];exact(Qh.Qz (by simp)).alloc _);have HG:Qb (Qh w1 (w.heap.size+2) 39 Ji):=Qa (by rw[a];exact Qh.Qz (by simp));have HB:Qb (Below w.heap.size w w1):=Qa (by rw[a];exact((bR.alloc nR _).alloc (by simp) _).alloc (by simp;omega) _);have a1:=Qa (fun wy=>Jq 5 v n sz b hsz wy);have h:=Qa hcall;clear hcall;obtain⟨ra,c⟩:=eX (Qr r m);have HR:Qb (ra.size=12∧ra.all (·.oneCell')=true):=Qa (by rw[c];exact⟨rfl,QX r m⟩);rw[←c]at HX h;have a0:=Qa c;go_enter func21,ntmps21;go_upto_region 1 with fail;rw[←a];clear a;have k:=HB.o.size;obtain⟨X,hX⟩:=eX w.heap.size;obtain⟨Y,hY⟩:=eX (w.heap.size+1);obtain⟨G,hG⟩:=eX (w.heap.size+2);have g:w.heap.size+1+1=G:=by omega
 try rw[g]
 try rw[←hG]
 rw[←hY,←hX,←c];rw[←hX]at HX;rw[←hY]at HY;rw[←hG]at HG;have j:w.heap.size≤G:=by omega
 have a4:G≠X:=by omega
 have a3:G≠Y:=by omega
 clear hX hG c hY g
 have SK:=Qa (show ∀wy,Below w1.heap.size w1 wy→(VQ (.pointer (some ⟨X,0,none⟩))).run prog wy=.ok (.agg ra) wy∧wy.cell? ⟨Y,0,none⟩=some (.int .i64 5)∧wy.cell? ⟨Y,1,none⟩=some (.int .i64 v)∧wy.cell? ⟨Y,2,none⟩=some (.int .i64 n)∧wy.cell? ⟨Y,3,none⟩=some (.int .u16 sz)∧wy.cell? ⟨Y,4,none⟩=some (.int .u8 b) from fun wy hy=>by
  have d:=HY.o.below hy HY.o.lt;exact⟨QG (HX.o.below hy HX.o.lt) HR.o.1,d.cell 0,d.cell 1,d.cell 2,d.cell 3,d.cell 4⟩)
 have S0:=Qa (SK.o _ bR.drew);obtain⟨l0,c0,c1,c2,c3,c4⟩:=SK.o _ bR;have yl:=HY.o.lt;have i:=Qa (fun wy (hy:Below w1.heap.size w1 wy) w5 m' h2 h3 h4 h5 h6=>Zd.lay (w:=w) (wy:=wy) (w5:=w5) (base:=base) (lo:=lo) (G:=G) (m:=m) (m':=m') (q:=q) (HB.o.trans (hy.mono k)) (HG.o.below hy HG.o.lt) j hbw h2 h3 h4 h5 h6);have HI:Qb ((prog.info? 39).map (·.size)=some ra.size):=Qa (by rw[HR.o.1];exact Jy);clear S0 SK;go_wp2_with (go_at_call 83;refine(h.o _ HB.o).mono ?_;rintro en w5 ⟨m',rfl,h2,h3,h4,h5,h6⟩;(have f:=Qa (i.o _ bR w5 m' h2 h3 h4 h5 h6));(have a2:=QY f.o.1 rfl (JK q.2.1 m') (QX q.2.1 m'));clear h2 h3 h4 h5 h6);refine bodyPost_ret (v:=.tuple #[.agg (Qr q.2.1 m'),.int .i64 q.1]) (Ql results21 _ _ G 39 _ (0,0) _ rfl (Qp f.o.1 _) underlying39 rfl Jy) rfl ?_;exact⟨m',rfl,f.o.2⟩
theorem N7{m:JM}{q:Nat × QH × List Bool}(k v n:Int)(sz b:Nat)(hsz:sz<65536)(hbw:base≤w.heap.size)
  (k0:k≠0)(k1:k≠1)(k2:k≠2)(k3:k≠3)(k4:k≠4)(k5:k≠5)(h:JN w r m)(hF:Kr w m.M lo q.2.2)(hq:q=(0,r,q.2.2)):
  Calls prog 21 #[.agg (Qr r m),.agg (Jw k v n sz b)] w fun e w'=>∃m',e=.returned (.tuple #[.agg (Qr q.2.1 m'),.int .i64 q.1])∧OT w w' base lo m m' q:=by
 obtain⟨w1,a⟩:=eX (((w.alloc (.cells (Qr r m) 39)).alloc (.cells (Jw k v n sz b) 55)).alloc (.cells Ji 39));have HX:Qb (Qh w1 w.heap.size 39 (Qr r m)):=Qa (by rw[a];exact((Qh.new _ _ _).alloc _).alloc _);have HY:Qb (Qh w1 (w.heap.size+1) 55 (Jw k v n sz b)):=Qa (by rw[a];exact(Qh.Qz (by simp)).alloc _);have HG:Qb (Qh w1 (w.heap.size+2) 39 Ji):=Qa (by rw[a];exact Qh.Qz (by simp));have HB:Qb (Below w.heap.size w w1):=Qa (by rw[a];exact((bR.alloc nR _).alloc (by simp) _).alloc (by simp;omega) _);have a0:=Qa (fun wy=>Jq k v n sz b hsz wy);have HS:=Qa (h.below HB.o);have p:=Qa (hF.below HB.o);have HQ:=Qa hq;clear h hF hq;obtain⟨ra,c⟩:=eX (Qr r m);have HR:Qb (ra.size=12∧ra.all (·.oneCell')=true):=Qa (by rw[c];exact⟨rfl,QX r m⟩);rw[←c]at HX;have i:=Qa c;go_enter func21,ntmps21;go_upto_region 1 with fail;rw[←a];clear a;have l:=HB.o.size;obtain⟨X,hX⟩:=eX w.heap.size;obtain⟨Y,hY⟩:=eX (w.heap.size+1);obtain⟨G,hG⟩:=eX (w.heap.size+2);have f:w.heap.size+1+1=G:=by omega
 try rw[f]
 try rw[←hG]
 rw[←hY,←hX,←c];rw[←hX]at HX;rw[←hY]at HY;rw[←hG]at HG;have j:w.heap.size≤G:=by omega
 have a3:G≠X:=by omega
 have a2:G≠Y:=by omega
 clear hX hG c hY f
 have SK:=Qa (show ∀wy,Below w1.heap.size w1 wy→(VQ (.pointer (some ⟨X,0,none⟩))).run prog wy=.ok (.agg ra) wy∧wy.cell? ⟨Y,0,none⟩=some (.int .i64 k)∧wy.cell? ⟨Y,1,none⟩=some (.int .i64 v)∧wy.cell? ⟨Y,2,none⟩=some (.int .i64 n)∧wy.cell? ⟨Y,3,none⟩=some (.int .u16 sz)∧wy.cell? ⟨Y,4,none⟩=some (.int .u8 b) from fun wy hy=>by
  have d:=HY.o.below hy HY.o.lt;exact⟨QG (HX.o.below hy HX.o.lt) HR.o.1,d.cell 0,d.cell 1,d.cell 2,d.cell 3,d.cell 4⟩)
 have S0:=Qa (SK.o _ bR.drew);obtain⟨l0,c0,c1,c2,c3,c4⟩:=SK.o _ bR;have yl:=HY.o.lt;have g:=Qa (fun wy (hy:Below w1.heap.size w1 wy) w5 m' h2 h3 h4 h5 h6=>Zd.lay (w:=w) (wy:=wy) (w5:=w5) (base:=base) (lo:=lo) (G:=G) (m:=m) (m':=m') (q:=q) (HB.o.trans (hy.mono l)) (HG.o.below hy HG.o.lt) j hbw h2 h3 h4 h5 h6);have HI:Qb ((prog.info? 39).map (·.size)=some ra.size):=Qa (by rw[HR.o.1];exact Jy);have e0:decide (k=0)=false:=decide_eq_false k0;have e1:decide (k=1)=false:=decide_eq_false k1;have e2:decide (k=2)=false:=decide_eq_false k2;have e3:decide (k=3)=false:=decide_eq_false k3;have e4:decide (k=4)=false:=decide_eq_false k4;have e5:decide (k=5)=false:=decide_eq_false k5;have a1:=QY HG.o rfl HR.o.1 HR.o.2;clear S0 SK g;go_wp2_with fail;refine bodyPost_ret (v:=.tuple #[.agg ra,.int .i64 0]) (Ql results21 _ _ G 39 _ (0,0) _ rfl (Qp HG.o _) underlying39 rfl HI.o) rfl ?_;have hq:=HQ.o;have kr:=Q5 (ts:=[39]) HG.o (by decide) ra;refine⟨m,by rw[hq,i.o];rfl, ?_,rfl,Yk.same rfl,p.o.keeps kr (by decide) (by decide),(Qd.Qe HB.o hbw).fresh (Qm _ G ra) (gB (by omega)) hbw⟩;rw[hq];exact HS.o.keeps kr (by decide)
end
variable {F:List Bool} {K:Nat} {r:QH} {s:QM} {ts:List (Qj × List UInt8)}
theorem QW.slice(h:QW s lo K ts r F){x:V4}(hx:x∈r.Qc):DT x∧lo≤x.at'∧x.at'≤65536:=by
 obtain⟨y,hy,e1,e2,e3,e4⟩:=h.V9.d.Qc.mem' x hx;obtain⟨t,ht,f1,g⟩:=h.all.side.mem y hy;obtain⟨a,mk,g1,_,g3,g4,g5⟩:=g.Bq;have hr:=h.all.right y hy;have hf:=h.all.Yp;have h6:=g.Yp;rw[g1]at e2 e3 e4;simp only at e2 e3 e4;rw[e1]at hr;have ha:a=x.at':=by omega
 exact⟨⟨hr.1,hr.2,by omega,by omega,by omega⟩,by omega,by omega⟩
theorem QW.refs(h:QW s lo K ts r F)(hK:K≤60):Ya r∧XV r∧U4 r lo F∧r.Qc.length≤100000∧r.notes.length≤60∧r.marks.length≤60∧r.ep<1099511627776∧r.QA<1048575∧19≤r.size∧r.size≤4096:=by
 have hn:r.notes.length≤60:=by rw[h.V9.d.notes];exact Nat.le_trans h.nt hK
 have hm:r.marks.length≤60:=by rw[h.V9.d.marks];exact Nat.le_trans h.mr hK
 have hs:r.Qc.length≤60:=by
  have e:r.Qc.length=ts.length:=by rw[←h.Xv];simp
  have:=h.Yp;omega
 have hz:r.size=s.d.size:=h.V9.l.size.trans h.all.log.sz;have hh:r.half=s.log.half:=h.V9.l.half;have a0:r.ep=s.log.epoch:=h.V9.l.ep;have he:=h.all.ep;have h1:=h.all.log.s1;have h2:=h.all.log.s2;have h3:=h.all.log.half;have h4:=h.all.log.lo;have h5:=h.all.Yp;have h6:r.Qo.length=s.log.Qo.length:=by
  have:=congrArg List.length h.V9.l.lens;simpa using this
 have h7:=h.rc;have h8:F.length=s.d.Qk.length-lo:=h.mp.len.trans h.all.map.QJ;have h9:r.QA=s.QA:=h.V9.e.QA;have a1:=h.pu;refine⟨⟨?_,fun x hx=>(h.slice hx).1, ?_,by omega,by omega,by omega⟩,⟨by omega,by omega,by omega,by omega⟩,⟨by omega,by omega,fun x hx=> ?_,by omega,by omega⟩,by omega,hn,hm,by omega,by omega,by omega,by omega⟩
 ·rw[h.V9.d.notes];exact h.all.Xv
 ·rw[h.V9.d.marks];exact h.all.Xk
 have:=h.slice hx;exact⟨this.2.1,by omega,this.1.b⟩
theorem EC(h:QW s lo K ts r F)(hK:K≤60)(v:Int)(t:List UInt8):(YI v t r.notes).length≤100001∧∀x∈YI v t r.notes,x∈r.notes∨x=(v,t):=by
 have e:YI v t r.notes=KM v t s.notes:=by rw[h.V9.d.notes];exact Ge h.all.VL
 have hl:=h.nt;rw[e,h.V9.d.notes];refine⟨?_,fun x hx=> ?_⟩
 ·have:=Y2 (k:=v) (v:=t) s.notes;omega
 rcases Yr hx with h|h
 ·exact .inr h
 exact .inl h
theorem Eu{m:JM}(hI:QW s lo K ts r F)(hK:K≤60)(h:JN w r m)(hF:Kr w m.M lo F)(hbM:base≤m.M)(hbw:base≤w.heap.size)
  (k v n:Int)(hv:ZX v)(hn:ZX n)(sz b:Nat)(hsz:sz<65536):
  Calls prog 21 #[.agg (Qr r m),.agg (Jw k v n sz b)] w fun e w'=>∃m',e=.returned (.tuple #[.agg (Qr (X0 lo r F k v n sz (QU sz b)).2.1 m'),.int .i64 (X0 lo r F k v n sz (QU sz b)).1])∧OT w w' base lo m m' (X0 lo r F k v n sz (QU sz b)):=by
 obtain⟨q1,q2,q3,q4,q5,q6,q7,q8,q9,d⟩:=hI.refs hK;have a:(QU sz b).length≤1048576:=by
  have:(QU sz b).length=sz%400:=by simp[QU]
  omega
 by_cases k0:k=0
 ·subst k0;exact Np (q:=X0 lo r F 0 v n sz (QU sz b)) v n sz b hsz hbw fun wy A c hy hb hc=>by
   have:=FU (h.below hy) (hF.below hy) q1 q2 q3 hbM (Nat.le_trans hbw hy.size) q4 q7 q8 ⟨q9,d⟩ (v,n) ⟨hv,hn⟩ (QU sz b) A c hb (by omega);exact this
 by_cases k1:k=1
 ·subst k1;exact SP (q:=X0 lo r F 1 v n sz (QU sz b)) v n sz b hsz hbw fun wy hy=>Gq (h.below hy) (hF.below hy) q1 q2 q3 hbM (Nat.le_trans hbw hy.size) (v,n)
 by_cases k2:k=2
 ·subst k2;exact PO (q:=X0 lo r F 2 v n sz (QU sz b)) v n sz b hsz hbw fun wy hy=>(PY (h.below hy) q1 q2 (by omega) v (QU sz b) a (EC hI hK v _)).mono fun e w' ho=>ho.toM (hF.below hy) (Nat.le_trans hbw hy.size)
 by_cases k3:k=3
 ·subst k3;exact Po (q:=X0 lo r F 3 v n sz (QU sz b)) v n sz b hsz hbw fun wy hy=>(Pw (h.below hy) q1 q2 (by omega) (QU sz b) a).mono fun e w' ho=>ho.toM (hF.below hy) (Nat.le_trans hbw hy.size)
 by_cases k4:k=4
 ·subst k4;exact RS (q:=X0 lo r F 4 v n sz (QU sz b)) v n sz b hsz hbw fun wy hy=>Ml (h.below hy) (hF.below hy) q1 q2 q3 hbM (Nat.le_trans hbw hy.size) v
 by_cases k5:k=5
 ·subst k5;exact SU (q:=X0 lo r F 5 v n sz (QU sz b)) v n sz b hsz hbw fun wy hy=>(GF (h.below hy) q1 q2 (by omega) (((sz%8:Nat):Int)-1) (by omega)).mono fun e w' ho=>ho.toM (hF.below hy) (Nat.le_trans hbw hy.size)
 have hq:X0 lo r F k v n sz (QU sz b)=(0,r,F):=by unfold X0;rw[if_neg k0,if_neg k1,if_neg k2,if_neg k3,if_neg k4,if_neg k5]
 rw[hq];exact N7 (q:=(0,r,F)) k v n sz b hsz hbw k0 k1 k2 k3 k4 k5 h hF rfl
variable {Sb:Nat} {m:KY}
theorem OK(h:QO w base Sb s m)(v:Int)(hv:ZX v):
  Calls prog 33 #[.pointer (some ⟨Sb,0,none⟩),.int .i64 v] w fun e w'=>e=.returned (.tuple #[Qw ((QC s.notes v).getD []),.bool (QC s.notes v).isSome])∧w=w':=by
 have a:=h.OG.look_ok (x:=v) hv;have c4:w.cell? ⟨Sb,4,none⟩=some (.map (some m.Nb)):=h.blk.cell 4;have sl:=h.blk.lt;have e1:(Instr.lookup 124 (.map (some m.Nb)) (.int .i64 v) true).run prog w=.ok (.tuple #[Qw ((QC s.notes v).getD []),.bool (QC s.notes v).isSome]) w:=a;generalize Qw ((QC s.notes v).getD [])=tv at*
 generalize (QC s.notes v).isSome=tb at*
 clear h a;go_enter func33,ntmps33;go_wp2_with fail;go_ret2;exact⟨rfl,rfl⟩
theorem GP{n:Qj}(hn:n∈r.Qc.map (·.n)):∃x,Xx r n=some x:=by
 obtain⟨x,hx,e⟩:=List.mem_map.1 hn;cases hg:Xx r n with
 |some y=>exact⟨y,rfl⟩
 |none=>
  unfold Xx at hg;rw[List.find?_eq_none]at hg;have:=hg x hx;simp[e]at this
theorem QW.CF(h:QW s lo K ts r F){n:Qj}{x:V4}(hg:Xx r n=some x):
  ∃(y:Qx)(a:Nat),QC s.Qc n=some y∧y.at'=a∧a≤65536∧(∀q,KE s.d a=(0,q)→q.mark<2^63)∧Jj s.d y=(0,x.b)∧TQ n:=by
 obtain⟨hx,e⟩:=UX hg;have c:(ts.map (·.1)).Nodup:=by
  have:s.Qc.map (·.1)=ts.map (·.1):=h.all.side.map_eq fun _ _ g=>g.1
  rw[←this];exact h.all.Vn.nodup
 have f:(x.n,x.b)∈ts:=by rw[←h.Xv];exact List.mem_map.2 ⟨x,hx,rfl⟩
 have e2:=VX c f;rw[e]at e2;obtain⟨y,a,g1,g2,g3,g4,_,g6,g7⟩:=h.all.CF e2;exact⟨y,a,g1,g2,g3,g4,h.Mi (Vt g1) hx e.symm,Q8 g6,Q8 g7⟩
theorem I2(h:QO w base Sb s m)(hI:QW s lo K ts r F){n:Qj}{x:V4}(hg:Xx r n=some x):
  Calls prog 30 #[.pointer (some ⟨Sb,0,none⟩),QZ n] w fun e w'=>∃A c,e=.returned (.tuple #[.slice A x.b.length c,.int .i64 0])∧Kb w' A x.b∧Below w.heap.size w w':=by
 obtain⟨y,a,g1,g2,g3,g4,g5,g6⟩:=hI.CF hg;refine(Nw h n g6 y g1 a g4 g2 g3).mono fun e w' ⟨h1,h2⟩=> ?_
 rw[g5]at h1;rcases h1 with⟨_,A,c,g3,g4⟩|⟨g3,_⟩
 ·exact⟨A,c,g3,Kb.Jl g4,h2⟩
 exact absurd rfl g3
def CW(v:Value):Sem Value:=convert 43 9 v
theorem Mv(v:Value):convert 43 9 v=CW v:=rfl
theorem G1(t:List UInt8):∃bs,Qw t=.string bs:=⟨_,rfl⟩
section
attribute [local go_sem ↓] VC VF Mv
variable {mr:JM}
theorem GN(h:QO w base Sb s m)(hI:QW s lo K ts r F)(hK:K≤60)(hr:JN w r mr):
  Calls prog 29 #[.pointer (some ⟨Sb,0,none⟩),.agg (Qr r mr)] w fun e w'=>e=.returned (.bool true)∧Below w.heap.size w w':=by
 have ok:=hI.ok hK;obtain⟨q1,q2,q3,q4,q5,q6,q7,q8,q9,bQ⟩:=hI.refs hK;have HX:=Qa (Qh.new w 39 (Qr r mr));have HB:=Qa (show Below w.heap.size w (w.alloc (.cells (Qr r mr) 39)) from bR.alloc nR _);obtain⟨ns,ad⟩:=eX (r.Qc.map (·.n));obtain⟨vs,ao⟩:=eX (r.notes.map (·.1));have aQ:s.Qc.map (·.1)=ns:=by rw[ad];exact hI.V9.d.Qc.map_eq fun _ _ g=>g.1
 have am:s.notes.map (·.1)=vs:=by rw[ao,hI.V9.d.notes]
 obtain⟨k,hk⟩:=eX ns.length;obtain⟨c,hc⟩:=eX vs.length;have ek:s.Qc.length=k:=by rw[hk,←aQ];simp
 have b3:r.Qc.length=k:=by rw[hk,ad];simp
 have ec:s.notes.length=c:=by rw[hc,←am];simp
 have aY:r.notes.length=c:=by rw[hc,ao];simp
 have aK:=Qa (show ∀wy,Below w.heap.size w wy→Calls prog 35 #[.pointer (some ⟨Sb,0,none⟩)] wy fun e w'=>∃A c,e=.returned (.slice A k c)∧w'.ownsRow wy.heap.size 73 2 (.slice A k c) k (QV ns)∧Below wy.heap.size wy w' from fun wy hy=>by
  have:=Ow (h.below hy) ok.Vn ok.num (by have:=ok.nS;omega);rw[ek,aQ]at this;exact this)
 have aD:=Qa (show ∀wy,Below w.heap.size w wy→Calls prog 36 #[.pointer (some ⟨Sb,0,none⟩)] wy fun e w'=>∃A d,e=.returned (.slice A c d)∧w'.ownsRow wy.heap.size 2 1 (.slice A c d) c (J8 vs)∧Below wy.heap.size wy w' from fun wy hy=>by
  have:=TV (h.below hy) ok.VL ok.Xv (by have:=ok.nN;omega);rw[ec,am]at this;exact this)
 have W:=Qa (show ∀wy,Below w.heap.size w wy→Calls prog 84 #[.agg (Qr r mr)] wy fun e w'=>∃A c,e=.returned (.slice A k c)∧w'.ownsRow wy.heap.size 53 2 (.slice A k c) k (QV ns)∧Below wy.heap.size wy w' from fun wy hy=>by
  have:=Lt (hr.below hy) (by omega);rw[b3,←ad]at this;exact this)
 have U:=Qa (show ∀wy,Below w.heap.size w wy→Calls prog 85 #[.agg (Qr r mr)] wy fun e w'=>∃A d,e=.returned (.slice A c d)∧w'.ownsRow wy.heap.size 2 1 (.slice A c d) c (J8 vs)∧Below wy.heap.size wy w' from fun wy hy=>by
  have:=Tp (hr.below hy) (by omega);rw[aY,←ao]at this;exact this)
 obtain⟨j,hj⟩:=eX r.marks.length;have ej:s.marks=r.marks:=hI.V9.d.marks.symm
 have aC:=Qa (show ∀wy,Below w.heap.size w wy→Calls prog 27 #[.pointer (some ⟨Sb,0,none⟩)] wy fun e w'=>∃A c,e=.returned (.slice A j c)∧Sl w' 9 1 A j (r.marks.map Qw)∧Below wy.heap.size wy w' from fun wy hy=>by
  have:=Lr (h.below hy) (by have:=ok.nM;omega);rw[ej,←hj]at this;exact this.mono fun e w' ⟨A,c,h1,h2,h3⟩=>⟨A,c,h1,Sl.Jl h2,h3⟩)
 have aH:=Qa (show ∀wy A1 c1,Below w.heap.size w wy→Sl wy 9 1 A1 j (r.marks.map Qw)→Calls prog 28 #[.slice A1 j c1,.slice mr.AM j mr.cM] wy fun e w'=>e=.returned (.bool true)∧Below wy.heap.size wy w' from fun wy A1 c1 hy h1=>by
  have h2:=(hr.below hy).marks;rw[hj]at h1 ⊢;exact Fg r.marks A1 mr.AM c1 mr.cM h1 h2 (by omega))
 have bE:GY s=(Lv r:Nat):=by
  have:=hI.sum;unfold GY Lv;rw[this]
 have ag:=Qa (show ∀wy,Below w.heap.size w wy→Calls prog 37 #[.pointer (some ⟨Sb,0,none⟩)] wy fun e w'=>e=.returned (.int .i64 (Lv r:Nat))∧Below wy.heap.size wy w' from fun wy hy=>by
  have:=EB (h.below hy) ok.Vn ok.num (by have:=ok.nS;omega);rw[bE]at this;exact this)
 have T:=Qa (show ∀wy,Below w.heap.size w wy→Calls prog 86 #[.agg (Qr r mr)] wy fun e w'=>e=.returned (.int .i64 (Lv r:Nat))∧Below wy.heap.size wy w' from fun wy hy=>Le (hr.below hy) (by omega) (fun x hx=>(hI.slice hx).1.b))
 have HG:=Qa (show ∀n∈ns,∃x:V4,x.n=n∧x.b.length≤1048576∧(∀wy,Below w.heap.size w wy→Calls prog 32 #[.agg (Qr r mr),QZ n] wy fun e w'=>e=.returned (.tuple #[.agg (GK x),.bool true])∧Below wy.heap.size wy w')∧(∀wy,Below w.heap.size w wy→Calls prog 30 #[.pointer (some ⟨Sb,0,none⟩),QZ n] wy fun e w'=>∃A c,e=.returned (.tuple #[.slice A x.b.length c,.int .i64 0])∧Kb w' A x.b∧Below wy.heap.size wy w') from fun n hn=>by
  rw[ad]at hn;obtain⟨x,hx⟩:=GP hn;refine⟨x,(UX hx).2,((hI.slice (UX hx).1).1).b,fun wy hy=> ?_,fun wy hy=>I2 (h.below hy) hI hx⟩;have:=UZ (hr.below hy) n (by omega);rw[hx]at this;exact this)
 have HT:=Qa (show ∀v∈vs,∃bs,(∀wy,Below w.heap.size w wy→Calls prog 33 #[.pointer (some ⟨Sb,0,none⟩),.int .i64 v] wy fun e w'=>e=.returned (.tuple #[.string bs,.bool true])∧wy=w')∧(∀wy,Below w.heap.size w wy→Calls prog 34 #[.agg (Qr r mr),.int .i64 v] wy fun e w'=>e=.returned (.tuple #[.string bs,.bool true])∧Below wy.heap.size wy w') from fun v hv=>by
  rw[←am]at hv;have aW:(QC s.notes v).isSome=true:=KD.2 hv;have bP:ZX v:=by
   obtain⟨y,hy,e⟩:=List.mem_map.1 hv;have:=(hI.all.Xv y hy).1;rw[e]at this;exact Q8 this
  refine⟨⟨((QC s.notes v).getD []).toArray⟩,fun wy hy=> ?_,fun wy hy=> ?_⟩
  ·have:=OK (h.below hy) v bP;rw[aW]at this;exact this
  have:=Z1 (hr.below hy) v (by omega);rw[hI.V9.d.notes,aW]at this;exact this)
 obtain⟨ra,aq⟩:=eX (Qr r mr);have HR:Qb (ra.size=12∧ra.all (·.oneCell')=true):=Qa (by rw[aq];exact⟨rfl,QX r mr⟩);have bt:Qb (ra[3]? =some (.slice mr.AM j mr.cM)):=Qa (by rw[aq,hj];rfl);rw[←aq]at HX HB W U T HG HT ⊢;have ca:k≤100000:=by omega
 have cc:c≤100:=by omega
 obtain⟨X,hX⟩:=eX w.heap.size;have c3:=Qa (show ∀wy,Below w.heap.size w wy→QO wy base Sb s m∧JN wy r mr from fun wy hy=>⟨h.below hy,hr.below hy⟩);clear h hr hI aQ am ek b3 ec aY ej bE ok q1 q2 q3 q4 q5 q6 q7 q8 q9 bQ aq ad ao hj;go_enter func29,ntmps29;go_upto_region 1 with fail;rw[←hX]at HX ⊢;have cd:w.heap.size≤X:=by omega
 clear hX;generalize w.alloc (.cells ra 39)=w1 at*
 have bV:=HB.o.size;have ch:(0:Int)≤k:=by omega
 have cg:(0:Int)≤c:=by omega
 have bY:=Qa hk;have bZ:=Qa hc;clear hk hc
 go_upto_region 2 with(first
  |(go_at_call 35;refine(aK.o _ HB.o).mono ?_;rintro en w2 ⟨A5,c5,rfl,bC,z⟩;(have bA:=Qa (Sl.Jl bC));(have ay:=Qa (HB.o.trans (z.mono bV)));(have aN:=Qa (HX.o.below z HX.o.lt));clear bC z)
  |(go_at_call 36;refine(aD.o _ ay.o).mono ?_;rintro en w3 ⟨A6,c6,rfl,bj,ax⟩;(have bl:=Qa (Sl.Jl bj));(have bg:=Qa (bA.o.below ax));(have S:=Qa (ay.o.trans (ax.mono ay.o.size)));(have a7:=Qa (aN.o.below ax aN.o.lt));clear bj ax))
 have a6:=S.o.size;clear HX aN bA ay HB;have SK:=Qa (show ∀wy,Below w3.heap.size w3 wy→(VQ (.pointer (some ⟨X,0,none⟩))).run prog wy=.ok (.agg ra) wy from fun wy hy=>QG (a7.o.below hy a7.o.lt) HR.o.1);have S0:=Qa (SK.o _ bR.drew);have BD:=Qa (show Below w3.heap.size w3 w3.drew from bR.drew);go_cut [7,8] (fun a b wx=>∃A7 c7 A8 c8,a=.slice A7 k c7∧b=.slice A8 c c8∧Sl wx 53 2 A7 k (QV ns)∧Sl wx 2 1 A8 c (J8 vs)∧Below w3.heap.size w3 wx)
 case first=>
  go_region_held3 (fun wy=>(VQ (.pointer (some ⟨X,0,none⟩))).run prog wy=.ok (.agg ra) wy)
   (first|exact S0.o|exact SK.o _ B9.o|exact SK.o _ B7.o|exact SK.o _ B8.o)
   (first
    |((fail_if_success (have:=B8));go_at_call 84;refine(W.o _ (S.o.trans (BD.o.mono a6))).mono ?_;rintro en w7 ⟨A7,c7,rfl,ab,B⟩;(have B7:=Qa (BD.o.trans (B.mono BD.o.size)));(have R7:=Qa (Sl.Jl ab));clear ab B)
    |((fail_if_success (have:=B7));go_at_call 85;refine(U.o _ (S.o.trans (BD.o.mono a6))).mono ?_;rintro en w8 ⟨A8,c8,rfl,af,D⟩;(have B8:=Qa (BD.o.trans (D.mono BD.o.size)));(have R8:=Qa (Sl.Jl af));clear af D)
    |((have:=B7);go_at_call 85;refine(U.o _ (S.o.trans (B7.o.mono a6))).mono ?_;rintro en w8 ⟨A8,c8,rfl,af,D⟩;(have B9:=Qa (B7.o.trans (D.mono B7.o.size)));(have R8:=Qa (Sl.Jl af));(have R9:=Qa (R7.o.below D));(have ap:=Qa (And.intro R9.o (And.intro R8.o B9.o)));clear af D)
    |((have:=B8);go_at_call 84;refine(W.o _ (S.o.trans (B8.o.mono a6))).mono ?_;rintro en w7 ⟨A7,c7,rfl,ab,B⟩;(have B9:=Qa (B8.o.trans (B.mono B8.o.size)));(have R7:=Qa (Sl.Jl ab));(have R9:=Qa (R8.o.below B));(have ap:=Qa (And.intro R7.o (And.intro R9.o B9.o)));clear ab B))
  all_goals
   go_wp2_with fail;go_meet;exact⟨A7,c7,A8,c8,rfl,rfl,ap.o.1,ap.o.2.1,ap.o.2.2⟩
 obtain⟨A7,c7,A8,c8,rfl,rfl,bo,br,ai⟩:=hcut;have J:=Qa (S.o.trans (ai.mono a6));have b0:=Qa (bg.o.below ai);have bk:=Qa (bl.o.below ai);have bd:=Qa bo;have bq:=Qa br;have I:=Qa (a7.o.below ai a7.o.lt);clear bo br ai bg bl a7 SK S0 BD S;have O:=J.o.size;go_upto_region 3 with fail;generalize wc=w4 at*
 have bi:=Qa (show ∀wy,Below w4.heap.size w4 wy→wy.cell? ⟨X,3,none⟩=some (.slice mr.AM j mr.cM) from fun wy hy=>by
  have:=(I.o.below hy I.o.lt).cell 3;rw[this];exact bt.o)
 have SK:=Qa (show ∀wy,Below w4.heap.size w4 wy→(VQ (.pointer (some ⟨X,0,none⟩))).run prog wy=.ok (.agg ra) wy∧wy.cell? ⟨X,3,none⟩=some (.slice mr.AM j mr.cM) from fun wy hy=>⟨QG (I.o.below hy I.o.lt) HR.o.1,bi.o wy hy⟩);have S0:=Qa (SK.o _ bR.drew);have BD:=Qa (show Below w4.heap.size w4 w4.drew from bR.drew);have bN:=I.o.lt;go_cut [55] (fun a wx=>a=.bool false∧Below w4.heap.size w4 wx)
 case first=>
  go_region_held3 (fun wy=>(VQ (.pointer (some ⟨X,0,none⟩))).run prog wy=.ok (.agg ra) wy∧wy.cell? ⟨X,3,none⟩=some (.slice mr.AM j mr.cM))
   (first|exact S0.o|exact SK.o _ BE.o|exact SK.o _ a4.o|exact SK.o _ a3.o|exact SK.o _ Q.o|exact SK.o _ an.o)
   (first
    |(go_at_call 27;refine(aC.o _ (J.o.trans (BD.o.mono O))).mono ?_;rintro en w5 ⟨A9,c9,rfl,bw,l⟩;(have an:=Qa (BD.o.trans (l.mono BD.o.size)));(have bH:=Qa bw);clear bw l)
    |(go_at_call 28;refine(aH.o _ A9 c9 (J.o.trans (an.o.mono O)) bH.o).mono ?_;rintro en w6 ⟨rfl,l⟩;(have Q:=Qa (an.o.trans (l.mono an.o.size)));clear l)
    |((fail_if_success (have:=a3));go_at_call 37;refine(ag.o _ (J.o.trans (Q.o.mono O))).mono ?_;rintro en w7 ⟨rfl,l⟩;(have a4:=Qa (Q.o.trans (l.mono Q.o.size)));clear l)
    |((fail_if_success (have:=a4));go_at_call 86;refine(T.o _ (J.o.trans (Q.o.mono O))).mono ?_;rintro en w7 ⟨rfl,l⟩;(have a3:=Qa (Q.o.trans (l.mono Q.o.size)));clear l)
    |((have:=a3);go_at_call 37;refine(ag.o _ (J.o.trans (a3.o.mono O))).mono ?_;rintro en w8 ⟨rfl,l⟩;(have BE:=Qa (a3.o.trans (l.mono a3.o.size)));clear l)
    |((have:=a4);go_at_call 86;refine(T.o _ (J.o.trans (a4.o.mono O))).mono ?_;rintro en w8 ⟨rfl,l⟩;(have BE:=Qa (a4.o.trans (l.mono a4.o.size)));clear l))
  all_goals
   go_wp2_with fail;go_meet;exact⟨rfl,BE.o⟩
 obtain⟨rfl,z⟩:=hcut;have Z:=Qa (J.o.trans (z.mono O));have T5:=Qa (b0.o.below z);have T6:=Qa (bk.o.below z);have T7:=Qa (bd.o.below z);have T8:=Qa (bq.o.below z);have ar:=Qa (I.o.below z I.o.lt);clear z b0 bk bd bq I SK S0 BD bN bi bt aK aD aC aH ag W U T;go_wp2_with fail;generalize wc=w5 at*
 have a2:=Z.o.size;go_loopw [58] (fun i wr=>∃q:Nat,q≤k∧i=.int .i64 (q:Nat)∧Below w5.heap.size w5 wr) (fun i _=>k-(intOf i).toNat)
 case atStart=>exact⟨0,Nat.zero_le _,rfl,bR⟩
 obtain⟨q,hq,rfl,P⟩:=hrel;have G:=Qa P;have aw:=P.size;clear P;by_cases hql:q<k
 ·have aJ:(q:Int)<k:=by omega
  have ci:(0:Int)≤q:=by omega
  have aT:q<ns.length:=by rw[←bY.o];exact hql
  obtain⟨b7,o7,bW,aS,ah⟩:=(V1 (f:=VD) (k:=2) (fun _=>rfl) (by decide) T7.o.1).2 q aT;obtain⟨b5,o5,bO,a5,M⟩:=(V1 (f:=VD) (k:=2) (fun _=>rfl) (by decide) T5.o.1).2 q aT;have b2:=Qa (show ns[q]∈ns from List.getElem_mem aT);generalize ns[q]=nq at*
  obtain⟨n1,n2⟩:=nq;have y0:wr.cell? ⟨b7,o7+q*2,none⟩=some (.int .i64 n1):=(G.o.cell (p:=⟨b7,o7+q*2,none⟩) aS).trans (ah 0 _ rfl);have y1:wr.cell? ⟨b7,o7+q*2+1,none⟩=some (.int .i64 n2):=(G.o.cell (p:=⟨b7,o7+q*2+1,none⟩) aS).trans (ah 1 _ rfl);have z0:wr.cell? ⟨b5,o5+q*2,none⟩=some (.int .i64 n1):=(G.o.cell (p:=⟨b5,o5+q*2,none⟩) a5).trans (M 0 _ rfl);have z1:wr.cell? ⟨b5,o5+q*2+1,none⟩=some (.int .i64 n2):=(G.o.cell (p:=⟨b5,o5+q*2+1,none⟩) a5).trans (M 1 _ rfl);have bJ:=Nat.lt_of_lt_of_le aS aw;have cb:=Nat.lt_of_lt_of_le a5 aw;rw[bW,bO];obtain⟨x,bS,bD,aI,aF⟩:=HG.o _ b2.o;have aj:=Qa aI;have ac:=Qa aF;clear aI aF;have ae:Qb (Below w5.heap.size w5 (wr.alloc (.cells #[.int .i64 n1,.int .i64 n2] 53))):=G.o.alloc aw _;have N:Qb (Qh (wr.alloc (.cells #[.int .i64 n1,.int .i64 n2] 53)) wr.heap.size 53 #[.int .i64 n1,.int .i64 n2]):=Qh.new _ _ _;have HZ:=Qa (show ∀wy,Below w5.heap.size w5 wy→wy.cell? ⟨b5,o5+q*2,none⟩=some (.int .i64 n1)∧wy.cell? ⟨b5,o5+q*2+1,none⟩=some (.int .i64 n2) from fun wy hy=>⟨(hy.cell (p:=⟨b5,o5+q*2,none⟩) a5).trans (M 0 _ rfl),(hy.cell (p:=⟨b5,o5+q*2+1,none⟩) a5).trans (M 1 _ rfl)⟩);clear ah M;obtain⟨⟨t,u⟩,xb,xa,xm⟩:=x;injection bS with hx1 hx2;subst hx1 hx2;obtain⟨bs,aA⟩:=G1 xb;have aL:Qb ((prog.info? 69).map (·.size)=some (#[.int .i64 t,.int .i64 u,.string bs,.int .i64 xa,.int .i64 xm]:Array Value).size):=show(prog.info? 69).map (·.size)=some 5 from by kernel_rfl
  have bn:Qb ((#[.int .i64 t,.int .i64 u,.string bs,.int .i64 xa,.int .i64 xm]:Array Value).all (·.oneCell')=true):=Qa (by simp[Value.oneCell']);have er:GK ⟨(t,u),xb,xa,xm⟩=#[.int .i64 t,.int .i64 u,.string bs,.int .i64 xa,.int .i64 xm]:=by unfold GK;rw[aA]
  rw[er]at aj;simp only at bD ac
  have ba:=Qa (show ∀(wy:World)(A:Option Addr)(c:Nat),Kb wy A xb→(CW (.slice A xb.length c)).run prog wy=.ok (.string bs) wy from fun wy A c hb=>by
   have:=Kj wy A c xb hb;show(convert 43 9 _).run prog wy=_;rw[this];have e2:(⟨xb.toArray⟩:ByteArray)=bs:=by
    unfold Qw at aA;injection aA
   rw[e2])
  clear er aA;obtain⟨nb,bp⟩:=eX xb.length;rw[←bp]at ba ac bD;clear bp;go_upto_region 8 with fail;clear y0 y1 z0 z1 bJ;generalize wr.alloc (.cells #[.int .i64 t,.int .i64 u] 53)=w6 at*
  obtain⟨g6,aV⟩:=eX wr.heap.size;rw[←aV]at N ⊢;clear aV G;have bc:=ae.o.size;have az:=Qa (ar.o.below ae.o ar.o.lt);have l6:=QG az.o HR.o.1;have a0:=N.o.cell 0;have a1:=N.o.cell 1;have al:=N.o.lt
  go_upto_region 9 with(first
   |(go_at_call 32;refine(aj.o _ (Z.o.trans (ae.o.mono a2))).mono ?_;rintro en w7 ⟨rfl,B⟩;(have aO:=Qa (ae.o.trans (B.mono bc)));(have b4:=Qa (N.o.below B N.o.lt));clear B)
   |(refine wpList_store_row rfl 69 _ _ rfl w7.heap.size #[.int .i64 t,.int .i64 u,.string bs,.int .i64 xa,.int .i64 xm] rfl rfl 69 _ (Qh.new w7 69 _) aL.o rfl bn.o ?_))
  rw[World.setRow_alloc_new];have R:Qb (Below w5.heap.size w5 (w7.alloc (.cells #[.int .i64 t,.int .i64 u,.string bs,.int .i64 xa,.int .i64 xm] 69))):=aO.o.alloc aO.o.size _;have av:Qb (Qh (w7.alloc (.cells #[.int .i64 t,.int .i64 u,.string bs,.int .i64 xa,.int .i64 xm] 69)) w7.heap.size 69 #[.int .i64 t,.int .i64 u,.string bs,.int .i64 xa,.int .i64 xm]):=Qh.new _ _ _;have Y:Qb (Qh (w7.alloc (.cells #[.int .i64 t,.int .i64 u,.string bs,.int .i64 xa,.int .i64 xm] 69)) g6 53 #[.int .i64 t,.int .i64 u]):=b4.o.alloc _;generalize w7.alloc (.cells #[.int .i64 t,.int .i64 u,.string bs,.int .i64 xa,.int .i64 xm] 69)=w8 at*
  obtain⟨g8,bz⟩:=eX w7.heap.size;rw[←bz]at av ⊢;clear bz a0 a1 al l6 b4 aO N az ae bc aL bn aj;have a0:=Y.o.cell 0;have a1:=Y.o.cell 1;have al:=Y.o.lt;have bm:=R.o.size
  go_upto_region 10 with(first
   |(go_at_call 31;refine(Kn t u _).mono ?_;rintro en w9 ⟨rfl,l⟩;(have aR:=Qa l);(have au:=Qa (R.o.trans (l.mono bm)));clear l)
   |(go_at_call 30;refine(ac.o _ (Z.o.trans (au.o.mono a2))).mono ?_;rintro en H ⟨aU,aP,rfl,bB,ak⟩;(have b1:=Qa bB);(have a9:=Qa (aR.o.trans (ak.mono aR.o.size)));(have aa:=Qa (au.o.trans (ak.mono au.o.size)));clear bB ak))
  have L:=Qa (Y.o.below a9.o Y.o.lt);have a8:=Qa (av.o.below a9.o av.o.lt);have V:=Qa aa.o.size;clear a0 a1 al Y av aR a9 au R bm;have c2:(q:Int)<(k:Int):=aJ;have SK:=Qa (show ∀wy,Below H.heap.size H wy→(wy.cell? ⟨b5,o5+q*2,none⟩=some (.int .i64 t)∧wy.cell? ⟨b5,o5+q*2+1,none⟩=some (.int .i64 u))∧(wy.cell? ⟨g6,0,none⟩=some (.int .i64 t)∧wy.cell? ⟨g6,1,none⟩=some (.int .i64 u))∧wy.cell? ⟨g8,2,none⟩=some (.string bs)∧(CW (.slice aU nb aP)).run prog wy=.ok (.string bs) wy from fun wy hy=>⟨HZ.o wy (aa.o.trans (hy.mono V.o)),⟨(L.o.below hy L.o.lt).cell 0,(L.o.below hy L.o.lt).cell 1⟩,(a8.o.below hy a8.o.lt).cell 2,ba.o wy aU aP (b1.o.below hy)⟩);have BD:Qb (Below H.heap.size H H.drew):=bR.drew;have ce:b5<H.heap.size:=Nat.lt_of_lt_of_le a5 V.o;have bM:=L.o.lt;have aZ:=a8.o.lt;have c0:=Qa (Nat.le_trans a2 V.o);go_cut [93] (fun a wx=>a=.bool false∧Below H.heap.size H wx)
  case first=>
   have S0:=Qa (SK.o _ BD.o)
   go_region_held3 (fun wy=>(wy.cell? ⟨b5,o5+q*2,none⟩=some (.int .i64 t)∧wy.cell? ⟨b5,o5+q*2+1,none⟩=some (.int .i64 u))∧(wy.cell? ⟨g6,0,none⟩=some (.int .i64 t)∧wy.cell? ⟨g6,1,none⟩=some (.int .i64 u))∧wy.cell? ⟨g8,2,none⟩=some (.string bs)∧(CW (.slice aU nb aP)).run prog wy=.ok (.string bs) wy)
    (first|exact S0.o|exact SK.o _ aM.o)
    (first
     |(go_at_call 31;refine(Kn t u _).mono ?_;rintro en cf ⟨rfl,E⟩;(have aM:=Qa (BD.o.trans (E.mono BD.o.size)));clear E))
   all_goals
    go_wp2_with fail;go_meet;exact⟨rfl,aM.o⟩
  obtain⟨rfl,E⟩:=hcut;have bT:=Qa (aa.o.trans (E.mono V.o));clear E SK;go_wp2_with fail;go_roundw
  case rel=>exact⟨q+1,by omega,by go_num,bT.o⟩
  case measure=>simp[intOf];omega
 have bL:q=k:=by omega
 subst bL;have aJ:¬(q:Int)<q:=by omega
 go_wp2_with fail;go_loopw [97] (fun i wr=>∃p:Nat,p≤c∧i=.int .i64 (p:Nat)∧Below w5.heap.size w5 wr) (fun i _=>c-(intOf i).toNat)
 case atStart=>exact⟨0,Nat.zero_le _,rfl,G.o⟩
 obtain⟨p,hp,rfl,P⟩:=hrel;have C:=Qa P;have aG:=P.size;clear P G aw;by_cases hpl:p<c
 ·have bv:(p:Int)<c:=by omega
  have c4:(0:Int)≤p:=by omega
  have bu:p<vs.length:=by rw[←bZ.o];exact hpl
  have aX:p<(J8 vs).length:=by unfold J8;rw[List.length_map];exact bu
  obtain⟨b8,o8,bF,bf,aB⟩:=T8.o.1.2 (by omega);obtain⟨b6,o6,bK,bh,aE⟩:=T6.o.1.2 (by omega);have e8:=aB p aX;have e6:=aE p aX;have bx:(J8 vs)[p]=.int .i64 vs[p]:=by simp[J8]
  rw[bx]at e8 e6;obtain⟨bs,bb,b9⟩:=HT.o vs[p] (List.getElem_mem bu);clear aB aE bx;generalize vs[p]=v at*
  have bG:=Qa bb;have bI:=Qa b9;clear bb b9;have y0:wr.cell? ⟨b8,o8+p,none⟩=some (.int .i64 v):=(C.o.cell (p:=⟨b8,o8+p,none⟩) bf).trans e8;have HZ:=Qa (show ∀wy,Below w5.heap.size w5 wy→wy.cell? ⟨b6,o6+p,none⟩=some (.int .i64 v) from fun wy hy=>(hy.cell (p:=⟨b6,o6+p,none⟩) bh).trans e6);have aZ:=Nat.lt_of_lt_of_le bf aG;rw[bF,bK];go_upto_region 16 with fail;clear y0 aZ e8 e6;have az:=Qa (ar.o.below C.o ar.o.lt);have l6:=QG az.o HR.o.1
  go_upto_region 18 with(first
   |(go_at_call 33;refine(bG.o _ (Z.o.trans (C.o.mono a2))).mono ?_;rintro en w7 ⟨rfl,rfl⟩)
   |(go_at_call 34;refine(bI.o _ (Z.o.trans (C.o.mono a2))).mono ?_;rintro en w8 ⟨rfl,D⟩;(have R:=Qa (C.o.trans (D.mono aG)));clear D))
  have z0:=HZ.o _ R.o;have bM:b6<w8.heap.size:=Nat.lt_of_lt_of_le bh R.o.size;go_wp2_with fail;go_roundw
  case rel=>exact⟨p+1,by omega,by go_num,R.o⟩
  case measure=>simp[intOf];omega
 have bU:p=c:=by omega
 subst bU;have bv:¬(p:Int)<p:=by omega
 go_wp2_with fail;go_ret;exact⟨rfl,Z.o.trans (C.o.mono a2)⟩
end
section
attribute [local go_sem ↓] XN
theorem GJ(h:QO w base Sb s m)(n:Qj)(hn:TQ n)(hg:QC s.Qc n=none):
  Calls prog 30 #[.pointer (some ⟨Sb,0,none⟩),QZ n] w fun e w'=>e=.returned (.tuple #[.slice none 0 0,.int .i64 6])∧Below w.heap.size w w':=by
 have HH:=Qa h;have a0:=h.blk.lt
 have HL:=Qa (show ∀wy,Below w.heap.size w wy→(Instr.lookup 125 (.map (some m.Pb)) (QZ n) true).run prog wy=.ok (.tuple #[Kv ⟨0,0,0,0⟩,.bool false]) wy from fun wy hy=>by
  have:=(h.below hy).pmap.look_ok (x:=n) hn;rw[hg]at this;exact this)
 obtain⟨n1,n2⟩:=n;unfold QZ Kv at*
 simp only at HL ⊢;have a:Qb (Below w.heap.size w (w.alloc (.cells #[.int .i64 n1,.int .i64 n2] 73))):=bR.alloc nR _;have f:=Qa (Qh.new w 73 #[.int .i64 n1,.int .i64 n2]);clear h hg hn;go_enter func30,ntmps30;go_upto_region 3 with fail;generalize w.alloc (.cells #[.int .i64 n1,.int .i64 n2] 73)=w1 at*
 have b:=a.o.size
 have SK:=Qa (show ∀wy,Below w1.heap.size w1 wy→wy.cell? ⟨Sb,5,none⟩=some (.map (some m.Pb))∧(wy.cell? ⟨w.heap.size,0,none⟩=some (.int .i64 n1)∧wy.cell? ⟨w.heap.size,1,none⟩=some (.int .i64 n2))∧(Instr.lookup 125 (.map (some m.Pb)) (.agg #[.int .i64 n1,.int .i64 n2]) true).run prog wy=.ok (.tuple #[.agg #[.int .i64 0,.int .i64 0,.int .i64 0,.int .i64 0],.bool false]) wy from fun wy hy=>by
  have hb:=a.o.trans (hy.mono b);have hx:=f.o.below hy f.o.lt;exact⟨(HH.o.below hb).blk.cell 5,⟨hx.cell 0,hx.cell 1⟩,HL.o _ hb⟩)
 have S0:=Qa (SK.o _ bR.drew)
 have c:Qb (Below w1.heap.size w1 ((w1.alloc (.cells #[.int .i64 0,.int .i64 0,.int .i64 0,.int .i64 0] 142)).drew.setRow w1.heap.size #[.int .i64 0,.int .i64 0,.int .i64 0,.int .i64 0])):=
  (bR.alloc nR _).drew.trans (Qg (Qm _ _ _) (by simp) (gB (by omega)))
 have zs:(Zq (.pointer (some ⟨w1.heap.size,0,none⟩)) (.agg #[.int .i64 0,.int .i64 0,.int .i64 0,.int .i64 0])).run prog (w1.alloc (.cells #[.int .i64 0,.int .i64 0,.int .i64 0,.int .i64 0] 142)).drew=.ok () ((w1.alloc (.cells #[.int .i64 0,.int .i64 0,.int .i64 0,.int .i64 0] 142)).drew.setRow w1.heap.size #[.int .i64 0,.int .i64 0,.int .i64 0,.int .i64 0]):=XD (Qh.new w1 142 _).drew rfl rfl (by simp[Value.oneCell']);have S3:=Qa (SK.o _ c.o);go_cut [7] (fun v7 wx=>v7=.bool false∧Below w1.heap.size w1 wx)
 case first=>
  go_region_held3 (fun wy=>wy.cell? ⟨Sb,5,none⟩=some (.map (some m.Pb))∧(wy.cell? ⟨w.heap.size,0,none⟩=some (.int .i64 n1)∧wy.cell? ⟨w.heap.size,1,none⟩=some (.int .i64 n2))∧(Instr.lookup 125 (.map (some m.Pb)) (.agg #[.int .i64 n1,.int .i64 n2]) true).run prog wy=.ok (.tuple #[.agg #[.int .i64 0,.int .i64 0,.int .i64 0,.int .i64 0],.bool false]) wy)
   (first|exact S0.o|exact S3.o|exact SK.o _ (bR.drew.alloc nR _)|exact SK.o _ ((bR.alloc nR _).drew))
   (fail)
  all_goals
   go_wp2_with fail;go_meet;exact⟨rfl,c.o⟩
 obtain⟨rfl,d⟩:=hcut;have HE:=Qa (a.o.trans (d.mono b));clear zs d;go_wp2_with fail;go_ret2;exact⟨rfl,HE.o⟩
end
def WS(i:Nat):Nat:=[64,80,120,400].getD i 0
def RV(i:Nat):Nat:=[64,100,64,128].getD i 0
variable {i j:Nat}
theorem N5(hi:i<4)(hj:j<4):KJ (WS i) (RV j)=true∧WS i≤400∧64≤WS i∧RV j≤128∧64≤RV j:=by
 have h:∀i∈[0,1,2,3],∀j∈[0,1,2,3],KJ (WS i) (RV j)=true∧WS i≤400∧64≤WS i∧RV j≤128∧64≤RV j:=by decide
 exact h i (by simp;omega) j (by simp;omega)
theorem QW.act(h:QW s lo K ts r F)(hK:K≤60)(k v n:Int)(sz b:Nat){gone:List (Qj × Qx)}(hg:Ii s v gone):
  (ZJ s k v n sz b gone).1=(X0 lo r F k v n sz (QU sz b)).1∧∃ts',QW (ZJ s k v n sz b gone).2 lo (K+1) ts' (X0 lo r F k v n sz (QU sz b)).2.1 (X0 lo r F k v n sz (QU sz b)).2.2:=by
 unfold ZJ X0;by_cases k0:k=0
 ·rw[if_pos k0,if_pos k0];exact h.put hK _ _
 rw[if_neg k0,if_neg k0];by_cases k1:k=1
 ·rw[if_pos k1,if_pos k1];exact h.drop hK _
 rw[if_neg k1,if_neg k1];by_cases k2:k=2
 ·rw[if_pos k2,if_pos k2];obtain⟨h1,h2⟩:=h.note hK v (QU sz b);exact⟨h1,ts,h2⟩
 rw[if_neg k2,if_neg k2];by_cases k3:k=3
 ·rw[if_pos k3,if_pos k3];obtain⟨h1,h2⟩:=h.mark hK (QU sz b);exact⟨h1,ts,h2⟩
 rw[if_neg k3,if_neg k3];by_cases k4:k=4
 ·rw[if_pos k4,if_pos k4];refine h.forget hK v gone hg.1 fun e=> ?_
  have hk:=hg.2 e;refine⟨hk.1,fun y hy=> ?_⟩;have d:TQ y.1:=by
   have:=h.all.right y (List.mem_filter.1 hy).1;exact⟨Q8 this.1,Q8 this.2⟩
  have c:((QS s v).map (·.1)).Nodup:=by
   have:Xa (QS s v):=List.Pairwise.filter _ h.all.Vn;exact this.nodup
  have a:(QC (QS s v) y.1).isSome=true:=KD.2 (List.mem_map.2 ⟨y,hy,rfl⟩);have hm:=(hk.2.2 y.1 d).2 a;obtain⟨z,hz,e2⟩:=List.mem_map.1 hm;have g1:=VX c (hg.1 z hz);have g2:=VX c hy;rw[e2,g2]at g1;injection g1 with g1;have:z=y:=Prod.ext e2 g1.symm;rw[←this];exact hz
 rw[if_neg k4,if_neg k4];by_cases k5:k=5
 ·rw[if_pos k5,if_pos k5];obtain⟨h1,h2⟩:=h.trim hK (((sz%8:Nat):Int)-1) (by omega);exact⟨h1,ts,h2⟩
 rw[if_neg k5,if_neg k5];obtain⟨h1,h2⟩:=h.sync;exact⟨h1,ts,h2⟩
theorem GA(k:Nat)(hk:k<256)(w:World):Calls prog 19 #[.int .u8 k] w fun e w'=>e=.returned (.tuple #[.int .i64 (WS (k%4):Nat),.int .i64 (RV (k/4%4):Nat)])∧Below w.heap.size w w':=by
 obtain⟨a,ha⟩:=eX (k%4);obtain⟨d,hd⟩:=eX (k/4);obtain⟨b,hb⟩:=eX (d%4);have i1:(k:Int)%4=(a:Int):=by omega
 have i2:(k:Int)/4=(d:Int):=by omega
 have i3:(d:Int)%4=(b:Int):=by omega
 have a0:a<4:=by omega
 have a2:b<4:=by omega
 have a1:d<64:=by omega
 rw[←ha,←hd,←hb];clear ha hd hb;go_enter func19,ntmps19;go_upto_region 1 with fail;have j1:(0:Int)≤(a:Int):=by omega
 have j2:(a:Int)<4:=by omega
 have j3:(0:Int)≤(b:Int):=by omega
 have j4:(b:Int)<4:=by omega
 have LA:=Qa (show ∀wy:World,∀g,Qh wy g 3 #[.int .i64 64,.int .i64 80,.int .i64 120,.int .i64 400]→wy.cell? ⟨g,a,none⟩=some (.int .i64 (WS a:Nat)) from fun wy g h=>by
  rw[h.cell a];have:a=0∨a=1∨a=2∨a=3:=by omega
  rcases this with rfl|rfl|rfl|rfl<;>rfl)
 have LB:=Qa (show ∀wy:World,∀g,Qh wy g 3 #[.int .i64 64,.int .i64 100,.int .i64 64,.int .i64 128]→wy.cell? ⟨g,b,none⟩=some (.int .i64 (RV b:Nat)) from fun wy g h=>by
  rw[h.cell b];have:b=0∨b=1∨b=2∨b=3:=by omega
  rcases this with rfl|rfl|rfl|rfl<;>rfl)
 have HQ:=Qa (show ∀h,([.int .i64 64,.int .i64 100,.int .i64 64,.int .i64 128]:List Value)[b]'h=.int .i64 (RV b:Nat) from fun h=>by
  have:b=0∨b=1∨b=2∨b=3:=by omega
  rcases this with rfl|rfl|rfl|rfl<;>rfl)
 have i:=Qa (show ∀h,([.int .i64 64,.int .i64 80,.int .i64 120,.int .i64 400]:List Value)[a]'h=.int .i64 (WS a:Nat) from fun h=>by
  have:a=0∨a=1∨a=2∨a=3:=by omega
  rcases this with rfl|rfl|rfl|rfl<;>rfl)
 obtain⟨sn,c⟩:=eX (WS a);obtain⟨zn,f⟩:=eX (RV b);rw[←c]at LA i;rw[←f]at LB HQ;have l:=Qa c;have j:=Qa f;clear c f;have k1:IntKind.i64.wrap (k:Int)=(k:Int):=by rw[IntKind.wrap_i64];omega
 have k2:IntKind.u8.wrap (d:Int)=(d:Int):=by rw[IntKind.wrap_u8];omega
 have k3:IntKind.i64.wrap (d:Int)=(d:Int):=by rw[IntKind.wrap_i64];omega
 have k4:(k:Int).tmod 4=(a:Int):=by rw[Int.tmod_eq_emod_of_nonneg (by omega)];exact i1
 have k5:(d:Int).tmod 4=(b:Int):=by rw[Int.tmod_eq_emod_of_nonneg (by omega)];exact i3
 have HX:=Qa (Qh.new w 3 #[.int .i64 64,.int .i64 80,.int .i64 120,.int .i64 400]);have x1:=LA.o _ _ HX.o.drew;have x2:=LA.o _ _ (HX.o.drew.alloc (.cells #[.int .i64 64,.int .i64 100,.int .i64 64,.int .i64 128] 3));have x3:=LB.o _ _ (Qh.new (w.alloc (.cells #[.int .i64 64,.int .i64 80,.int .i64 120,.int .i64 400] 3)).drew 3 #[.int .i64 64,.int .i64 100,.int .i64 64,.int .i64 128]);simp only[World.size_drew,World.size_alloc]at x1 x2 x3
 go_region_law (fail)
 all_goals
  (try rw[HQ.o])
  (try rw[i.o])
  go_simp;go_wp2_with fail;go_ret2;refine⟨by rw[←l.o,←j.o];rfl, ?_⟩
  repeat (first|exact bR|refine Below.drew ?_|refine Below.alloc ?_ (by simp<;>omega) _)
structure FE (w wr:World) (base B:Nat) (d:Qq) (m:Jf) (j:Nat):Prop where
 keep:Qd base [165] w wr
 blk:Qh wr B 121 (Yv d m)
 lb:Qh wr m.LB 165 (m.li.map Ko).toArray
 tb:Qh wr m.TB 165 (YQ m d.Qk.length j)
 own:wr.ownsRow base 167 2 (.slice m.A m.wi.length m.c) m.wi.length (m.wi.flatMap fun x=>[.int .i64 x.1,Ko (some x.2)])
variable {B:Nat} {d:Qq} {wr:World}
theorem FE.Qe{m:Jf}(h:Yc w base B d m)(hb:Below w.heap.size w wr)(hw:base≤w.heap.size):FE w wr base B d m 0:=by
 have k:=Qd.Qe (base:=base) (ts:=[165]) hb hw;have k0:=Qd.Qe (base:=base) (ts:=[]) hb hw;exact⟨k,h.blk.keeps k0 (by simp),h.lb.keeps k0 (by simp),by rw[Mp];exact h.tb.keeps k0 (by simp),QF h.own k0 (by simp)⟩
theorem FE.alloc{m:Jf}(h:FE w wr base B d m j)(hb:base≤wr.heap.size)(o:Obj):FE w (wr.alloc o) base B d m j:=
 ⟨h.keep.alloc hb o,h.blk.alloc o,h.lb.alloc o,h.tb.alloc o,Qu h.own o⟩
theorem FE.drewN{m:Jf}(h:FE w wr base B d m j)(n:Nat):FE w (wr.drewN n) base B d m j:=
 ⟨h.keep.drewN n,h.blk,h.lb,h.tb,h.own⟩
theorem FE.step{m:Jf}(h0:Yc w base B d m)(h:FE w wr base B d m j)(hj:j<m.wi.length):
  FE w (wr.setCell ⟨m.TB,m.wi[j].1,none⟩ (Ko (m.last m.wi[j].1))) base B d m (j+1):=by
 have n1:=h.blk.ne h.tb (by decide);have k:Qd base [165] wr (wr.setCell ⟨m.TB,m.wi[j].1,none⟩ (Ko (m.last m.wi[j].1))):=(Qd.refl base _ wr).set h.tb h0.low.2.2 (by simp) _;refine⟨h.keep.trans k,h.blk.Yq n1 _,h.lb.Yq h0.ne _, ?_,QF h.own k (by simp)⟩;rw[←N2 m _ j hj];exact h.tb.set _ _
theorem P4(h:VK w base B d):
  Calls prog 23 #[.pointer (some ⟨B,0,none⟩),.slice none 0 0,.int .i64 (-1)] w fun e w'=>e=.returned (.tuple #[])∧VK w' base B (Iy d [] (-1))∧Qd base [121,165] w w':=by
 have hD:=h;obtain⟨m,h⟩:=h;have a5:=h.blk.lt;have e4:w.cell? ⟨B,4,none⟩=some (.bool d.off):=h.blk.cell 4;have e3:w.cell? ⟨B,3,none⟩=some (.slice m.A m.wi.length m.c):=h.blk.cell 3;have HD:=Qa hD;have HH:=Qa h;have f:base≤w.heap.size:=by have:=h.low.1;omega
 obtain⟨r,hr⟩:=eX (Iy d [] (-1));rw[←hr];by_cases ho:d.off=true
 ·have a:r=d:=by rw[hr];unfold Iy;rw[if_pos ho]
  subst a;rw[ho]at e4;clear h hD hr;go_enter func23,ntmps23;go_wp2;refine bodyPost_ret (results_none rfl _ _ _) rfl ?_;exact⟨rfl,HD.o,Qd.refl _ _ _⟩
 have k:d.off=false:=by simpa using ho
 have a:r=RA d:=by rw[hr];exact DL k
 have HR:=Qa a;rw[k]at e4;have a1:m.wi.length≤9223372036854775807:=by
  rcases h.own.2 with⟨_,h0⟩|⟨_,cap,_,hv,_,_,h1,h2,_⟩
  ·omega
  simp only[maxLen]at h2;omega
 clear h hD hr a;go_enter func23,ntmps23;go_wp2_with fail;go_loopw [23] (fun i wr=>∃j:Nat,j≤m.wi.length∧i=.int .i64 j∧Below w.heap.size w wr) (fun i _=>m.wi.length-(intOf i).toNat)
 case atStart=>exact⟨0,Nat.zero_le _,rfl,bR⟩
 obtain⟨j,hj,rfl,hb⟩:=hrel;have HB:=Qa hb;have hB:B<wr.heap.size:=by have:=hb.size;omega
 have hf:=FE.Qe HH.o hb f;by_cases hjk:j<m.wi.length
 ·obtain⟨wg,hA⟩:∃wg,m.A=some ⟨wg,0,none⟩:=by
   obtain⟨g,hg⟩:=Uf hf.own (by omega);exact⟨g,hg.1⟩
  have hc:=Vf (fun x:Nat × Nat=>Value.int .i64 x.1) (fun x=>Ko (some x.2)) m.wi j hjk;have y0:wr.cell? ⟨wg,j*2,none⟩=some (.int .i64 (m.wi[j].1:Nat)):=by
   have:=(hA▸hf.own).cells (g:=wg) rfl (j*2) _ hc.1;simpa [J3]using this
  have y1:wr.cell? ⟨wg,j*2+1,none⟩=some (.pointer (some ⟨m.wi[j].2,0,none⟩)):=by
   have:=(hA▸hf.own).cells (g:=wg) rfl (j*2+1) _ hc.2;simpa [J3,Ko]using this
  have z1:((j:Int)== -1)=false:=by simp
  have HA:=Qa hA;rw[hA];clear hf hc hA hb;generalize hx:m.wi[j]=xj at y0 y1;clear hx;go_wp2_with fail;refine⟨⟨j+1,by omega,by go_num, ?_⟩,by simp[intOf];omega⟩;exact HB.o.alloc (by have:=HB.o.size;omega) _
 obtain rfl:j=m.wi.length:=by omega
 have x3:wr.cell? ⟨B,3,none⟩=some (.slice m.A m.wi.length m.c):=hf.blk.cell 3;have s:=Qa hf;have a6:w.heap.size≤wr.heap.size:=hb.size;clear hf hb;go_wp2_with fail;go_loopw [67] (fun i w2=>∃j:Nat,j≤m.wi.length∧i=.int .i64 j∧FE w w2 base B d m j) (fun i _=>m.wi.length-(intOf i).toNat)
 case atStart=>exact⟨0,Nat.zero_le _,rfl,s.o⟩
 obtain⟨j,hj,rfl,hf⟩:=hrel;have HF:=Qa hf;have p:base≤wr.heap.size:=by have:=hf.keep.below.size;have:=HH.o.low.1;omega
 by_cases hjk:j<m.wi.length
 ·obtain⟨wg,hA⟩:∃wg,m.A=some ⟨wg,0,none⟩:=by
   obtain⟨g,hg⟩:=Uf hf.own (by omega);exact⟨g,hg.1⟩
  have hc:=Vf (fun x:Nat × Nat=>Value.int .i64 x.1) (fun x=>Ko (some x.2)) m.wi j hjk;have y0:wr.cell? ⟨wg,j*2,none⟩=some (.int .i64 (m.wi[j].1:Nat)):=by
   have:=(hA▸hf.own).cells (g:=wg) rfl (j*2) _ hc.1;simpa [J3]using this
  have y1:wr.cell? ⟨wg,j*2+1,none⟩=some (.pointer (some ⟨m.wi[j].2,0,none⟩)):=by
   have:=(hA▸hf.own).cells (g:=wg) rfl (j*2+1) _ hc.2;simpa [J3,Ko]using this
  have x1:wr.cell? ⟨B,1,none⟩=some (.slice (some ⟨m.LB,0,none⟩) d.Qk.length d.Qk.length):=hf.blk.cell 1;have x2:wr.cell? ⟨B,2,none⟩=some (.slice (some ⟨m.TB,0,none⟩) d.Qk.length d.Qk.length):=hf.blk.cell 2;have b:m.wi[j].1<d.Qk.length:=HH.o.Bn _ (List.getElem_mem _);have vl:wr.cell? ⟨m.LB,m.wi[j].1,none⟩=some (Ko (m.last m.wi[j].1)):=by
   rw[hf.lb.cell,List.getElem?_toArray,List.getElem?_map];unfold Jf.last;rw[List.getD,List.getElem?_eq_getElem (by rw[HH.o.ll];exact b)];rfl
  obtain⟨vt,hvt⟩:∃v,wr.cell? ⟨m.TB,m.wi[j].1,none⟩=some v:=by
   rw[hf.tb.cell];unfold YQ;rw[List.getElem?_toArray];exact⟨_,List.getElem?_eq_getElem (by simpa using b)⟩
  have zt:=hf.tb.free m.wi[j].1;have a0:=hf.blk.lt;have a4:=hf.lb.lt;have a2:=hf.tb.lt;have HA:=Qa hA;rw[hA];clear hf hc hA;generalize hx:m.wi[j]=xj at y0 y1 b vl hvt zt;have HX:=Qa hx;clear hx;obtain⟨po,hpo⟩:∃po,Ko (m.last xj.1)=.pointer po:=by cases m.last xj.1<;>exact⟨_,rfl⟩
  rw[hpo]at vl;have q:=Qa hpo;clear hpo;go_wp2_with fail
  go_region
  all_goals (try go_wp2_with fail)
  refine⟨⟨j+1,by omega,by go_num, ?_⟩,by simp[intOf];omega⟩;have n:=((HF.o.step HH.o hjk).alloc (by simp;exact p) (.cells #[.int .i64 (xj.1:Nat),.pointer (some ⟨xj.2,0,none⟩)] 167)).drewN 1;rw[HX.o,q.o]at n;exact n
 obtain rfl:j=m.wi.length:=by omega
 have x3:wr.cell? ⟨B,3,none⟩=some (.slice m.A m.wi.length m.c):=hf.blk.cell 3;have z3:=hf.blk.free 3;have x4:wr.cell? ⟨B,4,none⟩=some (.bool d.off):=hf.blk.cell 4;have z4:=hf.blk.free 4;have a3:=hf.blk.lt;clear hf;go_wp2_with fail
 go_end0
 have hb:=HF.o.blk.set 3 (.slice none 0 0);have kk:Qd base [121] wr ((wr.setCell ⟨B,3,none⟩ (.slice none 0 0)).setCell ⟨B,4,none⟩ (.bool true)):=((Qd.refl base _ wr).set HF.o.blk HH.o.low.1 (by simp) _).set hb HH.o.low.1 (by simp) _;have kw:Qd base [121,165] w ((wr.setCell ⟨B,3,none⟩ (.slice none 0 0)).setCell ⟨B,4,none⟩ (.bool true)):=(HF.o.keep.mono nR (by simp)).trans (kk.mono nR (by simp));have n1:=HF.o.lb.ne HF.o.blk (by decide);have n2:=HF.o.tb.ne HF.o.blk (by decide)
 have l:=HH.o.lost kw (by
  have e:Yv (RA d) m.lost=((Yv d m).setIfInBounds 3 (.slice none 0 0)).setIfInBounds 4 (.bool true):=by
   unfold Yv;simp[RA,Jf.lost]
  rw[e];exact hb.set 4 (.bool true)) ((HF.o.lb.Yq n1 _).Yq n1 _) ((HF.o.tb.Yq n2 _).Yq n2 _)
 rw[HR.o];exact⟨rfl,⟨_,l⟩,kw⟩
section
open Go.Shelf Go.Sort
structure Ck (s0 s1 s2 s3 s4:QM) (x:Qx):Prop where
 o1:∃d1 l1 sl mp d2 l2,YN (JA 64 64) d1 l1 sl mp d2 l2∧s0=KI (JA 64 64) d1 l1 sl mp d2 l2
 i0:QW s0 16 0 [] (RJ 64 64) (List.replicate 48 true)
 p1:Q6 s0 (1,0) [49,50,51,52,53,54,55,56]=(0,s1)
 y:Vr s1=(0,s2)
 i2:∃ts r F,QW s2 16 2 ts r F
 p2:Q6 s2 (1,1) [120]=(0,s3)
 o2:∃d1 l1 sl mp d2 l2,YN (Dc (Iy s3.d [] (-1))) d1 l1 sl mp d2 l2∧s4=KI (Dc (Iy s3.d [] (-1))) d1 l1 sl mp d2 l2
 k4:XA s4
 Cc:Ol s4.d 1000
 nm:s4.Qc.map (·.1)=[(1,0)]
 gx:QC s4.Qc (1,0)=some x
 xa:0≤x.at'∧x.at'≤65536
 tx:Jj s4.d x=(0,[49,50,51,52,53,54,55,56])
def F2:Bool:=
 Wr (JA 64 64)&&match Wf (JA 64 64)with
 |(0,_,some s0)=>match Q6 s0 (1,0) [49,50,51,52,53,54,55,56]with
  |(0,s1)=>match Vr s1 with
   |(0,s2)=>match Q6 s2 (1,1) [120]with
    |(0,s3)=>Wr (Dc (Iy s3.d [] (-1)))&&match Wf (Dc (Iy s3.d [] (-1)))with
     |(0,_,some s4)=>Ed s4&&N9 s4.d 1000&&(s4.Qc.map (·.1)==[(1,0)])&&(match MP s4 (1,0)with
      |some x=>decide (0≤x.at'∧x.at'≤65536)&&(Jj s4.d x==(0,[49,50,51,52,53,54,55,56]))
      |none=>false)
     |_=>false
    |_=>false
   |_=>false
  |_=>false
 |_=>false
theorem NU:F2=true:=by kernel_rfl
theorem Gy:∃s0 s1 s2 s3 s4 x,Ck s0 s1 s2 s3 s4 x:=by
 have h:=NU;unfold F2 at h;simp only[Bool.and_eq_true]at h;obtain⟨h1,h⟩:=h;obtain⟨d1,l1,sl,mp,d2,l2,ho⟩:=TC h1;have hI:=R5 (n:=64) (k:=64) (by kernel_rfl) (by omega) ho.is;rw[ho.is]at h;simp only at h;obtain⟨e1,a0,a⟩:=hI.put (by omega) (1,0) [49,50,51,52,53,54,55,56];rcases hp:Q6 (KI (JA 64 64) d1 l1 sl mp d2 l2) (1,0) [49,50,51,52,53,54,55,56]with⟨ep,s1⟩;rw[hp]at h a;cases ep with
 |succ e=>cases h
 |zero=>
  simp only at h a;obtain⟨_,b⟩:=a.sync;rcases hy:Vr s1 with⟨ey,s2⟩;rw[hy]at h b;cases ey with
  |succ e=>cases h
  |zero=>
   simp only at h b;rcases hp2:Q6 s2 (1,1) [120]with⟨VB,s3⟩;rw[hp2]at h;cases VB with
   |succ e=>cases h
   |zero=>
    simp only[Bool.and_eq_true]at h;obtain⟨h2,h⟩:=h;obtain⟨i,j,l,d,g,f,c⟩:=TC h2;rw[c.is]at h;simp only[Bool.and_eq_true]at h;obtain⟨⟨⟨k4,f4⟩,nm⟩,h⟩:=h;split at h
    ·rename_i x hx;simp only[Bool.and_eq_true,decide_eq_true_eq,beq_iff_eq]at h nm;rw[Yf]at hx;exact⟨_,s1,s2,s3,_,x,⟨d1,l1,sl,mp,d2,l2,ho,rfl⟩,hI,hp,hy,⟨_,_,_,b⟩,hp2,⟨i,j,l,d,g,f,c,rfl⟩,DM k4,PT f4,nm,hx,h.1,h.2⟩
    cases h
abbrev Bw:Array Value:=#[.int .u8 49,.int .u8 50,.int .u8 51,.int .u8 52,.int .u8 53,.int .u8 54,.int .u8 55,.int .u8 56]
theorem IC(w:World)(l:List UInt8)(fr:Nat × Nat):Kb (w.alloc (.cells (l.map Ks).toArray 5 fr)) (some ⟨w.heap.size,0,none⟩) l:=by
 have hb:(w.alloc (.cells (l.map Ks).toArray 5 fr)).heap[w.heap.size]? =some (.cells (l.map Ks).toArray 5 fr):=heap_alloc_new w _;refine⟨⟨by simp,fun _=>⟨w.heap.size,0,rfl,by simp,fun j hj=> ?_⟩⟩,fun _ a ha=> ?_⟩
 ·rw[Nat.zero_add];simp only[World.cell?, hb];simp at hj;simp[hj]
 injection ha with ha;subst ha;unfold VG;rw[hb]
theorem CQ(w:World)(fr:Nat × Nat):Kb (w.alloc (.cells Bw 5 fr)) (some ⟨w.heap.size,0,none⟩) [49,50,51,52,53,54,55,56]:=IC w [49,50,51,52,53,54,55,56] fr
theorem C9(w:World)(fr:Nat × Nat):Kb (w.alloc (.cells #[.int .u8 120] 5 fr)) (some ⟨w.heap.size,0,none⟩) [120]:=IC w [120] fr
theorem Ll(hT:XX w.heap.size w)(hb2:2<w.heap.size):Calls prog 14 #[] w fun e w'=>e=.returned (.bool true)∧Below w.heap.size w w':=by
 obtain⟨s0,s1,s2,s3,s4,x,G⟩:=Gy;obtain⟨base,a⟩:=eX w.heap.size;rw[←a]at hT hb2 ⊢;have HT:=Qa hT
 have NW:=Qa (show Calls prog 15 #[.int .i64 64,.int .i64 64] w fun e w'=>∃B,e=.returned (.tuple #[.pointer (some ⟨B,0,none⟩),.int .i64 0])∧VK w' base B (JA 64 64)∧Below base w w' from (IU 64 64 w).mono fun e w' ⟨h1,h2⟩=>by
  rcases h2 with⟨_,h3⟩|⟨_,B,h3,h4⟩
  ·exact absurd ⟨by decide,by decide,by decide,by decide⟩ h3
  rw[a];exact⟨B,h3,h4,h1⟩)
 have O1:=Qa (show ∀(wy:World)(B:Nat),VK wy base B (JA 64 64)→Below base w wy→Calls prog 16 #[.pointer (some ⟨B,0,none⟩)] wy fun e w'=>∃Sb m,e=.returned (.tuple #[.pointer (some ⟨Sb,0,none⟩),.int .i64 0])∧m.B=B∧QO w' base Sb s0 m∧Below base w w' from fun wy B hd hb=>by
  obtain⟨d1,l1,sl,mp,d2,l2,hg,rfl⟩:=G.o1;exact(RB hd (hT.below hb) hb2 hg).mono fun e w' ⟨Sb,m,h1,h2,h3,h4⟩=>⟨Sb,m,h1,h2,h3,hb.trans h4.below⟩)
 have P1:=Qa (show ∀(wy wz:World)(Sb:Nat)(m:KY)(A:Option Addr)(c:Nat),QO wy base Sb s0 m→Below wy.heap.size wy wz→Below base w wy→Kb wz A [49,50,51,52,53,54,55,56]→8≤c→Calls prog 53 #[.pointer (some ⟨Sb,0,none⟩),.agg #[.int .i64 1,.int .i64 0],.slice A 8 c] wz fun e w'=>e=.returned (.int .i64 0)∧QO w' base Sb s1 m∧Below base w w' from fun wy wz Sb m A c hs hb hbw hby hc=>by
  have hi:=G.i0;have:=PA (hs.below hb) hi.all (hi.ok (by omega)) (by omega) (hi.waits (by omega)) (by have:=hi.pu;omega) (1,0) [49,50,51,52,53,54,55,56] A c hby.D3 hc;rw[G.p1]at this;exact this.mono fun e w' ⟨h1,h2,h3⟩=>⟨h1,h2,(hbw.trans (hb.mono hs.lt)).trans h3.below⟩)
 have SY:=Qa (show ∀(wy:World)(Sb:Nat)(m:KY),QO wy base Sb s1 m→Below base w wy→Calls prog 54 #[.pointer (some ⟨Sb,0,none⟩)] wy fun e w'=>e=.returned (.int .i64 0)∧QO w' base Sb s2 m∧Below base w w' from fun wy Sb m hs hbw=>by
  have:=OV hs;rw[G.y]at this;exact this.mono fun e w' ⟨h1,h2,h3⟩=>⟨h1,h2,hbw.trans h3.below⟩)
 have P2:=Qa (show ∀(wy wz:World)(Sb:Nat)(m:KY)(A:Option Addr)(c:Nat),QO wy base Sb s2 m→Below wy.heap.size wy wz→Below base w wy→Kb wz A [120]→1≤c→Calls prog 53 #[.pointer (some ⟨Sb,0,none⟩),.agg #[.int .i64 1,.int .i64 1],.slice A 1 c] wz fun e w'=>e=.returned (.int .i64 0)∧VK w' base m.B s3.d∧XX base w'∧Below base w w' from fun wy wz Sb m A c hs hb hbw hby hc=>by
  obtain⟨_,_,_,hi⟩:=G.i2;have:=PA (hs.below hb) hi.all (hi.ok (by omega)) (by omega) (hi.waits (by omega)) (by have:=hi.pu;omega) (1,1) [120] A c hby.D3 hc;rw[G.p2]at this;exact this.mono fun e w' ⟨h1,h2,h3⟩=>⟨h1,h2.Ul,h2.Rn,(hbw.trans (hb.mono hs.lt)).trans h3.below⟩)
 have CU:=Qa (show ∀(wy:World)(B:Nat),VK wy base B s3.d→Below base w wy→Calls prog 23 #[.pointer (some ⟨B,0,none⟩),.slice none 0 0,.int .i64 (-1)] wy fun e w'=>e=.returned (.tuple #[])∧VK w' base B (Iy s3.d [] (-1))∧Below base w w' from fun wy B hd hb=>
  (P4 hd).mono fun e w' ⟨h1,h2,h3⟩=>⟨h1,h2,hb.trans h3.below⟩)
 have ON:=Qa (show ∀(wy:World)(B:Nat),VK wy base B (Iy s3.d [] (-1))→Below base w wy→Calls prog 24 #[.pointer (some ⟨B,0,none⟩)] wy fun e w'=>e=.returned (.tuple #[])∧VK w' base B (Dc (Iy s3.d [] (-1)))∧Below base w w' from fun wy B hd hb=>
  (Lc hd).mono fun e w' ⟨h1,h2,h3⟩=>⟨h1,h2,hb.trans h3.below⟩)
 have O2:=Qa (show ∀(wy:World)(B:Nat),VK wy base B (Dc (Iy s3.d [] (-1)))→Below base w wy→Calls prog 16 #[.pointer (some ⟨B,0,none⟩)] wy fun e w'=>∃Sb m,e=.returned (.tuple #[.pointer (some ⟨Sb,0,none⟩),.int .i64 0])∧QO w' base Sb s4 m∧Below base w w' from fun wy B hd hb=>by
  obtain⟨d1,l1,sl,mp,d2,l2,hg,rfl⟩:=G.o2;exact(RB hd (hT.below hb) hb2 hg).mono fun e w' ⟨Sb,m,h1,h2,h3,h4⟩=>⟨Sb,m,h1,h3,hb.trans h4.below⟩)
 have b:s4.Qc.length=1:=by have:=congrArg List.length G.nm;simpa using this
 have NA:=Qa (show ∀(wy:World)(Sb:Nat)(m:KY),QO wy base Sb s4 m→Below base w wy→Calls prog 35 #[.pointer (some ⟨Sb,0,none⟩)] wy fun e w'=>∃A c,e=.returned (.slice A 1 c)∧Sl w' 73 2 A 1 (QV [(1,0)])∧QO w' base Sb s4 m∧Below base w w' from fun wy Sb m hs hb=>by
  have:=Ow hs G.k4.Vn G.k4.num (by rw[b];omega);rw[b,G.nm]at this;exact this.mono fun e w' ⟨A,c,h1,h2,h3⟩=>⟨A,c,h1,Sl.Jl h2,hs.below h3,hb.trans (h3.mono hs.lt)⟩)
 have GT:=Qa (show ∀(wy:World)(Sb:Nat)(m:KY),QO wy base Sb s4 m→Below base w wy→Calls prog 30 #[.pointer (some ⟨Sb,0,none⟩),.agg #[.int .i64 1,.int .i64 0]] wy fun e w'=>∃A c,e=.returned (.tuple #[.slice A 8 c,.int .i64 0])∧Kb w' A [49,50,51,52,53,54,55,56]∧Below wy.heap.size wy w'∧Below base w w' from fun wy Sb m hs hb=>by
  have:=Ds hs G.Cc (1,0) ⟨SA (by decide),SA (by decide)⟩ x G.gx x.at'.toNat (by have:=G.xa;omega) (by have:=G.xa;omega);refine this.mono fun e w' ⟨h1,h2⟩=> ?_
  rw[G.tx]at h1;rcases h1 with⟨_,A,c,h3,h4⟩|⟨h3,_⟩
  ·exact⟨A,c,h3,Kb.Jl h4,h2,hb.trans (h2.mono hs.lt)⟩
  exact absurd rfl h3)
 have a5:Qb (Below base w w):=bR;clear hT G b a;have kc:=fun(w:World)(C:Array Value)(n c:Nat)=>Lib.run_convert_bytes_const (P:=prog) w 43 5 C n c VI underlying5
 go_enter func14,ntmps14
 go_wp2_with (first
  |(go_at_call 15;refine NW.o.mono ?_;rintro en w1 ⟨B,rfl,hd,hb⟩;(have E:=Qa hd);(have l:=Qa hb);clear hd hb)
  |((fail_if_success (have:=g));go_at_call 16;refine(O1.o _ _ E.o l.o).mono ?_;rintro en w2 ⟨Sb,m,rfl,h,hs,hb⟩;(have g:=Qa hs);(have F:=Qa hb);(have z:=Qa h);clear h hs hb)
  |((fail_if_success (have:=i));go_at_call 53;refine(P1.o _ _ _ _ _ _ g.o (bR.alloc nR _) F.o (CQ _ _) (by decide)).mono ?_;rintro en w3 ⟨rfl,hs,hb⟩;(have i:=Qa hs);(have q:=Qa hb);clear hs hb)
  |(go_at_call 54;refine(SY.o _ _ _ i.o q.o).mono ?_;rintro en w4 ⟨rfl,hs,hb⟩;(have v:=Qa hs);(have p:=Qa hb);clear hs hb)
  |(go_at_call 53;refine(P2.o _ _ _ _ _ _ v.o (bR.alloc nR _) p.o (C9 _ _) (by decide)).mono ?_;rintro en w5 ⟨rfl,hd,ht,hb⟩;(have K:=Qa hd);(have s:=Qa hb);clear hd hb ht)
  |(go_at_call 23;refine(CU.o _ _ (z.o▸K.o) s.o).mono ?_;rintro en w6 ⟨rfl,hd,hb⟩;(have M:=Qa hd);(have L:=Qa hb);clear hd hb)
  |(go_at_call 24;refine(ON.o _ _ M.o L.o).mono ?_;rintro en w7 ⟨rfl,hd,hb⟩;(have t:=Qa hd);(have u:=Qa hb);clear hd hb)
  |(go_at_call 16;refine(O2.o _ _ t.o u.o).mono ?_;rintro en w8 ⟨a1,m2,rfl,hs,hb⟩;(have H:=Qa hs);(have j:=Qa hb);clear hs hb)
  |(go_at_call 35;refine(NA.o _ _ _ H.o j.o).mono ?_;rintro en w9 ⟨A9,c9,rfl,hn,hs,hb⟩;(have k:=Qa hn);(have I:=Qa hs);(have r:=Qa hb);clear hn hs hb)
  |(go_at_call 30;refine(GT.o _ _ _ I.o r.o).mono ?_;rintro en wa ⟨Aa,ca,rfl,hy,hb,f⟩;(have HY:=Qa hy);(have J:=Qa f);(obtain⟨b9,o9,D,a0,q0,q1⟩:=Re (k.o.below hb) 0 (by decide) rfl);subst D;(have a4:wa.cell? ⟨b9,o9,none⟩=some (.int .i64 1):=q0);(have a3:wa.cell? ⟨b9,o9+1,none⟩=some (.int .i64 0):=q1);clear q0 q1;(have a2:(convert 43 9 (.slice Aa 8 ca)).run prog wa=.ok (.string ⟨#[49,50,51,52,53,54,55,56]⟩) wa:=OB wa Aa ca _ hy (by decide));clear hy hb f))
 go_ret;exact⟨rfl,J.o⟩
end
variable {k n:Nat}
theorem Ng(hk:k≤4096):KJ n k=true↔IW n k (n/4)∧Qf k 0+Qf k 201≤n/4/2:=by
 unfold KJ IW;simp only[Bool.not_eq_true',Bool.or_eq_false_iff,decide_eq_false_iff_not,beq_eq_false_iff_ne];constructor
 ·rintro⟨⟨⟨h1,h2⟩,h3⟩,h4⟩;obtain⟨h5,_⟩:=ZH h2;omega
 rintro⟨⟨h1,h2,h3,h4⟩,h5⟩;have:1≤Qf k 201:=JQ (by omega) (by omega) (by omega);omega
def Wb(w w':World)(n k:Nat)(e:Ending):Prop:=(∃C:Array Value,C.size=12∧C.all (·.oneCell')=true∧e=.returned (.tuple #[.agg C,.int .i64 (if KJ n k then 0 else 1)])∧(KJ n k=true→∃A c M AF cF,w.heap.size≤M∧C=VM k A c (n/4/2:Nat) k 2 (.pointer (some ⟨M,0,none⟩))∧Qh w' M 236 #[.int .i64 (n/4:Nat),.slice AF (n-n/4) cF]∧Sl w' 4 1 AF (n-n/4) (List.replicate (n-n/4) (.bool true))))∧Below w.heap.size w w'
theorem Pm(n k:Nat)(hn:n≤65536)(hk:k≤4096)(hsT:KJ n k=true)(w:World):
  Calls prog 17 #[.int .i64 n,.int .i64 k] w fun e w'=>Wb w w' n k e:=by
 have d:=Ng (n:=n) hk;have B:=Qa hsT;clear hsT;obtain⟨q,hq⟩:=eX (n/4);have a2:(n:Int)/4=(q:Int):=by omega
 have a7:q≤65536:=by omega
 have a6:q≤n:=by omega
 rw[←hq]at d;have HO:=Qa (fun wy=>RX n k q (by omega) (by omega) (by omega) wy);obtain⟨h,hh⟩:=eX (q/2);rw[←hh]at HO d;have a5:h≤65536:=by omega
 have HL:=Qa (fun wy=>Ms none 0 h k 1 (by omega) (by omega) wy);have HN:=Qa (fun wy=>V8 k 201 (by omega) (by omega) wy);have a8:=JE (s:=k) (n:=0);have a9:=JE (s:=k) (n:=201);have l:Qb ((prog.info? 39).map (·.size)=some 12):=Jy;have HG:Qb (Qh (w.alloc (.cells Ji 39)) w.heap.size 39 Ji):=Qh.new _ _ _;have HB:Qb (Below w.heap.size w (w.alloc (.cells Ji 39))):=bR.alloc nR _;have a4:Qb (Ji.all (·.oneCell')=true):=Qa (by simp[Value.oneCell']);by_cases hok:IW n k q
 ·have S:=Qa (show ∀wy,Calls prog 65 #[.int .i64 n,.int .i64 k,.int .i64 0,.int .i64 q] wy fun e w'=>e=.returned (.tuple #[.agg (QL none 0 h k 1),.int .i64 0])∧Below wy.heap.size wy w' from fun wy=>(HO.o wy).mono fun e w' ⟨h1,h2⟩=>by
   rcases h1 with⟨_,h1⟩|⟨h1,_⟩
   ·exact⟨h1,h2⟩
   exact absurd hok h1)
  by_cases hlf:Qf k 0+Qf k 201≤h
  ·have hs:KJ n k=true:=d.2 ⟨hok,hlf⟩;have HT:=Qa (show ∀wy M,Calls prog 69 #[.agg (VM k none 0 h k (1:Nat) (.pointer (some ⟨M,0,none⟩)))] wy fun en w'=>(∃A c,en=.returned (.tuple #[.agg (VM k A c h k ((1+1:Nat):Int) (.pointer (some ⟨M,0,none⟩))),.int .i64 0]))∧Below wy.heap.size wy w' from fun wy M=>Tj k h k 1 M (by omega) (by omega) (by omega) (by omega) wy);have z:=Qa (fun wy=>Tf q (n-q) (by omega) (by omega) wy);obtain⟨r,hr⟩:=eX (n-q);have a3:(n:Int)-(q:Int)=(r:Int):=by omega
   rw[←hr]at z;have a1:decide ((h:Int)-(Qf k 0:Nat)<(Qf k 201:Nat))=false:=decide_eq_false (by omega);generalize Qf k 0=N0 at*
   generalize Qf k 201=N1 at*
   have R:=Qa (show ∀(C:Array Value) w' A c M AF cF,C.size=12→C.all (·.oneCell')=true→Below w.heap.size w w'→w.heap.size≤M→C=VM k A c h k 2 (.pointer (some ⟨M,0,none⟩))→Qh w' M 236 #[.int .i64 q,.slice AF r cF]→Sl w' 4 1 AF r (List.replicate r (.bool true))→Wb w w' n k (.returned (.tuple #[.agg C,.int .i64 0])) from fun C w' A c M AF cF h1 h2 h3 h0 h4 h5 h6=>⟨⟨C,h1,h2,by rw[hs];rfl,fun _=>⟨A,c,M,AF,cF,h0,by rw[h4,hh,hq],by rw[←hq,←hr];exact h5,by rw[←hq,←hr];exact h6⟩⟩,h3⟩);clear d hok hlf hr hq hh HO hs;go_enter func17,ntmps17;go_upto_region 1 with fail;generalize w.alloc (.cells Ji 39)=w1 at*
   have W:=HB.o.size;go_upto_region 2 with(go_at_call 65;refine(S.o _).mono ?_;rintro en w2 ⟨rfl,hb⟩;(have m:=Qa (HB.o.trans (hb.mono W)));(have V:=Qa (HG.o.below hb HG.o.lt));clear hb);have a:=Qa (Qh.new w2 36 (QL none 0 h k 1));have F:=Qa (m.o.alloc m.o.size (.cells (QL none 0 h k 1) 36));have K:=Qa (V.o.alloc (.cells (QL none 0 h k 1) 36));clear HG HB;generalize w2.alloc (.cells (QL none 0 h k 1) 36)=w3 at*
   obtain⟨g,hg⟩:=eX w2.heap.size;rw[←hg]at a ⊢;have aa:w.heap.size≤g:=by rw[hg];exact m.o.size
   clear hg;have Q:=F.o.size;have x0:w3.cell? ⟨g,0,none⟩=some (.slice none 0 0):=a.o.cell 0;have x1:w3.cell? ⟨g,1,none⟩=some (.int .i64 0):=a.o.cell 1;have x2:w3.cell? ⟨g,2,none⟩=some (.int .i64 h):=a.o.cell 2;have x3:w3.cell? ⟨g,3,none⟩=some (.int .i64 k):=a.o.cell 3;have x4:w3.cell? ⟨g,4,none⟩=some (.int .i64 1):=a.o.cell 4;have xl:=a.o.lt
   go_upto_region 5 with(first
    |(go_at_call 66;refine(HL.o _).mono ?_;rintro en w4 ⟨rfl,hb⟩;(have j:=Qa (F.o.trans (hb.mono Q)));(have N:=Qa (K.o.below hb K.o.lt));(have P:=Qa (a.o.below hb a.o.lt));clear hb)
    |(go_at_call 67;refine(HN.o _).mono ?_;rintro en w' ⟨rfl,rfl⟩)
    |(go_at_call 68;refine(z.o _).mono ?_;rintro en w5 ⟨⟨M,AM,cM,rfl,y,G,D⟩,hb⟩;(have E:=Qa G);(have I:=Qa (Sl.Jl D));(have a0:=Qa (Nat.le_trans j.o.size y));clear y G D;(have J:=Qa (j.o.trans (hb.mono j.o.size)));(have p:=Qa (N.o.below hb N.o.lt));(have b:=Qa (P.o.below hb P.o.lt));clear hb))
   clear x0 x1 x2 x3 x4 xl;have y0:w5.cell? ⟨g,0,none⟩=some (.slice none 0 0):=b.o.cell 0;have y1:w5.cell? ⟨g,1,none⟩=some (.int .i64 0):=b.o.cell 1;have y2:w5.cell? ⟨g,2,none⟩=some (.int .i64 h):=b.o.cell 2;have y3:w5.cell? ⟨g,3,none⟩=some (.int .i64 k):=b.o.cell 3;have y4:w5.cell? ⟨g,4,none⟩=some (.int .i64 1):=b.o.cell 4;have yl:=b.o.lt;go_upto_region 6 with fail;have Y:Qb (Qh (w5.alloc (.cells (VM k none 0 h k (1:Nat) (.pointer (some ⟨M,0,none⟩))) 39)) w5.heap.size 39 (VM k none 0 h k (1:Nat) (.pointer (some ⟨M,0,none⟩)))):=Qh.new _ _ _;have x:Qb (Qh (w5.alloc (.cells (VM k none 0 h k (1:Nat) (.pointer (some ⟨M,0,none⟩))) 39)) w.heap.size 39 Ji):=p.o.alloc _;have O:Qb (Below w.heap.size w (w5.alloc (.cells (VM k none 0 h k (1:Nat) (.pointer (some ⟨M,0,none⟩))) 39))):=J.o.alloc J.o.size _;have t:Qb (Qh (w5.alloc (.cells (VM k none 0 h k (1:Nat) (.pointer (some ⟨M,0,none⟩))) 39)) M 236 #[.int .i64 q,.slice AM r cM]):=E.o.alloc _;have Z:Qb (Sl (w5.alloc (.cells (VM k none 0 h k (1:Nat) (.pointer (some ⟨M,0,none⟩))) 39)) 4 1 AM r (List.replicate r (.bool true))):=I.o.below (bR.alloc nR _);clear y0 y1 y2 y3 y4 yl b p E I;have u:(w5.alloc (.cells #[.int .i64 k,.slice none 0 0,.slice none 0 0,.slice none 0 0,.slice none 0 0,.int .i64 0,.int .i64 h,.int .i64 k,.int .i64 1,.pointer (some ⟨M,0,none⟩),.int .i64 0,.int .i64 0] 39))=w5.alloc (.cells (VM k none 0 h k (1:Nat) (.pointer (some ⟨M,0,none⟩))) 39):=rfl;rw[u];clear u;generalize w5.alloc (.cells (VM k none 0 h k (1:Nat) (.pointer (some ⟨M,0,none⟩))) 39)=w6 at*
   have T:=Qa (HT.o w6 M);have X:=O.o.size
   go_wp2_with (first
    |(refine wpList_load_row rfl 39 _ rfl w5.heap.size rfl 39 (VM k none 0 h k (1:Nat) (.pointer (some ⟨M,0,none⟩))) (0,0) _ Y.o underlying39 rfl l.o ?_)
    |(go_at_call 69;refine T.o.mono ?_;rintro en w7 ⟨⟨A7,c7,rfl⟩,hb⟩;(have i:=Qa hb);(have L:=Qa (O.o.trans (hb.mono X)));(have f:=Qa (x.o.below hb x.o.lt));(have H1:Qb ((VM k A7 c7 h k ((1+1:Nat):Int) (.pointer (some ⟨M,0,none⟩))).all (·.oneCell')=true):=Qa (by simp[Value.oneCell']));clear hb)
    |(refine wpList_store_row rfl 39 _ _ rfl w.heap.size (VM k A7 c7 h k ((1+1:Nat):Int) (.pointer (some ⟨M,0,none⟩))) rfl rfl 39 Ji f.o l.o rfl H1.o ?_))
   refine bodyPost_ret (v:=.tuple #[.agg (VM k A7 c7 h k ((1+1:Nat):Int) (.pointer (some ⟨M,0,none⟩))),.int .i64 0]) (Ql results17 _ _ w.heap.size 39 _ (0,0) _ rfl (Qp f.o _) underlying39 rfl l.o) rfl ?_;have H:=Qa (t.o.below i.o t.o.lt);have U:=Qa (Z.o.below i.o);exact R.o _ _ A7 c7 M AM cM rfl H1.o (L.o.trans (Qg (Qm _ _ _) L.o.size (gB (by omega)))) a0.o rfl (H.o.grown (Qm _ _ _) (fun e=>by injection e with e;have h1:=H.o.ty;have h2:=f.o.ty;rw[←e,h2]at h1;injection h1 with h1;exact absurd h1 (by decide))) (U.o.keeps (ts:=[39]) (Qd.JY (base:=0) (Qm _ _ _) (Nat.zero_le _) fun k hk=>⟨Nat.zero_le _,fun t' ht'=>by injection hk with hk;subst hk;rw[f.o.ty]at ht';injection ht' with ht';rw[←ht'];decide⟩) (by decide))
  exact absurd (d.1 B.o).2 hlf
 exact absurd (d.1 B.o).1 hok
end Go.Proofs.YtmgmfnimaafkdaaGreatDoor
