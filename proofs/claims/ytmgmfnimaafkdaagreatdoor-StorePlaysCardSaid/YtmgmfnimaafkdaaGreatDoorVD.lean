/- Records apart from others. -/
import Derived.Test.YtmgmfnimaafkdaaGreatDoorVC
namespace Go.Proofs.YtmgmfnimaafkdaaGreatDoor
set_option maxRecDepth 100000
set_option maxHeartbeats 0
open Go.RowKit Go.Maps
open Tryz
theorem Jr{fn:Func}{a b c d e:Tmp}(h:fn.results=#[.tmp a,.tmp b,.tmp c,.tmp d,.tmp e])(tmps:Array Value)(P:Program)(w:World):
  (results fn tmps).run P w=.ok (.tuple #[tmps.getD a undef,tmps.getD b undef,tmps.getD c undef,tmps.getD d undef,tmps.getD e undef]) w:=by
 simp[results,h]
variable {w w':World}
theorem J9.CI(h:J9 w)(hb:Below w.heap.size w w'):J9 w':=h.below hb
variable {B base n:Nat} {d:Qq}
theorem G9{s:List UInt8}(h:VK w base B d)(hr:Vh d n=(0,s)):s.length=d.size:=by
 obtain⟨m,h⟩:=h;unfold Vh at hr;split at hr
 ·simp at hr
 rename_i hn;split at hr
 ·simp at hr
 have hs:=h.SQ n (by omega);cases ht:d.told n with
 |torn=>rw[ht]at hr;simp at hr
 |zero=>rw[ht]at hr;injection hr with _ hr;subst hr;simp
 |data b t=>
  rw[ht]at hr hs;injection hr with _ hr;subst hr;cases hq:m.told n with
  |none=>rw[hq]at hs;simp[IX]at hs
  |some g=>rw[hq]at hs;exact hs.1
theorem UI{s:List UInt8}{x:P7}(h:J4 s=some x):x.kind<256∧x.mark<2^64∧x.left≤2^30∧x.bytes.length≤x.left∧x.bytes.length≤s.length:=by
 unfold J4 at h;split at h
 ·cases h
 split at h
 ·cases h
 simp only at h;split at h
 ·cases h
 rename_i h19 _ hc;injection h with h;subst h;have h1:=W6 (s.take 1);have h2:=W6 ((s.drop 1).take 8);have l1:(s.take 1).length=1:=by rw[List.length_take];omega
 have l2:((s.drop 1).take 8).length=8:=by rw[List.length_take,List.length_drop];omega
 rw[l1]at h1;rw[l2]at h2;refine⟨by simp only;omega,by simp only;omega,by simp only;omega, ?_, ?_⟩
 ·simp only[List.length_take];omega
 simp only[List.length_take,List.length_drop];omega
theorem I3{s:List UInt8}{x:P7}(h:J4 s=some x):x.bytes=(s.drop 14).take x.bytes.length:=by
 unfold J4 at h;split at h
 ·cases h
 split at h
 ·cases h
 simp only at h;split at h
 ·cases h
 injection h with h;subst h;simp only[List.length_take];rw[List.take_eq_take_iff];simp
theorem Ra{s:List UInt8}{x:P7}(h:J4 s=some x):14+x.bytes.length≤s.length:=by
 unfold J4 at h;split at h
 ·cases h
 split at h
 ·cases h
 simp only at h;split at h
 ·cases h
 injection h with h;subst h;simp only[List.length_take,List.length_drop];omega
def YU(w':World)(base:Nat)(r:Nat × Yn)(e:Ending):Prop:=
 (r.1=0∧∃v,e=.returned (.tuple #[.int .u8 r.2.kind,.int .i64 (IntKind.i64.wrap r.2.mark),v,.int .i64 r.2.many,.int .i64 0])∧w'.ownsRow base 5 1 v r.2.bytes.length (r.2.bytes.map Ks))∨
 (r.1≠0∧e=.returned (.tuple #[.int .u8 0,.int .i64 0,.slice none 0 0,.int .i64 0,.int .i64 r.1]))
abbrev P8(x:P7)(v:Value):Array Value:=#[.int .u8 x.kind,.int .i64 (IntKind.i64.wrap x.mark),.int .u64 x.left,.bool x.first,v]
structure Bf (w wr:World) (G:Nat) (d:Qq) (r:Nat × Yn) (a j:Nat) (acc:List UInt8) (hd:P7) (out:Value):Prop where
 below:Below w.heap.size w wr
 low:w.heap.size≤G
 head:∃v,Qh wr G 275 (P8 hd v)
 own:wr.ownsRow w.heap.size 5 1 out acc.length (acc.map Ks)
 go:r=Va d a (d.Qk.length-a-j) j hd acc
 Yp:acc.length≤j*4096
 left:0<j→acc.length≤hd.left
 m64:hd.mark<2^64
 Br:hd.left≤2^30
theorem Uh(h:VK w base B d)(hs:J9 w)(a:Nat)(ha:a<2^62):
  Calls prog 118 #[.pointer (some ⟨B,0,none⟩),.int .i64 a] w fun e w'=>YU w' w.heap.size (KE d a) e∧Below w.heap.size w w':=by
 have HD:=Qa h;have HS:=Qa hs;have bl:16≤d.size∧d.size≤4096:=by obtain⟨m,h⟩:=h;exact h.sz
 have bd:d.Qk.length≤65536:=by obtain⟨m,h⟩:=h;exact h.n1.2
 obtain⟨r,hr⟩:=eX (KE d a);rw[←hr];clear h hs;by_cases h1:d.Qk.length≤a
 ·have aC:r=(1,⟨0,0,[],0⟩):=by rw[hr];unfold KE;rw[if_pos h1]
  subst aC;clear hr;go_enter func118,ntmps118;go_wp2_with (go_at_call 55;refine(Kk HD.o).mono ?_;rintro e w1 ⟨rfl,ad⟩);refine bodyPost_ret (Jr rfl _ _ _) rfl ⟨.inr ⟨by decide,rfl⟩,ad⟩
 have n:r=Va d a (d.Qk.length-a) 0 ⟨0,0,0,false,[]⟩ []:=by rw[hr];unfold KE;rw[if_neg h1]
 have aQ:=Qa n;clear n;go_enter func118,ntmps118;go_wp2_with (go_at_call 55;refine(Kk HD.o).mono ?_;rintro e w1 ⟨rfl,ad⟩);go_loopw [12,13] (fun out i wr=>∃j q hd,a+j≤d.Qk.length∧i=.int .i64 (j:Nat)∧Bf w wr w1.heap.size d r a j q hd out) (fun _ i _=>d.Qk.length-a-(intOf i).toNat)
 case atStart=>
  exact⟨0,[],⟨0,0,0,false,[]⟩,by omega,rfl,⟨ad.alloc ad.size _,ad.size,⟨.slice none 0 0,Qh.Qz rfl⟩,⟨by simp,.inl ⟨rfl,rfl⟩⟩,aQ.o,by simp,fun h=>absurd h (by omega),by simp,by simp⟩⟩
 obtain⟨j,q,hd,hj,rfl,hp⟩:=hrel;obtain⟨G,hG⟩:=eX w1.heap.size;rw[←hG]at hp ⊢;clear hG ad hr aQ;generalize w1=w1' at*
 clear w1';have HP:=Qa hp;by_cases hend:a+j=d.Qk.length
 ·have b7:r=(8,⟨0,0,[],0⟩):=by
   rw[hp.go,show d.Qk.length-a-j=0 by omega];rfl
  subst b7;clear hp;have b0:(a:Int)+j=d.Qk.length:=by omega
  go_wp2_with fail;exact bodyPost_ret (Jr rfl _ _ _) rfl ⟨.inr ⟨by decide,rfl⟩,HP.o.below⟩
 obtain⟨k,hk⟩:∃k,d.Qk.length-a-j=k+1:=⟨d.Qk.length-a-j-1,by omega⟩;have n:=hp.go;rw[hk]at n;unfold Va at n;have bj:¬((a:Int)+j=d.Qk.length):=by omega
 have E:=hp.below.size;have ao:=Sz (HD.o.below hp.below) (a+j);obtain⟨e,s,hread⟩:∃e s,Vh d (a+j)=(e,s):=⟨_,_,rfl⟩;rw[hread,Int.natCast_add]at ao;rw[hread]at n;cases e with
 |succ e=>
  have P:=Qa (ao.mono (R':=fun e' w'=>e'=.returned (.tuple #[.slice none 0 0,.int .i64 ((e+1:Nat):Int)])∧Below wr.heap.size wr w') (by
   rintro e' w' ⟨aF,hb⟩;rcases aF with⟨h0,_⟩|⟨_,h2⟩
   ·exact absurd h0 (by simp)
   exact⟨h2,hb⟩))
  have aC:r=(e+1,⟨0,0,[],0⟩):=n;subst aC;have bh:(((e+1:Nat):Int) != 0)=true:=by simp;omega
  clear hp n ao hread;go_wp2_with (go_at_call 171;refine P.o.mono ?_;rintro e' w2 ⟨rfl,y⟩);exact bodyPost_ret (Jr rfl _ _ _) rfl ⟨.inr ⟨by simp,rfl⟩,HP.o.below.trans (y.mono E)⟩
 |zero=>
  have aN:=G9 (HD.o.below hp.below) hread
  have P:=Qa (ao.mono (R':=fun e' w'=>(∃g c,e'=.returned (.tuple #[.slice (some ⟨g,0,none⟩) s.length c,.int .i64 0])∧Kb w' (some ⟨g,0,none⟩) s∧s.length≤c)∧Below wr.heap.size wr w') (by
   rintro e' w' ⟨aF,hb⟩;rcases aF with⟨_,v,h2,g,c,h3,h4⟩|⟨h0,_⟩
   ·simp only at h3 h4;subst h3;obtain⟨A,c1,h5,h6⟩:=Jg h4;injection h5 with _ _ h5;exact⟨⟨g,c,h2,Kb.Jl h4,by omega⟩,hb⟩
   exact absurd rfl h0))
  simp only at n;obtain⟨p,aL⟩:=eX (Vc s)
  have ae:=@Qa (∀wy g c,Kb wy (some ⟨g,0,none⟩) s→Calls prog 172 #[.slice (some ⟨g,0,none⟩) s.length c] wy fun e w'=>e=.returned (.bool p)∧wy=w') (fun wy g c hy=>by
   have:=TG s (some ⟨g,0,none⟩) c _ wy (by omega) hy.rd;rw[←aL]at this;exact this)
  have a8:=@Qa (∀wy g c,J9 wy→Kb wy (some ⟨g,0,none⟩) s→s.length≤c→Calls prog 173 #[.slice (some ⟨g,0,none⟩) s.length c] wy fun e w'=>Ee g (J4 s) e∧Below wy.heap.size wy w') (fun wy g c h1 h2 h3=>EP h1 s g c h2 (by omega) (by omega) h3);obtain⟨hv,aJ⟩:=hp.head;have F:=Qa aJ;have Y:=Qa (HS.o.CI hp.below);have ac:=aJ.lt;have a9:=hp.low;rw[←aL]at n;clear aJ ao aL hread;have aY:s.length≤4096:=by omega
  have bk:=Qa aN;clear aN;cases hsec:J4 s with
  |none=>
   have W:=@Qa (∀wy g c,J9 wy→Kb wy (some ⟨g,0,none⟩) s→s.length≤c→Calls prog 173 #[.slice (some ⟨g,0,none⟩) s.length c] wy fun e w'=>e=.returned (.tuple #[.agg #[.int .u8 0,.int .i64 0,.int .u64 0,.bool false,.slice none 0 0],.bool false])∧Below wy.heap.size wy w') (fun wy g c h1 h2 h3=>by
    have:=a8.o wy g c h1 h2 h3;rw[hsec]at this;exact this)
   rw[hsec]at n;clear a8 hsec;by_cases hj0:j=0
   ·have ax:((j:Int)==0)=true:=by simp;omega
    by_cases hpt:p=true
    ·subst hpt;rw[if_pos ⟨hj0,rfl⟩]at n;subst n;clear hp hj0
     go_wp2_with (first
      |(go_at_call 171;refine P.o.mono ?_;rintro e' w2 ⟨⟨g,c,rfl,D,I⟩,y⟩;(have C:=Qa D);(have b:=Qa y);clear D y)
      |(go_at_call 172;refine(ae.o w2 g c C.o).mono ?_;rintro e' w' ⟨rfl,rfl⟩))
     exact bodyPost_ret (Jr rfl _ _ _) rfl ⟨.inr ⟨by decide,rfl⟩,HP.o.below.trans (b.o.mono E)⟩
    have aA:p=false:=by simpa using hpt
    subst aA;rw[if_neg (by simp)]at n;subst n;clear hp hj0;have HI:Qb ((prog.info? 275).map (·.size)=some JD.size):=Ws;have H1:Qb (JD.all (·.oneCell')=true):=by show JD.all (·.oneCell')=true;simp[JD,Value.oneCell']
    go_wp2_with (first
     |(go_at_call 171;refine P.o.mono ?_;rintro e' w2 ⟨⟨g,c,rfl,D,I⟩,y⟩;(have C:=Qa D);(have b:=Qa y);clear D y)
     |(go_at_call 172;refine(ae.o w2 g c C.o).mono ?_;rintro e' w' ⟨rfl,rfl⟩)
     |(go_at_call 173;refine(W.o w2 g c (Y.o.below b.o) C.o I).mono ?_;rintro e' w3 ⟨rfl,u⟩;(have Q:=@Qa (Qh w3 G 275 (P8 hd hv)) ((F.o.below b.o F.o.lt).below u (Nat.lt_of_lt_of_le F.o.lt b.o.size)));(have z:=Qa (b.o.trans (u.mono b.o.size)));clear u)
     |(refine wpList_load_row rfl 275 _ rfl w3.heap.size rfl 275 JD (0,0) _ (Qh.new w3 275 JD) underlying275 rfl HI.o ?_)
     |(refine wpList_store_row rfl 275 _ _ rfl G JD rfl rfl 275 (P8 hd hv) (Q.o.alloc _) HI.o rfl H1.o ?_))
    exact bodyPost_ret (Jr rfl _ _ _) rfl ⟨.inr ⟨by decide,rfl⟩,(HP.o.below.trans ((z.o.alloc z.o.size _).mono E)).trans (Qg (Qm _ _ _) (by have:=z.o.size;simp;omega) (gB (by omega)))⟩
   have ax:((j:Int)==0)=false:=by simp;omega
   rw[if_neg (by simp[hj0])]at n;subst n;clear hp
   go_wp2_with (first
    |(go_at_call 171;refine P.o.mono ?_;rintro e' w2 ⟨⟨g,c,rfl,D,I⟩,y⟩;(have C:=Qa D);(have b:=Qa y);clear D y)
    |(go_at_call 172;refine(ae.o w2 g c C.o).mono ?_;rintro e' w' ⟨rfl,rfl⟩)
    |(go_at_call 173;refine(W.o w2 g c (Y.o.below b.o) C.o I).mono ?_;rintro e' w3 ⟨rfl,u⟩;(have Q:=@Qa (Qh w3 G 275 (P8 hd hv)) ((F.o.below b.o F.o.lt).below u (Nat.lt_of_lt_of_le F.o.lt b.o.size)));(have z:=Qa (b.o.trans (u.mono b.o.size)));clear u))
   exact bodyPost_ret (Jr rfl _ _ _) rfl ⟨.inr ⟨by decide,rfl⟩,HP.o.below.trans ((z.o.alloc z.o.size _).mono E)⟩
  |some x=>
   obtain⟨x1,x2,x3,x4,x5⟩:=UI hsec;obtain⟨xm,hxm⟩:∃xm:Int,xm=IntKind.i64.wrap x.mark:=⟨_,rfl⟩
   have W:=@Qa (∀wy g c,J9 wy→Kb wy (some ⟨g,0,none⟩) s→s.length≤c→Calls prog 173 #[.slice (some ⟨g,0,none⟩) s.length c] wy fun e w'=>(∃c',e=.returned (.tuple #[.agg #[.int .u8 x.kind,.int .i64 xm,.int .u64 x.left,.bool x.first,.slice (some ⟨g,14,none⟩) x.bytes.length c'],.bool true])∧x.bytes.length≤c')∧Below wy.heap.size wy w') (fun wy g c h1 h2 h3=>by
    have:=a8.o wy g c h1 h2 h3;rw[hsec]at this;rw[hxm];exact this)
   rw[hsec]at n;have a7:=Qa hsec;have aM:=Qa hxm;clear a8 hsec hxm;by_cases hj0:j=0
   ·have ax:((j:Int)==0)=true:=by simp;omega
    by_cases hpt:p=true
    ·subst hpt;rw[if_pos ⟨hj0,rfl⟩]at n;subst n;clear hp hj0
     go_wp2_with (first
      |(go_at_call 171;refine P.o.mono ?_;rintro e' w2 ⟨⟨g,c,rfl,D,I⟩,y⟩;(have C:=Qa D);(have b:=Qa y);clear D y)
      |(go_at_call 172;refine(ae.o w2 g c C.o).mono ?_;rintro e' w' ⟨rfl,rfl⟩))
     exact bodyPost_ret (Jr rfl _ _ _) rfl ⟨.inr ⟨by decide,rfl⟩,HP.o.below.trans (b.o.mono E)⟩
    have aA:p=false:=by simpa using hpt
    subst aA;rw[if_neg (by simp)]at n;simp only at n;by_cases hxf:x.first=false
    ·rw[if_pos ⟨hj0,hxf⟩]at n;subst n;clear hp hj0
     go_wp2_with (first
      |(go_at_call 171;refine P.o.mono ?_;rintro e' w2 ⟨⟨g,c,rfl,D,I⟩,y⟩;(have C:=Qa D);(have b:=Qa y);clear D y)
      |(go_at_call 172;refine(ae.o w2 g c C.o).mono ?_;rintro e' w' ⟨rfl,rfl⟩)
      |(go_at_call 173;refine(W.o w2 g c (Y.o.below b.o) C.o I).mono ?_;rintro e' w3 ⟨⟨c',rfl,af⟩,u⟩;(have Q:=@Qa (Qh w3 G 275 (P8 hd hv)) ((F.o.below b.o F.o.lt).below u (Nat.lt_of_lt_of_le F.o.lt b.o.size)));(have J:=Qa (C.o.below u));(have z:=Qa (b.o.trans (u.mono b.o.size)));clear u))
     exact bodyPost_ret (Jr rfl _ _ _) rfl ⟨.inr ⟨by decide,rfl⟩,HP.o.below.trans ((z.o.alloc z.o.size _).mono E)⟩
    have aW:x.first=true:=by simpa using hxf
    rw[if_neg (by simp[aW]),if_neg (by omega)]at n;simp only[if_pos hj0]at n;have aV:decide (0<(j:Int))=false:=by simp;omega
    have ay:q.length=0:=by have:=hp.Yp;omega
    have ba:=Qa hj0;have aU:=Qa ay;have a0:=Qa n;have HI:∀g c',Qb ((prog.info? 275).map (·.size)=some (#[.int .u8 x.kind,.int .i64 xm,.int .u64 x.left,.bool true,.slice (some ⟨g,14,none⟩) x.bytes.length c']:Array Value).size):=fun _ _=>Ws
    have H1:∀g c',Qb ((#[.int .u8 x.kind,.int .i64 xm,.int .u64 x.left,.bool true,.slice (some ⟨g,14,none⟩) x.bytes.length c']:Array Value).all (·.oneCell')=true):=fun g c'=>by show(#[.int .u8 x.kind,.int .i64 xm,.int .u64 x.left,.bool true,.slice (some ⟨g,14,none⟩) x.bytes.length c']:Array Value).all (·.oneCell')=true;simp[Value.oneCell']
    have az:=@Qa (Calls prog 171 #[.pointer (some ⟨B,0,none⟩),.int .i64 (a:Nat)] wr fun e' w'=>(∃g c,e'=.returned (.tuple #[.slice (some ⟨g,0,none⟩) s.length c,.int .i64 0])∧Kb w' (some ⟨g,0,none⟩) s∧s.length≤c)∧Below wr.heap.size wr w') (by have h:=P.o;rw[hj0,Int.natCast_zero,Int.add_zero]at h;exact h);subst hj0;clear hp hxf n ay P ba aV ax;generalize hRD:az=P;clear hRD az
    go_upto_region 21 with(first
     |(go_at_call 171;refine P.o.mono ?_;rintro e' w2 ⟨⟨g,c,rfl,D,I⟩,y⟩;(have C:=Qa D);(have b:=Qa y);clear D y)
     |(go_at_call 172;refine(ae.o w2 g c C.o).mono ?_;rintro e' w' ⟨rfl,rfl⟩)
     |(go_at_call 173;refine(W.o w2 g c (Y.o.below b.o) C.o I).mono ?_;rintro e' w3 ⟨⟨c',rfl,af⟩,u⟩;(have Q:=@Qa (Qh w3 G 275 (P8 hd hv)) ((F.o.below b.o F.o.lt).below u (Nat.lt_of_lt_of_le F.o.lt b.o.size)));(have J:=Qa (C.o.below u));(have z:=Qa (b.o.trans (u.mono b.o.size)));clear u))
    have N:Qh (w3.alloc (.cells #[.int .u8 x.kind,.int .i64 xm,.int .u64 x.left,.bool true,.slice (some ⟨g,14,none⟩) x.bytes.length c'] 275)) w3.heap.size 275 #[.int .u8 x.kind,.int .i64 xm,.int .u64 x.left,.bool true,.slice (some ⟨g,14,none⟩) x.bytes.length c']:=Qh.new w3 275 _;have K:Qh (w3.alloc (.cells #[.int .u8 x.kind,.int .i64 xm,.int .u64 x.left,.bool true,.slice (some ⟨g,14,none⟩) x.bytes.length c'] 275)) G 275 (P8 hd hv):=Q.o.alloc _;have M:Below wr.heap.size wr (w3.alloc (.cells #[.int .u8 x.kind,.int .i64 xm,.int .u64 x.left,.bool true,.slice (some ⟨g,14,none⟩) x.bytes.length c'] 275)):=z.o.alloc z.o.size _;have L:Kb (w3.alloc (.cells #[.int .u8 x.kind,.int .i64 xm,.int .u64 x.left,.bool true,.slice (some ⟨g,14,none⟩) x.bytes.length c'] 275)) (some ⟨g,0,none⟩) s:=J.o.below (bR.alloc nR _);have aw:G<w3.heap.size:=Nat.lt_of_lt_of_le ac z.o.size;generalize w3.alloc (.cells #[.int .u8 x.kind,.int .i64 xm,.int .u64 x.left,.bool true,.slice (some ⟨g,14,none⟩) x.bytes.length c'] 275)=w4 at*
    generalize w3.heap.size=X at*
    have T:=Qa N;have R:=Qa K;have O:=Qa M;have a4:=Qa L;clear N K M L
    go_upto_region 22 with(first
     |(refine wpList_load_row rfl 275 _ rfl X rfl 275 #[.int .u8 x.kind,.int .i64 xm,.int .u64 x.left,.bool true,.slice (some ⟨g,14,none⟩) x.bytes.length c'] (0,0) _ T.o underlying275 rfl (HI g c').o ?_)
     |(refine wpList_store_row rfl 275 _ _ rfl G #[.int .u8 x.kind,.int .i64 xm,.int .u64 x.left,.bool true,.slice (some ⟨g,14,none⟩) x.bytes.length c'] rfl rfl 275 (P8 hd hv) R.o (HI g c').o rfl (H1 g c').o ?_))
    have aR:Qh (w4.setRow G #[.int .u8 x.kind,.int .i64 xm,.int .u64 x.left,.bool true,.slice (some ⟨g,14,none⟩) x.bytes.length c']) G 275 #[.int .u8 x.kind,.int .i64 xm,.int .u64 x.left,.bool true,.slice (some ⟨g,14,none⟩) x.bytes.length c']:=Qp R.o _;have aS:Qh (w4.setRow G #[.int .u8 x.kind,.int .i64 xm,.int .u64 x.left,.bool true,.slice (some ⟨g,14,none⟩) x.bytes.length c']) X 275 #[.int .u8 x.kind,.int .i64 xm,.int .u64 x.left,.bool true,.slice (some ⟨g,14,none⟩) x.bytes.length c']:=T.o.grown (Qm _ _ _) (by intro e;injection e with e;omega);have aX:Below w.heap.size w (w4.setRow G #[.int .u8 x.kind,.int .i64 xm,.int .u64 x.left,.bool true,.slice (some ⟨g,14,none⟩) x.bytes.length c']):=(HP.o.below.trans (O.o.mono E)).trans (Qg (Qm _ _ _) (by have:=O.o.size;omega) (gB (by omega)));have aT:Qd w.heap.size [275] wr (w4.setRow G #[.int .u8 x.kind,.int .i64 xm,.int .u64 x.left,.bool true,.slice (some ⟨g,14,none⟩) x.bytes.length c']):=(Qd.Qe O.o E).trans (Qd.JY (Qm _ _ _) (by have:=O.o.size;omega) (fun k hk=>by injection hk with hk;subst hk;exact⟨a9,fun t ht=>by rw[R.o.ty]at ht;injection ht with ht;simp[←ht]⟩));have V:=Qa (QF HP.o.own aT (by decide));have aP:Kb (w4.setRow G #[.int .u8 x.kind,.int .i64 xm,.int .u64 x.left,.bool true,.slice (some ⟨g,14,none⟩) x.bytes.length c']) (some ⟨g,0,none⟩) s:=a4.o.keeps (base:=w.heap.size) (ts:=[275]) (Qd.JY (Qm _ _ _) (by have:=O.o.size;omega) (fun k hk=>by injection hk with hk;subst hk;exact⟨a9,fun t ht=>by rw[R.o.ty]at ht;injection ht with ht;simp[←ht]⟩)) (by decide);generalize w4.setRow G #[.int .u8 x.kind,.int .i64 xm,.int .u64 x.left,.bool true,.slice (some ⟨g,14,none⟩) x.bytes.length c']=w5 at*
    have ah:=Qa aR;have an:=Qa aS;have a3:=Qa aX;have av:x.bytes=(s.drop 14).take x.bytes.length:=I3 a7.o;have a6:=(aP.sub (i:=14) (k:=x.bytes.length) (Ra a7.o)).rd;rw[Nat.zero_add,←av]at a6;have aj:=Qa a6;have ar:=Qa HP.o.Yp;have aO:q.length≤268435456:=by have:=HP.o.Yp;omega
    clear aR aS aX aT aP a6 av;have bb:x.bytes.length≤x.left:=x4;have b9:x.bytes.length≤4096:=by omega
    have c4:w5.cell? ⟨X,4,none⟩=some (.slice (some ⟨g,14,none⟩) x.bytes.length c'):=an.o.cell 4;have aZ:=an.o.lt;obtain⟨i5,aE,aH,aK,aI⟩:=info_parts Tu;go_upto_region 24 with fail;go_upto_region 25 with(at_builtin;refine Qv _ rfl _ _ 43 rfl w.heap.size 5 i5 _ 1 1 VI aE aH aK aI rfl (by decide) u12 q.length (q.map Ks) rfl V.o (some ⟨g,14,none⟩) x.bytes.length c' _ (x.bytes.map Ks) rfl aj.o (Oo _) (by unfold maxLen;omega) (by omega) a3.o.size ?_;intro A9 c9 w9 hown9 hgrow9 hnc9 _;(have al:=Qa hown9);(have a1:=Qa hgrow9);clear hown9 hgrow9);have S:=ah.o.grown a1.o (Xl V.o ah.o (by decide));have au:Below w.heap.size w w9:=a3.o.trans (Qg a1.o a3.o.size (fun k hk=>(V.o.lt k hk).1));have g0:w9.cell? ⟨G,0,none⟩=some (.int .u8 x.kind):=S.cell 0;have g1:w9.cell? ⟨G,1,none⟩=some (.int .i64 xm):=S.cell 1;have g2:w9.cell? ⟨G,2,none⟩=some (.int .u64 x.left):=S.cell 2;have b8:=S.lt;have aG:=Qa S;have aq:=Qa au;clear S au c4;have H:(q++x.bytes).length=q.length+x.bytes.length:=List.length_append;have U:=@Qa (w9.ownsRow w.heap.size 5 1 (.slice A9 (q.length+x.bytes.length) c9) (q++x.bytes).length ((q++x.bytes).map Ks)) (by rw[H,List.map_append];exact al.o);by_cases hq:q.length+x.bytes.length=x.left
    ·have Z:r=(0,⟨x.kind,x.mark,q++x.bytes,0+1⟩):=by rw[a0.o,if_pos (by rw[H];exact hq)]
     subst Z;have aB:(((q.length+x.bytes.length:Nat):Int)==(x.left:Nat))=true:=by simp;omega
     have ak:((q.length:Int)+(x.bytes.length:Int)==(x.left:Nat))=true:=by simp;omega
     clear H hq;go_upto_region 26 with fail
     go_quiet (fail)
     go_wp2_with fail;refine bodyPost_ret (Jr rfl _ _ _) rfl ⟨.inl ⟨rfl,.slice A9 (q.length+x.bytes.length) c9, ?_,U.o⟩,QK aq.o _⟩;rw[←aM.o];rfl
    have Z:r=Va d a k (0+1) x (q++x.bytes):=by rw[a0.o,if_neg (by rw[H];exact hq)]
    have aD:=Qa Z;have aB:(((q.length+x.bytes.length:Nat):Int)==(x.left:Nat))=false:=by simp;omega
    have ak:((q.length:Int)+(x.bytes.length:Int)==(x.left:Nat))=false:=by simp;omega
    have HQ:=Qa hq;have a2:=Qa H;clear H Z hq;go_wp2_with fail;go_roundw
    case rel=>
     refine⟨0+1,q++x.bytes,x,by omega,by go_num,aq.o,a9,⟨_,by have:=aG.o;rw[aM.o,←aW]at this;exact this⟩, ?_, ?_, ?_, ?_, ?_, ?_⟩
     ·exact U.o
     ·rw[aD.o];congr 1;omega
     ·rw[a2.o];have:=ar.o;omega
     ·intro _;rw[a2.o];have:=aU.o;omega
     ·exact x2
     exact x3
    case measure=>simp[intOf];omega
   have ax:((j:Int)==0)=false:=by simp;omega
   have bi:(0:Int)<j:=by omega
   rw[if_neg (by simp[hj0])]at n;simp only at n;rw[if_neg (by simp[hj0])]at n;simp only[if_neg hj0]at n;obtain⟨A0,c0,rfl,bm⟩:=Jg hp.own;obtain⟨hm,hhm⟩:∃hm:Int,hm=IntKind.i64.wrap hd.mark:=⟨_,rfl⟩;have a5:=Qa hhm;have ag:xm=hm↔x.mark=hd.mark:=by
    rw[aM.o,hhm,IntKind.wrap_i64,IntKind.wrap_i64];have:=hp.m64;omega
   have bc:=hp.left (by omega);have bf:(q.length:Int)≤hd.left:=by omega
   have bg:=hp.Br;clear hhm;by_cases b1:x.first=true
   ·rw[if_pos ⟨by omega,.inl b1⟩]at n;subst n;clear hp
    go_upto_region 18 with(first
     |(go_at_call 171;refine P.o.mono ?_;rintro e' w2 ⟨⟨g,c,rfl,D,I⟩,y⟩;(have C:=Qa D);(have b:=Qa y);clear D y)
     |(go_at_call 173;refine(W.o w2 g c (Y.o.below b.o) C.o I).mono ?_;rintro e' w3 ⟨⟨c',rfl,af⟩,u⟩;(have Q:=@Qa (Qh w3 G 275 (P8 hd hv)) ((F.o.below b.o F.o.lt).below u (Nat.lt_of_lt_of_le F.o.lt b.o.size)));(have J:=Qa (C.o.below u));(have z:=Qa (b.o.trans (u.mono b.o.size)));clear u))
    have N:Qh (w3.alloc (.cells #[.int .u8 x.kind,.int .i64 xm,.int .u64 x.left,.bool true,.slice (some ⟨g,14,none⟩) x.bytes.length c'] 275)) w3.heap.size 275 #[.int .u8 x.kind,.int .i64 xm,.int .u64 x.left,.bool true,.slice (some ⟨g,14,none⟩) x.bytes.length c']:=Qh.new w3 275 _;have K:Qh (w3.alloc (.cells #[.int .u8 x.kind,.int .i64 xm,.int .u64 x.left,.bool true,.slice (some ⟨g,14,none⟩) x.bytes.length c'] 275)) G 275 (P8 hd hv):=Q.o.alloc _;have M:Below wr.heap.size wr (w3.alloc (.cells #[.int .u8 x.kind,.int .i64 xm,.int .u64 x.left,.bool true,.slice (some ⟨g,14,none⟩) x.bytes.length c'] 275)):=z.o.alloc z.o.size _;have L:Kb (w3.alloc (.cells #[.int .u8 x.kind,.int .i64 xm,.int .u64 x.left,.bool true,.slice (some ⟨g,14,none⟩) x.bytes.length c'] 275)) (some ⟨g,0,none⟩) s:=J.o.below (bR.alloc nR _);have aw:G<w3.heap.size:=Nat.lt_of_lt_of_le ac z.o.size;generalize w3.alloc (.cells #[.int .u8 x.kind,.int .i64 xm,.int .u64 x.left,.bool true,.slice (some ⟨g,14,none⟩) x.bytes.length c'] 275)=w5 at*
    generalize w3.heap.size=X at*
    have T:=Qa N;have R:=Qa K;have O:=Qa M;have a4:=Qa L;clear N K M L;have f:=T.o;have l:=R.o;have x0:w5.cell? ⟨X,0,none⟩=some (.int .u8 x.kind):=f.cell 0;have ap:w5.cell? ⟨X,1,none⟩=some (.int .i64 xm):=f.cell 1;have am:w5.cell? ⟨X,2,none⟩=some (.int .u64 x.left):=f.cell 2;have ai:w5.cell? ⟨X,3,none⟩=some (.bool true):=f.cell 3;have y0:w5.cell? ⟨G,0,none⟩=some (.int .u8 hd.kind):=l.cell 0;have y1:w5.cell? ⟨G,1,none⟩=some (.int .i64 hm):=by rw[a5.o];exact l.cell 1
    have y2:w5.cell? ⟨G,2,none⟩=some (.int .u64 hd.left):=l.cell 2;have ab:=f.lt;have aa:=l.lt;clear f l;go_wp2_with fail;exact bodyPost_ret (Jr rfl _ _ _) rfl ⟨.inr ⟨by decide,rfl⟩,HP.o.below.trans (O.o.mono E)⟩
   have b6:x.first=false:=by simpa using b1
   by_cases b2:x.kind=hd.kind
   ·have e2:((x.kind:Int) != (hd.kind:Int))=false:=by simp;omega
    by_cases b3:x.mark=hd.mark
    ·have e3:(xm != hm)=false:=by simp;exact ag.2 b3
     by_cases b4:x.left+q.length=hd.left
     ·have e4:((x.left:Int) != (hd.left:Int)-(q.length:Int))=false:=by simp;omega
      rw[if_neg (by simp[b6,b2,b3,b4])]at n;have a0:=Qa n;have b5:=Qa b4;clear hp n b1 b2 b3 b4 ag
      go_upto_region 18 with(first
       |(go_at_call 171;refine P.o.mono ?_;rintro e' w2 ⟨⟨g,c,rfl,D,I⟩,y⟩;(have C:=Qa D);(have b:=Qa y);clear D y)
       |(go_at_call 173;refine(W.o w2 g c (Y.o.below b.o) C.o I).mono ?_;rintro e' w3 ⟨⟨c',rfl,af⟩,u⟩;(have Q:=@Qa (Qh w3 G 275 (P8 hd hv)) ((F.o.below b.o F.o.lt).below u (Nat.lt_of_lt_of_le F.o.lt b.o.size)));(have J:=Qa (C.o.below u));(have z:=Qa (b.o.trans (u.mono b.o.size)));clear u))
      have N:Qh (w3.alloc (.cells #[.int .u8 x.kind,.int .i64 xm,.int .u64 x.left,.bool false,.slice (some ⟨g,14,none⟩) x.bytes.length c'] 275)) w3.heap.size 275 #[.int .u8 x.kind,.int .i64 xm,.int .u64 x.left,.bool false,.slice (some ⟨g,14,none⟩) x.bytes.length c']:=Qh.new w3 275 _;have K:Qh (w3.alloc (.cells #[.int .u8 x.kind,.int .i64 xm,.int .u64 x.left,.bool false,.slice (some ⟨g,14,none⟩) x.bytes.length c'] 275)) G 275 (P8 hd hv):=Q.o.alloc _;have M:Below wr.heap.size wr (w3.alloc (.cells #[.int .u8 x.kind,.int .i64 xm,.int .u64 x.left,.bool false,.slice (some ⟨g,14,none⟩) x.bytes.length c'] 275)):=z.o.alloc z.o.size _;have L:Kb (w3.alloc (.cells #[.int .u8 x.kind,.int .i64 xm,.int .u64 x.left,.bool false,.slice (some ⟨g,14,none⟩) x.bytes.length c'] 275)) (some ⟨g,0,none⟩) s:=J.o.below (bR.alloc nR _);have aw:G<w3.heap.size:=Nat.lt_of_lt_of_le ac z.o.size;generalize w3.alloc (.cells #[.int .u8 x.kind,.int .i64 xm,.int .u64 x.left,.bool false,.slice (some ⟨g,14,none⟩) x.bytes.length c'] 275)=w5 at*
      generalize w3.heap.size=X at*
      have T:=Qa N;have R:=Qa K;have O:=Qa M;have a4:=Qa L;clear N K M L;have f:=T.o;have l:=R.o;have x0:w5.cell? ⟨X,0,none⟩=some (.int .u8 x.kind):=f.cell 0;have ap:w5.cell? ⟨X,1,none⟩=some (.int .i64 xm):=f.cell 1;have am:w5.cell? ⟨X,2,none⟩=some (.int .u64 x.left):=f.cell 2;have ai:w5.cell? ⟨X,3,none⟩=some (.bool false):=f.cell 3;have y0:w5.cell? ⟨G,0,none⟩=some (.int .u8 hd.kind):=l.cell 0;have y1:w5.cell? ⟨G,1,none⟩=some (.int .i64 hm):=by rw[a5.o];exact l.cell 1
      have y2:w5.cell? ⟨G,2,none⟩=some (.int .u64 hd.left):=l.cell 2;have ab:=f.lt;have aa:=l.lt;clear f l;go_upto_region 24 with fail;have ah:=R;have an:=T;have a3:=Qa (HP.o.below.trans (O.o.mono E));have V:=Qa (QF HP.o.own (Qd.Qe (base:=w.heap.size) (ts:=[]) O.o E) (by simp));have av:x.bytes=(s.drop 14).take x.bytes.length:=I3 a7.o;have a6:=(a4.o.sub (i:=14) (k:=x.bytes.length) (Ra a7.o)).rd;rw[Nat.zero_add,←av]at a6;have aj:=Qa a6;have ar:=Qa HP.o.Yp;have aO:q.length≤268435456:=by have:=HP.o.Yp;omega
      clear a6 av x0 ap am ai y0 y1 y2;have bb:x.bytes.length≤x.left:=x4;have b9:x.bytes.length≤4096:=by omega
      have c4:w5.cell? ⟨X,4,none⟩=some (.slice (some ⟨g,14,none⟩) x.bytes.length c'):=an.o.cell 4;have aZ:=an.o.lt;obtain⟨i5,aE,aH,aK,aI⟩:=info_parts Tu;go_upto_region 25 with(at_builtin;refine Qv _ rfl _ _ 43 rfl w.heap.size 5 i5 _ 1 1 VI aE aH aK aI rfl (by decide) (.slice A0 q.length c0) q.length (q.map Ks) rfl V.o (some ⟨g,14,none⟩) x.bytes.length c' _ (x.bytes.map Ks) rfl aj.o (Oo _) (by unfold maxLen;omega) (by omega) a3.o.size ?_;intro A9 c9 w9 hown9 hgrow9 hnc9 _;(have al:=Qa hown9);(have a1:=Qa hgrow9);clear hown9 hgrow9);have S:=ah.o.grown a1.o (Xl V.o ah.o (by decide));have au:Below w.heap.size w w9:=a3.o.trans (Qg a1.o a3.o.size (fun k hk=>(V.o.lt k hk).1));have g0:w9.cell? ⟨G,0,none⟩=some (.int .u8 hd.kind):=S.cell 0;have g1:w9.cell? ⟨G,1,none⟩=some (.int .i64 hm):=by rw[a5.o];exact S.cell 1
      have g2:w9.cell? ⟨G,2,none⟩=some (.int .u64 hd.left):=S.cell 2;have b8:=S.lt;have aG:=Qa S;have aq:=Qa au;clear S au c4;have H:(q++x.bytes).length=q.length+x.bytes.length:=List.length_append;have U:=@Qa (w9.ownsRow w.heap.size 5 1 (.slice A9 (q.length+x.bytes.length) c9) (q++x.bytes).length ((q++x.bytes).map Ks)) (by rw[H,List.map_append];exact al.o);by_cases hq:q.length+x.bytes.length=hd.left
      ·have Z:r=(0,⟨hd.kind,hd.mark,q++x.bytes,j+1⟩):=by rw[a0.o,if_pos (by rw[H];exact hq)]
       subst Z;have aB:(((q.length+x.bytes.length:Nat):Int)==(hd.left:Nat))=true:=by simp;omega
       have ak:((q.length:Int)+(x.bytes.length:Int)==(hd.left:Nat))=true:=by simp;omega
       clear H hq;go_upto_region 26 with fail
       go_quiet (fail)
       go_wp2_with fail;refine bodyPost_ret (Jr rfl _ _ _) rfl ⟨.inl ⟨rfl,.slice A9 (q.length+x.bytes.length) c9, ?_,U.o⟩,QK aq.o _⟩;rw[←a5.o];rfl
      have Z:r=Va d a k (j+1) hd (q++x.bytes):=by rw[a0.o,if_neg (by rw[H];exact hq)]
      have aD:=Qa Z;have aB:(((q.length+x.bytes.length:Nat):Int)==(hd.left:Nat))=false:=by simp;omega
      have ak:((q.length:Int)+(x.bytes.length:Int)==(hd.left:Nat))=false:=by simp;omega
      have HQ:=Qa hq;have a2:=Qa H;clear H Z hq;go_wp2_with fail;go_roundw
      case rel=>
       refine⟨j+1,q++x.bytes,hd,by omega,by go_num,aq.o,a9,⟨_,aG.o⟩, ?_, ?_, ?_, ?_, ?_, ?_⟩
       ·exact U.o
       ·rw[aD.o];congr 1;omega
       ·rw[a2.o];have:=ar.o;omega
       ·intro _;rw[a2.o];have:=b5.o;omega
       ·exact HP.o.m64
       exact HP.o.Br
      case measure=>simp[intOf];omega
     have e4:((x.left:Int) != (hd.left:Int)-(q.length:Int))=true:=by simp;omega
     rw[if_pos ⟨by omega,.inr (.inr (.inr b4))⟩]at n;subst n;clear hp b1 b2 b3 b4 ag
     go_upto_region 18 with(first
      |(go_at_call 171;refine P.o.mono ?_;rintro e' w2 ⟨⟨g,c,rfl,D,I⟩,y⟩;(have C:=Qa D);(have b:=Qa y);clear D y)
      |(go_at_call 173;refine(W.o w2 g c (Y.o.below b.o) C.o I).mono ?_;rintro e' w3 ⟨⟨c',rfl,af⟩,u⟩;(have Q:=@Qa (Qh w3 G 275 (P8 hd hv)) ((F.o.below b.o F.o.lt).below u (Nat.lt_of_lt_of_le F.o.lt b.o.size)));(have J:=Qa (C.o.below u));(have z:=Qa (b.o.trans (u.mono b.o.size)));clear u))
     have N:Qh (w3.alloc (.cells #[.int .u8 x.kind,.int .i64 xm,.int .u64 x.left,.bool false,.slice (some ⟨g,14,none⟩) x.bytes.length c'] 275)) w3.heap.size 275 #[.int .u8 x.kind,.int .i64 xm,.int .u64 x.left,.bool false,.slice (some ⟨g,14,none⟩) x.bytes.length c']:=Qh.new w3 275 _;have K:Qh (w3.alloc (.cells #[.int .u8 x.kind,.int .i64 xm,.int .u64 x.left,.bool false,.slice (some ⟨g,14,none⟩) x.bytes.length c'] 275)) G 275 (P8 hd hv):=Q.o.alloc _;have M:Below wr.heap.size wr (w3.alloc (.cells #[.int .u8 x.kind,.int .i64 xm,.int .u64 x.left,.bool false,.slice (some ⟨g,14,none⟩) x.bytes.length c'] 275)):=z.o.alloc z.o.size _;have L:Kb (w3.alloc (.cells #[.int .u8 x.kind,.int .i64 xm,.int .u64 x.left,.bool false,.slice (some ⟨g,14,none⟩) x.bytes.length c'] 275)) (some ⟨g,0,none⟩) s:=J.o.below (bR.alloc nR _);have aw:G<w3.heap.size:=Nat.lt_of_lt_of_le ac z.o.size;generalize w3.alloc (.cells #[.int .u8 x.kind,.int .i64 xm,.int .u64 x.left,.bool false,.slice (some ⟨g,14,none⟩) x.bytes.length c'] 275)=w5 at*
     generalize w3.heap.size=X at*
     have T:=Qa N;have R:=Qa K;have O:=Qa M;have a4:=Qa L;clear N K M L;have f:=T.o;have l:=R.o;have x0:w5.cell? ⟨X,0,none⟩=some (.int .u8 x.kind):=f.cell 0;have ap:w5.cell? ⟨X,1,none⟩=some (.int .i64 xm):=f.cell 1;have am:w5.cell? ⟨X,2,none⟩=some (.int .u64 x.left):=f.cell 2;have ai:w5.cell? ⟨X,3,none⟩=some (.bool false):=f.cell 3;have y0:w5.cell? ⟨G,0,none⟩=some (.int .u8 hd.kind):=l.cell 0;have y1:w5.cell? ⟨G,1,none⟩=some (.int .i64 hm):=by rw[a5.o];exact l.cell 1
     have y2:w5.cell? ⟨G,2,none⟩=some (.int .u64 hd.left):=l.cell 2;have ab:=f.lt;have aa:=l.lt;clear f l;go_wp2_with fail;exact bodyPost_ret (Jr rfl _ _ _) rfl ⟨.inr ⟨by decide,rfl⟩,HP.o.below.trans (O.o.mono E)⟩
    have e3:(xm != hm)=true:=by simp;exact fun h=>b3 (ag.1 h)
    rw[if_pos ⟨by omega,.inr (.inr (.inl b3))⟩]at n;subst n;clear hp b1 b2 b3 ag
    go_upto_region 18 with(first
     |(go_at_call 171;refine P.o.mono ?_;rintro e' w2 ⟨⟨g,c,rfl,D,I⟩,y⟩;(have C:=Qa D);(have b:=Qa y);clear D y)
     |(go_at_call 173;refine(W.o w2 g c (Y.o.below b.o) C.o I).mono ?_;rintro e' w3 ⟨⟨c',rfl,af⟩,u⟩;(have Q:=@Qa (Qh w3 G 275 (P8 hd hv)) ((F.o.below b.o F.o.lt).below u (Nat.lt_of_lt_of_le F.o.lt b.o.size)));(have J:=Qa (C.o.below u));(have z:=Qa (b.o.trans (u.mono b.o.size)));clear u))
    have N:Qh (w3.alloc (.cells #[.int .u8 x.kind,.int .i64 xm,.int .u64 x.left,.bool false,.slice (some ⟨g,14,none⟩) x.bytes.length c'] 275)) w3.heap.size 275 #[.int .u8 x.kind,.int .i64 xm,.int .u64 x.left,.bool false,.slice (some ⟨g,14,none⟩) x.bytes.length c']:=Qh.new w3 275 _;have K:Qh (w3.alloc (.cells #[.int .u8 x.kind,.int .i64 xm,.int .u64 x.left,.bool false,.slice (some ⟨g,14,none⟩) x.bytes.length c'] 275)) G 275 (P8 hd hv):=Q.o.alloc _;have M:Below wr.heap.size wr (w3.alloc (.cells #[.int .u8 x.kind,.int .i64 xm,.int .u64 x.left,.bool false,.slice (some ⟨g,14,none⟩) x.bytes.length c'] 275)):=z.o.alloc z.o.size _;have L:Kb (w3.alloc (.cells #[.int .u8 x.kind,.int .i64 xm,.int .u64 x.left,.bool false,.slice (some ⟨g,14,none⟩) x.bytes.length c'] 275)) (some ⟨g,0,none⟩) s:=J.o.below (bR.alloc nR _);have aw:G<w3.heap.size:=Nat.lt_of_lt_of_le ac z.o.size;generalize w3.alloc (.cells #[.int .u8 x.kind,.int .i64 xm,.int .u64 x.left,.bool false,.slice (some ⟨g,14,none⟩) x.bytes.length c'] 275)=w5 at*
    generalize w3.heap.size=X at*
    have T:=Qa N;have R:=Qa K;have O:=Qa M;have a4:=Qa L;clear N K M L;have f:=T.o;have l:=R.o;have x0:w5.cell? ⟨X,0,none⟩=some (.int .u8 x.kind):=f.cell 0;have ap:w5.cell? ⟨X,1,none⟩=some (.int .i64 xm):=f.cell 1;have am:w5.cell? ⟨X,2,none⟩=some (.int .u64 x.left):=f.cell 2;have ai:w5.cell? ⟨X,3,none⟩=some (.bool false):=f.cell 3;have y0:w5.cell? ⟨G,0,none⟩=some (.int .u8 hd.kind):=l.cell 0;have y1:w5.cell? ⟨G,1,none⟩=some (.int .i64 hm):=by rw[a5.o];exact l.cell 1
    have y2:w5.cell? ⟨G,2,none⟩=some (.int .u64 hd.left):=l.cell 2;have ab:=f.lt;have aa:=l.lt;clear f l;go_wp2_with fail;exact bodyPost_ret (Jr rfl _ _ _) rfl ⟨.inr ⟨by decide,rfl⟩,HP.o.below.trans (O.o.mono E)⟩
   have e2:((x.kind:Int) != (hd.kind:Int))=true:=by simp;omega
   rw[if_pos ⟨by omega,.inr (.inl b2)⟩]at n;subst n;clear hp b1 b2 ag
   go_upto_region 18 with(first
    |(go_at_call 171;refine P.o.mono ?_;rintro e' w2 ⟨⟨g,c,rfl,D,I⟩,y⟩;(have C:=Qa D);(have b:=Qa y);clear D y)
    |(go_at_call 173;refine(W.o w2 g c (Y.o.below b.o) C.o I).mono ?_;rintro e' w3 ⟨⟨c',rfl,af⟩,u⟩;(have Q:=@Qa (Qh w3 G 275 (P8 hd hv)) ((F.o.below b.o F.o.lt).below u (Nat.lt_of_lt_of_le F.o.lt b.o.size)));(have J:=Qa (C.o.below u));(have z:=Qa (b.o.trans (u.mono b.o.size)));clear u))
   have N:Qh (w3.alloc (.cells #[.int .u8 x.kind,.int .i64 xm,.int .u64 x.left,.bool false,.slice (some ⟨g,14,none⟩) x.bytes.length c'] 275)) w3.heap.size 275 #[.int .u8 x.kind,.int .i64 xm,.int .u64 x.left,.bool false,.slice (some ⟨g,14,none⟩) x.bytes.length c']:=Qh.new w3 275 _;have K:Qh (w3.alloc (.cells #[.int .u8 x.kind,.int .i64 xm,.int .u64 x.left,.bool false,.slice (some ⟨g,14,none⟩) x.bytes.length c'] 275)) G 275 (P8 hd hv):=Q.o.alloc _;have M:Below wr.heap.size wr (w3.alloc (.cells #[.int .u8 x.kind,.int .i64 xm,.int .u64 x.left,.bool false,.slice (some ⟨g,14,none⟩) x.bytes.length c'] 275)):=z.o.alloc z.o.size _;have L:Kb (w3.alloc (.cells #[.int .u8 x.kind,.int .i64 xm,.int .u64 x.left,.bool false,.slice (some ⟨g,14,none⟩) x.bytes.length c'] 275)) (some ⟨g,0,none⟩) s:=J.o.below (bR.alloc nR _);have aw:G<w3.heap.size:=Nat.lt_of_lt_of_le ac z.o.size;generalize w3.alloc (.cells #[.int .u8 x.kind,.int .i64 xm,.int .u64 x.left,.bool false,.slice (some ⟨g,14,none⟩) x.bytes.length c'] 275)=w5 at*
   generalize w3.heap.size=X at*
   have T:=Qa N;have R:=Qa K;have O:=Qa M;have a4:=Qa L;clear N K M L;have f:=T.o;have l:=R.o;have x0:w5.cell? ⟨X,0,none⟩=some (.int .u8 x.kind):=f.cell 0;have ap:w5.cell? ⟨X,1,none⟩=some (.int .i64 xm):=f.cell 1;have am:w5.cell? ⟨X,2,none⟩=some (.int .u64 x.left):=f.cell 2;have ai:w5.cell? ⟨X,3,none⟩=some (.bool false):=f.cell 3;have y0:w5.cell? ⟨G,0,none⟩=some (.int .u8 hd.kind):=l.cell 0;have y1:w5.cell? ⟨G,1,none⟩=some (.int .i64 hm):=by rw[a5.o];exact l.cell 1
   have y2:w5.cell? ⟨G,2,none⟩=some (.int .u64 hd.left):=l.cell 2;have ab:=f.lt;have aa:=l.lt;clear f l;go_wp2_with fail;exact bodyPost_ret (Jr rfl _ _ _) rfl ⟨.inr ⟨by decide,rfl⟩,HP.o.below.trans (O.o.mono E)⟩
def Jc(f:List (Nat × Nat)):List Value:=f.flatMap fun x=>[.int .i64 x.1,.int .i64 x.2]
theorem Vi(f:List (Nat × Nat)):(Jc f).length=f.length*2:=by
 induction f with
 |nil=>rfl
 |cons a f ih=>unfold Jc at ih ⊢;simp[List.flatMap_cons,ih];omega
theorem Vw(f g:List (Nat × Nat)):Jc (f++g)=Jc f++Jc g:=by unfold Jc;rw[List.flatMap_append]
theorem Sj(f:List (Nat × Nat))(i:Nat):(Jc f).take (i*2)=Jc (f.take i):=by
 have h:Jc f=Jc (f.take i)++Jc (f.drop i):=by rw[←Vw,List.take_append_drop]
 by_cases hi:i≤f.length
 ·rw[h,List.take_append_of_le_length (by rw[Vi,List.length_take];omega),List.take_of_length_le (by rw[Vi,List.length_take];omega)]
 rw[List.take_of_length_le (l:=f) (by omega),List.take_of_length_le (by rw[Vi];omega)]
theorem Ty(f:List (Nat × Nat))(i:Nat):(Jc f).drop (i*2)=Jc (f.drop i):=by
 have h:Jc f=Jc (f.take i)++Jc (f.drop i):=by rw[←Vw,List.take_append_drop]
 by_cases hi:i≤f.length
 ·rw[h,List.drop_append,List.drop_of_length_le (by rw[Vi,List.length_take];omega),Vi,List.length_take,Nat.min_eq_left hi,Nat.sub_self,List.drop_zero,List.nil_append]
 rw[List.drop_of_length_le (l:=f) (by omega),List.drop_of_length_le (by rw[Vi];omega)];rfl
theorem XQ:∀(f:List (Nat × Nat)),∀u∈Jc f,u.oneCell'=true:=by
 intro f u hu;unfold Jc at hu;obtain⟨x,_,hx⟩:=List.mem_flatMap.1 hu;simp at hx;rcases hx with rfl|rfl<;>rfl
structure KL (w:World) (base M:Nat) (m:Jt):Prop where
 low:base≤M
 Ky:m.Ky≤1048576
 sec:m.QJ≤1048576
 R6:∀x∈m.free,x.1+x.2≤4194304
 Yp:m.free.length≤4194304
 rep:∃A c,Qh w M 220 #[.int .i64 m.Ky,.int .i64 m.QJ,.slice A m.free.length c]∧m.free.length≤c∧Sl w 140 2 A m.free.length (Jc m.free)
variable {M base':Nat}
theorem KL.keeps{ts:List TypeId}{m:Jt}(h:KL w base M m)(k:Qd base' ts w w')(h1:220∉ts)(h2:140∉ts):KL w' base M m:=by
 obtain⟨a1,a2,a3,a4,a5,A,c,h3,h4,h6⟩:=h;exact⟨a1,a2,a3,a4,a5,A,c,h3.keeps k h1,h4,h6.keeps k h2⟩
theorem KL.below{m:Jt}(h:KL w base M m)(k:Below w.heap.size w w'):KL w' base M m:=h.keeps (ts:=[]) (Qd.Qe (base:=0) k (Nat.zero_le _)) (by simp) (by simp)
variable {A:Option Addr}
theorem Sl.TY{f:List (Nat × Nat)}(h:Sl w 140 2 A n (Jc f))(i:Nat)(hi:i<f.length)(hn:n=f.length):∃b o,A=some ⟨b,o,none⟩∧b<w.heap.size∧w.cell? ⟨b,o+i*2,none⟩=some (.int .i64 (f[i].1:Nat))∧w.cell? ⟨b,o+i*2+1,none⟩=some (.int .i64 (f[i].2:Nat)):=by
 obtain⟨b,o,rfl,hb,hc⟩:=h.1.2 (by omega);have hp:=Vf (fun x:Nat × Nat=>Value.int .i64 x.1) (fun x=>.int .i64 x.2) f i hi;obtain⟨p1,p2⟩:=hp;have l1:i*2<(Jc f).length:=by rw[Vi];omega
 have l2:i*2+1<(Jc f).length:=by rw[Vi];omega
 refine⟨b,o,rfl,hb, ?_, ?_⟩
 ·rw[hc _ l1,←p1];exact(List.getElem?_eq_getElem l1).symm
 rw[Nat.add_assoc,hc _ l2,←p2];exact(List.getElem?_eq_getElem l2).symm
theorem LO(a n:Nat)(ha:a≤1048576)(hn:n≤1048576)(w:World):
  Calls prog 58 #[.int .i64 a,.int .i64 n] w fun e w'=>(∃M,e=.returned (.tuple #[.pointer (some ⟨M,0,none⟩),.int .i64 0])∧KL w' w.heap.size M ⟨a,n,if 0<n then[(a,n)]else[]⟩)∧Below w.heap.size w w':=by
 by_cases h0:0<n
 ·have hq:(0:Int)<n:=by omega
  go_enter func58,ntmps58;go_wp2_with fail;go_ret2;have b1:Qh ((w.alloc (.cells #[.int .i64 a,.int .i64 n,.slice (some ⟨w.heap.size+1,0,none⟩) 1 1] 220)).alloc (.cells #[.int .i64 a,.int .i64 n] 140)) w.heap.size 220 #[.int .i64 a,.int .i64 n,.slice (some ⟨w.heap.size+1,0,none⟩) 1 1]:=(Qh.new w 220 _).alloc _;have b2:Qh ((w.alloc (.cells #[.int .i64 a,.int .i64 n,.slice (some ⟨w.heap.size+1,0,none⟩) 1 1] 220)).alloc (.cells #[.int .i64 a,.int .i64 n] 140)) (w.heap.size+1) 140 #[.int .i64 a,.int .i64 n]:=Qh.Qz (by simp);refine⟨⟨w.heap.size,rfl,⟨nR,ha,hn,by simp;omega,by simp,some ⟨w.heap.size+1,0,none⟩,1,b1,by simp, ?_⟩⟩,(bR.alloc nR _).alloc (by simp) _⟩;exact Sl.Ja b2 (by simp[Jc])
 obtain rfl:n=0:=by omega
 go_enter func58,ntmps58;go_wp2_with fail;go_ret2;refine⟨⟨w.heap.size,rfl,⟨nR,ha,by simp,by simp,by simp,none,0,Qh.Qz rfl,by simp,Sl.nil⟩⟩,bR.alloc nR _⟩
def NT(m:Jt)(a l:Int):Bool:=decide (1≤l)&&(decide (l≤m.QJ)&&(decide ((m.Ky:Int)≤a)&&decide (a-m.Ky≤m.QJ-l)))
variable {e o sz:Nat} {xs:List Value}
theorem Sl.part{b:Nat}(h:Sl w e sz (some ⟨b,o,none⟩) n xs)(i k:Nat)(hk:i+k≤n):Sl w e sz (some ⟨b,o+i*sz,none⟩) k ((xs.drop (i*sz)).take (k*sz)):=by
 have hl:=h.1.1;have h1:(i+k)*sz≤n*sz:=Nat.mul_le_mul_right _ hk;rw[Nat.add_mul]at h1;refine⟨⟨by rw[List.length_take,List.length_drop];omega,fun hn=> ?_⟩,fun hn a ha=> ?_⟩
 ·obtain⟨b',o',hA,hb,hc⟩:=h.1.2 (by omega);injection hA with hA;injection hA with h2 h3;subst h2;subst h3;refine⟨b,o+i*sz,rfl,hb,fun j hj=> ?_⟩;have c:=hj;rw[List.length_take,List.length_drop]at c;rw[Nat.add_assoc,hc (i*sz+j) (by omega),List.getElem_take,List.getElem_drop]
 injection ha with ha;subst ha;exact h.2 (by omega) ⟨b,o,none⟩ rfl
theorem TR:∀{f:List (Nat × Nat)} {N:Nat},Rb f→(∀x∈f,x.1+x.2≤N)→∀(_:f≠[]),f.length+(f.headD (0,0)).1≤N
 |[],_,_,_,h=>absurd rfl h
 |[a],N,hs,hn,_=>by
  have:=hs.2 a (by simp);have:=hn a (by simp);simp;omega
 |a::b::l,N,hs,hn,_=>by
  have h1:=List.pairwise_cons.1 hs.1;have ih:=TR (f:=b::l) (N:=N) ⟨h1.2,fun e he=>hs.2 e (by simp[he])⟩ (fun x hx=>hn x (by simp[hx])) (by simp);have h2:=h1.1 b (by simp);have h3:=hs.2 a (by simp);simp only[List.length_cons,List.headD_cons]at ih ⊢;omega
variable {N:Nat}
theorem SB{f:List (Nat × Nat)}(hs:Rb f)(hn:∀x∈f,x.1+x.2≤N):f.length≤N:=by
 by_cases h:f=[]
 ·subst h;simp
 have:=TR hs hn h;omega
theorem Sf(m:Jt)(a l:Nat):NT m a l=X6 m a l:=by
 unfold NT X6;rw[Bool.eq_iff_iff];simp;omega
theorem NQ{m:Jt}(h:KL w base M m)(a l:Int)(hl0:0≤l)(hl:l≤1099511627776)(ha:a≤9223372036854775807):
  Calls prog 119 #[.pointer (some ⟨M,0,none⟩),.agg #[.int .i64 a,.int .i64 l]] w fun e w'=>e=.returned (.bool (NT m a l))∧Below w.heap.size w w':=by
 obtain⟨_,hf,hs,_,_,A,c,hb,_⟩:=h;have a0:=hb.lt;have e0:w.cell? ⟨M,0,none⟩=some (.int .i64 m.Ky):=hb.cell 0;have e1:w.cell? ⟨M,1,none⟩=some (.int .i64 m.QJ):=hb.cell 1;obtain⟨r,hr⟩:=eX (NT m a l);rw[←hr];unfold NT at hr;clear hb;by_cases h1:1≤l
 ·have d1:decide (1≤l)=true:=decide_eq_true h1;by_cases h2:l≤m.QJ
  ·have d2:decide (l≤(m.QJ:Int))=true:=decide_eq_true h2;by_cases h3:(m.Ky:Int)≤a
   ·have d3:decide ((m.Ky:Int)≤a)=true:=decide_eq_true h3;have HR:=Qa hr;clear hr;go_enter func119,ntmps119;go_upto_region 1 with fail
    go_quiet (fail)
    go_wp2_with fail;go_ret;refine⟨by rw[HR.o];simp[d1,d2,d3],QK (bR.alloc nR _) _⟩
   have d3:decide ((m.Ky:Int)≤a)=false:=decide_eq_false h3;have HR:=Qa hr;clear hr;go_enter func119,ntmps119;go_upto_region 1 with fail
   go_quiet (fail)
   go_wp2_with fail;go_ret;refine⟨by rw[HR.o];simp[d1,d2,d3],QK (bR.alloc nR _) _⟩
  have d2:decide (l≤(m.QJ:Int))=false:=decide_eq_false h2;have HR:=Qa hr;clear hr;go_enter func119,ntmps119;go_upto_region 1 with fail
  go_quiet (fail)
  go_wp2_with fail;go_ret;refine⟨by rw[HR.o];simp[d1,d2],QK (bR.alloc nR _) _⟩
 have d1:decide (1≤l)=false:=decide_eq_false h1;have HR:=Qa hr;clear hr;go_enter func119,ntmps119;go_upto_region 1 with fail
 go_quiet (fail)
 go_wp2_with fail;go_ret;refine⟨by rw[HR.o];simp[d1],QK (bR.alloc nR _) _⟩
variable {at' k:Nat}
theorem SJ{m:Jt}(hk:k≤m.free.length)(h1:∀i (h:i<m.free.length),i<k→m.free[i].1+m.free[i].2≤at')(h2:∀i (h:i<m.free.length),k≤i→at'<m.free[i].1+m.free[i].2):Vg m at'=k:=by
 unfold Vg;by_cases hl:k<m.free.length
 ·have:m.free.findIdx? (fun f=>decide (at'<f.1+f.2))=some k:=by
   rw[List.findIdx?_eq_some_iff_getElem];exact⟨hl,by simpa using h2 k hl nR,fun j hj=>by have:=h1 j (by omega) hj;simp;omega⟩
  rw[this];rfl
 have:m.free.findIdx? (fun f=>decide (at'<f.1+f.2))=none:=by
  rw[List.findIdx?_eq_none_iff];intro x hx;obtain⟨i,hi,rfl⟩:=List.mem_iff_getElem.1 hx;have:=h1 i hi (by omega);simp;omega
 rw[this];show m.free.length=k;omega
variable {i j:Nat}
theorem Mb{f:List (Nat × Nat)}(h:Rb f)(hi:i<f.length)(hj:j<f.length)(hij:i≤j):f[i].1+f[i].2≤f[j].1+f[j].2:=by
 rcases Nat.lt_or_ge i j with hlt|hge
 ·have:=(List.pairwise_iff_getElem.1 h.1) i j hi hj hlt;omega
 obtain rfl:i=j:=by omega
 exact nR
theorem TI{m:Jt}(h:KL w base M m)(hs:Rb m.free)(a:Nat):
  Calls prog 120 #[.pointer (some ⟨M,0,none⟩),.int .i64 a] w fun e w'=>e=.returned (.int .i64 (Vg m a:Nat))∧Below w.heap.size w w':=by
 obtain⟨_,_,_,q,a0,A,c,hb,_,p⟩:=h;have B:=hb.lt;have e2:w.cell? ⟨M,2,none⟩=some (.slice A m.free.length c):=hb.cell 2;have HB:=Qa hb;have z:=Qa p;have HS:=Qa hs;have C:=Qa q;clear hb p hs q;go_enter func120,ntmps120;go_upto_region 1 with fail
 go_quiet (fail)
 go_wp2_with fail;go_loopw [5,6] (fun lo hi wr=>∃l k:Nat,l≤k∧k≤m.free.length∧lo=.int .i64 (l:Nat)∧hi=.int .i64 (k:Nat)∧(∀i (h:i<m.free.length),i<l→m.free[i].1+m.free[i].2≤a)∧(∀i (h:i<m.free.length),k≤i→a<m.free[i].1+m.free[i].2)∧Below w.heap.size w wr) (fun lo hi _=>((intOf hi)-(intOf lo)).toNat)
 case atStart=>exact⟨0,m.free.length,Nat.zero_le _,nR,rfl,rfl,fun i _ h=>absurd h (by omega),fun i h1 h2=>absurd h1 (by omega),Z4 _ _ _⟩
 obtain⟨l,k,a4,hk,rfl,rfl,t,y,d⟩:=hrel;have r:=Qa t;have v:=Qa y;have n:=Qa d;have a9:wr.cell? ⟨M,2,none⟩=some (.slice A m.free.length c):=(d.cell B).trans e2;have a2:M<wr.heap.size:=by have:=d.size;omega
 have f:=z.o.below d;have aa:=d.size;clear t y d;by_cases hlt2:l<k
 ·obtain⟨md,u⟩:=eX (l+(k-l)/2);have s:l≤md:=by omega
  have a1:md<k:=by omega
  obtain⟨b,o,hA,a8,c1,c2⟩:=f.TY md (by omega) rfl;have a5:(l:Int)+((k-l:Nat):Int)/2=(md:Int):=by omega
  have a6:(l:Int)+((k:Int)-(l:Int))/2=(md:Int):=by omega
  have a3:(md:Int)<m.free.length:=by omega
  have D:=C.o (m.free[md]'(by omega)) (List.getElem_mem _);have g:md<m.free.length:=by omega
  have a7:=Qa u;subst hA;clear u f;generalize hx:m.free[md]=x at c1 c2 D;have HX:=Qa hx;clear hx;by_cases hgt:a<x.1+x.2
  ·have hd:decide ((a:Int)<(x.1:Int)+(x.2:Int))=true:=decide_eq_true (by omega);have j:=Qa hgt;clear hgt;go_upto_region 4 with fail
   go_quiet (fail)
   go_wp2_with fail;go_roundw
   case rel=>
    refine⟨l,md,s,by omega,rfl,rfl,r.o,fun i h1 h2=> ?_,QK n.o _⟩;have:=Mb HS.o g h1 h2;have h3:=j.o;rw[←HX.o]at h3;omega
   case measure=>simp[intOf];omega
  have hd:decide ((a:Int)<(x.1:Int)+(x.2:Int))=false:=decide_eq_false (by omega);have j:=Qa hgt;clear hgt;go_upto_region 4 with fail
  go_quiet (fail)
  go_wp2_with fail;go_roundw
  case rel=>
   refine⟨md+1,k,by omega,hk,by go_num,rfl,fun i h1 h2=> ?_,v.o,QK n.o _⟩;have:=Mb HS.o h1 g (by omega);have h3:=j.o;rw[←HX.o]at h3;omega
  case measure=>simp[intOf];omega
 obtain rfl:l=k:=by omega
 have hm:=SJ hk r.o v.o;have HM:=Qa hm;clear hm f;go_wp2_with fail;go_ret;exact⟨by rw[HM.o];rfl,n.o⟩
theorem Yo:prog.underlying 218=some (.slice 140):=by kernel_rfl
theorem Wt:(prog.info? 140).map (fun i=>(i.zero,i.size,i.bytes))=some (some (.agg #[.int .i64 0,.int .i64 0]),2,16):=by kernel_rfl
theorem XY{P:Program}{ops:Array Oper}{o:Oper}{a:Act}{K:Act→World→Prop}{Q:Exit→Act→World→Prop}{E:Prop}
  (hg:o.guard=none)(s x:Operand)(t:TypeId)(hop:o.op=Op.call { callee:=Callee.builtin Builtin.append,args:=#[s,x],argTypes:=#[t,t] })
  (vs vx v:Value)(hs:a.eval s=vs)(hx:a.eval x=vx)(hrun:(Builtin.append_ #[t,t] o.type #[vs,vx]).run P w=.ok v w')(hK:K (a.put o.dst v) w'):
  if Region.wanted o (yielded ops a.tmps)=true then Oper.wp P o a w K Q else E:=by
 have hw:Region.wanted o (yielded ops a.tmps)=true:=by simp[Region.wanted,hg]
 rw[if_pos hw];unfold Oper.wp;simp[execOp,hop,resolve,invoke,builtin,hs,hx,hrun,Result.andThen];exact hK
theorem Kq(h:Sl w e sz A n xs):Rd w w.heap.size sz A n xs:=h.1
theorem VV(w:World)(t ty e:TypeId)(i:TypeInfo)(z:Value)(size bytes:Nat)(ht:prog.underlying t=some (.slice e))(hi:prog.info? e=some i)(hz:i.zero=some z)
  (hsize:i.size=size)(hby:i.bytes=bytes)(hzs:z.cells.size=size)(hsz:0<size)
  (A:Option Addr)(n:Nat)(xs:List Value)(hx:Sl w e size A n xs)(B:Option Addr)(m c:Nat)(ys:List Value)(hy:Rd w w.heap.size size B m ys)(h1c:∀u∈ys,u.oneCell'=true)
  (b1:n+m≤maxLen)(b2:(n+m)*bytes≤140737488355328):
  ∃A' c' w',(Builtin.append_ #[t,t] ty #[.slice A n n,.slice B m c]).run prog w=.ok (.slice A' (n+m) c') w'∧Sl w' e size A' (n+m) (xs++ys)∧n+m≤c'∧Below w.heap.size w w'∧(∀a,A'=some a→A=some a∨w.heap.size≤a.block):=by
 by_cases hm:0<m
 ·obtain⟨bb,bo,rfl,a1,l⟩:=hy.2 hm;have d:∀j u,ys[j]? =some u→w.cell? ((⟨bb,bo,none⟩:Addr).add j)=some u:=fun j u hu=>by
   obtain⟨hj,rfl⟩:=List.getElem?_eq_some_iff.1 hu;rw[J3];exact l j hj
  have h:∀v' w',w'.ownsRow w.heap.size e size v' (n+m) (xs++ys)→w.grownBy w' none→∃A' c',v'=.slice A' (n+m) c'∧Sl w' e size A' (n+m) (xs++ys)∧n+m≤c'∧Below w.heap.size w w'∧(∀a,A'=some a→A=some a∨w.heap.size≤a.block):=fun v' w' ho hg=>by
   obtain⟨A',c',rfl,o⟩:=Jg ho;refine⟨A',c',rfl,Sl.Jl ho,o,Qg hg nR (fun k hk=>by cases hk),fun a ha=>.inr ?_⟩;obtain⟨g,h1,h2,_⟩:=Uf ho (by omega);rw[h1]at ha;injection ha with ha;subst ha;exact h2
  by_cases hn:0<n
  ·obtain⟨ab,ao,rfl,a0,p⟩:=hx.1.2 hn;have f:∀j u,xs[j]? =some u→w.cell? ((⟨ab,ao,none⟩:Addr).add j)=some u:=fun j u hu=>by
    obtain⟨hj,rfl⟩:=List.getElem?_eq_some_iff.1 hu;rw[J3];exact p j hj
   obtain⟨v',w',b,r1,r2⟩:=run_append_arg_grows (P:=prog) w t ty e i z size bytes ht hi hz hsize hby hzs hsz ⟨ab,ao,none⟩ n n xs hx.1.1 f ⟨bb,bo,none⟩ m c ys hy.1 d (by omega) b1 b2;obtain⟨A',c',rfl,f1,f2,f3⟩:=h v' w' r1 r2;exact⟨A',c',w',b,f1,f2,f3⟩
  obtain rfl:n=0:=by omega
  obtain rfl:xs=[]:=List.eq_nil_of_length_eq_zero (by have:=hx.1.1;simpa using this);cases A with
  |none=>
   obtain⟨v',w',b,r1,r2,_⟩:=run_append_own (P:=prog) w w.heap.size t ty e i z size bytes ht hi hz hsize hby hzs hsz (.slice none 0 0) 0 [] (World.ownsRow_nil w _ e size) ⟨bb,bo,none⟩ m c ys hy.1 d h1c b1 b2 nR;obtain⟨A',c',rfl,f1,f2,f3⟩:=h v' w' r1 (by simpa [Value.ownBlock]using r2);exact⟨A',c',w',b,f1,f2,f3⟩
  |some ab=>
   obtain⟨v',w',b,r1,r2⟩:=run_append_arg_grows (P:=prog) w t ty e i z size bytes ht hi hz hsize hby hzs hsz ab 0 0 [] (by simp) (fun j u hu=>by simp at hu) ⟨bb,bo,none⟩ m c ys hy.1 d (by omega) b1 b2;obtain⟨A',c',rfl,f1,f2,f3⟩:=h v' w' r1 r2;exact⟨A',c',w',b,f1,f2,f3⟩
 obtain rfl:m=0:=by omega
 obtain rfl:ys=[]:=List.eq_nil_of_length_eq_zero (by have:=hy.1;simpa using this);refine⟨A,n,w, ?_,by simpa using hx,by omega,bR,fun a ha=>.inl ha⟩;subst hsize;cases A<;>cases B<;>simp[Builtin.append_,run_underlying ht,sizeOf,typeInfo,hi,Builtin.lenOf,Builtin.firstCells,loadCells,loadCellsFrom,storeCells]
abbrev L1(x:Nat × Nat)(a:Nat):List (Nat × Nat):=if x.1<a then[(x.1,a-x.1)]else[]
abbrev L2(x:Nat × Nat)(a l:Nat):List (Nat × Nat):=if a+l<x.1+x.2 then[(a+l,x.1+x.2-(a+l))]else[]
theorem GO(f:List (Nat × Nat))(i a l:Nat):Kl f i a l=f.take i++(L1 (f.getD i (0,0)) a++L2 (f.getD i (0,0)) a l)++f.drop (i+1):=rfl
def Xf(w:World)(M:Nat)(P:Nat→Prop):Prop:=∀a n c,w.cell? ⟨M,2,none⟩=some (.slice (some a) n c)→P a.block
variable {A4:Option Addr} {a c4 i1:Nat} {m':Jt} {old:Value} {w4:World}
theorem Sh{m:Jt}{x:Nat × Nat}{l n1 n2:Nat}(h:KL w base M m)(hm:Jt.mk m.Ky m.QJ (Kl m.free i a l)=m'∧(∀x∈m'.free,x.1+x.2≤4194304)∧m'.free.length≤4194304)
  (hg:m.free.getD i (0,0)=x)(hi:i<m.free.length)(hn1:n1=(L1 x a).length)(hn2:n2=n1+(L2 x a l).length)(hi1:i1=i+1)
  (hs:Sl w4 140 2 A4 (i+(n2+(m.free.length-i1))) (Jc (m.free.take i)++(Jc (L1 x a)++Jc (L2 x a l)++Jc (m.free.drop i1))))(hc:i+(n2+(m.free.length-i1))≤c4)(hb:Below w.heap.size w w4)
  (hM:Qh w4 M 220 #[.int .i64 m.Ky,.int .i64 m.QJ,old])(hbw:base≤w.heap.size){bb:Nat}(hA:∀a,A4=some a→a.block=bb∨w.heap.size≤a.block):
  KL (w4.setCell ⟨M,2,none⟩ (.slice A4 (i+(n2+(m.free.length-i1))) c4)) base M m'∧Qd base [220] w (w4.setCell ⟨M,2,none⟩ (.slice A4 (i+(n2+(m.free.length-i1))) c4))∧Xf (w4.setCell ⟨M,2,none⟩ (.slice A4 (i+(n2+(m.free.length-i1))) c4)) M (fun g=>g=bb∨w.heap.size≤g):=by
 obtain⟨rfl,h1,h2⟩:=hm;have hk:Qd base [220] w4 (w4.setCell ⟨M,2,none⟩ (.slice A4 (i+(n2+(m.free.length-i1))) c4)):=(Qd.refl base _ w4).set hM h.low (by simp) _;have hf:Kl m.free i a l=m.free.take i++(L1 x a++L2 x a l)++m.free.drop i1:=by rw[GO,hg,hi1]
 have hl:(Kl m.free i a l).length=i+(n2+(m.free.length-i1)):=by
  rw[hf,List.length_append,List.length_append,List.length_append,List.length_take,List.length_drop,←hn1,←hn2];omega
 have he:Jc (Kl m.free i a l)=Jc (m.free.take i)++(Jc (L1 x a)++Jc (L2 x a l)++Jc (m.free.drop i1)):=by
  rw[hf,Vw,Vw,Vw,List.append_assoc,List.append_assoc]
 refine⟨⟨h.low,h.Ky,h.sec,h1,h2,A4,c4, ?_, ?_, ?_⟩,(Qd.Qe hb hbw).trans hk,fun a n c hcell=> ?_⟩
 ·simp only[hl];exact hM.set 2 _
 ·simp only[hl];exact hc
 ·simp only[hl,he];exact hs.keeps hk (by decide)
 have:=(hM.set 2 (.slice A4 (i+(n2+(m.free.length-i1))) c4)).cell 2;rw[this]at hcell;injection hcell with hcell;injection hcell with h3 h4 h5;exact hA a h3
theorem Nh{m:Jt}(h:KL w base M m)(hbw:base≤w.heap.size)(i a l:Nat)(hi:i<m.free.length)(ha:a+l≤4194304)(hok:Jt.mk m.Ky m.QJ (Kl m.free i a l)=m'∧(∀x∈m'.free,x.1+x.2≤4194304)∧m'.free.length≤4194304):
  Calls prog 121 #[.pointer (some ⟨M,0,none⟩),.int .i64 i,.agg #[.int .i64 a,.int .i64 l]] w fun e w'=>e=.returned (.tuple #[])∧KL w' base M m'∧Qd base [220] w w'∧(∀P,Xf w M P→Xf w' M fun g=>P g∨w.heap.size≤g):=by
 have a5:=h.R6;have ah:=h.Yp;have am:=h.low;have HH:=Qa h;obtain⟨A,c,hb,hc,U⟩:=h.rep;obtain⟨b,o,rfl,ap,c1,c2⟩:=U.TY i hi rfl;have ac:=hb.lt;have e2:w.cell? ⟨M,2,none⟩=some (.slice (some ⟨b,o,none⟩) m.free.length c):=hb.cell 2;have hx:=a5 (m.free[i]) (List.getElem_mem _);have ae:m.free.getD i (0,0)=m.free[i]:=JW hi;have aa:=Qa hok;have HB:=Qa hb;have ab:=Qa U;have a8:=Qa ae;have E2:=Qa e2;have au:(i:Int)<m.free.length:=by omega
 generalize m.free[i]=x at*
 clear h hok hb U ae a5;go_enter func121,ntmps121;go_upto_if 20 with fail;have k0:Below w.heap.size w ((w.alloc (.cells #[.int .i64 a,.int .i64 l] 140)).alloc (.cells #[.int .i64 x.1,.int .i64 x.2] 140)):=(bR.alloc nR _).alloc (by simp) _;have p0:Qh ((w.alloc (.cells #[.int .i64 a,.int .i64 l] 140)).alloc (.cells #[.int .i64 x.1,.int .i64 x.2] 140)) w.heap.size 140 #[.int .i64 a,.int .i64 l]:=(Qh.new w 140 _).alloc _;have q0:Qh ((w.alloc (.cells #[.int .i64 a,.int .i64 l] 140)).alloc (.cells #[.int .i64 x.1,.int .i64 x.2] 140)) (w.heap.size+1) 140 #[.int .i64 x.1,.int .i64 x.2]:=Qh.Qz (by simp);generalize (w.alloc (.cells #[.int .i64 a,.int .i64 l] 140)).alloc (.cells #[.int .i64 x.1,.int .i64 x.2] 140)=w1 at*
 obtain⟨PB,O⟩:=eX w.heap.size;obtain⟨QB,Q⟩:=eX (w.heap.size+1);rw[←O]at p0;rw[←Q]at q0;rw[←Q,←O];have aq:=Qa O;have an:=Qa Q;have K0:=Qa k0;have P0:=Qa p0;have Q0:=Qa q0;obtain⟨i0,D,G,J,H⟩:=info_parts Wt;clear k0 p0 q0 O Q
 -- the part ahead
 go_cut [7] (fun v wx=>∃A1 c1,v=.slice A1 (L1 x a).length c1∧wx.ownsRow w1.heap.size 140 2 v (L1 x a).length (Jc (L1 x a))∧Below w1.heap.size w1 wx)
 case first=>
  have p1:w1.cell? ⟨PB,0,none⟩=some (.int .i64 a):=P0.o.cell 0;have q1:w1.cell? ⟨QB,0,none⟩=some (.int .i64 x.1):=Q0.o.cell 0;have lp:=P0.o.lt;have lq:=Q0.o.lt;by_cases h1:x.1<a
  ·have e1:L1 x a=[(x.1,a-x.1)]:=if_pos h1;have q:=Qa e1;have HR:=Qa (Kq (Sl.Ja (sz:=2) (n:=1) (Qh.new w1 140 #[.int .i64 x.1,.int .i64 ((a:Int)-x.1)]) rfl));have a3:Qb (∀u∈([.int .i64 x.1,.int .i64 ((a:Int)-x.1)]:List Value),u.oneCell'=true):=by
    show ∀u∈([.int .i64 x.1,.int .i64 ((a:Int)-x.1)]:List Value),u.oneCell'=true;simp[Value.oneCell']
   clear e1;go_wp2_with (at_builtin;refine Qv _ rfl _ _ 218 rfl w1.heap.size 140 i0 _ 2 16 Yo D G J H rfl (by decide) (.slice none 0 0) 0 [] rfl (Zs _ _ _ _) (some ⟨w1.heap.size,0,none⟩) 1 1 _ [.int .i64 x.1,.int .i64 ((a:Int)-x.1)] rfl HR.o a3.o (by unfold maxLen;omega) (by omega) (by simp) ?_;intro A1 c1' w2 hown hgr hnc _;(have C:=Qa hown);(have W:=Qa hgr);clear hown hgr);go_meet;have z:((a-x.1:Nat):Int)=(a:Int)-x.1:=by omega
   refine⟨A1,c1', ?_, ?_, ?_⟩
   ·rw[q.o];rfl
   ·rw[q.o];have:=C.o;simp only[Jc,List.flatMap_cons,List.flatMap_nil,z];exact this
   exact(bR.alloc nR _).trans (Qg W.o (by simp) (fun k hk=>by cases hk))
  have e1:L1 x a=[]:=if_neg h1;have q:=Qa e1;clear e1;go_wp2_with fail;go_meet;exact⟨none,0,by rw[q.o];rfl,by rw[q.o];exact Zs _ _ _ _,bR⟩
 obtain⟨A1,k1,rfl,y,B⟩:=hcut;obtain⟨n1,R⟩:=eX ((L1 x a).length);rw[←R]at y ⊢;have aj:n1≤1:=by rw[R];unfold L1;split<;>simp
 have P1:=Qa (P0.o.below B P0.o.lt);have Q1:=Qa (Q0.o.below B Q0.o.lt);have K1:=Qa (K0.o.trans (B.mono K0.o.size));have O1:=Qa (Xe y K0.o.size);have af:=Qa R;have p1:wc.cell? ⟨PB,0,none⟩=some (.int .i64 a):=P1.o.cell 0;have p2:wc.cell? ⟨PB,1,none⟩=some (.int .i64 l):=P1.o.cell 1;have q1:wc.cell? ⟨QB,0,none⟩=some (.int .i64 x.1):=Q1.o.cell 0;have q2:wc.cell? ⟨QB,1,none⟩=some (.int .i64 x.2):=Q1.o.cell 1;have lp:=P1.o.lt;have lq:=Q1.o.lt;clear y B R;generalize w1=w1' at*
 clear K0 P0 Q0;go_upto_if 43 with fail;go_cut [7] (fun v wx=>∃A2 c2,v=.slice A2 (n1+(L2 x a l).length) c2∧wx.ownsRow w.heap.size 140 2 v (n1+(L2 x a l).length) (Jc (L1 x a)++Jc (L2 x a l))∧Below w.heap.size w wx)
 case first=>
  by_cases h1:a+l<x.1+x.2
  ·have e1:L2 x a l=[(a+l,x.1+x.2-(a+l))]:=if_pos h1;have q:=Qa e1;have HR:=Qa (Kq (Sl.Ja (sz:=2) (n:=1) (Qh.new wc 140 #[.int .i64 ((a:Int)+l),.int .i64 ((x.1:Int)+x.2-((a:Int)+l))]) rfl));have a3:Qb (∀u∈([.int .i64 ((a:Int)+l),.int .i64 ((x.1:Int)+x.2-((a:Int)+l))]:List Value),u.oneCell'=true):=by
    show ∀u∈([.int .i64 ((a:Int)+l),.int .i64 ((x.1:Int)+x.2-((a:Int)+l))]:List Value),u.oneCell'=true;simp[Value.oneCell']
   clear e1;go_wp2_with (at_builtin;refine Qv _ rfl _ _ 218 rfl w.heap.size 140 i0 _ 2 16 Yo D G J H rfl (by decide) (.slice A1 n1 k1) n1 (Jc (L1 x a)) rfl (Qu O1.o _) (some ⟨wc.heap.size,0,none⟩) 1 1 _ [.int .i64 ((a:Int)+l),.int .i64 ((x.1:Int)+x.2-((a:Int)+l))] rfl HR.o a3.o (by unfold maxLen;omega) (by omega) (by have:=K1.o.size;simp;omega) ?_;intro A2 c2' w2 hown hgr hnc _;(have C:=Qa hown);(have W:=Qa hgr);clear hown hgr);go_meet;have z:((x.1+x.2-(a+l):Nat):Int)=(x.1:Int)+x.2-((a:Int)+l):=by omega
   refine⟨A2,c2', ?_, ?_, ?_⟩
   ·rw[q.o];rfl
   ·rw[q.o];have:=C.o;simp only[Jc,List.flatMap_cons,List.flatMap_nil,z,Int.natCast_add]at this ⊢;exact this
   exact(K1.o.alloc K1.o.size _).trans (Qg W.o (by have:=K1.o.size;simp;omega) (fun k hk=>(O1.o.lt k hk).1))
  have e1:L2 x a l=[]:=if_neg h1;have q:=Qa e1;clear e1;go_wp2_with fail;go_meet;refine⟨A1,k1,by rw[q.o];rfl, ?_,K1.o⟩;rw[q.o];have:=O1.o;simpa [Jc]using this
 obtain⟨A2,k2,rfl,s,j⟩:=hcut;obtain⟨n2,Z⟩:=eX (n1+(L2 x a l).length);rw[←Z]at s ⊢;have ak:n2≤2:=by
  have:(L2 x a l).length≤1:=by unfold L2;split<;>simp
  omega
 have B2:=Qa (HB.o.below j ac);have S2:=Qa (ab.o.below j);have al:M<wc.heap.size:=by have:=j.size;omega
 have ai:b<wc.heap.size:=by have:=j.size;omega
 have K2:=Qa j;have O2:=Qa s;have ad:=Qa Z;have e3:=j.cell (p:=⟨M,2,none⟩) ac;rw[e2]at e3;have z2:=B2.o.free 2;clear p1 p2 q1 q2 lp lq P1 Q1 K1 O1 s j Z e2 c1 c2;have r1:(i:Int)≤c:=by omega
 obtain⟨i1,T⟩:=eX (i+1);have ao:IntKind.i64.wrap ((i:Int)+1)=(i1:Int):=by rw[IntKind.wrap_i64];omega
 have r2:(i1:Int)≤m.free.length:=by omega
 have r3:(i1:Int)≤c:=by omega
 have r4:(0:Int)≤i:=by omega
 have r5:(0:Int)≤i1:=by omega
 have r6:i≤i1:=by omega
 have r7:i≤c:=by omega
 have a7:=Qa T;clear T;have N:=@Qa (wc.drew.ownsRow w.heap.size 140 2 (.slice A2 n2 k2) n2 (Jc (L1 x a)++Jc (L2 x a l))) (O2.o);have V:=@Qa (w.heap.size≤wc.drew.heap.size) (K2.o.size);have ar:wc.drew.cell? ⟨M,2,none⟩=some (.slice (some ⟨b,o,none⟩) m.free.length c):=e3;have L:(m.free.drop i1).length=m.free.length-i1:=List.length_drop
 have S:∀(A3:Option Addr)(c3:Nat)(w3:World),w3.ownsRow w.heap.size 140 2 (.slice A3 (n2+(m.free.length-i1)) c3) (n2+(m.free.length-i1)) (Jc (L1 x a)++Jc (L2 x a l)++Jc (m.free.drop i1))→wc.drew.grownBy w3 (Value.slice A2 n2 k2).ownBlock→
   w3.cell? ⟨M,2,none⟩=some (.slice (some ⟨b,o,none⟩) m.free.length c)∧Below w.heap.size w w3∧∃A4 c4 w4,(Builtin.append_ #[218,218] 218 #[.slice (some ⟨b,o,none⟩) i i,.slice A3 (n2+(m.free.length-i1)) c3]).run prog w3=.ok (.slice A4 (i+(n2+(m.free.length-i1))) c4) w4∧
    Sl w4 140 2 A4 (i+(n2+(m.free.length-i1))) (Jc (m.free.take i)++(Jc (L1 x a)++Jc (L2 x a l)++Jc (m.free.drop i1)))∧i+(n2+(m.free.length-i1))≤c4∧Below w.heap.size w w4∧Qh w4 M 220 #[.int .i64 m.Ky,.int .i64 m.QJ,.slice (some ⟨b,o,none⟩) m.free.length c]∧(∀a,A4=some a→a.block=b∨w.heap.size≤a.block):=fun A3 c3 w3 hown hgr=>by
  have a1:=(show Qh wc.drew M 220 _ from B2.o).grown hgr (Xl N.o (show Qh wc.drew M 220 _ from B2.o) (by decide));have F:Below w.heap.size w w3:=(show Below w.heap.size w wc.drew from K2.o.drew).trans (Qg hgr V.o (fun k hk=>(N.o.lt k hk).1));have hk:Qd w.heap.size [] w w3:=Qd.Qe F nR;have a6:Sl w3 140 2 (some ⟨b,o,none⟩) i (Jc (m.free.take i)):=by
   have h:=(ab.o.keeps hk (by simp)).part 0 i (by omega);rw[Nat.zero_mul,Nat.add_zero,List.drop_zero,Sj]at h;exact h
  obtain⟨A4,c4,w4,r1,r2,r3,r4,r5⟩:=VV w3 218 218 140 i0 _ 2 16 Yo D G J H rfl (by decide) (some ⟨b,o,none⟩) i _ a6 A3 (n2+(m.free.length-i1)) c3 _ (Zy hown) (by
   intro u hu;rcases List.mem_append.1 hu with hu|hu
   ·rcases List.mem_append.1 hu with hu|hu
    ·exact XQ _ u hu
    exact XQ _ u hu
   exact XQ _ u hu) (by unfold maxLen;omega) (by omega)
  exact⟨a1.cell 2,F,A4,c4,w4,r1,r2,r3,F.trans (r4.mono F.size),a1.below r4 a1.lt,fun a ha=>(r5 a ha).imp (fun e=>by injection e with e;rw[←e]) (fun e=>Nat.le_trans F.size e)⟩
 have a9:=Qa S;clear S;by_cases hc1:c=i1
 ·have ag:m.free.length-i1=0:=by omega
  have RT:=@Qa (Rd wc.drew wc.drew.heap.size 2 (some ⟨b,o,none⟩) (m.free.length-i1) (Jc (m.free.drop i1))) (⟨by rw[Vi,L],fun h=>absurd h (by omega)⟩);clear L ag;go_upto_region 8 with fail
  go_region_law (first
   |((fail_if_success (have hZ:=t));refine Q9 _ (by rfl) _ _ _ (by rfl) w.heap.size 140 i0 _ 2 16 Yo D G J H rfl (by decide) (.slice A2 n2 k2) n2 (Jc (L1 x a)++Jc (L2 x a l)) (by rfl) N.o (some ⟨b,o,none⟩) (m.free.length-i1) 0 _ (Jc (m.free.drop i1)) (by rfl) RT.o (XQ _) (by unfold maxLen;omega) (by omega) V.o ?_;intro A3 c3 w3 hown3 hgr3 hnc3;(have t:=Qa (a9.o A3 c3 w3 hown3 hgr3));(have e5:=t.o.1);clear hown3 hgr3)
   |(obtain⟨_,_,A4,c4,w4,f,E,a4,I,r,K⟩:=t.o;(have a2:=Qa K);(have z4:=r.free 2);(have z5:w4.cell? ⟨M,2,none⟩=some (.slice (some ⟨b,o,none⟩) m.free.length c):=r.cell 2);(have l4:=r.lt);refine XY (by rfl) _ _ _ (by rfl) _ _ _ (by rfl) (by rfl) f ?_;(have X:=Qa E);(have a0:=Qa I);(have Y:=Qa r);clear f E I r K))
  all_goals
   go_end0
   have d:=Sh HH.o aa.o a8.o hi af.o ad.o a7.o X.o a4 a0.o Y.o hbw a2.o;exact⟨rfl,d.1,d.2.1,fun P hP a n c hcell=>(d.2.2 a n c hcell).imp (fun e=>by rw[e];exact hP _ _ _ E2.o) id⟩
 have RT:=@Qa (Rd wc.drew wc.drew.heap.size 2 (some ⟨b,o+i1*2,none⟩) (m.free.length-i1) (Jc (m.free.drop i1))) (by
  have h:=(S2.o.part i1 (m.free.length-i1) (by omega)).1;rw[Ty,List.take_of_length_le (by rw[Vi,L];exact nR)]at h;exact h)
 clear L;go_upto_region 8 with fail
 go_region_law (first
  |((fail_if_success (have hZ:=t));refine Q9 _ (by rfl) _ _ _ (by rfl) w.heap.size 140 i0 _ 2 16 Yo D G J H rfl (by decide) (.slice A2 n2 k2) n2 (Jc (L1 x a)++Jc (L2 x a l)) (by rfl) N.o (some ⟨b,o+i1*2,none⟩) (m.free.length-i1) (c-i1) _ (Jc (m.free.drop i1)) (by rfl) RT.o (XQ _) (by unfold maxLen;omega) (by omega) V.o ?_;intro A3 c3 w3 hown3 hgr3 hnc3;(have t:=Qa (a9.o A3 c3 w3 hown3 hgr3));(have e5:=t.o.1);clear hown3 hgr3)
  |(obtain⟨_,_,A4,c4,w4,f,E,a4,I,r,K⟩:=t.o;(have a2:=Qa K);(have z4:=r.free 2);(have z5:w4.cell? ⟨M,2,none⟩=some (.slice (some ⟨b,o,none⟩) m.free.length c):=r.cell 2);(have l4:=r.lt);refine XY (by rfl) _ _ _ (by rfl) _ _ _ (by rfl) (by rfl) f ?_;(have X:=Qa E);(have a0:=Qa I);(have Y:=Qa r);clear f E I r K))
 all_goals
  go_end0
  have d:=Sh HH.o aa.o a8.o hi af.o ad.o a7.o X.o a4 a0.o Y.o hbw a2.o;exact⟨rfl,d.1,d.2.1,fun P hP a n c hcell=>(d.2.2 a n c hcell).imp (fun e=>by rw[e];exact hP _ _ _ E2.o) id⟩
theorem Wx:(prog.info? 140).map (·.size)=some 2:=by kernel_rfl
variable {g:Nat}
theorem KL.grown{m:Jt}(h:KL w base M m)(hg:w.grownBy w' (some g))(hM:M≠g)(hf:Xf w M (· ≠g)):KL w' base M m:=by
 obtain⟨a1,a2,a3,a4,a5,A,c,h3,h4,h6⟩:=h;refine⟨a1,a2,a3,a4,a5,A,c,h3.grown hg (by intro e;injection e with e;exact hM e.symm),h4,⟨⟨h6.1.1,fun hn=> ?_⟩,fun hn a ha=> ?_⟩⟩
 ·obtain⟨b,o,rfl,hb,hc⟩:=h6.1.2 hn;have d:b≠g:=hf _ _ _ (h3.cell 2);refine⟨b,o,rfl,Nat.lt_of_lt_of_le hb hg.size,fun j hj=> ?_⟩;rw[←hc j hj];have:=hg.block b hb (by intro e;injection e with e;exact d e);simp only[World.cell?, this]
 obtain⟨b,o,hA,hb,_⟩:=h6.1.2 hn;have f:=h6.2 hn a ha;rw[ha]at hA;injection hA with hA;subst hA;subst ha;have d:b≠g:=hf _ _ _ (h3.cell 2);have:=hg.block b hb (by intro e;injection e with e;exact d e);unfold VG at f ⊢;rw[this];exact f
theorem Qd.U9{ts:List TypeId}{a:World}(h:Qd base ts a w)(hg:w.grownBy w' (some g))(hb:base≤a.heap.size)(hn:a.heap.size≤g):Qd base ts a w':=by
 have hs:=h.below.size;refine⟨h.below.trans (Qg hg (by omega) (gB (by omega))),fun k t ht hts=> ?_⟩;have hk:=YB ht;rw[hg.block k (by omega) (by intro e;injection e with e;omega)];exact h.old k t ht hts
def ZU(w w':World)(base M:Nat)(r:Nat × Jt)(e:Ending):Prop:=e=.returned (.int .i64 r.1)∧KL w' base M r.2∧Qd base [220] w w'
variable {lo:Nat}
theorem G7{m:Jt}(h:KL w base M m)(hinv:JC m lo N)(hbw:base≤w.heap.size)(a l:Nat)(ha:a<1099511627776)(hl:l<1099511627776):
  Calls prog 62 #[.pointer (some ⟨M,0,none⟩),.agg #[.int .i64 a,.int .i64 l]] w fun e w'=>ZU w w' base M (KA m a l) e:=by
 have B:Below w.heap.size w (w.alloc (.cells #[.int .i64 a,.int .i64 l] 140)):=bR.alloc nR _;have F:=Qh.new w 140 #[.int .i64 a,.int .i64 l];have HH:=Qa h;have a0:=h.Yp;obtain⟨r,hr⟩:=eX (KA m a l);rw[←hr]
 have y:=@Qa (∀wy,Below w.heap.size w wy→Calls prog 119 #[.pointer (some ⟨M,0,none⟩),.agg #[.int .i64 a,.int .i64 l]] wy fun e w'=>e=.returned (.bool (X6 m a l))∧Below wy.heap.size wy w') (fun wy hy=>by
  have:=NQ (h.below hy) a l (by omega) (by omega) (by omega);rw[Sf]at this;exact this)
 have L:=@Qa (∀wy,Below w.heap.size w wy→Calls prog 120 #[.pointer (some ⟨M,0,none⟩),.int .i64 a] wy fun e w'=>e=.returned (.int .i64 (Vg m a:Nat))∧Below wy.heap.size wy w') (fun wy hy=>TI (h.below hy) hinv.Iq a);by_cases ho:X6 m a l=false
 ·have z:r=(1,m):=by rw[hr];unfold KA;rw[if_pos ho]
  rw[ho]at y;have j:=Qa B;subst z;clear hr h B F;go_enter func62,ntmps62;go_wp2_with (go_at_call 119;refine(y.o _ j.o).mono ?_;rintro e w1 ⟨rfl,p⟩;(have u:=Qa (j.o.trans (p.mono j.o.size)));clear p);go_ret;exact⟨rfl,HH.o.below u.o,Qd.Qe u.o hbw⟩
 have D:X6 m a l=true:=by simpa using ho
 rw[D]at y;obtain⟨i,E⟩:=eX (Vg m a);rw[←E]at L;have z:r=if i=m.free.length∨a<(m.free.getD i (0,0)).1∨(m.free.getD i (0,0)).1+(m.free.getD i (0,0)).2<a+l then(7,m)else(0,{ m with free:=Kl m.free i a l }):=by
  rw[hr];unfold KA;rw[if_neg ho,E]
 have I:=Yi (at':=a) hinv;rw[←E]at I;have a1:=I.1;have j:=Qa B;have C:=Qa F;have HR:=Qa z;have W:1≤l:=by
  unfold X6 at D;simp at D;omega
 clear hr z h B F E I ho D;go_enter func62,ntmps62
 go_upto_region 4 with(first
  |(go_at_call 119;refine(y.o _ j.o).mono ?_;rintro e w1 ⟨rfl,p⟩;(have u:=Qa (j.o.trans (p.mono j.o.size)));(have U:w1.cell? ⟨w.heap.size,0,none⟩=some (.int .i64 a):=(C.o.below p C.o.lt).cell 0);(have G:=Qa (C.o.below p C.o.lt));(have V:=G.o.lt);clear p)
  |(go_at_call 120;refine(L.o _ u.o).mono ?_;rintro e w2 ⟨rfl,J⟩;(have d:=Qa (u.o.trans (J.mono u.o.size)));(have H:=Qa (G.o.below J G.o.lt));clear J))
 obtain⟨A,c,hb,hc,K⟩:=(HH.o.below d.o).rep;have a2:=hb.lt;have e2:w2.cell? ⟨M,2,none⟩=some (.slice A m.free.length c):=hb.cell 2;have p0:w2.cell? ⟨w.heap.size,0,none⟩=some (.int .i64 a):=H.o.cell 0;have p1:w2.cell? ⟨w.heap.size,1,none⟩=some (.int .i64 l):=H.o.cell 1;have pl:=H.o.lt;have R:=Qa K;clear hb K U V;by_cases hil:i=m.free.length
 ·have s:r=(7,m):=by rw[HR.o,if_pos (.inl hil)]
  have hq:((i:Int)==(m.free.length:Nat))=true:=by simp;omega
  subst s;clear hil
  go_quiet (fail)
  go_wp2_with fail;go_ret;exact⟨rfl,HH.o.below (QK d.o _),Qd.Qe (QK d.o _) hbw⟩
 have t:i<m.free.length:=by omega
 have hq:((i:Int)==(m.free.length:Nat))=false:=by simp;omega
 obtain⟨b,o,hA,a4,c1,c2⟩:=R.o.TY i t rfl;have hx:=HH.o.R6 (m.free[i]) (List.getElem_mem _);have f:m.free.getD i (0,0)=m.free[i]:=JW t;have a3:(i:Int)<m.free.length:=by omega
 have a6:(0:Int)≤i:=by omega
 subst hA;by_cases h2:a<m.free[i].1
 ·have s:r=(7,m):=by rw[HR.o,if_pos (.inr (.inl (by rw[f];exact h2)))]
  generalize m.free[i]=x at*
  have d2:decide (a<x.1)=true:=decide_eq_true (by omega);subst s;clear hil h2 f
  go_quiet (fail)
  go_wp2_with fail;go_ret;exact⟨rfl,HH.o.below (QK d.o _),Qd.Qe (QK d.o _) hbw⟩
 by_cases h3:m.free[i].1+m.free[i].2<a+l
 ·have s:r=(7,m):=by rw[HR.o,if_pos (.inr (.inr (by rw[f];exact h3)))]
  generalize m.free[i]=x at*
  have d2:decide (a<x.1)=false:=decide_eq_false (by omega);have d3:decide ((x.1:Int)+(x.2:Int)<(a:Int)+(l:Int))=true:=decide_eq_true (by omega);have d4:decide (x.1+x.2<a+l)=true:=decide_eq_true (by omega);subst s;clear hil h2 f h3
  go_quiet (fail)
  go_wp2_with fail;go_ret;exact⟨rfl,HH.o.below (QK d.o _),Qd.Qe (QK d.o _) hbw⟩
 have s:r=(0,{ m with free:=Kl m.free i a l }):=by
  rw[HR.o,if_neg];rw[f];omega
 obtain⟨t1,_,_,t4⟩:=Ze (a:=a) (n:=l) hinv.Iq t W (by rw[f];omega) (by rw[f];omega);have q:∀e∈Kl m.free i a l,e.1+e.2≤4194304:=fun e he=>by
  obtain⟨e',X,h5,h6⟩:=t4 e he;have:=HH.o.R6 e' X;omega
 have v:=SB t1 q;generalize m.free[i]=x at*
 have d2:decide (a<x.1)=false:=decide_eq_false (by omega);have d3:decide ((x.1:Int)+(x.2:Int)<(a:Int)+(l:Int))=false:=decide_eq_false (by omega);have d4:decide (x.1+x.2<a+l)=false:=decide_eq_false (by omega)
 have HT:=@Qa (∀k,Calls prog 121 #[.pointer (some ⟨M,0,none⟩),.int .i64 (i:Nat),.agg #[.int .i64 a,.int .i64 l]] (w2.drewN k) fun e w'=>e=.returned (.tuple #[])∧KL w' base M { m with free:=Kl m.free i a l }∧Qd base [220] (w2.drewN k) w'∧(∀P,Xf (w2.drewN k) M P→Xf w' M fun g=>P g∨(w2.drewN k).heap.size≤g)) (fun k=>
  Nh (HH.o.below (QK d.o k)) (by have:=d.o.size;show base≤w2.heap.size;omega) i a l t (by omega) ⟨rfl,q,v⟩)
 subst s;clear hil h2 f h3 t1 t4 q v
 go_quiet (fail)
 have a5:(w2.drewN nq).cell? ⟨w.heap.size,0,none⟩=some (.int .i64 a):=p0;have a7:(w2.drewN nq).cell? ⟨w.heap.size,1,none⟩=some (.int .i64 l):=p1;go_wp2_with (go_at_call 121;refine(HT.o _).mono ?_;rintro e w5 ⟨rfl,Q,O,_⟩;(have S:=Qa Q);(have T:=Qa O);clear Q O);go_ret;exact⟨rfl,S.o,(Qd.Qe (QK d.o _) hbw).trans T.o⟩
abbrev Kx:=QN × Option Addr × Nat
def MY(x:Kx):List Value:=[.int .u8 x.1.1,.slice x.2.1 x.1.2.length x.2.2]
def QI(L:List Kx):List Value:=L.flatMap MY
def Yj(w:World)(L:List Kx):Prop:=∀x∈L,Kb w x.2.1 x.1.2∧x.1.2.length≤x.2.2∧x.1.1<256∧x.1.2.length<1099511627776
theorem Yj.keeps{ts:List TypeId}{L:List Kx}(h:Yj w L)(k:Qd base ts w w')(ht:5∉ts):Yj w' L:=fun x hx=>⟨(h x hx).1.keeps k ht,(h x hx).2⟩
theorem Yj.below{L:List Kx}(h:Yj w L)(k:Below w.heap.size w w'):Yj w' L:=h.keeps (ts:=[]) (Qd.Qe (base:=0) k (Nat.zero_le _)) (by simp)
theorem YE(L:List Kx):(QI L).length=L.length*2:=by
 induction L with
 |nil=>rfl
 |cons a L ih=>unfold QI at ih ⊢;simp[List.flatMap_cons,MY,ih];omega
theorem KU(L M:List Kx):QI (L++M)=QI L++QI M:=by unfold QI;rw[List.flatMap_append]
theorem ZT(L:List Kx):∀u∈QI L,u.oneCell'=true:=by
 intro u hu;unfold QI at hu;obtain⟨x,_,hx⟩:=List.mem_flatMap.1 hu;simp[MY]at hx;rcases hx with rfl|rfl<;>rfl
structure Py (w:World) (base Lb B:Nat) (l:QD) (L:List Kx) (A:Option Addr) (c:Nat):Prop where
 low:base≤Lb
 blk:Qh w Lb 216 #[.pointer (some ⟨B,0,none⟩),.int .i64 l.Ky,.int .i64 l.half,.int .i64 l.size,.int .i64 l.use,.int .i64 l.epoch,.int .i64 l.at',.slice A l.Qo.length c]
 own:w.ownsRow base 137 2 (.slice A l.Qo.length c) l.Qo.length (QI L)
 rcs:L.map (·.1)=l.Qo
 OM:Yj w L
 b1:l.Ky≤65536
 b2:l.half≤65536
 b3:l.size≤65536
 b4:l.use≤1
 b5:l.epoch<549755813888
 b6:l.at'≤1048576
 b7:l.Qo.length≤1000000
def Yw(w:World)(base Lb B:Nat)(l:QD):Prop:=∃L A c,Py w base Lb B l L A c
variable {Lb c:Nat} {l:QD}
theorem Py.keeps{ts:List TypeId}{L:List Kx}(h:Py w base Lb B l L A c)(k:Qd base' ts w w')(h1:216∉ts)(h2:137∉ts)(h3:5∉ts):Py w' base Lb B l L A c:=
 ⟨h.low,h.blk.keeps k h1,QF h.own k h2,h.rcs,h.OM.keeps k h3,h.b1,h.b2,h.b3,h.b4,h.b5,h.b6,h.b7⟩
theorem Yw.keeps{ts:List TypeId}(h:Yw w base Lb B l)(k:Qd base' ts w w')(h1:216∉ts)(h2:137∉ts)(h3:5∉ts):Yw w' base Lb B l:=by
 obtain⟨L,A,c,h⟩:=h;exact⟨L,A,c,h.keeps k h1 h2 h3⟩
theorem Py.below{L:List Kx}(h:Py w base Lb B l L A c)(k:Below w.heap.size w w'):Py w' base Lb B l L A c:=h.keeps (ts:=[]) (Qd.Qe (base:=0) k (Nat.zero_le _)) (by simp) (by simp) (by simp)
theorem Yw.below(h:Yw w base Lb B l)(k:Below w.heap.size w w'):Yw w' base Lb B l:=h.keeps (ts:=[]) (Qd.Qe (base:=0) k (Nat.zero_le _)) (by simp) (by simp) (by simp)
theorem YZ(h a:Nat)(hh:h≤1):h*a≤a:=by
 have:=Nat.mul_le_mul_right a hh;omega
theorem Za(h:Yw w base Lb B l)(k:Nat)(hk:k≤1):
  Calls prog 164 #[.pointer (some ⟨Lb,0,none⟩),.int .i64 k] w fun e w'=>e=.returned (.int .i64 (l.begin k:Nat))∧Below w.heap.size w w':=by
 obtain⟨L,A,c,h⟩:=h;have b1:=h.b1;have b2:=h.b2;have a0:=h.blk.lt;have e1:w.cell? ⟨Lb,1,none⟩=some (.int .i64 l.Ky):=h.blk.cell 1;have e2:w.cell? ⟨Lb,2,none⟩=some (.int .i64 l.half):=h.blk.cell 2;have hm:=YZ k l.half hk;have a:(k:Int)*(l.half:Int)=((k*l.half:Nat):Int):=by rw[Int.natCast_mul]
 have q1:IntKind.i64.wrap ((k:Int)*(l.half:Int))=((k*l.half:Nat):Int):=by rw[IntKind.wrap_i64,a];omega
 have HE:Qb (l.begin k=l.Ky+k*l.half):=show l.begin k=l.Ky+k*l.half from rfl;clear h a;generalize k*l.half=p at*
 go_enter func164,ntmps164;go_upto_region 1 with fail
 go_quiet (fail)
 go_wp2_with fail;go_ret;exact⟨by rw[HE.o,Int.natCast_add];rfl,QK bR _⟩
theorem Gx(h:Yw w base Lb B l):
  Calls prog 159 #[.pointer (some ⟨Lb,0,none⟩)] w fun e w'=>e=.returned (.int .i64 (l.epoch:Nat))∧w=w':=by
 obtain⟨L,A,c,h⟩:=h;have a0:=h.blk.lt;have e5:w.cell? ⟨Lb,5,none⟩=some (.int .i64 l.epoch):=h.blk.cell 5;clear h;go_enter func159,ntmps159;go_wp2_with fail;go_ret;exact⟨rfl,rfl⟩
theorem FZ(h:Yw w base Lb B l)(hat:l.at'≤l.begin l.use+l.half):
  Calls prog 174 #[.pointer (some ⟨Lb,0,none⟩)] w fun e w'=>e=.returned (.int .i64 (l.left:Nat))∧Below w.heap.size w w':=by
 have HB:=@Qa (∀wy,Below w.heap.size w wy→Calls prog 164 #[.pointer (some ⟨Lb,0,none⟩),.int .i64 l.use] wy fun e w'=>e=.returned (.int .i64 (l.begin l.use:Nat))∧Below wy.heap.size wy w') (fun wy hy=>by
  have b4:=h;obtain⟨L,A,c,b4⟩:=b4;exact Za (h.below hy) l.use b4.b4)
 obtain⟨L,A,c,h⟩:=h;have HH:=Qa h;have b1:=h.b1;have b2:=h.b2;have f:=h.blk.lt;have hm:=YZ l.use l.half h.b4;have a0:l.begin l.use≤131072:=by unfold QD.begin;omega
 have sk:∀wy,Below w.heap.size w wy→wy.cell? ⟨Lb,4,none⟩=some (.int .i64 l.use)∧wy.cell? ⟨Lb,2,none⟩=some (.int .i64 l.half)∧wy.cell? ⟨Lb,6,none⟩=some (.int .i64 l.at'):=fun wy hy=>by
  have hb:=h.blk.below hy f;exact⟨hb.cell 4,hb.cell 2,hb.cell 6⟩
 have SK:=Qa sk;have HL:Qb (l.left=l.begin l.use+l.half-l.at'):=show l.left=l.begin l.use+l.half-l.at' from rfl;obtain⟨bg,a⟩:=eX (l.begin l.use);rw[←a]at*
 clear h sk hm a;go_enter func174,ntmps174;go_upto_region 3 with fail;have S0:=Qa (SK.o _ bR.drew)
 go_region_held3 (fun wy=>wy.cell? ⟨Lb,4,none⟩=some (.int .i64 l.use)∧wy.cell? ⟨Lb,2,none⟩=some (.int .i64 l.half)∧wy.cell? ⟨Lb,6,none⟩=some (.int .i64 l.at'))
  (first|exact SK.o _ d.o|exact S0.o)
  (first
   |(go_at_call 164;refine(HB.o _ bR.drew).mono ?_;rintro en w2 ⟨rfl,b⟩;(have d:Qb (Below w.heap.size w w2):=bR.drew.trans b);clear b))
 all_goals
  go_wp2_with fail;go_ret;refine⟨?_,d.o⟩;rw[HL.o];exact US (by simp only[IntKind.wrap_i64];omega)
theorem Nu(h:Yw w base Lb B l)(r:QN)(A:Option Addr)(c:Nat)(hn:r.2.length<1099511627776):
  Calls prog 122 #[.pointer (some ⟨Lb,0,none⟩),.agg #[.int .u8 r.1,.slice A r.2.length c]] w fun e w'=>e=.returned (.int .i64 (l.Jb r:Nat))∧Below w.heap.size w w':=by
 obtain⟨L,A',c',h⟩:=h;have b:=h.blk.lt;have b3:=h.b3;have a:Below w.heap.size w (w.alloc (.cells #[.int .u8 r.1,.slice A r.2.length c] 137)):=bR.alloc nR _;have e3:(w.alloc (.cells #[.int .u8 r.1,.slice A r.2.length c] 137)).cell? ⟨Lb,3,none⟩=some (.int .i64 l.size):=(a.cell b).trans (h.blk.cell 3);have d:=Qa a
 have HN:=@Qa (∀wy,Calls prog 56 #[.int .i64 l.size,.int .i64 ((1:Int)+(r.2.length:Nat))] wy fun e w'=>e=.returned (.int .i64 (l.Jb r:Nat))∧wy=w') (fun wy=>by
  have:=JP l.size (1+r.2.length) (by omega) (by omega) wy;rw[Int.natCast_add]at this;exact this)
 clear h a;go_enter func122,ntmps122;go_upto_region 1 with fail
 go_quiet ((go_at_call 56;exact O7 (HN.o _)))
 go_wp2_with fail;go_ret;exact⟨rfl,QK d.o _⟩
theorem Tw(r:QN)(hk:r.1<256)(A:Option Addr)(c:Nat)(hb:Kb w A r.2)(hn:r.2.length<1099511627776):
  Calls prog 166 #[.agg #[.int .u8 r.1,.slice A r.2.length c]] w fun e w'=>(∃A' c',e=.returned (.slice A' (J7 r).length c')∧Kb w' A' (J7 r)∧(J7 r).length≤c')∧Below w.heap.size w w':=by
 obtain⟨i0,p,l,n,k⟩:=info_parts Tu;have i:Value.int .u8 (r.1:Int)=Ks (UInt8.ofNat r.1):=by unfold Ks;congr 1;simp;omega
 have j:Below w.heap.size w (w.alloc (.cells #[.int .u8 r.1,.slice A r.2.length c] 137)):=bR.alloc nR _;have d:Below w.heap.size w ((w.alloc (.cells #[.int .u8 r.1,.slice A r.2.length c] 137)).alloc (.cells #[.int .u8 r.1] 5)):=j.alloc (by simp) _;have b:Sl ((w.alloc (.cells #[.int .u8 r.1,.slice A r.2.length c] 137)).alloc (.cells #[.int .u8 r.1] 5)) 5 1 (some ⟨w.heap.size+1,0,none⟩) 1 [Ks (UInt8.ofNat r.1)]:=by
  have:Qh ((w.alloc (.cells #[.int .u8 r.1,.slice A r.2.length c] 137)).alloc (.cells #[.int .u8 r.1] 5)) (w.heap.size+1) 5 [Ks (UInt8.ofNat r.1)].toArray:=by
   rw[←i];exact Qh.Qz (by simp)
  exact Sl.Ja this rfl
 obtain⟨A',c',w',a,hs,hc,f,_⟩:=VV _ 43 43 5 i0 _ 1 1 VI p l n k rfl (by decide) _ 1 _ b A r.2.length c (r.2.map Ks) (hb.below d).rd (Oo _) (by unfold maxLen;omega) (by omega);have hl:(J7 r).length=1+r.2.length:=by unfold J7;simp;omega
 have g:=Qa a
 have HF:=@Qa (Kb w' A' (J7 r)) (by
  have h:=hs;rw[←hl]at h;exact h)
 have m:=Qa (d.trans (f.mono (by simp;omega)));have HL:=Qa hl;clear a hs f b j d i;go_enter func166,ntmps166;go_wp2_with (at_builtin;refine YY _ _ rfl _ _ 43 rfl _ _ _ rfl rfl g.o ?_);go_ret;exact⟨⟨A',c',by rw[HL.o];rfl,HF.o,by rw[HL.o];exact hc⟩,m.o⟩
theorem Ew(h:Yw w base Lb B l)(hd:VK w base B d):
  Calls prog 73 #[.pointer (some ⟨Lb,0,none⟩)] w fun e w'=>UW w w' base B (Q4 d) e:=by
 obtain⟨L,A,c,h⟩:=h;have a0:=h.blk.lt;have e0:w.cell? ⟨Lb,0,none⟩=some (.pointer (some ⟨B,0,none⟩)):=h.blk.cell 0;have HF:=Qa (YJ hd);clear h hd;go_enter func73,ntmps73;go_wp2_with (go_at_call 130;refine HF.o.mono ?_;rintro en w2 ⟨rfl,h2⟩);go_ret;exact⟨rfl,h2⟩
theorem YX:prog.underlying 134=some (.slice 137):=by kernel_rfl
theorem Wv:(prog.info? 137).map (fun i=>(i.zero,i.size,i.bytes))=some (some (.agg #[.int .u8 0,.slice none 0 0]),2,32):=by kernel_rfl
theorem Sl.Dg{L:List Kx}(h:Sl w 137 2 A n (QI L))(i:Nat)(hi:i<L.length)(hn:n=L.length):∃b o,A=some ⟨b,o,none⟩∧b<w.heap.size∧w.cell? ⟨b,o+i*2,none⟩=some (.int .u8 (L[i].1.1:Nat))∧w.cell? ⟨b,o+i*2+1,none⟩=some (.slice L[i].2.1 L[i].1.2.length L[i].2.2):=by
 obtain⟨b,o,rfl,hb,hc⟩:=h.1.2 (by omega);have hp:=Vf (fun x:Kx=>Value.int .u8 x.1.1) (fun x=>.slice x.2.1 x.1.2.length x.2.2) L i hi;obtain⟨p1,p2⟩:=hp;have l1:i*2<(QI L).length:=by rw[YE];omega
 have l2:i*2+1<(QI L).length:=by rw[YE];omega
 refine⟨b,o,rfl,hb, ?_, ?_⟩
 ·rw[hc _ l1,←p1];exact(List.getElem?_eq_getElem l1).symm
 rw[Nat.add_assoc,hc _ l2,←p2];exact(List.getElem?_eq_getElem l2).symm
variable {size:Nat} {v:Value}
theorem Q7(h:w.ownsRow base e size v n xs)(hg:w.grownBy w' v.ownBlock)(hb:base≤w.heap.size):Qd base [e] w w':=
 Qd.JY hg hb fun g hgg=>⟨(h.lt g hgg).1,fun t ht=>by
  have:=Pk h hgg;rw[this]at ht;injection ht with ht;simp[←ht]⟩
def UU(w w':World)(L:List Kx)(e:Ending):Prop:=(∃L' A' c',e=.returned (.slice A' L.length c')∧w'.ownsRow w.heap.size 137 2 (.slice A' L.length c') L.length (QI L')∧L'.map (·.1)=L.map (·.1)∧Yj w' L'∧L.length≤c')∧Below w.heap.size w w'
theorem ZC(L:List Kx)(A:Option Addr)(c:Nat)(h:Sl w 137 2 A L.length (QI L))(hb:Yj w L)(hl:L.length≤1000000):
  Calls prog 113 #[.slice A L.length c] w fun e w'=>UU w w' L e:=by
 have P:=Qa h;have U:=Qa hb;obtain⟨i0,a3,R,a1,S⟩:=info_parts Wv;obtain⟨i5,Q,V,Y,a2⟩:=info_parts Tu;clear h hb;go_enter func113,ntmps113;go_wp2_with fail;go_loopw [3,8] (fun out i wr=>∃(k:Nat)(L':List Kx),k≤L.length∧i=.int .i64 (k:Nat)∧L'.map (·.1)=(L.take k).map (·.1)∧wr.ownsRow w.heap.size 137 2 out k (QI L')∧Yj wr L'∧Below w.heap.size w wr) (fun _ i _=>L.length-(intOf i).toNat)
 case atStart=>exact⟨0,[],Nat.zero_le _,rfl,rfl,Zs _ _ _ _,(fun x hx=>by cases hx),bR⟩
 obtain⟨k,L',hk,rfl,r,j,q,f⟩:=hrel;have t:=Qa r;have m:=Qa j;have g:=Qa q;have a7:=Qa f;have Z:=f.size;by_cases hkl:k<L.length
 ·obtain⟨b,o,hA,aa,c1,c2⟩:=(P.o.below f).Dg k hkl rfl;obtain⟨y1,y2,y3,y4⟩:=U.o (L[k]) (List.getElem_mem _);have a8:(k:Int)<L.length:=by omega
  have E:(L.take (k+1)).map (·.1)=(L.take k).map (·.1)++[L[k].1]:=by rw[List.take_succ_eq_append_getElem hkl,List.map_append];rfl
  subst hA;clear r j q;generalize L[k]=x at*
  obtain⟨⟨kd,a⟩,B,cb⟩:=x;simp only at y1 y2 y3 y4 c1 c2 E;have a6:=Qa E;clear E;have s:Below w.heap.size w (wr.alloc (.cells #[.int .u8 kd,.slice B a.length cb] 137)):=f.alloc Z _;have p:Qh (wr.alloc (.cells #[.int .u8 kd,.slice B a.length cb] 137)) wr.heap.size 137 #[.int .u8 kd,.slice B a.length cb]:=Qh.new wr 137 _;have J:=Qu m.o (.cells #[.int .u8 kd,.slice B a.length cb] 137);have M:Yj (wr.alloc (.cells #[.int .u8 kd,.slice B a.length cb] 137)) L':=g.o.below (bR.alloc nR _);have C:Kb (wr.alloc (.cells #[.int .u8 kd,.slice B a.length cb] 137)) B a:=y1.below s;clear f g y1;go_upto_region 5 with fail;generalize wr.alloc (.cells #[.int .u8 kd,.slice B a.length cb] 137)=w2 at*
  obtain⟨X,hX⟩:=eX wr.heap.size;rw[←hX]at p ⊢;have x0:w2.drew.cell? ⟨X,0,none⟩=some (.int .u8 kd):=p.cell 0;have x1:w2.drew.cell? ⟨X,1,none⟩=some (.slice B a.length cb):=p.cell 1;have xl:X<w2.drew.heap.size:=p.lt;obtain⟨A3,c3,w3,l,F,D,I,_⟩:=VV w2.drew 43 43 5 i5 _ 1 1 VI Q V Y a2 rfl (by decide) none 0 [] Sl.nil B a.length cb (a.map Ks) C.rd (Oo _) (by unfold maxLen;omega) (by omega);rw[Nat.zero_add]at l D;rw[Nat.zero_add,List.nil_append]at F;have a9:w3.cell? ⟨X,0,none⟩=some (.int .u8 kd):=(I.cell xl).trans x0;have d:Below w2.heap.size w2 w3:=bR.drew.trans I;have N:=Qa l;have a0:=@Qa (Kb w3 A3 a) (F);have T:=Qa D;have O:=Qa (QF (base:=w.heap.size) (ts:=[]) J (Qd.Qe d (by have:=s.size;omega)) (by simp));have W:=Qa (M.below d);have v:=Qa (s.trans (d.mono s.size));have a4:Qb (∀u∈([.int .u8 kd,.slice A3 a.length c3]:List Value),u.oneCell'=true):=by
   show ∀u∈([.int .u8 kd,.slice A3 a.length c3]:List Value),u.oneCell'=true;simp[Value.oneCell']
  have HR:=Qa (Kq (Sl.Ja (sz:=2) (n:=1) (Qh.new w3 137 #[.int .u8 kd,.slice A3 a.length c3]) rfl));clear p l F D I d J M s C hX
  go_region_law (first
   |(refine XY (by rfl) _ _ _ (by rfl) _ _ _ (by rfl) (by rfl) N.o ?_)
   |(refine Q9 _ (by rfl) _ _ _ (by rfl) w.heap.size 137 i0 _ 2 32 YX a3 R a1 S rfl (by decide) u3 k (QI L') (by rfl) (Qu O.o _) (some ⟨w3.heap.size,0,none⟩) 1 1 _ [.int .u8 kd,.slice A3 a.length c3] (by rfl) HR.o a4.o (by unfold maxLen;omega) (by omega) (by have:=v.o.size;simp;omega) ?_;intro A5 c5 w5 hown5 hgr5 hnc5;(have H:=Qa hown5);(have K:=Qa hgr5);clear hown5 hgr5))
  all_goals
   go_wp2_with fail;go_roundw
   case rel=>
    have G:=Q7 (Qu O.o (.cells #[.int .u8 kd,.slice A3 a.length c3] 137)) K.o (by have:=v.o.size;simp;omega);have y:Below w3.heap.size w3 (w3.alloc (.cells #[.int .u8 kd,.slice A3 a.length c3] 137)):=bR.alloc nR _;refine⟨k+1,L'++[((kd,a),A3,c3)],by omega,by go_num, ?_, ?_, ?_, ?_⟩
    ·rw[a6.o,List.map_append,t.o];rfl
    ·rw[KU];exact H.o
    ·intro z hz;rcases List.mem_append.1 hz with hz|hz
     ·exact((W.o.below y).keeps G (by decide)) z hz
     rw[List.mem_singleton]at hz;subst hz;exact⟨(a0.o.below y).keeps G (by decide),T.o,y3,y4⟩
    exact(v.o.alloc v.o.size _).trans (G.below.mono (by exact nR))
   case measure=>simp[intOf];omega
 obtain rfl:k=L.length:=by omega
 clear r j q f;rw[List.take_length]at t;obtain⟨A',c',rfl,a5⟩:=Jg m.o;go_wp2_with fail;go_ret;exact⟨⟨L',A',c',rfl,m.o,t.o,g.o,a5⟩,a7.o⟩
end Go.Proofs.YtmgmfnimaafkdaaGreatDoor
