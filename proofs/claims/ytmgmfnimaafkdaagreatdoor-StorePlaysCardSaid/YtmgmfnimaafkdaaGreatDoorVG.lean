/- store.numbers: the numbers that a text of words has. -/
import Derived.Test.YtmgmfnimaafkdaaGreatDoorVF
import Derived.Lib.ParseIntBTie
import Derived.Lib.IndexLaws
import Derived.Laws.MakeOwn
namespace Go.Proofs.YtmgmfnimaafkdaaGreatDoor
set_option maxRecDepth 100000
set_option maxHeartbeats 0
open Go.RowKit Go.Maps
open Tryz
def YO(d:Qq):Nat→QD→Bool→Nat × QD
 |0,l,f=>if f then Kt d (l.half+1) { l with at':=l.begin l.use+Qf l.size 0 }else(0,{ l with at':=l.begin l.use })
 |k+1,l,f=>match Jm d l (1-k) f with
  |(0,l1,f1)=>YO d k l1 f1
  |(e,l1,_)=>(e,l1)
theorem E6(d:Qq)(l0:QD):On d l0=YO d 2 { l0 with use:=1,epoch:=0 } false:=by
 unfold On
 have e:YO d 2 { l0 with use:=1,epoch:=0 } false=(match Jm d { l0 with use:=1,epoch:=0 } 0 false with
  |(0,l1,f1)=>YO d 1 l1 f1
  |(e,l1,_)=>(e,l1)):=rfl
 rw[e];cases h1:Jm d { l0 with use:=1,epoch:=0 } 0 false with
 |mk e1 q=>
  obtain⟨l1,f1⟩:=q;cases e1 with
  |succ e=>rfl
  |zero=>
   have e2:YO d 1 l1 f1=(match Jm d l1 1 f1 with
    |(0,l2,f2)=>YO d 0 l2 f2
    |(e,l2,_)=>(e,l2)):=rfl
   simp only[e2];cases h2:Jm d l1 1 f1 with
   |mk e2 q=>
    obtain⟨l2,f2⟩:=q;cases e2<;>rfl
variable {d:Qq} {k:Nat} {l:QD}
theorem Z6{f:Bool}(hk:k<2):YO d (2-k) l f=match Jm d l k f with
  |(0,l1,f1)=>YO d (2-(k+1)) l1 f1
  |(e,l1,_)=>(e,l1):=by
 match k,hk with
 |0,_=>rfl
 |1,_=>rfl
def Ww(w w':World)(base Lb B:Nat)(r:Nat × QD)(e:Ending):Prop:=e=.returned (.int .i64 r.1)∧Yw w' base Lb B r.2∧Qd base [216,137] w w'
structure We (w wr:World) (base Lb B:Nat) (d:Qq) (E:Nat) (l:QD) (q:Nat × QD) (k:Nat) (l1:QD) (f:Bool):Prop where
 log:Yw wr base Lb B l1
 keep:Qd base [216] w wr
 Bj:Mz l l1 E
 Qo:l1.Qo=l.Qo
 go:q=YO d (2-k) l1 f
variable {base:Nat} {w w':World}
theorem O4{ts:List TypeId}(h:Qd base ts w w')(ht:∀t∈ts,t∈[216,137]):Qd base [216,137] w w':=h.mono nR ht
variable {B Lb:Nat}
theorem Yw.sets(h:Yw w base Lb B l)(u e:Nat)(hu:u≤1)(he:e<549755813888):
  Yw ((w.setCell ⟨Lb,4,none⟩ (.int .i64 u)).setCell ⟨Lb,5,none⟩ (.int .i64 e)) base Lb B { l with use:=u,epoch:=e }∧Qd base [216] w ((w.setCell ⟨Lb,4,none⟩ (.int .i64 u)).setCell ⟨Lb,5,none⟩ (.int .i64 e)):=by
 obtain⟨L,A,c,h⟩:=h;have s1:=h.blk.set 4 (.int .i64 u);have s2:=s1.set 5 (.int .i64 e);have kx:=((Qd.refl base [216] w).set (o:=4) h.blk h.low (by simp) (.int .i64 u)).set (o:=5) s1 h.low (by simp) (.int .i64 e);exact⟨⟨L,A,c,h.low,s2,QF h.own kx (by decide),h.rcs,h.OM.keeps kx (by decide),h.b1,h.b2,h.b3,hu,he,h.b6,h.b7⟩,kx⟩
theorem Yw.setAt(h:Yw w base Lb B l)(a:Nat)(ha:a≤1048576):
  Yw (w.setCell ⟨Lb,6,none⟩ (.int .i64 a)) base Lb B { l with at':=a }∧Qd base [216] w (w.setCell ⟨Lb,6,none⟩ (.int .i64 a)):=by
 obtain⟨L,A,c,h⟩:=h;have s1:=h.blk.set 6 (.int .i64 a);have kx:=(Qd.refl base [216] w).set (o:=6) h.blk h.low (by simp) (.int .i64 a);exact⟨⟨L,A,c,h.low,s1,QF h.own kx (by decide),h.rcs,h.OM.keeps kx (by decide),h.b1,h.b2,h.b3,h.b4,h.b5,ha,h.b7⟩,kx⟩
theorem Yw.cells(h:Yw w base Lb B l):Lb<w.heap.size∧base≤Lb∧w.cell? ⟨Lb,0,none⟩=some (.pointer (some ⟨B,0,none⟩))∧w.cell? ⟨Lb,2,none⟩=some (.int .i64 l.half)∧w.cell? ⟨Lb,3,none⟩=some (.int .i64 l.size)∧w.cell? ⟨Lb,4,none⟩=some (.int .i64 l.use)∧w.cell? ⟨Lb,5,none⟩=some (.int .i64 l.epoch)∧w.cell? ⟨Lb,6,none⟩=some (.int .i64 l.at')∧(∀i,w.frozen? ⟨Lb,i,none⟩=false):=by
 obtain⟨L,A,c,h⟩:=h;exact⟨h.blk.lt,h.low,h.blk.cell 0,h.blk.cell 2,h.blk.cell 3,h.blk.cell 4,h.blk.cell 5,h.blk.cell 6,h.blk.free⟩
theorem Yw.bounds(h:Yw w base Lb B l):l.Ky≤65536∧l.half≤65536∧l.size≤65536∧l.use≤1∧l.epoch<549755813888∧l.at'≤1048576∧l.Qo.length≤1000000:=by
 obtain⟨L,A,c,h⟩:=h;exact⟨h.b1,h.b2,h.b3,h.b4,h.b5,h.b6,h.b7⟩
theorem XS(h1:l.Ky≤65536)(h2:l.half≤65536)(hk:k≤1):l.begin k≤131072:=by
 have:=YZ k l.half hk;unfold QD.begin;omega
theorem Tg{f:Bool}{r:Yn}(h:KE d (l.begin k)=(10,r)):Jm d l k f=(10,l,f):=by unfold Jm;rw[h];rfl
variable {er:Nat}
theorem PD{f:Bool}{r:Yn}(h:KE d (l.begin k)=(er,r))(h0:er≠0)(h1:er≠10):Jm d l k f=(0,l,f):=by
 unfold Jm;rw[h];split
 ·rename_i e;injection e with e _;exact absurd e h1
 ·rename_i e;injection e with e _;exact absurd e h0
 rfl
theorem Oe{f:Bool}{r:Yn}(h:KE d (l.begin k)=(0,r))(hc:r.kind≠72∨r.bytes≠[]):Jm d l k f=(0,l,f):=by
 unfold Jm;rw[h];simp only;rw[if_pos hc]
theorem Tl{f:Bool}{r:Yn}(h:KE d (l.begin k)=(0,r))(hc:¬(r.kind≠72∨r.bytes≠[]))(hf:¬(f=false∨l.epoch<r.mark)):Jm d l k f=(0,l,f):=by
 unfold Jm;rw[h];simp only;rw[if_neg hc,if_neg hf]
theorem Un{f:Bool}{r:Yn}(h:KE d (l.begin k)=(0,r))(hc:¬(r.kind≠72∨r.bytes≠[]))(hf:f=false∨l.epoch<r.mark):Jm d l k f=(0,{ l with use:=k,epoch:=r.mark },true):=by
 unfold Jm;rw[h];simp only;rw[if_neg hc,if_pos hf]
theorem YU.ok{r:Yn}{e:Ending}(h:YU w' base (0,r) e)(hm:r.mark<2^60):∃A c,e=.returned (.tuple #[.int .u8 r.kind,.int .i64 r.mark,.slice A r.bytes.length c,.int .i64 r.many,.int .i64 0])∧w'.ownsRow base 5 1 (.slice A r.bytes.length c) r.bytes.length (r.bytes.map Ks)∧r.bytes.length≤c:=by
 rcases h with⟨_,v,rfl,ho⟩|⟨h,_⟩
 ·obtain⟨A,c,rfl,hc⟩:=Jg ho;refine⟨A,c, ?_,ho,hc⟩;have:IntKind.i64.wrap (r.mark:Int)=(r.mark:Int):=by rw[IntKind.wrap_i64];omega
  simp only[this]
 exact absurd rfl h
theorem YU.no{r:Yn}{e:Ending}(h:YU w' base (er,r) e)(h0:er≠0):e=.returned (.tuple #[.int .u8 0,.int .i64 0,.slice none 0 0,.int .i64 0,.int .i64 er]):=by
 rcases h with⟨h,_⟩|⟨_,h⟩
 ·exact absurd h h0
 exact h
variable {E:Nat} {l1:QD} {w3 wr:World}
theorem We.next{q:Nat × QD}{f:Bool}(h:We w wr base Lb B d E l q k l1 f)(hk:k<2)(hb:base≤wr.heap.size)(hB:Below wr.heap.size wr w3)(hh:Jm d l1 k f=(0,l1,f)):We w w3 base Lb B d E l q (k+1) l1 f:=
 ⟨h.log.below hB,h.keep.trans (Qd.Qe hB hb),h.Bj,h.Qo,by rw[h.go,Z6 hk,hh];rfl⟩
variable {e:Nat}
theorem We.set{q:Nat × QD}{f:Bool}(h:We w wr base Lb B d E l q k l1 f)(hk:k<2)(hb:base≤wr.heap.size)(hB:Below wr.heap.size wr w3)(he:e≤E)(hE:E<549755813888)(hh:Jm d l1 k f=(0,{ l1 with use:=k,epoch:=e },true)):
  We w ((w3.setCell ⟨Lb,4,none⟩ (.int .i64 k)).setCell ⟨Lb,5,none⟩ (.int .i64 e)) base Lb B d E l q (k+1) { l1 with use:=k,epoch:=e } true:=by
 obtain⟨h1,h2⟩:=(h.log.below hB).sets k e (by omega) (by omega);have g:=h.Bj;exact⟨h1,(h.keep.trans (Qd.Qe hB hb)).trans h2,⟨g.Ky,g.half,g.size,by show k≤1;omega,he⟩,h.Qo,by rw[h.go,Z6 hk,hh];rfl⟩
theorem Ea(hL:Yw w base Lb B l)(hD:VK w base B d)(hs:J9 w)(c:2<base)(hF:Ol d E)(hE:E<549755813888)
  (hload:∀wy ly,Qd base [216] w wy→Yw wy base Lb B ly→Mz l ly E→ly.Qo=l.Qo→Calls prog 165 #[.pointer (some ⟨Lb,0,none⟩)] wy fun e w'=>Ww wy w' base Lb B (Kt d (ly.half+1) { ly with at':=ly.begin ly.use+Qf ly.size 0 }) e):
  Calls prog 111 #[.pointer (some ⟨Lb,0,none⟩)] w fun e w'=>Ww w w' base Lb B (On d l) e:=by
 rw[E6];obtain⟨q,hq⟩:∃q,q=YO d 2 { l with use:=1,epoch:=0 } false:=⟨_,rfl⟩;rw[←hq];obtain⟨a1,a0,c0,c2,c3,c4,c5,c6,fz⟩:=hL.cells;have f4:=fz 4;have f5:=fz 5;have a4:base≤w.heap.size:=by omega
 obtain⟨L,k1⟩:=hL.sets 1 0 (by decide) (by decide);have H:Qb (We w ((w.setCell ⟨Lb,4,none⟩ (.int .i64 (1:Nat))).setCell ⟨Lb,5,none⟩ (.int .i64 (0:Nat))) base Lb B d E l q 0 { l with use:=1,epoch:=0 } false):=⟨L,k1,⟨rfl,rfl,rfl,by show 1≤1;omega,Nat.zero_le _⟩,rfl,hq⟩;have HD:=Qa hD;have HS:=Qa hs;have HF:=Qa hF;have O:=Qa hload;clear L k1 hq hL hD hs hF hload c0 c2 c3 c6 fz;go_enter func111,ntmps111;go_upto_region 3 with fail;have I:((w.setCell ⟨Lb,4,none⟩ (.int .i64 (1:Nat))).setCell ⟨Lb,5,none⟩ (.int .i64 (0:Nat)))=((w.setCell ⟨Lb,4,none⟩ (.int .i64 1)).setCell ⟨Lb,5,none⟩ (.int .i64 0)):=rfl;rw[I]at H;clear I;generalize ((w.setCell ⟨Lb,4,none⟩ (.int .i64 1)).setCell ⟨Lb,5,none⟩ (.int .i64 0))=w1 at*
 go_wp2_with fail;go_loopw [3,16] (fun fv i wr=>∃(k:Nat)(f:Bool)(l1:QD),k≤2∧i=.int .i64 (k:Nat)∧fv=.bool f∧We w wr base Lb B d E l q k l1 f) (fun _ i _=>2-(intOf i).toNat)
 case atStart=>exact⟨0,false,_,by omega,rfl,rfl,H.o⟩
 obtain⟨k,f,l1,hk,rfl,rfl,hp⟩:=hrel;have HP:=Qa hp;obtain⟨ab,_,c0,c2,c3,c4,c5,c6,fz⟩:=hp.log.cells;obtain⟨g1,g2,g3,g4,g5,g6,g7⟩:=hp.log.bounds;have j:base≤wr.heap.size:=by omega
 by_cases hk2:k<2
 ·have a3:(k:Int)<2:=by omega
  have x:=XS g1 g2 (k:=k) (by omega);have s:=@Qa (∀wy,Below wr.heap.size wr wy→Calls prog 164 #[.pointer (some ⟨Lb,0,none⟩),.int .i64 k] wy fun e w'=>e=.returned (.int .i64 (l1.begin k:Nat))∧Below wy.heap.size wy w') (fun wy hy=>Za (HP.o.log.below hy) k (by omega));obtain⟨r,hr⟩:∃r,KE d (l1.begin k)=r:=⟨_,rfl⟩;obtain⟨er,r⟩:=r
  have t:=@Qa (∀wy,Below wr.heap.size wr wy→Calls prog 118 #[.pointer (some ⟨B,0,none⟩),.int .i64 (l1.begin k:Nat)] wy fun e w'=>YU w' wy.heap.size (er,r) e∧Below wy.heap.size wy w') (fun wy hy=>by
   have:=Uh ((HD.o.keeps HP.o.keep (by decide) (by decide) (by decide) (by decide) (by decide)).below hy) ((HS.o.keeps HP.o.keep c).below hy) (l1.begin k) (by omega);rw[hr]at this;exact this)
  have g:=Qa hr;have SK:=@Qa (∀wy,Below wr.heap.size wr wy→wy.cell? ⟨Lb,0,none⟩=some (.pointer (some ⟨B,0,none⟩))) (fun wy hy=>(HP.o.log.below hy).cells.2.2.1);have S0:=Qa (SK.o _ bR.drew);have HG:=Qa hp.go;clear hp hr c0 c2 c3 c4 c5 c6 fz;have a2:Qb (l1.begin k=l1.begin k):=show l1.begin k=l1.begin k from rfl;generalize hbge:l1.begin k=bg at t s x;by_cases he0:er=0
  ·subst he0;obtain⟨z,K⟩:=Y4 HF.o g.o;go_upto_region 6 with fail
   go_region_held3 (fun wy=>wy.cell? ⟨Lb,0,none⟩=some (.pointer (some ⟨B,0,none⟩)))
    (first|exact SK.o _ a.o|exact SK.o _ b.o|exact S0.o)
    (first
     |(go_at_call 164;refine(s.o _ bR.drew).mono ?_;rintro en w2 ⟨rfl,c⟩;(have b:Qb (Below wr.heap.size wr w2):=bR.drew.trans c);clear c)
     |(go_at_call 118;refine(t.o w2 b.o).mono ?_;rintro en w3 ⟨u,p⟩;(obtain⟨A3,c3,rfl,S,N⟩:=u.ok z);(have a:Qb (Below wr.heap.size wr w3):=b.o.trans (p.mono b.o.size));clear p u S N))
   have a8:=Qa z;have F:=Qa K;clear z K;by_cases hkd:r.kind=72
   ·by_cases hbs:r.bytes=[]
    ·have y:((r.kind:Int) != 72)=false:=by simp;omega
     have D:¬(0:Int)<((r.bytes.length:Nat):Int):=by rw[hbs];simp
     have M:¬(r.kind≠72∨r.bytes≠[]):=by simp[hkd,hbs]
     have C:=Qa M;have v:=Qa hkd;obtain⟨a9,_,_,_,_,d4,d5,_,A⟩:=(HP.o.log.below a.o).cells;have a7:=A 4;have ac:=A 5;clear M hkd hbs A;by_cases hset:f=false∨l1.epoch<r.mark
     ·have m:=Qa hset;cases f with
      |false=>
       clear hset;go_wp2_with fail;go_roundw
       case rel=>exact⟨k+1,true,_,by omega,by go_num,rfl,HP.o.set hk2 j a.o (F.o v.o) hE (Un g.o C.o m.o)⟩
       case measure=>simp[intOf];omega
      |true=>
       have P:(l1.epoch:Int)<(r.mark:Int):=by
        rcases hset with h|h
        ·cases h
        omega
       clear hset;go_wp2_with fail;go_roundw
       case rel=>exact⟨k+1,true,_,by omega,by go_num,rfl,HP.o.set hk2 j a.o (F.o v.o) hE (Un g.o C.o m.o)⟩
       case measure=>simp[intOf];omega
     have m:=Qa hset;have Q:f=true:=by
      cases f with
      |false=>exact absurd (.inl rfl) hset
      |true=>rfl
     have P:¬(l1.epoch:Int)<(r.mark:Int):=fun h=>hset (.inr (by omega))
     subst Q;clear hset;go_wp2_with fail;go_roundw
     case rel=>exact⟨k+1,true,l1,by omega,by go_num,rfl,HP.o.next hk2 j a.o (Tl g.o C.o m.o)⟩
     case measure=>simp[intOf];omega
    have y:((r.kind:Int) != 72)=false:=by simp;omega
    have D:(0:Int)<((r.bytes.length:Nat):Int):=by have:=List.length_pos_iff.2 hbs;omega
    have R:=Qa hbs;clear hbs hkd;go_wp2_with fail;go_roundw
    case rel=>exact⟨k+1,f,l1,by omega,by go_num,rfl,HP.o.next hk2 j a.o (Oe g.o (.inr R.o))⟩
    case measure=>simp[intOf];omega
   have y:((r.kind:Int) != 72)=true:=by simp;omega
   have v:=Qa hkd;clear hkd;go_wp2_with fail;go_roundw
   case rel=>exact⟨k+1,f,l1,by omega,by go_num,rfl,HP.o.next hk2 j a.o (Oe g.o (.inl v.o))⟩
   case measure=>simp[intOf];omega
  go_upto_region 6 with fail
  go_region_held3 (fun wy=>wy.cell? ⟨Lb,0,none⟩=some (.pointer (some ⟨B,0,none⟩)))
   (first|exact SK.o _ a.o|exact SK.o _ b.o|exact S0.o)
   (first
    |(go_at_call 164;refine(s.o _ bR.drew).mono ?_;rintro en w2 ⟨rfl,c⟩;(have b:Qb (Below wr.heap.size wr w2):=bR.drew.trans c);clear c)
    |(go_at_call 118;refine(t.o w2 b.o).mono ?_;rintro en w3 ⟨u,p⟩;(obtain rfl:=u.no he0);(have a:Qb (Below wr.heap.size wr w3):=b.o.trans (p.mono b.o.size));clear p u))
  by_cases he1:er=10
  ·subst he1;have n:q=(10,l1):=by rw[HG.o,Z6 hk2,Tg g.o];rfl
   subst n;go_wp2_with fail;go_ret;exact⟨rfl,HP.o.log.below a.o,O4 (HP.o.keep.trans (Qd.Qe a.o j)) (by simp)⟩
  have a5:((er:Int)==10)=false:=by simp;omega
  have a6:((er:Int) != 0)=true:=by simp;omega
  go_wp2_with fail;go_roundw
  case rel=>exact⟨k+1,f,l1,by omega,by go_num,rfl,HP.o.next hk2 j a.o (PD g.o he0 he1)⟩
  case measure=>simp[intOf];omega
 obtain rfl:k=2:=by omega
 have f6:=fz 6;cases f with
 |false=>
  have n:q=(0,{ l1 with at':=l1.begin l1.use }):=hp.go;subst n;have x:=XS g1 g2 (k:=l1.use) g4;have s:=@Qa (Calls prog 164 #[.pointer (some ⟨Lb,0,none⟩),.int .i64 l1.use] wr fun e w'=>e=.returned (.int .i64 (l1.begin l1.use:Nat))∧Below wr.heap.size wr w') (Za HP.o.log l1.use g4);clear hp;go_wp2_with (go_at_call 164;refine s.o.mono ?_;rintro en w2 ⟨rfl,c⟩;(obtain⟨aa,_,_,_,_,_,_,d6,J⟩:=(HP.o.log.below c).cells);(have ad:=J 6);(have b:=Qa c);clear c J);go_ret;obtain⟨h1,h2⟩:=(HP.o.log.below b.o).setAt (l1.begin l1.use) (by omega);exact⟨rfl,h1,O4 ((HP.o.keep.trans (Qd.Qe b.o j)).trans h2) (by simp)⟩
 |true=>
  have n:q=Kt d (l1.half+1) { l1 with at':=l1.begin l1.use+Qf l1.size 0 }:=hp.go;have G:=Qa (O.o wr l1 hp.keep hp.log hp.Bj hp.Qo);rw[←n]at G;clear hp n;go_wp2_with (go_at_call 165;refine G.o.mono ?_;rintro en w2 ⟨rfl,h1,h2⟩;(have H1:=Qa h1);(have H2:=Qa h2);clear h1 h2);go_ret;exact⟨rfl,H1.o,(O4 HP.o.keep (by simp)).trans H2.o⟩
theorem LK{d:Qq}{l:QD}(h:l.begin l.use+l.half≤l.at'):∀k,Kt d k l=(0,l)
 |0=>rfl
 |k+1=>by unfold Kt;rw[if_pos h]
theorem NS{r:Yn}(h:¬l.begin l.use+l.half≤l.at')(hg:KE d l.at'=(10,r)):Kt d (k+1) l=(10,l):=by
 unfold Kt;rw[if_neg h,hg];try rfl
theorem Ld{r:Yn}(h:¬l.begin l.use+l.half≤l.at')(hg:KE d l.at'=(er,r))(h0:er≠0)(h1:er≠10):Kt d (k+1) l=(0,l):=by
 unfold Kt;rw[if_neg h,hg];try rfl
 split
 ·rename_i e;injection e with e _;exact absurd e h1
 ·rename_i e;injection e with e _;exact absurd e h0
 rfl
theorem YA{r:Yn}(h:¬l.begin l.use+l.half≤l.at')(hg:KE d l.at'=(0,r))(hc:r.kind≠82∨r.mark≠l.epoch*J6+l.Qo.length+1∨r.bytes=[]∨l.begin l.use+l.half-l.at'<r.many):Kt d (k+1) l=(0,l):=by
 unfold Kt;rw[if_neg h,hg];simp only;rw[if_pos hc]
theorem Fx{r:Yn}(h:¬l.begin l.use+l.half≤l.at')(hg:KE d l.at'=(0,r))(hc:¬(r.kind≠82∨r.mark≠l.epoch*J6+l.Qo.length+1∨r.bytes=[]∨l.begin l.use+l.half-l.at'<r.many)):
  Kt d (k+1) l=Kt d k { l with Qo:=l.Qo++[((r.bytes.headD 0).toNat,r.bytes.drop 1)],at':=l.at'+r.many }:=by
 conv=>lhs;unfold Kt
 rw[if_neg h,hg];simp only;rw[if_neg hc]
structure D4 (w wr:World) (base Lb B:Nat) (d:Qq) (E0 ep:Nat) (q:Nat × QD) (k:Nat) (lk:QD):Prop where
 log:Yw wr base Lb B lk
 keep:Qd base [216,137] w wr
 same:lk.begin lk.use+lk.half=E0∧lk.epoch=ep
 go:q=Kt d k lk
 fuel:E0<lk.at'+k
 Yp:lk.Qo.length+k≤1000000
def Fv(w:World)(Lb:Nat):Int:=match w.cell? ⟨Lb,6,none⟩with
 |some v=>intOf v
 |none=>0
theorem Yw.Fv(h:Yw w base Lb B l):Fv w Lb=l.at':=by
 unfold Go.Proofs.YtmgmfnimaafkdaaGreatDoor.Fv;rw[h.cells.2.2.2.2.2.2.2.1];rfl
theorem O8{ts:List TypeId}(h:Qd base ts w w')(ht:∀t∈ts,t∈[216,137]):Qd base [216,137] w w':=h.mono nR ht
theorem Iv{d:Qq}{at':Nat}:∀(k i:Nat)(head:P7)(out:List UInt8)(r:Yn),(0<i→head.left≤2^30)→Va d at' k i head out=(0,r)→r.bytes.length≤2^30
 |0,i,head,out,r,_,hg=>by unfold Va at hg;simp at hg
 |k+1,i,head,out,r,hh,hg=>by
  unfold Va at hg;cases hr:Vh d (at'+i)with
  |mk e s=>
   rw[hr]at hg;cases e with
   |succ e=>simp at hg
   |zero=>
    simp only at hg;split at hg
    ·simp at hg
    cases hx:J4 s with
    |none=>rw[hx]at hg;simp at hg
    |some x=>
     rw[hx]at hg;have a:=(UI hx).2.2.1;simp only at hg;split at hg
     ·simp at hg
     split at hg
     ·simp at hg
     by_cases hi:i=0
     ·simp only[if_pos hi]at hg;split at hg
      ·rename_i hl;injection hg with _ hg;subst hg;simp only;omega
      exact Iv k _ _ _ _ (fun _=>a) hg
     simp only[if_neg hi]at hg;have h0:=hh (by omega);split at hg
     ·rename_i hl;injection hg with _ hg;subst hg;simp only;omega
     exact Iv k _ _ _ _ (fun _=>h0) hg
variable {at':Nat}
theorem ME{r:Yn}(hg:KE d at'=(0,r)):r.bytes.length≤2^30:=by
 unfold KE at hg;split at hg
 ·simp at hg
 exact Iv _ _ _ _ _ (fun h=>absurd h (by omega)) hg
theorem G6{l:List UInt8}(h:0<l.length):l.headD 0=l[0]:=by
 cases l with
 |nil=>simp at h
 |cons a l=>rfl
variable {A4:Option Addr} {bs:List UInt8} {c4 kd:Nat} {w5:World}
theorem FI{w9:World}{lk:QD}{L:List Kx}{AL A9:Option Addr}{cL c9 many:Nat}(h:Py w5 base Lb B lk L AL cL)(hby:Kb w5 A4 bs)(hc:bs.length≤c4)(hkd:kd<256)(hbl:bs.length<1099511627776)
  (k59:Qd base [137] w5 w9)(hb9:Qh w9 Lb 216 #[.pointer (some ⟨B,0,none⟩),.int .i64 lk.Ky,.int .i64 lk.half,.int .i64 lk.size,.int .i64 lk.use,.int .i64 lk.epoch,.int .i64 lk.at',.slice AL lk.Qo.length cL])
  (hown:w9.ownsRow base 137 2 (.slice A9 (lk.Qo.length+1) c9) (lk.Qo.length+1) (QI L++[.int .u8 kd,.slice A4 bs.length c4]))(ha:lk.at'+many≤1048576)(hn:lk.Qo.length+1≤1000000):
  Yw ((w9.setCell ⟨Lb,7,none⟩ (.slice A9 (lk.Qo.length+1) c9)).setCell ⟨Lb,6,none⟩ (.int .i64 ((lk.at':Int)+(many:Int)))) base Lb B { lk with Qo:=lk.Qo++[(kd,bs)],at':=lk.at'+many }∧
  Qd base [216,137] w5 ((w9.setCell ⟨Lb,7,none⟩ (.slice A9 (lk.Qo.length+1) c9)).setCell ⟨Lb,6,none⟩ (.int .i64 ((lk.at':Int)+(many:Int)))):=by
 have s1:=hb9.set 7 (.slice A9 (lk.Qo.length+1) c9);have s2:=s1.set 6 (.int .i64 ((lk.at':Int)+(many:Int)));have kx:=((Qd.refl base [216] w9).set (o:=7) hb9 h.low (by simp) (.slice A9 (lk.Qo.length+1) c9)).set (o:=6) s1 h.low (by simp) (.int .i64 ((lk.at':Int)+(many:Int)));have hl:(lk.Qo++[(kd,bs)]).length=lk.Qo.length+1:=by simp
 refine⟨⟨L++[((kd,bs),A4,c4)],A9,c9,h.low, ?_, ?_, ?_, ?_,h.b1,h.b2,h.b3,h.b4,h.b5,ha,by simp only[hl];exact hn⟩,(O8 k59 (by simp)).trans (O8 kx (by simp))⟩
 ·simp only[hl,Int.natCast_add];exact s2
 ·simp only[hl,KU];exact QF hown kx (by decide)
 ·rw[List.map_append,h.rcs];rfl
 intro z hz;rcases List.mem_append.1 hz with hz|hz
 ·exact((h.OM.keeps k59 (by decide)).keeps kx (by decide)) z hz
 rw[List.mem_singleton]at hz;subst hz;exact⟨(hby.keeps k59 (by decide)).keeps kx (by decide),hc,hkd,hbl⟩
theorem EY(hL:Yw w base Lb B l)(hD:VK w base B d)(hs:J9 w)(c:2<base)(hF:Ol d E)(hr:l.Qo.length+l.half+1≤1000000):
  Calls prog 165 #[.pointer (some ⟨Lb,0,none⟩)] w fun e w'=>Ww w w' base Lb B (Kt d (l.half+1) { l with at':=l.begin l.use+Qf l.size 0 }) e:=by
 obtain⟨q,hq⟩:∃q,q=Kt d (l.half+1) { l with at':=l.begin l.use+Qf l.size 0 }:=⟨_,rfl⟩;rw[←hq];obtain⟨aW,aZ,_,_,_,_,_,_,az⟩:=hL.cells;obtain⟨g1,g2,g3,g4,g5,g6,g7⟩:=hL.bounds;have aF:base≤w.heap.size:=by omega
 have ad:=XS g1 g2 (k:=l.use) g4;have an:Qf l.size 0≤1:=by
  unfold Qf;split
  ·omega
  have:(0+(l.size-18)-1)/(l.size-18)=0:=Nat.div_eq_of_lt (by omega);rw[this];decide
 have W:=@Qa (∀wy,Below w.heap.size w wy→Calls prog 164 #[.pointer (some ⟨Lb,0,none⟩),.int .i64 l.use] wy fun e w'=>e=.returned (.int .i64 (l.begin l.use:Nat))∧Below wy.heap.size wy w') (fun wy hy=>Za (hL.below hy) l.use g4);have ae:=@Qa (∀wy,Calls prog 56 #[.int .i64 l.size,.int .i64 0] wy fun e w'=>e=.returned (.int .i64 (Qf l.size 0:Nat))∧wy=w') (fun wy=>JP l.size 0 (by omega) (by decide) wy);have SK:=@Qa (∀wy,Below w.heap.size w wy→wy.cell? ⟨Lb,4,none⟩=some (.int .i64 l.use)∧wy.cell? ⟨Lb,2,none⟩=some (.int .i64 l.half)) (fun wy hy=>⟨(hL.below hy).cells.2.2.2.2.2.1,(hL.below hy).cells.2.2.2.1⟩);have S0:=Qa (SK.o _ bR.drew);have HL:=Qa hL;have HD:=Qa hD;have HS:=Qa hs;have HF:=Qa hF;have HQ:=Qa hq;have aE:=Qa hr;clear hL hD hs hF hq hr az;obtain⟨bg,S⟩:=eX (l.begin l.use);obtain⟨nd,af⟩:=eX (Qf l.size 0);rw[←S]at ad W HQ;rw[←af]at an ae HQ;have a4:=Qa S;clear S af;have aJ:Qb (IntKind.i64.wrap ((bg:Int)+(l.half:Int))=(bg:Int)+(l.half:Int)):=show IntKind.i64.wrap ((bg:Int)+(l.half:Int))=(bg:Int)+(l.half:Int)from by rw[IntKind.wrap_i64];omega
 have aB:Qb (IntKind.i64.wrap ((bg:Int)+(nd:Int))=(bg:Int)+(nd:Int)):=show IntKind.i64.wrap ((bg:Int)+(nd:Int))=(bg:Int)+(nd:Int)from by rw[IntKind.wrap_i64];omega
 go_enter func165,ntmps165;go_upto_region 1 with fail;go_cut [3] (fun v wx=>v=.int .i64 ((bg+l.half:Nat):Int)∧Below w.heap.size w wx)
 case first=>
  go_region_held3 (fun wy=>wy.cell? ⟨Lb,4,none⟩=some (.int .i64 l.use)∧wy.cell? ⟨Lb,2,none⟩=some (.int .i64 l.half))
   (first|exact SK.o _ G.o|exact S0.o)
   (first
    |(go_at_call 164;refine(W.o _ bR.drew).mono ?_;rintro en w2 ⟨rfl,c⟩;(have G:Qb (Below w.heap.size w w2):=bR.drew.trans c);clear c))
  all_goals
   go_wp2_with fail;go_meet;exact⟨by rw[Int.natCast_add,aJ.o],G.o⟩
 obtain⟨rfl,z⟩:=hcut;have U:=Qa z;have ah:=HL.o.below z;obtain⟨ao,_,_,_,c3,c4,_,c6,fz⟩:=ah.cells;have f6:=fz 6;have bm:=z.size;have K:=Qa (W.o wc.drew z.drew);clear z ah fz;go_upto_region 2 with fail;go_cut [3] (fun v wx=>v=.int .i64 ((bg+l.half:Nat):Int)∧∃w2,Below w.heap.size w w2∧wx=w2.setCell ⟨Lb,6,none⟩ (.int .i64 ((bg+nd:Nat):Int)))
 case first=>
  have e3:wc.drew.cell? ⟨Lb,3,none⟩=some (.int .i64 l.size):=c3;have e4:wc.drew.cell? ⟨Lb,4,none⟩=some (.int .i64 l.use):=c4;have e6:wc.drew.cell? ⟨Lb,6,none⟩=some (.int .i64 l.at'):=c6;have h6:wc.drew.frozen? ⟨Lb,6,none⟩=false:=f6;have l6:Lb<wc.drew.heap.size:=ao
  go_region_law (first
   |(go_simp;go_at_call 164;refine K.o.mono ?_;rintro en w2 ⟨rfl,c⟩;(have G:Qb (Below w.heap.size w w2):=U.o.trans (((bR.drew).trans c).mono U.o.size));(obtain⟨bj,_,_,_,d3,d4,_,d6,al⟩:=(HL.o.below G.o).cells);(have bc:=al 6);clear c al)
   |(go_simp;go_at_call 56;refine(ae.o _).mono ?_;rintro en w' ⟨rfl,rfl⟩))
  all_goals
   go_wp2_with fail;go_meet;exact⟨rfl,_,G.o,by rw[Int.natCast_add,aB.o]⟩
 obtain⟨rfl,w2,c,rfl⟩:=hcut;obtain⟨h1,h2⟩:=(HL.o.below c).setAt (bg+nd) (by omega)
 have X:Qb (D4 w (w2.setCell ⟨Lb,6,none⟩ (.int .i64 ((bg+nd:Nat):Int))) base Lb B d (bg+l.half) l.epoch q (l.half+1) { l with at':=bg+nd }):=
  ⟨h1,(Qd.Qe c aF).trans (O8 h2 (by simp)),⟨by rw[a4.o];rfl,rfl⟩,HQ.o,by simp only;omega,by have:=aE.o;simp only;omega⟩
 clear h1 h2 c c3 c4 c6 f6 ao;generalize w2.setCell ⟨Lb,6,none⟩ (.int .i64 ((bg+nd:Nat):Int))=w3 at*
 obtain⟨E0,ai⟩:=eX (bg+l.half);have aU:E0≤262144:=by omega
 rw[←ai]at X ⊢;obtain⟨ep,a0⟩:=eX l.epoch;rw[←a0]at X g5;clear ai a0 U K HQ;go_wp2_with fail;go_loopw [4] (fun _ wr=>∃(k:Nat)(lk:QD),D4 w wr base Lb B d E0 ep q k lk) (fun _ wr=>((E0:Int)-Fv wr Lb).toNat)
 case atStart=>exact⟨_,_,X.o⟩
 obtain⟨k,lk,hp⟩:=hrel;have HP:=Qa hp;obtain⟨av,_,c0,c2,c3,c4,c5,c6,fz⟩:=hp.log.cells;obtain⟨b1,b2,b3,b4,b5,b6,b7⟩:=hp.log.bounds;have s:base≤wr.heap.size:=by omega
 have P:=hp.fuel;have aV:=hp.Yp;have p:=hp.same;have ax:=Qa hp.log.Fv;by_cases hlt:lk.at'<E0
 ·have a3:(lk.at':Int)<E0:=by omega
  obtain⟨k',rfl⟩:∃k',k=k'+1:=⟨k-1,by omega⟩;have D:¬lk.begin lk.use+lk.half≤lk.at':=by omega
  obtain⟨r,hr⟩:∃r,KE d lk.at'=r:=⟨_,rfl⟩;obtain⟨er,r⟩:=r
  have J:=@Qa (∀wy,Below wr.heap.size wr wy→Calls prog 118 #[.pointer (some ⟨B,0,none⟩),.int .i64 (lk.at':Nat)] wy fun e w'=>YU w' wy.heap.size (er,r) e∧Below wy.heap.size wy w') (fun wy hy=>by
   have:=Uh ((HD.o.keeps HP.o.keep (by decide) (by decide) (by decide) (by decide) (by decide)).below hy) ((HS.o.keeps HP.o.keep c).below hy) lk.at' (by omega);rw[hr]at this;exact this)
  have f:=Qa hr;have x:=Qa D;have V:=@Qa (∀wy,Below wr.heap.size wr wy→wy.cell? ⟨Lb,0,none⟩=some (.pointer (some ⟨B,0,none⟩))∧wy.cell? ⟨Lb,6,none⟩=some (.int .i64 lk.at')) (fun wy hy=>⟨(HP.o.log.below hy).cells.2.2.1,(HP.o.log.below hy).cells.2.2.2.2.2.2.2.1⟩);have S4:=Qa (V.o _ bR.drew);clear hp hr c0 c2 c3 c4 c5 fz D;by_cases he0:er=0
  ·subst he0;obtain⟨aH,_⟩:=Y4 HF.o f.o;obtain⟨b9,b8⟩:=Fb f.o;have aX:d.Qk.length≤65536:=by obtain⟨m,h⟩:=HD.o;exact h.n1.2
   go_upto_region 4 with fail
   go_region_held3 (fun wy=>wy.cell? ⟨Lb,0,none⟩=some (.pointer (some ⟨B,0,none⟩))∧wy.cell? ⟨Lb,6,none⟩=some (.int .i64 lk.at'))
    (first|exact V.o _ b.o|exact S4.o)
    (first
     |(go_at_call 118;refine(J.o _ bR.drew).mono ?_;rintro en w4 ⟨F,C⟩;(obtain⟨A3,c3,rfl,ak,aG⟩:=F.ok aH);(have b:Qb (Below wr.heap.size wr w4):=bR.drew.trans C);(have a9:=Qa ak);clear C F ak))
   have a5:=HP.o.log.below b.o;obtain⟨ag,_,_,_,_,_,d5,d6,ay⟩:=a5.cells;obtain⟨L,AL,cL,t⟩:=a5;have d7:w4.cell? ⟨Lb,7,none⟩=some (.slice AL lk.Qo.length cL):=t.blk.cell 7;have N:=Qa t;obtain⟨nx,T⟩:=eX (lk.epoch*J6+lk.Qo.length+1);have I:(nx:Int)=(ep:Int)*1048576+(lk.Qo.length:Int)+1:=by
    have hM:J6=1048576:=rfl;rw[T,hM,p.2];omega
   have aa:=Qa T;have M:=Qa I;have aj:=b.o.size;clear T I t ay;go_upto_region 7 with fail
   go_quiet (fail)
   have j:Qb (Below wr.heap.size wr (w4.drewN nq)):=QK b.o nq;have A:Qb (Py (w4.drewN nq) base Lb B lk L AL cL):=N.o.below (QK bR nq);have Y:Qb ((w4.drewN nq).ownsRow wr.drew.heap.size 5 1 (.slice A3 r.bytes.length c3) r.bytes.length (r.bytes.map Ks)):=a9.o;have f6:(w4.drewN nq).cell? ⟨Lb,6,none⟩=some (.int .i64 lk.at'):=d6;have f7:(w4.drewN nq).cell? ⟨Lb,7,none⟩=some (.slice AL lk.Qo.length cL):=d7;have l5:Lb<(w4.drewN nq).heap.size:=ag;clear d5 d6 d7 ag N a9 b aj;generalize w4.drewN nq=w5 at*
   by_cases h1:r.kind=82
   ·have ac:((r.kind:Int) != 82)=false:=by simp;omega
    by_cases h2:r.mark=nx
    ·have aO:((r.mark:Int) != (ep:Int)*1048576+(lk.Qo.length:Int)+1)=false:=by rw[←M.o];simp;omega
     by_cases h3:r.bytes=[]
     ·have aT:(((r.bytes.length:Nat):Int)==0)=true:=by rw[h3];rfl
      have a:q=(0,lk):=by rw[HP.o.go,YA x.o f.o (.inr (.inr (.inl h3)))]
      subst a;clear h1 h2 h3;go_wp2_with fail;go_ret;exact⟨rfl,HP.o.log.below j.o,HP.o.keep.trans (Qd.Qe j.o s)⟩
     have H:0<r.bytes.length:=List.length_pos_iff.2 h3;have aT:(((r.bytes.length:Nat):Int)==0)=false:=by simp;omega
     by_cases h4:E0-lk.at'<r.many
     ·have ar:(E0:Int)-(lk.at':Int)<(r.many:Int):=by omega
      have a:q=(0,lk):=by rw[HP.o.go,YA x.o f.o (.inr (.inr (.inr (by rw[p.1];exact h4))))]
      subst a;clear h1 h2 h3 h4;go_wp2_with fail;go_ret;exact⟨rfl,HP.o.log.below j.o,HP.o.keep.trans (Qd.Qe j.o s)⟩
     have ar:¬(E0:Int)-(lk.at':Int)<(r.many:Int):=by omega
     have HC:=@Qa (¬(r.kind≠82∨r.mark≠lk.epoch*J6+lk.Qo.length+1∨r.bytes=[]∨lk.begin lk.use+lk.half-lk.at'<r.many)) (by
      rw[←aa.o,p.1];simp only[not_or,Classical.not_not];exact⟨h1,h2,h3,h4⟩)
     clear h1 h2 h3 h4;obtain⟨g,rfl,bh,bd,_⟩:=Uf Y.o H;obtain⟨bb,bo,Z,_,_,a7⟩:=(Kb.Jl Y.o).at H;injection Z with Z;injection Z with hbe1 hbe2;subst hbe1;subst hbe2;have y0:w5.cell? ⟨g,0,none⟩=some (.int .u8 (r.bytes[0]).toNat):=a7 0 H;obtain⟨i0,aA,aI,aP,aK⟩:=info_parts Wv;obtain⟨A4,hA4⟩:∃A4,(if c3=1 then(some ⟨g,0,none⟩:Option Addr)else some ⟨g,1,none⟩)=A4:=⟨_,rfl⟩;have aC:Qb (Kb w5 A4 (r.bytes.drop 1)):=show Kb w5 A4 (r.bytes.drop 1)from by
      by_cases hc1:c3=1
      ·have:r.bytes.drop 1=[]:=List.drop_of_length_le (by omega);rw[this];exact Kb.nil
      rw[if_neg hc1]at hA4;have:=(Kb.Jl Y.o).sub (i:=1) (k:=r.bytes.length-1) (by omega);rw[List.take_of_length_le (by simp),hA4]at this;exact this
     have a8:(r.bytes.drop 1).length=r.bytes.length-1:=by simp
     have Q:=Qa a8;have a1:(r.bytes.headD 0).toNat=(r.bytes[0]).toNat:=by rw[G6 H]
     have aL:=Qa a1;have aD:=(r.bytes[0]).toNat_lt;have aw:Qb (r.bytes.length≤c3):=show r.bytes.length≤c3 from aG;have ap:Qb (E0<lk.at'+(k'+1)):=show E0<lk.at'+(k'+1)from P;have bk:(1:Int)≤((r.bytes.length:Nat):Int):=by omega
     generalize hb0:(r.bytes[0]).toNat=b0 at*
     have aY:r.bytes.length<1099511627776:=by have:=ME f.o;omega
     have z7:=A.o.blk.free 7;have z6:=A.o.blk.free 6;have a6:base≤w5.heap.size:=Nat.le_trans s j.o.size;have ab:=@Qa (Qh (w5.alloc (.cells #[.int .u8 b0,.slice A4 (r.bytes.length-1) (c3-1)] 137)).drew Lb 216 #[.pointer (some ⟨B,0,none⟩),.int .i64 lk.Ky,.int .i64 lk.half,.int .i64 lk.size,.int .i64 lk.use,.int .i64 lk.epoch,.int .i64 lk.at',.slice AL lk.Qo.length cL]) (A.o.blk.alloc _);have O:=@Qa ((w5.alloc (.cells #[.int .u8 b0,.slice A4 (r.bytes.length-1) (c3-1)] 137)).drew.ownsRow base 137 2 (.slice AL lk.Qo.length cL) lk.Qo.length (QI L)) (Qu A.o.own _);have aR:=@Qa (Rd (w5.alloc (.cells #[.int .u8 b0,.slice A4 (r.bytes.length-1) (c3-1)] 137)).drew (w5.alloc (.cells #[.int .u8 b0,.slice A4 (r.bytes.length-1) (c3-1)] 137)).drew.heap.size 2 (some ⟨w5.heap.size,0,none⟩) 1 [.int .u8 b0,.slice A4 (r.bytes.length-1) (c3-1)]) (Kq (Sl.Ja (sz:=2) (n:=1) (Qh.new w5 137 _) rfl));have aQ:Qb (∀u∈([.int .u8 b0,.slice A4 (r.bytes.length-1) (c3-1)]:List Value),u.oneCell'=true):=by
      show ∀u∈([.int .u8 b0,.slice A4 (r.bytes.length-1) (c3-1)]:List Value),u.oneCell'=true;simp[Value.oneCell']
     have ba:lk.Qo.length≤1000000:=b7;clear a8 a1 a7 hb0;go_upto_region 9 with fail
     go_region_law (first
      |(refine Q9 _ (by rfl) _ _ _ (by rfl) base 137 i0 _ 2 32 YX aA aI aP aK rfl (by decide) (.slice AL lk.Qo.length cL) lk.Qo.length (QI L) (by rfl) O.o (some ⟨w5.heap.size,0,none⟩) 1 1 _ [.int .u8 b0,.slice A4 (r.bytes.length-1) (c3-1)] (by rfl) aR.o aQ.o (by unfold maxLen;omega) (by omega) (by simp;omega) ?_;intro A9 c9 w9 hown9 hgr9 hnc9;(have y:=ab.o.grown hgr9 (Xl O.o ab.o (by decide)));(have e9:w9.cell? ⟨Lb,7,none⟩=some (.slice AL lk.Qo.length cL):=y.cell 7);(have bl:w9.cell? ⟨Lb,6,none⟩=some (.int .i64 lk.at'):=y.cell 6);(have z9:=y.free 7);(have bi:=y.free 6);(have l9:=y.lt);(have aN:=Qa y);(have R:=Qa hown9);(have a2:=Qa hgr9);clear hown9 hgr9 y))
     all_goals
      go_wp2_with fail;have au:Qd base [137] w5 w9:=(Qd.Qe (bR.alloc nR _).drew a6).trans (Q7 O.o a2.o (by simp;omega));obtain⟨am,aM⟩:=FI (many:=r.many) (c4:=c3-1) (kd:=b0) A.o aC.o (by have:=aw.o;rw[Q.o];omega) (by omega) (by rw[Q.o];omega) au aN.o (by rw[Q.o];exact R.o) (by omega) (by omega);have aq:q=Kt d k' { lk with Qo:=lk.Qo++[(b0,r.bytes.drop 1)],at':=lk.at'+r.many }:=by
       rw[HP.o.go,Fx x.o f.o HC.o,aL.o]
      go_roundw
      case rel=>exact⟨k',{ lk with Qo:=lk.Qo++[(b0,r.bytes.drop 1)],at':=lk.at'+r.many },am,(HP.o.keep.trans (Qd.Qe j.o s)).trans aM,p,aq,by have:=ap.o;show E0<lk.at'+r.many+k';omega,by show(lk.Qo++[(b0,r.bytes.drop 1)]).length+k'≤1000000;rw[List.length_append,List.length_singleton];omega⟩
      have e1:=am.Fv;try simp only at e1
      rw[ax.o,e1];omega
    have aO:((r.mark:Int) != (ep:Int)*1048576+(lk.Qo.length:Int)+1)=true:=by rw[←M.o];simp;omega
    have a:q=(0,lk):=by rw[HP.o.go,YA x.o f.o (.inr (.inl (by rw[←aa.o];exact h2)))]
    subst a;clear h1 h2;go_wp2_with fail;go_ret;exact⟨rfl,HP.o.log.below j.o,HP.o.keep.trans (Qd.Qe j.o s)⟩
   have ac:((r.kind:Int) != 82)=true:=by simp;omega
   have a:q=(0,lk):=by rw[HP.o.go,YA x.o f.o (.inl h1)]
   subst a;clear h1;go_wp2_with fail;go_ret;exact⟨rfl,HP.o.log.below j.o,HP.o.keep.trans (Qd.Qe j.o s)⟩
  obtain⟨L,AL,cL,t⟩:=HP.o.log
  have aS:=@Qa (∀wy,Below wr.heap.size wr wy→wy.cell? ⟨Lb,7,none⟩=some (.slice AL lk.Qo.length cL)∧wy.cell? ⟨Lb,5,none⟩=some (.int .i64 lk.epoch)) (fun wy hy=>by
   have hb:=t.blk.below hy t.blk.lt;exact⟨hb.cell 7,hb.cell 5⟩)
  clear t;go_upto_region 4 with fail
  go_region_held3 (fun wy=>wy.cell? ⟨Lb,0,none⟩=some (.pointer (some ⟨B,0,none⟩))∧wy.cell? ⟨Lb,6,none⟩=some (.int .i64 lk.at'))
   (first|exact V.o _ b.o|exact S4.o)
   (first
    |(go_at_call 118;refine(J.o _ bR.drew).mono ?_;rintro en w4 ⟨F,C⟩;(obtain rfl:=F.no he0);(have b:Qb (Below wr.heap.size wr w4):=bR.drew.trans C);clear C F))
  by_cases he1:er=10
  ·subst he1;have a:q=(10,lk):=by rw[HP.o.go,NS x.o f.o]
   subst a;go_wp2_with fail;go_ret;exact⟨rfl,HP.o.log.below b.o,HP.o.keep.trans (Qd.Qe b.o s)⟩
  have ac:((er:Int)==10)=false:=by simp;omega
  have bf:((er:Int) != 0)=true:=by simp;omega
  have a:q=(0,lk):=by rw[HP.o.go,Ld x.o f.o he0 he1]
  obtain⟨s7,s5⟩:=aS.o _ b.o;have l4:Lb<w4.heap.size:=Nat.lt_of_lt_of_le av b.o.size;subst a;go_upto_region 7 with fail
  go_quiet (fail)
  go_wp2_with fail;go_ret;exact⟨rfl,HP.o.log.below (QK b.o _),HP.o.keep.trans (Qd.Qe (QK b.o _) s)⟩
 have a:q=(0,lk):=by rw[hp.go,LK (by omega)]
 have a3:¬(lk.at':Int)<E0:=by omega
 subst a;clear hp;go_wp2_with fail;go_ret;exact⟨rfl,HP.o.log,HP.o.keep⟩
def E4(w w':World)(base B:Nat)(r:Nat × Qq × QD)(e:Ending):Prop:=
 ((r.1=0∧∃Lb,e=.returned (.tuple #[.pointer (some ⟨Lb,0,none⟩),.int .i64 0])∧Yw w' base Lb B r.2.2)∨(r.1≠0∧e=.returned (.tuple #[.pointer none,.int .i64 r.1])))∧VK w' base B r.2.1∧Qd base [121,165,167,216,137] w w'
theorem FF(hD:VK w base B d)(hs:J9 w)(hb2:2<base)(hF:Ol d E)(hE:E+1<549755813888)(hw:d.waits.length+137438953472<2^40)(h19:19≤d.size)(q0:Nat)(hq4:4≤q0)(hql:q0≤d.Qk.length):
  Calls prog 57 #[.pointer (some ⟨B,0,none⟩),.int .i64 0,.int .i64 q0] w fun e w'=>E4 w w' base B (ZR d 0 q0) e:=by
 have a2:16≤d.size∧d.size≤4096:=by obtain⟨m,h⟩:=hD;exact h.sz
 have a0:d.Qk.length≤65536:=by obtain⟨m,h⟩:=hD;exact h.n1.2
 have I:base≤w.heap.size:=by obtain⟨m,h⟩:=hD;have:=h.low.1;have:=h.blk.lt;omega
 obtain⟨q,hq⟩:=eX (ZR d 0 q0);rw[←hq];unfold ZR at hq;simp only at hq;rw[if_neg (by omega)]at hq;have HD:=Qa hD;have HS:=Qa hs;have HF:=Qa hF;have HQ:=Qa hq;have W:=@Qa (∀wy,Below w.heap.size w wy→Calls prog 55 #[.pointer (some ⟨B,0,none⟩)] wy fun e w'=>e=.returned (.tuple #[.int .i64 d.Qk.length,.int .i64 d.size])∧Below wy.heap.size wy w') (fun wy hy=>Kk (hD.below hy));clear hD hs hF hq;have i1:¬((d.size:Int)<19):=by omega
 have i2:¬((q0:Int)<4):=by omega
 have i3:¬(d.Qk.length<q0):=by omega
 have i4:¬((d.Qk.length:Int)-(q0:Int)<0):=by omega
 go_enter func57,ntmps57;go_upto_region 5 with(go_at_call 55;refine(W.o _ bR).mono ?_;rintro en w1 ⟨rfl,D⟩;(have J:=Qa D);(have a5:=D.size);clear D);obtain⟨hf,M⟩:=eX (q0/2);have N:(q0:Int)/2=(hf:Int):=by omega
 rw[N];have hx:=Qh.new w1 216 #[.pointer (some ⟨B,0,none⟩),.int .i64 0,.int .i64 hf,.int .i64 d.size,.int .i64 0,.int .i64 0,.int .i64 0,.slice none 0 0];have z:Below w.heap.size w (w1.alloc (.cells #[.pointer (some ⟨B,0,none⟩),.int .i64 0,.int .i64 hf,.int .i64 d.size,.int .i64 0,.int .i64 0,.int .i64 0,.slice none 0 0] 216)):=J.o.alloc J.o.size _
 have Q:Yw (w1.alloc (.cells #[.pointer (some ⟨B,0,none⟩),.int .i64 0,.int .i64 hf,.int .i64 d.size,.int .i64 0,.int .i64 0,.int .i64 0,.slice none 0 0] 216)) base w1.heap.size B ⟨0,hf,d.size,0,0,0,[]⟩:=
  ⟨[],none,0,by omega,hx,Zs _ _ _ _,rfl,(fun x hx=>by cases hx),by simp,by simp only;omega,by simp only;omega,by simp,by simp,by simp,by simp⟩
 generalize w1.alloc (.cells #[.pointer (some ⟨B,0,none⟩),.int .i64 0,.int .i64 hf,.int .i64 d.size,.int .i64 0,.int .i64 0,.int .i64 0,.slice none 0 0] 216)=w2 at*
 generalize w1.heap.size=Lb at*
 have j:=Qa z;have X:=Qa Q;rw[←M]at HQ
 have l:=Qa (show Calls prog 111 #[.pointer (some ⟨Lb,0,none⟩)] w2 (fun e w'=>Ww w2 w' base Lb B (On d ⟨0,hf,d.size,0,0,0,[]⟩) e)from
  Ea X.o (HD.o.below j.o) (HS.o.below j.o) hb2 HF.o (by omega) fun wy ly hk hly y hrc=>EY hly ((HD.o.below j.o).keeps hk (by decide) (by decide) (by decide) (by decide) (by decide)) ((HS.o.below j.o).keeps hk hb2) hb2 HF.o (by rw[hrc,y.half];simp only[List.length_nil];omega))
 have a1:hf≤65536:=by omega
 clear hx z Q M N;obtain⟨er,l1,hfl⟩:∃er l1,On d ⟨0,hf,d.size,0,0,0,[]⟩=(er,l1):=⟨_,_,rfl⟩;rw[hfl]at l;replace l:Qb (Calls prog 111 #[.pointer (some ⟨Lb,0,none⟩)] w2 fun e w'=>e=.returned (.int .i64 (er:Nat))∧Yw w' base Lb B l1∧Qd base [216,137] w2 w'):=l.o;obtain⟨y,a3⟩:=IS HF.o rfl hfl;have S:=Qa hfl;have R:=Qa y;clear hfl y;by_cases he0:er=0
 ·subst he0;have u:q=Ku d l1 l1.Qo:=by rw[HQ.o,S.o];rfl
  have U:=Qa u;clear u;go_upto_region 8 with(go_at_call 111;refine l.o.mono ?_;rintro en w3 ⟨rfl,h3,k3⟩;(have H3:=Qa h3);(have K3:=Qa k3);clear h3 k3);obtain⟨L,A,c,a⟩:=H3.o;have F:L.length=l1.Qo.length:=by have:=congrArg List.length a.rcs;simpa using this
  have c7:w3.cell? ⟨Lb,7,none⟩=some (.slice A L.length c):=by rw[F];exact a.blk.cell 7
  have a4:=a.blk.lt;have ho:=a.own;rw[←F]at ho;have P:L.length≤1000000:=by have:=a.b7;omega
  have K:=@Qa (Calls prog 113 #[.slice A L.length c] w3 fun e w'=>UU w3 w' L e) (ZC L A c (Sl.Jl ho) a.OM P);have T:=Qa a.rcs;have i:base≤w3.heap.size:=by have:=a.low;omega
  have g:=Qa ((Qd.Qe (base:=base) (ts:=[216,137]) j.o I).trans K3.o)
  have v:=@Qa (∀wy (K':List Kx) A' c',Below w3.heap.size w3 wy→K'.map (·.1)=L.map (·.1)→wy.ownsRow base 137 2 (.slice A' L.length c') L.length (QI K')→Yj wy K'→Calls prog 112 #[.pointer (some ⟨Lb,0,none⟩),.slice A' L.length c'] wy fun e w'=>W7 wy w' base Lb B q e) (fun wy K' A' c' hy hm ho hbd=>by
   have hl:K'.length=L.length:=by simpa using congrArg List.length hm
   rw[←hl]at ho ⊢;have:=Mo (H3.o.below hy) ((HD.o.keeps g.o (by decide) (by decide) (by decide) (by decide) (by decide)).below hy) ((HS.o.keeps g.o hb2).below hy) hb2 hw R.o.size (by have:=R.o.epoch;omega) K' A' c' ho hbd (by rw[hl];exact P);rw[hm,T.o,←U.o]at this;exact this)
  obtain⟨e1,d1,l2⟩:=q;replace v:Qb (∀wy (K':List Kx) A' c',Below w3.heap.size w3 wy→K'.map (·.1)=L.map (·.1)→wy.ownsRow base 137 2 (.slice A' L.length c') L.length (QI K')→Yj wy K'→Calls prog 112 #[.pointer (some ⟨Lb,0,none⟩),.slice A' L.length c'] wy fun e w'=>e=.returned (.int .i64 (e1:Nat))∧Yw w' base Lb B l2∧VK w' base B d1∧Qd base [121,165,167,216,137] wy w'):=v.o;clear a ho F;by_cases he1:e1=0
  ·subst he1
   go_wp2_with (first
    |(go_at_call 113;refine K.o.mono ?_;rintro en w4 ⟨⟨K',A',c',rfl,n,k,b,Y⟩,f⟩;(have C:=Qa f);(have r:=Qa (v.o w4 K' A' c' f k (Xe n i) b));clear n k b f)
    |(go_at_call 112;refine r.o.mono ?_;rintro en w5 ⟨rfl,t,p,s⟩;(have O:=Qa t);(have H:=Qa p);(have G:=Qa s);clear t p s))
   go_ret2;exact⟨.inl ⟨rfl,Lb,rfl,O.o⟩,H.o,((JR g.o (by simp)).trans (Qd.Qe C.o i)).trans G.o⟩
  have V:((e1:Int) != 0)=true:=by simp;omega
  go_wp2_with (first
   |(go_at_call 113;refine K.o.mono ?_;rintro en w4 ⟨⟨K',A',c',rfl,n,k,b,Y⟩,f⟩;(have C:=Qa f);(have r:=Qa (v.o w4 K' A' c' f k (Xe n i) b));clear n k b f)
   |(go_at_call 112;refine r.o.mono ?_;rintro en w5 ⟨rfl,t,p,s⟩;(have O:=Qa t);(have H:=Qa p);(have G:=Qa s);clear t p s))
  go_ret2;exact⟨.inr ⟨he1,rfl⟩,H.o,((JR g.o (by simp)).trans (Qd.Qe C.o i)).trans G.o⟩
 have u:q=(er,d,l1):=by
  rw[HQ.o,S.o];cases er with
  |zero=>exact absurd rfl he0
  |succ e=>rfl
 have V:((er:Int) != 0)=true:=by simp;omega
 subst u;go_wp2_with (go_at_call 111;refine l.o.mono ?_;rintro en w3 ⟨rfl,h3,k3⟩;(have H3:=Qa h3);(have K3:=Qa k3);clear h3 k3);go_ret2;have kk:=(Qd.Qe (base:=base) (ts:=[216,137]) j.o I).trans K3.o;exact⟨.inr ⟨he0,rfl⟩,HD.o.keeps kk (by decide) (by decide) (by decide) (by decide) (by decide),JR kk (by simp)⟩
section
open Go.Shelf Go.Sort
def Xo(w w':World)(r:Nat × List UInt8)(e:Ending):Prop:=
 ((r.1=0∧∃A c,e=.returned (.tuple #[.slice A r.2.length c,.int .i64 0])∧w'.ownsRow w.heap.size 5 1 (.slice A r.2.length c) r.2.length (r.2.map Ks))∨(r.1≠0∧e=.returned (.tuple #[.slice none 0 0,.int .i64 r.1])))∧Below w.heap.size w w'
variable {a:Nat} {x:Qx}
theorem Sc(ha:x.at'=a){r:Yn}(hg:KE d a=(er,r)):Jj d x=if er=10 then(10,[])else if er≠0 then(8,[])else if r.kind≠83∨(r.mark:Int)≠x.mark∨r.bytes.length≠x.bytes then(8,[])else(0,r.bytes):=by
 unfold Jj;rw[ha,if_neg (by omega),Int.toNat_natCast,hg];by_cases h10:er=10
 ·subst h10;rfl
 rw[if_neg h10];by_cases h0:er=0
 ·subst h0;rfl
 rw[if_pos h0];split
 ·rename_i h;injection h with h;exact absurd h h10
 ·rename_i h;injection h with h;exact absurd h h0
 rfl
theorem YU.Bl{r:Yn}{e:Ending}(h:YU w' base (0,r) e)(hm:r.mark<2^63):∃A c,e=.returned (.tuple #[.int .u8 r.kind,.int .i64 r.mark,.slice A r.bytes.length c,.int .i64 r.many,.int .i64 0])∧w'.ownsRow base 5 1 (.slice A r.bytes.length c) r.bytes.length (r.bytes.map Ks)∧r.bytes.length≤c:=by
 rcases h with⟨_,v,rfl,ho⟩|⟨h,_⟩
 ·obtain⟨A,c,rfl,hc⟩:=Jg ho;refine⟨A,c, ?_,ho,hc⟩;have:IntKind.i64.wrap (r.mark:Int)=(r.mark:Int):=by rw[IntKind.wrap_i64];omega
  simp only[this]
 exact absurd rfl h
variable {Sb:Nat} {m:KY} {s:QM}
theorem W8(h:QO w base Sb s m)(x:Qx)(a:Nat)(hF:∀r,KE s.d a=(0,r)→r.mark<2^63)(ha:x.at'=a)(ha2:a≤65536):
  Calls prog 61 #[.pointer (some ⟨Sb,0,none⟩),Kv x] w fun e w'=>Xo w w' (Jj s.d x) e:=by
 have HH:=Qa h;have a3:=h.lt;have a0:=h.blk.lt;obtain⟨er,r,hg⟩:∃er r,KE s.d a=(er,r):=⟨_,_,rfl⟩;obtain⟨q,hq⟩:=eX (Jj s.d x);rw[←hq];rw[Sc ha hg]at hq;have HQ:=Qa hq;obtain⟨at',len,c,mk⟩:=x;simp only at ha;subst ha;have v:Below w.heap.size w (w.alloc (.cells #[.int .i64 a,.int .i64 len,.int .i64 c,.int .i64 mk] 142)):=bR.alloc nR _;have i:=Qa v;have n:=Qa (Qh.new w 142 #[.int .i64 a,.int .i64 len,.int .i64 c,.int .i64 mk])
 have t:=@Qa (∀wy,Below w.heap.size w wy→Calls prog 118 #[.pointer (some ⟨m.B,0,none⟩),.int .i64 (a:Nat)] wy fun e w'=>YU w' wy.heap.size (er,r) e∧Below wy.heap.size wy w') (fun wy hy=>by
  have hh:=HH.o.below hy;have:=Uh hh.Ul hh.Rn.steps a (by omega);rw[hg]at this;exact this)
 have z:=Qa hg;have F:=Qa hF;clear h hq hg v hF;unfold Kv;simp only;go_enter func61,ntmps61;go_upto_region 1 with fail;generalize w.alloc (.cells #[.int .i64 a,.int .i64 len,.int .i64 c,.int .i64 mk] 142)=w1 at*
 have g:=i.o.size
 have SK:=@Qa (∀wy,Below w1.heap.size w1 wy→wy.cell? ⟨Sb,0,none⟩=some (.pointer (some ⟨m.B,0,none⟩))∧wy.cell? ⟨w.heap.size,0,none⟩=some (.int .i64 a)∧wy.cell? ⟨w.heap.size,2,none⟩=some (.int .i64 c)∧wy.cell? ⟨w.heap.size,3,none⟩=some (.int .i64 mk)) (fun wy hy=>by
  have hs:=(HH.o.below (i.o.trans (hy.mono g))).blk;have hx:=n.o.below hy n.o.lt;exact⟨hs.cell 0,hx.cell 0,hx.cell 2,hx.cell 3⟩)
 have S0:=Qa (SK.o _ bR.drew);by_cases he0:er=0
 ·subst he0;have C:=F.o _ z.o;have a5:=ME z.o
  go_region_held3 (fun wy=>wy.cell? ⟨Sb,0,none⟩=some (.pointer (some ⟨m.B,0,none⟩))∧wy.cell? ⟨w.heap.size,0,none⟩=some (.int .i64 a)∧wy.cell? ⟨w.heap.size,2,none⟩=some (.int .i64 c)∧wy.cell? ⟨w.heap.size,3,none⟩=some (.int .i64 mk))
   (first|exact SK.o _ f.o|exact S0.o)
   (first
    |(go_at_call 118;refine(t.o _ (i.o.trans (bR.drew.mono g))).mono ?_;rintro en w4 ⟨k,l⟩;(obtain⟨A3,c3,rfl,y,a1⟩:=k.Bl C);(have f:Qb (Below w1.heap.size w1 w4):=bR.drew.trans l);(have E:=Qa y);clear l k y))
  all_goals
   obtain⟨_,_,d2,d3⟩:=SK.o _ f.o;have a6:=(n.o.below f.o n.o.lt).lt;have p:=Qa (i.o.trans (f.o.mono g));by_cases hk:r.kind=83
   ·by_cases hm:(r.mark:Int)=mk
    ·by_cases hl:r.bytes.length=c
     ·have b:q=(0,r.bytes):=by rw[HQ.o,if_neg (by decide),if_neg (by decide),if_neg (by simp[hk,hm,hl])]
      have u:((r.kind:Int) != 83)=false:=by simp[hk]
      have A:((r.mark:Int) != mk)=false:=by simp[hm]
      have D:((r.bytes.length:Int) != (c:Int))=false:=by simp[hl]
      have j:=Qa b;clear hk hm hl b;go_wp2_with fail;go_ret2;rw[j.o];exact⟨.inl ⟨rfl,A3,c3,rfl,Xe E.o (by have:=g;simp;omega)⟩,p.o⟩
     have b:q=(8,[]):=by rw[HQ.o,if_neg (by decide),if_neg (by decide),if_pos (.inr (.inr hl))]
     have u:((r.kind:Int) != 83)=false:=by simp[hk]
     have A:((r.mark:Int) != mk)=false:=by simp[hm]
     have D:((r.bytes.length:Int) != (c:Int))=true:=by simp;omega
     have j:=Qa b;clear hk hm hl b;go_wp2_with fail;go_ret2;rw[j.o];exact⟨.inr ⟨by decide,rfl⟩,p.o⟩
    have b:q=(8,[]):=by rw[HQ.o,if_neg (by decide),if_neg (by decide),if_pos (.inr (.inl hm))]
    have u:((r.kind:Int) != 83)=false:=by simp[hk]
    have A:((r.mark:Int) != mk)=true:=by simp[hm]
    have j:=Qa b;clear hk hm b;go_wp2_with fail;go_ret2;rw[j.o];exact⟨.inr ⟨by decide,rfl⟩,p.o⟩
   have b:q=(8,[]):=by rw[HQ.o,if_neg (by decide),if_neg (by decide),if_pos (.inl hk)]
   have u:((r.kind:Int) != 83)=true:=by simp;omega
   have j:=Qa b;clear hk b;go_wp2_with fail;go_ret2;rw[j.o];exact⟨.inr ⟨by decide,rfl⟩,p.o⟩
 go_region_held3 (fun wy=>wy.cell? ⟨Sb,0,none⟩=some (.pointer (some ⟨m.B,0,none⟩))∧wy.cell? ⟨w.heap.size,0,none⟩=some (.int .i64 a)∧wy.cell? ⟨w.heap.size,2,none⟩=some (.int .i64 c)∧wy.cell? ⟨w.heap.size,3,none⟩=some (.int .i64 mk))
  (first|exact SK.o _ f.o|exact S0.o)
  (first
   |(go_at_call 118;refine(t.o _ (i.o.trans (bR.drew.mono g))).mono ?_;rintro en w4 ⟨k,l⟩;(obtain rfl:=k.no he0);(have f:Qb (Below w1.heap.size w1 w4):=bR.drew.trans l);clear l k))
 all_goals
  by_cases he1:er=10
  ·subst he1;have b:q=(10,[]):=by rw[HQ.o,if_pos rfl]
   subst b;go_wp2_with fail;go_ret2;exact⟨.inr ⟨by decide,rfl⟩,i.o.trans (f.o.mono g)⟩
  have a2:((er:Int)==10)=false:=by simp;omega
  have a4:((er:Int) != 0)=true:=by simp;omega
  have b:q=(8,[]):=by rw[HQ.o,if_neg he1,if_pos he0]
  subst b;go_wp2_with fail;go_ret2;exact⟨.inr ⟨by decide,rfl⟩,i.o.trans (f.o.mono g)⟩
theorem Ff(h:QO w base Sb s m)(hF:Ol s.d E)(x:Qx)(a:Nat)(ha:x.at'=a)(ha2:a≤65536):
  Calls prog 61 #[.pointer (some ⟨Sb,0,none⟩),Kv x] w fun e w'=>Xo w w' (Jj s.d x) e:=
 W8 h x a (fun r hr=>Nat.lt_trans (Y4 hF hr).1 (by decide)) ha ha2
theorem FW(h:QO w base Sb s m)(a mk:Int)(b:Nat)(hb:b<1099511627776):
  Calls prog 170 #[.pointer (some ⟨Sb,0,none⟩),.int .i64 a,.int .i64 b,.int .i64 mk] w fun e w'=>e=.returned (Kv ⟨a,Qf s.d.size b,b,mk⟩)∧Below w.heap.size w w':=by
 have j:=h.blk.lt;have hd:s.d.size≤4096:=by obtain⟨m',hm⟩:=h.Ul;exact hm.sz.2
 have c1:w.cell? ⟨Sb,1,none⟩=some (.int .i64 s.d.size):=h.blk.cell 1;have HN:=@Qa (∀wy,Calls prog 56 #[.int .i64 s.d.size,.int .i64 b] wy fun e w'=>e=.returned (.int .i64 (Qf s.d.size b:Nat))∧wy=w') (fun wy=>JP s.d.size b (by omega) (by omega) wy);have c:Below w.heap.size w (w.alloc (.cells #[.int .i64 0,.int .i64 0,.int .i64 0,.int .i64 0] 142)):=bR.alloc nR _;have g:=Qa c;have i:=Qa (Qh.new w 142 #[.int .i64 0,.int .i64 0,.int .i64 0,.int .i64 0]);have e1:(w.alloc (.cells #[.int .i64 0,.int .i64 0,.int .i64 0,.int .i64 0] 142)).cell? ⟨Sb,1,none⟩=some (.int .i64 s.d.size):=(c.cell j).trans c1;have a0:Sb<(w.alloc (.cells #[.int .i64 0,.int .i64 0,.int .i64 0,.int .i64 0] 142)).heap.size:=by simp;omega
 clear h c;generalize Qf s.d.size b=nd at*
 go_enter func170,ntmps170;go_upto_region 1 with fail;generalize w.alloc (.cells #[.int .i64 0,.int .i64 0,.int .i64 0,.int .i64 0] 142)=w1 at*
 have f:Qb ((prog.info? 142).map (·.size)=some (#[.int .i64 a,.int .i64 nd,.int .i64 b,.int .i64 mk]:Array Value).size):=show(prog.info? 142).map (·.size)=some 4 from by kernel_rfl
 have H1:Qb ((#[.int .i64 a,.int .i64 nd,.int .i64 b,.int .i64 mk]:Array Value).all (·.oneCell')=true):=Qa (by simp[Value.oneCell'])
 go_wp2_with (first
  |(go_at_call 56;refine(HN.o _).mono ?_;rintro en w' ⟨rfl,rfl⟩)
  |(refine wpList_store_row rfl 142 _ _ rfl w.heap.size #[.int .i64 a,.int .i64 nd,.int .i64 b,.int .i64 mk] rfl rfl 142 #[.int .i64 0,.int .i64 0,.int .i64 0,.int .i64 0] i.o f.o rfl H1.o ?_))
 refine bodyPost_ret (v:=.agg #[.int .i64 a,.int .i64 nd,.int .i64 b,.int .i64 mk]) (results_cell_row results170 _ _ w.heap.size 142 _ (0,0) _ rfl (Qp i.o _) underlying142 rfl f.o) rfl ?_;exact⟨rfl,g.o.trans (Qg (Qm _ _ _) g.o.size (gB (by omega)))⟩
end
section
open Go.Shelf Go.Sort
def Zq(p v:Value):Sem Unit:=Instr.storeAt 142 p v
theorem XN(p v:Value):Instr.storeAt 142 p v=Zq p v:=rfl
theorem EW:(prog.info? 142).map (·.size)=some 4:=by kernel_rfl
variable {cs:Array Value} {g:Nat}
theorem XD{v:Array Value}(hk:Qh w g 142 cs)(hs:cs.size=4)(hv:v.size=4)(h1:v.all (·.oneCell')=true):(Zq (.pointer (some ⟨g,0,none⟩)) (.agg v)).run prog w=.ok () (w.setRow g v):=by
 have:=run_storeVar_row (P:=prog) w g 142 142 cs v hk (by rw[hv];exact EW) (by omega) h1;simp only[Zq,Instr.storeAt,Instr.sureAddr,Sem.run_bind,Sem.run_pure,Result.andThen_ok,this]
variable {Sb:Nat} {m:KY} {s:QM}
theorem OV(h:QO w base Sb s m):
  Calls prog 54 #[.pointer (some ⟨Sb,0,none⟩)] w fun e w'=>e=.returned (.int .i64 (Vr s).1)∧QO w' base Sb (Vr s).2 m∧Qd base [121,165,167] w w':=by
 have HH:=Qa h;have c2:w.cell? ⟨Sb,2,none⟩=some (.pointer (some ⟨m.Lb,0,none⟩)):=h.blk.cell 2;have a0:=h.blk.lt;have HS:=Qa (IA h.log h.Ul);have e1:Vr s=((Q4 s.d).1,{ s with d:=(Q4 s.d).2 }):=rfl;have hz:=XW s.d;rw[e1];clear h e1;go_enter func54,ntmps54;go_wp2_with (go_at_call 73;refine HS.o.mono ?_;rintro en w2 ⟨rfl,hd,hk⟩;(have HD:=Qa hd);(have HK:=Qa hk);clear hd hk);go_ret;have k5:=HK.o.mono nR (ts':=[121,165,167,216,137]) (by simp);exact⟨rfl,HH.o.YG k5 HD.o (HH.o.log.keeps HK.o (by decide) (by decide) (by decide)) hz,HK.o⟩
theorem Xo.shape{r:Nat × List UInt8}{e:Ending}(h:Xo w w' r e):∃A n c,e=.returned (.tuple #[.slice A n c,.int .i64 r.1])∧Xo w w' r e:=by
 rcases h.1 with⟨h0,A,c,h2,_⟩|⟨_,h2⟩
 ·exact⟨A,_,c,by rw[h2,h0];rfl,h⟩
 exact⟨none,0,0,h2,h⟩
section
attribute [local go_sem ↓] XN
theorem Nw(h:QO w base Sb s m)(n:Qj)(hn:TQ n)(x:Qx)(hg:QC s.Qc n=some x)(a:Nat)(hF:∀r,KE s.d a=(0,r)→r.mark<2^63)(ha:x.at'=a)(ha2:a≤65536):
  Calls prog 30 #[.pointer (some ⟨Sb,0,none⟩),QZ n] w fun e w'=>Xo w w' (Jj s.d x) e:=by
 have HH:=Qa h
 have HT:=@Qa (∀wy,Below w.heap.size w wy→Calls prog 61 #[.pointer (some ⟨Sb,0,none⟩),Kv x] wy fun e w'=>Xo w w' (Jj s.d x) e) (fun wy hy=>(W8 (h.below hy) x a hF ha ha2).mono fun e w' ⟨h1,h2⟩=>by
  refine⟨?_,hy.trans (h2.mono hy.size)⟩;rcases h1 with⟨h1,A,c,h3,h4⟩|h1
  ·exact .inl ⟨h1,A,c,h3,Xe h4 hy.size⟩
  exact .inr h1)
 have a0:=h.blk.lt
 have HL:=@Qa (∀wy,Below w.heap.size w wy→(Instr.lookup 125 (.map (some m.Pb)) (QZ n) true).run prog wy=.ok (.tuple #[Kv x,.bool true]) wy) (fun wy hy=>by
  have:=(h.below hy).pmap.look_ok (x:=n) hn;rw[hg]at this;exact this)
 obtain⟨n1,n2⟩:=n;obtain⟨at',len,b,mk⟩:=x;unfold QZ Kv at*
 simp only at HT HL ⊢;have g:Qb (Below w.heap.size w (w.alloc (.cells #[.int .i64 n1,.int .i64 n2] 73))):=bR.alloc nR _;have l:=Qa (Qh.new w 73 #[.int .i64 n1,.int .i64 n2]);clear h hF hg hn ha;generalize Jj s.d ⟨at',len,b,mk⟩=q at*
 go_enter func30,ntmps30;go_upto_region 3 with fail;generalize w.alloc (.cells #[.int .i64 n1,.int .i64 n2] 73)=w1 at*
 have i:=g.o.size
 have SK:=@Qa (∀wy,Below w1.heap.size w1 wy→wy.cell? ⟨Sb,5,none⟩=some (.map (some m.Pb))∧(wy.cell? ⟨w.heap.size,0,none⟩=some (.int .i64 n1)∧wy.cell? ⟨w.heap.size,1,none⟩=some (.int .i64 n2))∧(Instr.lookup 125 (.map (some m.Pb)) (.agg #[.int .i64 n1,.int .i64 n2]) true).run prog wy=.ok (.tuple #[.agg #[.int .i64 at',.int .i64 len,.int .i64 b,.int .i64 mk],.bool true]) wy) (fun wy hy=>by
  have hb:=g.o.trans (hy.mono i);have hx:=l.o.below hy l.o.lt;exact⟨(HH.o.below hb).blk.cell 5,⟨hx.cell 0,hx.cell 1⟩,HL.o _ hb⟩)
 have S0:=Qa (SK.o _ bR.drew)
 have k:Qb (Below w1.heap.size w1 ((w1.alloc (.cells #[.int .i64 0,.int .i64 0,.int .i64 0,.int .i64 0] 142)).drew.setRow w1.heap.size #[.int .i64 at',.int .i64 len,.int .i64 b,.int .i64 mk])):=
  (bR.alloc nR _).drew.trans (Qg (Qm _ _ _) (by simp) (gB (by omega)))
 have p:Qb (Qh ((w1.alloc (.cells #[.int .i64 0,.int .i64 0,.int .i64 0,.int .i64 0] 142)).drew.setRow w1.heap.size #[.int .i64 at',.int .i64 len,.int .i64 b,.int .i64 mk]) w1.heap.size 142 #[.int .i64 at',.int .i64 len,.int .i64 b,.int .i64 mk]):=Qp (Qh.new w1 142 _).drew _;have zs:(Zq (.pointer (some ⟨w1.heap.size,0,none⟩)) (.agg #[.int .i64 at',.int .i64 len,.int .i64 b,.int .i64 mk])).run prog (w1.alloc (.cells #[.int .i64 0,.int .i64 0,.int .i64 0,.int .i64 0] 142)).drew=.ok () ((w1.alloc (.cells #[.int .i64 0,.int .i64 0,.int .i64 0,.int .i64 0] 142)).drew.setRow w1.heap.size #[.int .i64 at',.int .i64 len,.int .i64 b,.int .i64 mk]):=XD (Qh.new w1 142 _).drew rfl rfl (by simp[Value.oneCell']);have S3:=Qa (SK.o _ k.o);go_cut [6,7] (fun v6 v7 wx=>v6=.pointer (some ⟨w1.heap.size,0,none⟩)∧v7=.bool true∧Below w1.heap.size w1 wx∧Qh wx w1.heap.size 142 #[.int .i64 at',.int .i64 len,.int .i64 b,.int .i64 mk])
 case first=>
  go_region_held3 (fun wy=>wy.cell? ⟨Sb,5,none⟩=some (.map (some m.Pb))∧(wy.cell? ⟨w.heap.size,0,none⟩=some (.int .i64 n1)∧wy.cell? ⟨w.heap.size,1,none⟩=some (.int .i64 n2))∧(Instr.lookup 125 (.map (some m.Pb)) (.agg #[.int .i64 n1,.int .i64 n2]) true).run prog wy=.ok (.tuple #[.agg #[.int .i64 at',.int .i64 len,.int .i64 b,.int .i64 mk],.bool true]) wy)
   (first|exact S0.o|exact S3.o|exact SK.o _ (bR.drew.alloc nR _)|exact SK.o _ ((bR.alloc nR _).drew))
   (fail)
  all_goals
   go_wp2_with fail;go_meet;exact⟨rfl,rfl,k.o,p.o⟩
 obtain⟨rfl,rfl,j,f⟩:=hcut;have HC:=Qa ((HT.o _ (g.o.trans (j.mono i))).mono fun _ _=>Xo.shape);have x0:=f.cell 0;have x1:=f.cell 1;have x2:=f.cell 2;have x3:=f.cell 3;have xl:=f.lt;clear zs j f;go_wp2_with (go_at_call 61;refine HC.o.mono ?_;rintro en w4 ⟨A4,n4,c4,rfl,h4⟩;(have H4:=Qa h4);clear h4);go_ret2;exact H4.o
theorem Ds(h:QO w base Sb s m)(hF:Ol s.d E)(n:Qj)(hn:TQ n)(x:Qx)(hg:QC s.Qc n=some x)(a:Nat)(ha:x.at'=a)(ha2:a≤65536):
  Calls prog 30 #[.pointer (some ⟨Sb,0,none⟩),QZ n] w fun e w'=>Xo w w' (Jj s.d x) e:=
 Nw h n hn x hg a (fun r hr=>Nat.lt_trans (Y4 hF hr).1 (by decide)) ha ha2
end
end
section
open Go.Shelf
attribute [local go_sem] Oper.semAt_some
section
variable {F:Fence} {n:Nat} {P:Program}
def Co(B:Nat)(Kp:World→World→Prop)(I:World→Prop)(W:World):Exit→Act→World→Prop
 |.normal,_,W'=>KeepsFrom B W W'∧Kp W W'∧I W'
 |_,_,_=>False
theorem PS{α:Type}{g:Operand}{ps:Array Tmp}{assign body:Code}{Q:Exit→Act→World→Prop}{a:Act}{w:World}(hro:F.round=none)(h1:1≤n){gf:Nat}{lb:Array Value}
  (hg:a.eval g=.func (.func gf) #[] lb)(hFg:F.fn gf)(eg:∀args w,(callFunc gf args).run P w=.ok (.enter gf args) w){encs:α→Array Value}(hps:∀x,(encs x).size=ps.size)
  (words:List α)(Kp:World→World→Prop)(hKt:∀{A B C:World},Kp A B→Kp B C→Kp A C)(hKb:∀(W:World)(l:Nat)(o:Obj),w.heap.size≤l→Kp W (W.putObj l o))
  (I:List α→World→Prop)(hI:OwnFrom w.heap.size I)(h0:I [] w)(a1:α→Act)
  (hseq:∀(l:Nat)(J:List α→World→Prop)(W1:World),w.heap.size≤l→(∀k,k<w.heap.size→W1.heap[k]? =w.heap[k]?)→(∀pre W,J pre W→I pre W)→(∀pre W W',J pre W→I pre W'→KeepsFrom w.heap.size W W'→J pre W')→
   (∀pre x W,pre++[x] <+: words→J pre W→YieldAt F (n-1-1) P l (encs x) W fun e W'=>e=.returned (.bool true)∧J (pre++[x]) W'∧Kp W W')→J [] W1→
   CallsIn F (n-1) P gf (#[.func (.yield l) #[] #[]]++lb) W1 fun e W'=>(∃v,e=.returned v)∧J words W')
  (hassign:∀(l:Nat)(x:α)(W:World)(K:Act→World→Prop),K (a1 x) W→assign.wpIn (F.inRound l) (n-1-1) P (Exit.then K (fun _ _ _=>False)) { tmps:=(ps.zip (encs x)).foldl (fun t (p,v)=>t.setIfInBounds p v) a.tmps,defers:=[] } W)
  (hbody:∀(l:Nat)(pre:List α)(x:α)(W:World),I pre W→pre++[x] <+: words→body.wpIn (F.inRound l) (n-1-1) P (Co w.heap.size Kp (I (pre++[x])) W) (a1 x) W)
  (hdone:∀(D:Nat)(W:World),w.heap.size≤D→I words W→W.heap[D]? =some (.deferred (some []))→Q .normal { a with defers:={ target:=.collected D,args:=#[] }::a.defers } W):
  (Code.rangeFunc g ps assign body).wpIn F n P Q a w:=by
 refine wpIn_rangeFunc ?_;intro fn hfn;rw[hro];obtain⟨rc,hrc⟩:∃rc:LoopState→Loop,rc=fun st=>{ state:=st,pending:=none,fn,tmps:=a.tmps,params:=ps,assign,body,defers:=w.heap.size }:=⟨_,rfl⟩
 obtain⟨z,hz⟩:=eX w.heap.size;have hW:∃W1,W1=(w.alloc (.deferred (some []))).alloc (.loop (rc .ready)):=⟨_,rfl⟩;obtain⟨W1,b⟩:=hW;have eL:W1.heap[z+1]? =some (.loop (rc .ready)):=by
  have:=World.alloc_heap_new (w.alloc (.deferred (some []))) (.loop (rc .ready));rw[World.size_alloc,←b,←hz]at this;exact this
 have eD:W1.heap[z]? =some (.deferred (some [])):=by
  rw[b,hz];exact(Below.heap_alloc _ _ _ (by simp)).trans (World.alloc_heap_new w _)
 have eO:∀k,k<w.heap.size→W1.heap[k]? =w.heap[k]? :=fun k hk=>by
  rw[b];exact(Below.heap_alloc _ _ k (by simp;omega)).trans (Below.heap_alloc _ _ k hk)
 have eI:I [] W1:=by rw[b];exact hI.alloc _ (hI.alloc _ h0)
 refine⟨z+1,[{ target:=.collected z,args:=#[] }],W1,{ target:=.fn (.func gf) lb,args:=#[.func (.yield (z+1)) #[] #[]] },W1,gf,#[.func (.yield (z+1)) #[] #[]]++lb,W1, ?_, ?_, ?_, ?_,fun _=>h1, ?_⟩
 ·rw[b,hrc,hz];exact run_enterLoop_outer _ _ _ _ _
 ·simp only[resolve,hg];simp[go_sem]
 ·intro f' hf';simp[Target.leads]at hf';subst hf';exact hFg
 ·simp[invoke,go_sem,eg]
 obtain⟨J,hJ⟩:∃J:List α→World→Prop,J=fun pre W=>I pre W∧W.heap[z+1]? =some (.loop (rc .ready))∧W.heap[z]? =some (.deferred (some [])):=⟨_,rfl⟩
 refine(hseq (z+1) J W1 (by omega) eO (fun pre W h=>by rw[hJ]at h;exact h.1) (fun pre W W' h hi hk=> ?_) (fun pre x W hpre h=> ?_) (by rw[hJ];exact⟨eI,eL,eD⟩)).mono ?_
 ·rw[hJ]at h ⊢;exact⟨hi,hk.same _ _ (by omega) h.2.1 rfl,hk.same _ _ (by omega) h.2.2 rfl⟩
 ·rw[hJ]at h;obtain⟨hi,hl,hd⟩:=h;have f:=(Array.getElem?_eq_some_iff.1 hl).1;have hy:=run_yield (P:=P) (args:=encs x) hl (by rw[hrc];exact hps x);rw[hrc]at hy;refine⟨fn,_,assign,body,hy,roundIn_of_wpIn hfn (hassign _ x W _ ?_)⟩;clear hy;refine⟨_,run_beginRound hl (by rw[hrc]), ?_⟩;obtain⟨X,hX⟩:∃X,X=W.putObj (z+1) (.loop { rc .ready with state:=.busy }):=⟨_,rfl⟩;rw[←hX];have xl:X.heap[z+1]? =some (.loop { rc .ready with state:=.busy }):=by rw[hX];exact World.putObj_heap_same f
  have xd:X.heap[z]? =some (.deferred (some [])):=by rw[hX];exact(World.putObj_heap_other (by omega)).trans hd
  have xi:I pre X:=by rw[hX];exact hI.putObj _ hi (by omega) hl rfl
  have xk:Kp W X:=by rw[hX];exact hKb _ _ _ (by omega)
  refine wpIn_mono (hbody _ pre x X xi hpre) ?_;rintro e a3 W3 hp;cases e with
  |normal=>
   obtain⟨d,c,i⟩:=hp;have l3:=d.same _ _ (by omega) xl rfl;have d3:=d.same _ _ (by omega) xd rfl;have hr:=run_endRound (P:=P) none l3;refine⟨_,_,hr,rfl, ?_, ?_⟩
   ·rw[hJ];refine⟨hI.putObj _ i (by omega) l3 rfl, ?_,(World.putObj_heap_other (by omega)).trans d3⟩;rw[World.putObj_heap_same (Array.getElem?_eq_some_iff.1 l3).1,hrc];rfl
   exact hKt xk (hKt c (hKb _ _ _ (by omega)))
  |ret=>exact hp.elim
  |exit id=>exact hp.elim
  |goto t=>exact hp.elim
  |panic ch=>exact hp.elim
  |outgrown=>exact hp.elim
 rintro e W2 ⟨⟨v,rfl⟩,h2⟩;rw[hJ]at h2;obtain⟨hi,hl,hd⟩:=h2;have he:=run_endLoop (P:=P) hl (by rw[hrc];simp);refine⟨none,_,by rw[hrc]at he;exact he,hdone z _ (by omega) (hI.putObj _ hi (by omega) hl rfl) ((World.putObj_heap_other (by omega)).trans hd)⟩
end
inductive SX:List UInt8→List (List UInt8)→Prop
 |last {s:List UInt8} (h:Lib.indexByte s 32= -1):SX s [s]
 |more {s:List UInt8} {i:Nat} {r:List (List UInt8)} (h:Lib.indexByte s 32=(i:Nat)) (hi:i<s.length) (k:SX (s.drop (i+1)) r):SX s (s.take i::r)
def SH(W:World)(sb:Nat):Nat:=match W.cell? ⟨sb,0,none⟩with
 |some (.string b)=>b.size
 |_=>0
theorem Boxed.LV{W:World}{sb:Nat}{s:List UInt8}(h:Boxed W sb 9 (Qw s)):SH W sb=s.length:=by
 unfold SH;rw[h.cell];simp[Qw,ByteArray.size]
theorem ET(s:List UInt8)(i:Nat):(⟨s.toArray⟩:ByteArray).extract 0 i=⟨(s.take i).toArray⟩:=by
 apply ByteArray.ext;rw[ByteArray.data_extract];simp
theorem Ci(s:List UInt8)(i:Nat)(hi:i≤s.length)(w:World):(Instr.slice 9 (Qw s) none (some (.int .i64 i)) none).run prog w=.ok (Qw (s.take i)) w:=by
 unfold Qw;rw[run_slice_string_to_if _ _ _ _ _ underlying9,if_pos (by simp[ByteArray.size];omega)];congr 2;rw[←ET];simp
theorem EX(s:List UInt8)(i:Nat)(hi:i≤s.length)(w:World):(Instr.slice 9 (Qw s) (some (.int .i64 i)) none none).run prog w=.ok (Qw (s.drop i)) w:=by
 unfold Qw;rw[run_slice_string_from_if _ _ _ _ _ underlying9,if_pos (by simp[ByteArray.size];omega)];congr 2;apply ByteArray.ext;rw[ByteArray.data_extract];simp[ByteArray.size];rw[List.take_of_length_le (by simp)]
theorem Nc(n l B:Nat)(hn:1≤n)(pb sb kb:Nat)(s:List UInt8)(words:List (List UInt8))(hcut:SX s words)(I J:List (List UInt8)→World→Prop)(hsl:s.length<4611686018427387904)
  (hIX:∀(s:List UInt8)(w:World),Calls prog 225 #[Qw s,.string ⟨#[32]⟩] w fun e w'=>e=.returned (.int .i64 (Lib.indexByte s 32))∧w=w')
  (hbox:∀a W,I a W→Boxed W pb 9 (.string ⟨#[32]⟩)∧Boxed W kb 3 (.int .i64 0)∧∃v,Boxed W sb 9 v)
  (hset:∀a W u,I a W→I a (W.setCell ⟨sb,0,none⟩ u))(hJI:∀a W,J a W→I a W)(hJ:∀a W W',J a W→I a W'→KeepsFrom B W W'→J a W')
  (hY:∀a x W,a++[x] <+: words→J a W→YieldAt Fence.wide (n-1) prog l #[Qw x] W fun e W'=>e=.returned (.bool true)∧J (a++[x]) W'∧W'.heap[sb]? =W.heap[sb]?)
  (W1:World)(hs:Boxed W1 sb 9 (Qw s))(h0:J [] W1):
  CallsIn Fence.wide n prog 223 (#[.func (.yield l) #[] #[]]++#[.pointer (some ⟨pb,0,none⟩),.pointer (some ⟨sb,0,none⟩),.pointer (some ⟨kb,0,none⟩)]) W1 fun e W'=>(∃v,e=.returned v)∧J words W':=by
 obtain⟨bp,bk,_⟩:=hbox _ _ (hJI _ _ h0);have cp:=bp.cell;have a0:Fence.wide.fn 225:=trivial;refine callsIn_of_wp func223 rfl trivial ?_ rfl;simp only[ntmps223,List.size_toArray,List.length_cons,List.length_nil,Nat.reduceAdd,Nat.reduceSub,Array.replicate_succ,Array.replicate_zero,List.push_toArray,List.append_toArray,List.nil_append,List.cons_append]
 gi_wp2
 clear cp
 gi_loopw [7] (fun _ wr=>∃(a c:List (List UInt8)) (b:List UInt8),words=a++c∧SX b c∧Boxed wr sb 9 (Qw b)∧J a wr∧b.length<4611686018427387904) (fun _ wr=>SH wr sb)
 case atStart=>exact⟨[],words,s,rfl,hcut,hs,h0,hsl⟩
 obtain⟨a,c,b,hw,hc,hb,hj,a3⟩:=hrel;obtain⟨D,z,_⟩:=hbox _ _ (hJI _ _ hj);have cp:=D.cell;have ck:=z.cell;have cs:=hb.cell;have m:=Qa hIX;have E:=Qa (Boxed.LV hb);cases hc with
 |last h=>
  obtain⟨fn,j,f,p,hy,hR⟩:=hY a b wr ⟨[],by rw[hw];simp⟩ hj;have HC:=@Qa (Calls prog 225 #[Qw b,.string ⟨#[32]⟩] wr fun e w'=>e=.returned (.int .i64 (-1))∧wr=w') (by have:=m.o b wr;rw[h]at this;exact this)
  gi_wp2_with (first
   |(gi_at_call 225;refine(callsIn_wide.2 HC.o).mono ?_;rintro en w' ⟨rfl,rfl⟩))
  refine hR.mono ?_;rintro e W3 ⟨rfl,d,y⟩
  gi_wp2
  go_end0
  exact⟨⟨_,rfl⟩,by rw[hw];exact d⟩
 |@more _ i r h hi k=>
  obtain⟨fn,j,f,p,hy,hR⟩:=hY a (b.take i) wr ⟨r,by rw[hw];simp⟩ hj;have HC:=@Qa (Calls prog 225 #[Qw b,.string ⟨#[32]⟩] wr fun e w'=>e=.returned (.int .i64 (i:Nat))∧wr=w') (by have:=m.o b wr;rw[h]at this;exact this);have a6:¬((i:Int)<0):=by omega
  have a9:=fun W=>Ci b i (by omega) W
  have a4:∀W,(Instr.slice 9 (Qw b) (some (.int .i64 ((i:Int)+1))) none none).run prog W=.ok (.string ⟨(b.drop (i+1)).toArray⟩) W:=fun W=>EX b (i+1) (by omega) W
  have a1:=hJ a
  gi_wp2_with (first
   |(gi_at_call 225;refine(callsIn_wide.2 HC.o).mono ?_;rintro en w' ⟨rfl,rfl⟩))
  refine hR.mono ?_;rintro e W3 ⟨rfl,d,y⟩;have g:Boxed W3 sb 9 (Qw b):=y.trans hb;obtain⟨A,a5,_⟩:=hbox _ _ (hJI _ _ d);have a8:=A.cell;have a7:=g.cell;have a2:=g.frozen
  gi_wp2
  have C:=hset _ _ (Qw (b.drop (i+1))) (hJI _ _ d);have q:Boxed (W3.setCell ⟨sb,0,none⟩ (Qw (b.drop (i+1)))) sb 9 (Qw (b.drop (i+1))):=by
   have:=Qh.set (t:=9) (cs:=#[Qw b]) g 0 (Qw (b.drop (i+1)));exact this
  have F:=hJ _ _ _ d C ((KeepsOthers.setCell _ _ _).from _);go_roundw
  case rel=>exact⟨a++[b.take i],r,b.drop (i+1),by rw[hw];simp,k,q,F,by rw[List.length_drop];omega⟩
  have e4:=Boxed.LV q;unfold Qw at e4;rw[E.o,e4,List.length_drop];omega
end
/-! ### numerals -/
theorem WE(M:Nat):∀(l r:List UInt8)(acc:Nat),Lib.parseUintM M acc (l++r)=match Lib.parseUintM M acc l with
  |.ok v=>Lib.parseUintM M v r
  |e=>e
 |[],r,acc=>rfl
 |c::l,r,acc=>by
  rw[List.cons_append,Lib.parseUintM,Lib.parseUintM];split
  ·split
   ·rfl
   split
   ·rfl
   exact WE M l r _
  rfl
theorem Pg{d:Nat}(h:d<10):(UInt8.ofNat (48+d)).toNat=48+d:=by
 rw[UInt8.toNat_ofNat'];omega
variable {M:Nat}
theorem Li(hM:M≤18446744073709551615)(u:Nat):u≤M→Lib.parseUintM M 0 (Lib.decDigits u)=.ok u:=by
 induction u using Nat.strongRecOn with
 |_ u ih=>
  intro hu;have b:∀a d,d<10→a<1844674407370955162→a*10+d≤M→Lib.parseUintM M a [UInt8.ofNat (48+d)]=.ok (a*10+d):=fun a d hd ha hle=>by
   rw[Lib.parseUintM,Pg hd,if_pos (by omega),if_neg (by omega),show 48+d-48=d by omega,if_neg (by omega)];rfl
  by_cases h:u<10
  ·rw[Lib.decDigits_one h,b 0 u h (by omega) (by omega)];simp
  rw[Lib.decDigits,dif_neg h,WE,ih (u/10) (by omega) (by omega)];show Lib.parseUintM M (u/10) [UInt8.ofNat (48+u%10)]=_;rw[b (u/10) (u%10) (by omega) (by omega) (by omega)];congr 1;omega
theorem Ic(u:Nat):∀c∈Lib.decDigits u,48≤c.toNat∧c.toNat≤57:=by
 induction u using Nat.strongRecOn with
 |_ u ih=>
  intro c hc;by_cases h:u<10
  ·rw[Lib.decDigits_one h,List.mem_singleton]at hc;subst hc;rw[Pg h];omega
  rw[Lib.decDigits,dif_neg h,List.mem_append,List.mem_singleton]at hc;rcases hc with hc|hc
  ·exact ih (u/10) (by omega) c hc
  subst hc;rw[Pg (by omega)];omega
theorem FX(u:Nat):Lib.decDigits u≠[]:=by
 intro h;have:=Lib.decDigits_length u;rw[h]at this;have:=Lib.nDigits_pos u;simp at *; omega
theorem Lu{n:Int}(h0: -9223372036854775808≤n)(h1:n≤9223372036854775807):Lib.parseIntB 64 (Lib.itoa n)=.ok n:=by
 have hb:∀u:Nat,u≤9223372036854775808→Lib.parseUintB 64 (Lib.decDigits u)=.ok u:=fun u hu=>by
  unfold Lib.parseUintB;rw[if_neg (FX u)];exact Li (by decide) u (by omega)
 by_cases hn:n<0
 ·obtain⟨u,rfl⟩:∃u:Nat,n= -(u:Int):=⟨n.natAbs,by omega⟩;have e:Lib.itoa (-(u:Int))=45::Lib.decDigits u:=by unfold Lib.itoa;rw[if_pos hn];simp
  rw[e];unfold Lib.parseIntB;have f:(45:UInt8).toNat=45:=rfl;simp only[f,or_true,if_true,hb u (by omega)];rw[if_neg (by simp),if_neg (by simp;omega)]
 obtain⟨u,rfl⟩:∃u:Nat,n=(u:Int):=⟨n.toNat,by omega⟩;have e:Lib.itoa (u:Int)=Lib.decDigits u:=by unfold Lib.itoa;rw[if_neg hn];simp
 rw[e];have b:=hb u (by omega);have a:=Ic u;have d:=FX u;generalize Lib.decDigits u=l at*
 cases l with
 |nil=>exact absurd rfl d
 |cons c r=>
  have hc:=a c (by simp);unfold Lib.parseIntB;have c2:¬c.toNat=45:=by omega
  have c3:¬c.toNat=43:=by omega
  simp only[c2,c3,or_self,if_false,b];rw[if_neg (by simp;omega),if_neg (by simp)]
theorem LQ{n:Int}:∀c∈Lib.itoa n,c.toNat=45∨(48≤c.toNat∧c.toNat≤57):=by
 intro c hc;unfold Lib.itoa at hc;split at hc
 ·rw[List.mem_cons]at hc;rcases hc with rfl|hc
  ·exact .inl rfl
  exact .inr (Ic _ c hc)
 exact .inr (Ic _ c hc)
theorem Tt(n:Int):(32:UInt8)∉Lib.itoa n:=fun h=>by
 have:=LQ _ h;simp at this
theorem TZ{c:UInt8}:∀(w:List UInt8),c∉w→Lib.indexByte w c= -1
 |[],_=>rfl
 |b::w,h=>by
  have hb:¬(b==c)=true:=fun e=>h (by rw[beq_iff_eq]at e;simp[e])
  unfold Lib.indexByte;rw[if_neg hb,TZ w (fun hm=>h (List.mem_cons_of_mem _ hm))];rfl
theorem Md{c:UInt8}:∀(w r:List UInt8),c∉w→Lib.indexByte (w++c::r) c=(w.length:Int)
 |[],r,_=>by unfold Lib.indexByte;simp
 |b::w,r,h=>by
  have hb:¬(b==c)=true:=fun e=>h (by rw[beq_iff_eq]at e;simp[e])
  have ih:=Md w r (fun hm=>h (List.mem_cons_of_mem _ hm));rw[List.cons_append];unfold Lib.indexByte;rw[if_neg hb,ih,if_neg (by simp)];simp
theorem Sk{α β:Type}{f:α→Option β}:∀{l:List α} {r:List β},l.mapM f=some r→r.length=l.length∧∀y∈r,∃x∈l,f x=some y
 |[],r,h=>by simp at h;subst h;exact⟨rfl,fun y hy=>by cases hy⟩
 |a::l,r,h=>by
  rw[List.mapM_cons]at h;cases ha:f a with
  |none=>rw[ha]at h;simp at h
  |some b=>
   rw[ha]at h;cases hl:l.mapM f with
   |none=>rw[hl]at h;simp at h
   |some r'=>
    rw[hl]at h;simp at h;subst h;obtain⟨h1,h2⟩:=Sk hl;refine⟨by simp[h1],fun y hy=> ?_⟩;rcases List.mem_cons.1 hy with rfl|hy
    ·exact⟨a,List.mem_cons_self,ha⟩
    obtain⟨x,hx,e⟩:=h2 y hy;exact⟨x,List.mem_cons_of_mem _ hx,e⟩
theorem Gz(sep:List UInt8)(k:Nat)(s:List UInt8):Lib.splitK sep 0 k s≠[]:=by
 cases k with
 |zero=>simp[Lib.splitK]
 |succ k=>unfold Lib.splitK;split<;>simp
theorem Pf{s:List UInt8}{l:List Int}(h:XP s k=some l):Qi l=s∧l.length=k∧l≠[]∧∀x∈l,-9223372036854775808≤x∧x≤9223372036854775807:=by
 unfold XP at h;split at h
 ·rename_i l' hm;split at h
  ·rename_i hc;injection h with h;subst h;obtain⟨h1,h2⟩:=Sk hm;refine⟨hc.2,hc.1,fun e=> ?_,fun x hx=> ?_⟩
   ·rw[e]at h1;exact Gz _ _ _ (List.eq_nil_of_length_eq_zero h1.symm)
   obtain⟨w,_,hw⟩:=h2 x hx;unfold F9 at hw;split at hw
   ·rename_i v hv;injection hw with hw;subst hw;have:=Lib.parseIntB_bounds hv;simp at this;omega
   cases hw
  cases h
 cases h
section
open Go.Shelf
theorem Eh{w:List UInt8}(h:(32:UInt8)∉w):SX w [w]:=.last (TZ w h)
theorem TW:∀(x:List UInt8) (ws:List (List UInt8)),(∀w∈x::ws,(32:UInt8)∉w)→SX (Lib.join (x::ws) [32]) (x::ws)
 |x,[],h=>by rw[Lib.join_one];exact Eh (h x (by simp))
 |x,y::ws,h=>by
  have ih:=TW y ws (fun w hw=>h w (List.mem_cons_of_mem _ hw));have hj:Lib.join (x::y::ws) [32]=x++32::Lib.join (y::ws) [32]:=by
   rw[Lib.join_cons,Lib.join_cons];simp[Lib.joinTail]
  rw[hj];have hi:=Md x (Lib.join (y::ws) [32]) (h x (by simp))
  have k:=SX.more (s:=x++32::Lib.join (y::ws) [32]) (i:=x.length) (r:=y::ws) hi (by simp) (by
   have e:(x++32::Lib.join (y::ws) [32]).drop (x.length+1)=Lib.join (y::ws) [32]:=by
    rw[show x++32::Lib.join (y::ws) [32]=(x++[32])++Lib.join (y::ws) [32]by simp,List.drop_append];simp
   rw[e];exact ih)
  simpa using k
theorem Ln{ns:List Int}(h:ns≠[]):SX (Qi ns) (ns.map Lib.itoa):=by
 cases ns with
 |nil=>exact absurd rfl h
 |cons a r=>
  unfold Qi;rw[List.map_cons];refine TW _ _ fun w hw=> ?_
  rcases List.mem_cons.1 hw with rfl|hw
  ·exact Tt _
  obtain⟨x,_,rfl⟩:=List.mem_map.1 hw;exact Tt _
theorem Wz(h:Below w.heap.size w w'):KeepsOthers w w':=⟨h.size,fun k _ hk _=>(h.block k (Array.getElem?_eq_some_iff.1 hk).1).trans hk⟩
theorem Gs(n:Int)(h0: -9223372036854775808≤n)(h1:n≤9223372036854775807)(w:World):
  Calls prog 169 #[Qw (Lib.itoa n),.int .i64 10,.int .i64 64] w fun e w'=>e=.returned (.tuple #[.int .i64 n,.nilIface])∧Below w.heap.size w w':=by
 have hs:(⟨(Lib.itoa n).toArray⟩:ByteArray).size=(Lib.itoa n).length:=by simp[ByteArray.size]
 have hl:=Lib.itoa_length_le n h0 h1;refine(Tryz.strconv_ParseInt_10_at64_ok ⟨(Lib.itoa n).toArray⟩ (by omega) n (by simpa using Lu h0 h1) w).mono ?_;rintro e w' ⟨rfl,rfl|⟨t,rfl⟩⟩
 ·exact⟨rfl,bR⟩
 exact⟨rfl,by unfold Lib.bytesWorld World.freeze;rfl,by unfold Lib.bytesWorld World.freeze;rfl,by unfold Lib.bytesWorld World.freeze;rfl,by rw[Lib.bytesWorld_size];omega,fun k hk=>Lib.bytesWorld_at_old _ _ _ _ hk⟩
theorem GQ(s:List UInt8)(w:World):Calls prog 225 #[Qw s,.string ⟨#[32]⟩] w fun e w'=>e=.returned (.int .i64 (Lib.indexByte s 32))∧w=w':=by
 refine(Tryz.strings_Index_one ⟨s.toArray⟩ 32 w).mono ?_;rintro e w' ⟨rfl,rfl⟩;exact⟨by simp,rfl⟩
theorem PU(s:List UInt8)(w:World):Calls prog 168 #[Qw s,.string ⟨#[32]⟩] w fun e w'=>e=.returned (.func (.func 223) #[] #[.pointer (some ⟨w.heap.size+1,0,none⟩),.pointer (some ⟨w.heap.size,0,none⟩),.pointer (some ⟨w.heap.size+2,0,none⟩)])∧
  w'=((w.alloc (.cells #[Qw s] 9)).alloc (.cells #[.string ⟨#[32]⟩] 9)).alloc (.cells #[.int .i64 0] 3):=by
 have H:∀w,Calls prog 192 #[Qw s,.string ⟨#[32]⟩,.int .i64 0] w fun e w'=>e=.returned (.func (.func 223) #[] #[.pointer (some ⟨w.heap.size+1,0,none⟩),.pointer (some ⟨w.heap.size,0,none⟩),.pointer (some ⟨w.heap.size+2,0,none⟩)])∧
  w'=((w.alloc (.cells #[Qw s] 9)).alloc (.cells #[.string ⟨#[32]⟩] 9)).alloc (.cells #[.int .i64 0] 3):=by
  intro w;go_enter func192,ntmps192;go_wp2_with fail;go_ret;exact⟨rfl,rfl⟩
 go_enter func168,ntmps168;go_wp2_with (go_at_call 192;refine(H _).mono ?_;rintro en w' ⟨rfl,rfl⟩);go_ret;exact⟨rfl,rfl⟩
end
section
open Go.Shelf
attribute [local go_sem] Oper.semAt_some
theorem SV:prog.underlying 83=some (.slice 2):=by kernel_rfl
theorem D7:(prog.info? 2).map (fun i=>(i.zero,i.size,i.bytes))=some (some (.int .i64 0),1,8):=by kernel_rfl
structure Wk (w:World) (lb:Nat) (ns:List Int) (pre:List (List UInt8)) (W:World):Prop where
 box:∃v,Boxed W lb 83 v∧W.ownsRow w.heap.size 2 1 v pre.length (J8 (ns.take pre.length))
 pb:Boxed W (lb+2) 9 (.string ⟨#[32]⟩)
 kb:Boxed W (lb+3) 3 (.int .i64 0)
 sb:∃u,Boxed W (lb+1) 9 u
 r0:Qh W w.heap.size 83 #[.slice none 0 0]
 r1:Qh W (w.heap.size+1) 4 #[.bool false]
 below:Below w.heap.size w W
variable {W:World} {cs:Array Value} {t:TypeId}
theorem XB{row:Option Nat}{f:Nat × Nat}(hk:W.heap[k]? =some (.cells cs t f))(hr:∀r,row=some r→∃o:Obj,W.heap[r]? =some o∧o.isCells=false):row≠some k:=fun e=>by
 obtain⟨o,ho,hc⟩:=hr k e;rw[hk]at ho;cases ho;cases hc
variable {n size:Nat} {v:Value} {xs:List Value}
theorem Tn{row:Option Nat}(h:W.ownsRow base e size v n xs)(hr:∀r,row=some r→∃o:Obj,W.heap[r]? =some o∧o.isCells=false):∀g,v.ownBlock=some g→row≠some g:=fun g hg=>by
 rcases h.2 with⟨rfl,_⟩|⟨g',cap,cur,rfl,_,hgb,_⟩
 ·simp[Value.ownBlock]at hg
 have:g'=g:=by simpa [Value.ownBlock]using hg
 subst this;exact XB hgb hr
variable {W':World} {lb:Nat}
theorem Wk.keep{ns:List Int}{pre:List (List UInt8)}{row:Option Nat}(h:Wk w lb ns pre W)(hg:W.grownBy W' row)(hr:∀r,row=some r→∃o:Obj,W.heap[r]? =some o∧o.isCells=false)(hB:∀r,row=some r→w.heap.size≤r):Wk w lb ns pre W':=by
 obtain⟨⟨v,hv,ho⟩,h1,h2,⟨u,h3⟩,h4,h5,h6⟩:=h;exact⟨⟨v,hv.kept hg (XB hv hr).symm,Og ho hg (Tn ho hr)⟩,h1.kept hg (XB h1 hr).symm,h2.kept hg (XB h2 hr).symm,⟨u,h3.kept hg (XB h3 hr).symm⟩,h4.grown hg (XB h4 hr),h5.grown hg (XB h5 hr),h6.grown hg h6.size hB⟩
theorem Wk.CD{ns:List Int}{pre:List (List UInt8)}(h:Wk w lb ns pre W)(hb:Below W.heap.size W W'):Wk w lb ns pre W':=
 h.keep (row:=none) (UN hb) (fun r e=>by cases e) (fun r e=>by cases e)
theorem Wk.set{ns:List Int}{pre:List (List UInt8)}(h:Wk w lb ns pre W)(hlb:w.heap.size+2≤lb)(u:Value):Wk w lb ns pre (W.setCell ⟨lb+1,0,none⟩ u):=by
 obtain⟨⟨v,hv,ho⟩,h1,h2,⟨u',h3⟩,h4,h5,h6⟩:=h;exact⟨⟨v,hv.other (by omega) u,Og ho (grownBy_setCell' W (lb+1) u) (fun g hg e=>h3.not_row (by decide) ho (by rw[hg,←e]))⟩,h1.other (by omega) u,h2.other (by omega) u,⟨u,h3.set u⟩,h4.Yq (by omega) u,h5.Yq (by omega) u,Jo h6 (by omega) u⟩
theorem Gu{α:Type}[Inhabited α]{pre:List α}{x:α}{l:List α}(h:pre++[x] <+: l):∃hk:pre.length<l.length,l[pre.length]=x:=by
 obtain⟨r,rfl⟩:=h;exact⟨by simp,by simp⟩
theorem Ns(ns:List Int)(hne:ns≠[])(hl:ns.length≤1000)(hn:∀x∈ns,-9223372036854775808≤x∧x≤9223372036854775807)(ht:Tb w):
  Calls prog 115 #[Qw (Qi ns),.int .i64 ns.length] w fun e w'=>∃A c,e=.returned (.tuple #[.slice A ns.length c,.bool true])∧Rd w' w'.heap.size 1 A ns.length (J8 ns)∧Below w.heap.size w w':=by
 refine(callsIn_wide (n:=6)).1 ?_;obtain⟨i0,hi,I,M,L⟩:=info_parts D7;have ai:Fence.wide.fn 168:=trivial;have ag:Fence.wide.fn 123:=trivial;have F:Below w.heap.size w ((w.alloc (.cells #[.slice none 0 0] 83)).alloc (.cells #[.bool false] 4)):=(bR.alloc nR _).alloc (by simp) _;obtain⟨w2,U,G,C⟩:=run_make_own (P:=prog) ((w.alloc (.cells #[.slice none 0 0] 83)).alloc (.cells #[.bool false] 4)) w.heap.size 83 2 i0 _ 1 SV hi I M .i64 .i64 ns.length (by rw[L];omega) (by unfold maxLen;omega) F.size;refine callsIn_of_wp_marks func115 rfl trivial ?_ rfl;simp only[ntmps115,List.size_toArray,List.length_cons,List.length_nil,Nat.reduceAdd,Nat.reduceSub,Array.replicate_succ,Array.replicate_zero,List.push_toArray,List.append_toArray,List.nil_append,List.cons_append]
 gi_wp2_with (gi_at_call 168;refine(callsIn_wide.2 (PU _ _)).mono ?_;rintro e w' ⟨rfl,rfl⟩)
 have a1:w2.heap.size=w2.heap.size:=rfl;have j:Below w.heap.size w w2:=F.grown C F.size (fun k e=>by cases e);have aj:w.heap.size+2≤w2.heap.size:=by have:=C.size;simpa using this
 have m:Qh w2 w.heap.size 83 #[.slice none 0 0]:=((Qh.new w 83 _).alloc _).grown C (by simp);have z:Qh w2 (w.heap.size+1) 4 #[.bool false]:=Qh.grown (Qh.Qz (by simp)) C (by simp);have hv:Value.slice (some ⟨w.heap.size+1+1,0,none⟩) 0 ns.length=.slice (some ⟨((w.alloc (.cells #[.slice none 0 0] 83)).alloc (.cells #[.bool false] 4)).heap.size,0,none⟩) 0 ns.length:=by simp
 obtain⟨W0,s⟩:=eX (((((w2.alloc (.cells #[.slice (some ⟨w.heap.size+1+1,0,none⟩) 0 ns.length] 83)).alloc (.cells #[Qw (Qi ns)] 9)).alloc (.cells #[.string ⟨#[32]⟩] 9)).alloc (.cells #[.int .i64 0] 3)));have af:W0.heap.size=w2.heap.size+4:=by rw[s];simp
 have a3:Wk w w2.heap.size ns [] W0:=by
  rw[s];refine⟨⟨_,(((Boxed.new w2 83 _).alloc _).alloc _).alloc _, ?_⟩, ?_, ?_,⟨Qw (Qi ns), ?_⟩,(((m.alloc _).alloc _).alloc _).alloc _,(((z.alloc _).alloc _).alloc _).alloc _,(((j.alloc j.size _).alloc (by simp;have:=j.size;omega) _).alloc (by simp;have:=j.size;omega) _).alloc (by simp;have:=j.size;omega) _⟩
  ·rw[hv];exact(((G.alloc _).alloc _).alloc _).alloc _
  ·have:=Boxed.new ((w2.alloc (.cells #[.slice (some ⟨w.heap.size+1+1,0,none⟩) 0 ns.length] 83)).alloc (.cells #[Qw (Qi ns)] 9)) 9 (.string ⟨#[32]⟩);simp only[World.size_alloc]at this;exact this.alloc _
  ·have:=Boxed.new (((w2.alloc (.cells #[.slice (some ⟨w.heap.size+1+1,0,none⟩) 0 ns.length] 83)).alloc (.cells #[Qw (Qi ns)] 9)).alloc (.cells #[.string ⟨#[32]⟩] 9)) 3 (.int .i64 0);simp only[World.size_alloc]at this;exact this
  have:=Boxed.new (w2.alloc (.cells #[.slice (some ⟨w.heap.size+1+1,0,none⟩) 0 ns.length] 83)) 9 (Qw (Qi ns));simp only[World.size_alloc]at this;exact(this.alloc _).alloc _
 have Y:Boxed W0 (w2.heap.size+1) 9 (Qw (Qi ns)):=by
  rw[s];have:=Boxed.new (w2.alloc (.cells #[.slice (some ⟨w.heap.size+1+1,0,none⟩) 0 ns.length] 83)) 9 (Qw (Qi ns));simp only[World.size_alloc]at this;exact(this.alloc _).alloc _
 rw[←s];clear s j m z hv C U G F;clear a1;generalize w2.heap.size=lb at*
 have H:(ns.map Lib.itoa).length=ns.length:=List.length_map _;have ap:=KX ns hn
 refine PS (α:=List UInt8) (encs:=fun x=>#[Qw x]) rfl (by omega) (gf:=223) (lb:=#[.pointer (some ⟨lb+1+1,0,none⟩),.pointer (some ⟨lb+1,0,none⟩),.pointer (some ⟨lb+1+2,0,none⟩)]) rfl trivial (enters_of func223 (by kernel_rfl) rfl) (fun _=>rfl)
  (ns.map Lib.itoa) (fun A B=>B.heap[lb+1]? =A.heap[lb+1]?) (fun h k=>k.trans h) (fun W l o hl=>World.putObj_heap_other (by omega))
  (Wk w lb ns) (fun d A B row hs hg hr=>hs.keep hg (fun r e=>(hr r e).2) (fun r e=>by have:=(hr r e).1;omega)) a3
  (fun x=>{ tmps:=#[Qw (Qi ns),.int .i64 ns.length,undef,undef,.pointer (some ⟨w.heap.size,0,none⟩),.pointer (some ⟨w.heap.size+1,0,none⟩),.pointer (some ⟨lb,0,none⟩),Qw x,undef,undef,.int .i64 ns.length,.slice (some ⟨w.heap.size+1+1,0,none⟩) 0 ns.length,Qw (Qi ns),.func (.func 223) #[] #[.pointer (some ⟨lb+1+1,0,none⟩),.pointer (some ⟨lb+1,0,none⟩),.pointer (some ⟨lb+1+2,0,none⟩)],Qw x,undef,undef,undef,undef,undef,undef,undef,undef,undef,undef,undef,undef,undef,undef,undef,undef,undef,undef,undef,undef,undef,undef],defers:=[] })
  (fun l J W1 hl hold hJI hJk hY h0=>Nc 5 l W0.heap.size (by omega) (lb+2) (lb+1) (lb+3) (Qi ns) (ns.map Lib.itoa) (Ln hne) (Wk w lb ns) J (by omega) GQ (fun d W h=>⟨h.pb,h.kb,h.sb⟩) (fun d W u h=>h.set (by omega) u) hJI hJk hY W1 ((hold (lb+1) (by omega)).trans Y) h0) ?assign ?body ?done
 case assign=>
  intro l x W K hK
  gi_wp2
  exact hK
 case body=>
  rintro l d x W hI Z;obtain⟨hk,hx⟩:=Gu Z;rw[H]at hk;have a7:x=Lib.itoa ns[d.length]:=by rw[←hx];simp
  subst a7;have hb:=hn _ (List.getElem_mem hk);have a9:ns.take (d.length+1)=ns.take d.length++[ns[d.length]]:=List.take_succ_eq_append_getElem hk;generalize ns[d.length]=y at*
  have ah:Fence.wide.fn 169:=trivial;clear hx
  gi_wp2_with (first
   |(gi_at_call 169;refine(CallsIn.inRound l (callsIn_wide.2 (Gs y hb.1 hb.2 W))).mono ?_;rintro e W3 ⟨rfl,O⟩;have a:=hI.CD O;obtain⟨v,hv,ho⟩:=a.box;have ak:=hv.cell)
   |(gi_at_builtin;refine wpListIn_append_own _ rfl _ _ 83 rfl w.heap.size 2 i0 _ 1 8 SV hi I M L rfl (by decide) _ _ _ rfl (ho.alloc _) ⟨W3.heap.size,0,none⟩ 1 1 [.int .i64 y] rfl rfl (cell_one_new _ _ _) (by simp[Value.oneCell']) (by unfold maxLen;omega) (by omega) (by have:=a.below.size;simp;omega) ?_;intro v' w1 hown' hgrow _;obtain⟨g',V,rfl⟩:=ownsRow_succ hown';obtain⟨Q,a6,ac,a5,ab⟩:=hv.appended (by decide) ho a.below.size (by omega) hown' hgrow;have al:=Q.cell;have an:=Q.frozen))
  have E:∀{b:Nat} {t:TypeId} {u:Value},Boxed W3 b t u→t≠2→b≠lb→Boxed (w1.setCell ⟨lb,0,none⟩ (.slice (some ⟨g',0,none⟩) (d.length+1) V)) b t u:=fun h ht hb=>((h.alloc _).kept hgrow (h.not_row ht ho)).other hb _
  have ae:=(Wz O).trans a5;obtain⟨u,hu⟩:=a.sb;have S:=E hu (by decide) (by omega);refine⟨ae.from _,S.trans ((O.block _ hI.sb.choose_spec.lt).symm.trans hu).symm,⟨⟨_,a6, ?_⟩,E a.pb (by decide) (by omega),E a.kb (by decide) (by omega),⟨u,S⟩,E a.r0 (by decide) (by omega),E a.r1 (by decide) (by omega),a.below.trans ab⟩⟩;rw[List.length_append,List.length_singleton,a9];unfold J8;rw[List.map_append];exact ac
 intro D W hD hI hD2;obtain⟨v,hv,ho⟩:=hI.box;rw[H,List.take_length]at ho;have hc:=hv.cell;obtain⟨A,c,rfl,aq⟩:=Jg ho;have T:=Zy ho;have aa:W.drew.cell? ⟨lb,0,none⟩=some (.slice A ns.length c):=hc;have a4:=hv.lt;have HV:=Qa hv;have HI:=Qa hI;have HO:=Qa ho;have HD:=Qa hD2;have am:=hI.below.size;have g0:=hI.r0.lt;have g1:=hI.r1.lt;have f0:W.drew.frozen? ⟨w.heap.size,0,none⟩=false:=hI.r0.free 0;have f1:W.drew.frozen? ⟨w.heap.size+1,0,none⟩=false:=hI.r1.free 0;have HW:=@Qa (Calls prog 123 #[.slice A ns.length c] W.drew fun e w'=>e=.returned (Qw (Qi ns))∧Below W.heap.size W.drew w') (XC (w:=W.drew) ns A c T hl hn ((ht.below (hI.below.mono nR)).below bR.drew));clear hv hI ho hD2 T hi I M L;obtain⟨bs,hbs⟩:∃bs:ByteArray,Qw (Qi ns)=.string bs:=⟨_,rfl⟩;rw[hbs]at HW ⊢;have ao:=Qa hbs;clear hbs
 gi_upto_region 8 with fail
 refine wpIn_wide.2 ?_;have q:lb≠w.heap.size:=by omega
 have p:lb≠w.heap.size+1:=by omega
 go_region_held3 (fun wy=>wy.cell? ⟨lb,0,none⟩=some (.slice A ns.length c))
  (first|exact aa|exact B4.o.cell|exact(B4.o.other q _).cell|exact(B4.o.other p _).cell|exact((B4.o.other q _).other p _).cell|exact((B4.o.other p _).other q _).cell)
  (first
  |(go_at_call 123;refine HW.o.mono ?_;rintro en w4 ⟨rfl,f⟩;(have i:=Qa f);(have B4:=@Qa (Boxed w4 lb 83 (.slice A ns.length c)) ((f.block _ a4).trans HV.o));(have z4:w4.frozen? ⟨w.heap.size,0,none⟩=false:=((HI.o.r0.drew).below f g0).free 0);(have z5:w4.frozen? ⟨w.heap.size+1,0,none⟩=false:=((HI.o.r1.drew).below f g1).free 0);(have y4:w4.cell? ⟨w.heap.size,0,none⟩=some (.slice none 0 0):=((HI.o.r0.drew).below f g0).cell 0);(have y5:w4.cell? ⟨w.heap.size+1,0,none⟩=some (.bool false):=((HI.o.r1.drew).below f g1).cell 0);(have x4:w.heap.size<w4.heap.size:=Nat.lt_of_lt_of_le g0 f.size);(have x5:w.heap.size+1<w4.heap.size:=Nat.lt_of_lt_of_le g1 f.size);clear f))
 gi_wp2
 refine⟨by simp,.inl ⟨_,_,rfl,run_takeDeferred (b:=D) (ds:=[]) ?_, ?_⟩⟩
 ·have N:D<W.heap.size:=(Array.getElem?_eq_some_iff.1 HD.o).1;have e4:w4.heap[D]? =some (.deferred (some [])):=(i.o.block D N).trans HD.o;exact(Below.heap_setCell _ _ _ D (by simp;omega)).trans ((Below.heap_setCell _ _ _ D (by simp;omega)).trans e4)
 have N:D<W.heap.size:=(Array.getElem?_eq_some_iff.1 HD.o).1;have m:=((HI.o.r0.drew).below i.o g0);have z:=((HI.o.r1.drew).below i.o g1);have R:=(m.set 0 (.slice A ns.length c)).Yq (b:=w.heap.size+1) (o:=0) (by omega) (.bool true);have a0:=(z.Yq (b:=w.heap.size) (o:=0) (by omega) (.slice A ns.length c)).set 0 (.bool true);obtain⟨X,hX⟩:=eX ((w4.setCell ⟨w.heap.size,0,none⟩ (.slice A ns.length c)).setCell ⟨w.heap.size+1,0,none⟩ (.bool true));rw[←hX]at R a0 ⊢;have p0:Qh (X.putObj D (.deferred none)) w.heap.size 83 #[.slice A ns.length c]:=(World.putObj_heap_other (by omega)).trans R;have p1:Qh (X.putObj D (.deferred none)) (w.heap.size+1) 4 #[.bool true]:=(World.putObj_heap_other (by omega)).trans a0;have q0:(X.putObj D (.deferred none)).cell? ⟨w.heap.size,0,none⟩=some (.slice A ns.length c):=p0.cell 0;have q1:(X.putObj D (.deferred none)).cell? ⟨w.heap.size+1,0,none⟩=some (.bool true):=p1.cell 0;have ad:Below w.heap.size W (X.putObj D (.deferred none)):=by
  have h1:Below w.heap.size W w4:=bR.drew.trans (i.o.mono (by omega));have h2:Below w.heap.size W X:=by rw[hX];exact Jo (Jo h1 nR _) (by omega) _
  exact h2.trans (Qg (grownBy_putObj' X D _) (by have:=h2.size;omega) (fun k e=>by injection e with e;omega))
 have a8:(X.putObj D (.deferred none)).ownsRow w.heap.size 2 1 (.slice A ns.length c) ns.length (J8 ns):=by
  have h1:w4.ownsRow w.heap.size 2 1 (.slice A ns.length c) ns.length (J8 ns):=QF (Og HO.o (UN (bR.drew)) (fun _ _=>by simp)) (ts:=[]) (Qd.Qe (base:=0) i.o (Nat.zero_le _)) (by simp);have h2:X.ownsRow w.heap.size 2 1 (.slice A ns.length c) ns.length (J8 ns):=by
   rw[hX];have n0:=Xl h1 m (by decide);have n1:=Xl h1 z (by decide);exact Og (Og h1 (grownBy_setCell' _ _ _) (fun g hg e=>n0 (by rw[hg,e]))) (grownBy_setCell' _ _ _) (fun g hg e=>n1 (by rw[hg,e]))
  have a2:X.heap[D]? =some (.deferred (some [])):=by
   rw[hX];exact(Below.heap_setCell _ _ _ D (by simp;omega)).trans ((Below.heap_setCell _ _ _ D (by simp;omega)).trans ((i.o.block D N).trans HD.o))
  exact ownsRow_putObj h2 _ a2 rfl
 refine⟨.tuple #[.slice A ns.length c,.bool true], ?_,A,c,rfl,Zy a8,HI.o.below.trans ad⟩;clear hX;simp only[results,results115];go_simp
end
end Go.Proofs.YtmgmfnimaafkdaaGreatDoor
