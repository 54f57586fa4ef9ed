/- The reference's Land. No condition. -/
import Derived.Test.YtoaiamgcegnjjaaGreatDoorY2
import Derived.Test.YtoaiamgcegnjjaaGreatDoorMM
import Derived.Deep.RegionLaw
import Derived.Deep.RegionHeld3
import Derived.Deep.AppendLies
import Derived.Deep.WholeRow
namespace Go.Proofs.YtoaiamgcegnjjaaGreatDoor
open Go.RowKit Go.Maps Go.WideMaps Go.Sort
set_option maxRecDepth 100000
attribute [local go_sem ↓] ld54_fold st54_fold st32_fold

theorem row_cells {w : World} {g : Nat} {r : RM} (h : Blk w g 54 r.row) :
    w.cell? ⟨g, 0, none⟩ = some (.int .i64 r.e.id) ∧ w.cell? ⟨g, 1, none⟩ = some (.string r.e.obj) ∧ w.cell? ⟨g, 2, none⟩ = some (.string r.e.M.t) ∧ w.cell? ⟨g, 3, none⟩ = some (.bool r.e.M.wk) ∧ w.cell? ⟨g, 4, none⟩ = some (.int .i64 r.e.M.mo) ∧ w.cell? ⟨g, 5, none⟩ = some (.int .i64 r.e.M.le) ∧ w.cell? ⟨g, 6, none⟩ = some (.int .i64 r.e.M.ha) ∧
    w.cell? ⟨g, 7, none⟩ = some (.int .i64 r.e.M.fr) ∧ w.cell? ⟨g, 8, none⟩ = some (.int .i64 r.e.M.wh) ∧ w.cell? ⟨g, 9, none⟩ = some (.int .i64 r.e.M.er) ∧ w.cell? ⟨g, 10, none⟩ = some (.slice r.kA r.kn r.kc) ∧ w.cell? ⟨g, 11, none⟩ = some (.string r.e.M.ten) ∧ w.cell? ⟨g, 12, none⟩ = some (.bool r.e.M.kp) := by
  refine ⟨?_, ?_, ?_, ?_, ?_, ?_, ?_, ?_, ?_, ?_, ?_, ?_, ?_⟩ <;> rw [h.cell] <;> rfl

theorem results_cell_two {P : Program} {fn : Func} {p q q2 : Tmp} {ty : TypeId} (h : fn.results = #[.cell p ty, .tmp q, .tmp q2]) (tmps : Array Value) (w : World) (g : Nat) (t : TypeId) (cs : Array Value) (fr : Nat × Nat) (d : TypeDesc)
    (hp : tmps.getD p undef = .pointer (some ⟨g, 0, none⟩)) (hg : w.heap[g]? = some (.cells cs t fr))
    (hu : P.underlying ty = some d) (hd : (match d with | .struct _ | .array _ _ => true | _ => false) = true) (hi : (P.info? ty).map (·.size) = some cs.size) :
    (results fn tmps).run P w = .ok (.tuple #[.agg cs, tmps.getD q undef, tmps.getD q2 undef]) w := by
  have hp' : tmps[p]?.getD undef = .pointer (some ⟨g, 0, none⟩) := by simpa using hp
  simp [results, h, hp', asAddr, run_loadVar_row w g t ty cs fr d hg hu hd hi]

/-- 'append' from a slice that reads as a list, at a step of a region that draws its order -/
theorem step_append_rd {P : Program} (w : World) {ops : Array Oper} {o : Oper} {a : Act} {K : Act → World → Prop} {Q : Exit → Act → World → Prop} {E : Prop} (hgd : o.guard = none) (s x : Operand) (t : TypeId)
    (ho : o.op = .call { callee := .builtin .append, args := #[s, x], argTypes := #[t, t] })
    (base : Nat) (e : TypeId) (i : TypeInfo) (z : Value) (size bytes : Nat) (ht : P.underlying t = some (.slice e)) (hi : P.info? e = some i) (hz : i.zero = some z)
    (hsize : i.size = size) (hby : i.bytes = bytes) (hzs : z.cells.size = size) (hsz : 0 < size)
    (v : Value) (n : Nat) (xs : List Value) (hs : a.eval s = v) (hown : w.ownsRow base e size v n xs)
    (A : Option Addr) (m c B : Nat) (news : List Value) (hx : a.eval x = .slice A m c) (hr : Rd w B size A m news) (h1 : ∀ u ∈ news, u.oneCell' = true)
    (h63 : n + m ≤ maxLen) (hbytes : (n + m) * bytes ≤ 140737488355328) (hbase : base ≤ w.heap.size)
    (h : ∀ A' c' w', w'.ownsRow base e size (.slice A' (n + m) c') (n + m) (xs ++ news) → w.grownBy w' v.ownBlock → n + m ≤ c' → K (a.put o.dst (.slice A' (n + m) c')) w') :
    if Region.wanted o (yielded ops a.tmps) = true then Oper.wp P o a w K Q else E := by
  have hw : Region.wanted o (yielded ops a.tmps) = true := by simp [Region.wanted, hgd]
  rw [if_pos hw]
  obtain ⟨A', c', w', hrun, h2, h3, h4, h5⟩ := run_append_rd (P := P) w base t o.type e i z size bytes ht hi hz hsize hby hzs hsz v n xs hown A m c B news hr h1 h63 hbytes hbase
  unfold Oper.wp execOp
  simp only [ho, resolve, invoke, builtin, Sem.run_bind, Sem.run_pure, Result.andThen_ok, List.map_toArray, List.map_cons, List.map_nil, hs, hx, hrun]
  exact h A' c' w' h2 h3 h4

/-- Land's boxes -/
structure LB (w wx : World) (vb : Array Value) (rep : Array Value) (ti mo ge : Int) : Prop where
  below : Below w.heap.size w wx
  tab : Blk wx w.heap.size 32 vb
  rep : Blk wx (w.heap.size + 1) 43 rep
  ask : Blk wx (w.heap.size + 1 + 1) 45 #[.int .i64 ti, .int .i64 mo, .int .i64 ge]
  res : Blk wx (w.heap.size + 1 + 1 + 1) 32 zero32
theorem LB.to {w wx wy : World} {vb rep : Array Value} {ti mo ge : Int} (h : LB w wx vb rep ti mo ge) (hb : Below wx.heap.size wx wy) : LB w wy vb rep ti mo ge :=
  ⟨h.below.trans (hb.mono h.below.size), h.tab.below hb h.tab.lt, h.rep.below hb h.rep.lt, h.ask.below hb h.ask.lt, h.res.below hb h.res.lt⟩

/-- what Land hands back -/
def landA (x : RTab) (obj : ByteArray) (M : MetaS) (age ti mo ge : Int) : RTab × Int × Bool := if landOK obj M age ti mo ge then landR x obj M age ti mo ge else (x, 0, false)

section
variable {w : World} {base m : Nat} {v : Array Value} {x : RTab} {LA NA : Option Addr} {ln lc nn nc : Nat} {rs : List RM}
set_option maxHeartbeats 8000000 in
theorem rland_any (h : RT w base m v x LA ln lc NA nn nc rs) (hB : base ≤ w.heap.size) (hm : m ≤ 9000) (hnx : 0 ≤ x.next ∧ x.next ≤ 2199023255552) (hsz : ∀ e ∈ x.L, e.M.Sz) (obj : ByteArray) (st : Int) (M : MetaS) (A : Option Addr) (n c : Nat) (sf sto age ti mo ge : Int) (hk : PR w base 1 A n (M.ks.map Value.string)) (hkn : M.ks.length ≤ 1000) (hnc : n ≤ c) (hM : M.Sz) :
    Calls Tryz.prog 54 #[.agg v, .string obj, .agg (replyC st M A n c sf sto age), .agg #[.int .i64 ti, .int .i64 mo, .int .i64 ge]] w fun e w' => ∃ v' LA' ln' lc' NA' nn' nc' rs', e = .returned (.tuple #[.agg v', .int .i64 (landA x obj M age ti mo ge).2.1, .bool (landA x obj M age ti mo ge).2.2]) ∧ RT w' base (m + 2) v' (landA x obj M age ti mo ge).1 LA' ln' lc' NA' nn' nc' rs' ∧ Below w.heap.size w w' := by
  obtain ⟨i0, hi0, hz0, hz1, hz2⟩ := info_parts info54
  have hlf := h.lfew
  have HL := Lib.hid h.len
  have HR := Lib.hid h
  have HZ := Lib.hid hsz
  have HK := Lib.hid hk
  have HM := Lib.hid hM
  have hv' := h.val
  subst hv'
  have hkl : n ≤ 9223372036854775807 := by have h1 := hk.1; rw [List.length_map] at h1; omega
  clear h hsz hk hM
  have hlb : LB w ((((w.alloc (.cells #[.slice LA ln lc, .slice NA nn nc, .int .i64 x.next] 32)).alloc (.cells (replyC st M A n c sf sto age) 43)).alloc (.cells #[.int .i64 ti, .int .i64 mo, .int .i64 ge] 45)).alloc (.cells zero32 32)) #[.slice LA ln lc, .slice NA nn nc, .int .i64 x.next] (replyC st M A n c sf sto age) ti mo ge := by
    refine ⟨((((Below.refl _ _).alloc (Nat.le_refl _) _).alloc (by simp) _).alloc (by simp; omega) _).alloc (by simp; omega) _, (((Blk.new w 32 _).alloc _).alloc _).alloc _, ((new2 w _ 43 _).alloc _).alloc _, ?_, ?_⟩
    · have := (new2 (w.alloc (.cells #[.slice LA ln lc, .slice NA nn nc, .int .i64 x.next] 32)) (.cells (replyC st M A n c sf sto age) 43) 45 #[.int .i64 ti, .int .i64 mo, .int .i64 ge]).alloc (.cells zero32 32)
      simpa using this
    · have := new2 ((w.alloc (.cells #[.slice LA ln lc, .slice NA nn nc, .int .i64 x.next] 32)).alloc (.cells (replyC st M A n c sf sto age) 43)) (.cells #[.int .i64 ti, .int .i64 mo, .int .i64 ge] 45) 32 zero32
      simpa using this
  go_enter Tryz.func54, Tryz.ntmps54
  go_upto_region 1 with fail
  generalize (((w.alloc (.cells #[.slice LA ln lc, .slice NA nn nc, .int .i64 x.next] 32)).alloc (.cells (replyC st M A n c sf sto age) 43)).alloc (.cells #[.int .i64 ti, .int .i64 mo, .int .i64 ge] 45)).alloc (.cells zero32 32) = w0 at *
  have HB := Lib.hid hlb
  clear hlb
  have H1 : Hid ((#[.slice LA ln lc, .slice NA nn nc, .int .i64 x.next] : Array Value).all (·.oneCell') = true) := by
    show (#[.slice LA ln lc, .slice NA nn nc, .int .i64 x.next] : Array Value).all (·.oneCell') = true
    simp [Value.oneCell']
  have HS : Hid (zero32.size = (#[.slice LA ln lc, .slice NA nn nc, .int .i64 x.next] : Array Value).size) := rfl
  go_cut [33] (fun s wx => s = .bool (!landOK obj M age ti mo ge) ∧ LB w wx #[.slice LA ln lc, .slice NA nn nc, .int .i64 x.next] (replyC st M A n c sf sto age) ti mo ge)
  case first =>
    obtain ⟨r1, r2, r3, r4, r5, r6, r7, r8, r9, r10, r11, r14⟩ := reply_cells HB.out.rep
    obtain ⟨a0, a1, a2⟩ := ask_cells HB.out.ask
    by_cases h1 : objOK obj = true
    case neg =>
      have h1 : objOK obj = false := by simpa using h1
      have H1 := Lib.hid h1
      clear h1
      go_wp2_with fail
      refine (robj_any _ _).mono ?_
      rintro e w' ⟨rfl, rfl⟩
      rw [H1.out]
      go_wp2_with fail
      go_meet
      exact ⟨by rw [landOK, H1.out]; rfl, HB.out⟩
    have H1 := Lib.hid h1
    clear h1
    go_wp2_with fail
    refine (robj_any _ _).mono ?_
    rintro e w' ⟨rfl, rfl⟩
    rw [H1.out]
    go_wp2_with fail
    refine (rright_any M.t M.wk M.mo M.le M.ha M.fr M.wh M.er A n c M.ten M.kp _ M.ks w.heap.size (HK.out.rd.below HB.out.below (Nat.le_refl _)) HB.out.below.size hkl HM.out.ks HM.out.t HM.out.ten).mono ?_
    rintro e w1 ⟨rfl, hb1⟩
    have hl2 := HB.out.to hb1
    clear HB hb1 r1 r2 r3 r4 r5 r6 r7 r8 r9 r10 r11 r14 a0 a1 a2
    have HB := Lib.hid hl2
    obtain ⟨r1, r2, r3, r4, r5, r6, r7, r8, r9, r10, r11, r14⟩ := reply_cells hl2.rep
    obtain ⟨a0, a1, a2⟩ := ask_cells hl2.ask
    clear hl2
    by_cases h2 : M.ok = true
    case neg =>
      have h2 : M.ok = false := by simpa using h2
      have H2 := Lib.hid h2
      rw [show metaOK M.t M.wk M.mo M.le M.ha M.fr M.wh M.er M.ks M.ten = false from h2]
      clear h2
      go_wp2_with fail
      go_meet
      exact ⟨by rw [landOK, H1.out, H2.out]; rfl, HB.out⟩
    have H2 := Lib.hid h2
    rw [show metaOK M.t M.wk M.mo M.le M.ha M.fr M.wh M.er M.ks M.ten = true from h2]
    clear h2
    by_cases h3 : tick0 age = true
    case neg =>
      have h3 : tick0 age = false := by simpa using h3
      have H3 := Lib.hid h3
      clear h3
      go_wp2_with fail
      refine (rnumber_any _ _).mono ?_
      rintro e w' ⟨rfl, rfl⟩
      rw [H3.out]
      go_wp2_with fail
      go_meet
      exact ⟨by rw [landOK, H1.out, H2.out, H3.out]; rfl, HB.out⟩
    have H3 := Lib.hid h3
    clear h3
    go_wp2_with fail
    refine (rnumber_any _ _).mono ?_
    rintro e w' ⟨rfl, rfl⟩
    rw [H3.out]
    go_wp2_with fail
    refine (rasked_any _ _ _ _).mono ?_
    rintro e w2 ⟨rfl, hb1⟩
    have hl2 := HB.out.to hb1
    clear HB hb1
    have HB := Lib.hid hl2
    clear hl2
    go_wp2_with fail
    go_meet
    exact ⟨by rw [landOK, H1.out, H2.out, H3.out]; rfl, HB.out⟩
  case rest =>
    obtain ⟨rfl, hb1⟩ := hcut
    clear HB
    have HB := Lib.hid hb1
    have hsz1 := hb1.res.lt
    clear hb1
    by_cases hok : landOK obj M age ti mo ge = true
    case neg =>
      have hok : landOK obj M age ti mo ge = false := by simpa using hok
      have HOK : Hid (landA x obj M age ti mo ge = (x, 0, false)) := by
        show landA x obj M age ti mo ge = _
        unfold landA
        rw [hok]
        rfl
      rw [hok]
      clear hok
      go_wp2_with (first
        | (refine wpList_load_row rfl 32 _ rfl w.heap.size rfl 32 #[.slice LA ln lc, .slice NA nn nc, .int .i64 x.next] (0, 0) _ HB.out.tab Tryz.underlying32 rfl size32 ?_)
        | (refine wpList_store_row rfl 32 _ _ rfl (w.heap.size + 1 + 1 + 1) #[.slice LA ln lc, .slice NA nn nc, .int .i64 x.next] rfl rfl 32 _ HB.out.res size32 HS.out H1.out ?_))
      rw [HOK.out]
      have hb9 := HB.out.below.trans (grown_below (setRow_gby wc (w.heap.size + 1 + 1 + 1) #[.slice LA ln lc, .slice NA nn nc, .int .i64 x.next]) (by omega) (fun k hk => by injection hk with hk; omega))
      exact bodyPost_ret (v := .tuple #[.agg #[.slice LA ln lc, .slice NA nn nc, .int .i64 x.next], .int .i64 0, .bool false]) (results_cell_two Tryz.results54 _ _ (w.heap.size + 1 + 1 + 1) 32 _ (0, 0) _ rfl (setRow_blk HB.out.res _) Tryz.underlying32 rfl size32) rfl ⟨_, LA, ln, lc, NA, nn, nc, rs, rfl, { HR.out.below hb9 hB with lfew := by omega, nfew := by have := HR.out.nfew; omega }, hb9⟩
    have HOK : Hid (landA x obj M age ti mo ge = landR x obj M age ti mo ge) := by
      show landA x obj M age ti mo ge = _
      unfold landA
      rw [hok]
      rfl
    rw [hok]
    clear hok
    obtain ⟨r1, r2, r3, r4, r5, r6, r7, r8, r9, r10, r11, r14⟩ := reply_cells HB.out.rep
    obtain ⟨a0, a1, a2⟩ := ask_cells HB.out.ask
    have af := HB.out.ask.free'
    go_upto_region 4 with (go_at_call 118; refine (rsaid_any _ _ _).mono ?_; rintro e w' ⟨rfl, rfl⟩)
    have hlb : LB w (wc.setCell ⟨w.heap.size + 1 + 1, 0, none⟩ (.int .i64 (saidOf ti age))) #[.slice LA ln lc, .slice NA nn nc, .int .i64 x.next] (replyC st M A n c sf sto age) (saidOf ti age) mo ge :=
      ⟨below_set HB.out.below (by omega) _, HB.out.tab.far (by omega) _, HB.out.rep.far (by omega) _, HB.out.ask.set 0 _, HB.out.res.far (by omega) _⟩
    generalize hsd : saidOf ti age = sd at *
    have HSD := Lib.hid hsd
    generalize wc.setCell ⟨w.heap.size + 1 + 1, 0, none⟩ (.int .i64 sd) = w5 at *
    clear HB r1 r2 r3 r4 r5 r6 r7 r8 r9 r10 r11 r14 a0 a1 a2 af hsd hsz1
    have HB5 := Lib.hid hlb
    have hsz5 := hlb.res.lt
    clear hlb
    go_wp2_with fail
    go_loopw [11] (fun i wr => ∃ k : Nat, k ≤ ln ∧ i = .int .i64 k ∧ (∀ j (hj : j < x.L.length), j < k → matchR obj M x.L[j] = false) ∧ Below w5.heap.size w5 wr) (fun i _ => ln - (intOf i).toNat)
    case atStart => exact ⟨0, Nat.zero_le _, rfl, fun j _ h => absurd h (by omega), Below.refl _ _⟩
    case round =>
      obtain ⟨k, hk, rfl, hno, hbr⟩ := hrel
      have HNO := Lib.hid hno
      have hlr := HB5.out.to hbr
      have HBr := Lib.hid hlr
      have HBR := Lib.hid hbr
      have hszr := hbr.size
      have c0 : wr.cell? ⟨w.heap.size, 0, none⟩ = some (.slice LA ln lc) := (hlr.tab.cell 0).trans rfl
      clear hno hbr hlr
      by_cases hlt : k < ln
      · obtain ⟨b, o, rfl, hbl, h1, h2, he, er, hok⟩ := (HR.out.below HBr.out.below hB).at_ hlt
        have HEE := Lib.hid he
        have ER := Lib.hid er
        have HROK := Lib.hid hok
        have HSZ : Hid (rs[k].e.M.Sz) := by
          show rs[k].e.M.Sz
          rw [HEE.out]
          exact HZ.out _ (List.getElem_mem _)
        clear he er hok
        generalize hrr : rs[k] = r at *
        have HRR := Lib.hid hrr
        clear hrr
        have l7 : (ld54 (.pointer (some ⟨b, o + k * 18, none⟩))).run Tryz.prog wr = .ok (.agg r.row) wr := run_ld54 ER.out
        have s7 : (st54 (.pointer (some ⟨wr.heap.size, 0, none⟩)) (.agg r.row)).run Tryz.prog (wr.alloc (.cells zero54 54)) = .ok () (wr.alloc (.cells r.row 54)) := by
          rw [run_st54 (Blk.new wr 54 zero54) rfl, World.setRow_alloc_new]
        go_upto_region 8 with fail
        clear l7 s7
        have hbx : Below wr.heap.size wr (wr.alloc (.cells r.row 54)) := (Below.refl _ _).alloc (Nat.le_refl _) _
        have hbk : Blk (wr.alloc (.cells r.row 54)) wr.heap.size 54 r.row := Blk.new _ _ _
        generalize wr.alloc (.cells r.row 54) = wx at *
        have HBX := Lib.hid hbx
        have HBK := Lib.hid hbk
        have HBx := Lib.hid (HBr.out.to hbx)
        have hszx := hbk.lt
        clear hbx hbk c0
        go_cut [72] (fun z wy => z = .bool (!matchR obj M r.e) ∧ Below wx.heap.size wx wy)
        case first =>
          obtain ⟨e0, e1, e2, e3, e4, e5, e6, e7, e8, e9, e10, e11, e12⟩ := row_cells HBK.out
          obtain ⟨r1, r2, r3, r4, r5, r6, r7, r8, r9, r10, r11, r14⟩ := reply_cells HBx.out.rep
          by_cases hob : (r.e.obj.toList == obj.toList) = true
          case neg =>
            have hob : (r.e.obj.toList == obj.toList) = false := by simpa using hob
            have hne : (r.e.obj.toList != obj.toList) = true := by rw [bne, hob]; rfl
            have HMT : Hid (matchR obj M r.e = false) := by
              show matchR obj M r.e = false
              unfold matchR
              rw [bytes_beq] at hob
              rw [hob]
              rfl
            go_wp2_with fail
            go_meet
            exact ⟨by rw [HMT.out]; rfl, Below.refl _ _⟩
          have hne : (r.e.obj.toList != obj.toList) = false := by rw [bne, hob]; rfl
          have HMT : Hid (matchR obj M r.e = ((tagOK r.e.M.t && !r.e.M.wk) && strongB r.e.M.t r.e.M.wk M.t M.wk)) := by
            show matchR obj M r.e = _
            unfold matchR
            rw [bytes_beq] at hob
            rw [hob]
            rfl
          have heq : r.e.obj.toList = obj.toList := eq_of_beq hob
          go_wp2_with fail
          refine (rjoins_any r.e.M.t r.e.M.wk r.e.M.mo r.e.M.le r.e.M.ha r.e.M.fr r.e.M.wh r.e.M.er r.kA r.kn r.kc r.e.M.ten r.e.M.kp wx).mono ?_
          rintro en w6 ⟨rfl, hb6⟩
          have HB6 := Lib.hid hb6
          obtain ⟨-, -, f2, f3, -⟩ := row_cells (HBK.out.below hb6 HBK.out.lt)
          obtain ⟨s1, s2, -⟩ := reply_cells (HBx.out.to hb6).rep
          clear hb6 e0 e1 e2 e3 e4 e5 e6 e7 e8 e9 e10 e11 e12 r1 r2 r3 r4 r5 r6 r7 r8 r9 r10 r11 r14
          cases hj : (tagOK r.e.M.t && !r.e.M.wk) with
          | false =>
            have HJ := Lib.hid hj
            clear hj
            go_wp2_with fail
            go_meet
            exact ⟨by rw [HMT.out, HJ.out]; rfl, HB6.out⟩
          | true =>
            have HJ := Lib.hid hj
            clear hj
            go_wp2_with fail
            refine (rstrong_any r.e.M.t r.e.M.wk M.t M.wk w6).mono ?_
            rintro en w7 ⟨rfl, hb7⟩
            have HB7 := Lib.hid (HB6.out.trans (hb7.mono HB6.out.size))
            clear hb7
            go_wp2_with fail
            go_meet
            exact ⟨by rw [HMT.out, HJ.out]; rfl, HB7.out⟩
        case rest =>
          obtain ⟨rfl, hb8⟩ := hcut
          have HB8 := Lib.hid hb8
          have HB28 := Lib.hid (HBX.out.trans (hb8.mono HBX.out.size))
          have HBK8 := Lib.hid (HBK.out.below hb8 HBK.out.lt)
          have HBx8 := Lib.hid (HBx.out.to hb8)
          have hs8 := hb8.size
          clear hb8
          generalize wc = w8 at *
          cases hmt : matchR obj M r.e with
          | false =>
            have HMT := Lib.hid hmt
            clear hmt
            go_wp2_with fail
            go_roundw
            case rel =>
              refine ⟨k + 1, by omega, by go_num, fun j hj hjk => ?_, ?_⟩
              · by_cases hjk' : j < k
                · exact HNO.out j hj hjk'
                · obtain rfl : j = k := by omega
                  rw [← HEE.out]
                  exact HMT.out
              · exact HBR.out.trans (HB28.out.mono hszr)
            case measure => simp [intOf]; omega
          | true =>
            have HMT := Lib.hid hmt
            clear hmt
            have hra : w8.rangeAt wr.heap.size 2 r.metaV.toList := HBK8.out.range 2 _ (fun j v hj => by
              have hlt : j < 11 := (List.getElem?_eq_some_iff.1 hj).1
              match j, hlt with
              | 0, _ => exact hj
              | 1, _ => exact hj
              | 2, _ => exact hj
              | 3, _ => exact hj
              | 4, _ => exact hj
              | 5, _ => exact hj
              | 6, _ => exact hj
              | 7, _ => exact hj
              | 8, _ => exact hj
              | 9, _ => exact hj
              | 10, _ => exact hj)
            have hrb : ∀ wy, Blk wy (w.heap.size + 1) 43 (replyC st M A n c sf sto age) → wy.rangeAt (w.heap.size + 1) 1 (metaC M.t M.wk M.mo M.le M.ha M.fr M.wh M.er A n c M.ten M.kp).toList := fun wy hbk => hbk.range 1 _ (fun j v hj => by
              have hlt : j < 11 := (List.getElem?_eq_some_iff.1 hj).1
              match j, hlt with
              | 0, _ => exact hj
              | 1, _ => exact hj
              | 2, _ => exact hj
              | 3, _ => exact hj
              | 4, _ => exact hj
              | 5, _ => exact hj
              | 6, _ => exact hj
              | 7, _ => exact hj
              | 8, _ => exact hj
              | 9, _ => exact hj
              | 10, _ => exact hj)
            have HRA := Lib.hid hra
            have HRBF := Lib.hid hrb
            have HRB := Lib.hid (hrb w8 HBx8.out.rep)
            have CF : Hid (Calls Tryz.prog 120 #[.agg r.metaV, .agg (metaC M.t M.wk M.mo M.le M.ha M.fr M.wh M.er A n c M.ten M.kp)] w8 fun e w' => e = .returned (.bool (r.e.M.follows M)) ∧ Below w8.heap.size w8 w') := by
              have hok5 := HROK.out.keeps (Keeps.of_below HB28.out (by have := HBr.out.below.size; omega))
              have hk5 : Strs w8 w8.heap.size r.kA r.kn r.e.M.ks := hok5.keys.rd
              have hkl5 : r.kn ≤ 9223372036854775807 := by have h1 := hok5.keys.1; have h2 := hok5.few; rw [List.length_map] at h1; omega
              have hk6 : Strs w8 w8.heap.size A n M.ks := HK.out.rd.below HBx8.out.below HBx8.out.below.size
              exact rfollows_any r.e.M.t r.e.M.wk r.e.M.mo r.e.M.le r.e.M.ha r.e.M.fr r.e.M.wh r.e.M.er r.kA r.kn r.kc r.e.M.ten r.e.M.kp r.e.M.ks M.t M.wk M.mo M.le M.ha M.fr M.wh M.er A n c M.ten M.kp M.ks w8 hk5 hk6 hkl5 hkl HSZ.out.ks HSZ.out.t HSZ.out.ten HM.out.ks HM.out.t HM.out.ten
            clear hra hrb
            go_wp2_with (first
              | (refine wpList_load_mid rfl 39 _ rfl wr.heap.size 2 rfl r.metaV.toList _ HRA.out Tryz.underlying39 rfl size39 ?_; rw [show r.metaV.toList.toArray = r.metaV from rfl])
              | (refine wpList_load_mid rfl 39 _ rfl (w.heap.size + 1) 1 rfl (metaC M.t M.wk M.mo M.le M.ha M.fr M.wh M.er A n c M.ten M.kp).toList _ HRB.out Tryz.underlying39 rfl size39 ?_; rw [show (metaC M.t M.wk M.mo M.le M.ha M.fr M.wh M.er A n c M.ten M.kp).toList.toArray = metaC M.t M.wk M.mo M.le M.ha M.fr M.wh M.er A n c M.ten M.kp from rfl]))
            refine CF.out.mono ?_
            rintro en w9 ⟨rfl, hb9⟩
            have HB9 := Lib.hid hb9
            have HB29 := Lib.hid (HB28.out.trans (hb9.mono HB28.out.size))
            have HBK9 := Lib.hid (HBK8.out.below hb9 HBK8.out.lt)
            have HBx9 := Lib.hid (HBx8.out.to hb9)
            have HRB9 := Lib.hid (HRBF.out w9 HBx9.out.rep)
            have hs9 := hb9.size
            clear hb9 CF HRA HRB HRBF
            go_upto_if 77 with fail
            have hbs := HBr.out.below.size
            go_cut [77] (fun _ wy => ∃ r2 : RM, Blk wy wr.heap.size 54 r2.row ∧ r2.e = r.e.follow M ∧ r2.Ok wy base ∧ Below wr.heap.size wr wy)
            case first =>
              have hok9 := HROK.out.keeps (Keeps.of_below HB29.out (by omega))
              have HOK9 := Lib.hid hok9
              clear hok9
              cases hfo : r.e.M.follows M with
              | false =>
                have HFO : Hid (r.e = r.e.follow M) := by show r.e = r.e.follow M; unfold RE.follow; rw [hfo]; rfl
                clear hfo
                go_wp2_with fail
                go_meet
                exact ⟨r, HBK9.out, HFO.out, HOK9.out, HB29.out⟩
              | true =>
                have HFO : Hid ({ r.e with M := M } = r.e.follow M) := by show { r.e with M := M } = r.e.follow M; unfold RE.follow; rw [hfo]; rfl
                have H39 : Hid ((metaC M.t M.wk M.mo M.le M.ha M.fr M.wh M.er A n c M.ten M.kp).all (·.oneCell') = true) := metaC_one _ _ _ _ _ _ _ _ _ _ _ _ _
                have hth : w9.there wr.heap.size 2 (metaC M.t M.wk M.mo M.le M.ha M.fr M.wh M.er A n c M.ten M.kp).size := HBK9.out.there 2 11 (by show 2 + 11 ≤ 18; omega)
                have HTH := Lib.hid hth
                clear hth hfo
                go_wp2_with (first
                  | (refine wpList_load_mid rfl 39 _ rfl (w.heap.size + 1) 1 rfl (metaC M.t M.wk M.mo M.le M.ha M.fr M.wh M.er A n c M.ten M.kp).toList _ HRB9.out Tryz.underlying39 rfl size39 ?_; rw [show (metaC M.t M.wk M.mo M.le M.ha M.fr M.wh M.er A n c M.ten M.kp).toList.toArray = metaC M.t M.wk M.mo M.le M.ha M.fr M.wh M.er A n c M.ten M.kp from rfl])
                  | (refine wpList_store_mid rfl 39 _ _ rfl wr.heap.size 2 (metaC M.t M.wk M.mo M.le M.ha M.fr M.wh M.er A n c M.ten M.kp) rfl rfl HTH.out size39 H39.out ?_))
                go_meet
                have hgw : w9.grownBy (w9.setCells wr.heap.size 2 (metaC M.t M.wk M.mo M.le M.ha M.fr M.wh M.er A n c M.ten M.kp).toList) (some wr.heap.size) := gby_setCells _ _ (gby_refl _ _)
                have hb10 : Below wr.heap.size wr (w9.setCells wr.heap.size 2 (metaC M.t M.wk M.mo M.le M.ha M.fr M.wh M.er A n c M.ten M.kp).toList) := HB29.out.trans (grown_below hgw HB29.out.size (fun k hk => by injection hk with hk; omega))
                have h := HBK9.out.sets (metaC M.t M.wk M.mo M.le M.ha M.fr M.wh M.er A n c M.ten M.kp).toList 2
                rw [row_meta r M A n c] at h
                have hok10 := HROK.out.keeps (Keeps.of_below hb10 (by omega))
                exact ⟨{ r with e := { r.e with M := M }, kA := A, kn := n, kc := c }, h, HFO.out, ⟨(HK.out.below HBr.out.below hB).below hb10 (by omega), hnc, hkn, hok10.has, hok10.hc, hok10.spans⟩, hb10⟩
            case rest =>
              obtain ⟨r2, hbk, he2, hok2, hb210⟩ := hcut
              have HBK2 := Lib.hid hbk
              have HE2 := Lib.hid he2
              have HOK2 := Lib.hid hok2
              have HBr10 := Lib.hid (HBr.out.to hb210)
              have hs10 := hbk.lt
              clear hbk he2 hok2 hb210 HBK9 HBx9 HRB9 HB29 HB9 HBK8 HBx8 HB8 HB28 HBK HBx
              generalize wc = w10 at *
              have sk : ∀ wy, Below w10.heap.size w10 wy → wy.cell? ⟨w.heap.size, 0, none⟩ = some (.slice (some ⟨b, o, none⟩) ln lc) ∧ wy.cell? ⟨w.heap.size, 1, none⟩ = some (.slice NA nn nc) ∧ wy.cell? ⟨w.heap.size, 2, none⟩ = some (.int .i64 x.next) ∧ wy.cell? ⟨w.heap.size + 1 + 1, 0, none⟩ = some (.int .i64 sd) ∧ wy.cell? ⟨w.heap.size + 1 + 1, 1, none⟩ = some (.int .i64 mo) ∧ wy.cell? ⟨w.heap.size + 1 + 1, 2, none⟩ = some (.int .i64 ge) ∧ wy.cell? ⟨wr.heap.size, 0, none⟩ = some (.int .i64 r2.e.id) ∧ (ld54 (.pointer (some ⟨wr.heap.size, 0, none⟩))).run Tryz.prog wy = .ok (.agg r2.row) wy := fun wy hb => by
                have h1 := HBr10.out.to hb
                have h2 := HBK2.out.below hb HBK2.out.lt
                exact ⟨(h1.tab.cell 0).trans rfl, (h1.tab.cell 1).trans rfl, (h1.tab.cell 2).trans rfl, (h1.ask.cell 0).trans rfl, (h1.ask.cell 1).trans rfl, (h1.ask.cell 2).trans rfl, (h2.cell 0).trans rfl, run_ld54b h2⟩
              have SK := Lib.hid sk
              clear sk
              have sr : ∀ wy (v : Array Value), Below w10.heap.size w10 wy → v.size = 3 ∧ v.all (·.oneCell') = true → (st32 (.pointer (some ⟨w.heap.size + 1 + 1 + 1, 0, none⟩)) (.agg v)).run Tryz.prog wy = .ok () (wy.setRow (w.heap.size + 1 + 1 + 1) v) ∧ Blk (wy.setRow (w.heap.size + 1 + 1 + 1) v) (w.heap.size + 1 + 1 + 1) 32 v ∧ Below w.heap.size w (wy.setRow (w.heap.size + 1 + 1 + 1) v) := fun wy v hb hv => by
                have h1 := HBr10.out.to hb
                exact ⟨run_st32 h1.res rfl hv.1 hv.2, setRow_blk h1.res _, h1.below.trans (grown_below (setRow_gby wy (w.heap.size + 1 + 1 + 1) v) h1.below.size (fun k hk => by injection hk with hk; omega))⟩
              have SR := Lib.hid sr
              clear sr
              have sq : ∀ wy (v : Array Value), Below w10.heap.size w10 wy → (wy.setRow (w.heap.size + 1 + 1 + 1) v).cell? ⟨w.heap.size, 0, none⟩ = some (.slice (some ⟨b, o, none⟩) ln lc) ∧ (wy.setRow (w.heap.size + 1 + 1 + 1) v).cell? ⟨w.heap.size, 1, none⟩ = some (.slice NA nn nc) ∧ (wy.setRow (w.heap.size + 1 + 1 + 1) v).cell? ⟨w.heap.size, 2, none⟩ = some (.int .i64 x.next) ∧ (wy.setRow (w.heap.size + 1 + 1 + 1) v).cell? ⟨w.heap.size + 1 + 1, 0, none⟩ = some (.int .i64 sd) ∧ (wy.setRow (w.heap.size + 1 + 1 + 1) v).cell? ⟨w.heap.size + 1 + 1, 1, none⟩ = some (.int .i64 mo) ∧ (wy.setRow (w.heap.size + 1 + 1 + 1) v).cell? ⟨w.heap.size + 1 + 1, 2, none⟩ = some (.int .i64 ge) ∧ (wy.setRow (w.heap.size + 1 + 1 + 1) v).cell? ⟨wr.heap.size, 0, none⟩ = some (.int .i64 r2.e.id) ∧ (ld54 (.pointer (some ⟨wr.heap.size, 0, none⟩))).run Tryz.prog (wy.setRow (w.heap.size + 1 + 1 + 1) v) = .ok (.agg r2.row) (wy.setRow (w.heap.size + 1 + 1 + 1) v) := fun wy v hb => by
                have h1 := HBr10.out.to hb
                have hg := setRow_gby wy (w.heap.size + 1 + 1 + 1) v
                have h2 := (HBK2.out.below hb HBK2.out.lt).grown hg (fun e => by injection e with e; omega)
                have h3 := h1.tab.grown hg (fun e => by injection e with e; omega)
                have h4 := h1.ask.grown hg (fun e => by injection e with e; omega)
                exact ⟨(h3.cell 0).trans rfl, (h3.cell 1).trans rfl, (h3.cell 2).trans rfl, (h4.cell 0).trans rfl, (h4.cell 1).trans rfl, (h4.cell 2).trans rfl, (h2.cell 0).trans rfl, run_ld54b h2⟩
              have SQ := Lib.hid sq
              clear sq
              generalize hr3 : ({ r2 with e := anewR r2.e sd mo ge } : RM) = r3
              have HR3 := Lib.hid hr3
              clear hr3
              have CAN : Hid (∀ w', Calls Tryz.prog 122 #[.agg r2.row, .agg #[.int .i64 sd, .int .i64 mo, .int .i64 ge]] w' fun e w'' => e = .returned (.agg r3.row) ∧ Below w'.heap.size w' w'') := by
                show ∀ w', Calls Tryz.prog 122 #[.agg r2.row, .agg #[.int .i64 sd, .int .i64 mo, .int .i64 ge]] w' fun e w'' => e = .returned (.agg r3.row) ∧ Below w'.heap.size w' w''
                intro w'
                rw [← HR3.out]
                exact ranew_any r2 sd mo ge w'
              have OK3 : Hid (∀ wy, Below w10.heap.size w10 wy → r3.Ok wy base) := by
                show ∀ wy, Below w10.heap.size w10 wy → r3.Ok wy base
                intro wy hb
                have h := HOK2.out.keeps (Keeps.of_below hb (by omega))
                rw [← HR3.out]
                exact ⟨by rw [anewR_M]; exact h.keys, h.kc, by rw [anewR_M]; exact h.few, by rw [anewR_has]; exact h.has, h.hc, by rw [anewR_has]; exact h.spans⟩
              have CW : Hid (∀ wy, Below w10.heap.size w10 wy → Calls Tryz.prog 121 #[.agg #[.slice (some ⟨b, o, none⟩) ln lc, .slice NA nn nc, .int .i64 x.next], .int .i64 k, .agg r3.row] wy fun e w' => ∃ v' LA' lc', e = .returned (.agg v') ∧ RT w' base m v' { x with L := x.L.set k r3.e } LA' ln lc' NA nn nc (rs.set k r3) ∧ Below wy.heap.size wy w') := by
                show ∀ wy, Below w10.heap.size w10 wy → _
                intro wy hb
                have h1 := HBr10.out.to hb
                exact rwith_any (HR.out.below h1.below hB) (by have := h1.below.size; omega) (by omega) k hlt r3 (OK3.out wy hb)
              go_upto_region 11 with fail
              go_cut [9, 10] (fun p q wy => p = .int .i64 r2.e.id ∧ q = .bool false ∧ ∃ v' LA' ln' lc' NA' nn' nc' rs', RT wy base (m + 1) v' (takenR { x with L := x.L.set k r3.e } obj r2.e.id mo) LA' ln' lc' NA' nn' nc' rs' ∧ Blk wy (w.heap.size + 1 + 1 + 1) 32 v' ∧ Below w.heap.size w wy)
              case first =>
                go_region_held3 (fun wy => wy.cell? ⟨w.heap.size, 0, none⟩ = some (.slice (some ⟨b, o, none⟩) ln lc) ∧ wy.cell? ⟨w.heap.size, 1, none⟩ = some (.slice NA nn nc) ∧ wy.cell? ⟨w.heap.size, 2, none⟩ = some (.int .i64 x.next) ∧ wy.cell? ⟨w.heap.size + 1 + 1, 0, none⟩ = some (.int .i64 sd) ∧ wy.cell? ⟨w.heap.size + 1 + 1, 1, none⟩ = some (.int .i64 mo) ∧ wy.cell? ⟨w.heap.size + 1 + 1, 2, none⟩ = some (.int .i64 ge) ∧ wy.cell? ⟨wr.heap.size, 0, none⟩ = some (.int .i64 r2.e.id) ∧ (ld54 (.pointer (some ⟨wr.heap.size, 0, none⟩))).run Tryz.prog wy = .ok (.agg r2.row) wy)
                  (first
                    | exact SQ.out _ _ HB13.out
                    | exact SK.out _ HB13.out
                    | exact SK.out _ HB12.out
                    | exact SK.out _ HB11.out
                    | exact SK.out _ (Below.refl _ _)
                    | exact SK.out _ (Below.refl _ _).drew)
                  (first
                    | (go_at_call 122; refine (CAN.out _).mono ?_; rintro en w11 ⟨rfl, hb11⟩; (have HB11 : Hid (Below w10.heap.size w10 w11) := (Below.refl w10.heap.size w10).drew.trans hb11); clear hb11)
                    | (go_at_call 121; refine (CW.out _ HB11.out).mono ?_; rintro en w12 ⟨v12, LA12, lc12, rfl, hr12, hb12⟩; (have HB12 : Hid (Below w10.heap.size w10 w12) := HB11.out.trans (hb12.mono HB11.out.size)); (have HR12 := Lib.hid hr12); clear hb12 hr12)
                    | (go_at_call 53; refine (rtaken_any HR12.out (by have := HB12.out.size; omega) (by omega) obj r2.e.id mo).mono ?_; rintro en w13 ⟨v13, LA13, lc13, NA13, nn13, nc13, rs13, rfl, hr13, hb13⟩; (have HB13 : Hid (Below w10.heap.size w10 w13) := HB12.out.trans (hb13.mono HB12.out.size)); (have HR13 := Lib.hid hr13); (have HS13 := Lib.hid (SR.out w13 v13 HB13.out hr13.shape)); (have st13 := HS13.out.1); (have KP13 := Lib.hid (hr13.put32 (HBr10.out.to HB13.out).res v13)); clear hb13 hr13))
                all_goals
                  go_wp2_with fail
                  go_meet
                all_goals exact ⟨rfl, rfl, v13, LA13, _, lc13, NA13, nn13, nc13, rs13, KP13.out, HS13.out.2.1, HS13.out.2.2⟩
              case rest =>
                obtain ⟨rfl, rfl, v', LA', ln', lc', NA', nn', nc', rs', hr9, hk9, hb9⟩ := hcut
                go_wp2_with fail
                have hfi : x.L.findIdx? (matchR obj M) = some k := by
                  rw [List.findIdx?_eq_some_iff_getElem]
                  refine ⟨h2, by rw [← HEE.out]; exact HMT.out, fun j hj => ?_⟩
                  rw [HNO.out j (by omega) hj]
                  simp
                have hid : r2.e.id = r.e.id := by
                  rw [HE2.out]
                  unfold RE.follow
                  split <;> rfl
                have e : landA x obj M age ti mo ge = (takenR { x with L := x.L.set k r3.e } obj r2.e.id mo, r2.e.id, false) := by
                  rw [HOK.out]
                  unfold landR
                  rw [hfi]
                  simp only [List.getElem?_eq_getElem h2, ← HEE.out]
                  rw [HSD.out, ← HR3.out, HE2.out, ← HE2.out, hid]
                rw [e]
                exact bodyPost_ret (v := .tuple #[.agg v', .int .i64 r2.e.id, .bool false]) (results_cell_two Tryz.results54 _ _ (w.heap.size + 1 + 1 + 1) 32 _ (0, 0) _ rfl hk9 Tryz.underlying32 rfl (by rw [hr9.shape.1]; exact size32)) rfl ⟨v', LA', ln', lc', NA', nn', nc', rs', rfl, { hr9 with lfew := by have := hr9.lfew; omega, nfew := by have := hr9.nfew; omega }, hb9⟩
      · obtain rfl : k = ln := by omega
        have hfi : x.L.findIdx? (matchR obj M) = none := by
          rw [List.findIdx?_eq_none_iff]
          intro e he
          obtain ⟨j, hj, rfl⟩ := List.mem_iff_getElem.1 he
          exact HNO.out j hj (by have := HL.out; omega)
        have HFI := Lib.hid hfi
        clear hfi
        have hrb : wr.rangeAt (w.heap.size + 1) 1 (metaC M.t M.wk M.mo M.le M.ha M.fr M.wh M.er A n c M.ten M.kp).toList := HBr.out.rep.range 1 _ (fun j v hj => by
          have hlt : j < 11 := (List.getElem?_eq_some_iff.1 hj).1
          match j, hlt with
          | 0, _ => exact hj
          | 1, _ => exact hj
          | 2, _ => exact hj
          | 3, _ => exact hj
          | 4, _ => exact hj
          | 5, _ => exact hj
          | 6, _ => exact hj
          | 7, _ => exact hj
          | 8, _ => exact hj
          | 9, _ => exact hj
          | 10, _ => exact hj)
        have HRB := Lib.hid hrb
        obtain ⟨a0, a1, a2⟩ := ask_cells HBr.out.ask
        have c2 : wr.cell? ⟨w.heap.size, 2, none⟩ = some (.int .i64 x.next) := (HBr.out.tab.cell 2).trans rfl
        generalize hrN : ({ e := newR x.next obj M sd mo ge, kA := A, kn := n, kc := c, hA := none, hn := 0, hc := 0 } : RM) = rN
        have HRN := Lib.hid hrN
        have s7 : (st54 (.pointer (some ⟨wr.heap.size, 0, none⟩)) (.agg #[.int .i64 x.next, .string obj, .string M.t, .bool M.wk, .int .i64 M.mo, .int .i64 M.le, .int .i64 M.ha, .int .i64 M.fr, .int .i64 M.wh, .int .i64 M.er, .slice A n c, .string M.ten, .bool M.kp, .int .i64 sd, .int .i64 mo, .int .i64 ge, .bool false, .slice none 0 0])).run Tryz.prog (wr.alloc (.cells zero54 54)) = .ok () (wr.alloc (.cells rN.row 54)) := by
          have h : (st54 (.pointer (some ⟨wr.heap.size, 0, none⟩)) (.agg rN.row)).run Tryz.prog (wr.alloc (.cells zero54 54)) = .ok () (wr.alloc (.cells rN.row 54)) := by
            rw [run_st54 (Blk.new wr 54 zero54) rfl, World.setRow_alloc_new]
          rw [← hrN] at h ⊢
          exact h
        clear hrb hrN
        go_upto_region 13 with (refine wpList_load_mid rfl 39 _ rfl (w.heap.size + 1) 1 rfl (metaC M.t M.wk M.mo M.le M.ha M.fr M.wh M.er A n c M.ten M.kp).toList _ HRB.out Tryz.underlying39 rfl size39 ?_; rw [show (metaC M.t M.wk M.mo M.le M.ha M.fr M.wh M.er A n c M.ten M.kp).toList.toArray = metaC M.t M.wk M.mo M.le M.ha M.fr M.wh M.er A n c M.ten M.kp from rfl])
        have hbq : Below wr.heap.size wr (wr.alloc (.cells rN.row 54)) := (Below.refl _ _).alloc (Nat.le_refl _) _
        have hkq : Blk (wr.alloc (.cells rN.row 54)) wr.heap.size 54 rN.row := Blk.new _ _ _
        generalize wr.alloc (.cells rN.row 54) = wq at *
        have HBq := Lib.hid (HBr.out.to hbq)
        have HKq := Lib.hid hkq
        have hsq := hkq.lt
        have HBQ := Lib.hid hbq
        clear hbq hkq HRB a0 a1 a2 c2 c0
        have c0 : wq.cell? ⟨w.heap.size, 0, none⟩ = some (.slice LA k lc) := (HBq.out.tab.cell 0).trans rfl
        have hq1 : w.heap.size < wq.heap.size := HBq.out.tab.lt
        have hfz : ∀ i, wq.frozen? ⟨w.heap.size, i, none⟩ = false := HBq.out.tab.free'
        have sk : ∀ wy, Below wq.heap.size wq wy → (ld54 (.pointer (some ⟨wr.heap.size, 0, none⟩))).run Tryz.prog wy = .ok (.agg rN.row) wy ∧ Rd wy wy.heap.size 18 LA k (rs.flatMap RM.cells) ∧ wy.cell? ⟨w.heap.size, 0, none⟩ = some (.slice LA k lc) ∧ (∀ i, wy.frozen? ⟨w.heap.size, i, none⟩ = false) := fun wy hb => by
          have h1 := HBq.out.to hb
          exact ⟨run_ld54b (HKq.out.below hb HKq.out.lt), (HR.out.below h1.below hB).rows.rd, (h1.tab.cell 0).trans rfl, h1.tab.free'⟩
        have SK := Lib.hid sk
        have hln : k ≤ m := hlf
        have s1 : ∀ wy, Below wq.heap.size wq wy → ∀ v : Value, (ld54 (.pointer (some ⟨wr.heap.size, 0, none⟩))).run Tryz.prog (wy.setCell ⟨w.heap.size, 0, none⟩ v) = .ok (.agg rN.row) (wy.setCell ⟨w.heap.size, 0, none⟩ v) := fun wy hb v => run_ld54b ((HKq.out.below hb HKq.out.lt).far (by omega) v)
        have S1 := Lib.hid s1
        -- the three orders of the two rows
        have B1 : Hid (Below wq.heap.size wq (wq.alloc (.cells #[] 54)).drew) := ((Below.refl _ _).alloc (Nat.le_refl _) _).drew
        have B2 : Hid (Below wq.heap.size wq ((wq.alloc (.cells #[] 54)).alloc (.cells rN.row 54)).drew) := (((Below.refl _ _).alloc (Nat.le_refl _) _).alloc (by simp) _).drew
        have B3 : Hid (Below wq.heap.size wq ((wq.alloc (.cells rN.row 54)).alloc (.cells #[] 54)).drew) := (((Below.refl _ _).alloc (Nat.le_refl _) _).alloc (by simp) _).drew
        have O1 : Hid ((wq.alloc (.cells #[] 54)).drew.ownsRow wq.heap.size 54 18 (.slice (some ⟨wq.heap.size, 0, none⟩) 0 0) 0 []) := by
          have := World.ownsRow_made (base := wq.heap.size) (e := 54) (size := 18) wq #[] 0 (by simp) (by unfold maxLen; omega) (by simp)
          exact (by simpa using this : (wq.alloc (.cells #[] 54)).ownsRow wq.heap.size 54 18 (.slice (some ⟨wq.heap.size, 0, none⟩) 0 0) 0 []).drew
        have O3 : Hid (((wq.alloc (.cells rN.row 54)).alloc (.cells #[] 54)).drew.ownsRow wq.heap.size 54 18 (.slice (some ⟨wq.heap.size + 1, 0, none⟩) 0 0) 0 []) := by
          have := World.ownsRow_made (base := wq.heap.size) (e := 54) (size := 18) (wq.alloc (.cells rN.row 54)) #[] 0 (by simp) (by unfold maxLen; omega) (by simp)
          exact (by simpa using this : ((wq.alloc (.cells rN.row 54)).alloc (.cells #[] 54)).ownsRow wq.heap.size 54 18 (.slice (some ⟨wq.heap.size + 1, 0, none⟩) 0 0) 0 []).drew
        have O2 : Hid (((wq.alloc (.cells #[] 54)).alloc (.cells rN.row 54)).drew.ownsRow wq.heap.size 54 18 (.slice (some ⟨wq.heap.size, 0, none⟩) 0 0) 0 []) := by
          have := World.ownsRow_made (base := wq.heap.size) (e := 54) (size := 18) wq #[] 0 (by simp) (by unfold maxLen; omega) (by simp)
          exact ((by simpa using this : (wq.alloc (.cells #[] 54)).ownsRow wq.heap.size 54 18 (.slice (some ⟨wq.heap.size, 0, none⟩) 0 0) 0 []).alloc _).drew
        clear sk s1
        go_cut [] (fun wy => ∃ A2 c2, k + 1 ≤ c2 ∧ Blk wy w.heap.size 32 #[.slice A2 (k + 1) c2, .slice NA nn nc, .int .i64 x.next] ∧ Blk wy (w.heap.size + 1 + 1) 45 #[.int .i64 sd, .int .i64 mo, .int .i64 ge] ∧ Blk wy (w.heap.size + 1 + 1 + 1) 32 zero32 ∧ Blk wy wr.heap.size 54 rN.row ∧ wy.ownsRow wq.heap.size 54 18 (.slice A2 (k + 1) c2) (k + 1) ((rs ++ [rN]).flatMap RM.cells) ∧ Below w.heap.size w wy)
        case first =>
          have fin : ∀ (w14 : World) (A2 : Option Addr) (c2 : Nat), w14.ownsRow wq.heap.size 54 18 (.slice A2 (k + 1) c2) (k + 1) (rs.flatMap RM.cells ++ rN.row.toList) → Below wq.heap.size wq w14 → k + 1 ≤ c2 → ∃ A2' c2', k + 1 ≤ c2' ∧ Blk (w14.setCell ⟨w.heap.size, 0, none⟩ (.slice A2 (k + 1) c2)) w.heap.size 32 #[.slice A2' (k + 1) c2', .slice NA nn nc, .int .i64 x.next] ∧ Blk (w14.setCell ⟨w.heap.size, 0, none⟩ (.slice A2 (k + 1) c2)) (w.heap.size + 1 + 1) 45 #[.int .i64 sd, .int .i64 mo, .int .i64 ge] ∧ Blk (w14.setCell ⟨w.heap.size, 0, none⟩ (.slice A2 (k + 1) c2)) (w.heap.size + 1 + 1 + 1) 32 zero32 ∧ Blk (w14.setCell ⟨w.heap.size, 0, none⟩ (.slice A2 (k + 1) c2)) wr.heap.size 54 rN.row ∧ (w14.setCell ⟨w.heap.size, 0, none⟩ (.slice A2 (k + 1) c2)).ownsRow wq.heap.size 54 18 (.slice A2' (k + 1) c2') (k + 1) ((rs ++ [rN]).flatMap RM.cells) ∧ Below w.heap.size w (w14.setCell ⟨w.heap.size, 0, none⟩ (.slice A2 (k + 1) c2)) := fun w14 A2 c2 ho hb hc => by
            have h1 := HBq.out.to hb
            refine ⟨A2, c2, hc, h1.tab.set 0 _, h1.ask.far (by omega) _, h1.res.far (by omega) _, (HKq.out.below hb HKq.out.lt).far (by omega) _, ?_, below_set h1.below (Nat.le_refl _) _⟩
            have := own_set ho (b := w.heap.size) (o := 0) (by omega) (.slice A2 (k + 1) c2)
            rw [List.flatMap_append]
            simpa [RM.cells] using this
          have FIN := Lib.hid fin
          clear fin
          have e0 := (SK.out _ (Below.refl _ _).drew).1
          have e1 := (SK.out _ B1.out).1
          go_region_law (first
              | ((fail_if_success (have hZ := A1)); (refine step_append_rd _ (by rfl) _ _ _ (by rfl) wq.heap.size 54 i0 (.agg zero54) 18 200 under29 hi0 hz0 hz1 hz2 rfl (by decide) (.slice (some ⟨wq.heap.size, 0, none⟩) 0 0) 0 [] (by rfl) O1.out LA k lc _ _ (by rfl) (SK.out _ B1.out).2.1 (oneCell_rows rs) (by unfold maxLen; omega) (by omega) B1.out.size ?_; intro A1 c1 w13 hown1 hgrow1 hnc1; simp only [Nat.zero_add, List.nil_append] at hown1 hnc1 ⊢; have HB13 : Hid (Below wq.heap.size wq w13) := B1.out.trans (grown_below hgrow1 B1.out.size (fun k hk => (O1.out.lt k hk).1)); have HO13 := Lib.hid hown1; (obtain ⟨e13, -, c13, f13⟩ := SK.out w13 HB13.out); clear hown1 hgrow1))
              | ((fail_if_success (have hZ := A1)); (refine step_append_rd _ (by rfl) _ _ _ (by rfl) wq.heap.size 54 i0 (.agg zero54) 18 200 under29 hi0 hz0 hz1 hz2 rfl (by decide) (.slice (some ⟨wq.heap.size, 0, none⟩) 0 0) 0 [] (by rfl) O2.out LA k lc _ _ (by rfl) (SK.out _ B2.out).2.1 (oneCell_rows rs) (by unfold maxLen; omega) (by omega) B2.out.size ?_; intro A1 c1 w13 hown1 hgrow1 hnc1; simp only [Nat.zero_add, List.nil_append] at hown1 hnc1 ⊢; have HB13 : Hid (Below wq.heap.size wq w13) := B2.out.trans (grown_below hgrow1 B2.out.size (fun k hk => (O2.out.lt k hk).1)); have HO13 := Lib.hid hown1; (obtain ⟨e13, -, c13, f13⟩ := SK.out w13 HB13.out); have KE : Hid (Blk w13 (wq.heap.size + 1) 54 rN.row) := (new2 wq (.cells #[] 54) 54 rN.row).drew.grown hgrow1 (by simp [Value.ownBlock]); clear hown1 hgrow1))
              | ((fail_if_success (have hZ := A1)); (refine step_append_rd _ (by rfl) _ _ _ (by rfl) wq.heap.size 54 i0 (.agg zero54) 18 200 under29 hi0 hz0 hz1 hz2 rfl (by decide) (.slice (some ⟨wq.heap.size + 1, 0, none⟩) 0 0) 0 [] (by rfl) O3.out LA k lc _ _ (by rfl) (SK.out _ B3.out).2.1 (oneCell_rows rs) (by unfold maxLen; omega) (by omega) B3.out.size ?_; intro A1 c1 w13 hown1 hgrow1 hnc1; simp only [Nat.zero_add, List.nil_append] at hown1 hnc1 ⊢; have HB13 : Hid (Below wq.heap.size wq w13) := B3.out.trans (grown_below hgrow1 B3.out.size (fun k hk => (O3.out.lt k hk).1)); have HO13 := Lib.hid hown1; (obtain ⟨e13, -, c13, f13⟩ := SK.out w13 HB13.out); have KE : Hid (Blk w13 wq.heap.size 54 rN.row) := ((Blk.new wq 54 rN.row).alloc (.cells #[] 54)).drew.grown hgrow1 (by simp [Value.ownBlock]); clear hown1 hgrow1))
              | ((fail_if_success (have hZ := KE)); (refine step_append_rd _ (by rfl) _ _ _ (by rfl) wq.heap.size 54 i0 (.agg zero54) 18 200 under29 hi0 hz0 hz1 hz2 rfl (by decide) (.slice A1 k c1) k (rs.flatMap RM.cells) (by rfl) (HO13.out.alloc _) (some ⟨w13.heap.size, 0, none⟩) 1 1 _ rN.row.toList (by rfl) (Blk.new w13 54 rN.row).rd (by simpa [RM.cells] using oneCell_rows [rN]) (by unfold maxLen; omega) (by omega) (HB13.out.alloc HB13.out.size (.cells rN.row 54)).size ?_; intro A2 c2 w14 hown2 hgrow2 hnc2; have HB14 : Hid (Below wq.heap.size wq w14) := (HB13.out.alloc HB13.out.size (.cells rN.row 54)).trans (grown_below hgrow2 (HB13.out.alloc HB13.out.size (.cells rN.row 54)).size (fun k hk => (HO13.out.lt k hk).1)); have HF14 := Lib.hid (FIN.out w14 A2 c2 hown2 HB14.out hnc2); (obtain ⟨-, -, c14, f14⟩ := SK.out w14 HB14.out); clear hown2 hgrow2))
              | ((refine step_append_rd _ (by rfl) _ _ _ (by rfl) wq.heap.size 54 i0 (.agg zero54) 18 200 under29 hi0 hz0 hz1 hz2 rfl (by decide) (.slice A1 k c1) k (rs.flatMap RM.cells) (by rfl) HO13.out (some ⟨wq.heap.size, 0, none⟩) 1 1 _ rN.row.toList (by rfl) KE.out.rd (by simpa [RM.cells] using oneCell_rows [rN]) (by unfold maxLen; omega) (by omega) HB13.out.size ?_; intro A2 c2 w14 hown2 hgrow2 hnc2; have HB14 : Hid (Below wq.heap.size wq w14) := HB13.out.trans (grown_below hgrow2 HB13.out.size (fun k hk => (HO13.out.lt k hk).1)); have HF14 := Lib.hid (FIN.out w14 A2 c2 hown2 HB14.out hnc2); (obtain ⟨-, -, c14, f14⟩ := SK.out w14 HB14.out); clear hown2 hgrow2))
              | ((refine step_append_rd _ (by rfl) _ _ _ (by rfl) wq.heap.size 54 i0 (.agg zero54) 18 200 under29 hi0 hz0 hz1 hz2 rfl (by decide) (.slice A1 k c1) k (rs.flatMap RM.cells) (by rfl) HO13.out (some ⟨wq.heap.size + 1, 0, none⟩) 1 1 _ rN.row.toList (by rfl) KE.out.rd (by simpa [RM.cells] using oneCell_rows [rN]) (by unfold maxLen; omega) (by omega) HB13.out.size ?_; intro A2 c2 w14 hown2 hgrow2 hnc2; have HB14 : Hid (Below wq.heap.size wq w14) := HB13.out.trans (grown_below hgrow2 HB13.out.size (fun k hk => (HO13.out.lt k hk).1)); have HF14 := Lib.hid (FIN.out w14 A2 c2 hown2 HB14.out hnc2); (obtain ⟨-, -, c14, f14⟩ := SK.out w14 HB14.out); clear hown2 hgrow2)))
          all_goals
            go_wp2_with fail
            go_meet
          all_goals exact HF14.out
        case rest =>
          obtain ⟨A2, c2, hc2, k0, k1, k2, k3, ho, hb9⟩ := hcut
          have hs9 := k3.lt
          have K0 := Lib.hid k0
          have K1 := Lib.hid k1
          have K2 := Lib.hid k2
          have K3 := Lib.hid k3
          have HO := Lib.hid ho
          have HB9 := Lib.hid hb9
          have t2 : wc.cell? ⟨w.heap.size, 2, none⟩ = some (.int .i64 x.next) := (k0.cell 2).trans rfl
          have tf := k0.free'
          have hn1 := hnx.1
          have hn2 := hnx.2
          clear k0 k1 k2 k3 ho hb9 c0 hfz
          go_upto_region 15 with fail
          have k0 := K0.out.set 2 (.int .i64 (x.next + 1))
          have k1 := K1.out.far (b := w.heap.size) (o := 2) (by omega) (.int .i64 (x.next + 1))
          have k2 := K2.out.far (b := w.heap.size) (o := 2) (by omega) (.int .i64 (x.next + 1))
          have k3 := K3.out.far (b := w.heap.size) (o := 2) (by omega) (.int .i64 (x.next + 1))
          have ho := own_set HO.out (b := w.heap.size) (o := 2) (by omega) (.int .i64 (x.next + 1))
          have hb10 := below_set HB9.out (b := w.heap.size) (o := 2) (Nat.le_refl _) (.int .i64 (x.next + 1))
          generalize wc.setCell ⟨w.heap.size, 2, none⟩ (.int .i64 (x.next + 1)) = w10 at *
          have hrt : RT w10 base (m + 1) #[.slice A2 (k + 1) c2, .slice NA nn nc, .int .i64 (x.next + 1)] { x with L := x.L ++ [newR x.next obj M sd mo ge], next := x.next + 1 } A2 (k + 1) c2 NA nn nc (rs ++ [rN]) := by
            have hh := HR.out.below hb10 hB
            refine { val := rfl, ents := ?_, rows := PR.of_own ho (by decide) (by decide) (by decide) (by decide), ok := fun r hr => ?_, news := hh.news, lcap := hc2, ncap := hh.ncap, lfew := by omega, nfew := by have := hh.nfew; omega }
            · rw [List.map_append, hh.ents, ← HRN.out]
              rfl
            · rw [List.mem_append, List.mem_singleton] at hr
              rcases hr with hr | rfl
              · exact hh.ok r hr
              · rw [← HRN.out]
                exact ⟨HK.out.below hb10 hB, hnc, hkn, PR.nil, Nat.le_refl _, Nat.zero_le _⟩
          have HRT := Lib.hid hrt
          have KK0 : Hid (Blk w10 w.heap.size 32 #[.slice A2 (k + 1) c2, .slice NA nn nc, .int .i64 (x.next + 1)]) := k0
          have KK1 := Lib.hid k1
          have KK2 := Lib.hid k2
          have KK3 : Hid (Blk w10 wr.heap.size 54 rN.row) := k3
          have HB10 := Lib.hid hb10
          have hs10 := k3.lt
          have hrid : rN.e.id = x.next := by rw [← HRN.out]; rfl
          have HRID := Lib.hid hrid
          clear k0 k1 k2 k3 ho hb10 hrt K0 K1 K2 K3 HO HB9 t2 tf hrid
          have sk : ∀ wy, Below w10.heap.size w10 wy → wy.cell? ⟨w.heap.size, 0, none⟩ = some (.slice A2 (k + 1) c2) ∧ wy.cell? ⟨w.heap.size, 1, none⟩ = some (.slice NA nn nc) ∧ wy.cell? ⟨w.heap.size, 2, none⟩ = some (.int .i64 (x.next + 1)) ∧ wy.cell? ⟨w.heap.size + 1 + 1, 1, none⟩ = some (.int .i64 mo) ∧ wy.cell? ⟨wr.heap.size, 0, none⟩ = some (.int .i64 rN.e.id) := fun wy hb => by
            have h1 := KK0.out.below hb KK0.out.lt
            have h2 := KK1.out.below hb KK1.out.lt
            have h3 := KK3.out.below hb KK3.out.lt
            exact ⟨(h1.cell 0).trans rfl, (h1.cell 1).trans rfl, (h1.cell 2).trans rfl, (h2.cell 1).trans rfl, (h3.cell 0).trans rfl⟩
          have SK := Lib.hid sk
          clear sk
          have sr : ∀ wy (v : Array Value), Below w10.heap.size w10 wy → v.size = 3 ∧ v.all (·.oneCell') = true → (st32 (.pointer (some ⟨w.heap.size + 1 + 1 + 1, 0, none⟩)) (.agg v)).run Tryz.prog wy = .ok () (wy.setRow (w.heap.size + 1 + 1 + 1) v) ∧ Blk (wy.setRow (w.heap.size + 1 + 1 + 1) v) (w.heap.size + 1 + 1 + 1) 32 v ∧ Below w.heap.size w (wy.setRow (w.heap.size + 1 + 1 + 1) v) := fun wy v hb hv => by
            have h1 := KK2.out.below hb KK2.out.lt
            have h2 := HB10.out.trans (hb.mono HB10.out.size)
            exact ⟨run_st32 h1 rfl hv.1 hv.2, setRow_blk h1 _, h2.trans (grown_below (setRow_gby wy (w.heap.size + 1 + 1 + 1) v) h2.size (fun k hk => by injection hk with hk; omega))⟩
          have SR := Lib.hid sr
          clear sr
          have sq : ∀ wy (v : Array Value), Below w10.heap.size w10 wy → (wy.setRow (w.heap.size + 1 + 1 + 1) v).cell? ⟨w.heap.size, 0, none⟩ = some (.slice A2 (k + 1) c2) ∧ (wy.setRow (w.heap.size + 1 + 1 + 1) v).cell? ⟨w.heap.size, 1, none⟩ = some (.slice NA nn nc) ∧ (wy.setRow (w.heap.size + 1 + 1 + 1) v).cell? ⟨w.heap.size, 2, none⟩ = some (.int .i64 (x.next + 1)) ∧ (wy.setRow (w.heap.size + 1 + 1 + 1) v).cell? ⟨w.heap.size + 1 + 1, 1, none⟩ = some (.int .i64 mo) ∧ (wy.setRow (w.heap.size + 1 + 1 + 1) v).cell? ⟨wr.heap.size, 0, none⟩ = some (.int .i64 rN.e.id) := fun wy v hb => by
            have hg := setRow_gby wy (w.heap.size + 1 + 1 + 1) v
            have h1 := (KK0.out.below hb KK0.out.lt).grown hg (fun e => by injection e with e; omega)
            have h2 := (KK1.out.below hb KK1.out.lt).grown hg (fun e => by injection e with e; omega)
            have h3 := (KK3.out.below hb KK3.out.lt).grown hg (fun e => by injection e with e; omega)
            exact ⟨(h1.cell 0).trans rfl, (h1.cell 1).trans rfl, (h1.cell 2).trans rfl, (h2.cell 1).trans rfl, (h3.cell 0).trans rfl⟩
          have SQ := Lib.hid sq
          clear sq
          go_cut [9, 10] (fun p q wy => p = .int .i64 rN.e.id ∧ q = .bool true ∧ ∃ v' LA' ln' lc' NA' nn' nc' rs', RT wy base (m + 2) v' (takenR { x with L := x.L ++ [newR x.next obj M sd mo ge], next := x.next + 1 } obj rN.e.id mo) LA' ln' lc' NA' nn' nc' rs' ∧ Blk wy (w.heap.size + 1 + 1 + 1) 32 v' ∧ Below w.heap.size w wy)
          case first =>
            go_region_held3 (fun wy => wy.cell? ⟨w.heap.size, 0, none⟩ = some (.slice A2 (k + 1) c2) ∧ wy.cell? ⟨w.heap.size, 1, none⟩ = some (.slice NA nn nc) ∧ wy.cell? ⟨w.heap.size, 2, none⟩ = some (.int .i64 (x.next + 1)) ∧ wy.cell? ⟨w.heap.size + 1 + 1, 1, none⟩ = some (.int .i64 mo) ∧ wy.cell? ⟨wr.heap.size, 0, none⟩ = some (.int .i64 rN.e.id))
              (first
                | exact SQ.out _ _ HB13.out
                | exact SK.out _ HB13.out
                | exact SK.out _ (Below.refl _ _)
                | exact SK.out _ (Below.refl _ _).drew)
              (first
                | (go_at_call 53; refine (rtaken_any (HRT.out.below (Below.refl w10.heap.size w10).drew (by have := HB10.out.size; omega)) (by have := HB10.out.size; show base ≤ w10.heap.size; omega) (by omega) obj rN.e.id mo).mono ?_; rintro en w13 ⟨v13, LA13, lc13, NA13, nn13, nc13, rs13, rfl, hr13, hb13⟩; (have HB13 : Hid (Below w10.heap.size w10 w13) := (Below.refl w10.heap.size w10).drew.trans hb13); (have HR13 := Lib.hid hr13); (have HS13 := Lib.hid (SR.out w13 v13 HB13.out hr13.shape)); (have st13 := HS13.out.1); (have KP13 := Lib.hid (hr13.put32 (KK2.out.below HB13.out KK2.out.lt) v13)); clear hb13 hr13))
            all_goals
              go_wp2_with fail
              go_meet
            all_goals exact ⟨rfl, rfl, v13, LA13, _, lc13, NA13, nn13, nc13, rs13, KP13.out, HS13.out.2.1, HS13.out.2.2⟩
          case rest =>
            obtain ⟨rfl, rfl, v', LA', ln', lc', NA', nn', nc', rs', hr9, hk9, hb9⟩ := hcut
            go_wp2_with fail
            have e : landA x obj M age ti mo ge = (takenR { x with L := x.L ++ [newR x.next obj M sd mo ge], next := x.next + 1 } obj rN.e.id mo, rN.e.id, true) := by
              rw [HOK.out]
              unfold landR
              rw [HFI.out]
              simp only
              rw [HSD.out, HRID.out]
            rw [e]
            exact bodyPost_ret (v := .tuple #[.agg v', .int .i64 rN.e.id, .bool true]) (results_cell_two Tryz.results54 _ _ (w.heap.size + 1 + 1 + 1) 32 _ (0, 0) _ rfl hk9 Tryz.underlying32 rfl (by rw [hr9.shape.1]; exact size32)) rfl ⟨v', LA', ln', lc', NA', nn', nc', rs', rfl, hr9, hb9⟩
end
end Go.Proofs.YtoaiamgcegnjjaaGreatDoor
