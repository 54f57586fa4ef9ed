/- The reference's taken. No condition. -/
import Derived.Test.YtoaiamgcegnjjaaGreatDoorMF
namespace Go.Proofs.YtoaiamgcegnjjaaGreatDoor
open Go.RowKit Go.Maps Go.WideMaps Go.Sort
set_option maxRecDepth 100000

theorem wpList_one {P : Program} {ops : Array Oper} {rest : List Oper} {o : Oper} {a : Act} {w : World} {Q : Exit → Act → World → Prop} (hg : o.guard = none) (t e : TypeId) (x : Operand) (ho : o.op = .buildSlice t 1 #[(0, x)])
    (N : Nat) (hN : w.heap.size = N) (dst : Option Tmp) (hdst : o.dst = dst) (hu : P.underlying t = some (.slice e)) (v : Value) (hv : a.eval x = v) (cells : Array Value)
    (hf : P.builtSlice e 1 [(0, v)] = some cells)
    (h : wpList P ops Q rest (a.put dst (.slice (some ⟨N, 0, none⟩) 1 1)) (w.alloc (.cells cells e))) : wpList P ops Q (o :: rest) a w :=
  Go.Great.wpList_buildSliceTo hg t e 1 _ ho N hN dst hdst hu cells (by simpa [hv] using hf) h

theorem Blk.rd {w : World} {g : Nat} {t : TypeId} {cs : Array Value} (h : Blk w g t cs) : Rd w w.heap.size cs.size (some ⟨g, 0, none⟩) 1 cs.toList := by
  refine ⟨by simp, fun _ => ⟨g, 0, rfl, h.lt, fun j hj => ?_⟩⟩
  rw [Nat.zero_add, h.cell, Array.getElem?_eq_getElem (by simpa using hj)]
  simp

def notOf (s : ByteArray) (p : ByteArray × Int) : Bool := !decide (p.1 = s)
def updL (s : ByteArray) (id : Int) (e : RE) : RE := if e.obj = s then { e with last := e.id == id } else e
def updM (s : ByteArray) (id : Int) (r : RM) : RM := if r.e.obj = s then { r with e := { r.e with last := r.e.id == id } } else r
theorem updM_e (s : ByteArray) (id : Int) (r : RM) : (updM s id r).e = updL s id r.e := by unfold updM updL; split <;> rfl
theorem updM_ok {w : World} {base : Nat} {r : RM} (h : r.Ok w base) (s : ByteArray) (id : Int) : (updM s id r).Ok w base := by
  unfold updM
  split
  · exact ⟨h.keys, h.kc, h.few, h.has, h.hc, h.spans⟩
  · exact h
def laterB (o : Option Int) (mo : Int) : Bool := o.isSome && decide (mo < o.getD 0)
def takenR (x : RTab) (s : ByteArray) (id mo : Int) : RTab :=
  if laterB (newestR x.N s) mo then x else { x with N := x.N.filter (notOf s) ++ [(s, mo)], L := x.L.map (updL s id) }

theorem info194 : (Tryz.prog.info? 194).map (fun i => (i.zero, i.size, i.bytes)) = some (some (.agg #[.string ⟨#[]⟩, .int .i64 0]), 2, 24) := by kernel_rfl
theorem built194 (s : ByteArray) (n : Int) : Tryz.prog.builtSlice 194 1 [(0, .agg #[.string s, .int .i64 n])] = some #[.string s, .int .i64 n] := by kernel_rfl
theorem built54 (r : RM) : Tryz.prog.builtSlice 54 1 [(0, .agg r.row)] = some r.row := by kernel_rfl
theorem under29 : Tryz.prog.underlying 29 = some (.slice 54) := Tryz.underlying29
theorem under30 : Tryz.prog.underlying 30 = some (.slice 194) := Tryz.underlying30
theorem cells_toArray (r : RM) : r.cells.toArray = r.row := rfl
theorem row_last {s : ByteArray} {id : Int} {r : RM} (h : r.e.obj = s) : r.row.setIfInBounds 16 (.bool (r.e.id == id)) = (updM s id r).row := by
  unfold updM
  rw [if_pos h]
  simp
theorem row_same {s : ByteArray} {id : Int} {r : RM} (h : ¬ r.e.obj = s) : updM s id r = r := by
  unfold updM
  rw [if_neg h]
abbrev zero32 : Array Value := #[.slice none 0 0, .slice none 0 0, .int .i64 0]

/-- the first loop's state -/
structure TkN (w wr : World) (vb : Array Value) (N : List (ByteArray × Int)) (s : ByteArray) (k : Nat) (A : Option Addr) (c : Nat) : Prop where
  cap : ((N.take k).filter (notOf s)).length ≤ c
  own : wr.ownsRow (w.heap.size + 2) 194 2 (.slice A ((N.take k).filter (notOf s)).length c) ((N.take k).filter (notOf s)).length (((N.take k).filter (notOf s)).flatMap nwCells)
  below : Below w.heap.size w wr
  box : Blk wr w.heap.size 32 vb
  res : Blk wr (w.heap.size + 1) 32 zero32
/-- the second loop's state -/
structure TkL (w wr : World) (vb : Array Value) (rs : List RM) (s : ByteArray) (id : Int) (k : Nat) (A : Option Addr) (c : Nat) (NA : Option Addr) (N' : List (ByteArray × Int)) (nc' : Nat) : Prop where
  cap : k ≤ c
  own : wr.ownsRow (w.heap.size + 2) 54 18 (.slice A k c) k (((rs.take k).map (updM s id)).flatMap RM.cells)
  below : Below w.heap.size w wr
  box : Blk wr w.heap.size 32 vb
  res : Blk wr (w.heap.size + 1) 32 zero32
  nown : wr.ownsRow (w.heap.size + 2) 194 2 (.slice NA N'.length nc') N'.length (N'.flatMap nwCells)

section
variable {w : World} {base m : Nat} {v : Array Value} {x : RTab} {LA NA : Option Addr} {ln lc nn nc : Nat} {rs : List RM}
set_option maxHeartbeats 1000000 in
theorem rtaken_any (h : RT w base m v x LA ln lc NA nn nc rs) (hB : base ≤ w.heap.size) (hm : m ≤ 10000) (s : ByteArray) (id mo : Int) :
    Calls Tryz.prog 53 #[.agg v, .string s, .int .i64 id, .int .i64 mo] w fun e w' => ∃ v' LA' lc' NA' nn' nc' rs', e = .returned (.agg v') ∧ RT w' base (m + 1) v' (takenR x s id mo) LA' ln lc' NA' nn' nc' rs' ∧ Below w.heap.size w w' := by
  obtain ⟨i1, hi1, hz10, hz11, hz12⟩ := info_parts info194
  obtain ⟨i0, hi0, hz0, hz1, hz2⟩ := info_parts info54
  have hlf := h.lfew
  have hnf := h.nfew
  have HL := Lib.hid h.len
  have HR := Lib.hid h
  have hv := h.val
  subst hv
  clear h
  have hb0 : Below w.heap.size w ((w.alloc (.cells #[.slice LA ln lc, .slice NA nn nc, .int .i64 x.next] 32)).alloc (.cells zero32 32)) := ((Below.refl _ _).alloc (Nat.le_refl _) _).alloc (by simp) _
  have k0 : Blk ((w.alloc (.cells #[.slice LA ln lc, .slice NA nn nc, .int .i64 x.next] 32)).alloc (.cells zero32 32)) w.heap.size 32 #[.slice LA ln lc, .slice NA nn nc, .int .i64 x.next] := (Blk.new w 32 _).alloc _
  have k1 : Blk ((w.alloc (.cells #[.slice LA ln lc, .slice NA nn nc, .int .i64 x.next] 32)).alloc (.cells zero32 32)) (w.heap.size + 1) 32 zero32 := new2 w _ 32 _
  go_enter Tryz.func53, Tryz.ntmps53
  go_upto_region 1 with fail
  generalize (w.alloc (.cells #[.slice LA ln lc, .slice NA nn nc, .int .i64 x.next] 32)).alloc (.cells zero32 32) = w1 at *
  have K0 := Lib.hid k0
  have K1 := Lib.hid k1
  have HB0 := Lib.hid hb0
  clear k0 k1 hb0
  go_wp2_with (refine wpList_load_row rfl 32 _ rfl w.heap.size rfl 32 #[.slice LA ln lc, .slice NA nn nc, .int .i64 x.next] (0, 0) _ K0.out Tryz.underlying32 rfl size32 ?_)
  refine (rnewest_any (HR.out.below HB0.out hB) (by omega) s).mono ?_
  rintro en w2 ⟨rfl, hb2⟩
  have hb2' := HB0.out.trans (hb2.mono HB0.out.size)
  have k0 := K0.out.below hb2 K0.out.lt
  have k1 := K1.out.below hb2 K1.out.lt
  clear K0 K1 HB0 hb2
  have K0 := Lib.hid k0
  have K1 := Lib.hid k1
  have HB2 := Lib.hid hb2'
  obtain ⟨d0, d1, d2⟩ : w2.cell? ⟨w.heap.size, 0, none⟩ = some (.slice LA ln lc) ∧ w2.cell? ⟨w.heap.size, 1, none⟩ = some (.slice NA nn nc) ∧ w2.cell? ⟨w.heap.size, 2, none⟩ = some (.int .i64 x.next) := ⟨(k0.cell 0).trans rfl, (k0.cell 1).trans rfl, (k0.cell 2).trans rfl⟩
  have hsz := k1.lt
  clear k0 k1 hb2'
  generalize hno : newestR x.N s = o
  have HNO := Lib.hid hno
  clear hno
  go_upto_region 2 with fail
  go_cut [27] (fun c wx => c = .bool (laterB o mo) ∧ wx = w2)
  case first =>
    rcases o with _ | n
    · go_wp2_with fail
      go_meet
      exact ⟨rfl, rfl⟩
    · go_wp2_with fail
      go_meet
      exact ⟨by simp [laterB], rfl⟩
  case rest =>
    obtain ⟨rfl, rfl⟩ := hcut
    by_cases hc : laterB o mo = true
    · have HC := Lib.hid hc
      rw [hc]
      clear hc
      have HS : Hid (zero32.size = (#[.slice LA ln lc, .slice NA nn nc, .int .i64 x.next] : Array Value).size) := rfl
      have H1 : Hid ((#[.slice LA ln lc, .slice NA nn nc, .int .i64 x.next] : Array Value).all (·.oneCell') = true) := by
        show (#[.slice LA ln lc, .slice NA nn nc, .int .i64 x.next] : Array Value).all (·.oneCell') = true
        simp [Value.oneCell']
      clear d0 d1 d2
      go_wp2_with (first
        | (refine wpList_load_row rfl 32 _ rfl w.heap.size rfl 32 #[.slice LA ln lc, .slice NA nn nc, .int .i64 x.next] (0, 0) _ K0.out Tryz.underlying32 rfl size32 ?_)
        | (refine wpList_store_row rfl 32 _ _ rfl (w.heap.size + 1) #[.slice LA ln lc, .slice NA nn nc, .int .i64 x.next] rfl rfl 32 _ K1.out size32 HS.out H1.out ?_))
      have hg9 : wc.grownBy (wc.setRow (w.heap.size + 1) #[.slice LA ln lc, .slice NA nn nc, .int .i64 x.next]) (some (w.heap.size + 1)) := setRow_gby _ _ _
      have hb9 := HB2.out.trans (grown_below hg9 (by omega) (fun k hk => by injection hk with hk; omega))
      refine bodyPost_ret (v := .agg #[.slice LA ln lc, .slice NA nn nc, .int .i64 x.next]) (results_cell_row Tryz.results53 _ _ (w.heap.size + 1) 32 _ (0, 0) _ rfl (setRow_blk K1.out _) Tryz.underlying32 rfl size32) rfl ⟨_, LA, lc, NA, nn, nc, rs, rfl, ?_, hb9⟩
      have : takenR x s id mo = x := by unfold takenR; rw [HNO.out, if_pos HC.out]
      rw [this]
      exact { HR.out.below hb9 hB with lfew := by omega, nfew := by omega }
    · have hc : laterB o mo = false := by simpa using hc
      have HT : Hid (takenR x s id mo = { x with N := x.N.filter (notOf s) ++ [(s, mo)], L := x.L.map (updL s id) }) := by
        show takenR x s id mo = _
        unfold takenR
        rw [HNO.out, hc]
        rfl
      rw [hc]
      clear hc
      have hst : TkN w wc #[.slice LA ln lc, .slice NA nn nc, .int .i64 x.next] x.N s 0 none 0 := ⟨by simp, by simpa using World.ownsRow_nil wc _ 194 2, HB2.out, K0.out, K1.out⟩
      have HST := Lib.hid hst
      clear hst d0 d1 d2 K0 K1 HB2 hsz
      go_wp2_with fail
      go_loopw [11, 12] (fun l i wr => ∃ (k : Nat) (A : Option Addr) (c : Nat), k ≤ nn ∧ i = .int .i64 k ∧ l = .slice A ((x.N.take k).filter (notOf s)).length c ∧ TkN w wr #[.slice LA ln lc, .slice NA nn nc, .int .i64 x.next] x.N s k A c) (fun _ i _ => nn - (intOf i).toNat)
      case atStart => exact ⟨0, none, 0, Nat.zero_le _, rfl, rfl, HST.out⟩
      case round =>
        obtain ⟨k, A, c, hk, rfl, rfl, ht⟩ := hrel
        have c1 : wr.cell? ⟨w.heap.size, 1, none⟩ = some (.slice NA nn nc) := (ht.box.cell 1).trans rfl
        have HTK := Lib.hid ht
        clear ht HST
        by_cases hlt : k < nn
        · obtain ⟨b, o', rfl, hbl, h2, e0, e1, er⟩ := (HR.out.below HTK.out.below hB).nat_ hlt
          have ER := Lib.hid er
          have hsn : x.N.take (k + 1) = x.N.take k ++ [x.N[k]] := by rw [List.take_succ_eq_append_getElem h2]
          have HSN := Lib.hid hsn
          clear hsn er
          by_cases hid : (x.N[k].1.toList == s.toList) = true
          · have hne : (x.N[k].1.toList != s.toList) = false := by rw [bne, hid]; rfl
            have HF : Hid ((x.N.take (k + 1)).filter (notOf s) = (x.N.take k).filter (notOf s)) := by
              show (x.N.take (k + 1)).filter (notOf s) = (x.N.take k).filter (notOf s)
              rw [HSN.out, List.filter_append]
              rw [bytes_beq] at hid
              simp [notOf, of_decide_eq_true hid]
            go_wp2_with fail
            go_roundw
            case rel => exact ⟨k + 1, A, c, by omega, by go_num, by rw [HF.out], ⟨by rw [HF.out]; exact HTK.out.cap, by rw [HF.out]; exact HTK.out.own, HTK.out.below, HTK.out.box, HTK.out.res⟩⟩
            case measure => simp [intOf]; omega
          · have hid : (x.N[k].1.toList == s.toList) = false := by simpa using hid
            have hne : (x.N[k].1.toList != s.toList) = true := by rw [bne, hid]; rfl
            have HF : Hid ((x.N.take (k + 1)).filter (notOf s) = (x.N.take k).filter (notOf s) ++ [x.N[k]]) := by
              show (x.N.take (k + 1)).filter (notOf s) = (x.N.take k).filter (notOf s) ++ [x.N[k]]
              rw [HSN.out, List.filter_append]
              rw [bytes_beq] at hid
              simp [notOf, of_decide_eq_false hid]
            have hfl : ((x.N.take k).filter (notOf s)).length ≤ k := Nat.le_trans (List.length_filter_le _ _) (List.length_take_le _ _)
            have own1 : (wr.alloc (.cells #[.string x.N[k].1, .int .i64 x.N[k].2] 194)).ownsRow (w.heap.size + 2) 194 2 (.slice A ((x.N.take k).filter (notOf s)).length c) ((x.N.take k).filter (notOf s)).length (((x.N.take k).filter (notOf s)).flatMap nwCells) := HTK.out.own.alloc _
            have rd1 : Rd (wr.alloc (.cells #[.string x.N[k].1, .int .i64 x.N[k].2] 194)) (wr.alloc (.cells #[.string x.N[k].1, .int .i64 x.N[k].2] 194)).heap.size 2 (some ⟨wr.heap.size, 0, none⟩) 1 [.string x.N[k].1, .int .i64 x.N[k].2] := (Blk.new wr 194 _).rd
            have hb1 : Below w.heap.size w (wr.alloc (.cells #[.string x.N[k].1, .int .i64 x.N[k].2] 194)) := HTK.out.below.alloc HTK.out.below.size _
            have hsz : w.heap.size + 2 ≤ wr.heap.size := HTK.out.res.lt
            have OWN1 := Lib.hid own1
            have RD1 := Lib.hid rd1
            have HB1 := Lib.hid hb1
            have HBOX := Lib.hid (HTK.out.box.alloc (.cells #[.string x.N[k].1, .int .i64 x.N[k].2] 194))
            have HRES := Lib.hid (HTK.out.res.alloc (.cells #[.string x.N[k].1, .int .i64 x.N[k].2] 194))
            clear own1 rd1 hb1 HTK
            go_wp2_with (first
              | (refine wpList_one rfl 30 194 _ rfl wr.heap.size rfl (some 50) rfl under30 (.agg #[.string x.N[k].1, .int .i64 x.N[k].2]) rfl #[.string x.N[k].1, .int .i64 x.N[k].2] (built194 _ _) ?_)
              | (at_builtin; refine wpList_append_rd _ rfl _ _ 30 rfl (w.heap.size + 2) 194 i1 (.agg #[.string ⟨#[]⟩, .int .i64 0]) 2 24 under30 hi1 hz10 hz11 hz12 rfl (by decide) (.slice A ((x.N.take k).filter (notOf s)).length c) ((x.N.take k).filter (notOf s)).length (((x.N.take k).filter (notOf s)).flatMap nwCells) rfl OWN1.out (some ⟨wr.heap.size, 0, none⟩) 1 1 _ _ rfl RD1.out (by simp [Value.oneCell']) (by unfold maxLen; omega) (by omega) (by simp; omega) ?_; intro A' c' w3 hown hgrow hnc hat; have HOW := Lib.hid hown; have HGR := Lib.hid hgrow; have HNC := Lib.hid hnc; clear hown hgrow hat hnc))
            go_roundw
            case rel =>
              have hlow := fun g (hg : (Value.slice A ((x.N.take k).filter (notOf s)).length c).ownBlock = some g) => (OWN1.out.lt g hg).1
              have e : (x.N.take (k + 1)).filter (notOf s) = (x.N.take k).filter (notOf s) ++ [x.N[k]] := HF.out
              refine ⟨k + 1, A', c', by omega, by go_num, by rw [e]; simp, ⟨by rw [e]; simpa using HNC.out, ?_, HB1.out.trans (grown_below HGR.out (by simp; omega) (fun g hg => by have := hlow g hg; omega)), HBOX.out.grown HGR.out (fun e => by have := hlow _ e; omega), HRES.out.grown HGR.out (fun e => by have := hlow _ e; omega)⟩⟩
              rw [e]
              simpa [nwCells] using HOW.out
            case measure => simp [intOf]; omega
        · obtain rfl : k = nn := by omega
          have hfl : ((x.N.take k).filter (notOf s)).length ≤ k := Nat.le_trans (List.length_filter_le _ _) (List.length_take_le _ _)
          have hta : x.N.take k = x.N := List.take_of_length_le (by have := HL.out; omega)
          have HTA := Lib.hid hta
          have own1 : (wr.alloc (.cells #[.string s, .int .i64 mo] 194)).ownsRow (w.heap.size + 2) 194 2 (.slice A ((x.N.take k).filter (notOf s)).length c) ((x.N.take k).filter (notOf s)).length (((x.N.take k).filter (notOf s)).flatMap nwCells) := HTK.out.own.alloc _
          have rd1 : Rd (wr.alloc (.cells #[.string s, .int .i64 mo] 194)) (wr.alloc (.cells #[.string s, .int .i64 mo] 194)).heap.size 2 (some ⟨wr.heap.size, 0, none⟩) 1 [.string s, .int .i64 mo] := (Blk.new wr 194 _).rd
          have hb1 : Below w.heap.size w (wr.alloc (.cells #[.string s, .int .i64 mo] 194)) := HTK.out.below.alloc HTK.out.below.size _
          have hsz : w.heap.size + 2 ≤ wr.heap.size := HTK.out.res.lt
          have OWN1 := Lib.hid own1
          have RD1 := Lib.hid rd1
          have HB1 := Lib.hid hb1
          have HBOX := Lib.hid (HTK.out.box.alloc (.cells #[.string s, .int .i64 mo] 194))
          have HRES := Lib.hid (HTK.out.res.alloc (.cells #[.string s, .int .i64 mo] 194))
          clear own1 rd1 hb1 HTK hta hlt
          go_upto_region 11 with (first
            | (refine wpList_one rfl 30 194 _ rfl wr.heap.size rfl (some 56) rfl under30 (.agg #[.string s, .int .i64 mo]) rfl #[.string s, .int .i64 mo] (built194 _ _) ?_)
            | (at_builtin; refine wpList_append_rd _ rfl _ _ 30 rfl (w.heap.size + 2) 194 i1 (.agg #[.string ⟨#[]⟩, .int .i64 0]) 2 24 under30 hi1 hz10 hz11 hz12 rfl (by decide) (.slice A ((x.N.take k).filter (notOf s)).length c) ((x.N.take k).filter (notOf s)).length (((x.N.take k).filter (notOf s)).flatMap nwCells) rfl OWN1.out (some ⟨wr.heap.size, 0, none⟩) 1 1 _ _ rfl RD1.out (by simp [Value.oneCell']) (by unfold maxLen; omega) (by omega) (by simp; omega) ?_; intro A' c' w3 hown hgrow hnc hat; have HOW := Lib.hid hown; have HGR := Lib.hid hgrow; have HNC := Lib.hid hnc; have bx := HBOX.out.grown hgrow (fun e => by have := (OWN1.out.lt _ e).1; omega); have ba : w3.cell? ⟨w.heap.size, 1, none⟩ = some (.slice NA k nc) := (bx.cell 1).trans rfl; have bf := bx.free'; have HBX := Lib.hid bx; clear hown hgrow hat hnc bx))
          have hlow := fun g (hg : (Value.slice A ((x.N.take k).filter (notOf s)).length c).ownBlock = some g) => (OWN1.out.lt g hg).1
          have hst : TkL w (w3.setCell ⟨w.heap.size, 1, none⟩ (.slice A' (((x.N.take k).filter (notOf s)).length + 1) c')) #[.slice LA ln lc, .slice A' (((x.N.take k).filter (notOf s)).length + 1) c', .int .i64 x.next] rs s id 0 none 0 A' (x.N.filter (notOf s) ++ [(s, mo)]) c' := by
            refine ⟨Nat.le_refl _, by simpa using World.ownsRow_nil _ _ 54 18, ?_, ?_, ?_, ?_⟩
            · exact below_set (HB1.out.trans (grown_below HGR.out (by simp; omega) (fun g hg => by have := hlow g hg; omega))) (Nat.le_refl _) _
            · exact HBX.out.set 1 _
            · exact (HRES.out.grown HGR.out (fun e => by have := hlow _ e; omega)).far (by omega) _
            · have := own_set HOW.out (b := w.heap.size) (o := 1) (by omega) (.slice A' (((x.N.take k).filter (notOf s)).length + 1) c')
              rw [HTA.out] at this ⊢
              simpa [nwCells] using this
          have hnl : (x.N.filter (notOf s) ++ [(s, mo)]).length = ((x.N.take k).filter (notOf s)).length + 1 := by rw [HTA.out]; simp
          have HNL := Lib.hid hnl
          have HST := Lib.hid hst
          have HNC2 := Lib.hid HNC.out
          generalize w3.setCell ⟨w.heap.size, 1, none⟩ (.slice A' (((x.N.take k).filter (notOf s)).length + 1) c') = w4 at *
          generalize ((x.N.take k).filter (notOf s)).length = fl at *
          clear hst hnl HOW HGR HNC HBX ba bf HBOX HRES OWN1 RD1 HB1 hlow
          go_wp2_with fail
          go_loopw [13, 14] (fun l i wr => ∃ (k : Nat) (B : Option Addr) (c : Nat), k ≤ ln ∧ i = .int .i64 k ∧ l = .slice B k c ∧ TkL w wr #[.slice LA ln lc, .slice A' (fl + 1) c', .int .i64 x.next] rs s id k B c A' (x.N.filter (notOf s) ++ [(s, mo)]) c') (fun _ i _ => ln - (intOf i).toNat)
          case atStart => exact ⟨0, none, 0, Nat.zero_le _, rfl, rfl, HST.out⟩
          case round =>
            obtain ⟨q, B, cc, hq, rfl, rfl, ht⟩ := hrel
            have c1 : wr.cell? ⟨w.heap.size, 0, none⟩ = some (.slice LA ln lc) := (ht.box.cell 0).trans rfl
            have hszr : w.heap.size + 2 ≤ wr.heap.size := ht.res.lt
            have HTK := Lib.hid ht
            clear ht HST
            by_cases hlt : q < ln
            · obtain ⟨b, o', rfl, hbl, h1, h2, he, er, hok⟩ := (HR.out.below HTK.out.below hB).at_ hlt
              have hsn : rs.take (q + 1) = rs.take q ++ [rs[q]] := by rw [List.take_succ_eq_append_getElem h1]
              have HSN := Lib.hid hsn
              clear hsn he hok
              generalize rs[q] = r at *
              have ER := Lib.hid er
              have HS54 : Hid (zero54.size = r.row.size) := rfl
              clear er
              go_upto_if 74 with (first
                | (refine wpList_load_mid rfl 54 _ rfl b (o' + q * 18) rfl r.cells _ ER.out Tryz.underlying54 rfl size54 ?_; rw [cells_toArray])
                | (refine wpList_store_row rfl 54 _ _ rfl wr.heap.size r.row rfl rfl 54 _ (Blk.new wr 54 _) size54 HS54.out r.one ?_; rw [World.setRow_alloc_new]))
              have hbk : Blk (wr.alloc (.cells r.row 54)) wr.heap.size 54 r.row := Blk.new _ _ _
              have hown : (wr.alloc (.cells r.row 54)).ownsRow (w.heap.size + 2) 54 18 (.slice B q cc) q (((rs.take q).map (updM s id)).flatMap RM.cells) := HTK.out.own.alloc _
              have hnown := HTK.out.nown.alloc (.cells r.row 54)
              have hb1 : Below w.heap.size w (wr.alloc (.cells r.row 54)) := HTK.out.below.alloc HTK.out.below.size _
              have hbox := HTK.out.box.alloc (.cells r.row 54)
              have hres := HTK.out.res.alloc (.cells r.row 54)
              have hownlt : ∀ g, (Value.slice B q cc).ownBlock = some g → w.heap.size + 2 ≤ g ∧ g < wr.heap.size := HTK.out.own.lt
              have hnownlt : ∀ g, (Value.slice A' (x.N.filter (notOf s) ++ [(s, mo)]).length c').ownBlock = some g → w.heap.size + 2 ≤ g ∧ g < wr.heap.size := HTK.out.nown.lt
              have hszx : (wr.alloc (.cells r.row 54)).heap.size = wr.heap.size + 1 := by simp
              generalize wr.alloc (.cells r.row 54) = wx at *
              have HBK := Lib.hid hbk
              have HOW := Lib.hid hown
              have HNO2 := Lib.hid hnown
              have HB1 := Lib.hid hb1
              have HBOX := Lib.hid hbox
              have HRES := Lib.hid hres
              have HLT := Lib.hid hownlt
              have HNLT := Lib.hid hnownlt
              have HSZX := Lib.hid hszx
              clear hbk hown hnown hb1 hbox hres hownlt hnownlt hszx ER HS54 c1
              go_cut [74] (fun _ wy => Blk wy wr.heap.size 54 (updM s id r).row ∧ wx.grownBy wy (some wr.heap.size))
              case first =>
                by_cases hob : (r.e.obj.toList == s.toList) = true
                · have e0 : wx.cell? ⟨wr.heap.size, 0, none⟩ = some (.int .i64 r.e.id) := (HBK.out.cell 0).trans rfl
                  have e16 : wx.cell? ⟨wr.heap.size, 16, none⟩ = some (.bool r.e.last) := (HBK.out.cell 16).trans rfl
                  have ef := HBK.out.free'
                  have HOB := Lib.hid hob
                  rw [hob]
                  clear hob
                  go_wp2_with fail
                  go_meet
                  have hh := HOB.out
                  rw [bytes_beq] at hh
                  rw [← row_last (of_decide_eq_true hh)]
                  exact ⟨HBK.out.set 16 _, gby_set (gby_refl _ _) _ _⟩
                · have hob : (r.e.obj.toList == s.toList) = false := by simpa using hob
                  have HOB := Lib.hid hob
                  rw [hob]
                  clear hob
                  go_wp2_with fail
                  go_meet
                  have hh := HOB.out
                  rw [bytes_beq] at hh
                  rw [row_same (of_decide_eq_false hh)]
                  exact ⟨HBK.out, gby_refl _ _⟩
              case rest =>
                obtain ⟨hbk2, hgw2⟩ := hcut
                have hupd : (rs.take (q + 1)).map (updM s id) = (rs.take q).map (updM s id) ++ [updM s id r] := by rw [HSN.out]; simp
                have HUPD := Lib.hid hupd
                generalize updM s id r = r2 at *
                have hszy : wr.heap.size + 1 ≤ wc.heap.size := by have := hgw2.size; have := HSZX.out; omega
                have own2 : (wc.alloc (.cells r2.row 54)).ownsRow (w.heap.size + 2) 54 18 (.slice B q cc) q (((rs.take q).map (updM s id)).flatMap RM.cells) := (own_kept HOW.out hgw2 (fun g hg e => by injection e with e; have := (HLT.out g hg).2; omega)).alloc _
                have nown2 := (own_kept HNO2.out hgw2 (fun g hg e => by injection e with e; have := (HNLT.out g hg).2; omega)).alloc (.cells r2.row 54)
                have rd2 : Rd (wc.alloc (.cells r2.row 54)) (wc.alloc (.cells r2.row 54)).heap.size 18 (some ⟨wc.heap.size, 0, none⟩) 1 ([r2].flatMap RM.cells) := by
                  have := (Blk.new wc 54 r2.row).rd
                  simpa [RM.cells] using this
                have hb2 : Below w.heap.size w (wc.alloc (.cells r2.row 54)) := (HB1.out.trans (grown_below hgw2 (by have := HSZX.out; omega) (fun g hg => by injection hg with hg; omega))).alloc (by omega) _
                have box2 := (HBOX.out.grown hgw2 (fun e => by injection e with e; omega)).alloc (.cells r2.row 54)
                have res2 := (HRES.out.grown hgw2 (fun e => by injection e with e; omega)).alloc (.cells r2.row 54)
                have HBK2 := Lib.hid hbk2
                have OWN2 := Lib.hid own2
                have NOWN2 := Lib.hid nown2
                have RD2 := Lib.hid rd2
                have HB2 := Lib.hid hb2
                have BOX2 := Lib.hid box2
                have RES2 := Lib.hid res2
                clear hbk2 hgw2 hupd own2 nown2 rd2 hb2 box2 res2 HBK HOW HNO2 HB1 HBOX HRES HSN HSZX HTK
                go_wp2_with (first
                  | (refine wpList_load_row rfl 54 _ rfl wr.heap.size rfl 54 r2.row (0, 0) _ HBK2.out Tryz.underlying54 rfl size54 ?_)
                  | (refine wpList_one rfl 29 54 _ rfl wc.heap.size rfl (some 82) rfl under29 (.agg r2.row) rfl r2.row (built54 _) ?_)
                  | (at_builtin; refine wpList_append_rd _ rfl _ _ 29 rfl (w.heap.size + 2) 54 i0 (.agg zero54) 18 200 under29 hi0 hz0 hz1 hz2 rfl (by decide) (.slice B q cc) q (((rs.take q).map (updM s id)).flatMap RM.cells) rfl OWN2.out (some ⟨wc.heap.size, 0, none⟩) 1 1 _ _ rfl RD2.out (oneCell_rows [r2]) (by unfold maxLen; omega) (by omega) (by simp; omega) ?_; intro A2 c2 w5 hown hgrow hnc hat; have HOW := Lib.hid hown; have HGR := Lib.hid hgrow; have HNC := Lib.hid hnc; clear hown hgrow hat hnc))
                go_roundw
                case rel =>
                  have hlt2 := fun g (hg : (Value.slice B q cc).ownBlock = some g) => HLT.out g hg
                  have e : (rs.take (q + 1)).map (updM s id) = (rs.take q).map (updM s id) ++ [r2] := HUPD.out
                  refine ⟨q + 1, A2, c2, by omega, by go_num, rfl, ⟨HNC.out, ?_, HB2.out.trans (grown_below HGR.out (by simp; omega) (fun g hg => by have := hlt2 g hg; omega)), BOX2.out.grown HGR.out (fun e => by have := hlt2 _ e; omega), RES2.out.grown HGR.out (fun e => by have := hlt2 _ e; omega), ?_⟩⟩
                  · rw [e, List.flatMap_append]
                    exact HOW.out
                  · exact own_kept NOWN2.out HGR.out (fun g hg e => by
                      have t1 := own_ty NOWN2.out hg
                      have t2 := own_ty OWN2.out e
                      rw [t1] at t2
                      simp at t2)
                case measure => simp [intOf]; omega
            · obtain rfl : q = ln := by omega
              have c0 := c1
              have f0 := HTK.out.box.free'
              go_upto_region 20 with fail
              have box := HTK.out.box.set 0 (.slice B q cc)
              have res := HTK.out.res.far (b := w.heap.size) (o := 0) (by omega) (.slice B q cc)
              have own := own_set HTK.out.own (b := w.heap.size) (o := 0) (by omega) (.slice B q cc)
              have nown := own_set HTK.out.nown (b := w.heap.size) (o := 0) (by omega) (.slice B q cc)
              have hb3 := below_set HTK.out.below (b := w.heap.size) (o := 0) (Nat.le_refl _) (.slice B q cc)
              have hcap := HTK.out.cap
              generalize wr.setCell ⟨w.heap.size, 0, none⟩ (.slice B q cc) = w6 at *
              have BOX := Lib.hid (show Blk w6 w.heap.size 32 #[.slice B q cc, .slice A' (fl + 1) c', .int .i64 x.next] from box)
              have RES := Lib.hid res
              have OWN := Lib.hid own
              have NOWN := Lib.hid nown
              have HB3 := Lib.hid hb3
              have hsz6 := res.lt
              clear box res own nown hb3 HTK f0 c0 c1 hlt
              have HS : Hid (zero32.size = (#[.slice B q cc, .slice A' (fl + 1) c', .int .i64 x.next] : Array Value).size) := rfl
              have H1 : Hid ((#[.slice B q cc, .slice A' (fl + 1) c', .int .i64 x.next] : Array Value).all (·.oneCell') = true) := by
                show (#[.slice B q cc, .slice A' (fl + 1) c', .int .i64 x.next] : Array Value).all (·.oneCell') = true
                simp [Value.oneCell']
              go_wp2_with (first
                | (refine wpList_load_row rfl 32 _ rfl w.heap.size rfl 32 #[.slice B q cc, .slice A' (fl + 1) c', .int .i64 x.next] (0, 0) _ BOX.out Tryz.underlying32 rfl size32 ?_)
                | (refine wpList_store_row rfl 32 _ _ rfl (w.heap.size + 1) #[.slice B q cc, .slice A' (fl + 1) c', .int .i64 x.next] rfl rfl 32 _ RES.out size32 HS.out H1.out ?_))
              have hg9 : w6.grownBy (w6.setRow (w.heap.size + 1) #[.slice B q cc, .slice A' (fl + 1) c', .int .i64 x.next]) (some (w.heap.size + 1)) := setRow_gby _ _ _
              have hb9 := HB3.out.trans (grown_below hg9 (by omega) (fun k hk => by injection hk with hk; omega))
              have own9 := own_kept OWN.out hg9 (fun g hg e => by injection e with e; have := (OWN.out.lt g hg).1; omega)
              have nown9 := own_kept NOWN.out hg9 (fun g hg e => by injection e with e; have := (NOWN.out.lt g hg).1; omega)
              have hlen := HL.out
              refine bodyPost_ret (v := .agg #[.slice B q cc, .slice A' (fl + 1) c', .int .i64 x.next]) (results_cell_row Tryz.results53 _ _ (w.heap.size + 1) 32 _ (0, 0) _ rfl (setRow_blk RES.out _) Tryz.underlying32 rfl size32) rfl ⟨_, B, cc, A', fl + 1, c', rs.map (updM s id), rfl, ?_, hb9⟩
              rw [HT.out]
              have htk : rs.take q = rs := List.take_of_length_le (by omega)
              rw [htk] at own9
              rw [HNL.out] at nown9
              exact { val := rfl, ents := by rw [← HR.out.ents, List.map_map, List.map_map]; exact List.map_congr_left (fun r _ => updM_e s id r), rows := PR.of_own own9 (by decide) (by decide) (by decide) (by decide), ok := fun r hr => by
                        obtain ⟨r0, h0, rfl⟩ := List.mem_map.1 hr
                        exact updM_ok ((HR.out.ok r0 h0).keeps (Keeps.of_below hb9 hB)) s id, news := PR.of_own nown9 (by decide) (by decide) (by decide) (by decide), lcap := hcap, ncap := HNC2.out, lfew := by omega, nfew := by omega }
end
end Go.Proofs.YtoaiamgcegnjjaaGreatDoor
