/- What no table tells. No condition. Whether an act is small. No condition. -/
import Derived.Test.YtoaiamgcegnjjaaGreatDoorMD
import Derived.Deep.WholeRow
namespace Go.Proofs.YtoaiamgcegnjjaaGreatDoor
open Go.RowKit Go.Maps Go.WideMaps Go.Sort
set_option maxRecDepth 100000

theorem land_nil (obj : ByteArray) (rs : Array Value) (ti mo ge : Int) (w : World) :
    Calls Tryz.prog 29 #[.pointer none, .string obj, .agg rs, .agg #[.int .i64 ti, .int .i64 mo, .int .i64 ge]] w fun e w' => e = .returned (.tuple #[.int .i64 0, .bool false]) ∧ Below w.heap.size w w' := by
  go_enter Tryz.func29, Tryz.ntmps29
  go_wp2
  go_ret2
  exact ⟨rfl, ((Below.refl _ _).alloc (Nat.le_refl _) _).alloc (by simp) _⟩

theorem asked_any (ti mo ge : Int) (w : World) :
    Calls Tryz.prog 21 #[.agg #[.int .i64 ti, .int .i64 mo, .int .i64 ge]] w fun e w' => e = .returned (.agg #[.int .i64 ti, .int .i64 mo, .int .i64 ge]) ∧ Below w.heap.size w w' := by
  go_enter Tryz.func21, Tryz.ntmps21
  go_wp2
  refine bodyPost_ret (v := .agg #[.int .i64 ti, .int .i64 mo, .int .i64 ge]) (by simp [results, Tryz.results21, go_sem]) rfl ⟨rfl, ?_⟩
  exact ((Below.refl _ _).alloc (Nat.le_refl _) _).alloc (by simp) _

theorem last_nil (s : ByteArray) (w : World) : Calls Tryz.prog 27 #[.pointer none, .string s] w fun e w' => e = .returned (.tuple #[.int .i64 0, .bool false]) ∧ w = w' := by
  go_enter Tryz.func27, Tryz.ntmps27
  go_wp2
  go_ret2
  exact ⟨rfl, rfl⟩

theorem find_nil (id : Int) (w : World) : Calls Tryz.prog 68 #[.pointer none, .int .i64 id] w fun e w' => e = .returned (.pointer none) ∧ w = w' := by
  go_enter Tryz.func68, Tryz.ntmps68
  go_wp2
  go_ret
  exact ⟨rfl, rfl⟩

theorem confirm_nil (id ti mo ge : Int) (w : World) : Calls Tryz.prog 30 #[.pointer none, .int .i64 id, .agg #[.int .i64 ti, .int .i64 mo, .int .i64 ge]] w fun e w' => e = .returned (.int .i64 1) ∧ Below w.heap.size w w' := by
  go_enter Tryz.func30, Tryz.ntmps30
  go_wp2
  go_ret
  exact ⟨rfl, (Below.refl _ _).alloc (Nat.le_refl _) _⟩

theorem gone_nil (s : ByteArray) (ti mo ge : Int) (w : World) : Calls Tryz.prog 31 #[.pointer none, .string s, .agg #[.int .i64 ti, .int .i64 mo, .int .i64 ge]] w fun e w' => e = .returned (.slice none 0 0) ∧ Below w.heap.size w w' := by
  go_enter Tryz.func31, Tryz.ntmps31
  go_wp2
  go_ret
  exact ⟨rfl, (Below.refl _ _).alloc (Nat.le_refl _) _⟩

theorem bytes_nil (id f t : Int) (w : World) : Calls Tryz.prog 90 #[.pointer none, .int .i64 id, .agg #[.int .i64 f, .int .i64 t]] w fun e w' => e = .returned (.tuple #[.pointer none, .int .i64 1]) ∧ Below w.heap.size w w' := by
  go_enter Tryz.func90, Tryz.ntmps90
  go_wp2
  go_ret2
  exact ⟨rfl, (Below.refl _ _).alloc (Nat.le_refl _) _⟩

theorem fill_nil (id f t : Int) (w : World) : Calls Tryz.prog 32 #[.pointer none, .int .i64 id, .agg #[.int .i64 f, .int .i64 t]] w fun e w' => e = .returned (.int .i64 1) ∧ Below w.heap.size w w' := by
  go_enter Tryz.func32, Tryz.ntmps32
  go_wp2_with fail
  refine (bytes_nil _ _ _ _).mono ?_
  rintro en w1 ⟨rfl, hb⟩
  have HB := Lib.hid hb
  clear hb
  go_wp2_with fail
  go_ret
  exact ⟨rfl, ((Below.refl _ _).alloc (Nat.le_refl _) _).trans (HB.out.mono (by simp))⟩

theorem lose_nil (id f t : Int) (w : World) : Calls Tryz.prog 33 #[.pointer none, .int .i64 id, .agg #[.int .i64 f, .int .i64 t]] w fun e w' => e = .returned (.int .i64 1) ∧ Below w.heap.size w w' := by
  go_enter Tryz.func33, Tryz.ntmps33
  go_wp2_with fail
  refine (bytes_nil _ _ _ _).mono ?_
  rintro en w1 ⟨rfl, hb⟩
  have HB := Lib.hid hb
  clear hb
  go_wp2_with fail
  go_ret
  exact ⟨rfl, ((Below.refl _ _).alloc (Nat.le_refl _) _).trans (HB.out.mono (by simp))⟩

theorem learn_nil (id a b : Int) (w : World) : Calls Tryz.prog 34 #[.pointer none, .int .i64 id, .int .i64 a, .int .i64 b] w fun e w' => e = .returned (.int .i64 1) ∧ Below w.heap.size w w' := by
  go_enter Tryz.func34, Tryz.ntmps34
  go_wp2
  go_ret
  exact ⟨rfl, Below.refl _ _⟩

theorem drop_nil (id : Int) (w : World) : Calls Tryz.prog 35 #[.pointer none, .int .i64 id] w fun e w' => e = .returned (.bool false) ∧ Below w.heap.size w w' := by
  go_enter Tryz.func35, Tryz.ntmps35
  go_wp2
  go_ret
  first | exact ⟨rfl, Below.refl _ _⟩ | exact ⟨rfl, (Below.refl _ _).alloc (Nat.le_refl _) _⟩

theorem all_nil (w : World) : Calls Tryz.prog 26 #[.pointer none] w fun e w' => e = .returned (.slice none 0 0) ∧ Below w.heap.size w w' := by
  go_enter Tryz.func26, Tryz.ntmps26
  go_wp2
  go_ret
  exact ⟨rfl, Below.refl _ _⟩

theorem get_nil (id : Int) (w : World) : Calls Tryz.prog 22 #[.pointer none, .int .i64 id] w fun e w' => e = .returned (.tuple #[.agg zeroE, .bool false]) ∧ Below w.heap.size w w' := by
  go_enter Tryz.func22, Tryz.ntmps22
  go_wp2_with fail
  refine (find_nil _ _).mono ?_
  rintro en w1 ⟨rfl, rfl⟩
  go_wp2_with fail
  refine bodyPost_ret (v := .tuple #[.agg zeroE, .bool false]) ?_ rfl ⟨rfl, ?_⟩
  · simp [results, Tryz.results22, go_sem]
    rfl
  · exact (Below.refl _ _).alloc (Nat.le_refl _) _

theorem has_nil (id : Int) (w : World) : Calls Tryz.prog 36 #[.pointer none, .int .i64 id] w fun e w' => e = .returned (.agg #[.slice none 0 0]) ∧ Below w.heap.size w w' := by
  go_enter Tryz.func36, Tryz.ntmps36
  go_wp2
  refine bodyPost_ret (v := .agg #[.slice none 0 0]) (by simp [results, Tryz.results36, go_sem]) rfl ⟨rfl, ?_⟩
  exact (Below.refl _ _).alloc (Nat.le_refl _) _

theorem len_nil (w : World) : Calls Tryz.prog 37 #[.agg #[.slice none 0 0]] w fun e w' => e = .returned (.int .i64 0) ∧ Below w.heap.size w w' := by
  go_enter Tryz.func37, Tryz.ntmps37
  go_wp2
  go_loop [3, 9] (fun s i => s = .int .i64 0 ∧ i = .int .i64 0) (fun _ _ => 0)
  case atStart => exact ⟨rfl, rfl⟩
  case round =>
    obtain ⟨rfl, rfl⟩ := hrel
    go_wp2
    go_ret
    exact ⟨rfl, (Below.refl _ _).alloc (Nat.le_refl _) _⟩

theorem use_nil (s : ByteArray) (ti mo ge : Int) (lb : Nat) (w : World) : Calls Tryz.prog 20 #[.pointer none, .string s, .agg #[.int .i64 ti, .int .i64 mo, .int .i64 ge], .pointer (some ⟨lb, 0, none⟩)] w fun e w' => e = .returned (.tuple #[.int .i64 0, .int .i64 4]) ∧ Below w.heap.size w w' := by
  go_enter Tryz.func20, Tryz.ntmps20
  go_wp2_with fail
  go_ret2
  exact ⟨rfl, (Below.refl _ _).alloc (Nat.le_refl _) _⟩

theorem purgeLoad_nil (w : World) : Calls Tryz.prog 64 #[.slice none 0 0, .int .i64 0] w fun e w' => ∃ lb, e = .returned (.tuple #[.pointer (some ⟨lb, 0, none⟩), .int .i64 0]) ∧ Below w.heap.size w w' := by
  go_enter Tryz.func64, Tryz.ntmps64
  go_wp2_with fail
  go_loop [20] (fun i => i = .int .i64 0) (fun _ => 0)
  case atStart => rfl
  case round =>
    subst hrel
    go_wp2_with fail
    go_ret2
    first | exact ⟨_, rfl, (Below.refl _ _).alloc (Nat.le_refl _) _⟩ | exact ⟨⟨_, rfl⟩, (Below.refl _ _).alloc (Nat.le_refl _) _⟩ | exact (Below.refl _ _).alloc (Nat.le_refl _) _

theorem log_nil (w : World) : Calls Tryz.prog 18 #[.agg #[.int .i64 0, .slice none 0 0]] w fun e w' => ∃ lb, e = .returned (.tuple #[.pointer (some ⟨lb, 0, none⟩), .agg #[.slice none 0 0, .int .i64 0], .bool true]) ∧ Below w.heap.size w w' := by
  go_enter Tryz.func18, Tryz.ntmps18
  go_wp2_with fail
  go_loop [6, 35] (fun l i => l = .slice none 0 0 ∧ i = .int .i64 0) (fun _ _ => 0)
  case atStart => exact ⟨rfl, rfl⟩
  case round =>
    obtain ⟨rfl, rfl⟩ := hrel
    go_wp2_with fail
    refine (purgeLoad_nil _).mono ?_
    rintro en w1 ⟨lb, rfl, hb⟩
    have hs : w.heap.size + 1 + 1 + 1 ≤ w1.heap.size := by simpa using hb.size
    have b3 : Blk w1 (w.heap.size + 1) 67 #[.slice none 0 0, .int .i64 0] := Blk.below ((new2 w _ 67 _).alloc _) hb (by simp)
    have b5 : Blk w1 (w.heap.size + 1 + 1) 67 #[.slice none 0 0, .int .i64 0] := by
      refine Blk.below ?_ hb (by simp)
      have := new2 (w.alloc (.cells #[.int .i64 0, .slice none 0 0] 61)) (.cells #[.slice none 0 0, .int .i64 0] 67) 67 #[.slice none 0 0, .int .i64 0]
      simpa using this
    have c30 : w1.cell? ⟨w.heap.size + 1, 0, none⟩ = some (.slice none 0 0) := (b3.cell 0).trans rfl
    have c31 : w1.cell? ⟨w.heap.size + 1, 1, none⟩ = some (.int .i64 0) := (b3.cell 1).trans rfl
    have c50 : w1.cell? ⟨w.heap.size + 1 + 1, 0, none⟩ = some (.slice none 0 0) := (b5.cell 0).trans rfl
    have c51 : w1.cell? ⟨w.heap.size + 1 + 1, 1, none⟩ = some (.int .i64 0) := (b5.cell 1).trans rfl
    have f3 := b3.free'
    have HB := Lib.hid ((((Below.refl w.heap.size w).alloc (Nat.le_refl _) _).alloc (by simp) _).alloc (by simp; omega) _ |>.trans (hb.mono (by simp; omega)))
    clear hb b3 b5
    go_wp2_with fail
    go_region
    all_goals
      go_wp2_with fail
      refine bodyPost_ret (v := .tuple #[.pointer (some ⟨lb, 0, none⟩), .agg #[.slice none 0 0, .int .i64 0], .bool true]) ?_ rfl ⟨lb, rfl, ?_⟩
      · simp [results, Tryz.results18, go_sem, c30, c31]
      · exact below_set (below_set HB.out.drew (by omega) _) (by omega) _

end Go.Proofs.YtoaiamgcegnjjaaGreatDoor
namespace Go.Proofs.YtoaiamgcegnjjaaGreatDoor
open Go.RowKit Go.Maps Go.WideMaps Go.Sort
set_option maxRecDepth 100000

def SomeBool (e : Ending) : Prop := ∃ b, e = .returned (.bool b)
theorem SomeBool.mk (b : Bool) : SomeBool (.returned (.bool b)) := ⟨b, rfl⟩

theorem small38_any (st : Int) (M : MetaS) (A : Option Addr) (n c : Nat) (sf sto age : Int) (B : Nat) (w : World) (hk : Strs w B A n M.ks) (hB : B ≤ w.heap.size) :
    Calls Tryz.prog 44 #[.agg (replyC st M A n c sf sto age)] w fun e w' => SomeBool e ∧ Below w.heap.size w w' := by
  have hb0 : Below w.heap.size w (w.alloc (.cells (replyC st M A n c sf sto age) 43)) := (Below.refl _ _).alloc (Nat.le_refl _) _
  have HB := Lib.hid hb0
  have HK := Lib.hid (hk.below (hb0.mono hB) (Nat.le_refl _))
  clear hb0 hk
  by_cases h1 : 200 < M.t.size
  · go_enter Tryz.func44, Tryz.ntmps44
    go_wp2
    go_ret
    exact ⟨SomeBool.mk _, HB.out⟩
  by_cases h2 : 40 < n
  · go_enter Tryz.func44, Tryz.ntmps44
    go_wp2
    go_ret
    exact ⟨SomeBool.mk _, HB.out⟩
  by_cases h3 : 100 < M.ten.size
  · go_enter Tryz.func44, Tryz.ntmps44
    go_wp2
    go_ret
    exact ⟨SomeBool.mk _, HB.out⟩
  go_enter Tryz.func44, Tryz.ntmps44
  go_wp2_with fail
  go_loop [29] (fun i => ∃ k : Nat, k ≤ n ∧ i = .int .i64 k) (fun i => n - (intOf i).toNat)
  case atStart => exact ⟨0, Nat.zero_le _, rfl⟩
  case round =>
    obtain ⟨k, hk, rfl⟩ := hrel
    by_cases hlt : k < n
    · obtain ⟨b, o, hA, _, hc⟩ := HK.out.at_ (by omega)
      have hcell := hc k (by have := HK.out.len; omega)
      clear hc
      subst hA
      go_wp2_with fail
      · go_ret
        exact ⟨SomeBool.mk _, HB.out⟩
      · exact ⟨⟨k + 1, by omega, by go_num⟩, by simp [intOf]; omega⟩
    · go_wp2_with fail
      go_ret
      exact ⟨SomeBool.mk _, HB.out⟩

/-- the cells of an act -/
abbrev actC (kd : Int) (obj : ByteArray) (st : Int) (M : MetaS) (A : Option Addr) (n c : Nat) (sf sto age ti mo ge id f t hv ln : Int) : Array Value :=
  #[.int .u8 kd, .string obj, .int .i64 st, .string M.t, .bool M.wk, .int .i64 M.mo, .int .i64 M.le, .int .i64 M.ha, .int .i64 M.fr, .int .i64 M.wh, .int .i64 M.er, .slice A n c, .string M.ten, .bool M.kp, .int .i64 sf, .int .i64 sto, .int .i64 age, .int .i64 ti, .int .i64 mo, .int .i64 ge, .int .i64 id, .int .i64 f, .int .i64 t, .int .i64 hv, .int .i64 ln]
theorem size47 : (Tryz.prog.info? 47).map (·.size) = some 25 := by kernel_rfl

theorem act_cells {kd : Int} {obj : ByteArray} {st : Int} {M : MetaS} {A : Option Addr} {n c : Nat} {sf sto age ti mo ge id f t hv ln : Int} {w : World} {g : Nat} (h : Blk w g 47 (actC kd obj st M A n c sf sto age ti mo ge id f t hv ln)) :
    w.cell? ⟨g, 0, none⟩ = some (.int .u8 kd) ∧ w.cell? ⟨g, 1, none⟩ = some (.string obj) ∧ w.cell? ⟨g, 2, none⟩ = some (.int .i64 st) ∧ w.cell? ⟨g, 3, none⟩ = some (.string M.t) ∧ w.cell? ⟨g, 4, none⟩ = some (.bool M.wk) ∧ w.cell? ⟨g, 5, none⟩ = some (.int .i64 M.mo) ∧ w.cell? ⟨g, 6, none⟩ = some (.int .i64 M.le) ∧ w.cell? ⟨g, 7, none⟩ = some (.int .i64 M.ha) ∧ w.cell? ⟨g, 8, none⟩ = some (.int .i64 M.fr) ∧ w.cell? ⟨g, 9, none⟩ = some (.int .i64 M.wh) ∧ w.cell? ⟨g, 10, none⟩ = some (.int .i64 M.er) ∧ w.cell? ⟨g, 11, none⟩ = some (.slice A n c) ∧ w.cell? ⟨g, 12, none⟩ = some (.string M.ten) ∧ w.cell? ⟨g, 13, none⟩ = some (.bool M.kp) ∧ w.cell? ⟨g, 14, none⟩ = some (.int .i64 sf) ∧ w.cell? ⟨g, 15, none⟩ = some (.int .i64 sto) ∧ w.cell? ⟨g, 16, none⟩ = some (.int .i64 age) ∧ w.cell? ⟨g, 17, none⟩ = some (.int .i64 ti) ∧ w.cell? ⟨g, 18, none⟩ = some (.int .i64 mo) ∧ w.cell? ⟨g, 19, none⟩ = some (.int .i64 ge) ∧ w.cell? ⟨g, 20, none⟩ = some (.int .i64 id) ∧ w.cell? ⟨g, 21, none⟩ = some (.int .i64 f) ∧ w.cell? ⟨g, 22, none⟩ = some (.int .i64 t) ∧ w.cell? ⟨g, 23, none⟩ = some (.int .i64 hv) ∧ w.cell? ⟨g, 24, none⟩ = some (.int .i64 ln) :=
  ⟨(h.cell 0).trans rfl, (h.cell 1).trans rfl, (h.cell 2).trans rfl, (h.cell 3).trans rfl, (h.cell 4).trans rfl, (h.cell 5).trans rfl, (h.cell 6).trans rfl, (h.cell 7).trans rfl, (h.cell 8).trans rfl, (h.cell 9).trans rfl, (h.cell 10).trans rfl, (h.cell 11).trans rfl, (h.cell 12).trans rfl, (h.cell 13).trans rfl, (h.cell 14).trans rfl, (h.cell 15).trans rfl, (h.cell 16).trans rfl, (h.cell 17).trans rfl, (h.cell 18).trans rfl, (h.cell 19).trans rfl, (h.cell 20).trans rfl, (h.cell 21).trans rfl, (h.cell 22).trans rfl, (h.cell 23).trans rfl, (h.cell 24).trans rfl⟩

theorem small42_one (kd : Int) (obj : ByteArray) (st : Int) (M : MetaS) (A : Option Addr) (n c : Nat) (sf sto age ti mo ge id f t hv ln : Int) (B g : Nat) (w : World) (hk : Strs w B A n M.ks) (hB : B ≤ w.heap.size)
    (hg : Blk w g 47 (actC kd obj st M A n c sf sto age ti mo ge id f t hv ln)) :
    Calls Tryz.prog 12 #[.slice (some ⟨g, 0, none⟩) 1 1] w fun e w' => SomeBool e ∧ Below w.heap.size w w' := by
  have h1 : (actC kd obj st M A n c sf sto age ti mo ge id f t hv ln).all (·.oneCell') = true := by
    simp [actC, Value.oneCell']
  have hI : (Tryz.prog.info? 47).map (·.size) = some (actC kd obj st M A n c sf sto age ti mo ge id f t hv ln).size := size47
  have hS : 25 = (actC kd obj st M A n c sf sto age ti mo ge id f t hv ln).size := rfl
  generalize hcs : actC kd obj st M A n c sf sto age ti mo ge id f t hv ln = cs at *
  have HCS := Lib.hid hcs
  have HI := Lib.hid hI
  have HS := Lib.hid hS
  have H1 := Lib.hid h1
  have HG := Lib.hid hg
  have HK := Lib.hid hk
  clear hg hk hcs h1 hI hS
  go_enter Tryz.func12, Tryz.ntmps12
  go_wp2_with fail
  go_loopw [7] (fun i wr => Below w.heap.size w wr ∧ (i = .int .i64 0 ∨ i = .int .i64 1)) (fun i _ => 1 - (intOf i).toNat)
  case atStart => exact ⟨Below.refl _ _, .inl rfl⟩
  case round =>
    obtain ⟨hbr, hi⟩ := hrel
    have HBR := Lib.hid hbr
    clear hbr
    rcases hi with rfl | rfl
    · have HGR := Lib.hid (HG.out.below HBR.out HG.out.lt)
      go_upto_region 4 with first
        | (refine wpList_load_row rfl 47 _ rfl g rfl 47 cs (0, 0) _ HGR.out Tryz.underlying47 rfl HI.out ?_)
        | (refine wpList_store_row rfl 47 _ _ rfl wr.heap.size cs rfl rfl 47 _ (Blk.new wr 47 _) HI.out HS.out H1.out ?_)
      have hbx : Below w.heap.size w (wr.alloc (.cells cs 47)) := HBR.out.alloc HBR.out.size _
      have hgx : Blk (wr.alloc (.cells cs 47)) wr.heap.size 47 cs := Blk.new _ _ _
      have hsx : B ≤ (wr.alloc (.cells cs 47)).heap.size := by
        have := HBR.out.size
        simp
        omega
      rw [World.setRow_alloc_new]
      generalize wr.alloc (.cells cs 47) = wx at *
      generalize wr.heap.size = gx at *
      have hcs := HCS.out
      subst hcs
      have HBX := Lib.hid hbx
      obtain ⟨_, e1, e2, e3, e4, e5, e6, e7, e8, e9, e10, e11, e12, e13, e14, e15, e16, _⟩ := act_cells hgx
      have HKX := Lib.hid (HK.out.below (HBX.out.mono hB) (Nat.le_refl _))
      clear hbx hgx HG HI HS H1 HCS HK HGR
      by_cases h300 : 300 < obj.size
      · go_wp2_with fail
        go_ret
        exact ⟨SomeBool.mk _, HBX.out⟩
      · go_wp2_with fail
        refine (small38_any st M A n c sf sto age B _ HKX.out hsx).mono ?_
        rintro en w2 ⟨⟨b, rfl⟩, hb2⟩
        have HB2 := Lib.hid (HBX.out.trans (hb2.mono HBX.out.size))
        clear hb2 e1 e2 e3 e4 e5 e6 e7 e8 e9 e10 e11 e12 e13 e14 e15 e16
        cases b
        · go_wp2_with fail
          go_ret
          exact ⟨SomeBool.mk _, HB2.out⟩
        · go_wp2_with fail
          go_roundw
          case rel => exact ⟨HB2.out, .inr rfl⟩
          case measure => simp [intOf]
    · go_wp2_with fail
      go_ret
      exact ⟨SomeBool.mk _, HBR.out⟩

end Go.Proofs.YtoaiamgcegnjjaaGreatDoor
