/- The law EntryNil: no table tells nothing. No condition. -/
import Derived.Test.YtoaiamgcegnjjaaGreatDoorP
import Derived.Test.YtoaiamgcegnjjaaGreatDoorQ
import Derived.Great.Walk
import Derived.Test.YtoaiamgcegnjjaaGreatDoorLex
namespace Go.Proofs.YtoaiamgcegnjjaaGreatDoor
open Go.RowKit Go.Maps Go.WideMaps Go.Sort
set_option maxRecDepth 100000

theorem built47 (kd : Int) (obj : ByteArray) (st : Int) (M : MetaS) (A : Option Addr) (n c : Nat) (sf sto age ti mo ge id f t hv ln : Int) :
    Tryz.prog.builtSlice 47 1 [(0, .agg (actC kd obj st M A n c sf sto age ti mo ge id f t hv ln))] = some (actC kd obj st M A n c sf sto age ti mo ge id f t hv ln) := by kernel_rfl
theorem under22 : Tryz.prog.underlying 22 = some (.slice 47) := by kernel_rfl

theorem wpList_buildSlice1 {P : Program} {ops : Array Oper} {rest : List Oper} {o : Oper} {a : Act} {w : World} {Q : Exit → Act → World → Prop} (hg : o.guard = none) (t e : TypeId) (len i : Nat) (x : Operand) (ho : o.op = .buildSlice t len #[(i, x)])
    (N : Nat) (hN : w.heap.size = N) (dst : Option Tmp) (hdst : o.dst = dst) (hu : P.underlying t = some (.slice e)) (v : Value) (hv : a.eval x = v) (cells : Array Value)
    (hf : P.builtSlice e len [(i, v)] = some cells)
    (h : wpList P ops Q rest (a.put dst (.slice (some ⟨N, 0, none⟩) len len)) (w.alloc (.cells cells e))) : wpList P ops Q (o :: rest) a w :=
  Go.Great.wpList_buildSliceTo hg t e len _ ho N hN dst hdst hu cells (by simpa [hv] using hf) h

set_option maxHeartbeats 4000000 in
theorem entryNil_any (kd : Int) (obj : ByteArray) (st : Int) (M : MetaS) (A : Option Addr) (n c : Nat) (sf sto age ti mo ge id f t hv ln : Int) (B : Nat) (w : World) (hk : Strs w B A n M.ks) (hB : B ≤ w.heap.size) :
    Calls Tryz.prog 8 #[.agg (actC kd obj st M A n c sf sto age ti mo ge id f t hv ln)] w fun e w' => e = .returned (.bool true) ∧ Below w.heap.size w w' := by
  have hb0 : Below w.heap.size w (w.alloc (.cells (actC kd obj st M A n c sf sto age ti mo ge id f t hv ln) 47)) := (Below.refl _ _).alloc (Nat.le_refl _) _
  have hg0 : Blk (w.alloc (.cells (actC kd obj st M A n c sf sto age ti mo ge id f t hv ln) 47)) w.heap.size 47 (actC kd obj st M A n c sf sto age ti mo ge id f t hv ln) := Blk.new _ _ _
  have hI : (Tryz.prog.info? 47).map (·.size) = some (actC kd obj st M A n c sf sto age ti mo ge id f t hv ln).size := size47
  have hbu := built47 kd obj st M A n c sf sto age ti mo ge id f t hv ln
  generalize hcs : actC kd obj st M A n c sf sto age ti mo ge id f t hv ln = cs at *
  have HCS := Lib.hid hcs
  have HI := Lib.hid hI
  have HBU := Lib.hid hbu
  have HK := Lib.hid hk
  clear hcs hI hbu hk
  go_enter Tryz.func8, Tryz.ntmps8
  go_upto_region 1 with fail
  generalize hw0 : w.alloc (.cells cs 47) = w0 at *
  have hlt : w.heap.size < w0.heap.size := by
    rw [← hw0]
    simp
  generalize hg : w.heap.size = g at *
  have HB0 := Lib.hid hb0
  have HG0 := Lib.hid hg0
  clear hb0 hg0 hw0
  go_wp2_with fail
  refine (wakes_any _).mono ?_
  rintro en w1 ⟨rfl, hb1⟩
  have HB1 := Lib.hid (HB0.out.trans (hb1.mono (Nat.le_of_lt hlt)))
  have HG1 := Lib.hid (HG0.out.below hb1 hlt)
  have hlt1 : g < w1.heap.size := Nat.lt_of_lt_of_le hlt hb1.size
  clear hb1 HB0 HG0
  go_wp2_with first
    | (refine wpList_load_row rfl 47 _ rfl g rfl 47 cs (0, 0) _ HG1.out Tryz.underlying47 rfl HI.out ?_)
    | (refine wpList_buildSlice1 rfl 22 47 1 0 _ rfl w1.heap.size rfl (some 18) rfl under22 (.agg cs) rfl cs HBU.out ?_)
  have HG2 := Lib.hid (HCS.out ▸ Blk.new w1 47 cs : Blk (w1.alloc (.cells cs 47)) w1.heap.size 47 (actC kd obj st M A n c sf sto age ti mo ge id f t hv ln))
  have HB2 := Lib.hid (HB1.out.alloc (Nat.le_of_lt hlt1) (.cells cs 47))
  have HG3 := Lib.hid (HG1.out.alloc (.cells cs 47))
  have hlt2 : g < (w1.alloc (.cells cs 47)).heap.size := by
    simp
    omega
  generalize w1.alloc (.cells cs 47) = w2 at *
  refine (small42_one kd obj st M A n c sf sto age ti mo ge id f t hv ln B w1.heap.size w2 (HK.out.below (HB2.out.mono hB) (Nat.le_refl _)) (by omega) HG2.out).mono ?_
  rintro en w3 ⟨⟨b, rfl⟩, hb3⟩
  have HB3 := Lib.hid (HB2.out.trans (hb3.mono (Nat.le_of_lt hlt2)))
  have HG4 := Lib.hid (HG3.out.below hb3 hlt2)
  have hlt3 : g < w3.heap.size := Nat.lt_of_lt_of_le hlt2 hb3.size
  clear HB1 HG1 HG2 HB2 HG3 hlt hlt1 hlt2 hb3
  cases b
  · go_wp2_with fail
    go_ret
    exact ⟨rfl, hg ▸ HB3.out⟩
  go_upto_region 6 with fail
  go_wp2_with fail
  refine (log_nil _).mono ?_
  rintro en w4 ⟨lb, rfl, hb4⟩
  have HB4 := Lib.hid (HB3.out.trans (hb4.mono (Nat.le_of_lt hlt3)))
  have HG5 := Lib.hid (HG4.out.below hb4 hlt3)
  have hlt4 : g < w4.heap.size := Nat.lt_of_lt_of_le hlt3 hb4.size
  clear HB3 HG4 hb4 hlt3
  go_upto_region 9 with fail
  have HB5 := Lib.hid (HB4.out.alloc (Nat.le_of_lt hlt4) (.cells #[.slice none 0 0, .int .i64 0] 67))
  have HG6 := Lib.hid (HG5.out.alloc (.cells #[.slice none 0 0, .int .i64 0] 67))
  have hlt5 : g < (w4.alloc (.cells #[.slice none 0 0, .int .i64 0] 67)).heap.size := by
    simp
    omega
  generalize w4.alloc (.cells #[.slice none 0 0, .int .i64 0] 67) = w5 at *
  clear HB4 HG5 hlt4
  go_cut [7, 8] (fun x y wx => x = .int .i64 0 ∧ y = .bool false ∧ Below w5.heap.size w5 wx)
  case first =>
    obtain ⟨_, e1, e2, e3, e4, e5, e6, e7, e8, e9, e10, e11, e12, e13, e14, e15, e16, e17, e18, e19, _⟩ := act_cells (HCS.out ▸ HG6.out : Blk w5 g 47 (actC kd obj st M A n c sf sto age ti mo ge id f t hv ln))
    have r1 := cell_regrown e1
    have r2 := cell_regrown e2
    have r3 := cell_regrown e3
    have r4 := cell_regrown e4
    have r5 := cell_regrown e5
    have r6 := cell_regrown e6
    have r7 := cell_regrown e7
    have r8 := cell_regrown e8
    have r9 := cell_regrown e9
    have r10 := cell_regrown e10
    have r11 := cell_regrown e11
    have r12 := cell_regrown e12
    have r13 := cell_regrown e13
    have r14 := cell_regrown e14
    have r15 := cell_regrown e15
    have r16 := cell_regrown e16
    have r17 := cell_regrown e17
    have r18 := cell_regrown e18
    have r19 := cell_regrown e19
    clear e1 e2 e3 e4 e5 e6 e7 e8 e9 e10 e11 e12 e13 e14 e15 e16 e17 e18 e19
    have c21 : ∀ d os, Calls Tryz.prog 21 #[.agg #[.int .i64 ti, .int .i64 mo, .int .i64 ge]] (grow (redrawn w5 d) os) fun en w'' => en = .returned (.agg #[.int .i64 ti, .int .i64 mo, .int .i64 ge]) ∧ ∃ p : Regrown, w'' = grow (redrawn w5 p.d) p.os :=
      fun d os => Calls.regrown_of (asked_any ti mo ge _)
    have c29 : ∀ d os, Calls Tryz.prog 29 #[.pointer none, .string obj, .agg (replyC st M A n c sf sto age), .agg #[.int .i64 ti, .int .i64 mo, .int .i64 ge]] (grow (redrawn w5 d) os) fun en w'' => en = .returned (.tuple #[.int .i64 0, .bool false]) ∧ ∃ p : Regrown, w'' = grow (redrawn w5 p.d) p.os :=
      fun d os => Calls.regrown_of (land_nil obj _ ti mo ge _)
    refine wp_region_quiet_below (by kernel_rfl) (by kernel_rfl) ?_
    repeat (go_big_quiet_step (first | exact c21 _ _ | exact c29 _ _))
    refine wpQuiet_nil ?_
    intro _ hw'
    obtain ⟨⟨dq, osq⟩, hw''⟩ := hw'
    subst hw''
    go_wp2_with fail
    go_meet
    exact ⟨rfl, rfl, below_regrown w5 dq osq⟩
  case rest =>
    obtain ⟨rfl, rfl, hb6⟩ := hcut
    have HB6 := Lib.hid (HB5.out.trans (hb6.mono (Nat.le_of_lt hlt5)))
    have HG7 := Lib.hid (HG6.out.below hb6 hlt5)
    have hlt6 : g < wc.heap.size := Nat.lt_of_lt_of_le hlt5 hb6.size
    clear hb6 HB5 HG6 hlt5
    go_upto_region 10 with fail
    go_cut [9, 10] (fun x y wx => x = .int .i64 0 ∧ y = .int .i64 4 ∧ Below wc.heap.size wc wx)
    case first =>
      obtain ⟨_, e1, _, _, _, _, _, _, _, _, _, _, _, _, _, _, _, e17, e18, e19, _⟩ := act_cells (HCS.out ▸ HG7.out : Blk wc g 47 (actC kd obj st M A n c sf sto age ti mo ge id f t hv ln))
      have r1 := cell_regrown e1
      have r17 := cell_regrown e17
      have r18 := cell_regrown e18
      have r19 := cell_regrown e19
      clear e1 e17 e18 e19
      have c21 : ∀ d os, Calls Tryz.prog 21 #[.agg #[.int .i64 ti, .int .i64 mo, .int .i64 ge]] (grow (redrawn wc d) os) fun en w'' => en = .returned (.agg #[.int .i64 ti, .int .i64 mo, .int .i64 ge]) ∧ ∃ p : Regrown, w'' = grow (redrawn wc p.d) p.os :=
        fun d os => Calls.regrown_of (asked_any ti mo ge _)
      have c20 : ∀ d os, Calls Tryz.prog 20 #[.pointer none, .string obj, .agg #[.int .i64 ti, .int .i64 mo, .int .i64 ge], .pointer (some ⟨lb, 0, none⟩)] (grow (redrawn wc d) os) fun en w'' => en = .returned (.tuple #[.int .i64 0, .int .i64 4]) ∧ ∃ p : Regrown, w'' = grow (redrawn wc p.d) p.os :=
        fun d os => Calls.regrown_of (use_nil obj ti mo ge lb _)
      refine wp_region_quiet_below (by kernel_rfl) (by kernel_rfl) ?_
      repeat (go_big_quiet_step (first | exact c21 _ _ | exact c20 _ _))
      refine wpQuiet_nil ?_
      intro _ hw'
      obtain ⟨⟨dq, osq⟩, hw''⟩ := hw'
      subst hw''
      go_wp2_with fail
      go_meet
      exact ⟨rfl, rfl, below_regrown wc dq osq⟩
    case rest =>
      obtain ⟨rfl, rfl, hb7⟩ := hcut
      have HB8 := Lib.hid (HB6.out.trans (hb7.mono (Nat.le_of_lt hlt6)))
      have HG8 := Lib.hid (HG7.out.below hb7 hlt6)
      have hlt8 : g < wc.heap.size := Nat.lt_of_lt_of_le hlt6 hb7.size
      clear hb7 HB6 HG7 hlt6
      have e20 := (act_cells (HCS.out ▸ HG8.out : Blk wc g 47 (actC kd obj st M A n c sf sto age ti mo ge id f t hv ln))).2.2.2.2.2.2.2.2.2.2.2.2.2.2.2.2.2.2.2.2.1
      have HI5 : Hid ((Tryz.prog.info? 57).map (·.size) = some zeroE.size) := size57
      have HS5 : Hid (17 = zeroE.size) := by show 17 = zeroE.size; rfl
      have H15 : Hid (zeroE.all (·.oneCell') = true) := by
        show zeroE.all (·.oneCell') = true
        simp [Value.oneCell']
      go_upto_region 11 with fail
      go_wp2_with fail
      refine (get_nil _ _).mono ?_
      rintro en v0 ⟨rfl, hb9⟩
      have HB9 := Lib.hid (HB8.out.trans (hb9.mono (Nat.le_of_lt hlt8)))
      have HG9 := Lib.hid (HG8.out.below hb9 hlt8)
      have hlt9 : g < v0.heap.size := Nat.lt_of_lt_of_le hlt8 hb9.size
      clear hb9 HB8 HG8 hlt8 e20
      go_upto_region 12 with (refine wpList_store_row rfl 57 _ _ rfl v0.heap.size zeroE rfl rfl 57 _ (Blk.new v0 57 _) HI5.out HS5.out H15.out ?_)
      rw [World.setRow_alloc_new]
      have HBA := Lib.hid (HB9.out.alloc (Nat.le_of_lt hlt9) (.cells zeroE 57))
      have HGA := Lib.hid (HG9.out.alloc (.cells zeroE 57))
      have hltA : g < (v0.alloc (.cells zeroE 57)).heap.size := by
        simp
        omega
      generalize v0.alloc (.cells zeroE 57) = x0 at *
      clear HB9 HG9 hlt9 HI5 HS5 H15
      obtain ⟨_, e1, _, _, _, _, _, _, _, _, _, _, _, _, _, _, _, e17, e18, e19, e20, e21, e22, e23, e24⟩ := act_cells (HCS.out ▸ HGA.out : Blk x0 g 47 (actC kd obj st M A n c sf sto age ti mo ge id f t hv ln))
      have HX0 := Lib.hid HBA.out
      have HY0 := Lib.hid HGA.out
      have l0 := hltA
      clear HBA HGA hltA
      go_wp2_with fail
      refine (last_nil _ _).mono ?_
      rintro en _ ⟨rfl, rfl⟩
      go_upto_region 13 with fail
      have r1 := cell_regrown e1
      have r17 := cell_regrown e17
      have r18 := cell_regrown e18
      have r19 := cell_regrown e19
      have r20 := cell_regrown e20
      have r21 := cell_regrown e21
      have r22 := cell_regrown e22
      have r23 := cell_regrown e23
      have r24 := cell_regrown e24
      clear e1 e17 e18 e19 e20 e21 e22 e23 e24
      have c21 : ∀ d os, Calls Tryz.prog 21 #[.agg #[.int .i64 ti, .int .i64 mo, .int .i64 ge]] (grow (redrawn x0 d) os) fun en w'' => en = .returned (.agg #[.int .i64 ti, .int .i64 mo, .int .i64 ge]) ∧ ∃ p : Regrown, w'' = grow (redrawn x0 p.d) p.os :=
        fun d os => Calls.regrown_of (asked_any ti mo ge _)
      have c30 : ∀ d os, Calls Tryz.prog 30 #[.pointer none, .int .i64 id, .agg #[.int .i64 ti, .int .i64 mo, .int .i64 ge]] (grow (redrawn x0 d) os) fun en w'' => en = .returned (.int .i64 1) ∧ ∃ p : Regrown, w'' = grow (redrawn x0 p.d) p.os :=
        fun d os => Calls.regrown_of (confirm_nil id ti mo ge _)
      have c31 : ∀ d os, Calls Tryz.prog 31 #[.pointer none, .string obj, .agg #[.int .i64 ti, .int .i64 mo, .int .i64 ge]] (grow (redrawn x0 d) os) fun en w'' => en = .returned (.slice none 0 0) ∧ ∃ p : Regrown, w'' = grow (redrawn x0 p.d) p.os :=
        fun d os => Calls.regrown_of (gone_nil obj ti mo ge _)
      have c32 : ∀ d os, Calls Tryz.prog 32 #[.pointer none, .int .i64 id, .agg #[.int .i64 f, .int .i64 t]] (grow (redrawn x0 d) os) fun en w'' => en = .returned (.int .i64 1) ∧ ∃ p : Regrown, w'' = grow (redrawn x0 p.d) p.os :=
        fun d os => Calls.regrown_of (fill_nil id f t _)
      have c33 : ∀ d os, Calls Tryz.prog 33 #[.pointer none, .int .i64 id, .agg #[.int .i64 f, .int .i64 t]] (grow (redrawn x0 d) os) fun en w'' => en = .returned (.int .i64 1) ∧ ∃ p : Regrown, w'' = grow (redrawn x0 p.d) p.os :=
        fun d os => Calls.regrown_of (lose_nil id f t _)
      have c34 : ∀ d os, Calls Tryz.prog 34 #[.pointer none, .int .i64 id, .int .i64 hv, .int .i64 ln] (grow (redrawn x0 d) os) fun en w'' => en = .returned (.int .i64 1) ∧ ∃ p : Regrown, w'' = grow (redrawn x0 p.d) p.os :=
        fun d os => Calls.regrown_of (learn_nil id hv ln _)
      have c35 : ∀ d os, Calls Tryz.prog 35 #[.pointer none, .int .i64 id] (grow (redrawn x0 d) os) fun en w'' => en = .returned (.bool false) ∧ ∃ p : Regrown, w'' = grow (redrawn x0 p.d) p.os :=
        fun d os => Calls.regrown_of (drop_nil id _)
      have c26 : ∀ d os, Calls Tryz.prog 26 #[.pointer none] (grow (redrawn x0 d) os) fun en w'' => en = .returned (.slice none 0 0) ∧ ∃ p : Regrown, w'' = grow (redrawn x0 p.d) p.os :=
        fun d os => Calls.regrown_of (all_nil _)
      have c36 : ∀ d os, Calls Tryz.prog 36 #[.pointer none, .int .i64 id] (grow (redrawn x0 d) os) fun en w'' => en = .returned (.agg #[.slice none 0 0]) ∧ ∃ p : Regrown, w'' = grow (redrawn x0 p.d) p.os :=
        fun d os => Calls.regrown_of (has_nil id _)
      have c37 : ∀ d os, Calls Tryz.prog 37 #[.agg #[.slice none 0 0]] (grow (redrawn x0 d) os) fun en w'' => en = .returned (.int .i64 0) ∧ ∃ p : Regrown, w'' = grow (redrawn x0 p.d) p.os :=
        fun d os => Calls.regrown_of (len_nil _)
      dsimp only [List.append]
      refine wp_region_quiet_below (by as_aux_lemma => kernel_rfl) (lexB_of_fast _ _ (by as_aux_lemma => kernel_rfl) rfl (by as_aux_lemma => kernel_rfl)) ?_
      iterate 25 (go_big_quiet_step (first | exact c21 _ _ | exact c30 _ _ | exact c31 _ _ | exact c32 _ _ | exact c33 _ _ | exact c34 _ _ | exact c35 _ _ | exact c26 _ _ | exact c36 _ _ | exact c37 _ _))
      as_aux_lemma =>
        iterate 25 (go_big_quiet_step (first | exact c21 _ _ | exact c30 _ _ | exact c31 _ _ | exact c32 _ _ | exact c33 _ _ | exact c34 _ _ | exact c35 _ _ | exact c26 _ _ | exact c36 _ _ | exact c37 _ _))
        as_aux_lemma =>
          iterate 25 (go_big_quiet_step (first | exact c21 _ _ | exact c30 _ _ | exact c31 _ _ | exact c32 _ _ | exact c33 _ _ | exact c34 _ _ | exact c35 _ _ | exact c26 _ _ | exact c36 _ _ | exact c37 _ _))
          as_aux_lemma =>
            repeat (go_big_quiet_step (first | exact c21 _ _ | exact c30 _ _ | exact c31 _ _ | exact c32 _ _ | exact c33 _ _ | exact c34 _ _ | exact c35 _ _ | exact c26 _ _ | exact c36 _ _ | exact c37 _ _))
            refine wpQuiet_nil ?_
            intro _ hw'
            obtain ⟨⟨dq, osq⟩, hw''⟩ := hw'
            subst hw''
            go_wp2_with fail
            go_ret
            exact ⟨rfl, hg ▸ HX0.out.trans ((below_regrown x0 dq osq).mono (Nat.le_of_lt l0))⟩

end Go.Proofs.YtoaiamgcegnjjaaGreatDoor
