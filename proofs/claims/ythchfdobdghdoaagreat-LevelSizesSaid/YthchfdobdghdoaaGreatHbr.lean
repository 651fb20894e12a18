/-
  Joined texts: LevY, LevZ, LRoom, LvCfg, LvKeep, LvMove, LvBox, LvTell, LvFill, LvFlat, LevEv, LevEvG, RvB.
-/
import Derived.Test.YthchfdobdghdoaaGreatHbq
import Derived.Test.YthchfdobdghdoaaGreatHag
import Derived.Deep.DeepCutAuto
import Derived.Test.YthchfdobdghdoaaGreatHba
import Derived.Test.YthchfdobdghdoaaGreatHbd
import Derived.Laws.Bits64b
import Derived.Test.YthchfdobdghdoaaGreatHbp
import Derived.Test.YthchfdobdghdoaaGreatHav
import Derived.Test.YthchfdobdghdoaaGreatHbm
import Derived.Test.YthchfdobdghdoaaGreatHbi
import Derived.Test.YthchfdobdghdoaaGreatHbe
import Derived.Deep.RegionHeld3
import Derived.Test.YthchfdobdghdoaaGreatHbg
set_option linter.unusedVariables false
set_option linter.unusedSimpArgs false
set_option linter.unusedSectionVars false
set_option linter.unnecessarySimpa false
section

/-
  The walk of shellgamelaw10.shown.
-/
namespace Go.Proofs.YthchfdobdghdoaaGreat
open Go Go.RowKit Go.Sg
section
variable {w0 w w' : World} {p q ib : Nat} {c : Lc} {first : Int} {S : Ls} {D : Nat → Prop} {X : World → Prop}
theorem LvR.lt (h : LvR w0 w p q ib c first S D X) : (∀ k, D k → k < w.heap.size) ∧ q < w.heap.size ∧ ib < w.heap.size := ⟨fun k hk => h.one.ltD k (.inl hk), h.one.ltD q (.inr (.inl rfl)), h.one.ltD ib (.inr (.inr rfl))⟩
theorem LvR.lv (h : LvR w0 w p q ib c first S D X) : LvX p q ib c first S.over S.ids w := h.one.x.2
theorem LvR.shape {D' : Nat → Prop} {X' : World → Prop} (h : OneX 88 w0 w p S.M (fun k => (D k ∨ (k = q ∨ k = ib)) ∨ D' k) (fun w => (X w ∧ LvX p q ib c first S.over S.ids w) ∧ X' w)) (ho : ∀ k, D k ∨ D' k → k ≠ q ∧ k ≠ ib) (hn : q ≠ ib) (hg : w0.heap.size ≤ q ∧ w0.heap.size ≤ ib) :
    LvR w0 w p q ib c first S (fun k => D k ∨ D' k) (fun w => X w ∧ X' w) :=
  ⟨h.less (fun k hk => by
    rcases hk with (hk | hk) | hk
    · exact .inl (.inl hk)
    · exact .inr hk
    · exact .inl (.inr hk)) (fun hx => ⟨⟨hx.1.1, hx.2⟩, hx.1.2⟩), ho, hn, hg⟩
/-- a new block lies beside a level -/
theorem LvR.box (hK : Keeps D X) (h : LvR w0 w p q ib c first S D X) (cs : Array Value) (t : TypeId) : LvR w0 (w.alloc (.cells cs t)) p q ib c first S (fun k => D k ∨ k = w.heap.size) (fun w' => X w' ∧ Blk w' w.heap.size cs t) := by
  have hl := h.lt
  refine LvR.shape (h.one.box (keeps_and hK (keeps_lv _ _ _ _ _ _ _)) cs t) (fun k hk => ?_) h.ne h.ge
  rcases hk with hk | hk
  · exact h.off k hk
  · omega
/-- .. and is filled -/
theorem LvR.fill (hK : Keeps D X) (h : LvR w0 w p q ib c first S D X) (cs c2 : Array Value) (t : TypeId) : LvR w0 ((w.alloc (.cells cs t)).setRow w.heap.size c2) p q ib c first S (fun k => D k ∨ k = w.heap.size) (fun w' => X w' ∧ Blk w' w.heap.size c2 t) := by
  have hl := h.lt
  refine LvR.shape (h.one.fillF (keeps_and hK (keeps_lv _ _ _ _ _ _ _)) cs c2 t) (fun k hk => ?_) h.ne h.ge
  rcases hk with hk | hk
  · exact h.off k hk
  · omega
theorem LvR.less {E : Nat → Prop} {Y : World → Prop} (h : LvR w0 w p q ib c first S D X) (hE : ∀ k, E k → D k) (hy : ∀ w, X w → Y w) : LvR w0 w p q ib c first S E Y :=
  ⟨h.one.less (fun k hk => hk.imp (hE k) id) (fun hx => ⟨hy _ hx.1, hx.2⟩), fun k hk => h.off k (hE k hk), h.ne, h.ge⟩
end
/-- the example's config -/
def c112 : Lc := (1, 1, 2)
theorem c112_right : lcRight c112 = true := by decide +kernel
theorem c112_ok : LcOk c112 := ⟨⟨by decide, by decide⟩, ⟨by decide, by decide⟩, ⟨by decide, by decide⟩⟩
theorem c112_new : Mm.newOk (zsL c112) = true := by decide +kernel
theorem c112_lev : newOk (Mm.fresh (zsL c112)) 1 c112 = true := by decide +kernel
/-- the example's level, access by access -/
def e1S : Ls := (mkL c112).acc 1 c112 1 7 0 (datL 1) 0 0
def e2S : Ls := e1S.acc 1 c112 0 7 0 zero8 0 0
def e3S : Ls := e2S.acc 1 c112 3 7 0 zero8 0 0
def e4S : Ls := e3S.acc 1 c112 0 7 0 zero8 0 0
theorem zero8_ok : zero8.length = 8 ∧ ∀ x ∈ zero8, Word x := ⟨rfl, fun x hx => by simp [zero8] at hx; rw [hx]; exact ⟨by decide, by decide⟩⟩
theorem datL_ok (n : Int) : (datL n).length = 8 ∧ ∀ x ∈ datL n, Word x := ⟨datL_len n, datL_word n⟩
theorem shown_plain : (mkL c112).tell 1 c112 1 7 0 0 0 = (zero8, false) ∧ e1S.tell 1 c112 0 7 0 0 0 = (datL 1, true) ∧ e2S.tell 1 c112 3 7 0 0 0 = (datL 1, true) ∧ e3S.tell 1 c112 0 7 0 0 0 = (zero8, false) ∧ e4S.over = false ∧ cntL e4S.ids = 1 ∧
    (LvOk c112 1 (mkL c112).M ∧ LvOk c112 1 e1S.M ∧ LvOk c112 1 e2S.M ∧ LvOk c112 1 e3S.M) ∧ (e1S.M.evs.length ≤ 300000 ∧ e2S.M.evs.length ≤ 600000 ∧ e3S.M.evs.length ≤ 900000) ∧ ((mkL c112).ids.length ≤ 100 ∧ e1S.ids.length ≤ 100 ∧ e2S.ids.length ≤ 100 ∧ e3S.ids.length ≤ 100) := by
  have h0 := ls_start c112_right
  have hz : (0 : Int) ≤ 0 ∧ (0 : Int) < c112.1 := ⟨by decide, by decide⟩
  have e0 : edL 1 0 (datL 1) (findB 7 []).1 (findB 7 []).2 = (datL 1, true) := rfl
  have m1 : mpN [] 7 0 (datL 1, true) = [(7, 0, datL 1)] := rfl
  have f1 : findB 7 [(7, 0, datL 1)] = (datL 1, true) := rfl
  obtain ⟨t1, i1, o1, d1, v1⟩ := ls_step (op := 1) (id := 7) (at' := 0) (fr := 0) (lf := 0) (d := datL 1) c112_right (by decide) h0 (by decide) (by decide) hz hz (datL_ok 1) (by decide) (fun b hb => by cases hb)
  rw [e0, m1] at i1 o1
  have h1 := i1 (o1 (by decide))
  have e1' : edL 0 0 zero8 (findB 7 [(7, 0, datL 1)]).1 (findB 7 [(7, 0, datL 1)]).2 = (datL 1, true) := rfl
  have m2 : mpN [(7, 0, datL 1)] 7 0 (datL 1, true) = [(7, 0, datL 1)] := rfl
  obtain ⟨t2, i2, o2, d2, v2⟩ := ls_step (op := 0) (id := 7) (at' := 0) (fr := 0) (lf := 0) (d := zero8) c112_right (by decide) h1 (by decide) (by decide) hz hz zero8_ok (by decide) (fun b hb _ => by rw [List.mem_singleton] at hb; rw [hb])
  rw [e1', m2] at i2 o2
  have h2 := i2 (o2 (by decide))
  have e2' : edL 3 0 zero8 (findB 7 [(7, 0, datL 1)]).1 (findB 7 [(7, 0, datL 1)]).2 = (datL 1, false) := rfl
  have m3 : mpN [(7, 0, datL 1)] 7 0 (datL 1, false) = [] := rfl
  obtain ⟨t3, i3, o3, d3, v3⟩ := ls_step (op := 3) (id := 7) (at' := 0) (fr := 0) (lf := 0) (d := zero8) c112_right (by decide) h2 (by decide) (by decide) hz hz zero8_ok (by decide) (fun b hb _ => by rw [List.mem_singleton] at hb; rw [hb])
  rw [e2', m3] at i3 o3
  have h3 := i3 (o3 (by decide))
  have e3' : edL 0 0 zero8 (findB 7 []).1 (findB 7 []).2 = (zero8, false) := rfl
  have m4 : mpN [] 7 0 (zero8, false) = [] := rfl
  obtain ⟨t4, i4, o4, d4, v4⟩ := ls_step (op := 0) (id := 7) (at' := 0) (fr := 0) (lf := 0) (d := zero8) c112_right (by decide) h3 (by decide) (by decide) hz hz zero8_ok (by decide) (fun b hb => by cases hb)
  rw [e3', m4] at o4
  have g1 : e1S.ids = [7] := d1
  have g2 : e2S.ids = [7] := d2.trans g1
  have g3 : e3S.ids = [7] := d3.trans g2
  have g4 : e4S.ids = [7] := d4.trans g3
  have w0 : (mkL c112).M.evs.length = 0 := rfl
  have w1 : e1S.M.evs.length ≤ (mkL c112).M.evs.length + 300000 := v1
  have w2 : e2S.M.evs.length ≤ e1S.M.evs.length + 300000 := v2
  have w3 : e3S.M.evs.length ≤ e2S.M.evs.length + 300000 := v3
  refine ⟨t1, t2, t3, t4, o4 (by decide), by rw [g4]; decide +kernel, ⟨h0.inv.ok, h1.inv.ok, h2.inv.ok, h3.inv.ok⟩, ⟨by omega, by omega, by omega⟩, ⟨by decide, by rw [g1]; decide, by rw [g2]; decide, by rw [g3]; decide⟩⟩
end Go.Proofs.YthchfdobdghdoaaGreat
end
section

/-
  The walk of shellgamelaw10.shown.
-/
namespace Go.Proofs.YthchfdobdghdoaaGreat
open Go Go.RowKit Go.Sg
set_option maxHeartbeats 4000000 in
set_option maxRecDepth 100000 in
theorem lshown_any (w : World) : Calls Tryz.prog 5 #[] w fun e w' => e = .returned (.bool true) ∧ Below w.heap.size w w' := by
  obtain ⟨s1, s2, s3, s4, s5, s6, ⟨o1, o2, o3, o4⟩, ⟨v1, v2, v3⟩, ⟨l1, l2, l3, l4⟩⟩ := shown_plain
  have KM : Hid (Calls Tryz.prog 20 #[.agg #[.int .i64 1, .int .i64 1, .int .i64 2]] w fun e w' => ∃ p q ib, e = .returned (.tuple #[.pointer (some ⟨p, 0, none⟩), .pointer (some ⟨q, 0, none⟩)]) ∧ LvR w w' p q ib c112 1 (mkL c112) (fun _ => False) (fun _ => True)) := Lib.hid (lmade_any c112 c112_ok c112_new c112_lev w)
  have KD := Lib.hid (fun w' => ldata_any 1 ⟨by decide, by decide⟩ w')
  have A1 : Hid (∀ (w1 : World) (p q ib : Nat) (D : Nat → Prop) (X : World → Prop), Keeps D X → LvR w w1 p q ib c112 1 (mkL c112) D X → Calls Tryz.prog 22 #[.pointer (some ⟨q, 0, none⟩), .int .i64 1, .int .u64 7, .int .i64 0, .agg (cw (datL 1)), .int .i64 0, .int .i64 0] w1 fun e w' => e = .returned (.tuple #[.agg (cw zero8), .bool false]) ∧ LvR w w' p q ib c112 1 e1S D X) := Lib.hid fun w1 p q ib D X hK h => by
    have := lAccess_any hK c112 c112_ok c112_right 1 (by decide) 1 7 0 0 0 (datL 1) (datL_len 1) (datL_word 1) ⟨by decide, by decide⟩ q ib (mkL c112) (by omega) o1 (by show (0 : Nat) ≤ _; omega) h
    rw [s1] at this
    exact this
  have A2 : Hid (∀ (w1 : World) (p q ib : Nat) (D : Nat → Prop) (X : World → Prop), Keeps D X → LvR w w1 p q ib c112 1 e1S D X → Calls Tryz.prog 22 #[.pointer (some ⟨q, 0, none⟩), .int .i64 0, .int .u64 7, .int .i64 0, .agg (cw zero8), .int .i64 0, .int .i64 0] w1 fun e w' => e = .returned (.tuple #[.agg (cw (datL 1)), .bool true]) ∧ LvR w w' p q ib c112 1 e2S D X) := Lib.hid fun w1 p q ib D X hK h => by
    have := lAccess_any hK c112 c112_ok c112_right 1 (by decide) 0 7 0 0 0 zero8 zero8_ok.1 zero8_ok.2 ⟨by decide, by decide⟩ q ib e1S (by omega) o2 (by omega) h
    rw [s2] at this
    exact this
  have A3 : Hid (∀ (w1 : World) (p q ib : Nat) (D : Nat → Prop) (X : World → Prop), Keeps D X → LvR w w1 p q ib c112 1 e2S D X → Calls Tryz.prog 22 #[.pointer (some ⟨q, 0, none⟩), .int .i64 3, .int .u64 7, .int .i64 0, .agg (cw zero8), .int .i64 0, .int .i64 0] w1 fun e w' => e = .returned (.tuple #[.agg (cw (datL 1)), .bool true]) ∧ LvR w w' p q ib c112 1 e3S D X) := Lib.hid fun w1 p q ib D X hK h => by
    have := lAccess_any hK c112 c112_ok c112_right 1 (by decide) 3 7 0 0 0 zero8 zero8_ok.1 zero8_ok.2 ⟨by decide, by decide⟩ q ib e2S (by omega) o3 (by omega) h
    rw [s3] at this
    exact this
  have A4 : Hid (∀ (w1 : World) (p q ib : Nat) (D : Nat → Prop) (X : World → Prop), Keeps D X → LvR w w1 p q ib c112 1 e3S D X → Calls Tryz.prog 22 #[.pointer (some ⟨q, 0, none⟩), .int .i64 0, .int .u64 7, .int .i64 0, .agg (cw zero8), .int .i64 0, .int .i64 0] w1 fun e w' => e = .returned (.tuple #[.agg (cw zero8), .bool false]) ∧ LvR w w' p q ib c112 1 e4S D X) := Lib.hid fun w1 p q ib D X hK h => by
    have := lAccess_any hK c112 c112_ok c112_right 1 (by decide) 0 7 0 0 0 zero8 zero8_ok.1 zero8_ok.2 ⟨by decide, by decide⟩ q ib e3S (by omega) o4 (by omega) h
    rw [s4] at this
    exact this
  have HOV : Hid (e4S.over = false ∧ cntL e4S.ids = 1) := Lib.hid ⟨s5, s6⟩
  have HDL : Hid ((datL 1).length = 8) := Lib.hid (datL_len 1)
  clear s1 s2 s3 s4 s5 s6 o1 o2 o3 o4 v1 v2 v3 l1 l2 l3 l4
  generalize datL 1 = dl at *
  generalize e1S = E1 at *
  generalize e2S = E2 at *
  generalize e3S = E3 at *
  generalize e4S = E4 at *
  go_enter Tryz.func5, Tryz.ntmps5
  go_wp2_with fail
  refine KM.out.mono ?_
  rintro e w1 ⟨p, q, ib, rfl, h1⟩
  obtain ⟨N, hN⟩ : ∃ N, w1.heap.size = N := ⟨_, rfl⟩
  have h2 := h1.box keeps_true (cw zero8) 61
  rw [hN] at h2
  have H2 := Lib.hid h2
  clear h1 h2 KM
  go_upto_region 5 with fail
  rw [show w1.alloc (.cells #[.int .u64 0, .int .u64 0, .int .u64 0, .int .u64 0, .int .u64 0, .int .u64 0, .int .u64 0, .int .u64 0] 61) = w1.alloc (.cells (cw zero8) 61) from rfl]
  refine at_world (fun w' => LvR w w' p q ib c112 1 (mkL c112) (fun k => False ∨ k = N) (fun w => True ∧ Blk w N (cw zero8) 61)) H2.out ?_
  intro w2 h2
  have HKN := Lib.hid (keeps_and keeps_true (keeps_blk N (cw zero8) 61))
  have H2 := Lib.hid h2
  have HI0 : Hid ((Tryz.prog.info? 61).map (·.size) = some (cw zero8).size) := Lib.hid (info_dataL zero8 rfl)
  have HO0 : Hid ((cw zero8).all (·.oneCell') = true) := Lib.hid (cw_all _)
  have HID : Hid ((Tryz.prog.info? 61).map (·.size) = some (cw dl).size) := Lib.hid (info_dataL dl HDL.out)
  have HOD : Hid ((cw dl).all (·.oneCell') = true) := Lib.hid (cw_all _)
  have HZD : Hid ((#[.int .u64 0, .int .u64 0, .int .u64 0, .int .u64 0, .int .u64 0, .int .u64 0, .int .u64 0, .int .u64 0] : Array Value).size = (cw dl).size) := Lib.hid (by rw [cw_size, HDL.out]; rfl)
  clear h2
  go_wp2_with fail
  refine (KD.out _).mono ?_
  rintro e w3 ⟨rfl, hb3⟩
  have H3 := Lib.hid (H2.out.below HKN.out hb3)
  clear hb3 H2
  go_wp2_with fail
  refine (A1.out _ _ _ _ _ _ HKN.out H3.out).mono ?_
  rintro e w4 ⟨rfl, h4⟩
  obtain ⟨N4, hN4⟩ : ∃ N4, w4.heap.size = N4 := ⟨_, rfl⟩
  have hbx := h4.box HKN.out #[.int .u64 0, .int .u64 0, .int .u64 0, .int .u64 0, .int .u64 0, .int .u64 0, .int .u64 0, .int .u64 0] 61
  have hfl := h4.fill HKN.out #[.int .u64 0, .int .u64 0, .int .u64 0, .int .u64 0, .int .u64 0, .int .u64 0, .int .u64 0, .int .u64 0] (cw zero8) 61
  rw [hN4] at hbx hfl
  have HBX := Lib.hid hbx
  have HFL := Lib.hid (hfl.less (E := fun k => False ∨ k = N) (Y := fun w => True ∧ Blk w N (cw zero8) 61) (fun k hk => .inl hk) (fun _ hx => hx.1))
  clear h4 hbx hfl H3 A1
  go_upto_region 6 with (first
    | (refine wpList_store_row rfl 61 (.tmp 4) (.tmp 23) rfl N4 (cw zero8) rfl rfl 61 _ HBX.out.x.2 HI0.out (by rfl) HO0.out ?_)
    | fail)
  refine at_world (fun w' => LvR w w' p q ib c112 1 E1 (fun k => False ∨ k = N) (fun w => True ∧ Blk w N (cw zero8) 61)) HFL.out ?_
  intro w5 h5
  have H5 := Lib.hid h5
  clear h5 HBX HFL hN4
  go_wp2_with (first
    | (refine wpList_load_row rfl 61 (.tmp 3) rfl N rfl 61 (cw zero8) (0, 0) _ H5.out.x.2 Tryz.underlying61 rfl HI0.out ?_)
    | fail)
  refine (A2.out _ _ _ _ _ _ HKN.out H5.out).mono ?_
  rintro e w6 ⟨rfl, h6⟩
  obtain ⟨N6, hN6⟩ : ∃ N6, w6.heap.size = N6 := ⟨_, rfl⟩
  have hbx := h6.box HKN.out #[.int .u64 0, .int .u64 0, .int .u64 0, .int .u64 0, .int .u64 0, .int .u64 0, .int .u64 0, .int .u64 0] 61
  have hfl := h6.fill HKN.out #[.int .u64 0, .int .u64 0, .int .u64 0, .int .u64 0, .int .u64 0, .int .u64 0, .int .u64 0, .int .u64 0] (cw dl) 61
  rw [hN6] at hbx hfl
  have HBX := Lib.hid hbx
  have HFL := Lib.hid hfl
  have HK6 := Lib.hid (keeps_and HKN.out (keeps_blk N6 (cw dl) 61))
  clear h6 hbx hfl H5 A2
  go_upto_region 7 with (first
    | (refine wpList_store_row rfl 61 (.tmp 6) (.tmp 29) rfl N6 (cw dl) rfl rfl 61 _ HBX.out.x.2 HID.out HZD.out HOD.out ?_)
    | fail)
  refine at_world (fun w' => LvR w w' p q ib c112 1 E2 (fun k => (False ∨ k = N) ∨ k = N6) (fun w => (True ∧ Blk w N (cw zero8) 61) ∧ Blk w N6 (cw dl) 61)) HFL.out ?_
  intro w7 h7
  have H7 := Lib.hid h7
  clear h7 HBX HFL hN6
  go_wp2_with (first
    | (refine wpList_load_row rfl 61 (.tmp 3) rfl N rfl 61 (cw zero8) (0, 0) _ H7.out.x.1.2 Tryz.underlying61 rfl HI0.out ?_)
    | fail)
  refine (A3.out _ _ _ _ _ _ HK6.out H7.out).mono ?_
  rintro e w8 ⟨rfl, h8⟩
  obtain ⟨N8, hN8⟩ : ∃ N8, w8.heap.size = N8 := ⟨_, rfl⟩
  have hbx := h8.box HK6.out #[.int .u64 0, .int .u64 0, .int .u64 0, .int .u64 0, .int .u64 0, .int .u64 0, .int .u64 0, .int .u64 0] 61
  have hfl := h8.fill HK6.out #[.int .u64 0, .int .u64 0, .int .u64 0, .int .u64 0, .int .u64 0, .int .u64 0, .int .u64 0, .int .u64 0] (cw dl) 61
  rw [hN8] at hbx hfl
  have HBX := Lib.hid hbx
  have HFL := Lib.hid hfl
  have HK8 := Lib.hid (keeps_and HK6.out (keeps_blk N8 (cw dl) 61))
  clear h8 hbx hfl H7 A3
  go_upto_region 8 with (first
    | (refine wpList_store_row rfl 61 (.tmp 8) (.tmp 35) rfl N8 (cw dl) rfl rfl 61 _ HBX.out.x.2 HID.out HZD.out HOD.out ?_)
    | fail)
  refine at_world (fun w' => LvR w w' p q ib c112 1 E3 (fun k => ((False ∨ k = N) ∨ k = N6) ∨ k = N8) (fun w => ((True ∧ Blk w N (cw zero8) 61) ∧ Blk w N6 (cw dl) 61) ∧ Blk w N8 (cw dl) 61)) HFL.out ?_
  intro w9 h9
  have H9 := Lib.hid h9
  clear h9 HBX HFL hN8
  go_wp2_with (first
    | (refine wpList_load_row rfl 61 (.tmp 3) rfl N rfl 61 (cw zero8) (0, 0) _ H9.out.x.1.1.2 Tryz.underlying61 rfl HI0.out ?_)
    | fail)
  refine (A4.out _ _ _ _ _ _ HK8.out H9.out).mono ?_
  rintro e wa ⟨rfl, ha⟩
  obtain ⟨NA, hNA⟩ : ∃ NA, wa.heap.size = NA := ⟨_, rfl⟩
  have hbx := ha.box HK8.out #[.int .u64 0, .int .u64 0, .int .u64 0, .int .u64 0, .int .u64 0, .int .u64 0, .int .u64 0, .int .u64 0] 61
  have hfl := ha.fill HK8.out #[.int .u64 0, .int .u64 0, .int .u64 0, .int .u64 0, .int .u64 0, .int .u64 0, .int .u64 0, .int .u64 0] (cw zero8) 61
  rw [hNA] at hbx hfl
  have HBX := Lib.hid hbx
  have HFL := Lib.hid (hfl.less (E := (fun k => ((False ∨ k = N) ∨ k = N6) ∨ k = N8)) (Y := (fun w => ((True ∧ Blk w N (cw zero8) 61) ∧ Blk w N6 (cw dl) 61) ∧ Blk w N8 (cw dl) 61)) (fun k hk => .inl hk) (fun _ hx => hx.1))
  clear ha hbx hfl H9 A4
  go_upto_region 9 with (first
    | (refine wpList_store_row rfl 61 (.tmp 10) (.tmp 41) rfl NA (cw zero8) rfl rfl 61 _ HBX.out.x.2 HI0.out (by rfl) HO0.out ?_)
    | fail)
  refine at_world (fun w' => LvR w w' p q ib c112 1 E4 (fun k => ((False ∨ k = N) ∨ k = N6) ∨ k = N8) (fun w => ((True ∧ Blk w N (cw zero8) 61) ∧ Blk w N6 (cw dl) 61) ∧ Blk w N8 (cw dl) 61)) HFL.out ?_
  intro wb hb
  have HB := Lib.hid hb
  clear hb HBX HFL hNA
  have hdl : ∃ x0 x1 x2 x3 x4 x5 x6 x7, dl = [x0, x1, x2, x3, x4, x5, x6, x7] := by
    have hl := HDL.out
    match dl, hl with
    | [x0, x1, x2, x3, x4, x5, x6, x7], _ => exact ⟨x0, x1, x2, x3, x4, x5, x6, x7, rfl⟩
  obtain ⟨x0, x1, x2, x3, x4, x5, x6, x7, rfl⟩ := hdl
  have EQ : ∀ w, (Op.equalIn 10000 61 (.agg #[.int .u64 x0, .int .u64 x1, .int .u64 x2, .int .u64 x3, .int .u64 x4, .int .u64 x5, .int .u64 x6, .int .u64 x7]) (.agg #[.int .u64 x0, .int .u64 x1, .int .u64 x2, .int .u64 x3, .int .u64 x4, .int .u64 x5, .int .u64 x6, .int .u64 x7])).run Tryz.prog w = .ok true w := fun w => by
    have h := run_eqdata [x0, x1, x2, x3, x4, x5, x6, x7] [x0, x1, x2, x3, x4, x5, x6, x7] rfl rfl w
    rw [decide_eq_true rfl] at h
    exact h
  have HID8 : Hid ((Tryz.prog.info? 61).map (·.size) = some ((#[.int .u64 x0, .int .u64 x1, .int .u64 x2, .int .u64 x3, .int .u64 x4, .int .u64 x5, .int .u64 x6, .int .u64 x7] : Array Value)).size) := Lib.hid (by kernel_rfl)
  have hd := HB.out.below HK8.out ((Below.refl _ _).drew)
  have HRG : Hid (∀ w', LvR w w' p q ib c112 1 E4 (fun k => ((False ∨ k = N) ∨ k = N6) ∨ k = N8) (fun w => ((True ∧ Blk w N (cw zero8) 61) ∧ Blk w N6 (cw [x0, x1, x2, x3, x4, x5, x6, x7]) 61) ∧ Blk w N8 (cw [x0, x1, x2, x3, x4, x5, x6, x7]) 61) → w'.cell? ⟨N6, 0, none⟩ = some (.int .u64 x0) ∧ w'.cell? ⟨N6, 1, none⟩ = some (.int .u64 x1) ∧ w'.cell? ⟨N6, 2, none⟩ = some (.int .u64 x2) ∧ w'.cell? ⟨N6, 3, none⟩ = some (.int .u64 x3) ∧ w'.cell? ⟨N6, 4, none⟩ = some (.int .u64 x4) ∧ w'.cell? ⟨N6, 5, none⟩ = some (.int .u64 x5) ∧ w'.cell? ⟨N6, 6, none⟩ = some (.int .u64 x6) ∧ w'.cell? ⟨N6, 7, none⟩ = some (.int .u64 x7) ∧ w'.cell? ⟨N8, 0, none⟩ = some (.int .u64 x0) ∧ w'.cell? ⟨N8, 1, none⟩ = some (.int .u64 x1) ∧ w'.cell? ⟨N8, 2, none⟩ = some (.int .u64 x2) ∧ w'.cell? ⟨N8, 3, none⟩ = some (.int .u64 x3) ∧ w'.cell? ⟨N8, 4, none⟩ = some (.int .u64 x4) ∧ w'.cell? ⟨N8, 5, none⟩ = some (.int .u64 x5) ∧ w'.cell? ⟨N8, 6, none⟩ = some (.int .u64 x6) ∧ w'.cell? ⟨N8, 7, none⟩ = some (.int .u64 x7)) := Lib.hid fun w' h => ⟨h.x.1.2.cell 0, h.x.1.2.cell 1, h.x.1.2.cell 2, h.x.1.2.cell 3, h.x.1.2.cell 4, h.x.1.2.cell 5, h.x.1.2.cell 6, h.x.1.2.cell 7, h.x.2.cell 0, h.x.2.cell 1, h.x.2.cell 2, h.x.2.cell 3, h.x.2.cell 4, h.x.2.cell 5, h.x.2.cell 6, h.x.2.cell 7⟩
  have HLV : Hid (∀ w', LvR w w' p q ib c112 1 E4 (fun k => ((False ∨ k = N) ∨ k = N6) ∨ k = N8) (fun w => ((True ∧ Blk w N (cw zero8) 61) ∧ Blk w N6 (cw [x0, x1, x2, x3, x4, x5, x6, x7]) 61) ∧ Blk w N8 (cw [x0, x1, x2, x3, x4, x5, x6, x7]) 61) → Calls Tryz.prog 26 #[.pointer (some ⟨q, 0, none⟩)] w' (fun e w2 => e = .returned (.bool false) ∧ w2 = w') ∧ Calls Tryz.prog 27 #[.pointer (some ⟨q, 0, none⟩)] w' (fun e w2 => e = .returned (.int .i64 1) ∧ w2 = w')) := Lib.hid fun w' h => by
    have h1 := lOver_any p q ib c112 1 E4.over w' h.lv.1
    have h2 := lBlocks_any p q ib c112 1 E4.over E4.ids w' h.lv
    rw [HOV.out.1] at h1
    rw [HOV.out.2] at h2
    exact ⟨h1, h2⟩
  have KD8 : Hid (∀ w', Calls Tryz.prog 23 #[.int .u64 1] w' fun e w2 => e = .returned (.agg #[.int .u64 x0, .int .u64 x1, .int .u64 x2, .int .u64 x3, .int .u64 x4, .int .u64 x5, .int .u64 x6, .int .u64 x7]) ∧ Below w'.heap.size w' w2) := Lib.hid (fun w' => KD.out w')
  clear HI0 HO0 HID HOD HZD HOV KD
  go_upto_region 9 with fail
  go_region_held3 (fun w' => w'.cell? ⟨N6, 0, none⟩ = some (.int .u64 x0) ∧ w'.cell? ⟨N6, 1, none⟩ = some (.int .u64 x1) ∧ w'.cell? ⟨N6, 2, none⟩ = some (.int .u64 x2) ∧ w'.cell? ⟨N6, 3, none⟩ = some (.int .u64 x3) ∧ w'.cell? ⟨N6, 4, none⟩ = some (.int .u64 x4) ∧ w'.cell? ⟨N6, 5, none⟩ = some (.int .u64 x5) ∧ w'.cell? ⟨N6, 6, none⟩ = some (.int .u64 x6) ∧ w'.cell? ⟨N6, 7, none⟩ = some (.int .u64 x7) ∧ w'.cell? ⟨N8, 0, none⟩ = some (.int .u64 x0) ∧ w'.cell? ⟨N8, 1, none⟩ = some (.int .u64 x1) ∧ w'.cell? ⟨N8, 2, none⟩ = some (.int .u64 x2) ∧ w'.cell? ⟨N8, 3, none⟩ = some (.int .u64 x3) ∧ w'.cell? ⟨N8, 4, none⟩ = some (.int .u64 x4) ∧ w'.cell? ⟨N8, 5, none⟩ = some (.int .u64 x5) ∧ w'.cell? ⟨N8, 6, none⟩ = some (.int .u64 x6) ∧ w'.cell? ⟨N8, 7, none⟩ = some (.int .u64 x7)) (first | exact HRG.out _ hd | exact HRG.out _ hx1 | exact HRG.out _ hx2) (first
    | (go_at_call 23; with_reducible refine (KD8.out _).mono ?_; rintro e wx ⟨rfl, hbx⟩; first | have hx2 := hx1.below HK8.out hbx | have hx1 := hd.below HK8.out hbx)
    | (go_at_call 26; with_reducible refine (HLV.out _ (by assumption)).1.mono ?_; rintro e wy ⟨rfl, rfl⟩)
    | (go_at_call 27; with_reducible refine (HLV.out _ (by assumption)).2.mono ?_; rintro e wy ⟨rfl, rfl⟩))
  all_goals
    have HF := Lib.hid hx2.one.old
    clear hx2 hx1 hd
    go_wp2
    go_ret
    exact ⟨rfl, HF.out⟩
end Go.Proofs.YthchfdobdghdoaaGreat
end
section

/-
  LevelRoom, in plain Lean: few blocks.
-/
namespace Go.Sg
open Go Go.RowKit Go.Proofs.YthchfdobdghdoaaGreat
end Go.Sg
end
section

/-
  The small configs of the laws are right, and levels can be made for them; an access keeps a level fit.
-/
namespace Go.Sg
open Go Go.RowKit Go.Proofs.YthchfdobdghdoaaGreat
structure CfgOk (c : Lc) : Prop where
  right : lcRight c = true
  ok : LcOk c
  new : Mm.newOk (zsL c) = true
  lev : newOk (Mm.fresh (zsL c)) 1 c = true
  b1 : 1 ≤ c.1 ∧ c.1 ≤ 8
  b2 : 1 ≤ c.2.1 ∧ c.2.1 ≤ 3
  b3 : 1 ≤ c.2.2 ∧ c.2.2 ≤ 8
def cfg96 : List Lc := (List.range 4).flatMap fun a : Nat => (List.range 3).flatMap fun b : Nat => (List.range 8).map fun d : Nat => ((2 : Int) ^ a, 1 + (b : Int), 1 + (d : Int))
/-- a level that an access can be made of, k having been made -/
structure LsFit (c : Lc) (first : Int) (S : Ls) (k : Nat) : Prop where
  ok : LvOk c first S.M
  ids : S.ids.length ≤ k
  evs : S.M.evs.length ≤ k * 300000
theorem accT_ok {c : Lc} {first : Int} {M : Mm} {op id at' fr lf : Int} {d : List Int} (hr : lcRight c = true) (hok : LvOk c first M) (hfr : hasB c.1 fr = true) (hlf : hasB c.1 lf = true) (hid : 0 ≤ id ∧ id ≤ 2147483648) (hd : d.length = 8 ∧ ∀ x ∈ d, Word x) (hat : op = 2 → 0 ≤ at' ∧ at' ≤ 6) :
    TabOk c (accT M first c fr lf id op at' d) := by
  have hcell : ∀ x ∈ accC M first c fr, CellOk c.1 x := fun x hx => by
    obtain ⟨s, hs, rfl⟩ := List.mem_map.1 hx
    exact (hok.sp fr hfr s hs).2
  have hold : (accO M first c fr id).1.length = 8 ∧ ∀ x ∈ (accO M first c fr id).1, Word x := oldL_ok id (accC M first c fr) (fun x hx => ⟨(hcell x hx).1, (hcell x hx).2.1⟩)
  have hed := edL_ok (t := (accO M first c fr id).2) hd hold hat
  have hlfb := hasB_lt hlf
  unfold accT
  generalize edL op at' d (accO M first c fr id).1 (accO M first c fr id).2 = e at *
  have hnow : CellOk c.1 (nowC id lf e) := by
    unfold nowC
    split
    · exact blkC_ok hlfb.2.2 hid hlf ⟨hlfb.1, hlfb.2.1⟩ hed.1 hed.2
    · exact zeros_ok _
  exact ⟨fun i _ => gatT_ok hcell hnow i⟩
theorem fit_step {c : Lc} {first : Int} {S : Ls} {k : Nat} {op id at' fr lf : Int} {d : List Int} (hr : lcRight c = true) (hf : 0 ≤ first) (h : LsFit c first S k) (hid : 0 ≤ id) (hd : d.length = 8 ∧ ∀ x ∈ d, Word x) : LsFit c first (S.acc first c op id at' d fr lf) (k + 1) := by
  unfold Ls.acc
  by_cases hb : badA c op id at' fr lf = true
  · rw [if_pos hb]
    exact ⟨h.ok, Nat.le_trans h.ids (Nat.le_succ k), Nat.le_trans h.evs (Nat.mul_le_mul_right _ (Nat.le_succ k))⟩
  · rw [if_neg hb]
    obtain ⟨q1, q2, q3, q4, q5⟩ := badA_no hr (by simpa using hb)
    have hT := accT_ok (op := op) (at' := at') (d := d) hr h.ok q3 q4 ⟨hid, q2⟩ hd q5
    refine ⟨acc_lvOk hr q3 hf hT h.ok, ?_, ?_⟩
    · have := h.ids
      show (if op = 1 ∨ op = 2 then S.ids ++ [id] else S.ids).length ≤ k + 1
      split
      · rw [List.length_append, List.length_singleton]; omega
      · omega
    · show (accM S.M first c fr _).evs.length ≤ _
      unfold accM
      rw [bakM_evs]
      have hbd := lcTab_bd c
      have hln := spL_len (first := first) hr q3
      have h3 := h.evs
      have h4 := dealM_evs (gatM S.M (first + 2) (spL first c fr) (accT S.M first c fr lf id op at' d) (lcTab c).toNat) (first + 2) c fr (accT S.M first c fr lf id op at' d)
      have h5 := gatM_evs (M := S.M) (r := first + 2) (sp := spL first c fr) (T := accT S.M first c fr lf id op at' d) (lcTab c).toNat
      omega
end Go.Sg
namespace Go.Proofs.YthchfdobdghdoaaGreat
open Go Go.RowKit Go.Sg
variable {w0 w w' : World} {p : Nat} {M : Mm} {D : Nat → Prop} {X : World → Prop}
end Go.Proofs.YthchfdobdghdoaaGreat
end
section

/-
  LevelKeeps, in plain Lean: what is known of each block.
-/
namespace Go.Sg
open Go Go.RowKit Go.Proofs.YthchfdobdghdoaaGreat
/-- what was put last, or nothing -/
def knowB (b : Bool) (u : List Int) : List Int × Bool := if b = true then (u, true) else (zero8, false)
structure KeepI (c : Lc) (S : Ls) (a : List Int) (b : List Bool) (u : List (List Int)) (k : Nat) : Prop where
  fit : LsFit c 1 S k
  inv : ∃ mp, LsInv c 1 S mp ∧ (∀ x ∈ mp, (0 ≤ x.1 ∧ x.1 < 8) ∧ x.2.1 = a.getD x.1.toNat 0) ∧ ∀ i : Nat, i < 8 → findB (i : Int) mp = knowB (b.getD i false) (u.getD i zero8)
  la : a.length = 8
  lb : b.length = 8
  lu : u.length = 8
  wu : ∀ x ∈ u, x.length = 8 ∧ ∀ y ∈ x, Word y
  bd : ∀ x ∈ a, 0 ≤ x ∧ x < c.1
/-- what is kept behind an access -/
def keepU (op : Int) (i k : Nat) (e : List Int) (b : List Bool) (u : List (List Int)) : List (List Int) :=
  if op = 1 then u.set i e else if op = 2 then u.set i (((knowB (b.getD i false) (u.getD i zero8)).1.set k (e.getD 0 0)).set (k + 1) (e.getD 1 0)) else u
def keepB (op : Int) (i : Nat) (b : List Bool) : List Bool := b.set i (decide (op = 1) || (decide (op = 2) || (decide (op = 0) && b.getD i false)))
end Go.Sg
end
section

/-
  LevelMoves and LevelDrops, in plain Lean: blocks that are put, changed, looked for and dropped.
-/
namespace Go.Sg
open Go Go.RowKit Go.Proofs.YthchfdobdghdoaaGreat
/-- a block that is not there -/
theorem ls_none {c : Lc} (hC : CfgOk c) {S : Ls} {mp : List Bk} {op id at' fr lf : Int} {d : List Int} (hI : LsInv c 1 S mp) (hop : 0 ≤ op ∧ op ≤ 3) (hid : 0 ≤ id ∧ id ≤ 2147483648) (hfr : 0 ≤ fr ∧ fr < c.1) (hlf : 0 ≤ lf ∧ lf < c.1)
    (hd : d.length = 8 ∧ ∀ x ∈ d, Word x) (hat : op = 2 → 0 ≤ at' ∧ at' ≤ 6) (hn : ∀ b ∈ mp, b.1 ≠ id) {mp' : List Bk} (hm : mp' = mp ++ (if (edL op at' d zero8 false).2 then [(id, lf, (edL op at' d zero8 false).1)] else [])) :
    S.tell 1 c op id at' fr lf = (zero8, false) ∧ ((S.acc 1 c op id at' d fr lf).over = false → LsInv c 1 (S.acc 1 c op id at' d fr lf) mp') ∧ ((mp'.length : Int) ≤ c.2.2 → (S.acc 1 c op id at' d fr lf).over = false) := by
  obtain ⟨s1, s2, s3, _, _⟩ := ls_step (d := d) hC.right (by decide) hI hop hid hfr hlf hd hat (fun b hb h => absurd h (hn b hb))
  rw [find_not hn] at s1 s2 s3
  have e : mpN mp id lf (edL op at' d zero8 false) = mp' := by
    rw [hm]
    unfold mpN
    rw [List.filter_eq_self.2 fun b hb => by simpa using hn b hb]
  rw [e] at s2 s3
  exact ⟨s1, s2, s3⟩
/-- a block that is there -/
theorem ls_there {c : Lc} (hC : CfgOk c) {S : Ls} {mp : List Bk} {op id at' fr lf : Int} {d o : List Int} (hI : LsInv c 1 S mp) (hop : 0 ≤ op ∧ op ≤ 3) (hid : 0 ≤ id ∧ id ≤ 2147483648) (hfr : 0 ≤ fr ∧ fr < c.1) (hlf : 0 ≤ lf ∧ lf < c.1)
    (hd : d.length = 8 ∧ ∀ x ∈ d, Word x) (hat : op = 2 → 0 ≤ at' ∧ at' ≤ 6) (hb : (id, fr, o) ∈ mp) {mp' : List Bk} (hm : mp' = mp.filter (fun b => !(b.1 == id)) ++ (if (edL op at' d o true).2 then [(id, lf, (edL op at' d o true).1)] else [])) :
    S.tell 1 c op id at' fr lf = (o, true) ∧ ((S.acc 1 c op id at' d fr lf).over = false → LsInv c 1 (S.acc 1 c op id at' d fr lf) mp') ∧ ((mp'.length : Int) ≤ c.2.2 → (S.acc 1 c op id at' d fr lf).over = false) := by
  have hu := find_of hI.inv.ids hb rfl
  obtain ⟨s1, s2, s3, _, _⟩ := ls_step (d := d) hC.right (by decide) hI hop hid hfr hlf hd hat (fun b hb' h => by rw [hu.2 b hb' h])
  rw [hu.1] at s1 s2 s3
  have e : mpN mp id lf (edL op at' d o true) = mp' := hm.symm
  rw [e] at s2 s3
  exact ⟨s1, s2, s3⟩
/-- LevelMoves: blocks whose leaf is the first one -/
structure MoveI (c : Lc) (S : Ls) (k : Nat) : Prop where
  fit : LsFit c 1 S k
  inv : S.over = true ∨ ∃ mp, LsInv c 1 S mp ∧ ∀ b ∈ mp, (0 ≤ b.1 ∧ b.1 < 6) ∧ b.2.1 = 0
/-- LevelDrops: the blocks of a turn -/
def bkT (t : Nat) (a : List Int) (j : Nat) : Bk := (100 * (t : Int) + j, a.getD j 0, datL j)
structure DropI (c : Lc) (S : Ls) (mp : List Bk) (k : Nat) : Prop where
  fit : LsFit c 1 S k
  inv : LsInv c 1 S mp
theorem drop_drop {c : Lc} (hC : CfgOk c) {S S1 : Ls} {t j n k : Nat} {a : List Int} (ht : t < 3) (hj : j < n) (hn : (n : Int) = c.2.2) (h : DropI c S (((List.range n).drop j).map (bkT t a)) k) (hto : 0 ≤ a.getD j 0 ∧ a.getD j 0 < c.1) (e1 : S1 = S.acc 1 c 3 (100 * (t : Int) + j) 0 zero8 (a.getD j 0) 0) :
    S.tell 1 c 3 (100 * (t : Int) + j) 0 (a.getD j 0) 0 = (datL j, true) ∧ LsFit c 1 S1 (k + 1) ∧ S1.tell 1 c 0 (100 * (t : Int) + j) 0 (a.getD j 0) 0 = (zero8, false) ∧ (S1.acc 1 c 0 (100 * (t : Int) + j) 0 zero8 (a.getD j 0) 0).over = false ∧ DropI c (S1.acc 1 c 0 (100 * (t : Int) + j) 0 zero8 (a.getD j 0) 0) (((List.range n).drop (j + 1)).map (bkT t a)) (k + 2) := by
  have hz : (0 : Int) ≤ 0 ∧ (0 : Int) < c.1 := ⟨by decide, by have := hC.b1; omega⟩
  have hb3 := hC.b3
  have hsplit : (List.range n).drop j = j :: (List.range n).drop (j + 1) := by
    rw [List.drop_eq_getElem_cons (by rw [List.length_range]; exact hj), List.getElem_range]
  have hrest : ∀ b ∈ ((List.range n).drop (j + 1)).map (bkT t a), b.1 ≠ 100 * (t : Int) + j := fun b hb e => by
    obtain ⟨i, hi, rfl⟩ := List.mem_map.1 hb
    obtain ⟨m, hm, rfl⟩ := List.getElem_of_mem hi
    rw [List.getElem_drop, List.getElem_range] at e
    simp only [bkT] at e
    omega
  have hfit1 : LsFit c 1 S1 (k + 1) := by rw [e1]; exact fit_step hC.right (by decide) h.fit (by omega) zero8_ok
  obtain ⟨t1, i1, l1⟩ := ls_there (op := 3) (id := 100 * (t : Int) + j) (at' := 0) (fr := a.getD j 0) (lf := 0) (d := zero8) (o := datL j) hC h.inv (by decide) (by omega) hto hz zero8_ok (by decide) (by rw [hsplit]; exact List.mem_map.2 ⟨j, List.mem_cons_self, rfl⟩) (mp' := ((List.range n).drop (j + 1)).map (bkT t a)) (by
    rw [hsplit, List.map_cons, List.filter_cons]
    rw [List.filter_eq_self.2 fun b hb => by simpa using hrest b hb]
    simp [edL, bkT])
  have hlen : ((((List.range n).drop (j + 1)).map (bkT t a)).length : Int) ≤ c.2.2 := by rw [List.length_map, List.length_drop, List.length_range]; omega
  have I1 := i1 (l1 hlen)
  rw [← e1] at I1
  obtain ⟨t2, i2, l2⟩ := ls_none (op := 0) (id := 100 * (t : Int) + j) (at' := 0) (fr := a.getD j 0) (lf := 0) (d := zero8) hC I1 (by decide) (by omega) hto hz zero8_ok (by decide) hrest (mp' := ((List.range n).drop (j + 1)).map (bkT t a)) (by simp [edL])
  have o2 := l2 hlen
  exact ⟨t1, hfit1, t2, o2, fit_step hC.right (by decide) hfit1 (by omega) zero8_ok, i2 o2⟩
end Go.Sg
end
section

/-
  Blocks beside a level that are written to; steps' cells; words that are masked.
-/
namespace Go.Sg
open Go Go.RowKit
end Go.Sg
namespace Go.Proofs.YthchfdobdghdoaaGreat
open Go Go.RowKit Go.Sg
variable {w0 w w' : World} {p q ib : Nat} {c : Lc} {first : Int} {S : Ls} {D : Nat → Prop} {X : World → Prop}
/-- a cell beside a level is written -/
theorem LvR.set {b : Nat} {cs : List Value} {t : TypeId} (hK : Keeps D X) (hD : ∀ k, D k → k ≠ b) (hge : w0.heap.size ≤ b) (h : LvR w0 w p q ib c first S (fun k => D k ∨ k = b) (fun w' => X w' ∧ Blk w' b cs.toArray t)) (i : Nat) (v : Value) :
    LvR w0 (w.setCell ⟨b, i, none⟩ v) p q ib c first S (fun k => D k ∨ k = b) (fun w' => X w' ∧ Blk w' b (cs.set i v).toArray t) := by
  have hoff := h.off b (.inr rfl)
  have hx := h.one.x
  have hother : ∀ k, k ≠ b → (w.setCell ⟨b, i, none⟩ v).heap[k]? = w.heap[k]? := fun k hk => Below.heap_setCell w ⟨b, i, none⟩ v k hk
  have hsz : (w.setCell ⟨b, i, none⟩ v).heap.size = w.heap.size := World.size_setCell w _ _
  refine ⟨h.one.turn (fun k hk => hk) ((MFrame.refl _ _).set (p := ⟨b, i, none⟩) (.inl ⟨.inl (.inr rfl), hge⟩) v) ⟨⟨?_, ?_⟩, ?_⟩, h.off, h.ne, h.ge⟩
  · exact hK w _ (by rw [hsz]; exact Nat.le_refl _) (fun k hk => hother k (hD k hk)) hx.1.1
  · have := hx.1.2.set i v
    rwa [List.setIfInBounds_toArray] at this
  · exact keeps_lv p q ib c first S.over S.ids w _ (by rw [hsz]; exact Nat.le_refl _) (fun k hk => hother k (by rcases hk with rfl | rfl; exact fun e => hoff.1 e.symm; exact fun e => hoff.2 e.symm)) hx.2
end Go.Proofs.YthchfdobdghdoaaGreat
end
section

/-
  What an access tells is data.
-/
namespace Go.Sg
open Go Go.RowKit Go.Proofs.YthchfdobdghdoaaGreat
end Go.Sg
end
section

/-
  A level, and a box of data that is filled later.
-/
namespace Go.Proofs.YthchfdobdghdoaaGreat
open Go Go.RowKit Go.Sg
variable {w0 w w' : World} {p q ib : Nat} {c : Lc} {first : Int} {S : Ls} {D : Nat → Prop} {X : World → Prop}
def zd8 : Array Value := #[.int .u64 0, .int .u64 0, .int .u64 0, .int .u64 0, .int .u64 0, .int .u64 0, .int .u64 0, .int .u64 0]
/-- a new box lies beside a level -/
structure LvB (w0 w : World) (p q ib : Nat) (c : Lc) (first : Int) (S : Ls) (D : Nat → Prop) (X : World → Prop) (b : Nat) : Prop where
  one : LvR w0 w p q ib c first S (fun k => D k ∨ k = b) (fun w' => X w' ∧ Blk w' b zd8 61)
  keeps : Keeps D X
  ne : ∀ k, D k → k ≠ b
  ge : w0.heap.size ≤ b
theorem LvB.new (hK : Keeps D X) (h : LvR w0 w p q ib c first S D X) : LvB w0 (w.alloc (.cells zd8 61)) p q ib c first S D X w.heap.size :=
  ⟨h.box hK zd8 _, hK, fun k hk => Nat.ne_of_lt (h.lt.1 k hk), h.one.old.size⟩
theorem LvB.below {b : Nat} (h : LvB w0 w p q ib c first S D X b) (hb : Below w.heap.size w w') : LvB w0 w' p q ib c first S D X b :=
  ⟨h.one.below (keeps_and h.keeps (keeps_blk _ _ _)) hb, h.keeps, h.ne, h.ge⟩
theorem LvB.there {b : Nat} (h : LvB w0 w p q ib c first S D X b) (vs : List Value) (hl : vs.length = 8) : w.there b 0 vs.length := by
  rw [hl]; exact h.one.x.2.there 8 (by decide)
theorem LvB.x {b : Nat} (h : LvB w0 w p q ib c first S D X b) : X w := h.one.x.1
theorem LvB.call {b : Nat} {P : Program} {f : FuncId} {args : Array Value} {R : Ending → Prop} {S' : Ls} (h : LvB w0 w p q ib c first S D X b)
    (hc : ∀ (D' : Nat → Prop) (X' : World → Prop), Keeps D' X' → LvR w0 w p q ib c first S D' X' → Calls P f args w fun e w' => R e ∧ LvR w0 w' p q ib c first S' D' X') :
    Calls P f args w fun e w' => R e ∧ LvB w0 w' p q ib c first S' D X b :=
  (hc _ _ (keeps_and h.keeps (keeps_blk _ _ _)) h.one).mono fun e w' ⟨he, hx⟩ => ⟨he, hx, h.keeps, h.ne, h.ge⟩
theorem LvB.fill {b : Nat} (h : LvB w0 w p q ib c first S D X b) (vs : List Value) (hl : vs.length = 8) :
    LvR w0 (w.setCells b 0 vs) p q ib c first S (fun k => D k ∨ k = b) (fun w' => X w' ∧ Blk w' b vs.toArray 61) := by
  have hoff := h.one.off b (.inr rfl)
  have hx := h.one.one.x
  have hother : ∀ k, k ≠ b → (w.setCells b 0 vs).heap[k]? = w.heap[k]? := fun k hk => heap_setCells_neL vs 0 w k hk
  have hsz : w.heap.size ≤ (w.setCells b 0 vs).heap.size := by rw [size_setCells]; exact Nat.le_refl _
  refine ⟨h.one.one.turn (fun k hk => hk) ((MFrame.refl _ _).setCells vs 0 (.inl ⟨.inl (.inr rfl), h.ge⟩)) ⟨⟨?_, ?_⟩, ?_⟩, h.one.off, h.one.ne, h.one.ge⟩
  · exact h.keeps w _ hsz (fun k hk => hother k (h.ne k hk)) hx.1.1
  · exact blk_all vs hx.1.2 (by rw [hl]; rfl)
  · exact keeps_lv p q ib c first S.over S.ids w _ hsz (fun k hk => hother k (by rcases hk with rfl | rfl; exact fun e => hoff.1 e.symm; exact fun e => hoff.2 e.symm)) hx.2
end Go.Proofs.YthchfdobdghdoaaGreat
end
section

/-
  A row of data: its cells, one of them, or one of the data, written.
-/
namespace Go.Sg
open Go Go.RowKit Go.Proofs.YthchfdobdghdoaaGreat
def bools (l : List Bool) : List Value := l.map Value.bool
/-- the rows of LevelKeeps -/
def KpD (G1 G2 G3 : Nat) : Nat → Prop := fun k => (k = G1 ∨ k = G2) ∨ k = G3
def KpX (t1 t2 t3 : TypeId) (G1 G2 G3 : Nat) (a : List Int) (b : List Bool) (u : List (List Int)) : World → Prop := fun w => (Blk w G1 (ints a).toArray t1 ∧ Blk w G2 (bools b).toArray t2) ∧ Blk w G3 (flatV wv u).toArray t3
section
variable {t1 t2 t3 : TypeId} {G1 G2 G3 : Nat} {a : List Int} {b : List Bool} {u : List (List Int)} {w : World}
end
end Go.Sg
end
section

/-
  The walk of a level's Events: its looks; its closure.
-/
namespace Go.Sg
open Go Go.RowKit
/-- an access's looks -/
def evA (first : Int) (c : Lc) (fr : Int) : List Ev := gatE (first + 2) (spL first c fr) (lcTab c).toNat ++ dealEv (first + 2) c ++ bakE (first + 2) (spL first c fr) (spL first c fr).length
end Go.Sg
namespace Go.Proofs.YthchfdobdghdoaaGreat
open Go Go.RowKit Go.Sg
/-- a captured slice of looks -/
def EvW (w : World) (b base : Nat) (es : List Ev) : Prop := ∃ v, Blk w b #[v] 48 ∧ w.ownsRow base 94 3 v es.length (evsV es)
theorem EvW.below {w w' : World} {b base : Nat} {es : List Ev} (h : EvW w b base es) (hb : Below w.heap.size w w') : EvW w' b base es := by
  obtain ⟨v, h1, h2⟩ := h
  exact ⟨v, h1.below hb h1.lt, ownsRow_below h2 hb⟩
set_option maxHeartbeats 4000000 in
set_option maxRecDepth 100000 in
theorem levlook_any (r a : Int) (t : Bool) (b base : Nat) (es : List Ev) (hes : es.length ≤ 1000000) (w : World) (hb : b < base) (hbase : base ≤ w.heap.size) (h : EvW w b base es) :
    Calls Tryz.prog 46 #[.int .i64 r, .int .i64 a, .bool t, .pointer (some ⟨b, 0, none⟩)] w fun e w' => e = .returned (.tuple #[]) ∧ EvW w' b base (es ++ [(r, a, t)]) ∧ MFrame (fun k => k = b ∨ base ≤ k) w w' ∧ ∀ (B : Nat) (cs : Array Value) (T : TypeId), Blk w B cs T → B ≠ b → T ≠ 94 → Blk w' B cs T := by
  obtain ⟨v, hv, ho⟩ := h
  obtain ⟨i0, hi0, hz0, hz1, hz2⟩ := info_parts info_event
  have HI := Lib.hid hi0
  have HZ := Lib.hid hz0
  have HS := Lib.hid hz1
  have HY := Lib.hid hz2
  have HV := Lib.hid hv
  have HO := Lib.hid ho
  have HNR := Lib.hid (not_row ho hv (by decide))
  have c7 : w.cell? ⟨b, 0, none⟩ = some v := hv.cell 0
  have hlt := hv.lt
  clear hi0 hz0 hz1 hz2 hv ho
  go_enter Tryz.func46, Tryz.ntmps46
  go_wp2_with (first
    | (at_builtin; go_loud (refine wpList_append_own_at _ rfl (.tmp 7) (.tmp 12) 48 rfl base 94 i0 (.agg #[.int .i64 0, .int .i64 0, .bool false]) 3 24 Tryz.underlying48 HI.out HZ.out HS.out HY.out rfl (by decide) v es.length (evsV es) rfl (ownsRow_below HO.out ((Below.refl _ _).alloc (Nat.le_refl _) _)) ⟨w.heap.size, 0, none⟩ 1 1 (evsV [(r, a, t)]) rfl rfl (evsN_cells w [(r, a, t)] 94) (evsV_one [(r, a, t)]) (by unfold maxLen; omega) (by omega) (by rw [World.size_alloc]; omega) ?_))
    | fail)
  intro v' w4 hown hgrow _ _
  have hsl : ∃ g cap, v' = .slice (some ⟨g, 0, none⟩) (es.length + 1) cap := by
    rcases hown.2 with ⟨_, h0⟩ | ⟨g, cap, cur, e, _⟩
    · omega
    · exact ⟨g, cap, e⟩
  obtain ⟨g', cap', rfl⟩ := hsl
  obtain ⟨wa, hwa⟩ : ∃ wa, w.alloc (.cells (evsV [(r, a, t)]).toArray 94) = wa := ⟨_, rfl⟩
  have hba : Below w.heap.size w wa := by rw [← hwa]; exact (Below.refl _ _).alloc (Nat.le_refl _) _
  have hgr : wa.grownBy w4 v.ownBlock := by rw [← hwa]; exact hgrow
  have hv4 : Blk w4 b #[v] 48 := (hgr.block b (Nat.lt_of_lt_of_le hlt hba.size) HNR.out).trans (hba.block b hlt |>.trans HV.out)
  have HV4 := Lib.hid hv4
  have c7' : w4.cell? ⟨b, 0, none⟩ = some v := hv4.cell 0
  have f7' : w4.frozen? ⟨b, 0, none⟩ = false := hv4.free 0
  have HOW : Hid (w4.ownsRow base 94 3 (.slice (some ⟨g', 0, none⟩) (es.length + 1) cap') (es.length + 1) (evsV (es ++ [(r, a, t)]))) := Lib.hid (by rw [evsV_append]; exact hown)
  have HMF : Hid (MFrame (fun k => k = b ∨ base ≤ k) w w4) := Lib.hid ⟨hgr.os.trans hba.os, hgr.tape.trans hba.tape, hgr.output.trans hba.output, Nat.le_trans hba.size hgr.size, fun k hk hn => (hgr.block k (Nat.lt_of_lt_of_le hk hba.size) (fun e => hn (.inr (HO.out.lt k e.symm).1))).trans (hba.block k hk)⟩
  have HOT : Hid (∀ (B : Nat) (cs : Array Value) (T : TypeId), Blk w B cs T → T ≠ 94 → Blk w4 B cs T) := Lib.hid fun B cs T hB hT => (hgr.block B (Nat.lt_of_lt_of_le hB.lt hba.size) (not_row HO.out hB hT)).trans ((hba.block B hB.lt).trans hB)
  clear hown hgrow hgr hba hwa hv4 c7
  go_wp2
  have h1 := HV4.out.set 0 (.slice (some ⟨g', 0, none⟩) (es.length + 1) cap')
  first
    | refine bodyPost_end (results_none rfl _ _ _) rfl ⟨rfl, ⟨_, h1, ?_⟩, HMF.out.set (p := ⟨b, 0, none⟩) (.inl (.inl rfl)) _, fun B cs T hB hne hT => (HOT.out B cs T hB hT).other _ _ hne⟩
    | refine bodyPost_ret (results_none rfl _ _ _) rfl ⟨rfl, ⟨_, h1, ?_⟩, HMF.out.set (p := ⟨b, 0, none⟩) (.inl (.inl rfl)) _, fun B cs T hB hne hT => (HOT.out B cs T hB hT).other _ _ hne⟩
  have h2 := own_keepL HOW.out (w' := w4.setCell ⟨b, 0, none⟩ (.slice (some ⟨g', 0, none⟩) (es.length + 1) cap')) (fun k hk => Below.heap_setCell w4 ⟨b, 0, none⟩ _ k (by have := (HOW.out.lt k hk).1; show k ≠ b; omega))
  rw [List.length_append]
  exact h2
end Go.Proofs.YthchfdobdghdoaaGreat
end
section
/-
  The walk of a level's Events, whatever the regions are.
-/
namespace Go.Sg
open Go Go.RowKit
theorem mf_trans {F : Nat → Prop} {a b c : World} (h : MFrame F a b) (k : MFrame F b c) : MFrame F a c :=
  ⟨k.os.trans h.os, k.tape.trans h.tape, k.output.trans h.output, Nat.le_trans h.size k.size, fun i hi hn => (k.block i (Nat.lt_of_lt_of_le hi h.size) hn).trans (h.block i hi hn)⟩
theorem evsV_len3 (es : List Ev) : (evsV es).length = es.length * 3 := by
  induction es with
  | nil => rfl
  | cons x es ih => show (evV x ++ evsV es).length = _; rw [List.length_append, ih, List.length_cons]; show 3 + _ = _; omega
/-- an access's looks: the first region, the one behind it, and the one behind that one -/
def evG (first f1 f2 : Int) (c : Lc) (fr : Int) : List Ev := gatE f2 (spG first f1 c fr) (lcTab c).toNat ++ dealEv f2 c ++ bakE f2 (spG first f1 c fr) (spG first f1 c fr).length
end Go.Sg
namespace Go.Proofs.YthchfdobdghdoaaGreat
open Go Go.RowKit Go.Sg
theorem ev_store {wx w4 : World} {b base g' cap' : Nat} {G es : List Ev} {v : Value} (hv : Blk wx b #[v] 48) (ho : wx.ownsRow base 94 3 v G.length (evsV G)) (hbl : b < base) (hown : w4.ownsRow base 94 3 (.slice (some ⟨g', 0, none⟩) (G.length + es.length) cap') (G.length + es.length) (evsV G ++ evsV es)) (hgr : wx.grownBy w4 v.ownBlock) :
    (w4.cell? ⟨b, 0, none⟩ = some v ∧ w4.frozen? ⟨b, 0, none⟩ = false) ∧ EvW (w4.setCell ⟨b, 0, none⟩ (.slice (some ⟨g', 0, none⟩) (G.length + es.length) cap')) b base (G ++ es) ∧ MFrame (fun k => k = b ∨ base ≤ k) wx (w4.setCell ⟨b, 0, none⟩ (.slice (some ⟨g', 0, none⟩) (G.length + es.length) cap')) := by
  have hv4 : Blk w4 b #[v] 48 := (hgr.block b hv.lt (not_row ho hv (by decide))).trans hv
  have h1 := hv4.set 0 (.slice (some ⟨g', 0, none⟩) (G.length + es.length) cap')
  have h2 := own_keepL hown (w' := w4.setCell ⟨b, 0, none⟩ (.slice (some ⟨g', 0, none⟩) (G.length + es.length) cap')) (fun k hk => Below.heap_setCell w4 ⟨b, 0, none⟩ _ k (by have := (hown.lt k hk).1; show k ≠ b; omega))
  refine ⟨⟨hv4.cell 0, hv4.free 0⟩, ⟨_, h1, ?_⟩, (MFrame.set (F := fun k => k = b ∨ base ≤ k) (a := wx) (w := w4) ⟨hgr.os, hgr.tape, hgr.output, hgr.size, fun k hk hn => hgr.block k hk (fun e => hn (.inr (ho.lt k e.symm).1))⟩ (p := ⟨b, 0, none⟩) (.inl (.inl rfl)) _)⟩
  rw [List.length_append, evsV_append]
  exact h2
theorem evsR_pos (c : Lc) (hr : lcRight c = true) (r : Int) : evsR r (lcTab c) ≠ [] := by
  obtain ⟨t, ht, e, hp⟩ := lcTab_pow c
  have hR := (lcRight_iff hr).2
  have h1 := levelsD_bd hR
  have h2 := lcRight_bd hr
  have hpl : placesD (lcSh c) = levelsD (lcSh c) + c.2.2 + 1 := by unfold placesD; rw [if_pos hR]; rfl
  have h0 : 1 ≤ t := by
    rcases Nat.eq_zero_or_pos t with h | h
    · subst h
      have : (2 : Int) ^ 0 = 1 := by decide
      omega
    · exact h
  have ec : (2 : Int) ^ t = ((2 ^ t : Nat) : Int) := by push_cast; rfl
  intro h
  have hl := congrArg List.length h
  unfold evsR at hl
  rw [evsS_len, e, ec, netI_pow (by omega), netP_cnt t (by omega)] at hl
  have hc : ∀ t : Fin 11, 1 ≤ t.val → 1 ≤ cntI t.val := by decide +kernel
  have h3 : 1 ≤ cntI t := hc ⟨t, by omega⟩ h0
  simp only [List.length_nil] at hl
  omega
set_option maxHeartbeats 8000000 in
set_option maxRecDepth 100000 in
theorem levEventsG_any (c : Lc) (hc : LcOk c) (hr : lcRight c = true) (first f1 f2 : Int) (wf1 : IntKind.i64.wrap (first + 1) = f1) (wf2 : IntKind.i64.wrap (first + 2) = f2) (fr : Int) (hfr : hasB c.1 fr = true) (w : World) :
    Calls Tryz.prog 17 #[.int .i64 first, .agg #[.int .i64 c.1, .int .i64 c.2.1, .int .i64 c.2.2], .int .i64 fr] w (RetE (evG first f1 f2 c fr) w) := by
  have KR := Lib.hid (fun w' => lright_any c hc w')
  rw [hr] at KR
  have KSp := Lib.hid (fun w' => spotsG_any c hc hr first f1 fr wf1 hfr w')
  have KT := Lib.hid (fun w' => table_any c hc w')
  have hfb := hasB_lt hfr
  have hbd := lcTab_bd c
  have hln := spG_len (first := first) (f1 := f1) hr hfr
  have hbk := bakE_len f2 (spG first f1 c fr) (spG first f1 c fr).length
  obtain ⟨n, hn⟩ : ∃ n : Nat, lcTab c = n := ⟨(lcTab c).toNat, by omega⟩
  have KE := Lib.hid (fun w' => sortEvents_any f2 (lcTab c) w')
  have HEL := Lib.hid (evsR_len f2 (lcTab c))
  have HEP := Lib.hid (evsR_pos c hr f2)
  have HEA : Hid (evG first f1 f2 c fr = gatE f2 (spG first f1 c fr) n ++ (writesL f2 n ++ evsR f2 (lcTab c) ++ writesL f2 n ++ evsR f2 (lcTab c)) ++ bakE f2 (spG first f1 c fr) (spG first f1 c fr).length) := Lib.hid (by unfold evG dealEv; rw [hn, Int.toNat_natCast])
  obtain ⟨sp, hsp⟩ : ∃ sp, spG first f1 c fr = sp := ⟨_, rfl⟩
  obtain ⟨es, hes⟩ : ∃ es, evsR f2 (lcTab c) = es := ⟨_, rfl⟩
  rw [hsp] at KSp HEA hln hbk
  rw [hes] at KE HEL HEP HEA
  rw [hn] at KT KE hbd
  have hspn : sp.length < n := by omega
  clear hln
  have hwl : (writesL f2 n).length = 2 * n := by
    have : ∀ m, (writesL f2 m).length = 2 * m := fun m => by
      induction m with
      | zero => rfl
      | succ m ih => rw [writesL_succ, List.length_append, ih]; simp; omega
    exact this n
  have hw2 := wf2
  have dn1 : decide (fr < 0) = false := decide_eq_false (by omega)
  have dn2 : decide (c.1 ≤ fr) = false := decide_eq_false (by omega)
  obtain ⟨A, hA⟩ : ∃ A, w.heap.size = A := ⟨_, rfl⟩
  obtain ⟨w1, hw1⟩ : ∃ w1, w.alloc (.cells #[.int .i64 c.1, .int .i64 c.2.1, .int .i64 c.2.2] 23) = w1 := ⟨_, rfl⟩
  have hb1 : Below w.heap.size w w1 := by rw [← hw1]; exact (Below.refl _ _).alloc (Nat.le_refl _) _
  have k1 : Blk w1 A #[.int .i64 c.1, .int .i64 c.2.1, .int .i64 c.2.2] 23 := by rw [← hw1, ← hA]; exact Blk.new w _ _
  have HB1 := Lib.hid hb1
  have K1 := Lib.hid k1
  have HW1 := Lib.hid hw1
  have a0 : w1.cell? ⟨A, 0, none⟩ = some (.int .i64 c.1) := k1.cell 0
  have a1 : w1.cell? ⟨A, 1, none⟩ = some (.int .i64 c.2.1) := k1.cell 1
  have a2 : w1.cell? ⟨A, 2, none⟩ = some (.int .i64 c.2.2) := k1.cell 2
  have HIL := Lib.hid (info_lcL c)
  clear hw1 hb1 k1 hsp hes hr hfr hn hc
  go_enter Tryz.func17, Tryz.ntmps17
  go_wp2_with fail
  rw [HW1.out]
  refine (KR.out _).mono ?_
  rintro e w2 ⟨rfl, hb2⟩
  have K2 := Lib.hid (K1.out.below hb2 K1.out.lt)
  have HB2 : Hid (Below w.heap.size w w2) := Lib.hid (HB1.out.trans (hb2.mono HB1.out.size))
  clear a0 a1 a2 hb2
  have a0 : w2.cell? ⟨A, 0, none⟩ = some (.int .i64 c.1) := K2.out.cell 0
  go_upto_region 4 with fail
  obtain ⟨b, hb⟩ : ∃ b, w2.heap.size = b := ⟨_, rfl⟩
  have hbk3 : Blk (w2.alloc (.cells #[.slice none 0 0] 48)) b #[.slice none 0 0] 48 := by rw [← hb]; exact Blk.new _ _ _
  have HBK := Lib.hid hbk3
  have K3 := Lib.hid (K2.out.alloc (.cells #[.slice none 0 0] 48))
  have HB3 : Hid (Below w.heap.size w (w2.alloc (.cells #[.slice none 0 0] 48))) := Lib.hid (HB2.out.alloc HB2.out.size _)
  have HBW : Hid (w.heap.size ≤ b) := Lib.hid (by rw [← hb]; exact HB2.out.size)
  rw [hb] at *
  generalize w2.alloc (.cells #[.slice none 0 0] 48) = w3 at *
  clear a0 hbk3 hb HB2 K2
  go_upto_region 5 with fail
  have HS3 : Hid (∀ w', Below w3.heap.size w3 w' → w'.cell? ⟨A, 0, none⟩ = some (.int .i64 c.1) ∧ w'.cell? ⟨A, 1, none⟩ = some (.int .i64 c.2.1) ∧ w'.cell? ⟨A, 2, none⟩ = some (.int .i64 c.2.2)) := Lib.hid fun w' h => ⟨(K3.out.below h K3.out.lt).cell 0, (K3.out.below h K3.out.lt).cell 1, (K3.out.below h K3.out.lt).cell 2⟩
  go_cut [9, 10] (fun sv tv wx => ∃ v, sv = v ∧ tv = .int .i64 n ∧ Hid (wx.ownsRow w3.heap.size 99 2 v sp.length (flatV spV sp)) ∧ Hid (Below w3.heap.size w3 wx))
  case first =>
    have hd : Below w3.heap.size w3 w3.drew := (Below.refl _ _).drew
    go_region_held3 (fun w' => w'.cell? ⟨A, 0, none⟩ = some (.int .i64 c.1) ∧ w'.cell? ⟨A, 1, none⟩ = some (.int .i64 c.2.1) ∧ w'.cell? ⟨A, 2, none⟩ = some (.int .i64 c.2.2)) (first | exact HS3.out _ hd | exact HS3.out _ h1 | exact HS3.out _ h2 | exact HS3.out _ g1 | exact HS3.out _ g2) (first
      | (go_at_call 47; first
        | (with_reducible refine (KSp.out w3.drew).mono ?_; rintro e wx ⟨v, rfl, ho1, hbx⟩; have h1 : Below w3.heap.size w3 wx := hd.trans (hbx.mono hd.size))
        | (with_reducible refine (KSp.out _).mono ?_; rintro e wx ⟨v, rfl, ho2, hbx⟩; have h2 : Below w3.heap.size w3 wx := g1.trans (hbx.mono g1.size)))
      | (go_at_call 33; first
        | (with_reducible refine (KT.out w3.drew).mono ?_; rintro e wy ⟨rfl, hby⟩; have g1 : Below w3.heap.size w3 wy := hd.trans (hby.mono hd.size))
        | (with_reducible refine (KT.out _).mono ?_; rintro e wy ⟨rfl, hby⟩; have g2 : Below w3.heap.size w3 wy := h1.trans (hby.mono h1.size))))
    all_goals
      first
        | (have HX := Lib.hid (And.intro (ownsRow_below ho1 hby) g2)
           clear ho1 hbx hby h1 g2 hd
           go_wp2_with fail
           go_meet
           exact ⟨v, rfl, rfl, Lib.hid HX.out.1, Lib.hid HX.out.2⟩)
        | (have HX := Lib.hid (And.intro (own_baseL ho2 g1.size) h2)
           clear ho2 hbx hby g1 h2 hd
           go_wp2_with fail
           go_meet
           exact ⟨v, rfl, rfl, Lib.hid HX.out.1, Lib.hid HX.out.2⟩)
  case rest =>
  obtain ⟨v, rfl, rfl, HSO, HB5⟩ := hcut
  generalize wc = w5 at *
  obtain ⟨base, hbase⟩ : ∃ base, w5.heap.size = base := ⟨_, rfl⟩
  have HWB : Hid (Below w.heap.size w w5) := Lib.hid (HB3.out.trans (HB5.out.mono HB3.out.size))
  have hbl : b < base := by rw [← hbase]; exact Nat.lt_of_lt_of_le HBK.out.lt HB5.out.size
  have HE0 : Hid (EvW w5 b base []) := Lib.hid ⟨_, HBK.out.below HB5.out HBK.out.lt, World.ownsRow_nil _ _ _ _⟩
  have HSL := Lib.hid (SlK.of_owns HSO.out)
  obtain ⟨va, vcap, rfl, -, -, -⟩ := HSL.out
  have HSC : Hid (∀ i (hi : i < sp.length), ∃ sb so, va = some ⟨sb, so, none⟩ ∧ ∀ w', MFrame (fun k => k = b ∨ base ≤ k) w5 w' → w'.cell? ⟨sb, so + i * 2, none⟩ = some (.int .i64 sp[i].1) ∧ w'.cell? ⟨sb, so + i * 2 + 1, none⟩ = some (.int .i64 sp[i].2)) := Lib.hid fun i hi => by
    obtain ⟨a', cap', e1, -, -, h3⟩ := HSL.out
    simp only [Value.slice.injEq, true_and] at e1
    obtain ⟨rfl, rfl⟩ := e1
    obtain ⟨sb, so, rfl, hlt, hrg⟩ := h3 (fun e => by rw [e] at hi; simp at hi)
    have hrow := range_flat spV_k hrg hi
    have hown : b < sb := by
      have h1 := (HSO.out.lt sb rfl).1
      have h2 := HBK.out.lt
      omega
    refine ⟨sb, so, rfl, fun w' h => ?_⟩
    have hblk := h.block sb hlt (fun e => by rcases e with e | e <;> omega)
    exact ⟨(World.cell?_of_block (w := w5) hblk).trans (hrow 0 _ rfl), (World.cell?_of_block (w := w5) hblk).trans (hrow 1 _ rfl)⟩
  have HMF0 : Hid (MFrame (fun k => k = b ∨ base ≤ k) w5 w5) := Lib.hid (MFrame.refl _ _)
  have KL : Hid (∀ (r a : Int) (t : Bool) (G : List Ev), G.length ≤ 1000000 → ∀ w', MFrame (fun k => k = b ∨ base ≤ k) w5 w' → EvW w' b base G → Calls Tryz.prog 46 #[.int .i64 r, .int .i64 a, .bool t, .pointer (some ⟨b, 0, none⟩)] w' fun e w2 => e = .returned (.tuple #[]) ∧ EvW w2 b base (G ++ [(r, a, t)]) ∧ MFrame (fun k => k = b ∨ base ≤ k) w5 w2 ∧ ∀ (B : Nat) (cs : Array Value) (T : TypeId), Blk w' B cs T → B ≠ b → T ≠ 94 → Blk w2 B cs T) := Lib.hid fun r a t G hG w' hm hE =>
    (levlook_any r a t b base G hG w' hbl (by have := hm.size; omega) hE).mono fun e w2 ⟨h1, h2, h3, h4⟩ => ⟨h1, h2, mf_trans hm h3, h4⟩
  have HGL := Lib.hid (fun i => gatE_len f2 sp i)
  have hbs : base ≤ w5.heap.size := Nat.le_of_eq hbase.symm
  clear KSp KT KR HB3 HB5 HBK K3 K1 HSO HSL HS3 hbase HW1 HB1
  go_wp2_with fail
  go_loopw [11, 36] (fun _ iv wr => ∃ i : Nat, i ≤ n ∧ iv = .int .i64 i ∧ Hid (EvW wr b base (gatE f2 sp i)) ∧ Hid (MFrame (fun k => k = b ∨ base ≤ k) w5 wr)) (fun _ iv _ => n - (intOf iv).toNat)
  case atStart => exact ⟨0, by omega, rfl, HE0, HMF0⟩
  case round =>
    obtain ⟨i, hi, rfl, HE, HM⟩ := hrel
    by_cases hin : i < n
    · have g1 : decide ((i : Int) < (n : Int)) = true := decide_eq_true (by omega)
      have g1' : decide (i < n) = true := decide_eq_true hin
      have i0' : (0 : Int) ≤ (i : Int) := by omega
      have hgl := HGL.out i
      obtain ⟨G1, hG1, hGa, hGb⟩ : ∃ G1, gatE f2 sp (i + 1) = G1 ++ [(f2, (i : Int), true)] ∧ (∀ h : i < sp.length, G1 = gatE f2 sp i ++ [(sp[i].1, sp[i].2, false)]) ∧ (sp.length ≤ i → G1 = gatE f2 sp i) := by
        by_cases h : i < sp.length
        · exact ⟨gatE f2 sp i ++ [(sp[i].1, sp[i].2, false)], by rw [gatE_lt h]; simp, fun _ => rfl, fun h2 => by omega⟩
        · exact ⟨_, gatE_ge (by omega), fun h2 => absurd h2 h, fun _ => rfl⟩
      have HG1 := Lib.hid hG1
      have HG1l : Hid (G1.length ≤ 1000000) := Lib.hid (by
        have h1 := HGL.out (i + 1)
        rw [hG1, List.length_append] at h1
        simp at h1
        omega)
      clear hG1
      go_upto_if 42 with fail
      go_cut [] (fun wx => Hid (EvW wx b base G1) ∧ Hid (MFrame (fun k => k = b ∨ base ≤ k) w5 wx))
      case first =>
        by_cases hsl : i < sp.length
        · have d42 : decide ((i : Int) < (sp.length : Int)) = true := decide_eq_true (by omega)
          have d42' : decide (i < sp.length) = true := decide_eq_true hsl
          have i1' : (i : Int) < (sp.length : Int) := by omega
          have hGe := hGa hsl
          obtain ⟨sb, so, rfl, hcc⟩ := HSC.out i hsl
          have HCC := Lib.hid hcc
          clear hGa hGb hcc
          generalize sp[i] = s at *
          obtain ⟨sx, sy⟩ := s
          simp only at hGe HCC
          have KL1 := Lib.hid (KL.out sx sy false (gatE f2 sp i) (by omega))
          rw [← hGe] at KL1
          have hd : MFrame (fun k => k = b ∨ base ≤ k) w5 wr.drew := mf_trans HM.out (MFrame.of_below (Below.refl _ _).drew)
          obtain ⟨c0, c1⟩ := HCC.out _ HM.out
          clear hGe
          go_wp2_with fail
          go_region_held3 (fun w' => w'.cell? ⟨sb, so + i * 2, none⟩ = some (.int .i64 sx) ∧ w'.cell? ⟨sb, so + i * 2 + 1, none⟩ = some (.int .i64 sy)) (first | exact HCC.out _ hd | exact HCC.out _ hm1) (first
            | (go_at_call 46; with_reducible refine (KL1.out _ hd (HE.out.below (Below.refl _ _).drew)).mono ?_; rintro e wx ⟨rfl, hE1, hm1, -⟩))
          all_goals
            have HX := Lib.hid (And.intro hE1 hm1)
            clear hE1 hm1 hd c0 c1
            go_wp2_with fail
            go_meet
            exact ⟨Lib.hid HX.out.1, Lib.hid HX.out.2⟩
        · have d42 : decide ((i : Int) < (sp.length : Int)) = false := decide_eq_false (by omega)
          have d42' : decide (i < sp.length) = false := decide_eq_false hsl
          have hGe := hGb (by omega)
          have HE2 := HE
          rw [← hGe] at HE2
          clear hGa hGb hGe
          go_wp2_with fail
          go_meet
          exact ⟨HE2, HM⟩
      case rest =>
      obtain ⟨HE1, HM1⟩ := hcut
      generalize wc = wp at *
      clear HE HM hGa hGb
      have KL2 := Lib.hid (KL.out f2 (i : Int) true G1 HG1l.out)
      go_wp2_with fail
      refine (KL2.out _ HM1.out HE1.out).mono ?_
      rintro e wz ⟨rfl, hE2, hm2, -⟩
      have HE2 := Lib.hid hE2
      have HM2 := Lib.hid hm2
      clear hE2 hm2 HE1 HM1 KL2
      go_wp2_with fail
      go_roundw
      case rel => exact ⟨i + 1, by omega, by go_num, by rw [HG1.out]; exact HE2, HM2⟩
      case measure => simp [intOf]; omega
    · obtain rfl : i = n := by omega
      have g1 : decide ((i : Int) < (i : Int)) = false := by simp
      have hgl := HGL.out i
      obtain ⟨GA, hGA⟩ : ∃ GA, gatE f2 sp i = GA := ⟨_, rfl⟩
      rw [hGA] at HE HEA hgl
      have hel := HEL.out
      obtain ⟨DJ, hDJ⟩ : ∃ DJ : Nat → List Ev, DJ = fun j => (List.replicate j (writesL f2 i ++ es)).flatten := ⟨_, rfl⟩
      have HD0 : Hid (DJ 0 = []) := Lib.hid (by rw [hDJ]; rfl)
      have HDS : Hid (∀ j, DJ (j + 1) = DJ j ++ (writesL f2 i ++ es)) := Lib.hid fun j => by
        rw [hDJ]
        show (List.replicate (j + 1) (writesL f2 i ++ es)).flatten = (List.replicate j (writesL f2 i ++ es)).flatten ++ (writesL f2 i ++ es)
        rw [List.replicate_succ', List.flatten_append]
        simp
      have HDL : Hid (∀ j, j ≤ 2 → (DJ j).length ≤ j * 121000) := Lib.hid fun j => by
        induction j with
        | zero => intro _; rw [HD0.out]; exact Nat.le_refl _
        | succ j ih => intro h; rw [HDS.out, List.length_append, List.length_append, hwl]; have := ih (by omega); omega
      have HWL : Hid (∀ m, m ≤ i → (writesL f2 m).length ≤ 1000) := Lib.hid fun m hm => by
        have : ∀ m, (writesL f2 m).length = 2 * m := fun m => by
          induction m with
          | zero => rfl
          | succ m ih => rw [writesL_succ, List.length_append, ih]; simp; omega
        rw [this]; omega
      have HE1 : Hid (EvW wr b base (GA ++ DJ 0)) := Lib.hid (by rw [HD0.out, List.append_nil]; exact HE.out)
      clear hGA hDJ HE
      go_wp2_with fail
      go_loopw [12, 61, 64] (fun _ jv _ wr => ∃ j : Nat, j ≤ 2 ∧ jv = .int .i64 j ∧ Hid (EvW wr b base (GA ++ DJ j)) ∧ Hid (MFrame (fun k => k = b ∨ base ≤ k) w5 wr)) (fun _ jv _ _ => 2 - (intOf jv).toNat)
      case atStart => exact ⟨0, by omega, rfl, HE1, HM⟩
      case round =>
        clear HE1 HM
        obtain ⟨j, hj, rfl, HE, HM⟩ := hrel
        by_cases hj2 : j < 2
        · have g2 : decide ((j : Int) < 2) = true := decide_eq_true (by omega)
          have g2' : decide (j < 2) = true := decide_eq_true hj2
          have hdl := HDL.out j (by omega)
          have HDSj := Lib.hid (HDS.out j)
          obtain ⟨Y, hY⟩ : ∃ Y, GA ++ DJ j = Y := ⟨_, rfl⟩
          have hYl : Y.length ≤ 300000 := by rw [← hY, List.length_append]; omega
          have HY2 : Hid (GA ++ DJ (j + 1) = Y ++ writesL f2 i ++ es) := Lib.hid (by rw [HDSj.out, ← hY]; simp)
          rw [hY] at HE
          have HE1 : Hid (EvW wr b base (Y ++ writesL f2 0)) := Lib.hid (by
            have : Y ++ writesL f2 0 = Y := by simp [writesL]
            rw [this]; exact HE.out)
          clear hY HE
          go_wp2_with fail
          go_loopw [12, 64] (fun _ iv wr => ∃ m : Nat, m ≤ i ∧ iv = .int .i64 m ∧ Hid (EvW wr b base (Y ++ writesL f2 m)) ∧ Hid (MFrame (fun k => k = b ∨ base ≤ k) w5 wr)) (fun _ iv _ => i - (intOf iv).toNat)
          case atStart => exact ⟨0, by omega, rfl, HE1, HM⟩
          case round =>
            clear HE1 HM
            obtain ⟨m, hm, rfl, HE, HM⟩ := hrel
            by_cases hmi : m < i
            · have g3 : decide ((m : Int) < (i : Int)) = true := decide_eq_true (by omega)
              have g3' : decide (m < i) = true := decide_eq_true hmi
              have hwm := HWL.out m (by omega)
              have HWS := Lib.hid (writesL_succ f2 m)
              have KL1 := Lib.hid (KL.out f2 (m : Int) false (Y ++ writesL f2 m) (by rw [List.length_append]; omega))
              have KL2 := Lib.hid (KL.out f2 (m : Int) true (Y ++ writesL f2 m ++ [(f2, (m : Int), false)]) (by rw [List.length_append, List.length_append]; simp; omega))
              go_wp2_with fail
              refine (KL1.out _ HM.out HE.out).mono ?_
              rintro e wz ⟨rfl, hE2, hm2, -⟩
              have HE2 := Lib.hid hE2
              have HM2 := Lib.hid hm2
              clear hE2 hm2 HE HM KL1
              go_wp2_with fail
              refine (KL2.out _ HM2.out HE2.out).mono ?_
              rintro e wz2 ⟨rfl, hE3, hm3, -⟩
              have HE3 := Lib.hid hE3
              have HM3 := Lib.hid hm3
              clear hE3 hm3 HE2 HM2 KL2
              go_wp2_with fail
              go_roundw
              case rel => exact ⟨m + 1, by omega, by go_num, Lib.hid (by rw [HWS.out]; have := HE3.out; rw [List.append_assoc, List.append_assoc] at this; exact this), HM3⟩
              case measure => simp [intOf]; omega
            · obtain rfl : m = i := by omega
              have g3 : decide ((m : Int) < (m : Int)) = false := by simp
              have hwm := HWL.out m (by omega)
              have HYL : Hid ((Y ++ writesL f2 m).length ≤ 400000) := Lib.hid (by rw [List.length_append]; omega)
              obtain ⟨Z, hZ⟩ : ∃ Z, Y ++ writesL f2 m = Z := ⟨_, rfl⟩
              rw [hZ] at HE HYL HY2
              clear hZ
              obtain ⟨ve, hve, hoe⟩ := HE.out
              have HVE := Lib.hid hve
              have HOE := Lib.hid hoe
              have c7 : wr.cell? ⟨b, 0, none⟩ = some ve := hve.cell 0
              have c7d : wr.drew.cell? ⟨b, 0, none⟩ = some ve := hve.cell 0
              clear hve hoe HE
              obtain ⟨i0, hi0, hz0, hz1, hz2⟩ := info_parts info_event
              have HI := Lib.hid hi0
              have HZ := Lib.hid hz0
              have HS := Lib.hid hz1
              have HY := Lib.hid hz2
              clear hi0 hz0 hz1 hz2
              have hzl := HYL.out
              go_upto_region 21 with fail
              refine wp_region_held_drew (S := fun _ => True) (by kernel_rfl) trivial (fun hHeld => ?_)
              refine wpAnyH_take (i := 1) (oi := _) (v := ?_) rfl (by kernel_rfl) (by kernel_rfl) (by kernel_rfl) (fun _ _ _ h => h) (Or.inl ⟨by rfl, ?_⟩) (by assumption) ?_
              rotate_left
              · (intro wS hSw; (try dsimp only at hSw); go_simp; try with_reducible rfl)
              try simp only [Act.put, List.setIfInBounds_toArray, List.set_cons_zero, List.set_cons_succ]
              refine wpAnyH_take (i := 2) (oi := _) (v := ?_) rfl (by kernel_rfl) (by kernel_rfl) (by kernel_rfl) (fun _ _ _ h => h) (Or.inl ⟨by rfl, ?_⟩) (by assumption) ?_
              rotate_left
              · (intro wS hSw; (try dsimp only at hSw); go_simp; try with_reducible rfl)
              try simp only [Act.put, List.setIfInBounds_toArray, List.set_cons_zero, List.set_cons_succ]
              refine wpAnyH_take (i := 3) (oi := _) (v := ?_) rfl (by kernel_rfl) (by kernel_rfl) (by kernel_rfl) (fun _ _ _ h => h) (Or.inl ⟨by rfl, ?_⟩) (by assumption) ?_
              rotate_left
              · (intro wS hSw; (try dsimp only at hSw); go_simp; try with_reducible rfl)
              try simp only [Act.put, List.setIfInBounds_toArray, List.set_cons_zero, List.set_cons_succ]
              refine wpAnyH_ready (rs := [0, 4]) (by kernel_rfl) (by simp) ?_
              refine (AllReadyH.cons (o := _) rfl (fun K hK => ?_) (AllReadyH.cons (o := _) rfl (fun K hK => ?_) AllReadyH.nil))
              focus
                go_simp
                refine hK.out _ _ trivial (fun hHeld => ?_)
                clear hK K
                try simp only [Act.put, List.setIfInBounds_toArray, List.set_cons_zero, List.set_cons_succ]
                refine wpAnyH_ready (rs := [4]) (by kernel_rfl) (by simp) ?_
                refine (AllReadyH.cons (o := _) rfl (fun K hK => ?_) AllReadyH.nil)
                focus
                  go_simp
                  refine (KE.out _).mono ?_
                  rintro e wx ⟨v2, rfl, ⟨a2, cap2, rfl, -, hc2, h3⟩, hb2, -⟩
                  obtain ⟨sb2, so2, rfl, hlt2, hrow2⟩ := h3 HEP.out
                  unfold maxLen at hc2
                  have hbb2 : Below wr.heap.size wr wx := ((Below.refl wr.heap.size wr).drew).trans hb2
                  have hvx := HVE.out.below hbb2 HVE.out.lt
                  have hox := ownsRow_below HOE.out hbb2
                  have hmx := mf_trans HM.out (MFrame.of_below hbb2)
                  have hbx : base ≤ wx.heap.size := by have h1 := hmx.size; omega
                  have c7x : wx.cell? ⟨b, 0, none⟩ = some ve := hvx.cell 0
                  refine hK.out _ _ trivial (fun hHeld => ?_)
                  clear hK K
                  try simp only [Act.put, List.setIfInBounds_toArray, List.set_cons_zero, List.set_cons_succ]
                  refine wpAnyH_ready (rs := [5]) (by kernel_rfl) (by simp) ?_
                  refine (AllReadyH.cons (o := _) rfl (fun K hK => ?_) AllReadyH.nil)
                  focus
                    refine step_append_own_at rfl (.tmp 78) (.tmp 82) 48 rfl base 94 i0 (.agg #[.int .i64 0, .int .i64 0, .bool false]) 3 24 Tryz.underlying48 HI.out HZ.out HS.out HY.out rfl (by decide) ve Z.length (evsV Z) rfl hox ⟨sb2, so2, none⟩ es.length cap2 (evsV es) rfl (evsV_len3 es) (fun j u hu => by rw [addr_add]; exact hrow2 j u hu) (evsV_one es) (by unfold maxLen; omega) (by omega) hbx ?_
                    intro v' w4 hown hgrow _
                    have hsl : ∃ g cap, v' = .slice (some ⟨g, 0, none⟩) (Z.length + es.length) cap := by
                      rcases hown.2 with ⟨_, h0⟩ | ⟨g, cap, cur, e, _⟩
                      · have := List.length_pos_iff.2 HEP.out
                        omega
                      · exact ⟨g, cap, e⟩
                    obtain ⟨g', cap', rfl⟩ := hsl
                    obtain ⟨⟨c8, f8⟩, hEn, hmn⟩ := ev_store hvx hox hbl hown hgrow
                    have hEn := Lib.hid hEn
                    have hmn := Lib.hid (mf_trans hmx hmn)
                    clear hown hgrow hrow2 hvx hox hmx
                    refine hK.out _ _ trivial (fun hHeld => ?_)
                    clear hK K
                    try simp only [Act.put, List.setIfInBounds_toArray, List.set_cons_zero, List.set_cons_succ]
                    refine wpAnyH_ready (rs := [6]) (by kernel_rfl) (by simp) ?_
                    refine (AllReadyH.cons (o := _) rfl (fun K hK => ?_) AllReadyH.nil)
                    focus
                      go_simp
                      refine hK.out _ _ trivial (fun hHeld => ?_)
                      clear hK K
                      try simp only [Act.put, List.setIfInBounds_toArray, List.set_cons_zero, List.set_cons_succ]
                      refine wpAnyH_done (by kernel_rfl) ?_ _
                      go_wp2_with fail
                      go_roundw
                      case rel => exact ⟨j + 1, by omega, by go_num, by rw [HY2.out]; exact hEn, hmn⟩
                      case measure => simp [intOf]; omega
              focus
                go_simp
                refine (KE.out _).mono ?_
                rintro e wx ⟨v2, rfl, ⟨a2, cap2, rfl, -, hc2, h3⟩, hb2, -⟩
                obtain ⟨sb2, so2, rfl, hlt2, hrow2⟩ := h3 HEP.out
                unfold maxLen at hc2
                have hbb2 : Below wr.heap.size wr wx := ((Below.refl wr.heap.size wr).drew).trans hb2
                have hvx := HVE.out.below hbb2 HVE.out.lt
                have hox := ownsRow_below HOE.out hbb2
                have hmx := mf_trans HM.out (MFrame.of_below hbb2)
                have hbx : base ≤ wx.heap.size := by have h1 := hmx.size; omega
                have c7x : wx.cell? ⟨b, 0, none⟩ = some ve := hvx.cell 0
                refine hK.out _ _ trivial (fun hHeld => ?_)
                clear hK K
                try simp only [Act.put, List.setIfInBounds_toArray, List.set_cons_zero, List.set_cons_succ]
                refine wpAnyH_ready (rs := [0]) (by kernel_rfl) (by simp) ?_
                refine (AllReadyH.cons (o := _) rfl (fun K hK => ?_) AllReadyH.nil)
                focus
                  go_simp
                  refine hK.out _ _ trivial (fun hHeld => ?_)
                  clear hK K
                  try simp only [Act.put, List.setIfInBounds_toArray, List.set_cons_zero, List.set_cons_succ]
                  refine wpAnyH_ready (rs := [5]) (by kernel_rfl) (by simp) ?_
                  refine (AllReadyH.cons (o := _) rfl (fun K hK => ?_) AllReadyH.nil)
                  focus
                    refine step_append_own_at rfl (.tmp 78) (.tmp 82) 48 rfl base 94 i0 (.agg #[.int .i64 0, .int .i64 0, .bool false]) 3 24 Tryz.underlying48 HI.out HZ.out HS.out HY.out rfl (by decide) ve Z.length (evsV Z) rfl hox ⟨sb2, so2, none⟩ es.length cap2 (evsV es) rfl (evsV_len3 es) (fun j u hu => by rw [addr_add]; exact hrow2 j u hu) (evsV_one es) (by unfold maxLen; omega) (by omega) hbx ?_
                    intro v' w4 hown hgrow _
                    have hsl : ∃ g cap, v' = .slice (some ⟨g, 0, none⟩) (Z.length + es.length) cap := by
                      rcases hown.2 with ⟨_, h0⟩ | ⟨g, cap, cur, e, _⟩
                      · have := List.length_pos_iff.2 HEP.out
                        omega
                      · exact ⟨g, cap, e⟩
                    obtain ⟨g', cap', rfl⟩ := hsl
                    obtain ⟨⟨c8, f8⟩, hEn, hmn⟩ := ev_store hvx hox hbl hown hgrow
                    have hEn := Lib.hid hEn
                    have hmn := Lib.hid (mf_trans hmx hmn)
                    clear hown hgrow hrow2 hvx hox hmx
                    refine hK.out _ _ trivial (fun hHeld => ?_)
                    clear hK K
                    try simp only [Act.put, List.setIfInBounds_toArray, List.set_cons_zero, List.set_cons_succ]
                    refine wpAnyH_ready (rs := [6]) (by kernel_rfl) (by simp) ?_
                    refine (AllReadyH.cons (o := _) rfl (fun K hK => ?_) AllReadyH.nil)
                    focus
                      go_simp
                      refine hK.out _ _ trivial (fun hHeld => ?_)
                      clear hK K
                      try simp only [Act.put, List.setIfInBounds_toArray, List.set_cons_zero, List.set_cons_succ]
                      refine wpAnyH_done (by kernel_rfl) ?_ _
                      go_wp2_with fail
                      go_roundw
                      case rel => exact ⟨j + 1, by omega, by go_num, by rw [HY2.out]; exact hEn, hmn⟩
                      case measure => simp [intOf]; omega
        · have g2 : decide ((j : Int) < 2) = false := decide_eq_false (by omega)
          have g2' : decide (j < 2) = false := decide_eq_false hj2
          have HJ2 : Hid (j = 2) := Lib.hid (by omega)
          have HEB : Hid (EvW wr b base (GA ++ (writesL f2 i ++ es ++ writesL f2 i ++ es) ++ bakE f2 sp 0)) := Lib.hid (by
            have h := HE.out
            rw [HJ2.out, HDS.out 1, HDS.out 0, HD0.out] at h
            have e : bakE f2 sp 0 = [] := rfl
            rw [e, List.append_nil]
            simpa using h)
          obtain ⟨GB, hGB⟩ : ∃ GB, GA ++ (writesL f2 i ++ es ++ writesL f2 i ++ es) = GB := ⟨_, rfl⟩
          have hGBl : GB.length ≤ 300000 := by
            rw [← hGB]
            have := HWL.out i (by omega)
            simp only [List.length_append]
            omega
          rw [hGB] at HEB HEA
          clear hGB HE
          go_wp2_with fail
          go_loopw [13, 14, 87] (fun _ _ iv wr => ∃ m : Nat, m ≤ sp.length ∧ iv = .int .i64 m ∧ Hid (EvW wr b base (GB ++ bakE f2 sp m)) ∧ Hid (MFrame (fun k => k = b ∨ base ≤ k) w5 wr)) (fun _ _ iv _ => sp.length - (intOf iv).toNat)
          case atStart => exact ⟨0, by omega, rfl, HEB, HM⟩
          case round =>
            clear HEB HM
            obtain ⟨m, hm, rfl, HE, HM⟩ := hrel
            by_cases hms : m < sp.length
            · have g4 : decide ((m : Int) < (sp.length : Int)) = true := decide_eq_true (by omega)
              have g4' : decide (m < sp.length) = true := decide_eq_true hms
              have i0' : (0 : Int) ≤ (m : Int) := by omega
              have i1' : (m : Int) < (sp.length : Int) := by omega
              have hbm := bakE_len f2 sp m
              have HBS : Hid (bakE f2 sp (m + 1) = bakE f2 sp m ++ [(f2, (m : Int), false), (sp[m].1, sp[m].2, true)]) := Lib.hid (by
                rw [bakE_succ]
                have : sp.getD m (0, 0) = sp[m] := by rw [List.getD_eq_getElem?_getD, List.getElem?_eq_getElem hms]; rfl
                rw [this])
              obtain ⟨sb, so, rfl, hcc⟩ := HSC.out m hms
              obtain ⟨c0, c1⟩ := hcc _ HM.out
              clear hcc
              generalize sp[m] = s at *
              obtain ⟨sx, sy⟩ := s
              simp only at HBS c0 c1
              have KL1 := Lib.hid (KL.out f2 (m : Int) false (GB ++ bakE f2 sp m) (by rw [List.length_append]; omega))
              have KL2 := Lib.hid (KL.out sx sy true (GB ++ bakE f2 sp m ++ [(f2, (m : Int), false)]) (by rw [List.length_append, List.length_append]; simp; omega))
              obtain ⟨B, hB⟩ : ∃ B, wr.heap.size = B := ⟨_, rfl⟩
              have hbb : b < B := by have h1 := HM.out.size; obtain ⟨ve, hve, -⟩ := HE.out; rw [← hB]; exact hve.lt
              have hba : Below wr.heap.size wr (wr.alloc (.cells #[.int .i64 sx, .int .i64 sy] 99)) := (Below.refl _ _).alloc (Nat.le_refl _) _
              have HEx := Lib.hid (HE.out.below hba)
              have HMx := Lib.hid (mf_trans HM.out (MFrame.of_below hba))
              have HBx : Hid (Blk (wr.alloc (.cells #[.int .i64 sx, .int .i64 sy] 99)) B #[.int .i64 sx, .int .i64 sy] 99) := Lib.hid (by rw [← hB]; exact Blk.new _ _ _)
              have HIS : Hid ((Tryz.prog.info? 99).map (·.size) = some [Value.int .i64 sx, .int .i64 sy].length) := Lib.hid (by kernel_rfl)
              clear hba HE HM
              go_upto_region 26 with fail
              refine at_world (fun w' => EvW w' b base (GB ++ bakE f2 sp m) ∧ MFrame (fun k => k = b ∨ base ≤ k) w5 w' ∧ Blk w' B #[.int .i64 sx, .int .i64 sy] 99) ⟨HEx.out, HMx.out, HBx.out⟩ ?_
              rintro wb ⟨hEb, hMb, hBb⟩
              have HEb := Lib.hid hEb
              have HMb := Lib.hid hMb
              have HBb := Lib.hid hBb
              clear hEb hMb hBb HEx HMx HBx c0 c1 hB
              go_wp2_with fail
              refine (KL1.out _ HMb.out HEb.out).mono ?_
              rintro e wz ⟨rfl, hE2, hm2, hot⟩
              have HE2 := Lib.hid hE2
              have HM2 := Lib.hid hm2
              have hB2 := hot B _ _ HBb.out (by omega) (by decide)
              have c0 : wz.cell? ⟨B, 0, none⟩ = some (.int .i64 sx) := hB2.cell 0
              have c1 : wz.cell? ⟨B, 1, none⟩ = some (.int .i64 sy) := hB2.cell 1
              clear hE2 hm2 hot hB2 HEb HMb HBb KL1
              go_wp2_with fail
              refine (KL2.out _ HM2.out HE2.out).mono ?_
              rintro e wz2 ⟨rfl, hE3, hm3, -⟩
              have HE3 := Lib.hid hE3
              have HM3 := Lib.hid hm3
              clear hE3 hm3 HE2 HM2 KL2 c0 c1
              go_wp2_with fail
              go_roundw
              case rel => exact ⟨m + 1, by omega, by go_num, Lib.hid (by rw [HBS.out]; have := HE3.out; rw [List.append_assoc, List.append_assoc] at this; exact this), HM3⟩
              case measure => simp [intOf]; omega
            · obtain rfl : m = sp.length := by omega
              have g4 : decide (((sp.length : Nat) : Int) < (sp.length : Int)) = false := by simp
              obtain ⟨ve, hve, hoe⟩ := HE.out
              rw [← HEA.out] at hoe
              have HOE := Lib.hid hoe
              have c7 : wr.cell? ⟨b, 0, none⟩ = some ve := hve.cell 0
              have hbb := HWB.out.size
              have HBE : Hid (Below w.heap.size w wr) := Lib.hid (HWB.out.trans (HM.out.below (fun k hk => by rcases hk with rfl | hk; exact HBW.out; have := HBW.out; omega) hbb))
              clear HE hve hoe HM
              go_wp2_with fail
              go_ret
              exact ⟨ve, rfl, SlE.of_owns HOE.out, HBE.out, fun k hk => by have h1 := (HOE.out.lt k hk).1; have := HBW.out; omega⟩
end Go.Proofs.YthchfdobdghdoaaGreat
end
section
/-
  The walk of shellgameref10.Sizes.
-/
namespace Go.Proofs.YthchfdobdghdoaaGreat
open Go Go.RowKit Go.Sg
set_option maxHeartbeats 1000000 in
set_option maxRecDepth 100000 in
theorem rvsizes_any (c : Lc) (hc : LcOk c) (w : World) :
    Calls Tryz.prog 7 #[.agg #[.int .i64 c.1, .int .i64 c.2.1, .int .i64 c.2.2]] w fun e w' => e = .returned (.tuple #[.int .i64 (szL c).1, .int .i64 (szL c).2.1, .int .i64 (szL c).2.2]) ∧ Below w.heap.size w w' := by
  have KR := Lib.hid (fun w' => rvright_any c hc w')
  have KS := Lib.hid (fun w' => rshape_any c hc w')
  have KP := Lib.hid (fun w' => rplaces_any (lcSh c) w')
  have KO := Lib.hid (fun w' => refRound_any (placesD (lcSh c)) (by have := placesD_bd (lcSh c); unfold Num; omega) w')
  rw [show roundI (placesD (lcSh c)) = lcTab c from rfl] at KO
  have KN := Lib.hid (fun w' => ref8Nodes_any c.1 hc.1 w')
  obtain ⟨A, hA⟩ : ∃ A, w.heap.size = A := ⟨_, rfl⟩
  obtain ⟨w1, hw1⟩ : ∃ w1, w.alloc (.cells #[.int .i64 c.1, .int .i64 c.2.1, .int .i64 c.2.2] 28) = w1 := ⟨_, rfl⟩
  have hb1 : Below w.heap.size w w1 := by rw [← hw1]; exact (Below.refl _ _).alloc (Nat.le_refl _) _
  have k1 : Blk w1 A #[.int .i64 c.1, .int .i64 c.2.1, .int .i64 c.2.2] 28 := by rw [← hw1, ← hA]; exact Blk.new w _ _
  have HB1 := Lib.hid hb1
  have K1 := Lib.hid k1
  have HW1 := Lib.hid hw1
  have a0 : w1.cell? ⟨A, 0, none⟩ = some (.int .i64 c.1) := k1.cell 0
  have a1 : w1.cell? ⟨A, 1, none⟩ = some (.int .i64 c.2.1) := k1.cell 1
  have a2 : w1.cell? ⟨A, 2, none⟩ = some (.int .i64 c.2.2) := k1.cell 2
  have HIL := Lib.hid (info_rcL c)
  clear hw1 hb1 k1
  by_cases hr : lcRight c = true
  · have hS : szL c = (c.2.1 * nodesI c.1, c.2.2, lcTab c) := by unfold szL; rw [if_pos hr]
    have hb := lcRight_bd hr
    have hn : 0 ≤ nodesI c.1 ∧ nodesI c.1 ≤ 2047 := by
      have hR := (lcRight_iff hr).1
      obtain ⟨D, hD, e⟩ := rightB_of hR
      have h1 := pow_mono' D 10 hD
      have h2 : (2 : Int) ^ 10 = 1024 := by decide
      have h3 := pow_mono' 0 D (by omega)
      have h4 : (2 : Int) ^ 0 = 1 := by decide
      unfold nodesI
      rw [if_pos hR]
      omega
    have hm : 0 ≤ c.2.1 * nodesI c.1 ∧ c.2.1 * nodesI c.1 ≤ 8 * 2047 := ⟨Int.mul_nonneg (by omega) hn.1, Int.mul_le_mul (by omega) hn.2 hn.1 (by omega)⟩
    have wm : IntKind.i64.wrap (c.2.1 * nodesI c.1) = c.2.1 * nodesI c.1 := by rw [IntKind.wrap_i64]; omega
    rw [hS]
    rw [hr] at KR
    clear hS hr
    go_enter Tryz.func7, Tryz.ntmps7
    go_wp2_with fail
    rw [HW1.out]
    refine (KR.out _).mono ?_
    rintro e w2 ⟨rfl, hb2⟩
    have HC : Hid (∀ w', Below w2.heap.size w2 w' → w'.cell? ⟨A, 0, none⟩ = some (.int .i64 c.1) ∧ w'.cell? ⟨A, 1, none⟩ = some (.int .i64 c.2.1) ∧ w'.cell? ⟨A, 2, none⟩ = some (.int .i64 c.2.2)) := Lib.hid fun w' hb => by
      have k2 := (K1.out.below hb2 K1.out.lt).below hb (K1.out.below hb2 K1.out.lt).lt
      exact ⟨k2.cell 0, k2.cell 1, k2.cell 2⟩
    have HB2 : Hid (Below w.heap.size w w2) := Lib.hid (HB1.out.trans (hb2.mono HB1.out.size))
    have hd : Below w2.heap.size w2 w2.drew := (Below.refl _ _).drew
    clear hb2 a0 a1 a2
    generalize lcSh c = sh at *
    generalize placesD sh = pp at *
    obtain ⟨sd, ss, st⟩ := sh
    simp only at KP KS
    go_upto_region 3 with fail
    go_region_held3 (fun w' => w'.cell? ⟨A, 0, none⟩ = some (.int .i64 c.1) ∧ w'.cell? ⟨A, 1, none⟩ = some (.int .i64 c.2.1) ∧ w'.cell? ⟨A, 2, none⟩ = some (.int .i64 c.2.2)) (first | exact HC.out _ hd | exact HC.out _ hs | exact HC.out _ h3) (first
      | (go_at_call 34; with_reducible refine (KN.out _).mono ?_; rintro e wn ⟨rfl, rfl⟩)
      | (go_at_call 37; with_reducible refine (KS.out _).mono ?_; rintro e ws ⟨rfl, hbs⟩; have hs : Below w2.heap.size w2 ws := hd.trans (hbs.mono hd.size))
      | (go_at_call 36; with_reducible refine (KP.out _).mono ?_; rintro e w3 ⟨rfl, hb3⟩; have h3 : Below w2.heap.size w2 w3 := hs.trans (hb3.mono hs.size))
      | (go_at_call 35; with_reducible refine (KO.out _).mono ?_; rintro e wo ⟨rfl, rfl⟩))
    all_goals
      have HB3 := Lib.hid (HB2.out.trans (h3.mono HB2.out.size))
      clear h3 hb3 hs hbs hd
      go_wp2
      go_ret3
      exact ⟨rfl, HB3.out⟩
  · have hr' : lcRight c = false := by simpa using hr
    have hS : szL c = (0, 0, 0) := by unfold szL; rw [if_neg hr]
    rw [hS]
    rw [hr'] at KR
    clear hS hr hr'
    go_enter Tryz.func7, Tryz.ntmps7
    go_wp2_with fail
    rw [HW1.out]
    refine (KR.out _).mono ?_
    rintro e w2 ⟨rfl, hb2⟩
    have HB2 : Hid (Below w.heap.size w w2) := Lib.hid (HB1.out.trans (hb2.mono HB1.out.size))
    clear hb2
    go_wp2
    go_ret3
    exact ⟨rfl, HB2.out⟩
end Go.Proofs.YthchfdobdghdoaaGreat
end
