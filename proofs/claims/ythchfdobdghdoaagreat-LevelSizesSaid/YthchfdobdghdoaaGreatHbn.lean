/-
  Joined texts: LevL, LevB, LevI, LevD1, LevD3, LevU, LevO.
-/
import Derived.Test.YthchfdobdghdoaaGreatHbi
import Derived.Test.YthchfdobdghdoaaGreatHbh
import Derived.Test.YthchfdobdghdoaaGreatHbm
import Derived.Test.YthchfdobdghdoaaGreatHbb
import Derived.Test.YthchfdobdghdoaaGreatHbe
import Derived.Test.YthchfdobdghdoaaGreatHae
import Derived.Laws.IdiomCopy
import Derived.BigRegion
import Derived.Deep.RegionHeld3
import Derived.StillTailTactics
import Derived.Test.YthchfdobdghdoaaGreatHaw
import Derived.Maps.AppendAt
import Derived.Test.YthchfdobdghdoaaGreatHaq
import Derived.Test.YthchfdobdghdoaaGreatHbc
set_option linter.unusedVariables false
set_option linter.unusedSimpArgs false
set_option linter.unusedSectionVars false
set_option linter.unnecessarySimpa false
section

/-
  A level, in plain Lean: what an access makes of a memory's cells.
-/
namespace Go.Sg
open Go Go.RowKit
namespace Mm
/-- a region's first cells are these -/
def fill (M : Mm) (r : Int) (cs : List (List Int)) : Mm := { M with regs := M.regs.modify r.toNat (fun g => cs ++ g.drop cs.length) }
variable {M : Mm} {r : Int}
theorem modify_id {β : Type} (l : List β) (n : Nat) (f : β → β) (h : ∀ x, l[n]? = some x → f x = x) : l.modify n f = l := by
  apply List.ext_getElem?
  intro k
  rw [modify_get]
  cases hx : l[k]? with
  | none => rfl
  | some x =>
    simp only [Option.map_some]
    by_cases e : n = k
    · subst e
      rw [if_pos rfl, h x hx]
    · rw [if_neg e]
theorem fill_nil : M.fill r [] = M := by
  unfold fill
  rw [modify_id _ _ _ (fun x _ => by simp)]
theorem fill_evs (cs : List (List Int)) : (M.fill r cs).evs = M.evs := rfl
theorem noted_fill (es : List Ev) (cs : List (List Int)) : (M.noted es).fill r cs = (M.fill r cs).noted es := rfl
theorem fill_size {cs : List (List Int)} (h : cs.length ≤ M.size r) (x : Int) : (M.fill r cs).size x = M.size x := by
  unfold size fill
  by_cases hx : 0 ≤ x
  · rw [if_pos hx, if_pos hx]
    simp only [modify_get]
    cases hg : M.regs[x.toNat]? with
    | none => rfl
    | some g =>
      simp only [Option.map_some, Option.getD_some]
      by_cases e : r.toNat = x.toNat
      · rw [if_pos e]
        have hs : M.size r ≤ g.length ∨ cs = [] := by
          unfold size at h ⊢
          by_cases hr : 0 ≤ r
          · rw [if_pos hr, e, hg]
            exact .inl (Nat.le_refl _)
          · rw [if_neg hr] at h ⊢
            exact .inl (Nat.zero_le _)
        rcases hs with hs | hs
        · rw [List.length_append, List.length_drop]; omega
        · rw [hs]; simp
      · rw [if_neg e]
  · rw [if_neg hx, if_neg hx]
theorem fill_has {cs : List (List Int)} (h : cs.length ≤ M.size r) (x a : Int) : (M.fill r cs).has x a = M.has x a := has_of_size (fill_size h) x a
theorem fill_read {cs : List (List Int)} (h0 : 0 ≤ r) (h : cs.length ≤ M.size r) {i : Nat} (hi : i < M.size r) : (M.fill r cs).read r (i : Int) = if hc : i < cs.length then cs[i] else M.read r (i : Int) := by
  have hs := fill_size h r
  rw [read_cells h0 (show i < (M.fill r cs).size r by omega)]
  have e : (M.fill r cs).cells r = cs ++ (M.cells r).drop cs.length := by
    unfold cells fill
    simp only [modify_get, if_true]
    cases hg : M.regs[r.toNat]? with
    | none =>
      exfalso
      unfold size at hi
      rw [if_pos h0, hg] at hi
      simp at hi
    | some g => rfl
  have e2 : ((M.fill r cs).cells r)[i]? = (cs ++ (M.cells r).drop cs.length)[i]? := by rw [e]
  by_cases hc : i < cs.length
  · rw [dif_pos hc]
    rw [List.getElem?_append_left hc, List.getElem?_eq_getElem hc] at e2
    exact List.getElem_eq_iff _ |>.2 e2
  · rw [dif_neg hc, read_cells (M := M) h0 hi]
    rw [List.getElem?_append_right (by omega), List.getElem?_drop, show cs.length + (i - cs.length) = i by omega] at e2
    rw [List.getElem?_eq_getElem (l := M.cells r) (by rw [cells_len h0]; exact hi)] at e2
    exact List.getElem_eq_iff _ |>.2 e2
theorem fill_read_other {cs : List (List Int)} (h : cs.length ≤ M.size r) (hr : 0 ≤ r) {x : Int} (hx : x ≠ r) (a : Int) : (M.fill r cs).read x a = M.read x a := by
  unfold read
  rw [fill_has h]
  cases hh : M.has x a with
  | false => rfl
  | true =>
    obtain ⟨i, j, _, _, rfl, _⟩ := has_spec hh
    have e : (M.fill r cs).regs[(i : Int).toNat]? = M.regs[(i : Int).toNat]? := by
      simp only [fill, modify_get]
      cases M.regs[(i : Int).toNat]? with
      | none => rfl
      | some x =>
        simp only [Option.map_some]
        rw [if_neg (by omega)]
    rw [e]
theorem fill_put {cs : List (List Int)} (h0 : 0 ≤ r) (h : cs.length < M.size r) (c : List Int) : (M.fill r cs).put r (cs.length : Int) c = M.fill r (cs ++ [c]) := by
  unfold fill put
  simp only [modify_modify]
  rw [modify_congr]
  intro x hx
  have hl : cs.length < x.length := by
    unfold size at h
    rw [if_pos h0, hx] at h
    simpa using h
  rw [Int.toNat_natCast, List.set_append_right _ _ (Nat.le_refl _), Nat.sub_self, List.drop_eq_getElem_cons hl, List.set_cons_zero, List.append_assoc, List.length_append, List.length_singleton]
  rfl
theorem fill_over {cs ds : List (List Int)} (h : ds.length ≤ cs.length) : (M.fill r cs).fill r ds = M.fill r (ds ++ cs.drop ds.length) := by
  unfold fill
  simp only [modify_modify]
  rw [modify_congr]
  intro x hx
  rw [List.drop_append_of_le_length h, List.length_append, List.length_drop, show ds.length + (cs.length - ds.length) = cs.length by omega, List.append_assoc]
theorem srt_fill {cs : List (List Int)} {key : Nat} {ps : List Pr} (hp : PrsOk cs.length ps) : (M.fill r cs).srt r key ps = M.fill r (cxs (kf key) cs ps) := by
  unfold fill srt
  simp only [modify_modify]
  rw [modify_congr]
  intro x _
  rw [cxs_left (kf key) _ ps cs hp, cxs_length]
end Mm
end Go.Sg
end
section

/-
  The walks of a level's block, and of its two closures: which leaf is wrong, what an edit makes of data.
-/
namespace Go.Sg
open Go Go.RowKit
/-- a cell that has a block -/
def blkC (id lf : Int) (d : List Int) : List Int := 1 :: id :: lf :: (d ++ [0])
theorem cw_all (l : List Int) : (cw l).all (·.oneCell') = true := cw_one l
theorem heap_setCells_neL {b : Nat} : ∀ (vs : List Value) (o : Nat) (w : World) (k : Nat), k ≠ b → (w.setCells b o vs).heap[k]? = w.heap[k]?
  | [], _, _, _, _ => rfl
  | v :: r, o, w, k, h => by
    rw [World.setCells, heap_setCells_neL r (o + 1) _ k h, Go.Deep.blk_setCell_other _ _ _ _ (show k ≠ (⟨b, o, none⟩ : Addr).block from h)]
theorem cell_neL {b : Nat} (vs : List Value) (o : Nat) (w : World) {k : Nat} (h : k ≠ b) (j : Nat) : (w.setCells b o vs).cell? ⟨k, j, none⟩ = w.cell? ⟨k, j, none⟩ := World.cell?_of_block (w := w) (heap_setCells_neL vs o w k h)
theorem setCells_blk {w : World} {b : Nat} {t : TypeId} (vs : List Value) (o : Nat) (cs : List Value) (h : Blk w b cs.toArray t) (hl : o + vs.length ≤ cs.length) : Blk (w.setCells b o vs) b (splice cs o vs).toArray t := Blk.splice vs o cs h hl
/-- Two results: a row that lies in memory, and a value. -/
theorem results_row_tmp {P : Program} {fn : Func} {s u : Tmp} {ty : TypeId} (h : fn.results = #[.cell s ty, .tmp u]) (tmps : Array Value) (w : World) (g : Nat) (p : List Value) (d : TypeDesc) (b : Value)
    (hs : tmps.getD s undef = .pointer (some ⟨g, 0, none⟩)) (hb : tmps.getD u undef = b) (hg : w.rangeAt g 0 p)
    (hu : P.underlying ty = some d) (hd : d.isRow = true) (hp : (P.info? ty).map (·.size) = some p.length) :
    (results fn tmps).run P w = .ok (.tuple #[.agg p.toArray, b]) w := by
  have hs' : tmps[s]?.getD undef = .pointer (some ⟨g, 0, none⟩) := by simpa using hs
  have hb' : tmps[u]?.getD undef = b := by simpa using hb
  simp [results, h, hs', hb', asAddr, run_loadVar_mid w g 0 ty p d hg hu hd hp]
section
variable {P : Program}
/-- What a load yields in every world of which S holds: a row, a cell, a row in the midst of a block. -/
theorem yi_row {ops : Array Oper} {S : World → Prop} {o : Oper} {a : Act} (hw : Region.wanted o (yielded ops a.tmps) = true) (ty : TypeId) (x : Operand) (ho : o.op = .load ty x)
    (g : Nat) (hx : a.eval x = .pointer (some ⟨g, 0, none⟩)) (t : TypeId) (cs : Array Value) (d : TypeDesc) (hg : ∀ w, S w → Blk w g cs t)
    (hu : P.underlying ty = some d) (hd : (match d with | .struct _ | .array _ _ => true | _ => false) = true) (hi : (P.info? ty).map (·.size) = some cs.size) : YieldsIf P ops S o (.agg cs) a :=
  Or.inl ⟨hw, fun w hS => by
    unfold execOp
    simp only [ho, hx, Instr.loadAt, Instr.sureAddr, Sem.run_bind, Sem.run_pure, Result.andThen_ok, run_loadVar_row w g t ty cs (0, 0) d (hg w hS) hu hd hi]⟩
theorem yi_cell {ops : Array Oper} {S : World → Prop} {o : Oper} {a : Act} (hw : Region.wanted o (yielded ops a.tmps) = true) (ty : TypeId) (x : Operand) (ho : o.op = .load ty x)
    (ad : Addr) (hx : a.eval x = .pointer (some ad)) (v : Value) (hg : ∀ w, S w → w.cell? ad = some v) (ha : ∀ w, (isAgg ty).run P w = .ok false w) : YieldsIf P ops S o v a :=
  Or.inl ⟨hw, fun w hS => by
    have hl : (loadVar ty ad).run P w = .ok v w := by
      have h1 := hg w hS
      simp [loadVar, ha w, load, Sem.run, h1]
    unfold execOp
    simp only [ho, hx, Instr.loadAt, Instr.sureAddr, Sem.run_bind, Sem.run_pure, Result.andThen_ok, hl]⟩
end
/-- data of which two words are others -/
def partL (o : List Int) (at' : Nat) (d : List Int) : List Int := o.take at' ++ d.take 2 ++ o.drop (at' + 2)
/-- what an edit makes of data, and whether there is a block then -/
def edL (op : Int) (at' : Int) (d o : List Int) (there : Bool) : List Int × Bool :=
  if op = 1 then (d, true) else if op = 2 then (partL o at'.toNat d, true) else (o, there && decide (op = 0))
theorem partL_len {o d : List Int} {k : Nat} (ho : o.length = 8) (hd : d.length = 8) (hk : k ≤ 6) : (partL o k d).length = 8 := by
  unfold partL
  rw [List.length_append, List.length_append, List.length_take, List.length_take, List.length_drop]
  omega
end Go.Sg
namespace Go.Proofs.YthchfdobdghdoaaGreat
open Go Go.RowKit Go.Sg
theorem info_cellL (l : List Int) (h : l.length = 12) : (Tryz.prog.info? 74).map (·.size) = some (cw l).size := by rw [cw_size, h]; kernel_rfl
theorem info_dataL (l : List Int) (h : l.length = 8) : (Tryz.prog.info? 61).map (·.size) = some (cw l).size := by rw [cw_size, h]; kernel_rfl
set_option maxHeartbeats 4000000 in
set_option maxRecDepth 100000 in
theorem block_any (id lf : Int) (d : List Int) (hd : d.length = 8) (hl : 0 ≤ lf ∧ lf < 9223372036854775808) (w : World) :
    Calls Tryz.prog 73 #[.int .u64 id, .int .i64 lf, .agg (cw d)] w fun e w' => e = .returned (.agg (cw (blkC id lf d))) ∧ Below w.heap.size w w' := by
  have wl : IntKind.u64.wrap lf = lf := Go.Sg.wrap_small (by omega) (by omega)
  have HDL := Lib.hid hd
  have HID := Lib.hid (info_dataL d hd)
  have HON := Lib.hid (cw_all d)
  obtain ⟨A, hA⟩ : ∃ A, w.heap.size = A := ⟨_, rfl⟩
  obtain ⟨w4, hw4⟩ : ∃ w4, (((w.alloc (.cells (cw d) 61)).alloc (.cells z12 74)).alloc (.cells (cw [1, id, lf, 0, 0, 0, 0, 0, 0, 0, 0, 0]) 74)) = w4 := ⟨_, rfl⟩
  have hb4 : Below w.heap.size w w4 := by rw [← hw4]; exact (((Below.refl _ _).alloc (Nat.le_refl _) _).alloc (by simp) _).alloc (by simp; omega) _
  have h1 : Blk w4 A (cw d) 61 := by rw [← hw4, ← hA]; exact ((Blk.new w _ _).alloc _).alloc _
  have h2 : Blk w4 (A + 1) z12 74 := by
    rw [← hw4, ← hA]
    have := (Blk.new (w.alloc (.cells (cw d) 61)) z12 74).alloc (.cells (cw [1, id, lf, 0, 0, 0, 0, 0, 0, 0, 0, 0]) 74)
    simpa using this
  have h3 : Blk w4 (A + 1 + 1) (cw [1, id, lf, 0, 0, 0, 0, 0, 0, 0, 0, 0]) 74 := by
    rw [← hw4, ← hA]
    have := Blk.new ((w.alloc (.cells (cw d) 61)).alloc (.cells z12 74)) (cw [1, id, lf, 0, 0, 0, 0, 0, 0, 0, 0, 0]) 74
    simpa using this
  have hcp : ∀ ty, (Builtin.copy_ #[66, 66] ty #[.slice (some ⟨A + 1 + 1, 3, none⟩) 8 9, .slice (some ⟨A, 0, none⟩) 8 8]).run Tryz.prog w4.drew = .ok (goInt 8) (w4.drew.setCells (A + 1 + 1) 3 (d.map (Value.int .u64))) := fun ty => by
    have h := run_copy_cells (P := Tryz.prog) w4.drew 66 66 ty 56 (A + 1 + 1) 3 8 9 ⟨A, 0, none⟩ 8 8 (d.map (Value.int .u64)) Tryz.underlying66 (by kernel_rfl) (by simp [HDL.out]) (fun j v hj => by
      rw [addr_add, Nat.zero_add]
      exact (h1.drew.cell j).trans (by simpa [cw] using hj)) (fun j hj => by
      rw [List.length_map, HDL.out] at hj
      rw [h3.drew.cell (3 + j)]
      have : 3 + j < (cw [1, id, lf, 0, 0, 0, 0, 0, 0, 0, 0, 0]).size := by rw [cw_size]; simp; omega
      rw [Array.getElem?_eq_getElem this]; rfl) (fun j _ => h3.drew.free (3 + j)) (fun v hv => by obtain ⟨x, _, rfl⟩ := List.mem_map.1 hv; rfl)
    rw [List.length_map, HDL.out] at h
    exact h
  have HBC : Hid (Blk (w4.drew.setCells (A + 1 + 1) 3 (d.map (Value.int .u64))) (A + 1 + 1) (cw (blkC id lf d)) 74) := Lib.hid (by
    have h := setCells_blk (d.map (Value.int .u64)) 3 ([1, id, lf, 0, 0, 0, 0, 0, 0, 0, 0, 0].map (Value.int .u64)) (show Blk w4.drew (A + 1 + 1) _ 74 from h3.drew) (by rw [List.length_map, List.length_map, HDL.out]; simp)
    have e : Go.Sg.splice ([1, id, lf, 0, 0, 0, 0, 0, 0, 0, 0, 0].map (Value.int .u64)) 3 (d.map (Value.int .u64)) = (blkC id lf d).map (Value.int .u64) := by
      unfold Go.Sg.splice blkC
      rw [List.length_map, HDL.out]
      simp
    rw [e] at h
    exact h)
  have HBR : Hid (Blk (w4.drew.setCells (A + 1 + 1) 3 (d.map (Value.int .u64))) (A + 1) z12 74) := Lib.hid (by
    unfold Blk
    rw [heap_setCells_neL _ _ _ _ (show A + 1 ≠ A + 1 + 1 by omega)]
    exact h2)
  have HB5 : Hid (Below w.heap.size w (w4.drew.setCells (A + 1 + 1) 3 (d.map (Value.int .u64)))) := Lib.hid (below_setCells (by omega) _ _ hb4.drew)
  have HAW : Hid (w.heap.size ≤ A + 1) := Lib.hid (by omega)
  have hbl : (blkC id lf d).length = 12 := by simp [blkC, HDL.out]
  have HIC := Lib.hid (info_cellL _ hbl)
  have HOC := Lib.hid (cw_all (blkC id lf d))
  have hw4' := hw4
  simp only [cw, z12, List.map_cons, List.map_nil] at hw4'
  obtain ⟨dv, hdv⟩ : ∃ dv, cw d = dv := ⟨_, rfl⟩
  have HDV := Lib.hid hdv
  have e1 : (d.map (Value.int .u64)).toArray = dv := hdv
  rw [e1] at hw4'
  rw [hdv] at HID HON hw4 ⊢
  obtain ⟨w5, hw5⟩ : ∃ w5, w4.drew.setCells (A + 1 + 1) 3 (d.map (Value.int .u64)) = w5 := ⟨_, rfl⟩
  rw [hw5] at HBC HBR HB5
  simp only [hw5] at hcp
  obtain ⟨bc, hbc⟩ : ∃ bc, cw (blkC id lf d) = bc := ⟨_, rfl⟩
  rw [hbc] at HBC HIC HOC ⊢
  have hsz : bc.size = 12 := by rw [← hbc, cw_size, hbl]
  have HW4 := Lib.hid hw4'
  clear hd hdv e1 h1 h2 h3 hb4 hw5 hbc hbl hw4 hw4'
  go_enter Tryz.func73, Tryz.ntmps73
  go_upto_region 2 with fail
  rw [HW4.out]
  go_region
  go_wp2_with (first
    | (refine wpList_load_row rfl 74 (.tmp 7) rfl (A + 1 + 1) rfl 74 bc (0, 0) _ HBC.out Tryz.underlying74 rfl HIC.out ?_)
    | (refine wpList_store_row rfl 74 (.tmp 6) (.tmp 15) rfl (A + 1) bc rfl rfl 74 _ HBR.out HIC.out (by rw [hsz]; rfl) HOC.out ?_))
  refine bodyPost_ret (results_cell_row rfl _ _ (A + 1) 74 _ (0, 0) _ rfl (HBR.out.setRow _) Tryz.underlying74 rfl HIC.out) rfl ⟨rfl, below_rowS HB5.out _ _ HAW.out⟩
set_option maxRecDepth 100000 in
theorem lwrong_any (L lf : Int) (bl q : Nat) (w : World) (h1 : w.cell? ⟨bl, 0, none⟩ = some (.pointer (some ⟨q, 0, none⟩))) (h2 : w.cell? ⟨q, 0, none⟩ = some (.int .i64 L)) :
    Calls Tryz.prog 51 #[.int .i64 lf, .pointer (some ⟨bl, 0, none⟩)] w fun e w' => e = .returned (.bool (decide (lf < 0) || decide (L ≤ lf))) ∧ w' = w := by
  by_cases h0 : lf < 0
  · have d0 : decide (lf < 0) = true := decide_eq_true h0
    go_enter Tryz.func51, Tryz.ntmps51
    go_wp2
    go_ret
    exact ⟨by rw [d0]; rfl, rfl⟩
  · have d0 : decide (lf < 0) = false := decide_eq_false h0
    rw [d0, Bool.false_or]
    rcases hd : decide (L ≤ lf) with _ | _
    · go_enter Tryz.func51, Tryz.ntmps51
      go_wp2
      go_ret
      exact ⟨rfl, rfl⟩
    · go_enter Tryz.func51, Tryz.ntmps51
      go_wp2
      go_ret
      exact ⟨rfl, rfl⟩
set_option maxHeartbeats 4000000 in
set_option maxRecDepth 100000 in
theorem ledit_any (op at' : Int) (d o : List Int) (there : Bool) (hd : d.length = 8) (ho : o.length = 8) (hop : 0 ≤ op ∧ op ≤ 3) (hat : op = 2 → 0 ≤ at' ∧ at' ≤ 6) (bo bd ba : Nat) (w : World)
    (h1 : Blk w bo #[.int .i64 op] 3) (h2 : Blk w bd (cw d) 61) (h3 : Blk w ba #[.int .i64 at'] 3) :
    Calls Tryz.prog 53 #[.agg (cw o), .bool there, .pointer (some ⟨bo, 0, none⟩), .pointer (some ⟨bd, 0, none⟩), .pointer (some ⟨ba, 0, none⟩)] w fun e w' => e = .returned (.tuple #[.agg (cw (edL op at' d o there).1), .bool (edL op at' d o there).2]) ∧ Below w.heap.size w w' := by
  have HIO := Lib.hid (info_dataL o ho)
  have HID := Lib.hid (info_dataL d hd)
  have HOO := Lib.hid (cw_all o)
  have HOD := Lib.hid (cw_all d)
  have zsz : (#[.int .u64 0, .int .u64 0, .int .u64 0, .int .u64 0, .int .u64 0, .int .u64 0, .int .u64 0, .int .u64 0] : Array Value).size = 8 := rfl
  obtain ⟨A, hA⟩ : ∃ A, w.heap.size = A := ⟨_, rfl⟩
  obtain ⟨w2, hw2⟩ : ∃ w2, (w.alloc (.cells (cw o) 61)).alloc (.cells #[.int .u64 0, .int .u64 0, .int .u64 0, .int .u64 0, .int .u64 0, .int .u64 0, .int .u64 0, .int .u64 0] 61) = w2 := ⟨_, rfl⟩
  have hb2 : Below w.heap.size w w2 := by rw [← hw2]; exact ((Below.refl _ _).alloc (Nat.le_refl _) _).alloc (by simp) _
  have k1 : Blk w2 A (cw o) 61 := by rw [← hw2, ← hA]; exact (Blk.new w _ _).alloc _
  have k2 : Blk w2 (A + 1) #[.int .u64 0, .int .u64 0, .int .u64 0, .int .u64 0, .int .u64 0, .int .u64 0, .int .u64 0, .int .u64 0] 61 := by
    rw [← hw2, ← hA]
    have := Blk.new (w.alloc (.cells (cw o) 61)) #[.int .u64 0, .int .u64 0, .int .u64 0, .int .u64 0, .int .u64 0, .int .u64 0, .int .u64 0, .int .u64 0] 61
    simpa using this
  have g1 := h1.below hb2 h1.lt
  have g2 := h2.below hb2 h2.lt
  have g3 := h3.below hb2 h3.lt
  have HB2 := Lib.hid hb2
  have K1 := Lib.hid k1
  have K2 := Lib.hid k2
  have G2 := Lib.hid g2
  have G3 := Lib.hid g3
  have HOL := Lib.hid ho
  have HDL := Lib.hid hd
  have HAL : Hid (w.heap.size = A ∧ bd < w.heap.size) := Lib.hid ⟨hA, h2.lt⟩
  have HBO : Hid (bo < w.heap.size) := Lib.hid h1.lt
  have co : w2.cell? ⟨bo, 0, none⟩ = some (.int .i64 op) := g1.cell 0
  have HCO := Lib.hid co
  obtain ⟨ov, hov⟩ : ∃ ov, cw o = ov := ⟨_, rfl⟩
  obtain ⟨dv, hdv⟩ : ∃ dv, cw d = dv := ⟨_, rfl⟩
  have HOV := Lib.hid hov
  have HDV := Lib.hid hdv
  have hso : ov.size = 8 := by rw [← hov, cw_size, ho]
  have hsd : dv.size = 8 := by rw [← hdv, cw_size, hd]
  rw [hov] at hw2 HIO HOO K1
  rw [hdv] at HID HOD G2
  rw [show cw o = ov from hov]
  clear hb2 k1 k2 g1 g2 h1 h2 h3 hov hdv hd ho
  by_cases e1 : op = 1
  · subst e1
    have HE : Hid (edL 1 at' d o there = (d, true)) := Lib.hid (by simp [edL])
    rw [HE.out, HDV.out]
    clear HE hat hop
    go_enter Tryz.func53, Tryz.ntmps53
    go_wp2_with (first
      | (refine wpList_load_row rfl 61 (.tmp 3) rfl bd rfl 61 dv (0, 0) _ G2.out Tryz.underlying61 rfl HID.out ?_)
      | (refine wpList_store_row rfl 61 (.tmp 7) (.tmp 12) rfl (A + 1) dv rfl rfl 61 _ K2.out HID.out (by rw [hsd]; rfl) HOD.out ?_))
    have hb := (K2.out.setRow dv)
    have hb' : Blk (w2.setRow (A + 1) dv) (A + 1) dv.toList.toArray 61 := by simpa using hb
    have hpl : (Tryz.prog.info? 61).map (·.size) = some dv.toList.length := by have := HID.out; simpa using this
    have HR := results_row_tmp (P := Tryz.prog) (fn := Tryz.f53) rfl
    refine bodyPost_ret (HR _ _ (A + 1) dv.toList _ (.bool true) rfl rfl hb'.range Tryz.underlying61 rfl hpl) rfl ⟨by simp, below_rowS HB2.out _ _ (by have := HAL.out.1; omega)⟩
  by_cases e2 : op = 2
  · subst e2
    obtain ⟨k, rfl⟩ : ∃ k : Nat, at' = k := ⟨at'.toNat, by have := hat rfl; omega⟩
    have hk6 : k ≤ 6 := by have := hat rfl; omega
    have HE : Hid (edL 2 k d o there = (partL o k d, true)) := Lib.hid (by simp [edL])
    have hpl8 := partL_len HOL.out HDL.out hk6
    have ca : w2.drew.cell? ⟨ba, 0, none⟩ = some (.int .i64 (k : Int)) := G3.out.drew.cell 0
    have ca' : w2.cell? ⟨ba, 0, none⟩ = some (.int .i64 (k : Int)) := G3.out.cell 0
    have i0 : (0 : Int) ≤ (k : Int) := by omega
    have i1 : (k : Int) ≤ 8 := by omega
    have hcp : ∀ ty, (Builtin.copy_ #[66, 66] ty #[.slice (some ⟨A, k, none⟩) (8 - k) (8 - k), .slice (some ⟨bd, 0, none⟩) 2 8]).run Tryz.prog w2.drew = .ok (goInt 2) (w2.drew.setCells A k ((d.take 2).map (Value.int .u64))) := fun ty => by
      have h := run_copy_cells (P := Tryz.prog) w2.drew 66 66 ty 56 A k (8 - k) (8 - k) ⟨bd, 0, none⟩ 2 8 ((d.take 2).map (Value.int .u64)) Tryz.underlying66 (by kernel_rfl) (by
          rw [List.length_map, List.length_take, HDL.out, show Nat.min 2 (8 - k) = 2 from Nat.min_eq_left (by omega)]; rfl) (fun j v hj => by
        rw [addr_add, Nat.zero_add]
        have hjl : j < 2 := by have := (List.getElem?_eq_some_iff.1 hj).1; simpa [HDL.out] using this
        rw [(G2.out.drew.cell j), ← HDV.out]
        rw [List.getElem?_map, List.getElem?_take, if_pos hjl] at hj
        simpa [cw] using hj) (fun j hj => by
        rw [List.length_map, List.length_take, HDL.out] at hj
        rw [K1.out.drew.cell (k + j)]
        have : k + j < ov.size := by omega
        rw [Array.getElem?_eq_getElem this]; rfl) (fun j _ => K1.out.drew.free (k + j)) (fun v hv => by obtain ⟨x, _, rfl⟩ := List.mem_map.1 hv; rfl)
      rw [List.length_map, List.length_take, HDL.out] at h
      exact h
    have HBC : Hid (Blk (w2.drew.setCells A k ((d.take 2).map (Value.int .u64))) A (cw (partL o k d)) 61) := Lib.hid (by
      have h := setCells_blk ((d.take 2).map (Value.int .u64)) k (o.map (Value.int .u64)) (show Blk w2.drew A _ 61 by have := K1.out.drew; rw [← HOV.out] at this; exact this) (by rw [List.length_map, List.length_map, List.length_take, HDL.out, HOL.out]; omega)
      have e : Go.Sg.splice (o.map (Value.int .u64)) k ((d.take 2).map (Value.int .u64)) = (partL o k d).map (Value.int .u64) := by
        unfold Go.Sg.splice partL
        rw [List.length_map, List.length_take, HDL.out]
        simp
      rw [e] at h
      exact h)
    have HBR : Hid (Blk (w2.drew.setCells A k ((d.take 2).map (Value.int .u64))) (A + 1) #[.int .u64 0, .int .u64 0, .int .u64 0, .int .u64 0, .int .u64 0, .int .u64 0, .int .u64 0, .int .u64 0] 61) := Lib.hid (by
      unfold Blk
      rw [heap_setCells_neL _ _ _ _ (show A + 1 ≠ A by omega)]
      exact K2.out)
    have HB5 : Hid (Below w.heap.size w (w2.drew.setCells A k ((d.take 2).map (Value.int .u64)))) := Lib.hid (below_setCells (by have := HAL.out.1; omega) _ _ HB2.out.drew)
    have HIC := Lib.hid (info_dataL _ hpl8)
    have HOC := Lib.hid (cw_all (partL o k d))
    obtain ⟨w5, hw5⟩ : ∃ w5, w2.drew.setCells A k ((d.take 2).map (Value.int .u64)) = w5 := ⟨_, rfl⟩
    rw [hw5] at HBC HBR HB5
    simp only [hw5] at hcp
    rw [HE.out]
    obtain ⟨bc, hbc⟩ : ∃ bc, cw (partL o k d) = bc := ⟨_, rfl⟩
    show Calls Tryz.prog 53 #[.agg ov, .bool there, .pointer (some ⟨bo, 0, none⟩), .pointer (some ⟨bd, 0, none⟩), .pointer (some ⟨ba, 0, none⟩)] w fun e w' => e = .returned (.tuple #[.agg (cw (partL o k d)), .bool true]) ∧ Below w.heap.size w w'
    rw [hbc] at HBC HIC HOC ⊢
    have hsz : bc.size = 8 := by rw [← hbc, cw_size, hpl8]
    clear HE hat hop hw5 hbc hpl8 e1
    go_enter Tryz.func53, Tryz.ntmps53
    go_upto_region 5 with fail
    go_region
    go_wp2_with (first
      | (refine wpList_load_row rfl 61 (.tmp 5) rfl A rfl 61 bc (0, 0) _ HBC.out Tryz.underlying61 rfl HIC.out ?_)
      | (refine wpList_store_row rfl 61 (.tmp 7) (.tmp 19) rfl (A + 1) bc rfl rfl 61 _ HBR.out HIC.out (by rw [hsz]; rfl) HOC.out ?_))
    have hb := (HBR.out.setRow bc)
    have hb' : Blk (w5.setRow (A + 1) bc) (A + 1) bc.toList.toArray 61 := by simpa using hb
    have hpl : (Tryz.prog.info? 61).map (·.size) = some bc.toList.length := by have := HIC.out; simpa using this
    have HR := results_row_tmp (P := Tryz.prog) (fn := Tryz.f53) rfl
    refine bodyPost_ret (HR _ _ (A + 1) bc.toList _ (.bool true) rfl rfl hb'.range Tryz.underlying61 rfl hpl) rfl ⟨by simp, below_rowS HB5.out _ _ (by have := HAL.out.1; omega)⟩
  · have HE : Hid (edL op at' d o there = (o, there && decide (op = 0))) := Lib.hid (by unfold edL; rw [if_neg e1, if_neg e2])
    rw [HE.out, HOV.out]
    have q1 : (op == 1) = false := by simpa using e1
    have q2 : (op == 2) = false := by simpa using e2
    have co2 : w2.drew.cell? ⟨bo, 0, none⟩ = some (.int .i64 op) := HCO.out
    obtain ⟨r, hr⟩ : ∃ r, (there && decide (op = 0)) = r := ⟨_, rfl⟩
    rw [hr]
    have hcase : (there = false ∧ r = false) ∨ (there = true ∧ (op == 0) = r) := by
      cases there with
      | false => exact .inl ⟨rfl, by rw [← hr]; rfl⟩
      | true => exact .inr ⟨rfl, by rw [← hr, Bool.true_and]; rfl⟩
    clear HE hat hop hr
    go_enter Tryz.func53, Tryz.ntmps53
    go_upto_region 7 with fail
    have hS2 : Blk (w2.drew.setCells (A + 1) 0 ov.toList) A ov 61 ∧ (w2.drew.setCells (A + 1) 0 ov.toList).cell? ⟨bo, 0, none⟩ = some (.int .i64 op) := by
      refine ⟨?_, (cell_neL _ _ _ (show bo ≠ A + 1 by have := HAL.out.1; have := HBO.out; omega) _).trans HCO.out⟩
      unfold Blk
      rw [heap_setCells_neL _ _ _ _ (show A ≠ A + 1 by omega)]
      exact K1.out
    rcases hcase with ⟨rfl, rfl⟩ | ⟨rfl, q0⟩
    · refine wp_region_held_drew (S := fun w' => Blk w' A ov 61 ∧ w'.cell? ⟨bo, 0, none⟩ = some (.int .i64 op)) (by kernel_rfl) ⟨K1.out.drew, HCO.out⟩ (fun hHeld => ?_)
      refine wpAnyH_take (i := 0) (oi := _) (v := (.agg ov)) rfl (by kernel_rfl) (by kernel_rfl) (by kernel_rfl) (fun _ _ _ h => h) (yi_row (by rfl) 61 (.tmp 5) rfl A rfl 61 ov _ (fun w h => h.1) Tryz.underlying61 rfl HIO.out) (by assumption) ?_
      try simp only [Act.put, List.getElem_toArray, List.getElem_cons_zero, List.getElem_cons_succ, List.setIfInBounds_toArray, List.set_cons_zero, List.set_cons_succ]
      refine wpAnyH_take (i := 1) (oi := _) (v := ?_) rfl (by kernel_rfl) (by kernel_rfl) (by kernel_rfl) (fun _ _ _ h => h) (Or.inl ⟨by rfl, ?_⟩) (by assumption) ?_
      rotate_left
      · (intro wS hSw; (try dsimp only at hSw); go_simp; try with_reducible rfl)
      try simp only [Act.put, List.getElem_toArray, List.getElem_cons_zero, List.getElem_cons_succ, List.setIfInBounds_toArray, List.set_cons_zero, List.set_cons_succ]
      refine wpAnyH_take (i := 2) (oi := _) (v := ?_) rfl (by kernel_rfl) (by kernel_rfl) (by kernel_rfl) (fun _ _ _ h => h) (Or.inl ⟨by rfl, ?_⟩) (by assumption) ?_
      rotate_left
      · (intro wS hSw; (try dsimp only at hSw); go_simp; try with_reducible rfl)
      try simp only [Act.put, List.getElem_toArray, List.getElem_cons_zero, List.getElem_cons_succ, List.setIfInBounds_toArray, List.set_cons_zero, List.set_cons_succ]
      refine wpAnyH_take (i := 3) (oi := _) (v := undef) rfl (by kernel_rfl) (by kernel_rfl) (by kernel_rfl) (fun _ _ _ h => h) (Or.inr ⟨by rfl, rfl⟩) (by assumption) ?_
      try simp only [Act.put, List.getElem_toArray, List.getElem_cons_zero, List.getElem_cons_succ, List.setIfInBounds_toArray, List.set_cons_zero, List.set_cons_succ]
      refine wpAnyH_take (i := 4) (oi := _) (v := undef) rfl (by kernel_rfl) (by kernel_rfl) (by kernel_rfl) (fun _ _ _ h => h) (Or.inr ⟨by rfl, rfl⟩) (by assumption) ?_
      try simp only [Act.put, List.getElem_toArray, List.getElem_cons_zero, List.getElem_cons_succ, List.setIfInBounds_toArray, List.set_cons_zero, List.set_cons_succ]
      refine wpAnyH_take (i := 5) (oi := _) (v := ?_) rfl (by kernel_rfl) (by kernel_rfl) (by kernel_rfl) (fun _ _ _ h => h) (Or.inl ⟨by rfl, ?_⟩) (by assumption) ?_
      rotate_left
      · (intro wS hSw; (try dsimp only at hSw); go_simp; try with_reducible rfl)
      try simp only [Act.put, List.getElem_toArray, List.getElem_cons_zero, List.getElem_cons_succ, List.setIfInBounds_toArray, List.set_cons_zero, List.set_cons_succ]
      refine wpAnyH_ready (rs := [6]) (by kernel_rfl) (by simp) ?_
      refine (AllReadyH.cons (o := _) rfl (fun K hK => ?_) AllReadyH.nil)
      rw [if_pos (by rfl)]
      refine wp_store_mid _ _ _ rfl (A + 1) 0 ov rfl rfl (K2.out.drew.there _ (by rw [hso]; decide)) HIO.out HOO.out ?_
      refine hK.out _ _ hS2 (fun hHeld => ?_)
      clear hK K
      try simp only [Act.put, List.getElem_toArray, List.getElem_cons_zero, List.getElem_cons_succ, List.setIfInBounds_toArray, List.set_cons_zero, List.set_cons_succ]
      refine wpAnyH_take (i := 7) (oi := _) (v := ?_) rfl (by kernel_rfl) (by kernel_rfl) (by kernel_rfl) (fun _ _ _ h => h) (Or.inl ⟨by rfl, ?_⟩) (by assumption) ?_
      rotate_left
      · (intro wS hSw; (try dsimp only at hSw); go_simp; try with_reducible rfl)
      try simp only [Act.put, List.getElem_toArray, List.getElem_cons_zero, List.getElem_cons_succ, List.setIfInBounds_toArray, List.set_cons_zero, List.set_cons_succ]
      refine wpAnyH_done (by kernel_rfl) ?_ _
      have hb' : Blk (w2.drew.setCells (A + 1) 0 ov.toList) (A + 1) ov.toList.toArray 61 := by
        have h := setCells_blk ov.toList 0 [.int .u64 0, .int .u64 0, .int .u64 0, .int .u64 0, .int .u64 0, .int .u64 0, .int .u64 0, .int .u64 0] (show Blk w2.drew (A + 1) _ 61 from K2.out.drew) (by simp [hso])
        have e : Go.Sg.splice [.int .u64 0, .int .u64 0, .int .u64 0, .int .u64 0, .int .u64 0, .int .u64 0, .int .u64 0, .int .u64 0] 0 ov.toList = ov.toList := by
          unfold Go.Sg.splice
          simp [hso]
        rw [e] at h
        exact h
      have hpl : (Tryz.prog.info? 61).map (·.size) = some ov.toList.length := by have := HIO.out; simpa using this
      have HR := results_row_tmp (P := Tryz.prog) (fn := Tryz.f53) rfl
      go_wp2
      refine bodyPost_ret (HR _ _ (A + 1) ov.toList _ (.bool false) rfl rfl hb'.range Tryz.underlying61 rfl hpl) rfl ⟨by simp, below_setCells (by have := HAL.out.1; omega) _ _ HB2.out.drew⟩
    · refine wp_region_held_drew (S := fun w' => Blk w' A ov 61 ∧ w'.cell? ⟨bo, 0, none⟩ = some (.int .i64 op)) (by kernel_rfl) ⟨K1.out.drew, HCO.out⟩ (fun hHeld => ?_)
      refine wpAnyH_take (i := 0) (oi := _) (v := (.agg ov)) rfl (by kernel_rfl) (by kernel_rfl) (by kernel_rfl) (fun _ _ _ h => h) (yi_row (by rfl) 61 (.tmp 5) rfl A rfl 61 ov _ (fun w h => h.1) Tryz.underlying61 rfl HIO.out) (by assumption) ?_
      try simp only [Act.put, List.getElem_toArray, List.getElem_cons_zero, List.getElem_cons_succ, List.setIfInBounds_toArray, List.set_cons_zero, List.set_cons_succ]
      refine wpAnyH_take (i := 1) (oi := _) (v := ?_) rfl (by kernel_rfl) (by kernel_rfl) (by kernel_rfl) (fun _ _ _ h => h) (Or.inl ⟨by rfl, ?_⟩) (by assumption) ?_
      rotate_left
      · (intro wS hSw; (try dsimp only at hSw); go_simp; try with_reducible rfl)
      try simp only [Act.put, List.getElem_toArray, List.getElem_cons_zero, List.getElem_cons_succ, List.setIfInBounds_toArray, List.set_cons_zero, List.set_cons_succ]
      refine wpAnyH_take (i := 2) (oi := _) (v := ?_) rfl (by kernel_rfl) (by kernel_rfl) (by kernel_rfl) (fun _ _ _ h => h) (Or.inl ⟨by rfl, ?_⟩) (by assumption) ?_
      rotate_left
      · (intro wS hSw; (try dsimp only at hSw); go_simp; try with_reducible rfl)
      try simp only [Act.put, List.getElem_toArray, List.getElem_cons_zero, List.getElem_cons_succ, List.setIfInBounds_toArray, List.set_cons_zero, List.set_cons_succ]
      refine wpAnyH_take (i := 3) (oi := _) (v := (.int .i64 op)) rfl (by kernel_rfl) (by kernel_rfl) (by kernel_rfl) (fun _ _ _ h => h) (yi_cell (by rfl) 3 (.tmp 2) rfl ⟨bo, 0, none⟩ rfl (.int .i64 op) (fun w h => h.2) Tryz.isAgg3) (by assumption) ?_
      try simp only [Act.put, List.getElem_toArray, List.getElem_cons_zero, List.getElem_cons_succ, List.setIfInBounds_toArray, List.set_cons_zero, List.set_cons_succ]
      refine wpAnyH_take (i := 4) (oi := _) (v := ?_) rfl (by kernel_rfl) (by kernel_rfl) (by kernel_rfl) (fun _ _ _ h => h) (Or.inl ⟨by rfl, ?_⟩) (by assumption) ?_
      rotate_left
      · (intro wS hSw; (try dsimp only at hSw); go_simp; try with_reducible rfl)
      try simp only [Act.put, List.getElem_toArray, List.getElem_cons_zero, List.getElem_cons_succ, List.setIfInBounds_toArray, List.set_cons_zero, List.set_cons_succ]
      refine wpAnyH_take (i := 5) (oi := _) (v := ?_) rfl (by kernel_rfl) (by kernel_rfl) (by kernel_rfl) (fun _ _ _ h => h) (Or.inl ⟨by rfl, ?_⟩) (by assumption) ?_
      rotate_left
      · (intro wS hSw; (try dsimp only at hSw); go_simp; try with_reducible rfl)
      try simp only [Act.put, List.getElem_toArray, List.getElem_cons_zero, List.getElem_cons_succ, List.setIfInBounds_toArray, List.set_cons_zero, List.set_cons_succ]
      refine wpAnyH_ready (rs := [6]) (by kernel_rfl) (by simp) ?_
      refine (AllReadyH.cons (o := _) rfl (fun K hK => ?_) AllReadyH.nil)
      rw [if_pos (by rfl)]
      refine wp_store_mid _ _ _ rfl (A + 1) 0 ov rfl rfl (K2.out.drew.there _ (by rw [hso]; decide)) HIO.out HOO.out ?_
      refine hK.out _ _ hS2 (fun hHeld => ?_)
      clear hK K
      try simp only [Act.put, List.getElem_toArray, List.getElem_cons_zero, List.getElem_cons_succ, List.setIfInBounds_toArray, List.set_cons_zero, List.set_cons_succ]
      refine wpAnyH_take (i := 7) (oi := _) (v := ?_) rfl (by kernel_rfl) (by kernel_rfl) (by kernel_rfl) (fun _ _ _ h => h) (Or.inl ⟨by rfl, ?_⟩) (by assumption) ?_
      rotate_left
      · (intro wS hSw; (try dsimp only at hSw); go_simp; try with_reducible rfl)
      try simp only [Act.put, List.getElem_toArray, List.getElem_cons_zero, List.getElem_cons_succ, List.setIfInBounds_toArray, List.set_cons_zero, List.set_cons_succ]
      refine wpAnyH_done (by kernel_rfl) ?_ _
      have hb' : Blk (w2.drew.setCells (A + 1) 0 ov.toList) (A + 1) ov.toList.toArray 61 := by
        have h := setCells_blk ov.toList 0 [.int .u64 0, .int .u64 0, .int .u64 0, .int .u64 0, .int .u64 0, .int .u64 0, .int .u64 0, .int .u64 0] (show Blk w2.drew (A + 1) _ 61 from K2.out.drew) (by simp [hso])
        have e : Go.Sg.splice [.int .u64 0, .int .u64 0, .int .u64 0, .int .u64 0, .int .u64 0, .int .u64 0, .int .u64 0, .int .u64 0] 0 ov.toList = ov.toList := by
          unfold Go.Sg.splice
          simp [hso]
        rw [e] at h
        exact h
      have hpl : (Tryz.prog.info? 61).map (·.size) = some ov.toList.length := by have := HIO.out; simpa using this
      have HR := results_row_tmp (P := Tryz.prog) (fn := Tryz.f53) rfl
      go_wp2
      refine bodyPost_ret (HR _ _ (A + 1) ov.toList _ (.bool r) rfl rfl hb'.range Tryz.underlying61 rfl hpl) rfl ⟨by simp, below_setCells (by have := HAL.out.1; omega) _ _ HB2.out.drew⟩
end Go.Proofs.YthchfdobdghdoaaGreat
end
section

/-
  The walk of a level's item: what is dealt for a cell.
-/
namespace Go.Sg
open Go Go.RowKit
/-- what is dealt for a cell -/
def itC (L fr : Int) (c : List Int) : Di := if c.getD 0 0 = 1 then (c.getD 1 0, deepI L fr (c.getD 2 0)) else (0, -1)
theorem cw_at {c : List Int} {k : Nat} (h : k < c.length) : (cw c)[k]? = some (.int .u64 (c.getD k 0)) := by
  rw [cw_get h, List.getD_eq_getElem?_getD, List.getElem?_eq_getElem h]; rfl
end Go.Sg
namespace Go.Proofs.YthchfdobdghdoaaGreat
open Go Go.RowKit Go.Sg
theorem info_ditemL (x y : Int) : (Tryz.prog.info? 144).map (·.size) = some (#[Value.int .u64 x, .int .i64 y] : Array Value).size := by kernel_rfl
set_option maxHeartbeats 2000000 in
set_option maxRecDepth 100000 in
theorem item_any (L fr : Int) (hL : Num L) (c : List Int) (hc : c.length = 12) (hg : c.getD 0 0 = 1 → 0 ≤ c.getD 2 0 ∧ c.getD 2 0 < 9223372036854775808) (q : Nat) (w : World) (hq : w.cell? ⟨q, 0, none⟩ = some (.int .i64 L)) (hlt : q < w.heap.size) :
    Calls Tryz.prog 89 #[.pointer (some ⟨q, 0, none⟩), .agg (cw c), .int .i64 fr] w fun e w' => e = .returned (.agg #[.int .u64 (itC L fr c).1, .int .i64 (itC L fr c).2]) ∧ Below w.heap.size w w' := by
  have KD := Lib.hid (fun w' => pathDeep_any L fr (c.getD 2 0) hL w')
  obtain ⟨A, hA⟩ : ∃ A, w.heap.size = A := ⟨_, rfl⟩
  obtain ⟨w2, hw2⟩ : ∃ w2, (w.alloc (.cells (cw c) 74)).alloc (.cells #[.int .u64 0, .int .i64 0] 144) = w2 := ⟨_, rfl⟩
  have hb2 : Below w.heap.size w w2 := by rw [← hw2]; exact ((Below.refl _ _).alloc (Nat.le_refl _) _).alloc (by simp) _
  have k1 : Blk w2 A (cw c) 74 := by rw [← hw2, ← hA]; exact (Blk.new w _ _).alloc _
  have k2 : Blk w2 (A + 1) #[.int .u64 0, .int .i64 0] 144 := by
    rw [← hw2, ← hA]
    have := Blk.new (w.alloc (.cells (cw c) 74)) #[.int .u64 0, .int .i64 0] 144
    simpa using this
  have HB2 := Lib.hid hb2
  have K2 := Lib.hid k2
  have HAW : Hid (w.heap.size ≤ A + 1) := Lib.hid (by omega)
  have c0 : w2.cell? ⟨A, 0, none⟩ = some (.int .u64 (c.getD 0 0)) := (k1.cell 0).trans (cw_at (by omega))
  have c1 : w2.cell? ⟨A, 1, none⟩ = some (.int .u64 (c.getD 1 0)) := (k1.cell 1).trans (cw_at (by omega))
  have c2 : w2.cell? ⟨A, 2, none⟩ = some (.int .u64 (c.getD 2 0)) := (k1.cell 2).trans (cw_at (by omega))
  have cq : w2.cell? ⟨q, 0, none⟩ = some (.int .i64 L) := (hb2.cell (p := ⟨q, 0, none⟩) hlt).trans hq
  have d0 : w2.drew.cell? ⟨A, 0, none⟩ = some (.int .u64 (c.getD 0 0)) := c0
  have d1 : w2.drew.cell? ⟨A, 1, none⟩ = some (.int .u64 (c.getD 1 0)) := c1
  have d2 : w2.drew.cell? ⟨A, 2, none⟩ = some (.int .u64 (c.getD 2 0)) := c2
  have dq : w2.drew.cell? ⟨q, 0, none⟩ = some (.int .i64 L) := cq
  have hit : itC L fr c = if c.getD 0 0 = 1 then (c.getD 1 0, deepI L fr (c.getD 2 0)) else (0, -1) := rfl
  rw [hit]
  obtain ⟨cv, hcv⟩ : ∃ cv, cw c = cv := ⟨_, rfl⟩
  rw [hcv] at hw2 ⊢
  clear hb2 k1 k2 hcv hc hq hit
  generalize c.getD 0 0 = x0 at *
  generalize c.getD 1 0 = x1 at *
  generalize c.getD 2 0 = x2 at *
  by_cases hx : x0 = 1
  · subst hx
    rw [if_pos rfl]
    obtain ⟨g1, g2⟩ := hg rfl
    have wx : IntKind.i64.wrap x2 = x2 := by rw [IntKind.wrap_i64]; omega
    generalize deepI L fr x2 = dp at *
    have HI := Lib.hid (info_ditemL x1 dp)
    show Calls Tryz.prog 89 #[.pointer (some ⟨q, 0, none⟩), .agg cv, .int .i64 fr] w fun e w' => e = .returned (.agg #[.int .u64 x1, .int .i64 dp]) ∧ Below w.heap.size w w'
    go_enter Tryz.func89, Tryz.ntmps89
    go_upto_region 3 with fail
    go_still_tail 13, (by kernel_rfl)
    refine wpStill_step (fun K hK => ?_)
    go_simp
    refine ⟨_, KD.out _, hK _ ?_⟩
    clear hK K
    repeat still_step
    refine wpStill_nil ?_
    change wpList _ _ _ _ _ w2.drew
    refine wpList_store_row rfl 144 (.tmp 6) (.tmp 23) rfl (A + 1) #[.int .u64 x1, .int .i64 dp] rfl rfl 144 _ K2.out.drew HI.out (by rfl) (by simp [Value.oneCell']) ?_
    go_wp2
    have HBF : Hid (Below w.heap.size w (w2.drew.setRow (A + 1) #[.int .u64 x1, .int .i64 dp])) := Lib.hid (below_rowS HB2.out.drew _ _ HAW.out)
    refine bodyPost_ret (results_cell_row rfl _ _ (A + 1) 144 _ (0, 0) _ rfl (K2.out.drew.setRow _) Tryz.underlying144 rfl HI.out) rfl ⟨rfl, by first | exact HBF.out | (have h := HBF.out; rw [hA] at h; exact h)⟩
  · rw [if_neg hx]
    have q0 : (x0 != 1) = true := by simpa using hx
    have HI := Lib.hid (info_ditemL 0 (-1))
    show Calls Tryz.prog 89 #[.pointer (some ⟨q, 0, none⟩), .agg cv, .int .i64 fr] w fun e w' => e = .returned (.agg #[.int .u64 0, .int .i64 (-1)]) ∧ Below w.heap.size w w'
    go_enter Tryz.func89, Tryz.ntmps89
    go_wp2_with (first
      | (refine wpList_store_row rfl 144 (.tmp 6) (.tmp 10) rfl (A + 1) #[.int .u64 0, .int .i64 (-1)] rfl rfl 144 _ K2.out HI.out (by rfl) (by simp [Value.oneCell']) ?_)
      | fail)
    have HBF : Hid (Below w.heap.size w (w2.setRow (A + 1) #[.int .u64 0, .int .i64 (-1)])) := Lib.hid (below_rowS HB2.out _ _ HAW.out)
    refine bodyPost_ret (results_cell_row rfl _ _ (A + 1) 144 _ (0, 0) _ rfl (K2.out.setRow _) Tryz.underlying144 rfl HI.out) rfl ⟨rfl, by first | exact HBF.out | (have h := HBF.out; rw [hA] at h; exact h)⟩
end Go.Proofs.YthchfdobdghdoaaGreat
end
section

/-
  The walk of the closure that sets the table's keys, and keeps what is dealt.
-/
namespace Go.Sg
open Go Go.RowKit Go.Sg.Rws
/-- what the table's cells are put in order by -/
def key1 (D n L fr : Int) (i : Nat) (c : List Int) : Int := if (i : Int) < n ∧ c.getD 0 0 = 1 then (D - (itC L fr c).2) * 4294967296 + (itC L fr c).1 else 4611686018427387904 + i
def rowC (D n L fr : Int) (i : Nat) (c : List Int) : Rt := (key1 D n L fr i c, itC L fr c)
/-- a cell of twelve words, that has a block of this level, or none -/
def CellOk (L : Int) (c : List Int) : Prop := c.length = 12 ∧ (∀ x ∈ c, Word x) ∧ (c.getD 0 0 = 1 → 0 ≤ c.getD 1 0 ∧ c.getD 1 0 ≤ 2147483648 ∧ hasB L (c.getD 2 0) = true)
theorem deepI_bd {L a b : Int} (ha : hasB L a = true) (hb : hasB L b = true) : 0 ≤ deepI L a b ∧ deepI L a b ≤ depthI L := by
  have h := depthI_bd L
  unfold deepI
  rw [if_pos ⟨ha, hb⟩]
  have := eqs_le (depthI L).toNat a b
  omega
theorem hasB_bd {L a : Int} (h : hasB L a = true) : 0 ≤ a ∧ a < 1024 := by
  simp only [hasB, Bool.and_eq_true, decide_eq_true_eq] at h
  have := rightB_bd h.1.1
  omega
theorem blk_keepL {w w' : World} {b : Nat} {cs : Array Value} {t : TypeId} (h : Blk w b cs t) (e : w'.heap[b]? = w.heap[b]?) : Blk w' b cs t := by unfold Blk at *; rw [e]; exact h
theorem own_keepL {w w' : World} {B : Nat} {e : TypeId} {size : Nat} {v : Value} {m : Nat} {xs : List Value} (h : w.ownsRow B e size v m xs) (hb : ∀ k, v.ownBlock = some k → w'.heap[k]? = w.heap[k]?) : w'.ownsRow B e size v m xs := by
  refine ⟨h.1, ?_⟩
  rcases h.2 with h2 | ⟨g, cap, cur, rfl, hbg, hg, h3⟩
  · exact .inl h2
  · exact .inr ⟨g, cap, cur, rfl, hbg, by rw [hb g rfl]; exact hg, h3⟩
/-- the memory of a closure's walk -/
structure D1W (TC TB TR : TypeId) (w : World) (A br base : Nat) (c : List Int) (rv : Value) (rows : List Rt) (w' : World) : Prop where
  c : Blk w' A (cw c) TC
  r : Blk w' (A + 1) z12 TC
  b : Blk w' br #[rv] TB
  o : w'.ownsRow base TR 3 rv rows.length (flatV rtV rows)
  f : MFrame (fun k => k = br ∨ rv.ownBlock = some k) w w'
  a : w.heap.size = A ∧ base ≤ A ∧ br < base
  lt : ∀ k, rv.ownBlock = some k → k < A
section
variable {TC TB TR : TypeId} {w w1 w2 : World} {A br base : Nat} {c : List Int} {rv : Value} {rows : List Rt}
theorem D1W.below (h : D1W TC TB TR w A br base c rv rows w1) (hb : Below w1.heap.size w1 w2) : D1W TC TB TR w A br base c rv rows w2 :=
  ⟨h.c.below hb h.c.lt, h.r.below hb h.r.lt, h.b.below hb h.b.lt, ownsRow_below h.o hb, h.f.trans (MFrame.of_below hb), h.a, h.lt⟩
theorem D1W.setc (h : D1W TC TB TR w A br base c rv rows w1) (hl : c.length = 12) (x : Int) : D1W TC TB TR w A br base (c.set 11 x) rv rows (w1.setCell ⟨A, 11, none⟩ (.int .u64 x)) := by
  obtain ⟨a1, a2, a3⟩ := h.a
  have hc := h.c.set 11 (.int .u64 x)
  rw [cw_set] at hc
  refine ⟨hc, h.r.other _ _ (show A + 1 ≠ A by omega), h.b.other _ _ (show br ≠ A by omega), ?_, h.f.set (p := ⟨A, 11, none⟩) (.inr ⟨by show w.heap.size ≤ A; omega, h.c.lt⟩) _, h.a, h.lt⟩
  refine ⟨h.o.1, ?_⟩
  rcases h.o.2 with h2 | ⟨g, cap, cur, rfl, hbg, hg, h3⟩
  · exact .inl h2
  · exact .inr ⟨g, cap, cur, rfl, hbg, by rw [Go.Deep.blk_setCell_other _ _ _ _ (show g ≠ A by have := h.lt g rfl; omega)]; exact hg, h3⟩
end
end Go.Sg
namespace Go.Proofs.YthchfdobdghdoaaGreat
open Go Go.RowKit Go.Sg Go.Sg.Rws
theorem info_rowL : (Tryz.prog.info? 147).map (fun i => (i.zero, i.size, i.bytes)) = some (some (.agg #[.int .u64 0, .int .u64 0, .int .i64 0]), 3, 24) := by kernel_rfl
set_option maxHeartbeats 4000000 in
set_option maxRecDepth 100000 in
theorem ldeal1_any (L fr n : Int) (hL : Num L) (hfr : hasB L fr = true) (hn : 0 ≤ n ∧ n ≤ 1024) (c : List Int) (hc : CellOk L c) (i : Nat) (hi : i ≤ 1024) (S T : Int) (q bl bf bn bs br base : Nat) (rv : Value) (rows : List Rt) (hrl : rows.length ≤ 1024) (w : World)
    (hq : w.cell? ⟨q, 0, none⟩ = some (.int .i64 L)) (hlt : q < w.heap.size)
    (h1 : Blk w bl #[.pointer (some ⟨q, 0, none⟩)] 37) (h2 : Blk w bf #[.int .i64 fr] 3) (h3 : Blk w bn #[.int .i64 n] 3) (h4 : Blk w bs #[.int .i64 (depthI L), .int .i64 S, .int .i64 T] 83)
    (h5 : Blk w br #[rv] 142) (ho : w.ownsRow base 147 3 rv rows.length (flatV rtV rows)) (hbb : br < base) (hbw : base ≤ w.heap.size) :
    Calls Tryz.prog 88 #[.int .i64 i, .agg (cw c), .pointer (some ⟨bl, 0, none⟩), .pointer (some ⟨bf, 0, none⟩), .pointer (some ⟨bn, 0, none⟩), .pointer (some ⟨bs, 0, none⟩), .pointer (some ⟨br, 0, none⟩)] w
      fun e w' => e = .returned (.agg (cw (c.set 11 (key1 (depthI L) n L fr i c)))) ∧ ∃ rv', Blk w' br #[rv'] 142 ∧ w'.ownsRow base 147 3 rv' (rows.length + 1) (flatV rtV (rows ++ [rowC (depthI L) n L fr i c])) ∧ MFrame (fun k => k = br ∨ rv.ownBlock = some k) w w' ∧ ∀ k, rv'.ownBlock = some k → rv.ownBlock = some k ∨ w.heap.size ≤ k := by
  obtain ⟨c12, cwd, cg⟩ := hc
  obtain ⟨i0, hi0, hz0, hz1, hz2⟩ := info_parts info_rowL
  have HI := Lib.hid hi0
  have HZ := Lib.hid hz0
  have HS := Lib.hid hz1
  have HY := Lib.hid hz2
  clear hi0 hz0 hz1 hz2
  obtain ⟨A, hA⟩ : ∃ A, w.heap.size = A := ⟨_, rfl⟩
  obtain ⟨w2, hw2⟩ : ∃ w2, (w.alloc (.cells (cw c) 74)).alloc (.cells z12 74) = w2 := ⟨_, rfl⟩
  have hb2 : Below w.heap.size w w2 := by rw [← hw2]; exact ((Below.refl _ _).alloc (Nat.le_refl _) _).alloc (by simp) _
  have k1 : Blk w2 A (cw c) 74 := by rw [← hw2, ← hA]; exact (Blk.new w _ _).alloc _
  have k2 : Blk w2 (A + 1) z12 74 := by
    rw [← hw2, ← hA]
    have := Blk.new (w.alloc (.cells (cw c) 74)) z12 74
    simpa using this
  have HD2 : Hid (D1W 74 142 147 w A br base c rv rows w2) := Lib.hid ⟨k1, k2, h5.below hb2 h5.lt, ownsRow_below ho hb2, MFrame.of_below hb2, ⟨hA, by omega, hbb⟩, fun k hk => by have := (ho.lt k hk).2; omega⟩
  have HK : Hid (∀ w', Below w.heap.size w w' → w'.cell? ⟨bl, 0, none⟩ = some (.pointer (some ⟨q, 0, none⟩)) ∧ w'.cell? ⟨bf, 0, none⟩ = some (.int .i64 fr) ∧ w'.cell? ⟨bn, 0, none⟩ = some (.int .i64 n) ∧ w'.cell? ⟨bs, 0, none⟩ = some (.int .i64 (depthI L)) ∧ w'.cell? ⟨q, 0, none⟩ = some (.int .i64 L)) := Lib.hid fun w' h =>
    ⟨(h1.below h h1.lt).cell 0, (h2.below h h2.lt).cell 0, (h3.below h h3.lt).cell 0, (h4.below h h4.lt).cell 0, (h.cell (p := ⟨q, 0, none⟩) hlt).trans hq⟩
  obtain ⟨m1, m2, m3, m4, m5⟩ := HK.out w2 hb2
  have KI := Lib.hid (item_any L fr hL c c12 (fun h => by have := hasB_bd (cg h).2.2; omega) q w2 m5 (Nat.lt_of_lt_of_le hlt hb2.size))
  have HIC := Lib.hid (info_cellL c c12)
  have HB2 := Lib.hid hb2
  have HLT : Hid (q < A ∧ bl < A ∧ bf < A ∧ bn < A ∧ bs < A) := Lib.hid (by have := h1.lt; have := h2.lt; have := h3.lt; have := h4.lt; omega)
  have HCV := Lib.hid k1
  have h0 := cw_at (c := c) (k := 0) (by omega)
  have H0 : Hid ((cw c)[0]? = some (.int .u64 (c.getD 0 0))) := Lib.hid h0
  have HL12 := Lib.hid c12
  have hdb := depthI_bd L
  have hdp : c.getD 0 0 = 1 → 0 ≤ (itC L fr c).2 ∧ (itC L fr c).2 ≤ depthI L ∧ 0 ≤ (itC L fr c).1 ∧ (itC L fr c).1 ≤ 2147483648 := fun h => by
    have h5 := cg h
    have h6 := deepI_bd hfr h5.2.2
    unfold itC
    rw [if_pos h]
    exact ⟨h6.1, h6.2, h5.1, h5.2.1⟩
  have HKE : Hid (key1 (depthI L) n L fr i c = if (i : Int) < n ∧ c.getD 0 0 = 1 then (depthI L - (itC L fr c).2) * 4294967296 + (itC L fr c).1 else 4611686018427387904 + i) := Lib.hid rfl
  have HRE : Hid (rowC (depthI L) n L fr i c = (key1 (depthI L) n L fr i c, itC L fr c)) := Lib.hid rfl
  rw [HRE.out]
  generalize key1 (depthI L) n L fr i c = ky at *
  generalize itC L fr c = it at *
  obtain ⟨id, dp⟩ := it
  simp only at hdp
  generalize depthI L = D at *
  obtain ⟨x0, hx0⟩ : ∃ x0, c.getD 0 0 = x0 := ⟨_, rfl⟩
  rw [hx0] at H0 hdp HKE
  obtain ⟨cv, hcv⟩ : ∃ cv, cw c = cv := ⟨_, rfl⟩
  have HCE := Lib.hid hcv
  rw [hcv] at hw2 HCV HIC KI
  clear hb2 k1 k2 h0 HRE cg hq h1 h2 h3 h4 h5 ho hx0 hcv
  obtain ⟨cv', hcv'⟩ : ∃ cv', cw (c.set 11 ky) = cv' := ⟨_, rfl⟩
  rw [show cw c = cv from HCE.out, hcv']
  have HCV' := Lib.hid hcv'
  clear hcv'
  unfold z12 at hw2
  go_enter Tryz.func88, Tryz.ntmps88
  go_wp2_with (first
    | (refine wpList_load_row rfl 74 (.tmp 8) rfl A rfl 74 cv (0, 0) _ HCV.out Tryz.underlying74 rfl HIC.out ?_)
    | fail)
  refine KI.out.mono ?_
  rintro e w3 ⟨rfl, hb3⟩
  have HB3 : Hid (Below w.heap.size w w3) := Lib.hid (HB2.out.trans (hb3.mono HB2.out.size))
  have HD3 := Lib.hid (HD2.out.below hb3)
  obtain ⟨X, hX⟩ : ∃ X, w3.heap.size = X := ⟨_, rfl⟩
  obtain ⟨w4, hw4⟩ : ∃ w4, w3.alloc (.cells #[.int .u64 id, .int .i64 dp] 144) = w4 := ⟨_, rfl⟩
  have hb4 : Below w3.heap.size w3 w4 := by rw [← hw4]; exact (Below.refl _ _).alloc (Nat.le_refl _) _
  have hX4 : Blk w4 X #[.int .u64 id, .int .i64 dp] 144 := by rw [← hw4, ← hX]; exact Blk.new w3 _ _
  have HX4 := Lib.hid hX4
  have HAX : Hid (A + 1 < X) := Lib.hid (by have := HD3.out.r.lt; omega)
  have HD4 := Lib.hid (HD3.out.below hb4)
  have HB4 : Hid (Below w.heap.size w w4) := Lib.hid (HB3.out.trans (hb4.mono HB3.out.size))
  have cA11 : w4.cell? ⟨A, 11, none⟩ = some (.int .u64 (c.getD 11 0)) := (HD4.out.c.cell 11).trans (cw_at (by have := HL12.out; omega))
  have fA11 : w4.frozen? ⟨A, 11, none⟩ = false := HD4.out.c.free 11
  have wi : IntKind.u64.wrap (i : Int) = (i : Int) := Go.Sg.wrap_small (by omega) (by omega)
  have wi2 : IntKind.u64.wrap (4611686018427387904 + (i : Int)) = 4611686018427387904 + (i : Int) := Go.Sg.wrap_small (by omega) (by omega)
  have HW4 := Lib.hid hw4
  have HXE := Lib.hid hX
  clear hb3 hb4 hX4 KI HD2 HD3 HB3 HB2 hw2 hw4 m1 m2 m3 m4 m5 HCV hX
  go_upto_region 2 with fail
  rw [HW4.out, HXE.out]
  go_upto_region 3 with fail
  refine at_world (fun w' => D1W 74 142 147 w A br base (c.set 11 (4611686018427387904 + (i : Int))) rv rows w' ∧ Blk w' X #[.int .u64 id, .int .i64 dp] 144 ∧ Below w.heap.size w w')
    ⟨HD4.out.setc HL12.out _, HX4.out.other _ _ (show X ≠ A by have := HAX.out; omega), ?_⟩ ?_
  · exact below_setCells (vs := [.int .u64 (4611686018427387904 + (i : Int))]) (by omega) 11 HB4.out
  rintro w5 ⟨hd5, hx5, hb5⟩
  have HD5 := Lib.hid hd5
  have HX5 := Lib.hid hx5
  have HB5 := Lib.hid hb5
  clear hd5 hx5 hb5 cA11 fA11 HW4 HD4 HX4 HB4
  obtain ⟨m1, m2, m3, m4, m5⟩ := HK.out w5 HB5.out
  have HCS : Hid (∀ y : Int, (cw (c.set 11 y))[0]? = some (.int .u64 x0) ∧ (cw (c.set 11 y))[11]? = some (.int .u64 y)) := Lib.hid fun y => by
    have hl := HL12.out
    have h1 := H0.out
    constructor
    · simp only [cw, List.getElem?_toArray, List.getElem?_map] at h1 ⊢
      rw [List.getElem?_set_ne (by decide)]
      exact h1
    · simp only [cw, List.getElem?_toArray, List.getElem?_map]
      rw [List.getElem?_set_self (by omega)]
      rfl
  have cA0 : w5.cell? ⟨A, 0, none⟩ = some (.int .u64 x0) := (HD5.out.c.cell 0).trans (HCS.out _).1
  have cA11 : w5.cell? ⟨A, 11, none⟩ = some (.int .u64 (4611686018427387904 + (i : Int))) := (HD5.out.c.cell 11).trans (HCS.out _).2
  have fA11 : w5.frozen? ⟨A, 11, none⟩ = false := HD5.out.c.free 11
  have x0c : w5.cell? ⟨X, 0, none⟩ = some (.int .u64 id) := HX5.out.cell 0
  have x1c : w5.cell? ⟨X, 1, none⟩ = some (.int .i64 dp) := HX5.out.cell 1
  by_cases hin : (i : Int) < n ∧ x0 = 1
  focus
    obtain ⟨hin1, rfl⟩ := hin
    have dn : decide ((i : Int) < n) = true := decide_eq_true hin1
    obtain ⟨e1, e2, e3, e4⟩ := hdp rfl
    have hky : ky = (D - dp) * 4294967296 + id := by rw [HKE.out, if_pos ⟨hin1, rfl⟩]
    have w1' : IntKind.i64.wrap (D - dp) = D - dp := by rw [IntKind.wrap_i64]; omega
    have w2' : IntKind.u64.wrap (D - dp) = D - dp := Go.Sg.wrap_small (by omega) (by omega)
    have w3' : IntKind.u64.wrap ((D - dp) * 4294967296) = (D - dp) * 4294967296 := Go.Sg.wrap_small (by omega) (by omega)
    have w4' : IntKind.u64.wrap ((D - dp) * 4294967296 + id) = ky := by rw [hky]; exact Go.Sg.wrap_small (by omega) (by omega)
    have HKP : Hid (0 ≤ ky ∧ ky < 18446744073709551616) := Lib.hid (by omega)
    clear hky hdp
    go_upto_region 5 with fail
    refine at_world (fun w' => D1W 74 142 147 w A br base (c.set 11 ky) rv rows w' ∧ Blk w' X #[.int .u64 id, .int .i64 dp] 144 ∧ Below w.heap.size w w')
      ⟨by have h := HD5.out.setc (by rw [List.length_set]; exact HL12.out) ky; rw [List.set_set] at h; exact h, HX5.out.other _ _ (show X ≠ A by have := HAX.out; omega), below_setCells (vs := [.int .u64 ky]) (by omega) 11 HB5.out⟩ ?_
    rintro w6 ⟨hd6, hx6, hb6⟩
    have HD6 := Lib.hid hd6
    have HX6 := Lib.hid hx6
    have HB6 := Lib.hid hb6
    clear hd6 hx6 hb6 w1' w2' w3' w4' dn
  rotate_left
  focus
    have hky : 4611686018427387904 + (i : Int) = ky := by rw [HKE.out, if_neg hin]
    have HKP : Hid (0 ≤ ky ∧ ky < 18446744073709551616) := Lib.hid (by omega)
    have HD6 : Hid (D1W 74 142 147 w A br base (c.set 11 ky) rv rows w5) := Lib.hid (by rw [← hky]; exact HD5.out)
    have HX6 := HX5
    have HB6 := HB5
    obtain ⟨w6, hw6⟩ : ∃ w6 : World, w6 = w5 := ⟨_, rfl⟩
    by_cases hin1 : (i : Int) < n
    focus
      have dn : decide ((i : Int) < n) = true := decide_eq_true hin1
      have q0 : (x0 == 1) = false := by simpa using fun h => hin ⟨hin1, h⟩
      clear hdp
      go_upto_region 5 with fail
    rotate_left
    focus
      have dn : decide ((i : Int) < n) = false := decide_eq_false hin1
      clear hdp
      go_upto_region 5 with fail
    all_goals
      rw [← hw6] at HD6 HX6 HB6 ⊢
      clear hw6 hky dn
  all_goals
    clear HD5 HX5 HB5 m1 m2 m3 m4 m5 cA0 cA11 fA11 x0c x1c HKE
    have cb : w6.cell? ⟨br, 0, none⟩ = some rv := HD6.out.b.cell 0
    have cA11 : w6.cell? ⟨A, 11, none⟩ = some (.int .u64 ky) := (HD6.out.c.cell 11).trans (HCS.out _).2
    have x0c : w6.cell? ⟨X, 0, none⟩ = some (.int .u64 id) := HX6.out.cell 0
    have x1c : w6.cell? ⟨X, 1, none⟩ = some (.int .i64 dp) := HX6.out.cell 1
    have hbs : base ≤ (w6.alloc (.cells [.int .u64 ky, .int .u64 id, .int .i64 dp].toArray 147)).heap.size := by have := HB6.out.size; simp; omega
    have HLN : Hid ((flatV rtV rows).length = rows.length * 3) := Lib.hid (flatV_len rtV_k rows)
    go_wp2_with (first
      | (at_builtin; go_loud (refine wpList_append_own_at _ rfl (.tmp 38) (.tmp 43) 142 rfl base 147 i0 (.agg #[.int .u64 0, .int .u64 0, .int .i64 0]) 3 24 Tryz.underlying142 HI.out HZ.out HS.out HY.out rfl (by decide) rv rows.length (flatV rtV rows) rfl (HD6.out.o.alloc _) ⟨w6.heap.size, 0, none⟩ 1 1 [.int .u64 ky, .int .u64 id, .int .i64 dp] rfl rfl (cells_litD _ _ _) (by simp [Value.oneCell']) (by unfold maxLen; omega) (by omega) hbs ?_))
      | fail)
    intro v' w7 hown hgrow _ hnew
    obtain ⟨g', cap', rfl⟩ : ∃ g' cap', v' = .slice (some ⟨g', 0, none⟩) (rows.length + 1) cap' := by
      rcases hown.2 with ⟨-, h⟩ | ⟨g, cap, cur, e, -⟩
      · omega
      · exact ⟨g, cap, e⟩
    have HNB : Hid (∀ k, (Value.slice (some ⟨g', 0, none⟩) (rows.length + 1) cap').ownBlock = some k → rv.ownBlock = some k ∨ w.heap.size ≤ k) := Lib.hid fun k hk => by
      rcases hnew with h | h
      · exact .inl (h ▸ hk)
      · rw [h] at hk
        simp at hk
        have := HB6.out.size
        exact .inr (by omega)
    have hgn : g' ≠ A + 1 := by
      have h1 := HD6.out.r.lt
      rcases hnew with h | h
      · have := HD6.out.lt g' h.symm; omega
      · simp [Value.ownBlock] at h; omega
    have hf7 : MFrame (fun k => k = br ∨ rv.ownBlock = some k) w w7 := by
      have hba : Below w6.heap.size w6 (w6.alloc (.cells [.int .u64 ky, .int .u64 id, .int .i64 dp].toArray 147)) := (Below.refl _ _).alloc (Nat.le_refl _) _
      refine HD6.out.f.trans ((MFrame.of_below hba).trans ?_)
      exact ⟨hgrow.os, hgrow.tape, hgrow.output, hgrow.size, fun k hk hn => hgrow.block k hk (fun e => hn (.inl (.inl (.inr e.symm))))⟩
    have hke : ∀ k, k < w6.heap.size → rv.ownBlock ≠ some k → w7.heap[k]? = w6.heap[k]? := fun k h1 h2 => by
      have hba : Below w6.heap.size w6 (w6.alloc (.cells [.int .u64 ky, .int .u64 id, .int .i64 dp].toArray 147)) := (Below.refl _ _).alloc (Nat.le_refl _) _
      rw [hgrow.block k (Nat.lt_of_lt_of_le h1 hba.size) (fun e => h2 e.symm)]
      exact hba.block k h1
    obtain ⟨a1, a2, a3⟩ := HD6.out.a
    have hrb : rv.ownBlock ≠ some br := fun e => by have := (HD6.out.o.lt br e).1; omega
    have hrA : rv.ownBlock ≠ some A := fun e => by have := HD6.out.lt A e; omega
    have hrA1 : rv.ownBlock ≠ some (A + 1) := fun e => by have := HD6.out.lt _ e; omega
    have kb := blk_keepL HD6.out.b (hke br HD6.out.b.lt hrb)
    have kA := blk_keepL HD6.out.c (hke A HD6.out.c.lt hrA)
    have kA1 := blk_keepL HD6.out.r (hke (A + 1) HD6.out.r.lt hrA1)
    have cb7 : w7.cell? ⟨br, 0, none⟩ = some rv := kb.cell 0
    have fb7 : w7.frozen? ⟨br, 0, none⟩ = false := kb.free 0
    have KA8 : Hid (Blk (w7.setCell ⟨br, 0, none⟩ (.slice (some ⟨g', 0, none⟩) (rows.length + 1) cap')) A cv' 74) := Lib.hid (by rw [← HCV'.out]; exact kA.other _ _ (show A ≠ br by omega))
    have KR8 : Hid (Blk (w7.setCell ⟨br, 0, none⟩ (.slice (some ⟨g', 0, none⟩) (rows.length + 1) cap')) (A + 1) z12 74) := Lib.hid (kA1.other _ _ (show A + 1 ≠ br by omega))
    have KB8 : Hid (Blk (w7.setCell ⟨br, 0, none⟩ (.slice (some ⟨g', 0, none⟩) (rows.length + 1) cap')) br #[.slice (some ⟨g', 0, none⟩) (rows.length + 1) cap'] 142) := Lib.hid (kb.set 0 _)
    have KF8 : Hid (MFrame (fun k => k = br ∨ rv.ownBlock = some k) w (w7.setCell ⟨br, 0, none⟩ (.slice (some ⟨g', 0, none⟩) (rows.length + 1) cap'))) := Lib.hid (hf7.set (p := ⟨br, 0, none⟩) (.inl (.inl rfl)) _)
    have KO8 : Hid ((w7.setCell ⟨br, 0, none⟩ (.slice (some ⟨g', 0, none⟩) (rows.length + 1) cap')).ownsRow base 147 3 (.slice (some ⟨g', 0, none⟩) (rows.length + 1) cap') (rows.length + 1) (flatV rtV (rows ++ [(ky, id, dp)]))) := Lib.hid (by
      rw [flatV_snoc]
      exact own_keepL hown (fun k hk => by
        have := (hown.lt k hk).1
        exact Go.Deep.blk_setCell_other _ _ _ _ (show k ≠ br by omega)))
    have hsz : (c.set 11 ky).length = 12 := by rw [List.length_set]; exact HL12.out
    have HIV : Hid ((Tryz.prog.info? 74).map (·.size) = some cv'.size) := Lib.hid (by rw [← HCV'.out]; exact info_cellL _ hsz)
    have HOV : Hid (cv'.all (·.oneCell') = true) := Lib.hid (by rw [← HCV'.out]; exact cw_all _)
    have hs12 : cv'.size = 12 := by rw [← HCV'.out, cw_size]; exact hsz
    have HAA : Hid (w.heap.size ≤ A + 1) := Lib.hid (by omega)
    clear hown hgrow hf7 hke hrb hrA hrA1 kb kA kA1 hsz HD6 HX6 HB6 cb cA11 x0c x1c
    go_wp2_with (first
      | (refine wpList_load_row rfl 74 (.tmp 8) rfl A rfl 74 cv' (0, 0) _ KA8.out Tryz.underlying74 rfl HIV.out ?_)
      | (refine wpList_store_row rfl 74 (.tmp 9) (.tmp 45) rfl (A + 1) cv' rfl rfl 74 _ KR8.out HIV.out (by rw [hs12]; rfl) HOV.out ?_)
      | fail)
    have hne : ∀ k, k ≠ A + 1 → ((w7.setCell ⟨br, 0, none⟩ (.slice (some ⟨g', 0, none⟩) (rows.length + 1) cap')).setRow (A + 1) cv').heap[k]? = (w7.setCell ⟨br, 0, none⟩ (.slice (some ⟨g', 0, none⟩) (rows.length + 1) cap')).heap[k]? := fun k hk => by
      have : A + 1 ≠ k := fun e => hk e.symm
      simp [World.setRow, Array.getElem?_modify, this]
    refine bodyPost_ret (results_cell_row rfl _ _ (A + 1) 74 _ (0, 0) _ rfl (KR8.out.setRow _) Tryz.underlying74 rfl HIV.out) rfl ⟨rfl, _, blk_keepL KB8.out (hne br (by omega)), own_keepL KO8.out (fun k hk => hne k (fun e => hgn (by simp [Value.ownBlock] at hk; omega))), ?_⟩
    exact ⟨⟨KF8.out.os, KF8.out.tape, KF8.out.output, by have := KF8.out.size; simpa [World.setRow] using this, fun k hk hn => (hne k (by have := HAA.out; omega)).trans (KF8.out.block k hk hn)⟩, HNB.out⟩
end Go.Proofs.YthchfdobdghdoaaGreat
end
section

/-
  The walk of the closure that tells the table's cells where they go.
-/
namespace Go.Sg
open Go Go.RowKit
/-- where the table's cells go, and which are lost -/
def key2 (n : Int) (pl : List Int) (i : Nat) : Int := if (i : Int) < n then pl.getD i 0 else i
def cell2 (n : Int) (pl lost : List Int) (i : Nat) (c : List Int) : List Int := (if decide ((i : Int) ∈ lost) = true then zeros else c).set 11 (key2 n pl i)
end Go.Sg
namespace Go.Proofs.YthchfdobdghdoaaGreat
open Go Go.RowKit Go.Sg
set_option maxRecDepth 100000 in
theorem lindex_any (l : List Int) (x : Int) (v : Value) (w : World) (hv : Sl1 w v (l.map (Value.int .i64))) :
    Calls Tryz.prog 110 #[v, .int .i64 x] w fun e w' => ∃ r : Int, e = .returned (.int .i64 r) ∧ decide (0 ≤ r) = decide (x ∈ l) ∧ w' = w := by
  obtain ⟨a, cap, rfl⟩ := hv.len
  rw [List.length_map]
  have hml := hv.len_le
  rw [List.length_map] at hml
  unfold maxLen at hml
  have HV := Lib.hid hv
  have HC : Hid (∀ k (hk : k < l.length), ∃ b off, a = some ⟨b, off, none⟩ ∧ w.cell? ⟨b, off + k, none⟩ = some (.int .i64 l[k])) := Lib.hid fun k hk => by
    rcases hv with ⟨h0, -⟩ | ⟨-, b, off, cp, hv, -, -, hlt, hce⟩
    · have := congrArg List.length h0; simp at this; rw [this] at hk; simp at hk
    · simp only [Value.slice.injEq] at hv
      obtain ⟨rfl, -, -⟩ := hv
      refine ⟨b, off, rfl, ?_⟩
      rw [hce k (by simpa using hk)]
      simp
  clear hv
  go_enter Tryz.func110, Tryz.ntmps110
  go_wp2_with fail
  go_loop [5, 8] (fun _ iv => ∃ k : Nat, k ≤ l.length ∧ iv = .int .i64 k ∧ Hid (∀ j (hj : j < l.length), j < k → l[j] ≠ x)) (fun _ iv => l.length - (intOf iv).toNat)
  case atStart => exact ⟨0, by omega, rfl, Lib.hid (fun j _ h => by omega)⟩
  case round =>
    obtain ⟨k, hk, rfl, HN⟩ := hrel
    by_cases hlt : k < l.length
    · have d : decide ((k : Int) < (l.length : Int)) = true := decide_eq_true (by omega)
      have d' : decide (k < l.length) = true := decide_eq_true hlt
      have i0 : (0 : Int) ≤ (k : Int) := by omega
      have i1 : (k : Int) < (l.length : Int) := by omega
      obtain ⟨b, off, rfl, ck⟩ := HC.out k hlt
      by_cases he : x = l[k]
      · have q : (x == l[k]) = true := by simpa using he
        have HE : Hid (decide (0 ≤ (k : Int)) = decide (x ∈ l)) := Lib.hid (by
          rw [decide_eq_true i0, decide_eq_true (show x ∈ l by rw [he]; exact List.getElem_mem hlt)])
        generalize l[k] = y at *
        clear he
        go_wp2
        go_ret
        exact ⟨k, rfl, by first | exact HE.out | (have h := HE.out; simpa using h), rfl⟩
      · have q : (x == l[k]) = false := by simpa using he
        have HN2 : Hid (∀ j (hj : j < l.length), j < k + 1 → l[j] ≠ x) := Lib.hid (fun j hj h => by
          by_cases hjk : j = k
          · subst hjk; exact fun e => he e.symm
          · exact HN.out j hj (by omega))
        generalize l[k] = y at *
        go_wp2
        go_round
        case rel => exact ⟨k + 1, by omega, by go_num, HN2⟩
        case measure => simp [intOf]; omega
    · obtain rfl : k = l.length := by omega
      have d : decide ((l.length : Int) < (l.length : Int)) = false := by simp
      have HE : Hid (decide (0 ≤ (-1 : Int)) = decide (x ∈ l)) := Lib.hid (by
        rw [decide_eq_false (show ¬ (0 : Int) ≤ -1 by omega), decide_eq_false (show ¬ x ∈ l from fun h => by
          obtain ⟨j, hj, e⟩ := List.getElem_of_mem h
          exact HN.out j hj hj e)])
      go_wp2
      go_ret
      exact ⟨-1, rfl, by first | exact HE.out | (have h := HE.out; simpa using h), rfl⟩
set_option maxRecDepth 100000 in
theorem lcontains_any (l : List Int) (x : Int) (v : Value) (w : World) (hv : Sl1 w v (l.map (Value.int .i64))) :
    Calls Tryz.prog 96 #[v, .int .i64 x] w fun e w' => e = .returned (.bool (decide (x ∈ l))) ∧ w' = w := by
  have K := Lib.hid (lindex_any l x v w hv)
  clear hv
  go_enter Tryz.func96, Tryz.ntmps96
  go_wp2_with fail
  refine K.out.mono ?_
  rintro e w' ⟨r, rfl, hr, rfl⟩
  go_wp2
  go_ret
  exact ⟨by first | rfl | rw [hr], rfl⟩
set_option maxHeartbeats 4000000 in
set_option maxRecDepth 100000 in
theorem ldeal3_any (n : Int) (hn : 0 ≤ n ∧ n ≤ 1024) (pl lost : List Int) (hpl : (pl.length : Int) = n) (hpb : ∀ x ∈ pl, 0 ≤ x ∧ x ≤ 1024) (c : List Int) (c12 : c.length = 12) (i : Nat) (hi : i ≤ 1024) (bo bn bp : Nat) (lv pv : Value) (w : World)
    (h1 : Blk w bo #[lv] 36) (h2 : Blk w bn #[.int .i64 n] 3) (h3 : Blk w bp #[pv] 36) (h4 : Sl1 w lv (lost.map (Value.int .i64))) (h5 : Sl1 w pv (pl.map (Value.int .i64))) :
    Calls Tryz.prog 95 #[.int .i64 i, .agg (cw c), .pointer (some ⟨bo, 0, none⟩), .pointer (some ⟨bn, 0, none⟩), .pointer (some ⟨bp, 0, none⟩)] w
      fun e w' => e = .returned (.agg (cw (cell2 n pl lost i c))) ∧ Below w.heap.size w w' := by
  obtain ⟨A, hA⟩ : ∃ A, w.heap.size = A := ⟨_, rfl⟩
  obtain ⟨w2, hw2⟩ : ∃ w2, (w.alloc (.cells (cw c) 74)).alloc (.cells z12 74) = w2 := ⟨_, rfl⟩
  have hb2 : Below w.heap.size w w2 := by rw [← hw2]; exact ((Below.refl _ _).alloc (Nat.le_refl _) _).alloc (by simp) _
  have k1 : Blk w2 A (cw c) 74 := by rw [← hw2, ← hA]; exact (Blk.new w _ _).alloc _
  have k2 : Blk w2 (A + 1) z12 74 := by
    rw [← hw2, ← hA]
    have := Blk.new (w.alloc (.cells (cw c) 74)) z12 74
    simpa using this
  obtain ⟨la, lc, rfl⟩ := h4.len
  obtain ⟨pa, pc, rfl⟩ := h5.len
  rw [List.length_map] at *
  have HCO := Lib.hid (lcontains_any lost i (.slice la lost.length lc) w2 (h4.below hb2))
  have HB2 := Lib.hid hb2
  have KC := Lib.hid k1
  have KR := Lib.hid k2
  have cl2 : w2.cell? ⟨bo, 0, none⟩ = some (.slice la lost.length lc) := (h1.below hb2 h1.lt).cell 0
  have HK : Hid (∀ w', Below w.heap.size w w' → w'.cell? ⟨bn, 0, none⟩ = some (.int .i64 n) ∧ w'.cell? ⟨bp, 0, none⟩ = some (.slice pa pl.length pc)) := Lib.hid fun w' h => ⟨(h2.below h h2.lt).cell 0, (h3.below h h3.lt).cell 0⟩
  have HP : Hid (∀ w', Below w.heap.size w w' → i < pl.length → ∃ b off, pa = some ⟨b, off, none⟩ ∧ w'.cell? ⟨b, off + i, none⟩ = some (.int .i64 (pl.getD i 0))) := Lib.hid fun w' hb hk => by
    rcases h5 with ⟨h0, -⟩ | ⟨-, b, off, cp, hv, -, -, hlt, hce⟩
    · have := congrArg List.length h0; simp at this; rw [this] at hk; simp at hk
    · simp only [Value.slice.injEq] at hv
      obtain ⟨rfl, -, -⟩ := hv
      refine ⟨b, off, rfl, (hb.cell (p := ⟨b, off + i, none⟩) hlt).trans ?_⟩
      rw [hce i (by simpa using hk)]
      simp [List.getD_eq_getElem?_getD, hk]
  have HPB : Hid (i < pl.length → 0 ≤ pl.getD i 0 ∧ pl.getD i 0 ≤ 1024) := Lib.hid fun hk => by
    rw [List.getD_eq_getElem?_getD, List.getElem?_eq_getElem hk]
    exact hpb _ (List.getElem_mem hk)
  have HAA : Hid (w.heap.size = A) := Lib.hid hA
  have hc2 : cell2 n pl lost i c = (if decide ((i : Int) ∈ lost) = true then zeros else c).set 11 (key2 n pl i) := rfl
  have hk2 : key2 n pl i = if (i : Int) < n then pl.getD i 0 else i := rfl
  rw [hc2]
  have HL12 := Lib.hid c12
  have HIC := Lib.hid (info_cellL c c12)
  generalize decide ((i : Int) ∈ lost) = inl at *
  obtain ⟨ky, hky⟩ : ∃ ky, key2 n pl i = ky := ⟨_, rfl⟩
  rw [hky] at hk2 ⊢
  have HKE := Lib.hid hk2
  clear hc2 hk2 hky h1 h2 h3 h4 h5 hpb k1 k2 hb2
  obtain ⟨rvv, hrv⟩ : ∃ rvv, cw ((if inl = true then zeros else c).set 11 ky) = rvv := ⟨_, rfl⟩
  rw [hrv]
  have HRV := Lib.hid hrv
  clear hrv
  unfold z12 at hw2
  obtain ⟨cv, hcv⟩ : ∃ cv, cw c = cv := ⟨_, rfl⟩
  rw [hcv] at hw2 KC HIC ⊢
  have HCE := Lib.hid hcv
  clear hcv
  have wi : IntKind.u64.wrap (i : Int) = (i : Int) := Go.Sg.wrap_small (by omega) (by omega)
  have hsz12 : z12.size = 12 := rfl
  have HIZ : Hid ((Tryz.prog.info? 74).map (·.size) = some z12.size) := Lib.hid (by rw [hsz12]; kernel_rfl)
  go_enter Tryz.func95, Tryz.ntmps95
  go_wp2_with fail
  refine HCO.out.mono ?_
  rintro e w3 ⟨rfl, rfl⟩
  have HST : Hid (∀ (cc : List Int) (w4 : World), cc.length = 12 → Blk w4 A (cw cc) 74 → w4.cell? ⟨A, 11, none⟩ = some (.int .u64 (cc.getD 11 0)) ∧ w4.frozen? ⟨A, 11, none⟩ = false) := Lib.hid fun cc w4 hl h => ⟨(h.cell 11).trans (cw_at (by omega)), h.free 11⟩
  cases inl
  focus
    go_upto_region 3 with fail
    refine at_world (fun w' => Blk w' A (cw c) 74 ∧ Blk w' (A + 1) z12 74 ∧ Below w.heap.size w w') ⟨by rw [HCE.out]; exact KC.out, KR.out, HB2.out⟩ ?_
    obtain ⟨cc, hcc⟩ : ∃ cc, c = cc := ⟨_, rfl⟩
    have HCC : Hid (cc.length = 12 ∧ (if false = true then zeros else c) = cc) := Lib.hid ⟨by rw [← hcc]; exact HL12.out, by rw [← hcc]; rfl⟩
    rw [hcc]
  rotate_left
  focus
    go_upto_region 3 with (refine wpList_store_row rfl 74 (.tmp 6) (.tmp 11) rfl A z12 rfl rfl 74 _ KC.out HIZ.out (by have := HIC.out; rw [← HCE.out, cw_size, HL12.out]; rfl) (by simp [z12, Value.oneCell']) ?_)
    refine at_world (fun w' => Blk w' A (cw zeros) 74 ∧ Blk w' (A + 1) z12 74 ∧ Below w.heap.size w w') ⟨by rw [cw_zeros]; exact KC.out.setRow _, KR.out.rowOther _ (by omega), below_rowS HB2.out _ _ (by have := HAA.out; omega)⟩ ?_
    obtain ⟨cc, hcc⟩ : ∃ cc, zeros = cc := ⟨_, rfl⟩
    have HCC : Hid (cc.length = 12 ∧ (if true = true then zeros else c) = cc) := Lib.hid ⟨by rw [← hcc]; rfl, by rw [← hcc]; rfl⟩
    rw [hcc]
  all_goals
    rintro w4 ⟨kc4, kr4, hb4⟩
    obtain ⟨cA11, fA11⟩ := HST.out cc w4 HCC.out.1 kc4
    have HC4 := Lib.hid kc4
    have HR4 := Lib.hid kr4
    have HB4 := Lib.hid hb4
    have HR1 : Hid (cw (cc.set 11 ky) = rvv) := Lib.hid (by rw [← HCC.out.2]; exact HRV.out)
    clear kc4 kr4 hb4 HST KC KR HB2 HIC HCO cl2
    go_upto_region 4 with fail
    refine at_world (fun w' => Blk w' A (cw (cc.set 11 (i : Int))) 74 ∧ Blk w' (A + 1) z12 74 ∧ Below w.heap.size w w')
      ⟨by have h := HC4.out.set 11 (.int .u64 (i : Int)); rwa [cw_set] at h, HR4.out.other _ _ (show A + 1 ≠ A by omega), below_setCells (vs := [.int .u64 (i : Int)]) (by have := HAA.out; omega) 11 HB4.out⟩ ?_
    rintro w5 ⟨kc5, kr5, hb5⟩
    have HC5 := Lib.hid kc5
    have HR5 := Lib.hid kr5
    have HB5 := Lib.hid hb5
    obtain ⟨m1, m2⟩ := HK.out w5 hb5
    have cA11' : w5.cell? ⟨A, 11, none⟩ = some (.int .u64 (i : Int)) := (kc5.cell 11).trans (by
      have hl := HCC.out.1
      simp only [cw, List.getElem?_toArray, List.getElem?_map]
      rw [List.getElem?_set_self (by omega)]
      rfl)
    have fA11' : w5.frozen? ⟨A, 11, none⟩ = false := kc5.free 11
    clear kc5 kr5 hb5 cA11 fA11 HC4 HR4 HB4
    by_cases hin : (i : Int) < n
    focus
      have dn : decide ((i : Int) < n) = true := decide_eq_true hin
      have hil : i < pl.length := by omega
      obtain ⟨b, off, rfl, cp⟩ := HP.out w5 HB5.out hil
      have hpp := HPB.out hil
      have hke : pl.getD i 0 = ky := by rw [HKE.out, if_pos hin]
      rw [hke] at cp hpp
      have wk : IntKind.u64.wrap ky = ky := Go.Sg.wrap_small (by omega) (by omega)
      have i0 : (0 : Int) ≤ (i : Int) := by omega
      have i1 : (i : Int) < (pl.length : Int) := by omega
      clear hke
      go_upto_region 6 with fail
      refine at_world (fun w' => Blk w' A rvv 74 ∧ Blk w' (A + 1) z12 74 ∧ Below w.heap.size w w')
        ⟨by have h := HC5.out.set 11 (.int .u64 ky); rw [cw_set, List.set_set, HR1.out] at h; exact h, HR5.out.other _ _ (show A + 1 ≠ A by omega), below_setCells (vs := [.int .u64 ky]) (by have := HAA.out; omega) 11 HB5.out⟩ ?_
    rotate_left
    focus
      have dn : decide ((i : Int) < n) = false := decide_eq_false hin
      have hke : (i : Int) = ky := by rw [HKE.out, if_neg hin]
      go_upto_region 6 with fail
      refine at_world (fun w' => Blk w' A rvv 74 ∧ Blk w' (A + 1) z12 74 ∧ Below w.heap.size w w')
        ⟨by have h := HC5.out; rw [hke, HR1.out] at h; exact h, HR5.out, HB5.out⟩ ?_
  all_goals
    rintro w6 ⟨kc6, kr6, hb6⟩
    have HC6 := Lib.hid kc6
    have HR6 := Lib.hid kr6
    have HB6 := Lib.hid hb6
    have hrl : rvv.size = 12 := by rw [← HR1.out, cw_size, List.length_set]; exact HCC.out.1
    have HIV : Hid ((Tryz.prog.info? 74).map (·.size) = some rvv.size) := Lib.hid (by rw [hrl]; kernel_rfl)
    have HOV : Hid (rvv.all (·.oneCell') = true) := Lib.hid (by rw [← HR1.out]; exact cw_all _)
    clear kc6 kr6 hb6 HC5 HR5 HB5 m1 m2 cA11' fA11'
    go_wp2_with (first
      | (refine wpList_load_row rfl 74 (.tmp 6) rfl A rfl 74 rvv (0, 0) _ HC6.out Tryz.underlying74 rfl HIV.out ?_)
      | (refine wpList_store_row rfl 74 (.tmp 7) (.tmp 24) rfl (A + 1) rvv rfl rfl 74 _ HR6.out HIV.out (by rw [hrl]; rfl) HOV.out ?_)
      | fail)
    have HBF : Hid (Below w.heap.size w (w6.setRow (A + 1) rvv)) := Lib.hid (below_rowS HB6.out _ _ (by have := HAA.out; omega))
    refine bodyPost_ret (results_cell_row rfl _ _ (A + 1) 74 _ (0, 0) _ rfl (HR6.out.setRow _) Tryz.underlying74 rfl HIV.out) rfl ⟨rfl, by first | exact HBF.out | (have h := HBF.out; rw [hA] at h; exact h)⟩
end Go.Proofs.YthchfdobdghdoaaGreat
end
section

/-
  The walk of a level's update: the table's first cells are read and written, once each, in order.
-/
namespace Go.Sg
open Go Go.RowKit
/-- what an update has made of a region's first cells -/
def updL (f : Nat → List Int) (k : Nat) : List (List Int) := (List.range k).map f
theorem updL_len (f : Nat → List Int) (k : Nat) : (updL f k).length = k := by simp [updL]
theorem updL_succ (f : Nat → List Int) (k : Nat) : updL f (k + 1) = updL f k ++ [f k] := by simp [updL, List.range_succ]
def updM (M : Mm) (r : Int) (f : Nat → List Int) (k : Nat) : Mm := (M.fill r (updL f k)).noted (writesL r k)
theorem updM_zero (M : Mm) (r : Int) (f : Nat → List Int) : updM M r f 0 = M := by
  have : updL f 0 = [] := rfl
  unfold updM
  rw [this, Mm.fill_nil]
  simp [writesL, Mm.noted]
theorem updM_evs (M : Mm) (r : Int) (f : Nat → List Int) (k : Nat) : (updM M r f k).evs.length = M.evs.length + 2 * k := by
  unfold updM
  rw [Mm.noted_evs, Mm.fill_evs, List.length_append, writesL_len]
theorem updM_read {M : Mm} {r : Int} (h0 : 0 ≤ r) (f : Nat → List Int) {k : Nat} (h : k < M.size r) : (updM M r f k).read r (k : Int) = M.read r (k : Int) := by
  unfold updM
  rw [Mm.noted_read, Mm.fill_read h0 (by rw [updL_len]; omega) h, dif_neg (by rw [updL_len]; omega)]
theorem updM_size {M : Mm} {r : Int} (f : Nat → List Int) {k : Nat} (h : k ≤ M.size r) (x : Int) : (updM M r f k).size x = M.size x := by
  unfold updM
  rw [Mm.noted_size, Mm.fill_size (by rw [updL_len]; exact h)]
theorem updM_step {M : Mm} {r : Int} (h0 : 0 ≤ r) (f : Nat → List Int) {k : Nat} (h : k < M.size r) : ((updM M r f k).look r (k : Int) false).write r (k : Int) (f k) = updM M r f (k + 1) := by
  have hs := updM_size (M := M) (r := r) f (k := k) (by omega) r
  have hh : (updM M r f k).has r (k : Int) = true := Mm.has_lt (by rw [hs]; exact h)
  rw [Mm.look_noted hh, Mm.write_noted (by rw [Mm.noted_has]; exact hh)]
  unfold updM
  rw [Mm.noted_put, Mm.noted_put, Mm.noted_noted, Mm.noted_noted, writesL_succ]
  have e := Mm.fill_put (M := M) (cs := updL f k) h0 (by rw [updL_len]; exact h) (f k)
  rw [updL_len] at e
  rw [e, ← updL_succ]
  rfl
end Go.Sg
namespace Go.Proofs.YthchfdobdghdoaaGreat
open Go Go.RowKit Go.Sg
set_option maxHeartbeats 4000000 in
set_option maxRecDepth 100000 in
theorem lupdate1_any (n : Nat) (hn : n ≤ 1024) (q p : Nat) (first : Int) (hf : 0 ≤ first ∧ first ≤ 1099511627776) (c1 c2 c3 c4 c5 : Value) (new : Nat → List Int) (M : Mm) (hN : M.evs.length ≤ 1099511000000) (hsz : n ≤ M.size (first + 2)) (hnew : ∀ i, i < n → (new i).length = 12 ∧ ∀ x ∈ new i, Word x)
    (St : Nat → Mm → World → Prop)
    (hcell : ∀ i M w, St i M w → w.cell? ⟨q, 3, none⟩ = some (.pointer (some ⟨p, 0, none⟩)) ∧ w.cell? ⟨q, 4, none⟩ = some (.int .i64 first))
    (hbl : ∀ i M w w', St i M w → Below w.heap.size w w' → St i M w')
    (hrd : ∀ i M w r a, St i M w → M.evs.length ≤ 1099511627776 → Calls Tryz.prog 29 #[.pointer (some ⟨p, 0, none⟩), .int .i64 r, .int .i64 a] w fun e w' => e = .returned (.agg (cw (M.read r a))) ∧ St i (M.look r a false) w')
    (hwr : ∀ i M w r a c, c.length = 12 → (∀ x ∈ c, Word x) → St i M w → M.evs.length ≤ 1099511627776 → Calls Tryz.prog 72 #[.pointer (some ⟨p, 0, none⟩), .int .i64 r, .int .i64 a, .agg (cw c)] w fun e w' => e = .returned (.tuple #[]) ∧ St i (M.write r a c) w')
    (hfn : ∀ i M' w, i < n → St i M' w → Calls Tryz.prog 88 #[.int .i64 i, .agg (cw (M.read (first + 2) (i : Int))), c1, c2, c3, c4, c5] w fun e w' => e = .returned (.agg (cw (new i))) ∧ St (i + 1) M' w')
    (w : World) (h : St 0 M w) :
    Calls Tryz.prog 87 #[.pointer (some ⟨q, 0, none⟩), .int .i64 n, .func (.func 88) #[] #[c1, c2, c3, c4, c5]] w fun e w' => e = .returned (.tuple #[]) ∧ St n (updM M (first + 2) new n) w' := by
  have HC := Lib.hid hcell
  have HBL := Lib.hid hbl
  have HRD := Lib.hid hrd
  have HWR := Lib.hid hwr
  have HFN := Lib.hid hfn
  have HNW := Lib.hid hnew
  have H0 : Hid (St 0 (updM M (first + 2) new 0) w) := Lib.hid (by rw [updM_zero]; exact h)
  have wf : IntKind.i64.wrap (first + 2) = first + 2 := by rw [IntKind.wrap_i64]; omega
  clear h hcell hbl hrd hwr hfn hnew
  go_enter Tryz.func87, Tryz.ntmps87
  go_wp2_with fail
  go_loopw [6, 8] (fun _ iv wr => ∃ k : Nat, k ≤ n ∧ iv = .int .i64 k ∧ Hid (St k (updM M (first + 2) new k) wr)) (fun _ iv _ => n - (intOf iv).toNat)
  case atStart => exact ⟨0, by omega, rfl, H0⟩
  case round =>
    obtain ⟨k, hk, rfl, HS⟩ := hrel
    by_cases hlt : k < n
    · have d : decide ((k : Int) < (n : Int)) = true := decide_eq_true (by omega)
      have d' : decide (k < n) = true := decide_eq_true hlt
      have hsz2 : k < M.size (first + 2) := by omega
      have hev := updM_evs M (first + 2) new k
      have HR := Lib.hid (fun w' (h' : St k (updM M (first + 2) new k) w') => HRD.out k _ w' (first + 2) (k : Int) h' (by omega))
      rw [updM_read (by omega) new hsz2] at HR
      have HF := Lib.hid (fun M' w' => HFN.out k M' w' hlt)
      have HW := Lib.hid (fun w' (h' : St (k + 1) ((updM M (first + 2) new k).look (first + 2) (k : Int) false) w') => HWR.out (k + 1) _ w' (first + 2) (k : Int) (new k) (HNW.out k hlt).1 (HNW.out k hlt).2 h' (by
        have h1 := Mm.look_evs (updM M (first + 2) new k) (first + 2) (k : Int) false
        rw [h1]
        split
        · rw [List.length_append, List.length_singleton]; omega
        · omega))
      rw [updM_step (by omega) new hsz2] at HW
      have HM2 : Hid (∀ M2, updM M (first + 2) new (k + 1) = M2 → M2 = updM M (first + 2) new (k + 1)) := Lib.hid fun _ h => h.symm
      obtain ⟨M2, hM2⟩ : ∃ M2, updM M (first + 2) new (k + 1) = M2 := ⟨_, rfl⟩
      rw [hM2] at HW
      have HME := Lib.hid hM2
      clear hM2 HM2
      generalize M.read (first + 2) (k : Int) = cr at *
      generalize new k = cn at *
      generalize (updM M (first + 2) new k).look (first + 2) (k : Int) false = M1 at *
      generalize updM M (first + 2) new k = M0 at *
      have hs0 : St k M0 wr.drew := HBL.out _ _ _ _ HS.out ((Below.refl _ _).drew)
      generalize cw cr = crv at *
      generalize cw cn = cnv at *
      go_upto_region 3 with fail
      go_region_held3 (fun w' => w'.cell? ⟨q, 3, none⟩ = some (.pointer (some ⟨p, 0, none⟩)) ∧ w'.cell? ⟨q, 4, none⟩ = some (.int .i64 first)) (first | exact HC.out _ _ _ hs0 | exact HC.out _ _ _ hs1 | exact HC.out _ _ _ hs2 | exact HC.out _ _ _ hs3) (first
        | (go_at_call 29; with_reducible refine (HR.out _ hs0).mono ?_; rintro e w1 ⟨rfl, hs1⟩)
        | (go_at_call 72; with_reducible refine (HW.out _ hs2).mono ?_; rintro e w3 ⟨rfl, hs3⟩)
        | (go_at_call 88; with_reducible refine (HF.out _ _ hs1).mono ?_; rintro e w2 ⟨rfl, hs2⟩))
      all_goals
        have HS3 := Lib.hid hs3
        clear hs3 hs2 hs1 hs0
        go_wp2
        go_roundw
        case rel => exact ⟨k + 1, by omega, by go_num, by rw [HME.out]; exact HS3⟩
        case measure => simp [intOf]; omega
    · obtain rfl : k = n := by omega
      have d : decide ((k : Int) < (k : Int)) = false := by simp
      go_wp2
      go_end0
      exact ⟨rfl, HS.out⟩
set_option maxHeartbeats 4000000 in
set_option maxRecDepth 100000 in
theorem lupdate3_any (n : Nat) (hn : n ≤ 1024) (q p : Nat) (first : Int) (hf : 0 ≤ first ∧ first ≤ 1099511627776) (c1 c2 c3 : Value) (new : Nat → List Int) (M : Mm) (hN : M.evs.length ≤ 1099511000000) (hsz : n ≤ M.size (first + 2)) (hnew : ∀ i, i < n → (new i).length = 12 ∧ ∀ x ∈ new i, Word x)
    (St : Nat → Mm → World → Prop)
    (hcell : ∀ i M w, St i M w → w.cell? ⟨q, 3, none⟩ = some (.pointer (some ⟨p, 0, none⟩)) ∧ w.cell? ⟨q, 4, none⟩ = some (.int .i64 first))
    (hbl : ∀ i M w w', St i M w → Below w.heap.size w w' → St i M w')
    (hrd : ∀ i M w r a, St i M w → M.evs.length ≤ 1099511627776 → Calls Tryz.prog 29 #[.pointer (some ⟨p, 0, none⟩), .int .i64 r, .int .i64 a] w fun e w' => e = .returned (.agg (cw (M.read r a))) ∧ St i (M.look r a false) w')
    (hwr : ∀ i M w r a c, c.length = 12 → (∀ x ∈ c, Word x) → St i M w → M.evs.length ≤ 1099511627776 → Calls Tryz.prog 72 #[.pointer (some ⟨p, 0, none⟩), .int .i64 r, .int .i64 a, .agg (cw c)] w fun e w' => e = .returned (.tuple #[]) ∧ St i (M.write r a c) w')
    (hfn : ∀ i M' w, i < n → St i M' w → Calls Tryz.prog 95 #[.int .i64 i, .agg (cw (M.read (first + 2) (i : Int))), c1, c2, c3] w fun e w' => e = .returned (.agg (cw (new i))) ∧ St (i + 1) M' w')
    (w : World) (h : St 0 M w) :
    Calls Tryz.prog 87 #[.pointer (some ⟨q, 0, none⟩), .int .i64 n, .func (.func 95) #[] #[c1, c2, c3]] w fun e w' => e = .returned (.tuple #[]) ∧ St n (updM M (first + 2) new n) w' := by
  have HC := Lib.hid hcell
  have HBL := Lib.hid hbl
  have HRD := Lib.hid hrd
  have HWR := Lib.hid hwr
  have HFN := Lib.hid hfn
  have HNW := Lib.hid hnew
  have H0 : Hid (St 0 (updM M (first + 2) new 0) w) := Lib.hid (by rw [updM_zero]; exact h)
  have wf : IntKind.i64.wrap (first + 2) = first + 2 := by rw [IntKind.wrap_i64]; omega
  clear h hcell hbl hrd hwr hfn hnew
  go_enter Tryz.func87, Tryz.ntmps87
  go_wp2_with fail
  go_loopw [6, 8] (fun _ iv wr => ∃ k : Nat, k ≤ n ∧ iv = .int .i64 k ∧ Hid (St k (updM M (first + 2) new k) wr)) (fun _ iv _ => n - (intOf iv).toNat)
  case atStart => exact ⟨0, by omega, rfl, H0⟩
  case round =>
    obtain ⟨k, hk, rfl, HS⟩ := hrel
    by_cases hlt : k < n
    · have d : decide ((k : Int) < (n : Int)) = true := decide_eq_true (by omega)
      have d' : decide (k < n) = true := decide_eq_true hlt
      have hsz2 : k < M.size (first + 2) := by omega
      have hev := updM_evs M (first + 2) new k
      have HR := Lib.hid (fun w' (h' : St k (updM M (first + 2) new k) w') => HRD.out k _ w' (first + 2) (k : Int) h' (by omega))
      rw [updM_read (by omega) new hsz2] at HR
      have HF := Lib.hid (fun M' w' => HFN.out k M' w' hlt)
      have HW := Lib.hid (fun w' (h' : St (k + 1) ((updM M (first + 2) new k).look (first + 2) (k : Int) false) w') => HWR.out (k + 1) _ w' (first + 2) (k : Int) (new k) (HNW.out k hlt).1 (HNW.out k hlt).2 h' (by
        have h1 := Mm.look_evs (updM M (first + 2) new k) (first + 2) (k : Int) false
        rw [h1]
        split
        · rw [List.length_append, List.length_singleton]; omega
        · omega))
      rw [updM_step (by omega) new hsz2] at HW
      have HM2 : Hid (∀ M2, updM M (first + 2) new (k + 1) = M2 → M2 = updM M (first + 2) new (k + 1)) := Lib.hid fun _ h => h.symm
      obtain ⟨M2, hM2⟩ : ∃ M2, updM M (first + 2) new (k + 1) = M2 := ⟨_, rfl⟩
      rw [hM2] at HW
      have HME := Lib.hid hM2
      clear hM2 HM2
      generalize M.read (first + 2) (k : Int) = cr at *
      generalize new k = cn at *
      generalize (updM M (first + 2) new k).look (first + 2) (k : Int) false = M1 at *
      generalize updM M (first + 2) new k = M0 at *
      have hs0 : St k M0 wr.drew := HBL.out _ _ _ _ HS.out ((Below.refl _ _).drew)
      generalize cw cr = crv at *
      generalize cw cn = cnv at *
      go_upto_region 3 with fail
      go_region_held3 (fun w' => w'.cell? ⟨q, 3, none⟩ = some (.pointer (some ⟨p, 0, none⟩)) ∧ w'.cell? ⟨q, 4, none⟩ = some (.int .i64 first)) (first | exact HC.out _ _ _ hs0 | exact HC.out _ _ _ hs1 | exact HC.out _ _ _ hs2 | exact HC.out _ _ _ hs3) (first
        | (go_at_call 29; with_reducible refine (HR.out _ hs0).mono ?_; rintro e w1 ⟨rfl, hs1⟩)
        | (go_at_call 72; with_reducible refine (HW.out _ hs2).mono ?_; rintro e w3 ⟨rfl, hs3⟩)
        | (go_at_call 95; with_reducible refine (HF.out _ _ hs1).mono ?_; rintro e w2 ⟨rfl, hs2⟩))
      all_goals
        have HS3 := Lib.hid hs3
        clear hs3 hs2 hs1 hs0
        go_wp2
        go_roundw
        case rel => exact ⟨k + 1, by omega, by go_num, by rw [HME.out]; exact HS3⟩
        case measure => simp [intOf]; omega
    · obtain rfl : k = n := by omega
      have d : decide ((k : Int) < (k : Int)) = false := by simp
      go_wp2
      go_end0
      exact ⟨rfl, HS.out⟩
end Go.Proofs.YthchfdobdghdoaaGreat
end
section

/-
  Beside a memory: what lies there changes; slices that lie there.
-/
namespace Go.Sg
open Go Go.RowKit
theorem sl1_own_lt {w : World} {v : Value} {us : List Value} (h : Sl1 w v us) (hu : us ≠ []) : ∀ k, v.ownBlock = some k → k < w.heap.size := by
  rintro k hk
  rcases h with ⟨h0, -⟩ | ⟨-, b, off, cp, rfl, -, -, hlt, -⟩
  · exact absurd h0 hu
  · simp [Value.ownBlock] at hk; omega
end Go.Sg
namespace Go.Proofs.YthchfdobdghdoaaGreat
open Go Go.RowKit Go.Sg
variable {T : Nat} {w0 w w' : World} {p : Nat} {M : Mm} {D : Nat → Prop} {X : World → Prop}
/-- what lies beside a memory changes, and nothing else -/
theorem OneX.swap (hK : Keeps D X) {E E' : Nat → Prop} {Y Y' : World → Prop} (h : OneX T w0 w p M (fun k => D k ∨ E k) (fun w => X w ∧ Y w)) (hDE : ∀ k, D k → ¬ E k) (hEo : ∀ k, E k → w0.heap.size ≤ k)
    (hf : MFrame E w w') (hE' : ∀ k, E' k → (E k ∨ w.heap.size ≤ k) ∧ k < w'.heap.size) (hy : Y' w') : OneX T w0 w' p M (fun k => D k ∨ E' k) (fun w => X w ∧ Y' w) := by
  obtain ⟨F, h1, h2, h3, h4, h5, h6⟩ := h
  refine ⟨F, h1.frame hf (fun k hk he => h4 k (.inr he) hk), h2, h3.trans (hf.below hEo h3.size), fun k hk hF => ?_, fun k hk => ?_, ?_, hy⟩
  · rcases hk with hk | hk
    · exact h4 k (.inl hk) hF
    · rcases (hE' k hk).1 with h | h
      · exact h4 k (.inr h) hF
      · have := h1.lt k hF; omega
  · rcases hk with hk | hk
    · exact Nat.lt_of_lt_of_le (h5 k (.inl hk)) hf.size
    · exact (hE' k hk).2
  · exact hK w w' hf.size (fun k hk => hf.block k (h5 k (.inl hk)) (hDE k hk)) h6.1
theorem keeps_own (B : Nat) (e : TypeId) (size : Nat) (v : Value) (m : Nat) (xs : List Value) : Keeps (fun k => v.ownBlock = some k) (fun w => w.ownsRow B e size v m xs) := fun _ _ _ hb hx => own_keepL hx (fun k hk => hb k hk)
theorem keeps_sl1 (v : Value) (us : List Value) : Keeps (fun k => v.ownBlock = some k ∧ us ≠ []) (fun w => Sl1 w v us) := by
  rintro w w' hs hb hx
  rcases hx with h0 | ⟨hn, b, off, cp, rfl, h1, h2, hlt, hce⟩
  · exact .inl h0
  · exact .inr ⟨hn, b, off, cp, rfl, h1, h2, Nat.lt_of_lt_of_le hlt hs, fun i hi => (World.cell?_of_block (w := w) (hb b ⟨rfl, hn⟩)).trans (hce i hi)⟩
theorem OneX.ltD (h : OneX T w0 w p M D X) : ∀ k, D k → k < w.heap.size := by
  obtain ⟨F, _, _, _, _, h5, _⟩ := h
  exact h5
end Go.Proofs.YthchfdobdghdoaaGreat
end
