/-
  Joined texts: MemSince, EvEq, SameE3, MemFree, SameE10.
-/
import Derived.Test.YthchfdobdghdoaaGreatHat
import Derived.Lib.SliceRun
import Derived.Test.YthchfdobdghdoaaGreatHae
import Derived.Laws.StructEq
import Derived.Deep.QuietTactic
import Derived.BigQuiet
set_option linter.unusedVariables false
set_option linter.unusedSimpArgs false
set_option linter.unusedSectionVars false
set_option linter.unnecessarySimpa false
section

/-
  The walks of slices.Clone at events, and of Since, Trace, of mem.
-/
namespace Go.Sg
open Go Go.RowKit
/-- The slice v reads as the looks es. -/
def SlE (w : World) (v : Value) (es : List Ev) : Prop :=
  ∃ a cap, v = .slice a es.length cap ∧ es.length ≤ cap ∧ cap ≤ maxLen ∧ (es ≠ [] → ∃ b off, a = some ⟨b, off, none⟩ ∧ b < w.heap.size ∧ w.rangeAt b off (evsV es))
theorem SlE.below {w w' : World} {v : Value} {es : List Ev} (h : SlE w v es) (hb : Below w.heap.size w w') : SlE w' v es := by
  obtain ⟨a, cap, rfl, h1, h2, h3⟩ := h
  refine ⟨a, cap, rfl, h1, h2, fun hn => ?_⟩
  obtain ⟨b, off, rfl, hlt, hr⟩ := h3 hn
  exact ⟨b, off, rfl, Nat.lt_of_lt_of_le hlt hb.size, fun j u hu => (hb.cell (p := ⟨b, off + j, none⟩) hlt).trans (hr j u hu)⟩
theorem SlE.of_owns {w : World} {base : Nat} {e : TypeId} {v : Value} {es : List Ev} (h : w.ownsRow base e 3 v es.length (evsV es)) : SlE w v es := by
  rcases h.2 with ⟨rfl, h0⟩ | ⟨g, cap, cur, rfl, hb, hg, hn, hm, hsz, ht⟩
  · have : es = [] := List.length_eq_zero_iff.1 h0
    subst this
    exact ⟨none, 0, rfl, Nat.le_refl _, by simp, fun h => absurd rfl h⟩
  · refine ⟨_, cap, rfl, hn, hm, fun _ => ⟨g, 0, rfl, lt_of_block hg, fun j u hu => ?_⟩⟩
    rw [Nat.zero_add, cell_of_row w g j cur e (0, 0) hg]
    rw [← ht, List.getElem?_take] at hu
    split at hu
    · simpa using hu
    · simp at hu
/-- A call answers a new slice that reads as the looks es. -/
def RetE (es : List Ev) (w : World) (e : Ending) (w' : World) : Prop := ∃ v, e = .returned v ∧ SlE w' v es ∧ Below w.heap.size w w' ∧ ∀ k, v.ownBlock = some k → w.heap.size ≤ k
end Go.Sg
namespace Go.Proofs.YthchfdobdghdoaaGreat
open Go.RowKit Go.Sg

end Go.Proofs.YthchfdobdghdoaaGreat
end
section

/-
  '==' of two looks, as the model runs it.
-/
namespace Go.Sg
open Go Go.RowKit
variable {P : Program}
/-- A row in the middle of a block is loaded, in whatever world of the class. -/
theorem qs_load_mid {ops : Array Oper} {C : World → Prop} {o : Oper} {a : Act} {K : Act → Prop} (hw : Region.wanted o (yielded ops a.tmps) = true) (ty : TypeId) (x : Operand) (ho : o.op = .load ty x)
    (b off : Nat) (hx : a.eval x = .pointer (some ⟨b, off, none⟩)) (cs : List Value) (d : TypeDesc) (hg : ∀ w, C w → w.rangeAt b off cs)
    (hu : P.underlying ty = some d) (hd : d.isRow = true) (hi : (P.info? ty).map (·.size) = some cs.length)
    (hK : K (a.put o.dst (.agg cs.toArray))) : if Region.wanted o (yielded ops a.tmps) = true then o.quiet P a C K else K (a.put o.dst undef) := by
  rw [if_pos hw]
  refine ⟨.agg cs.toArray, fun w hC => ?_, hK⟩
  unfold Oper.quietAt execOp
  simp only [ho, hx, Instr.loadAt, Instr.sureAddr, Sem.run_bind, Sem.run_pure, Result.andThen_ok, run_loadVar_mid w b off ty cs d (hg w hC) hu hd hi]
  exact ⟨rfl, rfl⟩
theorem rangeAt_ev {w : World} {b off : Nat} {es : List Ev} (h : w.rangeAt b off (evsV es)) (k : Nat) (hk : k < es.length) : w.rangeAt b (off + k * 3) (evV es[k]) := by
  intro j v hv
  rw [Nat.add_assoc]
  refine h (k * 3 + j) v ?_
  have h1 : (evsV es).drop (k * 3) = evV es[k] ++ evsV (es.drop (k + 1)) := by
    rw [evsV_drop, List.drop_eq_getElem_cons hk]
    rfl
  have h2 : ((evsV es).drop (k * 3))[j]? = (evsV es)[k * 3 + j]? := by rw [List.getElem?_drop]
  rw [← h2, h1, List.getElem?_append_left (List.getElem?_eq_some_iff.1 hv).1]
  exact hv
end Go.Sg
namespace Go.Proofs.YthchfdobdghdoaaGreat
open Go.RowKit Go.Sg

theorem run_eqev (e f : Ev) (w : World) : (Op.equalIn 10000 94 (.agg (evV e).toArray) (.agg (evV f).toArray)).run Tryz.prog w = .ok (decide (e = f)) w := by
  have u3 := Tryz.underlying3
  have a3 := Tryz.isAgg3
  have z3 := Tryz.sizeOf3
  have u4 := Tryz.underlying4
  have a4 := Tryz.isAgg4
  have z4 := Tryz.sizeOf4
  have hS : Tryz.prog.underlying 94 = some (.struct (Tryz.prog.fieldsOf 94)) := by kernel_rfl
  have hp : Tryz.prog.stoodInHeld 94 = false := by kernel_rfl
  obtain ⟨e1, e2, e3⟩ := e
  obtain ⟨f1, f2, f3⟩ := f
  simp only [evV]
  rw [show (10000 : Nat) = 9999 + 1 from rfl, run_equalIn_agg w 9999 94 _ _ hS hp]
  simp only [Program.fieldsOf, Tryz.underlying94]
  go_simp
  by_cases h1 : e1 = f1 <;> by_cases h2 : e2 = f2 <;> cases e3 <;> cases f3 <;> simp [h1, h2]
theorem info_ev3 (e : Ev) : (Tryz.prog.info? 94).map (·.size) = some (evV e).length := by kernel_rfl
end Go.Proofs.YthchfdobdghdoaaGreat
end
section

/-
  The walk of shellgamelaw3.same, at looks.
-/
namespace Go.Proofs.YthchfdobdghdoaaGreat
open Go.RowKit Go.Sg

end Go.Proofs.YthchfdobdghdoaaGreat
end
section

/-
  Since and Trace of mem: what is answered is new memory, and may be written.
-/
namespace Go.Sg
open Go Go.RowKit
/-- A call answers a new slice that reads as the looks es. -/
def RetF (es : List Ev) (w : World) (e : Ending) (w' : World) : Prop := ∃ v, e = .returned v ∧ SlE w' v es ∧ Below w.heap.size w w' ∧ ∀ k, v.ownBlock = some k → w.heap.size ≤ k ∧ ∀ o, w'.frozen? ⟨k, o, none⟩ = false
end Go.Sg
namespace Go.Proofs.YthchfdobdghdoaaGreat
open Go.RowKit Go.Sg

end Go.Proofs.YthchfdobdghdoaaGreat
end
section

/-
  The walk of shellgamelaw10.sameEvents, at looks.
-/
namespace Go.Proofs.YthchfdobdghdoaaGreat
open Go.RowKit Go.Sg

set_option maxRecDepth 100000 in
theorem sameE10_any (v1 v2 : Value) (xs ys : List Ev) (w : World) (h1 : SlE w v1 xs) (h2 : SlE w v2 ys) :
    Calls Tryz.prog 16 #[v1, v2] w fun e w' => e = .returned (.bool (decide (xs = ys))) ∧ Below w.heap.size w w' := by
  obtain ⟨a1, cap1, rfl, p1, p2, p3⟩ := h1
  obtain ⟨a2, cap2, rfl, q1, q2, q3⟩ := h2
  by_cases hlen : xs.length = ys.length
  · by_cases h0 : xs = []
    · subst h0
      have : ys = [] := List.length_eq_zero_iff.1 hlen.symm
      subst this
      clear p3 q3 hlen
      go_enter Tryz.func16, Tryz.ntmps16
      go_wp2
      go_loop [5] (fun i => i = .int .i64 0) (fun _ => 0)
      case atStart => rfl
      case round =>
        subst hrel
        go_wp2
        go_ret
        exact ⟨rfl, Below.refl _ _⟩
    · have h0' : ys ≠ [] := fun e => h0 (List.length_eq_zero_iff.1 (by rw [hlen, e]; rfl))
      obtain ⟨b1, off1, rfl, hlt1, hr1⟩ := p3 h0
      obtain ⟨b2, off2, rfl, hlt2, hr2⟩ := q3 h0'
      have R1 := Lib.hid hr1
      have R2 := Lib.hid hr2
      have L1 := Lib.hid hlt1
      have L2 := Lib.hid hlt2
      have HL := Lib.hid hlen
      have g1 : ((xs.length : Int) != (xs.length : Int)) = false := by simp
      have hmx : xs.length ≤ maxLen := by omega
      unfold maxLen at hmx
      rw [← hlen]
      clear p3 q3 hr1 hr2 hlt1 hlt2 h0 h0' hlen p1 p2 q1 q2
      go_enter Tryz.func16, Tryz.ntmps16
      go_wp2
      go_loopw [5] (fun i wr => ∃ k : Nat, k ≤ xs.length ∧ i = .int .i64 k ∧ Hid (∀ r (h : r < xs.length) (h' : r < ys.length), r < k → xs[r] = ys[r]) ∧ Below w.heap.size w wr) (fun i _ => xs.length - (intOf i).toNat)
      case atStart => exact ⟨0, by omega, rfl, Lib.hid (fun r _ _ h => by omega), Below.refl _ _⟩
      case round =>
        obtain ⟨k, hk, rfl, HE, hW⟩ := hrel
        have HW := Lib.hid hW
        by_cases hlt : k < xs.length
        · have hlt' : k < ys.length := by have := HL.out; omega
          have r1 : wr.rangeAt b1 (off1 + k * 3) (evV xs[k]) := fun j v hv => (hW.cell (p := ⟨b1, off1 + k * 3 + j, none⟩) L1.out).trans (rangeAt_ev R1.out k hlt j v hv)
          have r2 : wr.rangeAt b2 (off2 + k * 3) (evV ys[k]) := fun j v hv => (hW.cell (p := ⟨b2, off2 + k * 3 + j, none⟩) L2.out).trans (rangeAt_ev R2.out k hlt' j v hv)
          have i0 : (0 : Int) ≤ (k : Int) := by omega
          have i1 : (k : Int) < (xs.length : Int) := by omega
          have RR1 := Lib.hid r1
          have RR2 := Lib.hid r2
          have QE := fun w => run_eqev xs[k] ys[k] w
          have HX : Hid (decide (xs[k] = ys[k]) = true → ∀ r (h : r < xs.length) (h' : r < ys.length), r < k + 1 → xs[r] = ys[r]) := Lib.hid fun e r h h' hr => by
            rcases Nat.lt_or_ge r k with h3 | h3
            · exact HE.out r h h' h3
            · obtain rfl : r = k := by omega
              exact of_decide_eq_true e
          have HY : Hid (decide (xs[k] = ys[k]) = false → decide (xs = ys) = false) := Lib.hid fun e => decide_eq_false fun h => of_decide_eq_false e (by simp [h])
          clear hW r1 r2
          generalize xs[k] = x at *
          generalize ys[k] = y at *
          generalize decide (x = y) = bb at *
          go_wp2_with fail
          refine wp_region_cls (fun w' => ∃ n, w' = wr.drewN n) (by kernel_rfl) (by kernel_rfl) ⟨1, rfl⟩ ?_
          repeat (first
            | (refine wpQuiet_step (fun K hK => ?_)
               refine qs_load_mid (by rfl) 94 (.tmp 19) rfl b1 (off1 + k * 3) rfl (evV x) _ (fun w ⟨n, hw⟩ => by subst hw; exact RR1.out) Tryz.underlying94 rfl (info_ev3 _) (hK _ ?_)
               clear hK K)
            | (refine wpQuiet_step (fun K hK => ?_)
               refine qs_load_mid (by rfl) 94 (.tmp 23) rfl b2 (off2 + k * 3) rfl (evV y) _ (fun w ⟨n, hw⟩ => by subst hw; exact RR2.out) Tryz.underlying94 rfl (info_ev3 _) (hK _ ?_)
               clear hK K)
            | (refine wpQuiet_step (fun K hK => ?_)
               go_simp
               first
                 | (refine hK _ ?_; clear hK K)
                 | (refine ⟨_, fun _ _ => rfl, hK _ ?_⟩; clear hK K)))
          refine wpQuiet_nil ?_
          rintro w'' ⟨nq, rfl⟩
          have HD := Lib.hid (show Below wr.heap.size wr (wr.drewN nq) from below_drewN' (Below.refl _ _))
          cases bb with
          | true =>
            clear QE
            go_wp2
            go_roundw
            case rel => exact ⟨k + 1, by omega, by go_num, Lib.hid (HX.out (by first | rfl | trivial)), HW.out.trans (HD.out.mono HW.out.size)⟩
            case measure => simp [intOf]; omega
          | false =>
            clear QE
            go_wp2
            go_ret
            exact ⟨congrArg (fun b => Ending.returned (Value.bool b)) (HY.out (by first | rfl | trivial)).symm, HW.out.trans (HD.out.mono HW.out.size)⟩
        · have HN : Hid (decide (xs = ys) = true) := Lib.hid (decide_eq_true (List.ext_getElem HL.out fun r h h' => HE.out r h h' (by omega)))
          clear hW
          go_wp2
          go_ret
          exact ⟨congrArg (fun b => Ending.returned (Value.bool b)) HN.out.symm, HW.out⟩
  · have HN : Hid (decide (xs = ys) = false) := Lib.hid (decide_eq_false fun h => hlen (by rw [h]))
    have g1 : ((xs.length : Int) != (ys.length : Int)) = true := by rw [bne_iff_ne]; omega
    clear p3 q3 hlen
    go_enter Tryz.func16, Tryz.ntmps16
    go_wp2
    go_ret
    exact ⟨congrArg (fun b => Ending.returned (Value.bool b)) HN.out.symm, Below.refl _ _⟩
end Go.Proofs.YthchfdobdghdoaaGreat
end
