/-
  Joined texts: MemSince, EvEq, SameE3, MemFree, SameE10.
-/
import Derived.Test.YthchfdobdghdoaaHas
import Derived.Lib.SliceRun
import Derived.Test.YthchfdobdghdoaaHae
import Derived.Laws.StructEq
import Derived.Deep.QuietTactic
import Derived.BigQuiet
set_option linter.unusedVariables false
set_option linter.unusedSimpArgs false
set_option linter.unusedSectionVars false
set_option linter.unnecessarySimpa false
section

/-
  The walks of slices.Clone at events, and of Since, Trace, of mem.
-/
namespace Go.Sg
open Go Go.RowKit
/-- The slice v reads as the looks es. -/
def SlE (w : World) (v : Value) (es : List Ev) : Prop :=
  ∃ a cap, v = .slice a es.length cap ∧ es.length ≤ cap ∧ cap ≤ maxLen ∧ (es ≠ [] → ∃ b off, a = some ⟨b, off, none⟩ ∧ b < w.heap.size ∧ w.rangeAt b off (evsV es))
theorem SlE.below {w w' : World} {v : Value} {es : List Ev} (h : SlE w v es) (hb : Below w.heap.size w w') : SlE w' v es := by
  obtain ⟨a, cap, rfl, h1, h2, h3⟩ := h
  refine ⟨a, cap, rfl, h1, h2, fun hn => ?_⟩
  obtain ⟨b, off, rfl, hlt, hr⟩ := h3 hn
  exact ⟨b, off, rfl, Nat.lt_of_lt_of_le hlt hb.size, fun j u hu => (hb.cell (p := ⟨b, off + j, none⟩) hlt).trans (hr j u hu)⟩
theorem SlE.of_owns {w : World} {base : Nat} {e : TypeId} {v : Value} {es : List Ev} (h : w.ownsRow base e 3 v es.length (evsV es)) : SlE w v es := by
  rcases h.2 with ⟨rfl, h0⟩ | ⟨g, cap, cur, rfl, hb, hg, hn, hm, hsz, ht⟩
  · have : es = [] := List.length_eq_zero_iff.1 h0
    subst this
    exact ⟨none, 0, rfl, Nat.le_refl _, by simp, fun h => absurd rfl h⟩
  · refine ⟨_, cap, rfl, hn, hm, fun _ => ⟨g, 0, rfl, lt_of_block hg, fun j u hu => ?_⟩⟩
    rw [Nat.zero_add, cell_of_row w g j cur e (0, 0) hg]
    rw [← ht, List.getElem?_take] at hu
    split at hu
    · simpa using hu
    · simp at hu
/-- A call answers a new slice that reads as the looks es. -/
def RetE (es : List Ev) (w : World) (e : Ending) (w' : World) : Prop := ∃ v, e = .returned v ∧ SlE w' v es ∧ Below w.heap.size w w' ∧ ∀ k, v.ownBlock = some k → w.heap.size ≤ k
end Go.Sg
namespace Go.Proofs.Ythchfdobdghdoaa
open Go.RowKit Go.Sg

set_option maxRecDepth 100000 in
theorem cloneE_nil (w : World) : Calls Try.prog 24 #[.slice none 0 0] w (RetE [] w) := by
  go_enter Try.func24, Try.ntmps24
  go_wp2_with fail
  rw [Go.Lib.run_eql_slice_nil (h := Try.underlying48)]
  simp only [Result.andThen_ok, Oper.upon_value, Option.isNone_none]
  go_wp2
  go_ret
  exact ⟨_, rfl, ⟨none, 0, rfl, Nat.le_refl _, by simp, fun h => absurd rfl h⟩, Below.refl _ _, fun k hk => by simp [Value.ownBlock] at hk⟩

set_option maxRecDepth 100000 in
theorem cloneE_any (b off cap : Nat) (es : List Ev) (hl : es.length ≤ 1099511627776) (w : World) (hr : w.rangeAt b off (evsV es)) :
    Calls Try.prog 24 #[.slice (some ⟨b, off, none⟩) es.length cap] w (RetE es w) := by
  obtain ⟨i0, hi0, hz0, hz1, hz2⟩ := info_parts info_event
  have HI := Lib.hid hi0
  have HZ := Lib.hid hz0
  have HS := Lib.hid hz1
  have HY := Lib.hid hz2
  have HR := Lib.hid hr
  clear hi0 hz0 hz1 hz2 hr
  go_enter Try.func24, Try.ntmps24
  go_wp2_with fail
  rw [Go.Lib.run_eql_slice_nil (h := Try.underlying48)]
  simp only [Result.andThen_ok, Oper.upon_value, Option.isNone_some]
  go_wp2_with (first
    | (at_builtin; go_loud (refine wpList_append_own_at _ rfl (.tmp 5) (.tmp 6) 48 rfl w.heap.size 69 i0 (.agg #[.int .i64 0, .int .i64 0, .bool false]) 3 24 Try.underlying48 HI.out HZ.out HS.out HY.out rfl (by decide) _ 0 [] rfl ?own ⟨b, off, none⟩ es.length cap (evsV es) rfl (evsV_len es) ?c1 (evsV_one es) (by unfold maxLen; omega) (by omega) (by simp) ?_))
    | fail)
  case own => exact ⟨rfl, .inr ⟨w.heap.size, 0, #[], rfl, Nat.le_refl _, heap_alloc_new w _, Nat.le_refl _, by simp, rfl, rfl⟩⟩
  case c1 =>
    intro j u hu
    rw [addr_add]
    exact (World.rangeAt_alloc HR.out _) j u hu
  intro v' w2 hown hgrow _ hat
  have HO := Lib.hid hown
  have HB : Hid (Below w.heap.size w w2) := Lib.hid (((Below.refl _ _).alloc (Nat.le_refl _) _).grown hgrow (by simp) (by intro k hk; simp [Value.ownBlock] at hk; omega))
  clear hown hgrow hat
  go_wp2
  go_ret
  exact ⟨_, rfl, SlE.of_owns HO.out, HB.out, owns_ge HO.out⟩

set_option maxRecDepth 100000 in
theorem memSince_any {p : Nat} {M : Mm} {F : Nat → Prop} (n : Int) (w : World) (h : MemRep w 67 p M F) (hN : M.evs.length ≤ 1099511627776) (k : Nat) (hk : max 0 (min n (M.evs.length : Int)) = k) :
    Calls Try.prog 15 #[.pointer (some ⟨p, 0, none⟩), .int .i64 n] w (RetE (M.evs.drop k) w) := by
  obtain ⟨rb, cp, cur, g, ev, h⟩ := h
  have HO := Lib.hid h.evs
  have hkl : k ≤ M.evs.length := by omega
  have hdl : (M.evs.drop k).length = M.evs.length - k := by simp
  have HDL := Lib.hid hdl
  rcases HO.out.2 with ⟨rfl, h0⟩ | ⟨eb, cap, ecur, rfl, _, hg, hn, hm, hsz, ht⟩
  · have c1 : w.cell? ⟨p, 1, none⟩ = some (.slice none 0 0) := by rw [h.box.cell]; rfl
    have hev : M.evs = [] := List.length_eq_zero_iff.1 h0
    rw [hev] at hk ⊢
    simp only [List.drop_nil]
    obtain rfl : k = 0 := by simp at hk; omega
    have hk0 : max 0 (min n 0) = (0 : Int) := by simp at hk; omega
    clear h hk hev HO hN hkl hdl HDL h0
    go_enter Try.func15, Try.ntmps15
    go_wp2_with (first
      | (go_at_call 24; (with_reducible refine (cloneE_nil _).mono ?_); rintro _ w' ⟨v, rfl, h1, h2, h3⟩)
      | fail)
    all_goals
      go_ret
      exact ⟨_, rfl, h1, h2, h3⟩
  · have c1 : w.cell? ⟨p, 1, none⟩ = some (.slice (some ⟨eb, 0, none⟩) M.evs.length cap) := by rw [h.box.cell]; rfl
    unfold maxLen at hm
    have hr : w.rangeAt eb (k * 3) (evsV (M.evs.drop k)) := by
      intro j u hu
      rw [cell_of_row w eb _ ecur _ (0, 0) hg]
      rw [← evsV_drop, List.getElem?_drop, ← ht, List.getElem?_take] at hu
      split at hu
      · simpa using hu
      · simp at hu
    have K := Lib.hid (cloneE_any eb (k * 3) (M.evs.length - k) (M.evs.drop k) (by omega) w hr)
    rw [hdl] at K
    have hes : Hid (k = M.evs.length → M.evs.drop k = []) := Lib.hid fun e => by rw [e]; simp
    generalize M.evs.drop k = es at *
    clear h HO HDL hg hsz ht hr hdl
    generalize M.evs.length = m at *
    have hm63 : m ≤ 1099511627776 := hN
    clear hN
    by_cases h1 : n ≤ 0
    · have hk0 : k = 0 := by omega
      subst hk0
      simp only [Nat.zero_mul, Nat.sub_zero] at K
      clear hk hkl
      go_enter Try.func15, Try.ntmps15
      go_wp2_with fail
      refine K.out.mono ?_
      rintro _ w' ⟨v, rfl, h1, h2, h3⟩
      go_wp2
      go_ret
      exact ⟨_, rfl, h1, h2, h3⟩
    · by_cases h2 : n < (m : Int)
      · obtain rfl : n = (k : Int) := by omega
        have hk1 : k ≤ m := hkl
        have hk2 : ¬ (m : Int) < (k : Int) := by omega
        have hk3 : m - k ≤ m := by omega
        clear hk
        go_enter Try.func15, Try.ntmps15
        go_wp2_with fail
        refine K.out.mono ?_
        rintro _ w' ⟨v, rfl, h1, h2, h3⟩
        go_wp2
        go_ret
        exact ⟨_, rfl, h1, h2, h3⟩
      · have hkm : k = m := by omega
        have he := hes.out hkm
        subst he
        subst hkm
        have K := Lib.hid (cloneE_any eb 0 0 [] (by simp) w (fun j u hu => by simp [evsV] at hu))
        rcases Nat.eq_zero_or_pos k with h7 | h7
        · subst h7
          have h4 : (0 : Int) < n := by omega
          have h5 : ¬ n ≤ 0 := by omega
          clear hk hkl h1 h2
          go_enter Try.func15, Try.ntmps15
          go_wp2_with fail
          refine K.out.mono ?_
          rintro _ w' ⟨v, rfl, h1, h2, h3⟩
          go_wp2
          go_ret
          exact ⟨_, rfl, h1, h2, h3⟩
        · by_cases h3 : n = (k : Int)
          · subst h3
            have h8 : (0 : Int) < (k : Int) := by omega
            clear hk hkl h1 h2
            go_enter Try.func15, Try.ntmps15
            go_wp2_with fail
            refine K.out.mono ?_
            rintro _ w' ⟨v, rfl, h1, h2, h3⟩
            go_wp2
            go_ret
            exact ⟨_, rfl, h1, h2, h3⟩
          · have h4 : ¬ n ≤ (k : Int) := by omega
            have h5 : (k : Int) < n := by omega
            have h6 : ¬ n < (k : Int) := by omega
            have h8 : (0 : Int) < (k : Int) := by omega
            clear hk hkl h1 h2
            go_enter Try.func15, Try.ntmps15
            go_wp2_with fail
            refine K.out.mono ?_
            rintro _ w' ⟨v, rfl, h1, h2, h3⟩
            go_wp2
            go_ret
            exact ⟨_, rfl, h1, h2, h3⟩

end Go.Proofs.Ythchfdobdghdoaa
end
section

/-
  '==' of two looks, as the model runs it.
-/
namespace Go.Sg
open Go Go.RowKit
variable {P : Program}
/-- A row in the middle of a block is loaded, in whatever world of the class. -/
theorem qs_load_mid {ops : Array Oper} {C : World → Prop} {o : Oper} {a : Act} {K : Act → Prop} (hw : Region.wanted o (yielded ops a.tmps) = true) (ty : TypeId) (x : Operand) (ho : o.op = .load ty x)
    (b off : Nat) (hx : a.eval x = .pointer (some ⟨b, off, none⟩)) (cs : List Value) (d : TypeDesc) (hg : ∀ w, C w → w.rangeAt b off cs)
    (hu : P.underlying ty = some d) (hd : d.isRow = true) (hi : (P.info? ty).map (·.size) = some cs.length)
    (hK : K (a.put o.dst (.agg cs.toArray))) : if Region.wanted o (yielded ops a.tmps) = true then o.quiet P a C K else K (a.put o.dst undef) := by
  rw [if_pos hw]
  refine ⟨.agg cs.toArray, fun w hC => ?_, hK⟩
  unfold Oper.quietAt execOp
  simp only [ho, hx, Instr.loadAt, Instr.sureAddr, Sem.run_bind, Sem.run_pure, Result.andThen_ok, run_loadVar_mid w b off ty cs d (hg w hC) hu hd hi]
  exact ⟨rfl, rfl⟩
theorem rangeAt_ev {w : World} {b off : Nat} {es : List Ev} (h : w.rangeAt b off (evsV es)) (k : Nat) (hk : k < es.length) : w.rangeAt b (off + k * 3) (evV es[k]) := by
  intro j v hv
  rw [Nat.add_assoc]
  refine h (k * 3 + j) v ?_
  have h1 : (evsV es).drop (k * 3) = evV es[k] ++ evsV (es.drop (k + 1)) := by
    rw [evsV_drop, List.drop_eq_getElem_cons hk]
    rfl
  have h2 : ((evsV es).drop (k * 3))[j]? = (evsV es)[k * 3 + j]? := by rw [List.getElem?_drop]
  rw [← h2, h1, List.getElem?_append_left (List.getElem?_eq_some_iff.1 hv).1]
  exact hv
end Go.Sg
namespace Go.Proofs.Ythchfdobdghdoaa
open Go.RowKit Go.Sg

theorem run_eqev (e f : Ev) (w : World) : (Op.equalIn 10000 69 (.agg (evV e).toArray) (.agg (evV f).toArray)).run Try.prog w = .ok (decide (e = f)) w := by
  have u3 := Try.underlying3
  have a3 := Try.isAgg3
  have z3 := Try.sizeOf3
  have u4 := Try.underlying4
  have a4 := Try.isAgg4
  have z4 := Try.sizeOf4
  have hS : Try.prog.underlying 69 = some (.struct (Try.prog.fieldsOf 69)) := by kernel_rfl
  have hp : Try.prog.stoodInHeld 69 = false := by kernel_rfl
  obtain ⟨e1, e2, e3⟩ := e
  obtain ⟨f1, f2, f3⟩ := f
  simp only [evV]
  rw [show (10000 : Nat) = 9999 + 1 from rfl, run_equalIn_agg w 9999 69 _ _ hS hp]
  simp only [Program.fieldsOf, Try.underlying69]
  go_simp
  by_cases h1 : e1 = f1 <;> by_cases h2 : e2 = f2 <;> cases e3 <;> cases f3 <;> simp [h1, h2]
theorem info_ev3 (e : Ev) : (Try.prog.info? 69).map (·.size) = some (evV e).length := by kernel_rfl
end Go.Proofs.Ythchfdobdghdoaa
end
section

/-
  The walk of shellgamelaw3.same, at looks.
-/
namespace Go.Proofs.Ythchfdobdghdoaa
open Go.RowKit Go.Sg

end Go.Proofs.Ythchfdobdghdoaa
end
section

/-
  Since and Trace of mem: what is answered is new memory, and may be written.
-/
namespace Go.Sg
open Go Go.RowKit
theorem owns_free {w : World} {base : Nat} {e : TypeId} {size : Nat} {v : Value} {n : Nat} {xs : List Value} (h : w.ownsRow base e size v n xs) : ∀ k, v.ownBlock = some k → base ≤ k ∧ ∀ o, w.frozen? ⟨k, o, none⟩ = false := by
  rcases h.2 with ⟨rfl, _⟩ | ⟨g, cap, cur, rfl, hb, hg, _⟩
  · intro k hk; cases hk
  · intro k hk
    cases hk
    exact ⟨hb, fun o => frozen_of_row w g o cur e hg⟩
/-- A call answers a new slice that reads as the looks es. -/
def RetF (es : List Ev) (w : World) (e : Ending) (w' : World) : Prop := ∃ v, e = .returned v ∧ SlE w' v es ∧ Below w.heap.size w w' ∧ ∀ k, v.ownBlock = some k → w.heap.size ≤ k ∧ ∀ o, w'.frozen? ⟨k, o, none⟩ = false
end Go.Sg
namespace Go.Proofs.Ythchfdobdghdoaa
open Go.RowKit Go.Sg

set_option maxRecDepth 100000 in
theorem cloneF_nil (w : World) : Calls Try.prog 24 #[.slice none 0 0] w (RetF [] w) := by
  go_enter Try.func24, Try.ntmps24
  go_wp2_with fail
  rw [Go.Lib.run_eql_slice_nil (h := Try.underlying48)]
  simp only [Result.andThen_ok, Oper.upon_value, Option.isNone_none]
  go_wp2
  go_ret
  exact ⟨_, rfl, ⟨none, 0, rfl, Nat.le_refl _, by simp, fun h => absurd rfl h⟩, Below.refl _ _, fun k hk => by simp [Value.ownBlock] at hk⟩

set_option maxRecDepth 100000 in
theorem cloneF_any (b off cap : Nat) (es : List Ev) (hl : es.length ≤ 1099511627776) (w : World) (hr : w.rangeAt b off (evsV es)) :
    Calls Try.prog 24 #[.slice (some ⟨b, off, none⟩) es.length cap] w (RetF es w) := by
  obtain ⟨i0, hi0, hz0, hz1, hz2⟩ := info_parts info_event
  have HI := Lib.hid hi0
  have HZ := Lib.hid hz0
  have HS := Lib.hid hz1
  have HY := Lib.hid hz2
  have HR := Lib.hid hr
  clear hi0 hz0 hz1 hz2 hr
  go_enter Try.func24, Try.ntmps24
  go_wp2_with fail
  rw [Go.Lib.run_eql_slice_nil (h := Try.underlying48)]
  simp only [Result.andThen_ok, Oper.upon_value, Option.isNone_some]
  go_wp2_with (first
    | (at_builtin; go_loud (refine wpList_append_own_at _ rfl (.tmp 5) (.tmp 6) 48 rfl w.heap.size 69 i0 (.agg #[.int .i64 0, .int .i64 0, .bool false]) 3 24 Try.underlying48 HI.out HZ.out HS.out HY.out rfl (by decide) _ 0 [] rfl ?own ⟨b, off, none⟩ es.length cap (evsV es) rfl (evsV_len es) ?c1 (evsV_one es) (by unfold maxLen; omega) (by omega) (by simp) ?_))
    | fail)
  case own => exact ⟨rfl, .inr ⟨w.heap.size, 0, #[], rfl, Nat.le_refl _, heap_alloc_new w _, Nat.le_refl _, by simp, rfl, rfl⟩⟩
  case c1 =>
    intro j u hu
    rw [addr_add]
    exact (World.rangeAt_alloc HR.out _) j u hu
  intro v' w2 hown hgrow _ hat
  have HO := Lib.hid hown
  have HB : Hid (Below w.heap.size w w2) := Lib.hid (((Below.refl _ _).alloc (Nat.le_refl _) _).grown hgrow (by simp) (by intro k hk; simp [Value.ownBlock] at hk; omega))
  clear hown hgrow hat
  go_wp2
  go_ret
  exact ⟨_, rfl, SlE.of_owns HO.out, HB.out, owns_free HO.out⟩

set_option maxRecDepth 100000 in
theorem memSince_free {p : Nat} {M : Mm} {F : Nat → Prop} (n : Int) (w : World) (h : MemRep w 67 p M F) (hN : M.evs.length ≤ 1099511627776) (k : Nat) (hk : max 0 (min n (M.evs.length : Int)) = k) :
    Calls Try.prog 15 #[.pointer (some ⟨p, 0, none⟩), .int .i64 n] w (RetF (M.evs.drop k) w) := by
  obtain ⟨rb, cp, cur, g, ev, h⟩ := h
  have HO := Lib.hid h.evs
  have hkl : k ≤ M.evs.length := by omega
  have hdl : (M.evs.drop k).length = M.evs.length - k := by simp
  have HDL := Lib.hid hdl
  rcases HO.out.2 with ⟨rfl, h0⟩ | ⟨eb, cap, ecur, rfl, _, hg, hn, hm, hsz, ht⟩
  · have c1 : w.cell? ⟨p, 1, none⟩ = some (.slice none 0 0) := by rw [h.box.cell]; rfl
    have hev : M.evs = [] := List.length_eq_zero_iff.1 h0
    rw [hev] at hk ⊢
    simp only [List.drop_nil]
    obtain rfl : k = 0 := by simp at hk; omega
    have hk0 : max 0 (min n 0) = (0 : Int) := by simp at hk; omega
    clear h hk hev HO hN hkl hdl HDL h0
    go_enter Try.func15, Try.ntmps15
    go_wp2_with (first
      | (go_at_call 24; (with_reducible refine (cloneF_nil _).mono ?_); rintro _ w' ⟨v, rfl, h1, h2, h3⟩)
      | fail)
    all_goals
      go_ret
      exact ⟨_, rfl, h1, h2, h3⟩
  · have c1 : w.cell? ⟨p, 1, none⟩ = some (.slice (some ⟨eb, 0, none⟩) M.evs.length cap) := by rw [h.box.cell]; rfl
    unfold maxLen at hm
    have hr : w.rangeAt eb (k * 3) (evsV (M.evs.drop k)) := by
      intro j u hu
      rw [cell_of_row w eb _ ecur _ (0, 0) hg]
      rw [← evsV_drop, List.getElem?_drop, ← ht, List.getElem?_take] at hu
      split at hu
      · simpa using hu
      · simp at hu
    have K := Lib.hid (cloneF_any eb (k * 3) (M.evs.length - k) (M.evs.drop k) (by omega) w hr)
    rw [hdl] at K
    have hes : Hid (k = M.evs.length → M.evs.drop k = []) := Lib.hid fun e => by rw [e]; simp
    generalize M.evs.drop k = es at *
    clear h HO HDL hg hsz ht hr hdl
    generalize M.evs.length = m at *
    have hm63 : m ≤ 1099511627776 := hN
    clear hN
    by_cases h1 : n ≤ 0
    · have hk0 : k = 0 := by omega
      subst hk0
      simp only [Nat.zero_mul, Nat.sub_zero] at K
      clear hk hkl
      go_enter Try.func15, Try.ntmps15
      go_wp2_with fail
      refine K.out.mono ?_
      rintro _ w' ⟨v, rfl, h1, h2, h3⟩
      go_wp2
      go_ret
      exact ⟨_, rfl, h1, h2, h3⟩
    · by_cases h2 : n < (m : Int)
      · obtain rfl : n = (k : Int) := by omega
        have hk1 : k ≤ m := hkl
        have hk2 : ¬ (m : Int) < (k : Int) := by omega
        have hk3 : m - k ≤ m := by omega
        clear hk
        go_enter Try.func15, Try.ntmps15
        go_wp2_with fail
        refine K.out.mono ?_
        rintro _ w' ⟨v, rfl, h1, h2, h3⟩
        go_wp2
        go_ret
        exact ⟨_, rfl, h1, h2, h3⟩
      · have hkm : k = m := by omega
        have he := hes.out hkm
        subst he
        subst hkm
        have K := Lib.hid (cloneF_any eb 0 0 [] (by simp) w (fun j u hu => by simp [evsV] at hu))
        rcases Nat.eq_zero_or_pos k with h7 | h7
        · subst h7
          have h4 : (0 : Int) < n := by omega
          have h5 : ¬ n ≤ 0 := by omega
          clear hk hkl h1 h2
          go_enter Try.func15, Try.ntmps15
          go_wp2_with fail
          refine K.out.mono ?_
          rintro _ w' ⟨v, rfl, h1, h2, h3⟩
          go_wp2
          go_ret
          exact ⟨_, rfl, h1, h2, h3⟩
        · by_cases h3 : n = (k : Int)
          · subst h3
            have h8 : (0 : Int) < (k : Int) := by omega
            clear hk hkl h1 h2
            go_enter Try.func15, Try.ntmps15
            go_wp2_with fail
            refine K.out.mono ?_
            rintro _ w' ⟨v, rfl, h1, h2, h3⟩
            go_wp2
            go_ret
            exact ⟨_, rfl, h1, h2, h3⟩
          · have h4 : ¬ n ≤ (k : Int) := by omega
            have h5 : (k : Int) < n := by omega
            have h6 : ¬ n < (k : Int) := by omega
            have h8 : (0 : Int) < (k : Int) := by omega
            clear hk hkl h1 h2
            go_enter Try.func15, Try.ntmps15
            go_wp2_with fail
            refine K.out.mono ?_
            rintro _ w' ⟨v, rfl, h1, h2, h3⟩
            go_wp2
            go_ret
            exact ⟨_, rfl, h1, h2, h3⟩

end Go.Proofs.Ythchfdobdghdoaa
end
section

/-
  The walk of shellgamelaw10.sameEvents, at looks.
-/
namespace Go.Proofs.Ythchfdobdghdoaa
open Go.RowKit Go.Sg

set_option maxRecDepth 100000 in
theorem sameE10_any (v1 v2 : Value) (xs ys : List Ev) (w : World) (h1 : SlE w v1 xs) (h2 : SlE w v2 ys) :
    Calls Try.prog 14 #[v1, v2] w fun e w' => e = .returned (.bool (decide (xs = ys))) ∧ Below w.heap.size w w' := by
  obtain ⟨a1, cap1, rfl, p1, p2, p3⟩ := h1
  obtain ⟨a2, cap2, rfl, q1, q2, q3⟩ := h2
  by_cases hlen : xs.length = ys.length
  · by_cases h0 : xs = []
    · subst h0
      have : ys = [] := List.length_eq_zero_iff.1 hlen.symm
      subst this
      clear p3 q3 hlen
      go_enter Try.func14, Try.ntmps14
      go_wp2
      go_loop [5] (fun i => i = .int .i64 0) (fun _ => 0)
      case atStart => rfl
      case round =>
        subst hrel
        go_wp2
        go_ret
        exact ⟨rfl, Below.refl _ _⟩
    · have h0' : ys ≠ [] := fun e => h0 (List.length_eq_zero_iff.1 (by rw [hlen, e]; rfl))
      obtain ⟨b1, off1, rfl, hlt1, hr1⟩ := p3 h0
      obtain ⟨b2, off2, rfl, hlt2, hr2⟩ := q3 h0'
      have R1 := Lib.hid hr1
      have R2 := Lib.hid hr2
      have L1 := Lib.hid hlt1
      have L2 := Lib.hid hlt2
      have HL := Lib.hid hlen
      have g1 : ((xs.length : Int) != (xs.length : Int)) = false := by simp
      have hmx : xs.length ≤ maxLen := by omega
      unfold maxLen at hmx
      rw [← hlen]
      clear p3 q3 hr1 hr2 hlt1 hlt2 h0 h0' hlen p1 p2 q1 q2
      go_enter Try.func14, Try.ntmps14
      go_wp2
      go_loopw [5] (fun i wr => ∃ k : Nat, k ≤ xs.length ∧ i = .int .i64 k ∧ Hid (∀ r (h : r < xs.length) (h' : r < ys.length), r < k → xs[r] = ys[r]) ∧ Below w.heap.size w wr) (fun i _ => xs.length - (intOf i).toNat)
      case atStart => exact ⟨0, by omega, rfl, Lib.hid (fun r _ _ h => by omega), Below.refl _ _⟩
      case round =>
        obtain ⟨k, hk, rfl, HE, hW⟩ := hrel
        have HW := Lib.hid hW
        by_cases hlt : k < xs.length
        · have hlt' : k < ys.length := by have := HL.out; omega
          have r1 : wr.rangeAt b1 (off1 + k * 3) (evV xs[k]) := fun j v hv => (hW.cell (p := ⟨b1, off1 + k * 3 + j, none⟩) L1.out).trans (rangeAt_ev R1.out k hlt j v hv)
          have r2 : wr.rangeAt b2 (off2 + k * 3) (evV ys[k]) := fun j v hv => (hW.cell (p := ⟨b2, off2 + k * 3 + j, none⟩) L2.out).trans (rangeAt_ev R2.out k hlt' j v hv)
          have i0 : (0 : Int) ≤ (k : Int) := by omega
          have i1 : (k : Int) < (xs.length : Int) := by omega
          have RR1 := Lib.hid r1
          have RR2 := Lib.hid r2
          have QE := fun w => run_eqev xs[k] ys[k] w
          have HX : Hid (decide (xs[k] = ys[k]) = true → ∀ r (h : r < xs.length) (h' : r < ys.length), r < k + 1 → xs[r] = ys[r]) := Lib.hid fun e r h h' hr => by
            rcases Nat.lt_or_ge r k with h3 | h3
            · exact HE.out r h h' h3
            · obtain rfl : r = k := by omega
              exact of_decide_eq_true e
          have HY : Hid (decide (xs[k] = ys[k]) = false → decide (xs = ys) = false) := Lib.hid fun e => decide_eq_false fun h => of_decide_eq_false e (by simp [h])
          clear hW r1 r2
          generalize xs[k] = x at *
          generalize ys[k] = y at *
          generalize decide (x = y) = bb at *
          go_wp2_with fail
          refine wp_region_cls (fun w' => ∃ n, w' = wr.drewN n) (by kernel_rfl) (by kernel_rfl) ⟨1, rfl⟩ ?_
          repeat (first
            | (refine wpQuiet_step (fun K hK => ?_)
               refine qs_load_mid (by rfl) 69 (.tmp 19) rfl b1 (off1 + k * 3) rfl (evV x) _ (fun w ⟨n, hw⟩ => by subst hw; exact RR1.out) Try.underlying69 rfl (info_ev3 _) (hK _ ?_)
               clear hK K)
            | (refine wpQuiet_step (fun K hK => ?_)
               refine qs_load_mid (by rfl) 69 (.tmp 23) rfl b2 (off2 + k * 3) rfl (evV y) _ (fun w ⟨n, hw⟩ => by subst hw; exact RR2.out) Try.underlying69 rfl (info_ev3 _) (hK _ ?_)
               clear hK K)
            | (refine wpQuiet_step (fun K hK => ?_)
               go_simp
               first
                 | (refine hK _ ?_; clear hK K)
                 | (refine ⟨_, fun _ _ => rfl, hK _ ?_⟩; clear hK K)))
          refine wpQuiet_nil ?_
          rintro w'' ⟨nq, rfl⟩
          have HD := Lib.hid (show Below wr.heap.size wr (wr.drewN nq) from below_drewN' (Below.refl _ _))
          cases bb with
          | true =>
            clear QE
            go_wp2
            go_roundw
            case rel => exact ⟨k + 1, by omega, by go_num, Lib.hid (HX.out (by first | rfl | trivial)), HW.out.trans (HD.out.mono HW.out.size)⟩
            case measure => simp [intOf]; omega
          | false =>
            clear QE
            go_wp2
            go_ret
            exact ⟨congrArg (fun b => Ending.returned (Value.bool b)) (HY.out (by first | rfl | trivial)).symm, HW.out.trans (HD.out.mono HW.out.size)⟩
        · have HN : Hid (decide (xs = ys) = true) := Lib.hid (decide_eq_true (List.ext_getElem HL.out fun r h h' => HE.out r h h' (by omega)))
          clear hW
          go_wp2
          go_ret
          exact ⟨congrArg (fun b => Ending.returned (Value.bool b)) HN.out.symm, HW.out⟩
  · have HN : Hid (decide (xs = ys) = false) := Lib.hid (decide_eq_false fun h => hlen (by rw [h]))
    have g1 : ((xs.length : Int) != (ys.length : Int)) = true := by rw [bne_iff_ne]; omega
    clear p3 q3 hlen
    go_enter Try.func14, Try.ntmps14
    go_wp2
    go_ret
    exact ⟨congrArg (fun b => Ending.returned (Value.bool b)) HN.out.symm, Below.refl _ _⟩
end Go.Proofs.Ythchfdobdghdoaa
end
