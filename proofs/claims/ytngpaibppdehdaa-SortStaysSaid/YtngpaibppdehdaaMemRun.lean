/-
  A memory that is looked at by a list of looks: plain facts.
-/
import Derived.Test.YtngpaibppdehdaaLook
namespace Go.Sg
open Go Go.RowKit
section
variable {P : Program}
/-- x[k:], told by one value. -/
theorem wpList_slice_l {ops : Array Oper} {rest : List Oper} {o : Oper} {a : Act} {w : World} {Q : Exit → Act → World → Prop} (hg : o.guard = none) (t : TypeId) (x lo : Operand) (ho : o.op = .slice t x (some lo) none none)
    (hu : P.underlying t = some (.slice (P.elem t))) (size : Nat) (hs : (P.info? (P.elem t)).map (·.size) = some size) (ta : Option Addr) (len cap : Nat) (hx : a.eval x = .slice ta len cap) (k : Nat) (kl : IntKind) (hlo : a.eval lo = .int kl (k : Int)) (hk : k ≤ len)
    (hK : ∀ v2, v2 = sliced ta k len cap size → wpList P ops Q rest (a.put o.dst v2) w) : wpList P ops Q (o :: rest) a w := by
  refine wpList_plain hg fun K hK' => ?_
  have hr := run_slice_l (P := P) (w := w) t ta len cap hu kl (k : Int) (by omega) (by omega)
  have hz : (sizeOf (P.elem t)).run P w = .ok size w := by
    cases hq : P.info? (P.elem t) with
    | none => simp [hq] at hs
    | some i => simp [hq] at hs; simp [sizeOf, typeInfo, hq, hs]
  rw [hz] at hr
  simp only [Result.andThen_ok, Int.toNat_natCast] at hr
  unfold Oper.wp execOp
  simp only [ho, hx, hlo, Option.map_some, Option.map_none, run_sliceAt_slice (P := P) (h := hu), hr, Sem.run_bind, Result.andThen_ok, Sem.run_pure]
  exact hK' _ _ (hK _ rfl)
theorem SlE_none {w : World} {a : Option Addr} {c : Nat} (hc : c ≤ maxLen) : SlE w (.slice a 0 c) [] := ⟨a, c, rfl, Nat.zero_le _, hc, fun h => absurd rfl h⟩
theorem SlE_sliced {w : World} {ta : Option Addr} {n cap kk : Nat} {es : List Ev} (h : SlE w (.slice ta n cap) es) (hk : kk ≤ n) : SlE w (sliced ta kk n cap 3) (es.drop kk) := by
  obtain ⟨a, c, e, h1, h2, h3⟩ := h
  simp only [Value.slice.injEq] at e
  obtain ⟨rfl, rfl, rfl⟩ := e
  unfold sliced
  by_cases hc : cap = kk
  · rw [if_pos hc]
    have h0 : es.drop kk = [] := List.drop_eq_nil_of_le (by omega)
    rw [h0, show es.length - kk = 0 by omega]
    exact SlE_none (by omega)
  · rw [if_neg hc]
    refine ⟨_, _, by rw [List.length_drop], by rw [List.length_drop]; omega, by omega, fun hn => ?_⟩
    obtain ⟨b, off, rfl, hlt, hr⟩ := h3 (fun e => hn (by rw [e]; simp))
    refine ⟨b, off + kk * 3, by simp [addr_add], hlt, fun j u hu => ?_⟩
    rw [← evsV_drop, List.getElem?_drop] at hu
    rw [Nat.add_assoc]
    exact hr _ u hu
end
namespace Mm
def step (M : Mm) (l : Lk) : Mm := if l.2.2.2 then M.write l.1 l.2.1 (cellL l.2.2.1) else M.look l.1 l.2.1 false
def run (M : Mm) (ls : List Lk) : Mm := ls.foldl step M
theorem run_snoc (M : Mm) (ls : List Lk) (k : Nat) (h : k < ls.length) : M.run (ls.take (k + 1)) = (M.run (ls.take k)).step ls[k] := by
  rw [List.take_succ_eq_append_getElem h, run, List.foldl_append]
  rfl
theorem look_evs (M : Mm) (r a : Int) (b : Bool) : (M.look r a b).evs = if M.has r a then M.evs ++ [(r, a, b)] else M.evs := by unfold look; split <;> rfl
theorem write_evs (M : Mm) (r a : Int) (c : List Int) : (M.write r a c).evs = if M.has r a then M.evs ++ [(r, a, true)] else M.evs := by
  unfold write
  split
  · rename_i h
    show (M.look r a true).evs = _
    rw [look_evs, if_pos h]
  · rename_i h
    rw [look_evs, if_neg h]
theorem step_evs (M : Mm) (l : Lk) : (M.step l).evs = if M.has l.1 l.2.1 then M.evs ++ [(l.1, l.2.1, l.2.2.2)] else M.evs := by
  unfold step
  cases h : l.2.2.2 with
  | true => simp [write_evs]
  | false => simp [look_evs]
theorem step_evs_le (M : Mm) (l : Lk) : M.evs.length ≤ (M.step l).evs.length ∧ (M.step l).evs.length ≤ M.evs.length + 1 := by
  rw [step_evs]
  split <;> simp
theorem run_evs_le (M : Mm) (ls : List Lk) : (M.run ls).evs.length ≤ M.evs.length + ls.length := by
  induction ls generalizing M with
  | nil => simp [run]
  | cons l ls ih =>
    have := ih (M.step l)
    have h2 := (step_evs_le M l).2
    simp only [run, List.foldl_cons, List.length_cons] at this ⊢
    omega
theorem look_fault (M : Mm) (r a : Int) (b : Bool) : (M.look r a b).fault = (M.fault || !M.has r a) := by
  unfold look
  cases h : M.has r a <;> simp
theorem step_fault (M : Mm) (l : Lk) : (M.step l).fault = (M.fault || !M.has l.1 l.2.1) := by
  unfold step
  split
  · unfold write
    split
    · exact look_fault _ _ _ _
    · exact look_fault _ _ _ _
  · exact look_fault _ _ _ _
theorem run_fault (M : Mm) (ls : List Lk) : (M.run ls).fault = (M.fault || decide ((M.run ls).evs.length < M.evs.length + ls.length)) := by
  induction ls generalizing M with
  | nil => simp [run]
  | cons l ls ih =>
    have h1 : M.run (l :: ls) = (M.step l).run ls := rfl
    have h2 := run_evs_le (M.step l) ls
    rw [h1, ih, step_fault, step_evs]
    rw [step_evs] at h2
    cases hh : M.has l.1 l.2.1 with
    | true =>
      rw [hh] at h2
      simp only [if_true, List.length_append, List.length_cons, List.length_nil] at h2 ⊢
      have e : (M.evs.length + (0 + 1) + ls.length) = (M.evs.length + (ls.length + 1)) := by omega
      rw [e]
      simp
    | false =>
      rw [hh] at h2
      simp only [Bool.false_eq_true, if_false, List.length_cons] at h2 ⊢
      rw [decide_eq_true (show ((M.step l).run ls).evs.length < M.evs.length + (ls.length + 1) by omega)]
      simp
theorem put_size (M : Mm) (r a : Int) (c : List Int) (x : Int) : (M.put r a c).size x = M.size x := by
  unfold size put
  split
  · simp only [List.getElem?_modify]
    cases h : M.regs[x.toNat]? with
    | none => simp
    | some g => by_cases e : r.toNat = x.toNat <;> simp [e]
  · rfl
theorem look_size (M : Mm) (r a : Int) (b : Bool) (x : Int) : (M.look r a b).size x = M.size x := by
  unfold size
  rw [look_regs]
theorem write_size (M : Mm) (r a : Int) (c : List Int) (x : Int) : (M.write r a c).size x = M.size x := by
  unfold write
  split
  · rw [put_size, look_size]
  · rw [look_size]
theorem step_size (M : Mm) (l : Lk) (x : Int) : (M.step l).size x = M.size x := by
  unfold step
  split
  · exact write_size _ _ _ _ _
  · exact look_size _ _ _ _ _
theorem run_size (M : Mm) (ls : List Lk) (x : Int) : (M.run ls).size x = M.size x := by
  induction ls generalizing M with
  | nil => rfl
  | cons l ls ih => exact (ih (M.step l)).trans (step_size M l x)
end Mm
end Go.Sg
