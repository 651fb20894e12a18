/-
  The walk of shellgamelaw7.alike.
-/
import Derived.Test.YtngpaibppdehdaaOneR
import Derived.Test.YtngpaibppdehdaaSameE7
import Derived.Test.YtngpaibppdehdaaShown3
import Derived.Test.YtngpaibppdehdaaScanL
import Derived.Deep.DeepCutAuto
namespace Go.Proofs.Ytngpaibppdehdaa
open Go Go.RowKit Go.Sg
/-- the cells of a memory that tell its looks and its fault -/
theorem memrep_cells7 {w : World} {T p : Nat} {M : Mm} {F : Nat → Prop} (h : MemRep w T p M F) : ∃ a cap, w.cell? ⟨p, 1, none⟩ = some (.slice a M.evs.length cap) ∧ w.cell? ⟨p, 2, none⟩ = some (.bool M.fault) ∧ SlE w (.slice a M.evs.length cap) M.evs := by
  obtain ⟨rb, cap, cur, g, ev, h⟩ := h
  obtain ⟨ea, ec, rfl⟩ := owns_slice h.evs
  exact ⟨ea, ec, by rw [h.box.cell]; rfl, by rw [h.box.cell]; rfl, SlE.of_owns h.evs⟩
/-- the cells that tell how many its regions and their cells are -/
theorem memrep_rows {w : World} {T p : Nat} {M : Mm} {F : Nat → Prop} (h : MemRep w T p M F) : ∃ rb cap, w.cell? ⟨p, 0, none⟩ = some (.slice (some ⟨rb, 0, none⟩) M.regs.length cap) ∧ M.regs.length ≤ cap ∧ cap ≤ maxLen ∧ ∀ i (hi : i < M.regs.length), ∃ g, w.cell? ⟨rb, i, none⟩ = some (.slice (some ⟨g, 0, none⟩) M.regs[i].length M.regs[i].length) := by
  obtain ⟨rb, cap, cur, g, ev, h⟩ := h
  exact ⟨rb, cap, by rw [h.box.cell]; rfl, h.lecap, h.capm, fun i hi => ⟨g i, by rw [h.row.cell]; exact h.slot i hi⟩⟩

variable {w0 w : World} {p q : Nat} {M : Mm} {D : Nat → Prop} {X : World → Prop}
set_option maxHeartbeats 4000000 in
set_option maxRecDepth 100000 in
theorem alike7_any (hK : Keeps D X) (h : PairX 108 60 w0 w p q M M D X) (hN : M.evs.length ≤ 1000000) :
    Calls Try.prog 70 #[.pointer (some ⟨p, 0, none⟩), .pointer (some ⟨q, 0, none⟩)] w fun e w' => e = .returned (.bool true) ∧ Below w0.heap.size w0 w' := by
  have HK := Lib.hid hK
  have HP := Lib.hid h
  have hok := h.ok.1
  obtain ⟨G, ⟨F, m1, _, _, _, _, _, m2⟩, _⟩ := h
  obtain ⟨ea, ec, e1, e2, e3⟩ := memrep_cells7 m2
  obtain ⟨n, hn⟩ : ∃ n, M.evs.length = n := ⟨_, rfl⟩
  rw [hn] at e1 e3
  have KT := Lib.hid (fun w' (h : Below w.heap.size w w') => cls_RetE (memTrace_any w' (m1.below h) (by omega)) h)
  have KF := Lib.hid (fun w' (h : Below w.heap.size w w') => memFault_any w' (m1.below h))
  have HSE : Hid (∀ w', Below w.heap.size w w' → SlE w' (.slice ea n ec) M.evs) := Lib.hid fun w' hb => e3.below hb
  have HQ : Hid (∀ w', Below w.heap.size w w' → w'.cell? ⟨q, 1, none⟩ = some (.slice ea n ec) ∧ w'.cell? ⟨q, 2, none⟩ = some (.bool M.fault)) := Lib.hid fun w' hb => by
    have hlt : q < w.heap.size := by obtain ⟨_, _, _, _, _, g⟩ := m2; exact g.box.lt
    exact ⟨(hb.cell (p := ⟨q, 1, none⟩) hlt).trans e1, (hb.cell (p := ⟨q, 2, none⟩) hlt).trans e2⟩
  have HOK := Lib.hid hok
  have d1 : (M.fault != M.fault) = false := by simp
  clear m1 m2 e1 e2 e3 hok hK
  have hb0 : Below w.heap.size w w := Below.refl _ _
  have hb1 : Below w.heap.size w w.drew := hb0.drew
  have c1 := (HQ.out _ hb0).1
  have c2 := (HQ.out _ hb0).2
  go_enter Try.func70, Try.ntmps70
  go_wp2_with fail
  go_region_held3 (fun w' => Below w.heap.size w w' ∧ w'.cell? ⟨q, 1, none⟩ = some (.slice ea n ec) ∧ w'.cell? ⟨q, 2, none⟩ = some (.bool M.fault)) (first | exact ⟨by assumption, HQ.out _ (by assumption)⟩) (first
    | (go_at_call 37; (with_reducible refine (KT.out _ (by assumption)).mono ?_); rintro e wT ⟨v1, rfl, hs1, hbT, hbT2, _⟩)
    | (go_at_call 38; (with_reducible refine (KF.out _ (by assumption)).mono ?_); rintro e wF ⟨rfl, rfl⟩)
    | (go_at_call 56; with_reducible refine (cls_one (w0 := w) (sameE7_any _ _ M.evs M.evs _ hs1 (HSE.out _ (by assumption))) (by assumption)).mono ?_; rintro e wS ⟨rfl, hbS⟩; try rw [decide_eq_true rfl]))
  clear c1 c2 hb0 hb1 KT KF HSE HQ
  go_upto_region 3 with fail
  refine at_world (fun w' => Below w.heap.size w w') (by assumption) ?_
  intro w2 hb2
  have HP2 : Hid (∃ es : List Ev, es.length ≤ 0 ∧ PairX 108 60 w0 w2 p q (M.noted es) (M.noted es) D X) := Lib.hid ⟨[], by simp, by rw [Mm.noted_nil]; exact HP.out.below HK.out hb2⟩
  clear hb2
  have hrl := HOK.out.2.1
  go_wp2_with fail
  go_loopw [5] (fun i wr => ∃ r : Nat, r ≤ M.regs.length ∧ i = .int .i64 r ∧ Hid (∃ es : List Ev, es.length ≤ r * 4096 ∧ PairX 108 60 w0 wr p q (M.noted es) (M.noted es) D X)) (fun i _ => M.regs.length - (intOf i).toNat)
  case atStart => exact ⟨0, by omega, rfl, by simpa using HP2⟩
  case round =>
    obtain ⟨r, hr, rfl, HX⟩ := hrel
    obtain ⟨es, hes, hp⟩ := HX.out
    have HPr := Lib.hid hp
    obtain ⟨G, ⟨F, _, _, _, _, _, _, m2⟩, _⟩ := hp
    obtain ⟨rb, cap, c0, c0a, c0b, _⟩ := memrep_rows m2
    clear m2
    rw [show (M.noted es).regs = M.regs from rfl] at c0 c0a
    by_cases hlt : r < M.regs.length
    · go_wp2_with fail
      clear c0 c0a c0b
      have hl4 : M.regs[r].length ≤ 4096 := (HOK.out.1 _ (List.getElem_mem hlt)).1
      go_loopw [6] (fun i wr => ∃ c : Nat, c ≤ M.regs[r].length ∧ i = .int .i64 c ∧ Hid (∃ es : List Ev, es.length ≤ r * 4096 + c ∧ PairX 108 60 w0 wr p q (M.noted es) (M.noted es) D X)) (fun i _ => M.regs[r].length - (intOf i).toNat)
      case atStart => exact ⟨0, by omega, rfl, Lib.hid ⟨es, by omega, HPr.out⟩⟩
      case round =>
        clear HPr hes
        obtain ⟨c, hc, rfl, HXc⟩ := hrel
        obtain ⟨es, hes, hp⟩ := HXc.out
        have HPc := Lib.hid hp
        obtain ⟨G, ⟨F, _, _, _, _, _, _, m2⟩, _⟩ := hp
        obtain ⟨rb, cap, c0, c0a, c0b, hrow⟩ := memrep_rows m2
        obtain ⟨g, c2⟩ := hrow r hlt
        clear m2 hrow
        rw [show (M.noted es).regs = M.regs from rfl] at c0 c0a
        simp only [show (M.noted es).regs = M.regs from rfl] at c2
        by_cases hltc : c < M.regs[r].length
        · have hhas : M.has (r : Int) (c : Int) = true := by
            apply Mm.has_lt
            simp only [Mm.size, if_pos (show (0 : Int) ≤ (r : Int) by omega), Int.toNat_natCast, List.getElem?_eq_getElem hlt]
            exact hltc
          have hlo : (M.noted es).look (r : Int) (c : Int) false = M.noted (es ++ [((r : Int), (c : Int), false)]) := by
            rw [Mm.look_noted (by rw [Mm.noted_has]; exact hhas), Mm.noted_noted]
          have hev : (M.noted es).evs.length ≤ 1099511627776 := by rw [Mm.noted_evs, List.length_append]; omega
          have K1 := Lib.hid (HPc.out.call (R := fun e => e = .returned (.agg (cw ((M.noted es).read (r : Int) (c : Int))))) HK.out fun D' X' hK' h' => one_read hK' (r : Int) (c : Int) h' hev)
          have K2 := Lib.hid (fun w' (h' : PairX 108 60 w0 w' p q ((M.noted es).look (r : Int) (c : Int) false) (M.noted es) D X) => h'.call2 (R := fun e => e = .returned (.agg (cw ((M.noted es).read (r : Int) (c : Int))))) HK.out fun D' X' hK' h' => one_rread hK' (r : Int) (c : Int) h' hev)
          rw [hlo, Mm.noted_read] at K1 K2
          have hcl := (Mm.read_ok HOK.out (r : Int) (c : Int)).1
          have QR : ∀ w, (Op.equalIn 10000 44 (.agg (cw (M.read (r : Int) (c : Int)))) (.agg (cw (M.read (r : Int) (c : Int))))).run Try.prog w = .ok true w := fun w => by
            have := run_eqcell _ _ hcl hcl w
            rw [decide_eq_true rfl] at this
            exact this
          have hes2 : (es ++ [((r : Int), (c : Int), false)]).length ≤ r * 4096 + (c + 1) := by simp; omega
          clear hhas hlo hev hcl
          generalize cw (M.read (r : Int) (c : Int)) = rc at *
          generalize es ++ [((r : Int), (c : Int), false)] = es2 at *
          go_wp2_with fail
          refine K1.out.mono ?_
          rintro e wA ⟨rfl, hA⟩
          clear c0 c2
          go_wp2_with fail
          refine (K2.out _ hA).mono ?_
          rintro e wB ⟨rfl, hB⟩
          have HB := Lib.hid hB
          clear hA hB K1 K2
          go_wp2
          go_roundw
          case rel => exact ⟨c + 1, by omega, by go_num, Lib.hid ⟨es2, hes2, HB.out⟩⟩
          case measure => simp [intOf]; omega
        · obtain rfl : c = M.regs[r].length := by omega
          have HE : Hid (∃ es : List Ev, es.length ≤ (r + 1) * 4096 ∧ PairX 108 60 w0 wr p q (M.noted es) (M.noted es) D X) := Lib.hid ⟨es, by omega, HPc.out⟩
          clear HPc hes
          go_wp2
          go_roundw
          case rel => exact ⟨r + 1, by omega, by go_num, HE⟩
          case measure => simp [intOf]; omega
    · obtain rfl : r = M.regs.length := by omega
      go_wp2
      go_ret
      exact ⟨rfl, HPr.out.old⟩
end Go.Proofs.Ytngpaibppdehdaa
