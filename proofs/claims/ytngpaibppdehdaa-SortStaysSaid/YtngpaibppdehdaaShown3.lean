/-
  The head of chapter 3's laws.
-/
import Derived.Test.YtngpaibppdehdaaMemNewW
import Derived.Test.YtngpaibppdehdaaSameE3
import Derived.Test.YtngpaibppdehdaaCellFn3
import Derived.Test.YtngpaibppdehdaaCellEq
import Derived.Deep.RegionHeld3
namespace Go.Sg
open Go Go.RowKit
theorem below_alloc' {a w : World} (h : Below a.heap.size a w) (o : Obj) : Below a.heap.size a (w.alloc o) := h.alloc h.size o
theorem below_drew' {a w : World} (h : Below a.heap.size a w) : Below a.heap.size a w.drew := h.drew
theorem SlE_lit (w : World) (es : List Ev) (t : TypeId) (hm : es.length ≤ maxLen) : SlE (w.alloc (.cells (evsV es).toArray t)) (.slice (some ⟨w.heap.size, 0, none⟩) es.length es.length) es :=
  ⟨_, _, rfl, Nat.le_refl _, hm, fun _ => ⟨w.heap.size, 0, rfl, by simp, fun j u hu => by
    rw [Nat.zero_add, cell_of_row _ _ _ _ _ (0, 0) (heap_alloc_new w _), List.getElem?_toArray]
    exact hu⟩⟩
theorem cls_one {P : Program} {f : FuncId} {args : Array Value} {v : Value} {w0 w : World} (h : Calls P f args w fun e w' => e = .returned v ∧ Below w.heap.size w w') (hw : Below w0.heap.size w0 w) :
    Calls P f args w fun e w' => e = .returned v ∧ Below w0.heap.size w0 w' := h.mono fun _ _ ⟨he, hb⟩ => ⟨he, hw.trans (hb.mono hw.size)⟩
theorem cls_RetE {P : Program} {f : FuncId} {args : Array Value} {es : List Ev} {w0 w : World} (h : Calls P f args w (RetE es w)) (hw : Below w0.heap.size w0 w) :
    Calls P f args w fun e w' => ∃ v, e = .returned v ∧ SlE w' v es ∧ Below w.heap.size w w' ∧ Below w0.heap.size w0 w' ∧ ∀ k, v.ownBlock = some k → w.heap.size ≤ k :=
  h.mono fun _ _ ⟨v, he, h1, hb, h2⟩ => ⟨v, he, h1, hb, hw.trans (hb.mono hw.size), h2⟩
theorem cellL_words (n : Int) : ∀ x ∈ cellL n, Word x := fun x hx => cellL_word n x hx
end Go.Sg
namespace Go.Proofs.Ytngpaibppdehdaa
open Go.RowKit Go.Sg

theorem memrep_below {w0 w w' : World} {T p : Nat} {M : Mm} {F : Nat → Prop} (h : MemPost T p M F w w') (hb : Below w0.heap.size w0 w) (hF : ∀ k, F k → w0.heap.size ≤ k) : Below w0.heap.size w0 w' ∧ ∀ k, Grow F w w' k → w0.heap.size ≤ k :=
  ⟨hb.trans (h.2.below hF hb.size), Grow.ge hF hb.size⟩

set_option maxRecDepth 100000 in
theorem shown3 (w : World) : Calls Try.prog 31 #[] w fun e w' => e = .returned (.bool true) ∧ Below w.heap.size w w' := by
  go_enter Try.func31, Try.ntmps31
  go_wp2_with fail
  refine (memNew_any _ [3] _ (Sl1.of_owns (owns_lit (base := 0) #[.int .i64 3] (by omega) (by simp [maxLen])))).mono ?_
  rintro e w1 ⟨hb1, hr⟩
  rcases hr with ⟨h0, _⟩ | ⟨_, p, F, rfl, hm, hF⟩
  · exact absurd h0 (by decide)
  have HB1 : Hid (Below w.heap.size w w1) := Lib.hid (((Below.refl _ _).alloc (Nat.le_refl _) _).trans (hb1.mono (by simp)))
  have HF : Hid (∀ k, F k → w.heap.size ≤ k) := Lib.hid fun k hk => by have := hF k hk; simp at this; omega
  have HM := Lib.hid hm
  clear hb1 hm hF
  go_wp2_with fail
  refine (cell3_any 5 _).mono ?_
  rintro e w2 ⟨rfl, hb2⟩
  have HM2 := Lib.hid (HM.out.below hb2)
  have HB2 := Lib.hid (HB1.out.trans (hb2.mono HB1.out.size))
  clear hb2
  go_wp2_with fail
  refine (memWrite_any 0 1 (cellL 5) (cellL_len 5) (cellL_words 5) _ HM2.out (by simp [Mm.fresh])).mono ?_
  rintro e w3 ⟨rfl, hp3⟩
  obtain ⟨hb3, hF3⟩ := memrep_below hp3 HB2.out HF.out
  have HM3 := Lib.hid hp3.1
  have HB3 := Lib.hid hb3
  have HF3 := Lib.hid hF3
  clear hp3 hb3 hF3
  go_wp2_with fail
  refine (memRead_any 0 1 _ HM3.out (by decide +kernel)).mono ?_
  rintro e w4 ⟨rfl, hp4⟩
  obtain ⟨hb4, hF4⟩ := memrep_below hp4 HB3.out HF3.out
  have HM4 := Lib.hid hp4.1
  have HB4 := Lib.hid hb4
  have HF4 := Lib.hid hF4
  have e1 : ((Mm.fresh [3]).write 0 1 (cellL 5)).read 0 1 = cellL 5 := by decide +kernel
  rw [e1]
  clear hp4 hb4 hF4 e1
  have B1 := Lib.hid (Blk.new w4 z12 44)
  have HIc : Hid ((Try.prog.info? 44).map (·.size) = some (cw (cellL 5)).size) := Lib.hid (by rw [cw_size, cellL_len]; kernel_rfl)
  go_wp2_with (first
    | (refine wpList_store_row rfl 44 (.tmp 3) (.tmp 20) rfl w4.heap.size (cw (cellL 5)) rfl rfl 44 _ B1.out HIc.out (by rw [cw_size, cellL_len]; rfl) (cw_one _) ?_)
    | fail)
  obtain ⟨g, hg⟩ : ∃ g, w4.heap.size = g := ⟨_, rfl⟩
  have hbk := B1.out.setRow (cw (cellL 5))
  have hbe : Below w4.heap.size w4 ((w4.alloc (.cells z12 44)).setRow w4.heap.size (cw (cellL 5))) := below_setRow ((Below.refl _ _).alloc (Nat.le_refl _) _) (Nat.le_refl _) _
  have HM5 := Lib.hid (HM4.out.below hbe)
  have HB5 := Lib.hid (HB4.out.trans (hbe.mono HB4.out.size))
  have HF5 : Hid (∀ k, Grow (Grow F w2 w3) w3 w4 k → k < g) := Lib.hid fun k hk => by rw [← hg]; exact HM4.out.lt k hk
  rw [hg] at hbk ⊢
  rw [hg] at HM5 HB5
  have HBK := Lib.hid hbk
  clear hbk hbe B1
  change Calls _ _ _ ((w4.alloc (.cells z12 44)).setRow g (cw (cellL 5))) _
  generalize (w4.alloc (.cells z12 44)).setRow g (cw (cellL 5)) = w5 at *
  generalize Grow (Grow F w2 w3) w3 w4 = F4 at *
  have e2 : (((Mm.fresh [3]).write 0 1 (cellL 5)).look 0 1 false).evs = [(0, 1, true), (0, 1, false)] := by decide +kernel
  have e3 : (((Mm.fresh [3]).write 0 1 (cellL 5)).look 0 1 false).fault = false := by decide +kernel
  have e4 : (((Mm.fresh [3]).write 0 1 (cellL 5)).look 0 1 false).has 0 9 = false := by decide +kernel
  have K1 := Lib.hid (memFault_any w5 HM5.out)
  rw [e3] at K1
  refine K1.out.mono ?_
  rintro e w' ⟨rfl, rfl⟩
  generalize ((Mm.fresh [3]).write 0 1 (cellL 5)).look 0 1 false = M5 at *
  go_wp2_with fail
  refine (memRead_any 0 9 _ HM5.out (by rw [e2]; simp)).mono ?_
  rintro e w6 ⟨rfl, hp6⟩
  obtain ⟨hb6, hF6⟩ := memrep_below hp6 HB5.out HF4.out
  have hm6 := hp6.1
  rw [show M5.look 0 9 false = { M5 with fault := true } by simp [Mm.look, e4]] at hm6
  have hbk6 : Blk w6 g (cw (cellL 5)) 44 := Blk_keep HBK.out (hp6.2.block g HBK.out.lt (fun h => by have := HF5.out g h; omega))
  have HM6 := Lib.hid hm6
  have HB6 := Lib.hid hb6
  have HBK6 := Lib.hid hbk6
  have E2 := Lib.hid e2
  clear hp6 hb6 hF6 hm6 hbk6 HBK HM5 HB5 HM4 HB4 HF4 HM3 HB3 HF3 HM2 HB2 HM HB1 HF K1 e2 e3 e4
  generalize M5.read 0 9 = rc at *
  generalize Grow F4 w' w6 = F6 at *
  have HR : Hid (∀ w', Below w6.heap.size w6 w' → w'.rangeAt g 0 (wv (cellL 5))) := Lib.hid fun w' h => (HBK6.out.below h HBK6.out.lt).range
  have QC : ∀ w, (Op.equalIn 10000 44 (.agg (wv (cellL 5)).toArray) (.agg (wv (cellL 5)).toArray)).run Try.prog w = .ok true w := fun w => by
    have := run_eqcell _ _ (cellL_len 5) (cellL_len 5) w
    rw [cw_eq] at this
    rw [this]; simp
  have KC := Lib.hid (fun w' (h : Below w6.heap.size w6 w') => cls_call (P := Try.prog) (cell3_any 5) (Nat.le_refl _) h)
  have KF := Lib.hid (fun w' (h : Below w6.heap.size w6 w') => memFault_any w' (HM6.out.below h))
  have KT := Lib.hid (fun w' (h : Below w6.heap.size w6 w') => cls_RetE (memTrace_any w' (HM6.out.below h) (by rw [E2.out]; simp)) h)
  simp only [E2.out] at KT
  have HI5 : (Try.prog.info? 44).map (·.size) = some (wv (cellL 5)).length := by rw [wv_len, cellL_len]; kernel_rfl
  have hb0 : Below w6.heap.size w6 w6 := Below.refl _ _
  have hb1 : Below w6.heap.size w6 w6.drew := hb0.drew
  have hr1 := HR.out _ hb1
  have U44 := Try.underlying44
  rw [cw_eq] at KC HIc HBK6
  generalize wv (cellL 5) = ls at *
  go_wp2_with fail
  go_region_held3 (fun w' => Below w6.heap.size w6 w' ∧ w'.rangeAt g 0 ls) (first | exact ⟨by assumption, HR.out _ (by assumption)⟩ | exact ⟨below_alloc' (by assumption) _, HR.out _ (below_alloc' (by assumption) _)⟩ | exact ⟨below_drew' (by assumption), HR.out _ (below_drew' (by assumption))⟩) (first
    | (go_at_call 34; refine (KC.out _ (by assumption)).mono ?_; rintro e wA ⟨rfl, hbA⟩)
    | (go_at_call 38; refine (KF.out _ (by assumption)).mono ?_; rintro e wB ⟨rfl, rfl⟩)
    | (go_at_call 37; refine (KT.out _ (by first | assumption | exact below_alloc' (by assumption) _)).mono ?_; rintro e wT ⟨v, rfl, hsT, hbT, hbT2, _⟩)
    | (go_at_call 36; refine (cls_one (w0 := w6) (sameE3_any _ _ [(0, 1, true), (0, 1, false)] [(0, 1, true), (0, 1, false)] _ (by first | exact hsT | exact hsT.below ((Below.refl _ _).alloc (Nat.le_refl _) _)) (by first | exact SlE_lit _ [(0, 1, true), (0, 1, false)] _ (by simp [maxLen]) | exact (SlE_lit _ [(0, 1, true), (0, 1, false)] _ (by simp [maxLen])).below hbT)) (by first | assumption | exact below_alloc' (by assumption) _)).mono ?_; rintro e wS ⟨rfl, hbS⟩))
  all_goals
    go_wp2
    go_ret
    exact ⟨by simp, HB6.out.trans (by first | exact hbS.mono HB6.out.size | exact Below.mono (by assumption) HB6.out.size)⟩
end Go.Proofs.Ytngpaibppdehdaa
