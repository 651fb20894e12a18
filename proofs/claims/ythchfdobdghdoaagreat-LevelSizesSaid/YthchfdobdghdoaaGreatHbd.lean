/-
  Joined texts: DealR.
-/
import Derived.Test.YthchfdobdghdoaaGreatHay
import Derived.Test.YthchfdobdghdoaaGreatHaw
import Derived.Deep.OwnRows
import Derived.Laws.EntriesVeiled
set_option linter.unusedVariables false
set_option linter.unusedSimpArgs false
set_option linter.unusedSectionVars false
set_option linter.unnecessarySimpa false
section

/-
  The walk of deal.Order.
-/
namespace Go.Sg
open Go Go.RowKit
theorem flat_intV (l : List Int) : flatV intV l = l.map (Value.int .i64) := by
  induction l with
  | nil => rfl
  | cons x l ih => rw [flatV_cons, ih]; rfl
theorem blk_rowIs {w : World} {G n : Nat} {T : TypeId} {f : Nat → Value} (h : w.rowIs G T n f) : Blk w G ((List.range n).map f).toArray T := by
  obtain ⟨c, h1, h2, h3⟩ := h
  have : c = ((List.range n).map f).toArray := by
    apply Array.ext
    · simp [h2]
    · intro i a b
      have h4 := h3 i (by omega)
      rw [Array.getElem?_eq_getElem a] at h4
      simp only [Option.some.injEq] at h4
      rw [h4]
      simp
  unfold Blk
  rw [← this]
  exact h1
theorem below_setD {B : Nat} {a w : World} (h : Below B a w) (g o : Nat) (u : Value) (hg : B ≤ g) : Below B a (w.setCell ⟨g, o, none⟩ u) := below_setCells hg [u] o h
end Go.Sg
namespace Go.Proofs.YthchfdobdghdoaaGreat
open Go Go.RowKit Go.Sg
theorem info_intD : (Tryz.prog.info? 3).map (fun i => (i.zero, i.size, i.bytes)) = some (some (.int .i64 0), 1, 8) := by kernel_rfl
set_option maxHeartbeats 4000000 in
set_option maxRecDepth 100000 in
theorem order_any (l : List Di) (hl : l.length ≤ 1099511627776) (v : Value) (w : World) (hv : SlK diV w v l) :
    Calls Tryz.prog 106 #[v] w fun e w' => ∃ G, e = .returned (.slice (some ⟨G, 0, none⟩) l.length l.length) ∧ w.heap.size ≤ G ∧ Blk w' G ((ordD l).map (Value.int .i64)).toArray 3 ∧ Below w.heap.size w w' := by
  obtain ⟨a, cap, rfl, h1, h2, h3⟩ := hv
  obtain ⟨i0, hi0, hz0, hz1, hz2⟩ := info_parts info_intD
  have HI := Lib.hid hi0
  have HZ := Lib.hid hz0
  have HS := Lib.hid hz1
  have HY := Lib.hid hz2
  have H3 := Lib.hid h3
  clear hi0 hz0 hz1 hz2 h3
  unfold maxLen at h2
  obtain ⟨n, hn⟩ : ∃ n, l.length = n := ⟨_, rfl⟩
  have HN := Lib.hid hn
  rw [hn] at hl h1 ⊢
  clear hn
  obtain ⟨w2, hw2⟩ : ∃ w2, (w.alloc (.cells #[.slice a n cap] 153)).alloc (.cells #[Value.nilFunc] 180) = w2 := ⟨_, rfl⟩
  have hb2 : Blk w2 (w.heap.size + 1) #[Value.nilFunc] 180 := by
    have := Blk.new (w.alloc (.cells #[.slice a n cap] 153)) #[Value.nilFunc] 180
    rw [hw2] at this
    simpa using this
  have HB1 : Hid (Blk w2 w.heap.size #[.slice a n cap] 153) := Lib.hid (by rw [← hw2]; exact (Blk.new w _ _).alloc _)
  have HW2 : Hid (Below w.heap.size w w2) := Lib.hid (by rw [← hw2]; exact ((Below.refl _ _).alloc (Nat.le_refl _) _).alloc (by simp) _)
  have HS2 : Hid (w2.heap.size = w.heap.size + 2) := Lib.hid (by rw [← hw2]; simp)
  have c0 : w2.cell? ⟨w.heap.size + 1, 0, none⟩ = some Value.nilFunc := hb2.cell 0
  have f0 := hb2.free 0
  have HB2 := Lib.hid hb2
  clear hb2
  go_enter Tryz.func106, Tryz.ntmps106
  go_upto_region 2 with fail
  obtain ⟨pl, hpl⟩ : ∃ pl, w.heap.size = pl := ⟨_, rfl⟩
  refine at_world (fun w' => w'.cell? ⟨w.heap.size, 0, none⟩ = some (.slice a n cap) ∧ w'.cell? ⟨w.heap.size + 1, 0, none⟩ = some (.func (.func 118) #[] #[]) ∧ Below w.heap.size w w' ∧ w.heap.size + 2 ≤ w'.heap.size)
    ⟨(HB1.out.other ⟨w.heap.size + 1, 0, none⟩ _ (by simp)).cell 0, (HB2.out.set 0 _).cell 0, below_setD HW2.out _ _ _ (by omega), by
      have := (below_setD (B := w.heap.size) (Below.refl w.heap.size w2) (w.heap.size + 1) 0 (.func (.func 118) #[] #[]) (by omega)).size
      have h2 := HS2.out
      omega⟩ ?_
  rintro w3 ⟨c1, c2, hb3, hs3⟩
  rw [hpl] at c1 c2 hs3 ⊢
  have HW3 := Lib.hid hb3
  have HPL : Hid (pl = w.heap.size ∧ pl + 2 ≤ w3.heap.size) := Lib.hid ⟨hpl.symm, hs3⟩
  have HC1 := Lib.hid c1
  have HC2 := Lib.hid c2
  clear hw2 c0 f0 HB1 HB2 HW2 HS2 hb3 hs3 hpl
  go_wp2_with (first
    | (at_make; go_loud (refine wpList_make_row _ rfl (.tmp 7) (.tmp 7) 36 rfl 3 i0 (.int .i64 0) Tryz.underlying36 HI.out HZ.out HS.out rfl .i64 .i64 n rfl rfl (by rw [HY.out]; omega) (by omega) ?_))
    | fail)
  obtain ⟨G, hG⟩ : ∃ G, w3.heap.size = G := ⟨_, rfl⟩
  have hrow := World.rowIs_made w3 (.int .i64 0) n 3
  have hb4 : Below w3.heap.size w3 (w3.alloc (.cells (madeCells #[.int .i64 0] n) 3)) := (Below.refl _ _).alloc (Nat.le_refl _) _
  rw [hG] at hrow ⊢
  have HG := Lib.hid hG
  have HR := Lib.hid hrow
  have HB4 := Lib.hid hb4
  clear hrow hb4 hG c1 c2
  generalize w3.alloc (.cells (madeCells #[.int .i64 0] n) 3) = w4 at *
  go_wp2_with fail
  go_loopw [5, 11] (fun _ i wr => ∃ k : Nat, k ≤ n ∧ i = .int .i64 k ∧ Hid (wr.rowIs G 3 n (fun j => .int .i64 (if j < k then (j : Int) else 0))) ∧ Hid (Below w3.heap.size w3 wr)) (fun _ i _ => n - (intOf i).toNat)
  case atStart => exact ⟨0, by omega, rfl, Lib.hid (HR.out.congr (fun i _ => by simp)), HB4⟩
  case round =>
    obtain ⟨k, hk, rfl, HRK, HBK⟩ := hrel
    by_cases hlt : k < n
    · have hd : decide ((k : Int) < (n : Int)) = true := decide_eq_true (by omega)
      have hd' : decide (k < n) = true := decide_eq_true hlt
      have k0 : (0 : Int) ≤ (k : Int) := by omega
      have k1 : (k : Int) < (n : Int) := by omega
      have c0 := HRK.out.cell hlt
      have f0 := HRK.out.frozen k
      rw [if_neg (Nat.lt_irrefl k)] at c0
      have HR4 : Hid ((wr.setCell ⟨G, k, none⟩ (.int .i64 (k : Int))).rowIs G 3 n (fun j => .int .i64 (if j < k + 1 then (j : Int) else 0))) := Lib.hid ((HRK.out.set k (.int .i64 (k : Int))).congr (fun j _ => by
        by_cases hj : j = k
        · subst hj; simp
        · by_cases hj2 : j < k
          · simp [hj, hj2, show j < k + 1 by omega]
          · simp [hj, hj2, show ¬ j < k + 1 by omega]))
      have HB5 : Hid (Below w3.heap.size w3 (wr.setCell ⟨G, k, none⟩ (.int .i64 (k : Int)))) := Lib.hid (below_setD HBK.out _ _ _ (Nat.le_of_eq HG.out))
      go_wp2
      go_roundw
      case rel => exact ⟨k + 1, by omega, by go_num, HR4, HB5⟩
      case measure => simp [intOf]; omega
    · obtain rfl : k = n := by omega
      have hd : decide ((k : Int) < (k : Int)) = false := by simp
      have hblk : Blk wr G (flatV intV (idx k) ++ []).toArray 3 := by
        have h := blk_rowIs (HRK.out.congr (g := fun j => .int .i64 (j : Int)) (fun j hj => by rw [if_pos hj]))
        have e : flatV intV (idx k) ++ [] = (List.range k).map (fun j : Nat => Value.int .i64 (j : Int)) := by
          rw [flat_intV, List.append_nil, idx, List.map_map]
          rfl
        rw [e]
        exact h
      have hp1 : pl < wr.heap.size := by have := HPL.out.2; have := HBK.out.size; omega
      have hp2 : pl + 1 < wr.heap.size := by have := HPL.out.2; have := HBK.out.size; omega
      have hg1 : pl ≠ G := by have := HPL.out.2; have := HG.out; omega
      have hg2 : pl + 1 ≠ G := by have := HPL.out.2; have := HG.out; omega
      have d1 := (HBK.out.cell (p := ⟨pl, 0, none⟩) (show pl < _ by have := HPL.out.2; omega)).trans HC1.out
      have d2 := (HBK.out.cell (p := ⟨pl + 1, 0, none⟩) (show pl + 1 < _ by have := HPL.out.2; omega)).trans HC2.out
      have hcmp : CmpOk Tryz.prog 120 #[.pointer (some ⟨pl + 1, 0, none⟩), .pointer (some ⟨pl, 0, none⟩)] (fun i => 0 ≤ i ∧ i < (l.length : Int)) (ltO l) wr G := by
        by_cases hne : l = []
        · intro x y w' hx hy _
          rw [hne] at hx
          simp at hx
          omega
        · obtain ⟨b, off, rfl, hlt2, hr⟩ := H3.out hne
          have hbw : Below w.heap.size w wr := HW3.out.trans (HBK.out.mono HW3.out.size)
          have hbG : b ≠ G := by have := HG.out; have := HW3.out.size; omega
          rw [← HN.out] at d1
          exact cmpO_ok (by rw [HN.out]; exact hl) d2 d1 (fun j u hu => (hbw.cell (p := ⟨b, off + j, none⟩) hlt2).trans (hr j u hu)) hp2 hp1 (Nat.lt_of_lt_of_le hlt2 hbw.size) hg2 hg1 hbG
      have KS := Lib.hid (sortStable_any (leO_trans l) (idx k) k k (idx_len k) (Nat.le_refl _) hl (fun x hx => by rw [idx_mem] at hx; rw [HN.out]; exact hx) (fit_idx l k) hcmp wr (tl := []) ⟨hblk, MFrame.refl _ _⟩)
      have HBF : Hid (Below w.heap.size w wr) := Lib.hid (HW3.out.trans (HBK.out.mono HW3.out.size))
      have HGw : Hid (w.heap.size ≤ G) := Lib.hid (by have := HG.out; have := HW3.out.size; omega)
      clear hblk hcmp hp1 hp2 hg1 hg2 d1 d2 HRK HR HB4 HBK HC1 HC2
      go_wp2_with fail
      refine KS.out.mono ?_
      rintro e w5 ⟨rfl, T, hT1, hT2, hT3⟩
      have HTE : Hid (T = ordD l) := Lib.hid (ordD_of (by rw [HN.out]; exact hT1) hT2)
      have HB5 : Hid (Below w.heap.size w w5) := Lib.hid (HBF.out.trans (hT3.fr.below (fun i hi => by rw [hi]; exact HGw.out) HBF.out.size))
      have HTB := Lib.hid hT3.blk
      have hTl : T.length = k := by rw [hT1.length_eq, idx_len]
      have HTL := Lib.hid hTl
      clear hT1 hT2 hT3 hTl KS
      go_wp2
      go_ret
      refine ⟨G, rfl, HGw.out, ?_, HB5.out⟩
      have := HTB.out
      rw [List.append_nil, flat_intV, HTE.out] at this
      exact this
end Go.Proofs.YthchfdobdghdoaaGreat
end
