/-
  Joined texts: MemLook.
-/
import Derived.Test.YthchfdobdghdoaaGreatHas
import Derived.OwnWalk
import Derived.Deep.LoopGhost
set_option linter.unusedVariables false
set_option linter.unusedSimpArgs false
set_option linter.unusedSectionVars false
set_option linter.unnecessarySimpa false
section

/-
  The walk of look, Read, Write, of mem.
-/
namespace Go.Proofs.YthchfdobdghdoaaGreat
open Go.RowKit Go.Sg

theorem info_event : (Tryz.prog.info? 94).map (fun i => (i.zero, i.size, i.bytes)) = some (some (.agg #[.int .i64 0, .int .i64 0, .bool false]), 3, 24) := by kernel_rfl

/-- How a look ends. -/
def LookRet (T p : Nat) (M : Mm) (r a : Int) (b : Bool) (F : Nat → Prop) (w : World) (e : Ending) (w' : World) : Prop :=
  MFrame F w w' ∧
  ((M.has r a = false ∧ e = .returned (.pointer none) ∧ MemRep w' T p { M with fault := true } (Grow F w w')) ∨
   (M.has r a = true ∧ ∃ (i j rb cap : Nat) (cur : Array Value) (g : Nat → Nat) (ev : Value), r = i ∧ a = j ∧ ∃ (hi : i < M.regs.length), j < M.regs[i].length ∧ e = .returned (.pointer (some ⟨g i, 12 * j, none⟩)) ∧
      MemG w' T p rb cap cur g ev { M with evs := M.evs ++ [(r, a, b)] } (Grow F w w')))

theorem event_cells (w : World) (e : Ev) (t : TypeId) : ∀ j u, (evV e)[j]? = some u → (w.alloc (.cells (evV e).toArray t)).cell? ((⟨w.heap.size, 0, none⟩ : Addr).add j) = some u := by
  intro j u hu
  rw [addr_add, Nat.zero_add, cell_of_row _ _ _ _ _ (0, 0) (heap_alloc_new w _), List.getElem?_toArray]
  exact hu

set_option maxRecDepth 100000 in
theorem memLook_any {p : Nat} {M : Mm} {F : Nat → Prop} (r a : Int) (b : Bool) (w : World) (h : MemRep w 88 p M F) (hN : M.evs.length ≤ 1099511627776) :
    Calls Tryz.prog 60 #[.pointer (some ⟨p, 0, none⟩), .int .i64 r, .int .i64 a, .bool b] w (LookRet 88 p M r a b F w) := by
  have K := Lib.hid (memSize_any r w h)
  have HV : Hid (M.has r a = (decide (0 ≤ a) && decide (a < (M.size r : Int)))) := Lib.hid rfl
  obtain ⟨rb, cap, cur, g, ev, h⟩ := h
  have H := Lib.hid h
  cases hh : M.has r a with
  | false =>
    have hs := HV.out
    rw [hh] at hs
    have cp : w.cell? ⟨p, 2, none⟩ = some (.bool M.fault) := by rw [h.box.cell]; rfl
    have fp : w.frozen? ⟨p, 2, none⟩ = false := h.box.free 2
    clear h HV
    have HP : Hid (LookRet 88 p M r a b F w (.returned (.pointer none)) (w.setCell ⟨p, 2, none⟩ (.bool true))) := Lib.hid
      ⟨(MFrame.refl F w).set (.inl H.out.inP) _, .inl ⟨hh, rfl, ⟨rb, cap, cur, g, ev, H.out.fault.mono (fun k hk => .inl hk) (fun k hk => by
        rw [World.size_setCell]
        rcases hk with hk | hk
        · exact H.out.lt k hk
        · rw [World.size_setCell] at hk; exact hk.2)⟩⟩⟩
    generalize M.size r = s at *
    by_cases ha : a < 0
    · have b0 : decide (a < 0) = true := decide_eq_true ha
      clear hs hh
      go_enter Tryz.func60, Tryz.ntmps60
      go_wp2
      go_ret
      exact HP.out
    · have b0 : decide (a < 0) = false := decide_eq_false ha
      have b1 : decide ((s : Int) ≤ a) = true := by
        rw [decide_eq_true (show 0 ≤ a by omega), Bool.true_and] at hs
        have := of_decide_eq_false hs.symm
        exact decide_eq_true (by omega)
      clear hs hh
      go_enter Tryz.func60, Tryz.ntmps60
      go_wp2_with (go_at_call 45; (with_reducible refine (K.out).mono ?_); rintro e w' ⟨rfl, rfl⟩)
      go_ret
      exact HP.out
  | true =>
    obtain ⟨i, j, hi, hj, rfl, rfl⟩ := Mm.has_spec hh
    obtain ⟨l, hl⟩ : ∃ l, M.regs[i].length = l := ⟨_, rfl⟩
    obtain ⟨n, hn⟩ : ∃ n, M.regs.length = n := ⟨_, rfl⟩
    have hsz : M.size (i : Int) = l := (Mm.size_in hi).trans hl
    rw [hsz] at K
    have hjl : j < l := by omega
    have b0 : decide ((j : Int) < 0) = false := decide_eq_false (by omega)
    have b1 : decide ((l : Int) ≤ (j : Int)) = false := decide_eq_false (by omega)
    have b2 : decide (l ≤ j) = false := decide_eq_false (by omega)
    have hcap : n ≤ cap := by have := h.lecap; omega
    have hcm := h.capm
    unfold maxLen at hcm
    have hl4 : l ≤ 4096 := by have := (h.ok.1 _ (List.getElem_mem hi)).1; omega
    have HC0 : Hid (w.cell? ⟨p, 0, none⟩ = some (.slice (some ⟨rb, 0, none⟩) n cap)) := Lib.hid (by rw [h.box.cell, ← hn]; rfl)
    have c1 : w.cell? ⟨p, 1, none⟩ = some ev := by rw [h.box.cell]; rfl
    have f1 : w.frozen? ⟨p, 1, none⟩ = false := h.box.free 1
    have HCS : Hid (w.cell? ⟨rb, i, none⟩ = some (.slice (some ⟨g i, 0, none⟩) l l)) := Lib.hid (by rw [h.row.cell, ← hl]; exact h.slot i hi)
    have HHi := Lib.hid hi
    have HHj := Lib.hid hj
    have HHh := Lib.hid hh
    have hi2 : i < n := by omega
    have HLL := Lib.hid hl
    have HNN := Lib.hid hn
    have HEV : Hid (w.ownsRow 0 94 3 ev M.evs.length (evsV M.evs)) := Lib.hid h.evs
    have hpe1 : ev.ownBlock ≠ some p := fun e => (h.pe p e).1 rfl
    have hre1 : ev.ownBlock ≠ some rb := fun e => (h.pe rb e).2.1 rfl
    have HPE := Lib.hid hpe1
    have HRE := Lib.hid hre1
    have hpl : p < w.heap.size := h.lt _ h.inP
    have hrl : rb < w.heap.size := h.lt _ h.inR
    have HPR := Lib.hid h.pr
    obtain ⟨i0, hi0, hz0, hz1, hz2⟩ := info_parts info_event
    have HI := Lib.hid hi0
    have HZ := Lib.hid hz0
    have HS := Lib.hid hz1
    have HY := Lib.hid hz2
    clear h HV hpe1 hre1 hi0 hz0 hz1 hz2 hsz hh hl hn hj
    go_enter Tryz.func60, Tryz.ntmps60
    go_wp2_with (first
      | (go_at_call 45; (with_reducible refine (K.out).mono ?_); rintro e w' ⟨rfl, rfl⟩)
      | (at_builtin; go_loud (refine wpList_append_own_at _ rfl (.tmp 25) (.tmp 30) 48 rfl 0 94 i0 (.agg #[.int .i64 0, .int .i64 0, .bool false]) 3 24 Tryz.underlying48 HI.out HZ.out HS.out HY.out rfl (by decide) _ M.evs.length (evsV M.evs) rfl (HEV.out.alloc _) ⟨w'.heap.size, 0, none⟩ 1 1 (evV ((i : Int), (j : Int), b)) rfl rfl (event_cells _ _ _) (evsV_one [((i : Int), (j : Int), b)]) (by unfold maxLen; omega) (by omega) (by omega) ?_))
      | fail)
    intro ev' w2 hown hgrow _ hat
    have hsz2 : w'.heap.size + 1 ≤ w2.heap.size := by have := hgrow.size; rw [World.size_alloc] at this; exact this
    have hbk : ∀ k, k < w'.heap.size → some k ≠ ev.ownBlock → w2.heap[k]? = w'.heap[k]? := fun k hk hn => (hgrow.block k (by rw [World.size_alloc]; omega) hn).trans (Below.heap_alloc w' _ k hk)
    have hat2 : ∀ k, ev'.ownBlock = some k → ev.ownBlock = some k ∨ (w'.heap.size ≤ k ∧ k < w2.heap.size) := fun k hk => by
      have hlt := (hown.lt k hk).2
      rcases hat with h1 | h1
      · exact .inl (h1 ▸ hk)
      · rw [h1] at hk
        injection hk with hk
        exact .inr ⟨by omega, hlt⟩
    have HG := Lib.hid (H.out.noted ((i : Int), (j : Int), b) hown (by omega) hbk hat2)
    have hbp := hbk p hpl (fun e => HPE.out e.symm)
    have hbr := hbk rb hrl (fun e => HRE.out e.symm)
    have c1' : w2.cell? ⟨p, 1, none⟩ = some ev := (World.cell?_of_block (a := ⟨p, 1, none⟩) hbp).trans c1
    have f1' : w2.frozen? ⟨p, 1, none⟩ = false := (World.frozen?_of_block (a := ⟨p, 1, none⟩) hbp).trans f1
    have c0' : w2.cell? ⟨p, 0, none⟩ = some (.slice (some ⟨rb, 0, none⟩) n cap) := (World.cell?_of_block (a := ⟨p, 0, none⟩) hbp).trans HC0.out
    have cs' : w2.cell? ⟨rb, i, none⟩ = some (.slice (some ⟨g i, 0, none⟩) l l) := (World.cell?_of_block (a := ⟨rb, i, none⟩) hbr).trans HCS.out
    have c0'' : (w2.setCell ⟨p, 1, none⟩ ev').cell? ⟨p, 0, none⟩ = some (.slice (some ⟨rb, 0, none⟩) n cap) := (World.cell?_setCell_other _ _ _ _ (fun e => by simp at e)).trans c0'
    have cs'' : (w2.setCell ⟨p, 1, none⟩ ev').cell? ⟨rb, i, none⟩ = some (.slice (some ⟨g i, 0, none⟩) l l) := (World.cell?_setCell_other _ _ _ _ (fun e => HPR.out (congrArg Addr.block e))).trans cs'
    have HFR : Hid (MFrame F w' (w2.setCell ⟨p, 1, none⟩ ev')) := Lib.hid (MFrame.set (p := ⟨p, 1, none⟩) (show MFrame F w' w2 from ⟨hgrow.os, hgrow.tape, hgrow.output, by omega, fun k hk hn => hbk k hk (fun e => hn (H.out.inE k e.symm))⟩) (.inl H.out.inP) _)
    have HGR : Hid (MemG (w2.setCell ⟨p, 1, none⟩ ev') 88 p rb cap cur g ev' { M with evs := M.evs ++ [((i : Int), (j : Int), b)] } (Grow F w' (w2.setCell ⟨p, 1, none⟩ ev'))) := Lib.hid (HG.out.mono (fun k hk => by unfold Grow at hk ⊢; rw [World.size_setCell]; exact hk) (fun k hk => by
      rw [World.size_setCell]
      rcases hk with hk | hk
      · have := H.out.lt k hk; omega
      · rw [World.size_setCell] at hk; exact hk.2))
    obtain ⟨ea', ec', hev'⟩ := owns_slice hown
    subst hev'
    clear hown hgrow hat hbk hat2 HG H hbp hbr HEV
    go_wp2
    go_ret
    refine ⟨HFR.out, .inr ⟨HHh.out, i, j, rb, cap, cur, g, _, rfl, rfl, HHi.out, HHj.out, ?_, HGR.out⟩⟩
    first
      | rfl
      | (rw [Nat.mul_comm]; rfl)
      | simp

/-- What a call leaves: the memory, and a frame. -/
def MemPost (T p : Nat) (M : Mm) (F : Nat → Prop) (w w' : World) : Prop := MemRep w' T p M (Grow F w w') ∧ MFrame F w w'

theorem mem_scratch {T p : Nat} {M : Mm} {F : Nat → Prop} {w w1 w2 w3 : World} (h1 : Below w.heap.size w w1) (hF : ∀ k, F k → k < w.heap.size) (h2 : MFrame F w1 w2) (hm : MemRep w2 T p M (Grow F w1 w2))
    (h3 : MFrame (fun k => w.heap.size ≤ k ∧ k < w1.heap.size) w2 w3) : MemPost T p M F w w3 := by
  refine ⟨(hm.frame h3 fun k hk hg => ?_).mono (fun k hk => ?_) (fun k hk => ?_), ?_⟩
  · rcases hk with hk | hk
    · have := hF k hk; omega
    · omega
  · rcases hk with hk | hk
    · exact .inl hk
    · exact .inr ⟨by have := h1.size; omega, by have := h3.size; omega⟩
  · rcases hk with hk | hk
    · have := hF k hk; have := h1.size; have := h2.size; have := h3.size; omega
    · exact hk.2
  · exact ⟨h3.os.trans (h2.os.trans h1.os), h3.tape.trans (h2.tape.trans h1.tape), h3.output.trans (h2.output.trans h1.output), Nat.le_trans h1.size (Nat.le_trans h2.size h3.size), fun k hk hn =>
      (h3.block k (by have := h1.size; have := h2.size; omega) (by omega)).trans ((h2.block k (by have := h1.size; omega) hn).trans (h1.block k hk))⟩

theorem mframe_setRow {F : Nat → Prop} {w w2 : World} {b : Nat} (h : MFrame F w w2) (hb : F b) (cs : Array Value) : MFrame F w (w2.setRow b cs) :=
  ⟨h.os, h.tape, h.output, by simpa [World.setRow] using h.size, fun k hk hn => (setRow_other w2 b k cs (fun e => hn (e ▸ hb))).trans (h.block k hk hn)⟩

set_option maxRecDepth 100000 in
theorem memRead_any {p : Nat} {M : Mm} {F : Nat → Prop} (r a : Int) (w : World) (h : MemRep w 88 p M F) (hN : M.evs.length ≤ 1099511627776) :
    Calls Tryz.prog 29 #[.pointer (some ⟨p, 0, none⟩), .int .i64 r, .int .i64 a] w fun e w' => e = .returned (.agg (cw (M.read r a))) ∧ MemPost 88 p (M.look r a false) F w w' := by
  have HF := Lib.hid h.lt
  have HOK := Lib.hid (Mm.read_ok h.ok r a)
  have hb1 : Below w.heap.size w (w.alloc (.cells z12 74)) := (Below.refl _ _).alloc (Nat.le_refl _) _
  have HB1 := Lib.hid hb1
  have K := Lib.hid (memLook_any r a false _ (h.below hb1) hN)
  clear h hb1
  go_enter Tryz.func29, Tryz.ntmps29
  go_wp2_with fail
  refine K.out.mono ?_
  rintro e w2 ⟨hfr, hcs⟩
  have hblk : Blk w2 w.heap.size z12 74 := by
    have h0 := Blk.new w z12 74
    exact Blk_keep h0 (hfr.block _ (by simp) (fun hf => by have := HF.out _ hf; omega))
  have HBL := Lib.hid hblk
  have HFR := Lib.hid hfr
  clear hblk hfr
  rcases hcs with ⟨hh, rfl, hm⟩ | ⟨hh, i, j, rb, cap, cur, g, ev, rfl, rfl, hi, hj, rfl, hm⟩
  · have HV := Lib.hid (show M.read r a = zeros by simp [Mm.read, hh])
    have HL := Lib.hid (show M.look r a false = { M with fault := true } by simp [Mm.look, hh])
    have HM := Lib.hid hm
    have HI : Hid ((Tryz.prog.info? 74).map (·.size) = some (cw zeros).size) := Lib.hid (by kernel_rfl)
    clear hh hm
    go_wp2_with (first
      | (refine wpList_store_row rfl 74 (.tmp 6) (.tmp 17) rfl w.heap.size (cw zeros) rfl rfl 74 _ HBL.out HI.out rfl (cw_one _) ?_))
    refine bodyPost_ret (results_cell_row rfl _ _ w.heap.size 74 _ (0, 0) _ rfl (HBL.out.setRow _) Tryz.underlying74 rfl HI.out) rfl ⟨by rw [HV.out], ?_⟩
    rw [HL.out]
    exact mem_scratch HB1.out HF.out HFR.out HM.out (mframe_setRow (MFrame.refl _ _) ⟨Nat.le_refl _, by simp⟩ _)
  · have HV := Lib.hid (Mm.read_in hi hj)
    have HL := Lib.hid (show M.look (i : Int) (j : Int) false = { M with evs := M.evs ++ [((i : Int), (j : Int), false)] } by simp [Mm.look, hh])
    have hld := hm.load hi hj
    have HLD := Lib.hid hld
    have HM : Hid (MemRep w2 88 p { M with evs := M.evs ++ [((i : Int), (j : Int), false)] } (Grow F (w.alloc (.cells z12 74)) w2)) := Lib.hid ⟨rb, cap, cur, g, ev, hm⟩
    have hlen : (M.regs[i][j]).length = 12 := by have := HOK.out.1; rwa [Mm.read_in hi hj] at this
    have HLEN := Lib.hid hlen
    have HI : Hid ((Tryz.prog.info? 74).map (·.size) = some (cw M.regs[i][j]).size) := Lib.hid (by rw [cw_size, hlen]; kernel_rfl)
    have HI2 : Hid ((Tryz.prog.info? 74).map (·.size) = some (wv M.regs[i][j]).length) := Lib.hid (by rw [wv_len, hlen]; kernel_rfl)
    clear hh hm hld
    go_wp2_with (first
      | (refine wpList_load_mid rfl 74 (.tmp 15) rfl (g i) (12 * j) rfl (wv M.regs[i][j]) _ HLD.out Tryz.underlying74 rfl HI2.out ?_)
      | (refine wpList_store_row rfl 74 (.tmp 6) (.tmp 16) rfl w.heap.size (cw M.regs[i][j]) rfl rfl 74 _ HBL.out HI.out (by rw [cw_size, HLEN.out]; rfl) (cw_one _) ?_))
    refine bodyPost_ret (results_cell_row rfl _ _ w.heap.size 74 _ (0, 0) _ rfl (HBL.out.setRow _) Tryz.underlying74 rfl HI.out) rfl ⟨by rw [HV.out], ?_⟩
    rw [HL.out]
    exact mem_scratch HB1.out HF.out HFR.out HM.out (mframe_setRow (MFrame.refl _ _) ⟨Nat.le_refl _, by simp⟩ _)

set_option maxRecDepth 100000 in
theorem memWrite_any {p : Nat} {M : Mm} {F : Nat → Prop} (r a : Int) (c : List Int) (hc : c.length = 12) (hw : ∀ x ∈ c, Word x) (w : World) (h : MemRep w 88 p M F) (hN : M.evs.length ≤ 1099511627776) :
    Calls Tryz.prog 72 #[.pointer (some ⟨p, 0, none⟩), .int .i64 r, .int .i64 a, .agg (cw c)] w fun e w' => e = .returned (.tuple #[]) ∧ MemPost 88 p (M.write r a c) F w w' := by
  have HF := Lib.hid h.lt
  have hb1 : Below w.heap.size w (w.alloc (.cells (cw c) 74)) := (Below.refl _ _).alloc (Nat.le_refl _) _
  have HB1 := Lib.hid hb1
  have K := Lib.hid (memLook_any r a true _ (h.below hb1) hN)
  have HW := Lib.hid hw
  have HC := Lib.hid hc
  clear h hb1 hw hc
  go_enter Tryz.func72, Tryz.ntmps72
  go_wp2_with fail
  refine K.out.mono ?_
  rintro e w2 ⟨hfr, hcs⟩
  have hblk : Blk w2 w.heap.size (cw c) 74 := by
    have h0 := Blk.new w (cw c) 74
    exact Blk_keep h0 (hfr.block _ (by simp) (fun hf => by have := HF.out _ hf; omega))
  have HBL := Lib.hid hblk
  have HFR := Lib.hid hfr
  have HI : Hid ((Tryz.prog.info? 74).map (·.size) = some (cw c).size) := Lib.hid (by rw [cw_size, HC.out]; kernel_rfl)
  clear hblk hfr
  rcases hcs with ⟨hh, rfl, hm⟩ | ⟨hh, i, j, rb, cap, cur, g, ev, rfl, rfl, hi, hj, rfl, hm⟩
  · have HL := Lib.hid (show M.write r a c = { M with fault := true } by simp [Mm.write, Mm.look, hh])
    have HM := Lib.hid hm
    clear hh hm
    go_wp2
    first
      | refine bodyPost_end (results_none rfl _ _ _) rfl ⟨rfl, ?_⟩
      | refine bodyPost_ret (results_none rfl _ _ _) rfl ⟨rfl, ?_⟩
    rw [HL.out]
    exact mem_scratch HB1.out HF.out HFR.out HM.out (MFrame.refl _ _)
  · have HL := Lib.hid (show M.write (i : Int) (j : Int) c = ({ M with evs := M.evs ++ [((i : Int), (j : Int), true)] } : Mm).put i j c by simp [Mm.write, Mm.look, hh])
    have hth := hm.there hi hj
    have HTH := Lib.hid hth
    have HM := Lib.hid (hm.store hi hj HC.out HW.out)
    have HG := Lib.hid (hm.inG i hi)
    have HF2 : Hid (MFrame F (w.alloc (.cells (cw c) 74)) (w2.setCells (g i) (12 * j) (wv c))) := Lib.hid (MFrame.setCells (wv c) (12 * j) (hm.inG i hi) HFR.out)
    clear hh hm hth
    go_wp2_with (first
      | (refine wpList_load_row rfl 74 (.tmp 7) rfl w.heap.size rfl 74 (cw c) (0, 0) _ HBL.out Tryz.underlying74 rfl HI.out ?_)
      | (refine wpList_store_mid rfl 74 (.tmp 17) (.tmp 16) rfl (g i) (12 * j) (cw c) rfl rfl (by rw [cw_size, HC.out]; exact HTH.out) HI.out (cw_one _) ?_))
    first
      | refine bodyPost_end (results_none rfl _ _ _) rfl ⟨rfl, ?_⟩
      | refine bodyPost_ret (results_none rfl _ _ _) rfl ⟨rfl, ?_⟩
    rw [HL.out]
    refine mem_scratch HB1.out HF.out HF2.out ⟨rb, cap, cur, g, ev, HM.out.mono (fun k hk => ?_) (fun k hk => ?_)⟩ (MFrame.refl _ _)
    · unfold Grow at hk ⊢; rw [size_setCells]; exact hk
    · exact HM.out.lt k (by unfold Grow at hk ⊢; rw [size_setCells] at hk; exact hk)
end Go.Proofs.YthchfdobdghdoaaGreat
end
