/-
  The walks of Read and Write of the document's memory.
-/
import Derived.Test.YtngpaibppdehdaaMemLook
import Derived.StillTailTactics
namespace Go.Sg
open Go Go.RowKit
theorem wpStill_load_row {P : Program} {ops : Array Oper} {w : World} {Q : Act → Prop} {a : Act} {o : Oper} {rest : List Oper} (hw : Region.wanted o (yielded ops a.tmps) = true) (ty : TypeId) (x : Operand) (ho : o.op = .load ty x)
    (g : Nat) (hx : a.eval x = .pointer (some ⟨g, 0, none⟩)) (t : TypeId) (cs : Array Value) (d : TypeDesc) (hg : Blk w g cs t)
    (hu : P.underlying ty = some d) (hd : (match d with | .struct _ | .array _ _ => true | _ => false) = true) (hi : (P.info? ty).map (·.size) = some cs.size)
    (hK : wpStill P ops w Q rest (a.put o.dst (.agg cs))) : wpStill P ops w Q (o :: rest) a := by
  unfold wpStill
  rw [if_pos hw]
  unfold Oper.still execOp
  simp only [ho, hx, Instr.loadAt, Instr.sureAddr, Sem.run_bind, Sem.run_pure, Result.andThen_ok, run_loadVar_row w g t ty cs (0, 0) d hg hu hd hi]
  exact ⟨rfl, hK⟩
theorem setCells_drew (b : Nat) : ∀ (vs : List Value) (o : Nat) (w : World), w.drew.setCells b o vs = (w.setCells b o vs).drew
  | [], _, _ => rfl
  | v :: r, o, w => by rw [World.setCells, World.setCells, World.setCell_drew, setCells_drew b r (o + 1)]
end Go.Sg
namespace Go.Proofs.Ytngpaibppdehdaa
open Go.RowKit Go.Sg

set_option maxRecDepth 100000 in
theorem ref3Read_any {p : Nat} {M : Mm} {F : Nat → Prop} (r a : Int) (w0 : World) (h : MemRep w0 60 p M F) (hN : M.evs.length ≤ 1099511627776) :
    Calls Try.prog 42 #[.pointer (some ⟨p, 0, none⟩), .int .i64 r, .int .i64 a] w0 fun e w' => e = .returned (.agg (cw (M.read r a))) ∧ MemPost 60 p (M.look r a false) F w0 w' := by
  have HF := Lib.hid h.lt
  have HOK := Lib.hid (Mm.read_ok h.ok r a)
  have hb1 : Below w0.heap.size w0 (w0.alloc (.cells z12 44)) := (Below.refl _ _).alloc (Nat.le_refl _) _
  have HB1 := Lib.hid hb1
  have hm1 := h.below hb1
  have hblk := Blk.new w0 z12 44
  have hsz1 : (w0.alloc (.cells z12 44)).heap.size = w0.heap.size + 1 := by simp
  have HS1 := Lib.hid hsz1
  have K := Lib.hid (ref3Has_any r a _ hm1)
  generalize hw1 : w0.alloc (.cells z12 44) = w at *
  have HW1 : Hid (w0.alloc (.cells #[.int .u64 0, .int .u64 0, .int .u64 0, .int .u64 0, .int .u64 0, .int .u64 0, .int .u64 0, .int .u64 0, .int .u64 0, .int .u64 0, .int .u64 0, .int .u64 0] 44) = w) := Lib.hid hw1
  clear hb1 h hsz1 hw1
  obtain ⟨rb, cap, cur, g, ev, h⟩ := hm1
  have H := Lib.hid h
  have HBL := Lib.hid hblk
  cases hh : M.has r a with
  | false =>
    rw [hh] at K
    have HV := Lib.hid (show M.read r a = zeros by simp [Mm.read, hh])
    have HL := Lib.hid (show M.look r a false = { M with fault := true } by simp [Mm.look, hh])
    have cp : w.cell? ⟨p, 2, none⟩ = some (.bool M.fault) := by rw [h.box.cell]; rfl
    have fp : w.frozen? ⟨p, 2, none⟩ = false := h.box.free 2
    have HI : Hid ((Try.prog.info? 44).map (·.size) = some (cw zeros).size) := Lib.hid (by kernel_rfl)
    have HB2 : Hid (Blk (w.setCell ⟨p, 2, none⟩ (.bool true)) w0.heap.size z12 44) := Lib.hid (hblk.other _ _ (fun e => by have := HF.out _ h.inP; have e2 : w0.heap.size = p := e; omega))
    clear h hblk hh
    go_enter Try.func42, Try.ntmps42
    go_wp2_with fail
    rw [HW1.out]
    refine K.out.mono ?_
    rintro _ w' ⟨rfl, rfl⟩
    go_wp2_with (first
      | (refine wpList_store_row rfl 44 (.tmp 6) (.tmp 15) rfl w0.heap.size (cw zeros) rfl rfl 44 _ HB2.out HI.out rfl (cw_one _) ?_))
    refine bodyPost_ret (results_cell_row rfl _ _ w0.heap.size 44 _ (0, 0) _ rfl (HB2.out.setRow _) Try.underlying44 rfl HI.out) rfl ⟨by rw [HV.out], ?_⟩
    rw [HL.out]
    refine mem_scratch HB1.out HF.out ((MFrame.refl F _).set (p := ⟨p, 2, none⟩) (.inl H.out.inP) _) ⟨rb, cap, cur, g, ev, H.out.fault.mono (fun k hk => .inl hk) (fun k hk => ?_)⟩ (mframe_setRow (MFrame.refl _ _) ⟨Nat.le_refl _, by rw [HS1.out]; omega⟩ _)
    rw [World.size_setCell]
    rcases hk with hk | hk
    · exact H.out.lt k hk
    · rw [World.size_setCell] at hk; exact hk.2
  | true =>
    rw [hh] at K
    obtain ⟨i, j, hi, hj, rfl, rfl⟩ := Mm.has_spec hh
    obtain ⟨l, hl⟩ : ∃ l, M.regs[i].length = l := ⟨_, rfl⟩
    obtain ⟨n, hn⟩ : ∃ n, M.regs.length = n := ⟨_, rfl⟩
    have hjl : j < l := by omega
    have hcap : n ≤ cap := by have := h.lecap; omega
    have hcm := h.capm
    unfold maxLen at hcm
    have hl4 : l ≤ 4096 := by have := (h.ok.1 _ (List.getElem_mem hi)).1; omega
    have HC0 : Hid (w.cell? ⟨p, 0, none⟩ = some (.slice (some ⟨rb, 0, none⟩) n cap)) := Lib.hid (by rw [h.box.cell, ← hn]; rfl)
    have c1 : w.cell? ⟨p, 1, none⟩ = some ev := by rw [h.box.cell]; rfl
    have f1 : w.frozen? ⟨p, 1, none⟩ = false := h.box.free 1
    have HCS : Hid (w.cell? ⟨rb, i, none⟩ = some (.slice (some ⟨g i, 0, none⟩) l l)) := Lib.hid (by rw [h.row.cell, ← hl]; exact h.slot i hi)
    have HHi := Lib.hid hi
    have HHj := Lib.hid hj
    have HHh := Lib.hid hh
    have hi2 : i < n := by omega
    have HLL := Lib.hid hl
    have HNN := Lib.hid hn
    have HEV : Hid (w.ownsRow 0 52 3 ev M.evs.length (evsV M.evs)) := Lib.hid h.evs
    have hpe1 : ev.ownBlock ≠ some p := fun e => (h.pe p e).1 rfl
    have hre1 : ev.ownBlock ≠ some rb := fun e => (h.pe rb e).2.1 rfl
    have HPE := Lib.hid hpe1
    have HRE := Lib.hid hre1
    have hpl : p < w.heap.size := h.lt _ h.inP
    have hrl : rb < w.heap.size := h.lt _ h.inR
    have HPR := Lib.hid h.pr
    obtain ⟨i0, hi0, hz0, hz1, hz2⟩ := info_parts info_event
    have HI := Lib.hid hi0
    have HZ := Lib.hid hz0
    have HS := Lib.hid hz1
    have HY := Lib.hid hz2
    have hF0 : ∀ k, F k → k < w0.heap.size := HF.out
    have HPh : Hid (w0.heap.size ≠ p) := Lib.hid (fun e => by have := hF0 _ h.inP; omega)
    have hph1 : ev.ownBlock ≠ some w0.heap.size := fun e => by have := hF0 _ (h.inE _ e); omega
    have HPH1 := Lib.hid hph1
    clear h hpe1 hre1 hi0 hz0 hz1 hz2 hh hl hn hj hblk hph1 hF0
    go_enter Try.func42, Try.ntmps42
    go_wp2_with fail
    rw [HW1.out]
    refine K.out.mono ?_
    rintro _ w' ⟨rfl, rfl⟩
    go_wp2_with (first
      | (at_builtin; go_loud (refine wpList_append_own_at _ rfl (.tmp 20) (.tmp 24) 48 rfl 0 52 i0 (.agg #[.int .i64 0, .int .i64 0, .bool false]) 3 24 Try.underlying48 HI.out HZ.out HS.out HY.out rfl (by decide) _ M.evs.length (evsV M.evs) rfl (HEV.out.alloc _) ⟨w'.heap.size, 0, none⟩ 1 1 (evV ((i : Int), (j : Int), false)) rfl rfl (event_cells _ _ _) (evsV_one [((i : Int), (j : Int), false)]) (by unfold maxLen; omega) (by omega) (by omega) ?_))
      | fail)
    intro ev' w2 hown hgrow _ hat
    have hsz2 : w'.heap.size + 1 ≤ w2.heap.size := by have := hgrow.size; rw [World.size_alloc] at this; exact this
    have hbk : ∀ k, k < w'.heap.size → some k ≠ ev.ownBlock → w2.heap[k]? = w'.heap[k]? := fun k hk hn => (hgrow.block k (by rw [World.size_alloc]; omega) hn).trans (Below.heap_alloc w' _ k hk)
    have hat2 : ∀ k, ev'.ownBlock = some k → ev.ownBlock = some k ∨ (w'.heap.size ≤ k ∧ k < w2.heap.size) := fun k hk => by
      have hlt := (hown.lt k hk).2
      rcases hat with h1 | h1
      · exact .inl (h1 ▸ hk)
      · rw [h1] at hk
        injection hk with hk
        exact .inr ⟨by omega, hlt⟩
    have HG := Lib.hid (H.out.noted ((i : Int), (j : Int), false) hown (by omega) hbk hat2)
    have hbp := hbk p hpl (fun e => HPE.out e.symm)
    have hbr := hbk rb hrl (fun e => HRE.out e.symm)
    have c1' : w2.cell? ⟨p, 1, none⟩ = some ev := (World.cell?_of_block (a := ⟨p, 1, none⟩) hbp).trans c1
    have f1' : w2.frozen? ⟨p, 1, none⟩ = false := (World.frozen?_of_block (a := ⟨p, 1, none⟩) hbp).trans f1
    have c0' : w2.cell? ⟨p, 0, none⟩ = some (.slice (some ⟨rb, 0, none⟩) n cap) := (World.cell?_of_block (a := ⟨p, 0, none⟩) hbp).trans HC0.out
    have cs' : w2.cell? ⟨rb, i, none⟩ = some (.slice (some ⟨g i, 0, none⟩) l l) := (World.cell?_of_block (a := ⟨rb, i, none⟩) hbr).trans HCS.out
    have c0'' : (w2.setCell ⟨p, 1, none⟩ ev').cell? ⟨p, 0, none⟩ = some (.slice (some ⟨rb, 0, none⟩) n cap) := (World.cell?_setCell_other _ _ _ _ (fun e => by simp at e)).trans c0'
    have cs'' : (w2.setCell ⟨p, 1, none⟩ ev').cell? ⟨rb, i, none⟩ = some (.slice (some ⟨g i, 0, none⟩) l l) := (World.cell?_setCell_other _ _ _ _ (fun e => HPR.out (congrArg Addr.block e))).trans cs'
    have HBL2 : Hid (Blk (w2.setCell ⟨p, 1, none⟩ ev') w0.heap.size z12 44) := Lib.hid ((Blk_keep HBL.out (hbk _ HBL.out.lt (fun e => HPH1.out e.symm))).other _ _ HPh.out)
    have HFR : Hid (MFrame F w' (w2.setCell ⟨p, 1, none⟩ ev')) := Lib.hid (MFrame.set (p := ⟨p, 1, none⟩) (show MFrame F w' w2 from ⟨hgrow.os, hgrow.tape, hgrow.output, by omega, fun k hk hn => hbk k hk (fun e => hn (H.out.inE k e.symm))⟩) (.inl H.out.inP) _)
    have HGR : Hid (MemG (w2.setCell ⟨p, 1, none⟩ ev') 60 p rb cap cur g ev' { M with evs := M.evs ++ [((i : Int), (j : Int), false)] } (Grow F w' (w2.setCell ⟨p, 1, none⟩ ev'))) := Lib.hid (HG.out.mono (fun k hk => by unfold Grow at hk ⊢; rw [World.size_setCell]; exact hk) (fun k hk => by
      rw [World.size_setCell]
      rcases hk with hk | hk
      · have := H.out.lt k hk; omega
      · rw [World.size_setCell] at hk; exact hk.2))
    have hld := HGR.out.load HHi.out HHj.out
    rw [Nat.mul_comm 12 j] at hld
    have HLD := Lib.hid hld
    clear hld
    have hlen : ((M.regs[i]'HHi.out)[j]'HHj.out).length = 12 := by have := HOK.out.1; rwa [Mm.read_in HHi.out HHj.out] at this
    have HLEN := Lib.hid hlen
    have HIc : Hid ((Try.prog.info? 44).map (·.size) = some (cw ((M.regs[i]'HHi.out)[j]'HHj.out)).size) := Lib.hid (by rw [cw_size, hlen]; kernel_rfl)
    have HI2 : Hid ((Try.prog.info? 44).map (·.size) = some (wv ((M.regs[i]'HHi.out)[j]'HHj.out)).length) := Lib.hid (by rw [wv_len, hlen]; kernel_rfl)
    have HVV := Lib.hid (Mm.read_in HHi.out HHj.out)
    have HL := Lib.hid (show M.look (i : Int) (j : Int) false = { M with evs := M.evs ++ [((i : Int), (j : Int), false)] } by simp [Mm.look, HHh.out])
    obtain ⟨ea', ec', hev'⟩ := owns_slice hown
    subst hev'
    clear hown hgrow hat hbk hat2 HG H hbp hbr HEV hlen
    generalize hc : (M.regs[i]'HHi.out)[j]'HHj.out = c at *
    go_wp2_with (first
      | (refine wpList_load_mid rfl 44 (.tmp 36) rfl (g i) (j * 12) rfl (wv c) _ HLD.out Try.underlying44 rfl HI2.out ?_)
      | (refine wpList_store_row rfl 44 (.tmp 6) (.tmp 37) rfl w0.heap.size (cw c) rfl rfl 44 _ HBL2.out HIc.out (by rw [cw_size, HLEN.out]; rfl) (cw_one _) ?_))
    refine bodyPost_ret (results_cell_row rfl _ _ w0.heap.size 44 _ (0, 0) _ rfl (HBL2.out.setRow _) Try.underlying44 rfl HIc.out) rfl ⟨by rw [HVV.out], ?_⟩
    rw [HL.out]
    exact mem_scratch HB1.out HF.out HFR.out ⟨rb, cap, cur, g, _, HGR.out⟩ (mframe_setRow (MFrame.refl _ _) ⟨Nat.le_refl _, by rw [HS1.out]; omega⟩ _)
set_option maxRecDepth 100000 in
theorem ref3Write_any {p : Nat} {M : Mm} {F : Nat → Prop} (r a : Int) (cc : List Int) (hcc : cc.length = 12) (hww : ∀ x ∈ cc, Word x) (w0 : World) (h : MemRep w0 60 p M F) (hN : M.evs.length ≤ 1099511627776) :
    Calls Try.prog 41 #[.pointer (some ⟨p, 0, none⟩), .int .i64 r, .int .i64 a, .agg (cw cc)] w0 fun e w' => e = .returned (.tuple #[]) ∧ MemPost 60 p (M.write r a cc) F w0 w' := by
  have HF := Lib.hid h.lt
  have HCC := Lib.hid hcc
  have HWW := Lib.hid hww
  have hb1 : Below w0.heap.size w0 (w0.alloc (.cells (cw cc) 44)) := (Below.refl _ _).alloc (Nat.le_refl _) _
  have HB1 := Lib.hid hb1
  have hm1 := h.below hb1
  have hblk := Blk.new w0 (cw cc) 44
  have hsz1 : (w0.alloc (.cells (cw cc) 44)).heap.size = w0.heap.size + 1 := by simp
  have HS1 := Lib.hid hsz1
  have K := Lib.hid (ref3Has_any r a _ hm1)
  generalize hw1 : w0.alloc (.cells (cw cc) 44) = w at *
  have HW1 : Hid (w0.alloc (.cells (cw cc) 44) = w) := Lib.hid hw1
  clear hb1 h hsz1 hw1
  obtain ⟨rb, cap, cur, g, ev, h⟩ := hm1
  have H := Lib.hid h
  have HBL := Lib.hid hblk
  cases hh : M.has r a with
  | false =>
    rw [hh] at K
    have HL := Lib.hid (show M.write r a cc = { M with fault := true } by simp [Mm.write, Mm.look, hh])
    have cp : w.cell? ⟨p, 2, none⟩ = some (.bool M.fault) := by rw [h.box.cell]; rfl
    have fp : w.frozen? ⟨p, 2, none⟩ = false := h.box.free 2
    have HI : Hid ((Try.prog.info? 44).map (·.size) = some (cw zeros).size) := Lib.hid (by kernel_rfl)
    have HB2 : Hid (Blk (w.setCell ⟨p, 2, none⟩ (.bool true)) w0.heap.size (cw cc) 44) := Lib.hid (hblk.other _ _ (fun e => by have := HF.out _ h.inP; have e2 : w0.heap.size = p := e; omega))
    clear h hblk hh
    go_enter Try.func41, Try.ntmps41
    go_wp2_with fail
    rw [HW1.out]
    refine K.out.mono ?_
    rintro _ w' ⟨rfl, rfl⟩
    go_wp2
    first
      | refine bodyPost_end (results_none rfl _ _ _) rfl ⟨rfl, ?_⟩
      | refine bodyPost_ret (results_none rfl _ _ _) rfl ⟨rfl, ?_⟩
    rw [HL.out]
    refine mem_scratch HB1.out HF.out ((MFrame.refl F _).set (p := ⟨p, 2, none⟩) (.inl H.out.inP) _) ⟨rb, cap, cur, g, ev, H.out.fault.mono (fun k hk => .inl hk) (fun k hk => ?_)⟩ (MFrame.refl _ _)
    rw [World.size_setCell]
    rcases hk with hk | hk
    · exact H.out.lt k hk
    · rw [World.size_setCell] at hk; exact hk.2
  | true =>
    rw [hh] at K
    obtain ⟨i, j, hi, hj, rfl, rfl⟩ := Mm.has_spec hh
    obtain ⟨l, hl⟩ : ∃ l, M.regs[i].length = l := ⟨_, rfl⟩
    obtain ⟨n, hn⟩ : ∃ n, M.regs.length = n := ⟨_, rfl⟩
    have hjl : j < l := by omega
    have hcap : n ≤ cap := by have := h.lecap; omega
    have hcm := h.capm
    unfold maxLen at hcm
    have hl4 : l ≤ 4096 := by have := (h.ok.1 _ (List.getElem_mem hi)).1; omega
    have HC0 : Hid (w.cell? ⟨p, 0, none⟩ = some (.slice (some ⟨rb, 0, none⟩) n cap)) := Lib.hid (by rw [h.box.cell, ← hn]; rfl)
    have c1 : w.cell? ⟨p, 1, none⟩ = some ev := by rw [h.box.cell]; rfl
    have f1 : w.frozen? ⟨p, 1, none⟩ = false := h.box.free 1
    have HCS : Hid (w.cell? ⟨rb, i, none⟩ = some (.slice (some ⟨g i, 0, none⟩) l l)) := Lib.hid (by rw [h.row.cell, ← hl]; exact h.slot i hi)
    have HHi := Lib.hid hi
    have HHj := Lib.hid hj
    have HHh := Lib.hid hh
    have hi2 : i < n := by omega
    have HLL := Lib.hid hl
    have HNN := Lib.hid hn
    have HEV : Hid (w.ownsRow 0 52 3 ev M.evs.length (evsV M.evs)) := Lib.hid h.evs
    have hpe1 : ev.ownBlock ≠ some p := fun e => (h.pe p e).1 rfl
    have hre1 : ev.ownBlock ≠ some rb := fun e => (h.pe rb e).2.1 rfl
    have HPE := Lib.hid hpe1
    have HRE := Lib.hid hre1
    have hpl : p < w.heap.size := h.lt _ h.inP
    have hrl : rb < w.heap.size := h.lt _ h.inR
    have HPR := Lib.hid h.pr
    obtain ⟨i0, hi0, hz0, hz1, hz2⟩ := info_parts info_event
    have HI := Lib.hid hi0
    have HZ := Lib.hid hz0
    have HS := Lib.hid hz1
    have HY := Lib.hid hz2
    have hF0 : ∀ k, F k → k < w0.heap.size := HF.out
    have HPh : Hid (w0.heap.size ≠ p) := Lib.hid (fun e => by have := hF0 _ h.inP; omega)
    have hph1 : ev.ownBlock ≠ some w0.heap.size := fun e => by have := hF0 _ (h.inE _ e); omega
    have HPH1 := Lib.hid hph1
    clear h hpe1 hre1 hi0 hz0 hz1 hz2 hh hl hn hj hblk hph1 hF0
    go_enter Try.func41, Try.ntmps41
    go_wp2_with fail
    rw [HW1.out]
    refine K.out.mono ?_
    rintro _ w' ⟨rfl, rfl⟩
    go_wp2_with (first
      | (at_builtin; go_loud (refine wpList_append_own_at _ rfl (.tmp 20) (.tmp 24) 48 rfl 0 52 i0 (.agg #[.int .i64 0, .int .i64 0, .bool false]) 3 24 Try.underlying48 HI.out HZ.out HS.out HY.out rfl (by decide) _ M.evs.length (evsV M.evs) rfl (HEV.out.alloc _) ⟨w'.heap.size, 0, none⟩ 1 1 (evV ((i : Int), (j : Int), true)) rfl rfl (event_cells _ _ _) (evsV_one [((i : Int), (j : Int), true)]) (by unfold maxLen; omega) (by omega) (by omega) ?_))
      | fail)
    intro ev' w2 hown hgrow _ hat
    have hsz2 : w'.heap.size + 1 ≤ w2.heap.size := by have := hgrow.size; rw [World.size_alloc] at this; exact this
    have hbk : ∀ k, k < w'.heap.size → some k ≠ ev.ownBlock → w2.heap[k]? = w'.heap[k]? := fun k hk hn => (hgrow.block k (by rw [World.size_alloc]; omega) hn).trans (Below.heap_alloc w' _ k hk)
    have hat2 : ∀ k, ev'.ownBlock = some k → ev.ownBlock = some k ∨ (w'.heap.size ≤ k ∧ k < w2.heap.size) := fun k hk => by
      have hlt := (hown.lt k hk).2
      rcases hat with h1 | h1
      · exact .inl (h1 ▸ hk)
      · rw [h1] at hk
        injection hk with hk
        exact .inr ⟨by omega, hlt⟩
    have HG := Lib.hid (H.out.noted ((i : Int), (j : Int), true) hown (by omega) hbk hat2)
    have hbp := hbk p hpl (fun e => HPE.out e.symm)
    have hbr := hbk rb hrl (fun e => HRE.out e.symm)
    have c1' : w2.cell? ⟨p, 1, none⟩ = some ev := (World.cell?_of_block (a := ⟨p, 1, none⟩) hbp).trans c1
    have f1' : w2.frozen? ⟨p, 1, none⟩ = false := (World.frozen?_of_block (a := ⟨p, 1, none⟩) hbp).trans f1
    have c0' : w2.cell? ⟨p, 0, none⟩ = some (.slice (some ⟨rb, 0, none⟩) n cap) := (World.cell?_of_block (a := ⟨p, 0, none⟩) hbp).trans HC0.out
    have cs' : w2.cell? ⟨rb, i, none⟩ = some (.slice (some ⟨g i, 0, none⟩) l l) := (World.cell?_of_block (a := ⟨rb, i, none⟩) hbr).trans HCS.out
    have c0'' : (w2.setCell ⟨p, 1, none⟩ ev').cell? ⟨p, 0, none⟩ = some (.slice (some ⟨rb, 0, none⟩) n cap) := (World.cell?_setCell_other _ _ _ _ (fun e => by simp at e)).trans c0'
    have cs'' : (w2.setCell ⟨p, 1, none⟩ ev').cell? ⟨rb, i, none⟩ = some (.slice (some ⟨g i, 0, none⟩) l l) := (World.cell?_setCell_other _ _ _ _ (fun e => HPR.out (congrArg Addr.block e))).trans cs'
    have HBL2 : Hid (Blk (w2.setCell ⟨p, 1, none⟩ ev') w0.heap.size (cw cc) 44) := Lib.hid ((Blk_keep HBL.out (hbk _ HBL.out.lt (fun e => HPH1.out e.symm))).other _ _ HPh.out)
    have HFR : Hid (MFrame F w' (w2.setCell ⟨p, 1, none⟩ ev')) := Lib.hid (MFrame.set (p := ⟨p, 1, none⟩) (show MFrame F w' w2 from ⟨hgrow.os, hgrow.tape, hgrow.output, by omega, fun k hk hn => hbk k hk (fun e => hn (H.out.inE k e.symm))⟩) (.inl H.out.inP) _)
    have HGR : Hid (MemG (w2.setCell ⟨p, 1, none⟩ ev') 60 p rb cap cur g ev' { M with evs := M.evs ++ [((i : Int), (j : Int), true)] } (Grow F w' (w2.setCell ⟨p, 1, none⟩ ev'))) := Lib.hid (HG.out.mono (fun k hk => by unfold Grow at hk ⊢; rw [World.size_setCell]; exact hk) (fun k hk => by
      rw [World.size_setCell]
      rcases hk with hk | hk
      · have := H.out.lt k hk; omega
      · rw [World.size_setCell] at hk; exact hk.2))
    have hth := HGR.out.there HHi.out HHj.out
    rw [Nat.mul_comm 12 j] at hth
    have HTH := Lib.hid hth
    have hst := HGR.out.store HHi.out HHj.out HCC.out HWW.out
    rw [Nat.mul_comm 12 j] at hst
    have HST := Lib.hid hst
    have HFR2 := Lib.hid (MFrame.setCells (wv cc) (j * 12) (HGR.out.inG i HHi.out) HFR.out)
    have HIc : Hid ((Try.prog.info? 44).map (·.size) = some (cw cc).size) := Lib.hid (by rw [cw_size, HCC.out]; kernel_rfl)
    have HL := Lib.hid (show M.write (i : Int) (j : Int) cc = ({ M with evs := M.evs ++ [((i : Int), (j : Int), true)] } : Mm).put i j cc by simp [Mm.write, Mm.look, HHh.out])
    obtain ⟨ea', ec', hev'⟩ := owns_slice hown
    subst hev'
    clear hown hgrow hat hbk hat2 HG H hbp hbr HEV hth hst
    go_wp2_with fail
    generalize hW : w2.setCell ⟨p, 1, none⟩ (.slice ea' (M.evs.length + 1) ec') = W at *
    have HWe := Lib.hid hW
    clear hW c0' cs' c1' f1' hsz2 c1 f1
    have e0 : W.drew.cell? ⟨p, 0, none⟩ = some (.slice (some ⟨rb, 0, none⟩) n cap) := c0''
    have e1 : W.drew.cell? ⟨rb, i, none⟩ = some (.slice (some ⟨g i, 0, none⟩) l l) := cs''
    have HBD : Hid (Blk W.drew w0.heap.size (cw cc) 44) := Lib.hid HBL2.out.drew
    have HTD : Hid (W.drew.there (g i) (j * 12) 12) := Lib.hid ((World.there_drew _ _ _ _).2 HTH.out)
    have HEW : Hid (∀ vs, W.drew.setCells (g i) (j * 12) vs = (W.setCells (g i) (j * 12) vs).drew) := Lib.hid (fun vs => setCells_drew _ vs _ _)
    refine wp_region_still_tail 10 (by kernel_rfl) (by kernel_rfl) ?_
    change wpStill _ _ W.drew _ _ _
    generalize hWD : W.drew = WD at *
    simp only [List.take_succ_cons, List.take_zero, List.drop_succ_cons, List.drop_zero]
    repeat still_step
    refine wpStill_load_row rfl 44 (.tmp 7) rfl w0.heap.size rfl 44 (cw cc) _ HBD.out Try.underlying44 rfl HIc.out ?_
    still_step
    refine wpStill_nil ?_
    subst hWD
    change wpList _ _ _ _ _ W.drew
    refine wpList_store_mid rfl 44 (.tmp 37) (.tmp 36) rfl (g i) (j * 12) (cw cc) rfl rfl (by rw [cw_size, HCC.out]; exact HTD.out) HIc.out (cw_one _) ?_
    rw [show (cw cc).toList = wv cc from rfl, HEW.out]
    go_wp2
    first
      | refine bodyPost_end (results_none rfl _ _ _) rfl ⟨rfl, ?_⟩
      | refine bodyPost_ret (results_none rfl _ _ _) rfl ⟨rfl, ?_⟩
    rw [HL.out]
    refine mem_scratch HB1.out HF.out (w2 := (W.setCells (g i) (j * 12) (wv cc)).drew) ?_ ⟨rb, cap, cur, g, _, (HST.out.keep (w' := (W.setCells (g i) (j * 12) (wv cc)).drew) (Nat.le_refl _) (fun _ _ => rfl)).mono (fun k hk => ?_) (fun k hk => ?_)⟩ (MFrame.refl _ _)
    · exact ⟨HFR2.out.os, HFR2.out.tape, HFR2.out.output, HFR2.out.size, HFR2.out.block⟩
    · unfold Grow at hk ⊢; rw [show (W.setCells (g i) (j * 12) (wv cc)).drew.heap.size = W.heap.size from size_setCells _ _ _ _]; exact hk
    · rw [show (W.setCells (g i) (j * 12) (wv cc)).drew.heap.size = W.heap.size from size_setCells _ _ _ _]
      have := HGR.out.lt k
      refine this ?_
      unfold Grow at hk ⊢; rw [show (W.setCells (g i) (j * 12) (wv cc)).drew.heap.size = W.heap.size from size_setCells _ _ _ _] at hk; exact hk
end Go.Proofs.Ytngpaibppdehdaa
