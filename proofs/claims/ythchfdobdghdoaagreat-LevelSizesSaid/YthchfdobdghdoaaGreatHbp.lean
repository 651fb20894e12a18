/-
  Joined texts: LevA, LevM, LevN.
-/
import Derived.Test.YthchfdobdghdoaaGreatHbo
import Derived.Test.YthchfdobdghdoaaGreatHbm
import Derived.Deep.DeepCutAuto
import Derived.Deep.CutRange
import Derived.Test.YthchfdobdghdoaaGreatHbe
set_option linter.unusedVariables false
set_option linter.unusedSimpArgs false
set_option linter.unusedSectionVars false
set_option linter.unnecessarySimpa false
section

/-
  The walk of a level's access.
-/
namespace Go.Sg
open Go Go.RowKit
/-- the cells of a way, and of the stash -/
def accC (M : Mm) (first : Int) (c : Lc) (fr : Int) : List (List Int) := (spL first c fr).map (fun s => M.read s.1 s.2)
/-- what was there -/
def accO (M : Mm) (first : Int) (c : Lc) (fr id : Int) : List Int × Bool := oldL id (accC M first c fr)
def accT (M : Mm) (first : Int) (c : Lc) (fr lf id op at' : Int) (d : List Int) : Nat → List Int := gatT id lf (edL op at' d (accO M first c fr id).1 (accO M first c fr id).2) (accC M first c fr)
theorem edL_ok {op at' : Int} {d o : List Int} {t : Bool} (hd : d.length = 8 ∧ ∀ x ∈ d, Word x) (ho : o.length = 8 ∧ ∀ x ∈ o, Word x) (hat : op = 2 → 0 ≤ at' ∧ at' ≤ 6) : (edL op at' d o t).1.length = 8 ∧ ∀ x ∈ (edL op at' d o t).1, Word x := by
  unfold edL
  split
  · exact hd
  · split
    · rename_i h
      have := hat h
      refine ⟨partL_len ho.1 hd.1 (by omega), fun x hx => ?_⟩
      unfold partL at hx
      rcases List.mem_append.1 hx with hx | hx
      · rcases List.mem_append.1 hx with hx | hx
        · exact ho.2 x (List.mem_of_mem_take hx)
        · exact hd.2 x (List.mem_of_mem_take hx)
      · exact ho.2 x (List.mem_of_mem_drop hx)
    · exact ho
end Go.Sg
namespace Go.Proofs.YthchfdobdghdoaaGreat
open Go Go.RowKit Go.Sg
variable {w0 w : World} {p : Nat} {M : Mm} {D : Nat → Prop} {X : World → Prop}
section
variable {t T a : Nat}
theorem Z1.there (h : Z1 t T w0 w p M D X a) (l1 : List Value) (h1 : l1.length = 12) : w.there a 0 l1.length := by
  rw [h1]; exact h.one.x.2.there 12 (by decide)
theorem Z1.fill (h : Z1 t T w0 w p M D X a) (l1 : List Value) (h1 : l1.length = 12) : OneX T w0 (w.setCells a 0 l1) p M (fun i => D i ∨ i = a) (fun w' => X w' ∧ Blk w' a l1.toArray t) := by
  have hz : z12.size = 12 := rfl
  refine h.one.turn (fun _ h => h) ((MFrame.refl _ _).setCells l1 0 (.inl ⟨.inr rfl, h.ge⟩)) ⟨?_, blk_all l1 h.one.x.2 (by omega)⟩
  refine h.keeps _ _ (by rw [size_setCells]; exact Nat.le_refl _) (fun i hi => ?_) h.one.x.1
  rw [heap_setCells_ne _ _ _ _ (h.ne i hi)]
end
theorem dealM_evs (M : Mm) (r : Int) (c : Lc) (fr : Int) (T : Nat → List Int) : (dealM M r c fr T).evs.length ≤ M.evs.length + 4 * (lcTab c).toNat + 240000 := by
  unfold dealM dealEv
  rw [Mm.noted_evs, Mm.fill_evs, List.length_append, List.length_append, List.length_append, List.length_append, writesL_len]
  have := evsR_len r (lcTab c)
  omega
theorem dealM_size {M : Mm} {r : Int} {c : Lc} {fr : Int} {T : Nat → List Int} (hs : (lcTab c).toNat ≤ M.size r) (x : Int) : (dealM M r c fr T).size x = M.size x := by
  unfold dealM
  rw [Mm.noted_size, Mm.fill_size (by rw [tab4_len]; exact hs)]
theorem dealM_read {M : Mm} {r : Int} {c : Lc} {fr : Int} {T : Nat → List Int} (h0 : 0 ≤ r) (hs : (lcTab c).toNat ≤ M.size r) {i : Nat} (hi : i < (lcTab c).toNat) : (dealM M r c fr T).read r (i : Int) = (tab4 c fr T).getD i zeros := by
  have hl := tab4_len c fr T
  unfold dealM
  rw [Mm.noted_read, Mm.fill_read h0 (by omega) (by omega), dif_pos (by omega), List.getD_eq_getElem?_getD, List.getElem?_eq_getElem (by omega)]
  rfl
theorem tab4_ok {c : Lc} {fr : Int} {T : Nat → List Int} (hr : lcRight c = true) (hfr : hasB c.1 fr = true) (hT : TabOk c T) : ∀ x ∈ tab4 c fr T, x.length = 12 ∧ ∀ y ∈ x, Word y := by
  intro x hx
  obtain ⟨i, hi, rfl⟩ := List.mem_map.1 ((cxs_perm _ _ _).mem_iff.1 hx)
  exact tab3_ok hr hfr hT (List.mem_range.1 hi)
theorem accU_ok {c : Lc} {fr : Int} {T : Nat → List Int} (hr : lcRight c = true) (hfr : hasB c.1 fr = true) (hT : TabOk c T) {i : Nat} (hi : i < (lcTab c).toNat) : ((tab4 c fr T).getD i zeros).length = 12 ∧ (∀ x ∈ (tab4 c fr T).getD i zeros, Word x) ∧ (accU c fr T i).length = 12 ∧ ∀ x ∈ accU c fr T i, Word x := by
  have hl := tab4_len c fr T
  have h := tab4_ok hr hfr hT _ (List.getElem_mem (show i < (tab4 c fr T).length by omega))
  have e : (tab4 c fr T).getD i zeros = (tab4 c fr T)[i]'(by omega) := by rw [List.getD_eq_getElem?_getD, List.getElem?_eq_getElem (by omega)]; rfl
  have h2 := set_ok h (y := 0) ⟨by decide, by decide⟩
  unfold accU
  rw [e]
  exact ⟨h.1, h.2, h2.1, h2.2⟩
theorem spL_pos {first : Int} {c : Lc} {lf : Int} (h : lcRight c = true) : 0 < (spL first c lf).length := by
  have hb := lcRight_bd h
  unfold spL
  rw [List.length_append, spSt_len]
  omega
theorem hasB_lt {L l : Int} (h : hasB L l = true) : 0 ≤ l ∧ l < L ∧ L ≤ 1024 := by
  obtain ⟨D, hD, rfl, he, h0, h1⟩ := hasB_of h
  have := pow_mono' D 10 (by omega)
  have h5 : (2 : Int) ^ 10 = 1024 := by decide
  exact ⟨h0, h1, by omega⟩
theorem OneX.hit {T O V t1 t2 : Nat} {c1 c2 : Array Value} (l : List Value) (hK : Keeps D X) (hne : ∀ k, D k → k ≠ O ∧ k ≠ V) (hOV : O ≠ V) (h : OneX T w0 w p M (fun i => (D i ∨ i = O) ∨ i = V) (fun w => (X w ∧ Blk w O c1 t1) ∧ Blk w V c2 t2)) (hw : w0.heap.size ≤ O ∧ w0.heap.size ≤ V) (hl : c1.size = l.length) (n2 : Array Value) :
    Blk (w.drew.setCells O 0 l) V c2 t2 ∧ OneX T w0 ((w.drew.setCells O 0 l).setRow V n2) p M (fun i => (D i ∨ i = O) ∨ i = V) (fun w => (X w ∧ Blk w O l.toArray t1) ∧ Blk w V n2 t2) := by
  have hd := h.drew (keeps_and (keeps_and hK (keeps_blk O c1 t1)) (keeps_blk V c2 t2))
  have b1 := hd.x.1.2
  have b2 := hd.x.2
  have b3 : Blk (w.drew.setCells O 0 l) V c2 t2 := by
    unfold Blk at b2 ⊢
    rw [heap_setCells_ne _ _ _ _ (Ne.symm hOV)]
    exact b2
  have b4 := blk_all l b1 hl
  refine ⟨b3, hd.turn (fun _ h => h) (mframe_setRow ((MFrame.refl _ _).setCells l 0 (.inl ⟨.inl (.inr rfl), hw.1⟩)) ⟨.inr rfl, hw.2⟩ _) ⟨⟨?_, b4.rowOther n2 hOV⟩, b3.setRow _⟩⟩
  refine hK _ _ (by simp [World.setRow, size_setCells]) (fun i hi => ?_) hd.x.1.1
  have := hne i hi
  rw [setRow_other _ _ _ _ this.2, heap_setCells_ne _ _ _ _ this.1]
set_option maxHeartbeats 8000000 in
set_option maxRecDepth 100000 in
theorem laccess_any (hK : Keeps D X) (c : Lc) (hc : LcOk c) (hr : lcRight c = true) (fr lf : Int) (hfr : hasB c.1 fr = true) (hlf : hasB c.1 lf = true) (first : Int) (hf : 0 ≤ first ∧ first ≤ 1099511627776) (id : Int) (hid : 0 ≤ id ∧ id ≤ 2147483648)
    (op at' : Int) (d : List Int) (hd : d.length = 8) (hdw : ∀ x ∈ d, Word x) (hop : 0 ≤ op ∧ op ≤ 3) (hat : op = 2 → 0 ≤ at' ∧ at' ≤ 6) (bo bd ba q ib : Nat) (over : Bool) (hq : ∀ k, D k → k ≠ q) (hqo : w0.heap.size ≤ q)
    (hx : ∀ w, X w → Blk w bo #[.int .i64 op] 3 ∧ Blk w bd (cw d) 61 ∧ Blk w ba #[.int .i64 at'] 3)
    (hsp : ∀ s ∈ spL first c fr, M.has s.1 s.2 = true ∧ CellOk c.1 (M.read s.1 s.2)) (hs : (lcTab c).toNat ≤ M.size (first + 2)) (hN : M.evs.length ≤ 1099500000000)
    (h : OneX 88 w0 w p M (fun k => D k ∨ k = q) (fun w => X w ∧ Blk w q (lvV c p first over ib) 92)) :
    Calls Tryz.prog 52 #[.pointer (some ⟨q, 0, none⟩), .int .u64 id, .int .i64 fr, .int .i64 lf, .func (.func 53) #[] #[.pointer (some ⟨bo, 0, none⟩), .pointer (some ⟨bd, 0, none⟩), .pointer (some ⟨ba, 0, none⟩)]] w fun e w' =>
      e = .returned (.tuple #[.agg (cw (accO M first c fr id).1), .bool (accO M first c fr id).2]) ∧
      OneX 88 w0 w' p (accM M first c fr (accT M first c fr lf id op at' d)) (fun k => D k ∨ k = q) (fun w => X w ∧ Blk w q (lvV c p first (over || decide (0 < (lostL c fr (accT M first c fr lf id op at' d)).length)) ib) 92) := by
  have hN2 : M.evs.length ≤ 1099500000000 := hN
  have hlfb := hasB_lt hlf
  have hlen := spL_len (first := first) hr hfr
  have hbT := lcTab_bd c
  have hpT := placesD_bd (lcSh c)
  have HSP := Lib.hid (fun w' => spots_any c hc hr first fr hf hfr w')
  have HT := Lib.hid (fun w' => table_any c hc w')
  have HX := Lib.hid h
  have HXX := Lib.hid hx
  have hreg : ∀ s ∈ spL first c fr, s.1 ≠ first + 2 := fun s hs => by rcases spL_reg s hs with h | h <;> omega
  have hok := h.ok
  obtain ⟨sz, hsz⟩ : ∃ sz : Nat, lcTab c = sz := ⟨(lcTab c).toNat, by omega⟩
  have hszN : (lcTab c).toNat = sz := by omega
  -- the gathered table
  have hcs : ∀ x ∈ accC M first c fr, CellOk c.1 x := fun x hx => by
    obtain ⟨s, hs, rfl⟩ := List.mem_map.1 hx
    exact (hsp s hs).2
  have hold : (accO M first c fr id).1.length = 8 ∧ ∀ x ∈ (accO M first c fr id).1, Word x := oldL_ok id (accC M first c fr) (fun x hx => ⟨(hcs x hx).1, (hcs x hx).2.1⟩)
  have hed := edL_ok (t := (accO M first c fr id).2) ⟨hd, hdw⟩ hold hat
  have hnow : CellOk c.1 (nowC id lf (edL op at' d (accO M first c fr id).1 (accO M first c fr id).2)) := by
    unfold nowC
    split
    · exact blkC_ok hlfb.2.2 hid hlf ⟨hlfb.1, hlfb.2.1⟩ hed.1 hed.2
    · exact zeros_ok _
  have hTok : ∀ i, CellOk c.1 (accT M first c fr lf id op at' d i) := gatT_ok hcs hnow
  have hT1 : ∀ k (hk : k < (spL first c fr).length), accT M first c fr lf id op at' d k = offC id (M.read ((spL first c fr)[k]).1 ((spL first c fr)[k]).2) := fun k hk => by
    unfold accT
    rw [gatT_lt (by unfold accC; rw [List.length_map]; exact hk)]
    simp [accC]
  have hCl : (accC M first c fr).length = (spL first c fr).length := by unfold accC; rw [List.length_map]
  have hT2 : accT M first c fr lf id op at' d (spL first c fr).length = nowC id lf (edL op at' d (accO M first c fr id).1 (accO M first c fr id).2) := by
    unfold accT
    rw [← hCl, gatT_eq]
  have hT3 : ∀ i, (spL first c fr).length < i → accT M first c fr lf id op at' d i = zeros := fun i hi => by
    unfold accT
    rw [gatT_gt (by rw [hCl]; exact hi)]
  have hOs : ∀ k (hk : k < (spL first c fr).length), oldL id ((accC M first c fr).take (k + 1)) = if hitC id (M.read ((spL first c fr)[k]).1 ((spL first c fr)[k]).2) then (dataC (M.read ((spL first c fr)[k]).1 ((spL first c fr)[k]).2), true) else oldL id ((accC M first c fr).take k) := fun k hk => by
    rw [List.take_succ_eq_append_getElem (by rw [hCl]; exact hk), oldL_snoc]
    simp [accC]
  have hOn : oldL id ((accC M first c fr).take (spL first c fr).length) = accO M first c fr id := by
    rw [← hCl, List.take_length]; rfl
  have hOl : ∀ k, (oldL id ((accC M first c fr).take k)).1.length = 8 := fun k => (oldL_ok id _ (fun x hx => ⟨(hcs x (List.mem_of_mem_take hx)).1, (hcs x (List.mem_of_mem_take hx)).2.1⟩)).1
  have hO0 : oldL id ((accC M first c fr).take 0) = (zero8, false) := rfl
  unfold accM
  rw [hszN]
  generalize hTT : accT M first c fr lf id op at' d = T at *
  generalize hOO : (fun k => oldL id ((accC M first c fr).take k)) = OO at *
  have hOe : ∀ k, oldL id ((accC M first c fr).take k) = OO k := fun k => by rw [← hOO]
  simp only [hOe] at hOs hOn hOl hO0
  generalize accO M first c fr id = oE at *
  generalize hspe : spL first c fr = sp at *
  have hn : sp.length < sz := by omega
  have hn0 : 0 < sp.length := by rw [← hspe]; exact spL_pos hr
  clear hcs hold hnow hCl hOe hOO hTT hbT hpT hlen h hx hN
  have HSPh : Hid (∀ s ∈ sp, M.has s.1 s.2 = true ∧ s.1 ≠ first + 2) := Lib.hid fun s hs => ⟨(hsp s hs).1, hreg s hs⟩
  have HSPl := Lib.hid hspe
  have HTOK := Lib.hid hTok
  have HT1 := Lib.hid hT1
  have HT2 := Lib.hid hT2
  have HT3 := Lib.hid hT3
  have HOS := Lib.hid hOs
  have HON := Lib.hid hOn
  have HOL := Lib.hid hOl
  have HO0 := Lib.hid hO0
  have HSZN := Lib.hid hszN
  have HSZI := Lib.hid hsz
  have HED := Lib.hid hed
  have HMOK := Lib.hid hok
  have HM0 : Hid (sz ≤ M.size (first + 2)) := Lib.hid (by omega)
  have hsz256 : sz ≤ 256 := by have := (lcTab_bd c); omega
  have HFR := Lib.hid hfr
  have HHQ := Lib.hid hq
  clear hsp hreg hTok hT1 hT2 hT3 hOs hOn hOl hO0 hszN hed hok hs hspe hfr hq
  rw [hsz] at HT
  clear hsz
  -- the walk
  have hzd : (cw zero8) = #[.int .u64 0, .int .u64 0, .int .u64 0, .int .u64 0, .int .u64 0, .int .u64 0, .int .u64 0, .int .u64 0] := rfl
  obtain ⟨O, hO⟩ : ∃ O, w.heap.size = O := ⟨_, rfl⟩
  have h1 := HX.out.box (keeps_and hK (keeps_blk q (lvV c p first over ib) 92)) (cw zero8) 61
  rw [hzd] at h1
  obtain ⟨w1, hw1⟩ : ∃ w1, w.alloc (.cells #[.int .u64 0, .int .u64 0, .int .u64 0, .int .u64 0, .int .u64 0, .int .u64 0, .int .u64 0, .int .u64 0] 61) = w1 := ⟨_, rfl⟩
  rw [hw1, hO] at h1
  have hqO : q < O := by rw [← hO]; exact HX.out.ltD q (.inr rfl)
  have H1 := Lib.hid h1
  have HKq := Lib.hid (keeps_and hK (keeps_blk q (lvV c p first over ib) 92))
  have HK := Lib.hid hK
  have HOO' : Hid (w.heap.size = O) := Lib.hid hO
  have HW1 := Lib.hid hw1
  have hwO : w0.heap.size ≤ O := by rw [← hO]; exact HX.out.old.size
  have HDO : Hid (∀ k, D k ∨ k = q → k < O) := Lib.hid fun k hk => by rw [← HOO'.out]; exact HX.out.ltD k hk
  have HKE := Lib.hid (keeps_and HKq.out (keeps_blk O (cw zero8) 61))
  rw [hzd] at HKE
  have HQC : Hid (∀ w' E, (X w' ∧ Blk w' q (lvV c p first over ib) 92) ∧ E → (w'.cell? ⟨q, 0, none⟩ = some (.int .i64 c.1) ∧ w'.cell? ⟨q, 1, none⟩ = some (.int .i64 c.2.1) ∧ w'.cell? ⟨q, 2, none⟩ = some (.int .i64 c.2.2)) ∧ w'.cell? ⟨q, 3, none⟩ = some (.pointer (some ⟨p, 0, none⟩)) ∧ w'.cell? ⟨q, 4, none⟩ = some (.int .i64 first)) := Lib.hid fun w' E h => ⟨⟨h.1.2.cell 0, h.1.2.cell 1, h.1.2.cell 2⟩, h.1.2.cell 3, h.1.2.cell 4⟩
  have hd1 := h1.drew HKE.out
  have hc0 := HQC.out _ _ hd1.x
  have hb1 : Below w1.heap.size w1 w1.drew := (Below.refl _ _).drew
  clear h1 hw1 hK hO HKE
  have HS1 : Hid (∀ w', Below w1.heap.size w1 w' → (w'.cell? ⟨q, 0, none⟩ = some (.int .i64 c.1) ∧ w'.cell? ⟨q, 1, none⟩ = some (.int .i64 c.2.1) ∧ w'.cell? ⟨q, 2, none⟩ = some (.int .i64 c.2.2)) ∧ w'.cell? ⟨q, 3, none⟩ = some (.pointer (some ⟨p, 0, none⟩)) ∧ w'.cell? ⟨q, 4, none⟩ = some (.int .i64 first)) := Lib.hid fun w' hb => by
    have hh := H1.out.below (keeps_and HKq.out (keeps_blk O _ _)) hb
    exact HQC.out _ _ hh.x
  go_enter Tryz.func52, Tryz.ntmps52
  go_upto_region 1 with fail
  rw [HW1.out, HOO'.out]
  go_region_held3 (fun w' => (w'.cell? ⟨q, 0, none⟩ = some (.int .i64 c.1) ∧ w'.cell? ⟨q, 1, none⟩ = some (.int .i64 c.2.1) ∧ w'.cell? ⟨q, 2, none⟩ = some (.int .i64 c.2.2)) ∧ w'.cell? ⟨q, 3, none⟩ = some (.pointer (some ⟨p, 0, none⟩)) ∧ w'.cell? ⟨q, 4, none⟩ = some (.int .i64 first)) (first | exact HS1.out _ hb1 | exact HS1.out _ (hb1.trans (hb2.mono hb1.size))) (first
    | (go_at_call 47; with_reducible refine (HSP.out _).mono ?_; rintro e w2 ⟨sv, rfl, hown, hb2⟩))
  obtain ⟨G, cap, cur, hsv, hGO, hGb, hcap1, hcap2, hcurt⟩ : ∃ G cap cur, sv = .slice (some ⟨G, 0, none⟩) sp.length cap ∧ w1.heap.size ≤ G ∧ Blk w2 G cur 99 ∧ sp.length ≤ cap ∧ cap ≤ maxLen ∧ cur.toList.take (sp.length * 2) = flatV spV sp := by
    rcases hown.2 with ⟨-, h0⟩ | ⟨g, cap, cur, e, hb, hg, hn, hm, hsz', ht⟩
    · omega
    · exact ⟨g, cap, cur, e, hb, hg, hn, hm, by have := congrArg List.length ht; rw [flatV_len spV_k, List.length_take, Array.length_toList] at this; rw [← ht]⟩
  subst hsv
  unfold maxLen at hcap2
  have hrng : w2.rangeAt G 0 (flatV spV sp) := fun j u hu => by
    rw [Nat.zero_add, hGb.cell]
    rw [← hcurt, List.getElem?_take] at hu
    split at hu
    · simpa using hu
    · cases hu
  obtain ⟨D2, hD2⟩ : ∃ D2 : Nat → Prop, D2 = fun k => (D k ∨ k = q) ∨ k = G := ⟨_, rfl⟩
  obtain ⟨X2, hX2⟩ : ∃ X2 : World → Prop, X2 = fun w => (X w ∧ Blk w q (lvV c p first over ib) 92) ∧ w.rangeAt G 0 (flatV spV sp) := ⟨_, rfl⟩
  have hK2 : Keeps D2 X2 := by rw [hD2, hX2]; exact keeps_and HKq.out (keeps_range G 0 _)
  have h2 : OneX 88 w0 w2 p (gatM M (first + 2) sp T 0) (fun k => D2 k ∨ k = O) (fun w => X2 w ∧ Blk w O (cw (OO 0).1) 61) := by
    rw [gatM_zero, HO0.out, hD2, hX2]
    have hr1 := (H1.out.drew (keeps_and HKq.out (keeps_blk O _ _))).ret (keeps_and HKq.out (keeps_blk O _ _)) (E := fun k => k = G) (Y := fun w => w.rangeAt G 0 (flatV spV sp)) hb2 (fun k hk => ⟨by rw [hk]; exact hGO, by rw [hk]; exact hGb.lt⟩) hrng
    refine hr1.less (fun k hk => ?_) (fun hx => ⟨⟨hx.1.1, hx.2⟩, hx.1.2⟩)
    rcases hk with (hk | hk) | hk
    · exact .inl (.inl hk)
    · exact .inr hk
    · exact .inl (.inr hk)
  have hO1 : O < w1.heap.size := H1.out.ltD O (.inr rfl)
  have HDO2 : Hid (∀ k, D2 k → k ≠ O) := Lib.hid fun k hk => by
    rw [hD2] at hk
    rcases hk with hk | hk
    · have := HDO.out k hk; omega
    · omega
  have HXQ : Hid (∀ w', X2 w' → (w'.cell? ⟨q, 0, none⟩ = some (.int .i64 c.1) ∧ w'.cell? ⟨q, 1, none⟩ = some (.int .i64 c.2.1) ∧ w'.cell? ⟨q, 2, none⟩ = some (.int .i64 c.2.2)) ∧ w'.cell? ⟨q, 3, none⟩ = some (.pointer (some ⟨p, 0, none⟩)) ∧ w'.cell? ⟨q, 4, none⟩ = some (.int .i64 first)) := Lib.hid fun w' h => by rw [hX2] at h; exact HQC.out _ _ h
  have HXG : Hid (∀ w', X2 w' → w'.rangeAt G 0 (flatV spV sp)) := Lib.hid fun w' h => by rw [hX2] at h; exact h.2
  have HX2X : Hid (X2 = fun w => (X w ∧ Blk w q (lvV c p first over ib) 92) ∧ w.rangeAt G 0 (flatV spV sp)) := Lib.hid hX2
  have HD2D : Hid (D2 = fun k => (D k ∨ k = q) ∨ k = G) := Lib.hid hD2
  have HGw0 : Hid (w0.heap.size ≤ G ∧ q < G ∧ O < G) := Lib.hid ⟨by omega, by omega, by omega⟩
  have HK2 := Lib.hid hK2
  have H2 := Lib.hid h2
  have HO2 : Hid ((OO 0).2 = false) := Lib.hid (by rw [HO0.out])
  have wf2 : IntKind.i64.wrap (first + 2) = first + 2 := by rw [IntKind.wrap_i64]; omega
  clear hown hb2 hGO hGb hcurt hrng hD2 hX2 hK2 h2 HSP hd1 hc0 hb1 HS1
  go_wp2_with fail
  go_loopw [11, 13, 14, 15, 35] (fun tv _ _ _ iv wr => ∃ k : Nat, k ≤ sp.length ∧ iv = .int .i64 k ∧ tv = .bool (OO k).2 ∧ Hid (OneX 88 w0 wr p (gatM M (first + 2) sp T k) (fun j => D2 j ∨ j = O) (fun w => X2 w ∧ Blk w O (cw (OO k).1) 61))) (fun _ _ _ _ iv _ => sp.length - (intOf iv).toNat)
  case atStart => exact ⟨0, by omega, rfl, by rw [HO2.out], H2⟩
  case round =>
    obtain ⟨k, hk, rfl, rfl, HXr⟩ := hrel
    by_cases hlt : k < sp.length
    · have dk : decide ((k : Int) < (sp.length : Int)) = true := decide_eq_true (by omega)
      have dk' : decide (k < sp.length) = true := decide_eq_true hlt
      have k0 : (0 : Int) ≤ (k : Int) := by omega
      have k1 : (k : Int) < (sp.length : Int) := by omega
      have hrg := range_flat spV_k (HXG.out _ HXr.out.x.1) hlt
      have hsk := HSPh.out _ (List.getElem_mem hlt)
      have hT1 := HT1.out k hlt
      have hOs := HOS.out k hlt
      have hst := gatM_stepA (T := T) (k := k) (show 0 ≤ first + 2 by omega) (by have := HM0.out; omega) hlt hsk.1
      have hrd := gatM_read_other (T := T) (k := k) (sp := sp) (show k ≤ M.size (first + 2) by have := HM0.out; omega) (show 0 ≤ first + 2 by omega) hsk.2 (sp[k]).2
      have hwc := Mm.read_ok HMOK.out (sp[k]).1 (sp[k]).2
      have hev := gatM_evs (M := M) (r := first + 2) (sp := sp) (T := T) k
      obtain ⟨s, hs⟩ : ∃ s, sp[k] = s := ⟨_, rfl⟩
      rw [hs] at hrg hsk hT1 hOs hst hrd hwc
      have r0 : wr.cell? ⟨G, k * 2, none⟩ = some (.int .i64 s.1) := by have := hrg 0 _ rfl; rwa [Nat.zero_add, Nat.add_zero] at this
      have r1 : wr.cell? ⟨G, k * 2 + 1, none⟩ = some (.int .i64 s.2) := by have := hrg 1 _ rfl; rwa [Nat.zero_add] at this
      have hTk := HTOK.out k
      have HSTP := Lib.hid hst
      have HOSk := Lib.hid hOs
      have HT1k := Lib.hid hT1
      have HTKo : Hid ((T k).length = 12 ∧ ∀ x ∈ T k, Word x) := Lib.hid ⟨hTk.1, hTk.2.1⟩
      have K1 := Lib.hid (fun w' (D' : Nat → Prop) (X' : World → Prop) (hK' : Keeps D' X') (h' : OneX 88 w0 w' p (gatM M (first + 2) sp T k) D' X') => one_read hK' s.1 s.2 h' (by omega))
      rw [hrd] at K1
      have hlk := look_evs_le (gatM M (first + 2) sp T k) s.1 s.2 false
      obtain ⟨M1, hM1⟩ : ∃ M1, (gatM M (first + 2) sp T k).look s.1 s.2 false = M1 := ⟨_, rfl⟩
      rw [hM1] at K1 HSTP hlk
      obtain ⟨B, hB⟩ : ∃ B, wr.heap.size = B := ⟨_, rfl⟩
      have h5 := HXr.out.box (keeps_and HK2.out (keeps_blk O _ _)) #[.int .i64 s.1, .int .i64 s.2] 99
      rw [hB] at h5
      have H5 := Lib.hid h5
      have HMB : Hid (wr.heap.size = B) := Lib.hid hB
      clear hrg hsk hT1 hOs hst hrd hs hM1 hTk h5 hB
      generalize M.read s.1 s.2 = cr at *
      obtain ⟨xs, hxs⟩ : ∃ xs, wv cr = xs := ⟨_, rfl⟩
      rw [cw_eq, hxs] at K1
      have hlx : xs.length = 12 := by rw [← hxs, wv_len, hwc.1]
      have hox : ∀ v ∈ xs, v.oneCell' = true := by rw [← hxs]; exact wv_one cr
      have hix : (Tryz.prog.info? 74).map (·.size) = some xs.length := by rw [← hxs]; exact info_cF cr hwc.1
      have HXS := Lib.hid hxs
      have HWC := Lib.hid hwc
      have KR := K1
      clear hxs hwc K1
      go_upto_region 5 with fail
      rw [HMB.out]
      refine at_world (fun w' => OneX 88 w0 w' p (gatM M (first + 2) sp T k) (fun j => (D2 j ∨ j = O) ∨ j = B) (fun w' => (X2 w' ∧ Blk w' O (cw (OO k).1) 61) ∧ Blk w' B #[.int .i64 s.1, .int .i64 s.2] 99)) H5.out ?_
      intro w3 hX3
      have hK3 := keeps_and (keeps_and HK2.out (keeps_blk O (cw (OO k).1) 61)) (keeps_blk B #[.int .i64 s.1, .int .i64 s.2] 99)
      obtain ⟨D3, hD3⟩ : ∃ D3 : Nat → Prop, D3 = fun j => (D2 j ∨ j = O) ∨ j = B := ⟨_, rfl⟩
      obtain ⟨X3, hX3e⟩ : ∃ X3 : World → Prop, X3 = fun w' => (X2 w' ∧ Blk w' O (cw (OO k).1) 61) ∧ Blk w' B #[.int .i64 s.1, .int .i64 s.2] 99 := ⟨_, rfl⟩
      rw [← hD3, ← hX3e] at hX3 hK3
      have HXC : Hid (∀ w', X3 w' → w'.cell? ⟨q, 3, none⟩ = some (.pointer (some ⟨p, 0, none⟩)) ∧ w'.cell? ⟨B, 0, none⟩ = some (.int .i64 s.1) ∧ w'.cell? ⟨B, 1, none⟩ = some (.int .i64 s.2)) := Lib.hid fun w' h => by rw [hX3e] at h; exact ⟨(HXQ.out _ h.1.1).2.1, h.2.cell 0, h.2.cell 1⟩
      have HLS : Hid (∀ (w' : World) (N : Mm) (V : Nat) (vs : Array Value), OneX 88 w0 w' p N (fun j => D3 j ∨ j = V) (fun w => X3 w ∧ Blk w V vs 74) → OneX 88 w0 w' p N (fun j => (D2 j ∨ j = O) ∨ j = V) (fun w => (X2 w ∧ Blk w O (cw (OO k).1) 61) ∧ Blk w V vs 74)) := Lib.hid fun w' N V vs h => by
        rw [hD3, hX3e] at h
        refine h.less (fun j hj => ?_) (fun hx => ⟨hx.1.1, hx.2⟩)
        rcases hj with hj | hj
        · exact .inl (.inl hj)
        · exact .inr hj
      have HD3 : Hid (∀ j, D2 j ∨ j = O → D3 j) := Lib.hid fun j hj => by rw [hD3]; exact .inl hj
      have z0 : Z0 88 w0 w3.drew p (gatM M (first + 2) sp T k) D3 X3 := ⟨hK3, hX3.drew hK3⟩
      clear hD3 hX3e hX3 hK3 H5 HXr r0 r1 H2
      go_cut [15] (fun o wx => ∃ V : Nat, o = .pointer (some ⟨V, 0, none⟩) ∧ Hid (OneX 88 w0 wx p M1 (fun j => D3 j ∨ j = V) (fun w' => X3 w' ∧ Blk w' V xs.toArray 74) ∧ (∀ j, D3 j → j ≠ V) ∧ w0.heap.size ≤ V))
      case first =>
        refine wp_region_held_drew (S := fun w' => w'.cell? ⟨q, 3, none⟩ = some (.pointer (some ⟨p, 0, none⟩)) ∧ w'.cell? ⟨B, 0, none⟩ = some (.int .i64 s.1) ∧ w'.cell? ⟨B, 1, none⟩ = some (.int .i64 s.2)) (by kernel_rfl) (HXC.out _ z0.x) (fun hHeld => ?_)
        refine wpAnyH_take (i := 0) (oi := _) (v := ?_) rfl (by kernel_rfl) (by kernel_rfl) (by kernel_rfl) (fun _ _ _ h => h) (Or.inl ⟨by rfl, ?_⟩) (by assumption) ?_
        rotate_left
        · (intro wS hSw; (try dsimp only at hSw); go_simp; try with_reducible rfl)
        try simp only [Act.put, List.setIfInBounds_toArray, List.set_cons_zero, List.set_cons_succ]
        refine wpAnyH_take (i := 1) (oi := _) (v := ?_) rfl (by kernel_rfl) (by kernel_rfl) (by kernel_rfl) (fun _ _ _ h => h) (Or.inl ⟨by rfl, ?_⟩) (by assumption) ?_
        rotate_left
        · (intro wS hSw; (try dsimp only at hSw); go_simp; try with_reducible rfl)
        try simp only [Act.put, List.setIfInBounds_toArray, List.set_cons_zero, List.set_cons_succ]
        refine wpAnyH_take (i := 2) (oi := _) (v := ?_) rfl (by kernel_rfl) (by kernel_rfl) (by kernel_rfl) (fun _ _ _ h => h) (Or.inl ⟨by rfl, ?_⟩) (by assumption) ?_
        rotate_left
        · (intro wS hSw; (try dsimp only at hSw); go_simp; try with_reducible rfl)
        try simp only [Act.put, List.setIfInBounds_toArray, List.set_cons_zero, List.set_cons_succ]
        refine wpAnyH_take (i := 3) (oi := _) (v := ?_) rfl (by kernel_rfl) (by kernel_rfl) (by kernel_rfl) (fun _ _ _ h => h) (Or.inl ⟨by rfl, ?_⟩) (by assumption) ?_
        rotate_left
        · (intro wS hSw; (try dsimp only at hSw); go_simp; try with_reducible rfl)
        try simp only [Act.put, List.setIfInBounds_toArray, List.set_cons_zero, List.set_cons_succ]
        refine wpAnyH_take (i := 4) (oi := _) (v := ?_) rfl (by kernel_rfl) (by kernel_rfl) (by kernel_rfl) (fun _ _ _ h => h) (Or.inl ⟨by rfl, ?_⟩) (by assumption) ?_
        rotate_left
        · (intro wS hSw; (try dsimp only at hSw); go_simp; try with_reducible rfl)
        try simp only [Act.put, List.setIfInBounds_toArray, List.set_cons_zero, List.set_cons_succ]
        refine wpAnyH_take (i := 5) (oi := _) (v := ?_) rfl (by kernel_rfl) (by kernel_rfl) (by kernel_rfl) (fun _ _ _ h => h) (Or.inl ⟨by rfl, ?_⟩) (by assumption) ?_
        rotate_left
        · (intro wS hSw; (try dsimp only at hSw); go_simp; try with_reducible rfl)
        try simp only [Act.put, List.setIfInBounds_toArray, List.set_cons_zero, List.set_cons_succ]
        refine wpAnyH_take (i := 6) (oi := _) (v := ?_) rfl (by kernel_rfl) (by kernel_rfl) (by kernel_rfl) (fun _ _ _ h => h) (Or.inl ⟨by rfl, ?_⟩) (by assumption) ?_
        rotate_left
        · (intro wS hSw; (try dsimp only at hSw); go_simp; try with_reducible rfl)
        try simp only [Act.put, List.setIfInBounds_toArray, List.set_cons_zero, List.set_cons_succ]
        refine wpAnyH_take (i := 7) (oi := _) (v := ?_) rfl (by kernel_rfl) (by kernel_rfl) (by kernel_rfl) (fun _ _ _ h => h) (Or.inl ⟨by rfl, ?_⟩) (by assumption) ?_
        rotate_left
        · (intro wS hSw; (try dsimp only at hSw); go_simp; try with_reducible rfl)
        try simp only [Act.put, List.setIfInBounds_toArray, List.set_cons_zero, List.set_cons_succ]
        refine wpAnyH_ready (rs := [8, 9]) (by kernel_rfl) (by simp) ?_
        refine (AllReadyH.cons (o := _) rfl (fun K hK => ?_) (AllReadyH.cons (o := _) rfl (fun K hK => ?_) AllReadyH.nil))
        focus
          go_simp
          refine (z0.call (fun D' X' hK' h' => KR.out _ D' X' hK' h')).mono ?_
          rintro e wz1 ⟨rfl, z1⟩
          refine hK.out _ _ (HXC.out _ z1.x) (fun hHeld => ?_)
          clear hK K
          try simp only [Act.put, List.setIfInBounds_toArray, List.set_cons_zero, List.set_cons_succ]
          refine wpAnyH_ready (rs := [9]) (by kernel_rfl) (by simp) ?_
          refine (AllReadyH.cons (o := _) rfl (fun K hK => ?_) AllReadyH.nil)
          focus
            go_simp
            have z2 := z1.alloc (t := 74)
            try simp only [World.size_alloc] at z2
            refine hK.out _ _ (HXC.out _ z2.x) (fun hHeld => ?_)
            clear hK K
            try simp only [Act.put, List.setIfInBounds_toArray, List.set_cons_zero, List.set_cons_succ]
            refine wpAnyH_ready (rs := [10]) (by kernel_rfl) (by simp) ?_
            refine (AllReadyH.cons (o := _) rfl (fun K hK => ?_) AllReadyH.nil)
            rw [if_pos (by rfl)]
            refine wp_store_mid _ _ _ rfl _ 0 xs.toArray rfl rfl (z2.there xs hlx) hix (all_oneCell_toArray hox) ?_
            refine hK.out _ _ (HXC.out _ (z2.fill xs hlx).x.1) (fun hHeld => ?_)
            clear hK K
            try simp only [Act.put, List.setIfInBounds_toArray, List.set_cons_zero, List.set_cons_succ]
            refine wpAnyH_done (by kernel_rfl) ?_ _
            go_wp2_with fail
            go_meet
            exact ⟨_, rfl, Lib.hid ⟨z2.fill xs hlx, z2.ne, z2.ge⟩⟩
        focus
          go_simp
          have z3 := z0.alloc (t := 74)
          try simp only [World.size_alloc] at z3
          refine hK.out _ _ (HXC.out _ z3.x) (fun hHeld => ?_)
          clear hK K
          try simp only [Act.put, List.setIfInBounds_toArray, List.set_cons_zero, List.set_cons_succ]
          refine wpAnyH_ready (rs := [8]) (by kernel_rfl) (by simp) ?_
          refine (AllReadyH.cons (o := _) rfl (fun K hK => ?_) AllReadyH.nil)
          focus
            go_simp
            refine (z3.call (fun D' X' hK' h' => KR.out _ D' X' hK' h')).mono ?_
            rintro e wz4 ⟨rfl, z4⟩
            refine hK.out _ _ (HXC.out _ z4.x) (fun hHeld => ?_)
            clear hK K
            try simp only [Act.put, List.setIfInBounds_toArray, List.set_cons_zero, List.set_cons_succ]
            refine wpAnyH_ready (rs := [10]) (by kernel_rfl) (by simp) ?_
            refine (AllReadyH.cons (o := _) rfl (fun K hK => ?_) AllReadyH.nil)
            rw [if_pos (by rfl)]
            refine wp_store_mid _ _ _ rfl _ 0 xs.toArray rfl rfl (z4.there xs hlx) hix (all_oneCell_toArray hox) ?_
            refine hK.out _ _ (HXC.out _ (z4.fill xs hlx).x.1) (fun hHeld => ?_)
            clear hK K
            try simp only [Act.put, List.setIfInBounds_toArray, List.set_cons_zero, List.set_cons_succ]
            refine wpAnyH_done (by kernel_rfl) ?_ _
            go_wp2_with fail
            go_meet
            exact ⟨_, rfl, Lib.hid ⟨z4.fill xs hlx, z4.ne, z4.ge⟩⟩
      case rest =>
      obtain ⟨V, rfl, HZ⟩ := hcut
      generalize wc = w4 at *
      obtain ⟨hZ, hneV, hVge⟩ := HZ.out
      have hZ4 := HLS.out _ _ _ _ hZ
      have HNV : Hid ((∀ j, D2 j → j ≠ O ∧ j ≠ V) ∧ O ≠ V ∧ w0.heap.size ≤ V) := Lib.hid ⟨fun j hj => ⟨HDO2.out j hj, hneV j (HD3.out j (.inl hj))⟩, hneV O (HD3.out O (.inr rfl)), hVge⟩
      have HZ4 := Lib.hid hZ4
      have bV := hZ4.x.2
      have hwc := HWC.out
      have g0 : cr.getD 0 0 = cr[0] := by simp [hwc.1]
      have g1 : cr.getD 1 0 = cr[1] := by simp [hwc.1]
      have v0 : w4.cell? ⟨V, 0, none⟩ = some (.int .u64 (cr.getD 0 0)) := by rw [bV.cell, ← HXS.out, g0]; simp [wv, hwc.1]
      have v1 : w4.cell? ⟨V, 1, none⟩ = some (.int .u64 (cr.getD 1 0)) := by rw [bV.cell, ← HXS.out, g1]; simp [wv, hwc.1]
      have hcase : ((cr.getD 0 0 == 1) = true ∧ (cr.getD 1 0 == id) = true ∧ Hid (hitC id cr = true)) ∨ ((cr.getD 0 0 == 1) = true ∧ (cr.getD 1 0 == id) = false ∧ Hid (hitC id cr = false)) ∨ ((cr.getD 0 0 == 1) = false ∧ Hid (hitC id cr = false)) := by
        unfold hitC
        by_cases e0 : cr.getD 0 0 = 1
        · by_cases e1 : cr.getD 1 0 = id
          · exact .inl ⟨beq_iff_eq.2 e0, beq_iff_eq.2 e1, Lib.hid (by rw [decide_eq_true e0, decide_eq_true e1]; rfl)⟩
          · exact .inr (.inl ⟨beq_iff_eq.2 e0, beq_eq_false_iff_ne.2 e1, Lib.hid (by rw [decide_eq_true e0, decide_eq_false e1]; rfl)⟩)
        · exact .inr (.inr ⟨beq_eq_false_iff_ne.2 e0, Lib.hid (by rw [decide_eq_false e0]; rfl)⟩)
      have KW := Lib.hid (fun w' (D' : Nat → Prop) (X' : World → Prop) (hK' : Keeps D' X') (h' : OneX 88 w0 w' p M1 D' X') => one_write hK' (first + 2) (k : Int) (T k) HTKo.out.1 HTKo.out.2 h' (by omega))
      rw [HSTP.out] at KW
      obtain ⟨ys, hys⟩ : ∃ ys, wv (T k) = ys := ⟨_, rfl⟩
      rw [cw_eq, hys] at KW
      have HYS := Lib.hid hys
      have hic : (Tryz.prog.info? 74).map (·.size) = some ys.length := by rw [← hys]; exact info_cF (T k) HTKo.out.1
      have hoc : ∀ v ∈ ys, v.oneCell' = true := by rw [← hys]; exact wv_one (T k)
      have HIY := Lib.hid hic
      obtain ⟨y0, hy0⟩ : ∃ y, cr.getD 0 0 = y := ⟨_, rfl⟩
      obtain ⟨y1, hy1⟩ : ∃ y, cr.getD 1 0 = y := ⟨_, rfl⟩
      rw [hy0] at hcase v0
      rw [hy1] at hcase v1
      have hq34 := HXQ.out _ hZ4.x.1.1
      have HSV : Hid (∀ w' N O2 vs, OneX 88 w0 w' p N (fun j => (D2 j ∨ j = O) ∨ j = V) (fun w => (X2 w ∧ Blk w O O2 61) ∧ Blk w V vs 74) → w'.cell? ⟨q, 3, none⟩ = some (.pointer (some ⟨p, 0, none⟩)) ∧ w'.cell? ⟨q, 4, none⟩ = some (.int .i64 first) ∧ w'.rangeAt V 0 vs.toList) := Lib.hid fun w' N O2 vs h => by
        refine ⟨(HXQ.out _ h.x.1.1).2.1, (HXQ.out _ h.x.1.1).2.2, ?_⟩
        have hb : Blk w' V vs.toList.toArray 74 := by have := h.x.2; simpa using this
        exact hb.range
      have HKV : Hid (∀ O2 vs, Keeps (fun j => (D2 j ∨ j = O) ∨ j = V) (fun w => (X2 w ∧ Blk w O O2 61) ∧ Blk w V vs 74)) := Lib.hid fun O2 vs => keeps_and (keeps_and HK2.out (keeps_blk O O2 61)) (keeps_blk V vs 74)
      have U := Tryz.underlying74
      have hBV : Blk w4 V xs.toArray 74 := bV
      have hOl := HOL.out k
      have hcp : ∀ ty, (Builtin.copy_ #[66, 66] ty #[.slice (some ⟨O, 0, none⟩) 8 8, .slice (some ⟨V, 3, none⟩) 8 9]).run Tryz.prog w4.drew = .ok (goInt 8) (w4.drew.setCells O 0 (wv (dataC cr))) := fun ty => by
        have hdl := dataC_len hwc.1
        have h := run_copy_cells (P := Tryz.prog) w4.drew 66 66 ty 56 O 0 8 8 ⟨V, 3, none⟩ 8 9 (wv (dataC cr)) Tryz.underlying66 (by kernel_rfl) (by rw [wv_len, hdl]; rfl) (fun j v hj => by
          rw [addr_add]
          have hjl : j < 8 := by have := (List.getElem?_eq_some_iff.1 hj).1; rwa [wv_len, hdl] at this
          rw [hBV.drew.cell (3 + j), ← HXS.out]
          rw [← hj]
          have e : (dataC cr)[j]? = cr[3 + j]? := by unfold dataC; rw [List.getElem?_take, if_pos hjl, List.getElem?_drop]
          simp [wv, e]) (fun j hj => by
          rw [wv_len, hdl] at hj
          rw [Nat.zero_add, hZ4.x.1.2.drew.cell j]
          have : j < (cw (OO k).1).size := by rw [cw_size, hOl]; exact hj
          rw [Array.getElem?_eq_getElem this]; rfl) (fun j _ => hZ4.x.1.2.drew.free _) (fun v hv => wv_one _ v hv)
        rw [wv_len, hdl] at h
        exact h
      have hht := OneX.hit (wv (dataC cr)) HK2.out HNV.out.1 HNV.out.2.1 hZ4 ⟨hwO, HNV.out.2.2⟩ (by rw [cw_size, hOl, wv_len, dataC_len hwc.1]) z12
      have HHT := Lib.hid hht
      have hd4 := hZ4.drew (HKV.out _ _)
      have HIX : Hid ((Tryz.prog.info? 74).map (·.size) = some z12.size) := Lib.hid (by kernel_rfl)
      have HOZ : Hid (z12.all (·.oneCell') = true) := Lib.hid (by simp [z12, Value.oneCell'])
      have hxz : xs.toArray.size = 12 := by rw [List.size_toArray, hlx]
      clear hZ hneV hVge hZ4 bV hwc g0 g1 hys hht hOl hBV hoc hy0 hy1 HLS z0 HZ HD3 hox KR HXC hix
      rcases hcase with ⟨e0, e1, HH⟩ | ⟨e0, e1, HH⟩ | ⟨e0, HH⟩
      focus
        have HTE : Hid (ys.toArray = z12) := Lib.hid (by rw [← HYS.out, HT1k.out, offC, if_pos HH.out]; rfl)
        have HOE : Hid (OO (k + 1) = (dataC cr, true)) := Lib.hid (by rw [HOSk.out, if_pos HH.out])
        go_upto_region 9 with fail
        go_region
        obtain ⟨w5, hw5⟩ : ∃ w5, w4.drew.setCells O 0 (wv (dataC cr)) = w5 := ⟨_, rfl⟩
        rw [hw5]
        rw [hw5] at HHT
        clear hcp hw5 hd4
        go_upto_region 10 with (first
          | (refine wpList_store_row rfl 74 (.tmp 15) (.tmp 61) rfl V z12 rfl rfl 74 _ HHT.out.1 HIX.out (by rw [hxz]; rfl) HOZ.out ?_)
          | fail)
        refine at_world (fun w' => OneX 88 w0 w' p M1 (fun j => (D2 j ∨ j = O) ∨ j = V) (fun w' => (X2 w' ∧ Blk w' O (cw (OO (k + 1)).1) 61) ∧ Blk w' V ys.toArray 74)) (by rw [HTE.out, HOE.out]; exact HHT.out.2) ?_
        intro w6 h6
        have hd6 := h6.drew (HKV.out _ _)
        have hs6 := HSV.out _ _ _ _ hd6
        clear h6 HHT e0 e1 hq34 v0 v1 HZ4
        go_upto_region 10 with fail
        go_region_held3 (fun w' => w'.cell? ⟨q, 3, none⟩ = some (.pointer (some ⟨p, 0, none⟩)) ∧ w'.cell? ⟨q, 4, none⟩ = some (.int .i64 first) ∧ w'.rangeAt V 0 ys) (first | exact hs6 | exact HSV.out _ _ _ _ hs7) (first
          | (go_at_call 72; with_reducible refine (KW.out _ _ _ (HKV.out _ _) hd6).mono ?_; rintro e w7 ⟨rfl, hs7⟩))
        have HS7 : Hid (OneX 88 w0 w7 p (gatM M (first + 2) sp T (k + 1)) (fun j => D2 j ∨ j = O) (fun w => X2 w ∧ Blk w O (cw (OO (k + 1)).1) 61)) := Lib.hid (hs7.less (fun _ h => .inl h) (fun h => h.1))
        clear hs7 hs6 hd6
        go_wp2
        go_roundw
        case rel => exact ⟨k + 1, by omega, by go_num, by rw [HOE.out], HS7⟩
        case measure => simp [intOf]; omega
      all_goals
        have HTE : Hid (ys = xs) := Lib.hid (by rw [← HYS.out, HT1k.out, offC, if_neg (by rw [HH.out]; decide), HXS.out])
        have HOE : Hid (OO (k + 1) = OO k) := Lib.hid (by rw [HOSk.out, if_neg (by rw [HH.out]; decide)])
        rw [HTE.out] at hic KW
        have hs4 := HSV.out _ _ _ _ hd4
        clear hcp
        go_upto_region 10 with fail
        go_region_held3 (fun w' => w'.cell? ⟨q, 3, none⟩ = some (.pointer (some ⟨p, 0, none⟩)) ∧ w'.cell? ⟨q, 4, none⟩ = some (.int .i64 first) ∧ w'.rangeAt V 0 xs) (first | exact hs4 | exact HSV.out _ _ _ _ hs6) (first
          | (go_at_call 72; with_reducible refine (KW.out _ _ _ (HKV.out _ _) hd4).mono ?_; rintro e w6 ⟨rfl, hs6⟩))
        have HS6 : Hid (OneX 88 w0 w6 p (gatM M (first + 2) sp T (k + 1)) (fun j => D2 j ∨ j = O) (fun w => X2 w ∧ Blk w O (cw (OO (k + 1)).1) 61)) := Lib.hid (by rw [HOE.out]; exact hs6.less (fun _ h => .inl h) (fun h => h.1))
        clear hs6 hs4 hd4
        go_wp2
        go_roundw
        case rel => exact ⟨k + 1, by omega, by go_num, by rw [HOE.out], HS6⟩
        case measure => simp [intOf]; omega
    · obtain rfl : k = sp.length := by omega
      have dk : decide ((sp.length : Int) < (sp.length : Int)) = false := by simp
      rw [HON.out] at HXr
      rw [HON.out]
      have hoEl : oE.1.length = 8 := by rw [← HON.out]; exact HOL.out _
      obtain ⟨en, hen⟩ : ∃ en, edL op at' d oE.1 oE.2 = en := ⟨_, rfl⟩
      have KE := Lib.hid (fun w' => ledit_any op at' d oE.1 oE.2 hd hoEl hop hat bo bd ba w')
      rw [hen] at KE HED HT2
      have hel := HED.out
      have KB := Lib.hid (fun w' => block_any id lf en.1 hel.1 (by omega) w')
      have HIO : Hid ((Tryz.prog.info? 61).map (·.size) = some (cw oE.1).size) := Lib.hid (info_dataL oE.1 hoEl)
      have HIE : Hid ((Tryz.prog.info? 61).map (·.size) = some (cw en.1).size) := Lib.hid (info_dataL en.1 hel.1)
      have HOEn : Hid ((cw en.1).all (·.oneCell') = true) := Lib.hid (cw_all en.1)
      have HES : Hid ((cw en.1).size = 8) := Lib.hid (by rw [cw_size, hel.1])
      have HKO : Hid (Keeps (fun j => D2 j ∨ j = O) (fun w => X2 w ∧ Blk w O (cw oE.1) 61)) := Lib.hid (keeps_and HK2.out (keeps_blk O _ _))
      have HKX : Hid (∀ w', X2 w' → Blk w' bo #[.int .i64 op] 3 ∧ Blk w' bd (cw d) 61 ∧ Blk w' ba #[.int .i64 at'] 3) := Lib.hid fun w' h => by rw [HX2X.out] at h; exact HXX.out _ h.1.1
      obtain ⟨en1, kp⟩ := en
      obtain ⟨o1, o2⟩ := oE
      simp only at KE KB HIO HIE HOEn HES HKO HXr HT2 ⊢
      have HXa := HXr
      clear hen hoEl hel HED HXr HOL HON HOS HT1 HO0 HO2 hO1
      go_wp2_with fail
      go_loopw [16, 17, 18, 19] (fun iv _ _ _ wr => ∃ i : Nat, sp.length ≤ i ∧ i ≤ sz ∧ iv = .int .i64 i ∧ Hid (OneX 88 w0 wr p (gatM M (first + 2) sp T i) (fun j => D2 j ∨ j = O) (fun w => X2 w ∧ Blk w O (cw o1) 61))) (fun iv _ _ _ _ => sz - (intOf iv).toNat)
      case atStart => exact ⟨sp.length, by omega, by omega, rfl, HXa⟩
      case round =>
        obtain ⟨i, hi1, hi2, rfl, HXr⟩ := hrel
        obtain ⟨⟨e0, e1, e2⟩, -, -⟩ := HXQ.out _ HXr.out.x.1
        by_cases hlt : i < sz
        · have di : decide ((i : Int) < (sz : Int)) = true := decide_eq_true (by omega)
          have di' : decide (i < sz) = true := decide_eq_true hlt
          go_wp2_with fail
          refine (HT.out _).mono ?_
          rintro e w3 ⟨rfl, hb3⟩
          have HX3 := Lib.hid (HXr.out.below HKO.out hb3)
          obtain ⟨V, hV⟩ : ∃ V, w3.heap.size = V := ⟨_, rfl⟩
          have h4 := HX3.out.box HKO.out z12 74
          rw [hV] at h4
          have HVE := Lib.hid hV
          have H4 := Lib.hid h4
          have HVD : Hid ((∀ j, D2 j ∨ j = O → j ≠ V) ∧ w0.heap.size ≤ V) := Lib.hid ⟨fun j hj => by have := HX3.out.ltD j hj; omega, by have := HX3.out.old.size; omega⟩
          clear e0 e1 e2 hb3 HXr h4 hV
          go_upto_region 16 with fail
          rw [HVE.out]
          refine at_world (fun w' => OneX 88 w0 w' p (gatM M (first + 2) sp T i) (fun j => (D2 j ∨ j = O) ∨ j = V) (fun w => (X2 w ∧ Blk w O (cw o1) 61) ∧ Blk w V z12 74)) H4.out ?_
          intro w4 h4
          have HKV := Lib.hid (keeps_and HKO.out (keeps_blk V z12 74))
          have HX4 := Lib.hid h4
          obtain ⟨b1, b2, b3⟩ := HKX.out _ h4.x.1.1
          have KE4 := Lib.hid (KE.out w4 b1 b2 b3)
          clear h4 H4 HX3 HVE b1 b2 b3
          go_wp2_with (first
            | (refine wpList_load_row rfl 61 (.tmp 10) rfl O rfl 61 (cw o1) (0, 0) _ HX4.out.x.1.2 Tryz.underlying61 rfl HIO.out ?_)
            | fail)
          refine KE4.out.mono ?_
          rintro e w5 ⟨rfl, hb5⟩
          have HX5 := Lib.hid (HX4.out.below HKV.out hb5)
          obtain ⟨E, hE⟩ : ∃ E, w5.heap.size = E := ⟨_, rfl⟩
          have hbx := HX5.out.box HKV.out #[.int .u64 0, .int .u64 0, .int .u64 0, .int .u64 0, .int .u64 0, .int .u64 0, .int .u64 0, .int .u64 0] 61
          have hfl := HX5.out.fillF HKV.out #[.int .u64 0, .int .u64 0, .int .u64 0, .int .u64 0, .int .u64 0, .int .u64 0, .int .u64 0, .int .u64 0] (cw en1) 61
          rw [hE] at hbx hfl
          have HBX := Lib.hid hbx
          have HFL := Lib.hid hfl
          have HEE := Lib.hid hE
          have HED2 : Hid ((∀ j, (D2 j ∨ j = O) ∨ j = V → j ≠ E)) := Lib.hid fun j hj => by have := HX5.out.ltD j hj; omega
          clear hbx hfl hb5 HX4 KE4
          have hTi := HTOK.out i
          have hev := gatM_evs (M := M) (r := first + 2) (sp := sp) (T := T) i
          have KW := Lib.hid (fun w' (D' : Nat → Prop) (X' : World → Prop) (hK' : Keeps D' X') (h' : OneX 88 w0 w' p (gatM M (first + 2) sp T i) D' X') => one_write hK' (first + 2) (i : Int) (T i) hTi.1 hTi.2.1 h' (by omega))
          rw [gatM_stepB (by omega) (by have := HM0.out; omega) hi1] at KW
          obtain ⟨ys, hys⟩ : ∃ ys, wv (T i) = ys := ⟨_, rfl⟩
          rw [cw_eq, hys] at KW
          have HYS := Lib.hid hys
          have hic : (Tryz.prog.info? 74).map (·.size) = some ys.length := by rw [← hys]; exact info_cF (T i) hTi.1
          have hoc : ∀ v ∈ ys, v.oneCell' = true := by rw [← hys]; exact wv_one (T i)
          have hyl : ys.length = 12 := by rw [← hys, wv_len, hTi.1]
          have HOY := Lib.hid (all_oneCell_toArray hoc)
          have HIY : Hid ((Tryz.prog.info? 74).map (·.size) = some ys.toArray.size) := Lib.hid (by rw [List.size_toArray]; exact hic)
          have hyz : ys.toArray.size = 12 := by rw [List.size_toArray, hyl]
          have HYZ : Hid (z12.size = ys.toArray.size) := Lib.hid (by rw [hyz]; rfl)
          have HSV : Hid (∀ w' N, OneX 88 w0 w' p N (fun j => (D2 j ∨ j = O) ∨ j = V) (fun w => (X2 w ∧ Blk w O (cw o1) 61) ∧ Blk w V ys.toArray 74) → w'.cell? ⟨q, 3, none⟩ = some (.pointer (some ⟨p, 0, none⟩)) ∧ w'.cell? ⟨q, 4, none⟩ = some (.int .i64 first) ∧ w'.rangeAt V 0 ys) := Lib.hid fun w' N h => ⟨(HXQ.out _ h.x.1.1).2.1, (HXQ.out _ h.x.1.1).2.2, h.x.2.range⟩
          have HKY := Lib.hid (keeps_and HKO.out (keeps_blk V ys.toArray 74))
          have U := Tryz.underlying74
          have HK6 := Lib.hid (keeps_and HKV.out (keeps_blk E (cw en1) 61))
          clear hTi hys hoc hyl hyz
          go_upto_region 17 with (first
            | (refine wpList_store_row rfl 61 (.tmp 18) (.tmp 91) rfl E (cw en1) rfl rfl 61 _ HBX.out.x.2 HIE.out (by rw [HES.out]; rfl) HOEn.out ?_)
            | fail)
          refine at_world (fun w' => OneX 88 w0 w' p (gatM M (first + 2) sp T i) (fun j => ((D2 j ∨ j = O) ∨ j = V) ∨ j = E) (fun w => ((X2 w ∧ Blk w O (cw o1) 61) ∧ Blk w V z12 74) ∧ Blk w E (cw en1) 61)) HFL.out ?_
          intro w6 h6
          have H6 := Lib.hid h6
          clear HBX HFL HEE h6 hE HX5
          have hcase : (i = sp.length ∧ kp = true) ∨ (kp = true ∧ ((i : Int) == (sp.length : Int)) = false ∧ Hid (T i = zeros)) ∨ (kp = false ∧ Hid (T i = zeros)) := by
            by_cases hi : i = sp.length
            · cases kp with
              | true => exact .inl ⟨hi, rfl⟩
              | false => exact .inr (.inr ⟨rfl, Lib.hid (by rw [hi, HT2.out]; rfl)⟩)
            · have hz : T i = zeros := HT3.out i (by omega)
              cases kp with
              | true => exact .inr (.inl ⟨rfl, beq_eq_false_iff_ne.2 (by omega), Lib.hid hz⟩)
              | false => exact .inr (.inr ⟨rfl, Lib.hid hz⟩)
          rcases hcase with ⟨rfl, rfl⟩ | ⟨rfl, bq, HTz⟩ | ⟨rfl, HTz⟩
          focus
            have bq : ((sp.length : Int) == (sp.length : Int)) = true := by simp
            have hbl : cw (blkC id lf en1) = ys.toArray := by rw [← HYS.out, HT2.out, cw_eq]; rfl
            have KB2 := KB
            rw [hbl] at KB2
            clear hbl
            go_wp2_with (first
              | (refine wpList_load_row rfl 61 (.tmp 18) rfl E rfl 61 (cw en1) (0, 0) _ H6.out.x.2 Tryz.underlying61 rfl HIE.out ?_)
              | fail)
            refine (KB2.out _).mono ?_
            rintro e w7 ⟨rfl, hb7⟩
            have H7 := Lib.hid ((H6.out.below HK6.out hb7).less (E := fun j => (D2 j ∨ j = O) ∨ j = V) (Y := fun w => (X2 w ∧ Blk w O (cw o1) 61) ∧ Blk w V z12 74) (fun j hj => .inl hj) (fun hx => hx.1))
            have H8 := Lib.hid (H7.out.rowF (c2 := ys.toArray) HKO.out HVD.out.1 HVD.out.2)
            clear hb7 H6
            go_upto_region 19 with (first
              | (refine wpList_store_row rfl 74 (.tmp 17) (.tmp 103) rfl V ys.toArray rfl rfl 74 _ H7.out.x.2 HIY.out HYZ.out HOY.out ?_)
              | fail)
            refine at_world (fun w' => OneX 88 w0 w' p (gatM M (first + 2) sp T sp.length) (fun j => (D2 j ∨ j = O) ∨ j = V) (fun w => (X2 w ∧ Blk w O (cw o1) 61) ∧ Blk w V ys.toArray 74)) H8.out ?_
            intro w8 h8
            have hd8 := h8.drew HKY.out
            have hs8 := HSV.out _ _ hd8
            clear h8 H8 H7
            go_upto_region 19 with fail
            go_region_held3 (fun w' => w'.cell? ⟨q, 3, none⟩ = some (.pointer (some ⟨p, 0, none⟩)) ∧ w'.cell? ⟨q, 4, none⟩ = some (.int .i64 first) ∧ w'.rangeAt V 0 ys) (first | exact hs8 | exact HSV.out _ _ hs9) (first
              | (go_at_call 72; with_reducible refine (KW.out _ _ _ HKY.out hd8).mono ?_; rintro e w9 ⟨rfl, hs9⟩))
            have HS9 := Lib.hid (hs9.less (E := fun j => D2 j ∨ j = O) (Y := fun w => X2 w ∧ Blk w O (cw o1) 61) (fun j hj => .inl hj) (fun hx => hx.1))
            clear hs9 hs8 hd8
            go_wp2
            go_roundw
            case rel => exact ⟨sp.length + 1, by omega, by omega, by go_num, HS9⟩
            case measure => simp [intOf]; omega
          all_goals
            have HTE : Hid (ys.toArray = z12) := Lib.hid (by rw [← HYS.out, HTz.out]; rfl)
            have h8 : OneX 88 w0 w6 p (gatM M (first + 2) sp T i) (fun j => (D2 j ∨ j = O) ∨ j = V) (fun w => (X2 w ∧ Blk w O (cw o1) 61) ∧ Blk w V ys.toArray 74) := by
              rw [HTE.out]
              exact H6.out.less (fun j hj => .inl hj) (fun hx => hx.1)
            have hd8 := h8.drew HKY.out
            have hs8 := HSV.out _ _ hd8
            clear h8 H6
            go_upto_region 19 with fail
            go_region_held3 (fun w' => w'.cell? ⟨q, 3, none⟩ = some (.pointer (some ⟨p, 0, none⟩)) ∧ w'.cell? ⟨q, 4, none⟩ = some (.int .i64 first) ∧ w'.rangeAt V 0 ys) (first | exact hs8 | exact HSV.out _ _ hs9) (first
              | (go_at_call 72; with_reducible refine (KW.out _ _ _ HKY.out hd8).mono ?_; rintro e w9 ⟨rfl, hs9⟩))
            have HS9 := Lib.hid (hs9.less (E := fun j => D2 j ∨ j = O) (Y := fun w => X2 w ∧ Blk w O (cw o1) 61) (fun j hj => .inl hj) (fun hx => hx.1))
            clear hs9 hs8 hd8
            go_wp2
            go_roundw
            case rel => exact ⟨i + 1, by omega, by omega, by go_num, HS9⟩
            case measure => simp [intOf]; omega
        · obtain rfl : i = sz := by omega
          have di : decide ((i : Int) < (i : Int)) = false := by simp
          go_wp2_with fail
          refine (HT.out _).mono ?_
          rintro e w3 ⟨rfl, hb3⟩
          have hX3 := HXr.out.below HKO.out hb3
          obtain ⟨D4, hD4⟩ : ∃ D4 : Nat → Prop, D4 = fun k => (D k ∨ k = G) ∨ k = O := ⟨_, rfl⟩
          obtain ⟨X4, hX4⟩ : ∃ X4 : World → Prop, X4 = fun w => (X w ∧ w.rangeAt G 0 (flatV spV sp)) ∧ Blk w O (cw o1) 61 := ⟨_, rfl⟩
          have hK4 : Keeps D4 X4 := by rw [hD4, hX4]; exact keeps_and (keeps_and HK.out (keeps_range G 0 _)) (keeps_blk O _ _)
          have h4 : OneX 88 w0 w3 p (gatM M (first + 2) sp T i) (fun k => D4 k ∨ k = q) (fun w => X4 w ∧ Blk w q (lvV c p first over ib) 92) := by
            rw [hD4, hX4]
            rw [HD2D.out, HX2X.out] at hX3
            refine hX3.less (fun k hk => ?_) (fun hx => ⟨⟨⟨hx.1.1.1, hx.1.2⟩, hx.2⟩, hx.1.1.2⟩)
            rcases hk with ((hk | hk) | hk) | hk
            · exact .inl (.inl (.inl hk))
            · exact .inl (.inr hk)
            · exact .inr hk
            · exact .inl (.inl (.inr hk))
          have hq4 : ∀ k, D4 k → k ≠ q := fun k hk => by
            have h1 := HGw0.out
            rw [hD4] at hk
            rcases hk with (hk | hk) | hk
            · exact HHQ.out k hk
            · omega
            · omega
          have hgs := gatM_size (T := T) (sp := sp) (r := first + 2) (k := i) HM0.out
          have hge := gatM_evs (M := M) (T := T) (sp := sp) (r := first + 2) i
          have hTo : TabOk c T := ⟨fun j _ => HTOK.out j⟩
          have hdm := dealM_evs (gatM M (first + 2) sp T i) (first + 2) c fr T
          rw [HSZN.out] at hdm
          have hds : ∀ x, (dealM (gatM M (first + 2) sp T i) (first + 2) c fr T).size x = M.size x := fun x => by
            rw [dealM_size (by rw [HSZN.out, hgs]; exact HM0.out), hgs]
          have hdr : ∀ j, j < i → (dealM (gatM M (first + 2) sp T i) (first + 2) c fr T).read (first + 2) (j : Int) = (tab4 c fr T).getD j zeros := fun j hj =>
            dealM_read (by omega) (by rw [HSZN.out, hgs]; exact HM0.out) (by rw [HSZN.out]; exact hj)
          have KD := Lib.hid (ldeal_any hK4 c hc hr fr HFR.out first hf q ib over hq4 hqo T (fun j hj => gatM_read HM0.out (by omega) (by rw [← HSZN.out]; exact hj)) hTo (by rw [HSZN.out, hgs]; exact HM0.out) (by omega) h4)
          have hUok : ∀ j, j < i → ((tab4 c fr T).getD j zeros).length = 12 ∧ (∀ x ∈ (tab4 c fr T).getD j zeros, Word x) ∧ (accU c fr T j).length = 12 ∧ ∀ x ∈ accU c fr T j, Word x := fun j hj => accU_ok hr HFR.out hTo (by rw [HSZN.out]; exact hj)
          obtain ⟨ov, hov⟩ : ∃ ov, (over || decide (0 < (lostL c fr T).length)) = ov := ⟨_, rfl⟩
          rw [hov] at KD
          have HOV := Lib.hid hov
          obtain ⟨N, hN⟩ : ∃ N, dealM (gatM M (first + 2) sp T i) (first + 2) c fr T = N := ⟨_, rfl⟩
          rw [hN] at KD hdm hds hdr
          have HNE := Lib.hid hN
          have hNe : N.evs.length ≤ 1099500300000 := by omega
          have HDS := Lib.hid hds
          have HDR := Lib.hid hdr
          have HUO := Lib.hid hUok
          have HTB : Hid (∀ j, accU c fr T j = ((tab4 c fr T).getD j zeros).set 11 0) := Lib.hid fun _ => rfl
          obtain ⟨U, hU⟩ : ∃ U, accU c fr T = U := ⟨_, rfl⟩
          rw [hU] at HUO HTB
          have HUE := Lib.hid hU
          obtain ⟨tb, htb⟩ : ∃ tb : Nat → List Int, (fun j => (tab4 c fr T).getD j zeros) = tb := ⟨_, rfl⟩
          have HTBE : Hid (∀ j, (tab4 c fr T).getD j zeros = tb j) := Lib.hid fun j => by rw [← htb]
          have HK4 := Lib.hid hK4
          have HD4 := Lib.hid hD4
          have HX4E := Lib.hid hX4
          have HQ4 := Lib.hid hq4
          clear hov hN hU htb hgs hge hdm hTo hds hdr hUok hK4 hD4 hX4 hq4 h4 hX3 hb3 HXr HXa e0 e1 e2
          go_wp2_with fail
          refine KD.out.mono ?_
          rintro e w4 ⟨rfl, h5⟩
          have hKL : Keeps (fun k => D4 k ∨ k = q) (fun w => X4 w ∧ Blk w q (lvV c p first ov ib) 92) := keeps_and HK4.out (keeps_blk q _ _)
          obtain ⟨D5, hD5⟩ : ∃ D5 : Nat → Prop, D5 = fun k => D4 k ∨ k = q := ⟨_, rfl⟩
          obtain ⟨X5, hX5⟩ : ∃ X5 : World → Prop, X5 = fun w => X4 w ∧ Blk w q (lvV c p first ov ib) 92 := ⟨_, rfl⟩
          rw [← hD5, ← hX5] at h5 hKL
          have HK5 := Lib.hid hKL
          have H50 : Hid (OneX 88 w0 w4 p (bakM N (first + 2) sp U 0) D5 X5) := Lib.hid (by rw [bakM_zero]; exact h5)
          have HX5Q : Hid (∀ w', X5 w' → (w'.cell? ⟨q, 3, none⟩ = some (.pointer (some ⟨p, 0, none⟩)) ∧ w'.cell? ⟨q, 4, none⟩ = some (.int .i64 first)) ∧ w'.rangeAt G 0 (flatV spV sp) ∧ Blk w' O (cw o1) 61) := Lib.hid fun w' h => by
            rw [hX5, HX4E.out] at h
            exact ⟨⟨h.2.cell 3, h.2.cell 4⟩, h.1.1.2, h.1.2⟩
          have HEND : Hid (∀ w' N', OneX 88 w0 w' p N' D5 X5 → OneX 88 w0 (w'.setRow O (cw o1)) p N' (fun k => D k ∨ k = q) (fun w => X w ∧ Blk w q (lvV c p first ov ib) 92) ∧ Blk (w'.setRow O (cw o1)) O (cw o1) 61) := Lib.hid fun w' N' h => by
            rw [hD5, hX5, HD4.out, HX4E.out] at h
            have hd : ∀ k, ((D k ∨ k = q) ∨ k = G) → k ≠ O := fun k hk => by
              have h1 := HGw0.out
              rcases hk with hk | hk
              · have := HDO.out k hk; omega
              · omega
            have h2 := h.less (E := fun k => ((D k ∨ k = q) ∨ k = G) ∨ k = O) (Y := fun w => ((X w ∧ Blk w q (lvV c p first ov ib) 92) ∧ w.rangeAt G 0 (flatV spV sp)) ∧ Blk w O (cw o1) 61) (fun k hk => by
              rcases hk with ((hk | hk) | hk) | hk
              · exact .inl (.inl (.inl hk))
              · exact .inr hk
              · exact .inl (.inl (.inr hk))
              · exact .inl (.inr hk)) (fun hx => ⟨⟨⟨hx.1.1.1, hx.2⟩, hx.1.1.2⟩, hx.1.2⟩)
            have h3 := h2.rowF (c2 := cw o1) (keeps_and (keeps_and HK.out (keeps_blk q _ _)) (keeps_range G 0 _)) hd hwO
            exact ⟨h3.less (fun k hk => .inl (.inl hk)) (fun hx => hx.1.1), h3.x.2⟩
          clear h5 hKL hD5 hX5 KD
          go_wp2_with fail
          go_loopw [20, 21, 22, 121] (fun _ _ _ iv wr => ∃ k : Nat, k ≤ sp.length ∧ iv = .int .i64 k ∧ Hid (OneX 88 w0 wr p (bakM N (first + 2) sp U k) D5 X5)) (fun _ _ _ iv _ => sp.length - (intOf iv).toNat)
          case atStart => exact ⟨0, by omega, rfl, H50⟩
          case round =>
            obtain ⟨k, hk, rfl, HXr⟩ := hrel
            by_cases hlt : k < sp.length
            · have dk : decide ((k : Int) < (sp.length : Int)) = true := decide_eq_true (by omega)
              have dk' : decide (k < sp.length) = true := decide_eq_true hlt
              have k0 : (0 : Int) ≤ (k : Int) := by omega
              have k1 : (k : Int) < (sp.length : Int) := by omega
              have hrg := range_flat spV_k (HX5Q.out _ HXr.out.x).2.1 hlt
              have hNs : ∀ s ∈ sp, N.has s.1 s.2 = true ∧ s.1 ≠ first + 2 := fun s hs => ⟨by rw [Mm.has_of_size HDS.out]; exact (HSPh.out s hs).1, (HSPh.out s hs).2⟩
              have hst := bakM_step (U := U) (r := first + 2) hlt hNs (by rw [Mm.has_of_size HDS.out]; exact Mm.has_lt (by have := HM0.out; omega))
              have hrd := bakM_read (U := U) (r := first + 2) (k := k) hk hNs (k : Int)
              rw [HDR.out k (by omega), HTBE.out] at hrd
              have hev := bakM_evs (M := N) (r := first + 2) (sp := sp) (U := U) k
              have huo := HUO.out k (by omega)
              have hts := HTB.out k
              rw [HTBE.out] at huo hts
              obtain ⟨s, hs⟩ : ∃ s, sp[k] = s := ⟨_, rfl⟩
              rw [hs] at hrg hst
              have r0 : wr.cell? ⟨G, k * 2, none⟩ = some (.int .i64 s.1) := by have := hrg 0 _ rfl; rwa [Nat.zero_add, Nat.add_zero] at this
              have r1 : wr.cell? ⟨G, k * 2 + 1, none⟩ = some (.int .i64 s.2) := by have := hrg 1 _ rfl; rwa [Nat.zero_add] at this
              have K1 := Lib.hid (fun w' (D' : Nat → Prop) (X' : World → Prop) (hK' : Keeps D' X') (h' : OneX 88 w0 w' p (bakM N (first + 2) sp U k) D' X') => one_read hK' (first + 2) (k : Int) h' (by omega))
              rw [hrd] at K1
              have hlk := look_evs_le (bakM N (first + 2) sp U k) (first + 2) (k : Int) false
              obtain ⟨M1, hM1⟩ : ∃ M1, (bakM N (first + 2) sp U k).look (first + 2) (k : Int) false = M1 := ⟨_, rfl⟩
              rw [hM1] at K1 hst hlk
              have KW := Lib.hid (fun w' (D' : Nat → Prop) (X' : World → Prop) (hK' : Keeps D' X') (h' : OneX 88 w0 w' p M1 D' X') => one_write hK' s.1 s.2 (U k) huo.2.2.1 huo.2.2.2 h' (by omega))
              rw [hst] at KW
              obtain ⟨B, hB⟩ : ∃ B, wr.heap.size = B := ⟨_, rfl⟩
              have h5 := HXr.out.box HK5.out #[.int .i64 s.1, .int .i64 s.2] 99
              rw [hB] at h5
              have H5 := Lib.hid h5
              have HMB : Hid (wr.heap.size = B) := Lib.hid hB
              have HTS := Lib.hid hts
              have HUOK := Lib.hid huo
              clear hrg hst hrd hs hM1 hNs h5 hB hts huo
              generalize tb k = cr at *
              obtain ⟨xs, hxs⟩ : ∃ xs, wv cr = xs := ⟨_, rfl⟩
              rw [cw_eq, hxs] at K1
              have hlx : xs.length = 12 := by rw [← hxs, wv_len, HUOK.out.1]
              have hox : ∀ v ∈ xs, v.oneCell' = true := by rw [← hxs]; exact wv_one cr
              have hix : (Tryz.prog.info? 74).map (·.size) = some xs.length := by rw [← hxs]; exact info_cF cr HUOK.out.1
              obtain ⟨ys, hys⟩ : ∃ ys, wv (U k) = ys := ⟨_, rfl⟩
              rw [cw_eq, hys] at KW
              have hic : (Tryz.prog.info? 74).map (·.size) = some ys.length := by rw [← hys]; exact info_cF (U k) HUOK.out.2.2.1
              have HIC := Lib.hid hic
              have HXY : Hid (xs.toArray.setIfInBounds 11 (.int .u64 0) = ys.toArray) := Lib.hid (by
                rw [← hys, ← hxs, HTS.out, List.setIfInBounds_toArray]
                unfold wv
                rw [List.map_set])
              have KR := K1
              clear hxs K1 hys hic
              go_upto_region 24 with fail
              rw [HMB.out]
              refine at_world (fun w' => OneX 88 w0 w' p (bakM N (first + 2) sp U k) (fun j => D5 j ∨ j = B) (fun w' => X5 w' ∧ Blk w' B #[.int .i64 s.1, .int .i64 s.2] 99)) H5.out ?_
              intro w5 hX6
              have hK6 := keeps_and HK5.out (keeps_blk B #[.int .i64 s.1, .int .i64 s.2] 99)
              obtain ⟨D6, hD6⟩ : ∃ D6 : Nat → Prop, D6 = fun j => D5 j ∨ j = B := ⟨_, rfl⟩
              obtain ⟨X6, hX6e⟩ : ∃ X6 : World → Prop, X6 = fun w' => X5 w' ∧ Blk w' B #[.int .i64 s.1, .int .i64 s.2] 99 := ⟨_, rfl⟩
              rw [← hD6, ← hX6e] at hX6 hK6
              have HXC : Hid (∀ w', X6 w' → w'.cell? ⟨q, 3, none⟩ = some (.pointer (some ⟨p, 0, none⟩)) ∧ w'.cell? ⟨q, 4, none⟩ = some (.int .i64 first) ∧ w'.cell? ⟨B, 0, none⟩ = some (.int .i64 s.1) ∧ w'.cell? ⟨B, 1, none⟩ = some (.int .i64 s.2)) := Lib.hid fun w' h => by rw [hX6e] at h; exact ⟨(HX5Q.out _ h.1).1.1, (HX5Q.out _ h.1).1.2, h.2.cell 0, h.2.cell 1⟩
              have HLS : Hid (∀ (w' : World) (N' : Mm) (V : Nat) (vs : Array Value), OneX 88 w0 w' p N' (fun j => D6 j ∨ j = V) (fun w => X6 w ∧ Blk w V vs 74) → OneX 88 w0 w' p N' D5 X5) := Lib.hid fun w' N' V vs h => by
                rw [hD6, hX6e] at h
                exact h.less (fun j hj => .inl (.inl hj)) (fun hx => hx.1.1)
              have HK6 := Lib.hid hK6
              have z0 : Z0 88 w0 w5.drew p (bakM N (first + 2) sp U k) D6 X6 := ⟨hK6, hX6.drew hK6⟩
              clear hD6 hX6e hX6 hK6 H5 HXr r0 r1
              go_cut [22] (fun o wx => ∃ V : Nat, o = .pointer (some ⟨V, 0, none⟩) ∧ Hid (OneX 88 w0 wx p M1 (fun j => D6 j ∨ j = V) (fun w' => X6 w' ∧ Blk w' V xs.toArray 74) ∧ (∀ j, D6 j → j ≠ V) ∧ w0.heap.size ≤ V))
              case first =>
                refine wp_region_held_drew (S := fun w' => w'.cell? ⟨q, 3, none⟩ = some (.pointer (some ⟨p, 0, none⟩)) ∧ w'.cell? ⟨q, 4, none⟩ = some (.int .i64 first) ∧ w'.cell? ⟨B, 0, none⟩ = some (.int .i64 s.1) ∧ w'.cell? ⟨B, 1, none⟩ = some (.int .i64 s.2)) (by kernel_rfl) (HXC.out _ z0.x) (fun hHeld => ?_)
                refine wpAnyH_take (i := 0) (oi := _) (v := ?_) rfl (by kernel_rfl) (by kernel_rfl) (by kernel_rfl) (fun _ _ _ h => h) (Or.inl ⟨by rfl, ?_⟩) (by assumption) ?_
                rotate_left
                · (intro wS hSw; (try dsimp only at hSw); go_simp; try with_reducible rfl)
                try simp only [Act.put, List.setIfInBounds_toArray, List.set_cons_zero, List.set_cons_succ]
                refine wpAnyH_take (i := 1) (oi := _) (v := ?_) rfl (by kernel_rfl) (by kernel_rfl) (by kernel_rfl) (fun _ _ _ h => h) (Or.inl ⟨by rfl, ?_⟩) (by assumption) ?_
                rotate_left
                · (intro wS hSw; (try dsimp only at hSw); go_simp; try with_reducible rfl)
                try simp only [Act.put, List.setIfInBounds_toArray, List.set_cons_zero, List.set_cons_succ]
                refine wpAnyH_take (i := 2) (oi := _) (v := ?_) rfl (by kernel_rfl) (by kernel_rfl) (by kernel_rfl) (fun _ _ _ h => h) (Or.inl ⟨by rfl, ?_⟩) (by assumption) ?_
                rotate_left
                · (intro wS hSw; (try dsimp only at hSw); go_simp; try with_reducible rfl)
                try simp only [Act.put, List.setIfInBounds_toArray, List.set_cons_zero, List.set_cons_succ]
                refine wpAnyH_take (i := 3) (oi := _) (v := ?_) rfl (by kernel_rfl) (by kernel_rfl) (by kernel_rfl) (fun _ _ _ h => h) (Or.inl ⟨by rfl, ?_⟩) (by assumption) ?_
                rotate_left
                · (intro wS hSw; (try dsimp only at hSw); go_simp; try with_reducible rfl)
                try simp only [Act.put, List.setIfInBounds_toArray, List.set_cons_zero, List.set_cons_succ]
                refine wpAnyH_take (i := 4) (oi := _) (v := ?_) rfl (by kernel_rfl) (by kernel_rfl) (by kernel_rfl) (fun _ _ _ h => h) (Or.inl ⟨by rfl, ?_⟩) (by assumption) ?_
                rotate_left
                · (intro wS hSw; (try dsimp only at hSw); go_simp; try with_reducible rfl)
                try simp only [Act.put, List.setIfInBounds_toArray, List.set_cons_zero, List.set_cons_succ]
                refine wpAnyH_take (i := 5) (oi := _) (v := ?_) rfl (by kernel_rfl) (by kernel_rfl) (by kernel_rfl) (fun _ _ _ h => h) (Or.inl ⟨by rfl, ?_⟩) (by assumption) ?_
                rotate_left
                · (intro wS hSw; (try dsimp only at hSw); go_simp; try with_reducible rfl)
                try simp only [Act.put, List.setIfInBounds_toArray, List.set_cons_zero, List.set_cons_succ]
                refine wpAnyH_take (i := 6) (oi := _) (v := ?_) rfl (by kernel_rfl) (by kernel_rfl) (by kernel_rfl) (fun _ _ _ h => h) (Or.inl ⟨by rfl, ?_⟩) (by assumption) ?_
                rotate_left
                · (intro wS hSw; (try dsimp only at hSw); go_simp; try with_reducible rfl)
                try simp only [Act.put, List.setIfInBounds_toArray, List.set_cons_zero, List.set_cons_succ]
                refine wpAnyH_take (i := 7) (oi := _) (v := ?_) rfl (by kernel_rfl) (by kernel_rfl) (by kernel_rfl) (fun _ _ _ h => h) (Or.inl ⟨by rfl, ?_⟩) (by assumption) ?_
                rotate_left
                · (intro wS hSw; (try dsimp only at hSw); go_simp; try with_reducible rfl)
                try simp only [Act.put, List.setIfInBounds_toArray, List.set_cons_zero, List.set_cons_succ]
                refine wpAnyH_take (i := 8) (oi := _) (v := ?_) rfl (by kernel_rfl) (by kernel_rfl) (by kernel_rfl) (fun _ _ _ h => h) (Or.inl ⟨by rfl, ?_⟩) (by assumption) ?_
                rotate_left
                · (intro wS hSw; (try dsimp only at hSw); go_simp; try with_reducible rfl)
                try simp only [Act.put, List.setIfInBounds_toArray, List.set_cons_zero, List.set_cons_succ]
                refine wpAnyH_take (i := 9) (oi := _) (v := ?_) rfl (by kernel_rfl) (by kernel_rfl) (by kernel_rfl) (fun _ _ _ h => h) (Or.inl ⟨by rfl, ?_⟩) (by assumption) ?_
                rotate_left
                · (intro wS hSw; (try dsimp only at hSw); go_simp; try with_reducible rfl)
                try simp only [Act.put, List.setIfInBounds_toArray, List.set_cons_zero, List.set_cons_succ]
                refine wpAnyH_ready (rs := [10, 11]) (by kernel_rfl) (by simp) ?_
                refine (AllReadyH.cons (o := _) rfl (fun K hK => ?_) (AllReadyH.cons (o := _) rfl (fun K hK => ?_) AllReadyH.nil))
                focus
                  go_simp
                  refine (z0.call (fun D' X' hK' h' => KR.out _ D' X' hK' h')).mono ?_
                  rintro e wz1 ⟨rfl, z1⟩
                  refine hK.out _ _ (HXC.out _ z1.x) (fun hHeld => ?_)
                  clear hK K
                  try simp only [Act.put, List.setIfInBounds_toArray, List.set_cons_zero, List.set_cons_succ]
                  refine wpAnyH_ready (rs := [11]) (by kernel_rfl) (by simp) ?_
                  refine (AllReadyH.cons (o := _) rfl (fun K hK => ?_) AllReadyH.nil)
                  focus
                    go_simp
                    have z2 := z1.alloc (t := 74)
                    try simp only [World.size_alloc] at z2
                    refine hK.out _ _ (HXC.out _ z2.x) (fun hHeld => ?_)
                    clear hK K
                    try simp only [Act.put, List.setIfInBounds_toArray, List.set_cons_zero, List.set_cons_succ]
                    refine wpAnyH_ready (rs := [12]) (by kernel_rfl) (by simp) ?_
                    refine (AllReadyH.cons (o := _) rfl (fun K hK => ?_) AllReadyH.nil)
                    rw [if_pos (by rfl)]
                    refine wp_store_mid _ _ _ rfl _ 0 xs.toArray rfl rfl (z2.there xs hlx) hix (all_oneCell_toArray hox) ?_
                    refine hK.out _ _ (HXC.out _ (z2.fill xs hlx).x.1) (fun hHeld => ?_)
                    clear hK K
                    try simp only [Act.put, List.setIfInBounds_toArray, List.set_cons_zero, List.set_cons_succ]
                    refine wpAnyH_done (by kernel_rfl) ?_ _
                    go_wp2_with fail
                    go_meet
                    exact ⟨_, rfl, Lib.hid ⟨z2.fill xs hlx, z2.ne, z2.ge⟩⟩
                focus
                  go_simp
                  have z3 := z0.alloc (t := 74)
                  try simp only [World.size_alloc] at z3
                  refine hK.out _ _ (HXC.out _ z3.x) (fun hHeld => ?_)
                  clear hK K
                  try simp only [Act.put, List.setIfInBounds_toArray, List.set_cons_zero, List.set_cons_succ]
                  refine wpAnyH_ready (rs := [10]) (by kernel_rfl) (by simp) ?_
                  refine (AllReadyH.cons (o := _) rfl (fun K hK => ?_) AllReadyH.nil)
                  focus
                    go_simp
                    refine (z3.call (fun D' X' hK' h' => KR.out _ D' X' hK' h')).mono ?_
                    rintro e wz4 ⟨rfl, z4⟩
                    refine hK.out _ _ (HXC.out _ z4.x) (fun hHeld => ?_)
                    clear hK K
                    try simp only [Act.put, List.setIfInBounds_toArray, List.set_cons_zero, List.set_cons_succ]
                    refine wpAnyH_ready (rs := [12]) (by kernel_rfl) (by simp) ?_
                    refine (AllReadyH.cons (o := _) rfl (fun K hK => ?_) AllReadyH.nil)
                    rw [if_pos (by rfl)]
                    refine wp_store_mid _ _ _ rfl _ 0 xs.toArray rfl rfl (z4.there xs hlx) hix (all_oneCell_toArray hox) ?_
                    refine hK.out _ _ (HXC.out _ (z4.fill xs hlx).x.1) (fun hHeld => ?_)
                    clear hK K
                    try simp only [Act.put, List.setIfInBounds_toArray, List.set_cons_zero, List.set_cons_succ]
                    refine wpAnyH_done (by kernel_rfl) ?_ _
                    go_wp2_with fail
                    go_meet
                    exact ⟨_, rfl, Lib.hid ⟨z4.fill xs hlx, z4.ne, z4.ge⟩⟩
              case rest =>
              obtain ⟨V, rfl, HZ⟩ := hcut
              generalize wc = w6 at *
              obtain ⟨hZ, hneV, hVge⟩ := HZ.out
              have c11 : w6.cell? ⟨V, 11, none⟩ = some (xs[11]'(by omega)) := by rw [hZ.x.2.cell]; simp [hlx]
              have f11 : w6.frozen? ⟨V, 11, none⟩ = false := hZ.x.2.free 11
              have h7 : OneX 88 w0 (w6.setCell ⟨V, 11, none⟩ (.int .u64 0)) p M1 (fun j => D6 j ∨ j = V) (fun w' => X6 w' ∧ Blk w' V ys.toArray 74) := by
                refine OneX.swap HK6.out hZ (fun j hj he => hneV j hj he) (fun j hj => by rw [hj]; exact hVge) ((MFrame.refl (fun j => j = V) w6).set (p := ⟨V, 11, none⟩) (.inl rfl) _) (fun j hj => ⟨.inl hj, by rw [hj, World.size_setCell]; exact hZ.ltD V (.inr rfl)⟩) ?_
                have := hZ.x.2.set 11 (.int .u64 0)
                rwa [HXY.out] at this
              have H7 := Lib.hid h7
              have HKV := Lib.hid (keeps_and HK6.out (keeps_blk V ys.toArray 74))
              have HSV : Hid (∀ w' N', OneX 88 w0 w' p N' (fun j => D6 j ∨ j = V) (fun w' => X6 w' ∧ Blk w' V ys.toArray 74) → (w'.cell? ⟨q, 3, none⟩ = some (.pointer (some ⟨p, 0, none⟩)) ∧ w'.cell? ⟨B, 0, none⟩ = some (.int .i64 s.1) ∧ w'.cell? ⟨B, 1, none⟩ = some (.int .i64 s.2)) ∧ w'.rangeAt V 0 ys) := Lib.hid fun w' N' h => ⟨⟨(HXC.out _ h.x.1).1, (HXC.out _ h.x.1).2.2⟩, h.x.2.range⟩
              clear hZ hneV hVge h7 HZ z0 KR hox hix
              generalize xs[11]'(by omega) = x11 at *
              go_upto_region 26 with fail
              refine at_world (fun w' => OneX 88 w0 w' p M1 (fun j => D6 j ∨ j = V) (fun w' => X6 w' ∧ Blk w' V ys.toArray 74)) H7.out ?_
              intro w7 h8
              have hd8 := h8.drew HKV.out
              have hs8 := HSV.out _ _ hd8
              have Un := Tryz.underlying74
              have hic := HIC.out
              clear h8 H7 c11 f11
              go_upto_region 26 with fail
              go_region_held3 (fun w' => (w'.cell? ⟨q, 3, none⟩ = some (.pointer (some ⟨p, 0, none⟩)) ∧ w'.cell? ⟨B, 0, none⟩ = some (.int .i64 s.1) ∧ w'.cell? ⟨B, 1, none⟩ = some (.int .i64 s.2)) ∧ w'.rangeAt V 0 ys) (first | exact hs8 | exact HSV.out _ _ hs9) (first
                | (go_at_call 72; with_reducible refine (KW.out _ _ _ HKV.out hd8).mono ?_; rintro e w9 ⟨rfl, hs9⟩))
              have HS9 := Lib.hid (HLS.out _ _ _ _ hs9)
              clear hs9 hs8 hd8
              go_wp2
              go_roundw
              case rel => exact ⟨k + 1, by omega, by go_num, HS9⟩
              case measure => simp [intOf]; omega
            · obtain rfl : k = sp.length := by omega
              have dk : decide ((sp.length : Int) < (sp.length : Int)) = false := by simp
              have HbO := Lib.hid (HX5Q.out _ HXr.out.x).2.2
              have HF := Lib.hid (HEND.out _ _ HXr.out)
              have HOO2 : Hid ((cw o1).all (·.oneCell') = true) := Lib.hid (cw_all o1)
              clear HXr
              go_wp2_with (first
                | (refine wpList_load_row rfl 61 (.tmp 10) rfl O rfl 61 (cw o1) (0, 0) _ HbO.out Tryz.underlying61 rfl HIO.out ?_)
                | (refine wpList_store_row rfl 61 (.tmp 10) (.tmp 149) rfl O (cw o1) rfl rfl 61 _ HbO.out HIO.out rfl HOO2.out ?_)
                | fail)
              have hb' : Blk (wr.setRow O (cw o1)) O (cw o1).toList.toArray 61 := by have := HF.out.2; simpa using this
              have hpl : (Tryz.prog.info? 61).map (·.size) = some (cw o1).toList.length := by have := HIO.out; simpa using this
              have HR := results_row_tmp (P := Tryz.prog) (fn := Tryz.f52) rfl
              refine bodyPost_ret (HR _ _ O (cw o1).toList _ (.bool o2) rfl rfl hb'.range Tryz.underlying61 rfl hpl) rfl ⟨by simp, ?_⟩
              rw [HOV.out, HNE.out, HUE.out]
              exact HF.out.1
end Go.Proofs.YthchfdobdghdoaaGreat
end
section

/-
  A level's dealing, in plain Lean: which blocks lie where behind it.
-/
namespace Go.Sg
open Go Go.RowKit Go.Proofs.YthchfdobdghdoaaGreat
/-- a block: its id, its leaf, its data -/
abbrev Bk := Int × Int × List Int
/-- the block of a cell -/
def bk (c : List Int) : Option Bk := if c.getD 0 0 = 1 then some (c.getD 1 0, c.getD 2 0, dataC c) else none
theorem dataC_set {c : List Int} (x : Int) : dataC (c.set 11 x) = dataC c := by
  unfold dataC
  apply List.ext_getElem?
  intro i
  rw [List.getElem?_take, List.getElem?_take]
  by_cases h : i < 8
  · rw [if_pos h, if_pos h, List.getElem?_drop, List.getElem?_drop, List.getElem?_set_ne (by omega)]
  · rw [if_neg h, if_neg h]
theorem bk_set {c : List Int} (h : c.length = 12) (x : Int) : bk (c.set 11 x) = bk c := by
  unfold bk
  rw [getD_set h x 0 (by omega), getD_set h x 1 (by omega), getD_set h x 2 (by omega), dataC_set]
theorem bk_zeros : bk zeros = none := by simp [bk, zeros]
theorem bk_some {c : List Int} : (bk c).isSome = true ↔ c.getD 0 0 = 1 := by
  unfold bk
  split
  · rename_i h; exact ⟨fun _ => h, fun _ => rfl⟩
  · rename_i h; exact ⟨fun h2 => (by cases h2), fun h2 => absurd h2 h⟩
theorem tab_sorted (c : Lc) (f : Nat → List Int) : (cxs (kf 11) (updL f (lcTab c).toNat) (netI (lcTab c))).Pairwise (fun x y => kf 11 x ≤ kf 11 y) := by
  obtain ⟨t, ht, et, _⟩ := lcTab_pow c
  have ec : (2 : Int) ^ t = ((2 ^ t : Nat) : Int) := by push_cast; rfl
  have etn : (lcTab c).toNat = 2 ^ t := by rw [et, ec, Int.toNat_natCast]
  have hr := (lcTab_bd c).2.2.2
  have hnet : netI (lcTab c) = netP (2 ^ t) t := by
    rw [et, ec]
    exact netI_pow (t := t) (by omega)
  have h := net_sorted (kf 11) (r := t) (l := updL f (lcTab c).toNat) (by rw [updL_len, etn])
  rw [← hnet] at h
  exact h
theorem countP_range_lt (n N : Nat) : (List.range n).countP (fun i => decide (i < N)) ≤ N := by
  rw [List.countP_eq_length_filter]
  have h := nodup_le (L := (List.range n).filter (fun i => decide (i < N))) (M := List.range N) (List.nodup_range.sublist List.filter_sublist) (fun x hx => by
    rw [List.mem_filter] at hx
    simpa using hx.2)
  simpa using h
theorem tab2_blank {c : Lc} {fr : Int} {T : Nat → List Int} (hfr : hasB c.1 fr = true) (hT : TabOk c T) (hb : ∀ i : Nat, placesD (lcSh c) ≤ i → i < (lcTab c).toNat → (T i).getD 0 0 ≠ 1) {j : Nat} (hj : j < (tab2 c fr T).length) (hN : placesD (lcSh c) ≤ j) : (tab2 c fr T)[j].getD 0 0 ≠ 1 := by
  intro h1
  have hl := tab2_len c fr T
  have hbd := lcTab_bd c
  have hp := placesD_bd (lcSh c)
  have hD := depthI_bd c.1
  -- keys of the rows that are handed in
  have hkey : ∀ i, i < (lcTab c).toNat → kf 11 (tab1 c fr T i) = (key1 (depthI c.1) (placesD (lcSh c)) c.1 fr i (T i)).toNat := fun i hi => by
    have hc := hT.cell i hi
    unfold kf tab1
    rw [getD_set11 hc.1]
  have hsm : ∀ i, i < (lcTab c).toNat → kf 11 (tab1 c fr T i) < 4611686018427387904 → (i : Int) < placesD (lcSh c) := fun i hi hk => by
    rw [hkey i hi] at hk
    have hk0 := key1_bd (n := placesD (lcSh c)) hfr (hT.cell i hi) (i := i) (by omega)
    unfold key1 at hk hk0
    split at hk
    · rename_i h; exact h.1
    · rename_i h; rw [if_neg h] at hk0; omega
  have hbl : ∀ i, i < (lcTab c).toNat → (tab1 c fr T i).getD 0 0 = 1 → kf 11 (tab1 c fr T i) < 4611686018427387904 := fun i hi h => by
    have hc := hT.cell i hi
    rw [hkey i hi]
    unfold tab1 at h
    rw [getD_set hc.1 _ 0 (by omega)] at h
    have hin : (i : Int) < placesD (lcSh c) := by
      rcases Int.lt_or_le (i : Int) (placesD (lcSh c)) with h2 | h2
      · exact h2
      · exact absurd h (hb i h2 hi)
    have hi2 := itC_bd hfr hc h
    unfold key1
    rw [if_pos ⟨hin, h⟩]
    omega
  obtain ⟨i0, hi0, e0⟩ := List.mem_map.1 ((cxs_perm _ _ _).mem_iff.1 (List.getElem_mem hj))
  have hkj : kf 11 (tab2 c fr T)[j] < 4611686018427387904 := by
    rw [← e0] at h1 ⊢
    exact hbl i0 (List.mem_range.1 hi0) h1
  have hso : (tab2 c fr T).Pairwise (fun x y => kf 11 x ≤ kf 11 y) := tab_sorted c (tab1 c fr T)
  have hpre : ∀ x ∈ (tab2 c fr T).take (j + 1), kf 11 x < 4611686018427387904 := by
    intro x hx
    obtain ⟨i, hi, rfl⟩ := List.getElem_of_mem hx
    rw [List.getElem_take]
    have hi' : i < j + 1 := by rw [List.length_take] at hi; omega
    rcases Nat.lt_or_ge i j with h2 | h2
    · have := (List.pairwise_iff_getElem.1 hso) i j (by omega) hj h2
      exact Nat.lt_of_le_of_lt this hkj
    · have : i = j := by omega
      subst this
      exact hkj
  have hlo : j + 1 ≤ (tab2 c fr T).countP (fun x => decide (kf 11 x < 4611686018427387904)) := by
    have h2 := (List.take_sublist (j + 1) (tab2 c fr T)).countP_le (p := fun x => decide (kf 11 x < 4611686018427387904))
    have h3 : ((tab2 c fr T).take (j + 1)).countP (fun x => decide (kf 11 x < 4611686018427387904)) = ((tab2 c fr T).take (j + 1)).length := List.countP_eq_length.2 (fun x hx => by simpa using hpre x hx)
    rw [h3, List.length_take] at h2
    omega
  have hhi : (tab2 c fr T).countP (fun x => decide (kf 11 x < 4611686018427387904)) ≤ (placesD (lcSh c)).toNat := by
    unfold tab2
    rw [(cxs_perm _ _ _).countP_eq]
    unfold updL
    rw [List.countP_map]
    refine Nat.le_trans (List.countP_mono_left (q := fun i => decide (i < (placesD (lcSh c)).toNat)) (fun i hi h => ?_)) (countP_range_lt _ _)
    simp only [Function.comp, decide_eq_true_eq] at h ⊢
    have := hsm i (List.mem_range.1 hi) h
    omega
  omega
/-- places of the table's rows -/
def keyT (c : Lc) (fr : Int) (T : Nat → List Int) (j : Nat) : Int := key2 (placesD (lcSh c)) (dealP (lcSh c) (itsL c fr T)) j
theorem tab3_key {c : Lc} {fr : Int} {T : Nat → List Int} (hfr : hasB c.1 fr = true) (hT : TabOk c T) {j : Nat} (hj : j < (lcTab c).toNat) : (tab3 c fr T j).getD 11 0 = keyT c fr T j := by
  have hl := tab2_len c fr T
  unfold tab3 cell2 keyT
  refine getD_set11 ?_ _
  split
  · rfl
  · rw [List.getD_eq_getElem?_getD, List.getElem?_eq_getElem (by omega)]
    exact (tab2_ok hfr hT _ (List.getElem_mem _)).1
theorem keyT_perm {c : Lc} {fr : Int} {T : Nat → List Int} (hr : lcRight c = true) : ((List.range (lcTab c).toNat).map (keyT c fr T)).Perm (idx (lcTab c).toNat) := by
  have hbd := lcTab_bd c
  have hp := placesD_bd (lcSh c)
  have hil := its_len (c := c) fr T
  obtain ⟨N, hN⟩ : ∃ N : Nat, placesD (lcSh c) = N := ⟨(placesD (lcSh c)).toNat, by omega⟩
  obtain ⟨K, hK⟩ : ∃ K : Nat, (lcTab c).toNat = N + K := ⟨(lcTab c).toNat - N, by omega⟩
  have hpl := dealP_len (lcRight_iff hr).2 hil
  have hperm := deal_perm (lcRight_iff hr).2 (n := (itsL c fr T).length) hil rfl
  have hiN : (itsL c fr T).length = N := by omega
  rw [hiN] at hperm
  have hplN : (dealP (lcSh c) (itsL c fr T)).length = N := by omega
  rw [hK]
  have e1 : (List.range (N + K)).map (keyT c fr T) = dealP (lcSh c) (itsL c fr T) ++ (List.range K).map (fun k : Nat => ((N + k : Nat) : Int)) := by
    rw [List.range_add, List.map_append, List.map_map]
    congr 1
    · apply List.ext_getElem (by simp [hplN])
      intro i h1 h2
      simp only [List.getElem_map, List.getElem_range]
      unfold keyT key2
      rw [if_pos (by rw [hN]; omega), List.getD_eq_getElem?_getD, List.getElem?_eq_getElem h2]
      rfl
    · refine List.map_congr_left fun k _ => ?_
      simp only [Function.comp]
      unfold keyT key2
      rw [if_neg (by rw [hN]; omega)]
  have e2 : idx (N + K) = idx N ++ (List.range K).map (fun k : Nat => ((N + k : Nat) : Int)) := by
    unfold idx
    rw [List.range_add, List.map_append, List.map_map]
    rfl
  rw [e1, e2]
  exact hperm.append_right _
theorem tab4_key {c : Lc} {fr : Int} {T : Nat → List Int} (hr : lcRight c = true) (hfr : hasB c.1 fr = true) (hT : TabOk c T) : (tab4 c fr T).map (fun x => x.getD 11 0) = idx (lcTab c).toNat := by
  have hbd := lcTab_bd c
  have hperm : ((tab4 c fr T).map (fun x => x.getD 11 0)).Perm (idx (lcTab c).toNat) := by
    refine List.Perm.trans ?_ (keyT_perm (fr := fr) (T := T) hr)
    have h1 : ((tab4 c fr T).map (fun x => x.getD 11 0)).Perm ((updL (tab3 c fr T) (lcTab c).toNat).map (fun x => x.getD 11 0)) := (cxs_perm _ _ _).map _
    refine h1.trans (List.Perm.of_eq ?_)
    unfold updL
    rw [List.map_map]
    exact List.map_congr_left fun j hj => tab3_key hfr hT (List.mem_range.1 hj)
  refine List.Perm.eq_of_pairwise (le := fun x y : Int => x ≤ y) (fun a b _ _ h1 h2 => by omega) ?_ ((idx_up _).imp (fun h => by omega)) hperm
  rw [List.pairwise_map]
  have hso : (tab4 c fr T).Pairwise (fun x y => kf 11 x ≤ kf 11 y) := tab_sorted c (tab3 c fr T)
  exact hso.imp_of_mem fun {x y} hx hy hxy => by
    have h3 := (idx_mem.1 (hperm.mem_iff.1 (List.mem_map.2 ⟨x, hx, rfl⟩))).1
    have h4 := (idx_mem.1 (hperm.mem_iff.1 (List.mem_map.2 ⟨y, hy, rfl⟩))).1
    unfold kf at hxy
    omega
/-- the row that stands at a place -/
theorem tab4_row {c : Lc} {fr : Int} {T : Nat → List Int} (hr : lcRight c = true) (hfr : hasB c.1 fr = true) (hT : TabOk c T) {i : Nat} (hi : i < (lcTab c).toNat) : ∃ j, j < (lcTab c).toNat ∧ keyT c fr T j = i ∧ (tab4 c fr T).getD i zeros = tab3 c fr T j := by
  have hl := tab4_len c fr T
  have h4 : i < (tab4 c fr T).length := by omega
  obtain ⟨j, hj, e⟩ := List.mem_map.1 ((cxs_perm _ _ _).mem_iff.1 (List.getElem_mem h4))
  have hk := tab4_key hr hfr hT
  have h5 : ((tab4 c fr T).map (fun x => x.getD 11 0))[i]? = some (i : Int) := by
    rw [hk]; simp [idx, hi]
  rw [List.getElem?_map, List.getElem?_eq_getElem h4] at h5
  have e' : tab3 c fr T j = (tab4 c fr T)[i] := e
  refine ⟨j, List.mem_range.1 hj, ?_, by rw [List.getD_eq_getElem?_getD, List.getElem?_eq_getElem h4, e']; rfl⟩
  rw [← tab3_key hfr hT (List.mem_range.1 hj), e']
  simpa using h5
end Go.Sg
end
section

/-
  A level's dealing, in plain Lean: the blocks that are written back, and where.
-/
namespace Go.Sg
open Go Go.RowKit Go.Proofs.YthchfdobdghdoaaGreat
theorem cellOk_set {L : Int} {c : List Int} (h : CellOk L c) {x : Int} (hx : Word x) : CellOk L (c.set 11 x) := by
  have h2 := set_ok ⟨h.1, h.2.1⟩ hx
  refine ⟨h2.1, h2.2, fun h1 => ?_⟩
  rw [getD_set h.1 x 0 (by omega)] at h1
  rw [getD_set h.1 x 1 (by omega), getD_set h.1 x 2 (by omega)]
  exact h.2.2 h1
theorem filterMap_congrL {α β : Type} {f g : α → Option β} : ∀ {l : List α}, (∀ x ∈ l, f x = g x) → l.filterMap f = l.filterMap g
  | [], _ => rfl
  | a :: l, h => by
    have h1 := h a List.mem_cons_self
    have h2 := filterMap_congrL (l := l) (fun x hx => h x (List.mem_cons_of_mem _ hx))
    rw [List.filterMap_cons, List.filterMap_cons, h1, h2]
theorem getD_range {α : Type} (l : List α) (d : α) : (List.range l.length).map (fun i => l.getD i d) = l := by
  apply List.ext_getElem (by simp)
  intro i h1 h2
  simp [List.getElem?_eq_getElem h2]
section
variable {c : Lc} {fr : Int} {T : Nat → List Int}
theorem tab1_cell (hfr : hasB c.1 fr = true) (hT : TabOk c T) {i : Nat} (hi : i < (lcTab c).toNat) : CellOk c.1 (tab1 c fr T i) := by
  have hb := lcTab_bd c
  have hk := key1_bd (n := placesD (lcSh c)) hfr (hT.cell i hi) (i := i) (by omega)
  exact cellOk_set (hT.cell i hi) ⟨hk.1, by omega⟩
theorem tab2_cell (hfr : hasB c.1 fr = true) (hT : TabOk c T) {j : Nat} (hj : j < (lcTab c).toNat) : CellOk c.1 ((tab2 c fr T).getD j zeros) := by
  have hl := tab2_len c fr T
  rw [List.getD_eq_getElem?_getD, List.getElem?_eq_getElem (by omega)]
  obtain ⟨i, hi, e⟩ := List.mem_map.1 ((cxs_perm _ _ _).mem_iff.1 (List.getElem_mem (show j < (tab2 c fr T).length by omega)))
  show CellOk c.1 ((tab2 c fr T)[j])
  rw [← e]
  exact tab1_cell hfr hT (List.mem_range.1 hi)
theorem tab3_cell (hr : lcRight c = true) (hfr : hasB c.1 fr = true) (hT : TabOk c T) {j : Nat} (hj : j < (lcTab c).toNat) : CellOk c.1 (tab3 c fr T j) := by
  have hw := (tab3_ok hr hfr hT hj).2
  have hk := tab3_key hfr hT hj
  have hlen := (tab3_ok hr hfr hT hj).1
  have hkw : Word (keyT c fr T j) := by
    rw [← hk, List.getD_eq_getElem?_getD, List.getElem?_eq_getElem (by omega)]
    exact hw _ (List.getElem_mem _)
  unfold tab3 cell2
  refine cellOk_set ?_ hkw
  split
  · exact zeros_ok _
  · exact tab2_cell hfr hT hj
theorem accU_cell (hr : lcRight c = true) (hfr : hasB c.1 fr = true) (hT : TabOk c T) {i : Nat} (hi : i < (lcTab c).toNat) : CellOk c.1 (accU c fr T i) := by
  obtain ⟨j, hj, _, e⟩ := tab4_row hr hfr hT hi
  unfold accU
  rw [e]
  exact cellOk_set (tab3_cell hr hfr hT hj) ⟨by decide, by decide⟩
theorem bk_accU (hr : lcRight c = true) (hfr : hasB c.1 fr = true) (hT : TabOk c T) {i : Nat} (hi : i < (lcTab c).toNat) : bk (accU c fr T i) = bk ((tab4 c fr T).getD i zeros) := by
  unfold accU
  exact bk_set (accU_ok hr hfr hT hi).1 0
theorem bk_tab3 (hL : lostL c fr T = []) (hfr : hasB c.1 fr = true) (hT : TabOk c T) {j : Nat} (hj : j < (lcTab c).toNat) : bk (tab3 c fr T j) = bk ((tab2 c fr T).getD j zeros) := by
  unfold tab3 cell2
  have e : dealLost (lcSh c) (itsL c fr T) = [] := hL
  rw [e]
  simp only [List.not_mem_nil, decide_false, Bool.false_eq_true, if_false]
  exact bk_set (tab2_cell hfr hT hj).1 _
/-- what stands at a place -/
theorem row_spec (hr : lcRight c = true) (hfr : hasB c.1 fr = true) (hT : TabOk c T) (hb : ∀ i : Nat, placesD (lcSh c) ≤ i → i < (lcTab c).toNat → (T i).getD 0 0 ≠ 1) (hL : lostL c fr T = []) {i : Nat} (hi : i < (lcTab c).toNat) {b : Bk} (h : bk ((tab4 c fr T).getD i zeros) = some b) :
    (i : Int) + 1 < placesD (lcSh c) ∧ hasB c.1 b.2.1 = true ∧ ((i : Int) < levelsD (lcSh c) → (i : Int) / c.2.1 ≤ deepI c.1 fr b.2.1) := by
  obtain ⟨j, hj, hk, e⟩ := tab4_row hr hfr hT hi
  have hl := tab2_len c fr T
  have hbd := lcTab_bd c
  rw [e, bk_tab3 hL hfr hT hj] at h
  have hc := tab2_cell hfr hT hj
  have e2 : (tab2 c fr T).getD j zeros = (tab2 c fr T)[j]'(by omega) := by rw [List.getD_eq_getElem?_getD, List.getElem?_eq_getElem (by omega)]; rfl
  have h1 : ((tab2 c fr T).getD j zeros).getD 0 0 = 1 := bk_some.1 (by rw [h]; rfl)
  have hbv : b.2.1 = ((tab2 c fr T).getD j zeros).getD 2 0 := by
    unfold bk at h
    rw [if_pos h1] at h
    cases h
    rfl
  have hleaf := (hc.2.2 h1).2.2
  rw [← hbv] at hleaf
  have hjN : (j : Int) < placesD (lcSh c) := by
    rcases Int.lt_or_le (j : Int) (placesD (lcSh c)) with h2 | h2
    · exact h2
    · rw [e2] at h1
      exact absurd h1 (tab2_blank hfr hT hb (by omega) h2)
  have hil := its_len (c := c) fr T
  have hsr := (lcRight_iff hr).2
  have hd2 := deepI_bd hfr hleaf
  have hit : getD' (itsL c fr T) (j : Int) = itC c.1 fr ((tab2 c fr T).getD j zeros) := by
    unfold getD' itsL
    rw [Int.toNat_natCast, List.getD_eq_getElem?_getD, List.getElem?_map, List.getElem?_take, if_pos (by omega), List.getElem?_eq_getElem (by omega), e2]
    rfl
  have hit2 : (getD' (itsL c fr T) (j : Int)).2 = deepI c.1 fr b.2.1 := by
    rw [hit]
    unfold itC
    rw [if_pos h1, hbv]
  have hkey : keyT c fr T j = endG (lcSh c) (itsL c fr T) j := by
    unfold keyT key2
    rw [if_pos hjN, dealP_eq hsr (n := (itsL c fr T).length) hil rfl, List.getD_eq_getElem?_getD, List.getElem?_map, List.getElem?_range (by omega)]
    rfl
  rw [hkey] at hk
  rcases deal_kept hsr (n := (itsL c fr T).length) hil rfl (i := j) (by omega) (by rw [hit2]; exact hd2.1) with h3 | ⟨_, _, h4, h5⟩
  · rw [← dealLost_eq hsr (n := (itsL c fr T).length) hil rfl] at h3
    have e3 : dealLost (lcSh c) (itsL c fr T) = [] := hL
    rw [e3] at h3
    cases h3
  · rw [hk] at h4 h5
    rw [hit2] at h5
    exact ⟨by omega, hleaf, h5⟩
/-- the blocks that are written back are those that were gathered -/
theorem acc_blocks (hr : lcRight c = true) (hfr : hasB c.1 fr = true) (hT : TabOk c T) (hb : ∀ i : Nat, placesD (lcSh c) ≤ i → i < (lcTab c).toNat → (T i).getD 0 0 ≠ 1) (hL : lostL c fr T = []) {n : Nat} (hn : (n : Int) + 1 = placesD (lcSh c)) :
    ((List.range n).filterMap (fun i => bk (accU c fr T i))).Perm ((List.range (lcTab c).toNat).filterMap (fun i => bk (T i))) := by
  have hbd := lcTab_bd c
  have hl4 := tab4_len c fr T
  have hl2 := tab2_len c fr T
  obtain ⟨K, hK⟩ : ∃ K : Nat, (lcTab c).toNat = n + K := ⟨(lcTab c).toNat - n, by omega⟩
  have p1 : ((tab4 c fr T).filterMap bk).Perm ((updL (tab3 c fr T) (lcTab c).toNat).filterMap bk) := (cxs_perm _ _ _).filterMap bk
  have p2 : ((tab2 c fr T).filterMap bk).Perm ((updL (tab1 c fr T) (lcTab c).toNat).filterMap bk) := (cxs_perm _ _ _).filterMap bk
  have e4 : (tab4 c fr T).filterMap bk = (List.range n).filterMap (fun i => bk (accU c fr T i)) := by
    conv => lhs; rw [← getD_range (tab4 c fr T) zeros]
    rw [List.filterMap_map, hl4, hK, List.range_add, List.filterMap_append]
    have e5 : ((List.range K).map (n + ·)).filterMap (bk ∘ fun i => (tab4 c fr T).getD i zeros) = [] := by
      rw [List.filterMap_eq_nil_iff]
      intro x hx
      obtain ⟨k, hk, rfl⟩ := List.mem_map.1 hx
      have hk2 := List.mem_range.1 hk
      simp only [Function.comp]
      cases h : bk ((tab4 c fr T).getD (n + k) zeros) with
      | none => rfl
      | some b =>
        have := (row_spec hr hfr hT hb hL (i := n + k) (by omega) h).1
        omega
    rw [e5, List.append_nil]
    refine filterMap_congrL fun i hi => ?_
    have := List.mem_range.1 hi
    exact (bk_accU hr hfr hT (by omega)).symm
  have e3 : (updL (tab3 c fr T) (lcTab c).toNat).filterMap bk = (tab2 c fr T).filterMap bk := by
    conv => rhs; rw [← getD_range (tab2 c fr T) zeros]
    unfold updL
    rw [List.filterMap_map, List.filterMap_map, hl2]
    exact filterMap_congrL fun j hj => bk_tab3 hL hfr hT (List.mem_range.1 hj)
  have e1 : (updL (tab1 c fr T) (lcTab c).toNat).filterMap bk = (List.range (lcTab c).toNat).filterMap (fun i => bk (T i)) := by
    unfold updL
    rw [List.filterMap_map]
    refine filterMap_congrL fun j hj => ?_
    exact bk_set (hT.cell j (List.mem_range.1 hj)).1 _
  rw [← e4, ← e1]
  exact p1.trans ((List.Perm.of_eq e3).trans p2)
/-- none is lost while there are few -/
theorem lost_few (hr : lcRight c = true) (hfr : hasB c.1 fr = true) (hT : TabOk c T) (h : (((List.range (lcTab c).toNat).filterMap (fun i => bk (T i))).length : Int) ≤ c.2.2) : lostL c fr T = [] := by
  have hbd := lcTab_bd c
  have hl2 := tab2_len c fr T
  have hil := its_len (c := c) fr T
  have hsr := (lcRight_iff hr).2
  have h2 := (once_facts hsr (n := (itsL c fr T).length) hil rfl).2
  have p2 : ((tab2 c fr T).filterMap bk).Perm ((updL (tab1 c fr T) (lcTab c).toNat).filterMap bk) := (cxs_perm _ _ _).filterMap bk
  have e1 : (updL (tab1 c fr T) (lcTab c).toNat).filterMap bk = (List.range (lcTab c).toNat).filterMap (fun i => bk (T i)) := by
    unfold updL
    rw [List.filterMap_map]
    refine filterMap_congrL fun j hj => ?_
    exact bk_set (hT.cell j (List.mem_range.1 hj)).1 _
  have h3 : (List.range (itsL c fr T).length).countP (realN (itsL c fr T)) ≤ ((tab2 c fr T).filterMap bk).length := by
    have h4 : (List.range (itsL c fr T).length).countP (realN (itsL c fr T)) ≤ (List.range (itsL c fr T).length).countP (fun j => (bk ((tab2 c fr T).getD j zeros)).isSome) := by
      refine List.countP_mono_left fun j hj h5 => ?_
      have hj2 := List.mem_range.1 hj
      have e2 : (tab2 c fr T).getD j zeros = (tab2 c fr T)[j]'(by omega) := by rw [List.getD_eq_getElem?_getD, List.getElem?_eq_getElem (by omega)]; rfl
      unfold realN at h5
      have hit : getD' (itsL c fr T) (j : Int) = itC c.1 fr ((tab2 c fr T).getD j zeros) := by
        unfold getD' itsL
        rw [Int.toNat_natCast, List.getD_eq_getElem?_getD, List.getElem?_map, List.getElem?_take, if_pos (by omega), List.getElem?_eq_getElem (by omega), e2]
        rfl
      rw [hit, decide_eq_true_eq] at h5
      rw [bk_some]
      unfold itC at h5
      split at h5
      · assumption
      · simp at h5
    refine Nat.le_trans h4 ?_
    have h6 : (tab2 c fr T).countP (fun x => (bk x).isSome) = ((tab2 c fr T).filterMap bk).length := List.length_filterMap_eq_countP.symm
    rw [← h6]
    have h7 : ((List.range (itsL c fr T).length).map (fun j => (tab2 c fr T).getD j zeros)) = (tab2 c fr T).take (itsL c fr T).length := by
      apply List.ext_getElem (by simp; omega)
      intro i h8 h9
      have h10 : i < (tab2 c fr T).length := by rw [List.length_take] at h9; omega
      simp [List.getElem?_eq_getElem h10]
    have h8 : (List.range (itsL c fr T).length).countP (fun j => (bk ((tab2 c fr T).getD j zeros)).isSome) = ((tab2 c fr T).take (itsL c fr T).length).countP (fun x => (bk x).isSome) := by
      rw [← h7, List.countP_map]; rfl
    rw [h8]
    exact (List.take_sublist _ _).countP_le
  have h5 := p2.length_eq
  rw [e1] at h5
  have h6 : ((dealLost (lcSh c) (itsL c fr T)).length : Int) ≤ 0 := by
    have : (lcSh c).2.2 = c.2.2 := rfl
    omega
  exact List.length_eq_zero_iff.1 (by unfold lostL; omega)
end
end Go.Sg
end
