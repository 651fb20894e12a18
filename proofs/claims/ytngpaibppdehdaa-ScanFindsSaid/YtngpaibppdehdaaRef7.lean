/-
  The walks of shellgameref7: the document's scans.
-/
import Derived.Test.YtngpaibppdehdaaScanFind
namespace Go.Proofs.Ytngpaibppdehdaa
open Go Go.RowKit Go.Sg
variable {w0 w : World} {p : Nat} {M : Mm} {D : Nat → Prop} {X : World → Prop}

/-- a new block beside a memory is filled -/
theorem OneX.fill {T : Nat} {w0 w : World} {p : Nat} {M : Mm} {D : Nat → Prop} {X : World → Prop} (hK : Keeps D X) (h : OneX T w0 w p M D X) (cs c2 : Array Value) (t : TypeId) :
    OneX T w0 ((w.alloc (.cells cs t)).setRow w.heap.size c2) p M (fun i => D i ∨ i = w.heap.size) (fun w' => X w' ∧ Blk w' w.heap.size c2 t) := by
  have hb := h.box hK cs t
  have hD : ∀ k, D k → k < w.heap.size := by
    obtain ⟨F, _, _, _, _, h5, _⟩ := h
    exact h5
  exact hb.turn (fun _ h => h) (mframe_setRow (MFrame.refl _ _) ⟨.inr rfl, h.old.size⟩ _) ⟨hK _ _ (by simp [World.setRow]) (fun i hi => setRow_other _ _ _ _ (Nat.ne_of_lt (hD i hi))) hb.x.1, hb.x.2.setRow _⟩
theorem OneX.dlt {T : Nat} {w0 w : World} {p : Nat} {M : Mm} {D : Nat → Prop} {X : World → Prop} (h : OneX T w0 w p M D X) : ∀ k, D k → k < w.heap.size := by
  obtain ⟨F, _, _, _, _, h5, _⟩ := h
  exact h5

set_option maxHeartbeats 4000000 in
set_option maxRecDepth 100000 in
theorem one_rget (hK : Keeps D X) (r at' : Int) (ha : Word at') (h : OneX 60 w0 w p M D X) (hN : M.evs.length ≤ 1099511600000) :
    Calls Try.prog 64 #[.pointer (some ⟨p, 0, none⟩), .int .i64 r, .int .u64 at'] w fun e w' => e = .returned (.agg (cw (M.read r at'))) ∧ OneX 60 w0 w' p (M.noted (readsL r (M.size r))) D X := by
  have hok := h.ok
  have hsz := Mm.size_le hok r
  have hD := h.dlt
  have hw0 := h.old.size
  have HA := Lib.hid (Mm.getK_all (M := M) (r := r) ha.1)
  have h1 := h.box hK z12 44
  have hK1 := keeps_and hK (keeps_blk w.heap.size z12 44)
  have h2 := h1.box hK1 z12 44
  rw [World.size_alloc] at h2
  obtain ⟨B, hB⟩ : ∃ B, w.heap.size = B := ⟨_, rfl⟩
  rw [hB] at h2 hK1 hD hw0
  have HD := Lib.hid hD
  have HK1 := Lib.hid hK1
  obtain ⟨n, hn⟩ : ∃ n, M.size r = n := ⟨_, rfl⟩
  have HX0 : Hid (OneX 60 w0 ((w.alloc (.cells z12 44)).alloc (.cells z12 44)) p (M.noted (readsL r 0)) (fun i => (D i ∨ i = B) ∨ i = B + 1) (fun w' => (X w' ∧ Blk w' B z12 44) ∧ Blk w' (B + 1) (wv (M.getK r at' 0)).toArray 44)) := Lib.hid (by
    have e1 : M.noted (readsL r 0) = M := by simp [readsL, Mm.noted]
    have e2 : (wv (M.getK r at' 0)).toArray = z12 := by
      have : M.getK r at' 0 = zeros := if_neg (by have := ha.1; omega)
      rw [this]; rfl
    rw [e1, e2]
    exact h2)
  have HK2 : Hid (∀ l : List Int, Keeps (fun i => (D i ∨ i = B) ∨ i = B + 1) (fun w' => (X w' ∧ Blk w' B z12 44) ∧ Blk w' (B + 1) (wv l).toArray 44)) := Lib.hid fun l => keeps_and hK1 (keeps_blk _ _ _)
  have HOK := Lib.hid hok
  clear h h1 h2 hK1 hok
  rw [hn] at hsz HA ⊢
  go_enter Try.func64, Try.ntmps64
  go_wp2_with fail
  go_loopw [8] (fun i wr => ∃ k : Nat, k ≤ n ∧ i = .int .i64 k ∧ Hid (OneX 60 w0 wr p (M.noted (readsL r k)) (fun i => (D i ∨ i = B) ∨ i = B + 1) (fun w' => (X w' ∧ Blk w' B z12 44) ∧ Blk w' (B + 1) (wv (M.getK r at' k)).toArray 44))) (fun i _ => n - (intOf i).toNat)
  case atStart => exact ⟨0, by omega, rfl, HX0⟩
  case round =>
    obtain ⟨k, hk, rfl, HX⟩ := hrel
    have HSZ := Lib.hid (one_rsize r HX.out)
    rw [Mm.noted_size, hn] at HSZ
    by_cases hlt : k < n
    · have hgk := Mm.getK_ok HOK.out r at' k
      have hgk1 := Mm.getK_ok HOK.out r at' (k + 1)
      have hrd := Mm.read_ok HOK.out r (k : Int)
      have HST := Lib.hid (Mm.getK_step (M := M) (r := r) (at' := at') (k := k))
      have hlo := Mm.look_readsL (M := M) (r := r) (k := k) (by omega)
      have HR := Lib.hid (one_rread (HK2.out _) r (k : Int) HX.out (by rw [Mm.noted_evs, List.length_append, readsL_len]; omega))
      rw [hlo, Mm.noted_read] at HR
      simp only [cw_eq] at HR
      have hz1 : (wv (M.read r (k : Int))).toArray.size = 12 := by rw [List.size_toArray, wv_len, hrd.1]
      have hz2 : (wv (M.getK r at' k)).toArray.size = 12 := by rw [List.size_toArray, wv_len, hgk.1]
      have HI1 : Hid ((Try.prog.info? 44).map (·.size) = some (wv (M.read r (k : Int))).toArray.size) := Lib.hid (by rw [hz1]; kernel_rfl)
      have HO1 := Lib.hid (all_oneCell_toArray (wv_one (M.read r (k : Int))))
      have HKK := Lib.hid (HK2.out (M.getK r at' k))
      have HE1 : Hid ((k : Int) = at' → (wv (M.getK r at' (k + 1))).toArray = (wv (M.read r (k : Int))).toArray) := Lib.hid fun e => by rw [← HST.out, if_pos e]
      have HE2 : Hid (¬ (k : Int) = at' → (wv (M.getK r at' (k + 1))).toArray = (wv (M.getK r at' k)).toArray) := Lib.hid fun e => by rw [← HST.out, if_neg e]
      clear hgk hgk1 hrd hlo HST
      generalize (wv (M.getK r at' k)).toArray = oc at *
      generalize (wv (M.read r (k : Int))).toArray = rc at *
      go_wp2_with fail
      refine HSZ.out.mono ?_
      rintro e wS ⟨rfl, rfl⟩
      go_wp2_with fail
      refine HR.out.mono ?_
      rintro e wR ⟨rfl, hX1⟩
      have hX2 := hX1.fill HKK.out z12 rc 44
      have hbx := hX1.box HKK.out z12 44
      obtain ⟨Bc, hBc⟩ : ∃ b, wR.heap.size = b := ⟨_, rfl⟩
      rw [hBc] at hX2 hbx
      have HBX := Lib.hid hbx
      have HX2 := Lib.hid hX2
      clear hX1 hX2 hbx
      have hwk : IntKind.u64.wrap (k : Int) = (k : Int) := Go.Sg.wrap_small (by omega) (by omega)
      by_cases hat : (k : Int) = at'
      · have hd : ((k : Int) == at') = true := by simp [hat]
        have hd2 : ((k : Int) == at') = true := hd
        have he := HE1.out hat
        go_upto_region 6 with (first
          | (refine wpList_store_row rfl 44 (.tmp 9) (.tmp 20) rfl Bc rc rfl rfl 44 _ HBX.out.x.2 HI1.out (by rw [hz1]; rfl) HO1.out ?_)
          | fail)
        refine at_world (fun w' => OneX 60 w0 w' p (M.noted (readsL r (k + 1))) (fun i => ((D i ∨ i = B) ∨ i = B + 1) ∨ i = Bc) (fun w' => ((X w' ∧ Blk w' B z12 44) ∧ Blk w' (B + 1) oc 44) ∧ Blk w' Bc rc 44)) HX2.out ?_
        intro w3 h3
        have HX3 := Lib.hid h3
        clear h3 HX2 HBX hBc
        go_wp2_with (first
          | (refine wpList_load_row rfl 44 (.tmp 9) rfl Bc rfl 44 rc (0, 0) _ HX3.out.x.2 Try.underlying44 rfl HI1.out ?_)
          | (refine wpList_store_row rfl 44 (.tmp 7) (.tmp 25) rfl (B + 1) rc rfl rfl 44 _ HX3.out.x.1.2 HI1.out (by rw [hz1, hz2]) HO1.out ?_)
          | fail)
        go_roundw
        case rel =>
          refine ⟨k + 1, by omega, by go_num, Lib.hid ?_⟩
          rw [he]
          refine HX3.out.turn (fun _ h => .inl h) (mframe_setRow (MFrame.refl _ _) ⟨.inl (.inr rfl), by omega⟩ _) ⟨?_, HX3.out.x.1.2.setRow _⟩
          exact HK1.out _ _ (by simp [World.setRow]) (fun i hi => setRow_other _ _ _ _ (by rcases hi with hi | hi; have := HD.out i hi; omega; omega)) HX3.out.x.1.1
        case measure => simp [intOf]; omega
      · have hd : ((k : Int) == at') = false := by simp [hat]
        have he := HE2.out hat
        go_wp2_with (first
          | (refine wpList_store_row rfl 44 (.tmp 9) (.tmp 20) rfl Bc rc rfl rfl 44 _ HBX.out.x.2 HI1.out (by rw [hz1]; rfl) HO1.out ?_)
          | fail)
        go_roundw
        case rel =>
          refine ⟨k + 1, by omega, by go_num, Lib.hid ?_⟩
          rw [he]
          exact HX2.out.less (fun _ h => .inl h) (fun h => h.1)
        case measure => simp [intOf]; omega
    · obtain rfl : k = n := by omega
      rw [HA.out] at HX
      have hrd := Mm.read_ok HOK.out r at'
      have hsz2 : (wv (M.read r at')).toArray.size = 12 := by rw [List.size_toArray, wv_len, hrd.1]
      have HI : Hid ((Try.prog.info? 44).map (·.size) = some (wv (M.read r at')).toArray.size) := Lib.hid (by rw [hsz2]; kernel_rfl)
      have HON := Lib.hid (all_oneCell_toArray (wv_one (M.read r at')))
      obtain ⟨rc, hrc⟩ : ∃ rc, rc = (wv (M.read r at')).toArray := ⟨_, rfl⟩
      rw [← hrc] at hsz2 HI HON HX
      have HRC := Lib.hid hrc
      clear hrd hrc
      go_wp2_with fail
      refine HSZ.out.mono ?_
      rintro e wS ⟨rfl, rfl⟩
      go_wp2_with (first
        | (refine wpList_load_row rfl 44 (.tmp 7) rfl (B + 1) rfl 44 rc (0, 0) _ HX.out.x.2 Try.underlying44 rfl HI.out ?_)
        | (refine wpList_store_row rfl 44 (.tmp 6) (.tmp 26) rfl B rc rfl rfl 44 _ HX.out.x.1.2 HI.out (by rw [hsz2]; rfl) HON.out ?_))
      refine bodyPost_ret (results_cell_row rfl _ _ B 44 _ (0, 0) _ rfl (HX.out.x.1.2.setRow _) Try.underlying44 rfl HI.out) rfl ⟨by rw [HRC.out]; rfl, ?_⟩
      refine HX.out.turn (fun k hk => .inl (.inl hk)) (mframe_setRow (MFrame.refl _ _) ⟨.inl (.inr rfl), hw0⟩ _) ?_
      exact hK _ _ (by simp [World.setRow]) (fun i hi => setRow_other _ _ _ _ (Nat.ne_of_lt (HD.out i hi))) HX.out.x.1.1

set_option maxHeartbeats 4000000 in
set_option maxRecDepth 100000 in
theorem one_rput (hK : Keeps D X) (r at' : Int) (ha : Word at') (c : List Int) (hc : c.length = 12) (hcw : ∀ x ∈ c, Word x) (b : Bool) (h : OneX 60 w0 w p M D X) (hN : M.evs.length ≤ 1099511600000) :
    Calls Try.prog 65 #[.pointer (some ⟨p, 0, none⟩), .int .i64 r, .int .u64 at', .agg (cw c), .int .u64 (mk b)] w fun e w' => e = .returned (.tuple #[]) ∧ OneX 60 w0 w' p ((M.putIf b r at' c (M.size r)).noted (writesL r (M.size r))) D X := by
  have hok := h.ok
  have hsz := Mm.size_le hok r
  have hD := h.dlt
  have hw0 := h.old.size
  have h1 := h.box hK (cw c) 44
  have HK1 := Lib.hid (keeps_and hK (keeps_blk w.heap.size (cw c) 44))
  obtain ⟨B, hB⟩ : ∃ B, w.heap.size = B := ⟨_, rfl⟩
  rw [hB] at h1 HK1 hD hw0
  obtain ⟨n, hn⟩ : ∃ n, M.size r = n := ⟨_, rfl⟩
  have HX0 : Hid (OneX 60 w0 (w.alloc (.cells (cw c) 44)) p ((M.putIf b r at' c 0).noted (writesL r 0)) (fun i => D i ∨ i = B) (fun w' => X w' ∧ Blk w' B (cw c) 44)) := Lib.hid (by
    rw [Mm.putIf_zero _ _ _ _ _ ha.1]
    have e1 : M.noted (writesL r 0) = M := by simp [writesL, Mm.noted]
    rw [e1]
    exact h1)
  have HOK := Lib.hid hok
  have hzc : (cw c).size = 12 := by rw [cw_size, hc]
  have HIC : Hid ((Try.prog.info? 44).map (·.size) = some (cw c).size) := Lib.hid (by rw [hzc]; kernel_rfl)
  have HOC : Hid ((cw c).all (·.oneCell') = true) := Lib.hid (cw_one c)
  have hmb : decide (0 < mk b) = b := by cases b <;> rfl
  clear h h1 hok
  generalize mk b = mb at *
  rw [hn] at hsz ⊢
  go_enter Try.func65, Try.ntmps65
  go_wp2_with fail
  go_loopw [10] (fun i wr => ∃ k : Nat, k ≤ n ∧ i = .int .i64 k ∧ Hid (OneX 60 w0 wr p ((M.putIf b r at' c k).noted (writesL r k)) (fun i => D i ∨ i = B) (fun w' => X w' ∧ Blk w' B (cw c) 44))) (fun i _ => n - (intOf i).toNat)
  case atStart => exact ⟨0, by omega, rfl, HX0⟩
  case round =>
    obtain ⟨k, hk, rfl, HX⟩ := hrel
    have HSZ := Lib.hid (one_rsize r HX.out)
    rw [Mm.noted_size, Mm.putIf_size, hn] at HSZ
    by_cases hlt : k < n
    · have hrd := Mm.read_ok HOK.out r (k : Int)
      have hnw : (if b = true ∧ (k : Int) = at' then c else M.read r (k : Int)).length = 12 ∧ ∀ x ∈ (if b = true ∧ (k : Int) = at' then c else M.read r (k : Int)), Word x := by
        split
        · exact ⟨hc, hcw⟩
        · exact hrd
      have hstep := Mm.putIf_step (M := M) (r := r) (at' := at') (b := b) (c := c) (k := k) ha.1 (by omega) (writesL r k)
      rw [← writesL_succ] at hstep
      have hrk : ((M.putIf b r at' c k).noted (writesL r k)).read r (k : Int) = M.read r (k : Int) := by
        rw [Mm.noted_read, Mm.putIf_read b c ha.1 (by omega), if_neg (by rintro ⟨_, h1, _, h2⟩; omega)]
      have hev : ((M.putIf b r at' c k).noted (writesL r k)).evs.length ≤ 1099511627000 := by
        rw [Mm.noted_evs, Mm.putIf_evs, List.length_append, writesL_len]
        omega
      have hev2 := look_evs_le ((M.putIf b r at' c k).noted (writesL r k)) r (k : Int) false
      have HR := Lib.hid (one_rread HK1.out r (k : Int) HX.out (by omega))
      have HWR := Lib.hid (fun D' X' hK' w' (h' : OneX 60 w0 w' p (((M.putIf b r at' c k).noted (writesL r k)).look r (k : Int) false) D' X') => one_rwrite hK' r (k : Int) _ hnw.1 hnw.2 h' (by omega))
      rw [hrk] at HR
      rw [hstep] at HWR
      have hz1 : (cw (M.read r (k : Int))).size = 12 := by rw [cw_size, hrd.1]
      have HI1 : Hid ((Try.prog.info? 44).map (·.size) = some (cw (M.read r (k : Int))).size) := Lib.hid (by rw [hz1]; kernel_rfl)
      have HO1 : Hid ((cw (M.read r (k : Int))).all (·.oneCell') = true) := Lib.hid (cw_one _)
      have hwk : IntKind.u64.wrap (k : Int) = (k : Int) := Go.Sg.wrap_small (by omega) (by omega)
      have HWC : Hid (b = true ∧ (k : Int) = at' → cw (if b = true ∧ (k : Int) = at' then c else M.read r (k : Int)) = cw c) := Lib.hid fun e => by rw [if_pos e]
      have HWN : Hid (¬ (b = true ∧ (k : Int) = at') → cw (if b = true ∧ (k : Int) = at' then c else M.read r (k : Int)) = cw (M.read r (k : Int))) := Lib.hid fun e => by rw [if_neg e]
      clear hrd hnw hstep hrk hev hev2
      generalize cw (if b = true ∧ (k : Int) = at' then c else M.read r (k : Int)) = nc at *
      generalize cw (M.read r (k : Int)) = rc at *
      generalize hcc : cw c = cc at *
      go_wp2_with fail
      refine HSZ.out.mono ?_
      rintro e wS ⟨rfl, rfl⟩
      go_wp2_with fail
      refine HR.out.mono ?_
      rintro e wR ⟨rfl, hX1⟩
      have hX2 := hX1.fill HK1.out z12 rc 44
      have hbx := hX1.box HK1.out z12 44
      obtain ⟨Bc, hBc⟩ : ∃ b, wR.heap.size = b := ⟨_, rfl⟩
      have HBc : Hid (w0.heap.size ≤ Bc ∧ ∀ i, (D i ∨ i = B) → i < Bc) := Lib.hid ⟨by rw [← hBc]; exact hX1.old.size, fun i hi => by rw [← hBc]; exact hX1.dlt i hi⟩
      rw [hBc] at hX2 hbx
      have HBX := Lib.hid hbx
      have HX2 := Lib.hid hX2
      clear hX1 hX2 hbx
      go_upto_region 5 with (first
        | (refine wpList_store_row rfl 44 (.tmp 11) (.tmp 22) rfl Bc rc rfl rfl 44 _ HBX.out.x.2 HI1.out (by rw [hz1]; rfl) HO1.out ?_)
        | fail)
      refine at_world (fun w' => OneX 60 w0 w' p (((M.putIf b r at' c k).noted (writesL r k)).look r (k : Int) false) (fun i => (D i ∨ i = B) ∨ i = Bc) (fun w' => (X w' ∧ Blk w' B cc 44) ∧ Blk w' Bc rc 44)) HX2.out ?_
      intro w3 h3
      have HX3 := Lib.hid h3
      clear h3 HX2 HBX hBc
      have hcs : (b = true ∧ (k : Int) = at') ∨ (b = false ∧ (k : Int) = at') ∨ ¬ (k : Int) = at' := by
        cases b <;> by_cases e : (k : Int) = at' <;> simp [e]
      rcases hcs with ⟨hb, hat⟩ | ⟨hb, hat⟩ | hat
      focus
        have hd : ((k : Int) == at') = true := by simp [hat]
        rw [HWC.out ⟨hb, hat⟩] at HWR
        have hmb2 : decide (0 < mb) = true := by rw [hmb, hb]
        clear hat hb hmb
        go_upto_region 7 with (first
          | (refine wpList_load_row rfl 44 (.tmp 8) rfl B rfl 44 cc (0, 0) _ HX3.out.x.1.2 Try.underlying44 rfl HIC.out ?_)
          | (refine wpList_store_row rfl 44 (.tmp 11) (.tmp 31) rfl Bc cc rfl rfl 44 _ HX3.out.x.2 HIC.out (by rw [hz1, hzc]) HOC.out ?_)
          | fail)
        refine at_world (fun w' => OneX 60 w0 w' p (((M.putIf b r at' c k).noted (writesL r k)).look r (k : Int) false) (fun i => (D i ∨ i = B) ∨ i = Bc) (fun w' => (X w' ∧ Blk w' B cc 44) ∧ Blk w' Bc cc 44)) (HX3.out.turn (fun _ h => h) (mframe_setRow (MFrame.refl _ _) ⟨.inr rfl, HBc.out.1⟩ _) ⟨HK1.out _ _ (by simp [World.setRow]) (fun i hi => setRow_other _ _ _ _ (Nat.ne_of_lt (HBc.out.2 i hi))) HX3.out.x.1, HX3.out.x.2.setRow _⟩) ?_
        intro w4 h4
        have HX4 := Lib.hid h4
        have HIW := HIC
        clear h4 HX3
      rotate_left
      focus
        have hd : ((k : Int) == at') = true := by simp [hat]
        rw [HWN.out (fun h => by rw [hb] at h; cases h.1)] at HWR
        have HX4 := HX3
        have HIW := HI1
        have hmb2 : decide (0 < mb) = false := by rw [hmb, hb]
        clear hat hb hmb
        go_upto_region 7 with fail
      rotate_left
      focus
        have hd : ((k : Int) == at') = false := by simp [hat]
        rw [HWN.out (fun h => hat h.2)] at HWR
        have HX4 := HX3
        have HIW := HI1
        clear hat hmb
        go_upto_region 7 with fail
      all_goals
        go_wp2_with (first
          | (refine wpList_load_row rfl 44 (.tmp 11) rfl Bc rfl 44 _ (0, 0) _ HX4.out.x.2 Try.underlying44 rfl HIW.out ?_)
          | fail)
        refine (HWR.out _ _ (keeps_and HK1.out (keeps_blk _ _ _)) _ HX4.out).mono ?_
        rintro e w5 ⟨rfl, hX5⟩
        have HX5 := Lib.hid (hX5.less (E := fun i => D i ∨ i = B) (Y := fun w' => X w' ∧ Blk w' B cc 44) (fun _ h => .inl h) (fun h => h.1))
        clear hX5 HX4
        go_wp2
        go_roundw
        case rel => exact ⟨k + 1, by omega, by go_num, HX5⟩
        case measure => simp [intOf]; omega
    · obtain rfl : k = n := by omega
      go_wp2_with fail
      refine HSZ.out.mono ?_
      rintro e wS ⟨rfl, rfl⟩
      go_wp2
      go_end0
      exact ⟨rfl, HX.out.less (fun k hk => .inl hk) (fun h => h.1)⟩
end Go.Proofs.Ytngpaibppdehdaa
