/-
  Joined texts: RvH, RvD, RvC, LvPair.
-/
import Derived.Test.YthchfdobdghdoaaGreatHbr
import Derived.Test.YthchfdobdghdoaaGreatHbm
import Derived.Test.YthchfdobdghdoaaGreatHbc
import Derived.Test.YthchfdobdghdoaaGreatHbe
import Derived.Test.YthchfdobdghdoaaGreatHbn
import Derived.Maps.AppendAt
import Derived.Test.YthchfdobdghdoaaGreatHbo
import Derived.Test.YthchfdobdghdoaaGreatHbg
import Derived.Test.YthchfdobdghdoaaGreatHbq
set_option linter.unusedVariables false
set_option linter.unusedSimpArgs false
set_option linter.unusedSectionVars false
set_option linter.unnecessarySimpa false
section
/-
  The walk of the document's Events of a level, whatever the regions are; level's and the document's, when there are none.
-/
namespace Go.Sg
open Go Go.RowKit
/-- the looks of so many dealings -/
def dlsE (f2 : Int) (n : Nat) (es : List Ev) (j : Nat) : List Ev := (List.replicate j (writesL f2 n ++ es)).flatten
theorem dlsE_succ (f2 : Int) (n : Nat) (es : List Ev) (j : Nat) : dlsE f2 n es (j + 1) = dlsE f2 n es j ++ writesL f2 n ++ es := by
  unfold dlsE
  rw [List.replicate_succ', List.flatten_append, List.flatten_singleton, List.append_assoc]
theorem dlsE_len (f2 : Int) (n : Nat) (es : List Ev) (j : Nat) : (dlsE f2 n es j).length = j * (2 * n + es.length) := by
  induction j with
  | zero => simp [dlsE]
  | succ j ih => rw [dlsE_succ, List.length_append, List.length_append, ih, writesL_len, Nat.add_mul]; omega
theorem evsV2 (es : List Ev) (a b : Ev) : evsV (es ++ [a, b]) = evsV es ++ (evV a ++ evV b) := by
  rw [evsV_append]
  simp [evsV]
end Go.Sg
namespace Go.Proofs.YthchfdobdghdoaaGreat
open Go Go.RowKit Go.Sg
set_option maxHeartbeats 8000000 in
set_option maxRecDepth 100000 in
theorem rvEventsG_any (c : Lc) (hc : LcOk c) (hr : lcRight c = true) (first f1 f2 : Int) (wf1 : IntKind.i64.wrap (first + 1) = f1) (wf2 : IntKind.i64.wrap (first + 2) = f2) (fr : Int) (hfr : hasB c.1 fr = true) (w : World) :
    Calls Tryz.prog 18 #[.int .i64 first, .agg #[.int .i64 c.1, .int .i64 c.2.1, .int .i64 c.2.2], .int .i64 fr] w (RetE (evG first f1 f2 c fr) w) := by
  have KR := Lib.hid (fun w' => rvright_any c hc w')
  rw [hr] at KR
  have KP := Lib.hid (fun w' => rvplaces_any c hc hr first f1 fr wf1 hfr w')
  have KZ := Lib.hid (fun w' => rvsizes_any c hc w')
  have hsz : szL c = (c.2.1 * nodesI c.1, c.2.2, lcTab c) := by unfold szL; rw [if_pos hr]
  rw [hsz] at KZ
  have hfb := hasB_lt hfr
  have hbd := lcTab_bd c
  have hln := spG_len (first := first) (f1 := f1) hr hfr
  have hbk := bakE_len f2 (spG first f1 c fr) (spG first f1 c fr).length
  obtain ⟨n, hn⟩ : ∃ n : Nat, lcTab c = n := ⟨(lcTab c).toNat, by omega⟩
  have KE := Lib.hid (fun w' => refEvents_any f2 (lcTab c) (by unfold Num; omega) w')
  have HEL := Lib.hid (evsR_len f2 (lcTab c))
  have HEP := Lib.hid (evsR_pos c hr f2)
  have HEA : Hid (evG first f1 f2 c fr = gatE f2 (spG first f1 c fr) n ++ dlsE f2 n (evsR f2 (lcTab c)) 2 ++ bakE f2 (spG first f1 c fr) (spG first f1 c fr).length) := Lib.hid (by
    unfold evG dealEv
    rw [hn, Int.toNat_natCast, dlsE_succ, dlsE_succ]
    simp [dlsE])
  obtain ⟨sp, hsp⟩ : ∃ sp, spG first f1 c fr = sp := ⟨_, rfl⟩
  obtain ⟨es, hes⟩ : ∃ es, evsR f2 (lcTab c) = es := ⟨_, rfl⟩
  rw [hsp] at KP HEA hln hbk
  rw [hes] at KE HEL HEP HEA
  rw [hn] at KZ KE hbd
  have hspn : sp.length < n := by omega
  have hel := HEL.out
  clear hln hsz
  have dn1 : decide (fr < 0) = false := decide_eq_false (by omega)
  have dn2 : decide (c.1 ≤ fr) = false := decide_eq_false (by omega)
  obtain ⟨A, hA⟩ : ∃ A, w.heap.size = A := ⟨_, rfl⟩
  obtain ⟨w1, hw1⟩ : ∃ w1, w.alloc (.cells #[.int .i64 c.1, .int .i64 c.2.1, .int .i64 c.2.2] 28) = w1 := ⟨_, rfl⟩
  have hb1 : Below w.heap.size w w1 := by rw [← hw1]; exact (Below.refl _ _).alloc (Nat.le_refl _) _
  have k1 : Blk w1 A #[.int .i64 c.1, .int .i64 c.2.1, .int .i64 c.2.2] 28 := by rw [← hw1, ← hA]; exact Blk.new w _ _
  have HB1 := Lib.hid hb1
  have K1 := Lib.hid k1
  have HW1 := Lib.hid hw1
  have a0 : w1.cell? ⟨A, 0, none⟩ = some (.int .i64 c.1) := k1.cell 0
  have a1 : w1.cell? ⟨A, 1, none⟩ = some (.int .i64 c.2.1) := k1.cell 1
  have a2 : w1.cell? ⟨A, 2, none⟩ = some (.int .i64 c.2.2) := k1.cell 2
  have HIL := Lib.hid (info_rcL c)
  obtain ⟨i0, hi0, hz0, hz1, hz2⟩ := info_parts info_event
  have HI := Lib.hid hi0
  have HZ := Lib.hid hz0
  have HS := Lib.hid hz1
  have HY := Lib.hid hz2
  clear hi0 hz0 hz1 hz2 hw1 hb1 k1 hsp hes hr hfr hn hc wf1
  go_enter Tryz.func18, Tryz.ntmps18
  go_wp2_with fail
  rw [HW1.out]
  refine (KR.out _).mono ?_
  rintro e w2 ⟨rfl, hb2⟩
  have K2 := Lib.hid (K1.out.below hb2 K1.out.lt)
  have HB2 : Hid (Below w.heap.size w w2) := Lib.hid (HB1.out.trans (hb2.mono HB1.out.size))
  clear a0 a1 a2 hb2
  have a0 : w2.cell? ⟨A, 0, none⟩ = some (.int .i64 c.1) := K2.out.cell 0
  have a1 : w2.cell? ⟨A, 1, none⟩ = some (.int .i64 c.2.1) := K2.out.cell 1
  have a2 : w2.cell? ⟨A, 2, none⟩ = some (.int .i64 c.2.2) := K2.out.cell 2
  go_wp2_with fail
  refine (KP.out _).mono ?_
  rintro e w3 ⟨pv, rfl, hown3, hb3⟩
  have K3 := Lib.hid (K2.out.below hb3 K2.out.lt)
  have HB3 : Hid (Below w.heap.size w w3) := Lib.hid (HB2.out.trans (hb3.mono HB2.out.size))
  clear a0 a1 a2 hb3
  have a0 : w3.cell? ⟨A, 0, none⟩ = some (.int .i64 c.1) := K3.out.cell 0
  have a1 : w3.cell? ⟨A, 1, none⟩ = some (.int .i64 c.2.1) := K3.out.cell 1
  have a2 : w3.cell? ⟨A, 2, none⟩ = some (.int .i64 c.2.2) := K3.out.cell 2
  have hsl := SlK.of_owns hown3
  obtain ⟨pa, pcap, rfl, hp1, hp2, hp3⟩ := hsl
  have HP3 := Lib.hid hp3
  unfold maxLen at hp2
  clear hown3 hp3
  go_wp2_with fail
  refine (KZ.out _).mono ?_
  rintro e w4 ⟨rfl, hb4⟩
  have HB4 : Hid (Below w.heap.size w w4) := Lib.hid (HB3.out.trans (hb4.mono HB3.out.size))
  obtain ⟨V, hV⟩ : ∃ V, w4.heap.size = V := ⟨_, rfl⟩
  have HVE := Lib.hid hV
  have HWV : Hid (w.heap.size ≤ V) := Lib.hid (by have := HB4.out.size; omega)
  have HPC : Hid (∀ i (hi : i < sp.length), ∃ b off, pa = some ⟨b, off, none⟩ ∧ ∀ w', Below V w4 w' → w'.cell? ⟨b, off + i * 2, none⟩ = some (.int .i64 sp[i].1) ∧ w'.cell? ⟨b, off + i * 2 + 1, none⟩ = some (.int .i64 sp[i].2)) := Lib.hid fun i hi => by
    obtain ⟨b, off, e, hlt, hr⟩ := HP3.out (fun e => by rw [e] at hi; simp at hi)
    have hr1 := range_flat spV_k hr hi
    have h0 := hr1 0 _ rfl
    have h1 := hr1 1 _ rfl
    rw [Nat.add_zero] at h0
    have hbV : b < V := by have := hb4.size; omega
    refine ⟨b, off, e, fun w' hb => ⟨?_, ?_⟩⟩
    · exact ((hb.cell (p := ⟨b, off + i * 2, none⟩) hbV).trans (hb4.cell (p := ⟨b, off + i * 2, none⟩) hlt)).trans h0
    · exact ((hb.cell (p := ⟨b, off + i * 2 + 1, none⟩) hbV).trans (hb4.cell (p := ⟨b, off + i * 2 + 1, none⟩) hlt)).trans h1
  have HBR : Hid (Below V w4 w4) := Lib.hid (Below.refl _ _)
  clear a0 a1 a2 hb4 hV HP3 K2 K3 HB2 HB3 K1 KR KP KZ HB1 HW1
  go_wp2_with fail
  go_loopw [11, 12] (fun sv iv wr => ∃ i : Nat, i ≤ n ∧ iv = .int .i64 i ∧ Hid (wr.ownsRow V 94 3 sv (gatE f2 sp i).length (evsV (gatE f2 sp i))) ∧ Hid (Below V w4 wr)) (fun _ iv _ => n - (intOf iv).toNat)
  case atStart => exact ⟨0, by omega, rfl, Lib.hid (by have := World.ownsRow_nil w4 V 94 3; simpa [gatE, evsV] using this), HBR⟩
  case round =>
    obtain ⟨i, hi, rfl, HO, HB⟩ := hrel
    by_cases hin : i < n
    · have di : decide ((i : Int) < (n : Int)) = true := decide_eq_true (by omega)
      have di' : decide (i < n) = true := decide_eq_true hin
      have i0' : (0 : Int) ≤ (i : Int) := by omega
      have hgl := gatE_len f2 sp i
      have HSZ : Hid (V ≤ wr.heap.size) := Lib.hid (by have := HVE.out; have := HB.out.size; omega)
      by_cases hlt : i < sp.length
      · have dj : decide ((i : Int) < (sp.length : Int)) = true := decide_eq_true (by omega)
        have dj' : decide (i < sp.length) = true := decide_eq_true hlt
        have i1' : (i : Int) < (sp.length : Int) := by omega
        obtain ⟨b, off, rfl, hcl⟩ := HPC.out i hlt
        have HCL := Lib.hid hcl
        have HGN := Lib.hid (gatE_lt (r := f2) hlt)
        generalize sp[i] = s at *
        obtain ⟨s1, s2⟩ := s
        simp only at HCL HGN
        generalize gatE f2 sp i = G at *
        have hb0 := HB.out.drew
        have hc0 := HCL.out _ hb0
        have HO0 := Lib.hid (ownsRow_below HO.out ((Below.refl _ _).drew))
        clear hcl
        go_upto_region 10 with fail
        go_region_held3 (fun w' => w'.cell? ⟨b, off + i * 2, none⟩ = some (.int .i64 s1) ∧ w'.cell? ⟨b, off + i * 2 + 1, none⟩ = some (.int .i64 s2)) (first | exact HCL.out _ (by assumption) | exact HCL.out _ (hb0.alloc (by have := HSZ.out; simpa using this) _)) (first
          | (go_loud (refine step_append_own_at rfl (.tmp 48) (.tmp 60) 48 rfl V 94 i0 (.agg #[.int .i64 0, .int .i64 0, .bool false]) 3 24 Tryz.underlying48 HI.out HZ.out HS.out HY.out rfl (by decide) _ G.length (evsV G) rfl (HO0.out.alloc _) ⟨wr.drew.heap.size, 0, none⟩ 1 1 [.int .i64 s1, .int .i64 s2, .bool false] rfl rfl (cells_litD _ _ _) (by simp [Value.oneCell']) (by unfold maxLen; omega) (by omega) (by have := HSZ.out; simp; omega) ?_); intro v' w10 hown hgrow _; have hb10 : Below V w4 w10 := (hb0.alloc (by have := HSZ.out; simpa using this) _).grown hgrow (by have := HSZ.out; simp; omega) (fun j hj => (HO.out.lt j hj).1)))
        all_goals
          have HO10 := Lib.hid hown
          have HB10 := Lib.hid hb10
          have HSZ10 : Hid (V ≤ w10.heap.size) := Lib.hid (by have := HVE.out; have := HB10.out.size; omega)
          clear hown hgrow hb10 hc0 hb0 HO HB
          go_wp2_with (first
            | (at_builtin; go_loud (refine wpList_append_own_at _ rfl (.tmp 62) (.tmp 67) 48 rfl V 94 i0 (.agg #[.int .i64 0, .int .i64 0, .bool false]) 3 24 Tryz.underlying48 HI.out HZ.out HS.out HY.out rfl (by decide) _ (G.length + 1) _ rfl (HO10.out.alloc _) ⟨w10.heap.size, 0, none⟩ 1 1 [.int .i64 f2, .int .i64 i, .bool true] rfl rfl (cells_litD _ _ _) (by simp [Value.oneCell']) (by unfold maxLen; omega) (by omega) (by have := HSZ10.out; simp; omega) ?_))
            | fail)
          intro v2 w20 hown hgrow _ _
          have HO20 := Lib.hid hown
          have HB20 : Hid (Below V w4 w20) := Lib.hid ((HB10.out.alloc HSZ10.out _).grown hgrow (by have := HSZ10.out; simp; omega) (fun kk hkk => (HO10.out.lt kk hkk).1))
          clear hown hgrow
          go_wp2
          go_roundw
          case rel => exact ⟨i + 1, by omega, by go_num, Lib.hid (by rw [HGN.out, List.length_append, evsV2]; exact HO20.out), HB20⟩
          case measure => simp [intOf]; omega
      · have dj : decide ((i : Int) < (sp.length : Int)) = false := decide_eq_false (by omega)
        have dj' : decide (i < sp.length) = false := decide_eq_false hlt
        have HGN := Lib.hid (gatE_ge (r := f2) (show sp.length ≤ i by omega))
        generalize gatE f2 sp i = G at *
        go_wp2_with (first
          | (at_builtin; go_loud (refine wpList_append_own_at _ rfl (.tmp 62) (.tmp 67) 48 rfl V 94 i0 (.agg #[.int .i64 0, .int .i64 0, .bool false]) 3 24 Tryz.underlying48 HI.out HZ.out HS.out HY.out rfl (by decide) _ G.length (evsV G) rfl (HO.out.alloc _) ⟨wr.heap.size, 0, none⟩ 1 1 [.int .i64 f2, .int .i64 i, .bool true] rfl rfl (cells_litD _ _ _) (by simp [Value.oneCell']) (by unfold maxLen; omega) (by omega) (by have := HSZ.out; simp; omega) ?_))
          | fail)
        intro v2 w20 hown hgrow _ _
        have HO20 := Lib.hid hown
        have HB20 : Hid (Below V w4 w20) := Lib.hid ((HB.out.alloc HSZ.out _).grown hgrow (by have := HSZ.out; simp; omega) (fun kk hkk => (HO.out.lt kk hkk).1))
        clear hown hgrow
        go_wp2
        go_roundw
        case rel => exact ⟨i + 1, by omega, by go_num, Lib.hid (by rw [HGN.out, List.length_append, evsV_snoc]; exact HO20.out), HB20⟩
        case measure => simp [intOf]; omega
    · obtain rfl : i = n := by omega
      have di : decide ((i : Int) < (i : Int)) = false := by simp
      have hgl := gatE_len f2 sp i
      obtain ⟨G, hG⟩ : ∃ G, gatE f2 sp i = G := ⟨_, rfl⟩
      rw [hG] at HO HEA hgl
      have HO0 : Hid (wr.ownsRow V 94 3 u11 (G ++ dlsE f2 i es 0).length (evsV (G ++ dlsE f2 i es 0))) := Lib.hid (by simp only [dlsE, List.replicate_zero, List.flatten_nil, List.append_nil]; exact HO.out)
      have HBW := HB
      clear hG HO HB
      go_wp2_with fail
      go_loopw [11, 13, 14] (fun sv jv _ wr => ∃ j : Nat, j ≤ 2 ∧ jv = .int .i64 j ∧ Hid (wr.ownsRow V 94 3 sv (G ++ dlsE f2 i es j).length (evsV (G ++ dlsE f2 i es j))) ∧ Hid (Below V w4 wr)) (fun _ jv _ _ => 2 - (intOf jv).toNat)
      case atStart => exact ⟨0, by omega, rfl, HO0, HBW⟩
      case round =>
        obtain ⟨j, hj, rfl, HO, HB⟩ := hrel
        have hdl := dlsE_len f2 i es j
        by_cases hjn : j < 2
        · have dj : decide ((j : Int) < 2) = true := decide_eq_true (by omega)
          have dj' : decide (j < 2) = true := decide_eq_true hjn
          have HDN := Lib.hid (dlsE_succ f2 i es j)
          have hll : (G ++ dlsE f2 i es j).length ≤ 1200000 := by
            rw [List.length_append, hdl]
            have := Nat.mul_le_mul (show j ≤ 2 by omega) (show 2 * i + es.length ≤ 120512 by omega)
            omega
          obtain ⟨H, hH⟩ : ∃ H, G ++ dlsE f2 i es j = H := ⟨_, rfl⟩
          rw [hH] at HO hll
          have HHE := Lib.hid hH
          have HO1 : Hid (wr.ownsRow V 94 3 u11 (H ++ writesL f2 0).length (evsV (H ++ writesL f2 0))) := Lib.hid (by simpa [writesL] using HO.out)
          have HBW2 := HB
          clear hH HO HB hdl HO0
          go_wp2_with fail
          go_loopw [11, 14] (fun sv kv wr => ∃ k : Nat, k ≤ i ∧ kv = .int .i64 k ∧ Hid (wr.ownsRow V 94 3 sv (H ++ writesL f2 k).length (evsV (H ++ writesL f2 k))) ∧ Hid (Below V w4 wr)) (fun _ kv _ => i - (intOf kv).toNat)
          case atStart => exact ⟨0, by omega, rfl, HO1, HBW2⟩
          case round =>
            obtain ⟨k, hk, rfl, HO, HB⟩ := hrel
            have hwl := writesL_len f2 k
            have HSZ : Hid (V ≤ wr.heap.size) := Lib.hid (by have := HVE.out; have := HB.out.size; omega)
            have hKl : (H ++ writesL f2 k).length ≤ 1300000 := by rw [List.length_append, hwl]; omega
            have HWN : Hid (H ++ writesL f2 (k + 1) = (H ++ writesL f2 k) ++ [(f2, (k : Int), false), (f2, (k : Int), true)]) := Lib.hid (by rw [writesL_succ, List.append_assoc])
            by_cases hkn : k < i
            · have dk : decide ((k : Int) < (i : Int)) = true := decide_eq_true (by omega)
              have dk' : decide (k < i) = true := decide_eq_true hkn
              generalize H ++ writesL f2 k = K at *
              go_wp2_with (first
                | (at_builtin; go_loud (refine wpList_append_own_at _ rfl (.tmp 78) (.tmp 87) 48 rfl V 94 i0 (.agg #[.int .i64 0, .int .i64 0, .bool false]) 3 24 Tryz.underlying48 HI.out HZ.out HS.out HY.out rfl (by decide) _ K.length (evsV K) rfl (HO.out.alloc _) ⟨wr.heap.size, 0, none⟩ 2 2 [.int .i64 f2, .int .i64 k, .bool false, .int .i64 f2, .int .i64 k, .bool true] rfl rfl (cells_litD _ _ _) (by simp [Value.oneCell']) (by unfold maxLen; omega) (by omega) (by have := HSZ.out; simp; omega) ?_))
                | fail)
              intro v2 w20 hown hgrow _ _
              have HO20 := Lib.hid hown
              have HB20 : Hid (Below V w4 w20) := Lib.hid ((HB.out.alloc HSZ.out _).grown hgrow (by have := HSZ.out; simp; omega) (fun kk hkk => (HO.out.lt kk hkk).1))
              clear hown hgrow
              go_wp2
              go_roundw
              case rel => exact ⟨k + 1, by omega, by go_num, Lib.hid (by rw [HWN.out, List.length_append, evsV2]; exact HO20.out), HB20⟩
              case measure => simp [intOf]; omega
            · obtain rfl : k = i := by omega
              have dk : decide ((k : Int) < (k : Int)) = false := by simp
              have HDN2 : Hid (G ++ dlsE f2 k es (j + 1) = (H ++ writesL f2 k) ++ es) := Lib.hid (by rw [HDN.out, ← HHE.out]; simp [List.append_assoc])
              generalize H ++ writesL f2 k = K at *
              go_wp2_with fail
              refine (KE.out _).mono ?_
              rintro e w5 ⟨ev, rfl, hse, hb5, -⟩
              obtain ⟨ea, ec, rfl, he1, he2, he3⟩ := hse
              obtain ⟨eb, eo, rfl, helt, her⟩ := he3 HEP.out
              have HO5 := Lib.hid (ownsRow_below HO.out hb5)
              have HB5 : Hid (Below V w4 w5) := Lib.hid (HB.out.trans (hb5.mono HSZ.out))
              have HSZ5 : Hid (V ≤ w5.heap.size) := Lib.hid (by have := HSZ.out; have := hb5.size; omega)
              have HER := Lib.hid her
              unfold maxLen at he2
              clear her hb5 he3 HO HB
              go_wp2_with (first
                | (at_builtin; go_loud (refine wpList_append_own_at _ rfl (.tmp 89) (.tmp 93) 48 rfl V 94 i0 (.agg #[.int .i64 0, .int .i64 0, .bool false]) 3 24 Tryz.underlying48 HI.out HZ.out HS.out HY.out rfl (by decide) _ K.length (evsV K) rfl HO5.out ⟨eb, eo, none⟩ es.length ec (evsV es) rfl (evsV_len es) (fun j u hu => by rw [addr_add]; exact HER.out j u hu) (evsV_one es) (by unfold maxLen; omega) (by omega) HSZ5.out ?_))
                | fail)
              intro v2 w20 hown hgrow _ _
              have HO20 := Lib.hid hown
              have HB20 : Hid (Below V w4 w20) := Lib.hid (HB5.out.grown hgrow HSZ5.out (fun kk hkk => (HO5.out.lt kk hkk).1))
              clear hown hgrow
              go_wp2
              go_roundw
              case rel => exact ⟨j + 1, by omega, by go_num, Lib.hid (by rw [HDN2.out, List.length_append, evsV_append]; exact HO20.out), HB20⟩
              case measure => simp [intOf]; omega
        · have HJ2 : Hid (j = 2) := Lib.hid (by omega)
          have dj : decide ((j : Int) < 2) = false := decide_eq_false (by omega)
          have hll : (G ++ dlsE f2 i es j).length ≤ 1200000 := by
            rw [List.length_append, hdl, HJ2.out]
            omega
          obtain ⟨H, hH⟩ : ∃ H, G ++ dlsE f2 i es j = H := ⟨_, rfl⟩
          have HEA2 := Lib.hid HEA.out
          rw [← HJ2.out, hH] at HEA2
          rw [hH] at HO hll
          have HO1 : Hid (wr.ownsRow V 94 3 u11 (H ++ bakE f2 sp 0).length (evsV (H ++ bakE f2 sp 0))) := Lib.hid (by simpa [bakE] using HO.out)
          have HBW2 := HB
          clear hH HO HB hdl HO0
          go_wp2_with fail
          go_loopw [11, 15] (fun sv kv wr => ∃ k : Nat, k ≤ sp.length ∧ kv = .int .i64 k ∧ Hid (wr.ownsRow V 94 3 sv (H ++ bakE f2 sp k).length (evsV (H ++ bakE f2 sp k))) ∧ Hid (Below V w4 wr)) (fun _ kv _ => sp.length - (intOf kv).toNat)
          case atStart => exact ⟨0, by omega, rfl, HO1, HBW2⟩
          case round =>
            obtain ⟨k, hk, rfl, HO, HB⟩ := hrel
            have hwl := bakE_len f2 sp k
            have HSZ : Hid (V ≤ wr.heap.size) := Lib.hid (by have := HVE.out; have := HB.out.size; omega)
            have hKl : (H ++ bakE f2 sp k).length ≤ 1300000 := by rw [List.length_append, hwl]; omega
            by_cases hkn : k < sp.length
            · have dk : decide ((k : Int) < (sp.length : Int)) = true := decide_eq_true (by omega)
              have dk' : decide (k < sp.length) = true := decide_eq_true hkn
              have k0' : (0 : Int) ≤ (k : Int) := by omega
              have k1' : (k : Int) < (sp.length : Int) := by omega
              obtain ⟨b, off, rfl, hcl⟩ := HPC.out k hkn
              have HCL := Lib.hid hcl
              have HWN : Hid (H ++ bakE f2 sp (k + 1) = (H ++ bakE f2 sp k) ++ [(f2, (k : Int), false), (sp[k].1, sp[k].2, true)]) := Lib.hid (by
                rw [bakE_succ, List.append_assoc, List.getD_eq_getElem?_getD, List.getElem?_eq_getElem hkn]; rfl)
              generalize sp[k] = s at *
              obtain ⟨s1, s2⟩ := s
              simp only at HCL HWN
              generalize H ++ bakE f2 sp k = K at *
              have hb0 := HB.out.drew
              have hc0 := HCL.out _ hb0
              have HO0 := Lib.hid (ownsRow_below HO.out ((Below.refl _ _).drew))
              clear hcl
              go_upto_region 23 with fail
              go_region_held3 (fun w' => w'.cell? ⟨b, off + k * 2, none⟩ = some (.int .i64 s1) ∧ w'.cell? ⟨b, off + k * 2 + 1, none⟩ = some (.int .i64 s2)) (first | exact HCL.out _ (by assumption) | exact HCL.out _ (hb0.alloc (by have := HSZ.out; simpa using this) _)) (first
                | (go_loud (refine step_append_own_at rfl (.tmp 101) (.tmp 117) 48 rfl V 94 i0 (.agg #[.int .i64 0, .int .i64 0, .bool false]) 3 24 Tryz.underlying48 HI.out HZ.out HS.out HY.out rfl (by decide) _ K.length (evsV K) rfl (HO0.out.alloc _) ⟨wr.drew.heap.size, 0, none⟩ 2 2 [.int .i64 f2, .int .i64 k, .bool false, .int .i64 s1, .int .i64 s2, .bool true] rfl rfl (cells_litD _ _ _) (by simp [Value.oneCell']) (by unfold maxLen; omega) (by omega) (by have := HSZ.out; simp; omega) ?_); intro v' w10 hown hgrow _; have hb10 : Below V w4 w10 := (hb0.alloc (by have := HSZ.out; simpa using this) _).grown hgrow (by have := HSZ.out; simp; omega) (fun j hj => (HO.out.lt j hj).1)))
              all_goals
                have HO10 := Lib.hid hown
                have HB10 := Lib.hid hb10
                clear hown hgrow hb10 hc0 hb0
                go_wp2
                go_roundw
                case rel => exact ⟨k + 1, by omega, by go_num, Lib.hid (by rw [HWN.out, List.length_append, evsV2]; exact HO10.out), HB10⟩
                case measure => simp [intOf]; omega
            · obtain rfl : k = sp.length := by omega
              have dk : decide ((sp.length : Int) < (sp.length : Int)) = false := by simp
              rw [← HEA2.out] at HO
              go_wp2
              go_ret
              refine ⟨_, rfl, SlE.of_owns HO.out, ?_, fun kk hkk => ?_⟩
              · have h := HB.out
                rw [← HVE.out] at h
                exact HB4.out.trans (h.mono HB4.out.size)
              · have h1 := (HO.out.lt kk hkk).1
                have h2 := HWV.out
                omega
set_option maxHeartbeats 2000000 in
set_option maxRecDepth 100000 in
theorem rvEvents_no (c : Lc) (hc : LcOk c) (hr : lcRight c = true) (first fr : Int) (hfr : hasB c.1 fr = false) (w : World) :
    Calls Tryz.prog 18 #[.int .i64 first, .agg #[.int .i64 c.1, .int .i64 c.2.1, .int .i64 c.2.2], .int .i64 fr] w (RetE [] w) := by
  have KR := Lib.hid (fun w' => rvright_any c hc w')
  rw [hr] at KR
  have hcase : (decide (fr < 0) = true) ∨ (decide (fr < 0) = false ∧ decide (c.1 ≤ fr) = true) := by
    by_cases h1 : fr < 0
    · exact .inl (decide_eq_true h1)
    · refine .inr ⟨decide_eq_false h1, decide_eq_true ?_⟩
      unfold hasB at hfr
      rw [(lcRight_iff hr).1, decide_eq_true (show 0 ≤ fr by omega)] at hfr
      simpa using hfr
  obtain ⟨A, hA⟩ : ∃ A, w.heap.size = A := ⟨_, rfl⟩
  obtain ⟨w1, hw1⟩ : ∃ w1, w.alloc (.cells #[.int .i64 c.1, .int .i64 c.2.1, .int .i64 c.2.2] 28) = w1 := ⟨_, rfl⟩
  have hb1 : Below w.heap.size w w1 := by rw [← hw1]; exact (Below.refl _ _).alloc (Nat.le_refl _) _
  have k1 : Blk w1 A #[.int .i64 c.1, .int .i64 c.2.1, .int .i64 c.2.2] 28 := by rw [← hw1, ← hA]; exact Blk.new w _ _
  have HB1 := Lib.hid hb1
  have K1 := Lib.hid k1
  have HW1 := Lib.hid hw1
  have a0 : w1.cell? ⟨A, 0, none⟩ = some (.int .i64 c.1) := k1.cell 0
  have a1 : w1.cell? ⟨A, 1, none⟩ = some (.int .i64 c.2.1) := k1.cell 1
  have a2 : w1.cell? ⟨A, 2, none⟩ = some (.int .i64 c.2.2) := k1.cell 2
  have HIL := Lib.hid (info_rcL c)
  clear hw1 hb1 k1 hr hfr hc
  go_enter Tryz.func18, Tryz.ntmps18
  go_wp2_with fail
  rw [HW1.out]
  refine (KR.out _).mono ?_
  rintro e w2 ⟨rfl, hb2⟩
  have a0' : w2.cell? ⟨A, 0, none⟩ = some (.int .i64 c.1) := (K1.out.below hb2 K1.out.lt).cell 0
  have HB2 : Hid (Below w.heap.size w w2) := Lib.hid (HB1.out.trans (hb2.mono HB1.out.size))
  clear hb2 a0 a1 a2
  rcases hcase with d1 | ⟨d1, d2⟩
  all_goals
    go_wp2
    go_ret
    exact ⟨_, rfl, ⟨none, 0, rfl, Nat.le_refl _, by simp, fun h => absurd rfl h⟩, HB2.out, fun k hk => by simp [Value.ownBlock] at hk⟩
set_option maxHeartbeats 2000000 in
set_option maxRecDepth 100000 in
theorem levEvents_no (c : Lc) (hc : LcOk c) (hr : lcRight c = true) (first fr : Int) (hfr : hasB c.1 fr = false) (w : World) :
    Calls Tryz.prog 17 #[.int .i64 first, .agg #[.int .i64 c.1, .int .i64 c.2.1, .int .i64 c.2.2], .int .i64 fr] w (RetE [] w) := by
  have KR := Lib.hid (fun w' => lright_any c hc w')
  rw [hr] at KR
  have hcase : (decide (fr < 0) = true) ∨ (decide (fr < 0) = false ∧ decide (c.1 ≤ fr) = true) := by
    by_cases h1 : fr < 0
    · exact .inl (decide_eq_true h1)
    · refine .inr ⟨decide_eq_false h1, decide_eq_true ?_⟩
      unfold hasB at hfr
      rw [(lcRight_iff hr).1, decide_eq_true (show 0 ≤ fr by omega)] at hfr
      simpa using hfr
  obtain ⟨A, hA⟩ : ∃ A, w.heap.size = A := ⟨_, rfl⟩
  obtain ⟨w1, hw1⟩ : ∃ w1, w.alloc (.cells #[.int .i64 c.1, .int .i64 c.2.1, .int .i64 c.2.2] 23) = w1 := ⟨_, rfl⟩
  have hb1 : Below w.heap.size w w1 := by rw [← hw1]; exact (Below.refl _ _).alloc (Nat.le_refl _) _
  have k1 : Blk w1 A #[.int .i64 c.1, .int .i64 c.2.1, .int .i64 c.2.2] 23 := by rw [← hw1, ← hA]; exact Blk.new w _ _
  have HB1 := Lib.hid hb1
  have K1 := Lib.hid k1
  have HW1 := Lib.hid hw1
  have a0 : w1.cell? ⟨A, 0, none⟩ = some (.int .i64 c.1) := k1.cell 0
  have a1 : w1.cell? ⟨A, 1, none⟩ = some (.int .i64 c.2.1) := k1.cell 1
  have a2 : w1.cell? ⟨A, 2, none⟩ = some (.int .i64 c.2.2) := k1.cell 2
  have HIL := Lib.hid (info_lcL c)
  clear hw1 hb1 k1 hr hfr hc
  go_enter Tryz.func17, Tryz.ntmps17
  go_wp2_with fail
  rw [HW1.out]
  refine (KR.out _).mono ?_
  rintro e w2 ⟨rfl, hb2⟩
  have a0' : w2.cell? ⟨A, 0, none⟩ = some (.int .i64 c.1) := (K1.out.below hb2 K1.out.lt).cell 0
  have HB2 : Hid (Below w.heap.size w w2) := Lib.hid (HB1.out.trans (hb2.mono HB1.out.size))
  clear hb2 a0 a1 a2
  rcases hcase with d1 | ⟨d1, d2⟩
  all_goals
    go_wp2
    go_ret
    exact ⟨_, rfl, ⟨none, 0, rfl, Nat.le_refl _, by simp, fun h => absurd rfl h⟩, HB2.out, fun k hk => by simp [Value.ownBlock] at hk⟩
end Go.Proofs.YthchfdobdghdoaaGreat
end
section
/-
  The document's level in a world; the walks of New (of level, and of the document), for any first region; of met.
-/
namespace Go.Sg
open Go Go.RowKit
/-- can a level be made here? (for any first region: behind it f1, and f2) -/
def newOkG (M : Mm) (first f1 f2 : Int) (c : Lc) : Bool := lcRight c && (decide ((szL c).1 ≤ (M.size first : Int)) && (decide ((szL c).2.1 ≤ (M.size f1 : Int)) && decide ((szL c).2.2 ≤ (M.size f2 : Int))))
/-- an id is met -/
def metL (ids : List Int) (id : Int) : List Int := if id ∈ ids then ids else ids ++ [id]
theorem MFrame.grown {F : Nat → Prop} {a w w' : World} {row : Option Nat} (h : MFrame F a w) (hg : w.grownBy w' row) (hr : ∀ k, row = some k → Grow F a w k) : MFrame F a w' :=
  h.trans ⟨hg.os, hg.tape, hg.output, hg.size, fun k hk hn => hg.block k hk (fun e => hn (hr k e.symm))⟩
end Go.Sg
namespace Go.Proofs.YthchfdobdghdoaaGreat
open Go Go.RowKit Go.Sg
/-- the cells of the document's level -/
def rvV (c : Lc) (p : Nat) (first : Int) (over : Bool) (iv : Value) : Array Value := #[.pointer (some ⟨p, 0, none⟩), .int .i64 first, .int .i64 c.1, .int .i64 c.2.1, .int .i64 c.2.2, .bool over, iv]
def IdW (B : Nat) (iv : Value) (ids : List Int) (w : World) : Prop := w.ownsRow B 56 1 iv ids.length (ids.map (Value.int .u64))
def RvX (p q B : Nat) (c : Lc) (first : Int) (over : Bool) (ids : List Int) (iv : Value) (w : World) : Prop := Blk w q (rvV c p first over iv) 68 ∧ IdW B iv ids w
theorem keeps_rv (p q B : Nat) (c : Lc) (first : Int) (over : Bool) (ids : List Int) (iv : Value) : Keeps (fun k => k = q ∨ iv.ownBlock = some k) (RvX p q B c first over ids iv) := keeps_and (keeps_blk q _ _) (keeps_own B _ 1 iv _ _)
/-- the document's level, and whatever lies beside it -/
structure RvR (w0 w : World) (p q : Nat) (iv : Value) (c : Lc) (first : Int) (S : Ls) (D : Nat → Prop) (X : World → Prop) : Prop where
  one : OneX 71 w0 w p S.M (fun k => D k ∨ (k = q ∨ iv.ownBlock = some k)) (fun w => X w ∧ RvX p q w0.heap.size c first S.over S.ids iv w)
  off : ∀ k, D k → k ≠ q ∧ iv.ownBlock ≠ some k
  ne : iv.ownBlock ≠ some q
  ge : w0.heap.size ≤ q
variable {w0 w w' : World} {p : Nat} {M : Mm} {D : Nat → Prop} {X : World → Prop}
theorem RvR.x {q : Nat} {iv : Value} {c : Lc} {first : Int} {S : Ls} (h : RvR w0 w p q iv c first S D X) : X w := h.one.x.1
theorem RvR.below {q : Nat} {iv : Value} {c : Lc} {first : Int} {S : Ls} (hK : Keeps D X) (h : RvR w0 w p q iv c first S D X) (hb : Below w.heap.size w w') : RvR w0 w' p q iv c first S D X := ⟨h.one.below (keeps_and hK (keeps_rv _ _ _ _ _ _ _ _)) hb, h.off, h.ne, h.ge⟩
set_option maxHeartbeats 2000000 in
set_option maxRecDepth 100000 in
theorem lNewW_any (hK : Keeps D X) (c : Lc) (hc : LcOk c) (first f1 f2 : Int) (wf1 : IntKind.i64.wrap (first + 1) = f1) (wf2 : IntKind.i64.wrap (first + 2) = f2) (h : OneX 88 w0 w p M D X) :
    Calls Tryz.prog 12 #[.pointer (some ⟨p, 0, none⟩), .int .i64 first, .agg #[.int .i64 c.1, .int .i64 c.2.1, .int .i64 c.2.2]] w fun e w' =>
      if newOkG M first f1 f2 c then ∃ q ib, e = .returned (.tuple #[.pointer (some ⟨q, 0, none⟩), .int .i64 0]) ∧ LvR w0 w' p q ib c first ⟨M, false, []⟩ D X
      else e = .returned (.tuple #[.pointer none, .int .i64 1]) ∧ OneX 88 w0 w' p M D X := by
  have KR := Lib.hid (fun w' => lright_any c hc w')
  have KZ := Lib.hid (fun w' => lSizes_any c hc w')
  have KS := Lib.hid (fun r w' (h' : OneX 88 w0 w' p M D X) => one_size r h')
  obtain ⟨A, hA⟩ : ∃ A, w.heap.size = A := ⟨_, rfl⟩
  obtain ⟨w1, hw1⟩ : ∃ w1, w.alloc (.cells #[.int .i64 c.1, .int .i64 c.2.1, .int .i64 c.2.2] 23) = w1 := ⟨_, rfl⟩
  have hb1 : Below w.heap.size w w1 := by rw [← hw1]; exact (Below.refl _ _).alloc (Nat.le_refl _) _
  have k1 : Blk w1 A #[.int .i64 c.1, .int .i64 c.2.1, .int .i64 c.2.2] 23 := by rw [← hw1, ← hA]; exact Blk.new w _ _
  have HX1 := Lib.hid (h.below hK hb1)
  have K1 := Lib.hid k1
  have HW1 := Lib.hid hw1
  have a0 : w1.cell? ⟨A, 0, none⟩ = some (.int .i64 c.1) := k1.cell 0
  have a1 : w1.cell? ⟨A, 1, none⟩ = some (.int .i64 c.2.1) := k1.cell 1
  have a2 : w1.cell? ⟨A, 2, none⟩ = some (.int .i64 c.2.2) := k1.cell 2
  have HIL := Lib.hid (info_lcL c)
  have HK := Lib.hid hK
  obtain ⟨z, hz⟩ : ∃ z, szL c = z := ⟨_, rfl⟩
  obtain ⟨t1, t2, t3⟩ := z
  rw [hz] at KZ
  unfold newOkG
  rw [hz]
  have hs1 := Mm.size_le h.ok first
  have hs2 := Mm.size_le h.ok f1
  have hs3 := Mm.size_le h.ok f2
  have KS1 := Lib.hid (KS.out first)
  have KS2 := Lib.hid (KS.out f1)
  have KS3 := Lib.hid (KS.out f2)
  clear hw1 hb1 k1 KS hz h hK
  generalize M.size first = m1 at *
  generalize M.size f1 = m2 at *
  generalize M.size f2 = m3 at *
  obtain ⟨ok, hok⟩ : ∃ ok, (lcRight c && (decide (t1 ≤ (m1 : Int)) && (decide (t2 ≤ (m2 : Int)) && decide (t3 ≤ (m3 : Int))))) = ok := ⟨_, rfl⟩
  simp only
  rw [hok]
  obtain ⟨rt, hrt⟩ : ∃ rt, lcRight c = rt := ⟨_, rfl⟩
  rw [hrt] at KR hok
  have HOK := Lib.hid hok
  clear hok hrt
  go_enter Tryz.func12, Tryz.ntmps12
  go_wp2_with fail
  rw [HW1.out]
  refine (KZ.out _).mono ?_
  rintro e w2 ⟨rfl, hb2⟩
  have HX2 := Lib.hid (HX1.out.below HK.out hb2)
  have K2 := Lib.hid (K1.out.below hb2 K1.out.lt)
  have b0 : w2.cell? ⟨A, 0, none⟩ = some (.int .i64 c.1) := K2.out.cell 0
  have b1 : w2.cell? ⟨A, 1, none⟩ = some (.int .i64 c.2.1) := K2.out.cell 1
  have b2 : w2.cell? ⟨A, 2, none⟩ = some (.int .i64 c.2.2) := K2.out.cell 2
  clear a0 a1 a2 hb2 HX1 K1 KZ
  go_upto_region 2 with fail
  go_cut [42] (fun b wx => b = .bool (!ok) ∧ Hid (OneX 88 w0 wx p M D X) ∧ Hid (Blk wx A #[.int .i64 c.1, .int .i64 c.2.1, .int .i64 c.2.2] 23))
  case first =>
    go_wp2_with fail
    refine (KR.out _).mono ?_
    rintro e w3 ⟨rfl, hb3⟩
    have HX3 := Lib.hid (HX2.out.below HK.out hb3)
    have K3 := Lib.hid (K2.out.below hb3 K2.out.lt)
    clear hb3 HX2 K2
    cases rt with
    | false =>
      have hb : Hid (ok = false) := Lib.hid (by rw [← HOK.out]; rfl)
      go_wp2_with fail
      go_meet
      exact ⟨by rw [hb.out]; rfl, HX3, K3⟩
    | true =>
    by_cases e1 : (m1 : Int) < t1
    · have d1 : decide ((m1 : Int) < t1) = true := decide_eq_true e1
      have hb : Hid (ok = false) := Lib.hid (by rw [← HOK.out, decide_eq_false (show ¬ t1 ≤ (m1 : Int) by omega)]; rfl)
      clear e1
      go_wp2_with fail
      refine (KS1.out _ HX3.out).mono ?_
      rintro e w4 ⟨rfl, rfl⟩
      go_wp2_with fail
      go_meet
      exact ⟨by rw [hb.out]; rfl, HX3, K3⟩
    have d1 : decide ((m1 : Int) < t1) = false := decide_eq_false e1
    by_cases e2 : (m2 : Int) < t2
    · have d2 : decide ((m2 : Int) < t2) = true := decide_eq_true e2
      have hb : Hid (ok = false) := Lib.hid (by rw [← HOK.out, decide_eq_true (show t1 ≤ (m1 : Int) by omega), decide_eq_false (show ¬ t2 ≤ (m2 : Int) by omega)]; rfl)
      clear e1 e2
      go_wp2_with fail
      refine (KS1.out _ HX3.out).mono ?_
      rintro e w4 ⟨rfl, rfl⟩
      go_wp2_with fail
      refine (KS2.out _ HX3.out).mono ?_
      rintro e w4 ⟨rfl, rfl⟩
      go_wp2_with fail
      go_meet
      exact ⟨by rw [hb.out]; rfl, HX3, K3⟩
    have d2 : decide ((m2 : Int) < t2) = false := decide_eq_false e2
    obtain ⟨b3, hb3⟩ : ∃ b, decide ((m3 : Int) < t3) = b := ⟨_, rfl⟩
    have hb : Hid ((!ok) = b3) := Lib.hid (by
      rw [← HOK.out, ← hb3, decide_eq_true (show t1 ≤ (m1 : Int) by omega), decide_eq_true (show t2 ≤ (m2 : Int) by omega)]
      by_cases e3 : (m3 : Int) < t3
      · rw [decide_eq_true e3, decide_eq_false (show ¬ t3 ≤ (m3 : Int) by omega)]; rfl
      · rw [decide_eq_false e3, decide_eq_true (show t3 ≤ (m3 : Int) by omega)]; rfl)
    clear e1 e2
    go_wp2_with fail
    refine (KS1.out _ HX3.out).mono ?_
    rintro e w4 ⟨rfl, rfl⟩
    go_wp2_with fail
    refine (KS2.out _ HX3.out).mono ?_
    rintro e w4 ⟨rfl, rfl⟩
    go_wp2_with fail
    refine (KS3.out _ HX3.out).mono ?_
    rintro e w4 ⟨rfl, rfl⟩
    go_wp2_with fail
    go_meet
    exact ⟨by rw [hb.out], HX3, K3⟩
  case rest =>
    obtain ⟨rfl, HX3, K3⟩ := hcut
    generalize wc = w3 at *
    have b0 : w3.cell? ⟨A, 0, none⟩ = some (.int .i64 c.1) := K3.out.cell 0
    have b1 : w3.cell? ⟨A, 1, none⟩ = some (.int .i64 c.2.1) := K3.out.cell 1
    have b2 : w3.cell? ⟨A, 2, none⟩ = some (.int .i64 c.2.2) := K3.out.cell 2
    clear HX2 K2 KR KS1 KS2 KS3
    cases ok with
    | false =>
      go_wp2_with fail
      go_ret2
      exact ⟨rfl, HX3.out⟩
    | true =>
      obtain ⟨B, hB⟩ : ∃ B, w3.heap.size = B := ⟨_, rfl⟩
      have hmm := @run_makeMap Tryz.prog
      go_wp2_with fail
      go_ret2
      have hX := HX3.out
      have hB0 : w0.heap.size ≤ B := by rw [← hB]; exact hX.old.size
      have hb1 : Below w3.heap.size w3 (w3.alloc (.map #[] 0)) := (Below.refl _ _).alloc (Nat.le_refl _) _
      have hm : MapW (w3.alloc (.map #[] 0)) B [] := by rw [← hB]; exact World.ownsMap_made w3 _ _ _
      have h1 := hX.ret HK.out (E := fun k => k = B) (Y := fun w => MapW w B []) hb1 (fun k hk => by rw [hk]; simp; omega) hm
      have h2 := h1.box (keeps_and HK.out (keeps_map B [])) (lvV c p first false B) 92
      have hs : (w3.alloc (.map #[] 0)).heap.size = B + 1 := by simp [hB]
      rw [hs] at h2
      refine ⟨B + 1, rfl, B, ?_⟩
      refine ⟨h2.less (fun k hk => ?_) (fun hx => ⟨hx.1.1, hx.2, hx.1.2⟩), fun k hk => ?_, by omega, by omega⟩
      · rcases hk with hk | hk | hk
        · exact .inl (.inl hk)
        · exact .inr hk
        · exact .inl (.inr hk)
      · have := hX.ltD k hk
        omega
set_option maxHeartbeats 2000000 in
set_option maxRecDepth 100000 in
theorem rNewW_any (hK : Keeps D X) (c : Lc) (hc : LcOk c) (first f1 f2 : Int) (wf1 : IntKind.i64.wrap (first + 1) = f1) (wf2 : IntKind.i64.wrap (first + 2) = f2) (h : OneX 71 w0 w p M D X) :
    Calls Tryz.prog 15 #[.pointer (some ⟨p, 0, none⟩), .int .i64 first, .agg #[.int .i64 c.1, .int .i64 c.2.1, .int .i64 c.2.2]] w fun e w' =>
      if newOkG M first f1 f2 c then ∃ q, e = .returned (.tuple #[.pointer (some ⟨q, 0, none⟩), .int .i64 0]) ∧ RvR w0 w' p q (.slice none 0 0) c first ⟨M, false, []⟩ D X
      else e = .returned (.tuple #[.pointer none, .int .i64 1]) ∧ OneX 71 w0 w' p M D X := by
  have KR := Lib.hid (fun w' => rvright_any c hc w')
  have KZ := Lib.hid (fun w' => rvsizes_any c hc w')
  have KS := Lib.hid (fun r w' (h' : OneX 71 w0 w' p M D X) => one_rsize r h')
  obtain ⟨A, hA⟩ : ∃ A, w.heap.size = A := ⟨_, rfl⟩
  obtain ⟨w1, hw1⟩ : ∃ w1, w.alloc (.cells #[.int .i64 c.1, .int .i64 c.2.1, .int .i64 c.2.2] 28) = w1 := ⟨_, rfl⟩
  have hb1 : Below w.heap.size w w1 := by rw [← hw1]; exact (Below.refl _ _).alloc (Nat.le_refl _) _
  have k1 : Blk w1 A #[.int .i64 c.1, .int .i64 c.2.1, .int .i64 c.2.2] 28 := by rw [← hw1, ← hA]; exact Blk.new w _ _
  have HX1 := Lib.hid (h.below hK hb1)
  have K1 := Lib.hid k1
  have HW1 := Lib.hid hw1
  have a0 : w1.cell? ⟨A, 0, none⟩ = some (.int .i64 c.1) := k1.cell 0
  have a1 : w1.cell? ⟨A, 1, none⟩ = some (.int .i64 c.2.1) := k1.cell 1
  have a2 : w1.cell? ⟨A, 2, none⟩ = some (.int .i64 c.2.2) := k1.cell 2
  have HIL := Lib.hid (info_rcL c)
  have HK := Lib.hid hK
  obtain ⟨z, hz⟩ : ∃ z, szL c = z := ⟨_, rfl⟩
  obtain ⟨t1, t2, t3⟩ := z
  rw [hz] at KZ
  unfold newOkG
  rw [hz]
  have hs1 := Mm.size_le h.ok first
  have hs2 := Mm.size_le h.ok f1
  have hs3 := Mm.size_le h.ok f2
  have KS1 := Lib.hid (KS.out first)
  have KS2 := Lib.hid (KS.out f1)
  have KS3 := Lib.hid (KS.out f2)
  clear hw1 hb1 k1 KS hz h hK
  generalize M.size first = m1 at *
  generalize M.size f1 = m2 at *
  generalize M.size f2 = m3 at *
  obtain ⟨ok, hok⟩ : ∃ ok, (lcRight c && (decide (t1 ≤ (m1 : Int)) && (decide (t2 ≤ (m2 : Int)) && decide (t3 ≤ (m3 : Int))))) = ok := ⟨_, rfl⟩
  simp only
  rw [hok]
  obtain ⟨rt, hrt⟩ : ∃ rt, lcRight c = rt := ⟨_, rfl⟩
  rw [hrt] at KR hok
  have HOK := Lib.hid hok
  clear hok hrt
  go_enter Tryz.func15, Tryz.ntmps15
  go_wp2_with fail
  rw [HW1.out]
  refine (KZ.out _).mono ?_
  rintro e w2 ⟨rfl, hb2⟩
  have HX2 := Lib.hid (HX1.out.below HK.out hb2)
  have K2 := Lib.hid (K1.out.below hb2 K1.out.lt)
  have b0 : w2.cell? ⟨A, 0, none⟩ = some (.int .i64 c.1) := K2.out.cell 0
  have b1 : w2.cell? ⟨A, 1, none⟩ = some (.int .i64 c.2.1) := K2.out.cell 1
  have b2 : w2.cell? ⟨A, 2, none⟩ = some (.int .i64 c.2.2) := K2.out.cell 2
  clear a0 a1 a2 hb2 HX1 K1 KZ
  go_upto_region 2 with fail
  go_cut [42] (fun b wx => b = .bool (!ok) ∧ Hid (OneX 71 w0 wx p M D X) ∧ Hid (Blk wx A #[.int .i64 c.1, .int .i64 c.2.1, .int .i64 c.2.2] 28))
  case first =>
    go_wp2_with fail
    refine (KR.out _).mono ?_
    rintro e w3 ⟨rfl, hb3⟩
    have HX3 := Lib.hid (HX2.out.below HK.out hb3)
    have K3 := Lib.hid (K2.out.below hb3 K2.out.lt)
    clear hb3 HX2 K2
    cases rt with
    | false =>
      have hb : Hid (ok = false) := Lib.hid (by rw [← HOK.out]; rfl)
      go_wp2_with fail
      go_meet
      exact ⟨by rw [hb.out]; rfl, HX3, K3⟩
    | true =>
    by_cases e1 : (m1 : Int) < t1
    · have d1 : decide ((m1 : Int) < t1) = true := decide_eq_true e1
      have hb : Hid (ok = false) := Lib.hid (by rw [← HOK.out, decide_eq_false (show ¬ t1 ≤ (m1 : Int) by omega)]; rfl)
      clear e1
      go_wp2_with fail
      refine (KS1.out _ HX3.out).mono ?_
      rintro e w4 ⟨rfl, rfl⟩
      go_wp2_with fail
      go_meet
      exact ⟨by rw [hb.out]; rfl, HX3, K3⟩
    have d1 : decide ((m1 : Int) < t1) = false := decide_eq_false e1
    by_cases e2 : (m2 : Int) < t2
    · have d2 : decide ((m2 : Int) < t2) = true := decide_eq_true e2
      have hb : Hid (ok = false) := Lib.hid (by rw [← HOK.out, decide_eq_true (show t1 ≤ (m1 : Int) by omega), decide_eq_false (show ¬ t2 ≤ (m2 : Int) by omega)]; rfl)
      clear e1 e2
      go_wp2_with fail
      refine (KS1.out _ HX3.out).mono ?_
      rintro e w4 ⟨rfl, rfl⟩
      go_wp2_with fail
      refine (KS2.out _ HX3.out).mono ?_
      rintro e w4 ⟨rfl, rfl⟩
      go_wp2_with fail
      go_meet
      exact ⟨by rw [hb.out]; rfl, HX3, K3⟩
    have d2 : decide ((m2 : Int) < t2) = false := decide_eq_false e2
    obtain ⟨b3, hb3⟩ : ∃ b, decide ((m3 : Int) < t3) = b := ⟨_, rfl⟩
    have hb : Hid ((!ok) = b3) := Lib.hid (by
      rw [← HOK.out, ← hb3, decide_eq_true (show t1 ≤ (m1 : Int) by omega), decide_eq_true (show t2 ≤ (m2 : Int) by omega)]
      by_cases e3 : (m3 : Int) < t3
      · rw [decide_eq_true e3, decide_eq_false (show ¬ t3 ≤ (m3 : Int) by omega)]; rfl
      · rw [decide_eq_false e3, decide_eq_true (show t3 ≤ (m3 : Int) by omega)]; rfl)
    clear e1 e2
    go_wp2_with fail
    refine (KS1.out _ HX3.out).mono ?_
    rintro e w4 ⟨rfl, rfl⟩
    go_wp2_with fail
    refine (KS2.out _ HX3.out).mono ?_
    rintro e w4 ⟨rfl, rfl⟩
    go_wp2_with fail
    refine (KS3.out _ HX3.out).mono ?_
    rintro e w4 ⟨rfl, rfl⟩
    go_wp2_with fail
    go_meet
    exact ⟨by rw [hb.out], HX3, K3⟩
  case rest =>
    obtain ⟨rfl, HX3, K3⟩ := hcut
    generalize wc = w3 at *
    have b0 : w3.cell? ⟨A, 0, none⟩ = some (.int .i64 c.1) := K3.out.cell 0
    have b1 : w3.cell? ⟨A, 1, none⟩ = some (.int .i64 c.2.1) := K3.out.cell 1
    have b2 : w3.cell? ⟨A, 2, none⟩ = some (.int .i64 c.2.2) := K3.out.cell 2
    clear HX2 K2 KR KS1 KS2 KS3
    cases ok with
    | false =>
      go_wp2_with fail
      go_ret2
      exact ⟨rfl, HX3.out⟩
    | true =>
      obtain ⟨B, hB⟩ : ∃ B, w3.heap.size = B := ⟨_, rfl⟩
      go_wp2_with fail
      go_ret2
      have hX := HX3.out
      have hB0 : w0.heap.size ≤ B := by rw [← hB]; exact hX.old.size
      have h2 := hX.box HK.out (rvV c p first false (.slice none 0 0)) 68
      rw [hB] at h2
      refine ⟨B, by first | rfl | rw [hB], ?_⟩
      refine ⟨h2.less (fun k hk => ?_) (fun hx => ⟨hx.1, hx.2, World.ownsRow_nil _ _ _ _⟩), fun k hk => ⟨?_, by simp [Value.ownBlock]⟩, by simp [Value.ownBlock], hB0⟩
      · rcases hk with hk | hk | hk
        · exact .inl hk
        · exact .inr hk
        · simp [Value.ownBlock] at hk
      · have := hX.ltD k hk
        omega
end Go.Proofs.YthchfdobdghdoaaGreat
end
section
/-
  The walks of shellgameref10's data and block, and of shellgamelaw10.as.
-/
namespace Go.Sg
open Go Go.RowKit
/-- eight words, of which the first ones are told -/
def filU (f : Nat → Int) (k : Nat) : List Int := (List.range 8).map (fun i => if i < k then f i else 0)
/-- a block's cell, of whose data the first words are told -/
def blkU (id lf : Int) (f : Nat → Int) (k : Nat) : List Int := 1 :: id :: lf :: (filU f k ++ [0])
end Go.Sg
namespace Go.Proofs.YthchfdobdghdoaaGreat
open Go Go.RowKit Go.Sg
set_option maxHeartbeats 1000000 in
set_option maxRecDepth 100000 in
theorem las_any (c : Lc) (w : World) :
    Calls Tryz.prog 8 #[.agg #[.int .i64 c.1, .int .i64 c.2.1, .int .i64 c.2.2]] w fun e w' => e = .returned (.agg #[.int .i64 c.1, .int .i64 c.2.1, .int .i64 c.2.2]) ∧ Below w.heap.size w w' := by
  obtain ⟨x, y, z⟩ := c
  simp only
  obtain ⟨w2, hw2⟩ : ∃ w2, (w.alloc (.cells #[.int .i64 x, .int .i64 y, .int .i64 z] 23)).alloc (.cells #[.int .i64 0, .int .i64 0, .int .i64 0] 28) = w2 := ⟨_, rfl⟩
  obtain ⟨B, hB⟩ : ∃ B, w.heap.size = B := ⟨_, rfl⟩
  have hb2 : Below w.heap.size w w2 := by rw [← hw2]; exact ((Below.refl _ _).alloc (Nat.le_refl _) _).alloc (by simp) _
  have h1 : Blk w2 B #[.int .i64 x, .int .i64 y, .int .i64 z] 23 := by rw [← hw2, ← hB]; exact (Blk.new w _ _).alloc _
  have h2 : Blk w2 (B + 1) #[.int .i64 0, .int .i64 0, .int .i64 0] 28 := by
    rw [← hw2, ← hB]
    have := Blk.new (w.alloc (.cells #[.int .i64 x, .int .i64 y, .int .i64 z] 23)) #[.int .i64 0, .int .i64 0, .int .i64 0] 28
    simpa using this
  have HI : Hid ((Tryz.prog.info? 28).map (·.size) = some (#[.int .i64 x, .int .i64 y, .int .i64 z] : Array Value).size) := Lib.hid (by kernel_rfl)
  have HBF : Hid (Below w.heap.size w (w2.setRow (B + 1) #[.int .i64 x, .int .i64 y, .int .i64 z])) := Lib.hid (below_rowS hb2 _ _ (by omega))
  have H2 := Lib.hid h2
  have HW2 := Lib.hid hw2
  have HBB : Hid (w.heap.size = B) := Lib.hid hB
  have c0 : w2.cell? ⟨B, 0, none⟩ = some (.int .i64 x) := h1.cell 0
  have c1 : w2.cell? ⟨B, 1, none⟩ = some (.int .i64 y) := h1.cell 1
  have c2 : w2.cell? ⟨B, 2, none⟩ = some (.int .i64 z) := h1.cell 2
  clear hb2 h1 h2 hw2 hB
  go_enter Tryz.func8, Tryz.ntmps8
  go_upto_region 1 with fail
  rw [HW2.out, HBB.out]
  go_wp2_with (first
    | (refine wpList_store_row rfl 28 (.tmp 2) (.tmp 9) rfl (B + 1) #[.int .i64 x, .int .i64 y, .int .i64 z] rfl rfl 28 _ H2.out HI.out (by rfl) (by simp [Value.oneCell']) ?_)
    | fail)
  refine bodyPost_ret (results_cell_row rfl _ _ (B + 1) 28 _ (0, 0) _ rfl (H2.out.setRow _) Tryz.underlying28 rfl HI.out) rfl ⟨rfl, ?_⟩
  first | exact HBF.out | (have h := HBF.out; rwa [HBB.out] at h)
end Go.Proofs.YthchfdobdghdoaaGreat
end
section
/-
  Two memories, the one made ahead of the other; a level's method beside another memory.
-/
namespace Go.Proofs.YthchfdobdghdoaaGreat
open Go Go.RowKit Go.Sg
variable {w0 w w' : World} {p p2 q ib : Nat} {c d : Lc} {first : Int} {M N : Mm} {D : Nat → Prop} {X : World → Prop}
/-- a call of a level's method, beside another memory -/
theorem PairX.lv {T : Nat} {P : Program} {f : FuncId} {args : Array Value} {R : Ending → Prop} {o : Bool} {i : List Int} {S' : Ls} (hK : Keeps D X)
    (h : PairX 88 T w0 w p p2 M N (fun k => D k ∨ (k = q ∨ k = ib)) (fun w => X w ∧ LvX p q ib c first o i w)) (hoff : ∀ k, D k → k ≠ q ∧ k ≠ ib) (hne : q ≠ ib) (hge : w0.heap.size ≤ q ∧ w0.heap.size ≤ ib)
    (hc : ∀ (D' : Nat → Prop) (X' : World → Prop), Keeps D' X' → LvR w0 w p q ib c first ⟨M, o, i⟩ D' X' → Calls P f args w fun e w' => R e ∧ LvR w0 w' p q ib c first S' D' X') :
    Calls P f args w fun e w' => R e ∧ PairX 88 T w0 w' p p2 S'.M N (fun k => D k ∨ (k = q ∨ k = ib)) (fun w => X w ∧ LvX p q ib c first S'.over S'.ids w) := by
  obtain ⟨G, h1, hG, hDG⟩ := h
  have lv : LvR w0 w p q ib c first ⟨M, o, i⟩ (fun k => D k ∨ G k) (fun w => X w ∧ MemX T p2 N G w) := by
    refine ⟨h1.less (fun k hk => ?_) (fun hx => ⟨⟨hx.1.1, hx.2⟩, hx.1.2⟩), fun k hk => ?_, hne, hge⟩
    · rcases hk with (hk | hk) | hk
      · exact .inl (.inl hk)
      · exact .inr hk
      · exact .inl (.inr hk)
    · rcases hk with hk | hk
      · exact hoff k hk
      · exact ⟨fun e => hDG q (.inr (.inl rfl)) (e ▸ hk), fun e => hDG ib (.inr (.inr rfl)) (e ▸ hk)⟩
  refine (hc _ _ (keeps_and hK (keeps_mem _ _ _ _)) lv).mono fun e w' ⟨he, h2⟩ => ⟨he, G, h2.one.less (fun k hk => ?_) (fun hx => ⟨⟨hx.1.1, hx.2⟩, hx.1.2⟩), hG, hDG⟩
  rcases hk with (hk | hk) | hk
  · exact .inl (.inl hk)
  · exact .inr hk
  · exact .inl (.inr hk)
/-- two memories, the one made ahead of the other -/
theorem PairX.join {T T' : Nat} {D2 : Nat → Prop} {X2 : World → Prop} (hK : Keeps D X) (h : OneX T w0 w p M D X) (h2 : OneX T' w w' p2 N D2 X2) (hD2 : ∀ k, D2 k → w.heap.size ≤ k) : PairX T T' w0 w' p p2 M N (fun k => D k ∨ D2 k) (fun w => X w ∧ X2 w) := by
  have hlt := h.ltD
  obtain ⟨G, m, g1, g2, g3, g4, g5⟩ := h2
  have h3 := h.ret hK (E := fun k => D2 k ∨ G k) (Y := fun w => X2 w ∧ MemX T' p2 N G w) g2 (fun k hk => ?_) ⟨g5, m⟩
  · refine ⟨G, h3.less (fun k hk => ?_) (fun hx => ⟨⟨hx.1, hx.2.1⟩, hx.2.2⟩), fun k hk => Nat.le_trans h.old.size (g1 k hk), fun k hk hg => ?_⟩
    · rcases hk with (hk | hk) | hk
      · exact .inl hk
      · exact .inr (.inl hk)
      · exact .inr (.inr hk)
    · rcases hk with hk | hk
      · have := hlt k hk
        have := g1 k hg
        omega
      · exact g3 k hk hg
  · rcases hk with hk | hk
    · exact ⟨hD2 k hk, g4 k hk⟩
    · exact ⟨g1 k hk, m.lt k hk⟩
end Go.Proofs.YthchfdobdghdoaaGreat
end
