/-
  The walk of shellgamelaw3.MemBlind.
-/
import Derived.Test.YtngpaibppdehdaaTwo
import Derived.Deep.DeepCutAuto
namespace Go.Sg
open Go Go.RowKit
/-- Of two memories the looks, the faults, and the sizes are the same. -/
def AlikeM (M N : Mm) : Prop := M.evs = N.evs ∧ M.fault = N.fault ∧ ∀ r, M.size r = N.size r
theorem AlikeM.has {M N : Mm} (h : AlikeM M N) (r a : Int) : M.has r a = N.has r a := Mm.has_of_size h.2.2 r a
theorem AlikeM.look {M N : Mm} (h : AlikeM M N) (r a : Int) (b : Bool) : AlikeM (M.look r a b) (N.look r a b) :=
  ⟨by rw [Mm.look_evs, Mm.look_evs, h.has, h.1], by rw [Mm.look_fault, Mm.look_fault, h.has, h.2.1], fun x => by rw [Mm.look_size, Mm.look_size, h.2.2]⟩
theorem write_fault (M : Mm) (r a : Int) (c : List Int) : (M.write r a c).fault = (M.fault || !M.has r a) := by
  unfold Mm.write
  split
  · exact Mm.look_fault _ _ _ _
  · exact Mm.look_fault _ _ _ _
theorem AlikeM.write {M N : Mm} (h : AlikeM M N) (r a : Int) (c d : List Int) : AlikeM (M.write r a c) (N.write r a d) :=
  ⟨by rw [Mm.write_evs, Mm.write_evs, h.has, h.1], by rw [write_fault, write_fault, h.has, h.2.1], fun x => by rw [Mm.write_size, Mm.write_size, h.2.2]⟩
theorem slI_words {w : World} {v : Value} {zs : List Int} (h : SlI .u64 w v zs) : ∀ n ∈ zs, Word n := by
  rcases h with ⟨rfl, _⟩ | ⟨_, _, _, _, _, _, _, _, _, h⟩
  · intro n hn; cases hn
  · exact fun n hn => u64_of (h n hn)
theorem sl1_at {w0 w : World} {oa : Option Addr} {cap : Nat} {os : List Int} {T : IntKind} (h : Sl1 w0 (.slice oa os.length cap) (os.map (Value.int T))) (hb : Below w0.heap.size w0 w) {k : Nat} (hk : k < os.length) :
    ∃ ob off, oa = some ⟨ob, off, none⟩ ∧ w.cell? ⟨ob, off + k, none⟩ = some (.int T os[k]) := by
  rcases h with ⟨h0, _⟩ | ⟨_, b, off, c, e, _, _, hlt, hc⟩
  · rw [List.map_eq_nil_iff] at h0
    subst h0
    cases hk
  · simp only [Value.slice.injEq] at e
    refine ⟨b, off, e.1, ?_⟩
    rw [hb.cell hlt, hc k (by simpa using hk)]
    simp
end Go.Sg
namespace Go.Proofs.Ytngpaibppdehdaa
open Go.RowKit Go.Sg

set_option maxHeartbeats 4000000 in
set_option maxRecDepth 100000 in
theorem MemBlind_walk (v : Value) (zs : List Int) (vl : Value) (ls : List Lk) (vo : Value) (os : List Int) (w : World) (hv : SlI .i64 w v zs) (hl : SlL w vl ls) (ho : SlI .u64 w vo os) :
    Calls Try.prog 6 #[v, vl, vo] w fun e w' => e = .returned (.bool true) ∧ Below w.heap.size w w' := by
  have HV := Lib.hid (Sl1.of_SlI hv)
  obtain ⟨va, vcap, rfl, v1, v2, v3, v4⟩ := hl
  have V3 := Lib.hid v3
  have V4 := Lib.hid v4
  have HO := Lib.hid (Sl1.of_SlI ho)
  have HOW : Hid (∀ n ∈ os, Word n) := Lib.hid (slI_words ho)
  obtain ⟨oa, ocap, rfl⟩ : ∃ a c, vo = .slice a os.length c := by have := HO.out.len; rwa [List.length_map] at this
  have HOL : Hid (os.length ≤ maxLen) := Lib.hid (by have := HO.out.len_le; rwa [List.length_map] at this)
  clear v3 v4 hv ho
  unfold maxLen at v2
  go_enter Try.func6, Try.ntmps6
  go_wp2_with fail
  refine (shown3 w).mono ?_
  rintro e w1 ⟨rfl, hb1⟩
  have HB1 := Lib.hid hb1
  have HV1 := Lib.hid (HV.out.below hb1)
  clear hb1
  go_wp2_with fail
  refine (memNew_any _ zs _ HV1.out).mono ?_
  rintro e w2 ⟨hb2, hr⟩
  have HB2 := Lib.hid hb2
  have HV2 := Lib.hid (HV1.out.below hb2)
  rcases hr with ⟨hz, rfl⟩ | ⟨hz, p, F, rfl, hm, hF⟩
  · clear hb2
    go_wp2_with fail
    refine (memNew_any _ zs _ HV2.out).mono ?_
    rintro e w3 ⟨hb3, hr⟩
    rcases hr with ⟨_, rfl⟩ | ⟨h0, _⟩
    · have HB3 := Lib.hid ((HB1.out.trans (HB2.out.mono HB1.out.size)).trans (hb3.mono (Nat.le_trans HB1.out.size HB2.out.size)))
      clear hb3
      by_cases h80 : 80 < ls.length
      · have d : decide ((80 : Int) < (ls.length : Int)) = true := decide_eq_true (by omega)
        go_wp2
        go_ret
        exact ⟨rfl, HB3.out⟩
      · have d : decide ((80 : Int) < (ls.length : Int)) = false := decide_eq_false (by omega)
        go_wp2
        go_ret
        exact ⟨rfl, HB3.out⟩
    · rw [hz] at h0; cases h0
  · have HM := Lib.hid hm
    have HF := Lib.hid hF
    clear hb2 hm hF
    go_wp2_with fail
    refine (memNew_any _ zs _ HV2.out).mono ?_
    rintro e w3 ⟨hb3, hr⟩
    rcases hr with ⟨h0, _⟩ | ⟨_, q, G, rfl, hm, hG⟩
    · rw [hz] at h0; cases h0
    have HT : Hid (TwoR 108 108 w w3 p q (Mm.fresh zs) (Mm.fresh zs)) := Lib.hid (two_new HB1.out HM.out HF.out HB2.out hm hG hb3)
    clear hb3 hm hG HM HF HB1 HB2 HV1 HV2
    by_cases h80 : 80 < ls.length
    · have d : decide ((80 : Int) < (ls.length : Int)) = true := decide_eq_true (by omega)
      go_wp2
      go_ret
      exact ⟨rfl, HT.out.old⟩
    · have d : decide ((80 : Int) < (ls.length : Int)) = false := decide_eq_false (by omega)
      go_wp2
      go_loopw [12] (fun i wr => ∃ k : Nat, k ≤ ls.length ∧ i = .int .i64 k ∧ Hid (∃ M N, TwoR 108 108 w wr p q M N ∧ AlikeM M N ∧ M.evs.length ≤ k)) (fun i _ => ls.length - (intOf i).toNat)
      case atStart => exact ⟨0, by omega, rfl, Lib.hid ⟨_, _, HT.out, ⟨rfl, rfl, fun _ => rfl⟩, by simp [Mm.fresh]⟩⟩
      case round =>
        obtain ⟨k, hk, rfl, HS⟩ := hrel
        by_cases hlt : k < ls.length
        · obtain ⟨vb, voff, rfl, hvlt, hvr⟩ := V4.out (fun e => by rw [e] at hlt; simp at hlt)
          obtain ⟨M, N, hT, hA, hE⟩ := HS.out
          have HLD : Hid (wr.rangeAt vb (voff + k * 4) (lkV ls[k])) := Lib.hid fun j u hu => (hT.old.cell (p := ⟨vb, voff + k * 4 + j, none⟩) hvlt).trans (hvr k hlt j u hu)
          have HOK := Lib.hid (V3.out ls[k] (List.getElem_mem hlt))
          have HIL : Hid ((Try.prog.info? 41).map (·.size) = some (lkV ls[k]).length) := Lib.hid (by kernel_rfl)
          have HTk := Lib.hid hT
          have HA := Lib.hid hA
          have HE := Lib.hid hE
          have hoc : ∀ h : k < os.length, ∃ ob off, oa = some ⟨ob, off, none⟩ ∧ wr.cell? ⟨ob, off + k, none⟩ = some (.int .u64 os[k]) := fun h => sl1_at HO.out hT.old h
          have HOC := Lib.hid hoc
          clear hT hA hE hvr HS hoc
          generalize ls[k] = x at *
          obtain ⟨xr, xa, xn, xb⟩ := x
          obtain ⟨k1, k2, k3⟩ := HOK.out
          obtain ⟨c0, c1, c2, c3⟩ := lk_at HLD.out
          simp only at k1 k2 k3 c0 c1 c2 c3
          go_upto_region 10 with fail
          obtain ⟨wb, hwb⟩ : ∃ y, wr.alloc (.cells #[.int .i64 xr, .int .i64 xa, .int .u64 xn, .bool xb] 41) = y := ⟨_, rfl⟩
          have HTB : Hid (TwoB 108 108 w wb p q M N wr.heap.size #[.int .i64 xr, .int .i64 xa, .int .u64 xn, .bool xb] 41) := Lib.hid (by rw [← hwb]; exact HTk.out.box _ _)
          have HOC2 : Hid (∀ h : k < os.length, ∃ ob off, oa = some ⟨ob, off, none⟩ ∧ wb.cell? ⟨ob, off + k, none⟩ = some (.int .u64 os[k])) := Lib.hid fun h => sl1_at HO.out HTB.out.two.old h
          rw [hwb]
          clear hwb c0 c1 c2 c3 HTk HLD HIL HOK HOC
          generalize wr.heap.size = bq at *
          have HS : Hid (∀ w' M N, TwoB 108 108 w w' p q M N bq #[.int .i64 xr, .int .i64 xa, .int .u64 xn, .bool xb] 41 → (w'.cell? ⟨bq, 0, none⟩ = some (.int .i64 xr) ∧ w'.cell? ⟨bq, 1, none⟩ = some (.int .i64 xa) ∧ w'.cell? ⟨bq, 2, none⟩ = some (.int .u64 xn))) := Lib.hid fun w' M N h => ⟨h.blk.cell 0, h.blk.cell 1, h.blk.cell 2⟩
          have c0 : wb.cell? ⟨bq, 0, none⟩ = some (.int .i64 xr) := HTB.out.blk.cell 0
          have c1 : wb.cell? ⟨bq, 1, none⟩ = some (.int .i64 xa) := HTB.out.blk.cell 1
          have c2 : wb.cell? ⟨bq, 2, none⟩ = some (.int .u64 xn) := HTB.out.blk.cell 2
          have c3 : wb.cell? ⟨bq, 3, none⟩ = some (.bool xb) := HTB.out.blk.cell 3
          have hlk : ∃ n2, Word n2 ∧ ((k < os.length ∧ ∃ h : k < os.length, n2 = os[k]) ∨ (¬ k < os.length ∧ n2 = IntKind.u64.wrap (xn + 1))) := by
            by_cases h : k < os.length
            · exact ⟨_, HOW.out _ (List.getElem_mem h), .inl ⟨h, h, rfl⟩⟩
            · exact ⟨_, wrap_word _, .inr ⟨h, rfl⟩⟩
          obtain ⟨n2, hn2, ⟨h, _, he⟩ | ⟨h, he⟩⟩ := hlk
          focus
            obtain ⟨ob, off, rfl, co⟩ := HOC2.out h
            rw [← he] at co
            clear he
            have d2 : decide ((k : Int) < (os.length : Int)) = true := decide_eq_true (by omega)
            go_upto_region 13 with fail
            clear co HOC2 d2
          rotate_left
          focus
            have d2 : decide ((k : Int) < (os.length : Int)) = false := decide_eq_false (by omega)
            go_upto_region 13 with fail
            rw [← he]
            clear he HOC2 d2
          all_goals
            cases xb with
            | true =>
              have hT1 := HTB.out.drew
              go_wp2_with fail
              go_region_held3 (fun w' => w'.cell? ⟨bq, 0, none⟩ = some (.int .i64 xr) ∧ w'.cell? ⟨bq, 1, none⟩ = some (.int .i64 xa) ∧ w'.cell? ⟨bq, 2, none⟩ = some (.int .u64 xn)) (first | exact HS.out _ _ _ (by assumption)) (first
                | (go_at_call 34; refine (cell3_any xn _).mono ?_; rintro e wA ⟨rfl, hbA⟩; have hT2 := hT1.below hbA)
                | (go_at_call 33; refine (two_write1 xr xa (cellL xn) (cellL_len xn) (cellL_words xn) hT2 (by have := HE.out; omega)).mono ?_; rintro e wB ⟨rfl, hT3⟩))
              have HT3 := Lib.hid hT3
              clear hT3 hT2 hT1 c0 c1 c2 c3 HTB
              have hT1 := HT3.out.drew
              go_wp2_with fail
              go_region_held3 (fun w' => w'.cell? ⟨bq, 0, none⟩ = some (.int .i64 xr) ∧ w'.cell? ⟨bq, 1, none⟩ = some (.int .i64 xa) ∧ w'.cell? ⟨bq, 2, none⟩ = some (.int .u64 xn)) (first | exact HS.out _ _ _ (by assumption)) (first
                | (go_at_call 34; refine (cell3_any n2 _).mono ?_; rintro e wC ⟨rfl, hbC⟩; have hT2 := hT1.below hbC)
                | (go_at_call 33; refine (two_write2 xr xa (cellL n2) (cellL_len n2) (cellL_words n2) hT2 (by have := HE.out; have := congrArg List.length HA.out.1; omega)).mono ?_; rintro e wD ⟨rfl, hT4⟩))
              have HT4 := Lib.hid hT4
              clear hT4 hT2 hT1 HT3
              go_wp2
              go_roundw
              case rel => exact ⟨k + 1, by omega, by go_num, Lib.hid ⟨_, _, HT4.out.two, HA.out.write _ _ _ _, by have := HE.out; have := write_evs_le M xr xa (cellL xn); omega⟩⟩
              case measure => simp [intOf]; omega
            | false =>
              go_wp2_with fail
              refine (two_read1 xr xa HTB.out (by have := HE.out; omega)).mono ?_
              rintro e wB ⟨rfl, hT3⟩
              have HT3 := Lib.hid hT3
              clear hT3 c0 c1 c2 c3 HTB
              obtain ⟨c0, c1, c2⟩ := HS.out _ _ _ HT3.out
              go_wp2_with fail
              refine (two_read2 xr xa HT3.out (by have := HE.out; have := congrArg List.length HA.out.1; omega)).mono ?_
              rintro e wD ⟨rfl, hT4⟩
              have HT4 := Lib.hid hT4
              clear hT4 HT3
              go_wp2
              go_roundw
              case rel => exact ⟨k + 1, by omega, by go_num, Lib.hid ⟨_, _, HT4.out.two, HA.out.look _ _ _, by have := HE.out; have := look_evs_le M xr xa false; omega⟩⟩
              case measure => simp [intOf]; omega
        · have hkl : k = ls.length := by omega
          obtain ⟨M, N, hT, hA, hE⟩ := HS.out
          obtain ⟨F', G', m1, m2, m3, m4, m5, m6⟩ := hT
          have KA := Lib.hid (memTrace_any wr m1 (by omega))
          have KB := Lib.hid (fun w' (h : Below wr.heap.size wr w') => memTrace_any w' (m2.below h) (by have := congrArg List.length hA.1; omega))
          have KF := Lib.hid (fun w' (h : Below wr.heap.size wr w') => memFault_any w' (m1.below h))
          have KG := Lib.hid (fun w' (h : Below wr.heap.size wr w') => memFault_any w' (m2.below h))
          have HA := Lib.hid hA
          have HB := Lib.hid m6
          clear m1 m2 m3 m4 m5 m6 hE hA HS
          go_wp2_with fail
          refine KA.out.mono ?_
          rintro e w4 ⟨v1, rfl, hs1, hb4, _⟩
          go_wp2_with fail
          refine (KB.out w4 hb4).mono ?_
          rintro e w5 ⟨v2, rfl, hs2, hb5, _⟩
          have hs1' := hs1.below hb5
          have hb5' := hb4.trans (hb5.mono hb4.size)
          rw [← HA.out.1] at hs2
          go_wp2_with fail
          refine (sameE3_any v1 v2 _ _ _ hs1' hs2).mono ?_
          rintro e w6 ⟨rfl, hb6⟩
          have hb6' := hb5'.trans (hb6.mono hb5'.size)
          rw [decide_eq_true rfl]
          have KF6 := Lib.hid (KF.out w6 hb6')
          have KG6 := Lib.hid (KG.out w6 hb6')
          rw [← HA.out.2.1] at KG6
          generalize M.fault = bf at *
          have HB6 := Lib.hid hb6'
          clear hs1 hs2 hs1' hb4 hb5 hb5' hb6 hb6' KA KB KF KG
          go_wp2_with (first
            | (go_at_call 38; (with_reducible refine (KF6.out).mono ?_); rintro e w' ⟨rfl, rfl⟩)
            | (go_at_call 38; (with_reducible refine (KG6.out).mono ?_); rintro e w' ⟨rfl, rfl⟩)
            | fail)
          go_ret
          exact ⟨by simp, HB.out.trans (HB6.out.mono HB.out.size)⟩
end Go.Proofs.Ytngpaibppdehdaa
