/-
  The walk of shellgamelaw6.SortRuns.
-/
import Derived.Test.YtngpaibppdehdaaSortAny
import Derived.Test.YtngpaibppdehdaaShown6
import Derived.Test.YtngpaibppdehdaaAlike6
import Derived.Test.YtngpaibppdehdaaRow
namespace Go.Sg
open Go Go.RowKit
theorem slI_words6 {w : World} {v : Value} {zs : List Int} (h : SlI .u64 w v zs) : ∀ n ∈ zs, Word n := by
  rcases h with ⟨rfl, _⟩ | ⟨_, _, _, _, _, _, _, _, _, h⟩
  · intro n hn; cases hn
  · exact fun n hn => u64_of (h n hn)
theorem slE_get6 {w : World} {v : Value} {es : List Ev} (h : SlE w v es) : ∃ a cap, v = .slice a es.length cap := by
  obtain ⟨a, cap, rfl, _⟩ := h
  exact ⟨a, cap, rfl⟩
end Go.Sg
namespace Go.Proofs.Ytngpaibppdehdaa
open Go Go.RowKit Go.Sg
theorem pair_since {T' : Nat} {w0 w : World} {p q : Nat} {M N : Mm} {D : Nat → Prop} {X : World → Prop} (hK : Keeps D X) (n : Int) (h : PairX 108 T' w0 w p q M N D X) (hN : M.evs.length ≤ 1099511627776) (k : Nat) (hk : max 0 (min n (M.evs.length : Int)) = k) :
    Calls Try.prog 45 #[.pointer (some ⟨p, 0, none⟩), .int .i64 n] w fun e w' => ∃ v, e = .returned v ∧ Keeps (fun i => D i ∨ OwnE v (M.evs.drop k) i) (fun w => X w ∧ SlE w v (M.evs.drop k)) ∧ PairX 108 T' w0 w' p q M N (fun i => D i ∨ OwnE v (M.evs.drop k) i) (fun w => X w ∧ SlE w v (M.evs.drop k)) := by
  have h0 := h
  obtain ⟨G, ⟨F, h1, _⟩, _⟩ := h
  exact (memSince_free n w h1 hN k hk).mono fun e w' ⟨v, he, hs, hb, ho⟩ => ⟨v, he, keeps_and hK (keeps_slE v _), h0.ret hK hb (fun k hk => ⟨(ho k hk.1).1, slE_own_lt hs k hk⟩) hs⟩

set_option maxHeartbeats 8000000 in
set_option maxRecDepth 100000 in
theorem SortRuns_walk (v : Value) (zs : List Int) (cells n key r : Int) (w : World) (hv : SlI .u64 w v zs) (_hc : Num cells) (hn : Num n) (hkey : Num key) (_hr : Num r) :
    Calls Try.prog 24 #[v, .int .i64 cells, .int .i64 n, .int .i64 key, .int .i64 r] w fun e w' => e = .returned (.bool true) ∧ Below w.heap.size w w' := by
  have HWZ := Lib.hid (slI_words6 hv)
  have HV := Lib.hid (Sl1.of_SlI hv)
  have hlen : zs.length ≤ maxLen := by have := HV.out.len_le; rwa [List.length_map] at this
  obtain ⟨va, vc, rfl⟩ : ∃ a c, v = .slice a zs.length c := by have := HV.out.len; rwa [List.length_map] at this
  unfold maxLen at hlen
  clear hv
  go_enter Try.func24, Try.ntmps24
  go_wp2_with fail
  refine (shown6 w).mono ?_
  rintro e w1 ⟨rfl, hb1⟩
  have HB1 := Lib.hid hb1
  have HV1 := Lib.hid (HV.out.below hb1)
  clear hb1
  by_cases h1 : cells < 1
  · have d1 : decide (cells < 1) = true := decide_eq_true h1
    go_wp2
    go_ret
    exact ⟨rfl, HB1.out⟩
  have d1 : decide (cells < 1) = false := decide_eq_false h1
  by_cases h2 : 130 < cells
  · have d2 : decide (130 < cells) = true := decide_eq_true h2
    go_wp2
    go_ret
    exact ⟨rfl, HB1.out⟩
  have d2 : decide (130 < cells) = false := decide_eq_false h2
  by_cases h3 : 130 < zs.length
  · have d3 : decide ((130 : Int) < (zs.length : Int)) = true := decide_eq_true (by omega)
    have d3' : decide (130 < zs.length) = true := decide_eq_true h3
    go_wp2
    go_ret
    exact ⟨rfl, HB1.out⟩
  have d3 : decide ((130 : Int) < (zs.length : Int)) = false := decide_eq_false (by omega)
  have d3' : decide (130 < zs.length) = false := decide_eq_false h3
  obtain ⟨c, rfl⟩ : ∃ c : Nat, cells = c := ⟨cells.toNat, by omega⟩
  go_wp2_with fail
  refine (laid6_any 2 c (by decide) (by decide) (by omega) (by omega) _ zs HWZ.out _ HV1.out).mono ?_
  rintro e w2 ⟨p, q, rfl, hP⟩
  have HP := Lib.hid hP
  have HL := Lib.hid (laid_f (r := 2) (c := c) zs (by decide))
  have hev0 : (laidM 2 c zs).evs.length ≤ 130 := by have := HL.out.evs.2; omega
  clear hP HV HV1 HWZ HL
  generalize laidM 2 c zs = M0 at *
  have KM := Lib.hid (one_many HP.out.left)
  have K1 := Lib.hid (HP.out.call keeps_true fun D' X' hK' h' => one_run hK' r n key h' (by omega))
  have K2 := Lib.hid (fun w' (h' : PairX 108 60 w1 w' p q (runM M0 r n key) M0 (fun _ => False) (fun _ => True)) => h'.call2 keeps_true fun D' X' hK' h' => one_rrun hK' r n key hn h' (by omega))
  have hev1 := runM_evs_le M0 r n key
  have hdr : (runM M0 r n key).evs.drop M0.evs.length = if runOk M0 r n key then evsR r n else [] := by rw [runM_evs, List.drop_left]
  have hge : M0.evs.length ≤ (runM M0 r n key).evs.length := by rw [runM_evs, List.length_append]; omega
  have K3 := Lib.hid (fun w' (h' : PairX 108 60 w1 w' p q (runM M0 r n key) (runM M0 r n key) (fun _ => False) (fun _ => True)) => pair_since keeps_true (M0.evs.length : Int) h' (by omega) M0.evs.length (by omega))
  rw [hdr] at K3
  have KE1 := Lib.hid (fun w' => sortEvents_any r n w')
  have KE2 := Lib.hid (fun w' => refEvents_any r n hn w')
  generalize runM M0 r n key = M1 at *
  generalize hes : evsR r n = es at *
  clear hdr hge hes
  cases hok : runOk M0 r n key
  all_goals
    rw [hok] at K1 K2 K3
    simp only [Bool.false_eq_true, if_false, if_true] at K1 K2 K3
    clear hok
    go_wp2_with fail
    refine KM.out.mono ?_
    rintro e wS ⟨rfl, rfl⟩
    go_wp2_with fail
    refine K1.out.mono ?_
    rintro e wA ⟨rfl, hA⟩
    go_wp2_with fail
    refine (K2.out _ hA).mono ?_
    rintro e wB ⟨rfl, hB⟩
    go_wp2_with fail
    refine (K3.out _ hB).mono ?_
    rintro e wC ⟨v1, rfl, hKC, hC⟩
    have HPC := Lib.hid hC
    have HK1 := Lib.hid hKC
    obtain ⟨a1, c1, rfl⟩ := slE_get6 hC.x.2
    clear hA hB hC hKC K1 K2 K3 KM HP
    go_wp2_with fail
    refine (KE1.out _).mono ?_
    rintro e wD ⟨v2, rfl, hs2, hb2, _⟩
    have HPD := Lib.hid (HPC.out.below HK1.out hb2)
    clear hb2
    go_wp2_with fail
    refine (KE2.out _).mono ?_
    rintro e wE ⟨v3, rfl, hs3, hb3, _⟩
    have HPE := Lib.hid (HPD.out.below HK1.out hb3)
    have KS := Lib.hid (sameE6_any v2 v3 es es _ (hs2.below hb3) hs3)
    rw [decide_eq_true rfl] at KS
    clear hs2 hs3 hb3 HPC HPD
    go_wp2_with fail
    refine KS.out.mono ?_
    rintro e wF ⟨rfl, hbF⟩
    have HPF := Lib.hid (HPE.out.below HK1.out hbF)
    clear hbF KS HPE
  · have KA := Lib.hid (alike6_any HK1.out HPF.out (by omega))
    clear HPF
    simp only [List.length_nil] at *
    go_wp2_with fail
    try rw [run_len_slice (h := show Try.prog.underlying 48 = some (.slice (Try.prog.elem 48)) from Try.underlying48)]
    try simp only [Result.andThen_ok, Oper.upon_value]
    go_wp2_with fail
    refine KA.out.mono ?_
    rintro e wZ ⟨rfl, hbZ⟩
    have HBZ := Lib.hid (HB1.out.trans (hbZ.mono HB1.out.size))
    clear hbZ KA
    go_wp2
    go_ret
    exact ⟨rfl, HBZ.out⟩
  · have HE1 := Lib.hid HPF.out.x.2
    go_wp2_with fail
    refine (KE1.out _).mono ?_
    rintro e wG ⟨v4, rfl, hs4, hb4, _⟩
    have HPG := Lib.hid (HPF.out.below HK1.out hb4)
    have KS := Lib.hid (sameE6_any _ v4 es es _ (HE1.out.below hb4) hs4)
    rw [decide_eq_true rfl] at KS
    clear hs4 hb4 HPF HE1
    go_wp2_with fail
    refine KS.out.mono ?_
    rintro e wH ⟨rfl, hbH⟩
    have KA := Lib.hid (alike6_any HK1.out (HPG.out.below HK1.out hbH) (by omega))
    clear hbH HPG KS
    go_wp2_with fail
    refine KA.out.mono ?_
    rintro e wZ ⟨rfl, hbZ⟩
    have HBZ := Lib.hid (HB1.out.trans (hbZ.mono HB1.out.size))
    clear hbZ KA
    go_wp2
    go_ret
    exact ⟨rfl, HBZ.out⟩
end Go.Proofs.Ytngpaibppdehdaa
