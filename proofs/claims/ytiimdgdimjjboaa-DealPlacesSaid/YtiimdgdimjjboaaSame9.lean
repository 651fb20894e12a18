/-
  The walk of shellgamelaw9.same.
-/
import Derived.Test.YtiimdgdimjjboaaProg
import Derived.Test.YtiimdgdimjjboaaSl
import Derived.Test.YtiimdgdimjjboaaReg
import Derived.Deep.QuietTactic
import Derived.BigQuiet
namespace Go.Proofs.Ytiimdgdimjjboaa
open Go.RowKit Go.Sg

theorem same9_any (v1 v2 : Value) (xs ys : List Int) (w : World) (h1 : Sl1 w v1 (xs.map (Value.int .i64))) (h2 : Sl1 w v2 (ys.map (Value.int .i64))) :
    Calls Try.prog 24 #[v1, v2] w fun e w' => e = .returned (.bool (decide (xs = ys))) ∧ Below w.heap.size w w' := by
  by_cases hlen : xs.length = ys.length
  · rcases h1 with ⟨e1, a1, cap1, rfl⟩ | ⟨n1, b1, off1, cap1, rfl, hl1, hm1, hlt1, hc1⟩
    · have ea : xs = [] := by simpa using e1
      subst ea
      have eb : ys = [] := List.length_eq_zero_iff.1 hlen.symm
      subst eb
      obtain ⟨a2, cap2, rfl⟩ := h2.len
      clear h2 hlen e1
      go_enter Try.func24, Try.ntmps24
      go_wp2
      go_loop [5] (fun i => i = .int .i64 0) (fun _ => 0)
      case atStart => rfl
      case round =>
        subst hrel
        go_wp2
        go_ret
        exact ⟨rfl, Below.refl _ _⟩
    · rcases h2 with ⟨e2, a2, cap2, rfl⟩ | ⟨n2, b2, off2, cap2, rfl, hl2, hm2, hlt2, hc2⟩
      · exfalso
        have : ys = [] := by simpa using e2
        subst this
        have : xs = [] := List.length_eq_zero_iff.1 hlen
        subst this
        simp at n1
      · have g1 : ((xs.length : Int) != (xs.length : Int)) = false := by simp
        have hmx : xs.length ≤ maxLen := by simp at hl1; omega
        unfold maxLen at hmx
        have C1 : Hid (∀ i (h : i < xs.length), w.cell? ⟨b1, off1 + i, none⟩ = some (.int .i64 xs[i])) := Lib.hid fun i h => (hc1 i (by simpa using h)).trans (by rw [List.getElem_map])
        have C2 : Hid (∀ i (h : i < ys.length), w.cell? ⟨b2, off2 + i, none⟩ = some (.int .i64 ys[i])) := Lib.hid fun i h => (hc2 i (by simpa using h)).trans (by rw [List.getElem_map])
        have HL := Lib.hid hlen
        clear hc1 hc2 n1 n2 hl1 hl2 hm1 hm2
        rw [List.length_map, List.length_map, ← hlen]
        have HB1 := Lib.hid hlt1
        have HB2 := Lib.hid hlt2
        clear hlen hlt1 hlt2
        go_enter Try.func24, Try.ntmps24
        go_wp2
        go_loopw [5] (fun i wr => ∃ k : Nat, k ≤ xs.length ∧ i = .int .i64 k ∧ Hid (∀ r (h : r < xs.length) (h' : r < ys.length), r < k → xs[r] = ys[r]) ∧ Below w.heap.size w wr) (fun i _ => xs.length - (intOf i).toNat)
        case atStart => exact ⟨0, by omega, rfl, Lib.hid (fun r _ _ h => by omega), Below.refl _ _⟩
        case round =>
          obtain ⟨k, hk, rfl, HE, hW⟩ := hrel
          have HW := Lib.hid hW
          by_cases hlt : k < xs.length
          · have hlt' : k < ys.length := by have := HL.out; omega
            have c1 : wr.cell? ⟨b1, off1 + k, none⟩ = some (.int .i64 xs[k]) := by rw [hW.cell HB1.out]; exact C1.out k hlt
            have c2 : wr.cell? ⟨b2, off2 + k, none⟩ = some (.int .i64 ys[k]) := by rw [hW.cell HB2.out]; exact C2.out k hlt'
            have i0 : (0 : Int) ≤ (k : Int) := by omega
            have i1 : (k : Int) < (xs.length : Int) := by omega
            clear hW
            by_cases he : xs[k] = ys[k]
            · have q : (xs[k] != ys[k]) = false := by simp [he]
              have HQ := Lib.hid he
              clear he
              go_wp2_with fail
              go_quiet (fail)
              have HD := Lib.hid (show Below wr.heap.size wr (wr.drewN nq) from below_drewN' (Below.refl _ _))
              go_wp2
              go_roundw
              case rel =>
                refine ⟨k + 1, by omega, by go_num, Lib.hid ?_, HW.out.trans (HD.out.mono HW.out.size)⟩
                intro r h h' hr
                rcases Nat.lt_or_ge r k with h3 | h3
                · exact HE.out r h h' h3
                · obtain rfl : r = k := by omega
                  exact HQ.out
              case measure => simp [intOf]; omega
            · have q : (xs[k] != ys[k]) = true := by simpa using he
              have HN : Hid (decide (xs = ys) = false) := Lib.hid (decide_eq_false fun h => he (by simp [h]))
              clear he
              go_wp2_with fail
              go_quiet (fail)
              have HD := Lib.hid (show Below wr.heap.size wr (wr.drewN nq) from below_drewN' (Below.refl _ _))
              go_wp2
              go_ret
              exact ⟨congrArg (fun b => Ending.returned (Value.bool b)) HN.out.symm, HW.out.trans (HD.out.mono HW.out.size)⟩
          · have HN : Hid (decide (xs = ys) = true) := Lib.hid (decide_eq_true (List.ext_getElem HL.out fun r h h' => HE.out r h h' (by omega)))
            clear hW
            go_wp2
            go_ret
            exact ⟨congrArg (fun b => Ending.returned (Value.bool b)) HN.out.symm, HW.out⟩
  · have HN : Hid (decide (xs = ys) = false) := Lib.hid (decide_eq_false fun h => hlen (by rw [h]))
    obtain ⟨a1, cap1, rfl⟩ := h1.len
    obtain ⟨a2, cap2, rfl⟩ := h2.len
    have g1 : ((xs.length : Int) != (ys.length : Int)) = true := by rw [bne_iff_ne]; omega
    rw [List.length_map, List.length_map]
    clear h1 h2 hlen
    go_enter Try.func24, Try.ntmps24
    go_wp2
    go_ret
    exact ⟨congrArg (fun b => Ending.returned (Value.bool b)) HN.out.symm, Below.refl _ _⟩
end Go.Proofs.Ytiimdgdimjjboaa
