/-
  The walk of shellgameref5.Sorted: the least word again and again; where its answer lies. What shellgamelaw6.SortOrders tells of a run: plain.
-/
import Derived.Test.YtngpaibppdehdaaSortedL
import Derived.Test.YtngpaibppdehdaaSortL
import Derived.Test.YtngpaibppdehdaaWord
import Derived.Test.YtngpaibppdehdaaRound
import Derived.Laws.OwnMore
import Derived.Lib.SliceRun
import Derived.Test.YtngpaibppdehdaaRef5
import Derived.Test.YtngpaibppdehdaaMemNew
namespace Go.Sg
open Go Go.RowKit
def lenV : Value → Nat
  | .slice _ n _ => n
  | _ => 0
theorem sel_perm {ls os xs : List Int} {k : Nat} (hk : k < ls.length) (h : (os ++ ls).Perm xs) : ((os ++ [ls[k]]) ++ (ls.take k ++ ls.drop (k + 1))).Perm xs := by
  refine .trans ?_ h
  rw [List.append_assoc]
  refine .append_left os ?_
  have e : ls.take k ++ ls[k] :: ls.drop (k + 1) = ls := by rw [← List.drop_eq_getElem_cons hk, List.take_append_drop]
  have h2 : (ls[k] :: (ls.take k ++ ls.drop (k + 1))).Perm (ls.take k ++ ls[k] :: ls.drop (k + 1)) := List.perm_middle.symm
  rw [e] at h2
  exact h2
theorem mem_rest {ls : List Int} {k : Nat} {y : Int} (h : y ∈ ls.take k ++ ls.drop (k + 1)) : y ∈ ls := by
  rcases List.mem_append.1 h with h | h
  · exact List.mem_of_mem_take h
  · exact List.mem_of_mem_drop h
theorem rest_len {ls : List Int} {k : Nat} (hk : k < ls.length) : (ls.take k ++ ls.drop (k + 1)).length = ls.length - 1 := by
  rw [List.length_append, List.length_take, List.length_drop]
  omega
end Go.Sg
namespace Go.Proofs.Ytngpaibppdehdaa
open Go Go.RowKit Go.Sg

theorem info_u64 : (Try.prog.info? 39).map (fun i => (i.zero, i.size, i.bytes)) = some (some (.int .u64 0), 1, 8) := by kernel_rfl
theorem words_one (xs : List Int) : ∀ u ∈ xs.map (Value.int .u64), u.oneCell' = true := by
  intro u hu; obtain ⟨_, _, rfl⟩ := List.mem_map.1 hu; rfl
/-- the words that are left, those that were picked -/
structure SelW (w wr : World) (xs ls os : List Int) (lv ov : Value) : Prop where
  left : wr.ownsRow w.heap.size 39 1 lv ls.length (ls.map (Value.int .u64))
  out : wr.ownsRow w.heap.size 39 1 ov os.length (os.map (Value.int .u64))
  ne : ∀ k, lv.ownBlock = some k → ov.ownBlock ≠ some k
  sorted : os.Pairwise (fun a b => a ≤ b)
  cross : ∀ x ∈ os, ∀ y ∈ ls, x ≤ y
  perm : (os ++ ls).Perm xs
  old : Below w.heap.size w wr

set_option maxRecDepth 100000 in
set_option maxHeartbeats 4000000 in
theorem ref5SortedO_any (v : Value) (xs : List Int) (hne : xs ≠ []) (hlen : xs.length ≤ 1024) (w : World) (hv : Sl1 w v (xs.map (Value.int .u64))) :
    Calls Try.prog 60 #[v] w fun e w' => ∃ v' ys, e = .returned v' ∧ SortOf xs ys ∧ w'.ownsRow w.heap.size 39 1 v' ys.length (ys.map (Value.int .u64)) ∧ Below w.heap.size w w' := by
  rcases hv with ⟨e, _⟩ | ⟨_, b, off, cap, rfl, hl, hm, hlt, hc⟩
  · exact absurd (List.map_eq_nil_iff.1 e) hne
  rw [List.length_map] at hl ⊢
  have hc' : ∀ j u, (xs.map (Value.int .u64))[j]? = some u → w.cell? ⟨b, off + j, none⟩ = some u := fun j u hu => by
    obtain ⟨hj, rfl⟩ := List.getElem?_eq_some_iff.1 hu
    exact hc j hj
  obtain ⟨i0, hi0, hz0, hz1, hz2⟩ := info_parts info_u64
  have HI := Lib.hid hi0
  have HZ := Lib.hid hz0
  have HS := Lib.hid hz1
  have HY := Lib.hid hz2
  have HR := Lib.hid hc'
  have HL := Lib.hid hlt
  unfold maxLen at hm
  clear hi0 hz0 hz1 hz2 hc hc' hlt
  go_enter Try.func60, Try.ntmps60
  go_wp2_with (first
    | (at_builtin; go_loud (refine wpList_append_own_at _ rfl (.tmp 7) (.tmp 8) 34 rfl w.heap.size 39 i0 (.int .u64 0) 1 8 Try.underlying34 HI.out HZ.out HS.out HY.out rfl (by decide) _ 0 [] rfl ?own ⟨b, off, none⟩ xs.length cap (xs.map (Value.int .u64)) rfl (by simp) ?c1 (words_one xs) (by unfold maxLen; omega) (by omega) (by simp) ?_))
    | fail)
  case own => exact ⟨rfl, .inr ⟨w.heap.size, 0, #[], rfl, Nat.le_refl _, heap_alloc_new w _, Nat.le_refl _, by simp, rfl, rfl⟩⟩
  case c1 =>
    intro j u hu
    rw [addr_add]
    exact (((Below.refl _ w).alloc (Nat.le_refl _) _).cell (p := ⟨b, off + j, none⟩) HL.out).trans (HR.out j u hu)
  intro v1 w1 hown hgrow _ hat
  have hown : w1.ownsRow w.heap.size 39 1 v1 xs.length (xs.map (Value.int .u64)) := by simpa using hown
  obtain ⟨lg, lc, rfl⟩ : ∃ lg lc, v1 = .slice (some ⟨lg, 0, none⟩) xs.length lc := by
    obtain ⟨k, hk⟩ : ∃ k, xs.length = k + 1 := ⟨xs.length - 1, by have := List.length_pos_iff.2 hne; omega⟩
    rw [hk] at hown
    obtain ⟨g, c, h⟩ := ownsRow_succ hown
    exact ⟨g, c, by rw [hk]; exact h⟩
  have HW : Hid (SelW w w1 xs xs [] (.slice (some ⟨lg, 0, none⟩) xs.length lc) (.slice none 0 0)) := Lib.hid {
    left := hown
    out := World.ownsRow_nil _ _ _ _
    ne := fun k _ h => by cases h
    sorted := .nil
    cross := fun x hx => by cases hx
    perm := .refl _
    old := ((Below.refl _ _).alloc (Nat.le_refl _) _).grown hgrow (by simp) (by intro k hk; simp [Value.ownBlock] at hk; omega) }
  clear hown hgrow hat HR HL
  go_wp2_with fail
  go_loopw [3, 4] (fun lv ov wr => ∃ ls os, SelW w wr xs ls os lv ov) (fun lv _ _ => lenV lv)
  case atStart => exact ⟨xs, [], HW.out⟩
  case round =>
    obtain ⟨ls, os, hW⟩ := hrel
    obtain ⟨la, lc, rfl⟩ := owns_slice hW.left
    have HW := Lib.hid hW
    have hpl := hW.perm.length_eq
    rw [List.length_append] at hpl
    clear hW
    by_cases h0 : 0 < ls.length
    · have d0 : decide ((0 : Int) < (ls.length : Int)) = true := decide_eq_true (by omega)
      obtain ⟨lg, rfl⟩ : ∃ lg, la = some ⟨lg, 0, none⟩ := by
        rcases HW.out.left.2 with ⟨h', _⟩ | ⟨g', cap', cur, h', _⟩
        · simp only [Value.slice.injEq] at h'
          omega
        · simp only [Value.slice.injEq] at h'
          exact ⟨g', h'.1⟩
      go_wp2_with fail
      go_loopw [5, 6] (fun av i wr2 => ∃ at' k : Nat, at' < ls.length ∧ k ≤ ls.length ∧ av = .int .i64 at' ∧ i = .int .i64 k ∧ Hid (∀ (h : at' < ls.length) (j : Nat) (hj : j < ls.length), j < k → ls[at'] ≤ ls[j]) ∧ ∃ q, wr2 = wr.drewN q) (fun _ i _ => ls.length - (intOf i).toNat)
      case atStart => exact ⟨0, 0, h0, by omega, rfl, rfl, Lib.hid fun _ j hj h => by omega, 0, rfl⟩
      case round =>
        obtain ⟨at', k, hat, hk, rfl, rfl, HM, q, rfl⟩ := hrel
        by_cases hkl : k < ls.length
        · have cA : wr.cell? ⟨lg, at', none⟩ = some (.int .u64 ls[at']) := by rw [HW.out.left.cellAt at' (by omega)]; simp [hat]
          have cK : wr.cell? ⟨lg, k, none⟩ = some (.int .u64 ls[k]) := by rw [HW.out.left.cellAt k (by omega)]; simp [hkl]
          by_cases hle : ls[k] < ls[at']
          · have HM2 := Lib.hid hle
            generalize hx1 : ls[at'] = x1 at *
            generalize hx2 : ls[k] = x2 at *
            have d1 : decide (x2 < x1) = true := decide_eq_true hle
            clear hle
            go_wp2_with fail
            go_quiet (fail)
            go_wp2
            go_roundw
            case rel =>
              refine ⟨k, k + 1, hkl, by omega, rfl, by go_num, Lib.hid fun h j hj hjk => ?_, q + _, rfl⟩
              have h2 := HM2.out
              rcases Nat.lt_or_ge j k with h3 | h3
              · have := HM.out hat j hj h3
                omega
              · obtain rfl : j = k := by omega
                omega
            case measure => simp [intOf]; omega
          · have HM2 := Lib.hid hle
            generalize hx1 : ls[at'] = x1 at *
            generalize hx2 : ls[k] = x2 at *
            have d1 : decide (x2 < x1) = false := decide_eq_false hle
            clear hle
            go_wp2_with fail
            go_quiet (fail)
            go_wp2
            go_roundw
            case rel =>
              refine ⟨at', k + 1, hat, by omega, rfl, by go_num, Lib.hid fun h j hj hjk => ?_, q + _, rfl⟩
              have h2 := HM2.out
              rcases Nat.lt_or_ge j k with h3 | h3
              · exact HM.out hat j hj h3
              · obtain rfl : j = k := by omega
                omega
            case measure => simp [intOf]; omega
        · have cA : (wr.drewN q).cell? ⟨lg, at', none⟩ = some (.int .u64 ls[at']) := by
            show wr.cell? _ = _
            rw [HW.out.left.cellAt at' (by omega)]; simp [hat]
          have hkk : k = ls.length := by omega
          have HMIN : Hid (∀ y ∈ ls, ls[at'] ≤ y) := Lib.hid fun y hy => by
            obtain ⟨j, hj, rfl⟩ := List.getElem_of_mem hy
            exact HM.out hat j hj (by omega)
          have HPM := Lib.hid (sel_perm hat HW.out.perm)
          have HCR : Hid (∀ x ∈ os, x ≤ ls[at']) := Lib.hid fun x hx => HW.out.cross x hx _ (List.getElem_mem hat)
          generalize ls[at'] = x at *
          have hos : os.length ≤ 1024 := by omega
          go_wp2_with (first
            | (at_builtin; go_loud (refine wpList_append_own_at _ rfl (.tmp 29) (.tmp 34) 34 rfl w.heap.size 39 i0 (.int .u64 0) 1 8 Try.underlying34 HI.out HZ.out HS.out HY.out rfl (by decide) _ os.length (os.map (Value.int .u64)) rfl ((show (wr.drewN q).ownsRow w.heap.size 39 1 _ os.length (os.map (Value.int .u64)) from HW.out.out).alloc _) ⟨wr.heap.size, 0, none⟩ 1 1 [.int .u64 x] rfl rfl (cells_new (wr.drewN q) [.int .u64 x] _) (by simp [Value.oneCell']) (by unfold maxLen; omega) (by omega) (by have := HW.out.old.size; simp; omega) ?_))
            | fail)
          intro ov' w5 hown5 hgrow5 _ hat5
          have HO5 := Lib.hid hown5
          have hlg := HW.out.left.lt lg rfl
          have HL5 : Hid (w5.ownsRow w.heap.size 39 1 (.slice (some ⟨lg, 0, none⟩) ls.length lc) ls.length (ls.map (Value.int .u64))) :=
            Lib.hid (((show (wr.drewN q).ownsRow w.heap.size 39 1 (.slice (some ⟨lg, 0, none⟩) ls.length lc) ls.length (ls.map (Value.int .u64)) from HW.out.left).alloc _).kept hgrow5 (.inr (fun e => HW.out.ne lg rfl e.symm)))
          have HB5 : Hid (Below w.heap.size w w5) := Lib.hid (((below_drewN' HW.out.old).alloc HW.out.old.size _).grown hgrow5 (by have := HW.out.old.size; simp; omega) (fun k hk => (HW.out.out.lt k hk).1))
          have HG5 : Hid (∀ k, ov'.ownBlock = some k → k < w5.heap.size) := Lib.hid fun k hk => (hown5.lt k hk).2
          have hn5 : lg < w5.heap.size := (HL5.out.lt lg rfl).2
          have HOS : Hid ((os ++ [x]).Pairwise (fun a b => a ≤ b)) := Lib.hid (List.pairwise_append.2 ⟨HW.out.sorted, List.pairwise_singleton _ _, fun a ha b hb => by obtain rfl := List.mem_singleton.1 hb; exact HCR.out a ha⟩)
          have hlc : ls.length ≤ lc ∧ lc ≤ maxLen := by
            rcases HL5.out.2 with ⟨h', _⟩ | ⟨g', cap', cur, h', _, _, h1, h2, _⟩
            · simp at h'
            · simp only [Value.slice.injEq, Option.some.injEq, Addr.mk.injEq, and_true, true_and] at h'
              obtain ⟨rfl, rfl⟩ := h'
              exact ⟨h1, h2⟩
          obtain ⟨hlc1, hlc2⟩ := hlc
          unfold maxLen at hlc2
          clear hown5 hgrow5 hat5 HW HM
          have HC1 : Hid (∀ w', Below w5.heap.size w5 w' → ∀ j u, ((ls.take at').map (Value.int .u64))[j]? = some u → w'.cell? ((⟨lg, 0, none⟩ : Addr).add j) = some u) := Lib.hid fun w' hb j u hu => by
            rw [addr_add]
            rw [hb.cell (p := ⟨lg, 0 + j, none⟩) hn5, ← addr_add]
            refine HL5.out.cells rfl j u ?_
            rw [List.map_take, List.getElem?_take] at hu
            split at hu
            · exact hu
            · cases hu
          have HC2 : Hid (∀ w', Below w5.heap.size w5 w' → ∀ j u, ((ls.drop (at' + 1)).map (Value.int .u64))[j]? = some u → w'.cell? ((⟨lg, at' + 1, none⟩ : Addr).add j) = some u) := Lib.hid fun w' hb j u hu => by
            rw [addr_add]
            rw [hb.cell (p := ⟨lg, at' + 1 + j, none⟩) hn5]
            have := HL5.out.cells rfl (at' + 1 + j) u (by rw [List.map_drop, List.getElem?_drop] at hu; exact hu)
            rwa [addr_add, Nat.zero_add] at this
          have HE0 : Hid ((w5.drew.alloc (.cells #[] 39)).ownsRow w5.heap.size 39 1 (.slice (some ⟨w5.heap.size, 0, none⟩) 0 0) 0 []) :=
            Lib.hid ⟨rfl, .inr ⟨w5.heap.size, 0, #[], rfl, Nat.le_refl _, heap_alloc_new w5.drew _, Nat.le_refl _, by simp, rfl, rfl⟩⟩
          have hl1 : ((ls.take at').map (Value.int .u64)).length = at' * 1 := by simp; omega
          have hl2 : ((ls.drop (at' + 1)).map (Value.int .u64)).length = (ls.length - (at' + 1)) * 1 := by simp
          have ho1 := words_one (ls.take at')
          have ho2 := words_one (ls.drop (at' + 1))
          have HRL := Lib.hid (rest_len hat)
          have HAP : Hid ([] ++ (ls.take at').map (Value.int .u64) ++ (ls.drop (at' + 1)).map (Value.int .u64) = (ls.take at' ++ ls.drop (at' + 1)).map (Value.int .u64)) := Lib.hid (by simp)
          have HMR : Hid (∀ y ∈ ls.take at' ++ ls.drop (at' + 1), x ≤ y ∧ y ∈ ls) := Lib.hid fun y hy => ⟨HMIN.out y (mem_rest hy), mem_rest hy⟩
          go_wp2_with fail
          generalize ls.take at' ++ ls.drop (at' + 1) = rs at *
          generalize (ls.take at').map (Value.int .u64) = n1 at *
          generalize (ls.drop (at' + 1)).map (Value.int .u64) = n2 at *
          have f1 : at' ≤ lc := by omega
          have f2 : at' + 1 ≤ ls.length := by omega
          have f3 : (0 : Int) ≤ (at' : Int) + 1 := by omega
          have f4 : (at' : Int) + 1 ≤ (ls.length : Int) := by omega
          have f5 : (at' : Int) ≤ (lc : Int) := by omega
          have f6 : (at' : Int) ≤ (at' : Int) + 1 := by omega
          have f7 : IntKind.i64.wrap ((at' : Int) + 1) = (at' : Int) + 1 := by rw [IntKind.wrap_i64]; omega
          have f8 : ((at' : Int) + 1).toNat = at' + 1 := by omega
          by_cases hcc : lc = at' + 1
          focus
            subst hcc
            have hll : ls.length = at' + 1 := by omega
            have hn2 : n2 = [] := List.length_eq_zero_iff.1 (by omega)
            rw [hll]
          all_goals
            go_region_held3 (fun w' => Below w5.heap.size w5 w') (first | assumption | exact (Below.refl _ _).drew | exact Below.alloc (by assumption) (by simp) _) (first
              | (go_loud (refine step_append_own_at rfl (.tmp 36) (.tmp 39) 34 rfl w5.heap.size 39 i0 (.int .u64 0) 1 8 Try.underlying34 HI.out HZ.out HS.out HY.out rfl (by decide) _ 0 [] rfl HE0.out ⟨lg, 0, none⟩ at' _ n1 rfl hl1 (HC1.out _ (by assumption)) ho1 (by unfold maxLen; omega) (by omega) (by simp) ?_); intro v1 w6 hown6 hgrow6 _; have hb6 : Below w5.heap.size w5 w6 := Below.grown (show Below w5.heap.size w5 _ from by assumption) hgrow6 (by simp) (fun k hk => Nat.le_of_eq (Option.some.inj hk)))
              | (go_loud (refine step_append_own_at rfl (.tmp 40) (.tmp 44) 34 rfl w5.heap.size 39 i0 (.int .u64 0) 1 8 Try.underlying34 HI.out HZ.out HS.out HY.out rfl (by decide) _ (0 + at') _ rfl hown6 ⟨lg, at' + 1, none⟩ (ls.length - (at' + 1)) _ n2 rfl hl2 (HC2.out _ (by assumption)) ho2 (by unfold maxLen; omega) (by omega) hb6.size ?_); intro v2 w7 hown7 hgrow7 _; have hb7 : Below w5.heap.size w5 w7 := Below.grown hb6 hgrow7 hb6.size (fun k hk => (hown6.lt k hk).1))
              | (go_loud (refine step_append_own_at rfl (.tmp 40) (.tmp 44) 34 rfl w5.heap.size 39 i0 (.int .u64 0) 1 8 Try.underlying34 HI.out HZ.out HS.out HY.out rfl (by decide) _ (0 + at') _ rfl hown6 ⟨lg, 0, none⟩ 0 _ [] rfl rfl (fun _ _ h => by cases h) (fun _ h => by cases h) (by unfold maxLen; omega) (by omega) hb6.size ?_); intro v2 w7 hown7 hgrow7 _; have hb7 : Below w5.heap.size w5 w7 := Below.grown hb6 hgrow7 hb6.size (fun k hk => (hown6.lt k hk).1)))
          all_goals
            have HB7 := Lib.hid hb7
            have HO7 := Lib.hid hown7
            clear hown6 hgrow6 hgrow7 hb6 hb7 hown7
            go_wp2
            go_roundw
            case rel =>
              refine ⟨rs, os ++ [x], {
                left := ownsRow_base ?_ HB5.out.size
                out := by
                  have := ownsRow_below HO5.out HB7.out
                  rw [List.map_append, List.length_append]
                  exact this
                ne := fun k hk h => by
                  have h1 := HG5.out k h
                  have h2 := (HO7.out.lt k hk).1
                  omega
                sorted := HOS.out
                cross := fun a ha b hb => by
                  rcases List.mem_append.1 ha with h | h
                  · exact Int.le_trans (HCR.out a h) (HMR.out b hb).1
                  · obtain rfl := List.mem_singleton.1 h
                    exact (HMR.out b hb).1
                perm := HPM.out
                old := HB5.out.trans (HB7.out.mono HB5.out.size) }⟩
              have h7 := HO7.out
              have ha := HAP.out
              have hr := HRL.out
              first
                | (rw [ha, show 0 + at' + (ls.length - (at' + 1)) = rs.length by omega] at h7; exact h7)
                | (rw [hn2] at ha; rw [ha, show 0 + at' + 0 = rs.length by omega] at h7; exact h7)
            case measure =>
              obtain ⟨a2, c2, hv2⟩ := owns_slice HO7.out
              rw [hv2]
              simp [lenV]
              omega
    · have hls : ls = [] := List.length_eq_zero_iff.1 (by omega)
      have d0 : decide ((0 : Int) < (ls.length : Int)) = false := decide_eq_false (by omega)
      go_wp2
      go_ret
      refine ⟨_, os, rfl, ⟨HW.out.sorted, by have := HW.out.perm; rwa [hls, List.append_nil] at this⟩, HW.out.out, HW.out.old⟩
end Go.Proofs.Ytngpaibppdehdaa
namespace Go.Sg
open Go Go.RowKit Go.Proofs.Ytngpaibppdehdaa
/-- the first words of the first cells -/
def wd0 (M : Mm) (k : Nat) : List Int := (List.range k).map fun (i : Nat) => (M.read 0 (i : Int)).getD 0 0
theorem wd0_len (M : Mm) (k : Nat) : (wd0 M k).length = k := by simp [wd0]
theorem wd0_succ (M : Mm) (k : Nat) : wd0 M (k + 1) = wd0 M k ++ [(M.read 0 (k : Int)).getD 0 0] := by simp [wd0, List.range_succ]
theorem wd0_get {M : Mm} {k i : Nat} (h : i < k) : (wd0 M k)[i]? = some ((M.read 0 (i : Int)).getD 0 0) := by
  simp [wd0, h]
theorem wd0_of {M : Mm} {a : List (List Int)} {n : Nat} (ha : a.length = n) (hr : ∀ i : Nat, i < n → a[i]? = some (M.read 0 (i : Int))) : wd0 M n = a.map (fun c => c.getD 0 0) := by
  apply List.ext_getElem?
  intro i
  rcases Nat.lt_or_ge i n with h | h
  · rw [wd0_get h, List.getElem?_map, hr i h]
    rfl
  · rw [List.getElem?_eq_none (by rw [wd0_len]; exact h), List.getElem?_eq_none (by rw [List.length_map]; omega)]
theorem orders_plain {zs : List Int} {t : Nat} (hw : ∀ x ∈ zs, Word x) (ht : t ≤ 7) {M0 M1 : Mm} {es : List Ev} (h0 : laidM 1 130 zs = M0) (hok : M0.ok) (hes : es.length ≤ 130)
    (h1 : runM (M0.noted es) 0 ((2 ^ t : Nat) : Int) ((0 : Nat) : Int) = M1) :
    runOk (M0.noted es) 0 ((2 ^ t : Nat) : Int) ((0 : Nat) : Int) = true ∧ (M0.noted es).evs.length ≤ 1000 ∧ M1.evs.length ≤ 200000 ∧ M1.ok ∧ M1.size 0 = 130 ∧ (∀ i : Nat, i < 130 → CellGood (M1.read 0 (i : Int))) ∧
      (∀ ys, SortOf (wd0 M0 (2 ^ t)) ys → ∀ i : Nat, i < 2 ^ t → ys[i]? = some ((M1.read 0 (i : Int)).getD 0 0)) ∧
      (∀ i : Nat, 2 ^ t ≤ i → i < 130 → i < zs.length → M1.read 0 (i : Int) = cellL (zs.getD i 0)) := by
  have HL := laid_f (r := 1) (c := 130) zs (by decide)
  have hs0 : M0.size 0 = 130 := by rw [← h0]; exact HL.size 0
  have hsn : (M0.noted es).size 0 = 130 := hs0
  have hp : 2 ^ t ≤ 128 := Nat.le_trans (Nat.pow_le_pow_right (by omega) ht) (by decide)
  have hs1 : M1.size 0 = 130 := by rw [← h1, runM_size]; exact hs0
  have e0 : (M0.noted es).evs.length ≤ 1000 := by
    rw [Mm.noted_evs, List.length_append, ← h0]
    have := HL.evs.2
    omega
  have e1 := runM_evs_le (M0.noted es) 0 ((2 ^ t : Nat) : Int) ((0 : Nat) : Int)
  rw [h1] at e1
  have ok1 : M1.ok := by rw [← h1]; exact runM_ok (Mm.noted_ok hok es) _ _ _
  obtain ⟨a, b, c, k1, k2, k3, k4, k5⟩ := runM_sorted (M := M0.noted es) (t := t) (kn := 0) (by omega) (by decide) (by omega)
  rw [h1] at k3
  have k1' : M0.cells 0 = a ++ b := k1
  have hcl : c.length = 2 ^ t := by rw [k4.length_eq, k2]
  have hr : ∀ i : Nat, i < 2 ^ t → c[i]? = some (M1.read 0 (i : Int)) := fun i hi => by
    rw [← Mm.read_cells' (Int.le_refl 0) (show i < M1.size 0 by omega), k3, List.getElem?_append_left (by omega)]
  have ha : ∀ i : Nat, i < 2 ^ t → a[i]? = some (M0.read 0 (i : Int)) := fun i hi => by
    rw [← Mm.read_cells' (Int.le_refl 0) (show i < M0.size 0 by omega), k1', List.getElem?_append_left (by omega)]
  have hg0 : ∀ x ∈ M0.cells 0, CellGood x := by rw [← h0]; exact cells_good (by decide) hw
  refine ⟨runOk_fine (by omega) (by decide) (by omega), e0, by omega, ok1, hs1, fun i hi => ?_, fun ys hys i hi => ?_, fun i h2 h3 h4 => ?_⟩
  · have hm : M1.read 0 (i : Int) ∈ M1.cells 0 := read_mem (by omega)
    rw [k3] at hm
    refine hg0 _ ?_
    rw [k1']
    rcases List.mem_append.1 hm with hm | hm
    · exact List.mem_append_left _ (k4.mem_iff.1 hm)
    · exact List.mem_append_right _ hm
  · have hs : SortOf (wd0 M0 (2 ^ t)) (c.map fun x => x.getD 0 0) := by
      refine ⟨List.pairwise_iff_getElem.2 fun p q hp hq hpq => ?_, ?_⟩
      · rw [List.length_map] at hp hq
        simp only [List.getElem_map]
        have hle := List.pairwise_iff_getElem.1 k5 p q hp hq hpq
        have e1 := hr p (by omega)
        have e2 := hr q (by omega)
        rw [List.getElem?_eq_getElem hp] at e1
        rw [List.getElem?_eq_getElem hq] at e2
        rw [Option.some.inj e1, Option.some.inj e2] at hle ⊢
        obtain ⟨a0, a1⟩ := Mm.getD_word (Mm.read_ok ok1 0 (p : Int)).2 0
        obtain ⟨b0, b1⟩ := Mm.getD_word (Mm.read_ok ok1 0 (q : Int)).2 0
        unfold kf at hle
        omega
      · rw [wd0_of k2 ha]
        exact k4.map _
    rw [hys.uniq hs, List.getElem?_map, hr i hi]
    rfl
  · have e1 := Mm.read_cells' (M := M1) (Int.le_refl 0) (show i < M1.size 0 by omega)
    have e2 := Mm.read_cells' (M := M0) (Int.le_refl 0) (show i < M0.size 0 by omega)
    rw [k3, List.getElem?_append_right (by omega), hcl] at e1
    rw [k1', List.getElem?_append_right (by omega), k2] at e2
    rw [e1] at e2
    rw [Option.some.inj e2, ← h0, HL.read, if_pos ⟨rfl, h3, h4⟩]
end Go.Sg
