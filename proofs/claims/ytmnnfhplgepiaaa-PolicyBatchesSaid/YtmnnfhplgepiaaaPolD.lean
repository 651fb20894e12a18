/-
  The walk of slices.Clone on policy's items.
-/
import Derived.Test.YtmnnfhplgepiaaaPolB
import Derived.Maps.AppendAt
import Derived.Lib.SliceRun
namespace Go.Sg
open Go Go.RowKit
theorem own_blk {w : World} {base : Nat} {e : TypeId} {v : Value} {n : Nat} {us : List Value} (hn : 0 < n) (h : w.ownsRow base e 3 v n us) :
    ∃ g cap tl, v = .slice (some ⟨g, 0, none⟩) n cap ∧ base ≤ g ∧ n ≤ cap ∧ cap ≤ maxLen ∧ Blk w g (us ++ tl).toArray e := by
  rcases h.2 with ⟨_, h0⟩ | ⟨g, cap, cur, rfl, hb, hg, hn, hm, hsz, ht⟩
  · omega
  · refine ⟨g, cap, cur.toList.drop (n * 3), rfl, hb, hn, hm, ?_⟩
    rw [← ht, List.take_append_drop]
    exact hg
end Go.Sg
namespace Go.Proofs.Ytmnnfhplgepiaaa
open Go Go.RowKit Go.Sg
theorem info_item : (Try.prog.info? 28).map (fun i => (i.zero, i.size, i.bytes)) = some (some (.agg #[.int .i64 0, .int .u64 0, .bool false]), 3, 24) := by kernel_rfl
set_option maxRecDepth 100000 in
theorem cloneI_any (l : List It) (hne : l ≠ []) (hl : l.length ≤ 1099511627776) (v : Value) (w : World) (hv : SlK itV w v l) :
    Calls Try.prog 21 #[v] w fun e w' => ∃ g cap tl, e = .returned (.slice (some ⟨g, 0, none⟩) l.length cap) ∧ l.length ≤ cap ∧ cap ≤ maxLen ∧ w.heap.size ≤ g ∧ Blk w' g (flatV itV l ++ tl).toArray 28 ∧ Below w.heap.size w w' := by
  obtain ⟨a, cap, rfl, h1, h2, h3⟩ := hv
  obtain ⟨b, off, rfl, hlt, hr⟩ := h3 hne
  obtain ⟨i0, hi0, hz0, hz1, hz2⟩ := info_parts info_item
  have HI := Lib.hid hi0
  have HZ := Lib.hid hz0
  have HS := Lib.hid hz1
  have HY := Lib.hid hz2
  have HR := Lib.hid hr
  have hll : (flatV itV l).length = l.length * 3 := flatV_len itV_k l
  have hone := flatV_one itV_k l
  have hpos := List.length_pos_iff.2 hne
  clear hi0 hz0 hz1 hz2 hr
  go_enter Try.func21, Try.ntmps21
  go_wp2_with fail
  rw [Go.Lib.run_eql_slice_nil (h := Try.underlying25)]
  simp only [Result.andThen_ok, Oper.upon_value, Option.isNone_some]
  go_wp2_with (first
    | (at_builtin; go_loud (refine wpList_append_own_at _ rfl (.tmp 5) (.tmp 6) 25 rfl w.heap.size 28 i0 (.agg #[.int .i64 0, .int .u64 0, .bool false]) 3 24 Try.underlying25 HI.out HZ.out HS.out HY.out rfl (by decide) _ 0 [] rfl ?own ⟨b, off, none⟩ l.length cap (flatV itV l) rfl hll ?c1 hone (by unfold maxLen; omega) (by omega) (by simp) ?_))
    | fail)
  case own => exact ⟨rfl, .inr ⟨w.heap.size, 0, #[], rfl, Nat.le_refl _, heap_alloc_new w _, Nat.le_refl _, by simp, rfl, rfl⟩⟩
  case c1 =>
    intro j u hu
    rw [addr_add]
    exact (World.rangeAt_alloc HR.out _) j u hu
  intro v' w2 hown hgrow _ hat
  have hown : w2.ownsRow w.heap.size 28 3 v' l.length (flatV itV l) := by simpa using hown
  have HB : Hid (Below w.heap.size w w2) := Lib.hid (((Below.refl _ _).alloc (Nat.le_refl _) _).grown hgrow (by simp) (by intro k hk; simp [Value.ownBlock] at hk; omega))
  obtain ⟨g, cp, tl, rfl, hb, hc1, hc2, hbl⟩ := own_blk hpos hown
  have HBL := Lib.hid hbl
  clear hown hgrow hat hbl
  go_wp2
  go_ret
  exact ⟨g, cp, tl, rfl, hc1, hc2, hb, HBL.out, HB.out⟩
end Go.Proofs.Ytmnnfhplgepiaaa
