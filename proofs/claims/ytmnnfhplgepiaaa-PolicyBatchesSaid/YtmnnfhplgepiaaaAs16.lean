/-
  The walks of shellgamelaw16.as and pick.
-/
import Derived.Test.YtmnnfhplgepiaaaItem
import Derived.Test.YtmnnfhplgepiaaaPolD
import Derived.Test.YtmnnfhplgepiaaaMFr
namespace Go.Sg
open Go Go.RowKit
def pickI (c n : Int) : Int := (if c < 0 then -(c + 1) else c) % n
theorem pickI_bd {c n : Int} (h : 0 < n) : 0 ≤ pickI c n ∧ pickI c n < n := ⟨Int.emod_nonneg _ (by omega), Int.emod_lt_of_pos _ h⟩
theorem itV_at {w : World} {v : Value} {l : List It} (h : SlK itV w v l) : ∃ a cap, v = .slice a l.length cap ∧ l.length ≤ cap ∧ cap ≤ maxLen ∧ ∀ k (hk : k < l.length), ∃ b off, a = some ⟨b, off, none⟩ ∧ b < w.heap.size ∧ w.cell? ⟨b, off + k * 3, none⟩ = some (.int .i64 l[k].1) ∧ w.cell? ⟨b, off + k * 3 + 1, none⟩ = some (.int .u64 l[k].2.1) ∧ w.cell? ⟨b, off + k * 3 + 2, none⟩ = some (.bool l[k].2.2) := by
  obtain ⟨a, cap, rfl, h1, h2, h3⟩ := h
  refine ⟨a, cap, rfl, h1, h2, fun k hk => ?_⟩
  obtain ⟨b, off, rfl, hlt, hr⟩ := h3 (fun e => by rw [e] at hk; simp at hk)
  have hr1 := range_flat itV_k hr hk
  exact ⟨b, off, rfl, hlt, hr1 0 _ rfl, hr1 1 _ rfl, hr1 2 _ rfl⟩
theorem flatV_snoc3 (l : List It) (k : Nat) (h : k < l.length) : flatV itV (l.take (k + 1)) = flatV itV (l.take k) ++ [.int .i64 l[k].1, .int .u64 l[k].2.1, .bool l[k].2.2] := by
  rw [List.take_succ_eq_append_getElem h, flatV_snoc]; rfl
theorem cells_lit (w : World) (us : List Value) (e : TypeId) : ∀ (j : Nat) u, us[j]? = some u → (w.alloc (.cells us.toArray e)).cell? ((⟨w.heap.size, 0, none⟩ : Addr).add j) = some u := fun j u hu => by
  rw [addr_add, Nat.zero_add]
  exact ((Blk.new w us.toArray e).cell j).trans (by simpa using hu)
section
variable {P : Program}
/-- append to a slice of one's own, as one step of a region that draws. -/
theorem step_append_own_at {ops : Array Oper} {o : Oper} {a : Act} {w : World} {K : Act → World → Prop} {Q : Exit → Act → World → Prop} {E : Prop} (hgd : o.guard = none) (s x : Operand) (t : TypeId)
    (ho : o.op = .call { callee := .builtin .append, args := #[s, x], argTypes := #[t, t] })
    (base : Nat) (e : TypeId) (i : TypeInfo) (z : Value) (size bytes : Nat) (ht : P.underlying t = some (.slice e)) (hi : P.info? e = some i) (hz : i.zero = some z)
    (hsize : i.size = size) (hby : i.bytes = bytes) (hzs : z.cells.size = size) (hsz : 0 < size)
    (v : Value) (n : Nat) (xs : List Value) (hs : a.eval s = v) (hown : w.ownsRow base e size v n xs)
    (ad : Addr) (m c : Nat) (news : List Value) (hx : a.eval x = .slice (some ad) m c) (hl : news.length = m * size) (hnews : ∀ j u, news[j]? = some u → w.cell? (ad.add j) = some u) (h1 : ∀ u ∈ news, u.oneCell' = true)
    (h63 : n + m ≤ maxLen) (hbytes : (n + m) * bytes ≤ 140737488355328) (hbase : base ≤ w.heap.size)
    (hK : ∀ v' w', w'.ownsRow base e size v' (n + m) (xs ++ news) → w.grownBy w' v.ownBlock → (v'.ownBlock = v.ownBlock ∨ v'.ownBlock = some w.heap.size) → K (a.put o.dst v') w') :
    if Region.wanted o (yielded ops a.tmps) = true then Oper.wp P o a w K Q else E := by
  have hw : Region.wanted o (yielded ops a.tmps) = true := by simp [Region.wanted, hgd]
  rw [if_pos hw]
  obtain ⟨v', w', hr, h2, h3, _, h5⟩ := run_append_own_at (P := P) w base t o.type e i z size bytes ht hi hz hsize hby hzs hsz v n xs hown ad m c news hl hnews h1 h63 hbytes hbase
  unfold Oper.wp execOp
  simp only [ho, resolve, invoke, builtin, Sem.run_bind, Sem.run_pure, Result.andThen_ok, List.map_toArray, List.map_cons, List.map_nil, hs, hx, hr]
  exact hK v' w' h2 h3 h5
end
end Go.Sg
namespace Go.Proofs.Ytmnnfhplgepiaaa
open Go Go.RowKit Go.Sg
theorem pick_any (c n : Int) (hc : Num c) (hn : 0 < n) (hn2 : n < 9223372036854775808) (w : World) : Calls Try.prog 11 #[.int .i64 c, .int .i64 n] w fun e w' => e = .returned (.int .i64 (pickI c n)) ∧ w' = w := by
  have h1 : (n == 0) = false := by simp; omega
  obtain ⟨hc1, hc2⟩ := hc
  by_cases h : c < 0
  · have hw : IntKind.i64.wrap (c + 1) = c + 1 := by rw [IntKind.wrap_i64]; omega
    have hw2 : IntKind.i64.wrap (-(c + 1)) = -(c + 1) := by rw [IntKind.wrap_i64]; omega
    have HP : Hid ((-(c + 1)).tmod n = pickI c n) := Lib.hid (by unfold pickI; rw [if_pos h, Int.tmod_eq_emod_of_nonneg (by omega)])
    have hb : Hid (0 ≤ pickI c n ∧ pickI c n < n) := Lib.hid (pickI_bd hn)
    go_enter Try.func11, Try.ntmps11
    go_wp2
    go_ret
    exact ⟨ret_i64' (by rw [← HP.out, Int.neg_tmod]), rfl⟩
  · have HP : Hid (c.tmod n = pickI c n) := Lib.hid (by unfold pickI; rw [if_neg h, Int.tmod_eq_emod_of_nonneg (by omega)])
    go_enter Try.func11, Try.ntmps11
    go_wp2
    go_ret
    exact ⟨ret_i64' (by unfold pickI; rw [if_neg (by omega)]), rfl⟩
theorem info_ritem : (Try.prog.info? 41).map (fun i => (i.zero, i.size, i.bytes)) = some (some (.agg #[.int .i64 0, .int .u64 0, .bool false]), 3, 24) := by kernel_rfl
set_option maxRecDepth 100000 in
theorem as_any (l : List It) (hl : l.length ≤ 1099511627776) (v : Value) (w : World) (hv : SlK itV w v l) :
    Calls Try.prog 13 #[v] w fun e w' => ∃ v', e = .returned v' ∧ w'.ownsRow w.heap.size 41 3 v' l.length (flatV itV l) ∧ Below w.heap.size w w' := by
  obtain ⟨a, cap, rfl, h1, h2, h3⟩ := itV_at hv
  obtain ⟨i0, hi0, hz0, hz1, hz2⟩ := info_parts info_ritem
  have HI := Lib.hid hi0
  have HZ := Lib.hid hz0
  have HS := Lib.hid hz1
  have HY := Lib.hid hz2
  have H3 := Lib.hid h3
  unfold maxLen at h2
  clear hi0 hz0 hz1 hz2 h3 hv
  go_enter Try.func13, Try.ntmps13
  go_wp2_with fail
  go_loopw [3, 4] (fun sv i wr => ∃ k : Nat, k ≤ l.length ∧ i = .int .i64 k ∧ Hid (wr.ownsRow w.heap.size 41 3 sv k (flatV itV (l.take k))) ∧ Hid (Below w.heap.size w wr)) (fun _ i _ => l.length - (intOf i).toNat)
  case atStart => exact ⟨0, by omega, rfl, Lib.hid (World.ownsRow_nil _ _ _ _), Lib.hid (Below.refl _ _)⟩
  case round =>
    obtain ⟨k, hk, rfl, HO, HB⟩ := hrel
    by_cases hlt : k < l.length
    · obtain ⟨b, off, rfl, hblt, e0, e1, e2⟩ := H3.out k hlt
      have HTK := Lib.hid (flatV_snoc3 l k hlt)
      have HF : Hid ((flatV itV (l.take k)).length = k * 3) := Lib.hid (by rw [flatV_len itV_k, List.length_take]; congr 1; omega)
      generalize l[k] = x at *
      obtain ⟨xc, xr, xe⟩ := x
      have HC : Hid (∀ w', Below w.heap.size w w' → w'.cell? ⟨b, off + k * 3, none⟩ = some (.int .i64 xc) ∧ w'.cell? ⟨b, off + k * 3 + 1, none⟩ = some (.int .u64 xr) ∧ w'.cell? ⟨b, off + k * 3 + 2, none⟩ = some (.bool xe)) := Lib.hid fun w' hb => ⟨(hb.cell (p := ⟨b, off + k * 3, none⟩) hblt).trans e0, (hb.cell (p := ⟨b, off + k * 3 + 1, none⟩) hblt).trans e1, (hb.cell (p := ⟨b, off + k * 3 + 2, none⟩) hblt).trans e2⟩
      have i0' : (0 : Int) ≤ (k : Int) := by omega
      have i1 : (k : Int) < (l.length : Int) := by omega
      have hb0 := HB.out.drew
      have hc0 := HC.out _ hb0
      have HO0 := Lib.hid (ownsRow_below HO.out ((Below.refl _ _).drew))
      clear e0 e1 e2 hblt
      go_upto_region 5 with fail
      go_region_held3 (fun w' => Below w.heap.size w w' ∧ w'.cell? ⟨b, off + k * 3, none⟩ = some (.int .i64 xc) ∧ w'.cell? ⟨b, off + k * 3 + 1, none⟩ = some (.int .u64 xr) ∧ w'.cell? ⟨b, off + k * 3 + 2, none⟩ = some (.bool xe)) (first | exact ⟨by assumption, HC.out _ (by assumption)⟩ | exact ⟨hb0.alloc hb0.size _, HC.out _ (hb0.alloc hb0.size _)⟩) (first
        | (go_loud (refine step_append_own_at rfl (.tmp 11) (.tmp 28) 37 rfl w.heap.size 41 i0 (.agg #[.int .i64 0, .int .u64 0, .bool false]) 3 24 Try.underlying37 HI.out HZ.out HS.out HY.out rfl (by decide) _ k (flatV itV (l.take k)) rfl (HO0.out.alloc _) ⟨wr.drew.heap.size, 0, none⟩ 1 1 [.int .i64 xc, .int .u64 xr, .bool xe] rfl rfl (cells_lit _ _ _) (by simp [Value.oneCell']) (by unfold maxLen; omega) (by omega) (by have := HB.out.size; simp; omega) ?_); intro v' w4 hown hgrow _; have hb4 : Below w.heap.size w w4 := (hb0.alloc hb0.size _).grown hgrow (by have := HB.out.size; simp; omega) (fun j hj => (HO.out.lt j hj).1)))
      all_goals
        have HO4 := Lib.hid hown
        have HB4 := Lib.hid hb4
        clear hown hgrow hb4 hc0 hb0
        go_wp2
        go_roundw
        case rel => exact ⟨k + 1, by omega, by go_num, Lib.hid (by rw [HTK.out]; exact HO4.out), HB4⟩
        case measure => simp [intOf]; omega
    · obtain rfl : k = l.length := by omega
      have HL : Hid (l.take l.length = l) := Lib.hid List.take_length
      rw [HL.out] at HO
      go_wp2
      go_ret
      exact ⟨_, rfl, HO.out, HB.out⟩
end Go.Proofs.Ytmnnfhplgepiaaa
