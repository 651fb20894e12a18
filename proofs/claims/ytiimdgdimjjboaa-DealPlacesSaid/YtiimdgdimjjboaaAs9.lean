/-
  The walks of shellgamelaw9.filled, as, and pick.
-/
import Derived.Test.YtiimdgdimjjboaaDealW
import Derived.Test.YtiimdgdimjjboaaMFr
namespace Go.Sg
open Go Go.RowKit
def pickD (c n : Int) : Int := (if c < 0 then -(c + 1) else c) % n
theorem ret_i64' {a b : Int} (h : a = b) : Ending.returned (.int .i64 a) = .returned (.int .i64 b) := by rw [h]
theorem pickD_bd {c n : Int} (h : 0 < n) : 0 ≤ pickD c n ∧ pickD c n < n := ⟨Int.emod_nonneg _ (by omega), Int.emod_lt_of_pos _ h⟩
def mkD (f : Nat → Di) (n : Nat) : List Di := (List.range n).map f
theorem mkD_len (f : Nat → Di) (n : Nat) : (mkD f n).length = n := by simp [mkD]
theorem mkD_get (f : Nat → Di) (n : Nat) (i : Nat) (h : i < (mkD f n).length) : (mkD f n)[i] = f i := by simp [mkD]
theorem mkD_succ (f : Nat → Di) (n : Nat) : mkD f (n + 1) = mkD f n ++ [f n] := by simp [mkD, List.range_succ]
theorem flatV_mkD (f : Nat → Di) (n : Nat) : flatV diV (mkD f (n + 1)) = flatV diV (mkD f n) ++ diV (f n) := by rw [mkD_succ, flatV_snoc]
def fillF (l : List Di) (i : Nat) : Di := l.getD i (0, -1)
theorem diV_at {w : World} {v : Value} {l : List Di} (h : SlK diV w v l) : ∃ a cap, v = .slice a l.length cap ∧ l.length ≤ cap ∧ cap ≤ maxLen ∧ ∀ k (hk : k < l.length), ∃ b off, a = some ⟨b, off, none⟩ ∧ b < w.heap.size ∧ w.cell? ⟨b, off + k * 2, none⟩ = some (.int .u64 l[k].1) ∧ w.cell? ⟨b, off + k * 2 + 1, none⟩ = some (.int .i64 l[k].2) := by
  obtain ⟨a, cap, rfl, h1, h2, h3⟩ := h
  refine ⟨a, cap, rfl, h1, h2, fun k hk => ?_⟩
  obtain ⟨b, off, rfl, hlt, hr⟩ := h3 (fun e => by rw [e] at hk; simp at hk)
  have hr1 := range_flat diV_k hr hk
  exact ⟨b, off, rfl, hlt, hr1 0 _ rfl, hr1 1 _ rfl⟩
theorem flatV_snoc2 (l : List Di) (k : Nat) (h : k < l.length) : flatV diV (l.take (k + 1)) = flatV diV (l.take k) ++ [.int .u64 l[k].1, .int .i64 l[k].2] := by
  rw [List.take_succ_eq_append_getElem h, flatV_snoc]; rfl
section
variable {P : Program}
/-- append to a slice of one's own, as one step of a region that draws. -/
theorem step_append_own_at {ops : Array Oper} {o : Oper} {a : Act} {w : World} {K : Act → World → Prop} {Q : Exit → Act → World → Prop} {E : Prop} (hgd : o.guard = none) (s x : Operand) (t : TypeId)
    (ho : o.op = .call { callee := .builtin .append, args := #[s, x], argTypes := #[t, t] })
    (base : Nat) (e : TypeId) (i : TypeInfo) (z : Value) (size bytes : Nat) (ht : P.underlying t = some (.slice e)) (hi : P.info? e = some i) (hz : i.zero = some z)
    (hsize : i.size = size) (hby : i.bytes = bytes) (hzs : z.cells.size = size) (hsz : 0 < size)
    (v : Value) (n : Nat) (xs : List Value) (hs : a.eval s = v) (hown : w.ownsRow base e size v n xs)
    (ad : Addr) (m c : Nat) (news : List Value) (hx : a.eval x = .slice (some ad) m c) (hl : news.length = m * size) (hnews : ∀ j u, news[j]? = some u → w.cell? (ad.add j) = some u) (h1 : ∀ u ∈ news, u.oneCell' = true)
    (h63 : n + m ≤ maxLen) (hbytes : (n + m) * bytes ≤ 140737488355328) (hbase : base ≤ w.heap.size)
    (hK : ∀ v' w', w'.ownsRow base e size v' (n + m) (xs ++ news) → w.grownBy w' v.ownBlock → (v'.ownBlock = v.ownBlock ∨ v'.ownBlock = some w.heap.size) → K (a.put o.dst v') w') :
    if Region.wanted o (yielded ops a.tmps) = true then Oper.wp P o a w K Q else E := by
  have hw : Region.wanted o (yielded ops a.tmps) = true := by simp [Region.wanted, hgd]
  rw [if_pos hw]
  obtain ⟨v', w', hr, h2, h3, _, h5⟩ := run_append_own_at (P := P) w base t o.type e i z size bytes ht hi hz hsize hby hzs hsz v n xs hown ad m c news hl hnews h1 h63 hbytes hbase
  unfold Oper.wp execOp
  simp only [ho, resolve, invoke, builtin, Sem.run_bind, Sem.run_pure, Result.andThen_ok, List.map_toArray, List.map_cons, List.map_nil, hs, hx, hr]
  exact hK v' w' h2 h3 h5
end
end Go.Sg
namespace Go.Proofs.Ytiimdgdimjjboaa
open Go Go.RowKit Go.Sg
theorem pickD_any (c n : Int) (hc : Num c) (hn : 0 < n) (hn2 : n < 9223372036854775808) (w : World) : Calls Try.prog 27 #[.int .i64 c, .int .i64 n] w fun e w' => e = .returned (.int .i64 (pickD c n)) ∧ w' = w := by
  have h1 : (n == 0) = false := by simp; omega
  obtain ⟨hc1, hc2⟩ := hc
  by_cases h : c < 0
  · have hw : IntKind.i64.wrap (c + 1) = c + 1 := by rw [IntKind.wrap_i64]; omega
    have hw2 : IntKind.i64.wrap (-(c + 1)) = -(c + 1) := by rw [IntKind.wrap_i64]; omega
    have HP : Hid ((-(c + 1)).tmod n = pickD c n) := Lib.hid (by unfold pickD; rw [if_pos h, Int.tmod_eq_emod_of_nonneg (by omega)])
    have hb : Hid (0 ≤ pickD c n ∧ pickD c n < n) := Lib.hid (pickD_bd hn)
    go_enter Try.func27, Try.ntmps27
    go_wp2
    go_ret
    exact ⟨ret_i64' (by rw [← HP.out, Int.neg_tmod]), rfl⟩
  · have HP : Hid (c.tmod n = pickD c n) := Lib.hid (by unfold pickD; rw [if_neg h, Int.tmod_eq_emod_of_nonneg (by omega)])
    go_enter Try.func27, Try.ntmps27
    go_wp2
    go_ret
    exact ⟨ret_i64' (by unfold pickD; rw [if_neg (by omega)]), rfl⟩
theorem info_ditem9 : (Try.prog.info? 44).map (fun i => (i.zero, i.size, i.bytes)) = some (some (.agg #[.int .u64 0, .int .i64 0]), 2, 16) := by kernel_rfl
theorem info_ritem9 : (Try.prog.info? 95).map (fun i => (i.zero, i.size, i.bytes)) = some (some (.agg #[.int .u64 0, .int .i64 0]), 2, 16) := by kernel_rfl
set_option maxRecDepth 100000 in
theorem filled_any (l : List Di) (n : Nat) (hn : n ≤ 1099511627776) (v : Value) (w : World) (hv : SlK diV w v l) :
    Calls Try.prog 17 #[v, .int .i64 n] w fun e w' => ∃ v', e = .returned v' ∧ w'.ownsRow w.heap.size 44 2 v' n (flatV diV (mkD (fillF l) n)) ∧ Below w.heap.size w w' := by
  obtain ⟨a, cap, rfl, h1, h2, h3⟩ := diV_at hv
  obtain ⟨i0, hi0, hz0, hz1, hz2⟩ := info_parts info_ditem9
  have HI := Lib.hid hi0
  have HZ := Lib.hid hz0
  have HS := Lib.hid hz1
  have HY := Lib.hid hz2
  have H3 := Lib.hid h3
  unfold maxLen at h2
  clear hi0 hz0 hz1 hz2 h3 hv
  go_enter Try.func17, Try.ntmps17
  go_wp2_with fail
  go_loopw [5, 6] (fun sv i wr => ∃ k : Nat, k ≤ n ∧ i = .int .i64 k ∧ Hid (wr.ownsRow w.heap.size 44 2 sv k (flatV diV (mkD (fillF l) k))) ∧ Hid (Below w.heap.size w wr)) (fun _ i _ => n - (intOf i).toNat)
  case atStart => exact ⟨0, by omega, rfl, Lib.hid (World.ownsRow_nil _ _ _ _), Lib.hid (Below.refl _ _)⟩
  case round =>
    obtain ⟨k, hk, rfl, HO, HB⟩ := hrel
    by_cases hlt : k < n
    · have HE1 : Hid (flatV diV (mkD (fillF l) (k + 1)) = flatV diV (mkD (fillF l) k) ++ [.int .u64 (fillF l k).1, .int .i64 (fillF l k).2]) := Lib.hid (flatV_mkD _ _)
      have HF2 : Hid ((flatV diV (mkD (fillF l) k)).length = k * 2) := Lib.hid (by rw [flatV_len diV_k, mkD_len])
      obtain ⟨x0, x1, hx⟩ : ∃ x0 x1, fillF l k = (x0, x1) := ⟨_, _, rfl⟩
      have HC : Hid (∀ hk : k < l.length, ∃ b off, a = some ⟨b, off, none⟩ ∧ ∀ w', Below w.heap.size w w' → w'.cell? ⟨b, off + k * 2, none⟩ = some (.int .u64 x0) ∧ w'.cell? ⟨b, off + k * 2 + 1, none⟩ = some (.int .i64 x1)) := Lib.hid fun hk => by
        obtain ⟨b, off, h4, h5, h6, h7⟩ := H3.out k hk
        have : l[k] = (x0, x1) := by rw [← hx]; unfold fillF; simp [List.getD_eq_getElem?_getD, hk]
        rw [this] at h6 h7
        exact ⟨b, off, h4, fun w' hb => ⟨(hb.cell (p := ⟨b, off + k * 2, none⟩) h5).trans h6, (hb.cell (p := ⟨b, off + k * 2 + 1, none⟩) h5).trans h7⟩⟩
      have HX : Hid (¬ k < l.length → x0 = 0 ∧ x1 = -1) := Lib.hid fun h => by
        have : fillF l k = (0, -1) := by unfold fillF; rw [List.getD_eq_getElem?_getD, List.getElem?_eq_none (by omega)]; rfl
        rw [this] at hx
        simp only [Prod.mk.injEq] at hx
        exact ⟨hx.1.symm, hx.2.symm⟩
      rw [hx] at HE1
      clear hx
      go_upto_if 17 with fail
      go_cut [7] (fun o wx => ∃ G, o = .pointer (some ⟨G, 0, none⟩) ∧ w.heap.size ≤ G ∧ Hid (Blk wx G #[.int .u64 x0, .int .i64 x1] 44) ∧ Hid (wx.ownsRow w.heap.size 44 2 u5 k (flatV diV (mkD (fillF l) k))) ∧ Hid (Below w.heap.size w wx))
      case first =>
        have hba : Hid (Below w.heap.size w (wr.alloc (.cells #[.int .u64 0, .int .i64 (-1)] 44))) := Lib.hid (HB.out.alloc HB.out.size _)
        by_cases hkl : k < l.length
        · obtain ⟨b, off, rfl, hc⟩ := HC.out hkl
          obtain ⟨e0, e1⟩ := hc _ hba.out
          have i1 : (k : Int) < (l.length : Int) := by omega
          clear hc
          go_wp2
          go_meet
          exact ⟨wr.heap.size, rfl, HB.out.size, Lib.hid (Blk.new wr _ _), Lib.hid (HO.out.alloc _), Lib.hid (HB.out.alloc HB.out.size _)⟩
        · obtain ⟨rfl, rfl⟩ := HX.out hkl
          have i1 : ¬ (k : Int) < (l.length : Int) := by omega
          go_wp2
          go_meet
          exact ⟨wr.heap.size, rfl, HB.out.size, Lib.hid (Blk.new wr _ _), Lib.hid (HO.out.alloc _), hba⟩
      case rest =>
      obtain ⟨G, rfl, hGo, HG, HO2, HB2⟩ := hcut
      generalize wc = w3 at *
      have c0 := HG.out.cell 0
      have c1 := HG.out.cell 1
      simp only [List.getElem?_toArray, List.getElem?_cons_succ, List.getElem?_cons_zero] at c0 c1
      clear HO HB HC HX
      go_wp2_with (first
        | (at_builtin; go_loud (refine wpList_append_own_at _ rfl (.tmp 22) (.tmp 24) 24 rfl w.heap.size 44 i0 (.agg #[.int .u64 0, .int .i64 0]) 2 16 Try.underlying24 HI.out HZ.out HS.out HY.out rfl (by decide) _ k (flatV diV (mkD (fillF l) k)) rfl (HO2.out.alloc _) ⟨w3.heap.size, 0, none⟩ 1 1 [.int .u64 x0, .int .i64 x1] rfl rfl (cells_litD _ _ _) (by simp [Value.oneCell']) (by unfold maxLen; omega) (by omega) (by have := HB2.out.size; simp; omega) ?_))
        | fail)
      intro v1 w4 hown hgrow _ _
      have HO4 : Hid (w4.ownsRow w.heap.size 44 2 v1 (k + 1) (flatV diV (mkD (fillF l) (k + 1)))) := Lib.hid (by rw [HE1.out]; exact hown)
      have HB4 : Hid (Below w.heap.size w w4) := Lib.hid ((HB2.out.alloc HB2.out.size _).grown hgrow (by have := HB2.out.size; simp; omega) (fun j hj => (HO2.out.lt j hj).1))
      clear hown hgrow
      go_wp2
      go_roundw
      case rel => exact ⟨k + 1, by omega, by go_num, HO4, HB4⟩
      case measure => simp [intOf]; omega
    · obtain rfl : k = n := by omega
      go_wp2
      go_ret
      exact ⟨_, rfl, HO.out, HB.out⟩
set_option maxRecDepth 100000 in
theorem as9_any (l : List Di) (hl : l.length ≤ 1099511627776) (v : Value) (w : World) (hv : SlK diV w v l) :
    Calls Try.prog 21 #[v] w fun e w' => ∃ v', e = .returned v' ∧ w'.ownsRow w.heap.size 95 2 v' l.length (flatV diV l) ∧ Below w.heap.size w w' := by
  obtain ⟨a, cap, rfl, h1, h2, h3⟩ := diV_at hv
  obtain ⟨i0, hi0, hz0, hz1, hz2⟩ := info_parts info_ritem9
  have HI := Lib.hid hi0
  have HZ := Lib.hid hz0
  have HS := Lib.hid hz1
  have HY := Lib.hid hz2
  have H3 := Lib.hid h3
  unfold maxLen at h2
  clear hi0 hz0 hz1 hz2 h3 hv
  go_enter Try.func21, Try.ntmps21
  go_wp2_with fail
  go_loopw [3, 4] (fun sv i wr => ∃ k : Nat, k ≤ l.length ∧ i = .int .i64 k ∧ Hid (wr.ownsRow w.heap.size 95 2 sv k (flatV diV (l.take k))) ∧ Hid (Below w.heap.size w wr)) (fun _ i _ => l.length - (intOf i).toNat)
  case atStart => exact ⟨0, by omega, rfl, Lib.hid (World.ownsRow_nil _ _ _ _), Lib.hid (Below.refl _ _)⟩
  case round =>
    obtain ⟨k, hk, rfl, HO, HB⟩ := hrel
    by_cases hlt : k < l.length
    · obtain ⟨b, off, rfl, hblt, e0, e1⟩ := H3.out k hlt
      have HTK := Lib.hid (flatV_snoc2 l k hlt)
      have HF : Hid ((flatV diV (l.take k)).length = k * 2) := Lib.hid (by rw [flatV_len diV_k, List.length_take]; congr 1; omega)
      generalize l[k] = x at *
      obtain ⟨xc, xr⟩ := x
      have HC : Hid (∀ w', Below w.heap.size w w' → w'.cell? ⟨b, off + k * 2, none⟩ = some (.int .u64 xc) ∧ w'.cell? ⟨b, off + k * 2 + 1, none⟩ = some (.int .i64 xr)) := Lib.hid fun w' hb => ⟨(hb.cell (p := ⟨b, off + k * 2, none⟩) hblt).trans e0, (hb.cell (p := ⟨b, off + k * 2 + 1, none⟩) hblt).trans e1⟩
      have i0' : (0 : Int) ≤ (k : Int) := by omega
      have i1 : (k : Int) < (l.length : Int) := by omega
      have hb0 := HB.out.drew
      have hc0 := HC.out _ hb0
      have HO0 := Lib.hid (ownsRow_below HO.out ((Below.refl _ _).drew))
      clear e0 e1 hblt
      go_upto_region 5 with fail
      go_region_held3 (fun w' => Below w.heap.size w w' ∧ w'.cell? ⟨b, off + k * 2, none⟩ = some (.int .u64 xc) ∧ w'.cell? ⟨b, off + k * 2 + 1, none⟩ = some (.int .i64 xr)) (first | exact ⟨by assumption, HC.out _ (by assumption)⟩ | exact ⟨hb0.alloc hb0.size _, HC.out _ (hb0.alloc hb0.size _)⟩) (first
        | (go_loud (refine step_append_own_at rfl (.tmp 11) (.tmp 23) 34 rfl w.heap.size 95 i0 (.agg #[.int .u64 0, .int .i64 0]) 2 16 Try.underlying34 HI.out HZ.out HS.out HY.out rfl (by decide) _ k (flatV diV (l.take k)) rfl (HO0.out.alloc _) ⟨wr.drew.heap.size, 0, none⟩ 1 1 [.int .u64 xc, .int .i64 xr] rfl rfl (cells_litD _ _ _) (by simp [Value.oneCell']) (by unfold maxLen; omega) (by omega) (by have := HB.out.size; simp; omega) ?_); intro v' w4 hown hgrow _; have hb4 : Below w.heap.size w w4 := (hb0.alloc hb0.size _).grown hgrow (by have := HB.out.size; simp; omega) (fun j hj => (HO.out.lt j hj).1)))
      all_goals
        have HO4 := Lib.hid hown
        have HB4 := Lib.hid hb4
        clear hown hgrow hb4 hc0 hb0
        go_wp2
        go_roundw
        case rel => exact ⟨k + 1, by omega, by go_num, Lib.hid (by rw [HTK.out]; exact HO4.out), HB4⟩
        case measure => simp [intOf]; omega
    · obtain rfl : k = l.length := by omega
      have HL : Hid (l.take l.length = l) := Lib.hid List.take_length
      rw [HL.out] at HO
      go_wp2
      go_ret
      exact ⟨_, rfl, HO.out, HB.out⟩
end Go.Proofs.Ytiimdgdimjjboaa
