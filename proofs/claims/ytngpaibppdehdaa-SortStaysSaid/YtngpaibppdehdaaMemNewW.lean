/-
  The walks of New, of both memories.
-/
import Derived.Test.YtngpaibppdehdaaMemNew
namespace Go.Proofs.Ytngpaibppdehdaa
open Go.RowKit Go.Sg

theorem wrong_any (n : Int) (w : World) : Calls Try.prog 80 #[.int .i64 n] w fun e w' => e = .returned (.bool (Mm.bad n)) ∧ w' = w := by
  have HV : Hid (Mm.bad n = (decide (n < 1) || decide (4096 < n))) := Lib.hid rfl
  generalize Mm.bad n = x at *
  by_cases h1 : n < 1
  · have b1 : decide (n < 1) = true := decide_eq_true h1
    rw [b1, Bool.true_or] at HV
    obtain rfl : x = true := HV.out
    clear HV
    go_enter Try.func80, Try.ntmps80
    go_wp2
    go_ret
    exact ⟨rfl, rfl⟩
  · have b1 : decide (n < 1) = false := decide_eq_false h1
    rw [b1, Bool.false_or] at HV
    obtain rfl : x = decide (4096 < n) := HV.out
    clear HV
    go_enter Try.func80, Try.ntmps80
    go_wp2
    all_goals
      go_ret
      exact ⟨congrArg (fun b => Ending.returned (Value.bool b)) (by simp [*]), rfl⟩

set_option maxRecDepth 100000 in
theorem indexWrong_any (v : Value) (zs : List Int) (w : World) (h : Sl1 w v (ints zs)) : Calls Try.prog 96 #[v, .func (.func 80) #[] #[]] w fun e w' => (∃ k : Int, e = .returned (.int .i64 k) ∧ decide (0 ≤ k) = zs.any Mm.bad) ∧ w' = w := by
  rcases h with ⟨e1, a1, cap1, rfl⟩ | ⟨n1, b1, off1, cap1, rfl, hl1, hm1, hlt1, hc1⟩
  · have ea : zs = [] := by simpa [ints] using e1
    subst ea
    clear e1
    go_enter Try.func96, Try.ntmps96
    go_wp2
    go_loop [8] (fun i => i = .int .i64 0) (fun _ => 0)
    case atStart => rfl
    case round =>
      subst hrel
      go_wp2
      go_ret
      exact ⟨⟨-1, rfl, by simp⟩, rfl⟩
  · have C1 : Hid (∀ i (h : i < zs.length), w.cell? ⟨b1, off1 + i, none⟩ = some (.int .i64 zs[i])) := Lib.hid fun i h => (hc1 i (by rw [ints_len]; exact h)).trans (by simp [ints])
    rw [ints_len] at hl1 ⊢
    have hmx : zs.length ≤ maxLen := by omega
    unfold maxLen at hmx
    clear n1 hc1 hl1 hm1 hlt1
    go_enter Try.func96, Try.ntmps96
    go_wp2
    go_loop [8] (fun i => ∃ k : Nat, k ≤ zs.length ∧ i = .int .i64 k ∧ Hid (∀ r (h : r < zs.length), r < k → Mm.bad zs[r] = false)) (fun i => zs.length - (intOf i).toNat)
    case atStart => exact ⟨0, by omega, rfl, Lib.hid fun r _ h => by omega⟩
    case round =>
      obtain ⟨k, hk, rfl, HE⟩ := hrel
      by_cases hlt : k < zs.length
      · have ck := C1.out k hlt
        have K := Lib.hid (wrong_any zs[k])
        cases hb : Mm.bad zs[k] with
        | true =>
          rw [hb] at K
          have HAny : Hid (zs.any Mm.bad = true) := Lib.hid (List.any_eq_true.2 ⟨_, List.getElem_mem hlt, hb⟩)
          generalize zs[k] = x at *
          clear hb
          go_wp2_with (go_at_call 80; (with_reducible refine (K.out _).mono ?_); rintro _ w' ⟨rfl, rfl⟩)
          go_ret
          exact ⟨⟨k, rfl, by rw [HAny.out]; exact decide_eq_true (by omega)⟩, rfl⟩
        | false =>
          rw [hb] at K
          have HB := Lib.hid hb
          have HX : Hid (∀ r (h : r < zs.length), r < k + 1 → Mm.bad zs[r] = false) := Lib.hid fun r h hr => by
            rcases Nat.lt_or_ge r k with h2 | h2
            · exact HE.out r h h2
            · obtain rfl : r = k := by omega
              exact HB.out
          generalize zs[k] = x at *
          clear hb
          go_wp2_with (go_at_call 80; (with_reducible refine (K.out _).mono ?_); rintro _ w' ⟨rfl, rfl⟩)
          go_round
          case rel => exact ⟨k + 1, by omega, by go_num, HX⟩
          case measure => simp [intOf]; omega
      · have HAny : Hid (zs.any Mm.bad = false) := Lib.hid (by
          rw [List.any_eq_false]
          intro x hx
          obtain ⟨r, hr, rfl⟩ := List.getElem_of_mem hx
          rw [HE.out r hr (by omega)]
          simp)
        go_wp2
        go_ret
        exact ⟨⟨-1, rfl, by rw [HAny.out]; rfl⟩, rfl⟩

theorem containsWrong_any (v : Value) (zs : List Int) (w : World) (h : Sl1 w v (ints zs)) : Calls Try.prog 81 #[v, .func (.func 80) #[] #[]] w fun e w' => e = .returned (.bool (zs.any Mm.bad)) ∧ w' = w := by
  have K := Lib.hid (indexWrong_any v zs w h)
  clear h
  go_enter Try.func81, Try.ntmps81
  go_wp2_with fail
  refine K.out.mono ?_
  rintro _ w' ⟨⟨k, rfl, hk⟩, rfl⟩
  go_wp2
  go_ret
  exact ⟨rfl, rfl⟩

/-- How New ends. -/
def NewRet (T : Nat) (zs : List Int) (w : World) (e : Ending) (w' : World) : Prop :=
  Below w.heap.size w w' ∧ ((Mm.newOk zs = false ∧ e = .returned (.tuple #[.pointer none, .int .i64 1])) ∨
    (Mm.newOk zs = true ∧ ∃ p F, e = .returned (.tuple #[.pointer (some ⟨p, 0, none⟩), .int .i64 0]) ∧ MemRep w' T p (Mm.fresh zs) F ∧ ∀ k, F k → w.heap.size ≤ k))

set_option maxRecDepth 100000 in
theorem memNew_any (v : Value) (zs : List Int) (w : World) (h : Sl1 w v (ints zs)) : Calls Try.prog 32 #[v] w (NewRet 108 zs w) := by
  have K := Lib.hid (fun w' => containsWrong_any v zs w')
  have H := Lib.hid h
  obtain ⟨ao, cap0, rfl⟩ : ∃ a c, v = .slice a zs.length c := by have := h.len; rwa [ints_len] at this
  have hlm : zs.length ≤ maxLen := by have := h.len_le; rw [ints_len] at this; exact this
  unfold maxLen at hlm
  by_cases hok : Mm.newOk zs = true
  · have hok2 := hok
    simp only [Mm.newOk, Bool.and_eq_true, decide_eq_true_eq, Bool.not_eq_true'] at hok2
    obtain ⟨⟨g1, g2⟩, g3⟩ := hok2
    have HN := Lib.hid hok
    have HG3 := Lib.hid g3
    have K2 := Lib.hid (K.out _ H.out)
    rw [g3] at K2
    have b1 : decide ((zs.length : Int) < 1) = false := decide_eq_false (by omega)
    have b2 : decide (16 < (zs.length : Int)) = false := decide_eq_false (by omega)
    rcases h with ⟨e1, _⟩ | ⟨n1, bb, off, cap, hve, hl1, hm1, hlt1, hc1⟩
    · exfalso
      have := congrArg List.length e1
      rw [ints_len] at this
      simp at this
      subst this
      simp at g1
    rw [ints_len] at hve
    simp only [Value.slice.injEq] at hve
    obtain ⟨rfl, _, rfl⟩ := hve
    have C1 : Hid (∀ i (h : i < zs.length), w.cell? ⟨bb, off + i, none⟩ = some (.int .i64 zs[i])) := Lib.hid fun i h => (hc1 i (by rw [ints_len]; exact h)).trans (by simp [ints])
    have HL := Lib.hid hlt1
    obtain ⟨i0, hi0, hz0, hz1, hz2⟩ := info_parts info_cell
    have HI := Lib.hid hi0
    have HZ := Lib.hid hz0
    have HS := Lib.hid hz1
    have HY := Lib.hid hz2
    obtain ⟨i1, hi0, hz0, hz1, hz2⟩ := info_parts info_reg
    have HI1 := Lib.hid hi0
    have HZ1 := Lib.hid hz0
    have HS1 := Lib.hid hz1
    have HY1 := Lib.hid hz2
    clear hok K g3 hi0 hz0 hz1 hz2 hc1 n1 hlt1 hl1 hm1
    go_enter Try.func32, Try.ntmps32
    go_wp2_with (go_at_call 81; (with_reducible refine (K2.out).mono ?_); rintro _ w' ⟨rfl, rfl⟩)
    go_loopw [25] (fun i wr => ∃ k : Nat, k ≤ zs.length ∧ i = .int .i64 k ∧ Hid (∃ g rv, NewW w' 108 w'.heap.size zs k g rv wr)) (fun i _ => zs.length - (intOf i).toNat)
    case atStart =>
      refine ⟨0, by omega, rfl, Lib.hid ⟨fun _ => 0, .slice none 0 0, ?_⟩⟩
      exact {
        box := Blk.new w' _ _
        row := World.ownsRow_nil _ _ _ _
        cells := fun i hi => by omega
        gp := fun i hi => by omega
        gr := fun i hi => by omega
        gg := fun i j hi => by omega
        old := (Below.refl _ _).alloc (Nat.le_refl _) _ }
    case round =>
      obtain ⟨k, hk, rfl, HW⟩ := hrel
      by_cases hlt : k < zs.length
      · obtain ⟨g, rv, hW⟩ := HW.out
        have hck : wr.cell? ⟨bb, off + k, none⟩ = some (.int .i64 zs[k]) := by rw [hW.old.cell HL.out]; exact C1.out k hlt
        have hbad : Mm.bad zs[k] = false := by
          have := List.any_eq_false.1 HG3.out _ (List.getElem_mem hlt)
          simpa using this
        simp [Mm.bad] at hbad
        obtain ⟨q0, q1⟩ := hbad
        obtain ⟨n, hn⟩ : ∃ n : Nat, zs[k] = n := ⟨zs[k].toNat, by omega⟩
        have hgd : (zs.getD k 0).toNat = n := by simp [List.getD, hlt, hn]
        rw [hn] at hck q0 q1
        have cp : wr.drew.cell? ⟨w'.heap.size, 0, none⟩ = some rv := by rw [World.cell?_drew, hW.box.cell]; rfl
        have HW2 := Lib.hid hW
        have HGD := Lib.hid hgd
        obtain ⟨ra, rc, hrv⟩ := owns_slice hW.row
        clear hW hn hgd
        go_wp2_with fail
        subst hrv
        have HRO : Hid (wr.ownsRow (w'.heap.size + 1) 86 1 (.slice ra k rc) k ((List.range k).map (regV g zs))) := Lib.hid HW2.out.row
        have hpl := HW2.out.box.lt
        have hmk := fun w => run_make_cells (P := Try.prog) 86 44 i0 z12 12 Try.underlying86 HI.out HZ.out HS.out 96 HY.out .i64 .i64 n (by omega) (by omega) w
        have hc1 : ∀ j u, [Value.slice (some ⟨wr.heap.size, 0, none⟩) n n][j]? = some u → ((wr.alloc (.cells (madeCells z12 (n * 12)) 44)).alloc (.cells #[.slice (some ⟨wr.heap.size, 0, none⟩) n n] 86)).cell? ((⟨wr.heap.size + 1, 0, none⟩ : Addr).add j) = some u := fun j u hu => by
          have := cell_one_new (wr.alloc (.cells (madeCells z12 (n * 12)) 44)) _ 86 j u hu
          rw [World.size_alloc] at this
          exact this
        have HC1 := Lib.hid hc1
        clear hc1
        have HKP : Hid (∀ w3, (((wr.alloc (.cells (madeCells z12 (n * 12)) 44)).alloc (.cells #[.slice (some ⟨wr.heap.size, 0, none⟩) n n] 86)).drew).grownBy w3 (Value.slice ra k rc).ownBlock →
            w3.cell? ⟨w'.heap.size, 0, none⟩ = some (.slice ra k rc) ∧ w3.frozen? ⟨w'.heap.size, 0, none⟩ = false) := Lib.hid fun w3 hg => by
          have hne : some w'.heap.size ≠ (Value.slice ra k rc).ownBlock := fun e => by have := (HRO.out.lt _ e.symm).1; omega
          have hb : w3.heap[w'.heap.size]? = wr.heap[w'.heap.size]? := (hg.block _ (by show w'.heap.size < ((wr.alloc _).alloc _).heap.size; rw [World.size_alloc, World.size_alloc]; omega) hne).trans
            ((Below.heap_alloc (wr.alloc _) _ _ (by rw [World.size_alloc]; omega)).trans (Below.heap_alloc wr _ _ hpl))
          have hbk := Blk_keep HW2.out.box hb
          exact ⟨by rw [hbk.cell]; rfl, hbk.free 0⟩
        have hbA := HW2.out.box.alloc (.cells (madeCells z12 (n * 12)) 44)
        have hbB := hbA.alloc (.cells #[.slice (some ⟨wr.heap.size, 0, none⟩) n n] 86)
        have cp1 : (wr.alloc (.cells (madeCells z12 (n * 12)) 44)).cell? ⟨w'.heap.size, 0, none⟩ = some (.slice ra k rc) := by rw [hbA.cell]; rfl
        have cp2 : ((wr.alloc (.cells (madeCells z12 (n * 12)) 44)).alloc (.cells #[.slice (some ⟨wr.heap.size, 0, none⟩) n n] 86)).cell? ⟨w'.heap.size, 0, none⟩ = some (.slice ra k rc) := by rw [hbB.cell]; rfl
        have cp3 : (wr.alloc (.cells (madeCells z12 (n * 12)) 44)).drew.cell? ⟨w'.heap.size, 0, none⟩ = some (.slice ra k rc) := cp1
        have cp4 : ((wr.alloc (.cells (madeCells z12 (n * 12)) 44)).alloc (.cells #[.slice (some ⟨wr.heap.size, 0, none⟩) n n] 86)).drew.cell? ⟨w'.heap.size, 0, none⟩ = some (.slice ra k rc) := cp2
        clear hbA hbB
        go_region_law (first
          | (go_loud (refine step_append_own_at rfl (.tmp 33) (.tmp 36) 58 rfl (w'.heap.size + 1) 86 i1 (.slice none 0 0) 1 24 Try.underlying58 HI1.out HZ1.out HS1.out HY1.out rfl (by decide) (.slice ra k rc) k _ rfl ((HRO.out.alloc (.cells (madeCells z12 (n * 12)) 44)).alloc (.cells #[.slice (some ⟨wr.heap.size, 0, none⟩) n n] 86)) ⟨wr.heap.size + 1, 0, none⟩ 1 1 [.slice (some ⟨wr.heap.size, 0, none⟩) n n] rfl rfl HC1.out (by simp [Value.oneCell']) (by unfold maxLen; omega) (by omega) (by simp; omega) ?_); intro rv' w3 hown hgrow hat; obtain ⟨c3, f3⟩ := HKP.out w3 hgrow; obtain ⟨ra', rc', hrv'⟩ := owns_slice hown; subst hrv'))
        all_goals
          have HX := Lib.hid (HW2.out.step n HGD.out (w1 := (wr.alloc (.cells (madeCells z12 (n * 12)) 44)).drew) ⟨by simp [size_madeCells], .inr ⟨wr.heap.size, n, madeCells z12 (n * 12), rfl, Nat.zero_le _, heap_alloc_new wr _, Nat.le_refl _, by unfold maxLen; omega, size_madeCells _ _, List.take_of_length_le (by simp [size_madeCells])⟩⟩
            ⟨rfl, rfl, rfl, by simp, fun j hj _ => Below.heap_alloc wr _ j hj⟩ (.cells #[.slice (some ⟨wr.heap.size, 0, none⟩) n n] 86) hown hgrow (by simpa using hat))
          clear hown hgrow hat
          go_wp2
          go_roundw
          case rel => exact ⟨k + 1, by omega, by go_num, Lib.hid ⟨_, _, HX.out⟩⟩
          case measure => simp [intOf]; omega
      · obtain ⟨g, rv, hW⟩ := HW.out
        obtain rfl : k = zs.length := by omega
        have hR := hW.done HN.out rfl
        have hbel := hW.old
        have HR := Lib.hid hR
        have HBL := Lib.hid hbel
        clear hW hR hbel
        go_wp2
        go_ret2
        obtain ⟨F, h1, h2⟩ := HR.out
        exact ⟨HBL.out, .inr ⟨HN.out, w'.heap.size, F, rfl, h1, h2⟩⟩
  · have HN : Hid (Mm.newOk zs = false) := Lib.hid (by simpa using hok)
    have hcs : zs.length < 1 ∨ 16 < zs.length ∨ zs.any Mm.bad = true := by
      rcases Nat.lt_or_ge zs.length 1 with h1 | h1
      · exact .inl h1
      · rcases Nat.lt_or_ge 16 zs.length with h2 | h2
        · exact .inr (.inl h2)
        · right; right
          cases ha : zs.any Mm.bad with
          | true => rfl
          | false => exact absurd (by simp [Mm.newOk, h1, h2, ha]) hok
    by_cases h1 : zs.length < 1
    · have b1 : decide ((zs.length : Int) < 1) = true := decide_eq_true (by omega)
      have b2 : zs.length = 0 := by omega
      clear hcs hok h
      rw [b2] at *
      go_enter Try.func32, Try.ntmps32
      go_wp2
      go_ret2
      exact ⟨Below.refl _ _, .inl ⟨HN.out, rfl⟩⟩
    · have b1 : decide ((zs.length : Int) < 1) = false := decide_eq_false (by omega)
      by_cases h2 : 16 < zs.length
      · have b2 : decide (16 < (zs.length : Int)) = true := decide_eq_true (by omega)
        clear hcs hok h
        go_enter Try.func32, Try.ntmps32
        go_wp2
        go_ret2
        exact ⟨Below.refl _ _, .inl ⟨HN.out, rfl⟩⟩
      · have b2 : decide (16 < (zs.length : Int)) = false := decide_eq_false (by omega)
        have ha : zs.any Mm.bad = true := by rcases hcs with h3 | h3 | h3 <;> first | omega | exact h3
        have K2 := Lib.hid (K.out _ H.out)
        rw [ha] at K2
        clear hcs hok ha h K
        go_enter Try.func32, Try.ntmps32
        go_wp2_with (go_at_call 81; (with_reducible refine (K2.out).mono ?_); rintro _ w' ⟨rfl, rfl⟩)
        go_ret2
        exact ⟨Below.refl _ _, .inl ⟨HN.out, rfl⟩⟩

set_option maxRecDepth 100000 in
theorem ref3New_any (v : Value) (zs : List Int) (w : World) (h : Sl1 w v (ints zs)) : Calls Try.prog 40 #[v] w (NewRet 60 zs w) := by
  obtain ⟨ao, cap0, rfl⟩ : ∃ a c, v = .slice a zs.length c := by have := h.len; rwa [ints_len] at this
  have hlm : zs.length ≤ maxLen := by have := h.len_le; rw [ints_len] at this; exact this
  unfold maxLen at hlm
  by_cases h1 : zs.length < 1
  · have b1 : decide ((zs.length : Int) < 1) = true := decide_eq_true (by omega)
    have b2 : zs.length = 0 := by omega
    have HN : Hid (Mm.newOk zs = false) := Lib.hid (by simp [Mm.newOk, b2])
    clear h
    rw [b2] at *
    go_enter Try.func40, Try.ntmps40
    go_wp2
    go_ret2
    exact ⟨Below.refl _ _, .inl ⟨HN.out, rfl⟩⟩
  · have b1 : decide ((zs.length : Int) < 1) = false := decide_eq_false (by omega)
    by_cases h2 : 16 < zs.length
    · have b2 : decide (16 < (zs.length : Int)) = true := decide_eq_true (by omega)
      have HN : Hid (Mm.newOk zs = false) := Lib.hid (by simp [Mm.newOk]; omega)
      clear h
      go_enter Try.func40, Try.ntmps40
      go_wp2
      go_ret2
      exact ⟨Below.refl _ _, .inl ⟨HN.out, rfl⟩⟩
    · have b2 : decide (16 < (zs.length : Int)) = false := decide_eq_false (by omega)
      have g1 : 1 ≤ zs.length := by omega
      have g2 : zs.length ≤ 16 := by omega
      rcases h with ⟨e1, _⟩ | ⟨n1, bb, off, cap, hve, hl1, hm1, hlt1, hc1⟩
      · exfalso
        have := congrArg List.length e1
        rw [ints_len] at this
        simp at this
        subst this
        simp at g1
      rw [ints_len] at hve
      simp only [Value.slice.injEq] at hve
      obtain ⟨rfl, _, rfl⟩ := hve
      have C1 : Hid (∀ i (h : i < zs.length), w.cell? ⟨bb, off + i, none⟩ = some (.int .i64 zs[i])) := Lib.hid fun i h => (hc1 i (by rw [ints_len]; exact h)).trans (by simp [ints])
      have HL := Lib.hid hlt1
      obtain ⟨i0, hi0, hz0, hz1, hz2⟩ := info_parts info_cell
      have HI := Lib.hid hi0
      have HZ := Lib.hid hz0
      have HS := Lib.hid hz1
      have HY := Lib.hid hz2
      obtain ⟨i1, hi0, hz0, hz1, hz2⟩ := info_parts info_reg
      have HI1 := Lib.hid hi0
      have HZ1 := Lib.hid hz0
      have HS1 := Lib.hid hz1
      have HY1 := Lib.hid hz2
      clear hi0 hz0 hz1 hz2 hc1 n1 hlt1 hl1 hm1
      have e0 : w.heap.size = w.heap.size := rfl
      go_enter Try.func40, Try.ntmps40
      go_wp2
      go_loopw [5] (fun i wr => ∃ k : Nat, k ≤ zs.length ∧ i = .int .i64 k ∧ Hid (∀ r (h : r < zs.length), r < k → Mm.bad zs[r] = false) ∧ Hid (∃ g rv, NewW w 60 w.heap.size zs k g rv wr)) (fun i _ => zs.length - (intOf i).toNat)
      case atStart =>
        refine ⟨0, by omega, rfl, Lib.hid (fun r _ h => by omega), Lib.hid ⟨fun _ => 0, .slice none 0 0, ?_⟩⟩
        exact {
          box := Blk.new w _ _
          row := World.ownsRow_nil _ _ _ _
          cells := fun i hi => by omega
          gp := fun i hi => by omega
          gr := fun i hi => by omega
          gg := fun i j hi => by omega
          old := (Below.refl _ _).alloc (Nat.le_refl _) _ }
      case round =>
        obtain ⟨k, hk, rfl, HE, HW⟩ := hrel
        by_cases hlt : k < zs.length
        · obtain ⟨g, rv, hW⟩ := HW.out
          have hck : wr.cell? ⟨bb, off + k, none⟩ = some (.int .i64 zs[k]) := by rw [hW.old.cell HL.out]; exact C1.out k hlt
          cases hbad : Mm.bad zs[k] with
          | true =>
            have HN : Hid (Mm.newOk zs = false) := Lib.hid (by
              have : zs.any Mm.bad = true := List.any_eq_true.2 ⟨_, List.getElem_mem hlt, hbad⟩
              simp [Mm.newOk, this])
            have HBL := Lib.hid hW.old
            simp only [Mm.bad, Bool.or_eq_true, decide_eq_true_eq] at hbad
            generalize zs[k] = x at *
            clear hW
            by_cases hx1 : x < 1
            · have d1 : decide (x < 1) = true := decide_eq_true hx1
              go_wp2
              go_ret2
              exact ⟨HBL.out, .inl ⟨HN.out, rfl⟩⟩
            · have d1 : decide (x < 1) = false := decide_eq_false hx1
              have d2 : decide (4096 < x) = true := decide_eq_true (by omega)
              go_wp2
              go_ret2
              exact ⟨HBL.out, .inl ⟨HN.out, rfl⟩⟩
          | false =>
          have HB := Lib.hid hbad
          have HEX : Hid (∀ r (h : r < zs.length), r < k + 1 → Mm.bad zs[r] = false) := Lib.hid fun r h hr => by
            rcases Nat.lt_or_ge r k with h2 | h2
            · exact HE.out r h h2
            · obtain rfl : r = k := by omega
              exact HB.out
          simp [Mm.bad] at hbad
          obtain ⟨q0, q1⟩ := hbad
          obtain ⟨n, hn⟩ : ∃ n : Nat, zs[k] = n := ⟨zs[k].toNat, by omega⟩
          have hgd : (zs.getD k 0).toNat = n := by simp [List.getD, hlt, hn]
          rw [hn] at hck q0 q1
          have d1 : decide ((n : Int) < 1) = false := decide_eq_false (by omega)
          have d2 : decide (4096 < (n : Int)) = false := decide_eq_false (by omega)
          have hckd : wr.drew.cell? ⟨bb, off + k, none⟩ = some (.int .i64 (n : Int)) := hck
          have cp : wr.drew.cell? ⟨w.heap.size, 0, none⟩ = some rv := by rw [World.cell?_drew, hW.box.cell]; rfl
          have HW2 := Lib.hid hW
          have HGD := Lib.hid hgd
          obtain ⟨ra, rc, hrv⟩ := owns_slice hW.row
          clear hW hn hgd
          go_wp2_with fail
          subst hrv
          have HRO : Hid (wr.ownsRow (w.heap.size + 1) 86 1 (.slice ra k rc) k ((List.range k).map (regV g zs))) := Lib.hid HW2.out.row
          have hpl := HW2.out.box.lt
          have hmk := fun w => run_make_cells (P := Try.prog) 86 44 i0 z12 12 Try.underlying86 HI.out HZ.out HS.out 96 HY.out .i64 .i64 n (by omega) (by omega) w
          have hc1 : ∀ j u, [Value.slice (some ⟨wr.heap.size, 0, none⟩) n n][j]? = some u → ((wr.alloc (.cells (madeCells z12 (n * 12)) 44)).alloc (.cells #[.slice (some ⟨wr.heap.size, 0, none⟩) n n] 86)).cell? ((⟨wr.heap.size + 1, 0, none⟩ : Addr).add j) = some u := fun j u hu => by
            have := cell_one_new (wr.alloc (.cells (madeCells z12 (n * 12)) 44)) _ 86 j u hu
            rw [World.size_alloc] at this
            exact this
          have HC1 := Lib.hid hc1
          clear hc1
          have HKP : Hid (∀ w3, (((wr.alloc (.cells (madeCells z12 (n * 12)) 44)).alloc (.cells #[.slice (some ⟨wr.heap.size, 0, none⟩) n n] 86)).drew).grownBy w3 (Value.slice ra k rc).ownBlock →
              w3.cell? ⟨w.heap.size, 0, none⟩ = some (.slice ra k rc) ∧ w3.frozen? ⟨w.heap.size, 0, none⟩ = false) := Lib.hid fun w3 hg => by
            have hne : some w.heap.size ≠ (Value.slice ra k rc).ownBlock := fun e => by have := (HRO.out.lt _ e.symm).1; omega
            have hb : w3.heap[w.heap.size]? = wr.heap[w.heap.size]? := (hg.block _ (by show w.heap.size < ((wr.alloc _).alloc _).heap.size; rw [World.size_alloc, World.size_alloc]; omega) hne).trans
              ((Below.heap_alloc (wr.alloc _) _ _ (by rw [World.size_alloc]; omega)).trans (Below.heap_alloc wr _ _ hpl))
            have hbk := Blk_keep HW2.out.box hb
            exact ⟨by rw [hbk.cell]; rfl, hbk.free 0⟩
          have hbA := HW2.out.box.alloc (.cells (madeCells z12 (n * 12)) 44)
          have hbB := hbA.alloc (.cells #[.slice (some ⟨wr.heap.size, 0, none⟩) n n] 86)
          have cp1 : (wr.alloc (.cells (madeCells z12 (n * 12)) 44)).cell? ⟨w.heap.size, 0, none⟩ = some (.slice ra k rc) := by rw [hbA.cell]; rfl
          have cp2 : ((wr.alloc (.cells (madeCells z12 (n * 12)) 44)).alloc (.cells #[.slice (some ⟨wr.heap.size, 0, none⟩) n n] 86)).cell? ⟨w.heap.size, 0, none⟩ = some (.slice ra k rc) := by rw [hbB.cell]; rfl
          have cp3 : (wr.alloc (.cells (madeCells z12 (n * 12)) 44)).drew.cell? ⟨w.heap.size, 0, none⟩ = some (.slice ra k rc) := cp1
          have cp4 : ((wr.alloc (.cells (madeCells z12 (n * 12)) 44)).alloc (.cells #[.slice (some ⟨wr.heap.size, 0, none⟩) n n] 86)).drew.cell? ⟨w.heap.size, 0, none⟩ = some (.slice ra k rc) := cp2
          clear hbA hbB
          go_region_law (first
            | (go_loud (refine step_append_own_at rfl (.tmp 38) (.tmp 44) 58 rfl (w.heap.size + 1) 86 i1 (.slice none 0 0) 1 24 Try.underlying58 HI1.out HZ1.out HS1.out HY1.out rfl (by decide) (.slice ra k rc) k _ rfl ((HRO.out.alloc (.cells (madeCells z12 (n * 12)) 44)).alloc (.cells #[.slice (some ⟨wr.heap.size, 0, none⟩) n n] 86)) ⟨wr.heap.size + 1, 0, none⟩ 1 1 [.slice (some ⟨wr.heap.size, 0, none⟩) n n] rfl rfl HC1.out (by simp [Value.oneCell']) (by unfold maxLen; omega) (by omega) (by simp; omega) ?_); intro rv' w3 hown hgrow hat; obtain ⟨c3, f3⟩ := HKP.out w3 hgrow; obtain ⟨ra', rc', hrv'⟩ := owns_slice hown; subst hrv'))
          all_goals
            have HX := Lib.hid (HW2.out.step n HGD.out (w1 := (wr.alloc (.cells (madeCells z12 (n * 12)) 44)).drew) ⟨by simp [size_madeCells], .inr ⟨wr.heap.size, n, madeCells z12 (n * 12), rfl, Nat.zero_le _, heap_alloc_new wr _, Nat.le_refl _, by unfold maxLen; omega, size_madeCells _ _, List.take_of_length_le (by simp [size_madeCells])⟩⟩
              ⟨rfl, rfl, rfl, by simp, fun j hj _ => Below.heap_alloc wr _ j hj⟩ (.cells #[.slice (some ⟨wr.heap.size, 0, none⟩) n n] 86) hown hgrow (by simpa using hat))
            clear hown hgrow hat
            go_wp2
            go_roundw
            case rel => exact ⟨k + 1, by omega, by go_num, HEX, Lib.hid ⟨_, _, HX.out⟩⟩
            case measure => simp [intOf]; omega
        · obtain ⟨g, rv, hW⟩ := HW.out
          obtain rfl : k = zs.length := by omega
          have HN : Hid (Mm.newOk zs = true) := Lib.hid (by
            have : zs.any Mm.bad = false := by
              rw [List.any_eq_false]
              intro x hx
              obtain ⟨r, hr, rfl⟩ := List.getElem_of_mem hx
              rw [HE.out r hr hr]
              simp
            simp [Mm.newOk, this]
            omega)
          have hR := hW.done HN.out rfl
          have hbel := hW.old
          have HR := Lib.hid hR
          have HBL := Lib.hid hbel
          clear hW hR hbel
          go_wp2
          go_ret2
          obtain ⟨F, h1, h2⟩ := HR.out
          exact ⟨HBL.out, .inr ⟨HN.out, w.heap.size, F, rfl, h1, h2⟩⟩
end Go.Proofs.Ytngpaibppdehdaa
