/-
  gather walked: what it gathers are words of the automaton, eight at most.
-/
import Derived.Test.YtdleoankkcemfaaRows
import Derived.Test.YtdleoankkcemfaaKep2a
import Derived.BigQuiet
import Derived.Deep.CutRange
namespace Go.Proofs.Ytdleoankkcemfaa
open Go.RowKit

set_option maxHeartbeats 16000000 in
set_option maxRecDepth 100000 in
theorem gather_any (A : List St) (lb : Nat) (av : Value) (hsl : Slim A) (hA1 : A.length ≤ 1048576) : ∀ (h q : Nat) (fr : ByteArray) (w : World) (l : List UInt8) (os : List ByteArray) (wv ov : Value),
    Low A h (q : Int) → LS w lb av l os wv ov → AutAt w (fun k => k < lb) av A → alongGo A 0 l = some (q : Int) → Good A os → os.length < 8 → l.length + h ≤ 1048577 → fr.size ≤ maxLen →
    Calls Try.prog 91 #[.pointer (some ⟨lb, 0, none⟩), .int .i64 q, .string fr] w (PostG A lb av w l) := by
  intro h
  induction h with
  | zero => intro q fr w l os wv ov hl; cases hl
  | succ h ih =>
    intro q fr w l os wv ov hl hL hA hal hgd ho8 hln hfr
    have HIH := Lib.hid ih
    clear ih
    have hql : q < A.length := by have := hl.lt; simpa using this
    obtain ⟨⟨fin, es⟩, hx⟩ : ∃ x, A[q] = x := ⟨_, rfl⟩
    have hx? : A[q]? = some (fin, es) := by rw [List.getElem?_eq_getElem hql, hx]
    obtain ⟨hrise, hlow⟩ : es.Pairwise (fun a b => a.1.toNat < b.1.toNat) ∧ ∀ e ∈ es, Low A h e.2 := by
      obtain ⟨_, x, hx2, h3, h4⟩ := hl
      simp only [Int.toNat_natCast] at hx2
      rw [hx?] at hx2
      injection hx2 with e
      subst e
      exact ⟨h3, h4⟩
    have hel : es.length ≤ 256 := by have := hsl A[q] (List.getElem_mem hql); rw [hx] at this; exact this
    have HA := Lib.hid hA
    have HL := Lib.hid hL
    obtain ⟨Ad, cap, rfl, hcap, hA0⟩ := hA
    obtain ⟨g, o, rfl, hg, hglb, hcs⟩ := hA0.resolve_left (by omega)
    obtain ⟨cf, ev, ce, hE⟩ := hcs q hql
    rw [hx] at cf hE
    dsimp only at cf hE
    have HE := Lib.hid hE
    obtain ⟨Ex, capE, rfl, hcapE, -⟩ := hE
    have HS := Lib.hid (show ∀ k (hk : k < es.length), stepE es es[k].1 = some es[k].2 from fun k hk => stepE_hit hk rfl (fun j hj => by
      have := List.pairwise_iff_getElem.1 hrise j k (by omega) hk hj
      intro e
      rw [e] at this
      omega))
    have HLow := Lib.hid hlow
    have HAl := Lib.hid hal
    have HG := Lib.hid hgd
    have HCe := Lib.hid ce
    have HFin := Lib.hid (show fin = true → accS A ⟨l.toArray⟩ = true from fun hf => by
      unfold accS accB
      rw [hal]
      show (A.getD (q : Int).toNat (false, [])).1 = true
      rw [Int.toNat_natCast]
      simp [List.getD, hx?, hf])
    have hlt := hL.lt
    obtain ⟨c0, c1, c2, c3, f1, f2⟩ := hL.cells
    have HXQ := Lib.hid hx?
    clear hrise hlow hal hgd hcs hA0 hx hx? hl hL
    go_enter Try.func91, Try.ntmps91
    go_upto_region 1 with fail
    obtain ⟨B, hB⟩ : ∃ B, (fin && decide (fr.size = 0)) = B := ⟨_, rfl⟩
    go_cut [21] from 10 (fun s21 W => s21 = .bool B ∧ w = W)
    case first =>
      cases hfin : fin
      · subst hfin
        go_wp2_with fail
        go_meet
        case rel => exact ⟨by rw [← hB]; rfl, rfl⟩
      · subst hfin
        rcases Nat.eq_zero_or_pos fr.size with hfz | hfz
        · have qe := isEmpty1 fr hfz
          go_wp2_with fail
          go_meet
          case rel => exact ⟨by rw [← hB]; simp [hfz], rfl⟩
        · have qe := notEmpty fr hfz
          go_wp2_with fail
          go_meet
          case rel => exact ⟨by rw [← hB, show decide (fr.size = 0) = false from decide_eq_false (by omega)]; rfl, rfl⟩
    case rest =>
    obtain ⟨rfl, rfl⟩ := hcut
    have HBB := Lib.hid hB
    clear hB
    go_upto_if 21 with fail
    go_cut [] from 10 (fun W => ∃ (os1 : List ByteArray) (wv1 ov1 : Value), Hid (Below lb w W) ∧ Hid (LS W lb (.slice (some ⟨g, o, none⟩) A.length cap) l os1 wv1 ov1) ∧ Hid (os1.length ≤ 8 ∧ Good A os1))
    case first =>
      cases B
      · go_wp2_with fail
        go_meet
        case rel => exact ⟨os, wv, ov, Lib.hid (Below.refl _ _), HL, Lib.hid ⟨by omega, HG.out⟩⟩
      · have hacc := HFin.out (by have := HBB.out; simp at this; exact this.1)
        obtain ⟨P0, cp0, hwv⟩ := own_slice HL.out.word
        subst hwv
        obtain ⟨P1, cp1, hov⟩ := own_slice HL.out.out
        subst hov
        have y1 := HL.out.cells.2.1
        have y2 := HL.out.cells.2.2.1
        have y2a : ∀ k ob, ((w.drewN k).alloc ob).cell? ⟨lb, 2, none⟩ = some (.slice P1 os.length cp1) := fun k ob => ((HL.out.drewN k).keep ((Below.refl (w.drewN k).heap.size (w.drewN k)).alloc (Nat.le_refl _) ob)).cells.2.2.1
        have y2b : ∀ ob, (w.drew.alloc ob).cell? ⟨lb, 2, none⟩ = some (.slice P1 os.length cp1) := fun ob => (HL.out.drew.keep ((Below.refl w.drew.heap.size w.drew).alloc (Nat.le_refl _) ob)).cells.2.2.1
        have y2c : ∀ ob, (w.alloc ob).cell? ⟨lb, 2, none⟩ = some (.slice P1 os.length cp1) := fun ob => (HL.out.keep (below_alloc w ob)).cells.2.2.1
        have hcv := run_string_of_own (P := Try.prog) HL.out.word 65 9 Try.underlying65 Try.underlying5 Try.underlying9
        have hcv1 := run_string_of_own (P := Try.prog) (HL.out.drew).word 65 9 Try.underlying65 Try.underlying5 Try.underlying9
        have hcv2 := fun k => run_string_of_own (P := Try.prog) (HL.out.drewN k).word 65 9 Try.underlying65 Try.underlying5 Try.underlying9
        obtain ⟨i0, hi, hz0, hz1, hz2⟩ := info_parts str_info
        clear c0 c1 c2 c3 f1 f2 cf ce
        go_wp2_with fail
        refine wp_region_any (by kernel_rfl) ?_
        try (change wpAny _ _ _ _ _ _ _ (World.drew _))
        refine takeA (i := 0) (d := some 22) (v := ?_) rfl rfl (by kernel_rfl) (by kernel_rfl) (by kernel_rfl) (fun _ _ _ h => h) (Or.inl ⟨by kernel_rfl, ?_⟩) ?_
        rotate_left
        · intro w; go_simp; try with_reducible rfl
        try simp only [put_norm]
        refine takeA (i := 1) (d := some 23) (v := ?_) rfl rfl (by kernel_rfl) (by kernel_rfl) (by kernel_rfl) (fun _ _ _ h => h) (Or.inl ⟨by kernel_rfl, ?_⟩) ?_
        rotate_left
        · intro w; go_simp; try with_reducible rfl
        try simp only [put_norm]
        refine takeA (i := 2) (d := some 24) (v := ?_) rfl rfl (by kernel_rfl) (by kernel_rfl) (by kernel_rfl) (fun _ _ _ h => h) (Or.inl ⟨by kernel_rfl, ?_⟩) ?_
        rotate_left
        · intro w; go_simp; try with_reducible rfl
        try simp only [put_norm]
        refine takeA (i := 3) (d := some 25) (v := ?_) rfl rfl (by kernel_rfl) (by kernel_rfl) (by kernel_rfl) (fun _ _ _ h => h) (Or.inl ⟨by kernel_rfl, ?_⟩) ?_
        rotate_left
        · intro w; go_simp; try with_reducible rfl
        try simp only [put_norm]
        refine takeA (i := 5) (d := some 27) (v := ?_) rfl rfl (by kernel_rfl) (by kernel_rfl) (by kernel_rfl) (fun _ _ _ h => h) (Or.inl ⟨by kernel_rfl, ?_⟩) ?_
        rotate_left
        · intro w; go_simp; try with_reducible rfl
        try simp only [put_norm]
        refine takeA (i := 6) (d := some 28) (v := ?_) rfl rfl (by kernel_rfl) (by kernel_rfl) (by kernel_rfl) (fun _ _ _ h => h) (Or.inl ⟨by kernel_rfl, ?_⟩) ?_
        rotate_left
        · intro w; go_simp; try with_reducible rfl
        try simp only [put_norm]
        refine takeA (i := 7) (d := some 29) (v := ?_) rfl rfl (by kernel_rfl) (by kernel_rfl) (by kernel_rfl) (fun _ _ _ h => h) (Or.inl ⟨by kernel_rfl, ?_⟩) ?_
        rotate_left
        · intro w; go_simp; try with_reducible rfl
        try simp only [put_norm]
        refine wpAny_ready (rs := [4, 8]) (by kernel_rfl) (by simp) ?_
        refine AllReady.cons rfl (fun K hK => ?_) ?_
        · go_simp
          refine hK _ _ ?_
          clear hK K
          refine wpAny_ready (rs := [8]) (by kernel_rfl) (by simp) ?_
          refine AllReady.cons rfl (fun K hK => ?_) ?_
          · go_simp
            refine hK _ _ ?_
            clear hK K
            refine wpAny_ready (rs := [9]) (by kernel_rfl) (by simp) ?_
            refine AllReady.cons rfl (fun K hK => ?_) ?_
            · go_simp
              refine hK _ _ ?_
              clear hK K
              refine wpAny_ready (rs := [10]) (by kernel_rfl) (by simp) ?_
              refine AllReady.cons rfl (fun K hK => ?_) ?_
              · go_simp
                refine hK _ _ ?_
                clear hK K
                refine wpAny_ready (rs := [11]) (by kernel_rfl) (by simp) ?_
                refine AllReady.cons rfl (fun K hK => ?_) ?_
                · try rw [alloc_drew]
                  refine step_push (by rfl) _ _ 28 (by rfl) (lb + 1) 9 i0 _ 1 16 Try.underlying28 hi hz0 hz1 hz2 rfl (by decide) (.slice P1 os.length cp1) os.length (strV os) (by rfl) (by exact HL.out.out) #[.string ⟨l.toArray⟩] (by rfl) (by intro x hx; simp at hx; subst hx; rfl) (by rfl) (by unfold maxLen; omega) (by omega) (by exact hlt) ?_
                  intro gg cc w9 hown hg9
                  have HP := Lib.hid (mored HL.out.drew (Below.refl lb w).drew hown hg9)
                  clear hown hg9
                  obtain ⟨c9, f9⟩ := HP.out.1
                  refine hK _ _ ?_
                  clear hK K
                  refine takeA (i := 12) (d := some 34) (v := ?_) rfl rfl (by kernel_rfl) (by kernel_rfl) (by kernel_rfl) (fun _ _ _ h => h) (Or.inl ⟨by kernel_rfl, ?_⟩) ?_
                  rotate_left
                  · intro w; go_simp; try with_reducible rfl
                  try simp only [put_norm]
                  refine takeA (i := 13) (d := some 35) (v := ?_) rfl rfl (by kernel_rfl) (by kernel_rfl) (by kernel_rfl) (fun _ _ _ h => h) (Or.inl ⟨by kernel_rfl, ?_⟩) ?_
                  rotate_left
                  · intro w; go_simp; try with_reducible rfl
                  try simp only [put_norm]
                  refine wpAny_ready (rs := [14]) (by kernel_rfl) (by simp) ?_
                  refine AllReady.cons rfl (fun K hK => ?_) ?_
                  · go_simp
                    refine hK _ _ ?_
                    clear hK K
                    refine wpAny_done (by kernel_rfl) ?_ _
                    clear c9 f9 y1 y2 y2a y2b y2c hcv hcv1 hcv2
                    go_wp2_with fail
                    go_meet
                    case rel => exact ⟨os ++ [⟨l.toArray⟩], _, _, Lib.hid (HP.out.2 _).2, Lib.hid ((HP.out.2 _).1 rfl), Lib.hid ⟨by rw [List.length_append, List.length_singleton]; omega, good_snoc HG.out hacc (by omega)⟩⟩
                  exact AllReady.nil
                exact AllReady.nil
              exact AllReady.nil
            exact AllReady.nil
          exact AllReady.nil
        refine AllReady.cons rfl (fun K hK => ?_) ?_
        · go_simp
          refine hK _ _ ?_
          clear hK K
          refine wpAny_ready (rs := [4, 9]) (by kernel_rfl) (by simp) ?_
          refine AllReady.cons rfl (fun K hK => ?_) ?_
          · go_simp
            refine hK _ _ ?_
            clear hK K
            refine wpAny_ready (rs := [9]) (by kernel_rfl) (by simp) ?_
            refine AllReady.cons rfl (fun K hK => ?_) ?_
            · go_simp
              refine hK _ _ ?_
              clear hK K
              refine wpAny_ready (rs := [10]) (by kernel_rfl) (by simp) ?_
              refine AllReady.cons rfl (fun K hK => ?_) ?_
              · go_simp
                refine hK _ _ ?_
                clear hK K
                refine wpAny_ready (rs := [11]) (by kernel_rfl) (by simp) ?_
                refine AllReady.cons rfl (fun K hK => ?_) ?_
                · try rw [alloc_drew]
                  refine step_push (by rfl) _ _ 28 (by rfl) (lb + 1) 9 i0 _ 1 16 Try.underlying28 hi hz0 hz1 hz2 rfl (by decide) (.slice P1 os.length cp1) os.length (strV os) (by rfl) (by exact HL.out.out) #[.string ⟨l.toArray⟩] (by rfl) (by intro x hx; simp at hx; subst hx; rfl) (by rfl) (by unfold maxLen; omega) (by omega) (by exact hlt) ?_
                  intro gg cc w9 hown hg9
                  have HP := Lib.hid (mored HL.out.drew (Below.refl lb w).drew hown hg9)
                  clear hown hg9
                  obtain ⟨c9, f9⟩ := HP.out.1
                  refine hK _ _ ?_
                  clear hK K
                  refine takeA (i := 12) (d := some 34) (v := ?_) rfl rfl (by kernel_rfl) (by kernel_rfl) (by kernel_rfl) (fun _ _ _ h => h) (Or.inl ⟨by kernel_rfl, ?_⟩) ?_
                  rotate_left
                  · intro w; go_simp; try with_reducible rfl
                  try simp only [put_norm]
                  refine takeA (i := 13) (d := some 35) (v := ?_) rfl rfl (by kernel_rfl) (by kernel_rfl) (by kernel_rfl) (fun _ _ _ h => h) (Or.inl ⟨by kernel_rfl, ?_⟩) ?_
                  rotate_left
                  · intro w; go_simp; try with_reducible rfl
                  try simp only [put_norm]
                  refine wpAny_ready (rs := [14]) (by kernel_rfl) (by simp) ?_
                  refine AllReady.cons rfl (fun K hK => ?_) ?_
                  · go_simp
                    refine hK _ _ ?_
                    clear hK K
                    refine wpAny_done (by kernel_rfl) ?_ _
                    clear c9 f9 y1 y2 y2a y2b y2c hcv hcv1 hcv2
                    go_wp2_with fail
                    go_meet
                    case rel => exact ⟨os ++ [⟨l.toArray⟩], _, _, Lib.hid (HP.out.2 _).2, Lib.hid ((HP.out.2 _).1 rfl), Lib.hid ⟨by rw [List.length_append, List.length_singleton]; omega, good_snoc HG.out hacc (by omega)⟩⟩
                  exact AllReady.nil
                exact AllReady.nil
              exact AllReady.nil
            exact AllReady.nil
          refine AllReady.cons rfl (fun K hK => ?_) ?_
          · go_simp
            refine hK _ _ ?_
            clear hK K
            refine wpAny_ready (rs := [4, 10]) (by kernel_rfl) (by simp) ?_
            refine AllReady.cons rfl (fun K hK => ?_) ?_
            · go_simp
              refine hK _ _ ?_
              clear hK K
              refine wpAny_ready (rs := [10]) (by kernel_rfl) (by simp) ?_
              refine AllReady.cons rfl (fun K hK => ?_) ?_
              · go_simp
                refine hK _ _ ?_
                clear hK K
                refine wpAny_ready (rs := [11]) (by kernel_rfl) (by simp) ?_
                refine AllReady.cons rfl (fun K hK => ?_) ?_
                · try rw [alloc_drew]
                  refine step_push (by rfl) _ _ 28 (by rfl) (lb + 1) 9 i0 _ 1 16 Try.underlying28 hi hz0 hz1 hz2 rfl (by decide) (.slice P1 os.length cp1) os.length (strV os) (by rfl) (by exact HL.out.out) #[.string ⟨l.toArray⟩] (by rfl) (by intro x hx; simp at hx; subst hx; rfl) (by rfl) (by unfold maxLen; omega) (by omega) (by exact hlt) ?_
                  intro gg cc w9 hown hg9
                  have HP := Lib.hid (mored HL.out.drew (Below.refl lb w).drew hown hg9)
                  clear hown hg9
                  obtain ⟨c9, f9⟩ := HP.out.1
                  refine hK _ _ ?_
                  clear hK K
                  refine takeA (i := 12) (d := some 34) (v := ?_) rfl rfl (by kernel_rfl) (by kernel_rfl) (by kernel_rfl) (fun _ _ _ h => h) (Or.inl ⟨by kernel_rfl, ?_⟩) ?_
                  rotate_left
                  · intro w; go_simp; try with_reducible rfl
                  try simp only [put_norm]
                  refine takeA (i := 13) (d := some 35) (v := ?_) rfl rfl (by kernel_rfl) (by kernel_rfl) (by kernel_rfl) (fun _ _ _ h => h) (Or.inl ⟨by kernel_rfl, ?_⟩) ?_
                  rotate_left
                  · intro w; go_simp; try with_reducible rfl
                  try simp only [put_norm]
                  refine wpAny_ready (rs := [14]) (by kernel_rfl) (by simp) ?_
                  refine AllReady.cons rfl (fun K hK => ?_) ?_
                  · go_simp
                    refine hK _ _ ?_
                    clear hK K
                    refine wpAny_done (by kernel_rfl) ?_ _
                    clear c9 f9 y1 y2 y2a y2b y2c hcv hcv1 hcv2
                    go_wp2_with fail
                    go_meet
                    case rel => exact ⟨os ++ [⟨l.toArray⟩], _, _, Lib.hid (HP.out.2 _).2, Lib.hid ((HP.out.2 _).1 rfl), Lib.hid ⟨by rw [List.length_append, List.length_singleton]; omega, good_snoc HG.out hacc (by omega)⟩⟩
                  exact AllReady.nil
                exact AllReady.nil
              exact AllReady.nil
            refine AllReady.cons rfl (fun K hK => ?_) ?_
            · go_simp
              refine hK _ _ ?_
              clear hK K
              refine wpAny_ready (rs := [4]) (by kernel_rfl) (by simp) ?_
              refine AllReady.cons rfl (fun K hK => ?_) ?_
              · go_simp
                refine hK _ _ ?_
                clear hK K
                refine wpAny_ready (rs := [11]) (by kernel_rfl) (by simp) ?_
                refine AllReady.cons rfl (fun K hK => ?_) ?_
                · try rw [alloc_drew]
                  refine step_push (by rfl) _ _ 28 (by rfl) (lb + 1) 9 i0 _ 1 16 Try.underlying28 hi hz0 hz1 hz2 rfl (by decide) (.slice P1 os.length cp1) os.length (strV os) (by rfl) (by exact HL.out.out) #[.string ⟨l.toArray⟩] (by rfl) (by intro x hx; simp at hx; subst hx; rfl) (by rfl) (by unfold maxLen; omega) (by omega) (by exact hlt) ?_
                  intro gg cc w9 hown hg9
                  have HP := Lib.hid (mored HL.out.drew (Below.refl lb w).drew hown hg9)
                  clear hown hg9
                  obtain ⟨c9, f9⟩ := HP.out.1
                  refine hK _ _ ?_
                  clear hK K
                  refine takeA (i := 12) (d := some 34) (v := ?_) rfl rfl (by kernel_rfl) (by kernel_rfl) (by kernel_rfl) (fun _ _ _ h => h) (Or.inl ⟨by kernel_rfl, ?_⟩) ?_
                  rotate_left
                  · intro w; go_simp; try with_reducible rfl
                  try simp only [put_norm]
                  refine takeA (i := 13) (d := some 35) (v := ?_) rfl rfl (by kernel_rfl) (by kernel_rfl) (by kernel_rfl) (fun _ _ _ h => h) (Or.inl ⟨by kernel_rfl, ?_⟩) ?_
                  rotate_left
                  · intro w; go_simp; try with_reducible rfl
                  try simp only [put_norm]
                  refine wpAny_ready (rs := [14]) (by kernel_rfl) (by simp) ?_
                  refine AllReady.cons rfl (fun K hK => ?_) ?_
                  · go_simp
                    refine hK _ _ ?_
                    clear hK K
                    refine wpAny_done (by kernel_rfl) ?_ _
                    clear c9 f9 y1 y2 y2a y2b y2c hcv hcv1 hcv2
                    go_wp2_with fail
                    go_meet
                    case rel => exact ⟨os ++ [⟨l.toArray⟩], _, _, Lib.hid (HP.out.2 _).2, Lib.hid ((HP.out.2 _).1 rfl), Lib.hid ⟨by rw [List.length_append, List.length_singleton]; omega, good_snoc HG.out hacc (by omega)⟩⟩
                  exact AllReady.nil
                exact AllReady.nil
              exact AllReady.nil
            exact AllReady.nil
          exact AllReady.nil
        exact AllReady.nil
    case rest =>
      obtain ⟨os0, wv0, ov0, HB1, HL1, HG1⟩ := hcut
      have hszc := HB1.out.size
      obtain ⟨k0, k1, k2, k3, kf1, kf2⟩ := HL1.out.cells
      have ce' := (HB1.out.cell (p := ⟨g, _, none⟩) hglb).trans HCe.out
      clear c0 c1 c2 c3 f1 f2 cf
      go_wp2_with fail
      go_loopw [45] (fun i wr => ∃ (k : Nat) (os1 : List ByteArray) (wv1 ov1 : Value), k ≤ es.length ∧ i = .int .i64 k ∧ Hid (Below lb w wr) ∧ Hid (LS wr lb (.slice (some ⟨g, o, none⟩) A.length cap) l os1 wv1 ov1) ∧ Hid (os1.length ≤ 8 ∧ Good A os1)) (fun i _ => es.length - (intOf i).toNat)
      case atStart => exact ⟨0, os0, wv0, ov0, Nat.zero_le _, rfl, HB1, HL1, HG1⟩
      case round =>
        obtain ⟨k, os1, wv1, ov1, hk, rfl, HB, HLr, HGr⟩ := hrel
        have hszr := HB.out.size
        have hltr := HLr.out.lt
        obtain ⟨P1, cp1, hov⟩ := own_slice HLr.out.out
        subst hov
        obtain ⟨P0, cp0, hwv⟩ := own_slice HLr.out.word
        subst hwv
        obtain ⟨d0, d1, d2, d3, f1, f2⟩ := HLr.out.cells
        by_cases hk' : k < es.length
        · have hEr := HE.out.low HB.out
          obtain ⟨E2, cE2, hE2, -, hE3⟩ := hEr
          obtain ⟨g2, o2, rfl, hg2, hg2lb, hec⟩ := hE3.resolve_left (by omega)
          injection hE2 with e1 e2 e3
          subst e1 e3
          have ec0 := (hec k hk').1
          have ec1 := (hec k hk').2
          have hst := HS.out k hk'
          have hlw := HLow.out es[k] (List.getElem_mem hk')
          obtain ⟨⟨b, t⟩, hbt⟩ : ∃ x, es[k] = x := ⟨_, rfl⟩
          rw [hbt] at ec0 ec1 hst hlw
          dsimp only at ec0 ec1 hst hlw
          obtain ⟨q', rfl⟩ : ∃ q' : Nat, t = q' := ⟨t.toNat, (Int.toNat_of_nonneg hlw.nn).symm⟩
          have HST := Lib.hid hst
          have HLW := Lib.hid hlw
          clear hec hE3 hst hlw hbt e2
          obtain ⟨wa, hwa⟩ : ∃ wa, wr.alloc (.cells #[.int .u8 (b.toNat : Int), .int .i64 (q' : Int)] 144) = wa := ⟨_, rfl⟩
          have ba : Below wr.heap.size wr wa := by rw [← hwa]; exact below_alloc _ _
          have HLa := Lib.hid (HLr.out.keep ba)
          obtain ⟨a0, a1, a2, a3, _, _⟩ := HLa.out.cells
          have en : wa.heap[wr.heap.size]? = some (.cells #[.int .u8 (b.toNat : Int), .int .i64 (q' : Int)] 144) := by rw [← hwa]; exact heap_alloc_new _ _
          have en0 : wa.cell? ⟨wr.heap.size, 0, none⟩ = some (.int .u8 (b.toNat : Int)) := by rw [Lib.cell_of_heap en]; rfl
          have en1 : wa.cell? ⟨wr.heap.size, 1, none⟩ = some (.int .i64 (q' : Int)) := by rw [Lib.cell_of_heap en]; rfl
          have HEN := Lib.hid en
          have HBA := Lib.hid (HB.out.trans (ba.mono (Nat.le_of_lt hltr)))
          have HWA := Lib.hid hwa
          clear ba en hwa
          by_cases h8 : os1.length = 8
          · have q8 : ((os1.length : Int) == 8) = true := by rw [beq_iff_eq]; omega
            go_wp2_with fail
            rw [HWA.out]
            go_quiet (fail)
            go_wp2_with fail
            go_ret
            exact ⟨false, l, os1, _, _, rfl, below_drewN HBA.out _, HLa.out.drewN _, (fun hf => by cases hf), HGr.out.1, HGr.out.2⟩
          · have q8 : ((os1.length : Int) == 8) = false := by rw [beq_eq_false_iff_ne]; omega
            have ho8' : os1.length < 8 := by have := HGr.out.1; omega
            have HO8 := Lib.hid ho8'
            clear ho8'
            rcases Nat.eq_zero_or_pos fr.size with hf0 | hf0
            · skip
              have qe' := isEmpty1 fr hf0
              go_wp2_with fail
              rw [HWA.out]
              go_quiet (fail)
              go_wp2_with fail
              go_quiet (fail)
              go_wp2_with fail
              go_quiet (fail)
              go_wp2_with fail
              generalize hwb : World.drewN wa _ = wb
              have HLb := Lib.hid (show LS wb lb (.slice (some ⟨g, o, none⟩) A.length cap) l os1 (.slice P0 l.length cp0) (.slice P1 os1.length cp1) by rw [← hwb]; exact HLa.out.drewN _)
              have HBb := Lib.hid (show Below lb w wb by rw [← hwb]; exact below_drewN HBA.out _)
              have en' : wb.heap[wr.heap.size]? = some (.cells #[.int .u8 (b.toNat : Int), .int .i64 (q' : Int)] 144) := by rw [← hwb]; exact HEN.out
              clear hwb
              have x0 : wb.cell? ⟨wr.heap.size, 0, none⟩ = some (.int .u8 (b.toNat : Int)) := by rw [Lib.cell_of_heap en']; rfl
              have y1 := HLb.out.cells.2.1
              have y1a : ∀ k ob, ((wb.drewN k).alloc ob).cell? ⟨lb, 1, none⟩ = some (.slice P0 l.length cp0) := fun k ob => ((HLb.out.drewN k).keep ((Below.refl (wb.drewN k).heap.size (wb.drewN k)).alloc (Nat.le_refl _) ob)).cells.2.1
              have y1c : ∀ ob, (wb.alloc ob).cell? ⟨lb, 1, none⟩ = some (.slice P0 l.length cp0) := fun ob => (HLb.out.keep (below_alloc wb ob)).cells.2.1
              have HEb := Lib.hid en'
              have hltb := HLb.out.lt
              obtain ⟨i0, hi, hz0, hz1, hz2⟩ := info_parts byte_info
              clear en'
              have HAb := Lib.hid (along_snoc HAl.out HXQ.out HST.out)
              refine wp_region_any (by kernel_rfl) ?_
              try (change wpAny _ _ _ _ _ _ _ (World.drew _))
              refine takeA (i := 0) (d := some 79) (v := ?_) rfl rfl (by kernel_rfl) (by kernel_rfl) (by kernel_rfl) (fun _ _ _ h => h) (Or.inl ⟨by kernel_rfl, ?_⟩) ?_
              rotate_left
              · intro w; go_simp; try with_reducible rfl
              try simp only [put_norm]
              refine takeA (i := 1) (d := some 80) (v := ?_) rfl rfl (by kernel_rfl) (by kernel_rfl) (by kernel_rfl) (fun _ _ _ h => h) (Or.inl ⟨by kernel_rfl, ?_⟩) ?_
              rotate_left
              · intro w; go_simp; try with_reducible rfl
              try simp only [put_norm]
              refine takeA (i := 2) (d := some 81) (v := ?_) rfl rfl (by kernel_rfl) (by kernel_rfl) (by kernel_rfl) (fun _ _ _ h => h) (Or.inl ⟨by kernel_rfl, ?_⟩) ?_
              rotate_left
              · intro w; go_simp; try with_reducible rfl
              try simp only [put_norm]
              refine takeA (i := 3) (d := some 82) (v := ?_) rfl rfl (by kernel_rfl) (by kernel_rfl) (by kernel_rfl) (fun _ _ _ h => h) (Or.inl ⟨by kernel_rfl, ?_⟩) ?_
              rotate_left
              · intro w; go_simp; try with_reducible rfl
              try simp only [put_norm]
              refine takeA (i := 5) (d := some 84) (v := ?_) rfl rfl (by kernel_rfl) (by kernel_rfl) (by kernel_rfl) (fun _ _ _ h => h) (Or.inl ⟨by kernel_rfl, ?_⟩) ?_
              rotate_left
              · intro w; go_simp; try with_reducible rfl
              try simp only [put_norm]
              refine wpAny_ready (rs := [4, 6]) (by kernel_rfl) (by simp) ?_
              refine AllReady.cons rfl (fun K hK => ?_) ?_
              · go_simp
                refine hK _ _ ?_
                clear hK K
                refine wpAny_ready (rs := [6]) (by kernel_rfl) (by simp) ?_
                refine AllReady.cons rfl (fun K hK => ?_) ?_
                · go_simp
                  refine hK _ _ ?_
                  clear hK K
                  refine wpAny_ready (rs := [7]) (by kernel_rfl) (by simp) ?_
                  refine AllReady.cons rfl (fun K hK => ?_) ?_
                  · go_simp
                    refine hK _ _ ?_
                    clear hK K
                    refine wpAny_ready (rs := [8]) (by kernel_rfl) (by simp) ?_
                    refine AllReady.cons rfl (fun K hK => ?_) ?_
                    · try rw [alloc_drew]
                      refine step_push (by rfl) _ _ 65 (by rfl) (lb + 1) 5 i0 _ 1 1 Try.underlying65 hi hz0 hz1 hz2 rfl (by decide) (.slice P0 l.length cp0) l.length (Lib.byteCells l) (by rfl) (by exact HLb.out.word) #[.int .u8 (b.toNat : Int)] (by rfl) (by intro x hx; simp at hx; subst hx; rfl) (by rfl) (by unfold maxLen; omega) (by omega) (by exact hltb) ?_
                      intro gg cc w9 hown hg9
                      have HP := Lib.hid (pushed (HLb.out.drewN _) (below_drewN HBb.out _) HEb.out hown hg9)
                      clear hown hg9
                      obtain ⟨c9, f9⟩ := HP.out.1
                      refine hK _ _ ?_
                      clear hK K
                      refine takeA (i := 9) (d := some 88) (v := ?_) rfl rfl (by kernel_rfl) (by kernel_rfl) (by kernel_rfl) (fun _ _ _ h => h) (Or.inl ⟨by kernel_rfl, ?_⟩) ?_
                      rotate_left
                      · intro w; go_simp; try with_reducible rfl
                      try simp only [put_norm]
                      refine takeA (i := 10) (d := some 89) (v := ?_) rfl rfl (by kernel_rfl) (by kernel_rfl) (by kernel_rfl) (fun _ _ _ h => h) (Or.inl ⟨by kernel_rfl, ?_⟩) ?_
                      rotate_left
                      · intro w; go_simp; try with_reducible rfl
                      try simp only [put_norm]
                      refine wpAny_ready (rs := [11]) (by kernel_rfl) (by simp) ?_
                      refine AllReady.cons rfl (fun K hK => ?_) ?_
                      · go_simp
                        refine hK _ _ ?_
                        clear hK K
                        refine wpAny_done (by kernel_rfl) ?_ _
                        clear c9 f9 y1 y1a y1c x0
                        have x19 := (HP.out.2 (.slice (some ⟨gg, 0, none⟩) (l.length + 1) cc)).2.1
                        go_wp2_with fail
                        refine (HIH.out q' _ _ (l ++ [b]) os1 _ _ HLW.out ((HP.out.2 _).1 rfl) (HA.out.low (HP.out.2 _).2.2) HAb.out HGr.out.2 HO8.out (by rw [List.length_append, List.length_singleton]; omega) (by first | exact Nat.zero_le _ | exact ext_le _ _ _ _ hfr)).mono ?_
                        rintro e w10 ⟨r, l', os', wv', ov', rfl, b10, hL10, hr10, ho10, hg10⟩
                        have HB10 := Lib.hid ((HP.out.2 (.slice (some ⟨gg, 0, none⟩) (l.length + 1) cc)).2.2.trans b10)
                        cases r
                        · have HL10 := Lib.hid hL10
                          have HG10 := Lib.hid hg10
                          clear hL10 hg10 b10 hr10 x19
                          go_wp2_with fail
                          go_ret
                          exact ⟨false, l', os', wv', ov', rfl, HB10.out, HL10.out, (fun hf => by cases hf), ho10, HG10.out⟩
                        · obtain ⟨rfl, ho10'⟩ := hr10 rfl
                          obtain ⟨g3, c3, rfl, hc3⟩ := word_form hL10
                          have HL10 := Lib.hid hL10
                          have HG10 := Lib.hid hg10
                          clear hL10 hg10 b10 hr10 x19
                          have z1 := HL10.out.cells.2.1
                          have z1f := HL10.out.cells.2.2.2.2.1
                          have hz10 := HL10.out.lt
                          have hw15 : IntKind.i64.wrap (l.length : Int) = (l.length : Int) := by rw [IntKind.wrap_i64]; omega
                          have hc15 : (l.length : Int) ≤ (c3 : Int) := by omega
                          go_wp2_with fail
                          refine wp_region_any (by kernel_rfl) ?_
                          try (change wpAny _ _ _ _ _ _ _ (World.drew _))
                          refine takeA (i := 0) (d := some 96) (v := ?_) rfl rfl (by kernel_rfl) (by kernel_rfl) (by kernel_rfl) (fun _ _ _ h => h) (Or.inl ⟨by kernel_rfl, ?_⟩) ?_
                          rotate_left
                          · intro w; go_simp; try with_reducible rfl
                          try simp only [put_norm]
                          refine takeA (i := 1) (d := some 97) (v := ?_) rfl rfl (by kernel_rfl) (by kernel_rfl) (by kernel_rfl) (fun _ _ _ h => h) (Or.inl ⟨by kernel_rfl, ?_⟩) ?_
                          rotate_left
                          · intro w; go_simp; try with_reducible rfl
                          try simp only [put_norm]
                          refine takeA (i := 2) (d := some 98) (v := ?_) rfl rfl (by kernel_rfl) (by kernel_rfl) (by kernel_rfl) (fun _ _ _ h => h) (Or.inl ⟨by kernel_rfl, ?_⟩) ?_
                          rotate_left
                          · intro w; go_simp; try with_reducible rfl
                          try simp only [put_norm]
                          refine takeA (i := 3) (d := some 99) (v := ?_) rfl rfl (by kernel_rfl) (by kernel_rfl) (by kernel_rfl) (fun _ _ _ h => h) (Or.inl ⟨by kernel_rfl, ?_⟩) ?_
                          rotate_left
                          · intro w; go_simp; try with_reducible rfl
                          try simp only [put_norm]
                          refine takeA (i := 5) (d := some 101) (v := ?_) rfl rfl (by kernel_rfl) (by kernel_rfl) (by kernel_rfl) (fun _ _ _ h => h) (Or.inl ⟨by kernel_rfl, ?_⟩) ?_
                          rotate_left
                          · intro w; go_simp; try with_reducible rfl
                          try simp only [put_norm]
                          refine takeA (i := 6) (d := some 102) (v := ?_) rfl rfl (by kernel_rfl) (by kernel_rfl) (by kernel_rfl) (fun _ _ _ h => h) (Or.inl ⟨by kernel_rfl, ?_⟩) ?_
                          rotate_left
                          · intro w; go_simp; try with_reducible rfl
                          try simp only [put_norm]
                          refine takeA (i := 7) (d := some 103) (v := ?_) rfl rfl (by kernel_rfl) (by kernel_rfl) (by kernel_rfl) (fun _ _ _ h => h) (Or.inl ⟨by kernel_rfl, ?_⟩) ?_
                          rotate_left
                          · intro w; go_simp; try with_reducible rfl
                          try simp only [put_norm]
                          refine wpAny_ready (rs := [4, 8]) (by kernel_rfl) (by simp) ?_
                          refine AllReady.cons rfl (fun K hK => ?_) ?_
                          · go_simp
                            refine hK _ _ ?_
                            clear hK K
                            refine wpAny_ready (rs := [8]) (by kernel_rfl) (by simp) ?_
                            refine AllReady.cons rfl (fun K hK => ?_) ?_
                            · go_simp
                              refine hK _ _ ?_
                              clear hK K
                              refine wpAny_ready (rs := [9]) (by kernel_rfl) (by simp) ?_
                              refine AllReady.cons rfl (fun K hK => ?_) ?_
                              · go_simp
                                refine hK _ _ ?_
                                clear hK K
                                refine takeA (i := 10) (d := some 106) (v := ?_) rfl rfl (by kernel_rfl) (by kernel_rfl) (by kernel_rfl) (fun _ _ _ h => h) (Or.inl ⟨by kernel_rfl, ?_⟩) ?_
                                rotate_left
                                · intro w; go_simp; try with_reducible rfl
                                try simp only [put_norm]
                                refine takeA (i := 11) (d := some 107) (v := ?_) rfl rfl (by kernel_rfl) (by kernel_rfl) (by kernel_rfl) (fun _ _ _ h => h) (Or.inl ⟨by kernel_rfl, ?_⟩) ?_
                                rotate_left
                                · intro w; go_simp; try with_reducible rfl
                                try simp only [put_norm]
                                refine takeA (i := 12) (d := some 108) (v := ?_) rfl rfl (by kernel_rfl) (by kernel_rfl) (by kernel_rfl) (fun _ _ _ h => h) (Or.inl ⟨by kernel_rfl, ?_⟩) ?_
                                rotate_left
                                · intro w; go_simp; try with_reducible rfl
                                try simp only [put_norm]
                                refine takeA (i := 13) (d := some 109) (v := ?_) rfl rfl (by kernel_rfl) (by kernel_rfl) (by kernel_rfl) (fun _ _ _ h => h) (Or.inl ⟨by kernel_rfl, ?_⟩) ?_
                                rotate_left
                                · intro w; go_simp; try with_reducible rfl
                                try simp only [put_norm]
                                refine wpAny_ready (rs := [14]) (by kernel_rfl) (by simp) ?_
                                refine AllReady.cons rfl (fun K hK => ?_) ?_
                                · go_simp
                                  refine hK _ _ ?_
                                  clear hK K
                                  refine wpAny_done (by kernel_rfl) ?_ _
                                  clear z1 z1f
                                  have HL11 := Lib.hid (fun k => LS.less (HL10.out.drewN k))
                                  have HB11 := Lib.hid (fun (k : Nat) (u : Value) => (below_drewN HB10.out k).setCell (p := ⟨lb, 1, none⟩) (Nat.le_refl _) u)
                                  go_wp2_with fail
                                  go_roundw
                                  case rel => exact ⟨k + 1, os', _, _, by omega, by go_num, Lib.hid (HB11.out _ _), Lib.hid (HL11.out _), Lib.hid ⟨ho10, HG10.out⟩⟩
                                  case measure => simp [intOf]; omega
                                exact AllReady.nil
                              exact AllReady.nil
                            exact AllReady.nil
                          refine AllReady.cons rfl (fun K hK => ?_) ?_
                          · go_simp
                            refine hK _ _ ?_
                            clear hK K
                            refine wpAny_ready (rs := [4, 9]) (by kernel_rfl) (by simp) ?_
                            refine AllReady.cons rfl (fun K hK => ?_) ?_
                            · go_simp
                              refine hK _ _ ?_
                              clear hK K
                              refine wpAny_ready (rs := [9]) (by kernel_rfl) (by simp) ?_
                              refine AllReady.cons rfl (fun K hK => ?_) ?_
                              · go_simp
                                refine hK _ _ ?_
                                clear hK K
                                refine takeA (i := 10) (d := some 106) (v := ?_) rfl rfl (by kernel_rfl) (by kernel_rfl) (by kernel_rfl) (fun _ _ _ h => h) (Or.inl ⟨by kernel_rfl, ?_⟩) ?_
                                rotate_left
                                · intro w; go_simp; try with_reducible rfl
                                try simp only [put_norm]
                                refine takeA (i := 11) (d := some 107) (v := ?_) rfl rfl (by kernel_rfl) (by kernel_rfl) (by kernel_rfl) (fun _ _ _ h => h) (Or.inl ⟨by kernel_rfl, ?_⟩) ?_
                                rotate_left
                                · intro w; go_simp; try with_reducible rfl
                                try simp only [put_norm]
                                refine takeA (i := 12) (d := some 108) (v := ?_) rfl rfl (by kernel_rfl) (by kernel_rfl) (by kernel_rfl) (fun _ _ _ h => h) (Or.inl ⟨by kernel_rfl, ?_⟩) ?_
                                rotate_left
                                · intro w; go_simp; try with_reducible rfl
                                try simp only [put_norm]
                                refine takeA (i := 13) (d := some 109) (v := ?_) rfl rfl (by kernel_rfl) (by kernel_rfl) (by kernel_rfl) (fun _ _ _ h => h) (Or.inl ⟨by kernel_rfl, ?_⟩) ?_
                                rotate_left
                                · intro w; go_simp; try with_reducible rfl
                                try simp only [put_norm]
                                refine wpAny_ready (rs := [14]) (by kernel_rfl) (by simp) ?_
                                refine AllReady.cons rfl (fun K hK => ?_) ?_
                                · go_simp
                                  refine hK _ _ ?_
                                  clear hK K
                                  refine wpAny_done (by kernel_rfl) ?_ _
                                  clear z1 z1f
                                  have HL11 := Lib.hid (fun k => LS.less (HL10.out.drewN k))
                                  have HB11 := Lib.hid (fun (k : Nat) (u : Value) => (below_drewN HB10.out k).setCell (p := ⟨lb, 1, none⟩) (Nat.le_refl _) u)
                                  go_wp2_with fail
                                  go_roundw
                                  case rel => exact ⟨k + 1, os', _, _, by omega, by go_num, Lib.hid (HB11.out _ _), Lib.hid (HL11.out _), Lib.hid ⟨ho10, HG10.out⟩⟩
                                  case measure => simp [intOf]; omega
                                exact AllReady.nil
                              exact AllReady.nil
                            refine AllReady.cons rfl (fun K hK => ?_) ?_
                            · go_simp
                              refine hK _ _ ?_
                              clear hK K
                              refine takeA (i := 10) (d := some 106) (v := ?_) rfl rfl (by kernel_rfl) (by kernel_rfl) (by kernel_rfl) (fun _ _ _ h => h) (Or.inl ⟨by kernel_rfl, ?_⟩) ?_
                              rotate_left
                              · intro w; go_simp; try with_reducible rfl
                              try simp only [put_norm]
                              refine wpAny_ready (rs := [4]) (by kernel_rfl) (by simp) ?_
                              refine AllReady.cons rfl (fun K hK => ?_) ?_
                              · go_simp
                                refine hK _ _ ?_
                                clear hK K
                                refine takeA (i := 11) (d := some 107) (v := ?_) rfl rfl (by kernel_rfl) (by kernel_rfl) (by kernel_rfl) (fun _ _ _ h => h) (Or.inl ⟨by kernel_rfl, ?_⟩) ?_
                                rotate_left
                                · intro w; go_simp; try with_reducible rfl
                                try simp only [put_norm]
                                refine takeA (i := 12) (d := some 108) (v := ?_) rfl rfl (by kernel_rfl) (by kernel_rfl) (by kernel_rfl) (fun _ _ _ h => h) (Or.inl ⟨by kernel_rfl, ?_⟩) ?_
                                rotate_left
                                · intro w; go_simp; try with_reducible rfl
                                try simp only [put_norm]
                                refine takeA (i := 13) (d := some 109) (v := ?_) rfl rfl (by kernel_rfl) (by kernel_rfl) (by kernel_rfl) (fun _ _ _ h => h) (Or.inl ⟨by kernel_rfl, ?_⟩) ?_
                                rotate_left
                                · intro w; go_simp; try with_reducible rfl
                                try simp only [put_norm]
                                refine wpAny_ready (rs := [14]) (by kernel_rfl) (by simp) ?_
                                refine AllReady.cons rfl (fun K hK => ?_) ?_
                                · go_simp
                                  refine hK _ _ ?_
                                  clear hK K
                                  refine wpAny_done (by kernel_rfl) ?_ _
                                  clear z1 z1f
                                  have HL11 := Lib.hid (fun k => LS.less (HL10.out.drewN k))
                                  have HB11 := Lib.hid (fun (k : Nat) (u : Value) => (below_drewN HB10.out k).setCell (p := ⟨lb, 1, none⟩) (Nat.le_refl _) u)
                                  go_wp2_with fail
                                  go_roundw
                                  case rel => exact ⟨k + 1, os', _, _, by omega, by go_num, Lib.hid (HB11.out _ _), Lib.hid (HL11.out _), Lib.hid ⟨ho10, HG10.out⟩⟩
                                  case measure => simp [intOf]; omega
                                exact AllReady.nil
                              exact AllReady.nil
                            exact AllReady.nil
                          exact AllReady.nil
                      exact AllReady.nil
                    exact AllReady.nil
                  exact AllReady.nil
                exact AllReady.nil
              refine AllReady.cons rfl (fun K hK => ?_) ?_
              · go_simp
                refine hK _ _ ?_
                clear hK K
                refine wpAny_ready (rs := [4, 7]) (by kernel_rfl) (by simp) ?_
                refine AllReady.cons rfl (fun K hK => ?_) ?_
                · go_simp
                  refine hK _ _ ?_
                  clear hK K
                  refine wpAny_ready (rs := [7]) (by kernel_rfl) (by simp) ?_
                  refine AllReady.cons rfl (fun K hK => ?_) ?_
                  · go_simp
                    refine hK _ _ ?_
                    clear hK K
                    refine wpAny_ready (rs := [8]) (by kernel_rfl) (by simp) ?_
                    refine AllReady.cons rfl (fun K hK => ?_) ?_
                    · try rw [alloc_drew]
                      refine step_push (by rfl) _ _ 65 (by rfl) (lb + 1) 5 i0 _ 1 1 Try.underlying65 hi hz0 hz1 hz2 rfl (by decide) (.slice P0 l.length cp0) l.length (Lib.byteCells l) (by rfl) (by exact HLb.out.word) #[.int .u8 (b.toNat : Int)] (by rfl) (by intro x hx; simp at hx; subst hx; rfl) (by rfl) (by unfold maxLen; omega) (by omega) (by exact hltb) ?_
                      intro gg cc w9 hown hg9
                      have HP := Lib.hid (pushed (HLb.out.drewN _) (below_drewN HBb.out _) HEb.out hown hg9)
                      clear hown hg9
                      obtain ⟨c9, f9⟩ := HP.out.1
                      refine hK _ _ ?_
                      clear hK K
                      refine takeA (i := 9) (d := some 88) (v := ?_) rfl rfl (by kernel_rfl) (by kernel_rfl) (by kernel_rfl) (fun _ _ _ h => h) (Or.inl ⟨by kernel_rfl, ?_⟩) ?_
                      rotate_left
                      · intro w; go_simp; try with_reducible rfl
                      try simp only [put_norm]
                      refine takeA (i := 10) (d := some 89) (v := ?_) rfl rfl (by kernel_rfl) (by kernel_rfl) (by kernel_rfl) (fun _ _ _ h => h) (Or.inl ⟨by kernel_rfl, ?_⟩) ?_
                      rotate_left
                      · intro w; go_simp; try with_reducible rfl
                      try simp only [put_norm]
                      refine wpAny_ready (rs := [11]) (by kernel_rfl) (by simp) ?_
                      refine AllReady.cons rfl (fun K hK => ?_) ?_
                      · go_simp
                        refine hK _ _ ?_
                        clear hK K
                        refine wpAny_done (by kernel_rfl) ?_ _
                        clear c9 f9 y1 y1a y1c x0
                        have x19 := (HP.out.2 (.slice (some ⟨gg, 0, none⟩) (l.length + 1) cc)).2.1
                        go_wp2_with fail
                        refine (HIH.out q' _ _ (l ++ [b]) os1 _ _ HLW.out ((HP.out.2 _).1 rfl) (HA.out.low (HP.out.2 _).2.2) HAb.out HGr.out.2 HO8.out (by rw [List.length_append, List.length_singleton]; omega) (by first | exact Nat.zero_le _ | exact ext_le _ _ _ _ hfr)).mono ?_
                        rintro e w10 ⟨r, l', os', wv', ov', rfl, b10, hL10, hr10, ho10, hg10⟩
                        have HB10 := Lib.hid ((HP.out.2 (.slice (some ⟨gg, 0, none⟩) (l.length + 1) cc)).2.2.trans b10)
                        cases r
                        · have HL10 := Lib.hid hL10
                          have HG10 := Lib.hid hg10
                          clear hL10 hg10 b10 hr10 x19
                          go_wp2_with fail
                          go_ret
                          exact ⟨false, l', os', wv', ov', rfl, HB10.out, HL10.out, (fun hf => by cases hf), ho10, HG10.out⟩
                        · obtain ⟨rfl, ho10'⟩ := hr10 rfl
                          obtain ⟨g3, c3, rfl, hc3⟩ := word_form hL10
                          have HL10 := Lib.hid hL10
                          have HG10 := Lib.hid hg10
                          clear hL10 hg10 b10 hr10 x19
                          have z1 := HL10.out.cells.2.1
                          have z1f := HL10.out.cells.2.2.2.2.1
                          have hz10 := HL10.out.lt
                          have hw15 : IntKind.i64.wrap (l.length : Int) = (l.length : Int) := by rw [IntKind.wrap_i64]; omega
                          have hc15 : (l.length : Int) ≤ (c3 : Int) := by omega
                          go_wp2_with fail
                          refine wp_region_any (by kernel_rfl) ?_
                          try (change wpAny _ _ _ _ _ _ _ (World.drew _))
                          refine takeA (i := 0) (d := some 96) (v := ?_) rfl rfl (by kernel_rfl) (by kernel_rfl) (by kernel_rfl) (fun _ _ _ h => h) (Or.inl ⟨by kernel_rfl, ?_⟩) ?_
                          rotate_left
                          · intro w; go_simp; try with_reducible rfl
                          try simp only [put_norm]
                          refine takeA (i := 1) (d := some 97) (v := ?_) rfl rfl (by kernel_rfl) (by kernel_rfl) (by kernel_rfl) (fun _ _ _ h => h) (Or.inl ⟨by kernel_rfl, ?_⟩) ?_
                          rotate_left
                          · intro w; go_simp; try with_reducible rfl
                          try simp only [put_norm]
                          refine takeA (i := 2) (d := some 98) (v := ?_) rfl rfl (by kernel_rfl) (by kernel_rfl) (by kernel_rfl) (fun _ _ _ h => h) (Or.inl ⟨by kernel_rfl, ?_⟩) ?_
                          rotate_left
                          · intro w; go_simp; try with_reducible rfl
                          try simp only [put_norm]
                          refine takeA (i := 3) (d := some 99) (v := ?_) rfl rfl (by kernel_rfl) (by kernel_rfl) (by kernel_rfl) (fun _ _ _ h => h) (Or.inl ⟨by kernel_rfl, ?_⟩) ?_
                          rotate_left
                          · intro w; go_simp; try with_reducible rfl
                          try simp only [put_norm]
                          refine takeA (i := 5) (d := some 101) (v := ?_) rfl rfl (by kernel_rfl) (by kernel_rfl) (by kernel_rfl) (fun _ _ _ h => h) (Or.inl ⟨by kernel_rfl, ?_⟩) ?_
                          rotate_left
                          · intro w; go_simp; try with_reducible rfl
                          try simp only [put_norm]
                          refine takeA (i := 6) (d := some 102) (v := ?_) rfl rfl (by kernel_rfl) (by kernel_rfl) (by kernel_rfl) (fun _ _ _ h => h) (Or.inl ⟨by kernel_rfl, ?_⟩) ?_
                          rotate_left
                          · intro w; go_simp; try with_reducible rfl
                          try simp only [put_norm]
                          refine takeA (i := 7) (d := some 103) (v := ?_) rfl rfl (by kernel_rfl) (by kernel_rfl) (by kernel_rfl) (fun _ _ _ h => h) (Or.inl ⟨by kernel_rfl, ?_⟩) ?_
                          rotate_left
                          · intro w; go_simp; try with_reducible rfl
                          try simp only [put_norm]
                          refine wpAny_ready (rs := [4, 8]) (by kernel_rfl) (by simp) ?_
                          refine AllReady.cons rfl (fun K hK => ?_) ?_
                          · go_simp
                            refine hK _ _ ?_
                            clear hK K
                            refine wpAny_ready (rs := [8]) (by kernel_rfl) (by simp) ?_
                            refine AllReady.cons rfl (fun K hK => ?_) ?_
                            · go_simp
                              refine hK _ _ ?_
                              clear hK K
                              refine wpAny_ready (rs := [9]) (by kernel_rfl) (by simp) ?_
                              refine AllReady.cons rfl (fun K hK => ?_) ?_
                              · go_simp
                                refine hK _ _ ?_
                                clear hK K
                                refine takeA (i := 10) (d := some 106) (v := ?_) rfl rfl (by kernel_rfl) (by kernel_rfl) (by kernel_rfl) (fun _ _ _ h => h) (Or.inl ⟨by kernel_rfl, ?_⟩) ?_
                                rotate_left
                                · intro w; go_simp; try with_reducible rfl
                                try simp only [put_norm]
                                refine takeA (i := 11) (d := some 107) (v := ?_) rfl rfl (by kernel_rfl) (by kernel_rfl) (by kernel_rfl) (fun _ _ _ h => h) (Or.inl ⟨by kernel_rfl, ?_⟩) ?_
                                rotate_left
                                · intro w; go_simp; try with_reducible rfl
                                try simp only [put_norm]
                                refine takeA (i := 12) (d := some 108) (v := ?_) rfl rfl (by kernel_rfl) (by kernel_rfl) (by kernel_rfl) (fun _ _ _ h => h) (Or.inl ⟨by kernel_rfl, ?_⟩) ?_
                                rotate_left
                                · intro w; go_simp; try with_reducible rfl
                                try simp only [put_norm]
                                refine takeA (i := 13) (d := some 109) (v := ?_) rfl rfl (by kernel_rfl) (by kernel_rfl) (by kernel_rfl) (fun _ _ _ h => h) (Or.inl ⟨by kernel_rfl, ?_⟩) ?_
                                rotate_left
                                · intro w; go_simp; try with_reducible rfl
                                try simp only [put_norm]
                                refine wpAny_ready (rs := [14]) (by kernel_rfl) (by simp) ?_
                                refine AllReady.cons rfl (fun K hK => ?_) ?_
                                · go_simp
                                  refine hK _ _ ?_
                                  clear hK K
                                  refine wpAny_done (by kernel_rfl) ?_ _
                                  clear z1 z1f
                                  have HL11 := Lib.hid (fun k => LS.less (HL10.out.drewN k))
                                  have HB11 := Lib.hid (fun (k : Nat) (u : Value) => (below_drewN HB10.out k).setCell (p := ⟨lb, 1, none⟩) (Nat.le_refl _) u)
                                  go_wp2_with fail
                                  go_roundw
                                  case rel => exact ⟨k + 1, os', _, _, by omega, by go_num, Lib.hid (HB11.out _ _), Lib.hid (HL11.out _), Lib.hid ⟨ho10, HG10.out⟩⟩
                                  case measure => simp [intOf]; omega
                                exact AllReady.nil
                              exact AllReady.nil
                            exact AllReady.nil
                          refine AllReady.cons rfl (fun K hK => ?_) ?_
                          · go_simp
                            refine hK _ _ ?_
                            clear hK K
                            refine wpAny_ready (rs := [4, 9]) (by kernel_rfl) (by simp) ?_
                            refine AllReady.cons rfl (fun K hK => ?_) ?_
                            · go_simp
                              refine hK _ _ ?_
                              clear hK K
                              refine wpAny_ready (rs := [9]) (by kernel_rfl) (by simp) ?_
                              refine AllReady.cons rfl (fun K hK => ?_) ?_
                              · go_simp
                                refine hK _ _ ?_
                                clear hK K
                                refine takeA (i := 10) (d := some 106) (v := ?_) rfl rfl (by kernel_rfl) (by kernel_rfl) (by kernel_rfl) (fun _ _ _ h => h) (Or.inl ⟨by kernel_rfl, ?_⟩) ?_
                                rotate_left
                                · intro w; go_simp; try with_reducible rfl
                                try simp only [put_norm]
                                refine takeA (i := 11) (d := some 107) (v := ?_) rfl rfl (by kernel_rfl) (by kernel_rfl) (by kernel_rfl) (fun _ _ _ h => h) (Or.inl ⟨by kernel_rfl, ?_⟩) ?_
                                rotate_left
                                · intro w; go_simp; try with_reducible rfl
                                try simp only [put_norm]
                                refine takeA (i := 12) (d := some 108) (v := ?_) rfl rfl (by kernel_rfl) (by kernel_rfl) (by kernel_rfl) (fun _ _ _ h => h) (Or.inl ⟨by kernel_rfl, ?_⟩) ?_
                                rotate_left
                                · intro w; go_simp; try with_reducible rfl
                                try simp only [put_norm]
                                refine takeA (i := 13) (d := some 109) (v := ?_) rfl rfl (by kernel_rfl) (by kernel_rfl) (by kernel_rfl) (fun _ _ _ h => h) (Or.inl ⟨by kernel_rfl, ?_⟩) ?_
                                rotate_left
                                · intro w; go_simp; try with_reducible rfl
                                try simp only [put_norm]
                                refine wpAny_ready (rs := [14]) (by kernel_rfl) (by simp) ?_
                                refine AllReady.cons rfl (fun K hK => ?_) ?_
                                · go_simp
                                  refine hK _ _ ?_
                                  clear hK K
                                  refine wpAny_done (by kernel_rfl) ?_ _
                                  clear z1 z1f
                                  have HL11 := Lib.hid (fun k => LS.less (HL10.out.drewN k))
                                  have HB11 := Lib.hid (fun (k : Nat) (u : Value) => (below_drewN HB10.out k).setCell (p := ⟨lb, 1, none⟩) (Nat.le_refl _) u)
                                  go_wp2_with fail
                                  go_roundw
                                  case rel => exact ⟨k + 1, os', _, _, by omega, by go_num, Lib.hid (HB11.out _ _), Lib.hid (HL11.out _), Lib.hid ⟨ho10, HG10.out⟩⟩
                                  case measure => simp [intOf]; omega
                                exact AllReady.nil
                              exact AllReady.nil
                            refine AllReady.cons rfl (fun K hK => ?_) ?_
                            · go_simp
                              refine hK _ _ ?_
                              clear hK K
                              refine takeA (i := 10) (d := some 106) (v := ?_) rfl rfl (by kernel_rfl) (by kernel_rfl) (by kernel_rfl) (fun _ _ _ h => h) (Or.inl ⟨by kernel_rfl, ?_⟩) ?_
                              rotate_left
                              · intro w; go_simp; try with_reducible rfl
                              try simp only [put_norm]
                              refine wpAny_ready (rs := [4]) (by kernel_rfl) (by simp) ?_
                              refine AllReady.cons rfl (fun K hK => ?_) ?_
                              · go_simp
                                refine hK _ _ ?_
                                clear hK K
                                refine takeA (i := 11) (d := some 107) (v := ?_) rfl rfl (by kernel_rfl) (by kernel_rfl) (by kernel_rfl) (fun _ _ _ h => h) (Or.inl ⟨by kernel_rfl, ?_⟩) ?_
                                rotate_left
                                · intro w; go_simp; try with_reducible rfl
                                try simp only [put_norm]
                                refine takeA (i := 12) (d := some 108) (v := ?_) rfl rfl (by kernel_rfl) (by kernel_rfl) (by kernel_rfl) (fun _ _ _ h => h) (Or.inl ⟨by kernel_rfl, ?_⟩) ?_
                                rotate_left
                                · intro w; go_simp; try with_reducible rfl
                                try simp only [put_norm]
                                refine takeA (i := 13) (d := some 109) (v := ?_) rfl rfl (by kernel_rfl) (by kernel_rfl) (by kernel_rfl) (fun _ _ _ h => h) (Or.inl ⟨by kernel_rfl, ?_⟩) ?_
                                rotate_left
                                · intro w; go_simp; try with_reducible rfl
                                try simp only [put_norm]
                                refine wpAny_ready (rs := [14]) (by kernel_rfl) (by simp) ?_
                                refine AllReady.cons rfl (fun K hK => ?_) ?_
                                · go_simp
                                  refine hK _ _ ?_
                                  clear hK K
                                  refine wpAny_done (by kernel_rfl) ?_ _
                                  clear z1 z1f
                                  have HL11 := Lib.hid (fun k => LS.less (HL10.out.drewN k))
                                  have HB11 := Lib.hid (fun (k : Nat) (u : Value) => (below_drewN HB10.out k).setCell (p := ⟨lb, 1, none⟩) (Nat.le_refl _) u)
                                  go_wp2_with fail
                                  go_roundw
                                  case rel => exact ⟨k + 1, os', _, _, by omega, by go_num, Lib.hid (HB11.out _ _), Lib.hid (HL11.out _), Lib.hid ⟨ho10, HG10.out⟩⟩
                                  case measure => simp [intOf]; omega
                                exact AllReady.nil
                              exact AllReady.nil
                            exact AllReady.nil
                          exact AllReady.nil
                      exact AllReady.nil
                    exact AllReady.nil
                  exact AllReady.nil
                refine AllReady.cons rfl (fun K hK => ?_) ?_
                · go_simp
                  refine hK _ _ ?_
                  clear hK K
                  refine wpAny_ready (rs := [4]) (by kernel_rfl) (by simp) ?_
                  refine AllReady.cons rfl (fun K hK => ?_) ?_
                  · go_simp
                    refine hK _ _ ?_
                    clear hK K
                    refine wpAny_ready (rs := [8]) (by kernel_rfl) (by simp) ?_
                    refine AllReady.cons rfl (fun K hK => ?_) ?_
                    · try rw [alloc_drew]
                      refine step_push (by rfl) _ _ 65 (by rfl) (lb + 1) 5 i0 _ 1 1 Try.underlying65 hi hz0 hz1 hz2 rfl (by decide) (.slice P0 l.length cp0) l.length (Lib.byteCells l) (by rfl) (by exact HLb.out.word) #[.int .u8 (b.toNat : Int)] (by rfl) (by intro x hx; simp at hx; subst hx; rfl) (by rfl) (by unfold maxLen; omega) (by omega) (by exact hltb) ?_
                      intro gg cc w9 hown hg9
                      have HP := Lib.hid (pushed (HLb.out.drewN _) (below_drewN HBb.out _) HEb.out hown hg9)
                      clear hown hg9
                      obtain ⟨c9, f9⟩ := HP.out.1
                      refine hK _ _ ?_
                      clear hK K
                      refine takeA (i := 9) (d := some 88) (v := ?_) rfl rfl (by kernel_rfl) (by kernel_rfl) (by kernel_rfl) (fun _ _ _ h => h) (Or.inl ⟨by kernel_rfl, ?_⟩) ?_
                      rotate_left
                      · intro w; go_simp; try with_reducible rfl
                      try simp only [put_norm]
                      refine takeA (i := 10) (d := some 89) (v := ?_) rfl rfl (by kernel_rfl) (by kernel_rfl) (by kernel_rfl) (fun _ _ _ h => h) (Or.inl ⟨by kernel_rfl, ?_⟩) ?_
                      rotate_left
                      · intro w; go_simp; try with_reducible rfl
                      try simp only [put_norm]
                      refine wpAny_ready (rs := [11]) (by kernel_rfl) (by simp) ?_
                      refine AllReady.cons rfl (fun K hK => ?_) ?_
                      · go_simp
                        refine hK _ _ ?_
                        clear hK K
                        refine wpAny_done (by kernel_rfl) ?_ _
                        clear c9 f9 y1 y1a y1c x0
                        have x19 := (HP.out.2 (.slice (some ⟨gg, 0, none⟩) (l.length + 1) cc)).2.1
                        go_wp2_with fail
                        refine (HIH.out q' _ _ (l ++ [b]) os1 _ _ HLW.out ((HP.out.2 _).1 rfl) (HA.out.low (HP.out.2 _).2.2) HAb.out HGr.out.2 HO8.out (by rw [List.length_append, List.length_singleton]; omega) (by first | exact Nat.zero_le _ | exact ext_le _ _ _ _ hfr)).mono ?_
                        rintro e w10 ⟨r, l', os', wv', ov', rfl, b10, hL10, hr10, ho10, hg10⟩
                        have HB10 := Lib.hid ((HP.out.2 (.slice (some ⟨gg, 0, none⟩) (l.length + 1) cc)).2.2.trans b10)
                        cases r
                        · have HL10 := Lib.hid hL10
                          have HG10 := Lib.hid hg10
                          clear hL10 hg10 b10 hr10 x19
                          go_wp2_with fail
                          go_ret
                          exact ⟨false, l', os', wv', ov', rfl, HB10.out, HL10.out, (fun hf => by cases hf), ho10, HG10.out⟩
                        · obtain ⟨rfl, ho10'⟩ := hr10 rfl
                          obtain ⟨g3, c3, rfl, hc3⟩ := word_form hL10
                          have HL10 := Lib.hid hL10
                          have HG10 := Lib.hid hg10
                          clear hL10 hg10 b10 hr10 x19
                          have z1 := HL10.out.cells.2.1
                          have z1f := HL10.out.cells.2.2.2.2.1
                          have hz10 := HL10.out.lt
                          have hw15 : IntKind.i64.wrap (l.length : Int) = (l.length : Int) := by rw [IntKind.wrap_i64]; omega
                          have hc15 : (l.length : Int) ≤ (c3 : Int) := by omega
                          go_wp2_with fail
                          refine wp_region_any (by kernel_rfl) ?_
                          try (change wpAny _ _ _ _ _ _ _ (World.drew _))
                          refine takeA (i := 0) (d := some 96) (v := ?_) rfl rfl (by kernel_rfl) (by kernel_rfl) (by kernel_rfl) (fun _ _ _ h => h) (Or.inl ⟨by kernel_rfl, ?_⟩) ?_
                          rotate_left
                          · intro w; go_simp; try with_reducible rfl
                          try simp only [put_norm]
                          refine takeA (i := 1) (d := some 97) (v := ?_) rfl rfl (by kernel_rfl) (by kernel_rfl) (by kernel_rfl) (fun _ _ _ h => h) (Or.inl ⟨by kernel_rfl, ?_⟩) ?_
                          rotate_left
                          · intro w; go_simp; try with_reducible rfl
                          try simp only [put_norm]
                          refine takeA (i := 2) (d := some 98) (v := ?_) rfl rfl (by kernel_rfl) (by kernel_rfl) (by kernel_rfl) (fun _ _ _ h => h) (Or.inl ⟨by kernel_rfl, ?_⟩) ?_
                          rotate_left
                          · intro w; go_simp; try with_reducible rfl
                          try simp only [put_norm]
                          refine takeA (i := 3) (d := some 99) (v := ?_) rfl rfl (by kernel_rfl) (by kernel_rfl) (by kernel_rfl) (fun _ _ _ h => h) (Or.inl ⟨by kernel_rfl, ?_⟩) ?_
                          rotate_left
                          · intro w; go_simp; try with_reducible rfl
                          try simp only [put_norm]
                          refine takeA (i := 5) (d := some 101) (v := ?_) rfl rfl (by kernel_rfl) (by kernel_rfl) (by kernel_rfl) (fun _ _ _ h => h) (Or.inl ⟨by kernel_rfl, ?_⟩) ?_
                          rotate_left
                          · intro w; go_simp; try with_reducible rfl
                          try simp only [put_norm]
                          refine takeA (i := 6) (d := some 102) (v := ?_) rfl rfl (by kernel_rfl) (by kernel_rfl) (by kernel_rfl) (fun _ _ _ h => h) (Or.inl ⟨by kernel_rfl, ?_⟩) ?_
                          rotate_left
                          · intro w; go_simp; try with_reducible rfl
                          try simp only [put_norm]
                          refine takeA (i := 7) (d := some 103) (v := ?_) rfl rfl (by kernel_rfl) (by kernel_rfl) (by kernel_rfl) (fun _ _ _ h => h) (Or.inl ⟨by kernel_rfl, ?_⟩) ?_
                          rotate_left
                          · intro w; go_simp; try with_reducible rfl
                          try simp only [put_norm]
                          refine wpAny_ready (rs := [4, 8]) (by kernel_rfl) (by simp) ?_
                          refine AllReady.cons rfl (fun K hK => ?_) ?_
                          · go_simp
                            refine hK _ _ ?_
                            clear hK K
                            refine wpAny_ready (rs := [8]) (by kernel_rfl) (by simp) ?_
                            refine AllReady.cons rfl (fun K hK => ?_) ?_
                            · go_simp
                              refine hK _ _ ?_
                              clear hK K
                              refine wpAny_ready (rs := [9]) (by kernel_rfl) (by simp) ?_
                              refine AllReady.cons rfl (fun K hK => ?_) ?_
                              · go_simp
                                refine hK _ _ ?_
                                clear hK K
                                refine takeA (i := 10) (d := some 106) (v := ?_) rfl rfl (by kernel_rfl) (by kernel_rfl) (by kernel_rfl) (fun _ _ _ h => h) (Or.inl ⟨by kernel_rfl, ?_⟩) ?_
                                rotate_left
                                · intro w; go_simp; try with_reducible rfl
                                try simp only [put_norm]
                                refine takeA (i := 11) (d := some 107) (v := ?_) rfl rfl (by kernel_rfl) (by kernel_rfl) (by kernel_rfl) (fun _ _ _ h => h) (Or.inl ⟨by kernel_rfl, ?_⟩) ?_
                                rotate_left
                                · intro w; go_simp; try with_reducible rfl
                                try simp only [put_norm]
                                refine takeA (i := 12) (d := some 108) (v := ?_) rfl rfl (by kernel_rfl) (by kernel_rfl) (by kernel_rfl) (fun _ _ _ h => h) (Or.inl ⟨by kernel_rfl, ?_⟩) ?_
                                rotate_left
                                · intro w; go_simp; try with_reducible rfl
                                try simp only [put_norm]
                                refine takeA (i := 13) (d := some 109) (v := ?_) rfl rfl (by kernel_rfl) (by kernel_rfl) (by kernel_rfl) (fun _ _ _ h => h) (Or.inl ⟨by kernel_rfl, ?_⟩) ?_
                                rotate_left
                                · intro w; go_simp; try with_reducible rfl
                                try simp only [put_norm]
                                refine wpAny_ready (rs := [14]) (by kernel_rfl) (by simp) ?_
                                refine AllReady.cons rfl (fun K hK => ?_) ?_
                                · go_simp
                                  refine hK _ _ ?_
                                  clear hK K
                                  refine wpAny_done (by kernel_rfl) ?_ _
                                  clear z1 z1f
                                  have HL11 := Lib.hid (fun k => LS.less (HL10.out.drewN k))
                                  have HB11 := Lib.hid (fun (k : Nat) (u : Value) => (below_drewN HB10.out k).setCell (p := ⟨lb, 1, none⟩) (Nat.le_refl _) u)
                                  go_wp2_with fail
                                  go_roundw
                                  case rel => exact ⟨k + 1, os', _, _, by omega, by go_num, Lib.hid (HB11.out _ _), Lib.hid (HL11.out _), Lib.hid ⟨ho10, HG10.out⟩⟩
                                  case measure => simp [intOf]; omega
                                exact AllReady.nil
                              exact AllReady.nil
                            exact AllReady.nil
                          refine AllReady.cons rfl (fun K hK => ?_) ?_
                          · go_simp
                            refine hK _ _ ?_
                            clear hK K
                            refine wpAny_ready (rs := [4, 9]) (by kernel_rfl) (by simp) ?_
                            refine AllReady.cons rfl (fun K hK => ?_) ?_
                            · go_simp
                              refine hK _ _ ?_
                              clear hK K
                              refine wpAny_ready (rs := [9]) (by kernel_rfl) (by simp) ?_
                              refine AllReady.cons rfl (fun K hK => ?_) ?_
                              · go_simp
                                refine hK _ _ ?_
                                clear hK K
                                refine takeA (i := 10) (d := some 106) (v := ?_) rfl rfl (by kernel_rfl) (by kernel_rfl) (by kernel_rfl) (fun _ _ _ h => h) (Or.inl ⟨by kernel_rfl, ?_⟩) ?_
                                rotate_left
                                · intro w; go_simp; try with_reducible rfl
                                try simp only [put_norm]
                                refine takeA (i := 11) (d := some 107) (v := ?_) rfl rfl (by kernel_rfl) (by kernel_rfl) (by kernel_rfl) (fun _ _ _ h => h) (Or.inl ⟨by kernel_rfl, ?_⟩) ?_
                                rotate_left
                                · intro w; go_simp; try with_reducible rfl
                                try simp only [put_norm]
                                refine takeA (i := 12) (d := some 108) (v := ?_) rfl rfl (by kernel_rfl) (by kernel_rfl) (by kernel_rfl) (fun _ _ _ h => h) (Or.inl ⟨by kernel_rfl, ?_⟩) ?_
                                rotate_left
                                · intro w; go_simp; try with_reducible rfl
                                try simp only [put_norm]
                                refine takeA (i := 13) (d := some 109) (v := ?_) rfl rfl (by kernel_rfl) (by kernel_rfl) (by kernel_rfl) (fun _ _ _ h => h) (Or.inl ⟨by kernel_rfl, ?_⟩) ?_
                                rotate_left
                                · intro w; go_simp; try with_reducible rfl
                                try simp only [put_norm]
                                refine wpAny_ready (rs := [14]) (by kernel_rfl) (by simp) ?_
                                refine AllReady.cons rfl (fun K hK => ?_) ?_
                                · go_simp
                                  refine hK _ _ ?_
                                  clear hK K
                                  refine wpAny_done (by kernel_rfl) ?_ _
                                  clear z1 z1f
                                  have HL11 := Lib.hid (fun k => LS.less (HL10.out.drewN k))
                                  have HB11 := Lib.hid (fun (k : Nat) (u : Value) => (below_drewN HB10.out k).setCell (p := ⟨lb, 1, none⟩) (Nat.le_refl _) u)
                                  go_wp2_with fail
                                  go_roundw
                                  case rel => exact ⟨k + 1, os', _, _, by omega, by go_num, Lib.hid (HB11.out _ _), Lib.hid (HL11.out _), Lib.hid ⟨ho10, HG10.out⟩⟩
                                  case measure => simp [intOf]; omega
                                exact AllReady.nil
                              exact AllReady.nil
                            refine AllReady.cons rfl (fun K hK => ?_) ?_
                            · go_simp
                              refine hK _ _ ?_
                              clear hK K
                              refine takeA (i := 10) (d := some 106) (v := ?_) rfl rfl (by kernel_rfl) (by kernel_rfl) (by kernel_rfl) (fun _ _ _ h => h) (Or.inl ⟨by kernel_rfl, ?_⟩) ?_
                              rotate_left
                              · intro w; go_simp; try with_reducible rfl
                              try simp only [put_norm]
                              refine wpAny_ready (rs := [4]) (by kernel_rfl) (by simp) ?_
                              refine AllReady.cons rfl (fun K hK => ?_) ?_
                              · go_simp
                                refine hK _ _ ?_
                                clear hK K
                                refine takeA (i := 11) (d := some 107) (v := ?_) rfl rfl (by kernel_rfl) (by kernel_rfl) (by kernel_rfl) (fun _ _ _ h => h) (Or.inl ⟨by kernel_rfl, ?_⟩) ?_
                                rotate_left
                                · intro w; go_simp; try with_reducible rfl
                                try simp only [put_norm]
                                refine takeA (i := 12) (d := some 108) (v := ?_) rfl rfl (by kernel_rfl) (by kernel_rfl) (by kernel_rfl) (fun _ _ _ h => h) (Or.inl ⟨by kernel_rfl, ?_⟩) ?_
                                rotate_left
                                · intro w; go_simp; try with_reducible rfl
                                try simp only [put_norm]
                                refine takeA (i := 13) (d := some 109) (v := ?_) rfl rfl (by kernel_rfl) (by kernel_rfl) (by kernel_rfl) (fun _ _ _ h => h) (Or.inl ⟨by kernel_rfl, ?_⟩) ?_
                                rotate_left
                                · intro w; go_simp; try with_reducible rfl
                                try simp only [put_norm]
                                refine wpAny_ready (rs := [14]) (by kernel_rfl) (by simp) ?_
                                refine AllReady.cons rfl (fun K hK => ?_) ?_
                                · go_simp
                                  refine hK _ _ ?_
                                  clear hK K
                                  refine wpAny_done (by kernel_rfl) ?_ _
                                  clear z1 z1f
                                  have HL11 := Lib.hid (fun k => LS.less (HL10.out.drewN k))
                                  have HB11 := Lib.hid (fun (k : Nat) (u : Value) => (below_drewN HB10.out k).setCell (p := ⟨lb, 1, none⟩) (Nat.le_refl _) u)
                                  go_wp2_with fail
                                  go_roundw
                                  case rel => exact ⟨k + 1, os', _, _, by omega, by go_num, Lib.hid (HB11.out _ _), Lib.hid (HL11.out _), Lib.hid ⟨ho10, HG10.out⟩⟩
                                  case measure => simp [intOf]; omega
                                exact AllReady.nil
                              exact AllReady.nil
                            exact AllReady.nil
                          exact AllReady.nil
                      exact AllReady.nil
                    exact AllReady.nil
                  exact AllReady.nil
                exact AllReady.nil
              exact AllReady.nil
            · skip
              have qe' := notEmpty fr hf0
              by_cases hlt0 : (b.toNat : Int) < (fr[0].toNat : Int)
              · have qd : decide ((b.toNat : Int) < (fr[0].toNat : Int)) = true := decide_eq_true hlt0
                go_wp2_with fail
                rw [HWA.out]
                go_quiet (fail)
                go_wp2_with fail
                go_quiet (fail)
                go_wp2_with fail
                go_roundw
                case rel => exact ⟨k + 1, os1, _, _, by omega, by go_num, Lib.hid (below_drewN HBA.out _), Lib.hid (HLa.out.drewN _), HGr⟩
                case measure => simp [intOf]; omega
              · have qd : decide ((b.toNat : Int) < (fr[0].toNat : Int)) = false := decide_eq_false hlt0
                cases qe2 : ((b.toNat : Int) == (fr[0].toNat : Int))
                · go_wp2_with fail
                  rw [HWA.out]
                  go_quiet (fail)
                  go_wp2_with fail
                  go_quiet (fail)
                  go_wp2_with fail
                  go_quiet (fail)
                  go_wp2_with fail
                  generalize hwb : World.drewN wa _ = wb
                  have HLb := Lib.hid (show LS wb lb (.slice (some ⟨g, o, none⟩) A.length cap) l os1 (.slice P0 l.length cp0) (.slice P1 os1.length cp1) by rw [← hwb]; exact HLa.out.drewN _)
                  have HBb := Lib.hid (show Below lb w wb by rw [← hwb]; exact below_drewN HBA.out _)
                  have en' : wb.heap[wr.heap.size]? = some (.cells #[.int .u8 (b.toNat : Int), .int .i64 (q' : Int)] 144) := by rw [← hwb]; exact HEN.out
                  clear hwb
                  have x0 : wb.cell? ⟨wr.heap.size, 0, none⟩ = some (.int .u8 (b.toNat : Int)) := by rw [Lib.cell_of_heap en']; rfl
                  have y1 := HLb.out.cells.2.1
                  have y1a : ∀ k ob, ((wb.drewN k).alloc ob).cell? ⟨lb, 1, none⟩ = some (.slice P0 l.length cp0) := fun k ob => ((HLb.out.drewN k).keep ((Below.refl (wb.drewN k).heap.size (wb.drewN k)).alloc (Nat.le_refl _) ob)).cells.2.1
                  have y1c : ∀ ob, (wb.alloc ob).cell? ⟨lb, 1, none⟩ = some (.slice P0 l.length cp0) := fun ob => (HLb.out.keep (below_alloc wb ob)).cells.2.1
                  have HEb := Lib.hid en'
                  have hltb := HLb.out.lt
                  obtain ⟨i0, hi, hz0, hz1, hz2⟩ := info_parts byte_info
                  clear en'
                  have HAb := Lib.hid (along_snoc HAl.out HXQ.out HST.out)
                  refine wp_region_any (by kernel_rfl) ?_
                  try (change wpAny _ _ _ _ _ _ _ (World.drew _))
                  refine takeA (i := 0) (d := some 79) (v := ?_) rfl rfl (by kernel_rfl) (by kernel_rfl) (by kernel_rfl) (fun _ _ _ h => h) (Or.inl ⟨by kernel_rfl, ?_⟩) ?_
                  rotate_left
                  · intro w; go_simp; try with_reducible rfl
                  try simp only [put_norm]
                  refine takeA (i := 1) (d := some 80) (v := ?_) rfl rfl (by kernel_rfl) (by kernel_rfl) (by kernel_rfl) (fun _ _ _ h => h) (Or.inl ⟨by kernel_rfl, ?_⟩) ?_
                  rotate_left
                  · intro w; go_simp; try with_reducible rfl
                  try simp only [put_norm]
                  refine takeA (i := 2) (d := some 81) (v := ?_) rfl rfl (by kernel_rfl) (by kernel_rfl) (by kernel_rfl) (fun _ _ _ h => h) (Or.inl ⟨by kernel_rfl, ?_⟩) ?_
                  rotate_left
                  · intro w; go_simp; try with_reducible rfl
                  try simp only [put_norm]
                  refine takeA (i := 3) (d := some 82) (v := ?_) rfl rfl (by kernel_rfl) (by kernel_rfl) (by kernel_rfl) (fun _ _ _ h => h) (Or.inl ⟨by kernel_rfl, ?_⟩) ?_
                  rotate_left
                  · intro w; go_simp; try with_reducible rfl
                  try simp only [put_norm]
                  refine takeA (i := 5) (d := some 84) (v := ?_) rfl rfl (by kernel_rfl) (by kernel_rfl) (by kernel_rfl) (fun _ _ _ h => h) (Or.inl ⟨by kernel_rfl, ?_⟩) ?_
                  rotate_left
                  · intro w; go_simp; try with_reducible rfl
                  try simp only [put_norm]
                  refine wpAny_ready (rs := [4, 6]) (by kernel_rfl) (by simp) ?_
                  refine AllReady.cons rfl (fun K hK => ?_) ?_
                  · go_simp
                    refine hK _ _ ?_
                    clear hK K
                    refine wpAny_ready (rs := [6]) (by kernel_rfl) (by simp) ?_
                    refine AllReady.cons rfl (fun K hK => ?_) ?_
                    · go_simp
                      refine hK _ _ ?_
                      clear hK K
                      refine wpAny_ready (rs := [7]) (by kernel_rfl) (by simp) ?_
                      refine AllReady.cons rfl (fun K hK => ?_) ?_
                      · go_simp
                        refine hK _ _ ?_
                        clear hK K
                        refine wpAny_ready (rs := [8]) (by kernel_rfl) (by simp) ?_
                        refine AllReady.cons rfl (fun K hK => ?_) ?_
                        · try rw [alloc_drew]
                          refine step_push (by rfl) _ _ 65 (by rfl) (lb + 1) 5 i0 _ 1 1 Try.underlying65 hi hz0 hz1 hz2 rfl (by decide) (.slice P0 l.length cp0) l.length (Lib.byteCells l) (by rfl) (by exact HLb.out.word) #[.int .u8 (b.toNat : Int)] (by rfl) (by intro x hx; simp at hx; subst hx; rfl) (by rfl) (by unfold maxLen; omega) (by omega) (by exact hltb) ?_
                          intro gg cc w9 hown hg9
                          have HP := Lib.hid (pushed (HLb.out.drewN _) (below_drewN HBb.out _) HEb.out hown hg9)
                          clear hown hg9
                          obtain ⟨c9, f9⟩ := HP.out.1
                          refine hK _ _ ?_
                          clear hK K
                          refine takeA (i := 9) (d := some 88) (v := ?_) rfl rfl (by kernel_rfl) (by kernel_rfl) (by kernel_rfl) (fun _ _ _ h => h) (Or.inl ⟨by kernel_rfl, ?_⟩) ?_
                          rotate_left
                          · intro w; go_simp; try with_reducible rfl
                          try simp only [put_norm]
                          refine takeA (i := 10) (d := some 89) (v := ?_) rfl rfl (by kernel_rfl) (by kernel_rfl) (by kernel_rfl) (fun _ _ _ h => h) (Or.inl ⟨by kernel_rfl, ?_⟩) ?_
                          rotate_left
                          · intro w; go_simp; try with_reducible rfl
                          try simp only [put_norm]
                          refine wpAny_ready (rs := [11]) (by kernel_rfl) (by simp) ?_
                          refine AllReady.cons rfl (fun K hK => ?_) ?_
                          · go_simp
                            refine hK _ _ ?_
                            clear hK K
                            refine wpAny_done (by kernel_rfl) ?_ _
                            clear c9 f9 y1 y1a y1c x0
                            have x19 := (HP.out.2 (.slice (some ⟨gg, 0, none⟩) (l.length + 1) cc)).2.1
                            go_wp2_with fail
                            refine (HIH.out q' _ _ (l ++ [b]) os1 _ _ HLW.out ((HP.out.2 _).1 rfl) (HA.out.low (HP.out.2 _).2.2) HAb.out HGr.out.2 HO8.out (by rw [List.length_append, List.length_singleton]; omega) (by first | exact Nat.zero_le _ | exact ext_le _ _ _ _ hfr)).mono ?_
                            rintro e w10 ⟨r, l', os', wv', ov', rfl, b10, hL10, hr10, ho10, hg10⟩
                            have HB10 := Lib.hid ((HP.out.2 (.slice (some ⟨gg, 0, none⟩) (l.length + 1) cc)).2.2.trans b10)
                            cases r
                            · have HL10 := Lib.hid hL10
                              have HG10 := Lib.hid hg10
                              clear hL10 hg10 b10 hr10 x19
                              go_wp2_with fail
                              go_ret
                              exact ⟨false, l', os', wv', ov', rfl, HB10.out, HL10.out, (fun hf => by cases hf), ho10, HG10.out⟩
                            · obtain ⟨rfl, ho10'⟩ := hr10 rfl
                              obtain ⟨g3, c3, rfl, hc3⟩ := word_form hL10
                              have HL10 := Lib.hid hL10
                              have HG10 := Lib.hid hg10
                              clear hL10 hg10 b10 hr10 x19
                              have z1 := HL10.out.cells.2.1
                              have z1f := HL10.out.cells.2.2.2.2.1
                              have hz10 := HL10.out.lt
                              have hw15 : IntKind.i64.wrap (l.length : Int) = (l.length : Int) := by rw [IntKind.wrap_i64]; omega
                              have hc15 : (l.length : Int) ≤ (c3 : Int) := by omega
                              go_wp2_with fail
                              refine wp_region_any (by kernel_rfl) ?_
                              try (change wpAny _ _ _ _ _ _ _ (World.drew _))
                              refine takeA (i := 0) (d := some 96) (v := ?_) rfl rfl (by kernel_rfl) (by kernel_rfl) (by kernel_rfl) (fun _ _ _ h => h) (Or.inl ⟨by kernel_rfl, ?_⟩) ?_
                              rotate_left
                              · intro w; go_simp; try with_reducible rfl
                              try simp only [put_norm]
                              refine takeA (i := 1) (d := some 97) (v := ?_) rfl rfl (by kernel_rfl) (by kernel_rfl) (by kernel_rfl) (fun _ _ _ h => h) (Or.inl ⟨by kernel_rfl, ?_⟩) ?_
                              rotate_left
                              · intro w; go_simp; try with_reducible rfl
                              try simp only [put_norm]
                              refine takeA (i := 2) (d := some 98) (v := ?_) rfl rfl (by kernel_rfl) (by kernel_rfl) (by kernel_rfl) (fun _ _ _ h => h) (Or.inl ⟨by kernel_rfl, ?_⟩) ?_
                              rotate_left
                              · intro w; go_simp; try with_reducible rfl
                              try simp only [put_norm]
                              refine takeA (i := 3) (d := some 99) (v := ?_) rfl rfl (by kernel_rfl) (by kernel_rfl) (by kernel_rfl) (fun _ _ _ h => h) (Or.inl ⟨by kernel_rfl, ?_⟩) ?_
                              rotate_left
                              · intro w; go_simp; try with_reducible rfl
                              try simp only [put_norm]
                              refine takeA (i := 5) (d := some 101) (v := ?_) rfl rfl (by kernel_rfl) (by kernel_rfl) (by kernel_rfl) (fun _ _ _ h => h) (Or.inl ⟨by kernel_rfl, ?_⟩) ?_
                              rotate_left
                              · intro w; go_simp; try with_reducible rfl
                              try simp only [put_norm]
                              refine takeA (i := 6) (d := some 102) (v := ?_) rfl rfl (by kernel_rfl) (by kernel_rfl) (by kernel_rfl) (fun _ _ _ h => h) (Or.inl ⟨by kernel_rfl, ?_⟩) ?_
                              rotate_left
                              · intro w; go_simp; try with_reducible rfl
                              try simp only [put_norm]
                              refine takeA (i := 7) (d := some 103) (v := ?_) rfl rfl (by kernel_rfl) (by kernel_rfl) (by kernel_rfl) (fun _ _ _ h => h) (Or.inl ⟨by kernel_rfl, ?_⟩) ?_
                              rotate_left
                              · intro w; go_simp; try with_reducible rfl
                              try simp only [put_norm]
                              refine wpAny_ready (rs := [4, 8]) (by kernel_rfl) (by simp) ?_
                              refine AllReady.cons rfl (fun K hK => ?_) ?_
                              · go_simp
                                refine hK _ _ ?_
                                clear hK K
                                refine wpAny_ready (rs := [8]) (by kernel_rfl) (by simp) ?_
                                refine AllReady.cons rfl (fun K hK => ?_) ?_
                                · go_simp
                                  refine hK _ _ ?_
                                  clear hK K
                                  refine wpAny_ready (rs := [9]) (by kernel_rfl) (by simp) ?_
                                  refine AllReady.cons rfl (fun K hK => ?_) ?_
                                  · go_simp
                                    refine hK _ _ ?_
                                    clear hK K
                                    refine takeA (i := 10) (d := some 106) (v := ?_) rfl rfl (by kernel_rfl) (by kernel_rfl) (by kernel_rfl) (fun _ _ _ h => h) (Or.inl ⟨by kernel_rfl, ?_⟩) ?_
                                    rotate_left
                                    · intro w; go_simp; try with_reducible rfl
                                    try simp only [put_norm]
                                    refine takeA (i := 11) (d := some 107) (v := ?_) rfl rfl (by kernel_rfl) (by kernel_rfl) (by kernel_rfl) (fun _ _ _ h => h) (Or.inl ⟨by kernel_rfl, ?_⟩) ?_
                                    rotate_left
                                    · intro w; go_simp; try with_reducible rfl
                                    try simp only [put_norm]
                                    refine takeA (i := 12) (d := some 108) (v := ?_) rfl rfl (by kernel_rfl) (by kernel_rfl) (by kernel_rfl) (fun _ _ _ h => h) (Or.inl ⟨by kernel_rfl, ?_⟩) ?_
                                    rotate_left
                                    · intro w; go_simp; try with_reducible rfl
                                    try simp only [put_norm]
                                    refine takeA (i := 13) (d := some 109) (v := ?_) rfl rfl (by kernel_rfl) (by kernel_rfl) (by kernel_rfl) (fun _ _ _ h => h) (Or.inl ⟨by kernel_rfl, ?_⟩) ?_
                                    rotate_left
                                    · intro w; go_simp; try with_reducible rfl
                                    try simp only [put_norm]
                                    refine wpAny_ready (rs := [14]) (by kernel_rfl) (by simp) ?_
                                    refine AllReady.cons rfl (fun K hK => ?_) ?_
                                    · go_simp
                                      refine hK _ _ ?_
                                      clear hK K
                                      refine wpAny_done (by kernel_rfl) ?_ _
                                      clear z1 z1f
                                      have HL11 := Lib.hid (fun k => LS.less (HL10.out.drewN k))
                                      have HB11 := Lib.hid (fun (k : Nat) (u : Value) => (below_drewN HB10.out k).setCell (p := ⟨lb, 1, none⟩) (Nat.le_refl _) u)
                                      go_wp2_with fail
                                      go_roundw
                                      case rel => exact ⟨k + 1, os', _, _, by omega, by go_num, Lib.hid (HB11.out _ _), Lib.hid (HL11.out _), Lib.hid ⟨ho10, HG10.out⟩⟩
                                      case measure => simp [intOf]; omega
                                    exact AllReady.nil
                                  exact AllReady.nil
                                exact AllReady.nil
                              refine AllReady.cons rfl (fun K hK => ?_) ?_
                              · go_simp
                                refine hK _ _ ?_
                                clear hK K
                                refine wpAny_ready (rs := [4, 9]) (by kernel_rfl) (by simp) ?_
                                refine AllReady.cons rfl (fun K hK => ?_) ?_
                                · go_simp
                                  refine hK _ _ ?_
                                  clear hK K
                                  refine wpAny_ready (rs := [9]) (by kernel_rfl) (by simp) ?_
                                  refine AllReady.cons rfl (fun K hK => ?_) ?_
                                  · go_simp
                                    refine hK _ _ ?_
                                    clear hK K
                                    refine takeA (i := 10) (d := some 106) (v := ?_) rfl rfl (by kernel_rfl) (by kernel_rfl) (by kernel_rfl) (fun _ _ _ h => h) (Or.inl ⟨by kernel_rfl, ?_⟩) ?_
                                    rotate_left
                                    · intro w; go_simp; try with_reducible rfl
                                    try simp only [put_norm]
                                    refine takeA (i := 11) (d := some 107) (v := ?_) rfl rfl (by kernel_rfl) (by kernel_rfl) (by kernel_rfl) (fun _ _ _ h => h) (Or.inl ⟨by kernel_rfl, ?_⟩) ?_
                                    rotate_left
                                    · intro w; go_simp; try with_reducible rfl
                                    try simp only [put_norm]
                                    refine takeA (i := 12) (d := some 108) (v := ?_) rfl rfl (by kernel_rfl) (by kernel_rfl) (by kernel_rfl) (fun _ _ _ h => h) (Or.inl ⟨by kernel_rfl, ?_⟩) ?_
                                    rotate_left
                                    · intro w; go_simp; try with_reducible rfl
                                    try simp only [put_norm]
                                    refine takeA (i := 13) (d := some 109) (v := ?_) rfl rfl (by kernel_rfl) (by kernel_rfl) (by kernel_rfl) (fun _ _ _ h => h) (Or.inl ⟨by kernel_rfl, ?_⟩) ?_
                                    rotate_left
                                    · intro w; go_simp; try with_reducible rfl
                                    try simp only [put_norm]
                                    refine wpAny_ready (rs := [14]) (by kernel_rfl) (by simp) ?_
                                    refine AllReady.cons rfl (fun K hK => ?_) ?_
                                    · go_simp
                                      refine hK _ _ ?_
                                      clear hK K
                                      refine wpAny_done (by kernel_rfl) ?_ _
                                      clear z1 z1f
                                      have HL11 := Lib.hid (fun k => LS.less (HL10.out.drewN k))
                                      have HB11 := Lib.hid (fun (k : Nat) (u : Value) => (below_drewN HB10.out k).setCell (p := ⟨lb, 1, none⟩) (Nat.le_refl _) u)
                                      go_wp2_with fail
                                      go_roundw
                                      case rel => exact ⟨k + 1, os', _, _, by omega, by go_num, Lib.hid (HB11.out _ _), Lib.hid (HL11.out _), Lib.hid ⟨ho10, HG10.out⟩⟩
                                      case measure => simp [intOf]; omega
                                    exact AllReady.nil
                                  exact AllReady.nil
                                refine AllReady.cons rfl (fun K hK => ?_) ?_
                                · go_simp
                                  refine hK _ _ ?_
                                  clear hK K
                                  refine takeA (i := 10) (d := some 106) (v := ?_) rfl rfl (by kernel_rfl) (by kernel_rfl) (by kernel_rfl) (fun _ _ _ h => h) (Or.inl ⟨by kernel_rfl, ?_⟩) ?_
                                  rotate_left
                                  · intro w; go_simp; try with_reducible rfl
                                  try simp only [put_norm]
                                  refine wpAny_ready (rs := [4]) (by kernel_rfl) (by simp) ?_
                                  refine AllReady.cons rfl (fun K hK => ?_) ?_
                                  · go_simp
                                    refine hK _ _ ?_
                                    clear hK K
                                    refine takeA (i := 11) (d := some 107) (v := ?_) rfl rfl (by kernel_rfl) (by kernel_rfl) (by kernel_rfl) (fun _ _ _ h => h) (Or.inl ⟨by kernel_rfl, ?_⟩) ?_
                                    rotate_left
                                    · intro w; go_simp; try with_reducible rfl
                                    try simp only [put_norm]
                                    refine takeA (i := 12) (d := some 108) (v := ?_) rfl rfl (by kernel_rfl) (by kernel_rfl) (by kernel_rfl) (fun _ _ _ h => h) (Or.inl ⟨by kernel_rfl, ?_⟩) ?_
                                    rotate_left
                                    · intro w; go_simp; try with_reducible rfl
                                    try simp only [put_norm]
                                    refine takeA (i := 13) (d := some 109) (v := ?_) rfl rfl (by kernel_rfl) (by kernel_rfl) (by kernel_rfl) (fun _ _ _ h => h) (Or.inl ⟨by kernel_rfl, ?_⟩) ?_
                                    rotate_left
                                    · intro w; go_simp; try with_reducible rfl
                                    try simp only [put_norm]
                                    refine wpAny_ready (rs := [14]) (by kernel_rfl) (by simp) ?_
                                    refine AllReady.cons rfl (fun K hK => ?_) ?_
                                    · go_simp
                                      refine hK _ _ ?_
                                      clear hK K
                                      refine wpAny_done (by kernel_rfl) ?_ _
                                      clear z1 z1f
                                      have HL11 := Lib.hid (fun k => LS.less (HL10.out.drewN k))
                                      have HB11 := Lib.hid (fun (k : Nat) (u : Value) => (below_drewN HB10.out k).setCell (p := ⟨lb, 1, none⟩) (Nat.le_refl _) u)
                                      go_wp2_with fail
                                      go_roundw
                                      case rel => exact ⟨k + 1, os', _, _, by omega, by go_num, Lib.hid (HB11.out _ _), Lib.hid (HL11.out _), Lib.hid ⟨ho10, HG10.out⟩⟩
                                      case measure => simp [intOf]; omega
                                    exact AllReady.nil
                                  exact AllReady.nil
                                exact AllReady.nil
                              exact AllReady.nil
                          exact AllReady.nil
                        exact AllReady.nil
                      exact AllReady.nil
                    exact AllReady.nil
                  refine AllReady.cons rfl (fun K hK => ?_) ?_
                  · go_simp
                    refine hK _ _ ?_
                    clear hK K
                    refine wpAny_ready (rs := [4, 7]) (by kernel_rfl) (by simp) ?_
                    refine AllReady.cons rfl (fun K hK => ?_) ?_
                    · go_simp
                      refine hK _ _ ?_
                      clear hK K
                      refine wpAny_ready (rs := [7]) (by kernel_rfl) (by simp) ?_
                      refine AllReady.cons rfl (fun K hK => ?_) ?_
                      · go_simp
                        refine hK _ _ ?_
                        clear hK K
                        refine wpAny_ready (rs := [8]) (by kernel_rfl) (by simp) ?_
                        refine AllReady.cons rfl (fun K hK => ?_) ?_
                        · try rw [alloc_drew]
                          refine step_push (by rfl) _ _ 65 (by rfl) (lb + 1) 5 i0 _ 1 1 Try.underlying65 hi hz0 hz1 hz2 rfl (by decide) (.slice P0 l.length cp0) l.length (Lib.byteCells l) (by rfl) (by exact HLb.out.word) #[.int .u8 (b.toNat : Int)] (by rfl) (by intro x hx; simp at hx; subst hx; rfl) (by rfl) (by unfold maxLen; omega) (by omega) (by exact hltb) ?_
                          intro gg cc w9 hown hg9
                          have HP := Lib.hid (pushed (HLb.out.drewN _) (below_drewN HBb.out _) HEb.out hown hg9)
                          clear hown hg9
                          obtain ⟨c9, f9⟩ := HP.out.1
                          refine hK _ _ ?_
                          clear hK K
                          refine takeA (i := 9) (d := some 88) (v := ?_) rfl rfl (by kernel_rfl) (by kernel_rfl) (by kernel_rfl) (fun _ _ _ h => h) (Or.inl ⟨by kernel_rfl, ?_⟩) ?_
                          rotate_left
                          · intro w; go_simp; try with_reducible rfl
                          try simp only [put_norm]
                          refine takeA (i := 10) (d := some 89) (v := ?_) rfl rfl (by kernel_rfl) (by kernel_rfl) (by kernel_rfl) (fun _ _ _ h => h) (Or.inl ⟨by kernel_rfl, ?_⟩) ?_
                          rotate_left
                          · intro w; go_simp; try with_reducible rfl
                          try simp only [put_norm]
                          refine wpAny_ready (rs := [11]) (by kernel_rfl) (by simp) ?_
                          refine AllReady.cons rfl (fun K hK => ?_) ?_
                          · go_simp
                            refine hK _ _ ?_
                            clear hK K
                            refine wpAny_done (by kernel_rfl) ?_ _
                            clear c9 f9 y1 y1a y1c x0
                            have x19 := (HP.out.2 (.slice (some ⟨gg, 0, none⟩) (l.length + 1) cc)).2.1
                            go_wp2_with fail
                            refine (HIH.out q' _ _ (l ++ [b]) os1 _ _ HLW.out ((HP.out.2 _).1 rfl) (HA.out.low (HP.out.2 _).2.2) HAb.out HGr.out.2 HO8.out (by rw [List.length_append, List.length_singleton]; omega) (by first | exact Nat.zero_le _ | exact ext_le _ _ _ _ hfr)).mono ?_
                            rintro e w10 ⟨r, l', os', wv', ov', rfl, b10, hL10, hr10, ho10, hg10⟩
                            have HB10 := Lib.hid ((HP.out.2 (.slice (some ⟨gg, 0, none⟩) (l.length + 1) cc)).2.2.trans b10)
                            cases r
                            · have HL10 := Lib.hid hL10
                              have HG10 := Lib.hid hg10
                              clear hL10 hg10 b10 hr10 x19
                              go_wp2_with fail
                              go_ret
                              exact ⟨false, l', os', wv', ov', rfl, HB10.out, HL10.out, (fun hf => by cases hf), ho10, HG10.out⟩
                            · obtain ⟨rfl, ho10'⟩ := hr10 rfl
                              obtain ⟨g3, c3, rfl, hc3⟩ := word_form hL10
                              have HL10 := Lib.hid hL10
                              have HG10 := Lib.hid hg10
                              clear hL10 hg10 b10 hr10 x19
                              have z1 := HL10.out.cells.2.1
                              have z1f := HL10.out.cells.2.2.2.2.1
                              have hz10 := HL10.out.lt
                              have hw15 : IntKind.i64.wrap (l.length : Int) = (l.length : Int) := by rw [IntKind.wrap_i64]; omega
                              have hc15 : (l.length : Int) ≤ (c3 : Int) := by omega
                              go_wp2_with fail
                              refine wp_region_any (by kernel_rfl) ?_
                              try (change wpAny _ _ _ _ _ _ _ (World.drew _))
                              refine takeA (i := 0) (d := some 96) (v := ?_) rfl rfl (by kernel_rfl) (by kernel_rfl) (by kernel_rfl) (fun _ _ _ h => h) (Or.inl ⟨by kernel_rfl, ?_⟩) ?_
                              rotate_left
                              · intro w; go_simp; try with_reducible rfl
                              try simp only [put_norm]
                              refine takeA (i := 1) (d := some 97) (v := ?_) rfl rfl (by kernel_rfl) (by kernel_rfl) (by kernel_rfl) (fun _ _ _ h => h) (Or.inl ⟨by kernel_rfl, ?_⟩) ?_
                              rotate_left
                              · intro w; go_simp; try with_reducible rfl
                              try simp only [put_norm]
                              refine takeA (i := 2) (d := some 98) (v := ?_) rfl rfl (by kernel_rfl) (by kernel_rfl) (by kernel_rfl) (fun _ _ _ h => h) (Or.inl ⟨by kernel_rfl, ?_⟩) ?_
                              rotate_left
                              · intro w; go_simp; try with_reducible rfl
                              try simp only [put_norm]
                              refine takeA (i := 3) (d := some 99) (v := ?_) rfl rfl (by kernel_rfl) (by kernel_rfl) (by kernel_rfl) (fun _ _ _ h => h) (Or.inl ⟨by kernel_rfl, ?_⟩) ?_
                              rotate_left
                              · intro w; go_simp; try with_reducible rfl
                              try simp only [put_norm]
                              refine takeA (i := 5) (d := some 101) (v := ?_) rfl rfl (by kernel_rfl) (by kernel_rfl) (by kernel_rfl) (fun _ _ _ h => h) (Or.inl ⟨by kernel_rfl, ?_⟩) ?_
                              rotate_left
                              · intro w; go_simp; try with_reducible rfl
                              try simp only [put_norm]
                              refine takeA (i := 6) (d := some 102) (v := ?_) rfl rfl (by kernel_rfl) (by kernel_rfl) (by kernel_rfl) (fun _ _ _ h => h) (Or.inl ⟨by kernel_rfl, ?_⟩) ?_
                              rotate_left
                              · intro w; go_simp; try with_reducible rfl
                              try simp only [put_norm]
                              refine takeA (i := 7) (d := some 103) (v := ?_) rfl rfl (by kernel_rfl) (by kernel_rfl) (by kernel_rfl) (fun _ _ _ h => h) (Or.inl ⟨by kernel_rfl, ?_⟩) ?_
                              rotate_left
                              · intro w; go_simp; try with_reducible rfl
                              try simp only [put_norm]
                              refine wpAny_ready (rs := [4, 8]) (by kernel_rfl) (by simp) ?_
                              refine AllReady.cons rfl (fun K hK => ?_) ?_
                              · go_simp
                                refine hK _ _ ?_
                                clear hK K
                                refine wpAny_ready (rs := [8]) (by kernel_rfl) (by simp) ?_
                                refine AllReady.cons rfl (fun K hK => ?_) ?_
                                · go_simp
                                  refine hK _ _ ?_
                                  clear hK K
                                  refine wpAny_ready (rs := [9]) (by kernel_rfl) (by simp) ?_
                                  refine AllReady.cons rfl (fun K hK => ?_) ?_
                                  · go_simp
                                    refine hK _ _ ?_
                                    clear hK K
                                    refine takeA (i := 10) (d := some 106) (v := ?_) rfl rfl (by kernel_rfl) (by kernel_rfl) (by kernel_rfl) (fun _ _ _ h => h) (Or.inl ⟨by kernel_rfl, ?_⟩) ?_
                                    rotate_left
                                    · intro w; go_simp; try with_reducible rfl
                                    try simp only [put_norm]
                                    refine takeA (i := 11) (d := some 107) (v := ?_) rfl rfl (by kernel_rfl) (by kernel_rfl) (by kernel_rfl) (fun _ _ _ h => h) (Or.inl ⟨by kernel_rfl, ?_⟩) ?_
                                    rotate_left
                                    · intro w; go_simp; try with_reducible rfl
                                    try simp only [put_norm]
                                    refine takeA (i := 12) (d := some 108) (v := ?_) rfl rfl (by kernel_rfl) (by kernel_rfl) (by kernel_rfl) (fun _ _ _ h => h) (Or.inl ⟨by kernel_rfl, ?_⟩) ?_
                                    rotate_left
                                    · intro w; go_simp; try with_reducible rfl
                                    try simp only [put_norm]
                                    refine takeA (i := 13) (d := some 109) (v := ?_) rfl rfl (by kernel_rfl) (by kernel_rfl) (by kernel_rfl) (fun _ _ _ h => h) (Or.inl ⟨by kernel_rfl, ?_⟩) ?_
                                    rotate_left
                                    · intro w; go_simp; try with_reducible rfl
                                    try simp only [put_norm]
                                    refine wpAny_ready (rs := [14]) (by kernel_rfl) (by simp) ?_
                                    refine AllReady.cons rfl (fun K hK => ?_) ?_
                                    · go_simp
                                      refine hK _ _ ?_
                                      clear hK K
                                      refine wpAny_done (by kernel_rfl) ?_ _
                                      clear z1 z1f
                                      have HL11 := Lib.hid (fun k => LS.less (HL10.out.drewN k))
                                      have HB11 := Lib.hid (fun (k : Nat) (u : Value) => (below_drewN HB10.out k).setCell (p := ⟨lb, 1, none⟩) (Nat.le_refl _) u)
                                      go_wp2_with fail
                                      go_roundw
                                      case rel => exact ⟨k + 1, os', _, _, by omega, by go_num, Lib.hid (HB11.out _ _), Lib.hid (HL11.out _), Lib.hid ⟨ho10, HG10.out⟩⟩
                                      case measure => simp [intOf]; omega
                                    exact AllReady.nil
                                  exact AllReady.nil
                                exact AllReady.nil
                              refine AllReady.cons rfl (fun K hK => ?_) ?_
                              · go_simp
                                refine hK _ _ ?_
                                clear hK K
                                refine wpAny_ready (rs := [4, 9]) (by kernel_rfl) (by simp) ?_
                                refine AllReady.cons rfl (fun K hK => ?_) ?_
                                · go_simp
                                  refine hK _ _ ?_
                                  clear hK K
                                  refine wpAny_ready (rs := [9]) (by kernel_rfl) (by simp) ?_
                                  refine AllReady.cons rfl (fun K hK => ?_) ?_
                                  · go_simp
                                    refine hK _ _ ?_
                                    clear hK K
                                    refine takeA (i := 10) (d := some 106) (v := ?_) rfl rfl (by kernel_rfl) (by kernel_rfl) (by kernel_rfl) (fun _ _ _ h => h) (Or.inl ⟨by kernel_rfl, ?_⟩) ?_
                                    rotate_left
                                    · intro w; go_simp; try with_reducible rfl
                                    try simp only [put_norm]
                                    refine takeA (i := 11) (d := some 107) (v := ?_) rfl rfl (by kernel_rfl) (by kernel_rfl) (by kernel_rfl) (fun _ _ _ h => h) (Or.inl ⟨by kernel_rfl, ?_⟩) ?_
                                    rotate_left
                                    · intro w; go_simp; try with_reducible rfl
                                    try simp only [put_norm]
                                    refine takeA (i := 12) (d := some 108) (v := ?_) rfl rfl (by kernel_rfl) (by kernel_rfl) (by kernel_rfl) (fun _ _ _ h => h) (Or.inl ⟨by kernel_rfl, ?_⟩) ?_
                                    rotate_left
                                    · intro w; go_simp; try with_reducible rfl
                                    try simp only [put_norm]
                                    refine takeA (i := 13) (d := some 109) (v := ?_) rfl rfl (by kernel_rfl) (by kernel_rfl) (by kernel_rfl) (fun _ _ _ h => h) (Or.inl ⟨by kernel_rfl, ?_⟩) ?_
                                    rotate_left
                                    · intro w; go_simp; try with_reducible rfl
                                    try simp only [put_norm]
                                    refine wpAny_ready (rs := [14]) (by kernel_rfl) (by simp) ?_
                                    refine AllReady.cons rfl (fun K hK => ?_) ?_
                                    · go_simp
                                      refine hK _ _ ?_
                                      clear hK K
                                      refine wpAny_done (by kernel_rfl) ?_ _
                                      clear z1 z1f
                                      have HL11 := Lib.hid (fun k => LS.less (HL10.out.drewN k))
                                      have HB11 := Lib.hid (fun (k : Nat) (u : Value) => (below_drewN HB10.out k).setCell (p := ⟨lb, 1, none⟩) (Nat.le_refl _) u)
                                      go_wp2_with fail
                                      go_roundw
                                      case rel => exact ⟨k + 1, os', _, _, by omega, by go_num, Lib.hid (HB11.out _ _), Lib.hid (HL11.out _), Lib.hid ⟨ho10, HG10.out⟩⟩
                                      case measure => simp [intOf]; omega
                                    exact AllReady.nil
                                  exact AllReady.nil
                                refine AllReady.cons rfl (fun K hK => ?_) ?_
                                · go_simp
                                  refine hK _ _ ?_
                                  clear hK K
                                  refine takeA (i := 10) (d := some 106) (v := ?_) rfl rfl (by kernel_rfl) (by kernel_rfl) (by kernel_rfl) (fun _ _ _ h => h) (Or.inl ⟨by kernel_rfl, ?_⟩) ?_
                                  rotate_left
                                  · intro w; go_simp; try with_reducible rfl
                                  try simp only [put_norm]
                                  refine wpAny_ready (rs := [4]) (by kernel_rfl) (by simp) ?_
                                  refine AllReady.cons rfl (fun K hK => ?_) ?_
                                  · go_simp
                                    refine hK _ _ ?_
                                    clear hK K
                                    refine takeA (i := 11) (d := some 107) (v := ?_) rfl rfl (by kernel_rfl) (by kernel_rfl) (by kernel_rfl) (fun _ _ _ h => h) (Or.inl ⟨by kernel_rfl, ?_⟩) ?_
                                    rotate_left
                                    · intro w; go_simp; try with_reducible rfl
                                    try simp only [put_norm]
                                    refine takeA (i := 12) (d := some 108) (v := ?_) rfl rfl (by kernel_rfl) (by kernel_rfl) (by kernel_rfl) (fun _ _ _ h => h) (Or.inl ⟨by kernel_rfl, ?_⟩) ?_
                                    rotate_left
                                    · intro w; go_simp; try with_reducible rfl
                                    try simp only [put_norm]
                                    refine takeA (i := 13) (d := some 109) (v := ?_) rfl rfl (by kernel_rfl) (by kernel_rfl) (by kernel_rfl) (fun _ _ _ h => h) (Or.inl ⟨by kernel_rfl, ?_⟩) ?_
                                    rotate_left
                                    · intro w; go_simp; try with_reducible rfl
                                    try simp only [put_norm]
                                    refine wpAny_ready (rs := [14]) (by kernel_rfl) (by simp) ?_
                                    refine AllReady.cons rfl (fun K hK => ?_) ?_
                                    · go_simp
                                      refine hK _ _ ?_
                                      clear hK K
                                      refine wpAny_done (by kernel_rfl) ?_ _
                                      clear z1 z1f
                                      have HL11 := Lib.hid (fun k => LS.less (HL10.out.drewN k))
                                      have HB11 := Lib.hid (fun (k : Nat) (u : Value) => (below_drewN HB10.out k).setCell (p := ⟨lb, 1, none⟩) (Nat.le_refl _) u)
                                      go_wp2_with fail
                                      go_roundw
                                      case rel => exact ⟨k + 1, os', _, _, by omega, by go_num, Lib.hid (HB11.out _ _), Lib.hid (HL11.out _), Lib.hid ⟨ho10, HG10.out⟩⟩
                                      case measure => simp [intOf]; omega
                                    exact AllReady.nil
                                  exact AllReady.nil
                                exact AllReady.nil
                              exact AllReady.nil
                          exact AllReady.nil
                        exact AllReady.nil
                      exact AllReady.nil
                    refine AllReady.cons rfl (fun K hK => ?_) ?_
                    · go_simp
                      refine hK _ _ ?_
                      clear hK K
                      refine wpAny_ready (rs := [4]) (by kernel_rfl) (by simp) ?_
                      refine AllReady.cons rfl (fun K hK => ?_) ?_
                      · go_simp
                        refine hK _ _ ?_
                        clear hK K
                        refine wpAny_ready (rs := [8]) (by kernel_rfl) (by simp) ?_
                        refine AllReady.cons rfl (fun K hK => ?_) ?_
                        · try rw [alloc_drew]
                          refine step_push (by rfl) _ _ 65 (by rfl) (lb + 1) 5 i0 _ 1 1 Try.underlying65 hi hz0 hz1 hz2 rfl (by decide) (.slice P0 l.length cp0) l.length (Lib.byteCells l) (by rfl) (by exact HLb.out.word) #[.int .u8 (b.toNat : Int)] (by rfl) (by intro x hx; simp at hx; subst hx; rfl) (by rfl) (by unfold maxLen; omega) (by omega) (by exact hltb) ?_
                          intro gg cc w9 hown hg9
                          have HP := Lib.hid (pushed (HLb.out.drewN _) (below_drewN HBb.out _) HEb.out hown hg9)
                          clear hown hg9
                          obtain ⟨c9, f9⟩ := HP.out.1
                          refine hK _ _ ?_
                          clear hK K
                          refine takeA (i := 9) (d := some 88) (v := ?_) rfl rfl (by kernel_rfl) (by kernel_rfl) (by kernel_rfl) (fun _ _ _ h => h) (Or.inl ⟨by kernel_rfl, ?_⟩) ?_
                          rotate_left
                          · intro w; go_simp; try with_reducible rfl
                          try simp only [put_norm]
                          refine takeA (i := 10) (d := some 89) (v := ?_) rfl rfl (by kernel_rfl) (by kernel_rfl) (by kernel_rfl) (fun _ _ _ h => h) (Or.inl ⟨by kernel_rfl, ?_⟩) ?_
                          rotate_left
                          · intro w; go_simp; try with_reducible rfl
                          try simp only [put_norm]
                          refine wpAny_ready (rs := [11]) (by kernel_rfl) (by simp) ?_
                          refine AllReady.cons rfl (fun K hK => ?_) ?_
                          · go_simp
                            refine hK _ _ ?_
                            clear hK K
                            refine wpAny_done (by kernel_rfl) ?_ _
                            clear c9 f9 y1 y1a y1c x0
                            have x19 := (HP.out.2 (.slice (some ⟨gg, 0, none⟩) (l.length + 1) cc)).2.1
                            go_wp2_with fail
                            refine (HIH.out q' _ _ (l ++ [b]) os1 _ _ HLW.out ((HP.out.2 _).1 rfl) (HA.out.low (HP.out.2 _).2.2) HAb.out HGr.out.2 HO8.out (by rw [List.length_append, List.length_singleton]; omega) (by first | exact Nat.zero_le _ | exact ext_le _ _ _ _ hfr)).mono ?_
                            rintro e w10 ⟨r, l', os', wv', ov', rfl, b10, hL10, hr10, ho10, hg10⟩
                            have HB10 := Lib.hid ((HP.out.2 (.slice (some ⟨gg, 0, none⟩) (l.length + 1) cc)).2.2.trans b10)
                            cases r
                            · have HL10 := Lib.hid hL10
                              have HG10 := Lib.hid hg10
                              clear hL10 hg10 b10 hr10 x19
                              go_wp2_with fail
                              go_ret
                              exact ⟨false, l', os', wv', ov', rfl, HB10.out, HL10.out, (fun hf => by cases hf), ho10, HG10.out⟩
                            · obtain ⟨rfl, ho10'⟩ := hr10 rfl
                              obtain ⟨g3, c3, rfl, hc3⟩ := word_form hL10
                              have HL10 := Lib.hid hL10
                              have HG10 := Lib.hid hg10
                              clear hL10 hg10 b10 hr10 x19
                              have z1 := HL10.out.cells.2.1
                              have z1f := HL10.out.cells.2.2.2.2.1
                              have hz10 := HL10.out.lt
                              have hw15 : IntKind.i64.wrap (l.length : Int) = (l.length : Int) := by rw [IntKind.wrap_i64]; omega
                              have hc15 : (l.length : Int) ≤ (c3 : Int) := by omega
                              go_wp2_with fail
                              refine wp_region_any (by kernel_rfl) ?_
                              try (change wpAny _ _ _ _ _ _ _ (World.drew _))
                              refine takeA (i := 0) (d := some 96) (v := ?_) rfl rfl (by kernel_rfl) (by kernel_rfl) (by kernel_rfl) (fun _ _ _ h => h) (Or.inl ⟨by kernel_rfl, ?_⟩) ?_
                              rotate_left
                              · intro w; go_simp; try with_reducible rfl
                              try simp only [put_norm]
                              refine takeA (i := 1) (d := some 97) (v := ?_) rfl rfl (by kernel_rfl) (by kernel_rfl) (by kernel_rfl) (fun _ _ _ h => h) (Or.inl ⟨by kernel_rfl, ?_⟩) ?_
                              rotate_left
                              · intro w; go_simp; try with_reducible rfl
                              try simp only [put_norm]
                              refine takeA (i := 2) (d := some 98) (v := ?_) rfl rfl (by kernel_rfl) (by kernel_rfl) (by kernel_rfl) (fun _ _ _ h => h) (Or.inl ⟨by kernel_rfl, ?_⟩) ?_
                              rotate_left
                              · intro w; go_simp; try with_reducible rfl
                              try simp only [put_norm]
                              refine takeA (i := 3) (d := some 99) (v := ?_) rfl rfl (by kernel_rfl) (by kernel_rfl) (by kernel_rfl) (fun _ _ _ h => h) (Or.inl ⟨by kernel_rfl, ?_⟩) ?_
                              rotate_left
                              · intro w; go_simp; try with_reducible rfl
                              try simp only [put_norm]
                              refine takeA (i := 5) (d := some 101) (v := ?_) rfl rfl (by kernel_rfl) (by kernel_rfl) (by kernel_rfl) (fun _ _ _ h => h) (Or.inl ⟨by kernel_rfl, ?_⟩) ?_
                              rotate_left
                              · intro w; go_simp; try with_reducible rfl
                              try simp only [put_norm]
                              refine takeA (i := 6) (d := some 102) (v := ?_) rfl rfl (by kernel_rfl) (by kernel_rfl) (by kernel_rfl) (fun _ _ _ h => h) (Or.inl ⟨by kernel_rfl, ?_⟩) ?_
                              rotate_left
                              · intro w; go_simp; try with_reducible rfl
                              try simp only [put_norm]
                              refine takeA (i := 7) (d := some 103) (v := ?_) rfl rfl (by kernel_rfl) (by kernel_rfl) (by kernel_rfl) (fun _ _ _ h => h) (Or.inl ⟨by kernel_rfl, ?_⟩) ?_
                              rotate_left
                              · intro w; go_simp; try with_reducible rfl
                              try simp only [put_norm]
                              refine wpAny_ready (rs := [4, 8]) (by kernel_rfl) (by simp) ?_
                              refine AllReady.cons rfl (fun K hK => ?_) ?_
                              · go_simp
                                refine hK _ _ ?_
                                clear hK K
                                refine wpAny_ready (rs := [8]) (by kernel_rfl) (by simp) ?_
                                refine AllReady.cons rfl (fun K hK => ?_) ?_
                                · go_simp
                                  refine hK _ _ ?_
                                  clear hK K
                                  refine wpAny_ready (rs := [9]) (by kernel_rfl) (by simp) ?_
                                  refine AllReady.cons rfl (fun K hK => ?_) ?_
                                  · go_simp
                                    refine hK _ _ ?_
                                    clear hK K
                                    refine takeA (i := 10) (d := some 106) (v := ?_) rfl rfl (by kernel_rfl) (by kernel_rfl) (by kernel_rfl) (fun _ _ _ h => h) (Or.inl ⟨by kernel_rfl, ?_⟩) ?_
                                    rotate_left
                                    · intro w; go_simp; try with_reducible rfl
                                    try simp only [put_norm]
                                    refine takeA (i := 11) (d := some 107) (v := ?_) rfl rfl (by kernel_rfl) (by kernel_rfl) (by kernel_rfl) (fun _ _ _ h => h) (Or.inl ⟨by kernel_rfl, ?_⟩) ?_
                                    rotate_left
                                    · intro w; go_simp; try with_reducible rfl
                                    try simp only [put_norm]
                                    refine takeA (i := 12) (d := some 108) (v := ?_) rfl rfl (by kernel_rfl) (by kernel_rfl) (by kernel_rfl) (fun _ _ _ h => h) (Or.inl ⟨by kernel_rfl, ?_⟩) ?_
                                    rotate_left
                                    · intro w; go_simp; try with_reducible rfl
                                    try simp only [put_norm]
                                    refine takeA (i := 13) (d := some 109) (v := ?_) rfl rfl (by kernel_rfl) (by kernel_rfl) (by kernel_rfl) (fun _ _ _ h => h) (Or.inl ⟨by kernel_rfl, ?_⟩) ?_
                                    rotate_left
                                    · intro w; go_simp; try with_reducible rfl
                                    try simp only [put_norm]
                                    refine wpAny_ready (rs := [14]) (by kernel_rfl) (by simp) ?_
                                    refine AllReady.cons rfl (fun K hK => ?_) ?_
                                    · go_simp
                                      refine hK _ _ ?_
                                      clear hK K
                                      refine wpAny_done (by kernel_rfl) ?_ _
                                      clear z1 z1f
                                      have HL11 := Lib.hid (fun k => LS.less (HL10.out.drewN k))
                                      have HB11 := Lib.hid (fun (k : Nat) (u : Value) => (below_drewN HB10.out k).setCell (p := ⟨lb, 1, none⟩) (Nat.le_refl _) u)
                                      go_wp2_with fail
                                      go_roundw
                                      case rel => exact ⟨k + 1, os', _, _, by omega, by go_num, Lib.hid (HB11.out _ _), Lib.hid (HL11.out _), Lib.hid ⟨ho10, HG10.out⟩⟩
                                      case measure => simp [intOf]; omega
                                    exact AllReady.nil
                                  exact AllReady.nil
                                exact AllReady.nil
                              refine AllReady.cons rfl (fun K hK => ?_) ?_
                              · go_simp
                                refine hK _ _ ?_
                                clear hK K
                                refine wpAny_ready (rs := [4, 9]) (by kernel_rfl) (by simp) ?_
                                refine AllReady.cons rfl (fun K hK => ?_) ?_
                                · go_simp
                                  refine hK _ _ ?_
                                  clear hK K
                                  refine wpAny_ready (rs := [9]) (by kernel_rfl) (by simp) ?_
                                  refine AllReady.cons rfl (fun K hK => ?_) ?_
                                  · go_simp
                                    refine hK _ _ ?_
                                    clear hK K
                                    refine takeA (i := 10) (d := some 106) (v := ?_) rfl rfl (by kernel_rfl) (by kernel_rfl) (by kernel_rfl) (fun _ _ _ h => h) (Or.inl ⟨by kernel_rfl, ?_⟩) ?_
                                    rotate_left
                                    · intro w; go_simp; try with_reducible rfl
                                    try simp only [put_norm]
                                    refine takeA (i := 11) (d := some 107) (v := ?_) rfl rfl (by kernel_rfl) (by kernel_rfl) (by kernel_rfl) (fun _ _ _ h => h) (Or.inl ⟨by kernel_rfl, ?_⟩) ?_
                                    rotate_left
                                    · intro w; go_simp; try with_reducible rfl
                                    try simp only [put_norm]
                                    refine takeA (i := 12) (d := some 108) (v := ?_) rfl rfl (by kernel_rfl) (by kernel_rfl) (by kernel_rfl) (fun _ _ _ h => h) (Or.inl ⟨by kernel_rfl, ?_⟩) ?_
                                    rotate_left
                                    · intro w; go_simp; try with_reducible rfl
                                    try simp only [put_norm]
                                    refine takeA (i := 13) (d := some 109) (v := ?_) rfl rfl (by kernel_rfl) (by kernel_rfl) (by kernel_rfl) (fun _ _ _ h => h) (Or.inl ⟨by kernel_rfl, ?_⟩) ?_
                                    rotate_left
                                    · intro w; go_simp; try with_reducible rfl
                                    try simp only [put_norm]
                                    refine wpAny_ready (rs := [14]) (by kernel_rfl) (by simp) ?_
                                    refine AllReady.cons rfl (fun K hK => ?_) ?_
                                    · go_simp
                                      refine hK _ _ ?_
                                      clear hK K
                                      refine wpAny_done (by kernel_rfl) ?_ _
                                      clear z1 z1f
                                      have HL11 := Lib.hid (fun k => LS.less (HL10.out.drewN k))
                                      have HB11 := Lib.hid (fun (k : Nat) (u : Value) => (below_drewN HB10.out k).setCell (p := ⟨lb, 1, none⟩) (Nat.le_refl _) u)
                                      go_wp2_with fail
                                      go_roundw
                                      case rel => exact ⟨k + 1, os', _, _, by omega, by go_num, Lib.hid (HB11.out _ _), Lib.hid (HL11.out _), Lib.hid ⟨ho10, HG10.out⟩⟩
                                      case measure => simp [intOf]; omega
                                    exact AllReady.nil
                                  exact AllReady.nil
                                refine AllReady.cons rfl (fun K hK => ?_) ?_
                                · go_simp
                                  refine hK _ _ ?_
                                  clear hK K
                                  refine takeA (i := 10) (d := some 106) (v := ?_) rfl rfl (by kernel_rfl) (by kernel_rfl) (by kernel_rfl) (fun _ _ _ h => h) (Or.inl ⟨by kernel_rfl, ?_⟩) ?_
                                  rotate_left
                                  · intro w; go_simp; try with_reducible rfl
                                  try simp only [put_norm]
                                  refine wpAny_ready (rs := [4]) (by kernel_rfl) (by simp) ?_
                                  refine AllReady.cons rfl (fun K hK => ?_) ?_
                                  · go_simp
                                    refine hK _ _ ?_
                                    clear hK K
                                    refine takeA (i := 11) (d := some 107) (v := ?_) rfl rfl (by kernel_rfl) (by kernel_rfl) (by kernel_rfl) (fun _ _ _ h => h) (Or.inl ⟨by kernel_rfl, ?_⟩) ?_
                                    rotate_left
                                    · intro w; go_simp; try with_reducible rfl
                                    try simp only [put_norm]
                                    refine takeA (i := 12) (d := some 108) (v := ?_) rfl rfl (by kernel_rfl) (by kernel_rfl) (by kernel_rfl) (fun _ _ _ h => h) (Or.inl ⟨by kernel_rfl, ?_⟩) ?_
                                    rotate_left
                                    · intro w; go_simp; try with_reducible rfl
                                    try simp only [put_norm]
                                    refine takeA (i := 13) (d := some 109) (v := ?_) rfl rfl (by kernel_rfl) (by kernel_rfl) (by kernel_rfl) (fun _ _ _ h => h) (Or.inl ⟨by kernel_rfl, ?_⟩) ?_
                                    rotate_left
                                    · intro w; go_simp; try with_reducible rfl
                                    try simp only [put_norm]
                                    refine wpAny_ready (rs := [14]) (by kernel_rfl) (by simp) ?_
                                    refine AllReady.cons rfl (fun K hK => ?_) ?_
                                    · go_simp
                                      refine hK _ _ ?_
                                      clear hK K
                                      refine wpAny_done (by kernel_rfl) ?_ _
                                      clear z1 z1f
                                      have HL11 := Lib.hid (fun k => LS.less (HL10.out.drewN k))
                                      have HB11 := Lib.hid (fun (k : Nat) (u : Value) => (below_drewN HB10.out k).setCell (p := ⟨lb, 1, none⟩) (Nat.le_refl _) u)
                                      go_wp2_with fail
                                      go_roundw
                                      case rel => exact ⟨k + 1, os', _, _, by omega, by go_num, Lib.hid (HB11.out _ _), Lib.hid (HL11.out _), Lib.hid ⟨ho10, HG10.out⟩⟩
                                      case measure => simp [intOf]; omega
                                    exact AllReady.nil
                                  exact AllReady.nil
                                exact AllReady.nil
                              exact AllReady.nil
                          exact AllReady.nil
                        exact AllReady.nil
                      exact AllReady.nil
                    exact AllReady.nil
                  exact AllReady.nil
                · go_wp2_with fail
                  rw [HWA.out]
                  go_quiet (fail)
                  go_wp2_with fail
                  go_quiet (fail)
                  go_wp2_with fail
                  go_quiet (fail)
                  go_wp2_with fail
                  generalize hwb : World.drewN wa _ = wb
                  have HLb := Lib.hid (show LS wb lb (.slice (some ⟨g, o, none⟩) A.length cap) l os1 (.slice P0 l.length cp0) (.slice P1 os1.length cp1) by rw [← hwb]; exact HLa.out.drewN _)
                  have HBb := Lib.hid (show Below lb w wb by rw [← hwb]; exact below_drewN HBA.out _)
                  have en' : wb.heap[wr.heap.size]? = some (.cells #[.int .u8 (b.toNat : Int), .int .i64 (q' : Int)] 144) := by rw [← hwb]; exact HEN.out
                  clear hwb
                  have x0 : wb.cell? ⟨wr.heap.size, 0, none⟩ = some (.int .u8 (b.toNat : Int)) := by rw [Lib.cell_of_heap en']; rfl
                  have y1 := HLb.out.cells.2.1
                  have y1a : ∀ k ob, ((wb.drewN k).alloc ob).cell? ⟨lb, 1, none⟩ = some (.slice P0 l.length cp0) := fun k ob => ((HLb.out.drewN k).keep ((Below.refl (wb.drewN k).heap.size (wb.drewN k)).alloc (Nat.le_refl _) ob)).cells.2.1
                  have y1c : ∀ ob, (wb.alloc ob).cell? ⟨lb, 1, none⟩ = some (.slice P0 l.length cp0) := fun ob => (HLb.out.keep (below_alloc wb ob)).cells.2.1
                  have HEb := Lib.hid en'
                  have hltb := HLb.out.lt
                  obtain ⟨i0, hi, hz0, hz1, hz2⟩ := info_parts byte_info
                  clear en'
                  have HAb := Lib.hid (along_snoc HAl.out HXQ.out HST.out)
                  refine wp_region_any (by kernel_rfl) ?_
                  try (change wpAny _ _ _ _ _ _ _ (World.drew _))
                  refine takeA (i := 0) (d := some 79) (v := ?_) rfl rfl (by kernel_rfl) (by kernel_rfl) (by kernel_rfl) (fun _ _ _ h => h) (Or.inl ⟨by kernel_rfl, ?_⟩) ?_
                  rotate_left
                  · intro w; go_simp; try with_reducible rfl
                  try simp only [put_norm]
                  refine takeA (i := 1) (d := some 80) (v := ?_) rfl rfl (by kernel_rfl) (by kernel_rfl) (by kernel_rfl) (fun _ _ _ h => h) (Or.inl ⟨by kernel_rfl, ?_⟩) ?_
                  rotate_left
                  · intro w; go_simp; try with_reducible rfl
                  try simp only [put_norm]
                  refine takeA (i := 2) (d := some 81) (v := ?_) rfl rfl (by kernel_rfl) (by kernel_rfl) (by kernel_rfl) (fun _ _ _ h => h) (Or.inl ⟨by kernel_rfl, ?_⟩) ?_
                  rotate_left
                  · intro w; go_simp; try with_reducible rfl
                  try simp only [put_norm]
                  refine takeA (i := 3) (d := some 82) (v := ?_) rfl rfl (by kernel_rfl) (by kernel_rfl) (by kernel_rfl) (fun _ _ _ h => h) (Or.inl ⟨by kernel_rfl, ?_⟩) ?_
                  rotate_left
                  · intro w; go_simp; try with_reducible rfl
                  try simp only [put_norm]
                  refine takeA (i := 5) (d := some 84) (v := ?_) rfl rfl (by kernel_rfl) (by kernel_rfl) (by kernel_rfl) (fun _ _ _ h => h) (Or.inl ⟨by kernel_rfl, ?_⟩) ?_
                  rotate_left
                  · intro w; go_simp; try with_reducible rfl
                  try simp only [put_norm]
                  refine wpAny_ready (rs := [4, 6]) (by kernel_rfl) (by simp) ?_
                  refine AllReady.cons rfl (fun K hK => ?_) ?_
                  · go_simp
                    refine hK _ _ ?_
                    clear hK K
                    refine wpAny_ready (rs := [6]) (by kernel_rfl) (by simp) ?_
                    refine AllReady.cons rfl (fun K hK => ?_) ?_
                    · go_simp
                      refine hK _ _ ?_
                      clear hK K
                      refine wpAny_ready (rs := [7]) (by kernel_rfl) (by simp) ?_
                      refine AllReady.cons rfl (fun K hK => ?_) ?_
                      · go_simp
                        refine hK _ _ ?_
                        clear hK K
                        refine wpAny_ready (rs := [8]) (by kernel_rfl) (by simp) ?_
                        refine AllReady.cons rfl (fun K hK => ?_) ?_
                        · try rw [alloc_drew]
                          refine step_push (by rfl) _ _ 65 (by rfl) (lb + 1) 5 i0 _ 1 1 Try.underlying65 hi hz0 hz1 hz2 rfl (by decide) (.slice P0 l.length cp0) l.length (Lib.byteCells l) (by rfl) (by exact HLb.out.word) #[.int .u8 (b.toNat : Int)] (by rfl) (by intro x hx; simp at hx; subst hx; rfl) (by rfl) (by unfold maxLen; omega) (by omega) (by exact hltb) ?_
                          intro gg cc w9 hown hg9
                          have HP := Lib.hid (pushed (HLb.out.drewN _) (below_drewN HBb.out _) HEb.out hown hg9)
                          clear hown hg9
                          obtain ⟨c9, f9⟩ := HP.out.1
                          refine hK _ _ ?_
                          clear hK K
                          refine takeA (i := 9) (d := some 88) (v := ?_) rfl rfl (by kernel_rfl) (by kernel_rfl) (by kernel_rfl) (fun _ _ _ h => h) (Or.inl ⟨by kernel_rfl, ?_⟩) ?_
                          rotate_left
                          · intro w; go_simp; try with_reducible rfl
                          try simp only [put_norm]
                          refine takeA (i := 10) (d := some 89) (v := ?_) rfl rfl (by kernel_rfl) (by kernel_rfl) (by kernel_rfl) (fun _ _ _ h => h) (Or.inl ⟨by kernel_rfl, ?_⟩) ?_
                          rotate_left
                          · intro w; go_simp; try with_reducible rfl
                          try simp only [put_norm]
                          refine wpAny_ready (rs := [11]) (by kernel_rfl) (by simp) ?_
                          refine AllReady.cons rfl (fun K hK => ?_) ?_
                          · go_simp
                            refine hK _ _ ?_
                            clear hK K
                            refine wpAny_done (by kernel_rfl) ?_ _
                            clear c9 f9 y1 y1a y1c x0
                            have x19 := (HP.out.2 (.slice (some ⟨gg, 0, none⟩) (l.length + 1) cc)).2.1
                            go_wp2_with fail
                            refine (HIH.out q' _ _ (l ++ [b]) os1 _ _ HLW.out ((HP.out.2 _).1 rfl) (HA.out.low (HP.out.2 _).2.2) HAb.out HGr.out.2 HO8.out (by rw [List.length_append, List.length_singleton]; omega) (by first | exact Nat.zero_le _ | exact ext_le _ _ _ _ hfr)).mono ?_
                            rintro e w10 ⟨r, l', os', wv', ov', rfl, b10, hL10, hr10, ho10, hg10⟩
                            have HB10 := Lib.hid ((HP.out.2 (.slice (some ⟨gg, 0, none⟩) (l.length + 1) cc)).2.2.trans b10)
                            cases r
                            · have HL10 := Lib.hid hL10
                              have HG10 := Lib.hid hg10
                              clear hL10 hg10 b10 hr10 x19
                              go_wp2_with fail
                              go_ret
                              exact ⟨false, l', os', wv', ov', rfl, HB10.out, HL10.out, (fun hf => by cases hf), ho10, HG10.out⟩
                            · obtain ⟨rfl, ho10'⟩ := hr10 rfl
                              obtain ⟨g3, c3, rfl, hc3⟩ := word_form hL10
                              have HL10 := Lib.hid hL10
                              have HG10 := Lib.hid hg10
                              clear hL10 hg10 b10 hr10 x19
                              have z1 := HL10.out.cells.2.1
                              have z1f := HL10.out.cells.2.2.2.2.1
                              have hz10 := HL10.out.lt
                              have hw15 : IntKind.i64.wrap (l.length : Int) = (l.length : Int) := by rw [IntKind.wrap_i64]; omega
                              have hc15 : (l.length : Int) ≤ (c3 : Int) := by omega
                              go_wp2_with fail
                              refine wp_region_any (by kernel_rfl) ?_
                              try (change wpAny _ _ _ _ _ _ _ (World.drew _))
                              refine takeA (i := 0) (d := some 96) (v := ?_) rfl rfl (by kernel_rfl) (by kernel_rfl) (by kernel_rfl) (fun _ _ _ h => h) (Or.inl ⟨by kernel_rfl, ?_⟩) ?_
                              rotate_left
                              · intro w; go_simp; try with_reducible rfl
                              try simp only [put_norm]
                              refine takeA (i := 1) (d := some 97) (v := ?_) rfl rfl (by kernel_rfl) (by kernel_rfl) (by kernel_rfl) (fun _ _ _ h => h) (Or.inl ⟨by kernel_rfl, ?_⟩) ?_
                              rotate_left
                              · intro w; go_simp; try with_reducible rfl
                              try simp only [put_norm]
                              refine takeA (i := 2) (d := some 98) (v := ?_) rfl rfl (by kernel_rfl) (by kernel_rfl) (by kernel_rfl) (fun _ _ _ h => h) (Or.inl ⟨by kernel_rfl, ?_⟩) ?_
                              rotate_left
                              · intro w; go_simp; try with_reducible rfl
                              try simp only [put_norm]
                              refine takeA (i := 3) (d := some 99) (v := ?_) rfl rfl (by kernel_rfl) (by kernel_rfl) (by kernel_rfl) (fun _ _ _ h => h) (Or.inl ⟨by kernel_rfl, ?_⟩) ?_
                              rotate_left
                              · intro w; go_simp; try with_reducible rfl
                              try simp only [put_norm]
                              refine takeA (i := 5) (d := some 101) (v := ?_) rfl rfl (by kernel_rfl) (by kernel_rfl) (by kernel_rfl) (fun _ _ _ h => h) (Or.inl ⟨by kernel_rfl, ?_⟩) ?_
                              rotate_left
                              · intro w; go_simp; try with_reducible rfl
                              try simp only [put_norm]
                              refine takeA (i := 6) (d := some 102) (v := ?_) rfl rfl (by kernel_rfl) (by kernel_rfl) (by kernel_rfl) (fun _ _ _ h => h) (Or.inl ⟨by kernel_rfl, ?_⟩) ?_
                              rotate_left
                              · intro w; go_simp; try with_reducible rfl
                              try simp only [put_norm]
                              refine takeA (i := 7) (d := some 103) (v := ?_) rfl rfl (by kernel_rfl) (by kernel_rfl) (by kernel_rfl) (fun _ _ _ h => h) (Or.inl ⟨by kernel_rfl, ?_⟩) ?_
                              rotate_left
                              · intro w; go_simp; try with_reducible rfl
                              try simp only [put_norm]
                              refine wpAny_ready (rs := [4, 8]) (by kernel_rfl) (by simp) ?_
                              refine AllReady.cons rfl (fun K hK => ?_) ?_
                              · go_simp
                                refine hK _ _ ?_
                                clear hK K
                                refine wpAny_ready (rs := [8]) (by kernel_rfl) (by simp) ?_
                                refine AllReady.cons rfl (fun K hK => ?_) ?_
                                · go_simp
                                  refine hK _ _ ?_
                                  clear hK K
                                  refine wpAny_ready (rs := [9]) (by kernel_rfl) (by simp) ?_
                                  refine AllReady.cons rfl (fun K hK => ?_) ?_
                                  · go_simp
                                    refine hK _ _ ?_
                                    clear hK K
                                    refine takeA (i := 10) (d := some 106) (v := ?_) rfl rfl (by kernel_rfl) (by kernel_rfl) (by kernel_rfl) (fun _ _ _ h => h) (Or.inl ⟨by kernel_rfl, ?_⟩) ?_
                                    rotate_left
                                    · intro w; go_simp; try with_reducible rfl
                                    try simp only [put_norm]
                                    refine takeA (i := 11) (d := some 107) (v := ?_) rfl rfl (by kernel_rfl) (by kernel_rfl) (by kernel_rfl) (fun _ _ _ h => h) (Or.inl ⟨by kernel_rfl, ?_⟩) ?_
                                    rotate_left
                                    · intro w; go_simp; try with_reducible rfl
                                    try simp only [put_norm]
                                    refine takeA (i := 12) (d := some 108) (v := ?_) rfl rfl (by kernel_rfl) (by kernel_rfl) (by kernel_rfl) (fun _ _ _ h => h) (Or.inl ⟨by kernel_rfl, ?_⟩) ?_
                                    rotate_left
                                    · intro w; go_simp; try with_reducible rfl
                                    try simp only [put_norm]
                                    refine takeA (i := 13) (d := some 109) (v := ?_) rfl rfl (by kernel_rfl) (by kernel_rfl) (by kernel_rfl) (fun _ _ _ h => h) (Or.inl ⟨by kernel_rfl, ?_⟩) ?_
                                    rotate_left
                                    · intro w; go_simp; try with_reducible rfl
                                    try simp only [put_norm]
                                    refine wpAny_ready (rs := [14]) (by kernel_rfl) (by simp) ?_
                                    refine AllReady.cons rfl (fun K hK => ?_) ?_
                                    · go_simp
                                      refine hK _ _ ?_
                                      clear hK K
                                      refine wpAny_done (by kernel_rfl) ?_ _
                                      clear z1 z1f
                                      have HL11 := Lib.hid (fun k => LS.less (HL10.out.drewN k))
                                      have HB11 := Lib.hid (fun (k : Nat) (u : Value) => (below_drewN HB10.out k).setCell (p := ⟨lb, 1, none⟩) (Nat.le_refl _) u)
                                      go_wp2_with fail
                                      go_roundw
                                      case rel => exact ⟨k + 1, os', _, _, by omega, by go_num, Lib.hid (HB11.out _ _), Lib.hid (HL11.out _), Lib.hid ⟨ho10, HG10.out⟩⟩
                                      case measure => simp [intOf]; omega
                                    exact AllReady.nil
                                  exact AllReady.nil
                                exact AllReady.nil
                              refine AllReady.cons rfl (fun K hK => ?_) ?_
                              · go_simp
                                refine hK _ _ ?_
                                clear hK K
                                refine wpAny_ready (rs := [4, 9]) (by kernel_rfl) (by simp) ?_
                                refine AllReady.cons rfl (fun K hK => ?_) ?_
                                · go_simp
                                  refine hK _ _ ?_
                                  clear hK K
                                  refine wpAny_ready (rs := [9]) (by kernel_rfl) (by simp) ?_
                                  refine AllReady.cons rfl (fun K hK => ?_) ?_
                                  · go_simp
                                    refine hK _ _ ?_
                                    clear hK K
                                    refine takeA (i := 10) (d := some 106) (v := ?_) rfl rfl (by kernel_rfl) (by kernel_rfl) (by kernel_rfl) (fun _ _ _ h => h) (Or.inl ⟨by kernel_rfl, ?_⟩) ?_
                                    rotate_left
                                    · intro w; go_simp; try with_reducible rfl
                                    try simp only [put_norm]
                                    refine takeA (i := 11) (d := some 107) (v := ?_) rfl rfl (by kernel_rfl) (by kernel_rfl) (by kernel_rfl) (fun _ _ _ h => h) (Or.inl ⟨by kernel_rfl, ?_⟩) ?_
                                    rotate_left
                                    · intro w; go_simp; try with_reducible rfl
                                    try simp only [put_norm]
                                    refine takeA (i := 12) (d := some 108) (v := ?_) rfl rfl (by kernel_rfl) (by kernel_rfl) (by kernel_rfl) (fun _ _ _ h => h) (Or.inl ⟨by kernel_rfl, ?_⟩) ?_
                                    rotate_left
                                    · intro w; go_simp; try with_reducible rfl
                                    try simp only [put_norm]
                                    refine takeA (i := 13) (d := some 109) (v := ?_) rfl rfl (by kernel_rfl) (by kernel_rfl) (by kernel_rfl) (fun _ _ _ h => h) (Or.inl ⟨by kernel_rfl, ?_⟩) ?_
                                    rotate_left
                                    · intro w; go_simp; try with_reducible rfl
                                    try simp only [put_norm]
                                    refine wpAny_ready (rs := [14]) (by kernel_rfl) (by simp) ?_
                                    refine AllReady.cons rfl (fun K hK => ?_) ?_
                                    · go_simp
                                      refine hK _ _ ?_
                                      clear hK K
                                      refine wpAny_done (by kernel_rfl) ?_ _
                                      clear z1 z1f
                                      have HL11 := Lib.hid (fun k => LS.less (HL10.out.drewN k))
                                      have HB11 := Lib.hid (fun (k : Nat) (u : Value) => (below_drewN HB10.out k).setCell (p := ⟨lb, 1, none⟩) (Nat.le_refl _) u)
                                      go_wp2_with fail
                                      go_roundw
                                      case rel => exact ⟨k + 1, os', _, _, by omega, by go_num, Lib.hid (HB11.out _ _), Lib.hid (HL11.out _), Lib.hid ⟨ho10, HG10.out⟩⟩
                                      case measure => simp [intOf]; omega
                                    exact AllReady.nil
                                  exact AllReady.nil
                                refine AllReady.cons rfl (fun K hK => ?_) ?_
                                · go_simp
                                  refine hK _ _ ?_
                                  clear hK K
                                  refine takeA (i := 10) (d := some 106) (v := ?_) rfl rfl (by kernel_rfl) (by kernel_rfl) (by kernel_rfl) (fun _ _ _ h => h) (Or.inl ⟨by kernel_rfl, ?_⟩) ?_
                                  rotate_left
                                  · intro w; go_simp; try with_reducible rfl
                                  try simp only [put_norm]
                                  refine wpAny_ready (rs := [4]) (by kernel_rfl) (by simp) ?_
                                  refine AllReady.cons rfl (fun K hK => ?_) ?_
                                  · go_simp
                                    refine hK _ _ ?_
                                    clear hK K
                                    refine takeA (i := 11) (d := some 107) (v := ?_) rfl rfl (by kernel_rfl) (by kernel_rfl) (by kernel_rfl) (fun _ _ _ h => h) (Or.inl ⟨by kernel_rfl, ?_⟩) ?_
                                    rotate_left
                                    · intro w; go_simp; try with_reducible rfl
                                    try simp only [put_norm]
                                    refine takeA (i := 12) (d := some 108) (v := ?_) rfl rfl (by kernel_rfl) (by kernel_rfl) (by kernel_rfl) (fun _ _ _ h => h) (Or.inl ⟨by kernel_rfl, ?_⟩) ?_
                                    rotate_left
                                    · intro w; go_simp; try with_reducible rfl
                                    try simp only [put_norm]
                                    refine takeA (i := 13) (d := some 109) (v := ?_) rfl rfl (by kernel_rfl) (by kernel_rfl) (by kernel_rfl) (fun _ _ _ h => h) (Or.inl ⟨by kernel_rfl, ?_⟩) ?_
                                    rotate_left
                                    · intro w; go_simp; try with_reducible rfl
                                    try simp only [put_norm]
                                    refine wpAny_ready (rs := [14]) (by kernel_rfl) (by simp) ?_
                                    refine AllReady.cons rfl (fun K hK => ?_) ?_
                                    · go_simp
                                      refine hK _ _ ?_
                                      clear hK K
                                      refine wpAny_done (by kernel_rfl) ?_ _
                                      clear z1 z1f
                                      have HL11 := Lib.hid (fun k => LS.less (HL10.out.drewN k))
                                      have HB11 := Lib.hid (fun (k : Nat) (u : Value) => (below_drewN HB10.out k).setCell (p := ⟨lb, 1, none⟩) (Nat.le_refl _) u)
                                      go_wp2_with fail
                                      go_roundw
                                      case rel => exact ⟨k + 1, os', _, _, by omega, by go_num, Lib.hid (HB11.out _ _), Lib.hid (HL11.out _), Lib.hid ⟨ho10, HG10.out⟩⟩
                                      case measure => simp [intOf]; omega
                                    exact AllReady.nil
                                  exact AllReady.nil
                                exact AllReady.nil
                              exact AllReady.nil
                          exact AllReady.nil
                        exact AllReady.nil
                      exact AllReady.nil
                    exact AllReady.nil
                  refine AllReady.cons rfl (fun K hK => ?_) ?_
                  · go_simp
                    refine hK _ _ ?_
                    clear hK K
                    refine wpAny_ready (rs := [4, 7]) (by kernel_rfl) (by simp) ?_
                    refine AllReady.cons rfl (fun K hK => ?_) ?_
                    · go_simp
                      refine hK _ _ ?_
                      clear hK K
                      refine wpAny_ready (rs := [7]) (by kernel_rfl) (by simp) ?_
                      refine AllReady.cons rfl (fun K hK => ?_) ?_
                      · go_simp
                        refine hK _ _ ?_
                        clear hK K
                        refine wpAny_ready (rs := [8]) (by kernel_rfl) (by simp) ?_
                        refine AllReady.cons rfl (fun K hK => ?_) ?_
                        · try rw [alloc_drew]
                          refine step_push (by rfl) _ _ 65 (by rfl) (lb + 1) 5 i0 _ 1 1 Try.underlying65 hi hz0 hz1 hz2 rfl (by decide) (.slice P0 l.length cp0) l.length (Lib.byteCells l) (by rfl) (by exact HLb.out.word) #[.int .u8 (b.toNat : Int)] (by rfl) (by intro x hx; simp at hx; subst hx; rfl) (by rfl) (by unfold maxLen; omega) (by omega) (by exact hltb) ?_
                          intro gg cc w9 hown hg9
                          have HP := Lib.hid (pushed (HLb.out.drewN _) (below_drewN HBb.out _) HEb.out hown hg9)
                          clear hown hg9
                          obtain ⟨c9, f9⟩ := HP.out.1
                          refine hK _ _ ?_
                          clear hK K
                          refine takeA (i := 9) (d := some 88) (v := ?_) rfl rfl (by kernel_rfl) (by kernel_rfl) (by kernel_rfl) (fun _ _ _ h => h) (Or.inl ⟨by kernel_rfl, ?_⟩) ?_
                          rotate_left
                          · intro w; go_simp; try with_reducible rfl
                          try simp only [put_norm]
                          refine takeA (i := 10) (d := some 89) (v := ?_) rfl rfl (by kernel_rfl) (by kernel_rfl) (by kernel_rfl) (fun _ _ _ h => h) (Or.inl ⟨by kernel_rfl, ?_⟩) ?_
                          rotate_left
                          · intro w; go_simp; try with_reducible rfl
                          try simp only [put_norm]
                          refine wpAny_ready (rs := [11]) (by kernel_rfl) (by simp) ?_
                          refine AllReady.cons rfl (fun K hK => ?_) ?_
                          · go_simp
                            refine hK _ _ ?_
                            clear hK K
                            refine wpAny_done (by kernel_rfl) ?_ _
                            clear c9 f9 y1 y1a y1c x0
                            have x19 := (HP.out.2 (.slice (some ⟨gg, 0, none⟩) (l.length + 1) cc)).2.1
                            go_wp2_with fail
                            refine (HIH.out q' _ _ (l ++ [b]) os1 _ _ HLW.out ((HP.out.2 _).1 rfl) (HA.out.low (HP.out.2 _).2.2) HAb.out HGr.out.2 HO8.out (by rw [List.length_append, List.length_singleton]; omega) (by first | exact Nat.zero_le _ | exact ext_le _ _ _ _ hfr)).mono ?_
                            rintro e w10 ⟨r, l', os', wv', ov', rfl, b10, hL10, hr10, ho10, hg10⟩
                            have HB10 := Lib.hid ((HP.out.2 (.slice (some ⟨gg, 0, none⟩) (l.length + 1) cc)).2.2.trans b10)
                            cases r
                            · have HL10 := Lib.hid hL10
                              have HG10 := Lib.hid hg10
                              clear hL10 hg10 b10 hr10 x19
                              go_wp2_with fail
                              go_ret
                              exact ⟨false, l', os', wv', ov', rfl, HB10.out, HL10.out, (fun hf => by cases hf), ho10, HG10.out⟩
                            · obtain ⟨rfl, ho10'⟩ := hr10 rfl
                              obtain ⟨g3, c3, rfl, hc3⟩ := word_form hL10
                              have HL10 := Lib.hid hL10
                              have HG10 := Lib.hid hg10
                              clear hL10 hg10 b10 hr10 x19
                              have z1 := HL10.out.cells.2.1
                              have z1f := HL10.out.cells.2.2.2.2.1
                              have hz10 := HL10.out.lt
                              have hw15 : IntKind.i64.wrap (l.length : Int) = (l.length : Int) := by rw [IntKind.wrap_i64]; omega
                              have hc15 : (l.length : Int) ≤ (c3 : Int) := by omega
                              go_wp2_with fail
                              refine wp_region_any (by kernel_rfl) ?_
                              try (change wpAny _ _ _ _ _ _ _ (World.drew _))
                              refine takeA (i := 0) (d := some 96) (v := ?_) rfl rfl (by kernel_rfl) (by kernel_rfl) (by kernel_rfl) (fun _ _ _ h => h) (Or.inl ⟨by kernel_rfl, ?_⟩) ?_
                              rotate_left
                              · intro w; go_simp; try with_reducible rfl
                              try simp only [put_norm]
                              refine takeA (i := 1) (d := some 97) (v := ?_) rfl rfl (by kernel_rfl) (by kernel_rfl) (by kernel_rfl) (fun _ _ _ h => h) (Or.inl ⟨by kernel_rfl, ?_⟩) ?_
                              rotate_left
                              · intro w; go_simp; try with_reducible rfl
                              try simp only [put_norm]
                              refine takeA (i := 2) (d := some 98) (v := ?_) rfl rfl (by kernel_rfl) (by kernel_rfl) (by kernel_rfl) (fun _ _ _ h => h) (Or.inl ⟨by kernel_rfl, ?_⟩) ?_
                              rotate_left
                              · intro w; go_simp; try with_reducible rfl
                              try simp only [put_norm]
                              refine takeA (i := 3) (d := some 99) (v := ?_) rfl rfl (by kernel_rfl) (by kernel_rfl) (by kernel_rfl) (fun _ _ _ h => h) (Or.inl ⟨by kernel_rfl, ?_⟩) ?_
                              rotate_left
                              · intro w; go_simp; try with_reducible rfl
                              try simp only [put_norm]
                              refine takeA (i := 5) (d := some 101) (v := ?_) rfl rfl (by kernel_rfl) (by kernel_rfl) (by kernel_rfl) (fun _ _ _ h => h) (Or.inl ⟨by kernel_rfl, ?_⟩) ?_
                              rotate_left
                              · intro w; go_simp; try with_reducible rfl
                              try simp only [put_norm]
                              refine takeA (i := 6) (d := some 102) (v := ?_) rfl rfl (by kernel_rfl) (by kernel_rfl) (by kernel_rfl) (fun _ _ _ h => h) (Or.inl ⟨by kernel_rfl, ?_⟩) ?_
                              rotate_left
                              · intro w; go_simp; try with_reducible rfl
                              try simp only [put_norm]
                              refine takeA (i := 7) (d := some 103) (v := ?_) rfl rfl (by kernel_rfl) (by kernel_rfl) (by kernel_rfl) (fun _ _ _ h => h) (Or.inl ⟨by kernel_rfl, ?_⟩) ?_
                              rotate_left
                              · intro w; go_simp; try with_reducible rfl
                              try simp only [put_norm]
                              refine wpAny_ready (rs := [4, 8]) (by kernel_rfl) (by simp) ?_
                              refine AllReady.cons rfl (fun K hK => ?_) ?_
                              · go_simp
                                refine hK _ _ ?_
                                clear hK K
                                refine wpAny_ready (rs := [8]) (by kernel_rfl) (by simp) ?_
                                refine AllReady.cons rfl (fun K hK => ?_) ?_
                                · go_simp
                                  refine hK _ _ ?_
                                  clear hK K
                                  refine wpAny_ready (rs := [9]) (by kernel_rfl) (by simp) ?_
                                  refine AllReady.cons rfl (fun K hK => ?_) ?_
                                  · go_simp
                                    refine hK _ _ ?_
                                    clear hK K
                                    refine takeA (i := 10) (d := some 106) (v := ?_) rfl rfl (by kernel_rfl) (by kernel_rfl) (by kernel_rfl) (fun _ _ _ h => h) (Or.inl ⟨by kernel_rfl, ?_⟩) ?_
                                    rotate_left
                                    · intro w; go_simp; try with_reducible rfl
                                    try simp only [put_norm]
                                    refine takeA (i := 11) (d := some 107) (v := ?_) rfl rfl (by kernel_rfl) (by kernel_rfl) (by kernel_rfl) (fun _ _ _ h => h) (Or.inl ⟨by kernel_rfl, ?_⟩) ?_
                                    rotate_left
                                    · intro w; go_simp; try with_reducible rfl
                                    try simp only [put_norm]
                                    refine takeA (i := 12) (d := some 108) (v := ?_) rfl rfl (by kernel_rfl) (by kernel_rfl) (by kernel_rfl) (fun _ _ _ h => h) (Or.inl ⟨by kernel_rfl, ?_⟩) ?_
                                    rotate_left
                                    · intro w; go_simp; try with_reducible rfl
                                    try simp only [put_norm]
                                    refine takeA (i := 13) (d := some 109) (v := ?_) rfl rfl (by kernel_rfl) (by kernel_rfl) (by kernel_rfl) (fun _ _ _ h => h) (Or.inl ⟨by kernel_rfl, ?_⟩) ?_
                                    rotate_left
                                    · intro w; go_simp; try with_reducible rfl
                                    try simp only [put_norm]
                                    refine wpAny_ready (rs := [14]) (by kernel_rfl) (by simp) ?_
                                    refine AllReady.cons rfl (fun K hK => ?_) ?_
                                    · go_simp
                                      refine hK _ _ ?_
                                      clear hK K
                                      refine wpAny_done (by kernel_rfl) ?_ _
                                      clear z1 z1f
                                      have HL11 := Lib.hid (fun k => LS.less (HL10.out.drewN k))
                                      have HB11 := Lib.hid (fun (k : Nat) (u : Value) => (below_drewN HB10.out k).setCell (p := ⟨lb, 1, none⟩) (Nat.le_refl _) u)
                                      go_wp2_with fail
                                      go_roundw
                                      case rel => exact ⟨k + 1, os', _, _, by omega, by go_num, Lib.hid (HB11.out _ _), Lib.hid (HL11.out _), Lib.hid ⟨ho10, HG10.out⟩⟩
                                      case measure => simp [intOf]; omega
                                    exact AllReady.nil
                                  exact AllReady.nil
                                exact AllReady.nil
                              refine AllReady.cons rfl (fun K hK => ?_) ?_
                              · go_simp
                                refine hK _ _ ?_
                                clear hK K
                                refine wpAny_ready (rs := [4, 9]) (by kernel_rfl) (by simp) ?_
                                refine AllReady.cons rfl (fun K hK => ?_) ?_
                                · go_simp
                                  refine hK _ _ ?_
                                  clear hK K
                                  refine wpAny_ready (rs := [9]) (by kernel_rfl) (by simp) ?_
                                  refine AllReady.cons rfl (fun K hK => ?_) ?_
                                  · go_simp
                                    refine hK _ _ ?_
                                    clear hK K
                                    refine takeA (i := 10) (d := some 106) (v := ?_) rfl rfl (by kernel_rfl) (by kernel_rfl) (by kernel_rfl) (fun _ _ _ h => h) (Or.inl ⟨by kernel_rfl, ?_⟩) ?_
                                    rotate_left
                                    · intro w; go_simp; try with_reducible rfl
                                    try simp only [put_norm]
                                    refine takeA (i := 11) (d := some 107) (v := ?_) rfl rfl (by kernel_rfl) (by kernel_rfl) (by kernel_rfl) (fun _ _ _ h => h) (Or.inl ⟨by kernel_rfl, ?_⟩) ?_
                                    rotate_left
                                    · intro w; go_simp; try with_reducible rfl
                                    try simp only [put_norm]
                                    refine takeA (i := 12) (d := some 108) (v := ?_) rfl rfl (by kernel_rfl) (by kernel_rfl) (by kernel_rfl) (fun _ _ _ h => h) (Or.inl ⟨by kernel_rfl, ?_⟩) ?_
                                    rotate_left
                                    · intro w; go_simp; try with_reducible rfl
                                    try simp only [put_norm]
                                    refine takeA (i := 13) (d := some 109) (v := ?_) rfl rfl (by kernel_rfl) (by kernel_rfl) (by kernel_rfl) (fun _ _ _ h => h) (Or.inl ⟨by kernel_rfl, ?_⟩) ?_
                                    rotate_left
                                    · intro w; go_simp; try with_reducible rfl
                                    try simp only [put_norm]
                                    refine wpAny_ready (rs := [14]) (by kernel_rfl) (by simp) ?_
                                    refine AllReady.cons rfl (fun K hK => ?_) ?_
                                    · go_simp
                                      refine hK _ _ ?_
                                      clear hK K
                                      refine wpAny_done (by kernel_rfl) ?_ _
                                      clear z1 z1f
                                      have HL11 := Lib.hid (fun k => LS.less (HL10.out.drewN k))
                                      have HB11 := Lib.hid (fun (k : Nat) (u : Value) => (below_drewN HB10.out k).setCell (p := ⟨lb, 1, none⟩) (Nat.le_refl _) u)
                                      go_wp2_with fail
                                      go_roundw
                                      case rel => exact ⟨k + 1, os', _, _, by omega, by go_num, Lib.hid (HB11.out _ _), Lib.hid (HL11.out _), Lib.hid ⟨ho10, HG10.out⟩⟩
                                      case measure => simp [intOf]; omega
                                    exact AllReady.nil
                                  exact AllReady.nil
                                refine AllReady.cons rfl (fun K hK => ?_) ?_
                                · go_simp
                                  refine hK _ _ ?_
                                  clear hK K
                                  refine takeA (i := 10) (d := some 106) (v := ?_) rfl rfl (by kernel_rfl) (by kernel_rfl) (by kernel_rfl) (fun _ _ _ h => h) (Or.inl ⟨by kernel_rfl, ?_⟩) ?_
                                  rotate_left
                                  · intro w; go_simp; try with_reducible rfl
                                  try simp only [put_norm]
                                  refine wpAny_ready (rs := [4]) (by kernel_rfl) (by simp) ?_
                                  refine AllReady.cons rfl (fun K hK => ?_) ?_
                                  · go_simp
                                    refine hK _ _ ?_
                                    clear hK K
                                    refine takeA (i := 11) (d := some 107) (v := ?_) rfl rfl (by kernel_rfl) (by kernel_rfl) (by kernel_rfl) (fun _ _ _ h => h) (Or.inl ⟨by kernel_rfl, ?_⟩) ?_
                                    rotate_left
                                    · intro w; go_simp; try with_reducible rfl
                                    try simp only [put_norm]
                                    refine takeA (i := 12) (d := some 108) (v := ?_) rfl rfl (by kernel_rfl) (by kernel_rfl) (by kernel_rfl) (fun _ _ _ h => h) (Or.inl ⟨by kernel_rfl, ?_⟩) ?_
                                    rotate_left
                                    · intro w; go_simp; try with_reducible rfl
                                    try simp only [put_norm]
                                    refine takeA (i := 13) (d := some 109) (v := ?_) rfl rfl (by kernel_rfl) (by kernel_rfl) (by kernel_rfl) (fun _ _ _ h => h) (Or.inl ⟨by kernel_rfl, ?_⟩) ?_
                                    rotate_left
                                    · intro w; go_simp; try with_reducible rfl
                                    try simp only [put_norm]
                                    refine wpAny_ready (rs := [14]) (by kernel_rfl) (by simp) ?_
                                    refine AllReady.cons rfl (fun K hK => ?_) ?_
                                    · go_simp
                                      refine hK _ _ ?_
                                      clear hK K
                                      refine wpAny_done (by kernel_rfl) ?_ _
                                      clear z1 z1f
                                      have HL11 := Lib.hid (fun k => LS.less (HL10.out.drewN k))
                                      have HB11 := Lib.hid (fun (k : Nat) (u : Value) => (below_drewN HB10.out k).setCell (p := ⟨lb, 1, none⟩) (Nat.le_refl _) u)
                                      go_wp2_with fail
                                      go_roundw
                                      case rel => exact ⟨k + 1, os', _, _, by omega, by go_num, Lib.hid (HB11.out _ _), Lib.hid (HL11.out _), Lib.hid ⟨ho10, HG10.out⟩⟩
                                      case measure => simp [intOf]; omega
                                    exact AllReady.nil
                                  exact AllReady.nil
                                exact AllReady.nil
                              exact AllReady.nil
                          exact AllReady.nil
                        exact AllReady.nil
                      exact AllReady.nil
                    refine AllReady.cons rfl (fun K hK => ?_) ?_
                    · go_simp
                      refine hK _ _ ?_
                      clear hK K
                      refine wpAny_ready (rs := [4]) (by kernel_rfl) (by simp) ?_
                      refine AllReady.cons rfl (fun K hK => ?_) ?_
                      · go_simp
                        refine hK _ _ ?_
                        clear hK K
                        refine wpAny_ready (rs := [8]) (by kernel_rfl) (by simp) ?_
                        refine AllReady.cons rfl (fun K hK => ?_) ?_
                        · try rw [alloc_drew]
                          refine step_push (by rfl) _ _ 65 (by rfl) (lb + 1) 5 i0 _ 1 1 Try.underlying65 hi hz0 hz1 hz2 rfl (by decide) (.slice P0 l.length cp0) l.length (Lib.byteCells l) (by rfl) (by exact HLb.out.word) #[.int .u8 (b.toNat : Int)] (by rfl) (by intro x hx; simp at hx; subst hx; rfl) (by rfl) (by unfold maxLen; omega) (by omega) (by exact hltb) ?_
                          intro gg cc w9 hown hg9
                          have HP := Lib.hid (pushed (HLb.out.drewN _) (below_drewN HBb.out _) HEb.out hown hg9)
                          clear hown hg9
                          obtain ⟨c9, f9⟩ := HP.out.1
                          refine hK _ _ ?_
                          clear hK K
                          refine takeA (i := 9) (d := some 88) (v := ?_) rfl rfl (by kernel_rfl) (by kernel_rfl) (by kernel_rfl) (fun _ _ _ h => h) (Or.inl ⟨by kernel_rfl, ?_⟩) ?_
                          rotate_left
                          · intro w; go_simp; try with_reducible rfl
                          try simp only [put_norm]
                          refine takeA (i := 10) (d := some 89) (v := ?_) rfl rfl (by kernel_rfl) (by kernel_rfl) (by kernel_rfl) (fun _ _ _ h => h) (Or.inl ⟨by kernel_rfl, ?_⟩) ?_
                          rotate_left
                          · intro w; go_simp; try with_reducible rfl
                          try simp only [put_norm]
                          refine wpAny_ready (rs := [11]) (by kernel_rfl) (by simp) ?_
                          refine AllReady.cons rfl (fun K hK => ?_) ?_
                          · go_simp
                            refine hK _ _ ?_
                            clear hK K
                            refine wpAny_done (by kernel_rfl) ?_ _
                            clear c9 f9 y1 y1a y1c x0
                            have x19 := (HP.out.2 (.slice (some ⟨gg, 0, none⟩) (l.length + 1) cc)).2.1
                            go_wp2_with fail
                            refine (HIH.out q' _ _ (l ++ [b]) os1 _ _ HLW.out ((HP.out.2 _).1 rfl) (HA.out.low (HP.out.2 _).2.2) HAb.out HGr.out.2 HO8.out (by rw [List.length_append, List.length_singleton]; omega) (by first | exact Nat.zero_le _ | exact ext_le _ _ _ _ hfr)).mono ?_
                            rintro e w10 ⟨r, l', os', wv', ov', rfl, b10, hL10, hr10, ho10, hg10⟩
                            have HB10 := Lib.hid ((HP.out.2 (.slice (some ⟨gg, 0, none⟩) (l.length + 1) cc)).2.2.trans b10)
                            cases r
                            · have HL10 := Lib.hid hL10
                              have HG10 := Lib.hid hg10
                              clear hL10 hg10 b10 hr10 x19
                              go_wp2_with fail
                              go_ret
                              exact ⟨false, l', os', wv', ov', rfl, HB10.out, HL10.out, (fun hf => by cases hf), ho10, HG10.out⟩
                            · obtain ⟨rfl, ho10'⟩ := hr10 rfl
                              obtain ⟨g3, c3, rfl, hc3⟩ := word_form hL10
                              have HL10 := Lib.hid hL10
                              have HG10 := Lib.hid hg10
                              clear hL10 hg10 b10 hr10 x19
                              have z1 := HL10.out.cells.2.1
                              have z1f := HL10.out.cells.2.2.2.2.1
                              have hz10 := HL10.out.lt
                              have hw15 : IntKind.i64.wrap (l.length : Int) = (l.length : Int) := by rw [IntKind.wrap_i64]; omega
                              have hc15 : (l.length : Int) ≤ (c3 : Int) := by omega
                              go_wp2_with fail
                              refine wp_region_any (by kernel_rfl) ?_
                              try (change wpAny _ _ _ _ _ _ _ (World.drew _))
                              refine takeA (i := 0) (d := some 96) (v := ?_) rfl rfl (by kernel_rfl) (by kernel_rfl) (by kernel_rfl) (fun _ _ _ h => h) (Or.inl ⟨by kernel_rfl, ?_⟩) ?_
                              rotate_left
                              · intro w; go_simp; try with_reducible rfl
                              try simp only [put_norm]
                              refine takeA (i := 1) (d := some 97) (v := ?_) rfl rfl (by kernel_rfl) (by kernel_rfl) (by kernel_rfl) (fun _ _ _ h => h) (Or.inl ⟨by kernel_rfl, ?_⟩) ?_
                              rotate_left
                              · intro w; go_simp; try with_reducible rfl
                              try simp only [put_norm]
                              refine takeA (i := 2) (d := some 98) (v := ?_) rfl rfl (by kernel_rfl) (by kernel_rfl) (by kernel_rfl) (fun _ _ _ h => h) (Or.inl ⟨by kernel_rfl, ?_⟩) ?_
                              rotate_left
                              · intro w; go_simp; try with_reducible rfl
                              try simp only [put_norm]
                              refine takeA (i := 3) (d := some 99) (v := ?_) rfl rfl (by kernel_rfl) (by kernel_rfl) (by kernel_rfl) (fun _ _ _ h => h) (Or.inl ⟨by kernel_rfl, ?_⟩) ?_
                              rotate_left
                              · intro w; go_simp; try with_reducible rfl
                              try simp only [put_norm]
                              refine takeA (i := 5) (d := some 101) (v := ?_) rfl rfl (by kernel_rfl) (by kernel_rfl) (by kernel_rfl) (fun _ _ _ h => h) (Or.inl ⟨by kernel_rfl, ?_⟩) ?_
                              rotate_left
                              · intro w; go_simp; try with_reducible rfl
                              try simp only [put_norm]
                              refine takeA (i := 6) (d := some 102) (v := ?_) rfl rfl (by kernel_rfl) (by kernel_rfl) (by kernel_rfl) (fun _ _ _ h => h) (Or.inl ⟨by kernel_rfl, ?_⟩) ?_
                              rotate_left
                              · intro w; go_simp; try with_reducible rfl
                              try simp only [put_norm]
                              refine takeA (i := 7) (d := some 103) (v := ?_) rfl rfl (by kernel_rfl) (by kernel_rfl) (by kernel_rfl) (fun _ _ _ h => h) (Or.inl ⟨by kernel_rfl, ?_⟩) ?_
                              rotate_left
                              · intro w; go_simp; try with_reducible rfl
                              try simp only [put_norm]
                              refine wpAny_ready (rs := [4, 8]) (by kernel_rfl) (by simp) ?_
                              refine AllReady.cons rfl (fun K hK => ?_) ?_
                              · go_simp
                                refine hK _ _ ?_
                                clear hK K
                                refine wpAny_ready (rs := [8]) (by kernel_rfl) (by simp) ?_
                                refine AllReady.cons rfl (fun K hK => ?_) ?_
                                · go_simp
                                  refine hK _ _ ?_
                                  clear hK K
                                  refine wpAny_ready (rs := [9]) (by kernel_rfl) (by simp) ?_
                                  refine AllReady.cons rfl (fun K hK => ?_) ?_
                                  · go_simp
                                    refine hK _ _ ?_
                                    clear hK K
                                    refine takeA (i := 10) (d := some 106) (v := ?_) rfl rfl (by kernel_rfl) (by kernel_rfl) (by kernel_rfl) (fun _ _ _ h => h) (Or.inl ⟨by kernel_rfl, ?_⟩) ?_
                                    rotate_left
                                    · intro w; go_simp; try with_reducible rfl
                                    try simp only [put_norm]
                                    refine takeA (i := 11) (d := some 107) (v := ?_) rfl rfl (by kernel_rfl) (by kernel_rfl) (by kernel_rfl) (fun _ _ _ h => h) (Or.inl ⟨by kernel_rfl, ?_⟩) ?_
                                    rotate_left
                                    · intro w; go_simp; try with_reducible rfl
                                    try simp only [put_norm]
                                    refine takeA (i := 12) (d := some 108) (v := ?_) rfl rfl (by kernel_rfl) (by kernel_rfl) (by kernel_rfl) (fun _ _ _ h => h) (Or.inl ⟨by kernel_rfl, ?_⟩) ?_
                                    rotate_left
                                    · intro w; go_simp; try with_reducible rfl
                                    try simp only [put_norm]
                                    refine takeA (i := 13) (d := some 109) (v := ?_) rfl rfl (by kernel_rfl) (by kernel_rfl) (by kernel_rfl) (fun _ _ _ h => h) (Or.inl ⟨by kernel_rfl, ?_⟩) ?_
                                    rotate_left
                                    · intro w; go_simp; try with_reducible rfl
                                    try simp only [put_norm]
                                    refine wpAny_ready (rs := [14]) (by kernel_rfl) (by simp) ?_
                                    refine AllReady.cons rfl (fun K hK => ?_) ?_
                                    · go_simp
                                      refine hK _ _ ?_
                                      clear hK K
                                      refine wpAny_done (by kernel_rfl) ?_ _
                                      clear z1 z1f
                                      have HL11 := Lib.hid (fun k => LS.less (HL10.out.drewN k))
                                      have HB11 := Lib.hid (fun (k : Nat) (u : Value) => (below_drewN HB10.out k).setCell (p := ⟨lb, 1, none⟩) (Nat.le_refl _) u)
                                      go_wp2_with fail
                                      go_roundw
                                      case rel => exact ⟨k + 1, os', _, _, by omega, by go_num, Lib.hid (HB11.out _ _), Lib.hid (HL11.out _), Lib.hid ⟨ho10, HG10.out⟩⟩
                                      case measure => simp [intOf]; omega
                                    exact AllReady.nil
                                  exact AllReady.nil
                                exact AllReady.nil
                              refine AllReady.cons rfl (fun K hK => ?_) ?_
                              · go_simp
                                refine hK _ _ ?_
                                clear hK K
                                refine wpAny_ready (rs := [4, 9]) (by kernel_rfl) (by simp) ?_
                                refine AllReady.cons rfl (fun K hK => ?_) ?_
                                · go_simp
                                  refine hK _ _ ?_
                                  clear hK K
                                  refine wpAny_ready (rs := [9]) (by kernel_rfl) (by simp) ?_
                                  refine AllReady.cons rfl (fun K hK => ?_) ?_
                                  · go_simp
                                    refine hK _ _ ?_
                                    clear hK K
                                    refine takeA (i := 10) (d := some 106) (v := ?_) rfl rfl (by kernel_rfl) (by kernel_rfl) (by kernel_rfl) (fun _ _ _ h => h) (Or.inl ⟨by kernel_rfl, ?_⟩) ?_
                                    rotate_left
                                    · intro w; go_simp; try with_reducible rfl
                                    try simp only [put_norm]
                                    refine takeA (i := 11) (d := some 107) (v := ?_) rfl rfl (by kernel_rfl) (by kernel_rfl) (by kernel_rfl) (fun _ _ _ h => h) (Or.inl ⟨by kernel_rfl, ?_⟩) ?_
                                    rotate_left
                                    · intro w; go_simp; try with_reducible rfl
                                    try simp only [put_norm]
                                    refine takeA (i := 12) (d := some 108) (v := ?_) rfl rfl (by kernel_rfl) (by kernel_rfl) (by kernel_rfl) (fun _ _ _ h => h) (Or.inl ⟨by kernel_rfl, ?_⟩) ?_
                                    rotate_left
                                    · intro w; go_simp; try with_reducible rfl
                                    try simp only [put_norm]
                                    refine takeA (i := 13) (d := some 109) (v := ?_) rfl rfl (by kernel_rfl) (by kernel_rfl) (by kernel_rfl) (fun _ _ _ h => h) (Or.inl ⟨by kernel_rfl, ?_⟩) ?_
                                    rotate_left
                                    · intro w; go_simp; try with_reducible rfl
                                    try simp only [put_norm]
                                    refine wpAny_ready (rs := [14]) (by kernel_rfl) (by simp) ?_
                                    refine AllReady.cons rfl (fun K hK => ?_) ?_
                                    · go_simp
                                      refine hK _ _ ?_
                                      clear hK K
                                      refine wpAny_done (by kernel_rfl) ?_ _
                                      clear z1 z1f
                                      have HL11 := Lib.hid (fun k => LS.less (HL10.out.drewN k))
                                      have HB11 := Lib.hid (fun (k : Nat) (u : Value) => (below_drewN HB10.out k).setCell (p := ⟨lb, 1, none⟩) (Nat.le_refl _) u)
                                      go_wp2_with fail
                                      go_roundw
                                      case rel => exact ⟨k + 1, os', _, _, by omega, by go_num, Lib.hid (HB11.out _ _), Lib.hid (HL11.out _), Lib.hid ⟨ho10, HG10.out⟩⟩
                                      case measure => simp [intOf]; omega
                                    exact AllReady.nil
                                  exact AllReady.nil
                                refine AllReady.cons rfl (fun K hK => ?_) ?_
                                · go_simp
                                  refine hK _ _ ?_
                                  clear hK K
                                  refine takeA (i := 10) (d := some 106) (v := ?_) rfl rfl (by kernel_rfl) (by kernel_rfl) (by kernel_rfl) (fun _ _ _ h => h) (Or.inl ⟨by kernel_rfl, ?_⟩) ?_
                                  rotate_left
                                  · intro w; go_simp; try with_reducible rfl
                                  try simp only [put_norm]
                                  refine wpAny_ready (rs := [4]) (by kernel_rfl) (by simp) ?_
                                  refine AllReady.cons rfl (fun K hK => ?_) ?_
                                  · go_simp
                                    refine hK _ _ ?_
                                    clear hK K
                                    refine takeA (i := 11) (d := some 107) (v := ?_) rfl rfl (by kernel_rfl) (by kernel_rfl) (by kernel_rfl) (fun _ _ _ h => h) (Or.inl ⟨by kernel_rfl, ?_⟩) ?_
                                    rotate_left
                                    · intro w; go_simp; try with_reducible rfl
                                    try simp only [put_norm]
                                    refine takeA (i := 12) (d := some 108) (v := ?_) rfl rfl (by kernel_rfl) (by kernel_rfl) (by kernel_rfl) (fun _ _ _ h => h) (Or.inl ⟨by kernel_rfl, ?_⟩) ?_
                                    rotate_left
                                    · intro w; go_simp; try with_reducible rfl
                                    try simp only [put_norm]
                                    refine takeA (i := 13) (d := some 109) (v := ?_) rfl rfl (by kernel_rfl) (by kernel_rfl) (by kernel_rfl) (fun _ _ _ h => h) (Or.inl ⟨by kernel_rfl, ?_⟩) ?_
                                    rotate_left
                                    · intro w; go_simp; try with_reducible rfl
                                    try simp only [put_norm]
                                    refine wpAny_ready (rs := [14]) (by kernel_rfl) (by simp) ?_
                                    refine AllReady.cons rfl (fun K hK => ?_) ?_
                                    · go_simp
                                      refine hK _ _ ?_
                                      clear hK K
                                      refine wpAny_done (by kernel_rfl) ?_ _
                                      clear z1 z1f
                                      have HL11 := Lib.hid (fun k => LS.less (HL10.out.drewN k))
                                      have HB11 := Lib.hid (fun (k : Nat) (u : Value) => (below_drewN HB10.out k).setCell (p := ⟨lb, 1, none⟩) (Nat.le_refl _) u)
                                      go_wp2_with fail
                                      go_roundw
                                      case rel => exact ⟨k + 1, os', _, _, by omega, by go_num, Lib.hid (HB11.out _ _), Lib.hid (HL11.out _), Lib.hid ⟨ho10, HG10.out⟩⟩
                                      case measure => simp [intOf]; omega
                                    exact AllReady.nil
                                  exact AllReady.nil
                                exact AllReady.nil
                              exact AllReady.nil
                          exact AllReady.nil
                        exact AllReady.nil
                      exact AllReady.nil
                    exact AllReady.nil
                  exact AllReady.nil
        · obtain rfl : k = es.length := by omega
          go_wp2_with fail
          go_quiet (fail)
          go_wp2_with fail
          go_ret
          refine ⟨decide ((os1.length : Int) < 8), l, os1, _, _, rfl, below_drewN HB.out _, HLr.out.drewN _, (fun hf => ⟨rfl, ?_⟩), HGr.out.1, HGr.out.2⟩
          have := of_decide_eq_true hf
          omega
end Go.Proofs.Ytdleoankkcemfaa
