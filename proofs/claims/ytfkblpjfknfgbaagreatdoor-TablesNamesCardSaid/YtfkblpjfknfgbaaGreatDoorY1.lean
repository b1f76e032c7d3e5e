/-
  Parts of the proof: DP1, DC8, DC13, DT3, AL5, DT4.
-/
import Derived.Test.YtfkblpjfknfgbaaGreatDoorRows
import Derived.Test.YtfkblpjfknfgbaaGreatDoorZ12
import Derived.Test.YtfkblpjfknfgbaaGreatDoorZ11
import Derived.BigQuiet
import Derived.Test.YtfkblpjfknfgbaaGreatDoorZ3
import Derived.WalkLawsBesides
import Derived.Test.YtfkblpjfknfgbaaGreatDoorZ10
import Derived.Test.YtfkblpjfknfgbaaGreatDoorZ9
import Derived.Test.YtfkblpjfknfgbaaGreatDoorZ4
import Derived.Test.YtfkblpjfknfgbaaGreatDoorZ8
import Derived.Test.YtfkblpjfknfgbaaGreatDoorZ1
import Derived.Test.YtfkblpjfknfgbaaGreatDoorZ7
import Derived.Test.YtfkblpjfknfgbaaGreatDoorZ5
set_option linter.unusedVariables false
set_option linter.unusedSimpArgs false
namespace Go.Proofs.YtfkblpjfknfgbaaGreatDoor
open Go.RowKit
theorem dicR_err {F : Fl} {t : List UInt8} {l c : Int} (h : dicR F t = .error (l, c)) : c ≠ 0 := by
  unfold dicR at h
  split at h
  · cases h; decide
  generalize rowsOf (eachOf t) = rows at h
  unfold dicRows at h
  split at h
  · cases h; decide
  split at h
  · cases h; decide
  split at h
  · cases h; decide
  split at h
  · rename_i p hp
    cases h
    have : ∀ (all : List Row) (i : Nat) (l c : Int) (count : Int), dgo F count i all = .error (l, c) → c ≠ 0 := by
      intro all
      induction all with
      | nil => intro i l c count h; rw [dgo_nil] at h; cases h
      | cons x rest ih =>
        intro i l c count h
        obtain ⟨l0, row⟩ := x
        rw [dgo] at h
        split at h
        · cases h; decide
        split at h
        · rename_i he; cases h; exact entR_ne he
        split at h
        · rename_i hp; cases h; exact ih _ _ _ _ hp
        cases h
    exact this _ _ _ _ _ hp
  split at h
  · cases h; decide
  cases h
end Go.Proofs.YtfkblpjfknfgbaaGreatDoor
namespace Go.Proofs.YtfkblpjfknfgbaaGreatDoor
open Go.RowKit Go.Maps
set_option maxHeartbeats 2000000 in
set_option maxRecDepth 100000 in
theorem so_wLen (wb : Nat) (es : List En) (w : World) (h : WordsAt w wb es) :
    Calls Tryz.prog 31 #[.pointer (some ⟨wb, 0, none⟩)] w fun e w' => e = .returned (.int .i64 (es.length : Nat)) ∧ w = w' := by
  obtain ⟨mb, lv, xs, h1, h2, h3, h4, -⟩ := h
  have c0 : w.cell? ⟨wb, 0, none⟩ = some lv := by rw [Lib.cell_of_heap h1]; rfl
  have hxl : xs.length = es.length := by rw [← h2, entAbs_len]
  obtain ⟨-, p, c, rfl, -, -⟩ := h3
  rw [hxl] at c0
  clear h1 h2 h4 hxl
  go_enter Tryz.func31, Tryz.ntmps31
  go_wp2_with fail
  go_ret
  exact ⟨rfl, rfl⟩
end Go.Proofs.YtfkblpjfknfgbaaGreatDoor
namespace Go.Proofs.YtfkblpjfknfgbaaGreatDoor
open Go.RowKit Go.Maps
set_option maxHeartbeats 8000000 in
set_option maxRecDepth 100000 in
theorem so_tPrefixes (tb : Nat) (F : Fl) (es : List En) (n : Int) (w : World) (h : TabAt w tb F es) (hok : FlOk F) (ht : TbInv F) (hes : EsOk es) :
    Calls Tryz.prog 24 #[.pointer (some ⟨tb, 0, none⟩), .int .i64 n] w fun e w' => ∃ v', e = .returned v' ∧ IN w.heap.size w' v' (namedR F ((entD (entryAt es n)).2) 1) ∧ Below w.heap.size w w' := by
  have hset := entryAt_set hes n
  have he := so_tEntry tb F es n w h hes
  unfold EntT at he
  obtain ⟨b, hb⟩ : ∃ b, (entryAt es n).isSome = b := ⟨_, rfl⟩
  obtain ⟨x, hx⟩ : ∃ x, entD (entryAt es n) = x := ⟨_, rfl⟩
  rw [hb, hx] at he
  rw [hx] at hset ⊢
  obtain ⟨s, zs⟩ := x
  skip
  dsimp only at he hset ⊢
  have HE := Lib.hid he
  have HS := Lib.hid hset
  have HT := Lib.hid h
  have HOk := Lib.hid hok
  have HTb := Lib.hid ht
  clear he hset h hok ht hes hx hb
  go_enter Tryz.func24, Tryz.ntmps24
  go_wp2_with (first
    | (go_at_call 13; refine HE.out.mono ?_; rintro e w1 ⟨v1, rfl, hfn, hb1⟩; obtain ⟨p1, c1, rfl⟩ : ∃ p c, v1 = .slice p zs.length c := (by obtain ⟨p, c, hv, -⟩ := hfn; exact ⟨p, c, hv⟩); have hba := hb1.alloc hb1.size (.cells #[.string s, .slice p1 zs.length c1] 35); have HB1 := Lib.hid hba; have HF1 := Lib.hid (hfn.fs.keep ((Below.refl _ _).alloc (Nat.le_refl _) (.cells #[.string s, .slice p1 zs.length c1] 35))); clear hfn hb1 hba)
    | (go_at_call 54; refine (so_named tb F es _ zs 1 _ (HT.out.keep HB1.out) HTb.out.1 HOk.out HF1.out HS.out).mono ?_; rintro e w2 ⟨v2, rfl, hin, hb2⟩; have HB2 := Lib.hid (HB1.out.trans (hb2.mono HB1.out.size)); have HI := Lib.hid (hin.mono HB1.out.size); clear hin hb2))
  go_ret
  exact ⟨_, rfl, HI.out, HB2.out⟩
set_option maxHeartbeats 8000000 in
set_option maxRecDepth 100000 in
theorem so_tSeconds (tb : Nat) (F : Fl) (es : List En) (n : Int) (w : World) (h : TabAt w tb F es) (hok : FlOk F) (ht : TbInv F) (hes : EsOk es) :
    Calls Tryz.prog 25 #[.pointer (some ⟨tb, 0, none⟩), .int .i64 n] w fun e w' => ∃ v', e = .returned v' ∧ IN w.heap.size w' v' (namedR F ((ruleD (ruleAt F n)).next) 2) ∧ Below w.heap.size w w' := by
  have hset := ruleAt_set hok ht n
  have he := so_tRule tb F es n w h hok
  unfold RulT at he
  obtain ⟨b, hb⟩ : ∃ b, (ruleAt F n).isSome = b := ⟨_, rfl⟩
  obtain ⟨x, hx⟩ : ∃ x, ruleD (ruleAt F n) = x := ⟨_, rfl⟩
  rw [hb, hx] at he
  rw [hx] at hset ⊢
  obtain ⟨rk, rf, rc, rst, rad, rco, zs, rli⟩ := x
  unfold rlV at he
  dsimp only at he hset ⊢
  have HE := Lib.hid he
  have HS := Lib.hid hset
  have HT := Lib.hid h
  have HOk := Lib.hid hok
  have HTb := Lib.hid ht
  clear he hset h hok ht hes hx hb
  go_enter Tryz.func25, Tryz.ntmps25
  go_wp2_with (first
    | (go_at_call 12; refine HE.out.mono ?_; rintro e w1 ⟨v1, rfl, hfn, hb1⟩; obtain ⟨p1, c1, rfl⟩ : ∃ p c, v1 = .slice p zs.length c := (by obtain ⟨p, c, hv, -⟩ := hfn; exact ⟨p, c, hv⟩); have hba := hb1.alloc hb1.size (.cells #[.int .i64 rk, .int .u16 rf, .bool rc, .string rst, .string rad, .string rco, .slice p1 zs.length c1] 31); have HB1 := Lib.hid hba; have HF1 := Lib.hid (hfn.fs.keep ((Below.refl _ _).alloc (Nat.le_refl _) (.cells #[.int .i64 rk, .int .u16 rf, .bool rc, .string rst, .string rad, .string rco, .slice p1 zs.length c1] 31))); clear hfn hb1 hba)
    | (go_at_call 54; refine (so_named tb F es _ zs 2 _ (HT.out.keep HB1.out) HTb.out.1 HOk.out HF1.out HS.out).mono ?_; rintro e w2 ⟨v2, rfl, hin, hb2⟩; have HB2 := Lib.hid (HB1.out.trans (hb2.mono HB1.out.size)); have HI := Lib.hid (hin.mono HB1.out.size); clear hin hb2))
  go_ret
  exact ⟨_, rfl, HI.out, HB2.out⟩
end Go.Proofs.YtfkblpjfknfgbaaGreatDoor
namespace Go.Proofs.YtfkblpjfknfgbaaGreatDoor
open Go.RowKit Go.Maps
def namedP (F : Fl) (fs : List Int) (kind : Int) (k : Nat) : List Int := ((List.range k).filter (goesN F fs kind)).map (fun n : Nat => (n : Int))
theorem namedP_all (F : Fl) (fs : List Int) (kind : Int) : namedP F fs kind F.rls.length = namedR F fs kind := rfl
theorem namedP_succ (F : Fl) (fs : List Int) (kind : Int) (k : Nat) : namedP F fs kind (k + 1) = namedP F fs kind k ++ (if goesN F fs kind k = true then [(k : Int)] else []) := by
  unfold namedP
  rw [List.range_succ, List.filter_append, List.map_append]
  congr 1
  by_cases h : goesN F fs kind k = true
  · rw [if_pos h]; simp [h]
  rw [if_neg h]; simp [h]
theorem namedP_pre (F : Fl) (fs : List Int) (kind : Int) : ∀ (n k : Nat), k ≤ n → ∃ t, namedP F fs kind n = namedP F fs kind k ++ t
  | 0, k, h => ⟨[], by obtain rfl : k = 0 := by omega
                       simp⟩
  | n + 1, k, h => by
    by_cases e : k = n + 1
    · exact ⟨[], by rw [e]; simp⟩
    · obtain ⟨t, ht⟩ := namedP_pre F fs kind n k (by omega)
      exact ⟨t ++ (if goesN F fs kind n = true then [(n : Int)] else []), by rw [namedP_succ, ht, List.append_assoc]⟩
theorem named_at {F : Fl} {fs : List Int} {kind : Int} {k : Nat} (hk : k < F.rls.length) (h : goesN F fs kind k = true) : (namedP F fs kind k).length < (namedR F fs kind).length ∧ (namedR F fs kind).getD (namedP F fs kind k).length 0 = (k : Int) := by
  obtain ⟨t, ht⟩ := namedP_pre F fs kind F.rls.length (k + 1) hk
  rw [namedP_all, namedP_succ, if_pos h] at ht
  rw [ht]
  constructor
  · simp
  simp [List.getD]
def anyF (fs : List Int) (flag kind' kind : Int) (j : Nat) : Bool := (fs.take j).any (fun f => f == flag && kind' == kind)
theorem anyF_succ (fs : List Int) (flag k' kind : Int) (j : Nat) (hj : j < fs.length) : anyF fs flag k' kind (j + 1) = (anyF fs flag k' kind j || (fs[j] == flag && k' == kind)) := by
  unfold anyF
  rw [List.take_add_one, List.getElem?_eq_getElem hj, List.any_append]
  simp
theorem anyF_all {F : Fl} {fs : List Int} {kind : Int} {k : Nat} (hk : k < F.rls.length) : anyF fs F.rls[k].flag F.rls[k].kind kind fs.length = goesN F fs kind k := by
  unfold anyF goesN
  rw [List.take_length, List.getElem?_eq_getElem hk]
  dsimp only
  rw [Bool.eq_iff_iff]
  simp only [List.any_eq_true, Bool.and_eq_true, beq_iff_eq, decide_eq_true_eq, List.contains_iff_mem]
  constructor
  · rintro ⟨f, hf, rfl, hk⟩; exact ⟨hk, hf⟩
  rintro ⟨hk, hf⟩; exact ⟨_, hf, rfl, hk⟩
set_option maxHeartbeats 8000000 in
set_option maxRecDepth 100000 in
theorem so_goes (va vf vl : Value) (F : Fl) (rs : List (Rl × Value)) (fs : List Int) (kind : Int) (w : World) (hm : rs.map (·.1) = F.rls) (ha : Rd w 7 va rs.length (rlsCells rs)) (ho : ∀ r ∈ rs, FS w r.2 r.1.next) (hf : FS w vf fs) (hl : IS w vl (namedR F fs kind)) (hn : rs.length ≤ 65536) (hfl : fs.length ≤ 65536) :
    Calls Tryz.prog 32 #[va, vf, vl, .int .i64 kind] w fun e w' => e = .returned (.bool true) ∧ Below w.heap.size w w' := by
  have hrl : rs.length = F.rls.length := by rw [← hm]; simp
  have hnl := namedR_len F fs kind
  obtain ⟨-, A, ca, rfl, hca, hcA⟩ := ha
  obtain ⟨pf, cf, rfl, hcf, hcF⟩ := hf
  obtain ⟨pl, cl, rfl, hcl, hcL⟩ := hl
  have HA := Lib.hid hcA
  have HF := Lib.hid hcF
  have HL := Lib.hid hcL
  have HO := Lib.hid ho
  have HMp := Lib.hid hm
  obtain ⟨N, hN⟩ : ∃ N, rs.length = N := ⟨_, rfl⟩
  obtain ⟨M, hM⟩ : ∃ M, (namedR F fs kind).length = M := ⟨_, rfl⟩
  rw [hN] at hrl hca hn ⊢
  rw [hM] at hcl hnl ⊢
  have HN := Lib.hid hN
  have HM := Lib.hid hM
  have HRl := Lib.hid hrl
  have hnM : M ≤ 65536 := by omega
  clear hcA hcF hcL ho hm hN hM hrl hnl
  go_enter Tryz.func32, Tryz.ntmps32
  go_wp2_with fail
  go_loopw [9, 10, 11, 12, 14, 17] (fun at_ _ _ _ _ x wr => ∃ k m : Nat, k ≤ N ∧ x = .int .i64 k ∧ at_ = .int .i64 m ∧ Hid (m = (namedP F fs kind k).length) ∧ Hid (Below w.heap.size w wr)) (fun _ _ _ _ _ x _ => N - (intOf x).toNat)
  case atStart => exact ⟨0, 0, Nat.zero_le _, rfl, rfl, Lib.hid rfl, Lib.hid (Below.refl _ _)⟩
  case round =>
  obtain ⟨k, m, hk, rfl, rfl, HE, HB⟩ := hrel
  by_cases hlt : k < N
  · have hkr : k < rs.length := by have := HN.out; omega
    have hkF : k < F.rls.length := by have := HRl.out; omega
    obtain ⟨g, o, rfl, hc⟩ := HA.out.resolve_left (by have := HN.out; omega)
    obtain ⟨q0, q1, q2, q3, q4, q5, q6⟩ := rls_at rs k hkr
    have key : ∀ j u, (rlsCells rs)[k * 7 + j]? = some u → wr.cell? ⟨g, o + k * 7 + j, none⟩ = some u := fun j u hj => by
      have h := hc _ _ hj
      rw [← Nat.add_assoc] at h
      exact (HB.out.cell (World.block_lt_of_cell? _ _ h)).trans h
    have d0 := key 0 _ q0
    have d1 := key 1 _ q1
    have d2 := key 2 _ q2
    have d3 := key 3 _ q3
    have d4 := key 4 _ q4
    have d5 := key 5 _ q5
    have d6 := key 6 _ q6
    rw [Nat.add_zero] at d0
    have hr1 : F.rls[k] = rs[k].1 := by have h := HMp.out; simp [← h]
    have hany := anyF_all (fs := fs) (kind := kind) hkF
    have hat := fun h => named_at (fs := fs) (kind := kind) hkF h
    have hsc := namedP_succ F fs kind k
    obtain ⟨pu, cu, hu, -⟩ := HO.out _ (List.getElem_mem hkr)
    rw [hr1] at hany
    obtain ⟨x, hx⟩ : ∃ x, rs[k] = x := ⟨_, rfl⟩
    obtain ⟨⟨rk, rf, rc, rst, rad, rco, zs, rli⟩, u⟩ := x
    rw [hx] at d0 d1 d2 d3 d4 d5 d6 hany hu
    dsimp only at d0 d1 d2 d3 d4 d5 d6 hany hu
    subst hu
    have HAny := Lib.hid hany
    have HAt := Lib.hid hat
    have HSc := Lib.hid hsc
    have hnk : (k : Int) < (N : Int) := by omega
    clear hc q0 q1 q2 q3 q4 q5 q6 key hr1 hany hat hsc hx hkr
    go_wp2_with fail
    have z0 := Lib.cell_of_heap (heap_alloc_new wr (.cells #[.int .i64 rk, .int .u16 rf, .bool rc, .string rst, .string rad, .string rco, .slice pu zs.length cu] 31)) 0
    have z1 := Lib.cell_of_heap (heap_alloc_new wr (.cells #[.int .i64 rk, .int .u16 rf, .bool rc, .string rst, .string rad, .string rco, .slice pu zs.length cu] 31)) 1
    have HB1 : Hid (Below w.heap.size w (wr.alloc (.cells #[.int .i64 rk, .int .u16 rf, .bool rc, .string rst, .string rad, .string rco, .slice pu zs.length cu] 31))) := Lib.hid (HB.out.alloc HB.out.size _)
    obtain ⟨w1, hw1⟩ : ∃ W, wr.alloc (.cells #[.int .i64 rk, .int .u16 rf, .bool rc, .string rst, .string rad, .string rco, .slice pu zs.length cu] 31) = W := ⟨_, rfl⟩
    rw [hw1] at z0 z1 HB1 ⊢
    simp only [List.getElem?_toArray, List.getElem?_cons_zero, List.getElem?_cons_succ] at z0 z1
    clear hw1
    go_loop [12, 14, 24] (fun b _ y => ∃ j : Nat, j ≤ fs.length ∧ y = .int .i64 j ∧ b = .bool (anyF fs rf rk kind j)) (fun _ _ y => fs.length - (intOf y).toNat)
    case atStart => exact ⟨0, Nat.zero_le _, rfl, rfl⟩
    case round =>
    obtain ⟨j, hj, rfl, rfl⟩ := hrel
    by_cases hjl : j < fs.length
    · obtain ⟨b2, o2, rfl, hc2⟩ := HF.out.resolve_left (by omega)
      have c2 := hc2 j hjl
      have he2 : fs.getD j 0 = fs[j] := by simp [List.getD, hjl]
      rw [he2] at c2
      have e2 := (HB1.out.cell (World.block_lt_of_cell? _ _ c2)).trans c2
      have hsj := anyF_succ fs rf rk kind j hjl
      obtain ⟨f, hf⟩ : ∃ f, fs[j] = f := ⟨_, rfl⟩
      rw [hf] at e2 hsj
      obtain ⟨b, hb⟩ : ∃ b, anyF fs rf rk kind j = b := ⟨_, rfl⟩
      rw [hb] at hsj ⊢
      clear hc2 c2 he2 hf hb
      cases b
      · by_cases hfx : f = rf
        · have hb1 : (f == rf) = true := by rw [beq_iff_eq]; exact hfx
          by_cases hkd : rk = kind
          · have hb2 : (rk == kind) = true := by rw [beq_iff_eq]; exact hkd
            rw [hb1, hb2] at hsj
            have HNx : Hid (anyF fs rf rk kind (j + 1) = true) := Lib.hid hsj
            clear hsj hfx hkd
            go_wp2_with fail
            go_round
            case rel => exact ⟨j + 1, by omega, by go_num, by rw [HNx.out]⟩
            case measure => simp [intOf]; omega
          have hb2 : (rk == kind) = false := by rw [beq_eq_false_iff_ne]; exact hkd
          rw [hb1, hb2] at hsj
          have HNx : Hid (anyF fs rf rk kind (j + 1) = false) := Lib.hid hsj
          clear hsj hfx hkd
          go_wp2_with fail
          go_round
          case rel => exact ⟨j + 1, by omega, by go_num, by rw [HNx.out]⟩
          case measure => simp [intOf]; omega
        have hb1 : (f == rf) = false := by rw [beq_eq_false_iff_ne]; exact hfx
        rw [hb1] at hsj
        have HNx : Hid (anyF fs rf rk kind (j + 1) = false) := Lib.hid hsj
        clear hsj hfx
        go_wp2_with fail
        go_round
        case rel => exact ⟨j + 1, by omega, by go_num, by rw [HNx.out]⟩
        case measure => simp [intOf]; omega
      have HNx : Hid (anyF fs rf rk kind (j + 1) = true) := Lib.hid (by rw [hsj]; rfl)
      clear hsj
      go_wp2_with fail
      go_round
      case rel => exact ⟨j + 1, by omega, by go_num, by rw [HNx.out]⟩
      case measure => simp [intOf]; omega
    obtain rfl : j = fs.length := by omega
    rw [HAny.out]
    cases hg : goesN F fs kind k
    · have HEn : Hid (m = (namedP F fs kind (k + 1)).length) := Lib.hid (by rw [HSc.out, hg, HE.out]; simp)
      clear hg
      go_wp2_with fail
      go_roundw
      case rel => exact ⟨k + 1, m, by omega, by go_num, rfl, HEn, HB1⟩
      case measure => simp [intOf]; omega
    have HEn : Hid (m + 1 = (namedP F fs kind (k + 1)).length) := Lib.hid (by rw [HSc.out, hg, HE.out]; simp)
    obtain ⟨h1, h2⟩ := HAt.out hg
    rw [← HE.out] at h1 h2
    obtain ⟨bl, ol, rfl, hc3⟩ := HL.out.resolve_left (by omega)
    have c3 := hc3 m h1
    rw [h2] at c3
    have e3 := (HB1.out.cell (World.block_lt_of_cell? _ _ c3)).trans c3
    have hmM : m < M := by have := HM.out; omega
    have hmi : (m : Int) < (M : Int) := by omega
    have hmi2 : ¬ (M : Int) ≤ (m : Int) := by omega
    clear hg h1 h2 hc3 c3
    go_wp2_with fail
    go_roundw
    case rel => exact ⟨k + 1, m + 1, by omega, by go_num, by go_num, HEn, HB1⟩
    case measure => simp [intOf]; omega
  obtain rfl : k = N := by omega
  have HEm : Hid (m = M) := Lib.hid (by rw [HE.out, HRl.out, namedP_all, HM.out])
  obtain rfl := HEm.out
  go_wp2_with fail
  go_ret
  exact ⟨by simp, HB.out⟩
end Go.Proofs.YtfkblpjfknfgbaaGreatDoor
namespace Go.Proofs.YtfkblpjfknfgbaaGreatDoor
open Go.RowKit Go.Maps
theorem piece_err {b : Bool} {s : ByteArray} {c : Int} (h : pieceR b s = .error c) : c ≠ 0 := by
  unfold pieceR at h
  split at h
  · cases h
  split at h
  split at h
  · cases h; assumption
  split at h
  · cases h; decide
  split at h
  · cases h; assumption
  cases h
theorem fresh_err {F : Fl} {s : ByteArray} {c : Int} (h : freshR F s = .error c) : c ≠ 0 := by
  unfold freshR at h
  split at h
  · cases h; assumption
  split at h
  · cases h; decide
  cases h
theorem rep_err {F : Fl} {l : Int} {row : List ByteArray} {c : Int} (h : repR_ F l row = .error c) : c ≠ 0 := by
  unfold repR_ at h
  split at h
  · cases h; decide
  split at h
  · rename_i hp; cases h; exact piece_err hp
  split at h
  · rename_i hp; cases h; exact piece_err hp
  cases h
theorem alias_err {F : Fl} {l : Int} {row : List ByteArray} {c : Int} (h : aliasR F l row = .error c) : c ≠ 0 := by
  unfold aliasR at h
  split at h
  · cases h; decide
  split at h
  · cases h; assumption
  cases h
theorem addR_err {w : List UInt8} {c : Int} (h : addR w = .error c) : c ≠ 0 := by
  unfold addR at h
  split at h
  · cases h
  split at h
  · cases h; assumption
  cases h
theorem nextR_err {F : Fl} {k : Int} {r : List UInt8} {b : Bool} {c : Int} (h : nextR F k r b = .error c) : c ≠ 0 := by
  unfold nextR at h
  split at h
  · split at h
    · cases h; decide
    split at h
    · cases h; assumption
    cases h
  cases h
theorem condOf_err {row : List ByteArray} {c : Int} (h : condOf row = .error c) : c ≠ 0 := by
  unfold condOf at h
  split at h
  · split at h
    · cases h; decide
    split at h
    · rename_i hc
      cases h
      have := condR_err hc
      simpa using this
    cases h
  cases h
theorem rule_err {cl : Cl} {F : Fl} {l : Int} {row : List ByteArray} {c : Int} (h : ruleIn cl F l row = .error c) : c ≠ 0 := by
  unfold ruleIn at h
  split at h
  · rename_i hr
    cases h
    unfold ruleR at hr
    split at hr
    · cases hr; decide
    split at hr
    · rename_i hp; cases hr; exact piece_err hp
    split at hr
    split at hr
    · cases hr; assumption
    split at hr
    · rename_i ha; cases hr; exact addR_err ha
    split at hr
    · rename_i hn; cases hr; exact nextR_err hn
    split at hr
    · rename_i hc; cases hr; exact condOf_err hc
    cases hr
  cases h
theorem group_err {end_ : Int} {ok : List ByteArray → Bool} {inn : Fl → Int → List ByteArray → Except Int Fl} (hi : ∀ F l r c, inn F l r = .error c → c ≠ 0) : ∀ (n : Nat) (S : Sx) (l c : Int), groupR end_ ok inn n S = .error (l, c) → c ≠ 0
  | 0, S, l, c, h => by rw [groupR] at h; cases h
  | n + 1, S, l, c, h => by
    rw [groupR] at h
    split at h
    · cases h; decide
    · split at h
      · split at h
        · rename_i hF; cases h; exact hi _ _ _ _ hF
        · exact group_err hi n _ l c h
      · cases h; decide
theorem onFl_err {l l' c : Int} {S : Sx} {x : Except Int Fl} (h : onFl l S x = .error (l', c)) : x = .error c := by
  cases x with
  | error e => cases h; rfl
  | ok F => cases h
theorem head_err {end_ l c : Int} {S : Sx} {row : List ByteArray} {k : Nat} (h : headR end_ S row k = .error (l, c)) : c ≠ 0 := by
  unfold headR at h
  split at h
  · have hF := onFl_err h
    unfold kindR at hF
    split at hF
    · cases hF; decide
    split at hF
    · cases hF; decide
    cases hF
  split at h
  · have hF := onFl_err h
    unfold setR at hF
    split at hF
    · cases hF; decide
    cases hF
  split at h
  · have hF := onFl_err h
    unfold tryR at hF
    split at hF
    · cases hF; assumption
    cases hF
  split at h
  · have hF := onFl_err h
    unfold specialR at hF
    split at hF
    · rename_i hf; cases hF; exact fresh_err hf
    cases hF
  split at h
  · have hF := onFl_err h
    unfold leastR at hF
    split at hF
    · cases hF; decide
    cases hF
  split at h
  · unfold repsG at h
    split at h
    · cases h; decide
    exact group_err (fun F l r c h => rep_err h) _ _ _ _ h
  split at h
  · unfold aliasG at h
    split at h
    · cases h; decide
    split at h
    · cases h; decide
    exact group_err (fun F l r c h => alias_err h) _ _ _ _ h
  unfold classR at h
  split at h
  · rename_i hf; cases h; exact fresh_err hf
  split at h
  · cases h; decide
  split at h
  · cases h; decide
  split at h
  · cases h; decide
  exact group_err (fun F l r c h => rule_err h) _ _ _ _ h
theorem read_err {end_ : Int} : ∀ (n : Nat) (S : Sx) (l c : Int), readGo end_ n S = .error (l, c) → c ≠ 0
  | 0, S, l, c, h => by rw [readGo] at h; cases h
  | n + 1, S, l, c, h => by
    rw [readGo] at h
    split at h
    · cases h
    · split at h
      · rename_i e hs
        cases h
        unfold stepR at hs
        split at hs
        · cases hs; decide
        split at hs
        · cases hs; decide
        split at hs
        · cases hs; decide
        split at hs
        · rename_i hh
          cases hs
          exact head_err hh
        · cases hs
      · exact read_err n _ l c h
theorem affR_err {t : List UInt8} {l c : Int} (h : affR t = .error (l, c)) : c ≠ 0 := by
  unfold affR at h
  split at h
  · cases h; decide
  split at h
  · rename_i hr; cases h; exact read_err _ _ _ _ hr
  split at h
  · cases h; decide
  cases h
end Go.Proofs.YtfkblpjfknfgbaaGreatDoor
namespace Go.Proofs.YtfkblpjfknfgbaaGreatDoor
open Go.RowKit Go.Maps
theorem tabR_err {a d : List UInt8} {k l c : Int} (h : tabR a d = .error (k, l, c)) : (k = 1 ∨ k = 2) ∧ c ≠ 0 := by
  unfold tabR at h
  split at h
  · rename_i p hp
    cases h
    exact ⟨.inl rfl, affR_err (l := p.1) hp⟩
  split at h
  · rename_i p hp
    cases h
    exact ⟨.inr rfl, dicR_err (l := p.1) hp⟩
  cases h
theorem TabAt.parts {w : World} {tb : Nat} {F : Fl} {es : List En} (h : TabAt w tb F es) : ∃ fb wb, w.cell? ⟨tb, 0, none⟩ = some (.pointer (some ⟨fb, 0, none⟩)) ∧ w.cell? ⟨tb, 1, none⟩ = some (.pointer (some ⟨wb, 0, none⟩)) ∧ FileAt w fb F ∧ WordsAt w wb es := by
  obtain ⟨fb, wb, a, ev, h1, h2, h3, -⟩ := h
  exact ⟨fb, wb, by rw [Lib.cell_of_heap h1]; rfl, by rw [Lib.cell_of_heap h1]; rfl, h2, h3⟩
theorem field_rules (F : Fl) (vr va vc vl : Value) (W : World) : (Instr.field 83 (.agg #[.int .i64 F.kind, .string F.charset, .string F.tryT, .int .u16 F.s0, .int .u16 F.s1, .int .u16 F.s2, .int .u16 F.s3, .int .u16 F.s4, .int .i64 F.least, vr, va, vc, vl]) 8).run Tryz.prog W = .ok vl W := by
  first | kernel_rfl | rfl | simp [go_sem]
set_option maxHeartbeats 8000000 in
set_option maxRecDepth 100000 in
theorem tablesNames_walk (a d : ByteArray) (m0 : Int) (w : World) (h0 : 0 < w.heap.size) (hm : w.cell? ⟨0, 0, none⟩ = some (.int .i64 m0)) :
    Calls Tryz.prog 8 #[.string a, .string d] w fun e w' => e = .returned (.bool true) ∧ Below w.heap.size w w' := by
  have HM : Hid (∀ W, Below w.heap.size w W → 0 < W.heap.size ∧ W.cell? ⟨0, 0, none⟩ = some (.int .i64 m0)) := Lib.hid (fun W hW => ⟨Nat.lt_of_lt_of_le h0 hW.size, (hW.cell (World.block_lt_of_cell? _ _ hm)).trans hm⟩)
  have HW := Lib.hid (so_twakes m0 w h0 hm)
  have HT : Hid (∀ W, Below w.heap.size w W → Calls Tryz.prog 17 #[.string a, .string d] W (TabP (tabR a.data.toList d.data.toList) W)) := Lib.hid (fun W hW => so_tabRead a d m0 W (HM.out W hW).1 (HM.out W hW).2)
  unfold TabP at HT
  clear h0 hm
  cases hr : tabR a.data.toList d.data.toList with
  | error p =>
    obtain ⟨k, l, c⟩ := p
    obtain ⟨hk, hc⟩ := tabR_err hr
    have hc0 : (c != 0) = true := by rw [bne_iff_ne]; exact hc
    rw [hr] at HT
    dsimp only at HT
    clear hr hc
    rcases hk with rfl | rfl
    all_goals
      go_enter Tryz.func8, Tryz.ntmps8
      go_wp2_with (first
        | (go_at_call 11; refine HW.out.mono ?_; rintro e w1 ⟨rfl, hb1⟩; have HB1 := Lib.hid hb1; clear hb1)
        | (go_at_call 17; refine (HT.out _ HB1.out).mono ?_; rintro e w2 ⟨hb2, rfl⟩; have HB2 := Lib.hid (HB1.out.trans (hb2.mono HB1.out.size)); clear hb2))
      go_ret
      exact ⟨by simp, HB2.out.alloc HB2.out.size _⟩
  | ok p =>
    obtain ⟨F, es⟩ := p
    rw [hr] at HT
    dsimp only at HT
    clear hr
    go_enter Tryz.func8, Tryz.ntmps8
    go_wp2_with fail
    refine HW.out.mono ?_
    rintro e w1 ⟨rfl, hb1⟩
    have HB1 := Lib.hid hb1
    clear hb1
    go_wp2_with fail
    refine (HT.out _ HB1.out).mono ?_
    rintro e w2 ⟨hb2, tb, rfl, ht, hok, -⟩
    have HB2 := Lib.hid ((HB1.out.trans (hb2.mono HB1.out.size)).alloc (HB1.out.trans (hb2.mono HB1.out.size)).size (.cells #[.int .i64 0, .int .i64 0, .int .i64 0] 60))
    have ht2 := ht.keep ((Below.refl _ w2).alloc (Nat.le_refl _) (.cells #[.int .i64 0, .int .i64 0, .int .i64 0] 60))
    obtain ⟨fb, wb, cf, cw, hfa, hwa⟩ := ht2.parts
    have htl := ht2.lt
    have HT2 := Lib.hid ht2
    have HFa := Lib.hid hfa
    have HWa := Lib.hid hwa
    have HOk := Lib.hid hok
    have hn := hok.2.2.len
    have hnr := hok.1.rls
    clear hb2 ht ht2 hfa hwa hok HM HT HW
    go_wp2_with fail
    obtain ⟨wA, hwA⟩ : ∃ W, w2.alloc (.cells #[.int .i64 0, .int .i64 0, .int .i64 0] 60) = W := ⟨_, rfl⟩
    rw [hwA] at HB2 HT2 HFa HWa cf cw htl ⊢
    refine (so_Affixes fb F wA HFa.out HOk.out.1).mono ?_
    rintro e w3 ⟨⟨vr, va, vc, vl⟩, rfl, han, hb3⟩
    obtain ⟨Ar, kr, rfl⟩ := own_slice han.reps
    obtain ⟨Aa, ka, rfl⟩ : ∃ A k, va = .slice A F.als.length k := by obtain ⟨us, h, -⟩ := han.als; exact own_slice h
    obtain ⟨Ac, kc, rfl⟩ := own_slice han.cls
    obtain ⟨rs, hrm, hro, hrf⟩ := han.rls
    obtain ⟨Al, kl, rfl⟩ := own_slice hro
    have hrl : rs.length = F.rls.length := by rw [← hrm]; simp
    have HRl := Lib.hid hrl
    have HB3 := Lib.hid (HB2.out.trans (hb3.mono HB2.out.size))
    have HT3 := Lib.hid (HT2.out.keep hb3)
    have HW3 := Lib.hid (HWa.out.keep hb3)
    have HGo : Hid (∀ W vf vu fs kind, Below w3.heap.size w3 W → FS W vf fs → IS W vu (namedR F fs kind) → fs.length ≤ 65536 → Calls Tryz.prog 32 #[.slice Al rs.length kl, vf, vu, .int .i64 kind] W fun e w' => e = .returned (.bool true) ∧ Below W.heap.size W w') := Lib.hid (fun W vf vu fs kind hW hf hu hl => so_goes _ vf vu F rs fs kind W hrm ((Rd.of_own hro).keep hW) (fun r hr => (hrf r hr).fs.keep hW) hf hu (by omega) hl)
    have HRd := Lib.hid (Rd.of_own hro)
    have HRm := Lib.hid hrm
    have HRf : Hid (∀ r ∈ rs, FS w3 r.2 r.1.next) := Lib.hid (fun r hr => (hrf r hr).fs)
    have d1 : w3.cell? ⟨tb, 1, none⟩ = some (.pointer (some ⟨wb, 0, none⟩)) := (hb3.cell (p := ⟨tb, 1, none⟩) htl).trans cw
    have htl3 : tb < w3.heap.size := Nat.lt_of_lt_of_le htl hb3.size
    obtain ⟨N, hN⟩ : ∃ N, rs.length = N := ⟨_, rfl⟩
    have hnN : N ≤ 65536 := by omega
    unfold affV affA
    dsimp only
    rw [hN] at HGo ⊢
    have HN := Lib.hid hN
    have hfd := field_rules F (.slice Ar F.reps.length kr) (.slice Aa F.als.length ka) (.slice Ac F.cls.length kc) (.slice Al N kl) w3
    clear han hro hrm hrf hb3 hrl cf cw HT2 HFa HWa HB2 hwA htl hN hnr
    go_wp2_with fail
    refine (so_wLen wb es w3 HW3.out).mono ?_
    rintro e w4 ⟨rfl, rfl⟩
    obtain ⟨n, hnn⟩ : ∃ n, es.length = n := ⟨_, rfl⟩
    rw [hnn] at hn ⊢
    have HNn := Lib.hid hnn
    clear hnn hfd d1 HW3
    go_wp2_with fail
    go_loopw [8, 9, 10, 47] (fun _ _ _ x wr => ∃ k, k ≤ n ∧ x = .int .i64 k ∧ Hid (Below w3.heap.size w3 wr)) (fun _ _ _ x _ => n - (intOf x).toNat)
    case atStart => exact ⟨0, Nat.zero_le _, rfl, Lib.hid (Below.refl _ _)⟩
    case round =>
    obtain ⟨k, hk, rfl, HBk⟩ := hrel
    by_cases hlt : k < n
    · have hke : k < es.length := by have := HNn.out; omega
      have he := so_tEntry tb F es (k : Int) wr (HT3.out.keep HBk.out) HOk.out.2.2
      unfold EntT at he
      rw [entryAt_in hke] at he
      have hset := (HOk.out.2.2.each _ (List.getElem_mem hke)).1
      have hsu : ∀ W, Below w3.heap.size w3 W → Calls Tryz.prog 23 #[.pointer (some ⟨tb, 0, none⟩), .int .i64 (k : Int)] W fun e w' => ∃ v', e = .returned v' ∧ IN W.heap.size w' v' (namedR F es[k].2 2) ∧ Below W.heap.size W w' := fun W hW => by
        have := so_tSuffixes tb F es (k : Int) W (HT3.out.keep hW) HOk.out.1 HOk.out.2.1 HOk.out.2.2
        rw [entryAt_in hke] at this
        exact this
      have hpr : ∀ W, Below w3.heap.size w3 W → Calls Tryz.prog 24 #[.pointer (some ⟨tb, 0, none⟩), .int .i64 (k : Int)] W fun e w' => ∃ v', e = .returned v' ∧ IN W.heap.size w' v' (namedR F es[k].2 1) ∧ Below W.heap.size W w' := fun W hW => by
        have := so_tPrefixes tb F es (k : Int) W (HT3.out.keep hW) HOk.out.1 HOk.out.2.1 HOk.out.2.2
        rw [entryAt_in hke] at this
        exact this
      obtain ⟨x, hx⟩ : ∃ x, es[k] = x := ⟨_, rfl⟩
      obtain ⟨s, zs⟩ := x
      rw [hx] at he hset
      simp only [hx] at hsu hpr
      unfold entD at he
      dsimp only [Option.getD_some, Option.isSome_some] at he hset
      have HE := Lib.hid he
      have HSu := Lib.hid hsu
      have HPr := Lib.hid hpr
      have hzl := hset.len
      have hkn : (k : Int) < (n : Int) := by omega
      clear he hsu hpr hset hx hke
      go_upto_region 11 with (go_at_call 13; refine HE.out.mono ?_; rintro e w5 ⟨v5, rfl, hfn, hb5⟩; obtain ⟨p5, c5, rfl⟩ : ∃ p c, v5 = .slice p zs.length c := (by obtain ⟨p, c, hv, -⟩ := hfn; exact ⟨p, c, hv⟩); have HB5 := Lib.hid (HBk.out.trans (hb5.mono HBk.out.size)); have HF5 := Lib.hid hfn.fs; clear hfn hb5)
      have HX6 := Lib.hid (heap_alloc_new w5 (.cells #[.string s, .slice p5 zs.length c5] 35))
      have HB6 := Lib.hid (HB5.out.alloc HB5.out.size (.cells #[.string s, .slice p5 zs.length c5] 35))
      have HF6 := Lib.hid (HF5.out.keep ((Below.refl _ w5).alloc (Nat.le_refl _) (.cells #[.string s, .slice p5 zs.length c5] 35)))
      obtain ⟨w6, hw6⟩ : ∃ W, w5.alloc (.cells #[.string s, .slice p5 zs.length c5] 35) = W := ⟨_, rfl⟩
      obtain ⟨xb, hxb⟩ : ∃ n, w5.heap.size = n := ⟨_, rfl⟩
      rw [hw6, hxb] at HX6
      rw [hw6] at HB6 HF6 ⊢
      rw [hxb]
      have HXl : Hid (xb < w6.heap.size) := Lib.hid (block_lt HX6.out)
      have HSb : Hid (∀ W, Below w6.heap.size w6 W → W.cell? ⟨xb, 1, none⟩ = some (.slice p5 zs.length c5)) := Lib.hid (fun W hW => by rw [Lib.cell_of_heap ((hW.block xb HXl.out).trans HX6.out)]; rfl)
      clear hw6 hxb HX6 HF5 HB5 HE
      refine wp_region_held_drew (S := fun W => W.cell? ⟨xb, 1, none⟩ = some (.slice p5 zs.length c5)) (by kernel_rfl) ?_ (fun hHeld => ?_)
      · exact HSb.out _ drew_below
      refine tkH 0 (some 56) ?_ ?_ hHeld ?_; rotate_left; focus (intro w hSw; (try dsimp only at hSw); go_simp; try with_reducible rfl); try simp only [put_norm]
      refine tkH 1 (some 57) ?_ ?_ hHeld ?_; rotate_left; focus (intro w hSw; (try dsimp only at hSw); go_simp; try with_reducible rfl); try simp only [put_norm]
      refine tkH 2 (some 58) ?_ ?_ hHeld ?_; rotate_left; focus (intro w hSw; (try dsimp only at hSw); go_simp; try with_reducible rfl); try simp only [put_norm]
      refine tkH 3 (some 59) ?_ ?_ hHeld ?_; rotate_left; focus (intro w hSw; (try dsimp only at hSw); go_simp; try with_reducible rfl); try simp only [put_norm]
      refine tkH 4 (some 60) ?_ ?_ hHeld ?_; rotate_left; focus (intro w hSw; (try dsimp only at hSw); go_simp; try with_reducible rfl); try simp only [put_norm]
      refine tkH 5 (some 61) ?_ ?_ hHeld ?_; rotate_left; focus (intro w hSw; (try dsimp only at hSw); go_simp; try with_reducible rfl); try simp only [put_norm]
      refine tkH 6 (some 62) ?_ ?_ hHeld ?_; rotate_left; focus (intro w hSw; (try dsimp only at hSw); go_simp; try with_reducible rfl); try simp only [put_norm]
      refine tkH 7 (some 63) ?_ ?_ hHeld ?_; rotate_left; focus (intro w hSw; (try dsimp only at hSw); go_simp; try with_reducible rfl); try simp only [put_norm]
      refine rdy1 8 (fun K hK => ?_)
      go_simp
      refine (HSu.out _ (HB6.out.trans ((drew_below (w := w6)).mono HB6.out.size))).mono ?_
      rintro e w7 ⟨v7, rfl, hin, hb7⟩
      have HC7 : Hid (Below w6.heap.size w6 w7) := Lib.hid ((drew_below (w := w6)).trans hb7)
      have HI7 := Lib.hid hin.is
      clear hin hb7
      refine hK.out _ _ ?_ (fun hHeld => ?_)
      · exact HSb.out _ HC7.out
      clear hK K
      refine rdy1 9 (fun K hK => ?_)
      go_simp
      refine (HGo.out _ _ _ zs 2 (HB6.out.trans (HC7.out.mono HB6.out.size)) (HF6.out.keep HC7.out) HI7.out hzl).mono ?_
      rintro e w8 ⟨rfl, hb8⟩
      have HC8 : Hid (Below w6.heap.size w6 w8) := Lib.hid (HC7.out.trans (hb8.mono HC7.out.size))
      clear hb8
      refine hK.out _ _ ?_ (fun hHeld => ?_)
      · exact HSb.out _ HC8.out
      clear hK K
      refine tkH 10 (some 66) ?_ ?_ hHeld ?_; rotate_left; focus (intro w hSw; (try dsimp only at hSw); go_simp; try with_reducible rfl); try simp only [put_norm]
      refine tkH 11 (some 67) ?_ ?_ hHeld ?_; rotate_left; focus (intro w hSw; (try dsimp only at hSw); go_simp; try with_reducible rfl); try simp only [put_norm]
      refine tkH 12 (some 68) ?_ ?_ hHeld ?_; rotate_left; focus (intro w hSw; (try dsimp only at hSw); go_simp; try with_reducible rfl); try simp only [put_norm]
      refine tkH 13 (some 69) ?_ ?_ hHeld ?_; rotate_left; focus (intro w hSw; (try dsimp only at hSw); go_simp; try with_reducible rfl); try simp only [put_norm]
      refine tkH 14 (some 70) ?_ ?_ hHeld ?_; rotate_left; focus (intro w hSw; (try dsimp only at hSw); go_simp; try with_reducible rfl); try simp only [put_norm]
      refine tkH 15 (some 71) ?_ ?_ hHeld ?_; rotate_left; focus (intro w hSw; (try dsimp only at hSw); go_simp; try with_reducible rfl); try simp only [put_norm]
      refine tkH 16 (some 72) ?_ ?_ hHeld ?_; rotate_left; focus (intro w hSw; (try dsimp only at hSw); go_simp; try with_reducible rfl); try simp only [put_norm]
      refine tkH 17 (some 73) ?_ ?_ hHeld ?_; rotate_left; focus (intro w hSw; (try dsimp only at hSw); go_simp; try with_reducible rfl); try simp only [put_norm]
      refine rdy1 18 (fun K hK => ?_)
      go_simp
      refine (HPr.out _ (HB6.out.trans (HC8.out.mono HB6.out.size))).mono ?_
      rintro e w9 ⟨v9, rfl, hin, hb9⟩
      have HC9 : Hid (Below w6.heap.size w6 w9) := Lib.hid (HC8.out.trans (hb9.mono HC8.out.size))
      have HI9 := Lib.hid hin.is
      clear hin hb9
      refine hK.out _ _ ?_ (fun hHeld => ?_)
      · exact HSb.out _ HC9.out
      clear hK K
      refine rdy1 19 (fun K hK => ?_)
      go_simp
      refine (HGo.out _ _ _ zs 1 (HB6.out.trans (HC9.out.mono HB6.out.size)) (HF6.out.keep HC9.out) HI9.out hzl).mono ?_
      rintro e w10 ⟨rfl, hb10⟩
      have HC10 : Hid (Below w6.heap.size w6 w10) := Lib.hid (HC9.out.trans (hb10.mono HC9.out.size))
      clear hb10
      refine hK.out _ _ ?_ (fun hHeld => ?_)
      · exact HSb.out _ HC10.out
      clear hK K
      refine tkH 20 (some 76) ?_ ?_ hHeld ?_; rotate_left; focus (intro w hSw; (try dsimp only at hSw); go_simp; try with_reducible rfl); try simp only [put_norm]
      refine tkH 21 (some 77) ?_ ?_ hHeld ?_; rotate_left; focus (intro w hSw; (try dsimp only at hSw); go_simp; try with_reducible rfl); try simp only [put_norm]
      refine wpAnyH_done (by kernel_rfl) ?_ _
      go_wp2_with fail
      go_roundw
      case rel => exact ⟨k + 1, by omega, by go_num, Lib.hid (HB6.out.trans (HC10.out.mono HB6.out.size))⟩
      case measure => simp [intOf]; omega
    obtain rfl : k = n := by omega
    go_wp2_with fail
    go_loopw [11, 12, 81] (fun _ _ x wz => ∃ j, j ≤ N ∧ x = .int .i64 j ∧ Hid (Below w3.heap.size w3 wz)) (fun _ _ x _ => N - (intOf x).toNat)
    case atStart => exact ⟨0, Nat.zero_le _, rfl, HBk⟩
    case round =>
    obtain ⟨j, hj, rfl, HBj⟩ := hrel
    by_cases hjl : j < N
    · have hjr : j < rs.length := by have := HN.out; omega
      have hjF : j < F.rls.length := by have := HRl.out; omega
      obtain ⟨-, A, cp, hv, hcap, hcells⟩ := HRd.out
      cases hv
      obtain ⟨g, o, rfl, hc⟩ := hcells.resolve_left (by omega)
      obtain ⟨q0, q1, q2, q3, q4, q5, q6⟩ := rls_at rs j hjr
      have key : ∀ i u, (rlsCells rs)[j * 7 + i]? = some u → wr.cell? ⟨g, o + j * 7 + i, none⟩ = some u := fun i u hi => by
        have h := hc _ _ hi
        rw [← Nat.add_assoc] at h
        exact (HBj.out.cell (World.block_lt_of_cell? _ _ h)).trans h
      have e0 := key 0 _ q0
      have e1 := key 1 _ q1
      have e2 := key 2 _ q2
      have e3 := key 3 _ q3
      have e4 := key 4 _ q4
      have e5 := key 5 _ q5
      have e6 := key 6 _ q6
      rw [Nat.add_zero] at e0
      have hr1 : F.rls[j] = rs[j].1 := by have h := HRm.out; simp [← h]
      have hset := next_set HOk.out.1 HOk.out.2.1 _ (List.getElem_mem hjF)
      have hse : ∀ W, Below w3.heap.size w3 W → Calls Tryz.prog 25 #[.pointer (some ⟨tb, 0, none⟩), .int .i64 (j : Int)] W fun e w' => ∃ v', e = .returned v' ∧ IN W.heap.size w' v' (namedR F F.rls[j].next 2) ∧ Below W.heap.size W w' := fun W hW => by
        have := so_tSeconds tb F es (j : Int) W (HT3.out.keep hW) HOk.out.1 HOk.out.2.1 HOk.out.2.2
        rw [ruleAt_in hjF] at this
        exact this
      have hfs := (HRf.out _ (List.getElem_mem hjr)).keep HBj.out
      rw [hr1] at hset
      simp only [hr1] at hse
      obtain ⟨x, hx⟩ : ∃ x, rs[j] = x := ⟨_, rfl⟩
      obtain ⟨⟨rk, rf, rc, rst, rad, rco, zs, rli⟩, u⟩ := x
      rw [hx] at e0 e1 e2 e3 e4 e5 e6 hfs hset
      simp only [hx] at hse
      dsimp only at e0 e1 e2 e3 e4 e5 e6 hfs hset
      have HFs := Lib.hid hfs
      obtain ⟨pu, cu, rfl, -⟩ := hfs
      have HSe := Lib.hid hse
      have hzl := hset.len
      have hjn : (j : Int) < (N : Int) := by omega
      clear hc hcells q0 q1 q2 q3 q4 q5 q6 key hr1 hset hse hx hjr hjF
      go_upto_region 17 with fail
      have HX6 := Lib.hid (heap_alloc_new wr (.cells #[.int .i64 rk, .int .u16 rf, .bool rc, .string rst, .string rad, .string rco, .slice pu zs.length cu] 31))
      have HB6 := Lib.hid (HBj.out.alloc HBj.out.size (.cells #[.int .i64 rk, .int .u16 rf, .bool rc, .string rst, .string rad, .string rco, .slice pu zs.length cu] 31))
      have HF6 := Lib.hid (HFs.out.keep ((Below.refl _ wr).alloc (Nat.le_refl _) (.cells #[.int .i64 rk, .int .u16 rf, .bool rc, .string rst, .string rad, .string rco, .slice pu zs.length cu] 31)))
      obtain ⟨w6, hw6⟩ : ∃ W, wr.alloc (.cells #[.int .i64 rk, .int .u16 rf, .bool rc, .string rst, .string rad, .string rco, .slice pu zs.length cu] 31) = W := ⟨_, rfl⟩
      obtain ⟨xb, hxb⟩ : ∃ n, wr.heap.size = n := ⟨_, rfl⟩
      rw [hw6, hxb] at HX6
      rw [hw6] at HB6 HF6 ⊢
      rw [hxb]
      have HXl : Hid (xb < w6.heap.size) := Lib.hid (block_lt HX6.out)
      have HSb : Hid (∀ W, Below w6.heap.size w6 W → W.cell? ⟨xb, 6, none⟩ = some (.slice pu zs.length cu)) := Lib.hid (fun W hW => by rw [Lib.cell_of_heap ((hW.block xb HXl.out).trans HX6.out)]; rfl)
      clear hw6 hxb HX6 HFs e0 e1 e2 e3 e4 e5 e6
      refine wp_region_held_drew (S := fun W => W.cell? ⟨xb, 6, none⟩ = some (.slice pu zs.length cu)) (by kernel_rfl) ?_ (fun hHeld => ?_)
      · exact HSb.out _ drew_below
      refine tkH 0 (some 86) ?_ ?_ hHeld ?_; rotate_left; focus (intro w hSw; (try dsimp only at hSw); go_simp; try with_reducible rfl); try simp only [put_norm]
      refine tkH 1 (some 87) ?_ ?_ hHeld ?_; rotate_left; focus (intro w hSw; (try dsimp only at hSw); go_simp; try with_reducible rfl); try simp only [put_norm]
      refine tkH 2 (some 88) ?_ ?_ hHeld ?_; rotate_left; focus (intro w hSw; (try dsimp only at hSw); go_simp; try with_reducible rfl); try simp only [put_norm]
      refine tkH 3 (some 89) ?_ ?_ hHeld ?_; rotate_left; focus (intro w hSw; (try dsimp only at hSw); go_simp; try with_reducible rfl); try simp only [put_norm]
      refine tkH 4 (some 90) ?_ ?_ hHeld ?_; rotate_left; focus (intro w hSw; (try dsimp only at hSw); go_simp; try with_reducible rfl); try simp only [put_norm]
      refine rdy1 5 (fun K hK => ?_)
      go_simp
      refine (HSe.out _ (HB6.out.trans ((drew_below (w := w6)).mono HB6.out.size))).mono ?_
      rintro e w7 ⟨v7, rfl, hin, hb7⟩
      have HC7 : Hid (Below w6.heap.size w6 w7) := Lib.hid ((drew_below (w := w6)).trans hb7)
      have HI7 := Lib.hid hin.is
      clear hin hb7
      refine hK.out _ _ ?_ (fun hHeld => ?_)
      · exact HSb.out _ HC7.out
      clear hK K
      refine rdy1 6 (fun K hK => ?_)
      go_simp
      refine (HGo.out _ _ _ zs 2 (HB6.out.trans (HC7.out.mono HB6.out.size)) (HF6.out.keep HC7.out) HI7.out hzl).mono ?_
      rintro e w8 ⟨rfl, hb8⟩
      have HC8 : Hid (Below w6.heap.size w6 w8) := Lib.hid (HC7.out.trans (hb8.mono HC7.out.size))
      clear hb8
      refine hK.out _ _ ?_ (fun hHeld => ?_)
      · exact HSb.out _ HC8.out
      clear hK K
      refine tkH 7 (some 93) ?_ ?_ hHeld ?_; rotate_left; focus (intro w hSw; (try dsimp only at hSw); go_simp; try with_reducible rfl); try simp only [put_norm]
      refine wpAnyH_done (by kernel_rfl) ?_ _
      go_wp2_with fail
      go_roundw
      case rel => exact ⟨j + 1, by omega, by go_num, Lib.hid (HB6.out.trans (HC8.out.mono HB6.out.size))⟩
      case measure => simp [intOf]; omega
    obtain rfl : j = N := by omega
    go_wp2_with fail
    go_ret
    exact ⟨rfl, HB3.out.trans (HBj.out.mono HB3.out.size)⟩
theorem tablesNames_sh (a d : ByteArray) (W : World) (h : W.ShapedOpen Tryz.prog) :
    Calls Tryz.prog 8 #[.string a, .string d] W fun e w' => e = .returned (.bool true) ∧ Below W.heap.size W w' := by
  obtain ⟨m, hm⟩ := maxLen_of W h
  exact tablesNames_walk a d m W (Nat.lt_of_le_of_lt (Nat.zero_le _) (World.block_lt_of_cell? _ _ hm)) hm
end Go.Proofs.YtfkblpjfknfgbaaGreatDoor
