/-
  ReportPlaces walked.
-/
import Derived.Test.YtdleoankkcemfaaRows
import Derived.Test.YtdleoankkcemfaaTok7
namespace Go.Proofs.Ytdleoankkcemfaa
open Go.RowKit

theorem tokCells_at (ts : List Tok) (j : Nat) (h : j < ts.length) : (tokCells ts)[j * 4]? = some (.int .i64 ts[j].line) ∧ (tokCells ts)[j * 4 + 1]? = some (.int .i64 (ts[j].col : Nat)) ∧ (tokCells ts)[j * 4 + 2]? = some (.int .i64 (ts[j].pos : Nat)) ∧ (tokCells ts)[j * 4 + 3]? = some (.string (mkS ts[j].word)) := by
  induction ts generalizing j with
  | nil => simp at h
  | cons r ts ih =>
    have e : tokCells (r :: ts) = [.int .i64 r.line, .int .i64 (r.col : Nat), .int .i64 (r.pos : Nat), .string (mkS r.word)] ++ tokCells ts := by simp [tokCells]
    rw [e]
    cases j with
    | zero => simp
    | succ j =>
      have := ih j (by simpa using h)
      rw [List.getElem?_append_right (by simp; omega), List.getElem?_append_right (by simp; omega), List.getElem?_append_right (by simp; omega), List.getElem?_append_right (by simp; omega)]
      have e0 : (j + 1) * 4 - 4 = j * 4 := by omega
      have e1 : (j + 1) * 4 + 1 - 4 = j * 4 + 1 := by omega
      have e2 : (j + 1) * 4 + 2 - 4 = j * 4 + 2 := by omega
      have e3 : (j + 1) * 4 + 3 - 4 = j * 4 + 3 := by omega
      simpa [e0, e1, e2, e3] using this
theorem tok_cells {w : World} {B n g cap : Nat} {ts : List Tok} (h : w.ownsRow B 40 4 (.slice (some ⟨g, 0, none⟩) n cap) n (tokCells ts)) (j : Nat) (hj : j < ts.length) :
    w.cell? ⟨g, j * 4, none⟩ = some (.int .i64 ts[j].line) ∧ w.cell? ⟨g, j * 4 + 1, none⟩ = some (.int .i64 (ts[j].col : Nat)) ∧ w.cell? ⟨g, j * 4 + 2, none⟩ = some (.int .i64 (ts[j].pos : Nat)) ∧ w.cell? ⟨g, j * 4 + 3, none⟩ = some (.string (mkS ts[j].word)) := by
  obtain ⟨a, b, c, d⟩ := tokCells_at ts j hj
  have f := fun i u hi => (show w.cell? ⟨g, i, none⟩ = some u by have := h.cells (g := g) rfl i u hi; rw [row_addr] at this; exact this)
  exact ⟨f _ _ a, f _ _ b, f _ _ c, f _ _ d⟩

/-- The words that are still to come stand behind p. -/
def Ahead (T : List UInt8) : Nat → List Tok → Prop
  | _, [] => True
  | p, t :: r => p ≤ t.pos ∧ Good T t ∧ Ahead T (t.pos + t.word.length) r
theorem Ahead.of {T : List UInt8} : ∀ {p : Nat} {r : List Tok}, TSpaced T p r → Ahead T p r
  | _, [], _ => trivial
  | _, _ :: _, ⟨h1, _, h3, h4⟩ => ⟨h1, h3, Ahead.of h4⟩
theorem Ahead.back {T : List UInt8} {p q : Nat} (hpq : p ≤ q) : ∀ {r : List Tok}, Ahead T q r → Ahead T p r
  | [], _ => trivial
  | _ :: _, ⟨h1, h2, h3⟩ => ⟨by omega, h2, h3⟩
def nls (T : List UInt8) (p : Nat) : Nat := (T.take p).count 10
theorem nls_le (T : List UInt8) (p : Nat) : nls T p ≤ p := by
  have h1 := List.count_le_length (a := (10 : UInt8)) (l := T.take p)
  have h2 := List.length_take_le p T
  unfold nls; omega
theorem nls_succ (s : ByteArray) (q : Nat) (h : q < s.size) : nls s.data.toList (q + 1) = nls s.data.toList q + if s[q] = 10 then 1 else 0 := by
  unfold nls
  rw [take_snoc s q h, List.count_append, List.count_singleton]
  congr 1
  by_cases e : s[q] = 10 <;> simp [e]
/-- Within a word there is no line feed. -/
theorem nls_word (T : List UInt8) (t : Tok) (h : Good T t) : nls T (t.pos + t.word.length) = nls T t.pos := by
  unfold nls
  rw [List.take_add, List.count_append, ← h.is]
  have : t.word.count 10 = 0 := by
    refine List.count_eq_zero.2 (fun hm => ?_)
    obtain ⟨i, hi, he⟩ := List.getElem_of_mem hm
    have hb : byteAt T (t.pos + i) = 10 := by
      rw [drop_at]
      unfold byteAt
      have h1 := h.is
      have h2 : ((T.drop t.pos).take t.word.length)[i]? = some 10 := by rw [← h1, List.getElem?_eq_getElem hi, he]
      rw [List.getElem?_take_of_lt hi] at h2
      rw [List.getD, h2]; rfl
    rcases h.word.inner (t.pos + i) (by omega) (by omega) with g | ⟨g, _⟩
    · rw [hb] at g; exact absurd g (by decide)
    · rw [hb] at g; exact absurd g (by decide)
  omega
theorem whole_at (s : ByteArray) (i k : Nat) (z : Int) (w : World) (hs : s.size ≤ 65536) (h : Word s.data.toList i k) (hz : z = (k : Int)) :
    Calls Try.prog 28 #[.string s, .int .i64 i, .int .i64 z] w fun e w' => e = .returned (.bool true) ∧ w = w' := by
  subst hz
  have h1 := h.lt
  have h2 := h.top
  rw [len_toList] at h2
  obtain ⟨k1, rfl⟩ : ∃ k1, k = k1 + 1 := ⟨k - 1, by omega⟩
  exact whole_any s i k1 w hs h h2
theorem drop_tok {α : Type} (l : List α) (j : Nat) (h : j < l.length) : l.drop j = l[j] :: l.drop (j + 1) := List.drop_eq_getElem_cons h

set_option maxRecDepth 100000 in
set_option maxHeartbeats 8000000 in
theorem reportPlaces_walk (s : ByteArray) (m : Int) (w : World) (h0 : 0 < w.heap.size) (hm : w.cell? ⟨0, 0, none⟩ = some (.int .i64 m)) :
    Calls Try.prog 8 #[.string s] w fun e w' => e = .returned (.bool true) ∧ Below w.heap.size w w' := by
  have HM := Lib.hid hm
  have H0 := Lib.hid h0
  clear hm h0
  go_enter Try.func8, Try.ntmps8
  go_wp2_with fail
  refine (wakes26_any m _ H0.out HM.out).mono ?_
  rintro e wA ⟨rfl, hbA⟩
  have HBA := Lib.hid hbA
  clear hbA
  go_wp2_with fail
  refine (Tokens_is s m _ (by have := HBA.out.size; have := H0.out; omega) ((HBA.out.cell (p := ⟨0, 0, none⟩) H0.out).trans HM.out)).mono ?_
  rintro e w1 ⟨v, rfl, ho, hb1⟩
  have HO := Lib.hid ho
  have HB1 : Hid (Below w.heap.size w w1) := Lib.hid (HBA.out.trans (hb1.mono HBA.out.size))
  clear ho hb1
  by_cases hbig : 65536 < s.size
  · have ht := tkS_big s hbig
    have HO2 := Lib.hid HO.out
    rw [ht] at HO2
    have hc : codeS s = 10 := if_pos hbig
    obtain ⟨A1, c1, rfl⟩ := own_slice HO2.out
    rw [hc]
    clear ht hc
    go_wp2_with fail
    go_ret
    exact ⟨rfl, HB1.out⟩
  · have hc : codeS s = 0 := if_neg hbig
    have HSp := Lib.hid (tkS_spaced s (by omega))
    have hlen := tkS_len s
    rw [hc]
    obtain ⟨ts, hts⟩ : ∃ ts, tkS s = ts := ⟨_, rfl⟩
    rw [hts] at HO HSp hlen
    obtain ⟨A1, c1, rfl⟩ := own_slice HO.out
    clear hts hc
    have hss : s.size ≤ 65536 := by omega
    go_wp2_with fail
    go_loopw [5, 6, 30] (fun at_ ln i wr => ∃ (j p : Nat), j ≤ ts.length ∧ i = .int .i64 j ∧ p ≤ s.size ∧ at_ = .int .i64 p ∧ ln = .int .i64 (1 + (nls s.data.toList p : Nat)) ∧ Ahead s.data.toList p (ts.drop j) ∧ Below w1.heap.size w1 wr) (fun _ _ i _ => ts.length - (intOf i).toNat)
    case atStart => exact ⟨0, 0, Nat.zero_le _, rfl, Nat.zero_le _, rfl, rfl, Ahead.back (Nat.zero_le _) (Ahead.of HSp.out), Below.refl _ _⟩
    case round =>
      obtain ⟨j, p, hj, rfl, hp, rfl, rfl, hah, hbw⟩ := hrel
      have HAh := Lib.hid hah
      have HBw := Lib.hid hbw
      have hnl := nls_le s.data.toList p
      clear hah hbw
      by_cases hlt : j < ts.length
      · have hah2 := HAh.out
        rw [drop_tok ts j hlt] at hah2
        obtain ⟨hpp, hgood, hrest⟩ := hah2
        obtain ⟨g, cap, he, hcap⟩ := own_some HO.out (by omega)
        injection he with he1 he2 he3
        subst he1 he3
        obtain ⟨c0, c1, c2, c3⟩ := tok_cells (own_below HO.out HBw.out) j hlt
        obtain ⟨⟨tl, tc, tp, tw⟩, htj⟩ : ∃ t, ts[j] = t := ⟨_, rfl⟩
        rw [htj] at hpp hgood hrest c0 c1 c2 c3
        dsimp only at hpp hrest c0 c1 c2 c3
        have HG := Lib.hid hgood
        have HRest := Lib.hid hrest
        have hlin : tl = 1 + (nls s.data.toList tp : Nat) := hgood.line
        have hcol : 1 ≤ tc := hgood.col
        have htop : tp + tw.length ≤ s.size := by have := hgood.word.top; rw [len_toList] at this; exact this
        have hpos : 0 < tw.length := by have := hgood.word.lt; dsimp only at this; omega
        have hword := hgood.word
        have hnl2 := nls_word s.data.toList _ hgood
        have hex : s.extract tp (tp + tw.length) = mkS tw := by
          rw [extract_mkS, Nat.add_sub_cancel_left]
          exact congrArg mkS hgood.is.symm
        dsimp only at hword hnl2
        obtain ⟨wd, hwd⟩ : ∃ wd, mkS tw = wd := ⟨_, rfl⟩
        obtain ⟨n, hn⟩ : ∃ n, tw.length = n := ⟨_, rfl⟩
        have hwn : wd.size = n := by rw [← hwd, mkS_size, hn]
        rw [hwd] at c3 hex
        rw [hn] at hrest htop hpos hword hnl2 hex
        subst hlin
        obtain ⟨cn, hcn⟩ : ∃ cn, nls s.data.toList tp = cn := ⟨_, rfl⟩
        have HCn := Lib.hid hcn
        rw [hcn] at c0 hnl2
        have HNl2 := Lib.hid hnl2
        have HWord := Lib.hid hword
        have HRest2 := Lib.hid hrest
        clear hgood hrest hword hnl2 hn hwd hcn HG HRest htj
        subst hwn
        have HEx := Lib.hid hex
        clear hex
        have d3 := notEmpty wd hpos
        go_wp2_with fail
        have d1 : decide ((tp : Int) < (p : Int)) = false := by simp; omega
        have d1' : decide (tp < p) = false := by simp; omega
        have d2 : decide ((s.size : Int) < (tp : Int) + (wd.size : Int)) = false := by simp; omega
        have d4 : decide ((tp : Int) + (wd.size : Int) < (tp : Int)) = false := by simp; omega
        have d5 : ¬ ((tp : Int) + (wd.size : Int) < (tp : Int)) := by omega
        have d6 : ¬ (tp + wd.size < tp) := by omega
        have d7 : ¬ (s.size < tp + wd.size) := by omega
        have d8 : ¬ ((s.size : Int) < (tp : Int) + (wd.size : Int)) := by omega
        have d9 : (0 : Int) ≤ (tp : Int) + (wd.size : Int) := by omega
        have t1 : ((tp : Int) + (wd.size : Int)).toNat = tp + wd.size := by omega
        have hwr : IntKind.i64.wrap ((tp : Int) + (wd.size : Int)) = (tp : Int) + (wd.size : Int) := by rw [IntKind.wrap_i64]; omega
        have hex := HEx.out
        go_quiet (fail)
        clear d1 d1' d2 d4 d5 d6 d7 d8 d9 t1 hwr hex d3
        go_wp2_with fail
        go_loop [5, 6] (fun at_ ln => ∃ q : Nat, p ≤ q ∧ q ≤ tp ∧ at_ = .int .i64 q ∧ ln = .int .i64 (1 + (nls s.data.toList q : Nat))) (fun at_ _ => tp - (intOf at_).toNat)
        case atStart => exact ⟨p, Nat.le_refl _, hpp, rfl, rfl⟩
        case round =>
          obtain ⟨q, hpq, hqt, rfl, rfl⟩ := hrel
          have hnq := nls_le s.data.toList q
          by_cases hqlt : q < tp
          · have hqs : q < s.size := by omega
            have hns := nls_succ s q hqs
            by_cases hb : s[q] = 10
            · have HNs : Hid (nls s.data.toList (q + 1) = nls s.data.toList q + 1) := Lib.hid (by rw [hns, if_pos hb])
              have hq10 : ((s[q].toNat : Int) == 10) = true := by rw [hb]; rfl
              clear hns hb
              go_wp2_with fail
              go_round
              case rel => exact ⟨q + 1, by omega, by omega, by go_num, by rw [HNs.out]; go_num⟩
              case measure => simp [intOf]; omega
            · have HNs : Hid (nls s.data.toList (q + 1) = nls s.data.toList q) := Lib.hid (by rw [hns, if_neg hb]; rfl)
              have hq10 : ((s[q].toNat : Int) == 10) = false := by
                have : s[q].toNat ≠ 10 := fun e' => hb (UInt8.toNat_inj.1 e')
                simp; omega
              clear hns hb
              go_wp2_with fail
              go_round
              case rel => exact ⟨q + 1, by omega, by omega, by go_num, by rw [HNs.out]⟩
              case measure => simp [intOf]; omega
          · obtain rfl : q = tp := by omega
            have hcq := HCn.out
            rw [hcq]
            clear hcq
            go_wp2_with (go_at_call 28; refine (whole_at s q (q + wd.size) _ _ hss HWord.out (by omega)).mono ?_; rintro e w' ⟨rfl, rfl⟩)
            go_roundw
            case rel => exact ⟨j + 1, q + wd.size, by omega, by go_num, by omega, by go_num, by rw [HNl2.out], HRest2.out, below_drewN (HBw.out.alloc HBw.out.size _) _⟩
            case measure => simp [intOf] <;> omega
      · obtain rfl : j = ts.length := by omega
        have HBz : Hid (Below w.heap.size w wr) := Lib.hid (HB1.out.trans (HBw.out.mono HB1.out.size))
        go_wp2_with fail
        go_ret
        exact ⟨rfl, HBz.out⟩
theorem maxLen_of (W : World) (h : W.ShapedOpen Try.prog) : ∃ m, W.cell? ⟨0, 0, none⟩ = some (.int .i64 m) :=
  Go.Proofs.cell_of_shapedOpen_int (zero := #[.int .i64 0]) h (by decide +kernel) (by kernel_rfl) rfl (by kernel_rfl) (by kernel_rfl) Try.underlying3
theorem reportPlaces_sh (s : ByteArray) (W : World) (h : W.ShapedOpen Try.prog) :
    Calls Try.prog 8 #[.string s] W fun e w' => e = .returned (.bool true) ∧ Below W.heap.size W w' := by
  obtain ⟨m, hm⟩ := maxLen_of W h
  exact reportPlaces_walk s m W (World.block_lt_of_cell? W _ hm) hm
end Go.Proofs.Ytdleoankkcemfaa
