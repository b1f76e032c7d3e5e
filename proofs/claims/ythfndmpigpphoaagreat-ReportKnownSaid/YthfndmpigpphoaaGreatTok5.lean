/-
  report.Tokens walked.
-/
import Derived.Test.YthfndmpigpphoaaGreatRows
import Derived.Test.YthfndmpigpphoaaGreatTok4
import Derived.Test.YthfndmpigpphoaaGreatRound
import Derived.Maps.AppendAt
namespace Go.Proofs.YthfndmpigpphoaaGreat
open Go.RowKit Go.Shelf
attribute [local go_sem] Oper.semAt_some

def codeS (s : ByteArray) : Int := if 65536 < s.size then 10 else 0
theorem miss_info : (Tryz.prog.info? 44).map (fun i => (i.zero, i.size, i.bytes)) = some (some (.agg #[.int .i64 0, .int .i64 0, .int .i64 0, .string ByteArray.empty]), 4, 40) := by kernel_rfl
def tokCells (ts : List Tok) : List Value := ts.flatMap fun t => [.int .i64 t.line, .int .i64 (t.col : Nat), .int .i64 (t.pos : Nat), .string (mkS t.word)]
def preB (pre : List (Int × ByteArray)) : List (Int × List UInt8) := pre.map fun x => (x.1, (clamp x.2).data.toList)
theorem own_slice {w : World} {B e size n : Nat} {v : Value} {xs : List Value} (h : w.ownsRow B e size v n xs) : ∃ A cap, v = .slice A n cap := by
  rcases h.2 with ⟨rfl, rfl⟩ | ⟨g, cap, cur, rfl, _⟩
  · exact ⟨_, _, rfl⟩
  · exact ⟨_, _, rfl⟩
theorem own_some {w : World} {B e size n : Nat} {v : Value} {xs : List Value} (h : w.ownsRow B e size v n xs) (hn : n ≠ 0) : ∃ g cap, v = .slice (some ⟨g, 0, none⟩) n cap ∧ n ≤ cap := by
  rcases h.2 with ⟨_, h0⟩ | ⟨g, cap, cur, rfl, _, _, hc, _⟩
  · exact absurd h0 hn
  · exact ⟨_, _, rfl, hc⟩
def toksP (s : ByteArray) (pre : List (Int × ByteArray)) : List Tok := toks colsOf s.data.toList (startOf s.data.toList) (preB pre)
def atP (s : ByteArray) (pre : List (Int × ByteArray)) : Nat := lastAt s.data.toList (startOf s.data.toList) (preB pre)
theorem nextAt_le (T : List UInt8) (a : Nat) (h : a ≤ T.length) : nextAt T a ≤ T.length := by
  unfold nextAt
  rcases cut_cases (T.drop a) with ⟨m, r, he, _, _, hi⟩ | ⟨_, _, hi⟩
  · have := congrArg List.length he
    rw [List.length_drop, List.length_append, List.length_cons] at this
    rw [hi, if_pos (by omega)]; omega
  · rw [hi, if_neg (by omega)]; exact h
theorem lastAt_le (T : List UInt8) : ∀ (r : List (Int × List UInt8)) (a : Nat), a ≤ T.length → lastAt T a r ≤ T.length
  | [], _, h => h
  | _ :: r, a, h => lastAt_le T r _ (nextAt_le T a h)
theorem atP_le (s : ByteArray) (pre : List (Int × ByteArray)) : atP s pre ≤ s.size := by
  have := lastAt_le s.data.toList (preB pre) _ (start_le s.data.toList)
  rw [len_toList] at this; exact this
theorem trimPrefix_start (T : List UInt8) : (Lib.trimPrefix T [239, 187, 191]).length = T.length - startOf T := by
  have := congrArg List.length (start_drop T)
  rw [List.length_drop] at this; exact this.symm
theorem CutP_mark (s : ByteArray) (w : World) :
    Calls Tryz.prog 19 #[.string s, .string ⟨#[239, 187, 191]⟩] w fun e w' => e = .returned (.tuple #[.string (mkS (unmarked s.data.toList)), .bool (Lib.hasPrefix s.data.toList [239, 187, 191])]) ∧ w = w' :=
  (Tryz.strings_CutPrefix s ⟨#[239, 187, 191]⟩ w).mono fun _ _ h => ⟨h.1, h.2.symm⟩

/-- Between the steps: the words so far, the place of the line, the text. -/
def TokSt (n₀ : Nat) (s : ByteArray) (a : Nat) (ts : List Tok) (W : World) : Prop :=
  (∃ v, Boxed W (n₀ + 1) 39 v ∧ W.ownsRow n₀ 44 4 v ts.length (tokCells ts)) ∧ Boxed W (n₀ + 1 + 1) 3 (.int .i64 (a : Nat)) ∧ Boxed W n₀ 9 (.string s)
theorem boxed_keep {W W' : World} {B t : Nat} {v : Value} (h : Boxed W B t v) (hb : Below W.heap.size W W') : Boxed W' B t v := (hb.block _ h.lt).trans h
theorem TokSt.keep {n₀ a : Nat} {s : ByteArray} {ts : List Tok} {W W' : World} (h : TokSt n₀ s a ts W) (hb : Below W.heap.size W W') : TokSt n₀ s a ts W' := by
  obtain ⟨⟨v, h1, h2⟩, h3, h4⟩ := h
  exact ⟨⟨v, boxed_keep h1 hb, own_below h2 hb⟩, boxed_keep h3 hb, boxed_keep h4 hb⟩
theorem keepsOthers_below {W W' : World} (hb : Below W.heap.size W W') : KeepsOthers W W' := ⟨hb.size, fun _ _ hk _ => (hb.block _ (Array.getElem?_eq_some_iff.1 hk).1).trans hk⟩
theorem wordsF_no (L : List UInt8) (f k : Nat) (h : k < L.length) (hf : L.length - k ≤ f) (hb : letterB (byteAt L k) = false) : wordsF L f k = wordsF L (f - 1) (k + 1) := by
  cases f with
  | zero => omega
  | succ f => simp [wordsF, h, hb]
theorem wordsF_yes (L : List UInt8) (f k : Nat) (h : k < L.length) (hf : L.length - k ≤ f) (hb : letterB (byteAt L k) = true) : wordsF L f k = (k, endOf L k) :: wordsF L (f - 1) (endOf L k) := by
  cases f with
  | zero => omega
  | succ f => simp [wordsF, h, hb]
theorem wordsF_end (L : List UInt8) (f k : Nat) (h : L.length ≤ k) : wordsF L f k = [] := by
  cases f with
  | zero => rfl
  | succ f => simp [wordsF, show ¬ k < L.length by omega]

theorem own_apart {W W' : World} {B e size n : Nat} {v : Value} {xs : List Value} {row : Option Nat} (h : W.ownsRow B e size v n xs) (hg : W.grownBy W' row) (hrow : ∀ r, row = some r → ∃ cur e' fr, W.heap[r]? = some (.cells cur e' fr) ∧ e' ≠ e) : W'.ownsRow B e size v n xs := by
  refine h.kept hg ?_
  rcases h.2 with ⟨rfl, _⟩ | ⟨g, cap, cur, rfl, _, hgb, _⟩
  · exact .inl rfl
  · refine .inr fun e1 => ?_
    obtain ⟨cur', e', fr, hb, hne⟩ := hrow g e1.symm
    rw [hgb] at hb
    injection hb with hb; injection hb with _ hb; exact hne hb.symm
theorem row_block {W : World} {B e size n : Nat} {v : Value} {xs : List Value} (h : W.ownsRow B e size v n xs) : ∀ r, v.ownBlock = some r → ∃ cur fr, W.heap[r]? = some (.cells cur e fr) := by
  intro r hr
  rcases h.2 with ⟨rfl, _⟩ | ⟨g, cap, cur, rfl, _, hgb, _⟩
  · simp [Value.ownBlock] at hr
  · obtain rfl : g = r := by simpa [Value.ownBlock] using hr
    exact ⟨_, _, hgb⟩
theorem tokCells_snoc (ts : List Tok) (t : Tok) : tokCells (ts ++ [t]) = tokCells ts ++ [.int .i64 t.line, .int .i64 (t.col : Nat), .int .i64 (t.pos : Nat), .string (mkS t.word)] := by simp [tokCells]
/-- A word appended to the words in their box. -/
theorem tok_push {W w1 : World} {n₀ a nc Bc : Nat} {s : ByteArray} {ts : List Tok} {t : Tok} {v v' vc : Value} {xc : List Value} {tmp : Obj} (hv : Boxed W (n₀ + 1) 39 v) (hrow : W.ownsRow n₀ 44 4 v ts.length (tokCells ts))
    (hat : Boxed W (n₀ + 1 + 1) 3 (.int .i64 (a : Nat))) (htx : Boxed W n₀ 9 (.string s)) (hc : W.ownsRow Bc 3 1 vc nc xc) (hn₀ : n₀ ≤ W.heap.size)
    (hown' : w1.ownsRow n₀ 44 4 v' (ts.length + 1) (tokCells ts ++ [.int .i64 t.line, .int .i64 (t.col : Nat), .int .i64 (t.pos : Nat), .string (mkS t.word)])) (hgrow : (W.alloc tmp).grownBy w1 v.ownBlock) :
    TokSt n₀ s a (ts ++ [t]) (w1.setCell ⟨n₀ + 1, 0, none⟩ v') ∧ (w1.setCell ⟨n₀ + 1, 0, none⟩ v').ownsRow Bc 3 1 vc nc xc ∧ KeepsOthers W (w1.setCell ⟨n₀ + 1, 0, none⟩ v') ∧ Below n₀ W (w1.setCell ⟨n₀ + 1, 0, none⟩ v') ∧ Boxed w1 (n₀ + 1) 39 v := by
  obtain ⟨hv1, hv2, hr2, hk2, hb2⟩ := hv.appended (by decide) hrow hn₀ (by omega) hown' hgrow
  have hra := hrow.alloc tmp
  refine ⟨⟨⟨v', hv2, by rw [List.length_append, tokCells_snoc]; exact hr2⟩, ?_, ?_⟩, ?_, hk2, hb2, hv1⟩
  · exact ((hat.alloc tmp).kept hgrow ((hat.alloc tmp).not_row (by decide) hra)).other (by omega) v'
  · exact ((htx.alloc tmp).kept hgrow ((htx.alloc tmp).not_row (by decide) hra)).other (by omega) v'
  · have h1 : w1.ownsRow Bc 3 1 vc nc xc := own_apart (hc.alloc tmp) hgrow (fun r hr => by
      obtain ⟨cur, fr, hb⟩ := row_block hra r hr
      exact ⟨cur, _, fr, hb, by decide⟩)
    exact own_apart h1 (grownBy_setCell' w1 (n₀ + 1) v') (fun r hr => by cases hr; exact ⟨_, _, _, hv1, by decide⟩)
theorem tok_pushed {W w1 : World} {n₀ a k nc Bc : Nat} {s sl : ByteArray} {ts : List Tok} {t : Tok} {v v' vc : Value} {xc : List Value} {tmp : Obj} {aa cc : Nat} {x1 : Int} (hv : Boxed W (n₀ + 1) 39 v) (hrow : W.ownsRow n₀ 44 4 v ts.length (tokCells ts))
    (hat : Boxed W (n₀ + 1 + 1) 3 (.int .i64 (a : Nat))) (htx : Boxed W n₀ 9 (.string s)) (hc : W.ownsRow Bc 3 1 vc nc xc) (hn₀ : n₀ ≤ W.heap.size) (hex : mkS t.word = sl)
    (hown' : w1.ownsRow n₀ 44 4 v' (ts.length + 1) (tokCells ts ++ [.int .i64 x1, .int .i64 (cc : Nat), .int .i64 ((aa : Int) + k), .string sl])) (hgrow : ((W.alloc tmp).drew).grownBy w1 v.ownBlock) (ht : t.line = x1 ∧ t.col = cc ∧ t.pos = aa + k := by exact ⟨rfl, rfl, rfl⟩) :
    TokSt n₀ s a (ts ++ [t]) (w1.setCell ⟨n₀ + 1, 0, none⟩ v') ∧ (w1.setCell ⟨n₀ + 1, 0, none⟩ v').ownsRow Bc 3 1 vc nc xc ∧ KeepsOthers W (w1.setCell ⟨n₀ + 1, 0, none⟩ v') ∧ Below n₀ W (w1.setCell ⟨n₀ + 1, 0, none⟩ v') ∧ Boxed w1 (n₀ + 1) 39 v := by
  obtain ⟨h1, h2, h3⟩ := ht
  refine tok_push hv hrow hat htx hc hn₀ ?_ (tmp := tmp) ⟨hgrow.os, hgrow.tape, hgrow.output, hgrow.size, hgrow.block⟩
  rw [h1, h2, h3, hex]
  exact hown'
theorem news_cells (W : World) (us : List Value) (e : Nat) : ∀ j u, us[j]? = some u → ((W.alloc (.cells us.toArray e)).drew).cell? ((⟨W.heap.size, 0, none⟩ : Addr).add j) = some u := by
  intro j u hj
  show (W.alloc _).cell? _ = _
  rw [row_addr, cell_of_row (W.alloc (.cells us.toArray e)) W.heap.size j us.toArray e (0, 0) (heap_alloc_new W _)]
  simpa using hj
theorem wordsF_len (L : List UInt8) : ∀ (f i : Nat), (wordsF L f i).length ≤ f
  | 0, _ => by simp [wordsF]
  | f + 1, i => by
    unfold wordsF
    split
    · split
      · simp; exact wordsF_len L f _
      · have := wordsF_len L f (i + 1); omega
    · simp
theorem toks_len (T : List UInt8) (m : Nat) : ∀ (r : List (Int × List UInt8)) (a : Nat), (∀ x ∈ r, x.2.length ≤ m) → (toks colsOf T a r).length ≤ r.length * m
  | [], a, _ => by simp [toks]
  | (n, L) :: r, a, h => by
    have h1 := toks_len T m r (nextAt T a) (fun x hx => h x (by simp [hx]))
    have h2 := wordsF_len L L.length 0
    have h3 := h (n, L) (by simp)
    simp only [toks, lineToks, List.length_append, List.length_map, List.length_cons, Nat.succ_mul]
    simp at h3
    omega
theorem toksP_len (s : ByteArray) (pre : List (Int × ByteArray)) : (toksP s pre).length ≤ pre.length * 65536 := by
  have := toks_len s.data.toList 65536 (preB pre) (startOf s.data.toList) (fun x hx => by
    obtain ⟨y, _, rfl⟩ := List.mem_map.1 hx
    have := clamp_le y.2
    show (clamp y.2).data.toList.length ≤ _
    rw [len_toList]; exact this)
  simpa [preB, toksP] using this
theorem end_at (s : ByteArray) (i en : Nat) (w : World) (hs : s.size ≤ 65536) (hi : letterB (byteAt s.data.toList i) = true) (he : endOf s.data.toList i = en) :
    Calls Tryz.prog 23 #[.string s, .int .i64 i] w fun e w' => e = .returned (.int .i64 en) ∧ w = w' := he ▸ end_any s i w hs hi

theorem idx_at (s : ByteArray) (a : Nat) (w : World) (q : Int) (h : Lib.indexByte (s.data.toList.drop a) 10 = q) :
    Calls Tryz.prog 24 #[.string (s.extract a s.size), .int .u8 10] w fun e w' => e = .returned (.int .i64 q) ∧ w = w' := by
  refine (Tryz.strings_IndexByte _ _ w).mono fun e w' ⟨h1, h2⟩ => ⟨?_, h2.symm⟩
  rw [h1]
  have e1 : (s.extract a s.size).data.toList = s.data.toList.drop a := by
    rw [← Lib.toList_data, Lib.extract_toList, List.take_of_length_le]; simp
  rw [e1, show (10 : Int).toNat.toUInt8 = 10 from rfl, h]
theorem atP_snoc (s : ByteArray) (pre : List (Int × ByteArray)) (x : Int × ByteArray) : atP s (pre ++ [x]) = nextAt s.data.toList (atP s pre) := by
  unfold atP preB; rw [List.map_append, List.map_singleton, lastAt_snoc]
/-- What the search for the line's end finds. -/
theorem next_cases (s : ByteArray) (a : Nat) (ha : a ≤ s.size) : (∃ mm : Nat, Lib.indexByte (s.data.toList.drop a) 10 = (mm : Int) ∧ a + mm + 1 ≤ s.size ∧ nextAt s.data.toList a = a + mm + 1) ∨ (Lib.indexByte (s.data.toList.drop a) 10 = -1 ∧ nextAt s.data.toList a = a) := by
  rcases cut_cases (s.data.toList.drop a) with ⟨m, r, he, _, _, hi⟩ | ⟨_, _, hi⟩
  · refine .inl ⟨m.length, hi, ?_, ?_⟩
    · have := congrArg List.length he
      rw [List.length_drop, List.length_append, List.length_cons, len_toList] at this; omega
    · unfold nextAt; rw [hi, if_pos (by omega)]; omega
  · refine .inr ⟨hi, ?_⟩
    unfold nextAt; rw [hi, if_neg (by omega)]

/-- Four boxes laid one behind another. -/
theorem boxes3 (w : World) (t1 t2 t3 : Nat) (v1 v2 v3 v4 : Value) :
    Boxed ((((w.alloc (.cells #[v1] t1)).alloc (.cells #[v2] t2)).alloc (.cells #[v3] t3)).alloc (.cells #[v4] t1)) w.heap.size t1 v1 ∧
    Boxed ((((w.alloc (.cells #[v1] t1)).alloc (.cells #[v2] t2)).alloc (.cells #[v3] t3)).alloc (.cells #[v4] t1)) (w.heap.size + 1) t2 v2 ∧
    Boxed ((((w.alloc (.cells #[v1] t1)).alloc (.cells #[v2] t2)).alloc (.cells #[v3] t3)).alloc (.cells #[v4] t1)) (w.heap.size + 1 + 1) t3 v3 ∧
    Boxed ((((w.alloc (.cells #[v1] t1)).alloc (.cells #[v2] t2)).alloc (.cells #[v3] t3)).alloc (.cells #[v4] t1)) (w.heap.size + 1 + 1 + 1) t1 v4 ∧
    Below w.heap.size w ((((w.alloc (.cells #[v1] t1)).alloc (.cells #[v2] t2)).alloc (.cells #[v3] t3)).alloc (.cells #[v4] t1)) ∧
    ((((w.alloc (.cells #[v1] t1)).alloc (.cells #[v2] t2)).alloc (.cells #[v3] t3)).alloc (.cells #[v4] t1)).heap.size = w.heap.size + 1 + 1 + 1 + 1 := by
  have b1 := Boxed.new w t1 v1
  have b2 := Boxed.new (w.alloc (.cells #[v1] t1)) t2 v2
  have b3 := Boxed.new ((w.alloc (.cells #[v1] t1)).alloc (.cells #[v2] t2)) t3 v3
  have b4 := Boxed.new (((w.alloc (.cells #[v1] t1)).alloc (.cells #[v2] t2)).alloc (.cells #[v3] t3)) t1 v4
  simp only [World.size_alloc] at b2 b3 b4
  exact ⟨((b1.alloc _).alloc _).alloc _, (b2.alloc _).alloc _, b3.alloc _, b4, ((((Below.refl _ w).alloc (Nat.le_refl _) _).alloc (by simp) _).alloc (by simp; omega) _).alloc (by simp; omega) _, by simp⟩

set_option maxRecDepth 100000 in
set_option maxHeartbeats 4000000 in
theorem Tokens_any (s : ByteArray) (m : Int) (w : World) (h0 : 0 < w.heap.size) (hm : w.cell? ⟨0, 0, none⟩ = some (.int .i64 m)) :
    Calls Tryz.prog 9 #[.string s] w fun e W' => ∃ v ts, e = .returned (.tuple #[v, .int .i64 (codeS s)]) ∧
      W'.ownsRow w.heap.size 44 4 v ts.length (tokCells ts) ∧ ts = toks colsOf s.data.toList (startOf s.data.toList) (preB (eachOf s.data.toList)) ∧ Below w.heap.size w W' := by
  by_cases hbig : 65536 < s.size
  · have HE : Hid (eachOf s.data.toList = []) := Lib.hid (by rw [eachOf, if_pos (by rw [len_toList]; omega)])
    have HC : Hid (codeS s = 10) := Lib.hid (if_pos hbig)
    go_enter Tryz.func9, Tryz.ntmps9
    go_wp2_with fail
    refine bodyPost_ret (results_tmp2 rfl _ _ _) rfl ?_
    exact ⟨.slice none 0 0, [], by rw [HC.out]; rfl, World.ownsRow_nil _ _ _ _, by rw [HE.out]; rfl, (Below.refl _ _).alloc (Nat.le_refl _) _⟩
  · have hlen := eachOf_len s.data.toList
    have HC : Hid (codeS s = 0) := Lib.hid (if_neg hbig)
    refine (callsIn_wide (n := 5)).1 ?_
    obtain ⟨i0, hi, hz0, hz1, hz2⟩ := info_parts miss_info
    cases hmk : Lib.hasPrefix s.data.toList [239, 187, 191]
    · have HS : Hid (startOf s.data.toList = 0) := Lib.hid (by unfold startOf; rw [hmk]; rfl)
      refine callsIn_of_wp_marks Tryz.func9 rfl trivial ?_ rfl
      simp only [Tryz.ntmps9, List.size_toArray, List.length_cons, List.length_nil, Nat.reduceAdd, Nat.reduceSub, Array.replicate_succ, Array.replicate_zero, List.push_toArray, List.append_toArray, List.nil_append, List.cons_append]
      gi_wp2_with first
        | (refine ⟨trivial, ?_⟩; gi_at_call 19; refine (callsIn_wide.2 (CutP_mark _ _)).mono ?_; rintro e w1 ⟨rfl, rfl⟩)
        | (refine ⟨trivial, ?_⟩; gi_at_call 20; refine (Each_in _ _ _).mono ?_; rintro e w' ⟨rfl, rfl⟩)
      have hbx := boxes3 w 9 39 3 (.string s) (.slice none 0 0) (.int .i64 0) (.string s)
      have hAt : Hid ((.int .i64 0 : Value) = .int .i64 ((lastAt s.data.toList (startOf s.data.toList) [] : Nat) : Int)) := Lib.hid (by show (_ : Value) = .int .i64 ((startOf s.data.toList : Nat) : Int); rw [HS.out]; first | rfl | (congr 1; omega))
      obtain ⟨bT, bO, bA, bN, hB0, hsz⟩ := hbx
      have bA' := Eq.trans (show _ = _ from bA) (congrArg (fun z => some (Obj.cells #[z] 3 (0, 0))) hAt.out)
      refine wpIn_rangeFunc_ownG rfl (by omega) (gf := 45) (lb := #[.pointer (some ⟨w.heap.size + 1 + 1 + 1, 0, none⟩)]) rfl trivial (enters_of Tryz.func45 (by kernel_rfl) rfl)
        (eachc_stops (5 - 1) (by omega) (w.heap.size + 1 + 1 + 1) w.heap.size s h0 m _ bN.lt bN.cell ((hB0.cell (p := ⟨0, 0, none⟩) h0).trans hm)) belowK_t (belowK_b (by rw [hsz]; omega)) (Below.refl _ _) (fun _ => rfl)
        (fun pre W => ((∃ v, Boxed W (w.heap.size + 1) 39 v ∧ W.ownsRow w.heap.size 44 4 v (toksP s pre).length (tokCells (toksP s pre)) ∧ True) ∧ (Boxed W (w.heap.size + 1 + 1) 3 (.int .i64 ((atP s pre : Nat) : Int)) ∧ Boxed W w.heap.size 9 (.string s))) ∧ Below w.heap.size w W)
        (fun _ _ _ => False)
        (OwnFrom.and (OwnFrom.and (_root_.Go.Own.from (holdsRow_own w.heap.size (w.heap.size + 1) 39 44 4 (fun pre => (toksP s pre).length) (fun pre => tokCells (toksP s pre)) (fun _ _ => True)) _) (OwnFrom.and (_root_.Go.Own.from (boxed_own (w.heap.size + 1 + 1) 3 (fun pre => .int .i64 ((atP s pre : Nat) : Int))) _) (_root_.Go.Own.from (boxed_own w.heap.size 9 (fun _ => .string s)) _))) (ownFrom_below (Nat.le_refl _) (by rw [hsz]; omega)))
        (fun _ _ _ _ _ hs _ _ => hs)
        ⟨⟨⟨_, bO, World.ownsRow_nil _ _ _ _, trivial⟩, bA', bT⟩, hB0⟩
        (fun x => { tmps := #[.string s, .pointer (some ⟨w.heap.size, 0, none⟩), .slice none 0 0, .int .i64 0, .pointer (some ⟨w.heap.size + 1, 0, none⟩), .pointer (some ⟨w.heap.size + 1 + 1, 0, none⟩), .string (mkS (unmarked s.data.toList)), .bool false, .int .i64 x.1, .string (clamp x.2), undef, undef, undef, undef, .string s, .int .i64 s.size, .bool (decide (65536 < (s.size : Int))), .tuple #[.string (mkS (unmarked s.data.toList)), .bool false], .string s, .tuple #[.string (mkS (unmarked s.data.toList)), .bool false], .string (mkS (unmarked s.data.toList)), .bool false, .bool false, undef, undef, undef, undef, undef, .string s, .func (.func 45) #[] #[.pointer (some ⟨w.heap.size + 1 + 1 + 1, 0, none⟩)], .int .i64 x.1, .string (clamp x.2), undef, undef, undef, undef, undef, undef, undef, undef, undef, undef, undef, undef, undef, undef, undef, undef, undef, undef, undef, undef, undef, undef, undef, undef, undef, undef, undef, undef, undef, undef, undef, undef, undef, undef, undef, undef, undef, undef, undef, undef, undef, undef, undef, undef], defers := [] }) ?_ ?_ ?_ ?_
      · intro l x W K hK
        gi_wp2
        exact hK
      · rintro l pre x W ⟨⟨⟨v, hv, hrow, _⟩, hat, htx⟩, hB⟩ hlt
        have hle := clamp_le x.2
        obtain ⟨sl, hsl⟩ : ∃ sl, clamp x.2 = sl := ⟨_, rfl⟩
        rw [hsl] at hle ⊢
        have HSl := Lib.hid hsl
        have HV := Lib.hid hv
        have HRow := Lib.hid hrow
        have HAt := Lib.hid hat
        have HTx := Lib.hid htx
        clear hsl hv hrow hat htx
        have hn1 : 1 ≤ 5 - 1 - 1 := by omega
        gi_wp2_with (refine ⟨trivial, ?_⟩; gi_at_call 21; refine (CallsIn.inRound l (callsIn_wide.2 (columns_any sl _ (by omega)))).mono ?_; rintro e w1 ⟨rfl, oc⟩; have OC := Lib.hid oc; clear oc)
        have hSt : TokSt w.heap.size s (atP s pre) (toksP s pre) w1 := TokSt.keep ⟨⟨v, HV.out, HRow.out⟩, HAt.out, HTx.out⟩ OC.out.below
        have HSt := Lib.hid hSt
        have HCols := Lib.hid OC.out.own
        have HBW := Lib.hid OC.out.below
        have HLT : Hid (toksP s (pre ++ [x]) = toksP s pre ++ lineToks colsOf x.1 (atP s pre) sl.data.toList) := Lib.hid (by
          unfold toksP preB; rw [List.map_append, List.map_singleton, toks_snoc, HSl.out]; rfl)
        have hlo := len_toList sl
        have HLo := Lib.hid hlo
        clear hSt hlo
        gi_loopw [11] (fun i wr => ∃ (k f : Nat) (dn : List Tok), k ≤ sl.size ∧ i = .int .i64 k ∧ sl.size - k ≤ f ∧ dn.length ≤ k ∧ dn ++ (wordsF sl.data.toList f k).map (tokOf colsOf x.1 (atP s pre) sl.data.toList) = lineToks colsOf x.1 (atP s pre) sl.data.toList ∧
          TokSt w.heap.size s (atP s pre) (toksP s pre ++ dn) wr ∧ wr.ownsRow W.heap.size 3 1 (.slice (some ⟨W.heap.size, 0, none⟩) sl.size sl.size) sl.size (natV (colsOf sl.data.toList)) ∧ KeepsOthers W wr ∧ Below w.heap.size W wr) (fun i _ => sl.size - (intOf i).toNat)
        case atStart => exact ⟨0, sl.size, [], Nat.zero_le _, rfl, by omega, Nat.le_refl _, by rw [← HLo.out]; rfl, by rw [List.append_nil]; exact HSt.out, HCols.out, keepsOthers_below HBW.out, HBW.out.mono hB.size⟩
        case round =>
          obtain ⟨k, f, dn, hk, rfl, hf, hdn, hdone, hst, hco, hko, hbw⟩ := hrel
          have HDone := Lib.hid hdone
          have HSt := Lib.hid hst
          have HCo := Lib.hid hco
          have HKo := Lib.hid hko
          have HBw := Lib.hid hbw
          clear hdone hst hco hko hbw
          by_cases hkn : k < sl.size
          · have HBk := Lib.hid (byteAt_lt sl k hkn)
            cases hlb : letterB sl[k]
            · have HW := Lib.hid (wordsF_no sl.data.toList f k (by rw [HLo.out]; exact hkn) (by rw [HLo.out]; exact hf) (by rw [HBk.out]; exact hlb))
              gi_wp2_with (refine ⟨trivial, ?_⟩; gi_at_call 22; refine (CallsIn.inRound l (callsIn_wide.2 (letter_any _ _))).mono ?_; rintro e w' ⟨rfl, rfl⟩)
              go_roundw
              case rel => exact ⟨k + 1, f - 1, dn, by omega, by go_num, by omega, by omega, by rw [← HW.out]; exact HDone.out, HSt.out, HCo.out, HKo.out, HBw.out⟩
              case measure => simp [intOf] <;> omega
            · have HLet : Hid (letterB (byteAt sl.data.toList k) = true) := Lib.hid (by rw [HBk.out]; exact hlb)
              have HW := Lib.hid (wordsF_yes sl.data.toList f k (by rw [HLo.out]; exact hkn) (by rw [HLo.out]; exact hf) HLet.out)
              obtain ⟨en, hen⟩ : ∃ en, endOf sl.data.toList k = en := ⟨_, rfl⟩
              have hks : k < en := by rw [← hen]; exact endOf_lt _ _ HLet.out
              have hes : en ≤ sl.size := by rw [← hen, ← HLo.out]; exact (endOf_is sl.data.toList k (by rw [HLo.out]; omega)).top
              have HEn := Lib.hid hen
              clear hen
              gi_wp2_with first
                | (refine ⟨trivial, ?_⟩; gi_at_call 22; refine (CallsIn.inRound l (callsIn_wide.2 (letter_any _ _))).mono ?_; rintro e w' ⟨rfl, rfl⟩)
                | (refine ⟨trivial, ?_⟩; gi_at_call 23; refine (CallsIn.inRound l (callsIn_wide.2 (end_at sl k en _ (by omega) HLet.out HEn.out))).mono ?_; rintro e w' ⟨rfl, rfl⟩)
              obtain ⟨Tk, hTk⟩ : ∃ Tk, toksP s pre ++ dn = Tk := ⟨_, rfl⟩
              have hst2 := HSt.out
              rw [hTk] at hst2
              obtain ⟨⟨vo, hv, hrow⟩, hat, htx⟩ := hst2
              have hln : Tk.length ≤ 4295032832 := by
                have h1 := toksP_len s pre
                rw [← hTk, List.length_append]
                have : (toksP s pre).length ≤ 65536 * 65536 := Nat.le_trans h1 (Nat.mul_le_mul (by omega) (Nat.le_refl _))
                omega
              have HTk := Lib.hid hTk
              clear hTk
              obtain ⟨cc, hcc⟩ : ∃ cc, (colsOf sl.data.toList).getD k 0 = cc := ⟨_, rfl⟩
              have hcol : wr.cell? ⟨W.heap.size, k, none⟩ = some (.int .i64 (cc : Nat)) := by
                have := HCo.out.cells (g := W.heap.size) rfl k (.int .i64 (cc : Nat)) (by rw [← hcc]; simp [natV, List.getD, List.getElem?_eq_getElem (show k < (colsOf sl.data.toList).length by rw [colsOf_len, HLo.out]; exact hkn)])
                rw [row_addr] at this; exact this
              have hc1 := hv.cell
              have hc2 := hat.cell
              have HCC := Lib.hid hcc
              have hap := atP_le s pre
              obtain ⟨aa, haa⟩ : ∃ aa, atP s pre = aa := ⟨_, rfl⟩
              rw [haa] at hc2 hap
              have HAA := Lib.hid haa
              have HV2 := Lib.hid hv
              have HRow2 := Lib.hid hrow
              have HAt2 := Lib.hid hat
              have HTx2 := Lib.hid htx
              clear hcc hv hrow hat htx haa
              have HNews := Lib.hid (news_cells wr [.int .i64 x.1, .int .i64 (cc : Nat), .int .i64 ((aa : Int) + k), .string (sl.extract k en)] 44)
              have HN1 : Hid (Tk.length + 1 ≤ maxLen) := Lib.hid (by unfold maxLen; omega)
              have HN2 : Hid ((Tk.length + 1) * 40 ≤ 140737488355328) := Lib.hid (by omega)
              have HN3 : Hid (w.heap.size ≤ ((wr.alloc (.cells #[.int .i64 x.1, .int .i64 (cc : Nat), .int .i64 ((aa : Int) + k), .string (sl.extract k en)] 44)).drew).heap.size) := Lib.hid (by
                show w.heap.size ≤ (wr.alloc _).heap.size
                have h1 := hB.size
                have h2 := HBw.out.size
                rw [World.size_alloc]; omega)
              have HN4 : Hid (w.heap.size ≤ wr.heap.size) := Lib.hid (by have h1 := hB.size; have h2 := HBw.out.size; omega)
              have HEx : Hid (mkS ((sl.data.toList.take en).drop k) = sl.extract k en) := Lib.hid (by rw [extract_mkS, List.drop_take])
              have HDn : Hid ((dn ++ [⟨x.1, cc, aa + k, ((sl.data.toList.take en).drop k)⟩]) ++ (wordsF sl.data.toList (f - 1) en).map (tokOf colsOf x.1 (atP s pre) sl.data.toList) = lineToks colsOf x.1 (atP s pre) sl.data.toList) := Lib.hid (by
                rw [← HDone.out, HW.out, HEn.out, List.map_cons, ← HCC.out, ← HAA.out, List.append_assoc]; rfl)
              have hnk : ¬ en < k := by omega
              have hwr : IntKind.i64.wrap ((aa : Int) + (k : Int)) = (aa : Int) + (k : Int) := by rw [IntKind.wrap_i64]; omega
              have hca : ∀ o, (wr.alloc o).cell? ⟨w.heap.size + 1, 0, none⟩ = some vo := fun o => ((HV2.out).alloc o).cell
              refine wpIn_region_round (by kernel_rfl) (by kernel_rfl) ?_
              refine wpAnyIn_take (i := 1) (v := .int .i64 x.1) rfl rfl (by kernel_rfl) (by kernel_rfl) (by kernel_rfl) (fun _ _ _ h => h) ⟨Or.inl ⟨by rfl, by intro w; go_simp⟩, fun _ => rfl⟩ ?_
              refine wpAnyIn_take (i := 2) (v := .slice (some ⟨W.heap.size, 0, none⟩) sl.size sl.size) rfl rfl (by kernel_rfl) (by kernel_rfl) (by kernel_rfl) (fun _ _ _ h => h) ⟨Or.inl ⟨by rfl, by intro w; go_simp⟩, fun _ => rfl⟩ ?_
              refine wpAnyIn_take (i := 3) (v := .int .i64 k) rfl rfl (by kernel_rfl) (by kernel_rfl) (by kernel_rfl) (fun _ _ _ h => h) ⟨Or.inl ⟨by rfl, by intro w; go_simp⟩, fun _ => rfl⟩ ?_
              refine wpAnyIn_take (i := 7) (v := .int .i64 k) rfl rfl (by kernel_rfl) (by kernel_rfl) (by kernel_rfl) (fun _ _ _ h => h) ⟨Or.inl ⟨by rfl, by intro w; go_simp⟩, fun _ => rfl⟩ ?_
              refine wpAnyIn_take (i := 9) (v := .string sl) rfl rfl (by kernel_rfl) (by kernel_rfl) (by kernel_rfl) (fun _ _ _ h => h) ⟨Or.inl ⟨by rfl, by intro w; go_simp⟩, fun _ => rfl⟩ ?_
              refine wpAnyIn_take (i := 10) (v := .int .i64 k) rfl rfl (by kernel_rfl) (by kernel_rfl) (by kernel_rfl) (fun _ _ _ h => h) ⟨Or.inl ⟨by rfl, by intro w; go_simp⟩, fun _ => rfl⟩ ?_
              refine wpAnyIn_take (i := 11) (v := .int .i64 en) rfl rfl (by kernel_rfl) (by kernel_rfl) (by kernel_rfl) (fun _ _ _ h => h) ⟨Or.inl ⟨by rfl, by intro w; go_simp⟩, fun _ => rfl⟩ ?_
              refine wpAnyIn_take (i := 4) (v := .pointer (some ⟨W.heap.size, k, none⟩)) rfl rfl (by kernel_rfl) (by kernel_rfl) (by kernel_rfl) (fun _ _ _ h => h) ⟨Or.inl ⟨by rfl, by intro w; go_simp⟩, fun _ => rfl⟩ ?_
              refine wpAnyIn_take (i := 12) (v := .string (sl.extract k en)) rfl rfl (by kernel_rfl) (by kernel_rfl) (by kernel_rfl) (fun _ _ _ h => h) ⟨Or.inl ⟨by rfl, by intro w; go_simp⟩, fun _ => rfl⟩ ?_
              refine wpAnyIn_ready (rs := [0, 5, 6]) (by kernel_rfl) (by simp) ?_
              refine AllReadyIn.cons rfl (fun K hK => ?_) ?_
              · go_simp
                refine hK _ _ ?_
                clear hK K
                refine wpAnyIn_ready (rs := [5, 6]) (by kernel_rfl) (by simp) ?_
                refine AllReadyIn.cons rfl (fun K hK => ?_) ?_
                · go_simp
                  refine hK _ _ ?_
                  clear hK K
                  refine wpAnyIn_ready (rs := [6]) (by kernel_rfl) (by simp) ?_
                  refine AllReadyIn.cons rfl (fun K hK => ?_) ?_
                  · go_simp
                    refine hK _ _ ?_
                    clear hK K
                    refine wpAnyIn_take (i := 8) (v := .int .i64 ((aa : Int) + k)) rfl rfl (by kernel_rfl) (by kernel_rfl) (by kernel_rfl) (fun _ _ _ h => h) ⟨Or.inl ⟨by rfl, by intro w; go_simp⟩, fun _ => rfl⟩ ?_
                    refine wpAnyIn_take (i := 13) (v := .agg #[.int .i64 x.1, .int .i64 cc, .int .i64 ((aa : Int) + k), .string (sl.extract k en)]) rfl rfl (by kernel_rfl) (by kernel_rfl) (by kernel_rfl) (fun _ _ _ h => h) ⟨Or.inl ⟨by rfl, by intro w; go_simp⟩, fun _ => rfl⟩ ?_
                    refine wpAnyIn_ready (rs := [14]) (by kernel_rfl) (by simp) ?_
                    refine AllReadyIn.cons rfl (fun K hK => ?_) ?_
                    · go_simp
                      refine hK _ _ ?_
                      clear hK K
                      refine wpAnyIn_ready (rs := [15]) (by kernel_rfl) (by simp) ?_
                      refine AllReadyIn.cons rfl (fun K hK => ?_) ?_
                      · refine stepIn_append rfl (.tmp 48) (.tmp 62) 39 rfl w.heap.size 44 i0 (.agg #[.int .i64 0, .int .i64 0, .int .i64 0, .string ByteArray.empty]) 4 40 Tryz.underlying39 hi hz0 hz1 hz2 rfl (by decide) vo _ _ (by rfl) (HRow2.out.alloc _).drew ⟨wr.heap.size, 0, none⟩ 1 1 [.int .i64 x.1, .int .i64 (cc : Nat), .int .i64 ((aa : Int) + k), .string (sl.extract k en)] (by rfl) rfl (HNews.out) (by simp [Value.oneCell']) HN1.out HN2.out HN3.out ?_
                        intro v' w2 hown' hgrow
                        obtain ⟨g', cap', rfl⟩ := ownsRow_succ hown'
                        have HP := Lib.hid (tok_pushed (t := ⟨x.1, cc, aa + k, ((sl.data.toList.take en).drop k)⟩) HV2.out HRow2.out HAt2.out HTx2.out HCo.out HN4.out HEx.out hown' hgrow)
                        have hcb := HP.out.2.2.2.2.cell
                        have hfb := HP.out.2.2.2.2.frozen
                        clear hown' hgrow
                        refine hK _ _ ?_
                        clear hK K
                        refine wpAnyIn_ready (rs := [16]) (by kernel_rfl) (by simp) ?_
                        refine AllReadyIn.cons rfl (fun K hK => ?_) ?_
                        · go_simp
                          refine hK _ _ ?_
                          clear hK K
                          refine wpAnyIn_done (by kernel_rfl) ?_ _
                          clear hwr hnk hca
                          gi_wp2
                          go_roundw
                          case rel => exact ⟨en, f - 1, dn ++ [⟨x.1, cc, aa + k, ((sl.data.toList.take en).drop k)⟩], hes, rfl, by omega, by rw [List.length_append, List.length_singleton]; omega, HDn.out, by rw [← List.append_assoc, HTk.out]; exact HP.out.1, HP.out.2.1, HKo.out.trans HP.out.2.2.1, HBw.out.trans HP.out.2.2.2.1⟩
                          case measure => simp [intOf] <;> omega
                        exact AllReadyIn.nil
                      exact AllReadyIn.nil
                    exact AllReadyIn.nil
                  exact AllReadyIn.nil
                refine AllReadyIn.cons rfl (fun K hK => ?_) ?_
                · go_simp
                  refine hK _ _ ?_
                  clear hK K
                  refine wpAnyIn_take (i := 8) (v := .int .i64 ((aa : Int) + k)) rfl rfl (by kernel_rfl) (by kernel_rfl) (by kernel_rfl) (fun _ _ _ h => h) ⟨Or.inl ⟨by rfl, by intro w; go_simp⟩, fun _ => rfl⟩ ?_
                  refine wpAnyIn_ready (rs := [5]) (by kernel_rfl) (by simp) ?_
                  refine AllReadyIn.cons rfl (fun K hK => ?_) ?_
                  · go_simp
                    refine hK _ _ ?_
                    clear hK K
                    refine wpAnyIn_take (i := 13) (v := .agg #[.int .i64 x.1, .int .i64 cc, .int .i64 ((aa : Int) + k), .string (sl.extract k en)]) rfl rfl (by kernel_rfl) (by kernel_rfl) (by kernel_rfl) (fun _ _ _ h => h) ⟨Or.inl ⟨by rfl, by intro w; go_simp⟩, fun _ => rfl⟩ ?_
                    refine wpAnyIn_ready (rs := [14]) (by kernel_rfl) (by simp) ?_
                    refine AllReadyIn.cons rfl (fun K hK => ?_) ?_
                    · go_simp
                      refine hK _ _ ?_
                      clear hK K
                      refine wpAnyIn_ready (rs := [15]) (by kernel_rfl) (by simp) ?_
                      refine AllReadyIn.cons rfl (fun K hK => ?_) ?_
                      · refine stepIn_append rfl (.tmp 48) (.tmp 62) 39 rfl w.heap.size 44 i0 (.agg #[.int .i64 0, .int .i64 0, .int .i64 0, .string ByteArray.empty]) 4 40 Tryz.underlying39 hi hz0 hz1 hz2 rfl (by decide) vo _ _ (by rfl) (HRow2.out.alloc _).drew ⟨wr.heap.size, 0, none⟩ 1 1 [.int .i64 x.1, .int .i64 (cc : Nat), .int .i64 ((aa : Int) + k), .string (sl.extract k en)] (by rfl) rfl (HNews.out) (by simp [Value.oneCell']) HN1.out HN2.out HN3.out ?_
                        intro v' w2 hown' hgrow
                        obtain ⟨g', cap', rfl⟩ := ownsRow_succ hown'
                        have HP := Lib.hid (tok_pushed (t := ⟨x.1, cc, aa + k, ((sl.data.toList.take en).drop k)⟩) HV2.out HRow2.out HAt2.out HTx2.out HCo.out HN4.out HEx.out hown' hgrow)
                        have hcb := HP.out.2.2.2.2.cell
                        have hfb := HP.out.2.2.2.2.frozen
                        clear hown' hgrow
                        refine hK _ _ ?_
                        clear hK K
                        refine wpAnyIn_ready (rs := [16]) (by kernel_rfl) (by simp) ?_
                        refine AllReadyIn.cons rfl (fun K hK => ?_) ?_
                        · go_simp
                          refine hK _ _ ?_
                          clear hK K
                          refine wpAnyIn_done (by kernel_rfl) ?_ _
                          clear hwr hnk hca
                          gi_wp2
                          go_roundw
                          case rel => exact ⟨en, f - 1, dn ++ [⟨x.1, cc, aa + k, ((sl.data.toList.take en).drop k)⟩], hes, rfl, by omega, by rw [List.length_append, List.length_singleton]; omega, HDn.out, by rw [← List.append_assoc, HTk.out]; exact HP.out.1, HP.out.2.1, HKo.out.trans HP.out.2.2.1, HBw.out.trans HP.out.2.2.2.1⟩
                          case measure => simp [intOf] <;> omega
                        exact AllReadyIn.nil
                      exact AllReadyIn.nil
                    exact AllReadyIn.nil
                  exact AllReadyIn.nil
                exact AllReadyIn.nil
              refine AllReadyIn.cons rfl (fun K hK => ?_) ?_
              · go_simp
                refine hK _ _ ?_
                clear hK K
                refine wpAnyIn_ready (rs := [0, 6]) (by kernel_rfl) (by simp) ?_
                refine AllReadyIn.cons rfl (fun K hK => ?_) ?_
                · go_simp
                  refine hK _ _ ?_
                  clear hK K
                  refine wpAnyIn_ready (rs := [6]) (by kernel_rfl) (by simp) ?_
                  refine AllReadyIn.cons rfl (fun K hK => ?_) ?_
                  · go_simp
                    refine hK _ _ ?_
                    clear hK K
                    refine wpAnyIn_take (i := 8) (v := .int .i64 ((aa : Int) + k)) rfl rfl (by kernel_rfl) (by kernel_rfl) (by kernel_rfl) (fun _ _ _ h => h) ⟨Or.inl ⟨by rfl, by intro w; go_simp⟩, fun _ => rfl⟩ ?_
                    refine wpAnyIn_take (i := 13) (v := .agg #[.int .i64 x.1, .int .i64 cc, .int .i64 ((aa : Int) + k), .string (sl.extract k en)]) rfl rfl (by kernel_rfl) (by kernel_rfl) (by kernel_rfl) (fun _ _ _ h => h) ⟨Or.inl ⟨by rfl, by intro w; go_simp⟩, fun _ => rfl⟩ ?_
                    refine wpAnyIn_ready (rs := [14]) (by kernel_rfl) (by simp) ?_
                    refine AllReadyIn.cons rfl (fun K hK => ?_) ?_
                    · go_simp
                      refine hK _ _ ?_
                      clear hK K
                      refine wpAnyIn_ready (rs := [15]) (by kernel_rfl) (by simp) ?_
                      refine AllReadyIn.cons rfl (fun K hK => ?_) ?_
                      · refine stepIn_append rfl (.tmp 48) (.tmp 62) 39 rfl w.heap.size 44 i0 (.agg #[.int .i64 0, .int .i64 0, .int .i64 0, .string ByteArray.empty]) 4 40 Tryz.underlying39 hi hz0 hz1 hz2 rfl (by decide) vo _ _ (by rfl) (HRow2.out.alloc _).drew ⟨wr.heap.size, 0, none⟩ 1 1 [.int .i64 x.1, .int .i64 (cc : Nat), .int .i64 ((aa : Int) + k), .string (sl.extract k en)] (by rfl) rfl (HNews.out) (by simp [Value.oneCell']) HN1.out HN2.out HN3.out ?_
                        intro v' w2 hown' hgrow
                        obtain ⟨g', cap', rfl⟩ := ownsRow_succ hown'
                        have HP := Lib.hid (tok_pushed (t := ⟨x.1, cc, aa + k, ((sl.data.toList.take en).drop k)⟩) HV2.out HRow2.out HAt2.out HTx2.out HCo.out HN4.out HEx.out hown' hgrow)
                        have hcb := HP.out.2.2.2.2.cell
                        have hfb := HP.out.2.2.2.2.frozen
                        clear hown' hgrow
                        refine hK _ _ ?_
                        clear hK K
                        refine wpAnyIn_ready (rs := [16]) (by kernel_rfl) (by simp) ?_
                        refine AllReadyIn.cons rfl (fun K hK => ?_) ?_
                        · go_simp
                          refine hK _ _ ?_
                          clear hK K
                          refine wpAnyIn_done (by kernel_rfl) ?_ _
                          clear hwr hnk hca
                          gi_wp2
                          go_roundw
                          case rel => exact ⟨en, f - 1, dn ++ [⟨x.1, cc, aa + k, ((sl.data.toList.take en).drop k)⟩], hes, rfl, by omega, by rw [List.length_append, List.length_singleton]; omega, HDn.out, by rw [← List.append_assoc, HTk.out]; exact HP.out.1, HP.out.2.1, HKo.out.trans HP.out.2.2.1, HBw.out.trans HP.out.2.2.2.1⟩
                          case measure => simp [intOf] <;> omega
                        exact AllReadyIn.nil
                      exact AllReadyIn.nil
                    exact AllReadyIn.nil
                  exact AllReadyIn.nil
                refine AllReadyIn.cons rfl (fun K hK => ?_) ?_
                · go_simp
                  refine hK _ _ ?_
                  clear hK K
                  refine wpAnyIn_take (i := 8) (v := .int .i64 ((aa : Int) + k)) rfl rfl (by kernel_rfl) (by kernel_rfl) (by kernel_rfl) (fun _ _ _ h => h) ⟨Or.inl ⟨by rfl, by intro w; go_simp⟩, fun _ => rfl⟩ ?_
                  refine wpAnyIn_take (i := 13) (v := .agg #[.int .i64 x.1, .int .i64 cc, .int .i64 ((aa : Int) + k), .string (sl.extract k en)]) rfl rfl (by kernel_rfl) (by kernel_rfl) (by kernel_rfl) (fun _ _ _ h => h) ⟨Or.inl ⟨by rfl, by intro w; go_simp⟩, fun _ => rfl⟩ ?_
                  refine wpAnyIn_ready (rs := [0, 14]) (by kernel_rfl) (by simp) ?_
                  refine AllReadyIn.cons rfl (fun K hK => ?_) ?_
                  · go_simp
                    refine hK _ _ ?_
                    clear hK K
                    refine wpAnyIn_ready (rs := [14]) (by kernel_rfl) (by simp) ?_
                    refine AllReadyIn.cons rfl (fun K hK => ?_) ?_
                    · go_simp
                      refine hK _ _ ?_
                      clear hK K
                      refine wpAnyIn_ready (rs := [15]) (by kernel_rfl) (by simp) ?_
                      refine AllReadyIn.cons rfl (fun K hK => ?_) ?_
                      · refine stepIn_append rfl (.tmp 48) (.tmp 62) 39 rfl w.heap.size 44 i0 (.agg #[.int .i64 0, .int .i64 0, .int .i64 0, .string ByteArray.empty]) 4 40 Tryz.underlying39 hi hz0 hz1 hz2 rfl (by decide) vo _ _ (by rfl) (HRow2.out.alloc _).drew ⟨wr.heap.size, 0, none⟩ 1 1 [.int .i64 x.1, .int .i64 (cc : Nat), .int .i64 ((aa : Int) + k), .string (sl.extract k en)] (by rfl) rfl (HNews.out) (by simp [Value.oneCell']) HN1.out HN2.out HN3.out ?_
                        intro v' w2 hown' hgrow
                        obtain ⟨g', cap', rfl⟩ := ownsRow_succ hown'
                        have HP := Lib.hid (tok_pushed (t := ⟨x.1, cc, aa + k, ((sl.data.toList.take en).drop k)⟩) HV2.out HRow2.out HAt2.out HTx2.out HCo.out HN4.out HEx.out hown' hgrow)
                        have hcb := HP.out.2.2.2.2.cell
                        have hfb := HP.out.2.2.2.2.frozen
                        clear hown' hgrow
                        refine hK _ _ ?_
                        clear hK K
                        refine wpAnyIn_ready (rs := [16]) (by kernel_rfl) (by simp) ?_
                        refine AllReadyIn.cons rfl (fun K hK => ?_) ?_
                        · go_simp
                          refine hK _ _ ?_
                          clear hK K
                          refine wpAnyIn_done (by kernel_rfl) ?_ _
                          clear hwr hnk hca
                          gi_wp2
                          go_roundw
                          case rel => exact ⟨en, f - 1, dn ++ [⟨x.1, cc, aa + k, ((sl.data.toList.take en).drop k)⟩], hes, rfl, by omega, by rw [List.length_append, List.length_singleton]; omega, HDn.out, by rw [← List.append_assoc, HTk.out]; exact HP.out.1, HP.out.2.1, HKo.out.trans HP.out.2.2.1, HBw.out.trans HP.out.2.2.2.1⟩
                          case measure => simp [intOf] <;> omega
                        exact AllReadyIn.nil
                      exact AllReadyIn.nil
                    exact AllReadyIn.nil
                  refine AllReadyIn.cons rfl (fun K hK => ?_) ?_
                  · go_simp
                    refine hK _ _ ?_
                    clear hK K
                    refine wpAnyIn_ready (rs := [0]) (by kernel_rfl) (by simp) ?_
                    refine AllReadyIn.cons rfl (fun K hK => ?_) ?_
                    · go_simp
                      refine hK _ _ ?_
                      clear hK K
                      refine wpAnyIn_ready (rs := [15]) (by kernel_rfl) (by simp) ?_
                      refine AllReadyIn.cons rfl (fun K hK => ?_) ?_
                      · refine stepIn_append rfl (.tmp 48) (.tmp 62) 39 rfl w.heap.size 44 i0 (.agg #[.int .i64 0, .int .i64 0, .int .i64 0, .string ByteArray.empty]) 4 40 Tryz.underlying39 hi hz0 hz1 hz2 rfl (by decide) vo _ _ (by rfl) (HRow2.out.alloc _).drew ⟨wr.heap.size, 0, none⟩ 1 1 [.int .i64 x.1, .int .i64 (cc : Nat), .int .i64 ((aa : Int) + k), .string (sl.extract k en)] (by rfl) rfl (HNews.out) (by simp [Value.oneCell']) HN1.out HN2.out HN3.out ?_
                        intro v' w2 hown' hgrow
                        obtain ⟨g', cap', rfl⟩ := ownsRow_succ hown'
                        have HP := Lib.hid (tok_pushed (t := ⟨x.1, cc, aa + k, ((sl.data.toList.take en).drop k)⟩) HV2.out HRow2.out HAt2.out HTx2.out HCo.out HN4.out HEx.out hown' hgrow)
                        have hcb := HP.out.2.2.2.2.cell
                        have hfb := HP.out.2.2.2.2.frozen
                        clear hown' hgrow
                        refine hK _ _ ?_
                        clear hK K
                        refine wpAnyIn_ready (rs := [16]) (by kernel_rfl) (by simp) ?_
                        refine AllReadyIn.cons rfl (fun K hK => ?_) ?_
                        · go_simp
                          refine hK _ _ ?_
                          clear hK K
                          refine wpAnyIn_done (by kernel_rfl) ?_ _
                          clear hwr hnk hca
                          gi_wp2
                          go_roundw
                          case rel => exact ⟨en, f - 1, dn ++ [⟨x.1, cc, aa + k, ((sl.data.toList.take en).drop k)⟩], hes, rfl, by omega, by rw [List.length_append, List.length_singleton]; omega, HDn.out, by rw [← List.append_assoc, HTk.out]; exact HP.out.1, HP.out.2.1, HKo.out.trans HP.out.2.2.1, HBw.out.trans HP.out.2.2.2.1⟩
                          case measure => simp [intOf] <;> omega
                        exact AllReadyIn.nil
                      exact AllReadyIn.nil
                    exact AllReadyIn.nil
                  exact AllReadyIn.nil
                exact AllReadyIn.nil
              refine AllReadyIn.cons rfl (fun K hK => ?_) ?_
              · go_simp
                refine hK _ _ ?_
                clear hK K
                refine wpAnyIn_take (i := 8) (v := .int .i64 ((aa : Int) + k)) rfl rfl (by kernel_rfl) (by kernel_rfl) (by kernel_rfl) (fun _ _ _ h => h) ⟨Or.inl ⟨by rfl, by intro w; go_simp⟩, fun _ => rfl⟩ ?_
                refine wpAnyIn_ready (rs := [0, 5]) (by kernel_rfl) (by simp) ?_
                refine AllReadyIn.cons rfl (fun K hK => ?_) ?_
                · go_simp
                  refine hK _ _ ?_
                  clear hK K
                  refine wpAnyIn_ready (rs := [5]) (by kernel_rfl) (by simp) ?_
                  refine AllReadyIn.cons rfl (fun K hK => ?_) ?_
                  · go_simp
                    refine hK _ _ ?_
                    clear hK K
                    refine wpAnyIn_take (i := 13) (v := .agg #[.int .i64 x.1, .int .i64 cc, .int .i64 ((aa : Int) + k), .string (sl.extract k en)]) rfl rfl (by kernel_rfl) (by kernel_rfl) (by kernel_rfl) (fun _ _ _ h => h) ⟨Or.inl ⟨by rfl, by intro w; go_simp⟩, fun _ => rfl⟩ ?_
                    refine wpAnyIn_ready (rs := [14]) (by kernel_rfl) (by simp) ?_
                    refine AllReadyIn.cons rfl (fun K hK => ?_) ?_
                    · go_simp
                      refine hK _ _ ?_
                      clear hK K
                      refine wpAnyIn_ready (rs := [15]) (by kernel_rfl) (by simp) ?_
                      refine AllReadyIn.cons rfl (fun K hK => ?_) ?_
                      · refine stepIn_append rfl (.tmp 48) (.tmp 62) 39 rfl w.heap.size 44 i0 (.agg #[.int .i64 0, .int .i64 0, .int .i64 0, .string ByteArray.empty]) 4 40 Tryz.underlying39 hi hz0 hz1 hz2 rfl (by decide) vo _ _ (by rfl) (HRow2.out.alloc _).drew ⟨wr.heap.size, 0, none⟩ 1 1 [.int .i64 x.1, .int .i64 (cc : Nat), .int .i64 ((aa : Int) + k), .string (sl.extract k en)] (by rfl) rfl (HNews.out) (by simp [Value.oneCell']) HN1.out HN2.out HN3.out ?_
                        intro v' w2 hown' hgrow
                        obtain ⟨g', cap', rfl⟩ := ownsRow_succ hown'
                        have HP := Lib.hid (tok_pushed (t := ⟨x.1, cc, aa + k, ((sl.data.toList.take en).drop k)⟩) HV2.out HRow2.out HAt2.out HTx2.out HCo.out HN4.out HEx.out hown' hgrow)
                        have hcb := HP.out.2.2.2.2.cell
                        have hfb := HP.out.2.2.2.2.frozen
                        clear hown' hgrow
                        refine hK _ _ ?_
                        clear hK K
                        refine wpAnyIn_ready (rs := [16]) (by kernel_rfl) (by simp) ?_
                        refine AllReadyIn.cons rfl (fun K hK => ?_) ?_
                        · go_simp
                          refine hK _ _ ?_
                          clear hK K
                          refine wpAnyIn_done (by kernel_rfl) ?_ _
                          clear hwr hnk hca
                          gi_wp2
                          go_roundw
                          case rel => exact ⟨en, f - 1, dn ++ [⟨x.1, cc, aa + k, ((sl.data.toList.take en).drop k)⟩], hes, rfl, by omega, by rw [List.length_append, List.length_singleton]; omega, HDn.out, by rw [← List.append_assoc, HTk.out]; exact HP.out.1, HP.out.2.1, HKo.out.trans HP.out.2.2.1, HBw.out.trans HP.out.2.2.2.1⟩
                          case measure => simp [intOf] <;> omega
                        exact AllReadyIn.nil
                      exact AllReadyIn.nil
                    exact AllReadyIn.nil
                  exact AllReadyIn.nil
                refine AllReadyIn.cons rfl (fun K hK => ?_) ?_
                · go_simp
                  refine hK _ _ ?_
                  clear hK K
                  refine wpAnyIn_take (i := 13) (v := .agg #[.int .i64 x.1, .int .i64 cc, .int .i64 ((aa : Int) + k), .string (sl.extract k en)]) rfl rfl (by kernel_rfl) (by kernel_rfl) (by kernel_rfl) (fun _ _ _ h => h) ⟨Or.inl ⟨by rfl, by intro w; go_simp⟩, fun _ => rfl⟩ ?_
                  refine wpAnyIn_ready (rs := [0, 14]) (by kernel_rfl) (by simp) ?_
                  refine AllReadyIn.cons rfl (fun K hK => ?_) ?_
                  · go_simp
                    refine hK _ _ ?_
                    clear hK K
                    refine wpAnyIn_ready (rs := [14]) (by kernel_rfl) (by simp) ?_
                    refine AllReadyIn.cons rfl (fun K hK => ?_) ?_
                    · go_simp
                      refine hK _ _ ?_
                      clear hK K
                      refine wpAnyIn_ready (rs := [15]) (by kernel_rfl) (by simp) ?_
                      refine AllReadyIn.cons rfl (fun K hK => ?_) ?_
                      · refine stepIn_append rfl (.tmp 48) (.tmp 62) 39 rfl w.heap.size 44 i0 (.agg #[.int .i64 0, .int .i64 0, .int .i64 0, .string ByteArray.empty]) 4 40 Tryz.underlying39 hi hz0 hz1 hz2 rfl (by decide) vo _ _ (by rfl) (HRow2.out.alloc _).drew ⟨wr.heap.size, 0, none⟩ 1 1 [.int .i64 x.1, .int .i64 (cc : Nat), .int .i64 ((aa : Int) + k), .string (sl.extract k en)] (by rfl) rfl (HNews.out) (by simp [Value.oneCell']) HN1.out HN2.out HN3.out ?_
                        intro v' w2 hown' hgrow
                        obtain ⟨g', cap', rfl⟩ := ownsRow_succ hown'
                        have HP := Lib.hid (tok_pushed (t := ⟨x.1, cc, aa + k, ((sl.data.toList.take en).drop k)⟩) HV2.out HRow2.out HAt2.out HTx2.out HCo.out HN4.out HEx.out hown' hgrow)
                        have hcb := HP.out.2.2.2.2.cell
                        have hfb := HP.out.2.2.2.2.frozen
                        clear hown' hgrow
                        refine hK _ _ ?_
                        clear hK K
                        refine wpAnyIn_ready (rs := [16]) (by kernel_rfl) (by simp) ?_
                        refine AllReadyIn.cons rfl (fun K hK => ?_) ?_
                        · go_simp
                          refine hK _ _ ?_
                          clear hK K
                          refine wpAnyIn_done (by kernel_rfl) ?_ _
                          clear hwr hnk hca
                          gi_wp2
                          go_roundw
                          case rel => exact ⟨en, f - 1, dn ++ [⟨x.1, cc, aa + k, ((sl.data.toList.take en).drop k)⟩], hes, rfl, by omega, by rw [List.length_append, List.length_singleton]; omega, HDn.out, by rw [← List.append_assoc, HTk.out]; exact HP.out.1, HP.out.2.1, HKo.out.trans HP.out.2.2.1, HBw.out.trans HP.out.2.2.2.1⟩
                          case measure => simp [intOf] <;> omega
                        exact AllReadyIn.nil
                      exact AllReadyIn.nil
                    exact AllReadyIn.nil
                  refine AllReadyIn.cons rfl (fun K hK => ?_) ?_
                  · go_simp
                    refine hK _ _ ?_
                    clear hK K
                    refine wpAnyIn_ready (rs := [0]) (by kernel_rfl) (by simp) ?_
                    refine AllReadyIn.cons rfl (fun K hK => ?_) ?_
                    · go_simp
                      refine hK _ _ ?_
                      clear hK K
                      refine wpAnyIn_ready (rs := [15]) (by kernel_rfl) (by simp) ?_
                      refine AllReadyIn.cons rfl (fun K hK => ?_) ?_
                      · refine stepIn_append rfl (.tmp 48) (.tmp 62) 39 rfl w.heap.size 44 i0 (.agg #[.int .i64 0, .int .i64 0, .int .i64 0, .string ByteArray.empty]) 4 40 Tryz.underlying39 hi hz0 hz1 hz2 rfl (by decide) vo _ _ (by rfl) (HRow2.out.alloc _).drew ⟨wr.heap.size, 0, none⟩ 1 1 [.int .i64 x.1, .int .i64 (cc : Nat), .int .i64 ((aa : Int) + k), .string (sl.extract k en)] (by rfl) rfl (HNews.out) (by simp [Value.oneCell']) HN1.out HN2.out HN3.out ?_
                        intro v' w2 hown' hgrow
                        obtain ⟨g', cap', rfl⟩ := ownsRow_succ hown'
                        have HP := Lib.hid (tok_pushed (t := ⟨x.1, cc, aa + k, ((sl.data.toList.take en).drop k)⟩) HV2.out HRow2.out HAt2.out HTx2.out HCo.out HN4.out HEx.out hown' hgrow)
                        have hcb := HP.out.2.2.2.2.cell
                        have hfb := HP.out.2.2.2.2.frozen
                        clear hown' hgrow
                        refine hK _ _ ?_
                        clear hK K
                        refine wpAnyIn_ready (rs := [16]) (by kernel_rfl) (by simp) ?_
                        refine AllReadyIn.cons rfl (fun K hK => ?_) ?_
                        · go_simp
                          refine hK _ _ ?_
                          clear hK K
                          refine wpAnyIn_done (by kernel_rfl) ?_ _
                          clear hwr hnk hca
                          gi_wp2
                          go_roundw
                          case rel => exact ⟨en, f - 1, dn ++ [⟨x.1, cc, aa + k, ((sl.data.toList.take en).drop k)⟩], hes, rfl, by omega, by rw [List.length_append, List.length_singleton]; omega, HDn.out, by rw [← List.append_assoc, HTk.out]; exact HP.out.1, HP.out.2.1, HKo.out.trans HP.out.2.2.1, HBw.out.trans HP.out.2.2.2.1⟩
                          case measure => simp [intOf] <;> omega
                        exact AllReadyIn.nil
                      exact AllReadyIn.nil
                    exact AllReadyIn.nil
                  exact AllReadyIn.nil
                exact AllReadyIn.nil
              exact AllReadyIn.nil
          · obtain rfl : k = sl.size := by omega
            have HD2 : Hid (dn = lineToks colsOf x.1 (atP s pre) sl.data.toList) := Lib.hid (by rw [← HDone.out, wordsF_end _ _ _ (by rw [HLo.out]; exact Nat.le_refl _)]; simp)
            have hst2 := HSt.out
            rw [HD2.out, ← HLT.out] at hst2
            obtain ⟨⟨vo, hv, hrow⟩, hat, htx⟩ := hst2
            have hsn := atP_snoc s pre x
            have hnx := next_cases s (atP s pre) (atP_le s pre)
            have hap := atP_le s pre
            obtain ⟨aa, haa⟩ : ∃ aa, atP s pre = aa := ⟨_, rfl⟩
            rw [haa] at hat hsn hnx hap
            have HV2 := Lib.hid hv
            have HRow2 := Lib.hid hrow
            have HTx2 := Lib.hid htx
            have HAt2 := Lib.hid hat
            have hc1 := hat.cell
            have hc2 := htx.cell
            have hf1 := hat.frozen
            clear hv hrow htx hat haa hdn hf
            rcases hnx with ⟨mm, hi1, hmm, hi2⟩ | ⟨hi1, hi2⟩
            · rw [hi2] at hsn
              have HSn := Lib.hid hsn
              have HI := Lib.hid hi1
              clear hsn hi1 hi2
              gi_wp2_with (refine ⟨trivial, ?_⟩; gi_at_call 24; refine (CallsIn.inRound l (callsIn_wide.2 (idx_at s aa _ _ HI.out))).mono ?_; rintro e w' ⟨rfl, rfl⟩)
              refine ⟨(HKo.out.trans (KeepsOthers.setCell _ _ _)).from _, HBw.out.setCell (p := ⟨w.heap.size + 1 + 1, 0, none⟩) (by show w.heap.size ≤ w.heap.size + 1 + 1; omega) _, ⟨⟨⟨vo, HV2.out.other (by omega) _, ?_, trivial⟩, ?_, HTx2.out.other (by omega) _⟩, (hB.trans HBw.out).setCell (p := ⟨w.heap.size + 1 + 1, 0, none⟩) (by show w.heap.size ≤ w.heap.size + 1 + 1; omega) _⟩⟩
              · exact own_apart HRow2.out (grownBy_setCell' wr (w.heap.size + 1 + 1) _) (fun r hr => by cases hr; exact ⟨_, _, _, HAt2.out, by decide⟩)
              · rw [HSn.out]
                have := HAt2.out.set (.int .i64 ((aa + mm + 1 : Nat) : Int))
                have e1 : ((aa + mm + 1 : Nat) : Int) = (aa : Int) + ((mm : Int) + 1) := by omega
                rw [e1] at this ⊢
                exact this
            · rw [hi2] at hsn
              have HSn := Lib.hid hsn
              have HI := Lib.hid hi1
              clear hsn hi1 hi2
              gi_wp2_with (refine ⟨trivial, ?_⟩; gi_at_call 24; refine (CallsIn.inRound l (callsIn_wide.2 (idx_at s aa _ _ HI.out))).mono ?_; rintro e w' ⟨rfl, rfl⟩)
              exact ⟨HKo.out.from _, HBw.out, ⟨⟨⟨vo, HV2.out, HRow2.out, trivial⟩, by rw [HSn.out]; exact HAt2.out, HTx2.out⟩, hB.trans HBw.out⟩⟩
      · rintro D ys W hD rfl ⟨⟨⟨v, hv, hrow, _⟩, _⟩, hB⟩ hK
        have hc := hv.cell
        gi_wp2
        refine ⟨by simp, .inl ⟨_, _, rfl, run_takeDeferred hK, ?_⟩⟩
        exact ⟨_, results_tmp2 rfl _ _ _, v, _, by rw [HC.out]; rfl, ownsRow_putObj hrow _ hK rfl, rfl, hB.trans (belowK_b (w := w) (Nat.le_refl _) W D _ _ (by rw [hsz] at hD; omega) hK rfl rfl)⟩
      · rintro D c pre W _ _ h _
        exact h.elim
    · have HS : Hid (startOf s.data.toList = 3) := Lib.hid (by unfold startOf; rw [hmk]; rfl)
      have h3 : 3 ≤ s.size := by
        have := start_le s.data.toList
        rw [HS.out, len_toList] at this; exact this
      have hms : (mkS (unmarked s.data.toList)).size = s.size - 3 := by
        have := trimPrefix_start s.data.toList
        rw [HS.out, len_toList] at this
        rw [mkS_size]; exact this
      refine callsIn_of_wp_marks Tryz.func9 rfl trivial ?_ rfl
      simp only [Tryz.ntmps9, List.size_toArray, List.length_cons, List.length_nil, Nat.reduceAdd, Nat.reduceSub, Array.replicate_succ, Array.replicate_zero, List.push_toArray, List.append_toArray, List.nil_append, List.cons_append]
      gi_wp2_with first
        | (refine ⟨trivial, ?_⟩; gi_at_call 19; refine (callsIn_wide.2 (CutP_mark _ _)).mono ?_; rintro e w1 ⟨rfl, rfl⟩)
        | (refine ⟨trivial, ?_⟩; gi_at_call 20; refine (Each_in _ _ _).mono ?_; rintro e w' ⟨rfl, rfl⟩)
      have hbx := boxes3 w 9 39 3 (.string s) (.slice none 0 0) (.int .i64 ((s.size : Int) - ((s.size - 3 : Nat) : Int))) (.string s)
      have hAt : Hid ((.int .i64 ((s.size : Int) - ((s.size - 3 : Nat) : Int)) : Value) = .int .i64 ((lastAt s.data.toList (startOf s.data.toList) [] : Nat) : Int)) := Lib.hid (by show (_ : Value) = .int .i64 ((startOf s.data.toList : Nat) : Int); rw [HS.out]; first | rfl | (congr 1; omega))
      obtain ⟨bT, bO, bA, bN, hB0, hsz⟩ := hbx
      have bA' := Eq.trans (show _ = _ from bA) (congrArg (fun z => some (Obj.cells #[z] 3 (0, 0))) hAt.out)
      refine wpIn_rangeFunc_ownG rfl (by omega) (gf := 45) (lb := #[.pointer (some ⟨w.heap.size + 1 + 1 + 1, 0, none⟩)]) rfl trivial (enters_of Tryz.func45 (by kernel_rfl) rfl)
        (eachc_stops (5 - 1) (by omega) (w.heap.size + 1 + 1 + 1) w.heap.size s h0 m _ bN.lt bN.cell ((hB0.cell (p := ⟨0, 0, none⟩) h0).trans hm)) belowK_t (belowK_b (by rw [hsz]; omega)) (Below.refl _ _) (fun _ => rfl)
        (fun pre W => ((∃ v, Boxed W (w.heap.size + 1) 39 v ∧ W.ownsRow w.heap.size 44 4 v (toksP s pre).length (tokCells (toksP s pre)) ∧ True) ∧ (Boxed W (w.heap.size + 1 + 1) 3 (.int .i64 ((atP s pre : Nat) : Int)) ∧ Boxed W w.heap.size 9 (.string s))) ∧ Below w.heap.size w W)
        (fun _ _ _ => False)
        (OwnFrom.and (OwnFrom.and (_root_.Go.Own.from (holdsRow_own w.heap.size (w.heap.size + 1) 39 44 4 (fun pre => (toksP s pre).length) (fun pre => tokCells (toksP s pre)) (fun _ _ => True)) _) (OwnFrom.and (_root_.Go.Own.from (boxed_own (w.heap.size + 1 + 1) 3 (fun pre => .int .i64 ((atP s pre : Nat) : Int))) _) (_root_.Go.Own.from (boxed_own w.heap.size 9 (fun _ => .string s)) _))) (ownFrom_below (Nat.le_refl _) (by rw [hsz]; omega)))
        (fun _ _ _ _ _ hs _ _ => hs)
        ⟨⟨⟨_, bO, World.ownsRow_nil _ _ _ _, trivial⟩, bA', bT⟩, hB0⟩
        (fun x => { tmps := #[.string s, .pointer (some ⟨w.heap.size, 0, none⟩), .slice none 0 0, .int .i64 0, .pointer (some ⟨w.heap.size + 1, 0, none⟩), .pointer (some ⟨w.heap.size + 1 + 1, 0, none⟩), .string (mkS (unmarked s.data.toList)), .bool true, .int .i64 x.1, .string (clamp x.2), undef, undef, undef, undef, .string s, .int .i64 s.size, .bool (decide (65536 < (s.size : Int))), .tuple #[.string (mkS (unmarked s.data.toList)), .bool true], .string s, .tuple #[.string (mkS (unmarked s.data.toList)), .bool true], .string (mkS (unmarked s.data.toList)), .bool true, .bool true, .string s, .int .i64 s.size, .string (mkS (unmarked s.data.toList)), .int .i64 ((s.size - 3 : Nat) : Int), .int .i64 ((s.size : Int) - ((s.size - 3 : Nat) : Int)), .string s, .func (.func 45) #[] #[.pointer (some ⟨w.heap.size + 1 + 1 + 1, 0, none⟩)], .int .i64 x.1, .string (clamp x.2), undef, undef, undef, undef, undef, undef, undef, undef, undef, undef, undef, undef, undef, undef, undef, undef, undef, undef, undef, undef, undef, undef, undef, undef, undef, undef, undef, undef, undef, undef, undef, undef, undef, undef, undef, undef, undef, undef, undef, undef, undef, undef, undef, undef], defers := [] }) ?_ ?_ ?_ ?_
      · intro l x W K hK
        gi_wp2
        exact hK
      · rintro l pre x W ⟨⟨⟨v, hv, hrow, _⟩, hat, htx⟩, hB⟩ hlt
        have hle := clamp_le x.2
        obtain ⟨sl, hsl⟩ : ∃ sl, clamp x.2 = sl := ⟨_, rfl⟩
        rw [hsl] at hle ⊢
        have HSl := Lib.hid hsl
        have HV := Lib.hid hv
        have HRow := Lib.hid hrow
        have HAt := Lib.hid hat
        have HTx := Lib.hid htx
        clear hsl hv hrow hat htx
        have hn1 : 1 ≤ 5 - 1 - 1 := by omega
        gi_wp2_with (refine ⟨trivial, ?_⟩; gi_at_call 21; refine (CallsIn.inRound l (callsIn_wide.2 (columns_any sl _ (by omega)))).mono ?_; rintro e w1 ⟨rfl, oc⟩; have OC := Lib.hid oc; clear oc)
        have hSt : TokSt w.heap.size s (atP s pre) (toksP s pre) w1 := TokSt.keep ⟨⟨v, HV.out, HRow.out⟩, HAt.out, HTx.out⟩ OC.out.below
        have HSt := Lib.hid hSt
        have HCols := Lib.hid OC.out.own
        have HBW := Lib.hid OC.out.below
        have HLT : Hid (toksP s (pre ++ [x]) = toksP s pre ++ lineToks colsOf x.1 (atP s pre) sl.data.toList) := Lib.hid (by
          unfold toksP preB; rw [List.map_append, List.map_singleton, toks_snoc, HSl.out]; rfl)
        have hlo := len_toList sl
        have HLo := Lib.hid hlo
        clear hSt hlo
        gi_loopw [11] (fun i wr => ∃ (k f : Nat) (dn : List Tok), k ≤ sl.size ∧ i = .int .i64 k ∧ sl.size - k ≤ f ∧ dn.length ≤ k ∧ dn ++ (wordsF sl.data.toList f k).map (tokOf colsOf x.1 (atP s pre) sl.data.toList) = lineToks colsOf x.1 (atP s pre) sl.data.toList ∧
          TokSt w.heap.size s (atP s pre) (toksP s pre ++ dn) wr ∧ wr.ownsRow W.heap.size 3 1 (.slice (some ⟨W.heap.size, 0, none⟩) sl.size sl.size) sl.size (natV (colsOf sl.data.toList)) ∧ KeepsOthers W wr ∧ Below w.heap.size W wr) (fun i _ => sl.size - (intOf i).toNat)
        case atStart => exact ⟨0, sl.size, [], Nat.zero_le _, rfl, by omega, Nat.le_refl _, by rw [← HLo.out]; rfl, by rw [List.append_nil]; exact HSt.out, HCols.out, keepsOthers_below HBW.out, HBW.out.mono hB.size⟩
        case round =>
          obtain ⟨k, f, dn, hk, rfl, hf, hdn, hdone, hst, hco, hko, hbw⟩ := hrel
          have HDone := Lib.hid hdone
          have HSt := Lib.hid hst
          have HCo := Lib.hid hco
          have HKo := Lib.hid hko
          have HBw := Lib.hid hbw
          clear hdone hst hco hko hbw
          by_cases hkn : k < sl.size
          · have HBk := Lib.hid (byteAt_lt sl k hkn)
            cases hlb : letterB sl[k]
            · have HW := Lib.hid (wordsF_no sl.data.toList f k (by rw [HLo.out]; exact hkn) (by rw [HLo.out]; exact hf) (by rw [HBk.out]; exact hlb))
              gi_wp2_with (refine ⟨trivial, ?_⟩; gi_at_call 22; refine (CallsIn.inRound l (callsIn_wide.2 (letter_any _ _))).mono ?_; rintro e w' ⟨rfl, rfl⟩)
              go_roundw
              case rel => exact ⟨k + 1, f - 1, dn, by omega, by go_num, by omega, by omega, by rw [← HW.out]; exact HDone.out, HSt.out, HCo.out, HKo.out, HBw.out⟩
              case measure => simp [intOf] <;> omega
            · have HLet : Hid (letterB (byteAt sl.data.toList k) = true) := Lib.hid (by rw [HBk.out]; exact hlb)
              have HW := Lib.hid (wordsF_yes sl.data.toList f k (by rw [HLo.out]; exact hkn) (by rw [HLo.out]; exact hf) HLet.out)
              obtain ⟨en, hen⟩ : ∃ en, endOf sl.data.toList k = en := ⟨_, rfl⟩
              have hks : k < en := by rw [← hen]; exact endOf_lt _ _ HLet.out
              have hes : en ≤ sl.size := by rw [← hen, ← HLo.out]; exact (endOf_is sl.data.toList k (by rw [HLo.out]; omega)).top
              have HEn := Lib.hid hen
              clear hen
              gi_wp2_with first
                | (refine ⟨trivial, ?_⟩; gi_at_call 22; refine (CallsIn.inRound l (callsIn_wide.2 (letter_any _ _))).mono ?_; rintro e w' ⟨rfl, rfl⟩)
                | (refine ⟨trivial, ?_⟩; gi_at_call 23; refine (CallsIn.inRound l (callsIn_wide.2 (end_at sl k en _ (by omega) HLet.out HEn.out))).mono ?_; rintro e w' ⟨rfl, rfl⟩)
              obtain ⟨Tk, hTk⟩ : ∃ Tk, toksP s pre ++ dn = Tk := ⟨_, rfl⟩
              have hst2 := HSt.out
              rw [hTk] at hst2
              obtain ⟨⟨vo, hv, hrow⟩, hat, htx⟩ := hst2
              have hln : Tk.length ≤ 4295032832 := by
                have h1 := toksP_len s pre
                rw [← hTk, List.length_append]
                have : (toksP s pre).length ≤ 65536 * 65536 := Nat.le_trans h1 (Nat.mul_le_mul (by omega) (Nat.le_refl _))
                omega
              have HTk := Lib.hid hTk
              clear hTk
              obtain ⟨cc, hcc⟩ : ∃ cc, (colsOf sl.data.toList).getD k 0 = cc := ⟨_, rfl⟩
              have hcol : wr.cell? ⟨W.heap.size, k, none⟩ = some (.int .i64 (cc : Nat)) := by
                have := HCo.out.cells (g := W.heap.size) rfl k (.int .i64 (cc : Nat)) (by rw [← hcc]; simp [natV, List.getD, List.getElem?_eq_getElem (show k < (colsOf sl.data.toList).length by rw [colsOf_len, HLo.out]; exact hkn)])
                rw [row_addr] at this; exact this
              have hc1 := hv.cell
              have hc2 := hat.cell
              have HCC := Lib.hid hcc
              have hap := atP_le s pre
              obtain ⟨aa, haa⟩ : ∃ aa, atP s pre = aa := ⟨_, rfl⟩
              rw [haa] at hc2 hap
              have HAA := Lib.hid haa
              have HV2 := Lib.hid hv
              have HRow2 := Lib.hid hrow
              have HAt2 := Lib.hid hat
              have HTx2 := Lib.hid htx
              clear hcc hv hrow hat htx haa
              have HNews := Lib.hid (news_cells wr [.int .i64 x.1, .int .i64 (cc : Nat), .int .i64 ((aa : Int) + k), .string (sl.extract k en)] 44)
              have HN1 : Hid (Tk.length + 1 ≤ maxLen) := Lib.hid (by unfold maxLen; omega)
              have HN2 : Hid ((Tk.length + 1) * 40 ≤ 140737488355328) := Lib.hid (by omega)
              have HN3 : Hid (w.heap.size ≤ ((wr.alloc (.cells #[.int .i64 x.1, .int .i64 (cc : Nat), .int .i64 ((aa : Int) + k), .string (sl.extract k en)] 44)).drew).heap.size) := Lib.hid (by
                show w.heap.size ≤ (wr.alloc _).heap.size
                have h1 := hB.size
                have h2 := HBw.out.size
                rw [World.size_alloc]; omega)
              have HN4 : Hid (w.heap.size ≤ wr.heap.size) := Lib.hid (by have h1 := hB.size; have h2 := HBw.out.size; omega)
              have HEx : Hid (mkS ((sl.data.toList.take en).drop k) = sl.extract k en) := Lib.hid (by rw [extract_mkS, List.drop_take])
              have HDn : Hid ((dn ++ [⟨x.1, cc, aa + k, ((sl.data.toList.take en).drop k)⟩]) ++ (wordsF sl.data.toList (f - 1) en).map (tokOf colsOf x.1 (atP s pre) sl.data.toList) = lineToks colsOf x.1 (atP s pre) sl.data.toList) := Lib.hid (by
                rw [← HDone.out, HW.out, HEn.out, List.map_cons, ← HCC.out, ← HAA.out, List.append_assoc]; rfl)
              have hnk : ¬ en < k := by omega
              have hwr : IntKind.i64.wrap ((aa : Int) + (k : Int)) = (aa : Int) + (k : Int) := by rw [IntKind.wrap_i64]; omega
              have hca : ∀ o, (wr.alloc o).cell? ⟨w.heap.size + 1, 0, none⟩ = some vo := fun o => ((HV2.out).alloc o).cell
              refine wpIn_region_round (by kernel_rfl) (by kernel_rfl) ?_
              refine wpAnyIn_take (i := 1) (v := .int .i64 x.1) rfl rfl (by kernel_rfl) (by kernel_rfl) (by kernel_rfl) (fun _ _ _ h => h) ⟨Or.inl ⟨by rfl, by intro w; go_simp⟩, fun _ => rfl⟩ ?_
              refine wpAnyIn_take (i := 2) (v := .slice (some ⟨W.heap.size, 0, none⟩) sl.size sl.size) rfl rfl (by kernel_rfl) (by kernel_rfl) (by kernel_rfl) (fun _ _ _ h => h) ⟨Or.inl ⟨by rfl, by intro w; go_simp⟩, fun _ => rfl⟩ ?_
              refine wpAnyIn_take (i := 3) (v := .int .i64 k) rfl rfl (by kernel_rfl) (by kernel_rfl) (by kernel_rfl) (fun _ _ _ h => h) ⟨Or.inl ⟨by rfl, by intro w; go_simp⟩, fun _ => rfl⟩ ?_
              refine wpAnyIn_take (i := 7) (v := .int .i64 k) rfl rfl (by kernel_rfl) (by kernel_rfl) (by kernel_rfl) (fun _ _ _ h => h) ⟨Or.inl ⟨by rfl, by intro w; go_simp⟩, fun _ => rfl⟩ ?_
              refine wpAnyIn_take (i := 9) (v := .string sl) rfl rfl (by kernel_rfl) (by kernel_rfl) (by kernel_rfl) (fun _ _ _ h => h) ⟨Or.inl ⟨by rfl, by intro w; go_simp⟩, fun _ => rfl⟩ ?_
              refine wpAnyIn_take (i := 10) (v := .int .i64 k) rfl rfl (by kernel_rfl) (by kernel_rfl) (by kernel_rfl) (fun _ _ _ h => h) ⟨Or.inl ⟨by rfl, by intro w; go_simp⟩, fun _ => rfl⟩ ?_
              refine wpAnyIn_take (i := 11) (v := .int .i64 en) rfl rfl (by kernel_rfl) (by kernel_rfl) (by kernel_rfl) (fun _ _ _ h => h) ⟨Or.inl ⟨by rfl, by intro w; go_simp⟩, fun _ => rfl⟩ ?_
              refine wpAnyIn_take (i := 4) (v := .pointer (some ⟨W.heap.size, k, none⟩)) rfl rfl (by kernel_rfl) (by kernel_rfl) (by kernel_rfl) (fun _ _ _ h => h) ⟨Or.inl ⟨by rfl, by intro w; go_simp⟩, fun _ => rfl⟩ ?_
              refine wpAnyIn_take (i := 12) (v := .string (sl.extract k en)) rfl rfl (by kernel_rfl) (by kernel_rfl) (by kernel_rfl) (fun _ _ _ h => h) ⟨Or.inl ⟨by rfl, by intro w; go_simp⟩, fun _ => rfl⟩ ?_
              refine wpAnyIn_ready (rs := [0, 5, 6]) (by kernel_rfl) (by simp) ?_
              refine AllReadyIn.cons rfl (fun K hK => ?_) ?_
              · go_simp
                refine hK _ _ ?_
                clear hK K
                refine wpAnyIn_ready (rs := [5, 6]) (by kernel_rfl) (by simp) ?_
                refine AllReadyIn.cons rfl (fun K hK => ?_) ?_
                · go_simp
                  refine hK _ _ ?_
                  clear hK K
                  refine wpAnyIn_ready (rs := [6]) (by kernel_rfl) (by simp) ?_
                  refine AllReadyIn.cons rfl (fun K hK => ?_) ?_
                  · go_simp
                    refine hK _ _ ?_
                    clear hK K
                    refine wpAnyIn_take (i := 8) (v := .int .i64 ((aa : Int) + k)) rfl rfl (by kernel_rfl) (by kernel_rfl) (by kernel_rfl) (fun _ _ _ h => h) ⟨Or.inl ⟨by rfl, by intro w; go_simp⟩, fun _ => rfl⟩ ?_
                    refine wpAnyIn_take (i := 13) (v := .agg #[.int .i64 x.1, .int .i64 cc, .int .i64 ((aa : Int) + k), .string (sl.extract k en)]) rfl rfl (by kernel_rfl) (by kernel_rfl) (by kernel_rfl) (fun _ _ _ h => h) ⟨Or.inl ⟨by rfl, by intro w; go_simp⟩, fun _ => rfl⟩ ?_
                    refine wpAnyIn_ready (rs := [14]) (by kernel_rfl) (by simp) ?_
                    refine AllReadyIn.cons rfl (fun K hK => ?_) ?_
                    · go_simp
                      refine hK _ _ ?_
                      clear hK K
                      refine wpAnyIn_ready (rs := [15]) (by kernel_rfl) (by simp) ?_
                      refine AllReadyIn.cons rfl (fun K hK => ?_) ?_
                      · refine stepIn_append rfl (.tmp 48) (.tmp 62) 39 rfl w.heap.size 44 i0 (.agg #[.int .i64 0, .int .i64 0, .int .i64 0, .string ByteArray.empty]) 4 40 Tryz.underlying39 hi hz0 hz1 hz2 rfl (by decide) vo _ _ (by rfl) (HRow2.out.alloc _).drew ⟨wr.heap.size, 0, none⟩ 1 1 [.int .i64 x.1, .int .i64 (cc : Nat), .int .i64 ((aa : Int) + k), .string (sl.extract k en)] (by rfl) rfl (HNews.out) (by simp [Value.oneCell']) HN1.out HN2.out HN3.out ?_
                        intro v' w2 hown' hgrow
                        obtain ⟨g', cap', rfl⟩ := ownsRow_succ hown'
                        have HP := Lib.hid (tok_pushed (t := ⟨x.1, cc, aa + k, ((sl.data.toList.take en).drop k)⟩) HV2.out HRow2.out HAt2.out HTx2.out HCo.out HN4.out HEx.out hown' hgrow)
                        have hcb := HP.out.2.2.2.2.cell
                        have hfb := HP.out.2.2.2.2.frozen
                        clear hown' hgrow
                        refine hK _ _ ?_
                        clear hK K
                        refine wpAnyIn_ready (rs := [16]) (by kernel_rfl) (by simp) ?_
                        refine AllReadyIn.cons rfl (fun K hK => ?_) ?_
                        · go_simp
                          refine hK _ _ ?_
                          clear hK K
                          refine wpAnyIn_done (by kernel_rfl) ?_ _
                          clear hwr hnk hca
                          gi_wp2
                          go_roundw
                          case rel => exact ⟨en, f - 1, dn ++ [⟨x.1, cc, aa + k, ((sl.data.toList.take en).drop k)⟩], hes, rfl, by omega, by rw [List.length_append, List.length_singleton]; omega, HDn.out, by rw [← List.append_assoc, HTk.out]; exact HP.out.1, HP.out.2.1, HKo.out.trans HP.out.2.2.1, HBw.out.trans HP.out.2.2.2.1⟩
                          case measure => simp [intOf] <;> omega
                        exact AllReadyIn.nil
                      exact AllReadyIn.nil
                    exact AllReadyIn.nil
                  exact AllReadyIn.nil
                refine AllReadyIn.cons rfl (fun K hK => ?_) ?_
                · go_simp
                  refine hK _ _ ?_
                  clear hK K
                  refine wpAnyIn_take (i := 8) (v := .int .i64 ((aa : Int) + k)) rfl rfl (by kernel_rfl) (by kernel_rfl) (by kernel_rfl) (fun _ _ _ h => h) ⟨Or.inl ⟨by rfl, by intro w; go_simp⟩, fun _ => rfl⟩ ?_
                  refine wpAnyIn_ready (rs := [5]) (by kernel_rfl) (by simp) ?_
                  refine AllReadyIn.cons rfl (fun K hK => ?_) ?_
                  · go_simp
                    refine hK _ _ ?_
                    clear hK K
                    refine wpAnyIn_take (i := 13) (v := .agg #[.int .i64 x.1, .int .i64 cc, .int .i64 ((aa : Int) + k), .string (sl.extract k en)]) rfl rfl (by kernel_rfl) (by kernel_rfl) (by kernel_rfl) (fun _ _ _ h => h) ⟨Or.inl ⟨by rfl, by intro w; go_simp⟩, fun _ => rfl⟩ ?_
                    refine wpAnyIn_ready (rs := [14]) (by kernel_rfl) (by simp) ?_
                    refine AllReadyIn.cons rfl (fun K hK => ?_) ?_
                    · go_simp
                      refine hK _ _ ?_
                      clear hK K
                      refine wpAnyIn_ready (rs := [15]) (by kernel_rfl) (by simp) ?_
                      refine AllReadyIn.cons rfl (fun K hK => ?_) ?_
                      · refine stepIn_append rfl (.tmp 48) (.tmp 62) 39 rfl w.heap.size 44 i0 (.agg #[.int .i64 0, .int .i64 0, .int .i64 0, .string ByteArray.empty]) 4 40 Tryz.underlying39 hi hz0 hz1 hz2 rfl (by decide) vo _ _ (by rfl) (HRow2.out.alloc _).drew ⟨wr.heap.size, 0, none⟩ 1 1 [.int .i64 x.1, .int .i64 (cc : Nat), .int .i64 ((aa : Int) + k), .string (sl.extract k en)] (by rfl) rfl (HNews.out) (by simp [Value.oneCell']) HN1.out HN2.out HN3.out ?_
                        intro v' w2 hown' hgrow
                        obtain ⟨g', cap', rfl⟩ := ownsRow_succ hown'
                        have HP := Lib.hid (tok_pushed (t := ⟨x.1, cc, aa + k, ((sl.data.toList.take en).drop k)⟩) HV2.out HRow2.out HAt2.out HTx2.out HCo.out HN4.out HEx.out hown' hgrow)
                        have hcb := HP.out.2.2.2.2.cell
                        have hfb := HP.out.2.2.2.2.frozen
                        clear hown' hgrow
                        refine hK _ _ ?_
                        clear hK K
                        refine wpAnyIn_ready (rs := [16]) (by kernel_rfl) (by simp) ?_
                        refine AllReadyIn.cons rfl (fun K hK => ?_) ?_
                        · go_simp
                          refine hK _ _ ?_
                          clear hK K
                          refine wpAnyIn_done (by kernel_rfl) ?_ _
                          clear hwr hnk hca
                          gi_wp2
                          go_roundw
                          case rel => exact ⟨en, f - 1, dn ++ [⟨x.1, cc, aa + k, ((sl.data.toList.take en).drop k)⟩], hes, rfl, by omega, by rw [List.length_append, List.length_singleton]; omega, HDn.out, by rw [← List.append_assoc, HTk.out]; exact HP.out.1, HP.out.2.1, HKo.out.trans HP.out.2.2.1, HBw.out.trans HP.out.2.2.2.1⟩
                          case measure => simp [intOf] <;> omega
                        exact AllReadyIn.nil
                      exact AllReadyIn.nil
                    exact AllReadyIn.nil
                  exact AllReadyIn.nil
                exact AllReadyIn.nil
              refine AllReadyIn.cons rfl (fun K hK => ?_) ?_
              · go_simp
                refine hK _ _ ?_
                clear hK K
                refine wpAnyIn_ready (rs := [0, 6]) (by kernel_rfl) (by simp) ?_
                refine AllReadyIn.cons rfl (fun K hK => ?_) ?_
                · go_simp
                  refine hK _ _ ?_
                  clear hK K
                  refine wpAnyIn_ready (rs := [6]) (by kernel_rfl) (by simp) ?_
                  refine AllReadyIn.cons rfl (fun K hK => ?_) ?_
                  · go_simp
                    refine hK _ _ ?_
                    clear hK K
                    refine wpAnyIn_take (i := 8) (v := .int .i64 ((aa : Int) + k)) rfl rfl (by kernel_rfl) (by kernel_rfl) (by kernel_rfl) (fun _ _ _ h => h) ⟨Or.inl ⟨by rfl, by intro w; go_simp⟩, fun _ => rfl⟩ ?_
                    refine wpAnyIn_take (i := 13) (v := .agg #[.int .i64 x.1, .int .i64 cc, .int .i64 ((aa : Int) + k), .string (sl.extract k en)]) rfl rfl (by kernel_rfl) (by kernel_rfl) (by kernel_rfl) (fun _ _ _ h => h) ⟨Or.inl ⟨by rfl, by intro w; go_simp⟩, fun _ => rfl⟩ ?_
                    refine wpAnyIn_ready (rs := [14]) (by kernel_rfl) (by simp) ?_
                    refine AllReadyIn.cons rfl (fun K hK => ?_) ?_
                    · go_simp
                      refine hK _ _ ?_
                      clear hK K
                      refine wpAnyIn_ready (rs := [15]) (by kernel_rfl) (by simp) ?_
                      refine AllReadyIn.cons rfl (fun K hK => ?_) ?_
                      · refine stepIn_append rfl (.tmp 48) (.tmp 62) 39 rfl w.heap.size 44 i0 (.agg #[.int .i64 0, .int .i64 0, .int .i64 0, .string ByteArray.empty]) 4 40 Tryz.underlying39 hi hz0 hz1 hz2 rfl (by decide) vo _ _ (by rfl) (HRow2.out.alloc _).drew ⟨wr.heap.size, 0, none⟩ 1 1 [.int .i64 x.1, .int .i64 (cc : Nat), .int .i64 ((aa : Int) + k), .string (sl.extract k en)] (by rfl) rfl (HNews.out) (by simp [Value.oneCell']) HN1.out HN2.out HN3.out ?_
                        intro v' w2 hown' hgrow
                        obtain ⟨g', cap', rfl⟩ := ownsRow_succ hown'
                        have HP := Lib.hid (tok_pushed (t := ⟨x.1, cc, aa + k, ((sl.data.toList.take en).drop k)⟩) HV2.out HRow2.out HAt2.out HTx2.out HCo.out HN4.out HEx.out hown' hgrow)
                        have hcb := HP.out.2.2.2.2.cell
                        have hfb := HP.out.2.2.2.2.frozen
                        clear hown' hgrow
                        refine hK _ _ ?_
                        clear hK K
                        refine wpAnyIn_ready (rs := [16]) (by kernel_rfl) (by simp) ?_
                        refine AllReadyIn.cons rfl (fun K hK => ?_) ?_
                        · go_simp
                          refine hK _ _ ?_
                          clear hK K
                          refine wpAnyIn_done (by kernel_rfl) ?_ _
                          clear hwr hnk hca
                          gi_wp2
                          go_roundw
                          case rel => exact ⟨en, f - 1, dn ++ [⟨x.1, cc, aa + k, ((sl.data.toList.take en).drop k)⟩], hes, rfl, by omega, by rw [List.length_append, List.length_singleton]; omega, HDn.out, by rw [← List.append_assoc, HTk.out]; exact HP.out.1, HP.out.2.1, HKo.out.trans HP.out.2.2.1, HBw.out.trans HP.out.2.2.2.1⟩
                          case measure => simp [intOf] <;> omega
                        exact AllReadyIn.nil
                      exact AllReadyIn.nil
                    exact AllReadyIn.nil
                  exact AllReadyIn.nil
                refine AllReadyIn.cons rfl (fun K hK => ?_) ?_
                · go_simp
                  refine hK _ _ ?_
                  clear hK K
                  refine wpAnyIn_take (i := 8) (v := .int .i64 ((aa : Int) + k)) rfl rfl (by kernel_rfl) (by kernel_rfl) (by kernel_rfl) (fun _ _ _ h => h) ⟨Or.inl ⟨by rfl, by intro w; go_simp⟩, fun _ => rfl⟩ ?_
                  refine wpAnyIn_take (i := 13) (v := .agg #[.int .i64 x.1, .int .i64 cc, .int .i64 ((aa : Int) + k), .string (sl.extract k en)]) rfl rfl (by kernel_rfl) (by kernel_rfl) (by kernel_rfl) (fun _ _ _ h => h) ⟨Or.inl ⟨by rfl, by intro w; go_simp⟩, fun _ => rfl⟩ ?_
                  refine wpAnyIn_ready (rs := [0, 14]) (by kernel_rfl) (by simp) ?_
                  refine AllReadyIn.cons rfl (fun K hK => ?_) ?_
                  · go_simp
                    refine hK _ _ ?_
                    clear hK K
                    refine wpAnyIn_ready (rs := [14]) (by kernel_rfl) (by simp) ?_
                    refine AllReadyIn.cons rfl (fun K hK => ?_) ?_
                    · go_simp
                      refine hK _ _ ?_
                      clear hK K
                      refine wpAnyIn_ready (rs := [15]) (by kernel_rfl) (by simp) ?_
                      refine AllReadyIn.cons rfl (fun K hK => ?_) ?_
                      · refine stepIn_append rfl (.tmp 48) (.tmp 62) 39 rfl w.heap.size 44 i0 (.agg #[.int .i64 0, .int .i64 0, .int .i64 0, .string ByteArray.empty]) 4 40 Tryz.underlying39 hi hz0 hz1 hz2 rfl (by decide) vo _ _ (by rfl) (HRow2.out.alloc _).drew ⟨wr.heap.size, 0, none⟩ 1 1 [.int .i64 x.1, .int .i64 (cc : Nat), .int .i64 ((aa : Int) + k), .string (sl.extract k en)] (by rfl) rfl (HNews.out) (by simp [Value.oneCell']) HN1.out HN2.out HN3.out ?_
                        intro v' w2 hown' hgrow
                        obtain ⟨g', cap', rfl⟩ := ownsRow_succ hown'
                        have HP := Lib.hid (tok_pushed (t := ⟨x.1, cc, aa + k, ((sl.data.toList.take en).drop k)⟩) HV2.out HRow2.out HAt2.out HTx2.out HCo.out HN4.out HEx.out hown' hgrow)
                        have hcb := HP.out.2.2.2.2.cell
                        have hfb := HP.out.2.2.2.2.frozen
                        clear hown' hgrow
                        refine hK _ _ ?_
                        clear hK K
                        refine wpAnyIn_ready (rs := [16]) (by kernel_rfl) (by simp) ?_
                        refine AllReadyIn.cons rfl (fun K hK => ?_) ?_
                        · go_simp
                          refine hK _ _ ?_
                          clear hK K
                          refine wpAnyIn_done (by kernel_rfl) ?_ _
                          clear hwr hnk hca
                          gi_wp2
                          go_roundw
                          case rel => exact ⟨en, f - 1, dn ++ [⟨x.1, cc, aa + k, ((sl.data.toList.take en).drop k)⟩], hes, rfl, by omega, by rw [List.length_append, List.length_singleton]; omega, HDn.out, by rw [← List.append_assoc, HTk.out]; exact HP.out.1, HP.out.2.1, HKo.out.trans HP.out.2.2.1, HBw.out.trans HP.out.2.2.2.1⟩
                          case measure => simp [intOf] <;> omega
                        exact AllReadyIn.nil
                      exact AllReadyIn.nil
                    exact AllReadyIn.nil
                  refine AllReadyIn.cons rfl (fun K hK => ?_) ?_
                  · go_simp
                    refine hK _ _ ?_
                    clear hK K
                    refine wpAnyIn_ready (rs := [0]) (by kernel_rfl) (by simp) ?_
                    refine AllReadyIn.cons rfl (fun K hK => ?_) ?_
                    · go_simp
                      refine hK _ _ ?_
                      clear hK K
                      refine wpAnyIn_ready (rs := [15]) (by kernel_rfl) (by simp) ?_
                      refine AllReadyIn.cons rfl (fun K hK => ?_) ?_
                      · refine stepIn_append rfl (.tmp 48) (.tmp 62) 39 rfl w.heap.size 44 i0 (.agg #[.int .i64 0, .int .i64 0, .int .i64 0, .string ByteArray.empty]) 4 40 Tryz.underlying39 hi hz0 hz1 hz2 rfl (by decide) vo _ _ (by rfl) (HRow2.out.alloc _).drew ⟨wr.heap.size, 0, none⟩ 1 1 [.int .i64 x.1, .int .i64 (cc : Nat), .int .i64 ((aa : Int) + k), .string (sl.extract k en)] (by rfl) rfl (HNews.out) (by simp [Value.oneCell']) HN1.out HN2.out HN3.out ?_
                        intro v' w2 hown' hgrow
                        obtain ⟨g', cap', rfl⟩ := ownsRow_succ hown'
                        have HP := Lib.hid (tok_pushed (t := ⟨x.1, cc, aa + k, ((sl.data.toList.take en).drop k)⟩) HV2.out HRow2.out HAt2.out HTx2.out HCo.out HN4.out HEx.out hown' hgrow)
                        have hcb := HP.out.2.2.2.2.cell
                        have hfb := HP.out.2.2.2.2.frozen
                        clear hown' hgrow
                        refine hK _ _ ?_
                        clear hK K
                        refine wpAnyIn_ready (rs := [16]) (by kernel_rfl) (by simp) ?_
                        refine AllReadyIn.cons rfl (fun K hK => ?_) ?_
                        · go_simp
                          refine hK _ _ ?_
                          clear hK K
                          refine wpAnyIn_done (by kernel_rfl) ?_ _
                          clear hwr hnk hca
                          gi_wp2
                          go_roundw
                          case rel => exact ⟨en, f - 1, dn ++ [⟨x.1, cc, aa + k, ((sl.data.toList.take en).drop k)⟩], hes, rfl, by omega, by rw [List.length_append, List.length_singleton]; omega, HDn.out, by rw [← List.append_assoc, HTk.out]; exact HP.out.1, HP.out.2.1, HKo.out.trans HP.out.2.2.1, HBw.out.trans HP.out.2.2.2.1⟩
                          case measure => simp [intOf] <;> omega
                        exact AllReadyIn.nil
                      exact AllReadyIn.nil
                    exact AllReadyIn.nil
                  exact AllReadyIn.nil
                exact AllReadyIn.nil
              refine AllReadyIn.cons rfl (fun K hK => ?_) ?_
              · go_simp
                refine hK _ _ ?_
                clear hK K
                refine wpAnyIn_take (i := 8) (v := .int .i64 ((aa : Int) + k)) rfl rfl (by kernel_rfl) (by kernel_rfl) (by kernel_rfl) (fun _ _ _ h => h) ⟨Or.inl ⟨by rfl, by intro w; go_simp⟩, fun _ => rfl⟩ ?_
                refine wpAnyIn_ready (rs := [0, 5]) (by kernel_rfl) (by simp) ?_
                refine AllReadyIn.cons rfl (fun K hK => ?_) ?_
                · go_simp
                  refine hK _ _ ?_
                  clear hK K
                  refine wpAnyIn_ready (rs := [5]) (by kernel_rfl) (by simp) ?_
                  refine AllReadyIn.cons rfl (fun K hK => ?_) ?_
                  · go_simp
                    refine hK _ _ ?_
                    clear hK K
                    refine wpAnyIn_take (i := 13) (v := .agg #[.int .i64 x.1, .int .i64 cc, .int .i64 ((aa : Int) + k), .string (sl.extract k en)]) rfl rfl (by kernel_rfl) (by kernel_rfl) (by kernel_rfl) (fun _ _ _ h => h) ⟨Or.inl ⟨by rfl, by intro w; go_simp⟩, fun _ => rfl⟩ ?_
                    refine wpAnyIn_ready (rs := [14]) (by kernel_rfl) (by simp) ?_
                    refine AllReadyIn.cons rfl (fun K hK => ?_) ?_
                    · go_simp
                      refine hK _ _ ?_
                      clear hK K
                      refine wpAnyIn_ready (rs := [15]) (by kernel_rfl) (by simp) ?_
                      refine AllReadyIn.cons rfl (fun K hK => ?_) ?_
                      · refine stepIn_append rfl (.tmp 48) (.tmp 62) 39 rfl w.heap.size 44 i0 (.agg #[.int .i64 0, .int .i64 0, .int .i64 0, .string ByteArray.empty]) 4 40 Tryz.underlying39 hi hz0 hz1 hz2 rfl (by decide) vo _ _ (by rfl) (HRow2.out.alloc _).drew ⟨wr.heap.size, 0, none⟩ 1 1 [.int .i64 x.1, .int .i64 (cc : Nat), .int .i64 ((aa : Int) + k), .string (sl.extract k en)] (by rfl) rfl (HNews.out) (by simp [Value.oneCell']) HN1.out HN2.out HN3.out ?_
                        intro v' w2 hown' hgrow
                        obtain ⟨g', cap', rfl⟩ := ownsRow_succ hown'
                        have HP := Lib.hid (tok_pushed (t := ⟨x.1, cc, aa + k, ((sl.data.toList.take en).drop k)⟩) HV2.out HRow2.out HAt2.out HTx2.out HCo.out HN4.out HEx.out hown' hgrow)
                        have hcb := HP.out.2.2.2.2.cell
                        have hfb := HP.out.2.2.2.2.frozen
                        clear hown' hgrow
                        refine hK _ _ ?_
                        clear hK K
                        refine wpAnyIn_ready (rs := [16]) (by kernel_rfl) (by simp) ?_
                        refine AllReadyIn.cons rfl (fun K hK => ?_) ?_
                        · go_simp
                          refine hK _ _ ?_
                          clear hK K
                          refine wpAnyIn_done (by kernel_rfl) ?_ _
                          clear hwr hnk hca
                          gi_wp2
                          go_roundw
                          case rel => exact ⟨en, f - 1, dn ++ [⟨x.1, cc, aa + k, ((sl.data.toList.take en).drop k)⟩], hes, rfl, by omega, by rw [List.length_append, List.length_singleton]; omega, HDn.out, by rw [← List.append_assoc, HTk.out]; exact HP.out.1, HP.out.2.1, HKo.out.trans HP.out.2.2.1, HBw.out.trans HP.out.2.2.2.1⟩
                          case measure => simp [intOf] <;> omega
                        exact AllReadyIn.nil
                      exact AllReadyIn.nil
                    exact AllReadyIn.nil
                  exact AllReadyIn.nil
                refine AllReadyIn.cons rfl (fun K hK => ?_) ?_
                · go_simp
                  refine hK _ _ ?_
                  clear hK K
                  refine wpAnyIn_take (i := 13) (v := .agg #[.int .i64 x.1, .int .i64 cc, .int .i64 ((aa : Int) + k), .string (sl.extract k en)]) rfl rfl (by kernel_rfl) (by kernel_rfl) (by kernel_rfl) (fun _ _ _ h => h) ⟨Or.inl ⟨by rfl, by intro w; go_simp⟩, fun _ => rfl⟩ ?_
                  refine wpAnyIn_ready (rs := [0, 14]) (by kernel_rfl) (by simp) ?_
                  refine AllReadyIn.cons rfl (fun K hK => ?_) ?_
                  · go_simp
                    refine hK _ _ ?_
                    clear hK K
                    refine wpAnyIn_ready (rs := [14]) (by kernel_rfl) (by simp) ?_
                    refine AllReadyIn.cons rfl (fun K hK => ?_) ?_
                    · go_simp
                      refine hK _ _ ?_
                      clear hK K
                      refine wpAnyIn_ready (rs := [15]) (by kernel_rfl) (by simp) ?_
                      refine AllReadyIn.cons rfl (fun K hK => ?_) ?_
                      · refine stepIn_append rfl (.tmp 48) (.tmp 62) 39 rfl w.heap.size 44 i0 (.agg #[.int .i64 0, .int .i64 0, .int .i64 0, .string ByteArray.empty]) 4 40 Tryz.underlying39 hi hz0 hz1 hz2 rfl (by decide) vo _ _ (by rfl) (HRow2.out.alloc _).drew ⟨wr.heap.size, 0, none⟩ 1 1 [.int .i64 x.1, .int .i64 (cc : Nat), .int .i64 ((aa : Int) + k), .string (sl.extract k en)] (by rfl) rfl (HNews.out) (by simp [Value.oneCell']) HN1.out HN2.out HN3.out ?_
                        intro v' w2 hown' hgrow
                        obtain ⟨g', cap', rfl⟩ := ownsRow_succ hown'
                        have HP := Lib.hid (tok_pushed (t := ⟨x.1, cc, aa + k, ((sl.data.toList.take en).drop k)⟩) HV2.out HRow2.out HAt2.out HTx2.out HCo.out HN4.out HEx.out hown' hgrow)
                        have hcb := HP.out.2.2.2.2.cell
                        have hfb := HP.out.2.2.2.2.frozen
                        clear hown' hgrow
                        refine hK _ _ ?_
                        clear hK K
                        refine wpAnyIn_ready (rs := [16]) (by kernel_rfl) (by simp) ?_
                        refine AllReadyIn.cons rfl (fun K hK => ?_) ?_
                        · go_simp
                          refine hK _ _ ?_
                          clear hK K
                          refine wpAnyIn_done (by kernel_rfl) ?_ _
                          clear hwr hnk hca
                          gi_wp2
                          go_roundw
                          case rel => exact ⟨en, f - 1, dn ++ [⟨x.1, cc, aa + k, ((sl.data.toList.take en).drop k)⟩], hes, rfl, by omega, by rw [List.length_append, List.length_singleton]; omega, HDn.out, by rw [← List.append_assoc, HTk.out]; exact HP.out.1, HP.out.2.1, HKo.out.trans HP.out.2.2.1, HBw.out.trans HP.out.2.2.2.1⟩
                          case measure => simp [intOf] <;> omega
                        exact AllReadyIn.nil
                      exact AllReadyIn.nil
                    exact AllReadyIn.nil
                  refine AllReadyIn.cons rfl (fun K hK => ?_) ?_
                  · go_simp
                    refine hK _ _ ?_
                    clear hK K
                    refine wpAnyIn_ready (rs := [0]) (by kernel_rfl) (by simp) ?_
                    refine AllReadyIn.cons rfl (fun K hK => ?_) ?_
                    · go_simp
                      refine hK _ _ ?_
                      clear hK K
                      refine wpAnyIn_ready (rs := [15]) (by kernel_rfl) (by simp) ?_
                      refine AllReadyIn.cons rfl (fun K hK => ?_) ?_
                      · refine stepIn_append rfl (.tmp 48) (.tmp 62) 39 rfl w.heap.size 44 i0 (.agg #[.int .i64 0, .int .i64 0, .int .i64 0, .string ByteArray.empty]) 4 40 Tryz.underlying39 hi hz0 hz1 hz2 rfl (by decide) vo _ _ (by rfl) (HRow2.out.alloc _).drew ⟨wr.heap.size, 0, none⟩ 1 1 [.int .i64 x.1, .int .i64 (cc : Nat), .int .i64 ((aa : Int) + k), .string (sl.extract k en)] (by rfl) rfl (HNews.out) (by simp [Value.oneCell']) HN1.out HN2.out HN3.out ?_
                        intro v' w2 hown' hgrow
                        obtain ⟨g', cap', rfl⟩ := ownsRow_succ hown'
                        have HP := Lib.hid (tok_pushed (t := ⟨x.1, cc, aa + k, ((sl.data.toList.take en).drop k)⟩) HV2.out HRow2.out HAt2.out HTx2.out HCo.out HN4.out HEx.out hown' hgrow)
                        have hcb := HP.out.2.2.2.2.cell
                        have hfb := HP.out.2.2.2.2.frozen
                        clear hown' hgrow
                        refine hK _ _ ?_
                        clear hK K
                        refine wpAnyIn_ready (rs := [16]) (by kernel_rfl) (by simp) ?_
                        refine AllReadyIn.cons rfl (fun K hK => ?_) ?_
                        · go_simp
                          refine hK _ _ ?_
                          clear hK K
                          refine wpAnyIn_done (by kernel_rfl) ?_ _
                          clear hwr hnk hca
                          gi_wp2
                          go_roundw
                          case rel => exact ⟨en, f - 1, dn ++ [⟨x.1, cc, aa + k, ((sl.data.toList.take en).drop k)⟩], hes, rfl, by omega, by rw [List.length_append, List.length_singleton]; omega, HDn.out, by rw [← List.append_assoc, HTk.out]; exact HP.out.1, HP.out.2.1, HKo.out.trans HP.out.2.2.1, HBw.out.trans HP.out.2.2.2.1⟩
                          case measure => simp [intOf] <;> omega
                        exact AllReadyIn.nil
                      exact AllReadyIn.nil
                    exact AllReadyIn.nil
                  exact AllReadyIn.nil
                exact AllReadyIn.nil
              exact AllReadyIn.nil
          · obtain rfl : k = sl.size := by omega
            have HD2 : Hid (dn = lineToks colsOf x.1 (atP s pre) sl.data.toList) := Lib.hid (by rw [← HDone.out, wordsF_end _ _ _ (by rw [HLo.out]; exact Nat.le_refl _)]; simp)
            have hst2 := HSt.out
            rw [HD2.out, ← HLT.out] at hst2
            obtain ⟨⟨vo, hv, hrow⟩, hat, htx⟩ := hst2
            have hsn := atP_snoc s pre x
            have hnx := next_cases s (atP s pre) (atP_le s pre)
            have hap := atP_le s pre
            obtain ⟨aa, haa⟩ : ∃ aa, atP s pre = aa := ⟨_, rfl⟩
            rw [haa] at hat hsn hnx hap
            have HV2 := Lib.hid hv
            have HRow2 := Lib.hid hrow
            have HTx2 := Lib.hid htx
            have HAt2 := Lib.hid hat
            have hc1 := hat.cell
            have hc2 := htx.cell
            have hf1 := hat.frozen
            clear hv hrow htx hat haa hdn hf
            rcases hnx with ⟨mm, hi1, hmm, hi2⟩ | ⟨hi1, hi2⟩
            · rw [hi2] at hsn
              have HSn := Lib.hid hsn
              have HI := Lib.hid hi1
              clear hsn hi1 hi2
              gi_wp2_with (refine ⟨trivial, ?_⟩; gi_at_call 24; refine (CallsIn.inRound l (callsIn_wide.2 (idx_at s aa _ _ HI.out))).mono ?_; rintro e w' ⟨rfl, rfl⟩)
              refine ⟨(HKo.out.trans (KeepsOthers.setCell _ _ _)).from _, HBw.out.setCell (p := ⟨w.heap.size + 1 + 1, 0, none⟩) (by show w.heap.size ≤ w.heap.size + 1 + 1; omega) _, ⟨⟨⟨vo, HV2.out.other (by omega) _, ?_, trivial⟩, ?_, HTx2.out.other (by omega) _⟩, (hB.trans HBw.out).setCell (p := ⟨w.heap.size + 1 + 1, 0, none⟩) (by show w.heap.size ≤ w.heap.size + 1 + 1; omega) _⟩⟩
              · exact own_apart HRow2.out (grownBy_setCell' wr (w.heap.size + 1 + 1) _) (fun r hr => by cases hr; exact ⟨_, _, _, HAt2.out, by decide⟩)
              · rw [HSn.out]
                have := HAt2.out.set (.int .i64 ((aa + mm + 1 : Nat) : Int))
                have e1 : ((aa + mm + 1 : Nat) : Int) = (aa : Int) + ((mm : Int) + 1) := by omega
                rw [e1] at this ⊢
                exact this
            · rw [hi2] at hsn
              have HSn := Lib.hid hsn
              have HI := Lib.hid hi1
              clear hsn hi1 hi2
              gi_wp2_with (refine ⟨trivial, ?_⟩; gi_at_call 24; refine (CallsIn.inRound l (callsIn_wide.2 (idx_at s aa _ _ HI.out))).mono ?_; rintro e w' ⟨rfl, rfl⟩)
              exact ⟨HKo.out.from _, HBw.out, ⟨⟨⟨vo, HV2.out, HRow2.out, trivial⟩, by rw [HSn.out]; exact HAt2.out, HTx2.out⟩, hB.trans HBw.out⟩⟩
      · rintro D ys W hD rfl ⟨⟨⟨v, hv, hrow, _⟩, _⟩, hB⟩ hK
        have hc := hv.cell
        gi_wp2
        refine ⟨by simp, .inl ⟨_, _, rfl, run_takeDeferred hK, ?_⟩⟩
        exact ⟨_, results_tmp2 rfl _ _ _, v, _, by rw [HC.out]; rfl, ownsRow_putObj hrow _ hK rfl, rfl, hB.trans (belowK_b (w := w) (Nat.le_refl _) W D _ _ (by rw [hsz] at hD; omega) hK rfl rfl)⟩
      · rintro D c pre W _ _ h _
        exact h.elim
end Go.Proofs.YthfndmpigpphoaaGreat
