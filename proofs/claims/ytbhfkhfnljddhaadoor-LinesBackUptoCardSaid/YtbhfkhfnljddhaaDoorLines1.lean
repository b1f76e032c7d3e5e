/-
  Fields of a line: what the program's and the reference's Fields compute.
-/
import Derived.Test.YtbhfkhfnljddhaaDoorRows
import Derived.Test.YtbhfkhfnljddhaaDoorBase3
namespace Go.Proofs.YtbhfkhfnljddhaaDoor
open Go.RowKit

def mkS (l : List UInt8) : ByteArray := ⟨l.toArray⟩
theorem mkS_size (l : List UInt8) : (mkS l).size = l.length := by show l.toArray.size = _; simp
theorem mkS_data (l : List UInt8) : (mkS l).data.toList = l := rfl
theorem extract_mkS (s : ByteArray) (a b : Nat) : s.extract a b = mkS ((s.data.toList.drop a).take (b - a)) := Lib.extract_eq s a b
def gapB (b : UInt8) : Bool := b.toNat == 32 || b.toNat == 9
theorem gapB_eq (b : UInt8) : gapB b = (((b.toNat : Int) == 32) || ((b.toNat : Int) == 9)) := by
  unfold gapB; rw [Bool.eq_iff_iff]; simp; omega

set_option maxHeartbeats 400000 in
theorem gap_any (b : UInt8) (w : World) :
    Calls Tryd.prog 35 #[.int .u8 b.toNat] w fun e w' => e = .returned (.bool (gapB b)) ∧ w = w' := by
  have H := Lib.hid (gapB_eq b)
  go_enter Tryd.func35, Tryd.ntmps35
  go_wp2
  all_goals go_ret
  all_goals exact ⟨ret_bool (by rw [H.out]; try simp [*]), rfl⟩

/-- The fields of what is left of a line, where 'cur' is the field that is open. -/
def fgo : List UInt8 → Option (List UInt8) → List (List UInt8)
  | [], none => []
  | [], some c => [c]
  | b :: l, none => if gapB b then fgo l none else fgo l (some [b])
  | b :: l, some c => if gapB b then c :: fgo l none else fgo l (some (c ++ [b]))
def fieldsOf (l : List UInt8) : List (List UInt8) := fgo l none
def fieldsS (s : ByteArray) : List ByteArray := (fieldsOf s.data.toList).map mkS
theorem fgo_len : ∀ (l : List UInt8) (c : Option (List UInt8)), (fgo l c).length ≤ l.length + (if c.isSome then 1 else 0)
  | [], none => by simp [fgo]
  | [], some c => by simp [fgo]
  | b :: l, none => by
    have h1 := fgo_len l none
    have h2 := fgo_len l (some [b])
    simp only [fgo]
    split <;> simp at h1 h2 ⊢ <;> omega
  | b :: l, some c => by
    have h1 := fgo_len l none
    have h2 := fgo_len l (some (c ++ [b]))
    simp only [fgo]
    split <;> simp at h1 h2 ⊢ <;> omega
theorem fields_len (s : ByteArray) : (fieldsS s).length ≤ s.size := by
  have := fgo_len s.data.toList none
  simp [fieldsS, fieldsOf] at this ⊢
  exact this
/-- A piece of a line, one byte longer. -/
theorem piece_snoc (s : ByteArray) (f k : Nat) (hf : f ≤ k) (hk : k < s.size) : (s.data.toList.drop f).take (k + 1 - f) = (s.data.toList.drop f).take (k - f) ++ [s[k]] := by
  have e : k + 1 - f = (k - f) + 1 := by omega
  have hl := len_toList s
  rw [e, List.take_succ_eq_append_getElem (by simp; omega)]
  congr 2
  simp only [List.getElem_drop]
  have : f + (k - f) = k := by omega
  simp only [this]; rfl
theorem str_info : (Tryd.prog.info? 9).map (fun i => (i.zero, i.size, i.bytes)) = some (some (.string ByteArray.empty), 1, 16) := by kernel_rfl

/-- Where the open field begins, as the program keeps it. -/
def FromIs (k : Nat) (s : ByteArray) (v : Value) (c : Option (List UInt8)) : Prop :=
  (v = .int .i64 (-1) ∧ c = none) ∨ ∃ f : Nat, f < k ∧ v = .int .i64 f ∧ c = some ((s.data.toList.drop f).take (k - f))

set_option maxHeartbeats 2000000 in
set_option maxRecDepth 100000 in
theorem Fields_any (s : ByteArray) (w : World) (hs : s.size ≤ 16777216) :
    Calls Tryd.prog 17 #[.string s] w fun e w' => ∃ v, e = .returned v ∧ Own w w' 9 1 v (fieldsS s).length (strV (fieldsS s)) := by
  obtain ⟨i0, hi, hz0, hz1, hz2⟩ := info_parts str_info
  go_enter Tryd.func17, Tryd.ntmps17
  go_wp2_with fail
  go_loopw [3, 4, 8] (fun v fr i wr => ∃ (k : Nat) (acc : List (List UInt8)) (c : Option (List UInt8)), k ≤ s.size ∧ i = .int .i64 k ∧ FromIs k s fr c ∧ acc.length ≤ k ∧
    Own w wr 9 1 v acc.length (strV (acc.map mkS)) ∧ acc ++ fgo (s.data.toList.drop k) c = fieldsOf s.data.toList) (fun _ _ i _ => s.size - (intOf i).toNat)
  case atStart => exact ⟨0, [], none, Nat.zero_le _, rfl, .inl ⟨rfl, rfl⟩, Nat.le_refl _, Own.nil_ w _ _, rfl⟩
  case round =>
    obtain ⟨k, acc, c, hk, rfl, hfr, hal, ho, hrem⟩ := hrel
    have HO := Lib.hid ho
    have HR := Lib.hid hrem
    clear ho hrem
    by_cases hlt : k < s.size
    · have HD := Lib.hid (drop_cons s k hlt)
      rcases hfr with ⟨rfl, rfl⟩ | ⟨f, hf, rfl, rfl⟩
      · cases hg : gapB s[k]
        · have HG := Lib.hid hg
          go_wp2_with (go_at_call 35; refine (gap_any _ _).mono ?_; rintro e w1 ⟨rfl, rfl⟩)
          go_roundw
          case rel =>
            refine ⟨k + 1, acc, some [s[k]], by omega, by go_num, .inr ⟨k, by omega, rfl, ?_⟩, by omega, HO.out, ?_⟩
            · have := piece_snoc s k k (Nat.le_refl _) hlt
              rw [this]; simp
            · rw [← HR.out, HD.out, fgo, HG.out]; rfl
          case measure => simp [intOf]; omega
        · have HG := Lib.hid hg
          go_wp2_with (go_at_call 35; refine (gap_any _ _).mono ?_; rintro e w1 ⟨rfl, rfl⟩)
          go_roundw
          case rel => exact ⟨k + 1, acc, none, by omega, by go_num, .inl ⟨rfl, rfl⟩, by omega, HO.out, by rw [← HR.out, HD.out, fgo, HG.out]; rfl⟩
          case measure => simp [intOf]; omega
      · cases hg : gapB s[k]
        · have HG := Lib.hid hg
          have HP := Lib.hid (piece_snoc s f k (by omega) hlt)
          go_wp2_with (go_at_call 35; refine (gap_any _ _).mono ?_; rintro e w1 ⟨rfl, rfl⟩)
          go_roundw
          case rel => exact ⟨k + 1, acc, _, by omega, by go_num, .inr ⟨f, by omega, rfl, rfl⟩, by omega, HO.out, by rw [← HR.out, HD.out, fgo, HG.out, HP.out]; rfl⟩
          case measure => simp [intOf]; omega
        · have HG := Lib.hid hg
          go_wp2_with (first
            | (go_at_call 35; refine (gap_any _ _).mono ?_; rintro e w1 ⟨rfl, rfl⟩)
            | (at_builtin; refine wpList_push1 rfl _ _ 24 rfl w.heap.size 9 i0 (.string ByteArray.empty) 16 Tryd.underlying24 hi hz0 hz1 hz2 rfl _ acc.length _ rfl HO.out.own _ rfl rfl (by unfold maxLen; omega) (by omega) HO.out.size ?_; intro gg cap w5 hown hg5; have HO' := Lib.hid (HO.out.push hown hg5); clear hown hg5))
          go_roundw
          case rel =>
            refine ⟨k + 1, acc ++ [(s.data.toList.drop f).take (k - f)], none, by omega, by go_num, .inl ⟨rfl, rfl⟩, by simp; omega, ?_, by rw [← HR.out, HD.out, fgo, HG.out]; simp⟩
            have := HO'.out
            rw [extract_mkS, strV_snoc] at this
            simpa using this
          case measure => simp [intOf]; omega
    · obtain rfl : k = s.size := by omega
      have HE := Lib.hid (drop_all s)
      rcases hfr with ⟨rfl, rfl⟩ | ⟨f, hf, rfl, rfl⟩
      · go_wp2_with fail
        go_ret
        refine ⟨_, rfl, ?_⟩
        have e : fieldsS s = acc.map mkS := by rw [fieldsS, ← HR.out, HE.out]; simp [fgo]
        rw [e, List.length_map]; exact HO.out
      · go_wp2_with (at_builtin; refine wpList_push1 rfl _ _ 24 rfl w.heap.size 9 i0 (.string ByteArray.empty) 16 Tryd.underlying24 hi hz0 hz1 hz2 rfl _ acc.length _ rfl HO.out.own _ rfl rfl (by unfold maxLen; omega) (by omega) HO.out.size ?_; intro gg cap w5 hown hg5; have HO' := Lib.hid (HO.out.push hown hg5); clear hown hg5)
        go_ret
        refine ⟨_, rfl, ?_⟩
        have e : fieldsS s = acc.map mkS ++ [mkS ((s.data.toList.drop f).take (s.size - f))] := by rw [fieldsS, ← HR.out, HE.out]; simp [fgo]
        have := HO'.out
        rw [extract_mkS, strV_snoc, ← e] at this
        have hl : (fieldsS s).length = acc.length + 1 := by rw [e]; simp
        rw [hl]; exact this

theorem fgo_skip (l : List UInt8) (b : UInt8) (h : gapB b = true) : fgo (b :: l) none = fgo l none := by rw [fgo, h]; rfl
theorem fgo_more (l : List UInt8) (b : UInt8) (c : List UInt8) (h : gapB b = false) : fgo (b :: l) (some c) = fgo l (some (c ++ [b])) := by rw [fgo, h]; rfl
theorem fgo_first (l : List UInt8) (b : UInt8) (h : gapB b = false) : fgo (b :: l) none = fgo l (some [b]) := by rw [fgo, h]; rfl
/-- A field that ends: behind it the line is looked at anew. -/
theorem fgo_end (l : List UInt8) (c : List UInt8) (h : l = [] ∨ ∃ b m, l = b :: m ∧ gapB b = true) : fgo l (some c) = c :: fgo l none := by
  rcases h with rfl | ⟨b, m, rfl, hb⟩
  · rfl
  · rw [fgo, hb, fgo, hb]; rfl
theorem isgap (b : UInt8) (h : gapB b = true) : (((b.toNat : Int) == 32) = true) ∨ ((((b.toNat : Int) == 32) = false) ∧ (((b.toNat : Int) == 9) = true)) := by
  rw [gapB_eq] at h
  cases h1 : ((b.toNat : Int) == 32) <;> simp_all
theorem nogap (b : UInt8) (h : gapB b = false) : (((b.toNat : Int) == 32) = false) ∧ (((b.toNat : Int) == 9) = false) ∧ (((b.toNat : Int) != 32) = true) ∧ (((b.toNat : Int) != 9) = true) := by
  rw [gapB_eq] at h
  cases h1 : ((b.toNat : Int) == 32) <;> cases h2 : ((b.toNat : Int) == 9) <;> simp_all
theorem isgap' (b : UInt8) (h : gapB b = true) : (((b.toNat : Int) != 32) = false) ∨ ((((b.toNat : Int) != 32) = true) ∧ (((b.toNat : Int) != 9) = false)) := by
  rcases isgap b h with h | ⟨h1, h2⟩
  · left; simp at h; simp [h]
  · right; simp at h1 h2; simp [h2]

set_option maxHeartbeats 2000000 in
set_option maxRecDepth 100000 in
theorem Fields01_any (s : ByteArray) (w : World) (hs : s.size ≤ 16777216) :
    Calls Tryd.prog 18 #[.string s] w fun e w' => ∃ v, e = .returned v ∧ Own w w' 9 1 v (fieldsS s).length (strV (fieldsS s)) := by
  obtain ⟨i0, hi, hz0, hz1, hz2⟩ := info_parts str_info
  go_enter Tryd.func18, Tryd.ntmps18
  go_wp2_with fail
  go_loopw [3, 4] (fun v i wr => ∃ (k : Nat) (acc : List (List UInt8)), k ≤ s.size ∧ i = .int .i64 k ∧ acc.length ≤ k ∧
    Own w wr 9 1 v acc.length (strV (acc.map mkS)) ∧ acc ++ fgo (s.data.toList.drop k) none = fieldsOf s.data.toList) (fun _ i _ => s.size - (intOf i).toNat)
  case atStart => exact ⟨0, [], Nat.zero_le _, rfl, Nat.le_refl _, Own.nil_ w _ _, rfl⟩
  case round =>
    obtain ⟨k, acc, hk, rfl, hal, ho, hrem⟩ := hrel
    have HO := Lib.hid ho
    have HR := Lib.hid hrem
    clear ho hrem
    by_cases hlt : k < s.size
    · have HD := Lib.hid (drop_cons s k hlt)
      cases hg : gapB s[k]
      · obtain ⟨n1, n2, n3, n4⟩ := nogap _ hg
        have HG := Lib.hid hg
        clear hg
        go_wp2_with fail
        obtain ⟨wo, rfl⟩ : ∃ wo : World, wo = wr := ⟨_, rfl⟩
        go_loop [5] (fun j => ∃ m : Nat, k ≤ m ∧ m ≤ s.size ∧ j = .int .i64 m ∧ (m = k ∨ (k < m ∧ fgo (s.data.toList.drop k) none = fgo (s.data.toList.drop m) (some ((s.data.toList.drop k).take (m - k)))))) (fun j => s.size - (intOf j).toNat)
        case atStart => exact ⟨k, Nat.le_refl _, hk, rfl, .inl rfl⟩
        case round =>
          obtain ⟨m, hkm, hm, rfl, hpre⟩ := hrel
          have HPre := Lib.hid hpre
          clear hpre
          by_cases hlm : m < s.size
          · have HDm := Lib.hid (drop_cons s m hlm)
            have HP := Lib.hid (piece_snoc s k m hkm hlm)
            cases hgm : gapB s[m]
            · obtain ⟨m1, m2, m3, m4⟩ := nogap _ hgm
              have HGm := Lib.hid hgm
              clear hgm
              go_wp2_with fail
              go_round
              case rel =>
                refine ⟨m + 1, by omega, by omega, by go_num, .inr ⟨by omega, ?_⟩⟩
                rcases HPre.out with rfl | ⟨_, h⟩
                · rw [HDm.out, fgo_first _ _ HGm.out, ← HDm.out, HP.out]; simp
                · rw [h, HDm.out, fgo_more _ _ _ HGm.out, HP.out]
              case measure => simp [intOf]; omega
            · have hkm' : k < m := by
                rcases Nat.lt_or_ge k m with h | h
                · exact h
                · obtain rfl : k = m := by omega
                  have := HG.out; rw [hgm] at this; cases this
              have HGm := Lib.hid hgm
              have hfin : acc ++ ((s.data.toList.drop k).take (m - k)) :: fgo (s.data.toList.drop m) none = fieldsOf s.data.toList := by
                rcases HPre.out with rfl | ⟨_, h⟩
                · omega
                · rw [← HR.out, h, fgo_end _ _ (.inr ⟨_, _, HDm.out, hgm⟩)]
              have HF := Lib.hid hfin
              have hcase := isgap' _ hgm
              clear hfin hgm
              rcases hcase with q1 | ⟨q1, q2⟩
              all_goals
                go_wp2_with (at_builtin; refine wpList_push1 rfl _ _ 24 rfl w.heap.size 9 i0 (.string ByteArray.empty) 16 Tryd.underlying24 hi hz0 hz1 hz2 rfl _ acc.length _ rfl HO.out.own _ rfl rfl (by unfold maxLen; omega) (by omega) HO.out.size ?_; intro gg cap w5 hown hg5; have HO' := Lib.hid (HO.out.push hown hg5); clear hown hg5)
                go_roundw
                case rel =>
                  refine ⟨m, acc ++ [(s.data.toList.drop k).take (m - k)], hm, rfl, by simp; omega, ?_, by rw [← HF.out]; simp⟩
                  have := HO'.out
                  rw [extract_mkS, strV_snoc] at this
                  simpa using this
                case measure => simp [intOf]; omega
          · obtain rfl : m = s.size := by omega
            have hfin : acc ++ ((s.data.toList.drop k).take (s.size - k)) :: fgo (s.data.toList.drop s.size) none = fieldsOf s.data.toList := by
              rcases HPre.out with h | ⟨_, h⟩
              · omega
              · rw [← HR.out, h, fgo_end _ _ (.inl (drop_all s))]
            have HF := Lib.hid hfin
            clear hfin
            go_wp2_with (at_builtin; refine wpList_push1 rfl _ _ 24 rfl w.heap.size 9 i0 (.string ByteArray.empty) 16 Tryd.underlying24 hi hz0 hz1 hz2 rfl _ acc.length _ rfl HO.out.own _ rfl rfl (by unfold maxLen; omega) (by omega) HO.out.size ?_; intro gg cap w5 hown hg5; have HO' := Lib.hid (HO.out.push hown hg5); clear hown hg5)
            go_roundw
            case rel =>
              refine ⟨s.size, acc ++ [(s.data.toList.drop k).take (s.size - k)], Nat.le_refl _, rfl, by simp; omega, ?_, by rw [← HF.out]; simp⟩
              have := HO'.out
              rw [extract_mkS, strV_snoc] at this
              simpa using this
            case measure => simp [intOf]; omega
      · have hcase := isgap _ hg
        have HG := Lib.hid hg
        clear hg
        rcases hcase with q1 | ⟨q1, q2⟩
        all_goals
          go_wp2_with fail
          go_roundw
          case rel => exact ⟨k + 1, acc, by omega, by go_num, by omega, HO.out, by rw [← HR.out, HD.out, fgo_skip _ _ HG.out]⟩
          case measure => simp [intOf]; omega
    · obtain rfl : k = s.size := by omega
      have HE := Lib.hid (drop_all s)
      go_wp2_with fail
      go_ret
      refine ⟨_, rfl, ?_⟩
      have e : fieldsS s = acc.map mkS := by rw [fieldsS, ← HR.out, HE.out]; simp [fgo]
      rw [e, List.length_map]; exact HO.out
end Go.Proofs.YtbhfkhfnljddhaaDoor
