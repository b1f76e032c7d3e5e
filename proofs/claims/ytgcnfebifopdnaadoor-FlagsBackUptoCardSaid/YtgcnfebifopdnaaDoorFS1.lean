/-
  The text of one flag: spell.
-/
import Derived.Test.YtgcnfebifopdnaaDoorRows
import Derived.Test.YtgcnfebifopdnaaDoorFP2
import Derived.Lib.ItoaLen
namespace Go.Proofs.YtgcnfebifopdnaaDoor
open Go.RowKit

theorem PowTab.below {W W' : World} (h : PowTab W) (hb : Below W.heap.size W W') : PowTab W' := by
  have hg : Tryd.prog.globalNamed "internal/strconv.uint64pow10" = some 3 := by kernel_rfl
  have hc := h.cell hg 0 (by decide)
  exact var?_below hb hg (World.block_lt_of_cell? W _ hc) h

/-- What spell answers. -/
def spellS (kind x : Int) : ByteArray := if numF kind (textF kind x) = x then mkS (textF kind x) else ⟨#[]⟩
theorem spell_yes {kind x : Int} (h : numF kind (textF kind x) = x) : mkS (textF kind x) = spellS kind x := by unfold spellS; rw [if_pos h]
theorem spell_no {kind x : Int} (h : ¬ numF kind (textF kind x) = x) : (⟨#[]⟩ : ByteArray) = spellS kind x := by unfold spellS; rw [if_neg h]
theorem cells_1 (x : Int) (h0 : 0 ≤ x) : [Value.int .u8 (x % 256)] = Lib.byteCells (textF 1 x) := by
  simp only [textF_1, Lib.byteCells, List.map_cons, List.map_nil]
  rw [of_nat _ (by omega), show ((x.toNat % 256 : Nat) : Int) = x % 256 by omega]
theorem cells_2 (x : Int) (h0 : 0 ≤ x) (h1 : x ≤ 65535) : [Value.int .u8 (x / 256), Value.int .u8 (x % 256)] = Lib.byteCells (textF 2 x) := by
  simp only [textF_2, Lib.byteCells, List.map_cons, List.map_nil]
  rw [of_nat _ (by omega), of_nat _ (by omega), show ((x.toNat % 256 : Nat) : Int) = x % 256 by omega, show ((x.toNat / 256 : Nat) : Int) = x / 256 by omega]
theorem laid_text (w : World) (cs : Array Value) (n : Nat) (l : List UInt8) (hn : n ≤ 2) (hs : cs.size = n) (hc : cs.toList = Lib.byteCells l) :
    (convert 73 9 (.slice (some ⟨w.heap.size, 0, none⟩) n n)).run Tryd.prog (w.alloc (.cells cs 5)) = .ok (.string (mkS l)) (w.alloc (.cells cs 5)) := by
  have h := own_laid w 5 1 n cs (by omega) (by unfold maxLen; omega)
  rw [hc] at h
  exact run_string_of_own h 73 9 Tryd.underlying73 Tryd.underlying5 Tryd.underlying9

set_option maxHeartbeats 1000000 in
set_option maxRecDepth 100000 in
theorem so_spell (kind x : Int) (w : World) (hk : kind = 1 ∨ kind = 2 ∨ kind = 3) (h0 : 0 ≤ x) (h1 : x ≤ 65535) (ht : PowTab w) :
    Calls Tryd.prog 47 #[.int .i64 kind, .int .u16 x] w fun e w' => e = .returned (.string (spellS kind x)) ∧ Below w.heap.size w w' := by
  obtain ⟨n, hn⟩ : ∃ n, numF kind (textF kind x) = n := ⟨_, rfl⟩
  have HN := Lib.hid hn
  have hT := Lib.hid ht
  have ha : Below w.heap.size w w := Below.refl _ _
  have HR := Lib.hid (show (n = x ∧ mkS (textF kind x) = spellS kind x) ∨ (¬ n = x ∧ (⟨#[]⟩ : ByteArray) = spellS kind x) by
    by_cases h : n = x
    · exact .inl ⟨h, spell_yes (hn.trans h)⟩
    · exact .inr ⟨h, spell_no (fun e => h (hn.symm.trans e))⟩)
  obtain ⟨r, hr⟩ : ∃ r, spellS kind x = r := ⟨_, rfl⟩
  rw [hr] at HR ⊢
  clear hn ht hr
  rcases hk with rfl | rfl | rfl
  · have hcv := laid_text w #[.int .u8 (x % 256)] 1 (textF 1 x) (by omega) rfl (cells_1 x h0)
    have HA := Lib.hid (ha.alloc (Nat.le_refl _) (.cells #[.int .u8 (x % 256)] 5))
    have HZ := Lib.hid (show (mkS (textF 1 x)).size ≤ maxLen by rw [mkS_size]; show 1 ≤ maxLen; decide)
    obtain ⟨s, hs⟩ : ∃ s, mkS (textF 1 x) = s := ⟨_, rfl⟩
    have HD := Lib.hid (show numF 1 s.data.toList = n by rw [← hs]; exact HN.out)
    rw [hs] at hcv HR HZ
    clear hs ha
    rcases HR.out with ⟨hx, rfl⟩ | ⟨hx, rfl⟩
    · have hne : (n != x) = false := by simpa using hx
      clear hx HR
      go_enter Tryd.func47, Tryd.ntmps47
      go_wp2_with (go_at_call 36; refine (so_number 1 s _ (.inl rfl) HZ.out).mono ?_; rw [HD.out]; rintro e w1 ⟨rfl, m, rfl⟩)
      go_ret
      exact ⟨rfl, below_drewN HA.out _⟩
    · have hne : (n != x) = true := by simpa using hx
      clear hx HR
      go_enter Tryd.func47, Tryd.ntmps47
      go_wp2_with (go_at_call 36; refine (so_number 1 s _ (.inl rfl) HZ.out).mono ?_; rw [HD.out]; rintro e w1 ⟨rfl, m, rfl⟩)
      go_ret
      exact ⟨rfl, below_drewN HA.out _⟩
  · have hcv := laid_text w #[.int .u8 (x / 256), .int .u8 (x % 256)] 2 (textF 2 x) (by omega) rfl (cells_2 x h0 h1)
    have HA := Lib.hid (ha.alloc (Nat.le_refl _) (.cells #[.int .u8 (x / 256), .int .u8 (x % 256)] 5))
    have HZ := Lib.hid (show (mkS (textF 2 x)).size ≤ maxLen by rw [mkS_size]; show 2 ≤ maxLen; decide)
    obtain ⟨s, hs⟩ : ∃ s, mkS (textF 2 x) = s := ⟨_, rfl⟩
    have HD := Lib.hid (show numF 2 s.data.toList = n by rw [← hs]; exact HN.out)
    rw [hs] at hcv HR HZ
    clear hs ha
    rcases HR.out with ⟨hx, rfl⟩ | ⟨hx, rfl⟩
    · have hne : (n != x) = false := by simpa using hx
      clear hx HR
      go_enter Tryd.func47, Tryd.ntmps47
      go_wp2_with (go_at_call 36; refine (so_number 2 s _ (.inr (.inl rfl)) HZ.out).mono ?_; rw [HD.out]; rintro e w1 ⟨rfl, m, rfl⟩)
      go_ret
      exact ⟨rfl, below_drewN HA.out _⟩
    · have hne : (n != x) = true := by simpa using hx
      clear hx HR
      go_enter Tryd.func47, Tryd.ntmps47
      go_wp2_with (go_at_call 36; refine (so_number 2 s _ (.inr (.inl rfl)) HZ.out).mono ?_; rw [HD.out]; rintro e w1 ⟨rfl, m, rfl⟩)
      go_ret
      exact ⟨rfl, below_drewN HA.out _⟩
  · have HS := Lib.hid (show decS x = mkS (textF 3 x) by unfold decS Lib.itoa; rw [if_neg (by omega), textF_3])
    have HZ := Lib.hid (show (mkS (textF 3 x)).size ≤ maxLen by
      rw [mkS_size, textF_3, Lib.decDigits_length]
      have := Lib.nDigits_le20 x.toNat (by omega)
      unfold maxLen; omega)
    obtain ⟨s, hs⟩ : ∃ s, mkS (textF 3 x) = s := ⟨_, rfl⟩
    have HD := Lib.hid (show numF 3 s.data.toList = n by rw [← hs]; exact HN.out)
    rw [hs] at HR HZ HS
    clear hs ha
    have D := Lib.hid (Decimal_any x w (by omega) (by omega) hT.out)
    rcases HR.out with ⟨hx, rfl⟩ | ⟨hx, rfl⟩
    · have hne : (n != x) = false := by simpa using hx
      clear hx HR
      go_enter Tryd.func47, Tryd.ntmps47
      go_wp2_with (first
        | (go_at_call 60; refine D.out.mono ?_; rw [HS.out]; rintro e w1 ⟨rfl, b1⟩; have B1 := Lib.hid b1; clear b1)
        | (go_at_call 36; refine (so_number 3 s _ (.inr (.inr rfl)) HZ.out).mono ?_; rw [HD.out]; rintro e w1 ⟨rfl, m, rfl⟩))
      go_ret
      exact ⟨rfl, below_drewN B1.out _⟩
    · have hne : (n != x) = true := by simpa using hx
      clear hx HR
      go_enter Tryd.func47, Tryd.ntmps47
      go_wp2_with (first
        | (go_at_call 60; refine D.out.mono ?_; rw [HS.out]; rintro e w1 ⟨rfl, b1⟩; have B1 := Lib.hid b1; clear b1)
        | (go_at_call 36; refine (so_number 3 s _ (.inr (.inr rfl)) HZ.out).mono ?_; rw [HD.out]; rintro e w1 ⟨rfl, m, rfl⟩))
      go_ret
      exact ⟨rfl, below_drewN B1.out _⟩
end Go.Proofs.YtgcnfebifopdnaaDoor
