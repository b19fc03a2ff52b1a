import Derived.Test.YthoealembhkaoaaGreatDoorFm05
import Derived.Lib.TrimUEq
import Derived.Lib.ValidLaws
namespace Go.Proofs.YthoealembhkaoaaGreatDoor
open Go.RowKit
namespace Sy
set_option linter.unusedVariables false
set_option maxRecDepth 100000

/-- The byte at a place, as a number. -/
def byteN (s : ByteArray) (j : Nat) : Nat := (s.get! j).toNat
theorem byteN_in {s : ByteArray} {j : Nat} (h : j < s.size) : byteN s j = (s[j]'h).toNat := by
  unfold byteN
  have h1 : j < s.data.size := h
  show (s.data[j]!).toNat = (s.data[j]'h1).toNat
  rw [getElem!_pos s.data j h1]
theorem byteN_lt (s : ByteArray) (j : Nat) : byteN s j < 256 := (s.get! j).toNat_lt
theorem decode_byteN (s : ByteArray) (i : Nat) : Utf8.decode s i = Lib.decodeN (s.size - i) (byteN s i) (byteN s (i + 1)) (byteN s (i + 2)) (byteN s (i + 3)) := Lib.decode_at s i
/-- A leading byte's class: how many bytes, what is taken off, the least value. -/
def Class (b n off low : Nat) : Prop := (n = 2 ∧ off = 192 ∧ low = 128 ∧ 194 ≤ b ∧ b ≤ 223) ∨ (n = 3 ∧ off = 224 ∧ low = 2048 ∧ 224 ≤ b ∧ b ≤ 239) ∨ (n = 4 ∧ off = 240 ∧ low = 65536 ∧ 240 ≤ b ∧ b ≤ 244)
/-- What k bytes behind the leading one add. -/
def contV (s : ByteArray) (i v0 : Nat) : Nat → Nat
  | 0 => v0
  | k + 1 => contV s i v0 k * 64 + (byteN s (i + (k + 1)) - 128)
def Cont (b : Nat) : Prop := 128 ≤ b ∧ b ≤ 191
theorem dec_low {s : ByteArray} {i : Nat} (h : byteN s i < 128) : Utf8.decode s i = (byteN s i, 1) := by
  rw [decode_byteN, Lib.decodeN, if_pos h]
theorem dec_none {s : ByteArray} {i : Nat} (h : (128 ≤ byteN s i ∧ byteN s i < 194) ∨ 245 ≤ byteN s i) : Utf8.decode s i = (65533, 1) := by
  rw [decode_byteN]
  exact Lib.decodeN_bad _ _ _ _ _ (by have := byteN_lt s i; omega)
theorem dec_short {s : ByteArray} {i n off low : Nat} (hc : Class (byteN s i) n off low) (h : s.size < i + n) : Utf8.decode s i = (65533, 1) := by
  rw [decode_byteN]
  unfold Lib.decodeN
  rcases hc with ⟨rfl, rfl, rfl, h1, h2⟩ | ⟨rfl, rfl, rfl, h1, h2⟩ | ⟨rfl, rfl, rfl, h1, h2⟩
  all_goals
    rw [if_neg (by omega), if_neg (by omega), if_neg (by omega), if_neg (by omega)]
theorem dec_cont {s : ByteArray} {i n off low j : Nat} (hc : Class (byteN s i) n off low) (h1 : 1 ≤ j) (h2 : j < n) (h : ¬ Cont (byteN s (i + j))) : Utf8.decode s i = (65533, 1) := by
  rw [decode_byteN]
  unfold Lib.decodeN
  unfold Cont at h
  rcases hc with ⟨rfl, rfl, rfl, _, _⟩ | ⟨rfl, rfl, rfl, _, _⟩ | ⟨rfl, rfl, rfl, _, _⟩
  · obtain rfl : j = 1 := by omega
    rw [if_neg (by omega), if_neg (by omega), if_neg (by omega), if_neg (by omega)]
  · rcases (by omega : j = 1 ∨ j = 2) with rfl | rfl <;> rw [if_neg (by omega), if_neg (by omega), if_neg (by omega), if_neg (by omega)]
  · rcases (by omega : j = 1 ∨ j = 2 ∨ j = 3) with rfl | rfl | rfl <;> rw [if_neg (by omega), if_neg (by omega), if_neg (by omega), if_neg (by omega)]
theorem dec_whole {s : ByteArray} {i n off low : Nat} (hc : Class (byteN s i) n off low) (hn : i + n ≤ s.size) (h : ∀ j, 1 ≤ j → j < n → Cont (byteN s (i + j))) :
    Utf8.decode s i = if contV s i (byteN s i - off) (n - 1) < low ∨ 1114111 < contV s i (byteN s i - off) (n - 1) ∨ (55296 ≤ contV s i (byteN s i - off) (n - 1) ∧ contV s i (byteN s i - off) (n - 1) ≤ 57343) then (65533, 1) else (contV s i (byteN s i - off) (n - 1), n) := by
  rw [decode_byteN]
  unfold Lib.decodeN
  rcases hc with ⟨rfl, rfl, rfl, h1, h2⟩ | ⟨rfl, rfl, rfl, h1, h2⟩ | ⟨rfl, rfl, rfl, h1, h2⟩
  · have c1 := h 1 (by omega) (by omega)
    unfold Cont at c1
    have e : contV s i (byteN s i - 192) (2 - 1) = byteN s i % 32 * 64 + byteN s (i + 1) % 64 := by simp only [contV, Nat.zero_add]; omega
    rw [e, if_neg (by omega), if_pos (by omega), if_pos (by omega), if_neg (by omega)]
  · have c1 := h 1 (by omega) (by omega)
    have c2 := h 2 (by omega) (by omega)
    unfold Cont at c1 c2
    have e : contV s i (byteN s i - 224) (3 - 1) = byteN s i % 16 * 4096 + byteN s (i + 1) % 64 * 64 + byteN s (i + 2) % 64 := by simp only [contV, Nat.zero_add, Nat.reduceAdd]; omega
    rw [e, if_neg (by omega), if_neg (by omega), if_pos (by omega)]
    split
    · rw [if_neg (by omega)]
    · rw [if_pos (by omega)]
  · have c1 := h 1 (by omega) (by omega)
    have c2 := h 2 (by omega) (by omega)
    have c3 := h 3 (by omega) (by omega)
    unfold Cont at c1 c2 c3
    have e : contV s i (byteN s i - 240) (4 - 1) = byteN s i % 8 * 262144 + byteN s (i + 1) % 64 * 4096 + byteN s (i + 2) % 64 * 64 + byteN s (i + 3) % 64 := by simp only [contV, Nat.zero_add, Nat.reduceAdd]; omega
    rw [e, if_neg (by omega), if_neg (by omega), if_neg (by omega), if_pos (by omega)]
    split
    · rw [if_neg (by omega)]
    · rw [if_pos (by omega)]
theorem contV_lt {s : ByteArray} {i v0 : Nat} (h0 : v0 < 32) : ∀ k, k ≤ 3 → contV s i v0 k < 16777216 := by
  have st : ∀ k m, contV s i v0 k < m → contV s i v0 (k + 1) < m * 64 + 64 := fun k m h => by
    simp only [contV]
    have := byteN_lt s (i + (k + 1))
    omega
  intro k hk
  have a0 : contV s i v0 0 < 32 := h0
  have a1 : contV s i v0 1 < _ := st 0 _ a0
  have a2 : contV s i v0 2 < _ := st 1 _ a1
  have a3 : contV s i v0 3 < _ := st 2 _ a2
  rcases (by omega : k = 0 ∨ k = 1 ∨ k = 2 ∨ k = 3) with rfl | rfl | rfl | rfl <;> omega
def runeV (r : Nat × Nat) : Value := .tuple #[.int .i32 (r.1 : Int), .int .i64 (r.2 : Int)]
set_option maxHeartbeats 8000000 in
theorem rRune_calls (s : ByteArray) (i : Nat) (w : World) (hi : i < s.size) (hs : s.size ≤ 4294967296) :
    Calls Tryz.prog 121 #[.string s, .int .i64 i] w fun e w' => e = .returned (runeV (Utf8.decode s i)) ∧ w' = w := by
  have e0 := byteN_in hi
  have hb := byteN_lt s i
  have hi' : (i : Int) < (s.size : Int) := by omega
  have hb' : (s[i].toNat : Int) ≤ 255 := by omega
  by_cases c1 : byteN s i < 128
  · rw [dec_low c1, e0]
    have c1' : (s[i].toNat : Int) < 128 := by omega
    clear e0 hb c1
    go_enter Tryz.func121, Tryz.ntmps121
    go_wp2_with fail
    go_ret2
    exact ⟨rfl, rfl⟩
  have c1' : ¬ (s[i].toNat : Int) < 128 := by omega
  by_cases c2 : byteN s i < 194
  · rw [dec_none (.inl ⟨by omega, c2⟩)]
    have c2' : (s[i].toNat : Int) < 194 := by omega
    clear e0 hb c1 c2
    go_enter Tryz.func121, Tryz.ntmps121
    go_wp2_with fail
    go_ret2
    exact ⟨rfl, rfl⟩
  have c2' : ¬ (s[i].toNat : Int) < 194 := by omega
  by_cases c3 : 245 ≤ byteN s i
  · rw [dec_none (.inr c3)]
    have c3' : (245 : Int) ≤ (s[i].toNat : Int) := by omega
    clear e0 hb c1 c2 c3
    go_enter Tryz.func121, Tryz.ntmps121
    go_wp2_with fail
    go_ret2
    exact ⟨rfl, rfl⟩
  have c3' : (s[i].toNat : Int) ≤ 244 := by omega
  rcases (by omega : byteN s i ≤ 223 ∨ (224 ≤ byteN s i ∧ byteN s i ≤ 239) ∨ 240 ≤ byteN s i) with k1 | ⟨k1, k2⟩ | k1
  · -- n = 2
    have k1' : (s[i].toNat : Int) ≤ 223 := by omega
    have hcl : Class (byteN s i) 2 192 128 := .inl ⟨rfl, rfl, rfl, by omega, by omega⟩
    by_cases hsh : s.size < i + 2
    · have hr := Lib.hid (dec_short hcl hsh)
      have hsh' : (s.size : Int) < (i : Int) + 2 := by omega
      rw [hr.out]
      go_enter Tryz.func121, Tryz.ntmps121
      go_wp2_with fail
      go_ret2
      exact ⟨rfl, rfl⟩
    · have hsh' : ¬ (s.size : Int) < (i : Int) + 2 := by omega
      have hv0 : byteN s i - 192 < 32 := by omega
      have hv1 : ((byteN s i - 192 : Nat) : Int) = (byteN s i : Int) - 192 := by omega
      have HC := Lib.hid hcl
      obtain ⟨r, hr⟩ : ∃ r, Utf8.decode s i = r := ⟨_, rfl⟩
      rw [hr]
      have Hr := Lib.hid hr
      clear hr hcl
      rw [e0] at hv1
      have E0 := Lib.hid e0
      clear e0
      go_enter Tryz.func121, Tryz.ntmps121
      go_wp2_with fail
      go_loopg [8, 10] 2 (fun k vv kv wr => (∃ j : Nat, 1 ≤ j ∧ j ≤ 2 ∧ 2 - j ≤ k ∧ kv = .int .i64 j ∧ vv = .int .i64 (contV s i (byteN s i - 192) (j - 1) : Nat) ∧ Hid (∀ q, 1 ≤ q → q < j → Cont (byteN s (i + q)))) ∧ wr = w)
      case atStart => exact ⟨⟨1, by omega, by omega, by omega, rfl, by show _ = Value.int .i64 ((byteN s i - 192 : Nat) : Int); rw [E0.out, hv1], fun q h1 h2 => by omega⟩, rfl⟩
      case round =>
        obtain ⟨⟨j, hj1, hj, hk, rfl, rfl, hI⟩, hw⟩ := hrel
        have hw := hw.symm
        subst hw
        by_cases hlt : j < 2
        · have hin : i + j < s.size := by omega
          have hin' : (i : Int) + (j : Int) < (s.size : Int) := by omega
          have eb := byteN_in hin
          have hcv := contV_lt (s := s) (i := i) hv0 (j - 1) (by omega)
          have hnext : contV s i (byteN s i - 192) (j + 1 - 1) = contV s i (byteN s i - 192) (j - 1) * 64 + (byteN s (i + j) - 128) := by
            rw [show j + 1 - 1 = (j - 1) + 1 by omega]
            simp only [contV]
            rw [show j - 1 + 1 = j by omega]
          have hbl := byteN_lt s (i + j)
          have hbl' : (s[i + j].toNat : Int) ≤ 255 := by omega
          have Hn := Lib.hid hnext
          by_cases g1 : byteN s (i + j) < 128
          · have hrr : Hid (r = (65533, 1)) := by
              show r = _
              rw [← Hr.out]; exact dec_cont HC.out hj1 hlt (by unfold Cont; omega)
            have g1' : (s[i + j].toNat : Int) < 128 := by omega
            clear eb g1 hnext hcv hbl
            go_wp2_with fail
            go_ret2
            exact ⟨by rw [hrr.out]; rfl, rfl⟩
          by_cases g2 : 191 < byteN s (i + j)
          · have hrr : Hid (r = (65533, 1)) := by
              show r = _
              rw [← Hr.out]; exact dec_cont HC.out hj1 hlt (by unfold Cont; omega)
            have g1' : ¬ (s[i + j].toNat : Int) < 128 := by omega
            have g2' : (191 : Int) < (s[i + j].toNat : Int) := by omega
            clear eb g1 g2 hnext hcv hbl
            go_wp2_with fail
            go_ret2
            exact ⟨by rw [hrr.out]; rfl, rfl⟩
          have hcont : Hid (∀ q, 1 ≤ q → q < j + 1 → Cont (byteN s (i + q))) := fun q h1 h2 => by
            rcases (by omega : q < j ∨ q = j) with h | rfl
            · exact hI.out q h1 h
            · exact ⟨by omega, by omega⟩
          have g1' : ¬ (s[i + j].toNat : Int) < 128 := by omega
          have g2' : ¬ (191 : Int) < (s[i + j].toNat : Int) := by omega
          have eb2 : Hid ((byteN s (i + j) : Int) = (s[i + j].toNat : Int)) := by show _ = _; omega
          clear eb g1 g2 hnext
          generalize contV s i (byteN s i - 192) (j - 1) = cv at *
          go_wp2_with fail
          go_roundg (2 - (j + 1))
          case measure => omega
          case rel => exact ⟨⟨j + 1, by omega, by omega, Nat.le_refl _, by go_num, by rw [Hn.out]; have := eb2.out; go_num, hcont.out⟩, rfl⟩
        · obtain rfl : j = 2 := by omega
          have hw2 := dec_whole HC.out (by omega) hI.out
          rw [Hr.out] at hw2
          have hcv := contV_lt (s := s) (i := i) hv0 (2 - 1) (by omega)
          generalize contV s i (byteN s i - 192) (2 - 1) = cv at *
          clear hI
          by_cases b1 : cv < 128
          · rw [if_pos (.inl b1)] at hw2
            have Hw := Lib.hid hw2
            clear hw2
            go_wp2_with fail
            go_ret2
            exact ⟨by rw [Hw.out]; rfl, rfl⟩
          by_cases b2 : 1114111 < cv
          · rw [if_pos (.inr (.inl b2))] at hw2
            have Hw := Lib.hid hw2
            clear hw2
            go_wp2_with fail
            go_ret2
            exact ⟨by rw [Hw.out]; rfl, rfl⟩
          by_cases b3 : 55296 ≤ cv
          · by_cases b4 : cv ≤ 57343
            · rw [if_pos (.inr (.inr ⟨b3, b4⟩))] at hw2
              have Hw := Lib.hid hw2
              clear hw2
              go_wp2_with fail
              go_ret2
              exact ⟨by rw [Hw.out]; rfl, rfl⟩
            · rw [if_neg (by omega)] at hw2
              have Hw := Lib.hid hw2
              clear hw2
              go_wp2_with fail
              go_ret2
              exact ⟨by rw [Hw.out]; rfl, rfl⟩
          · rw [if_neg (by omega)] at hw2
            have Hw := Lib.hid hw2
            clear hw2
            go_wp2_with fail
            go_ret2
            exact ⟨by rw [Hw.out]; rfl, rfl⟩
  · -- n = 3
    have k1' : (224 : Int) ≤ (s[i].toNat : Int) := by omega
    have k2' : (s[i].toNat : Int) ≤ 239 := by omega
    have hcl : Class (byteN s i) 3 224 2048 := .inr (.inl ⟨rfl, rfl, rfl, by omega, by omega⟩)
    by_cases hsh : s.size < i + 3
    · have hr := Lib.hid (dec_short hcl hsh)
      have hsh' : (s.size : Int) < (i : Int) + 3 := by omega
      rw [hr.out]
      go_enter Tryz.func121, Tryz.ntmps121
      go_wp2_with fail
      go_ret2
      exact ⟨rfl, rfl⟩
    · have hsh' : ¬ (s.size : Int) < (i : Int) + 3 := by omega
      have hv0 : byteN s i - 224 < 32 := by omega
      have hv1 : ((byteN s i - 224 : Nat) : Int) = (byteN s i : Int) - 224 := by omega
      have HC := Lib.hid hcl
      obtain ⟨r, hr⟩ : ∃ r, Utf8.decode s i = r := ⟨_, rfl⟩
      rw [hr]
      have Hr := Lib.hid hr
      clear hr hcl
      rw [e0] at hv1
      have E0 := Lib.hid e0
      clear e0
      go_enter Tryz.func121, Tryz.ntmps121
      go_wp2_with fail
      go_loopg [8, 10] 3 (fun k vv kv wr => (∃ j : Nat, 1 ≤ j ∧ j ≤ 3 ∧ 3 - j ≤ k ∧ kv = .int .i64 j ∧ vv = .int .i64 (contV s i (byteN s i - 224) (j - 1) : Nat) ∧ Hid (∀ q, 1 ≤ q → q < j → Cont (byteN s (i + q)))) ∧ wr = w)
      case atStart => exact ⟨⟨1, by omega, by omega, by omega, rfl, by show _ = Value.int .i64 ((byteN s i - 224 : Nat) : Int); rw [E0.out, hv1], fun q h1 h2 => by omega⟩, rfl⟩
      case round =>
        obtain ⟨⟨j, hj1, hj, hk, rfl, rfl, hI⟩, hw⟩ := hrel
        have hw := hw.symm
        subst hw
        by_cases hlt : j < 3
        · have hin : i + j < s.size := by omega
          have hin' : (i : Int) + (j : Int) < (s.size : Int) := by omega
          have eb := byteN_in hin
          have hcv := contV_lt (s := s) (i := i) hv0 (j - 1) (by omega)
          have hnext : contV s i (byteN s i - 224) (j + 1 - 1) = contV s i (byteN s i - 224) (j - 1) * 64 + (byteN s (i + j) - 128) := by
            rw [show j + 1 - 1 = (j - 1) + 1 by omega]
            simp only [contV]
            rw [show j - 1 + 1 = j by omega]
          have hbl := byteN_lt s (i + j)
          have hbl' : (s[i + j].toNat : Int) ≤ 255 := by omega
          have Hn := Lib.hid hnext
          by_cases g1 : byteN s (i + j) < 128
          · have hrr : Hid (r = (65533, 1)) := by
              show r = _
              rw [← Hr.out]; exact dec_cont HC.out hj1 hlt (by unfold Cont; omega)
            have g1' : (s[i + j].toNat : Int) < 128 := by omega
            clear eb g1 hnext hcv hbl
            go_wp2_with fail
            go_ret2
            exact ⟨by rw [hrr.out]; rfl, rfl⟩
          by_cases g2 : 191 < byteN s (i + j)
          · have hrr : Hid (r = (65533, 1)) := by
              show r = _
              rw [← Hr.out]; exact dec_cont HC.out hj1 hlt (by unfold Cont; omega)
            have g1' : ¬ (s[i + j].toNat : Int) < 128 := by omega
            have g2' : (191 : Int) < (s[i + j].toNat : Int) := by omega
            clear eb g1 g2 hnext hcv hbl
            go_wp2_with fail
            go_ret2
            exact ⟨by rw [hrr.out]; rfl, rfl⟩
          have hcont : Hid (∀ q, 1 ≤ q → q < j + 1 → Cont (byteN s (i + q))) := fun q h1 h2 => by
            rcases (by omega : q < j ∨ q = j) with h | rfl
            · exact hI.out q h1 h
            · exact ⟨by omega, by omega⟩
          have g1' : ¬ (s[i + j].toNat : Int) < 128 := by omega
          have g2' : ¬ (191 : Int) < (s[i + j].toNat : Int) := by omega
          have eb2 : Hid ((byteN s (i + j) : Int) = (s[i + j].toNat : Int)) := by show _ = _; omega
          clear eb g1 g2 hnext
          generalize contV s i (byteN s i - 224) (j - 1) = cv at *
          go_wp2_with fail
          go_roundg (3 - (j + 1))
          case measure => omega
          case rel => exact ⟨⟨j + 1, by omega, by omega, Nat.le_refl _, by go_num, by rw [Hn.out]; have := eb2.out; go_num, hcont.out⟩, rfl⟩
        · obtain rfl : j = 3 := by omega
          have hw2 := dec_whole HC.out (by omega) hI.out
          rw [Hr.out] at hw2
          have hcv := contV_lt (s := s) (i := i) hv0 (3 - 1) (by omega)
          generalize contV s i (byteN s i - 224) (3 - 1) = cv at *
          clear hI
          by_cases b1 : cv < 2048
          · rw [if_pos (.inl b1)] at hw2
            have Hw := Lib.hid hw2
            clear hw2
            go_wp2_with fail
            go_ret2
            exact ⟨by rw [Hw.out]; rfl, rfl⟩
          by_cases b2 : 1114111 < cv
          · rw [if_pos (.inr (.inl b2))] at hw2
            have Hw := Lib.hid hw2
            clear hw2
            go_wp2_with fail
            go_ret2
            exact ⟨by rw [Hw.out]; rfl, rfl⟩
          by_cases b3 : 55296 ≤ cv
          · by_cases b4 : cv ≤ 57343
            · rw [if_pos (.inr (.inr ⟨b3, b4⟩))] at hw2
              have Hw := Lib.hid hw2
              clear hw2
              go_wp2_with fail
              go_ret2
              exact ⟨by rw [Hw.out]; rfl, rfl⟩
            · rw [if_neg (by omega)] at hw2
              have Hw := Lib.hid hw2
              clear hw2
              go_wp2_with fail
              go_ret2
              exact ⟨by rw [Hw.out]; rfl, rfl⟩
          · rw [if_neg (by omega)] at hw2
            have Hw := Lib.hid hw2
            clear hw2
            go_wp2_with fail
            go_ret2
            exact ⟨by rw [Hw.out]; rfl, rfl⟩
  · -- n = 4
    have k1' : (240 : Int) ≤ (s[i].toNat : Int) := by omega
    have hcl : Class (byteN s i) 4 240 65536 := .inr (.inr ⟨rfl, rfl, rfl, by omega, by omega⟩)
    by_cases hsh : s.size < i + 4
    · have hr := Lib.hid (dec_short hcl hsh)
      have hsh' : (s.size : Int) < (i : Int) + 4 := by omega
      rw [hr.out]
      go_enter Tryz.func121, Tryz.ntmps121
      go_wp2_with fail
      go_ret2
      exact ⟨rfl, rfl⟩
    · have hsh' : ¬ (s.size : Int) < (i : Int) + 4 := by omega
      have hv0 : byteN s i - 240 < 32 := by omega
      have hv1 : ((byteN s i - 240 : Nat) : Int) = (byteN s i : Int) - 240 := by omega
      have HC := Lib.hid hcl
      obtain ⟨r, hr⟩ : ∃ r, Utf8.decode s i = r := ⟨_, rfl⟩
      rw [hr]
      have Hr := Lib.hid hr
      clear hr hcl
      rw [e0] at hv1
      have E0 := Lib.hid e0
      clear e0
      go_enter Tryz.func121, Tryz.ntmps121
      go_wp2_with fail
      go_loopg [8, 10] 4 (fun k vv kv wr => (∃ j : Nat, 1 ≤ j ∧ j ≤ 4 ∧ 4 - j ≤ k ∧ kv = .int .i64 j ∧ vv = .int .i64 (contV s i (byteN s i - 240) (j - 1) : Nat) ∧ Hid (∀ q, 1 ≤ q → q < j → Cont (byteN s (i + q)))) ∧ wr = w)
      case atStart => exact ⟨⟨1, by omega, by omega, by omega, rfl, by show _ = Value.int .i64 ((byteN s i - 240 : Nat) : Int); rw [E0.out, hv1], fun q h1 h2 => by omega⟩, rfl⟩
      case round =>
        obtain ⟨⟨j, hj1, hj, hk, rfl, rfl, hI⟩, hw⟩ := hrel
        have hw := hw.symm
        subst hw
        by_cases hlt : j < 4
        · have hin : i + j < s.size := by omega
          have hin' : (i : Int) + (j : Int) < (s.size : Int) := by omega
          have eb := byteN_in hin
          have hcv := contV_lt (s := s) (i := i) hv0 (j - 1) (by omega)
          have hnext : contV s i (byteN s i - 240) (j + 1 - 1) = contV s i (byteN s i - 240) (j - 1) * 64 + (byteN s (i + j) - 128) := by
            rw [show j + 1 - 1 = (j - 1) + 1 by omega]
            simp only [contV]
            rw [show j - 1 + 1 = j by omega]
          have hbl := byteN_lt s (i + j)
          have hbl' : (s[i + j].toNat : Int) ≤ 255 := by omega
          have Hn := Lib.hid hnext
          by_cases g1 : byteN s (i + j) < 128
          · have hrr : Hid (r = (65533, 1)) := by
              show r = _
              rw [← Hr.out]; exact dec_cont HC.out hj1 hlt (by unfold Cont; omega)
            have g1' : (s[i + j].toNat : Int) < 128 := by omega
            clear eb g1 hnext hcv hbl
            go_wp2_with fail
            go_ret2
            exact ⟨by rw [hrr.out]; rfl, rfl⟩
          by_cases g2 : 191 < byteN s (i + j)
          · have hrr : Hid (r = (65533, 1)) := by
              show r = _
              rw [← Hr.out]; exact dec_cont HC.out hj1 hlt (by unfold Cont; omega)
            have g1' : ¬ (s[i + j].toNat : Int) < 128 := by omega
            have g2' : (191 : Int) < (s[i + j].toNat : Int) := by omega
            clear eb g1 g2 hnext hcv hbl
            go_wp2_with fail
            go_ret2
            exact ⟨by rw [hrr.out]; rfl, rfl⟩
          have hcont : Hid (∀ q, 1 ≤ q → q < j + 1 → Cont (byteN s (i + q))) := fun q h1 h2 => by
            rcases (by omega : q < j ∨ q = j) with h | rfl
            · exact hI.out q h1 h
            · exact ⟨by omega, by omega⟩
          have g1' : ¬ (s[i + j].toNat : Int) < 128 := by omega
          have g2' : ¬ (191 : Int) < (s[i + j].toNat : Int) := by omega
          have eb2 : Hid ((byteN s (i + j) : Int) = (s[i + j].toNat : Int)) := by show _ = _; omega
          clear eb g1 g2 hnext
          generalize contV s i (byteN s i - 240) (j - 1) = cv at *
          go_wp2_with fail
          go_roundg (4 - (j + 1))
          case measure => omega
          case rel => exact ⟨⟨j + 1, by omega, by omega, Nat.le_refl _, by go_num, by rw [Hn.out]; have := eb2.out; go_num, hcont.out⟩, rfl⟩
        · obtain rfl : j = 4 := by omega
          have hw2 := dec_whole HC.out (by omega) hI.out
          rw [Hr.out] at hw2
          have hcv := contV_lt (s := s) (i := i) hv0 (4 - 1) (by omega)
          generalize contV s i (byteN s i - 240) (4 - 1) = cv at *
          clear hI
          by_cases b1 : cv < 65536
          · rw [if_pos (.inl b1)] at hw2
            have Hw := Lib.hid hw2
            clear hw2
            go_wp2_with fail
            go_ret2
            exact ⟨by rw [Hw.out]; rfl, rfl⟩
          by_cases b2 : 1114111 < cv
          · rw [if_pos (.inr (.inl b2))] at hw2
            have Hw := Lib.hid hw2
            clear hw2
            go_wp2_with fail
            go_ret2
            exact ⟨by rw [Hw.out]; rfl, rfl⟩
          by_cases b3 : 55296 ≤ cv
          · by_cases b4 : cv ≤ 57343
            · exfalso; omega
            · rw [if_neg (by omega)] at hw2
              have Hw := Lib.hid hw2
              clear hw2
              go_wp2_with fail
              go_ret2
              exact ⟨by rw [Hw.out]; rfl, rfl⟩
          · exfalso; omega
end Sy
end Go.Proofs.YthoealembhkaoaaGreatDoor
namespace Go.Proofs.YthoealembhkaoaaGreatDoor
open Go.RowKit
namespace Sy
set_option linter.unusedVariables false
set_option maxRecDepth 100000

def goodR (s : ByteArray) (i : Nat) : Bool := decide (¬ ((Utf8.decode s i).1 = 65533 ∧ (Utf8.decode s i).2 = 1))
set_option maxHeartbeats 1000000 in
theorem rGood_calls (s : ByteArray) (i : Nat) (w : World) (hi : i < s.size) (hs : s.size ≤ 4294967296) :
    Calls Tryz.prog 153 #[.string s, .int .i64 i] w fun e w' => e = .returned (.bool (goodR s i)) ∧ w' = w := by
  have hc := rRune_calls s i w hi hs
  have hp : 1 ≤ (Utf8.decode s i).2 := Lib.width_pos s i
  unfold goodR
  generalize Utf8.decode s i = r at *
  obtain ⟨r, n⟩ := r
  simp only [runeV] at hc hp ⊢
  by_cases h1 : 1 < n
  · rw [decide_eq_true (by omega)]
    have h1' : (1 : Int) < (n : Int) := by omega
    clear hp h1
    go_enter Tryz.func153, Tryz.ntmps153
    go_wp2_with fail
    refine hc.mono ?_
    rintro e w1 ⟨rfl, rfl⟩
    clear hc
    go_wp2_with fail
    go_ret
    exact ⟨rfl, rfl⟩
  · obtain rfl : n = 1 := by omega
    by_cases h2 : r = 65533
    · subst h2
      rw [decide_eq_false (by simp)]
      clear hp h1
      go_enter Tryz.func153, Tryz.ntmps153
      go_wp2_with fail
      refine hc.mono ?_
      rintro e w1 ⟨rfl, rfl⟩
      clear hc
      go_wp2_with fail
      go_ret
      exact ⟨rfl, rfl⟩
    · rw [decide_eq_true (by omega)]
      have q : (((r : Nat) : Int) != 65533) = true := by simp; omega
      clear hp h1 h2
      go_enter Tryz.func153, Tryz.ntmps153
      go_wp2_with fail
      refine hc.mono ?_
      rintro e w1 ⟨rfl, rfl⟩
      clear hc
      go_wp2_with fail
      go_ret
      exact ⟨rfl, rfl⟩
theorem decode_in (s : ByteArray) (i : Nat) (h : i < s.size) : 1 ≤ (Utf8.decode s i).2 ∧ i + (Utf8.decode s i).2 ≤ s.size := by
  refine ⟨Lib.width_pos s i, ?_⟩
  have h1 := Lib.decodeL_le (rest s i) (by rw [rest_lt h]; simp)
  rw [show rest s i = s.data.toList.drop i from rfl, Lib.decodeL_drop] at h1
  simp at h1
  have h2 : s.data.toList.length = s.size := by simp
  simp at h2
  omega
theorem valid_rest {s : ByteArray} {i : Nat} (h : i < s.size) : Lib.validD (rest s i) = (goodR s i && Lib.validD (rest s (i + (Utf8.decode s i).2))) := by
  rw [Lib.validD_step _ (by rw [rest_lt h]; simp), show Lib.decodeL (rest s i) = Utf8.decode s i from Lib.decodeL_drop s i, show (rest s i).drop (Utf8.decode s i).2 = rest s (i + (Utf8.decode s i).2) from by simp [rest]]
  unfold goodR
  by_cases hb : (Utf8.decode s i).1 = 65533 ∧ (Utf8.decode s i).2 = 1
  · rw [if_pos hb, decide_eq_false (fun h => h hb)]; rfl
  · rw [if_neg hb, decide_eq_true hb]; rfl
set_option maxHeartbeats 1000000 in
theorem rText_calls (s : ByteArray) (w : World) (hs : s.size ≤ 4294967296) :
    Calls Tryz.prog 120 #[.string s] w fun e w' => e = .returned (.bool (Lib.validD s.data.toList)) ∧ w' = w := by
  obtain ⟨r, hr⟩ : ∃ r, Lib.validD s.data.toList = r := ⟨_, rfl⟩
  rw [hr]
  have Hr := Lib.hid hr
  clear hr
  go_enter Tryz.func120, Tryz.ntmps120
  go_wp2_with fail
  go_loopg [3] s.size (fun k iv wr => (∃ i : Nat, i ≤ s.size ∧ s.size - i ≤ k ∧ iv = .int .i64 i ∧ Hid (Lib.validD (rest s i) = r)) ∧ wr = w)
  case atStart => exact ⟨⟨0, Nat.zero_le _, Nat.le_refl _, rfl, Hr.out⟩, rfl⟩
  case round =>
    obtain ⟨⟨i, hi, hk, rfl, hI⟩, hw⟩ := hrel
    have hw := hw.symm
    subst hw
    by_cases hlt : i < s.size
    · have hg := rGood_calls s i w hlt hs
      have hd := rRune_calls s i w hlt hs
      have hst := valid_rest hlt
      obtain ⟨p1, p2⟩ := decode_in s i hlt
      rw [hI.out] at hst
      cases hgb : goodR s i with
      | false =>
        rw [hgb] at hg hst
        have hn : Hid (r = false) := by show r = false; rw [hst]; rfl
        clear hd hst hgb
        go_wp2_with fail
        refine hg.mono ?_
        rintro e w1 ⟨rfl, rfl⟩
        clear hg
        go_wp2_with fail
        go_ret
        exact ⟨by rw [hn.out]; rfl, rfl⟩
      | true =>
        rw [hgb] at hg hst
        have hn : Hid (Lib.validD (rest s (i + (Utf8.decode s i).2)) = r) := by show _ = r; rw [hst]; rfl
        clear hst hgb
        generalize Utf8.decode s i = d at *
        obtain ⟨dr, dn⟩ := d
        simp only [runeV] at hd p1 p2 hn
        go_wp2_with fail
        refine hg.mono ?_
        rintro e w1 ⟨rfl, hq⟩
        have hq := hq.symm
        subst hq
        clear hg
        go_wp2_with fail
        refine hd.mono ?_
        rintro e w1 ⟨rfl, hq⟩
        have hq := hq.symm
        subst hq
        clear hd
        go_wp2_with fail
        go_roundg (s.size - (i + dn))
        case measure => omega
        case rel => exact ⟨⟨i + dn, p2, Nat.le_refl _, by go_num, hn.out⟩, rfl⟩
    · have hn : Hid (r = true) := by
        show r = true
        rw [← hI.out, rest_ge (by omega)]; rfl
      go_wp2_with fail
      go_ret
      exact ⟨by rw [hn.out]; rfl, rfl⟩
end Sy
end Go.Proofs.YthoealembhkaoaaGreatDoor
