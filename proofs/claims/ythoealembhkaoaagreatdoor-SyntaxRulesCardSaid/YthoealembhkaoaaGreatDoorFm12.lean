import Derived.Test.YthoealembhkaoaaGreatDoorFm11
namespace Go.Proofs.YthoealembhkaoaaGreatDoor
open Go.RowKit
namespace Sy
set_option linter.unusedVariables false

/-- Is a '\' laid ahead of a byte: what stands ahead of it, the byte, what follows. -/
def marked (first : Bool) (c : UInt8) (l : List UInt8) : Bool := special.data.toList.contains c || (first && (c == 35 || c == 32)) || (l.isEmpty && c == 32)
/-- A value's bytes, written. -/
def wrL (first : Bool) : List UInt8 → List UInt8
  | [] => []
  | c :: l => (if c = 0 then [92, 48, 48] else if marked first c l then [92, c] else [c]) ++ wrL false l
/-- A value, written. -/
def writtenR (l : List UInt8) : List UInt8 := if Lib.validD l then wrL true l else 35 :: hexed l
theorem wrL_len : ∀ (b : Bool) (l : List UInt8), (wrL b l).length ≤ 3 * l.length
  | _, [] => Nat.le_refl _
  | b, c :: l => by
    have := wrL_len false l
    simp only [wrL, List.length_append, List.length_cons]
    split
    · simp; omega
    · split <;> simp <;> omega

theorem cat_bytes (a b : List UInt8) : (⟨a.toArray⟩ ++ ⟨b.toArray⟩ : ByteArray) = ⟨(a ++ b).toArray⟩ := by
  apply ByteArray.ext
  apply Array.ext'
  simp
theorem cat_one (x : UInt8) (b : List UInt8) : (⟨#[x]⟩ ++ ⟨b.toArray⟩ : ByteArray) = ⟨(x :: b).toArray⟩ := cat_bytes [x] b
set_option maxRecDepth 100000 in
set_option maxHeartbeats 4000000 in
theorem written_calls (s : ByteArray) (w : World) (hs : s.size ≤ 4294967296) (he : Env w) :
    Calls Tryz.prog 182 #[.string s] w fun e w' => e = .returned (strV (writtenR s.data.toList)) ∧ Below w.heap.size w w' := by
  obtain ⟨i0, hi0, hz0, hz1, hz2⟩ := info_parts info5
  have htx := text_calls s w (by omega) he
  unfold writtenR
  cases hval : Lib.validD s.data.toList with
  | false =>
    rw [hval] at htx
    have hh := fun W => hexOut_calls s W (by omega)
    have hul := hexed_length s.data.toList
    simp only [Bool.false_eq_true, if_false]
    generalize hexed s.data.toList = u at *
    have hul2 : u.length ≤ 8589934592 := by
      have : s.data.toList.length = s.size := by simp
      omega
    clear hul
    go_enter Tryz.func182, Tryz.ntmps182
    go_wp2_with fail
    refine htx.mono ?_
    rintro e w1 ⟨rfl, hb⟩
    clear htx
    go_wp2_with fail
    refine (hh _).mono ?_
    rintro e w2 ⟨rfl, hb2⟩
    clear hh
    simp only [strV]
    go_wp2_with fail
    rw [cat_one]
    go_ret
    exact ⟨rfl, hb.trans (hb2.mono hb.size)⟩
  | true =>
    rw [hval] at htx
    simp only [if_true]
    obtain ⟨r, hr⟩ : ∃ r, wrL true s.data.toList = r := ⟨_, rfl⟩
    rw [hr]
    have Hr := Lib.hid hr
    clear hr
    go_enter Tryz.func182, Tryz.ntmps182
    go_wp2_with fail
    refine htx.mono ?_
    rintro e w1 ⟨rfl, hb⟩
    have HB := Lib.hid hb
    clear htx hb
    go_wp2_with fail
    go_loopg [3, 14] s.size (fun k v iv wr => ∃ (i : Nat) (l : List UInt8), i ≤ s.size ∧ s.size - i ≤ k ∧ iv = .int .i64 i ∧ l.length ≤ 3 * i ∧ Hid (wr.ownsRow w.heap.size 5 1 v l.length (bytesV l)) ∧ Hid (r = l ++ wrL (decide (i = 0)) (rest s i)) ∧ Hid (Below w.heap.size w wr))
    case atStart => exact ⟨0, [], Nat.zero_le _, Nat.le_refl _, rfl, Nat.le_refl _, ⟨rfl, .inl ⟨rfl, rfl⟩⟩, by rw [← Hr.out]; rfl, HB.out⟩
    case round =>
      obtain ⟨i, l, hi', hk, rfl, hll, hown, hu, hb⟩ := hrel
      by_cases hlt : i < s.size
      · obtain ⟨c, hc⟩ : ∃ c, s[i]'hlt = c := ⟨_, rfl⟩
        have Hrt : Hid (rest s i = c :: rest s (i + 1)) := by show _ = _; rw [← hc]; exact rest_lt hlt
        have hIB := fun W => indexByte_calls special c W
        have hbl := byte_le c
        have hlast : (rest s (i + 1)).isEmpty = decide (i + 1 = s.size) := by
          rw [Bool.eq_iff_iff]; simp [rest]; omega
        by_cases h0 : c = 0
        · have q0 : ((c.toNat : Int) == 0) = true := by rw [h0]; rfl
          have Hn : Hid (r = (l ++ [92, 48, 48]) ++ wrL (decide (i + 1 = 0)) (rest s (i + 1))) := by
            show r = _
            rw [hu.out, Hrt.out]; simp [wrL, h0]
          go_wp2_with (at_builtin; refine Lib.wpList_append_own_string _ rfl _ _ 88 9 rfl w.heap.size 5 i0 Tryz.underlying88 Tryz.underlying9 hi0 hz0 hz1 hz2 _ _ _ rfl hown.out ⟨#[92, 48, 48]⟩ rfl (by show l.length + 3 ≤ _; unfold maxLen; omega) (by show l.length + 3 ≤ _; omega) hb.out.size ?_; intro v7 w7 hown7 hgr7 _)
          have O7 : Hid (w7.ownsRow w.heap.size 5 1 v7 (l ++ [92, 48, 48]).length (bytesV (l ++ [92, 48, 48]))) := by
            have e1 : (l ++ [92, 48, 48]).length = l.length + (⟨#[92, 48, 48]⟩ : ByteArray).size := by rw [List.length_append]; rfl
            have e2 : bytesV (l ++ [92, 48, 48]) = bytesV l ++ Lib.strCells ⟨#[92, 48, 48]⟩ := by simp [bytesV, Lib.strCells]
            show w7.ownsRow _ _ _ _ _ _
            rw [e1, e2]
            exact hown7
          have B7 : Hid (Below w.heap.size w w7) := hb.out.grown hgr7 hb.out.size (own_base_le hown.out)
          clear hown7 hgr7
          go_wp2_with fail
          go_roundg (s.size - (i + 1))
          case measure => omega
          case rel => exact ⟨i + 1, l ++ [92, 48, 48], by omega, Nat.le_refl _, by go_num, by simp; omega, by have := O7.out; exact this, Hn.out, B7.out⟩
        · have q0 : ((c.toNat : Int) == 0) = false := by
            rw [beq_eq_false_iff_ne]
            intro h
            exact h0 (u8_eq (n := 0) (by omega) h)
          cases hsp : special.data.toList.contains c with
          | true =>
            have q1 : 0 ≤ Lib.indexByte special.data.toList c := (indexByte_has _ _).2 hsp
            have hm : marked (decide (i = 0)) c (rest s (i + 1)) = true := by simp only [marked, hsp, Bool.true_or]
            have Hn : Hid (r = (l ++ [92] ++ [c]) ++ wrL (decide (i + 1 = 0)) (rest s (i + 1))) := by
              show r = _
              rw [hu.out, Hrt.out]; simp [wrL, h0, hm]
            go_wp2_with (first | (go_at_call 186; refine (hIB _).mono ?_; rintro e w9 ⟨rfl, rfl⟩) | (at_builtin; refine wpList_append_own _ rfl _ _ 88 rfl w.heap.size 5 i0 (.int .u8 0) 1 1 Tryz.underlying88 hi0 hz0 hz1 hz2 rfl (by decide) _ _ _ rfl (hown.out.alloc _) _ 1 1 [.int .u8 ((92 : UInt8).toNat : Int)] rfl rfl (cell_one_new _ _ _) (by simp [Value.oneCell']) (by unfold maxLen; omega) (by omega) (by have := hb.out.size; simp; omega) ?_))
            intro v7 w7 hown7 hgr7 _
            have O7 : Hid (w7.ownsRow w.heap.size 5 1 v7 (l.length + 1) (bytesV (l ++ [(92 : UInt8)]))) := by
              show w7.ownsRow _ _ _ _ _ _
              rw [bytesV_snoc]
              exact hown7
            have B7 : Hid (Below w.heap.size w w7) := (hb.out.alloc hb.out.size _).grown hgr7 (by have := hb.out.size; simp; omega) (own_base_le hown.out)
            clear hown7 hgr7
            have hl7 : (l ++ [(92 : UInt8)]).length = l.length + 1 := by simp
            go_wp2_with (first | (go_at_call 186; refine (hIB _).mono ?_; rintro e w9 ⟨rfl, rfl⟩) | (at_builtin; refine wpList_append_own _ rfl _ _ 88 rfl w.heap.size 5 i0 (.int .u8 0) 1 1 Tryz.underlying88 hi0 hz0 hz1 hz2 rfl (by decide) _ _ _ rfl (O7.out.alloc _) _ 1 1 [.int .u8 (c.toNat : Int)] rfl rfl (cell_one_new _ _ _) (by simp [Value.oneCell']) (by unfold maxLen; omega) (by omega) (by have := B7.out.size; simp; omega) ?_))
            intro v8 w8 hown8 hgr8 _
            have O8 : Hid (w8.ownsRow w.heap.size 5 1 v8 (l.length + 1 + 1) (bytesV ((l ++ [92]) ++ [c]))) := by
              show w8.ownsRow _ _ _ _ _ _
              rw [bytesV_snoc]
              exact hown8
            have B8 : Hid (Below w.heap.size w w8) := (B7.out.alloc B7.out.size _).grown hgr8 (by have := B7.out.size; simp; omega) (own_base_le O7.out)
            clear hown8 hgr8
            go_wp2_with fail
            go_roundg (s.size - (i + 1))
            case measure => omega
            case rel => exact ⟨i + 1, l ++ [92] ++ [c], by omega, Nat.le_refl _, by go_num, by simp; omega, by have := O8.out; rw [(by simp : (l ++ [92] ++ [c] : List UInt8).length = l.length + 1 + 1)]; exact this, Hn.out, B8.out⟩
          | false =>
            have q1 : ¬ (0 ≤ Lib.indexByte special.data.toList c) := fun h => by rw [(indexByte_has _ _).1 h] at hsp; cases hsp
            by_cases hi0' : i = 0
            · by_cases h35 : c = 35
              · have q35 : ((c.toNat : Int) == 35) = true := by rw [h35]; rfl
                have qi : ((i : Int) == 0) = true := by rw [beq_iff_eq]; omega
                have hm : marked (decide (i = 0)) c (rest s (i + 1)) = true := by simp only [marked, hsp, hlast]; simp [hi0', h35]
                (try clear hi0'); (try clear h35); (try clear h32); (try clear hls)
                have Hn : Hid (r = (l ++ [92] ++ [c]) ++ wrL (decide (i + 1 = 0)) (rest s (i + 1))) := by
                  show r = _
                  rw [hu.out, Hrt.out]; simp [wrL, h0, hm]
                go_wp2_with (first | (go_at_call 186; refine (hIB _).mono ?_; rintro e w9 ⟨rfl, rfl⟩) | (at_builtin; refine wpList_append_own _ rfl _ _ 88 rfl w.heap.size 5 i0 (.int .u8 0) 1 1 Tryz.underlying88 hi0 hz0 hz1 hz2 rfl (by decide) _ _ _ rfl (hown.out.alloc _) _ 1 1 [.int .u8 ((92 : UInt8).toNat : Int)] rfl rfl (cell_one_new _ _ _) (by simp [Value.oneCell']) (by unfold maxLen; omega) (by omega) (by have := hb.out.size; simp; omega) ?_))
                intro v7 w7 hown7 hgr7 _
                have O7 : Hid (w7.ownsRow w.heap.size 5 1 v7 (l.length + 1) (bytesV (l ++ [(92 : UInt8)]))) := by
                  show w7.ownsRow _ _ _ _ _ _
                  rw [bytesV_snoc]
                  exact hown7
                have B7 : Hid (Below w.heap.size w w7) := (hb.out.alloc hb.out.size _).grown hgr7 (by have := hb.out.size; simp; omega) (own_base_le hown.out)
                clear hown7 hgr7
                have hl7 : (l ++ [(92 : UInt8)]).length = l.length + 1 := by simp
                go_wp2_with (first | (go_at_call 186; refine (hIB _).mono ?_; rintro e w9 ⟨rfl, rfl⟩) | (at_builtin; refine wpList_append_own _ rfl _ _ 88 rfl w.heap.size 5 i0 (.int .u8 0) 1 1 Tryz.underlying88 hi0 hz0 hz1 hz2 rfl (by decide) _ _ _ rfl (O7.out.alloc _) _ 1 1 [.int .u8 (c.toNat : Int)] rfl rfl (cell_one_new _ _ _) (by simp [Value.oneCell']) (by unfold maxLen; omega) (by omega) (by have := B7.out.size; simp; omega) ?_))
                intro v8 w8 hown8 hgr8 _
                have O8 : Hid (w8.ownsRow w.heap.size 5 1 v8 (l.length + 1 + 1) (bytesV ((l ++ [92]) ++ [c]))) := by
                  show w8.ownsRow _ _ _ _ _ _
                  rw [bytesV_snoc]
                  exact hown8
                have B8 : Hid (Below w.heap.size w w8) := (B7.out.alloc B7.out.size _).grown hgr8 (by have := B7.out.size; simp; omega) (own_base_le O7.out)
                clear hown8 hgr8
                go_wp2_with fail
                go_roundg (s.size - (i + 1))
                case measure => omega
                case rel => exact ⟨i + 1, l ++ [92] ++ [c], by omega, Nat.le_refl _, by go_num, by simp; omega, by have := O8.out; rw [(by simp : (l ++ [92] ++ [c] : List UInt8).length = l.length + 1 + 1)]; exact this, Hn.out, B8.out⟩
              · by_cases h32 : c = 32
                · have q35 : ((c.toNat : Int) == 35) = false := by rw [beq_eq_false_iff_ne]; intro h; exact h35 (u8_eq (n := 35) (by omega) h)
                  have q32 : ((c.toNat : Int) == 32) = true := by rw [h32]; rfl
                  have qi : ((i : Int) == 0) = true := by rw [beq_iff_eq]; omega
                  have hm : marked (decide (i = 0)) c (rest s (i + 1)) = true := by simp only [marked, hsp, hlast]; simp [hi0', h32]
                  (try clear hi0'); (try clear h35); (try clear h32); (try clear hls)
                  have Hn : Hid (r = (l ++ [92] ++ [c]) ++ wrL (decide (i + 1 = 0)) (rest s (i + 1))) := by
                    show r = _
                    rw [hu.out, Hrt.out]; simp [wrL, h0, hm]
                  go_wp2_with (first | (go_at_call 186; refine (hIB _).mono ?_; rintro e w9 ⟨rfl, rfl⟩) | (at_builtin; refine wpList_append_own _ rfl _ _ 88 rfl w.heap.size 5 i0 (.int .u8 0) 1 1 Tryz.underlying88 hi0 hz0 hz1 hz2 rfl (by decide) _ _ _ rfl (hown.out.alloc _) _ 1 1 [.int .u8 ((92 : UInt8).toNat : Int)] rfl rfl (cell_one_new _ _ _) (by simp [Value.oneCell']) (by unfold maxLen; omega) (by omega) (by have := hb.out.size; simp; omega) ?_))
                  intro v7 w7 hown7 hgr7 _
                  have O7 : Hid (w7.ownsRow w.heap.size 5 1 v7 (l.length + 1) (bytesV (l ++ [(92 : UInt8)]))) := by
                    show w7.ownsRow _ _ _ _ _ _
                    rw [bytesV_snoc]
                    exact hown7
                  have B7 : Hid (Below w.heap.size w w7) := (hb.out.alloc hb.out.size _).grown hgr7 (by have := hb.out.size; simp; omega) (own_base_le hown.out)
                  clear hown7 hgr7
                  have hl7 : (l ++ [(92 : UInt8)]).length = l.length + 1 := by simp
                  go_wp2_with (first | (go_at_call 186; refine (hIB _).mono ?_; rintro e w9 ⟨rfl, rfl⟩) | (at_builtin; refine wpList_append_own _ rfl _ _ 88 rfl w.heap.size 5 i0 (.int .u8 0) 1 1 Tryz.underlying88 hi0 hz0 hz1 hz2 rfl (by decide) _ _ _ rfl (O7.out.alloc _) _ 1 1 [.int .u8 (c.toNat : Int)] rfl rfl (cell_one_new _ _ _) (by simp [Value.oneCell']) (by unfold maxLen; omega) (by omega) (by have := B7.out.size; simp; omega) ?_))
                  intro v8 w8 hown8 hgr8 _
                  have O8 : Hid (w8.ownsRow w.heap.size 5 1 v8 (l.length + 1 + 1) (bytesV ((l ++ [92]) ++ [c]))) := by
                    show w8.ownsRow _ _ _ _ _ _
                    rw [bytesV_snoc]
                    exact hown8
                  have B8 : Hid (Below w.heap.size w w8) := (B7.out.alloc B7.out.size _).grown hgr8 (by have := B7.out.size; simp; omega) (own_base_le O7.out)
                  clear hown8 hgr8
                  go_wp2_with fail
                  go_roundg (s.size - (i + 1))
                  case measure => omega
                  case rel => exact ⟨i + 1, l ++ [92] ++ [c], by omega, Nat.le_refl _, by go_num, by simp; omega, by have := O8.out; rw [(by simp : (l ++ [92] ++ [c] : List UInt8).length = l.length + 1 + 1)]; exact this, Hn.out, B8.out⟩
                · by_cases hls : i + 1 = s.size
                  · have q35 : ((c.toNat : Int) == 35) = false := by rw [beq_eq_false_iff_ne]; intro h; exact h35 (u8_eq (n := 35) (by omega) h)
                    have q32 : ((c.toNat : Int) == 32) = false := by rw [beq_eq_false_iff_ne]; intro h; exact h32 (u8_eq (n := 32) (by omega) h)
                    have qi : ((i : Int) == 0) = true := by rw [beq_iff_eq]; omega
                    have ql : ((i : Int) == (s.size : Int) - 1) = true := by rw [beq_iff_eq]; omega
                    have hm : marked (decide (i = 0)) c (rest s (i + 1)) = false := by simp only [marked, hsp, hlast]; simp [h35, h32]
                    (try clear hi0'); (try clear h35); (try clear h32); (try clear hls)
                    have Hn : Hid (r = (l ++ [c]) ++ wrL (decide (i + 1 = 0)) (rest s (i + 1))) := by
                      show r = _
                      rw [hu.out, Hrt.out]; simp [wrL, h0, hm]
                    go_wp2_with (first | (go_at_call 186; refine (hIB _).mono ?_; rintro e w9 ⟨rfl, rfl⟩) | (at_builtin; refine wpList_append_own _ rfl _ _ 88 rfl w.heap.size 5 i0 (.int .u8 0) 1 1 Tryz.underlying88 hi0 hz0 hz1 hz2 rfl (by decide) _ _ _ rfl (hown.out.alloc _) _ 1 1 [.int .u8 (c.toNat : Int)] rfl rfl (cell_one_new _ _ _) (by simp [Value.oneCell']) (by unfold maxLen; omega) (by omega) (by have := hb.out.size; simp; omega) ?_))
                    intro v7 w7 hown7 hgr7 _
                    have O7 : Hid (w7.ownsRow w.heap.size 5 1 v7 (l.length + 1) (bytesV (l ++ [c]))) := by
                      show w7.ownsRow _ _ _ _ _ _
                      rw [bytesV_snoc]
                      exact hown7
                    have B7 : Hid (Below w.heap.size w w7) := (hb.out.alloc hb.out.size _).grown hgr7 (by have := hb.out.size; simp; omega) (own_base_le hown.out)
                    clear hown7 hgr7
                    go_wp2_with fail
                    go_roundg (s.size - (i + 1))
                    case measure => omega
                    case rel => exact ⟨i + 1, l ++ [c], by omega, Nat.le_refl _, by go_num, by simp; omega, by have := O7.out; rw [(by simp : (l ++ [c] : List UInt8).length = l.length + 1)]; exact this, Hn.out, B7.out⟩
                  · have q35 : ((c.toNat : Int) == 35) = false := by rw [beq_eq_false_iff_ne]; intro h; exact h35 (u8_eq (n := 35) (by omega) h)
                    have q32 : ((c.toNat : Int) == 32) = false := by rw [beq_eq_false_iff_ne]; intro h; exact h32 (u8_eq (n := 32) (by omega) h)
                    have qi : ((i : Int) == 0) = true := by rw [beq_iff_eq]; omega
                    have ql : ((i : Int) == (s.size : Int) - 1) = false := by rw [beq_eq_false_iff_ne]; omega
                    have hm : marked (decide (i = 0)) c (rest s (i + 1)) = false := by simp only [marked, hsp, hlast]; simp [h35, h32]
                    (try clear hi0'); (try clear h35); (try clear h32); (try clear hls)
                    have Hn : Hid (r = (l ++ [c]) ++ wrL (decide (i + 1 = 0)) (rest s (i + 1))) := by
                      show r = _
                      rw [hu.out, Hrt.out]; simp [wrL, h0, hm]
                    go_wp2_with (first | (go_at_call 186; refine (hIB _).mono ?_; rintro e w9 ⟨rfl, rfl⟩) | (at_builtin; refine wpList_append_own _ rfl _ _ 88 rfl w.heap.size 5 i0 (.int .u8 0) 1 1 Tryz.underlying88 hi0 hz0 hz1 hz2 rfl (by decide) _ _ _ rfl (hown.out.alloc _) _ 1 1 [.int .u8 (c.toNat : Int)] rfl rfl (cell_one_new _ _ _) (by simp [Value.oneCell']) (by unfold maxLen; omega) (by omega) (by have := hb.out.size; simp; omega) ?_))
                    intro v7 w7 hown7 hgr7 _
                    have O7 : Hid (w7.ownsRow w.heap.size 5 1 v7 (l.length + 1) (bytesV (l ++ [c]))) := by
                      show w7.ownsRow _ _ _ _ _ _
                      rw [bytesV_snoc]
                      exact hown7
                    have B7 : Hid (Below w.heap.size w w7) := (hb.out.alloc hb.out.size _).grown hgr7 (by have := hb.out.size; simp; omega) (own_base_le hown.out)
                    clear hown7 hgr7
                    go_wp2_with fail
                    go_roundg (s.size - (i + 1))
                    case measure => omega
                    case rel => exact ⟨i + 1, l ++ [c], by omega, Nat.le_refl _, by go_num, by simp; omega, by have := O7.out; rw [(by simp : (l ++ [c] : List UInt8).length = l.length + 1)]; exact this, Hn.out, B7.out⟩
            · by_cases hls : i + 1 = s.size
              · by_cases h32 : c = 32
                · have q32 : ((c.toNat : Int) == 32) = true := by rw [h32]; rfl
                  have qi : ((i : Int) == 0) = false := by rw [beq_eq_false_iff_ne]; omega
                  have ql : ((i : Int) == (s.size : Int) - 1) = true := by rw [beq_iff_eq]; omega
                  have hm : marked (decide (i = 0)) c (rest s (i + 1)) = true := by simp only [marked, hsp, hlast]; simp [hi0', h32, hls]
                  (try clear hi0'); (try clear h35); (try clear h32); (try clear hls)
                  have Hn : Hid (r = (l ++ [92] ++ [c]) ++ wrL (decide (i + 1 = 0)) (rest s (i + 1))) := by
                    show r = _
                    rw [hu.out, Hrt.out]; simp [wrL, h0, hm]
                  go_wp2_with (first | (go_at_call 186; refine (hIB _).mono ?_; rintro e w9 ⟨rfl, rfl⟩) | (at_builtin; refine wpList_append_own _ rfl _ _ 88 rfl w.heap.size 5 i0 (.int .u8 0) 1 1 Tryz.underlying88 hi0 hz0 hz1 hz2 rfl (by decide) _ _ _ rfl (hown.out.alloc _) _ 1 1 [.int .u8 ((92 : UInt8).toNat : Int)] rfl rfl (cell_one_new _ _ _) (by simp [Value.oneCell']) (by unfold maxLen; omega) (by omega) (by have := hb.out.size; simp; omega) ?_))
                  intro v7 w7 hown7 hgr7 _
                  have O7 : Hid (w7.ownsRow w.heap.size 5 1 v7 (l.length + 1) (bytesV (l ++ [(92 : UInt8)]))) := by
                    show w7.ownsRow _ _ _ _ _ _
                    rw [bytesV_snoc]
                    exact hown7
                  have B7 : Hid (Below w.heap.size w w7) := (hb.out.alloc hb.out.size _).grown hgr7 (by have := hb.out.size; simp; omega) (own_base_le hown.out)
                  clear hown7 hgr7
                  have hl7 : (l ++ [(92 : UInt8)]).length = l.length + 1 := by simp
                  go_wp2_with (first | (go_at_call 186; refine (hIB _).mono ?_; rintro e w9 ⟨rfl, rfl⟩) | (at_builtin; refine wpList_append_own _ rfl _ _ 88 rfl w.heap.size 5 i0 (.int .u8 0) 1 1 Tryz.underlying88 hi0 hz0 hz1 hz2 rfl (by decide) _ _ _ rfl (O7.out.alloc _) _ 1 1 [.int .u8 (c.toNat : Int)] rfl rfl (cell_one_new _ _ _) (by simp [Value.oneCell']) (by unfold maxLen; omega) (by omega) (by have := B7.out.size; simp; omega) ?_))
                  intro v8 w8 hown8 hgr8 _
                  have O8 : Hid (w8.ownsRow w.heap.size 5 1 v8 (l.length + 1 + 1) (bytesV ((l ++ [92]) ++ [c]))) := by
                    show w8.ownsRow _ _ _ _ _ _
                    rw [bytesV_snoc]
                    exact hown8
                  have B8 : Hid (Below w.heap.size w w8) := (B7.out.alloc B7.out.size _).grown hgr8 (by have := B7.out.size; simp; omega) (own_base_le O7.out)
                  clear hown8 hgr8
                  go_wp2_with fail
                  go_roundg (s.size - (i + 1))
                  case measure => omega
                  case rel => exact ⟨i + 1, l ++ [92] ++ [c], by omega, Nat.le_refl _, by go_num, by simp; omega, by have := O8.out; rw [(by simp : (l ++ [92] ++ [c] : List UInt8).length = l.length + 1 + 1)]; exact this, Hn.out, B8.out⟩
                · have q32 : ((c.toNat : Int) == 32) = false := by rw [beq_eq_false_iff_ne]; intro h; exact h32 (u8_eq (n := 32) (by omega) h)
                  have qi : ((i : Int) == 0) = false := by rw [beq_eq_false_iff_ne]; omega
                  have ql : ((i : Int) == (s.size : Int) - 1) = true := by rw [beq_iff_eq]; omega
                  have hm : marked (decide (i = 0)) c (rest s (i + 1)) = false := by simp only [marked, hsp, hlast]; simp [hi0', h32]
                  (try clear hi0'); (try clear h35); (try clear h32); (try clear hls)
                  have Hn : Hid (r = (l ++ [c]) ++ wrL (decide (i + 1 = 0)) (rest s (i + 1))) := by
                    show r = _
                    rw [hu.out, Hrt.out]; simp [wrL, h0, hm]
                  go_wp2_with (first | (go_at_call 186; refine (hIB _).mono ?_; rintro e w9 ⟨rfl, rfl⟩) | (at_builtin; refine wpList_append_own _ rfl _ _ 88 rfl w.heap.size 5 i0 (.int .u8 0) 1 1 Tryz.underlying88 hi0 hz0 hz1 hz2 rfl (by decide) _ _ _ rfl (hown.out.alloc _) _ 1 1 [.int .u8 (c.toNat : Int)] rfl rfl (cell_one_new _ _ _) (by simp [Value.oneCell']) (by unfold maxLen; omega) (by omega) (by have := hb.out.size; simp; omega) ?_))
                  intro v7 w7 hown7 hgr7 _
                  have O7 : Hid (w7.ownsRow w.heap.size 5 1 v7 (l.length + 1) (bytesV (l ++ [c]))) := by
                    show w7.ownsRow _ _ _ _ _ _
                    rw [bytesV_snoc]
                    exact hown7
                  have B7 : Hid (Below w.heap.size w w7) := (hb.out.alloc hb.out.size _).grown hgr7 (by have := hb.out.size; simp; omega) (own_base_le hown.out)
                  clear hown7 hgr7
                  go_wp2_with fail
                  go_roundg (s.size - (i + 1))
                  case measure => omega
                  case rel => exact ⟨i + 1, l ++ [c], by omega, Nat.le_refl _, by go_num, by simp; omega, by have := O7.out; rw [(by simp : (l ++ [c] : List UInt8).length = l.length + 1)]; exact this, Hn.out, B7.out⟩
              · have qi : ((i : Int) == 0) = false := by rw [beq_eq_false_iff_ne]; omega
                have ql : ((i : Int) == (s.size : Int) - 1) = false := by rw [beq_eq_false_iff_ne]; omega
                have hm : marked (decide (i = 0)) c (rest s (i + 1)) = false := by simp only [marked, hsp, hlast]; simp [hi0', hls]
                (try clear hi0'); (try clear h35); (try clear h32); (try clear hls)
                have Hn : Hid (r = (l ++ [c]) ++ wrL (decide (i + 1 = 0)) (rest s (i + 1))) := by
                  show r = _
                  rw [hu.out, Hrt.out]; simp [wrL, h0, hm]
                go_wp2_with (first | (go_at_call 186; refine (hIB _).mono ?_; rintro e w9 ⟨rfl, rfl⟩) | (at_builtin; refine wpList_append_own _ rfl _ _ 88 rfl w.heap.size 5 i0 (.int .u8 0) 1 1 Tryz.underlying88 hi0 hz0 hz1 hz2 rfl (by decide) _ _ _ rfl (hown.out.alloc _) _ 1 1 [.int .u8 (c.toNat : Int)] rfl rfl (cell_one_new _ _ _) (by simp [Value.oneCell']) (by unfold maxLen; omega) (by omega) (by have := hb.out.size; simp; omega) ?_))
                intro v7 w7 hown7 hgr7 _
                have O7 : Hid (w7.ownsRow w.heap.size 5 1 v7 (l.length + 1) (bytesV (l ++ [c]))) := by
                  show w7.ownsRow _ _ _ _ _ _
                  rw [bytesV_snoc]
                  exact hown7
                have B7 : Hid (Below w.heap.size w w7) := (hb.out.alloc hb.out.size _).grown hgr7 (by have := hb.out.size; simp; omega) (own_base_le hown.out)
                clear hown7 hgr7
                go_wp2_with fail
                go_roundg (s.size - (i + 1))
                case measure => omega
                case rel => exact ⟨i + 1, l ++ [c], by omega, Nat.le_refl _, by go_num, by simp; omega, by have := O7.out; rw [(by simp : (l ++ [c] : List UInt8).length = l.length + 1)]; exact this, Hn.out, B7.out⟩
      · have Hn : Hid (r = l) := by
          show r = _
          rw [hu.out, rest_ge (by omega)]
          simp [wrL]
        rcases hown.out.2 with ⟨rfl, h0⟩ | ⟨g, cap, cur, rfl, hgb, hh, hnc, hcm, hsz, htk⟩
        · have ha : l = [] := List.length_eq_zero_iff.1 h0
          subst ha
          have hcn := convert_nil
          go_wp2_with fail
          go_ret
          exact ⟨by rw [Hn.out]; rfl, hb.out⟩
        · clear hgb hh hnc hcm hsz htk
          have Hc := Lib.hid (convert_own hown.out (Nat.le_refl _) cap)
          have hc := Hc.out
          go_wp2_with fail
          go_ret
          exact ⟨by rw [Hn.out]; simp [strV], hb.out⟩
end Sy
end Go.Proofs.YthoealembhkaoaaGreatDoor
