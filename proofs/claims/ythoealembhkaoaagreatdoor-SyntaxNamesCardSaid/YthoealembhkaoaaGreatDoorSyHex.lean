import Derived.Test.YthoealembhkaoaaGreatDoorSyType
import Derived.OwnWalk
import Derived.IntWalk
import Derived.Laws.BytesString
import Derived.Laws.IdiomStrings
namespace Go.Proofs.YthoealembhkaoaaGreatDoor
open Go.RowKit
namespace Sy
set_option linter.unusedVariables false
/-- Bytes, as a row's cells. -/
def bytesV (l : List UInt8) : List Value := l.map fun b => .int .u8 (b.toNat : Int)
theorem bytesV_snoc (l : List UInt8) (b : UInt8) : bytesV (l ++ [b]) = bytesV l ++ [.int .u8 (b.toNat : Int)] := by simp [bytesV]
theorem bytesV_length (l : List UInt8) : (bytesV l).length = l.length := by simp [bytesV]
theorem info5 : (Tryz.prog.info? 5).map (fun i => (i.zero, i.size, i.bytes)) = some (some (.int .u8 0), 1, 1) := by kernel_rfl

/-- A row of bytes, cut to its first m, as a string. -/
theorem convert_own {W : World} {base n : Nat} {g cap m : Nat} {l : List UInt8} (h : W.ownsRow base 5 1 (.slice (some ⟨g, 0, none⟩) n cap) n (bytesV l)) (hm : m ≤ n) (c : Nat) :
    (convert 88 9 (.slice (some ⟨g, 0, none⟩) m c)).run Tryz.prog W = .ok (.string ⟨(l.take m).toArray⟩) W := by
  have hn : l.length = n := by have := h.1; rw [bytesV_length] at this; omega
  have hl : (l.take m).length = m := by simp; omega
  have := run_convert_bytes_back (P := Tryz.prog) W 88 9 5 ⟨g, 0, none⟩ c (l.take m) Tryz.underlying88 Tryz.underlying5 Tryz.underlying9 (fun j hj => ?_)
  · rw [hl] at this; exact this
  · have hjm : j < m := by rw [← hl]; exact hj
    rcases h.2 with ⟨h2, _⟩ | ⟨g', cap', cur, hv, _, hh, hnc, _, hsz, htk⟩
    · cases h2
    · injection hv with h1 h2 h3
      injection h1 with h1
      injection h1 with h1
      subst h1
      have hj2 : j < cur.size := by omega
      have : (cur.toList.take (n * 1))[j]? = some (.int .u8 ((l.take m)[j].toNat : Int)) := by
        rw [htk]; unfold bytesV; rw [List.getElem?_map, List.getElem?_eq_getElem (by omega)]; simp [List.getElem_take]
      rw [show (⟨g, 0, none⟩ : Addr).add j = ⟨g, j, none⟩ by unfold Addr.add; split <;> simp_all]
      simp only [World.cell?, hh]
      rw [List.getElem?_take_of_lt (by omega)] at this
      simpa using this

def unhex : List UInt8 → Option (List UInt8)
  | [] => some []
  | [_] => none
  | a :: b :: l => if digit a.toNat < 0 ∨ digit b.toNat < 0 then none else (unhex l).map (UInt8.ofNat (16 * digit a.toNat + digit b.toNat).toNat :: ·)
theorem digit_lt (c : Int) : -1 ≤ digit c ∧ digit c < 16 := by unfold digit; (repeat' split) <;> omega
set_option maxRecDepth 100000 in
theorem or_digits (a b : Int) (a0 : 0 ≤ a) (a1 : a < 16) (b0 : 0 ≤ b) (b1 : b < 16) : bits .or .i64 (a * 16) b = 16 * a + b := by
  have h : ∀ x y : Fin 16, bits .or .i64 ((x.val : Int) * 16) (y.val : Int) = 16 * (x.val : Int) + (y.val : Int) := by decide
  have := h ⟨a.toNat, by omega⟩ ⟨b.toNat, by omega⟩
  simpa [Int.toNat_of_nonneg a0, Int.toNat_of_nonneg b0] using this

theorem _root_.Go.RowKit.Below.drewN' {B : Nat} {a w : World} (h : Below B a w) (n : Nat) : Below B a (w.drewN n) := ⟨h.os, h.tape, h.output, h.size, h.block⟩
def unhexV : Option (List UInt8) → Value
  | some l => .tuple #[.string ⟨l.toArray⟩, .int .i64 0]
  | none => .tuple #[.string ⟨#[]⟩, .int .i64 11]
theorem unhex_odd : ∀ (l : List UInt8), ¬ l.length % 2 = 0 → unhex l = none
  | [], h => by simp at h
  | [_], _ => rfl
  | a :: b :: l, h => by
    have : ¬ l.length % 2 = 0 := by simp at h; omega
    unfold unhex
    rw [unhex_odd l this]
    split <;> rfl
theorem rest_two {s : ByteArray} {i : Nat} (h : i + 1 < s.size) : rest s i = s[i] :: s[i + 1] :: rest s (i + 2) := by
  rw [rest_lt (by omega), rest_lt h]
/-- A digit's contract as a region that only reads wants it. -/
theorem digit_quiet (c : Int) (w : World) (n : Nat) (h0 : 0 ≤ c) (h1 : c ≤ 255) : Calls Tryz.prog 199 #[.int .u8 c] (w.drewN n) fun e w'' => e = .returned (.int .i64 (digit c)) ∧ ∃ m, w'' = w.drewN m :=
  Calls.quiet_of_same ((digit_calls c (w.drewN n) h0 h1).mono fun _ _ h => ⟨h.1, h.2.symm⟩)
theorem byte_le (b : UInt8) : (b.toNat : Int) ≤ 255 := by have := b.toNat_lt; omega
theorem own_drewN {W : World} {base : Nat} {e : TypeId} {size n : Nat} {v : Value} {xs : List Value} (h : W.ownsRow base e size v n xs) (q : Nat) : (W.drewN q).ownsRow base e size v n xs := h
theorem shl4 (a : Int) (w : World) (a0 : 0 ≤ a) (a1 : a < 16) : wrap64 (a * 16) = a * 16 := by unfold wrap64; omega
set_option maxRecDepth 100000 in
set_option maxHeartbeats 2000000 in
theorem unhex_calls (s : ByteArray) (w : World) (hs : s.size ≤ 140737488351232) :
    Calls Tryz.prog 200 #[.string s] w fun e w' => e = .returned (unhexV (unhex s.data.toList)) ∧ Below w.heap.size w w' := by
  obtain ⟨i0, hi, hz0, hz1, hz2⟩ := info_parts info5
  by_cases hodd : s.size % 2 = 0
  · obtain ⟨r, hr⟩ : ∃ r, unhex s.data.toList = r := ⟨_, rfl⟩
    rw [hr]
    have Hr := Lib.hid hr
    clear hr
    go_enter Tryz.func200, Tryz.ntmps200
    go_wp2_with (at_make; refine wpList_make_own _ rfl _ _ 88 rfl w.heap.size 5 i0 (.int .u8 0) 1 Tryz.underlying88 hi hz0 hz1 _ _ _ (s.size / 2) rfl rfl (by omega) (by rw [hz2]; omega) (by unfold maxLen; omega) (Nat.le_refl _) ?_; intro w1 hown1 hgr1)
    have hb1 : Below w.heap.size w w1 := (Below.refl _ _).grown hgr1 (Nat.le_refl _) (by simp)
    obtain ⟨g, hg⟩ : ∃ g, g = w.heap.size := ⟨_, rfl⟩
    rw [← hg] at hown1
    have Hown1 := Lib.hid hown1
    have Hb1 := Lib.hid hb1
    rw [← hg]
    clear hown1 hb1 hgr1
    have Hg := Lib.hid hg
    clear hg
    go_loopg [4, 5] s.size (fun k v iv wr => ∃ (i j : Nat) (l : List UInt8), i ≤ s.size ∧ s.size - i ≤ k ∧ iv = .int .i64 i ∧ v = .slice (some ⟨g, 0, none⟩) j (s.size / 2) ∧ Hid (i = 2 * j) ∧ Hid (wr.ownsRow g 5 1 (.slice (some ⟨g, 0, none⟩) j (s.size / 2)) j (bytesV l)) ∧ Hid (r = (unhex (rest s i)).map (l ++ ·)) ∧ Hid (Below g w wr))
    case atStart => exact ⟨0, 0, [], Nat.zero_le _, Nat.le_refl _, rfl, rfl, rfl, Hown1.out, by rw [← Hr.out]; simp only [rest, List.drop_zero]; cases unhex s.data.toList <;> exact rfl, by rw [Hg.out]; exact Hb1.out⟩
    case round =>
      obtain ⟨i, j, l, hi', hk, rfl, rfl, hij, hown, hu, hb⟩ := hrel
      by_cases hlt : i < s.size
      · have hlt1 : i + 1 < s.size := by have := hij.out; omega
        have hd0 := digit_lt ((s[i]'hlt).toNat : Int)
        have hd1 := digit_lt ((s[i + 1]'hlt1).toNat : Int)
        have hB0 := byte_le (s[i]'hlt)
        have hB1 := byte_le (s[i + 1]'hlt1)
        have n1 : IntKind.i64.wrap ((i : Int) + 1) = (i : Int) + 1 := IntWalk.i64_in _ (by omega)
        have n2 : (0 : Int) ≤ (i : Int) + 1 := by omega
        have n3 : ((i : Int) + 1).toNat = i + 1 := by omega
        have n4 : (i : Int) + 1 < (s.size : Int) := by omega
        have Hrt := Lib.hid (rest_two hlt1)
        go_wp2_with fail
        go_quiet ((go_at_call 199; exact digit_quiet _ _ _ (Int.natCast_nonneg _) (byte_le _)))
        generalize s[i]'hlt = a at *
        generalize s[i + 1]'hlt1 = b at *
        clear n1 n2 n3 n4
        by_cases hbad : digit (a.toNat : Int) < 0 ∨ digit (b.toNat : Int) < 0
        · have Hn : Hid (r = none) := by
            show r = none
            rw [hu.out, Hrt.out]
            simp [unhex, hbad]
          go_wp2_with fail
          all_goals first
            | (exfalso; omega)
            | (go_ret2; exact ⟨by rw [Hn.out]; rfl, by have := hb.out; rw [Hg.out] at this; exact this.drewN' _⟩)
        · have hd2 : 0 ≤ digit (a.toNat : Int) := by omega
          have hd3 : 0 ≤ digit (b.toNat : Int) := by omega
          have Hs : Hid (r = (unhex (rest s (i + 2))).map ((l ++ [UInt8.ofNat (16 * digit a.toNat + digit b.toNat).toNat]) ++ ·)) := by
            show r = _
            rw [hu.out, Hrt.out]
            simp only [unhex, hbad, if_false, Option.map_map, Function.comp_def, List.append_assoc, List.singleton_append]
          have hor := or_digits _ _ hd2 hd0.2 hd3 hd1.2
          clear hbad
          have hjc : j + 1 ≤ s.size / 2 := by have := hij.out; omega
          go_wp2_with (at_builtin; refine wpList_append_fits _ rfl _ _ 88 rfl g 5 i0 1 Tryz.underlying88 hi hz1 g j (s.size / 2) (bytesV l) rfl ((own_drewN hown.out nq).alloc _) ⟨wr.heap.size, 0, none⟩ 1 1 [.int .u8 (16 * digit (a.toNat : Int) + digit (b.toNat : Int))] rfl rfl ?c1 ?c2 hjc ?_)
          case c1 => exact cell_one_new _ _ _
          case c2 => simp [Value.oneCell']
          intro w2 hown2 hgr2
          have hv : (16 * digit (a.toNat : Int) + digit (b.toNat : Int)) = ((UInt8.ofNat (16 * digit a.toNat + digit b.toNat).toNat).toNat : Int) := by simp; omega
          have Hown2 := Lib.hid hown2
          rw [hv, ← bytesV_snoc] at Hown2
          clear hown2 hv
          have Hb2 := Lib.hid ((((hb.out.drewN' nq).alloc (by have := (hown.out.lt g rfl).2; simp; omega) _).grown hgr2 (by have := (hown.out.lt g rfl).2; simp; omega) (fun k hk => by simp at hk; omega)))
          clear hgr2
          go_wp2_with fail
          go_roundg (s.size - (i + 2))
          case measure => omega
          case rel => exact ⟨i + 2, j + 1, _, by omega, Nat.le_refl _, by go_num, rfl, by have := hij.out; exact (by omega : i + 2 = 2 * (j + 1)), Hown2.out, Hs.out, Hb2.out⟩
      · have Hc := Lib.hid (convert_own hown.out (Nat.le_refl _) (s.size / 2))
        have hc := Hc.out
        go_wp2_with fail
        go_ret2
        refine ⟨?_, by have := hb.out; rw [Hg.out] at this; exact this⟩
        have hn : l.length = j := by have := hown.out.1; rw [bytesV_length] at this; omega
        rw [hu.out, rest_ge (by omega)]
        simp [unhex, unhexV, ← hn]
  · have Hu := Lib.hid (unhex_odd s.data.toList (by simpa using hodd))
    rw [Hu.out]
    go_enter Tryz.func200, Tryz.ntmps200
    go_wp2_with fail
    go_ret2
    exact ⟨rfl, Below.refl _ _⟩
end Sy
end Go.Proofs.YthoealembhkaoaaGreatDoor
