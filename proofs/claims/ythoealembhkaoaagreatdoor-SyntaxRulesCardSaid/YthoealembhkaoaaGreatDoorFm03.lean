import Derived.Test.YthoealembhkaoaaGreatDoorFm02
import Derived.OwnWalk
import Derived.IntWalk
import Derived.Laws.BytesString
import Derived.Laws.IdiomStrings
import Derived.Test.YthoealembhkaoaaGreatDoorFm01
namespace Go.Proofs.YthoealembhkaoaaGreatDoor
open Go.RowKit
namespace Sy
set_option linter.unusedVariables false
/-- Bytes, as a row's cells. -/
def bytesV (l : List UInt8) : List Value := l.map fun b => .int .u8 (b.toNat : Int)
theorem bytesV_snoc (l : List UInt8) (b : UInt8) : bytesV (l ++ [b]) = bytesV l ++ [.int .u8 (b.toNat : Int)] := by simp [bytesV]
theorem bytesV_length (l : List UInt8) : (bytesV l).length = l.length := by simp [bytesV]
theorem info5 : (Tryz.prog.info? 5).map (fun i => (i.zero, i.size, i.bytes)) = some (some (.int .u8 0), 1, 1) := by kernel_rfl

/-- A row of bytes, cut to its first m, as a string. -/
theorem convert_own {W : World} {base n : Nat} {g cap m : Nat} {l : List UInt8} (h : W.ownsRow base 5 1 (.slice (some ⟨g, 0, none⟩) n cap) n (bytesV l)) (hm : m ≤ n) (c : Nat) :
    (convert 88 9 (.slice (some ⟨g, 0, none⟩) m c)).run Tryz.prog W = .ok (.string ⟨(l.take m).toArray⟩) W := by
  have hn : l.length = n := by have := h.1; rw [bytesV_length] at this; omega
  have hl : (l.take m).length = m := by simp; omega
  have := run_convert_bytes_back (P := Tryz.prog) W 88 9 5 ⟨g, 0, none⟩ c (l.take m) Tryz.underlying88 Tryz.underlying5 Tryz.underlying9 (fun j hj => ?_)
  · rw [hl] at this; exact this
  · have hjm : j < m := by rw [← hl]; exact hj
    rcases h.2 with ⟨h2, _⟩ | ⟨g', cap', cur, hv, _, hh, hnc, _, hsz, htk⟩
    · cases h2
    · injection hv with h1 h2 h3
      injection h1 with h1
      injection h1 with h1
      subst h1
      have hj2 : j < cur.size := by omega
      have : (cur.toList.take (n * 1))[j]? = some (.int .u8 ((l.take m)[j].toNat : Int)) := by
        rw [htk]; unfold bytesV; rw [List.getElem?_map, List.getElem?_eq_getElem (by omega)]; simp [List.getElem_take]
      rw [show (⟨g, 0, none⟩ : Addr).add j = ⟨g, j, none⟩ by unfold Addr.add; split <;> simp_all]
      simp only [World.cell?, hh]
      rw [List.getElem?_take_of_lt (by omega)] at this
      simpa using this

def unhex : List UInt8 → Option (List UInt8)
  | [] => some []
  | [_] => none
  | a :: b :: l => if digit a.toNat < 0 ∨ digit b.toNat < 0 then none else (unhex l).map (UInt8.ofNat (16 * digit a.toNat + digit b.toNat).toNat :: ·)
theorem digit_lt (c : Int) : -1 ≤ digit c ∧ digit c < 16 := by unfold digit; (repeat' split) <;> omega
set_option maxRecDepth 100000 in
theorem or_digits (a b : Int) (a0 : 0 ≤ a) (a1 : a < 16) (b0 : 0 ≤ b) (b1 : b < 16) : bits .or .i64 (a * 16) b = 16 * a + b := by
  have h : ∀ x y : Fin 16, bits .or .i64 ((x.val : Int) * 16) (y.val : Int) = 16 * (x.val : Int) + (y.val : Int) := by decide
  have := h ⟨a.toNat, by omega⟩ ⟨b.toNat, by omega⟩
  simpa [Int.toNat_of_nonneg a0, Int.toNat_of_nonneg b0] using this

theorem _root_.Go.RowKit.Below.drewN' {B : Nat} {a w : World} (h : Below B a w) (n : Nat) : Below B a (w.drewN n) := ⟨h.os, h.tape, h.output, h.size, h.block⟩
def unhexV : Option (List UInt8) → Value
  | some l => .tuple #[.string ⟨l.toArray⟩, .int .i64 0]
  | none => .tuple #[.string ⟨#[]⟩, .int .i64 11]
theorem unhex_odd : ∀ (l : List UInt8), ¬ l.length % 2 = 0 → unhex l = none
  | [], h => by simp at h
  | [_], _ => rfl
  | a :: b :: l, h => by
    have : ¬ l.length % 2 = 0 := by simp at h; omega
    unfold unhex
    rw [unhex_odd l this]
    split <;> rfl
theorem rest_two {s : ByteArray} {i : Nat} (h : i + 1 < s.size) : rest s i = s[i] :: s[i + 1] :: rest s (i + 2) := by
  rw [rest_lt (by omega), rest_lt h]
/-- A digit's contract as a region that only reads wants it. -/
theorem digit_quiet (c : Int) (w : World) (n : Nat) (h0 : 0 ≤ c) (h1 : c ≤ 255) : Calls Tryz.prog 199 #[.int .u8 c] (w.drewN n) fun e w'' => e = .returned (.int .i64 (digit c)) ∧ ∃ m, w'' = w.drewN m :=
  Calls.quiet_of_same ((digit_calls c (w.drewN n) h0 h1).mono fun _ _ h => ⟨h.1, h.2.symm⟩)
theorem byte_le (b : UInt8) : (b.toNat : Int) ≤ 255 := by have := b.toNat_lt; omega
theorem own_drewN {W : World} {base : Nat} {e : TypeId} {size n : Nat} {v : Value} {xs : List Value} (h : W.ownsRow base e size v n xs) (q : Nat) : (W.drewN q).ownsRow base e size v n xs := h
theorem shl4 (a : Int) (w : World) (a0 : 0 ≤ a) (a1 : a < 16) : wrap64 (a * 16) = a * 16 := by unfold wrap64; omega
set_option maxRecDepth 100000 in
set_option maxHeartbeats 2000000 in
theorem unhex_calls (s : ByteArray) (w : World) (hs : s.size ≤ 140737488351232) :
    Calls Tryz.prog 200 #[.string s] w fun e w' => e = .returned (unhexV (unhex s.data.toList)) ∧ Below w.heap.size w w' := by
  obtain ⟨i0, hi, hz0, hz1, hz2⟩ := info_parts info5
  by_cases hodd : s.size % 2 = 0
  · obtain ⟨r, hr⟩ : ∃ r, unhex s.data.toList = r := ⟨_, rfl⟩
    rw [hr]
    have Hr := Lib.hid hr
    clear hr
    go_enter Tryz.func200, Tryz.ntmps200
    go_wp2_with (at_make; refine wpList_make_own _ rfl _ _ 88 rfl w.heap.size 5 i0 (.int .u8 0) 1 Tryz.underlying88 hi hz0 hz1 _ _ _ (s.size / 2) rfl rfl (by omega) (by rw [hz2]; omega) (by unfold maxLen; omega) (Nat.le_refl _) ?_; intro w1 hown1 hgr1)
    have hb1 : Below w.heap.size w w1 := (Below.refl _ _).grown hgr1 (Nat.le_refl _) (by simp)
    obtain ⟨g, hg⟩ : ∃ g, g = w.heap.size := ⟨_, rfl⟩
    rw [← hg] at hown1
    have Hown1 := Lib.hid hown1
    have Hb1 := Lib.hid hb1
    rw [← hg]
    clear hown1 hb1 hgr1
    have Hg := Lib.hid hg
    clear hg
    go_loopg [4, 5] s.size (fun k v iv wr => ∃ (i j : Nat) (l : List UInt8), i ≤ s.size ∧ s.size - i ≤ k ∧ iv = .int .i64 i ∧ v = .slice (some ⟨g, 0, none⟩) j (s.size / 2) ∧ Hid (i = 2 * j) ∧ Hid (wr.ownsRow g 5 1 (.slice (some ⟨g, 0, none⟩) j (s.size / 2)) j (bytesV l)) ∧ Hid (r = (unhex (rest s i)).map (l ++ ·)) ∧ Hid (Below g w wr))
    case atStart => exact ⟨0, 0, [], Nat.zero_le _, Nat.le_refl _, rfl, rfl, rfl, Hown1.out, by rw [← Hr.out]; simp only [rest, List.drop_zero]; cases unhex s.data.toList <;> exact rfl, by rw [Hg.out]; exact Hb1.out⟩
    case round =>
      obtain ⟨i, j, l, hi', hk, rfl, rfl, hij, hown, hu, hb⟩ := hrel
      by_cases hlt : i < s.size
      · have hlt1 : i + 1 < s.size := by have := hij.out; omega
        have hd0 := digit_lt ((s[i]'hlt).toNat : Int)
        have hd1 := digit_lt ((s[i + 1]'hlt1).toNat : Int)
        have hB0 := byte_le (s[i]'hlt)
        have hB1 := byte_le (s[i + 1]'hlt1)
        have n1 : IntKind.i64.wrap ((i : Int) + 1) = (i : Int) + 1 := IntWalk.i64_in _ (by omega)
        have n2 : (0 : Int) ≤ (i : Int) + 1 := by omega
        have n3 : ((i : Int) + 1).toNat = i + 1 := by omega
        have n4 : (i : Int) + 1 < (s.size : Int) := by omega
        have Hrt := Lib.hid (rest_two hlt1)
        go_wp2_with fail
        go_quiet ((go_at_call 199; exact digit_quiet _ _ _ (Int.natCast_nonneg _) (byte_le _)))
        generalize s[i]'hlt = a at *
        generalize s[i + 1]'hlt1 = b at *
        clear n1 n2 n3 n4
        by_cases hbad : digit (a.toNat : Int) < 0 ∨ digit (b.toNat : Int) < 0
        · have Hn : Hid (r = none) := by
            show r = none
            rw [hu.out, Hrt.out]
            simp [unhex, hbad]
          go_wp2_with fail
          all_goals first
            | (exfalso; omega)
            | (go_ret2; exact ⟨by rw [Hn.out]; rfl, by have := hb.out; rw [Hg.out] at this; exact this.drewN' _⟩)
        · have hd2 : 0 ≤ digit (a.toNat : Int) := by omega
          have hd3 : 0 ≤ digit (b.toNat : Int) := by omega
          have Hs : Hid (r = (unhex (rest s (i + 2))).map ((l ++ [UInt8.ofNat (16 * digit a.toNat + digit b.toNat).toNat]) ++ ·)) := by
            show r = _
            rw [hu.out, Hrt.out]
            simp only [unhex, hbad, if_false, Option.map_map, Function.comp_def, List.append_assoc, List.singleton_append]
          have hor := or_digits _ _ hd2 hd0.2 hd3 hd1.2
          clear hbad
          have hjc : j + 1 ≤ s.size / 2 := by have := hij.out; omega
          go_wp2_with (at_builtin; refine wpList_append_fits _ rfl _ _ 88 rfl g 5 i0 1 Tryz.underlying88 hi hz1 g j (s.size / 2) (bytesV l) rfl ((own_drewN hown.out nq).alloc _) ⟨wr.heap.size, 0, none⟩ 1 1 [.int .u8 (16 * digit (a.toNat : Int) + digit (b.toNat : Int))] rfl rfl ?c1 ?c2 hjc ?_)
          case c1 => exact cell_one_new _ _ _
          case c2 => simp [Value.oneCell']
          intro w2 hown2 hgr2
          have hv : (16 * digit (a.toNat : Int) + digit (b.toNat : Int)) = ((UInt8.ofNat (16 * digit a.toNat + digit b.toNat).toNat).toNat : Int) := by simp; omega
          have Hown2 := Lib.hid hown2
          rw [hv, ← bytesV_snoc] at Hown2
          clear hown2 hv
          have Hb2 := Lib.hid ((((hb.out.drewN' nq).alloc (by have := (hown.out.lt g rfl).2; simp; omega) _).grown hgr2 (by have := (hown.out.lt g rfl).2; simp; omega) (fun k hk => by simp at hk; omega)))
          clear hgr2
          go_wp2_with fail
          go_roundg (s.size - (i + 2))
          case measure => omega
          case rel => exact ⟨i + 2, j + 1, _, by omega, Nat.le_refl _, by go_num, rfl, by have := hij.out; exact (by omega : i + 2 = 2 * (j + 1)), Hown2.out, Hs.out, Hb2.out⟩
      · have Hc := Lib.hid (convert_own hown.out (Nat.le_refl _) (s.size / 2))
        have hc := Hc.out
        go_wp2_with fail
        go_ret2
        refine ⟨?_, by have := hb.out; rw [Hg.out] at this; exact this⟩
        have hn : l.length = j := by have := hown.out.1; rw [bytesV_length] at this; omega
        rw [hu.out, rest_ge (by omega)]
        simp [unhex, unhexV, ← hn]
  · have Hu := Lib.hid (unhex_odd s.data.toList (by simpa using hodd))
    rw [Hu.out]
    go_enter Tryz.func200, Tryz.ntmps200
    go_wp2_with fail
    go_ret2
    exact ⟨rfl, Below.refl _ _⟩
end Sy
end Go.Proofs.YthoealembhkaoaaGreatDoor
namespace Go.Proofs.YthoealembhkaoaaGreatDoor
open Go.RowKit
namespace Sy
set_option linter.unusedVariables false
/-- The reader gives up. -/
def gaveUp (n : Int) : Ending := .panicked [{ v := .iface 23 (.int .i64 n), recovered := false }]
/-- What a part of the reader comes to: a value and what is left, or it gives up. -/
def Reads {α : Type} (B : Nat) (s : ByteArray) (enc : α → Value) (r : Option (α × List UInt8)) (w : World) (e : Ending) (w' : World) : Prop :=
  match r with
  | some (v, l) => e = .returned (enc v) ∧ Moved B s l w w'
  | none => e = gaveUp 30 ∧ Gr B w w'
def strV (l : List UInt8) : Value := .string ⟨l.toArray⟩

def inTypeB (b : UInt8) : Bool := inType (b.toNat : Int)
def typR (l : List UInt8) : Option (List UInt8 × List UInt8) := if isType (l.takeWhile inTypeB) then some (l.takeWhile inTypeB, l.dropWhile inTypeB) else none

theorem Env.gr {w w' : World} {B : Nat} (h : Env w) (hB : 3 ≤ B) (hg : Gr B w w') : Env w' := h.of fun k hk => hg.block k (by have := h.three; omega) (by intro e; injection e with e; omega)
theorem Rd.below {w w' : World} {B : Nat} {s : ByteArray} {i : Nat} (h : Rd w B s i) (hb : Below w.heap.size w w') : Rd w' B s i := ⟨(hb.block B h.lt).trans h.heap⟩
theorem Gr.of_below {w w' : World} (B : Nat) (h : Below w.heap.size w w') : Gr B w w' := ⟨h.os, h.tape, h.output, h.size, fun k hk _ => h.block k hk⟩

/-- A region whose operations only read, up to the last ones, which stand in one order. -/
theorem region_tail {P : Program} {id : Nat} {Q : Exit → Act → World → Prop} {a : Act} {w : World} {l : List Oper} (n : Nat) (hm : P.follows .mixedOrders = true) (hB : Region.lexTailB .any l.toArray n = true)
    (h : wpStill P l.toArray w.drew (fun a' => wpList P l.toArray Q (l.drop n) a' w.drew) (l.take n) a) : (Code.region id l.toArray true).wp P Q a w :=
  wp_region_still_tail n hm hB h
theorem drew_eq (w : World) : w.drew = w.drewN 1 := rfl
theorem clone_calls (s : ByteArray) (w : World) (hs : s.size ≤ 140737488351232) :
    Calls Tryz.prog 187 #[.string s] w fun e w' => e = .returned (.string s) ∧ Below w.heap.size w w' := by
  have hc := Tryz.stringslite_Clone s w (by omega)
  go_enter Tryz.func187, Tryz.ntmps187
  go_wp2_with (go_at_call 198; refine hc.mono ?_; rintro e w1 ⟨rfl, hb⟩)
  go_ret
  exact ⟨rfl, hb⟩

theorem extract_snoc {s : ByteArray} {i j : Nat} (hij : i ≤ j) (h : j < s.size) : (s.extract i (j + 1)).data.toList = (s.extract i j).data.toList ++ [s[j]] := by
  rw [Lib.extract_data, Lib.extract_data, show j + 1 - i = (j - i) + 1 by omega, List.take_succ_eq_append_getElem (by simp; omega)]
  congr 2
  rw [List.getElem_drop]
  have e : i + (j - i) = j := by omega
  simp only [e]
  rfl
theorem inType_quiet (c : Int) (w : World) (n : Nat) : Calls Tryz.prog 69 #[.int .u8 c] (w.drewN n) fun e w'' => e = .returned (.bool (inType c)) ∧ ∃ m, w'' = w.drewN m :=
  Calls.quiet_of_same ((inType_calls c (w.drewN n)).mono fun _ _ h => ⟨h.1, h.2.symm⟩)

theorem reads_some {α : Type} {B : Nat} {s : ByteArray} {enc : α → Value} {r : Option (α × List UInt8)} {v : α} {l : List UInt8} {w w' : World} (hr : r = some (v, l)) (h : Moved B s l w w') : Reads B s enc r w (.returned (enc v)) w' := by
  rw [hr]; exact ⟨rfl, h⟩
theorem reads_none {α : Type} {B : Nat} {s : ByteArray} {enc : α → Value} {r : Option (α × List UInt8)} {w w' : World} (hr : r = none) (h : Gr B w w') : Reads B s enc r w (gaveUp 30) w' := by
  rw [hr]; exact ⟨rfl, h⟩
theorem strV_bytes (s : ByteArray) : Value.string s = strV s.data.toList := rfl

set_option maxRecDepth 100000 in
set_option maxHeartbeats 2000000 in
theorem typ_calls (w : World) (B : Nat) (s : ByteArray) (i : Nat) (hr : Rd w B s i) (hi : i ≤ s.size) (hs : s.size < 4294967281) (he : Env w) (hB : 3 ≤ B) :
    Calls Tryz.prog 173 #[.pointer (some ⟨B, 0, none⟩)] w (Reads B s strV (typR (rest s i)) w) := by
  have hR := Lib.hid hr
  have hE := Lib.hid he
  have h1 := hr.c1
  clear hr he
  obtain ⟨r, hr⟩ : ∃ r, typR (rest s i) = r := ⟨_, rfl⟩
  rw [hr]
  have Hr := Lib.hid hr
  clear hr
  go_enter Tryz.func173, Tryz.ntmps173
  go_wp2
  clear h1
  go_loopg [] (s.size - i) (fun k wr => ∃ j : Nat, i ≤ j ∧ j ≤ s.size ∧ s.size - j ≤ k ∧ Hid ((rest s i).takeWhile inTypeB = (s.extract i j).data.toList ++ (rest s j).takeWhile inTypeB) ∧ Hid ((rest s i).dropWhile inTypeB = (rest s j).dropWhile inTypeB) ∧ Hid (Rd wr B s j) ∧ Hid (Gr B w wr))
  case atStart => exact ⟨i, Nat.le_refl _, hi, Nat.le_refl _, by show _ = _; simp, rfl, hR, Gr.refl _ _⟩
  case round =>
    obtain ⟨j, hij, hj, hk, ht, hd, hRj, hG⟩ := hrel
    have c0 := hRj.out.c0
    have c1 := hRj.out.c1
    have f1 := hRj.out.f1
    by_cases hgo : ∃ hlt : j < s.size, inType ((s[j]'hlt).toNat : Int) = true
    · obtain ⟨hlt, hty⟩ := hgo
      have q1 : ((j : Int) == (s.size : Int)) = false := by rw [beq_eq_false_iff_ne]; omega
      have Hrl := Lib.hid (rest_lt hlt)
      have Hx := Lib.hid (extract_snoc hij hlt)
      go_wp2_with fail
      go_quiet ((first | (go_at_call 112; exact Calls.quiet_of (ended_calls _ _ _ _ (hRj.out.drewN _))) | (go_at_call 69; exact inType_quiet _ _ _)))
      go_wp2_with fail
      all_goals first
        | exact absurd (by assumption : inType ((s[j]'hlt).toNat : Int) = false) (by rw [hty]; exact Bool.noConfusion)
        | skip
      go_roundg (s.size - (j + 1))
      case measure => omega
      case rel =>
        refine ⟨j + 1, by omega, by omega, Nat.le_refl _, ?_, ?_, (hRj.out.drewN _).setCell (j + 1), (hG.out.drewN _).setCell _ _⟩
        · show _ = _
          rw [ht.out, Hrl.out, Hx.out, List.takeWhile_cons_of_pos (by exact hty)]; simp
        · show _ = _
          rw [hd.out, Hrl.out, List.dropWhile_cons_of_pos (by exact hty)]
    · have Hend : Hid (r = if isType (s.extract i j).data.toList then some ((s.extract i j).data.toList, rest s j) else none) := by
        show r = _
        rw [← Hr.out]; unfold typR
        rw [ht.out, hd.out]
        by_cases hlt : j < s.size
        · have hty : ¬ inType ((s[j]'hlt).toNat : Int) = true := fun h => hgo ⟨hlt, h⟩
          rw [rest_lt hlt, List.takeWhile_cons_of_neg (by exact hty), List.dropWhile_cons_of_neg (by exact hty)]; simp
        · rw [rest_ge (by omega)]; simp
      have hxs : (s.extract i j).size ≤ s.size := by simp [ByteArray.size_extract]; omega
      obtain ⟨b, hbT⟩ : ∃ b, isType (s.extract i j).data.toList = b := ⟨_, rfl⟩
      have Hq : Hid (∀ x : ByteArray, x = s.extract i j → ∀ W, Gr B w W → Calls Tryz.prog 38 #[.string x] W fun e w' => e = .returned (.bool b) ∧ Below W.heap.size W w') := by
        intro x hx W hW
        rw [← hbT, ← hx]
        exact isType_calls x W (by rw [hx]; omega) (hE.out.gr hB hW)
      have Hq2 : Hid (∀ x : ByteArray, x = s.extract i j → ∀ W, Calls Tryz.prog 187 #[.string x] W fun e w' => e = .returned (.string x) ∧ Below W.heap.size W w') := by
        intro x hx W
        exact clone_calls x W (by rw [hx]; omega)
      rw [hbT] at Hend
      clear hxs hbT
      have hx1 : ∀ hlt : j < s.size, inType ((s[j]'hlt).toNat : Int) = false := fun hlt => by
        cases h : inType ((s[j]'hlt).toNat : Int) with
        | false => rfl
        | true => exact absurd ⟨hlt, h⟩ hgo
      have Hx1 := Lib.hid hx1
      clear hgo hx1
      cases b with
      | false =>
        have Hend' : Hid (r = none) := by show r = _; rw [Hend.out]; rfl
        rcases Nat.lt_or_ge j s.size with hlt | hlt
        · have hty' := Hx1.out hlt
          have q1 : ((j : Int) == (s.size : Int)) = false := by rw [beq_eq_false_iff_ne]; omega
          go_wp2_with fail
          go_quiet ((first | (go_at_call 112; exact Calls.quiet_of (ended_calls _ _ _ _ (hRj.out.drewN _))) | (go_at_call 69; exact inType_quiet _ _ _)))
          go_wp2_with fail
          all_goals first
            | exact absurd (by assumption : inType ((s[j]'hlt).toNat : Int) = true) (by rw [hty']; exact Bool.noConfusion)
            | skip
          refine region_tail 10 (by kernel_rfl) (by kernel_rfl) ?_
          simp only [List.take_succ_cons, List.take_zero, List.drop_succ_cons, List.drop_zero]
          repeat still_step
          refine wpStill_nil ?_
          go_wp2_with fail
          refine (Hq.out _ rfl _ (((hG.out.drewN _).drewN 1))).mono ?_
          rintro e w2 ⟨rfl, hb2⟩
          go_wp2
          exact ⟨rfl, reads_none Hend'.out (((hG.out.drewN nq).drewN 1).trans (Gr.of_below B hb2))⟩
        · have q1 : ((j : Int) == (s.size : Int)) = true := by rw [beq_iff_eq]; omega
          go_wp2_with fail
          go_quiet ((first | (go_at_call 112; exact Calls.quiet_of (ended_calls _ _ _ _ (hRj.out.drewN _))) | (go_at_call 69; exact inType_quiet _ _ _)))
          go_wp2_with fail
          refine region_tail 10 (by kernel_rfl) (by kernel_rfl) ?_
          simp only [List.take_succ_cons, List.take_zero, List.drop_succ_cons, List.drop_zero]
          repeat still_step
          refine wpStill_nil ?_
          go_wp2_with fail
          refine (Hq.out _ rfl _ (((hG.out.drewN _).drewN 1))).mono ?_
          rintro e w2 ⟨rfl, hb2⟩
          go_wp2
          exact ⟨rfl, reads_none Hend'.out (((hG.out.drewN nq).drewN 1).trans (Gr.of_below B hb2))⟩
      | true =>
        have Hend' : Hid (r = some ((s.extract i j).data.toList, rest s j)) := by show r = _; rw [Hend.out]; rfl
        rcases Nat.lt_or_ge j s.size with hlt | hlt
        · have hty' := Hx1.out hlt
          have q1 : ((j : Int) == (s.size : Int)) = false := by rw [beq_eq_false_iff_ne]; omega
          go_wp2_with fail
          go_quiet ((first | (go_at_call 112; exact Calls.quiet_of (ended_calls _ _ _ _ (hRj.out.drewN _))) | (go_at_call 69; exact inType_quiet _ _ _)))
          go_wp2_with fail
          all_goals first
            | exact absurd (by assumption : inType ((s[j]'hlt).toNat : Int) = true) (by rw [hty']; exact Bool.noConfusion)
            | skip
          refine region_tail 10 (by kernel_rfl) (by kernel_rfl) ?_
          simp only [List.take_succ_cons, List.take_zero, List.drop_succ_cons, List.drop_zero]
          repeat still_step
          refine wpStill_nil ?_
          go_wp2_with fail
          refine (Hq.out _ rfl _ (((hG.out.drewN _).drewN 1))).mono ?_
          rintro e w2 ⟨rfl, hb2⟩
          have Hb2 := Lib.hid hb2
          have Rd2 : Hid (Rd w2 B s j) := ((hRj.out.drewN nq).drewN 1).below hb2
          have d0 := Rd2.out.c0
          have d1 := Rd2.out.c1
          clear hb2
          go_wp2_with fail
          refine region_tail 10 (by kernel_rfl) (by kernel_rfl) ?_
          simp only [List.take_succ_cons, List.take_zero, List.drop_succ_cons, List.drop_zero]
          repeat still_step
          refine wpStill_nil ?_
          go_wp2_with fail
          refine (Hq2.out _ rfl _).mono ?_
          rintro e w3 ⟨rfl, hb3⟩
          go_wp2_with fail
          go_ret
          exact reads_some (enc := strV) Hend'.out ⟨j, hj, rfl, (Rd2.out.drewN 1).below hb3, (((hG.out.drewN nq).drewN 1).trans (Gr.of_below B Hb2.out)).trans ((Gr.refl B w2).drewN 1 |>.trans (Gr.of_below B hb3))⟩
        · have q1 : ((j : Int) == (s.size : Int)) = true := by rw [beq_iff_eq]; omega
          go_wp2_with fail
          go_quiet ((first | (go_at_call 112; exact Calls.quiet_of (ended_calls _ _ _ _ (hRj.out.drewN _))) | (go_at_call 69; exact inType_quiet _ _ _)))
          go_wp2_with fail
          refine region_tail 10 (by kernel_rfl) (by kernel_rfl) ?_
          simp only [List.take_succ_cons, List.take_zero, List.drop_succ_cons, List.drop_zero]
          repeat still_step
          refine wpStill_nil ?_
          go_wp2_with fail
          refine (Hq.out _ rfl _ (((hG.out.drewN _).drewN 1))).mono ?_
          rintro e w2 ⟨rfl, hb2⟩
          have Hb2 := Lib.hid hb2
          have Rd2 : Hid (Rd w2 B s j) := ((hRj.out.drewN nq).drewN 1).below hb2
          have d0 := Rd2.out.c0
          have d1 := Rd2.out.c1
          clear hb2
          go_wp2_with fail
          refine region_tail 10 (by kernel_rfl) (by kernel_rfl) ?_
          simp only [List.take_succ_cons, List.take_zero, List.drop_succ_cons, List.drop_zero]
          repeat still_step
          refine wpStill_nil ?_
          go_wp2_with fail
          refine (Hq2.out _ rfl _).mono ?_
          rintro e w3 ⟨rfl, hb3⟩
          go_wp2_with fail
          go_ret
          exact reads_some (enc := strV) Hend'.out ⟨j, hj, rfl, (Rd2.out.drewN 1).below hb3, (((hG.out.drewN nq).drewN 1).trans (Gr.of_below B Hb2.out)).trans ((Gr.refl B w2).drewN 1 |>.trans (Gr.of_below B hb3))⟩
end Sy
end Go.Proofs.YthoealembhkaoaaGreatDoor
namespace Go.Proofs.YthoealembhkaoaaGreatDoor
open Go.RowKit
namespace Sy
set_option linter.unusedVariables false

/-- The world with some blocks behind it, some orders having been drawn. -/
def grw (w : World) (d : Nat) (os : Array Obj) : World := { w with heap := w.heap ++ os, drawn := d }
structure GrwBy where
  d : Nat
  os : Array Obj
instance : Inhabited GrwBy := ⟨⟨0, #[]⟩⟩
theorem grw_of_below {w w' : World} (h : Below w.heap.size w w') : ∃ p : GrwBy, w' = grw w p.d p.os := by
  refine ⟨⟨w'.drawn, w'.heap.extract w.heap.size w'.heap.size⟩, ?_⟩
  have hh : w'.heap = w.heap ++ w'.heap.extract w.heap.size w'.heap.size := by
    apply Array.ext_getElem?
    intro i
    rw [Array.getElem?_append]
    split
    · rename_i hi; exact h.block i hi
    · rename_i hi
      have := h.size
      rw [Array.getElem?_extract]
      split
      · rename_i hj; congr 1; omega
      · rename_i hj; rw [Array.getElem?_eq_none (by omega)]
  obtain ⟨heap, tape, drawn, os, out⟩ := w'
  have h1 := h.os
  have h2 := h.tape
  have h3 := h.output
  simp only at h1 h2 h3 hh
  subst h1 h2 h3
  simp only [grw]
  rw [← hh]
theorem grw_below (w : World) (d : Nat) (os : Array Obj) : Below w.heap.size w (grw w d os) :=
  ⟨rfl, rfl, rfl, by simp [grw], fun k hk => by simp [grw, Array.getElem?_append_left hk]⟩
theorem grw_cell {w : World} {a : Addr} {v : Value} (h : w.cell? a = some v) (d : Nat) (os : Array Obj) : (grw w d os).cell? a = some v :=
  ((grw_below w d os).cell (World.block_lt_of_cell? w a h)).trans h
theorem grw_size (w : World) (d : Nat) (os : Array Obj) : w.heap.size ≤ (grw w d os).heap.size := by simp [grw]

/-- A callee that makes memory and turns nothing, met in a world of the class. -/
theorem quiet_below {P : Program} {f : FuncId} {args : Array Value} {w : World} {d : Nat} {os : Array Obj} {v : Value}
    (h : Calls P f args (grw w d os) fun e w' => e = .returned v ∧ Below (grw w d os).heap.size (grw w d os) w') :
    Calls P f args (grw w d os) fun e w'' => e = .returned v ∧ ∃ p : GrwBy, w'' = grw w p.d p.os :=
  h.mono fun e w' ⟨he, hb⟩ => ⟨he, grw_of_below ((grw_below w d os).trans (hb.mono (grw_size w d os)))⟩
theorem quiet_drewN {P : Program} {f : FuncId} {args : Array Value} {w : World} {d : Nat} {os : Array Obj} {v : Value}
    (h : Calls P f args (grw w d os) fun e w' => e = .returned v ∧ ∃ n, w' = (grw w d os).drewN n) :
    Calls P f args (grw w d os) fun e w'' => e = .returned v ∧ ∃ p : GrwBy, w'' = grw w p.d p.os :=
  quiet_below (h.mono fun e w' ⟨he, n, hn⟩ => ⟨he, by rw [hn]; exact ⟨rfl, rfl, rfl, Nat.le_refl _, fun _ _ => rfl⟩⟩)
theorem quiet_same {P : Program} {f : FuncId} {args : Array Value} {w : World} {d : Nat} {os : Array Obj} {v : Value}
    (h : Calls P f args (grw w d os) fun e w' => e = .returned v ∧ grw w d os = w') :
    Calls P f args (grw w d os) fun e w'' => e = .returned v ∧ ∃ p : GrwBy, w'' = grw w p.d p.os :=
  h.mono fun e w' ⟨he, hb⟩ => ⟨he, ⟨d, os⟩, hb.symm⟩

theorem region_below {P : Program} {id : Nat} {Q : Exit → Act → World → Prop} {a : Act} {w : World} {l : List Oper} (hm : P.follows .mixedOrders = true) (hB : Region.lexB .any l.toArray = true)
    (h : wpQuiet P l.toArray (fun w' => ∃ p : GrwBy, w' = grw w p.d p.os) (fun a' => ∀ w', (∃ p : GrwBy, w' = grw w p.d p.os) → Q .normal a' w') l a) : (Code.region id l.toArray true).wp P Q a w :=
  wp_region_quiet (C := fun w' => ∃ p : GrwBy, w' = grw w p.d p.os) hm hB ⟨⟨w.drawn + 1, #[]⟩, by simp [grw]⟩ (by simpa using h)
end Sy
end Go.Proofs.YthoealembhkaoaaGreatDoor
